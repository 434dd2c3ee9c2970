/- mend.Apply -/
import Derived.Test.YtgflhpfeghplpaaGreatDoorSame
set_option maxRecDepth 100000
set_option linter.unusedSimpArgs false
set_option linter.unusedVariables false
namespace Go.Proofs.YtgflhpfeghplpaaGreatDoor
open Go.RowKit
def mendA (ws : List Int) : List Ed → List Int → Nat → Option (List Int)
  | [], out, n => some (out ++ ws.drop n)
  | e :: r, out, n =>
    if e.at_ < n ∨ e.at_ > ws.length then none else
    if e.out = true then (if e.at_ = ws.length ∨ ws[e.at_.toNat]? ≠ some e.term then none else mendA ws r (out ++ (ws.drop n).take (e.at_.toNat - n)) (e.at_.toNat + 1))
    else mendA ws r (out ++ (ws.drop n).take (e.at_.toNat - n) ++ [e.term]) e.at_.toNat
theorem Nw.own {w wr w1 : World} {v : Value} (h : Nw w wr) (k : Ch (fun k => v.ownBlock = some k) wr w1) (hB : ∀ j, v.ownBlock = some j → w.heap.size ≤ j) : Nw w w1 :=
  h.trans k (fun j hj hs => absurd (hB j hs) (by omega))
theorem own_next {w W : World} {v v' : Value} (hB : ∀ j, v.ownBlock = some j → w.heap.size ≤ j) (hw : w.heap.size ≤ W.heap.size) (h : v'.ownBlock = v.ownBlock ∨ v'.ownBlock = some W.heap.size) : ∀ j, v'.ownBlock = some j → w.heap.size ≤ j := by
  intro j hj
  rcases h with h | h
  · exact hB j (by rw [← h]; exact hj)
  · rw [h] at hj
    injection hj with hj
    omega
theorem size22 : (Tryz.prog.info? 3).map (fun i => i.size) = some 1 := by kernel_rfl
set_option maxHeartbeats 8000000 in
theorem mend_any (F G : Nat → Prop) (wv ev : Value) (ws : List Int) (es : List Ed) (w : World) (hw : Sl Kd.int F w wv ws) (he : Sl Kd.ed G w ev es) (hwl : ws.length ≤ 40) (hel : es.length ≤ 40) :
    Calls Tryz.prog 5 #[wv, ev] w fun e w' => ∃ v, e = .returned (.tuple #[v, .bool (mendA ws es [] 0).isSome]) ∧ Nw w w' ∧ Sl Kd.int (fun _ => True) w' v ((mendA ws es [] 0).getD []) := by
  obtain ⟨A, b, o, c, rfl, h1, h2, h3⟩ := hw
  obtain ⟨A', b', o', c', rfl, h1', h2', h3'⟩ := he
  go_enter Tryz.func5, Tryz.ntmps5
  go_wp2
  go_loopw [6, 7, 12] (fun vo t i wr => ∃ (k n : Nat) (out : List Int), k ≤ es.length ∧ n ≤ ws.length ∧ t = .int .i64 n ∧ i = .int .i64 k ∧ out.length ≤ n + k ∧ Vec Kd.int 3 none_ wr vo out ∧
    (∀ j, vo.ownBlock = some j → w.heap.size ≤ j) ∧ Nw w wr ∧ Hid (mendA ws (es.drop k) out n = mendA ws es [] 0)) (fun _ _ i _ => es.length - (intOf i).toNat)
  case atStart => exact ⟨0, 0, [], Nat.zero_le _, Nat.zero_le _, rfl, rfl, Nat.zero_le _, Vec.nil _ _ _ _, by simp [Value.ownBlock], Ch.refl _ _, rfl⟩
  case round =>
  obtain ⟨k, n, out, hk, hn, rfl, rfl, ho, hV, hB, hN, HI⟩ := hrel
  by_cases hlt : k < es.length
  · have hd : decide ((k : Int) < (es.length : Int)) = true := by simp; omega
    obtain ⟨x, rfl, _, hbl, hx0, hx1, hx2, Hd, Hx⟩ := Rd.ed h3' hlt
    obtain ⟨xo, xa, xt⟩ := x
    simp only at hx0 hx1 hx2
    replace hx0 := hN.cell hx0 (not_none_ _)
    replace hx1 := hN.cell hx1 (not_none_ _)
    replace hx2 := hN.cell hx2 (not_none_ _)
    replace hbl := cell_lt hx0
    by_cases c1 : xa < n
    · have e1 : decide (xa < (n : Int)) = true := by simpa using c1
      go_wp2
      go_quiet (fail)
      go_wp2
      go_ret2
      rw [Hd.out, mendA, if_pos (.inl c1)] at HI
      rw [← HI.out]
      exact ⟨_, rfl, by repeat (first | assumption | refine Ch.drewN ?_ _ | refine Ch.drew ?_ | refine Ch.alloc ?_ _), Sl.nil _ _ _⟩
    have e1 : decide (xa < (n : Int)) = false := by simpa using c1
    by_cases c2 : xa > ws.length
    · have e2 : decide (xa > (ws.length : Int)) = true := by simpa using c2
      go_wp2
      go_quiet (fail)
      go_wp2
      go_ret2
      rw [Hd.out, mendA, if_pos (.inr c2)] at HI
      rw [← HI.out]
      exact ⟨_, rfl, by repeat (first | assumption | refine Ch.drewN ?_ _ | refine Ch.drew ?_ | refine Ch.alloc ?_ _), Sl.nil _ _ _⟩
    have e2 : decide (xa > (ws.length : Int)) = false := by simpa using c2
    obtain ⟨m, hm⟩ : ∃ m : Nat, xa = m := ⟨xa.toNat, by omega⟩
    obtain ⟨A3, hs3, hA3⟩ := sub_lh (P := Tryz.prog) 22 3 1 Tryz.underlying22 size22 A ws.length c n (m - n) n xa rfl (by omega) (by omega)
    have hR := (Rd.part (h3.nw hN) (A' := A3) (k := n) (m := m - n) (fun h0 hA => by simpa [Kd.int, Kd.scalar] using hA3 _ _ h0 hA) (by omega))
    have Hm := Lib.hid hm; clear hm
    have hnm : n ≤ m := by have := Hm.out; omega
    have hml : m ≤ ws.length := by have := Hm.out; omega
    have hlen : ((ws.drop n).take (m - n)).length = m - n := by rw [List.length_take, List.length_drop]; omega
    have hnw : u6.ownBlock ≠ some wr.heap.size := fun h => by have := hV.lt h; omega
    have hsrc : ∀ W', Nw wr W' → (m - n = 0 ∧ A3 = none ∨ ∃ a0, A3 = some a0 ∧ ∀ j u, (((ws.drop n).take (m - n)).map (Value.int .i64))[j]? = some u → W'.cell? (a0.add j) = some u) := fun W' h => by
      rcases Rd.src (hR.nw h) with ⟨h0, h1⟩ | h1
      · exact .inl ⟨by rw [← hlen]; exact h0, h1⟩
      · exact .inr h1
    cases xo
    · go_wp2
      go_quiet (fail)
      go_wp2_with (first
        | (at_builtin; refine wp_apps u6 (.tmp 48) (.tmp 53) 22 (.int .i64 0) 8 rfl rfl Tryz.underlying22 Tryz.info3 rfl (by decide) (ys := (ws.drop n).take (m - n)) (cs := ((ws.drop n).take (m - n)).map (Value.int .i64)) rfl rfl (hsrc _ (((Ch.refl none_ wr).alloc _).drewN _)) hlen (by rw [List.length_map, hlen]; exact (Nat.mul_one _).symm) (by intro u hu; obtain ⟨q, _, rfl⟩ := List.mem_map.1 hu; rfl) (hV.nw (((Ch.refl none_ wr).alloc _).drewN _)) Cs.ints (fun _ h => h.elim) (by omega) (by omega) ?_
           intro A1 n1 c1 w1 Hn1 hV1 hch1 ho1
           have hbk : w1.heap[wr.heap.size]? = some (.cells #[.bool false, .int .i64 xa, .int .i64 xt] 27 (0, 0)) := hch1.heap (by exact heap_alloc_new wr _) hnw
           have k0 : w1.cell? ⟨wr.heap.size, 0, none⟩ = some (.bool false) := blk_cells hbk 0
           have k1 : w1.cell? ⟨wr.heap.size, 1, none⟩ = some (.int .i64 xa) := blk_cells hbk 1
           have k2 : w1.cell? ⟨wr.heap.size, 2, none⟩ = some (.int .i64 xt) := blk_cells hbk 2
           have kl := blk_lt hbk
           have HB := Lib.hid hbk; clear hbk)
        | (at_builtin; refine wp_app _ (.tmp 61) (.tmp 64) 22 (.int .i64 0) 8 w1.heap.size (cs := [.int .i64 xt]) rfl rfl Tryz.underlying22 Tryz.info3 rfl (by decide) rfl rfl (by exact heap_alloc_new w1 _) (by simp [Value.oneCell']) (hV1.nw ((Ch.refl none_ w1).alloc _)) rfl (fun _ h => h.elim) (by rw [List.length_append, hlen]; omega) (by rw [List.length_append, hlen]; omega) ?_
           intro A2 n2 c2 w2 Hn2 hV2 hch2 ho2))
      go_roundw
      case rel =>
        have hW := ((hN.alloc (.cells #[.bool false, .int .i64 xa, .int .i64 xt] 27)).drewN nq)
        have hN1 := Nw.own hW hch1 hB
        have hB1 := own_next (w := w) hB hW.size ho1
        have hW1 := hN1.alloc (.cells #[.int .i64 xt] 3)
        refine ⟨k+1, m, _, by omega, hml, by rw [Hm.out], by go_num, ?_, hV2, own_next hB1 hW1.size ho2, Nw.own hW1 hch2 hB1, ?_⟩
        · rw [List.length_append, List.length_append, hlen, List.length_singleton]; omega
        · rw [← HI.out, Hd.out, mendA, if_neg (by have := Hm.out; simp; omega), if_neg (by simp), Hm.out, Int.toNat_natCast]
          rfl
      case measure => simp [intOf] <;> omega
    · by_cases c3 : m = ws.length
      · have e3 : (xa == (ws.length : Int)) = true := by rw [Hm.out, c3]; simp
        have Hc3 := Lib.hid c3; clear c3
        go_wp2
        go_quiet (fail)
        go_wp2
        go_ret2
        rw [Hd.out, mendA, if_neg (by have := Hm.out; simp; omega), if_pos rfl, if_pos (.inl (by rw [Hm.out, Hc3.out]))] at HI
        rw [← HI.out]
        exact ⟨_, rfl, by repeat (first | assumption | refine Ch.drewN ?_ _ | refine Ch.drew ?_ | refine Ch.alloc ?_ _), Sl.nil _ _ _⟩
      have e3 : (xa == (ws.length : Int)) = false := by rw [Hm.out]; simp; omega
      obtain ⟨y, rfl, _, hbw, hy, Hdy, Hxy⟩ := Rd.int h3 (k := m) (by omega)
      have hy' : wr.cell? ⟨b, o + xa.toNat, none⟩ = some (.int .i64 y) := by rw [Hm.out, Int.toNat_natCast]; exact hN.cell hy (not_none_ _)
      have hbr := cell_lt hy'
      have i0 : 0 ≤ xa := by have := Hm.out; omega
      have i1 : xa < (ws.length : Int) := by have := Hm.out; omega
      have Hc3 := Lib.hid c3; clear c3 hy
      by_cases c4 : y = xt
      · have e4 : (y == xt) = true := by simpa using c4
        have Hc4 := Lib.hid c4; clear c4
        go_wp2
        go_quiet (fail)
        go_wp2_with (at_builtin; refine wp_apps u6 (.tmp 48) (.tmp 53) 22 (.int .i64 0) 8 rfl rfl Tryz.underlying22 Tryz.info3 rfl (by decide) (ys := (ws.drop n).take (m - n)) (cs := ((ws.drop n).take (m - n)).map (Value.int .i64)) rfl rfl (hsrc _ (((Ch.refl none_ wr).alloc _).drewN _)) hlen (by rw [List.length_map, hlen]; exact (Nat.mul_one _).symm) (by intro u hu; obtain ⟨q, _, rfl⟩ := List.mem_map.1 hu; rfl) (hV.nw (((Ch.refl none_ wr).alloc _).drewN _)) Cs.ints (fun _ h => h.elim) (by omega) (by omega) ?_; intro A1 n1 c1 w1 Hn1 hV1 hch1 ho1; have hbk : w1.heap[wr.heap.size]? = some (.cells #[.bool true, .int .i64 xa, .int .i64 xt] 27 (0, 0)) := hch1.heap (by exact heap_alloc_new wr _) hnw; have k0 : w1.cell? ⟨wr.heap.size, 0, none⟩ = some (.bool true) := blk_cells hbk 0; have k1 : w1.cell? ⟨wr.heap.size, 1, none⟩ = some (.int .i64 xa) := blk_cells hbk 1; have k2 : w1.cell? ⟨wr.heap.size, 2, none⟩ = some (.int .i64 xt) := blk_cells hbk 2; have kl := blk_lt hbk; have HB := Lib.hid hbk; clear hbk)
        go_roundw
        case rel =>
          have hW := ((hN.alloc (.cells #[.bool true, .int .i64 xa, .int .i64 xt] 27)).drewN nq)
          refine ⟨k+1, m+1, _, by omega, by have := Hc3.out; omega, by rw [Hm.out]; go_num, by go_num, ?_, hV1, own_next hB hW.size ho1, Nw.own hW hch1 hB, ?_⟩
          · rw [List.length_append, hlen]; omega
          · have hne : ¬ (xa = (ws.length : Int) ∨ ws[xa.toNat]? ≠ some xt) := by
              rw [Hm.out, Int.toNat_natCast, Hxy.out, Hc4.out]
              have := Hc3.out
              simp; omega
            rw [← HI.out, Hd.out, mendA, if_neg (by have := Hm.out; simp; omega), if_pos rfl, if_neg hne, Hm.out, Int.toNat_natCast]
            rfl
        case measure => simp [intOf] <;> omega
      · have e4 : (y == xt) = false := by simpa using c4
        have Hc4 := Lib.hid c4; clear c4
        go_wp2
        go_quiet (fail)
        go_wp2
        go_ret2
        rw [Hd.out, mendA, if_neg (by have := Hm.out; simp; omega), if_pos rfl, if_pos (.inr (by rw [Hm.out, Int.toNat_natCast, Hxy.out]; intro h; injection h with h; exact Hc4.out h))] at HI
        rw [← HI.out]
        exact ⟨_, rfl, by repeat (first | assumption | refine Ch.drewN ?_ _ | refine Ch.drew ?_ | refine Ch.alloc ?_ _), Sl.nil _ _ _⟩
  · have hd : decide ((k : Int) < (es.length : Int)) = false := by simp; omega
    have hkl : k = es.length := by omega
    obtain ⟨A3, hs3, hA3⟩ := sub_l (P := Tryz.prog) 22 3 1 Tryz.underlying22 size22 A ws.length c n (ws.length - n) n rfl (by omega) (by omega)
    have hR := (Rd.part (h3.nw hN) (A' := A3) (k := n) (m := ws.length - n) (fun h0 hA => by simpa [Kd.int, Kd.scalar] using hA3 _ _ h0 hA) (by omega))
    have hlen : ((ws.drop n).take (ws.length - n)).length = ws.length - n := by rw [List.length_take, List.length_drop]; omega
    have hsrc : ∀ W', Nw wr W' → (ws.length - n = 0 ∧ A3 = none ∨ ∃ a0, A3 = some a0 ∧ ∀ j u, (((ws.drop n).take (ws.length - n)).map (Value.int .i64))[j]? = some u → W'.cell? (a0.add j) = some u) := fun W' h => by
      rcases Rd.src (hR.nw h) with ⟨h0, h1⟩ | h1
      · exact .inl ⟨by rw [← hlen]; exact h0, h1⟩
      · exact .inr h1
    have Hkl := Lib.hid hkl; clear hkl
    go_wp2_with (at_builtin; refine wp_apps u6 (.tmp 67) (.tmp 70) 22 (.int .i64 0) 8 rfl rfl Tryz.underlying22 Tryz.info3 rfl (by decide) (ys := (ws.drop n).take (ws.length - n)) (cs := ((ws.drop n).take (ws.length - n)).map (Value.int .i64)) rfl rfl (hsrc _ (Ch.refl none_ wr)) hlen (by rw [List.length_map, hlen]; exact (Nat.mul_one _).symm) (by intro u hu; obtain ⟨q, _, rfl⟩ := List.mem_map.1 hu; rfl) hV Cs.ints (fun _ h => h.elim) (by omega) (by omega) ?_; intro A1 n1 c1 w1 Hn1 hV1 hch1 ho1)
    go_ret2
    have hfin : mendA ws es [] 0 = some (out ++ (ws.drop n).take (ws.length - n)) := by
      rw [← HI.out, Hkl.out, List.drop_length, mendA, List.take_of_length_le (by simp)]
    rw [hfin]
    exact ⟨_, rfl, Nw.own hN hch1 hB, hV1.sl (fun _ _ => trivial) (fun _ _ => trivial)⟩
end Go.Proofs.YtgflhpfeghplpaaGreatDoor
