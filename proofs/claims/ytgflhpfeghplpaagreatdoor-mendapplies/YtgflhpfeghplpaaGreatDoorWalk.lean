/- accidencelaw22.MendApplies: the walk. -/
import Derived.Test.YtgflhpfeghplpaaGreatDoorLaw
import Derived.Test.YtgflhpfeghplpaaGreatDoorEv21
set_option maxRecDepth 100000
set_option linter.unusedSimpArgs false
set_option linter.unusedVariables false
namespace Go.Proofs.YtgflhpfeghplpaaGreatDoor
open Go.RowKit
theorem Tryz.info28 : (Tryz.prog.info? 28).map (fun i => (i.zero, i.size, i.bytes)) = some (some (.agg #[.bool false, .int .i64 0, .int .i64 0]), 3, 24) := by kernel_rfl
theorem take_snoc {α : Type} {xs : List α} {k : Nat} {x : α} (h : xs[k]? = some x) : xs.take k ++ [x] = xs.take (k + 1) := by
  obtain ⟨hl, rfl⟩ := List.getElem?_eq_some_iff.1 h
  exact (List.take_succ_eq_append_getElem hl).symm
theorem mend5 (F G : Nat → Prop) (wv ev : Value) (ws : List Int) (es : List Ed) (W : World) (hw : Sl Kd.int F W wv ws) (he : Sl Kd.ed G W ev es) (hwl : ws.length ≤ 40) (hel : es.length ≤ 40) (r : Option (List Int)) (hr : mendA ws es [] 0 = r) :
    Calls Tryz.prog 5 #[wv, ev] W fun e w' => ∃ A c, e = .returned (.tuple #[.slice A (r.getD []).length c, .bool r.isSome]) ∧ Nw W w' ∧ Sl Kd.int (fun _ => True) w' (.slice A (r.getD []).length c) (r.getD []) := by
  subst hr
  refine (mend_any F G wv ev ws es W hw he hwl hel).mono ?_
  rintro e w' ⟨v, rfl, hn, hs⟩
  have hs' := hs
  obtain ⟨A, b, o, c, rfl, _⟩ := hs
  exact ⟨A, c, rfl, hn, hs'⟩
theorem ref6 (F G : Nat → Prop) (wv ev : Value) (ws : List Int) (es : List Ed) (W : World) (hw : Sl Kd.int F W wv ws) (he : Sl Kd.ed G W ev es) (hwl : ws.length ≤ 40) (hel : es.length ≤ 40) (q : Bool) (l : List Int) (hr : refR ws es = (q, l)) :
    Calls Tryz.prog 6 #[wv, ev] W fun e w' => ∃ A c, e = .returned (.tuple #[.slice A l.length c, .bool q]) ∧ Nw W w' ∧ Sl Kd.int (fun _ => True) w' (.slice A l.length c) l := by
  refine (ref_any F G wv ev ws es W hw he hwl hel).mono ?_
  rw [hr]
  rintro e w' ⟨v, rfl, hn, hs⟩
  have hs' := hs
  obtain ⟨A, b, o, c, rfl, _⟩ := hs
  exact ⟨A, c, rfl, hn, hs'⟩
theorem same7 (v5 v6 : Value) (l : List Int) (W : World) (h5 : Sl Kd.int (fun _ => True) W v5 l) (h6 : Sl Kd.int (fun _ => True) W v6 l) :
    Calls Tryz.prog 7 #[v5, v6] W fun e w' => e = .returned (.bool true) ∧ Nw W w' := by
  refine (same_any _ _ v5 v6 l l W h5 h6).mono ?_
  rw [lessL_self]
  rintro e w' ⟨rfl, hn⟩
  exact ⟨rfl, hn⟩
set_option maxHeartbeats 16000000 in
theorem law_any (F G : Nat → Prop) (wv ev : Value) (ws : List Int) (es : List Ed) (w : World) (hw : Sl Kd.int F w wv ws) (he : Sl Kd.ed G w ev es) :
    Calls Tryz.prog 3 #[wv, ev] w fun e w' => e = .returned (.bool true) ∧ Nw w w' := by
  have Hw := Lib.hid hw
  have He := Lib.hid he
  obtain ⟨A, b, o, c, rfl, h1, h2, h3⟩ := hw
  obtain ⟨A', b', o', c', rfl, h1', h2', h3'⟩ := he
  have hnw : ws.length ≤ 9223372036854775807 := by omega
  have hne : es.length ≤ 9223372036854775807 := by omega
  go_enter Tryz.func3, Tryz.ntmps3
  by_cases hwl : ws.length ≤ 40
  · have d1 : decide ((ws.length : Int) > 40) = false := by simp; omega
    by_cases hel : es.length ≤ 40
    · have d2 : decide ((es.length : Int) > 40) = false := by simp; omega
      go_wp2_with (go_at_call 4; refine (Ev.alive_any _).mono ?_; rintro e4 w4 ⟨rfl, hb4⟩; have hn4 := Ch.below hb4; clear hb4)
      go_loopw [5, 25] (fun vl i wr => ∃ k : Nat, k ≤ es.length ∧ i = .int .i64 k ∧ Vec Kd.ed 28 none_ wr vl (es.take k) ∧ (∀ j, vl.ownBlock = some j → w.heap.size ≤ j) ∧ Nw w wr) (fun _ i _ => es.length - (intOf i).toNat)
      case atStart => exact ⟨0, Nat.zero_le _, rfl, Vec.lit (d := Kd.ed) (heap_alloc_new _ _) rfl rfl (by simp) (fun j x hx => by simp at hx), (fun j hj => by simp [Value.ownBlock] at hj; have := hn4.size; omega), hn4.alloc _⟩
      case round =>
      obtain ⟨k, hk, rfl, hV, hB, hN⟩ := hrel
      by_cases hlt : k < es.length
      · have hd : decide ((k : Int) < (es.length : Int)) = true := by simp; omega
        obtain ⟨x, rfl, _, hbl, hx0, hx1, hx2, Hd, Hx⟩ := Rd.ed h3' hlt
        obtain ⟨xo, xa, xt⟩ := x
        simp only at hx0 hx1 hx2
        replace hx0 := hN.cell hx0 (not_none_ _)
        replace hx1 := hN.cell hx1 (not_none_ _)
        replace hx2 := hN.cell hx2 (not_none_ _)
        replace hbl := cell_lt hx0
        have htl : (es.take k).length = k := by rw [List.length_take]; omega
        go_wp2_with (at_builtin; refine wp_app u5 (.tmp 29) (.tmp 31) 25 (.agg #[.bool false, .int .i64 0, .int .i64 0]) 24 (wr.heap.size + 1) (cs := [.bool xo, .int .i64 xa, .int .i64 xt]) (d := Kd.ed) (y := Ed.mk xo xa xt) (T' := 28) (fr := (0, 0)) rfl rfl Tryz.underlying25 Tryz.info28 rfl (by decide) rfl rfl (by rw [← asz wr (.cells #[.bool xo, .int .i64 xa, .int .i64 xt] 27)]; exact heap_alloc_new _ _) (by simp [Value.oneCell']) (hV.nw (((Ch.refl none_ wr).alloc _).alloc _)) rfl (fun _ h => h.elim) (by rw [htl]; omega) (by rw [htl]; omega) ?_; intro A2 n2 c2 w2 Hn2 hV2 hch2 ho2)
        go_roundw
        case rel =>
          have hW := (hN.alloc (.cells #[.bool xo, .int .i64 xa, .int .i64 xt] 27)).alloc (.cells #[.bool xo, .int .i64 xa, .int .i64 xt] 28)
          refine ⟨k+1, by omega, by go_num, ?_, own_next hB hW.size ho2, Nw.own hW hch2 hB⟩
          rw [← take_snoc Hx.out]
          exact hV2
        case measure => simp [intOf] <;> omega
      · have hd : decide ((k : Int) < (es.length : Int)) = false := by simp; omega
        obtain ⟨k1, k2⟩ := both (ws := ws) es
        have htk : es.take k = es := List.take_of_length_le (by omega)
        rw [htk] at hV
        clear htk
        obtain ⟨Al, cl, rfl, _, _⟩ := hV.shape
        have hSl : Sl Kd.ed (fun _ => True) wr (.slice Al es.length cl) es := hV.sl (fun _ _ => trivial) (fun _ _ => trivial)
        have HSl := Lib.hid hSl
        have HN := Lib.hid hN
        clear hV hB hSl h3 h3'
        obtain ⟨q, l, hr⟩ : ∃ q l, refR ws es = (q, l) := ⟨_, _, rfl⟩
        rw [hr] at k1 k2
        cases q with
        | true =>
          have hm : mendA ws es [] 0 = some l := by
            have := k2 rfl
            cases hh : mendA ws es [] 0 with
            | none => rw [hh] at k1; cases k1
            | some l' => rw [hh] at this; exact congrArg some this
          clear k1 k2
          have Hm := Lib.hid hm
          have Hr := Lib.hid hr
          clear hm hr
          go_wp2_with (first
            | (go_at_call 5; refine (mend5 F G _ _ ws es _ (Hw.out.nw HN.out) (He.out.nw HN.out) hwl hel _ Hm.out).mono ?_; rintro e5 w5 ⟨A5, c5, rfl, hn5, hs5⟩)
            | (go_at_call 6; refine (ref6 F (fun _ => True) _ _ ws es _ (Hw.out.nw (HN.out.nw hn5)) (HSl.out.nw hn5) hwl hel _ _ Hr.out).mono ?_; rintro e6 w6 ⟨A6, c6, rfl, hn6, hs6⟩)
            | (go_at_call 7; refine (same7 _ _ l _ (hs5.nw hn6) hs6).mono ?_; rintro e7 w7 ⟨rfl, hn7⟩))
          go_ret
          exact ⟨rfl, (HN.out.nw hn5).nw (hn6.nw hn7)⟩
        | false =>
          have hm : mendA ws es [] 0 = none := by
            cases hh : mendA ws es [] 0 with
            | none => rfl
            | some l' => rw [hh] at k1; cases k1
          clear k1 k2
          have Hm := Lib.hid hm
          have Hr := Lib.hid hr
          clear hm hr
          go_wp2_with (first
            | (go_at_call 5; refine (mend5 F G _ _ ws es _ (Hw.out.nw HN.out) (He.out.nw HN.out) hwl hel _ Hm.out).mono ?_; rintro e5 w5 ⟨A5, c5, rfl, hn5, hs5⟩)
            | (go_at_call 6; refine (ref6 F (fun _ => True) _ _ ws es _ (Hw.out.nw (HN.out.nw hn5)) (HSl.out.nw hn5) hwl hel _ _ Hr.out).mono ?_; rintro e6 w6 ⟨A6, c6, rfl, hn6, hs6⟩))
          go_ret
          exact ⟨rfl, (HN.out.nw hn5).nw hn6⟩
    · have d2 : decide ((es.length : Int) > 40) = true := by simp; omega
      go_wp2_with (go_at_call 4; refine (Ev.alive_any _).mono ?_; rintro e4 w4 ⟨rfl, hb4⟩; have hn4 := Ch.below hb4; clear hb4)
      go_ret
      exact ⟨rfl, hn4⟩
  · have d1 : decide ((ws.length : Int) > 40) = true := by simp; omega
    go_wp2_with (go_at_call 4; refine (Ev.alive_any _).mono ?_; rintro e4 w4 ⟨rfl, hb4⟩; have hn4 := Ch.below hb4; clear hb4)
    go_ret
    exact ⟨rfl, hn4⟩
end Go.Proofs.YtgflhpfeghplpaaGreatDoor
