/- accidenceref22.Apply -/
import Derived.Test.YtgflhpfeghplpaaGreatDoorMend
set_option maxRecDepth 100000
set_option linter.unusedSimpArgs false
set_option linter.unusedVariables false
namespace Go.Proofs.YtgflhpfeghplpaaGreatDoor
open Go.RowKit
def refIn (ws : List Int) (q : Nat) : List Ed → List Int → Option (List Ed × List Int × Bool)
  | [], out => some ([], out, false)
  | e :: r, out => if e.at_ = q then (if e.out = true then (if q = ws.length ∨ ws[q]? ≠ some e.term then none else some (r, out, true)) else refIn ws q r (out ++ [e.term])) else some (e :: r, out, false)
def refOut (ws : List Int) : Nat → Nat → List Ed → List Int → Option (List Ed × List Int)
  | 0, _, es, out => some (es, out)
  | k + 1, q, es, out => match refIn ws q es out with
    | none => none
    | some (es', out', gone) => refOut ws k (q + 1) es' (if gone = false ∧ q < ws.length then out' ++ [ws.getD q 0] else out')
def refR (ws : List Int) (es : List Ed) : Bool × List Int := match refOut ws (ws.length + 1) 0 es [] with
  | none => (false, [])
  | some (es', out) => (es'.isEmpty, out)
set_option maxHeartbeats 16000000 in
theorem ref_any (F G : Nat → Prop) (wv ev : Value) (ws : List Int) (es : List Ed) (w : World) (hw : Sl Kd.int F w wv ws) (he : Sl Kd.ed G w ev es) (hwl : ws.length ≤ 40) (hel : es.length ≤ 40) :
    Calls Tryz.prog 6 #[wv, ev] w fun e w' => ∃ v, e = .returned (.tuple #[v, .bool (refR ws es).1]) ∧ Nw w w' ∧ Sl Kd.int (fun _ => True) w' v (refR ws es).2 := by
  obtain ⟨A, b, o, c, rfl, h1, h2, h3⟩ := hw
  obtain ⟨A', b', o', c', rfl, h1', h2', h3'⟩ := he
  go_enter Tryz.func6, Tryz.ntmps6
  go_wp2
  go_loopw [6, 7, 8] (fun vo ni pi wr => ∃ (q n : Nat) (p : Int) (out : List Int), q ≤ ws.length + 1 ∧ n ≤ es.length ∧ Hid (p = q) ∧ pi = .int .i64 p ∧ ni = .int .i64 n ∧ out.length ≤ q + n ∧ Vec Kd.int 3 none_ wr vo out ∧
    (∀ j, vo.ownBlock = some j → w.heap.size ≤ j) ∧ Nw w wr ∧ Hid (refOut ws (ws.length + 1 - q) q (es.drop n) out = refOut ws (ws.length + 1) 0 es [])) (fun _ _ pi _ => ws.length + 1 - (intOf pi).toNat)
  case atStart => exact ⟨0, 0, 0, [], Nat.zero_le _, Nat.zero_le _, rfl, rfl, rfl, Nat.zero_le _, Vec.lit (heap_alloc_new w _) rfl rfl (by simp) (fun j x hx => by simp at hx), (fun j hj => by simp [Value.ownBlock] at hj; omega), (Ch.refl _ _).alloc _, rfl⟩
  case round =>
  obtain ⟨q, n, p, out, hq, hn, Hp, rfl, rfl, ho, hV, hB, hN, HI⟩ := hrel
  by_cases hql0 : q ≤ ws.length
  · have hd : decide (p ≤ (ws.length : Int)) = true := by rw [Hp.out]; simp; omega
    have hp0 : 0 ≤ p := by rw [Hp.out]; omega
    have hp1 : p ≤ 40 := by rw [Hp.out]; omega
    have hstep : refOut ws (ws.length + 1 - q) q (es.drop n) out = match refIn ws q (es.drop n) out with
      | none => none
      | some (es', out', gone) => refOut ws (ws.length + 1 - (q + 1)) (q + 1) es' (if gone = false ∧ q < ws.length then out' ++ [ws.getD q 0] else out') := by
      rw [show ws.length + 1 - q = (ws.length + 1 - (q + 1)) + 1 by omega]
      rfl
    go_wp2
    obtain ⟨wo, hwo⟩ : ∃ wo : World, wo = wr := ⟨_, rfl⟩
    go_loopw [6, 7, 9] (fun vi ni gi wi => ∃ (n1 : Nat) (out1 : List Int) (g : Bool), n1 ≤ es.length ∧ ni = .int .i64 n1 ∧ gi = .bool g ∧ out1.length ≤ q + n1 ∧ Vec Kd.int 3 none_ wi vi out1 ∧
      (∀ j, vi.ownBlock = some j → w.heap.size ≤ j) ∧ Nw w wi ∧ Hid ((if g = true then some (es.drop n1, out1, true) else refIn ws q (es.drop n1) out1) = refIn ws q (es.drop n) out)) (fun _ ni _ _ => es.length - (intOf ni).toNat)
    case atStart => exact ⟨n, out, false, hn, rfl, rfl, ho, hV, hB, hN, Lib.hid (by simp)⟩
    case round =>
    obtain ⟨n1, out1, g, hn1, rfl, rfl, ho1, hV1, hB1, hN1, HJ⟩ := hrel
    cases g
    · rw [if_neg (by simp)] at HJ
      by_cases hlt : n1 < es.length
      · have hd1 : decide ((n1 : Int) < (es.length : Int)) = true := by simp; omega
        obtain ⟨x, rfl, _, hbl, hx0, hx1, hx2, Hd, Hx⟩ := Rd.ed h3' hlt
        obtain ⟨xo, xa, xt⟩ := x
        simp only at hx0 hx1 hx2
        replace hx0 := hN1.cell hx0 (not_none_ _)
        replace hx1 := hN1.cell hx1 (not_none_ _)
        replace hx2 := hN1.cell hx2 (not_none_ _)
        replace hbl := cell_lt hx0
        by_cases cq : xa = p
        · have e5 : (xa == p) = true := by simpa using cq
          have hcq : xa = (q : Int) := by rw [cq, Hp.out]
          have Hcq := Lib.hid hcq; clear hcq cq
          cases xo
          · go_wp2_with (at_builtin; refine wp_app _ (.tmp 55) (.tmp 61) 22 (.int .i64 0) 8 wr.heap.size (cs := [.int .i64 xt]) rfl rfl Tryz.underlying22 Tryz.info3 rfl (by decide) rfl rfl (by exact heap_alloc_new wr _) (by simp [Value.oneCell']) (hV1.nw ((Ch.refl none_ wr).alloc _)) rfl (fun _ h => h.elim) (by omega) (by omega) ?_; intro A2 n2 c2 w2 Hn2 hV2 hch2 ho2)
            go_roundw
            case rel =>
              have hW := hN1.alloc (.cells #[.int .i64 xt] 3)
              refine ⟨n1+1, out1 ++ [xt], false, by omega, by go_num, rfl, by rw [List.length_append, List.length_singleton]; omega, hV2, own_next hB1 hW.size ho2, Nw.own hW hch2 hB1, Lib.hid ?_⟩
              rw [← HJ.out, if_neg (by simp), Hd.out, refIn, if_pos Hcq.out, if_neg (by simp)]
            case measure => simp [intOf] <;> omega
          · by_cases c3 : q = ws.length
            · have e3 : (p == (ws.length : Int)) = true := by rw [Hp.out, c3]; simp
              have hfin : refR ws es = (false, []) := by
                unfold refR
                rw [← HI.out, hstep, ← HJ.out, Hd.out, refIn, if_pos Hcq.out, if_pos rfl, if_pos (.inl c3)]
              have Hc3 := Lib.hid c3; clear c3
              go_wp2
              go_quiet (fail)
              go_wp2
              go_ret2
              rw [hfin]
              exact ⟨_, rfl, by repeat (first | assumption | refine Ch.drewN ?_ _ | refine Ch.drew ?_ | refine Ch.alloc ?_ _), Sl.nil _ _ _⟩
            have e3 : (p == (ws.length : Int)) = false := by rw [Hp.out]; simp; omega
            have i1 : p < (ws.length : Int) := by rw [Hp.out]; omega
            obtain ⟨y, rfl, _, hbw, hy, Hdy, Hxy⟩ := Rd.int h3 (k := q) (by omega)
            have hy' : wr.cell? ⟨b, o + p.toNat, none⟩ = some (.int .i64 y) := by rw [Hp.out, Int.toNat_natCast]; exact hN1.cell hy (not_none_ _)
            have hbr := cell_lt hy'
            have Hc3 := Lib.hid c3; clear c3 hy
            by_cases c4 : y = xt
            · have e4 : (y == xt) = true := by simpa using c4
              have Hc4 := Lib.hid c4; clear c4
              go_wp2
              go_quiet (fail)
              go_wp2
              go_roundw
              case rel =>
                refine ⟨n1+1, out1, true, by omega, by go_num, rfl, by omega, hV1.nw (by repeat (first | exact Ch.refl _ _ | refine Ch.drewN ?_ _ | refine Ch.drew ?_ | refine Ch.alloc ?_ _)), hB1, by repeat (first | assumption | refine Ch.drewN ?_ _ | refine Ch.drew ?_ | refine Ch.alloc ?_ _), Lib.hid ?_⟩
                rw [← HJ.out, if_pos rfl, Hd.out, refIn, if_pos Hcq.out, if_pos rfl, if_neg (by rw [Hxy.out, Hc4.out]; have := Hc3.out; simp; omega)]
              case measure => simp [intOf] <;> omega
            · have e4 : (y == xt) = false := by simpa using c4
              have hfin : refR ws es = (false, []) := by
                unfold refR
                rw [← HI.out, hstep, ← HJ.out, Hd.out, refIn, if_pos Hcq.out, if_pos rfl, if_pos (.inr (by rw [Hxy.out]; intro h; injection h with h; exact c4 h))]
              have Hc4 := Lib.hid c4; clear c4
              go_wp2
              go_quiet (fail)
              go_wp2
              go_ret2
              rw [hfin]
              exact ⟨_, rfl, by repeat (first | assumption | refine Ch.drewN ?_ _ | refine Ch.drew ?_ | refine Ch.alloc ?_ _), Sl.nil _ _ _⟩
        · have e5 : (xa == p) = false := by simpa using cq
          have HX : refIn ws q (es.drop n) out = some (es.drop n1, out1, false) := by
            rw [← HJ.out, Hd.out, refIn, if_neg (by rw [Hp.out] at cq; exact cq)]
          have Hcq := Lib.hid cq; clear cq
          by_cases hql : q < ws.length
          · have f1 : decide (p < (ws.length : Int)) = true := by rw [Hp.out]; simp; omega
            have i1 : p < (ws.length : Int) := by rw [Hp.out]; omega
            obtain ⟨y, rfl, _, hbw, hy, Hdy, Hxy⟩ := Rd.int h3 (k := q) hql
            have hy' : wr.cell? ⟨b, o + p.toNat, none⟩ = some (.int .i64 y) := by rw [Hp.out, Int.toNat_natCast]; exact hN1.cell hy (not_none_ _)
            have hbr := cell_lt hy'
            go_wp2_with (at_builtin; refine wp_app _ (.tmp 73) (.tmp 78) 22 (.int .i64 0) 8 wr.heap.size (cs := [.int .i64 y]) rfl rfl Tryz.underlying22 Tryz.info3 rfl (by decide) rfl rfl (by exact heap_alloc_new wr _) (by simp [Value.oneCell']) (hV1.nw ((Ch.refl none_ wr).alloc _)) rfl (fun _ h => h.elim) (by omega) (by omega) ?_; intro A2 n2 c2 w2 Hn2 hV2 hch2 ho2)
            go_roundw
            case rel =>
              have hW := hN1.alloc (.cells #[.int .i64 y] 3)
              refine ⟨q+1, n1, _, out1 ++ [y], by omega, hn1, Lib.hid (by rw [Hp.out]; rfl), rfl, rfl, by rw [List.length_append, List.length_singleton]; omega, hV2, own_next hB1 hW.size ho2, Nw.own hW hch2 hB1, Lib.hid ?_⟩
              rw [← HI.out, hstep, HX]
              have hy0 : ws.getD q 0 = y := by rw [List.getD_eq_getElem?_getD, Hxy.out]; rfl
              simp only [hy0, hql, and_self, if_true]
            case measure => have := Hp.out; simp [intOf] <;> omega
          · have f1 : decide (p < (ws.length : Int)) = false := by rw [Hp.out]; simp; omega
            go_wp2
            go_roundw
            case rel =>
              refine ⟨q+1, n1, _, out1, by omega, hn1, Lib.hid (by rw [Hp.out]; rfl), rfl, rfl, by omega, hV1, hB1, hN1, Lib.hid ?_⟩
              rw [← HI.out, hstep, HX]
              simp [hql]
            case measure => have := Hp.out; simp [intOf] <;> omega
      · have hd1 : decide ((n1 : Int) < (es.length : Int)) = false := by simp; omega
        have HX : refIn ws q (es.drop n) out = some (es.drop n1, out1, false) := by
          rw [← HJ.out, drop_end hlt, refIn]
        by_cases hql : q < ws.length
        · have f1 : decide (p < (ws.length : Int)) = true := by rw [Hp.out]; simp; omega
          have i1 : p < (ws.length : Int) := by rw [Hp.out]; omega
          obtain ⟨y, rfl, _, hbw, hy, Hdy, Hxy⟩ := Rd.int h3 (k := q) hql
          have hy' : wr.cell? ⟨b, o + p.toNat, none⟩ = some (.int .i64 y) := by rw [Hp.out, Int.toNat_natCast]; exact hN1.cell hy (not_none_ _)
          have hbr := cell_lt hy'
          go_wp2_with (at_builtin; refine wp_app _ (.tmp 73) (.tmp 78) 22 (.int .i64 0) 8 wr.heap.size (cs := [.int .i64 y]) rfl rfl Tryz.underlying22 Tryz.info3 rfl (by decide) rfl rfl (by exact heap_alloc_new wr _) (by simp [Value.oneCell']) (hV1.nw ((Ch.refl none_ wr).alloc _)) rfl (fun _ h => h.elim) (by omega) (by omega) ?_; intro A2 n2 c2 w2 Hn2 hV2 hch2 ho2)
          go_roundw
          case rel =>
            have hW := hN1.alloc (.cells #[.int .i64 y] 3)
            refine ⟨q+1, n1, _, out1 ++ [y], by omega, hn1, Lib.hid (by rw [Hp.out]; rfl), rfl, rfl, by rw [List.length_append, List.length_singleton]; omega, hV2, own_next hB1 hW.size ho2, Nw.own hW hch2 hB1, Lib.hid ?_⟩
            rw [← HI.out, hstep, HX]
            have hy0 : ws.getD q 0 = y := by rw [List.getD_eq_getElem?_getD, Hxy.out]; rfl
            simp only [hy0, hql, and_self, if_true]
          case measure => have := Hp.out; simp [intOf] <;> omega
        · have f1 : decide (p < (ws.length : Int)) = false := by rw [Hp.out]; simp; omega
          go_wp2
          go_roundw
          case rel =>
            refine ⟨q+1, n1, _, out1, by omega, hn1, Lib.hid (by rw [Hp.out]; rfl), rfl, rfl, by omega, hV1, hB1, hN1, Lib.hid ?_⟩
            rw [← HI.out, hstep, HX]
            simp [hql]
          case measure => have := Hp.out; simp [intOf] <;> omega
    · rw [if_pos rfl] at HJ
      have HX : refIn ws q (es.drop n) out = some (es.drop n1, out1, true) := HJ.out.symm
      by_cases hlt : n1 < es.length
      · have hd1 : decide ((n1 : Int) < (es.length : Int)) = true := by simp; omega
        obtain ⟨x, rfl, _, hbl, hx0, hx1, hx2, Hd, Hx⟩ := Rd.ed h3' hlt
        obtain ⟨xo, xa, xt⟩ := x
        simp only at hx0 hx1 hx2
        replace hx0 := hN1.cell hx0 (not_none_ _)
        replace hx1 := hN1.cell hx1 (not_none_ _)
        replace hx2 := hN1.cell hx2 (not_none_ _)
        replace hbl := cell_lt hx0
        by_cases cq : xa = p
        · have e5 : (xa == p) = true := by simpa using cq
          have Hcq := Lib.hid cq; clear cq
          go_wp2
          go_roundw
          case rel =>
            refine ⟨q+1, n1, _, out1, by omega, hn1, Lib.hid (by rw [Hp.out]; rfl), rfl, rfl, by omega, hV1, hB1, hN1, Lib.hid ?_⟩
            rw [← HI.out, hstep, HX]
            simp
          case measure => have := Hp.out; simp [intOf] <;> omega
        · have e5 : (xa == p) = false := by simpa using cq
          have Hcq := Lib.hid cq; clear cq
          go_wp2
          go_roundw
          case rel =>
            refine ⟨q+1, n1, _, out1, by omega, hn1, Lib.hid (by rw [Hp.out]; rfl), rfl, rfl, by omega, hV1, hB1, hN1, Lib.hid ?_⟩
            rw [← HI.out, hstep, HX]
            simp
          case measure => have := Hp.out; simp [intOf] <;> omega
      · have hd1 : decide ((n1 : Int) < (es.length : Int)) = false := by simp; omega
        go_wp2
        go_roundw
        case rel =>
          refine ⟨q+1, n1, _, out1, by omega, hn1, Lib.hid (by rw [Hp.out]; rfl), rfl, rfl, by omega, hV1, hB1, hN1, Lib.hid ?_⟩
          rw [← HI.out, hstep, HX]
          simp
        case measure => have := Hp.out; simp [intOf] <;> omega
  · have hd : decide (p ≤ (ws.length : Int)) = false := by rw [Hp.out]; simp; omega
    have hfin : refR ws es = ((es.drop n).isEmpty, out) := by
      unfold refR
      rw [← HI.out, show ws.length + 1 - q = 0 by omega]
      rfl
    go_wp2
    go_ret2
    rw [hfin]
    refine ⟨_, ?_, hN, hV.sl (fun _ _ => trivial) (fun _ _ => trivial)⟩
    have hb : ((n : Int) == (es.length : Int)) = (es.drop n).isEmpty := by
      rw [Bool.eq_iff_iff]
      simp [List.isEmpty_iff, List.drop_eq_nil_iff]
      omega
    show Ending.returned (Value.tuple #[u6, Value.bool ((n : Int) == (es.length : Int))]) = Ending.returned (Value.tuple #[u6, Value.bool (List.drop n es).isEmpty])
    rw [hb]
end Go.Proofs.YtgflhpfeghplpaaGreatDoor
