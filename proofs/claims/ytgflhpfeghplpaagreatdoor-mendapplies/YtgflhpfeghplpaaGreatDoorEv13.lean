/- A statement whose order is open: whatever order is drawn, it comes to what the evaluator's order comes to. -/
import Derived.Test.YtgflhpfeghplpaaGreatDoorEv12
import Derived.Test.YtgflhpfeghplpaaGreatDoorEv2
set_option maxRecDepth 100000
namespace Go.Proofs.YtgflhpfeghplpaaGreatDoor
open Go.RowKit
namespace Ev

/-! ### 1. What is asked of an order -/
def pairOk (ops : Array Oper) (acc : List (Nat × Nat)) (x y : PItem) : Bool :=
  !(Nat.beq x.i y.i) && (match ops[x.i]?, ops[y.i]? with
   | some a, some b => (ancOf acc y.i).testBit x.i || (Oper.apart ops a b && !x.isE && (!y.isE || y.pend.any (fun k => Nat.beq x.i k)))
   | _, _ => false)
def pairsOk (ops : Array Oper) (acc : List (Nat × Nat)) : List PItem → Bool
  | [] => true
  | x :: r => r.all (pairOk ops acc x) && pairsOk ops acc r
def topoOk (ops : Array Oper) : List PItem → List Nat → Bool
  | [], _ => true
  | x :: r, seen => (match ops[x.i]? with
    | some o => (o.after.toList.all fun e => !Region.binds .any e || seen.any (fun j => Nat.beq e.on j)) && (x.isE == isE o.op)
    | none => false) && topoOk ops r (x.i :: seen)
def regionOk (ops : Array Oper) (ps : List PItem) : Bool :=
  Nat.beq ps.length ops.size && topoOk ops ps [] && pairsOk ops (ancs ops (ps.map (·.i)) []) ps && (List.range ops.size).all (fun i => ps.any (fun x => Nat.beq x.i i))
def Lst (L : Array Bool) (i : Nat) : Prop := L.getD i false = true
def Closed (ops : Array Oper) (L : Array Bool) : Prop := ∀ i o, Lst L i → ops[i]? = some o → ∀ e ∈ o.after.toList, Region.binds .any e = true → Lst L e.on
theorem pairs_pw {ops : Array Oper} {acc : List (Nat × Nat)} : ∀ {ps : List PItem}, pairsOk ops acc ps = true → ps.Pairwise (fun x y => pairOk ops acc x y = true)
  | [], _ => List.Pairwise.nil
  | x :: r, h => by
    simp only [pairsOk, Bool.and_eq_true, List.all_eq_true] at h
    exact List.Pairwise.cons h.1 (pairs_pw h.2)
theorem pairs_at {ops : Array Oper} {acc : List (Nat × Nat)} {ps : List PItem} (h : pairsOk ops acc ps = true) {p q : Nat} {x y : PItem} (hx : ps[p]? = some x) (hy : ps[q]? = some y) (hpq : p < q) : pairOk ops acc x y = true := by
  have h1 := List.pairwise_iff_getElem.1 (pairs_pw h)
  obtain ⟨hp, rfl⟩ := List.getElem?_eq_some_iff.1 hx
  obtain ⟨hq, rfl⟩ := List.getElem?_eq_some_iff.1 hy
  exact h1 p q hp hq hpq
theorem topo_at {ops : Array Oper} : ∀ {ps : List PItem} {seen : List Nat}, topoOk ops ps seen = true → ∀ {q : Nat} {y : PItem}, ps[q]? = some y →
    ∃ o, ops[y.i]? = some o ∧ y.isE = isE o.op ∧ ∀ e ∈ o.after.toList, Region.binds .any e = true → e.on ∈ seen ∨ ∃ p x, p < q ∧ ps[p]? = some x ∧ x.i = e.on
  | [], _, _, _, _, hy => by simp at hy
  | x :: r, seen, h, q, y, hy => by
    simp only [topoOk, Bool.and_eq_true] at h
    cases q with
    | zero =>
      simp at hy
      subst hy
      have h1 := h.1
      split at h1
      · rename_i o ho
        simp only [Bool.and_eq_true, List.all_eq_true, beq_iff_eq] at h1
        refine ⟨o, ho, h1.2, fun e he hb => .inl ?_⟩
        have := h1.1 e he
        rw [hb] at this
        simp only [Bool.not_true, Bool.false_or, List.any_eq_true] at this
        obtain ⟨j, hj, hje⟩ := this
        rw [Nat.eq_of_beq_eq_true hje]
        exact hj
      · cases h1
    | succ q =>
      simp at hy
      obtain ⟨o, h1, h2, h3⟩ := topo_at h.2 hy
      refine ⟨o, h1, h2, fun e he hb => ?_⟩
      rcases h3 e he hb with hs | ⟨p, z, hp, hz, hi⟩
      · rcases List.mem_cons.1 hs with hh | hh
        · exact .inr ⟨0, x, by omega, rfl, hh.symm⟩
        · exact .inl hh
      · exact .inr ⟨p + 1, z, by omega, by simpa using hz, hi⟩
theorem anc_fold {ops : Array Oper} {L : Array Bool} {acc : List (Nat × Nat)} (hc : Closed ops L) (hacc : ∀ p ∈ acc, ∀ j, p.2.testBit j = true → Lst L p.1 → Lst L j) :
    ∀ (es : List Edge) (m : Nat), (∀ e ∈ es, Region.binds .any e = true → Lst L e.on) → (∀ j, m.testBit j = true → Lst L j) →
      ∀ j, (es.foldl (fun s e => bif Region.binds .any e then (s ||| (1 <<< e.on)) ||| (match acc.find? (fun p => Nat.beq p.1 e.on) with | some p => p.2 | none => 0) else s) m).testBit j = true → Lst L j
  | [], m, _, hm => hm
  | e :: es, m, he, hm => by
    simp only [List.foldl_cons]
    refine anc_fold hc hacc es _ (fun x hx => he x (by simp [hx])) (fun j hj => ?_)
    cases hb : Region.binds .any e with
    | false => rw [hb] at hj; exact hm j hj
    | true =>
      rw [hb] at hj
      simp only [cond_true, Nat.testBit_or, Bool.or_eq_true] at hj
      have hon := he e (by simp) hb
      rcases hj with (hj | hj) | hj
      · exact hm j hj
      · rw [Nat.one_shiftLeft, Nat.testBit_two_pow] at hj
        have : e.on = j := by simpa using hj
        rw [← this]; exact hon
      · split at hj
        · rename_i p hp
          have h1 := List.mem_of_find?_eq_some hp
          have h2 := List.find?_some hp
          have h3 := Nat.eq_of_beq_eq_true h2
          exact hacc p h1 j hj (by rw [h3]; exact hon)
        · simp at hj
theorem ancs_ok {ops : Array Oper} {L : Array Bool} (hc : Closed ops L) : ∀ (l : List Nat) (acc : List (Nat × Nat)), (∀ p ∈ acc, ∀ j, p.2.testBit j = true → Lst L p.1 → Lst L j) →
    ∀ p ∈ ancs ops l acc, ∀ j, p.2.testBit j = true → Lst L p.1 → Lst L j
  | [], acc, h => h
  | i :: r, acc, h => by
    unfold ancs
    refine ancs_ok hc r _ (fun p hp => ?_)
    rcases List.mem_cons.1 hp with rfl | hp
    · intro j hj hi
      simp only at hj hi
      split at hj
      · rename_i o ho
        exact anc_fold hc h o.after.toList 0 (fun e he hb => hc i o hi ho e he hb) (fun j hj => by simp at hj) j hj
      · simp at hj
    · exact h p hp
theorem anc_ok {ops : Array Oper} {L : Array Bool} (hc : Closed ops L) {l : List Nat} {i j : Nat} (h : (ancOf (ancs ops l []) i).testBit j = true) (hi : Lst L i) : Lst L j := by
  unfold ancOf at h
  split at h
  · rename_i p hp
    have h1 := List.mem_of_find?_eq_some hp
    have h2 := List.find?_some hp
    have h3 := Nat.eq_of_beq_eq_true h2
    exact ancs_ok hc l [] (fun p hp => by simp at hp) p h1 j h (by rw [h3]; exact hi)
  · simp at h

/-! ### 2. The evaluator's run, place by place -/
structure Trc (C : Cfg) (call : CallT) (prot : List Nat) (n : Nat) (ops : Array Oper) (ps : List PItem) (T : Nat → Tm) (S : Nat → AW) (O : Nat → Oper) (V : Nat → Value) (B : Nat → List Nat) (H : Nat → List (Nat × List Nat)) : Prop where
  op : ∀ p x, ps[p]? = some x → ops[x.i]? = some (O p)
  st : ∀ p x, ps[p]? = some x → step1 C call (bif x.isE then touched x.pend (H p) ++ prot else prot) (T p) (S p) ops (O p) = some (V p, S (p + 1), B p)
  pt : ∀ p x, ps[p]? = some x → put n (T p) (O p).dst (V p) = some (T (p + 1))
  hs : ∀ p x, ps[p]? = some x → H (p + 1) = bif x.isE then H p else (x.i, B p) :: H p
def cons0 {α : Type} (a : α) (f : Nat → α) : Nat → α
  | 0 => a
  | p + 1 => f p
theorem trc_of {C : Cfg} {call : CallT} {prot : List Nat} {n : Nat} {ops : Array Oper} : ∀ (ps : List PItem) (h : List (Nat × List Nat)) (t : Tm) (s : AW) (t' : Tm) (s' : AW), anyOps C call prot n ops ps h t s = some (t', s') →
    ∃ T S O V B H, Trc C call prot n ops ps T S O V B H ∧ T 0 = t ∧ S 0 = s ∧ H 0 = h ∧ T ps.length = t' ∧ S ps.length = s'
  | [], h, t, s, t', s', e => by
    simp only [anyOps, Option.some.injEq, Prod.mk.injEq] at e
    exact ⟨fun _ => t, fun _ => s, fun _ => default, fun _ => undefV, fun _ => [], fun _ => h, ⟨fun p x hx => by simp at hx, fun p x hx => by simp at hx, fun p x hx => by simp at hx, fun p x hx => by simp at hx⟩, rfl, rfl, rfl, e.1, e.2⟩
  | x :: r, h, t, s, t', s', e => by
    unfold anyOps at e
    obtain ⟨o, ho, e⟩ := bind_some e
    obtain ⟨⟨v, s1, bs⟩, hst, e⟩ := bind_some e
    obtain ⟨t1, ht1, e⟩ := bind_some e
    obtain ⟨T, S, O, V, B, H, htr, hT, hS, hH, hTe, hSe⟩ := trc_of r _ _ _ _ _ e
    refine ⟨cons0 t T, cons0 s S, cons0 o O, cons0 v V, cons0 bs B, cons0 h H, ⟨?_, ?_, ?_, ?_⟩, rfl, rfl, rfl, hTe, hSe⟩
    · intro p y hy
      cases p with
      | zero => simp at hy; subst hy; exact ho
      | succ p => simp at hy; exact htr.op p y hy
    · intro p y hy
      cases p with
      | zero => simp at hy; subst hy; simp only [cons0, hS]; exact hst
      | succ p => simp at hy; exact htr.st p y hy
    · intro p y hy
      cases p with
      | zero => simp at hy; subst hy; simp only [cons0, hT]; exact ht1
      | succ p => simp at hy; exact htr.pt p y hy
    · intro p y hy
      cases p with
      | zero => simp at hy; subst hy; simp only [cons0, hH]
      | succ p => simp at hy; exact htr.hs p y hy
section
variable {C : Cfg} {call : CallT} {prot : List Nat} {n : Nat} {ops : Array Oper} {ps : List PItem} {T : Nat → Tm} {S : Nat → AW} {O : Nat → Oper} {V : Nat → Value} {B : Nat → List Nat} {H : Nat → List (Nat × List Nat)}
theorem step_V {t : Tm} {s s' : AW} {o : Oper} {v : Value} {bs : List Nat} (he : isE o.op = false) (h : step1 C call prot t s ops o = some (v, s', bs)) :
    (want t ops o = false ∧ v = undefV ∧ s' = s) ∨ (want t ops o = true ∧ ∃ r, vop C s.next (evalO C t) s o = some r ∧ v = r.v ∧ (∀ b ∈ r.rd, b < s.next) ∧
      ((r.al = none ∧ s' = s ∧ bs = r.rd) ∨ ∃ ob, r.al = some ob ∧ s' = s.push ob ∧ bs = s.next :: r.rd)) := by
  unfold step1 at h
  cases hw : want t ops o with
  | false =>
    rw [hw] at h
    simp only [cond_false, Option.some.injEq, Prod.mk.injEq] at h
    exact .inl ⟨rfl, h.1.symm, h.2.1.symm⟩
  | true =>
    rw [hw, he] at h
    simp only [cond_true, cond_false] at h
    obtain ⟨r, hr, h⟩ := bind_some h
    obtain ⟨hb, h⟩ := cond_some h
    have hb' : ∀ b ∈ r.rd, b < s.next := fun b hbm => by
      have := List.all_eq_true.1 hb b hbm
      simpa [Nat.blt_eq] using this
    refine .inr ⟨rfl, r, hr, ?_⟩
    split at h
    · rename_i hal
      cases h
      exact ⟨rfl, hb', .inl ⟨hal, rfl, rfl⟩⟩
    · rename_i ob hal
      cases h
      exact ⟨rfl, hb', .inr ⟨ob, hal, rfl, rfl⟩⟩
theorem step_E {t : Tm} {s s' : AW} {o : Oper} {v : Value} {bs : List Nat} (he : isE o.op = true) (h : step1 C call prot t s ops o = some (v, s', bs)) :
    (want t ops o = false ∧ v = undefV ∧ s' = s) ∨ (want t ops o = true ∧ eop C call prot (evalO C t) s o = some (v, s')) := by
  unfold step1 at h
  cases hw : want t ops o with
  | false =>
    rw [hw] at h
    simp only [cond_false, Option.some.injEq, Prod.mk.injEq] at h
    exact .inl ⟨rfl, h.1.symm, h.2.1.symm⟩
  | true =>
    rw [hw, he] at h
    simp only [cond_true] at h
    obtain ⟨⟨v', s1⟩, hr, h⟩ := bind_some h
    cases h
    exact .inr ⟨rfl, hr⟩
theorem step_kept (hcall : CallOk C call) {t : Tm} {s s' : AW} {o : Oper} {v : Value} {bs : List Nat} (h : step1 C call prot t s ops o = some (v, s', bs)) : Kept prot s s' ∧ (isE o.op = false → ∀ b, b < s.next → s'.get b = s.get b) := by
  cases he : isE o.op with
  | false =>
    rcases step_V he h with ⟨_, _, rfl⟩ | ⟨_, r, _, _, _, h4⟩
    · exact ⟨Kept.refl _ _, fun _ b _ => rfl⟩
    · rcases h4 with ⟨_, rfl, _⟩ | ⟨ob, _, rfl, _⟩
      · exact ⟨Kept.refl _ _, fun _ b _ => rfl⟩
      · exact ⟨Kept.push _ _ _, fun _ b hb => AW.get_push_ne (by omega)⟩
  | true =>
    rcases step_E he h with ⟨_, _, rfl⟩ | ⟨_, h4⟩
    · exact ⟨Kept.refl _ _, fun e => by cases e⟩
    · exact ⟨(eop_ok hcall h4).1, fun e => by cases e⟩
theorem mem_touched {pend : List Nat} {i b : Nat} {bs : List Nat} : ∀ {h : List (Nat × List Nat)}, (i, bs) ∈ h → b ∈ bs → pend.any (fun k => Nat.beq i k) = true → b ∈ touched pend h
  | [], h, _, _ => by simp at h
  | (j, cs) :: r, h, hb, hp => by
    unfold touched
    rcases List.mem_cons.1 h with e | h
    · cases e
      rw [hp]
      simp only [cond_true, List.mem_append]
      exact .inl hb
    · have := mem_touched h hb hp
      cases pend.any (fun k => Nat.beq j k) with
      | true => simp only [cond_true, List.mem_append]; exact .inr this
      | false => exact this
/-- The tmps behind the operations that are done. -/
noncomputable def cur (O : Nat → Oper) (V : Nat → Value) (inn : Nat → Bool) (t0 : Tm) (x : Tmp) : Nat → Value
  | 0 => (t0.get deep x).getD undefV
  | p + 1 => if inn p = true ∧ (O p).dst = some x then V p else cur O V inn t0 x p
theorem cur_skip {inn : Nat → Bool} {t0 : Tm} {x : Tmp} {p : Nat} : ∀ k, (∀ r, p ≤ r → r < p + k → (O r).dst = some x → inn r = false) → cur O V inn t0 x (p + k) = cur O V inn t0 x p
  | 0, _ => rfl
  | k + 1, h => by
    have ih := cur_skip (inn := inn) (t0 := t0) k (fun r h1 h2 => h r h1 (by omega))
    show (if inn (p + k) = true ∧ (O (p + k)).dst = some x then V (p + k) else cur O V inn t0 x (p + k)) = _
    rw [if_neg (fun hh => by have := h (p + k) (by omega) (by omega) hh.2; rw [this] at hh; cases hh.1)]
    exact ih
theorem cur_upd_ne {inn inn' : Nat → Bool} {t0 : Tm} {x : Tmp} {p : Nat} (hi : ∀ r, r ≠ p → inn' r = inn r) (hx : (O p).dst ≠ some x) : ∀ q, cur O V inn' t0 x q = cur O V inn t0 x q
  | 0 => rfl
  | q + 1 => by
    unfold cur
    rw [cur_upd_ne hi hx q]
    by_cases e : q = p
    · subst e
      rw [if_neg (fun h => hx h.2), if_neg (fun h => hx h.2)]
    · rw [hi q e]
theorem cur_T (htr : Trc C call prot n ops ps T S O V B H) (hn : n ≤ 10000) {inn : Nat → Bool} {x : Tmp} : ∀ q, q ≤ ps.length → (∀ r, r < q → (O r).dst = some x → inn r = true) → cur O V inn (T 0) x q = ((T q).get deep x).getD undefV
  | 0, _, _ => rfl
  | q + 1, hq, h => by
    have ih := cur_T htr hn q (by omega) (fun r hr => h r (by omega))
    have hx : ps[q]? = some ps[q] := List.getElem?_eq_getElem (by omega)
    have hpt := htr.pt q _ hx
    unfold cur
    rw [ih]
    unfold put at hpt
    split at hpt
    · rename_i hd
      have e0 : T (q + 1) = T q := (Option.some.inj hpt).symm
      rw [if_neg (fun hh => by rw [hd] at hh; cases hh.2), e0]
    · rename_i d hd
      obtain ⟨hdb, hpt'⟩ := cond_some hpt
      have hdn : d < n := by simpa [Nat.blt_eq] using hdb
      have e1 : T (q + 1) = (T q).set deep d (V q) := (Option.some.inj hpt').symm
      have hlt : d + 1 < 2 ^ deep := by
        rw [show (2 : Nat) ^ deep = 18446744073709551616 by rfl]
        exact Nat.lt_of_lt_of_le (Nat.succ_lt_succ hdn) (by omega)
      by_cases e : d = x
      · rw [if_pos ⟨h q (by omega) (by rw [hd, e]), by rw [hd, e]⟩, e1, ← e, get_set_self deep _ d _ hlt]
        rfl
      · rw [if_neg (fun hh => e (by have := hh.2; rw [hd] at this; exact Option.some.inj this)), e1, get_set_ne _ _ _ _ _ e]
end
end Ev
end Go.Proofs.YtgflhpfeghplpaaGreatDoor
