/- A statement whose order is open: the proof. -/
import Derived.Test.YtgflhpfeghplpaaGreatDoorEv13
set_option maxRecDepth 100000
namespace Go.Proofs.YtgflhpfeghplpaaGreatDoor
open Go.RowKit
namespace Ev
def RT (ρ : Rho) (n : Nat) (t : Tm) (a : Act) : Prop := a.tmps.size = n ∧ a.defers = [] ∧ ∀ x, RV ρ ((t.get deep x).getD undefV) (a.tmps.getD x undef)
section
variable {C : Cfg} {call : CallT} {prot : List Nat} {n : Nat} {ops : Array Oper} {ps : List PItem} {T : Nat → Tm} {S : Nat → AW} {O : Nat → Oper} {V : Nat → Value} {B : Nat → List Nat} {H : Nat → List (Nat × List Nat)}
variable {base : World} {ρ ρ' ρ0 : Rho} {a : Act} {w : World} {t : Tm} {o : Oper}
theorem undef_inv {v : Value} (h : RV ρ undefV v) : v = undefV := by
  obtain ⟨cs, rfl, hl⟩ := h.tuple_inv
  have h1 : cs.toList = [] := hl.of_nil
  have : cs = #[] := by rw [← Array.toList_inj]; exact h1
  rw [this]; rfl
theorem RE_only (hw : ∀ g, g < C.G → ρ g = some (g, 0, 0)) (h : ∀ u ∈ o.looksAt ops, RV ρ ((t.get deep u).getD undefV) (a.tmps.getD u undef)) : RE ρ (only o (evalO C t)) a.eval := by
  intro x v hv
  unfold only at hv
  split at hv
  · rename_i u
    split at hv
    · rename_i hu
      simp only [evalO, Option.some.injEq] at hv
      subst hv
      refine h u ?_
      obtain ⟨y, hy, hyu⟩ := List.any_eq_true.1 hu
      unfold Oper.looksAt
      refine List.mem_append.2 (.inl (List.mem_filterMap.2 ⟨y, hy, ?_⟩))
      cases y <;> simp at hyu ⊢
      exact hyu
    · cases hv
  · cases x with
    | tmp u => rename_i hne; exact absurd rfl (hne u)
    | const c =>
      simp only [evalO] at hv
      obtain ⟨hc, hv⟩ := cond_some hv
      cases hv
      exact RV.closed hc
    | global g =>
      simp only [evalO] at hv
      obtain ⟨hc, hv⟩ := cond_some hv
      cases hv
      have hg : g < C.G := by simpa [Nat.blt_eq] using hc
      have := RV.ptr (o := 0) (hw g hg)
      simpa [Act.eval] using this
    | func f =>
      simp only [evalO, Option.some.injEq] at hv
      subst hv
      exact RV.closed0 rfl
theorem RE_all (hw : ∀ g, g < C.G → ρ g = some (g, 0, 0)) (h : ∀ u, RV ρ ((t.get deep u).getD undefV) (a.tmps.getD u undef)) : RE ρ (evalO C t) a.eval := by
  intro x v hv
  cases x with
  | tmp u =>
    simp only [evalO, Option.some.injEq] at hv
    subst hv
    exact h u
  | const c =>
    simp only [evalO] at hv
    obtain ⟨hc, hv⟩ := cond_some hv
    cases hv
    exact RV.closed hc
  | global g =>
    simp only [evalO] at hv
    obtain ⟨hc, hv⟩ := cond_some hv
    cases hv
    have hg : g < C.G := by simpa [Nat.blt_eq] using hc
    have := RV.ptr (o := 0) (hw g hg)
    simpa [Act.eval] using this
  | func f =>
    simp only [evalO, Option.some.injEq] at hv
    subst hv
    exact RV.closed0 rfl
theorem want_eq (h : ∀ u ∈ o.looksAt ops, RV ρ ((t.get deep u).getD undefV) (a.tmps.getD u undef)) : Region.wanted o (yielded ops a.tmps) = want t ops o := by
  unfold Region.wanted want
  cases hg : o.guard with
  | none => rfl
  | some p =>
    obtain ⟨j, wt⟩ := p
    simp only
    unfold yielded
    cases hd : (ops[j]?).bind (·.dst) with
    | none => rfl
    | some d =>
      simp only [Option.bind_some]
      have hr := h d (by
        unfold Oper.looksAt
        refine List.mem_append.2 (.inr ?_)
        rw [hg]
        simp [hd])
      cases hx : t.get deep d with
      | none =>
        rw [hx] at hr
        simp only [Option.getD_none] at hr
        have hu : a.tmps.getD d undef = undef := undef_inv hr
        cases ht : a.tmps[d]? with
        | none => rfl
        | some y =>
          have : a.tmps.getD d undef = y := by simp [Array.getD_eq_getD_getElem?, ht]
          rw [this] at hu
          subst hu
          rfl
      | some x =>
        rw [hx] at hr
        simp only [Option.getD_some] at hr
        cases ht : a.tmps[d]? with
        | none =>
          have : a.tmps.getD d undef = undef := by simp [Array.getD_eq_getD_getElem?, ht]
          rw [this] at hr
          cases x <;> first | rfl | (cases hr; done)
        | some y =>
          have : a.tmps.getD d undef = y := by simp [Array.getD_eq_getD_getElem?, ht]
          rw [this] at hr
          cases hr with
          | scalar h => cases x <;> first | rfl | (simp)
          | _ => rfl
theorem put_tm {t' : Tm} {d : Option Tmp} {v vc : Value} (hp : put n t d v = some t') (hs : a.tmps.size = n) :
    (a.put d vc).tmps.size = n ∧ (∀ u, d = some u → (a.put d vc).tmps.getD u undef = vc) ∧ (∀ u, d ≠ some u → (a.put d vc).tmps.getD u undef = a.tmps.getD u undef) ∧ (a.put d vc).defers = a.defers := by
  unfold put at hp
  unfold Act.put
  cases d with
  | none => exact ⟨hs, fun u h => by (cases h), fun u _ => rfl, rfl⟩
  | some d =>
    obtain ⟨hb, _⟩ := cond_some hp
    have hdn : d < n := by simpa [Nat.blt_eq] using hb
    refine ⟨by simpa using hs, fun u h => ?_, fun u h => ?_, rfl⟩
    · cases h
      simp only [Array.getD_eq_getD_getElem?]
      rw [Array.getElem?_setIfInBounds_self_of_lt (by rw [hs]; exact hdn)]
      rfl
    · simp only [Array.getD_eq_getD_getElem?]
      rw [Array.getElem?_setIfInBounds_ne (fun e => h (by rw [e]))]
def innL (ps : List PItem) (L : Array Bool) (r : Nat) : Bool := match ps[r]? with
  | some y => L.getD y.i false
  | none => false
theorem innL_some {L : Array Bool} {r : Nat} {y : PItem} (h : ps[r]? = some y) : innL ps L r = L.getD y.i false := by simp [innL, h]
theorem next_le' (hcall : CallOk C call) (htr : Trc C call prot n ops ps T S O V B H) : ∀ k p, p + k ≤ ps.length → (S p).next ≤ (S (p + k)).next
  | 0, p, _ => Nat.le_refl _
  | k + 1, p, h => by
    have ih := next_le' hcall htr k p (by omega)
    have hx : ps[p + k]? = some ps[p + k] := List.getElem?_eq_getElem (by omega)
    exact Nat.le_trans ih (step_kept hcall (htr.st _ _ hx)).1.1
theorem next_mono (hcall : CallOk C call) (htr : Trc C call prot n ops ps T S O V B H) {p q : Nat} (h : p ≤ q) (hq : q ≤ ps.length) : (S p).next ≤ (S q).next := by
  have := next_le' hcall htr (q - p) p (by omega)
  rwa [show p + (q - p) = q by omega] at this
theorem mem_hist (htr : Trc C call prot n ops ps T S O V B H) {p : Nat} {x : PItem} (hx : ps[p]? = some x) (he : x.isE = false) : ∀ k, p + 1 + k ≤ ps.length → (x.i, B p) ∈ H (p + 1 + k)
  | 0, _ => by rw [Nat.add_zero, htr.hs p x hx, he]; simp
  | k + 1, h => by
    have ih := mem_hist htr hx he k (by omega)
    have hy : ps[p + 1 + k]? = some ps[p + 1 + k] := List.getElem?_eq_getElem (by omega)
    show (x.i, B p) ∈ H (p + 1 + k + 1)
    rw [htr.hs _ _ hy]
    cases (ps[p + 1 + k]).isE with
    | true => exact ih
    | false => exact List.mem_cons_of_mem _ ih
theorem chain (hcall : CallOk C call) (htr : Trc C call prot n ops ps T S O V B H) (hflag : ∀ p x, ps[p]? = some x → x.isE = isE (O p).op) {p : Nat} {x : PItem} (hx : ps[p]? = some x) (he : x.isE = false) {b : Nat} (hb : b ∈ B p) (hl : b < (S (p + 1)).next) :
    ∀ k, p + 1 + k ≤ ps.length → (∀ r y, p < r → r < p + 1 + k → ps[r]? = some y → y.isE = true → y.pend.any (fun j => Nat.beq x.i j) = true) → (S (p + 1 + k)).get b = (S (p + 1)).get b
  | 0, _, _ => rfl
  | k + 1, h, hp => by
    have ih := chain hcall htr hflag hx he hb hl k (by omega) (fun r y h1 h2 => hp r y h1 (by omega))
    have hy : ps[p + 1 + k]? = some ps[p + 1 + k] := List.getElem?_eq_getElem (by omega)
    have hst := htr.st _ _ hy
    have hk := step_kept hcall hst
    have hlt : b < (S (p + 1 + k)).next := Nat.lt_of_lt_of_le hl (next_mono hcall htr (by omega) (by omega))
    show (S (p + 1 + k + 1)).get b = _
    rw [← ih]
    cases hey : (ps[p + 1 + k]).isE with
    | false => exact hk.2 (by rw [← hflag _ _ hy]; exact hey) b hlt
    | true =>
      rw [hey] at hk
      exact hk.1.2 b (List.mem_append.2 (.inl (mem_touched (mem_hist htr hx he k (by omega)) hb (hp _ _ (by omega) (by omega) hy hey)))) hlt
/-- From a place on to the next operation that has an effect. -/
theorem advance (hcall : CallOk C call) (htr : Trc C call prot n ops ps T S O V B H) (hflag : ∀ p x, ps[p]? = some x → x.isE = isE (O p).op) : ∀ k p, p + k = ps.length → RW C base ρ (S p) w →
    ∃ q, p ≤ q ∧ q ≤ ps.length ∧ (∀ r x, p ≤ r → r < q → ps[r]? = some x → x.isE = false) ∧ (q = ps.length ∨ ∃ x, ps[q]? = some x ∧ x.isE = true) ∧ RW C base ρ (S q) w
  | 0, p, h, hw => ⟨p, Nat.le_refl _, by omega, fun r x h1 h2 => by omega, .inl (by omega), hw⟩
  | k + 1, p, h, hw => by
    have hx : ps[p]? = some ps[p] := List.getElem?_eq_getElem (by omega)
    cases he : (ps[p]).isE with
    | true => exact ⟨p, Nat.le_refl _, by omega, fun r x h1 h2 => by omega, .inr ⟨_, hx, he⟩, hw⟩
    | false =>
      have hst := htr.st _ _ hx
      have hw1 : RW C base ρ (S (p + 1)) w := by
        rcases step_V (by rw [← hflag _ _ hx]; exact he) hst with ⟨_, _, e⟩ | ⟨_, r, _, _, _, h4⟩
        · rw [e]; exact hw
        · rcases h4 with ⟨_, e, _⟩ | ⟨ob, _, e, _⟩
          · rw [e]; exact hw
          · rw [e]; exact hw.push ob
      obtain ⟨q, h1, h2, h3, h4, h5⟩ := advance hcall htr hflag k (p + 1) (by omega) hw1
      refine ⟨q, by omega, h2, fun r x hr1 hr2 hrx => ?_, h4, h5⟩
      by_cases e : r = p
      · subst e
        rw [hx] at hrx
        cases hrx
        exact he
      · exact h3 r x (by omega) hr2 hrx
structure Inv (C : Cfg) (n : Nat) (ops : Array Oper) (ps : List PItem) (T : Nat → Tm) (S : Nat → AW) (O : Nat → Oper) (V : Nat → Value) (base : World) (ρ0 : Rho) (q : Nat) (ρ : Rho) (L : Array Bool) (a : Act) (w : World) : Prop where
  size : L.size = ops.size
  closed : Closed ops L
  le : q ≤ ps.length
  before : ∀ p x, p < q → ps[p]? = some x → x.isE = true → Lst L x.i
  at_ : q = ps.length ∨ ∃ x, ps[q]? = some x ∧ x.isE = true
  after : ∀ p x, q ≤ p → ps[p]? = some x → ¬ Lst L x.i
  rw_ : RW C base ρ (S q) w
  hole : ∀ p x, p < q → ps[p]? = some x → x.isE = false → ¬ Lst L x.i → (S (p + 1)).next = (S p).next + 1 → ρ (S p).next = none
  tsize : a.tmps.size = n
  defers : a.defers = []
  tm : ∀ x, RV ρ (cur O V (innL ps L) (T 0) x ps.length) (a.tmps.getD x undef)
  mono : Rle ρ0 ρ
  fr : ∀ b, b < (S 0).next → ρ b = ρ0 b
theorem countP_lt {p p' : Nat → Bool} {i : Nat} (hi : p i = true) (hi' : p' i = false) (hle : ∀ j, p' j = true → p j = true) : ∀ l : List Nat, l.countP p' ≤ l.countP p ∧ (i ∈ l → l.countP p' < l.countP p)
  | [] => ⟨Nat.le_refl _, fun h => by simp at h⟩
  | x :: l => by
    have ih := countP_lt hi hi' hle l
    simp only [List.countP_cons]
    have hx := hle x
    refine ⟨?_, fun h => ?_⟩
    · cases h1 : p' x <;> cases h2 : p x <;> simp_all <;> omega
    · rcases List.mem_cons.1 h with rfl | h
      · rw [hi, hi']; simp; omega
      · have := ih.2 h
        cases h1 : p' x <;> cases h2 : p x <;> simp_all <;> omega
def cnt (ops : Array Oper) (L : Array Bool) : Nat := (List.range ops.size).countP (fun i => !L.getD i false)
theorem lst_set {L : Array Bool} {i j : Nat} (hi : i < L.size) : (L.setIfInBounds i true).getD j false = if j = i then true else L.getD j false := by
  simp only [Array.getD_eq_getD_getElem?]
  by_cases e : j = i
  · subst e
    rw [if_pos rfl, Array.getElem?_setIfInBounds_self_of_lt hi]
    rfl
  · rw [if_neg e, Array.getElem?_setIfInBounds_ne (Ne.symm e)]
theorem cnt_set {L : Array Bool} {i : Nat} (hs : L.size = ops.size) (hi : i < ops.size) (hl : ¬ Lst L i) : cnt ops (L.setIfInBounds i true) < cnt ops L := by
  unfold cnt
  refine (countP_lt (i := i) ?_ ?_ ?_ (List.range ops.size)).2 (List.mem_range.2 hi)
  · unfold Lst at hl; simpa using hl
  · simp [lst_set (L := L) (i := i) (j := i) (by omega)]
  · intro j hj
    rw [lst_set (by omega)] at hj
    by_cases e : j = i
    · rw [if_pos e] at hj; cases hj
    · rwa [if_neg e] at hj
end
end Ev
end Go.Proofs.YtgflhpfeghplpaaGreatDoor
