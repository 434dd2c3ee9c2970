/- Calls. -/
import Derived.Test.YtgflhpfeghplpaaGreatDoorEv16
set_option maxRecDepth 100000
namespace Go.Proofs.YtgflhpfeghplpaaGreatDoor
open Go.RowKit
namespace Ev
section
variable {C : Cfg} {call : CallT} {prot : List Nat} {n : Nat} {base : World} {ρ ρ' ρ0 : Rho} {a : Act} {w : World} {t t' : Tm} {s s' : AW}
theorem results_list (hT : ∀ x, RV ρ ((t.get deep x).getD undefV) (a.tmps.getD x undef)) (hw : RW C base ρ s w) : ∀ (l : List ResultVar) (vs : List Value), resultsV C t s l = some vs →
    ∃ us, RL ρ vs us ∧ (l.mapM (fun | .tmp t => pure (a.tmps.getD t undef) | .cell x ty => do loadVar ty (← asAddr (a.tmps.getD x undef)) : ResultVar → Sem Value)).run C.P w = .ok us w
  | [], vs, h => by
    simp only [resultsV, Option.some.injEq] at h
    subst h
    exact ⟨[], RL.nil, rfl⟩
  | .tmp i :: r, vs, h => by
    unfold resultsV at h
    obtain ⟨vs', h1, h⟩ := bind_some h
    cases h
    obtain ⟨us, h2, h3⟩ := results_list hT hw r vs' h1
    refine ⟨_ :: us, RL.cons (hT i) h2, ?_⟩
    rw [List.mapM_cons]
    exact rb (a := a.tmps.getD i undef) (w1 := w) rfl (rb h3 rfl)
  | .cell x ty :: r, vs, h => by
    unfold resultsV at h
    have hx := hT x
    split at h
    · rename_i b o hv
      obtain ⟨v, h0, h⟩ := bind_some h
      obtain ⟨vs', h1, h⟩ := bind_some h
      cases h
      rw [hv] at hx
      obtain ⟨c, d, l, hb, e⟩ := hx.ptr_inv
      obtain ⟨vc, g1, g2⟩ := loadV_ok hw hb h0
      obtain ⟨us, h2, h3⟩ := results_list hT hw r vs' h1
      refine ⟨vc :: us, RL.cons g2 h2, ?_⟩
      rw [List.mapM_cons]
      refine rb (a := vc) (w1 := w) ?_ (rb h3 rfl)
      show (do loadVar ty (← asAddr (a.tmps.getD x undef)) : Sem Value).run C.P w = _
      rw [e]
      exact rb (a := (⟨c, d + o, none⟩ : Addr)) (w1 := w) rfl g1
    · cases h
def tup (vs : List Value) : Value := match vs with
  | [v] => v
  | vs => .tuple vs.toArray
theorem results_ok (hT : ∀ x, RV ρ ((t.get deep x).getD undefV) (a.tmps.getD x undef)) (hw : RW C base ρ s w) {fn : Func} {vs : List Value} {v : Value} (h : resultsV C t s fn.results.toList = some vs)
    (hv : tup vs = v) : ∃ u, (results fn a.tmps).run C.P w = .ok u w ∧ RV ρ v u := by
  obtain ⟨us, h1, h2⟩ := results_list hT hw _ _ h
  have h3 : (results fn a.tmps).run C.P w = .ok (if h : us.toArray.size = 1 then us.toArray[0] else .tuple us.toArray) w := by
    unfold results
    refine rb (a := us.toArray) (w1 := w) ?_ rfl
    rw [Array.mapM_eq_mapM_toList, Sem.run_map]
    exact congrArg (fun (r : Result (List Value)) => r.andThen fun a w' => Result.ok a.toArray w') h2
  refine ⟨_, h3, ?_⟩
  match vs, us, h1, hv with
  | [], us, h1, hv => rw [h1.of_nil, ← hv]; exact RV.tuple_l RL.nil
  | [x], us, h1, hv =>
    obtain ⟨y, us', rfl, hy, hr⟩ := h1.uncons
    rw [hr.of_nil, ← hv]
    exact hy
  | x :: y :: r, us, h1, hv =>
    have hl := h1.1
    simp only [List.length_cons] at hl
    rw [dif_neg (by simp; omega), ← hv]
    exact RV.tuple_l h1
theorem args0_get : ∀ (xs : List Value) (k : Nat) (t : Tm) (i : Nat), k + xs.length ≤ 20000 → ((args0 xs k t).get deep i) = if k ≤ i ∧ i < k + xs.length then xs[i - k]? else t.get deep i
  | [], k, t, i, h => by
    rw [if_neg (by simp only [List.length_nil]; omega)]; rfl
  | v :: r, k, t, i, h => by
    simp only [List.length_cons] at h
    unfold args0
    rw [args0_get r (k + 1) _ i (by omega)]
    by_cases hi : i = k
    · subst hi
      rw [if_neg (by omega), if_pos (by simp only [List.length_cons]; omega)]
      rw [get_set_self deep _ i _ (by
        rw [show (2 : Nat) ^ deep = 18446744073709551616 by rfl]
        omega)]
      rw [Nat.sub_self]
      rfl
    · by_cases hin : k + 1 ≤ i ∧ i < k + 1 + r.length
      · rw [if_pos hin, if_pos (by simp only [List.length_cons]; omega)]
        rw [show i - k = (i - (k + 1)) + 1 by omega]
        rfl
      · rw [if_neg hin, if_neg (by simp only [List.length_cons]; omega), get_set_ne _ _ _ _ _ (Ne.symm hi)]
def fnOk (C : Cfg) (f : FuncId) : Bool := match C.P.funcs[f]? with
  | some fn => !(fn.name == "runtime.NumGoroutine") && (match fn.body with
    | some c => codeOk C f c
    | none => false)
  | none => false
theorem callFunc_ok {f : FuncId} (h : fnOk C f = true) (xc : Array Value) (w : World) : (callFunc f xc).run C.P w = .ok (.enter f xc) w := by
  unfold fnOk at h
  split at h
  · rename_i fn hf
    simp only [Bool.and_eq_true, Bool.not_eq_true'] at h
    obtain ⟨h1, h2⟩ := h
    split at h2
    · rename_i c hb
      unfold callFunc
      refine rb (run_program _ _) ?_
      simp only [hf]
      rw [if_neg (by rw [h1]; simp), if_neg (by simp [hb])]
      rfl
    · cases h2
  · cases h
def Ret (C : Cfg) (base : World) (ρ : Rho) (s s' : AW) (v : Value) : Ending → World → Prop := fun e w' =>
  ∃ vc ρ', e = .returned vc ∧ Rle ρ ρ' ∧ RV ρ' v vc ∧ RW C base ρ' s' w' ∧ ∀ b, b < s.next → ρ' b = ρ b
/-- What is asked of a summary. -/
def SpOk (C : Cfg) : Prop := ∀ f g, C.sp f = some g → (∀ (xc : Array Value) (w : World), (callFunc f xc).run C.P w = .ok (.enter f xc) w) ∧
  ∀ call : CallT, CallOk C call → ∀ (prot : List Nat) (xs : List Value) (s : AW) (v : Value) (s' : AW), g call prot xs s = some (v, s') →
    Kept prot s s' ∧ ∀ (base : World) (ρ : Rho) (w : World) (xc : Array Value), RW C base ρ s w → RL ρ xs xc.toList → Calls C.P f xc w (Ret C base ρ s s' v)
theorem body_ok (hm : C.P.follows .mixedOrders = true) (hcall : CallOk C call) {f : FuncId} (hok : fnOk C f = true) {xs : List Value} {v : Value} (h : bodyF C call f prot xs s = some (v, s')) :
    Kept prot s s' ∧ ∀ (base : World) (ρ : Rho) (w : World) (xc : Array Value), RW C base ρ s w → RL ρ xs xc.toList → Calls C.P f xc w (Ret C base ρ s s' v) := by
  unfold fnOk at hok
  unfold bodyF at h
  split at h
  · rename_i fn hf
    rw [hf] at hok
    simp only [Bool.and_eq_true] at hok
    have hok := hok.2
    split at h
    · rename_i c hbody
      rw [hbody] at hok
      simp only at hok
      obtain ⟨hle, h⟩ := cond_some h
      simp only [Bool.and_eq_true] at hle
      have hle1 := Nat.le_of_ble_eq_true hle.1
      have hle2 := Nat.le_of_ble_eq_true hle.2
      have key : ∀ {ex : Ex} {t' : Tm} {s1 : AW} {vs : List Value}, (∀ id, ex ≠ .exit id) → code C call f prot fn.ntmps fuel c (args0 xs 0 .leaf) s = some (ex, t', s1) → resultsV C t' s1 fn.results.toList = some vs →
          tup vs = v → s1 = s' →
          Kept prot s s' ∧ ∀ (base : World) (ρ : Rho) (w : World) (xc : Array Value), RW C base ρ s w → RL ρ xs xc.toList → Calls C.P f xc w (Ret C base ρ s s' v) := by
        intro ex t' s1 vs hex hcode hres hv hs
        subst hs
        have hc := fun base => code_ok (base := base) hm hcall hle2 fuel c _ s ex t' s1 hcode hok
        refine ⟨(hc default).1, fun base ρ w xc hw hr => ?_⟩
        have hlen : xc.size = xs.length := by have := hr.1; simpa using this.symm
        refine calls_of_wp hf hbody (wp_mono ((hc base).2 ρ _ w ⟨?_, rfl, fun i => ?_⟩ hw).1 (fun e' a' w' hp => ?_))
        · simp; omega
        · rw [args0_get xs 0 .leaf i (by omega)]
          by_cases hi : i < xs.length
          · rw [if_pos ⟨Nat.zero_le _, by omega⟩, Nat.sub_zero]
            have hx : xs[i]? = some xs[i] := List.getElem?_eq_getElem hi
            obtain ⟨y, hy, hrv⟩ := hr.get hx
            rw [hx]
            have : (xc ++ Array.replicate (fn.ntmps - xc.size) undef).getD i undef = y := by
              simp only [Array.getD_eq_getD_getElem?]
              rw [Array.getElem?_append_left (by omega)]
              rw [show xc[i]? = some y by simpa using hy]
              rfl
            rw [this]
            exact hrv
          · rw [if_neg (by omega), get_leaf]
            have : (xc ++ Array.replicate (fn.ntmps - xc.size) undef).getD i undef = undef := by
              simp only [Array.getD_eq_getD_getElem?]
              rw [Array.getElem?_append_right (by omega), Array.getElem?_replicate]
              split <;> rfl
            rw [this]
            exact RV.undef
        · obtain ⟨rfl, ρ', p1, p2, p3, p4⟩ := hp
          obtain ⟨u, hu, hru⟩ := results_ok p2.2.2 p3 hres hv
          have fin : a'.defers = [] ∧ ∃ v1, (results fn a'.tmps).run C.P w' = .ok v1 w' ∧ Ret C base ρ s s1 v (Ending.returned v1) w' :=
            ⟨p2.2.1, u, hu, u, ρ', rfl, p1, hru, p3, p4⟩
          cases ex with
          | normal => exact fin
          | ret => exact fin
          | exit id => exact absurd rfl (hex id)
      cases hcode : code C call f prot fn.ntmps fuel c (args0 xs 0 .leaf) s with
      | none => rw [hcode] at h; cases h
      | some p =>
        obtain ⟨ex, t', s1⟩ := p
        rw [hcode] at h
        have go : (∀ id, ex ≠ .exit id) → (match resultsV C t' s1 fn.results.toList with
            | some [v] => some (v, s1)
            | some vs => some (.tuple vs.toArray, s1)
            | none => none) = some (v, s') → _ := fun hex h => by
          split at h
          · rename_i v1 hres
            cases h
            exact key hex hcode hres rfl rfl
          · rename_i vs hne1 hres
            cases h
            refine key hex hcode hres ?_ rfl
            unfold tup
            split
            · exact absurd rfl (hne1 _)
            · rfl
          · cases h
        cases ex with
        | exit id => cases h
        | normal => exact go (by simp) h
        | ret => exact go (by simp) h
    · cases h
  · cases h
theorem callF_ok (hm : C.P.follows .mixedOrders = true) (hX : ExtOk C) (hF : ∀ f, C.mask.testBit f = true → fnOk C f = true) (hS : SpOk C) : ∀ k, CallOk C (callF C k) := by
  intro k
  induction k with
  | zero => exact ⟨hX, fun f prot xs s v s' h => by cases h⟩
  | succ k ih =>
    refine ⟨hX, fun f prot xs s v s' h => ?_⟩
    unfold callF at h
    split at h
    · rename_i g hg
      obtain ⟨h1, h2⟩ := hS f g hg
      obtain ⟨h3, h4⟩ := h2 (callF C k) ih prot xs s v s' h
      exact ⟨h3, h1, h4⟩
    · obtain ⟨hb, h⟩ := cond_some h
      have hok := hF f hb
      obtain ⟨h3, h4⟩ := body_ok hm ih hok h
      exact ⟨h3, callFunc_ok hok, h4⟩
end
end Ev
end Go.Proofs.YtgflhpfeghplpaaGreatDoor
