/- What only reckons, reads, or makes a block. -/
import Derived.Test.YtgflhpfeghplpaaGreatDoorEv5
set_option maxRecDepth 100000
namespace Go.Proofs.YtgflhpfeghplpaaGreatDoor
open Go.RowKit
namespace Ev
theorem cond_some {α : Type} {b : Bool} {x : Option α} {r : α} (h : (bif b then x else none) = some r) : b = true ∧ x = some r := by
  cases b with
  | false => cases h
  | true => exact ⟨rfl, h⟩
theorem cond_none {α : Type} {b : Bool} {x : Option α} {r : α} (h : (bif b then none else x) = some r) : b = false ∧ x = some r := by
  cases b with
  | true => cases h
  | false => exact ⟨rfl, h⟩
theorem bind_some {α β : Type} {x : Option α} {f : α → Option β} {r : β} (h : (x >>= f) = some r) : ∃ a, x = some a ∧ f a = some r := Option.bind_eq_some_iff.1 h
def RE (ρ : Rho) (ev : Operand → Option Value) (evc : Operand → Value) : Prop := ∀ x v, ev x = some v → RV ρ v (evc x)
section
variable {C : Cfg} {base : World} {ρ ρ' : Rho} {s s' : AW} {w w' : World} {ev : Operand → Option Value} {evc : Operand → Value} {o : Oper} {nb : Nat} {r : VR}
theorem evals_ok (h : RE ρ ev evc) : ∀ {xs : List Operand} {vs : List Value}, evals ev xs = some vs → RL ρ vs (xs.map evc)
  | [], vs, e => by simp only [evals, Option.some.injEq] at e; subst e; exact RL.nil
  | x :: r, vs, e => by
    obtain ⟨v, hv, e⟩ := bind_some e
    obtain ⟨vs', hv', e⟩ := bind_some e
    cases e
    exact RL.cons (h _ _ hv) (evals_ok h hv')
theorem evals_flat (h : RE ρ ev evc) : ∀ {xs : List Operand} {vs : List Value}, evals ev xs = some vs → vs.all flat = true → ∀ x ∈ xs, (ev x).getD undefV = evc x
  | [], _, _, _ => fun x hx => by cases hx
  | x :: r, vs, e, k => by
    obtain ⟨v, hv, e⟩ := bind_some e
    obtain ⟨vs', hv', e⟩ := bind_some e
    cases e
    simp only [List.all_cons, Bool.and_eq_true] at k
    intro y hy
    rcases List.mem_cons.1 hy with rfl | hy
    · rw [hv]; exact ((h _ _ hv).flat_inv k.1).symm
    · exact evals_flat h hv' k.2 y hy
theorem evalO?_ok (h : RE ρ ev evc) {x : Option Operand} {v : Option Value} (e : evalO? ev x = some v) : (v = none ∧ x.map evc = none) ∨ ∃ a b, v = some a ∧ x.map evc = some b ∧ RV ρ a b := by
  cases x with
  | none => simp only [evalO?, Option.some.injEq] at e; subst e; exact .inl ⟨rfl, rfl⟩
  | some x =>
    simp only [evalO?, Option.map_eq_some_iff] at e
    obtain ⟨a, ha, rfl⟩ := e
    exact .inr ⟨a, _, rfl, rfl, h _ _ ha⟩
def RP (ρ : Rho) : List (Nat × Value) → List (Nat × Value) → Prop
  | [], [] => True
  | (i, v) :: r, (j, u) :: r' => i = j ∧ RV ρ v u ∧ RP ρ r r'
  | _, _ => False
theorem evParts_ok (h : RE ρ ev evc) : ∀ {xs : List (Nat × Operand)} {vs : List (Nat × Value)}, evParts ev xs = some vs → RP ρ vs (xs.map fun p => (p.1, evc p.2))
  | [], vs, e => by simp only [evParts, Option.some.injEq] at e; subst e; trivial
  | (i, x) :: r, vs, e => by
    obtain ⟨v, hv, e⟩ := bind_some e
    obtain ⟨vs', hv', e⟩ := bind_some e
    cases e
    exact ⟨rfl, h _ _ hv, evParts_ok h hv'⟩
/-! ### Operations that look at no address -/
theorem prun_run {α : Type} {P : Program} {m : Sem α} {a : α} (h : prun P m = some a) (w : World) : m.run P w = .ok a w := by
  induction m generalizing w with
  | pure b => simp only [prun, Option.some.injEq] at h; subst h; rfl
  | program k ih => exact ih P h w
  | mark _ k ih => exact ih h w
  | _ => cases h
def vfl : Op → Bool
  | .binOp .. => true
  | .unOp .. => true
  | .convert .. => true
  | .slice .. => true
  | .index .. => true
  | .call { callee := .builtin _, .. } => true
  | _ => false
theorem execOp_congr {f g : Operand → Value} (hv : vfl o.op = true) (h : ∀ x ∈ o.op.operands.toList, f x = g x) : execOp f o = execOp g o := by
  obtain ⟨dst, op, ty, pos, after, guard⟩ := o
  cases op <;> try cases hv
  case binOp op t x y yt =>
    have h1 := h x (by simp [Op.operands]); have h2 := h y (by simp [Op.operands])
    simp only [execOp, h1, h2]
  case unOp op t x =>
    have h1 := h x (by simp [Op.operands])
    simp only [execOp, h1]
  case convert a b x =>
    have h1 := h x (by simp [Op.operands])
    simp only [execOp, h1]
  case slice t x lo hi mx =>
    have h1 := h x (by simp [Op.operands])
    have h2 : lo.map f = lo.map g := by
      cases lo with
      | none => rfl
      | some y => exact congrArg some (h y (by simp [Op.operands]))
    have h3 : hi.map f = hi.map g := by
      cases hi with
      | none => rfl
      | some y => exact congrArg some (h y (by simp [Op.operands]))
    have h4 : mx.map f = mx.map g := by
      cases mx with
      | none => rfl
      | some y => exact congrArg some (h y (by simp [Op.operands]))
    simp only [execOp, h1, h2, h3, h4]
  case index t x i =>
    have h1 := h x (by simp [Op.operands]); have h2 := h i (by simp [Op.operands])
    simp only [execOp, h1, h2]
  case call c =>
    obtain ⟨callee, args, tys⟩ := c
    cases callee <;> try cases hv
    case builtin b =>
      have h1 : args.map f = args.map g := by
        apply Array.map_congr_left
        intro x hx
        exact h x (by simp [Op.operands, Call.operands]; exact hx)
      simp only [execOp, resolve, h1]
theorem vflat_ok (hv : vfl o.op = true) (h : RE ρ ev evc) (e : vflat C ev o = some r) : r.al = none ∧ r.rd = [] ∧ flat r.v = true ∧ (execOp evc o).run C.P w = .ok (.value r.v) w := by
  obtain ⟨vs, h1, e⟩ := bind_some e
  obtain ⟨h2, e⟩ := cond_some e
  have hc := execOp_congr (f := fun x => (ev x).getD undefV) (g := evc) hv (evals_flat h h1 h2)
  split at e
  · rename_i v hp
    obtain ⟨h3, e⟩ := cond_some e
    cases e
    rw [hc] at hp
    exact ⟨rfl, rfl, h3, prun_run hp w⟩
  · cases e
theorem nilEq_ok {d : TypeDesc} {a b a' b' : Value} {t : TypeId} {q : Bool} (hu : C.P.underlying t = some d) (ha : RV ρ a a') (hb : RV ρ b b') (h : nilEq d a b = some q) :
    (Op.equal t a' b').run C.P w = .ok q w ∧ (∀ (op : BinOp) (x y : Operand), (eqGuard op t x y a' b').run C.P w = .ok () w) ∧
    (binOp .eql t a' b' = (do pure (.bool (← Op.equal t a' b')))) ∧ (binOp .neq t a' b' = (do pure (.bool (!(← Op.equal t a' b'))))) := by
  have guard : ∀ {a' b' : Value}, (a' matches .nilIface | .agg _) = false → ∀ (op : BinOp) (x y : Operand), (eqGuard op t x y a' b').run C.P w = .ok () w := by
    intro a' b' hm op x y
    unfold eqGuard
    cases op <;> cases a' <;> first | rfl | cases hm | (cases b' <;> rfl)
  unfold nilEq at h
  split at h <;> try cases h
  case h_1 c =>
    cases ha with
    | scalar hh => cases hh
    | pnil =>
      split at h <;> cases h
      have e : b' = .pointer none ∧ c = none ∨ ∃ x y, c = some x ∧ b' = .pointer (some y) := by
        cases hb with
        | scalar hh => cases hh
        | pnil => exact .inl ⟨rfl, rfl⟩
        | ptr _ => exact .inr ⟨_, _, rfl, rfl⟩
      rcases e with ⟨rfl, rfl⟩ | ⟨x, y, rfl, rfl⟩ <;> exact ⟨rb (r_under hu) rfl, guard rfl, rfl, rfl⟩
  case h_2 c =>
    split at h <;> cases h
    cases hb with
    | scalar hh => cases hh
    | pnil =>
      cases ha with
      | scalar hh => cases hh
      | ptr _ => exact ⟨rb (r_under hu) rfl, guard rfl, rfl, rfl⟩
  case h_3 _ _ c n k =>
    cases ha with
    | scalar hh => cases hh
    | snil =>
      split at h <;> cases h
      have e : (∃ n k, b' = .slice none n k ∧ c = none) ∨ ∃ x y n k, c = some x ∧ b' = .slice (some y) n k := by
        cases hb with
        | scalar hh => cases hh
        | snil => exact .inl ⟨_, _, rfl, rfl⟩
        | sl _ => exact .inr ⟨_, _, _, _, rfl, rfl⟩
        | sl0 => exact .inr ⟨_, _, _, _, rfl, rfl⟩
        | slE _ => exact .inr ⟨_, _, _, _, rfl, rfl⟩
      rcases e with ⟨n, k, rfl, rfl⟩ | ⟨x, y, n, k, rfl, rfl⟩ <;> exact ⟨rb (r_under hu) rfl, guard rfl, rfl, rfl⟩
  case h_4 c _ _ _ _ =>
    split at h <;> cases h
    cases hb with
    | scalar hh => cases hh
    | snil =>
      have e : ∃ y n k, a' = .slice (some y) n k := by
        cases ha with
        | scalar hh => cases hh
        | sl _ => exact ⟨_, _, _, rfl⟩
        | sl0 => exact ⟨_, _, _, rfl⟩
        | slE _ => exact ⟨_, _, _, rfl⟩
      obtain ⟨y, n, k, rfl⟩ := e
      exact ⟨rb (r_under hu) rfl, guard rfl, rfl, rfl⟩
  case h_5 c =>
    cases ha with
    | scalar hh => cases hh
    | mnil =>
      split at h <;> cases h
      have e : b' = .map none ∧ c = none ∨ ∃ x y, c = some x ∧ b' = .map (some y) := by
        cases hb with
        | scalar hh => cases hh
        | mnil => exact .inl ⟨rfl, rfl⟩
        | map _ => exact .inr ⟨_, _, rfl, rfl⟩
      rcases e with ⟨rfl, rfl⟩ | ⟨x, y, rfl, rfl⟩ <;> exact ⟨rb (r_under hu) rfl, guard rfl, rfl, rfl⟩
  case h_6 c =>
    split at h <;> cases h
    cases hb with
    | scalar hh => cases hh
    | mnil =>
      cases ha with
      | scalar hh => cases hh
      | map _ => exact ⟨rb (r_under hu) rfl, guard rfl, rfl, rfl⟩
end
end Ev
end Go.Proofs.YtgflhpfeghplpaaGreatDoor
