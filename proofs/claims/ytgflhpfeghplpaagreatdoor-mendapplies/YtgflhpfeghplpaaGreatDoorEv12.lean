/- An operation looks at its operands alone. -/
import Derived.Test.YtgflhpfeghplpaaGreatDoorEv11
set_option maxRecDepth 100000
namespace Go.Proofs.YtgflhpfeghplpaaGreatDoor
open Go.RowKit
namespace Ev
section
variable {C : Cfg} {s s' : AW} {ev ev' : Operand → Option Value} {o : Oper} {nb : Nat} {prot : List Nat} {call : CallT}
theorem evals_congr : ∀ {xs : List Operand}, (∀ x ∈ xs, ev x = ev' x) → evals ev xs = evals ev' xs
  | [], _ => rfl
  | x :: r, h => by
    unfold evals
    rw [h x (by simp), evals_congr (fun y hy => h y (by simp [hy]))]
theorem evParts_congr : ∀ {xs : List (Nat × Operand)}, (∀ p ∈ xs, ev p.2 = ev' p.2) → evParts ev xs = evParts ev' xs
  | [], _ => rfl
  | (i, x) :: r, h => by
    unfold evParts
    rw [h (i, x) (by simp), evParts_congr (fun y hy => h y (by simp [hy]))]
theorem evalO?_congr {x : Option Operand} (h : ∀ y ∈ x.toArray.toList, ev y = ev' y) : evalO? ev x = evalO? ev' x := by
  cases x with
  | none => rfl
  | some y => exact congrArg (Option.map some) (h y (by simp))
theorem vflat_congr (hv : vfl o.op = true) (h : ∀ x ∈ o.op.operands.toList, ev x = ev' x) : vflat C ev o = vflat C ev' o := by
  unfold vflat
  rw [evals_congr h, execOp_congr (f := fun x => (ev x).getD undefV) (g := fun x => (ev' x).getD undefV) hv (fun x hx => by rw [h x hx])]
theorem vop_congr (h : ∀ x ∈ o.op.operands.toList, ev x = ev' x) : vop C nb ev s o = vop C nb ev' s o := by
  have hfl : ∀ hv : vfl o.op = true, vflat C ev o = vflat C ev' o := fun hv => vflat_congr hv h
  obtain ⟨dst, op, ty, pos, after, guard⟩ := o
  unfold vop
  cases op <;> first | rfl | skip
  case move x =>
    unfold vMove
    simp only [h x (by simp [Op.operands])]
  case assign x =>
    unfold vMove
    simp only [h x (by simp [Op.operands])]
  case pick c a b =>
    unfold vPick
    simp only [h c (by simp [Op.operands]), h a (by simp [Op.operands]), h b (by simp [Op.operands])]
  case box e x =>
    unfold vBox
    simp only [h x (by simp [Op.operands])]
  case build t parts =>
    unfold vBuild
    have := evParts_congr (xs := parts.toList) (fun p hp => h p.2 (by simp [Op.operands]; exact ⟨p.1, by simpa using hp⟩))
    simp only [this]
  case buildSlice t n parts =>
    unfold vBuildSlice
    have := evParts_congr (xs := parts.toList) (fun p hp => h p.2 (by simp [Op.operands]; exact ⟨p.1, by simpa using hp⟩))
    simp only [this]
  case load t a =>
    unfold vLoad
    simp only [h a (by simp [Op.operands])]
  case nilCheck x =>
    unfold vNil
    simp only [h x (by simp [Op.operands])]
  case binOp op t x y yt =>
    unfold vBin
    simp only [hfl rfl, h x (by simp [Op.operands]), h y (by simp [Op.operands])]
  case unOp => simp only [hfl rfl]
  case convert => simp only [hfl rfl]
  case makeInterface t x =>
    unfold vMakeI
    simp only [h x (by simp [Op.operands])]
  case makeFunc fn a b =>
    unfold vMakeF
    have h1 := evals_congr (xs := a.toList) (fun x hx => h x (by simp [Op.operands]; left; simpa using hx))
    have h2 := evals_congr (xs := b.toList) (fun x hx => h x (by simp [Op.operands]; right; simpa using hx))
    simp only [h1, h2]
  case makeSlice t l c =>
    unfold vMakeS
    simp only [h l (by simp [Op.operands]), h c (by simp [Op.operands])]
  case slice t x lo hi mx =>
    unfold vSlice
    have h1 := evalO?_congr (x := lo) (fun y hy => h y (by simp [Op.operands] at *; simp [hy]))
    have h2 := evalO?_congr (x := hi) (fun y hy => h y (by simp [Op.operands] at *; simp [hy]))
    have h3 := evalO?_congr (x := mx) (fun y hy => h y (by simp [Op.operands] at *; simp [hy]))
    simp only [hfl rfl, h x (by simp [Op.operands]), h1, h2, h3]
  case fieldAddr t x f =>
    unfold vFieldAddr
    simp only [h x (by simp [Op.operands])]
  case field t x f =>
    unfold vField
    simp only [h x (by simp [Op.operands])]
  case indexAddr t x i =>
    unfold vIndexAddr
    simp only [h x (by simp [Op.operands]), h i (by simp [Op.operands])]
  case index t x i =>
    unfold vIndex
    simp only [hfl rfl, h x (by simp [Op.operands]), h i (by simp [Op.operands])]
  case lookup t x i ok =>
    unfold vLookup
    simp only [h x (by simp [Op.operands]), h i (by simp [Op.operands])]
  case extract x i =>
    unfold vExtract
    simp only [h x (by simp [Op.operands])]
  case call c =>
    simp only
    unfold vCall
    obtain ⟨callee, args, tys⟩ := c
    cases callee with
    | value f => rfl
    | invoke a b => rfl
    | builtin b =>
      simp only
      unfold vBuiltin
      cases b <;> first | rfl | skip
      case len =>
        simp only
        unfold vLen
        simp only [hfl rfl]
        split
        · rename_i x t e1 e2
          have : args = #[x] := by rw [← Array.toList_inj]; exact e1
          subst this
          simp only [h x (by simp [Op.operands, Call.operands])]
        · rfl
      case cap =>
        simp only
        unfold vCap
        split
        · rename_i x t e1 e2
          have : args = #[x] := by rw [← Array.toList_inj]; exact e1
          subst this
          simp only [h x (by simp [Op.operands, Call.operands])]
        · rfl
      case min => simp only [hfl rfl]
      case max => simp only [hfl rfl]
theorem target_congr {c : Call} (h : ∀ x ∈ c.operands.toList, ev x = ev' x) : target C ev c = target C ev' c := by
  obtain ⟨callee, args, tys⟩ := c
  unfold target
  have h1 := evals_congr (xs := args.toList) (fun x hx => h x (by simp [Call.operands]; right; simpa using hx))
  simp only [h1]
  cases callee with
  | value f => simp only [h f (by simp [Call.operands])]
  | invoke r name => simp only [h r (by simp [Call.operands])]
  | builtin b => rfl
theorem eop_congr (h : ∀ x ∈ o.op.operands.toList, ev x = ev' x) : eop C call prot ev s o = eop C call prot ev' s o := by
  obtain ⟨dst, op, ty, pos, after, guard⟩ := o
  unfold eop
  cases op <;> first | rfl | skip
  case insert t m k x =>
    unfold eMap
    simp only [h m (by simp [Op.operands]), h k (by simp [Op.operands]), h x (by simp [Op.operands])]
  case store t a x =>
    unfold eStore
    simp only [h a (by simp [Op.operands]), h x (by simp [Op.operands])]
  case mapUpdate t m k x =>
    unfold eMap
    simp only [h m (by simp [Op.operands]), h k (by simp [Op.operands]), h x (by simp [Op.operands])]
  case call c =>
    have ht := target_congr (C := C) (c := c) h
    simp only
    unfold eCall
    obtain ⟨callee, args, tys⟩ := c
    cases callee with
    | value f =>
      simp only
      unfold eFunc
      simp only [ht]
    | invoke a b =>
      simp only
      unfold eFunc
      simp only [ht]
    | builtin b =>
      simp only
      unfold eBuiltin
      cases b <;> first | rfl | skip
      case append =>
        simp only
        unfold eAppend
        split
        · rename_i x y t e1 e2
          have : args = #[x, y] := by rw [← Array.toList_inj]; exact e1
          subst this
          simp only [h x (by simp [Op.operands, Call.operands]), h y (by simp [Op.operands, Call.operands])]
        · rfl
      case copy =>
        simp only
        unfold eCopy
        split
        · rename_i x y t e1 e2
          have : args = #[x, y] := by rw [← Array.toList_inj]; exact e1
          subst this
          simp only [h x (by simp [Op.operands, Call.operands]), h y (by simp [Op.operands, Call.operands])]
        · rfl
/-- The same, at the operands that are looked at. -/
def only (o : Oper) (ev : Operand → Option Value) : Operand → Option Value := fun x => match x with
  | .tmp t => if (o.op.operands.toList.any fun y => match y with | .tmp u => u == t | _ => false) then ev x else none
  | _ => ev x
theorem only_eq {ev : Operand → Option Value} : ∀ x ∈ o.op.operands.toList, only o ev x = ev x := by
  intro x hx
  unfold only
  split
  · rename_i t
    rw [if_pos]
    exact List.any_eq_true.2 ⟨.tmp t, hx, by simp⟩
  · rfl
theorem vop_only {ev : Operand → Option Value} : vop C nb (only o ev) s o = vop C nb ev s o := vop_congr only_eq
theorem eop_only {ev : Operand → Option Value} : eop C call prot (only o ev) s o = eop C call prot ev s o := eop_congr only_eq
end
end Ev
end Go.Proofs.YtgflhpfeghplpaaGreatDoor
