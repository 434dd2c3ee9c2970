/- How the evaluator run is like the model: values, memory. -/
import Derived.Test.YtgflhpfeghplpaaGreatDoorEv1
import Derived.Calls
import Derived.Orders
import Derived.Laws.Sem
import Derived.Below
set_option maxRecDepth 100000
namespace Go.Proofs.YtgflhpfeghplpaaGreatDoor
open Go.RowKit
namespace Ev

/-! ### 1. Tables -/
theorem get_zero {α : Type} (t : Tr α) (k : Nat) : Tr.get 0 t k = none := rfl
theorem get_leafS {α : Type} (n k : Nat) : Tr.get (n + 1) (.leaf : Tr α) k = none := rfl
theorem get_leaf {α : Type} (n k : Nat) : Tr.get n (.leaf : Tr α) k = none := by cases n <;> rfl
theorem get_node0 {α : Type} (n : Nat) (l r : Tr α) (v : Option α) : Tr.get (n + 1) (.node l v r) 0 = v := rfl
theorem get_nodeS {α : Type} (n k : Nat) (l r : Tr α) (v : Option α) : Tr.get (n + 1) (.node l v r) (k + 1) = if k % 2 = 0 then Tr.get n l (k / 2) else Tr.get n r (k / 2) := by
  show (Bool.rec (motive := fun _ => Option α) (Tr.get n r (k / 2)) (Tr.get n l (k / 2)) (Nat.beq (k % 2) 0)) = _
  cases h : Nat.beq (k % 2) 0 with
  | true => rw [if_pos (Nat.eq_of_beq_eq_true h)]
  | false => rw [if_neg (Nat.ne_of_beq_eq_false h)]
theorem set_zero {α : Type} (t : Tr α) (k : Nat) (x : α) : Tr.set 0 t k x = t := rfl
theorem set_leaf0 {α : Type} (n : Nat) (x : α) : Tr.set (n + 1) .leaf 0 x = .node .leaf (some x) .leaf := rfl
theorem set_leafS {α : Type} (n k : Nat) (x : α) : Tr.set (n + 1) .leaf (k + 1) x = if k % 2 = 0 then .node (Tr.set n .leaf (k / 2) x) none .leaf else .node .leaf none (Tr.set n .leaf (k / 2) x) := by
  show (Bool.rec (motive := fun _ => Tr α) (.node .leaf none (Tr.set n .leaf (k / 2) x)) (.node (Tr.set n .leaf (k / 2) x) none .leaf) (Nat.beq (k % 2) 0)) = _
  cases h : Nat.beq (k % 2) 0 with
  | true => rw [if_pos (Nat.eq_of_beq_eq_true h)]
  | false => rw [if_neg (Nat.ne_of_beq_eq_false h)]
theorem set_node0 {α : Type} (n : Nat) (l r : Tr α) (v : Option α) (x : α) : Tr.set (n + 1) (.node l v r) 0 x = .node l (some x) r := rfl
theorem set_nodeS {α : Type} (n k : Nat) (l r : Tr α) (v : Option α) (x : α) : Tr.set (n + 1) (.node l v r) (k + 1) x = if k % 2 = 0 then .node (Tr.set n l (k / 2) x) v r else .node l v (Tr.set n r (k / 2) x) := by
  show (Bool.rec (motive := fun _ => Tr α) (.node l v (Tr.set n r (k / 2) x)) (.node (Tr.set n l (k / 2) x) v r) (Nat.beq (k % 2) 0)) = _
  cases h : Nat.beq (k % 2) 0 with
  | true => rw [if_pos (Nat.eq_of_beq_eq_true h)]
  | false => rw [if_neg (Nat.ne_of_beq_eq_false h)]
theorem get_set_ne {α : Type} : ∀ (n : Nat) (t : Tr α) (k k' : Nat) (x : α), k ≠ k' → Tr.get n (Tr.set n t k x) k' = Tr.get n t k'
  | 0, _, _, _, _, _ => rfl
  | n + 1, t, k, k', x, h => by
    have ih : ∀ (t : Tr α) (a b : Nat), a ≠ b → Tr.get n (Tr.set n t a x) b = Tr.get n t b := fun t a b hab => get_set_ne n t a b x hab
    have par : ∀ a b : Nat, a + 1 ≠ b + 1 → a % 2 = b % 2 → a / 2 ≠ b / 2 := by intro a b h1 h2; omega
    cases t with
    | leaf =>
      cases k with
      | zero => cases k' with
        | zero => exact absurd rfl h
        | succ k' => rw [set_leaf0, get_nodeS, get_leaf, get_leaf]; split <;> rfl
      | succ k =>
        rw [set_leafS, get_leafS]
        cases k' with
        | zero => split <;> rfl
        | succ k' =>
          split
          · rw [get_nodeS]
            split
            · rw [ih _ _ _ (par k k' h (by omega)), get_leaf]
            · rw [get_leaf]
          · rw [get_nodeS]
            split
            · rw [get_leaf]
            · rw [ih _ _ _ (par k k' h (by omega)), get_leaf]
    | node l v r =>
      cases k with
      | zero => cases k' with
        | zero => exact absurd rfl h
        | succ k' => rw [set_node0, get_nodeS, get_nodeS]
      | succ k =>
        rw [set_nodeS]
        cases k' with
        | zero => split <;> rfl
        | succ k' =>
          split
          · rw [get_nodeS, get_nodeS]
            split
            · rw [ih _ _ _ (par k k' h (by omega))]
            · rfl
          · rw [get_nodeS, get_nodeS]
            split
            · rfl
            · rw [ih _ _ _ (par k k' h (by omega))]
theorem get_set_self {α : Type} : ∀ (n : Nat) (t : Tr α) (k : Nat) (x : α), k + 1 < 2 ^ n → Tr.get n (Tr.set n t k x) k = some x
  | 0, _, _, _, h => by simp at h
  | n + 1, t, k, x, h => by
    have ih : ∀ (t : Tr α) (a : Nat), a + 1 < 2 ^ n → Tr.get n (Tr.set n t a x) a = some x := fun t a ha => get_set_self n t a x ha
    cases t with
    | leaf =>
      cases k with
      | zero => rfl
      | succ k =>
        have hb : k / 2 + 1 < 2 ^ n := by rw [Nat.pow_succ] at h; omega
        rw [set_leafS]
        split
        · rename_i hk
          rw [get_nodeS, if_pos hk, ih _ _ hb]
        · rename_i hk
          rw [get_nodeS, if_neg hk, ih _ _ hb]
    | node l v r =>
      cases k with
      | zero => rfl
      | succ k =>
        have hb : k / 2 + 1 < 2 ^ n := by rw [Nat.pow_succ] at h; omega
        rw [set_nodeS]
        split
        · rename_i hk
          rw [get_nodeS, if_pos hk, ih _ _ hb]
        · rename_i hk
          rw [get_nodeS, if_neg hk, ih _ _ hb]
theorem get_set_or {α : Type} : ∀ (n : Nat) (t : Tr α) (k : Nat) (x : α), Tr.get n (Tr.set n t k x) k = some x ∨ Tr.get n (Tr.set n t k x) k = none
  | 0, _, _, _ => .inr rfl
  | n + 1, t, k, x => by
    have ih : ∀ (t : Tr α) (a : Nat), Tr.get n (Tr.set n t a x) a = some x ∨ Tr.get n (Tr.set n t a x) a = none := fun t a => get_set_or n t a x
    cases t with
    | leaf =>
      cases k with
      | zero => exact .inl rfl
      | succ k =>
        rw [set_leafS]
        split
        · rename_i hk
          rw [get_nodeS, if_pos hk]
          exact ih _ _
        · rename_i hk
          rw [get_nodeS, if_neg hk]
          exact ih _ _
    | node l v r =>
      cases k with
      | zero => exact .inl rfl
      | succ k =>
        rw [set_nodeS]
        split
        · rename_i hk
          rw [get_nodeS, if_pos hk]
          exact ih _ _
        · rename_i hk
          rw [get_nodeS, if_neg hk]
          exact ih _ _
section
variable {s : AW} {b b' : Nat} {o : AO}
theorem AW.get_set_ne (h : b ≠ b') : (s.set b o).get b' = s.get b' := Ev.get_set_ne _ _ _ _ _ h
theorem AW.get_set_or : (s.set b o).get b = some o ∨ (s.set b o).get b = none := Ev.get_set_or _ _ _ _
theorem AW.get_push_ne (h : b ≠ s.next) : (s.push o).get b = s.get b := Ev.get_set_ne _ _ _ _ _ (Ne.symm h)
theorem AW.get_push_or : (s.push o).get s.next = some o ∨ (s.push o).get s.next = none := Ev.get_set_or _ _ _ _
theorem AW.next_set : (s.set b o).next = s.next := rfl
theorem AW.next_push : (s.push o).next = s.next + 1 := rfl
end

/-! ### 2. Values -/
/-- Of a block: which block of the model's it is, from which cell on, and how many elements more its capacity holds. -/
abbrev Rho := Nat → Option (Nat × Nat × Nat)
def Rle (ρ ρ' : Rho) : Prop := ∀ b x, ρ b = some x → ρ' b = some x
theorem Rle.refl (ρ : Rho) : Rle ρ ρ := fun _ _ h => h
theorem Rle.trans {a b c : Rho} (h : Rle a b) (k : Rle b c) : Rle a c := fun _ _ x => k _ _ (h _ _ x)
def ext (ρ : Rho) (b : Nat) (x : Nat × Nat × Nat) : Rho := fun k => if k = b then some x else ρ k
theorem Rle.ext {ρ : Rho} {b : Nat} {x : Nat × Nat × Nat} (h : ρ b = none) : Rle ρ (ext ρ b x) := fun k y hk => by
  unfold Ev.ext
  by_cases e : k = b
  · subst e; rw [h] at hk; cases hk
  · rw [if_neg e]; exact hk
theorem ext_self {ρ : Rho} {b : Nat} {x : Nat × Nat × Nat} : ext ρ b x b = some x := by simp [ext]
theorem ext_ne {ρ : Rho} {b k : Nat} {x : Nat × Nat × Nat} (h : k ≠ b) : ext ρ b x k = ρ k := by simp [ext, h]
inductive RV (ρ : Rho) : Value → Value → Prop
  | scalar {v : Value} : scalar v = true → RV ρ v v
  | pnil : RV ρ (.pointer none) (.pointer none)
  | ptr {b o c d l : Nat} : ρ b = some (c, d, l) → RV ρ (.pointer (some ⟨b, o, none⟩)) (.pointer (some ⟨c, d + o, none⟩))
  | snil {n k : Nat} : RV ρ (.slice none n k) (.slice none n k)
  | sl {b o c d l n k : Nat} : ρ b = some (c, d, l) → RV ρ (.slice (some ⟨b, o, none⟩) n k) (.slice (some ⟨c, d + o, none⟩) n (k + l))
  | sl0 {a : Addr} : RV ρ (.slice (some ⟨0, 0, some 7⟩) 0 0) (.slice (some a) 0 0)
  | slE {b o c d : Nat} {a : Addr} : ρ b = some (c, d, 0) → RV ρ (.slice (some ⟨b, o, none⟩) 0 0) (.slice (some a) 0 0)
  | mnil : RV ρ (.map none) (.map none)
  | map {b c d l : Nat} : ρ b = some (c, d, l) → RV ρ (.map (some b)) (.map (some c))
  | nilFunc : RV ρ .nilFunc .nilFunc
  | nilIface : RV ρ .nilIface .nilIface
  | func {f : Fn} {xa bs cs ds : Array Value} : xa.size = cs.size → bs.size = ds.size → (∀ (i : Nat) (x y : Value), xa[i]? = some x → cs[i]? = some y → RV ρ x y) →
      (∀ (i : Nat) (x y : Value), bs[i]? = some x → ds[i]? = some y → RV ρ x y) → RV ρ (.func f xa bs) (.func f cs ds)
  | iface {t : TypeId} {v w : Value} : RV ρ v w → RV ρ (.iface t v) (.iface t w)
  | agg {xa cs : Array Value} : xa.size = cs.size → (∀ (i : Nat) (x y : Value), xa[i]? = some x → cs[i]? = some y → RV ρ x y) → RV ρ (.agg xa) (.agg cs)
  | lb {k : Nat} {m : Int} : (k : Int) ≤ m → RV ρ (.complex .f64 k 0) (.int .i64 m)
  | tuple {xa cs : Array Value} : xa.size = cs.size → (∀ (i : Nat) (x y : Value), xa[i]? = some x → cs[i]? = some y → RV ρ x y) → RV ρ (.tuple xa) (.tuple cs)
theorem RV.mono {ρ ρ' : Rho} (h : Rle ρ ρ') : ∀ {v w : Value}, RV ρ v w → RV ρ' v w := by
  intro v w k
  induction k with
  | scalar h => exact .scalar h
  | pnil => exact .pnil
  | ptr e => exact .ptr (h _ _ e)
  | snil => exact .snil
  | sl e => exact .sl (h _ _ e)
  | sl0 => exact .sl0
  | slE e => exact .slE (h _ _ e)
  | mnil => exact .mnil
  | map e => exact .map (h _ _ e)
  | nilFunc => exact .nilFunc
  | nilIface => exact .nilIface
  | func a b _ _ i1 i2 => exact .func a b i1 i2
  | iface _ i => exact .iface i
  | agg a _ i => exact .agg a i
  | tuple a _ i => exact .tuple a i
  | lb h => exact .lb h
/-- Lists of values. -/
def RL (ρ : Rho) (xs ys : List Value) : Prop := xs.length = ys.length ∧ ∀ (i : Nat) (x y : Value), xs[i]? = some x → ys[i]? = some y → RV ρ x y
section
variable {ρ ρ' : Rho} {v w : Value} {xs ys xs' ys' : List Value}
theorem RL.nil : RL ρ [] [] := ⟨rfl, fun i x y h => by simp at h⟩
theorem RL.cons (h : RV ρ v w) (k : RL ρ xs ys) : RL ρ (v :: xs) (w :: ys) := ⟨by simp [k.1], fun i x y hx hy => by
  cases i with
  | zero => simp at hx hy; subst hx; subst hy; exact h
  | succ i => simp at hx hy; exact k.2 i x y hx hy⟩
theorem RL.mono (h : Rle ρ ρ') (k : RL ρ xs ys) : RL ρ' xs ys := ⟨k.1, fun i x y hx hy => (k.2 i x y hx hy).mono h⟩
theorem RL.append (h : RL ρ xs ys) (k : RL ρ xs' ys') : RL ρ (xs ++ xs') (ys ++ ys') := ⟨by simp [h.1, k.1], fun i x y hx hy => by
  have e := h.1
  by_cases hi : i < xs.length
  · rw [List.getElem?_append_left hi] at hx; rw [List.getElem?_append_left (by omega)] at hy; exact h.2 i x y hx hy
  · rw [List.getElem?_append_right (by omega)] at hx; rw [List.getElem?_append_right (by omega)] at hy
    rw [← e] at hy; exact k.2 _ x y hx hy⟩
theorem RL.uncons (h : RL ρ (v :: xs) ys) : ∃ w ys', ys = w :: ys' ∧ RV ρ v w ∧ RL ρ xs ys' := by
  cases ys with
  | nil => have := h.1; simp at this
  | cons w ys => exact ⟨w, ys, rfl, h.2 0 v w rfl rfl, by have := h.1; simpa using this, fun i x y hx hy => h.2 (i + 1) x y hx hy⟩
theorem RL.of_nil (h : RL ρ [] ys) : ys = [] := List.length_eq_zero_iff.1 (by have := h.1; simpa using this.symm)
theorem RL.get {i : Nat} {x : Value} (h : RL ρ xs ys) (hx : xs[i]? = some x) : ∃ y, ys[i]? = some y ∧ RV ρ x y := by
  have hl : i < ys.length := by have := (List.getElem?_eq_some_iff.1 hx).1; have := h.1; omega
  exact ⟨ys[i], List.getElem?_eq_getElem hl, h.2 i x _ hx (List.getElem?_eq_getElem hl)⟩
theorem RL.take (h : RL ρ xs ys) (n : Nat) : RL ρ (xs.take n) (ys.take n) := ⟨by simp [h.1], fun i x y hx hy => by
  rw [List.getElem?_take] at hx hy
  split at hx
  · rename_i hi; rw [if_pos hi] at hy; exact h.2 i x y hx hy
  · cases hx⟩
theorem RL.drop (h : RL ρ xs ys) (n : Nat) : RL ρ (xs.drop n) (ys.drop n) := ⟨by simp [h.1], fun i x y hx hy => by
  rw [List.getElem?_drop] at hx hy; exact h.2 _ x y hx hy⟩
theorem RV.agg_l (h : RL ρ xs ys) : RV ρ (.agg xs.toArray) (.agg ys.toArray) := .agg (by simpa using h.1) (fun i x y hx hy => h.2 i x y (by simpa using hx) (by simpa using hy))
theorem RV.tuple_l (h : RL ρ xs ys) : RV ρ (.tuple xs.toArray) (.tuple ys.toArray) := .tuple (by simpa using h.1) (fun i x y hx hy => h.2 i x y (by simpa using hx) (by simpa using hy))
theorem RV.agg_inv {xa : Array Value} (h : RV ρ (.agg xa) w) : ∃ cs : Array Value, w = .agg cs ∧ RL ρ xa.toList cs.toList := by
  cases h with
  | scalar h => cases h
  | agg a k => exact ⟨_, rfl, by simpa using a, fun i x y hx hy => k i x y (by simpa using hx) (by simpa using hy)⟩
theorem RV.tuple_inv {xa : Array Value} (h : RV ρ (.tuple xa) w) : ∃ cs : Array Value, w = .tuple cs ∧ RL ρ xa.toList cs.toList := by
  cases h with
  | scalar h => cases h
  | tuple a k => exact ⟨_, rfl, by simpa using a, fun i x y hx hy => k i x y (by simpa using hx) (by simpa using hy)⟩
theorem RV.func_inv {f : Fn} {xa bs : Array Value} (h : RV ρ (.func f xa bs) w) : ∃ cs ds : Array Value, w = .func f cs ds ∧ RL ρ xa.toList cs.toList ∧ RL ρ bs.toList ds.toList := by
  cases h with
  | scalar h => cases h
  | func a b k k' => exact ⟨_, _, rfl, ⟨by simpa using a, fun i x y hx hy => k i x y (by simpa using hx) (by simpa using hy)⟩, ⟨by simpa using b, fun i x y hx hy => k' i x y (by simpa using hx) (by simpa using hy)⟩⟩
theorem RV.scalar_inv (h : RV ρ v w) (k : Ev.scalar v = true) : w = v := by
  cases h <;> first | rfl | cases k
theorem RV.ptr_inv {b o : Nat} (h : RV ρ (.pointer (some ⟨b, o, none⟩)) w) : ∃ c d l, ρ b = some (c, d, l) ∧ w = .pointer (some ⟨c, d + o, none⟩) := by
  cases h with
  | scalar h => cases h
  | ptr e => exact ⟨_, _, _, e, rfl⟩
theorem RV.undef : RV ρ undefV undefV := .tuple rfl (fun i x y h => by simp at h)
theorem RV.closed0 (h : Ev.closed0 v = true) : RV ρ v v := by
  cases v with
  | bool _ => exact .scalar rfl
  | int _ _ => exact .scalar rfl
  | float _ _ => exact .scalar rfl
  | string _ => exact .scalar rfl
  | complex _ _ _ => cases h
  | pointer a => cases a with
    | none => exact .pnil
    | some a => cases h
  | slice a n k => cases a with
    | none => exact .snil
    | some a => cases h
  | map r => cases r with
    | none => exact .mnil
    | some a => cases h
  | chan r => cases h
  | func f xa bs =>
    simp only [Ev.closed0, Bool.and_eq_true, Array.isEmpty_iff] at h
    obtain ⟨rfl, rfl⟩ := h
    exact .func rfl rfl (fun i x y h => by simp at h) (fun i x y h => by simp at h)
  | nilFunc => exact .nilFunc
  | iface t v => cases h
  | nilIface => exact .nilIface
  | agg cs => cases h
  | tuple cs =>
    simp only [Ev.closed0, Array.isEmpty_iff] at h
    subst h
    exact RV.undef
theorem RL.refl_of (h : ∀ x ∈ xs, RV ρ x x) : RL ρ xs xs := ⟨rfl, fun i x y hx hy => by
  rw [hx] at hy; cases hy; exact h x (List.mem_of_getElem? hx)⟩
theorem RV.closed (h : Ev.closed v = true) : RV ρ v v := by
  cases v with
  | agg cs =>
    simp only [Ev.closed, List.all_eq_true] at h
    have := RV.agg_l (RL.refl_of (ρ := ρ) (xs := cs.toList) (fun x hx => RV.closed0 (h x hx)))
    simpa using this
  | tuple cs =>
    simp only [Ev.closed, List.all_eq_true] at h
    have := RV.tuple_l (RL.refl_of (ρ := ρ) (xs := cs.toList) (fun x hx => RV.closed0 (h x hx)))
    simpa using this
  | _ => exact RV.closed0 h
theorem RL.scalars (h : RL ρ xs ys) (k : ∀ x ∈ xs, Ev.scalar x = true) : ys = xs := by
  refine List.ext_getElem? (fun i => ?_)
  cases hx : xs[i]? with
  | none => have := h.1; simp at hx ⊢; omega
  | some x =>
    obtain ⟨y, hy, hr⟩ := h.get hx
    rw [hy, hr.scalar_inv (k x (List.mem_of_getElem? hx))]
theorem RV.flat_inv (h : RV ρ v w) (k : flat v = true) : w = v := by
  cases v with
  | agg cs =>
    simp only [flat, List.all_eq_true] at k
    obtain ⟨ds, rfl, hl⟩ := h.agg_inv
    have := hl.scalars k
    have e : ds = cs := by rw [← Array.toList_inj]; exact this
    rw [e]
  | _ => exact h.scalar_inv k
theorem RV.of_flat (k : flat v = true) : RV ρ v v := by
  cases v with
  | agg cs =>
    simp only [flat, List.all_eq_true] at k
    have := RV.agg_l (RL.refl_of (ρ := ρ) (xs := cs.toList) (fun x hx => .scalar (k x hx)))
    simpa using this
  | _ => exact .scalar k
theorem RV.cells (h : RV ρ v w) : RL ρ v.cells.toList w.cells.toList := by
  have one : ∀ {a b : Value}, RV ρ a b → RL ρ [a] [b] := fun h => RL.cons h RL.nil
  cases h with
  | agg a i =>
    refine ⟨by simpa [Value.cells] using a, fun j x y hx hy => i j x y ?_ ?_⟩
    · simpa [Value.cells] using hx
    · simpa [Value.cells] using hy
  | @scalar v h => cases v <;> first | (simp only [Value.cells]; exact one (.scalar h)) | cases h
  | pnil => exact one .pnil
  | ptr e => exact one (.ptr e)
  | snil => exact one .snil
  | sl e => exact one (.sl e)
  | sl0 => exact one .sl0
  | slE e => exact one (.slE e)
  | mnil => exact one .mnil
  | map e => exact one (.map e)
  | nilFunc => exact one .nilFunc
  | nilIface => exact one .nilIface
  | func a b i j => exact one (.func a b i j)
  | iface i => exact one (.iface i)
  | tuple a i => exact one (.tuple a i)
  | lb h => exact one (.lb h)
theorem RV.one (h : RV ρ v w) (k : v.oneCell' = true) : w.oneCell' = true := by
  cases h <;> first | rfl | exact k
end

/-! ### 3. Memory -/
/-- A cell: what it holds, or nothing is known of it. -/
def RJ (ρ : Rho) (v u : Value) : Prop := v = junk ∨ RV ρ v u
theorem RJ.mono {ρ ρ' : Rho} {v u : Value} (h : Rle ρ ρ') (k : RJ ρ v u) : RJ ρ' v u := k.imp id (fun k => k.mono h)
def RMap (ρ : Rho) (es : List (Value × Value)) (cs : List MapEntry) : Prop :=
  es.length = cs.length ∧ ∀ (i : Nat) (e : Value × Value) (c : MapEntry), es[i]? = some e → cs[i]? = some c → c.key = e.1 ∧ RV ρ e.2 c.val
def RO (P : Program) (ρ : Rho) (o : Option AO) (w : World) (c d l : Nat) : Prop :=
  match o with
  | some (.cells cs e x) => ∃ arr, w.heap[c]? = some (.cells arr e (0, 0)) ∧ d + cs.length + l * sz P e ≤ arr.size ∧ (x = true → l = 0) ∧
      ∀ (i : Nat) (v : Value), cs[i]? = some v → ∃ u, arr[d + i]? = some u ∧ RJ ρ v u
  | some (.map es) => ∃ ces clk, w.heap[c]? = some (.map ces clk) ∧ RMap ρ es ces.toList
  | _ => True
def live : Option AO → Bool
  | some (.cells _ _ _) => true
  | some (.map _) => true
  | _ => false
structure RW (C : Cfg) (base : World) (ρ : Rho) (s : AW) (w : World) : Prop where
  size : base.heap.size ≤ w.heap.size
  keep : ∀ k, k < base.heap.size → w.heap[k]? = base.heap[k]?
  os : w.os = base.os
  tape : w.tape = base.tape
  output : w.output = base.output
  fresh : ∀ b, s.next ≤ b → ρ b = none
  glob : ∀ g, g < C.G → ρ g = some (g, 0, 0)
  img : ∀ b c d l, ρ b = some (c, d, l) → c < w.heap.size ∧ (C.G ≤ b → base.heap.size ≤ c)
  inj : ∀ b b' c d l d' l', ρ b = some (c, d, l) → ρ b' = some (c, d', l') → live (s.get b) = true → live (s.get b') = true → b = b'
  obj : ∀ b c d l, ρ b = some (c, d, l) → RO C.P ρ (s.get b) w c d l
theorem RO.mono {P : Program} {ρ ρ' : Rho} {o : Option AO} {w : World} {c d l : Nat} (h : Rle ρ ρ') (k : RO P ρ o w c d l) : RO P ρ' o w c d l := by
  unfold RO at *
  split
  · obtain ⟨arr, h1, h2, h3, h4⟩ := k
    exact ⟨arr, h1, h2, h3, fun i v hv => by obtain ⟨u, hu, hr⟩ := h4 i v hv; exact ⟨u, hu, hr.mono h⟩⟩
  · obtain ⟨ces, clk, h1, h2, h3⟩ := k
    exact ⟨ces, clk, h1, h2, fun i e c he hc => ⟨(h3 i e c he hc).1, (h3 i e c he hc).2.mono h⟩⟩
  · trivial
theorem RO.world {P : Program} {ρ : Rho} {o : Option AO} {w w' : World} {c d l : Nat} (h : w'.heap[c]? = w.heap[c]?) (k : RO P ρ o w c d l) : RO P ρ o w' c d l := by
  unfold RO at *
  rw [h]
  exact k
section
variable {C : Cfg} {base : World} {ρ : Rho} {s : AW} {w : World}
theorem RW.drew (h : RW C base ρ s w) (n : Nat) : RW C base ρ s { w with drawn := n } :=
  ⟨h.size, h.keep, h.os, h.tape, h.output, h.fresh, h.glob, h.img, h.inj, h.obj⟩
theorem RW.below (h : RW C base ρ s w) : Below base.heap.size base w := ⟨h.os, h.tape, h.output, h.size, fun k hk => h.keep k hk⟩
/-- A block that the evaluator has made and the model has not yet. -/
theorem RW.push (h : RW C base ρ s w) (o : AO) : RW C base ρ (s.push o) w := by
  refine ⟨h.size, h.keep, h.os, h.tape, h.output, fun b hb => h.fresh b (by rw [AW.next_push] at hb; omega), h.glob, h.img, ?_, ?_⟩
  · intro b b' c d l d' l' e e' hl hl'
    have n1 : b ≠ s.next := fun x => by subst x; rw [h.fresh _ (Nat.le_refl _)] at e; cases e
    have n2 : b' ≠ s.next := fun x => by subst x; rw [h.fresh _ (Nat.le_refl _)] at e'; cases e'
    rw [AW.get_push_ne n1] at hl; rw [AW.get_push_ne n2] at hl'
    exact h.inj b b' c d l d' l' e e' hl hl'
  · intro b c d l e
    have n1 : b ≠ s.next := fun x => by subst x; rw [h.fresh _ (Nat.le_refl _)] at e; cases e
    rw [AW.get_push_ne n1]
    exact h.obj b c d l e
/-- The model makes a block that the evaluator has. -/
theorem RW.alloc (h : RW C base ρ s w) {b d l : Nat} {o : Obj} (hb : b < s.next) (hn : ρ b = none)
    (ho : RO C.P ρ (s.get b) { w with heap := w.heap.push o } w.heap.size d l) : RW C base (ext ρ b (w.heap.size, d, l)) s { w with heap := w.heap.push o } := by
  have hG : ¬ b < C.G := fun hg => by rw [h.glob b hg] at hn; cases hn
  have lt : ∀ k c d l, ρ k = some (c, d, l) → c < w.heap.size := fun k c d l e => (h.img k c d l e).1
  refine ⟨?_, ?_, h.os, h.tape, h.output, ?_, ?_, ?_, ?_, ?_⟩
  · have := h.size; simp; omega
  · intro k hk
    have := h.size
    show (w.heap.push o)[k]? = _
    rw [Array.getElem?_push_lt (by omega)]
    rw [← h.keep k hk, Array.getElem?_eq_getElem (by omega)]
  · intro k hk; rw [ext_ne (by omega)]; exact h.fresh k hk
  · intro g hg; rw [ext_ne (by omega)]; exact h.glob g hg
  · intro k c d' l' e
    by_cases hk : k = b
    · subst hk; rw [ext_self] at e; cases e
      have := h.size
      exact ⟨by simp, fun _ => this⟩
    · rw [ext_ne hk] at e
      have := h.img k c d' l' e
      exact ⟨by simp; omega, this.2⟩
  · intro k k' c d1 l1 d2 l2 e e' hl hl'
    by_cases hk : k = b <;> by_cases hk' : k' = b
    · rw [hk, hk']
    · subst hk; rw [ext_self] at e; rw [ext_ne hk'] at e'; cases e
      have := lt _ _ _ _ e'; omega
    · subst hk'; rw [ext_self] at e'; rw [ext_ne hk] at e; cases e'
      have := lt _ _ _ _ e; omega
    · rw [ext_ne hk] at e; rw [ext_ne hk'] at e'
      exact h.inj k k' c d1 l1 d2 l2 e e' hl hl'
  · intro k c d' l' e
    by_cases hk : k = b
    · subst hk; rw [ext_self] at e; cases e
      exact ho.mono (Rle.ext hn)
    · rw [ext_ne hk] at e
      refine RO.world ?_ ((h.obj k c d' l' e).mono (Rle.ext hn))
      have := lt _ _ _ _ e
      show (w.heap.push o)[c]? = _
      rw [Array.getElem?_push_lt this, Array.getElem?_eq_getElem this]
end
end Ev
end Go.Proofs.YtgflhpfeghplpaaGreatDoor
