/- Parts of slices appended; edits in memory. -/
import Derived.Test.YtgflhpfeghplpaaGreatDoorOwn
set_option maxRecDepth 100000
namespace Go.Proofs.YtgflhpfeghplpaaGreatDoor
open Go.RowKit
section
variable {α : Type} {d : Kd α} {T : TypeId} {F F' S : Nat → Prop} {w w' : World} {v : Value} {xs ys : List α} {x : α} {g c k : Nat}
variable {P : Program} {ops : Array Oper} {rest : List Oper} {o : Oper} {a : Act} {Q : Exit → Act → World → Prop}
theorem Cs.append {inner cs : List Value} (h : Cs d F w xs inner) (hl : inner.length = xs.length * d.sz) (hk : Cs d F w ys cs) : Cs d F w (xs ++ ys) (inner ++ cs) := by
  intro j x hx
  by_cases hj : j < xs.length
  · rw [List.getElem?_append_left hj] at hx
    obtain ⟨cs', h1, h2⟩ := h j x hx
    refine ⟨cs', h1, fun i u hu => ?_⟩
    have := h2 i u hu
    rw [List.getElem?_append_left]
    · exact this
    · exact get_lt this
  · rw [List.getElem?_append_right (by omega)] at hx
    obtain ⟨cs', h1, h2⟩ := hk _ x hx
    refine ⟨cs', h1, fun i u hu => ?_⟩
    have := h2 i u hu
    have e : j * d.sz = xs.length * d.sz + (j - xs.length) * d.sz := by rw [← Nat.add_mul]; congr 1; omega
    rw [List.getElem?_append_right (by rw [hl, e]; omega), hl, e]
    rw [show xs.length * d.sz + (j - xs.length) * d.sz + i - xs.length * d.sz = (j - xs.length) * d.sz + i by omega]
    exact this
theorem run_app_none (base : Nat) (t ty e : TypeId) (i : TypeInfo) (size : Nat) (ht : P.underlying t = some (.slice e)) (hi : P.info? e = some i)
    (v : Value) (n c : Nat) (xs : List Value) (hown : w.ownsRow base e size v n xs) :
    (Builtin.append_ #[t, t] ty #[v, .slice none 0 c]).run P w = .ok v w := by
  rcases hown.2 with ⟨rfl, rfl⟩ | ⟨g, cap, cur, rfl, _, _, hnc, _⟩
  · simp [Builtin.append_, run_underlying ht, sizeOf, typeInfo, hi, Builtin.lenOf, Builtin.firstCells]
  · simp [Builtin.append_, run_underlying ht, sizeOf, typeInfo, hi, Builtin.lenOf, Builtin.firstCells, hnc, storeCells]
/-- append(s, r...): r of m elements. -/
theorem wp_apps {W : World} (v : Value) (s r : Operand) (t : TypeId) (z : Value) (bytes : Nat) {A0 : Option Addr} {m c0 : Nat} (hg : o.guard = none) (ho : o.op = .call { callee := .builtin .append, args := #[s, r], argTypes := #[t, t] })
    (ht : P.underlying t = some (.slice T)) (hinfo : (P.info? T).map (fun i => (i.zero, i.size, i.bytes)) = some (some z, d.sz, bytes)) (hz : z.cells.size = d.sz) (hsz : 0 < d.sz)
    {cs : List Value} (hs : a.eval s = v) (hr : a.eval r = .slice A0 m c0) (hA : m = 0 ∧ A0 = none ∨ ∃ a0, A0 = some a0 ∧ ∀ j u, cs[j]? = some u → W.cell? (a0.add j) = some u) (hm : ys.length = m) (hcl : cs.length = m * d.sz) (h1 : ∀ u ∈ cs, u.oneCell' = true)
    (hV : Vec d T F W v xs) (hk : Cs d F W ys cs) (hF : ∀ k, F k → v.ownBlock ≠ some k) (hl : (xs.length + m) * bytes ≤ 140737488355328) (hl2 : xs.length + m ≤ 9223372036854775807)
    (h : ∀ A' n' c' w1, Hid (n' = xs.length + m) → Vec d T F w1 (.slice A' n' c') (xs ++ ys) → Ch (fun k => v.ownBlock = some k) W w1 → ((Value.slice A' n' c').ownBlock = v.ownBlock ∨ (Value.slice A' n' c').ownBlock = some W.heap.size) → wpList P ops Q rest (a.put o.dst (.slice A' n' c')) w1) :
    wpList P ops Q (o :: rest) a W := by
  have hV' := hV
  obtain ⟨inner, ho1, ho2⟩ := hV
  obtain ⟨i, hi, hz0, hz1, hz2⟩ := info_parts hinfo
  refine wpList_plain hg fun K hK => ?_
  unfold Oper.wp
  rcases hA with ⟨hm0, hA⟩ | ⟨a0, hA, hc⟩
  · subst hm0 hA
    have hrun := run_app_none (P := P) (w := W) 0 t o.type T i d.sz ht hi v xs.length c0 inner ho1
    simp [execOp, ho, resolve, invoke, builtin, hs, hr, hrun, Result.andThen, Oper.upon, pure, Sem.run]
    obtain ⟨A', c', e, _, _⟩ := Vec.shape hV'
    have hy : ys = [] := List.eq_nil_of_length_eq_zero hm
    subst hy
    subst e
    exact hK _ _ (h A' _ c' W rfl (by simpa using hV') (Ch.refl _ _) (.inl rfl))
  · subst hA
    obtain ⟨v', w1, hrun, r1, r2, r3, r4⟩ := run_append_own_at (P := P) W 0 t o.type T i z d.sz bytes ht hi hz0 hz1 hz2 hz hsz v xs.length inner ho1 a0 m c0 cs hcl hc h1 (by simpa [maxLen] using hl2) hl (Nat.zero_le _)
    have hch : Ch (fun k => v.ownBlock = some k) W w1 := (Ch.grown r2).mono (fun k _ hk => hk.symm)
    simp [execOp, ho, resolve, invoke, builtin, hs, hr, hrun, Result.andThen, Oper.upon, pure, Sem.run]
    have keep : ∀ {zs : List α} {inn : List Value}, Cs d F W zs inn → Cs d F w1 zs inn := fun hz j x hx => by
      obtain ⟨c0, h3, h4⟩ := hz j x hx
      exact ⟨c0, d.ch h3 hch (fun k hk hS => hF k hk hS), h4⟩
    have hVec : Vec d T F w1 v' (xs ++ ys) := by
      refine ⟨inner ++ cs, ?_, Cs.append (keep ho2) ho1.1 (keep hk)⟩
      rw [List.length_append, hm]
      exact r1
    obtain ⟨A', c', rfl, _, _⟩ := Vec.shape hVec
    rw [List.length_append, hm] at hVec r4 ⊢
    exact hK _ _ (h A' _ c' w1 rfl hVec hch r4)
/-- What is needed of a part of a slice of integers. -/
theorem Rd.src {W : World} {A : Option Addr} {b o : Nat} {zs : List Int} (h : Rd Kd.int F W A b o zs) :
    (zs.length = 0 ∧ A = none ∨ ∃ a0, A = some a0 ∧ ∀ j u, (zs.map (Value.int .i64))[j]? = some u → W.cell? (a0.add j) = some u) := by
  cases zs with
  | nil =>
    cases A with
    | none => exact .inl ⟨rfl, rfl⟩
    | some a0 => exact .inr ⟨a0, rfl, fun j u hu => by simp at hu⟩
  | cons z zs =>
    obtain ⟨e, _, _⟩ := h.adr (by simp)
    refine .inr ⟨_, e, fun j u hu => ?_⟩
    rw [List.getElem?_map] at hu
    obtain ⟨x, hx, rfl⟩ := Option.map_eq_some_iff.1 hu
    obtain ⟨cs, h1, h2⟩ := h.cells j x hx
    have h1' : cs = [Value.int .i64 x] := h1
    subst h1'
    have := h2 0 _ rfl
    have e : (⟨b, o, none⟩ : Addr).add j = ⟨b, o + j * Kd.int.sz + 0, none⟩ := by unfold Addr.add; split <;> simp_all [Kd.int, Kd.scalar]
    rw [e]
    exact this
theorem Cs.ints {F : Nat → Prop} {W : World} {zs : List Int} : Cs Kd.int F W zs (zs.map (Value.int .i64)) := fun j x hx => by
  refine ⟨[.int .i64 x], rfl, fun i u hu => ?_⟩
  match i, hu with
  | 0, hu =>
    simp at hu
    subst hu
    simp [Kd.int, Kd.scalar, hx]
end
/-! ### Edits -/
structure Ed where
  out : Bool
  at_ : Int
  term : Int
def Ed.cells (x : Ed) : List Value := [.bool x.out, .int .i64 x.at_, .int .i64 x.term]
def Kd.ed : Kd Ed where
  sz := 3
  K := fun _ _ x cs => cs = x.cells
  len := fun h => by rw [h]; rfl
  mono := fun h _ => h
  bound := fun h => h
  ch := fun h _ _ => h
theorem Rd.ed {F : Nat → Prop} {w : World} {A : Option Addr} {b o k : Nat} {xs : List Ed} (h : Rd Kd.ed F w A b o xs) (hk : k < xs.length) :
    ∃ x, A = some ⟨b, o, none⟩ ∧ F b ∧ b < w.heap.size ∧ w.cell? ⟨b, o + k * 3, none⟩ = some (.bool x.out) ∧ w.cell? ⟨b, o + k * 3 + 1, none⟩ = some (.int .i64 x.at_) ∧ w.cell? ⟨b, o + k * 3 + 2, none⟩ = some (.int .i64 x.term) ∧
      Hid (xs.drop k = x :: xs.drop (k + 1)) ∧ Hid (xs[k]? = some x) := by
  obtain ⟨x, hx⟩ := get_some hk
  obtain ⟨cs, h1, h2⟩ := h.cells k x hx
  obtain ⟨e, hf, hb⟩ := h.adr (by omega)
  have h1' : cs = x.cells := h1
  subst h1'
  exact ⟨x, e, hf, hb, h2 0 _ rfl, h2 1 _ rfl, h2 2 _ rfl, drop_cons hx, hx⟩
end Go.Proofs.YtgflhpfeghplpaaGreatDoor
