/- Slices of the call's own that grow: what they hold, and the laws of append, make and stores on them. -/
import Derived.Test.YtgflhpfeghplpaaGreatDoorBase
set_option maxRecDepth 100000
namespace Go.Proofs.YtgflhpfeghplpaaGreatDoor
open Go.RowKit

def Cs {α : Type} (d : Kd α) (F : Nat → Prop) (w : World) (xs : List α) (inner : List Value) : Prop :=
  ∀ j x, xs[j]? = some x → ∃ cs, d.K F w x cs ∧ ∀ i u, cs[i]? = some u → inner[j * d.sz + i]? = some u
/-- A slice of the call's own, of elements of type T, that reads as xs; what its elements lead to lies in F. -/
def Vec {α : Type} (d : Kd α) (T : TypeId) (F : Nat → Prop) (w : World) (v : Value) (xs : List α) : Prop :=
  ∃ inner, w.ownsRow 0 T d.sz v xs.length inner ∧ Cs d F w xs inner
section
variable {α : Type} {d : Kd α} {T : TypeId} {F F' S : Nat → Prop} {w w' : World} {v : Value} {xs : List α} {x : α} {g c k : Nat}
theorem Vec.nil (d : Kd α) (T : TypeId) (F : Nat → Prop) (w : World) : Vec d T F w (.slice none 0 0) [] :=
  ⟨[], World.ownsRow_nil w 0 T d.sz, fun j x hx => by simp at hx⟩
theorem Vec.lt (h : Vec d T F w v xs) (hk : v.ownBlock = some k) : k < w.heap.size := by
  obtain ⟨inner, h1, _⟩ := h
  exact (World.ownsRow.lt h1 k hk).2
theorem Vec.typed (h : Vec d T F w v xs) (hk : v.ownBlock = some k) : ∃ cs, w.heap[k]? = some (.cells cs T (0, 0)) := by
  obtain ⟨inner, h1, _⟩ := h
  rcases h1.2 with ⟨rfl, _⟩ | ⟨g, cap, cur, rfl, _, hh, _⟩
  · simp [Value.ownBlock] at hk
  · simp [Value.ownBlock] at hk
    subst hk
    exact ⟨cur, hh⟩
theorem Vec.shape (h : Vec d T F w v xs) : ∃ A c, v = .slice A xs.length c ∧ xs.length ≤ c ∧ c ≤ 9223372036854775807 := by
  obtain ⟨inner, h1, _⟩ := h
  rcases h1.2 with ⟨rfl, h0⟩ | ⟨g, cap, cur, rfl, _, hh, hn, hm, _⟩
  · exact ⟨none, 0, by rw [h0], by omega, by omega⟩
  · exact ⟨_, cap, rfl, hn, by simpa [maxLen] using hm⟩
theorem Vec.mono (h : Vec d T F w v xs) (hf : ∀ k, F k → F' k) : Vec d T F' w v xs := by
  obtain ⟨inner, h1, h2⟩ := h
  refine ⟨inner, h1, fun j x hx => ?_⟩
  obtain ⟨cs, h3, h4⟩ := h2 j x hx
  exact ⟨cs, d.mono h3 hf, h4⟩
theorem Vec.bound (h : Vec d T F w v xs) : Vec d T (fun k => F k ∧ k < w.heap.size) w v xs := by
  obtain ⟨inner, h1, h2⟩ := h
  refine ⟨inner, h1, fun j x hx => ?_⟩
  obtain ⟨cs, h3, h4⟩ := h2 j x hx
  exact ⟨cs, d.bound h3, h4⟩
theorem Vec.ch (h : Vec d T F w v xs) (hc : Ch S w w') (ho : ∀ k, v.ownBlock = some k → ¬ S k) (hf : ∀ k, F k → ¬ S k) : Vec d T F w' v xs := by
  obtain ⟨inner, h1, h2⟩ := h
  refine ⟨inner, ⟨h1.1, ?_⟩, fun j x hx => ?_⟩
  · rcases h1.2 with h3 | ⟨g, cap, cur, rfl, hb, hh, h4⟩
    · exact .inl h3
    · exact .inr ⟨g, cap, cur, rfl, hb, hc.heap hh (ho g (by simp [Value.ownBlock])), h4⟩
  · obtain ⟨cs, h3, h4⟩ := h2 j x hx
    exact ⟨cs, d.ch h3 hc hf, h4⟩
theorem Vec.nw (h : Vec d T F w v xs) (hc : Nw w w') : Vec d T F w' v xs := h.ch hc (fun k _ => not_none_ k) (fun k _ => not_none_ k)
/-- It reads as a slice. -/
theorem Vec.sl (h : Vec d T F w v xs) (ho : ∀ k, v.ownBlock = some k → F' k) (hf : ∀ k, F k → F' k) : Sl d F' w v xs := by
  obtain ⟨inner, h1, h2⟩ := h
  rcases h1.2 with ⟨rfl, h0⟩ | ⟨g, cap, cur, rfl, _, hh, hn, hm, hcs, htake⟩
  · have : xs = [] := List.eq_nil_of_length_eq_zero h0
    subst this
    exact Sl.nil d F' w
  · refine ⟨_, g, 0, cap, rfl, hn, by simpa [maxLen] using hm, ⟨fun hl => ⟨rfl, ho g (by simp [Value.ownBlock]), (Array.getElem?_eq_some_iff.1 hh).1⟩, fun j x hx => ?_⟩⟩
    obtain ⟨cs, h3, h4⟩ := h2 j x hx
    refine ⟨cs, d.mono h3 hf, fun i u hu => ?_⟩
    have := World.ownsRow.cells h1 (g := g) (by simp [Value.ownBlock]) (j * d.sz + i) u (h4 i u hu)
    have e : (⟨g, 0, none⟩ : Addr).add (j * d.sz + i) = ⟨g, 0 + j * d.sz + i, none⟩ := by unfold Addr.add; split <;> simp_all <;> omega
    rwa [e] at this
/-- One element appended. -/
theorem Cs.snoc {inner cs : List Value} {y : α} (h : Cs d F w xs inner) (hl : inner.length = xs.length * d.sz) (hk : d.K F w y cs) : Cs d F w (xs ++ [y]) (inner ++ cs) := by
  intro j x hx
  by_cases hj : j < xs.length
  · rw [List.getElem?_append_left hj] at hx
    obtain ⟨cs', h1, h2⟩ := h j x hx
    refine ⟨cs', h1, fun i u hu => ?_⟩
    have := h2 i u hu
    rw [List.getElem?_append_left]
    · exact this
    · exact get_lt this
  · have hj' : j = xs.length := by
      have := get_lt hx
      simp at this
      omega
    subst hj'
    simp at hx
    subst hx
    refine ⟨cs, hk, fun i u hu => ?_⟩
    rw [List.getElem?_append_right (by omega), hl, Nat.add_sub_cancel_left]
    exact hu
variable {P : Program} {ops : Array Oper} {rest : List Oper} {o : Oper} {a : Act} {Q : Exit → Act → World → Prop}
/-- append(s, y): y's cells stand in a new row of one element. -/
theorem wp_app {W : World} (v : Value) (s r : Operand) (t : TypeId) (z : Value) (bytes b0 : Nat) {fr : Nat × Nat} {T' : TypeId} (hg : o.guard = none) (ho : o.op = .call { callee := .builtin .append, args := #[s, r], argTypes := #[t, t] })
    (ht : P.underlying t = some (.slice T)) (hinfo : (P.info? T).map (fun i => (i.zero, i.size, i.bytes)) = some (some z, d.sz, bytes)) (hz : z.cells.size = d.sz) (hsz : 0 < d.sz)
    {y : α} {cs : List Value} (hs : a.eval s = v) (hr : a.eval r = .slice (some ⟨b0, 0, none⟩) 1 1) (hb : W.heap[b0]? = some (.cells cs.toArray T' fr)) (h1 : ∀ u ∈ cs, u.oneCell' = true)
    (hV : Vec d T F W v xs) (hk : d.K F W y cs) (hF : ∀ k, F k → v.ownBlock ≠ some k) (hl : (xs.length + 1) * bytes ≤ 140737488355328) (hl2 : xs.length + 1 ≤ 9223372036854775807)
    (h : ∀ A' n' c' w1, Hid (n' = xs.length + 1) → Vec d T F w1 (.slice A' n' c') (xs ++ [y]) → Ch (fun k => v.ownBlock = some k) W w1 → ((Value.slice A' n' c').ownBlock = v.ownBlock ∨ (Value.slice A' n' c').ownBlock = some W.heap.size) → wpList P ops Q rest (a.put o.dst (.slice A' n' c')) w1) :
    wpList P ops Q (o :: rest) a W := by
  obtain ⟨inner, ho1, ho2⟩ := hV
  obtain ⟨i, hi, hz0, hz1, hz2⟩ := info_parts hinfo
  have hlen : cs.length = 1 * d.sz := by rw [d.len hk, Nat.one_mul]
  obtain ⟨v', w1, hrun, r1, r2, r3, r4⟩ := run_append_own_at (P := P) W 0 t o.type T i z d.sz bytes ht hi hz0 hz1 hz2 hz hsz v xs.length inner ho1 ⟨b0, 0, none⟩ 1 1 cs hlen
    (fun j u hu => by
      have e : (⟨b0, 0, none⟩ : Addr).add j = ⟨b0, j, none⟩ := by unfold Addr.add; split <;> simp_all
      rw [e]
      simp [World.cell?, hb]
      simpa using hu) h1 (by simpa [maxLen] using hl2) hl (Nat.zero_le _)
  have hch : Ch (fun k => v.ownBlock = some k) W w1 := (Ch.grown r2).mono (fun k _ hk => hk.symm)
  refine wpList_plain hg fun K hK => ?_
  unfold Oper.wp
  simp [execOp, ho, resolve, invoke, builtin, hs, hr, hrun, Result.andThen, Oper.upon, pure, Sem.run]
  have hVec : Vec d T F w1 v' (xs ++ [y]) := by
    refine ⟨inner ++ cs, ?_, ?_⟩
    · rw [List.length_append]
      exact r1
    · have h2 : Cs d F w1 xs inner := fun j x hx => by
        obtain ⟨c0, h3, h4⟩ := ho2 j x hx
        exact ⟨c0, d.ch h3 hch (fun k hk hS => hF k hk hS), h4⟩
      exact h2.snoc ho1.1 (d.ch hk hch (fun k hk hS => hF k hk hS))
  obtain ⟨A', c', rfl, _, _⟩ := Vec.shape hVec
  rw [List.length_append, List.length_singleton] at hVec r4 ⊢
  exact hK _ _ (h A' _ c' w1 rfl hVec hch r4)
theorem Vec.ne {cs : Array Value} {T' : TypeId} {fr : Nat × Nat} (h : Vec d T F w v xs) (hB : w.heap[g]? = some (.cells cs T' fr)) (hT : T ≠ T') : v.ownBlock ≠ some g := fun he => by
  obtain ⟨cs', hc⟩ := Vec.typed h he
  rw [hc] at hB
  injection hB with hB
  injection hB with _ hB
  exact hT hB
theorem heap_alloc {o : Obj} {g : Nat} {o' : Obj} (h : w.heap[g]? = some o') : (w.alloc o).heap[g]? = some o' :=
  (Below.heap_alloc w o g (Array.getElem?_eq_some_iff.1 h).1).trans h
end
theorem Tryz.info3 : (Tryz.prog.info? 3).map (fun i => (i.zero, i.size, i.bytes)) = some (some (.int .i64 0), 1, 8) := by kernel_rfl
theorem blk_cells {w : World} {g : Nat} {cs : Array Value} {T : TypeId} {fr : Nat × Nat} (h : w.heap[g]? = some (.cells cs T fr)) : ∀ j, w.cell? ⟨g, j, none⟩ = cs[j]? := fun j => cell_of_row w g j cs T fr h
theorem blk_free {w : World} {g : Nat} {cs : Array Value} {T : TypeId} (h : w.heap[g]? = some (.cells cs T (0, 0))) : ∀ j, w.frozen? ⟨g, j, none⟩ = false := fun j => frozen_of_row w g j cs T h
theorem blk_set {w : World} {g : Nat} {cs : Array Value} {T : TypeId} {fr : Nat × Nat} (h : w.heap[g]? = some (.cells cs T fr)) (j : Nat) (u : Value) : (w.setCell ⟨g, j, none⟩ u).heap[g]? = some (.cells (cs.setIfInBounds j u) T fr) := by
  simp [World.setCell, Array.getElem?_modify, h]
theorem blk_lt {w : World} {g : Nat} {o : Obj} (h : w.heap[g]? = some o) : g < w.heap.size := (Array.getElem?_eq_some_iff.1 h).1
theorem set_self {cs : Array Value} {j : Nat} {u : Value} (h : cs[j]? = some u) (x : Value) : (cs.setIfInBounds j x)[j]? = some x := by
  have := (Array.getElem?_eq_some_iff.1 h).1
  simp [this]
theorem set_same {cs : Array Value} {j : Nat} {u : Value} (h : cs[j]? = some u) : cs.setIfInBounds j u = cs := by
  obtain ⟨hl, rfl⟩ := Array.getElem?_eq_some_iff.1 h
  apply Array.ext_getElem?
  intro i
  by_cases hij : j = i
  · subst hij; simp [hl]
  · rw [Array.getElem?_setIfInBounds_ne hij]
theorem set_set (cs : Array Value) (j : Nat) (u x : Value) : (cs.setIfInBounds j u).setIfInBounds j x = cs.setIfInBounds j x := by simp
section
variable {α : Type} {d : Kd α} {T : TypeId} {F F' S : Nat → Prop} {w w' : World} {v : Value} {xs : List α} {x : α} {g c k n : Nat} {A : Option Addr}
theorem Vec.len (h : Vec d T F w (.slice A n c) xs) : n = xs.length ∧ xs.length ≤ c ∧ c ≤ 9223372036854775807 := by
  obtain ⟨A', c', he, h1, h2⟩ := h.shape
  injection he with _ h3 h4
  subst h4
  exact ⟨h3, h1, h2⟩
theorem Vec.scalar_at {enc : α → Value} (h : Vec (Kd.scalar enc) T F w (.slice A n c) xs) (hk : k < xs.length) :
    ∃ g x, A = some ⟨g, 0, none⟩ ∧ g < w.heap.size ∧ w.cell? ⟨g, k, none⟩ = some (enc x) ∧ w.frozen? ⟨g, k, none⟩ = false ∧ Hid (xs[k]? = some x) := by
  obtain ⟨inner, h1, h2⟩ := h
  obtain ⟨x, hx⟩ := get_some hk
  obtain ⟨cs, h3, h4⟩ := h2 k x hx
  have h3' : cs = [enc x] := h3
  subst h3'
  have h5 := h4 0 _ rfl
  simp only [Kd.scalar, Nat.mul_one, Nat.add_zero] at h5
  rcases h1.2 with ⟨he, h0⟩ | ⟨g, cap, cur, he, _, hh, _⟩
  · omega
  · injection he with he _ _
    subst he
    refine ⟨g, x, rfl, (Array.getElem?_eq_some_iff.1 hh).1, ?_, blk_free hh k, hx⟩
    have := World.ownsRow.cells h1 (g := g) (by simp [Value.ownBlock]) k _ h5
    have e : (⟨g, 0, none⟩ : Addr).add k = ⟨g, k, none⟩ := by unfold Addr.add; split <;> simp_all
    rwa [e] at this
theorem Vec.int_at {xs : List Int} (h : Vec Kd.int T F w (.slice A n c) xs) (hk : k < xs.length) :
    ∃ g x, A = some ⟨g, 0, none⟩ ∧ g < w.heap.size ∧ w.cell? ⟨g, k, none⟩ = some (.int .i64 x) ∧ w.frozen? ⟨g, k, none⟩ = false ∧ Hid (xs[k]? = some x) := Vec.scalar_at h hk
theorem Vec.take (h : Vec d T F w (.slice A n c) xs) (m : Nat) (hm : m ≤ n) (hn0 : 0 < n) : Vec d T F w (.slice A m c) (xs.take m) := by
  obtain ⟨hn, _, _⟩ := h.len
  obtain ⟨inner, h1, h2⟩ := h
  have hl : (xs.take m).length = m := by rw [List.length_take]; omega
  refine ⟨inner.take (m * d.sz), ⟨?_, ?_⟩, fun j x hx => ?_⟩
  · rw [List.length_take, h1.1, hl, ← hn]
    exact Nat.min_eq_left (Nat.mul_le_mul_right _ hm)
  · rcases h1.2 with ⟨he, h0⟩ | ⟨g, cap, cur, he, hb, hh, hc1, hc2, hc3, hc4⟩
    · omega
    · injection he with he _ he2
      subst he he2
      refine .inr ⟨g, c, cur, by rw [hl], hb, hh, by omega, hc2, hc3, ?_⟩
      rw [hl, ← hc4, List.take_take, Nat.min_eq_left (Nat.mul_le_mul_right _ (by omega))]
  · have hj := get_lt hx
    rw [hl] at hj
    rw [List.getElem?_take, if_pos hj] at hx
    obtain ⟨cs, h3, h4⟩ := h2 j x hx
    refine ⟨cs, h3, fun i u hu => ?_⟩
    have hi : i < d.sz := by rw [← d.len h3]; exact get_lt hu
    rw [List.getElem?_take, if_pos]
    · exact h4 i u hu
    · have : (j + 1) * d.sz ≤ m * d.sz := Nat.mul_le_mul_right _ (by omega)
      rw [Nat.add_mul, Nat.one_mul] at this
      omega
/-- A row that a literal has laid. -/
theorem Vec.lit {cs : Array Value} (hh : w.heap[g]? = some (.cells cs T (0, 0))) (hn : n = xs.length) (hl : cs.size = xs.length * d.sz) (hm : xs.length ≤ 9223372036854775807) (hc : Cs d F w xs cs.toList) : Vec d T F w (.slice (some ⟨g, 0, none⟩) n n) xs := by
  subst hn
  refine ⟨cs.toList, ⟨by simpa using hl, .inr ⟨g, xs.length, cs, rfl, Nat.zero_le _, hh, Nat.le_refl _, by simpa [maxLen] using hm, hl, ?_⟩⟩, hc⟩
  rw [← hl]
  exact List.take_of_length_le (by simp)
theorem Vec.lit1 {enc : α → Value} {F : Nat → Prop} (hh : w.heap[g]? = some (.cells #[enc x] T (0, 0))) : Vec (Kd.scalar enc) T F w (.slice (some ⟨g, 0, none⟩) 1 1) [x] :=
  Vec.lit (d := Kd.scalar enc) hh rfl rfl (by simp) (fun j y hy => by
    match j, hy with
    | 0, hy =>
      simp at hy; subst hy
      exact ⟨[enc x], rfl, fun i u hu => by
        match i, hu with
        | 0, hu => simpa using hu⟩)
end
/-- A part of a slice that is read: what stands from k on, m of it. -/
theorem Rd.part {α : Type} {d : Kd α} {F : Nat → Prop} {w : World} {A A' : Option Addr} {b o k m : Nat} {xs : List α} (h : Rd d F w A b o xs) (hA : 0 < m → A = some ⟨b, o, none⟩ → A' = some ⟨b, o + k * d.sz, none⟩) (hm : k + m ≤ xs.length) :
    Rd d F w A' b (o + k * d.sz) ((xs.drop k).take m) := by
  have hl : ((xs.drop k).take m).length = m := by rw [List.length_take, List.length_drop]; omega
  refine ⟨fun h0 => ?_, fun j x hx => ?_⟩
  · rw [hl] at h0
    obtain ⟨h1, h2, h3⟩ := h.adr (by omega)
    exact ⟨hA h0 h1, h2, h3⟩
  · have hj := get_lt hx
    rw [hl] at hj
    rw [List.getElem?_take, if_pos hj, List.getElem?_drop] at hx
    obtain ⟨cs, h1, h2⟩ := h.cells _ x hx
    refine ⟨cs, h1, fun i u hu => ?_⟩
    have := h2 i u hu
    rw [show o + k * d.sz + j * d.sz + i = o + (k + j) * d.sz + i from by rw [Nat.add_mul]; omega]
    exact this
/-- s[i:j], i = k, j = k + m: the address under a name. -/
theorem sub_lh {P : Program} (t e sz : Nat) (ht : P.underlying t = some (.slice e)) (hsz : (P.info? e).map (fun i => i.size) = some sz) (A : Option Addr) (n c k m : Nat) (i j : Int) (hi : i = k) (hj : j = k + m) (hc : k + m ≤ c) :
    ∃ A', (∀ W : World, (Instr.slice t (.slice A n c) (some (.int .i64 i)) (some (.int .i64 j)) none).run P W = .ok (.slice A' m (c - k)) W) ∧ ∀ b o, 0 < m → A = some ⟨b, o, none⟩ → A' = some ⟨b, o + k * sz, none⟩ := by
  obtain ⟨inf, h1, h2⟩ := Option.map_eq_some_iff.1 hsz
  have hel : P.elem t = e := by simp [Program.elem, ht]
  have hu : P.underlying t = some (.slice (P.elem t)) := by rw [hel]; exact ht
  subst hi hj
  refine ⟨if c = k then A else A.map (·.add (k * sz)), fun W => ?_, fun b o hm hA => ?_⟩
  · rw [run_slice_lh W t A n c hu .i64 .i64 k (k + m) (by omega) (by omega) (by omega), hel]
    simp [sizeOf, typeInfo, h1, h2, sliced, Result.andThen, Sem.run_bind, program, Sem.run]
    omega
  · rw [if_neg (by omega), hA]
    simp only [Option.map_some, Addr.add]
    split <;> simp_all
theorem sub_l {P : Program} (t e sz : Nat) (ht : P.underlying t = some (.slice e)) (hsz : (P.info? e).map (fun i => i.size) = some sz) (A : Option Addr) (n c k m : Nat) (i : Int) (hi : i = k) (hn : n = k + m) (hc : n ≤ c) :
    ∃ A', (∀ W : World, (Instr.slice t (.slice A n c) (some (.int .i64 i)) none none).run P W = .ok (.slice A' m (c - k)) W) ∧ ∀ b o, 0 < m → A = some ⟨b, o, none⟩ → A' = some ⟨b, o + k * sz, none⟩ := by
  obtain ⟨inf, h1, h2⟩ := Option.map_eq_some_iff.1 hsz
  have hel : P.elem t = e := by simp [Program.elem, ht]
  have hu : P.underlying t = some (.slice (P.elem t)) := by rw [hel]; exact ht
  subst hi hn
  refine ⟨if c = k then A else A.map (·.add (k * sz)), fun W => ?_, fun b o hm hA => ?_⟩
  · rw [run_slice_l W t A _ c hu .i64 k (by omega) (by omega), hel]
    simp [sizeOf, typeInfo, h1, h2, sliced, Result.andThen, Sem.run_bind, program, Sem.run]
  · rw [if_neg (by omega), hA]
    simp only [Option.map_some, Addr.add]
    split <;> simp_all
end Go.Proofs.YtgflhpfeghplpaaGreatDoor
