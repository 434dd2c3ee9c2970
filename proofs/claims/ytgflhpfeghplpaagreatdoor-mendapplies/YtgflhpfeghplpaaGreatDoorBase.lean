/- Shared words of all walks: what a call may have changed, and what values in memory read as. -/
import Derived.Test.YtgflhpfeghplpaaGreatDoorProg
import Derived.WalkKit
import Derived.Deep.QuietTactic
import Derived.BigQuiet
import Derived.RegionTactic
import Derived.Lib.Hide
import Derived.Deep.DeepFit
import Derived.Deep.DeepMust
import Derived.Outline
import Derived.Maps.AppendAt
set_option maxRecDepth 100000
namespace Go.Proofs.YtgflhpfeghplpaaGreatDoor
open Go.RowKit

/-! ### 1. What may have changed -/
/-- Of the blocks that there were only those of S may have changed. -/
structure Ch (S : Nat → Prop) (w w' : World) : Prop where
  os : w'.os = w.os
  tape : w'.tape = w.tape
  output : w'.output = w.output
  size : w.heap.size ≤ w'.heap.size
  block : ∀ k, k < w.heap.size → ¬ S k → w'.heap[k]? = w.heap[k]?
def none_ (_ : Nat) : Prop := False
abbrev Nw (w w' : World) : Prop := Ch none_ w w'
theorem not_none_ (k : Nat) : ¬ none_ k := fun h => h
section
variable {S S' : Nat → Prop} {a b c w w' w1 : World}
theorem asz (w : World) (o : Obj) : (w.alloc o).heap.size = w.heap.size + 1 := by unfold World.alloc; rw [Array.size_push]
theorem ssz (w : World) (p : Addr) (u : Value) : (w.setCell p u).heap.size = w.heap.size := by simp [World.setCell]
theorem Ch.refl (S : Nat → Prop) (w : World) : Ch S w w := ⟨rfl, rfl, rfl, Nat.le_refl _, fun _ _ _ => rfl⟩
theorem Ch.mono (h : Ch S a b) (hs : ∀ k, k < a.heap.size → S k → S' k) : Ch S' a b :=
  ⟨h.os, h.tape, h.output, h.size, fun k hk hn => h.block k hk (fun hS => hn (hs k hk hS))⟩
theorem Ch.trans (h : Ch S a b) (k : Ch S' b c) (hs : ∀ k, k < a.heap.size → S' k → S k) : Ch S a c :=
  ⟨k.os.trans h.os, k.tape.trans h.tape, k.output.trans h.output, Nat.le_trans h.size k.size, fun i hi hn =>
    (k.block i (Nat.lt_of_lt_of_le hi h.size) (fun hS => hn (hs i hi hS))).trans (h.block i hi hn)⟩
theorem Ch.nw (h : Ch S a b) (k : Nw b c) : Ch S a c := h.trans k (fun _ _ hf => hf.elim)
theorem Nw.ch (h : Nw a b) (k : Ch S b c) : Ch S a c :=
  ⟨k.os.trans h.os, k.tape.trans h.tape, k.output.trans h.output, Nat.le_trans h.size k.size, fun i hi hn =>
    (k.block i (Nat.lt_of_lt_of_le hi h.size) hn).trans (h.block i hi (not_none_ i))⟩
theorem Ch.below (h : Below a.heap.size a b) : Nw a b := ⟨h.os, h.tape, h.output, h.size, fun k hk _ => h.block k hk⟩
theorem Ch.of_below {B : Nat} (h : Below B a b) : Ch (fun k => B ≤ k) a b := ⟨h.os, h.tape, h.output, h.size, fun k _ hn => h.block k (Nat.lt_of_not_le hn)⟩
theorem Ch.to_below (h : Nw a b) : Below a.heap.size a b := ⟨h.os, h.tape, h.output, h.size, fun k hk => h.block k hk (not_none_ k)⟩
theorem Ch.grown {row : Option Nat} (h : a.grownBy b row) : Ch (fun k => some k = row) a b := ⟨h.os, h.tape, h.output, h.size, fun k hk hn => h.block k hk hn⟩
theorem Ch.alloc (h : Ch S a w) (o : Obj) : Ch S a (w.alloc o) :=
  h.trans (S' := none_) (Ch.below ((Below.refl _ _).alloc (Nat.le_refl _) o)) (fun _ _ hf => hf.elim)
theorem Ch.drew (h : Ch S a w) : Ch S a w.drew := ⟨h.os, h.tape, h.output, h.size, h.block⟩
theorem Ch.drewN (h : Ch S a w) (n : Nat) : Ch S a (w.drewN n) := ⟨h.os, h.tape, h.output, h.size, h.block⟩
theorem Ch.setCell (h : Ch S a w) {p : Addr} (hp : p.block < a.heap.size → S p.block) (u : Value) : Ch S a (w.setCell p u) :=
  h.trans (S' := fun k => k = p.block) ⟨rfl, rfl, rfl, by simp [World.setCell], fun k _ hn => Below.heap_setCell _ _ _ _ hn⟩ (fun k hk he => by subst he; exact hp hk)
theorem Ch.cell (h : Ch S w w') {p : Addr} {v : Value} (hc : w.cell? p = some v) (hn : ¬ S p.block) : w'.cell? p = some v :=
  (World.cell?_of_block (w := w) (h.block p.block (World.block_lt_of_cell? w p hc) hn)).trans hc
theorem Ch.heap (h : Ch S w w') {k : Nat} {o : Obj} (hc : w.heap[k]? = some o) (hn : ¬ S k) : w'.heap[k]? = some o :=
  (h.block k (Array.getElem?_eq_some_iff.1 hc).1 hn).trans hc
/-- The two rules by which the walk reads old cells in the new world. -/
theorem Ch.cf (h : Ch S w w') : (∀ b o, b < w.heap.size → ¬ S b → w'.cell? ⟨b, o, none⟩ = w.cell? ⟨b, o, none⟩) ∧ (∀ b o, b < w.heap.size → ¬ S b → w'.frozen? ⟨b, o, none⟩ = w.frozen? ⟨b, o, none⟩) :=
  ⟨fun b o hb hn => World.cell?_of_block (w := w) (a := ⟨b, o, none⟩) (h.block b hb hn), fun b o hb hn => World.frozen?_of_block (w := w) (a := ⟨b, o, none⟩) (h.block b hb hn)⟩
theorem Nw.cf (h : Nw w w') : (∀ b o, b < w.heap.size → w'.cell? ⟨b, o, none⟩ = w.cell? ⟨b, o, none⟩) ∧ (∀ b o, b < w.heap.size → w'.frozen? ⟨b, o, none⟩ = w.frozen? ⟨b, o, none⟩) :=
  ⟨fun b o hb => (Ch.cf h).1 b o hb (not_none_ b), fun b o hb => (Ch.cf h).2 b o hb (not_none_ b)⟩
end
theorem cell_lt {w : World} {b o : Nat} {v : Value} (h : w.cell? ⟨b, o, none⟩ = some v) : b < w.heap.size := World.block_lt_of_cell? w _ h

/-! ### 2. Lists -/
theorem get_some {α : Type} {xs : List α} {k : Nat} (h : k < xs.length) : ∃ x, xs[k]? = some x := ⟨_, List.getElem?_eq_getElem h⟩
theorem get_lt {α : Type} {xs : List α} {k : Nat} {x : α} (h : xs[k]? = some x) : k < xs.length := (List.getElem?_eq_some_iff.1 h).1
theorem drop_cons {α : Type} {xs : List α} {k : Nat} {x : α} (h : xs[k]? = some x) : xs.drop k = x :: xs.drop (k + 1) := by
  obtain ⟨hl, rfl⟩ := List.getElem?_eq_some_iff.1 h
  exact List.drop_eq_getElem_cons hl
theorem drop_end {α : Type} {xs : List α} {k : Nat} (h : ¬ k < xs.length) : xs.drop k = [] := List.drop_of_length_le (by omega)

/-! ### 3. Kinds of values: how an element's cells read -/
structure Kd (α : Type) where
  sz : Nat
  K : (Nat → Prop) → World → α → List Value → Prop
  len : ∀ {F w x cs}, K F w x cs → cs.length = sz
  mono : ∀ {F F' : Nat → Prop} {w x cs}, K F w x cs → (∀ k, F k → F' k) → K F' w x cs
  bound : ∀ {F w x cs}, K F w x cs → K (fun k => F k ∧ k < w.heap.size) w x cs
  ch : ∀ {F S : Nat → Prop} {w w' x cs}, K F w x cs → Ch S w w' → (∀ k, F k → ¬ S k) → K F w' x cs
/-- A kind of one cell, a value of its own. -/
def Kd.scalar {α : Type} (enc : α → Value) : Kd α where
  sz := 1
  K := fun _ _ x cs => cs = [enc x]
  len := fun h => by rw [h]; rfl
  mono := fun h _ => h
  bound := fun h => h
  ch := fun h _ _ => h
def Kd.int : Kd Int := Kd.scalar (Value.int .i64)
def Kd.bool : Kd Bool := Kd.scalar Value.bool
def Kd.str : Kd ByteArray := Kd.scalar Value.string
/-- A slice's parts: address, block, offset; its elements' cells. -/
structure Rd {α : Type} (d : Kd α) (F : Nat → Prop) (w : World) (A : Option Addr) (b o : Nat) (xs : List α) : Prop where
  adr : 0 < xs.length → A = some ⟨b, o, none⟩ ∧ F b ∧ b < w.heap.size
  cells : ∀ j x, xs[j]? = some x → ∃ cs, d.K F w x cs ∧ ∀ i u, cs[i]? = some u → w.cell? ⟨b, o + j * d.sz + i, none⟩ = some u
section
variable {α : Type} {d : Kd α} {F F' S : Nat → Prop} {w w' : World} {A : Option Addr} {b o c : Nat} {xs : List α} {v : Value}
theorem Rd.mono (h : Rd d F w A b o xs) (hf : ∀ k, F k → F' k) : Rd d F' w A b o xs :=
  ⟨fun hl => ⟨(h.adr hl).1, hf _ (h.adr hl).2.1, (h.adr hl).2.2⟩, fun j x hx => by
    obtain ⟨cs, hk, hc⟩ := h.cells j x hx
    exact ⟨cs, d.mono hk hf, hc⟩⟩
theorem Rd.bound (h : Rd d F w A b o xs) : Rd d (fun k => F k ∧ k < w.heap.size) w A b o xs :=
  ⟨fun hl => ⟨(h.adr hl).1, ⟨(h.adr hl).2.1, (h.adr hl).2.2⟩, (h.adr hl).2.2⟩, fun j x hx => by
    obtain ⟨cs, hk, hc⟩ := h.cells j x hx
    exact ⟨cs, d.bound hk, hc⟩⟩
theorem Rd.ch (h : Rd d F w A b o xs) (hc : Ch S w w') (hf : ∀ k, F k → ¬ S k) : Rd d F w' A b o xs :=
  ⟨fun hl => ⟨(h.adr hl).1, (h.adr hl).2.1, Nat.lt_of_lt_of_le (h.adr hl).2.2 hc.size⟩, fun j x hx => by
    obtain ⟨cs, hk, h1⟩ := h.cells j x hx
    exact ⟨cs, d.ch hk hc hf, fun i u hu => hc.cell (h1 i u hu) (hf _ (h.adr (by have := get_lt hx; omega)).2.1)⟩⟩
theorem Rd.nw (h : Rd d F w A b o xs) (hc : Nw w w') : Rd d F w' A b o xs := h.ch hc (fun k _ => not_none_ k)
end
/-- A slice of such elements. -/
def Kd.sl {α : Type} (d : Kd α) : Kd (List α) where
  sz := 1
  K := fun F w xs cs => ∃ A b o c, cs = [.slice A xs.length c] ∧ xs.length ≤ c ∧ c ≤ 9223372036854775807 ∧ Rd d F w A b o xs
  len := by rintro F w x cs ⟨A, b, o, c, rfl, _⟩; rfl
  mono := by rintro F F' w x cs ⟨A, b, o, c, h0, h1, h2, h3⟩ hf; exact ⟨A, b, o, c, h0, h1, h2, h3.mono hf⟩
  bound := by rintro F w x cs ⟨A, b, o, c, h0, h1, h2, h3⟩; exact ⟨A, b, o, c, h0, h1, h2, h3.bound⟩
  ch := by rintro F S w w' x cs ⟨A, b, o, c, h0, h1, h2, h3⟩ hc hf; exact ⟨A, b, o, c, h0, h1, h2, h3.ch hc hf⟩
/-- A slice value that reads as xs. -/
def Sl {α : Type} (d : Kd α) (F : Nat → Prop) (w : World) (v : Value) (xs : List α) : Prop :=
  ∃ A b o c, v = .slice A xs.length c ∧ xs.length ≤ c ∧ c ≤ 9223372036854775807 ∧ Rd d F w A b o xs
section
variable {α : Type} {d : Kd α} {F F' S : Nat → Prop} {w w' : World} {A : Option Addr} {b o c k : Nat} {xs : List α} {v : Value}
theorem sl_K {cs : List Value} : (Kd.sl d).K F w xs cs ↔ ∃ v, cs = [v] ∧ Sl d F w v xs := by
  constructor
  · rintro ⟨A, b, o, c, rfl, h⟩
    exact ⟨_, rfl, A, b, o, c, rfl, h⟩
  · rintro ⟨v, rfl, A, b, o, c, rfl, h⟩
    exact ⟨A, b, o, c, rfl, h⟩
theorem Sl.mono (h : Sl d F w v xs) (hf : ∀ k, F k → F' k) : Sl d F' w v xs := by
  obtain ⟨A, b, o, c, h0, h1, h2, h3⟩ := h
  exact ⟨A, b, o, c, h0, h1, h2, h3.mono hf⟩
theorem Sl.bound (h : Sl d F w v xs) : Sl d (fun k => F k ∧ k < w.heap.size) w v xs := by
  obtain ⟨A, b, o, c, h0, h1, h2, h3⟩ := h
  exact ⟨A, b, o, c, h0, h1, h2, h3.bound⟩
theorem Sl.ch (h : Sl d F w v xs) (hc : Ch S w w') (hf : ∀ k, F k → ¬ S k) : Sl d F w' v xs := by
  obtain ⟨A, b, o, c, h0, h1, h2, h3⟩ := h
  exact ⟨A, b, o, c, h0, h1, h2, h3.ch hc hf⟩
theorem Sl.nw (h : Sl d F w v xs) (hc : Nw w w') : Sl d F w' v xs := h.ch hc (fun k _ => not_none_ k)
theorem Sl.nil (d : Kd α) (F : Nat → Prop) (w : World) : Sl d F w (.slice none 0 0) [] :=
  ⟨none, 0, 0, 0, rfl, Nat.le_refl _, by omega, ⟨fun h => by simp at h, fun j x hx => by simp at hx⟩⟩
/-- The element that comes next: where it lies, and how the rest is cut. -/
theorem Rd.at1 {enc : α → Value} (h : Rd (Kd.scalar enc) F w A b o xs) (hk : k < xs.length) :
    ∃ x, A = some ⟨b, o, none⟩ ∧ F b ∧ b < w.heap.size ∧ w.cell? ⟨b, o + k, none⟩ = some (enc x) ∧ Hid (xs.drop k = x :: xs.drop (k + 1)) ∧ Hid (xs[k]? = some x) := by
  obtain ⟨x, hx⟩ := get_some hk
  obtain ⟨cs, h1, h2⟩ := h.cells k x hx
  obtain ⟨e, hf, hb⟩ := h.adr (by omega)
  have h1' : cs = [enc x] := h1
  subst h1'
  have := h2 0 (enc x) rfl
  simp only [Kd.scalar, Nat.mul_one, Nat.add_zero] at this
  exact ⟨x, e, hf, hb, this, drop_cons hx, hx⟩
theorem Rd.int {xs' : List Int} (h : Rd Kd.int F w A b o xs') (hk : k < xs'.length) :
    ∃ x, A = some ⟨b, o, none⟩ ∧ F b ∧ b < w.heap.size ∧ w.cell? ⟨b, o + k, none⟩ = some (.int .i64 x) ∧ Hid (xs'.drop k = x :: xs'.drop (k + 1)) ∧ Hid (xs'[k]? = some x) := Rd.at1 h hk
theorem Rd.bool {xs' : List Bool} (h : Rd Kd.bool F w A b o xs') (hk : k < xs'.length) :
    ∃ x, A = some ⟨b, o, none⟩ ∧ F b ∧ b < w.heap.size ∧ w.cell? ⟨b, o + k, none⟩ = some (.bool x) ∧ Hid (xs'.drop k = x :: xs'.drop (k + 1)) ∧ Hid (xs'[k]? = some x) := Rd.at1 h hk
theorem Rd.str {xs' : List ByteArray} (h : Rd Kd.str F w A b o xs') (hk : k < xs'.length) :
    ∃ x, A = some ⟨b, o, none⟩ ∧ F b ∧ b < w.heap.size ∧ w.cell? ⟨b, o + k, none⟩ = some (.string x) ∧ Hid (xs'.drop k = x :: xs'.drop (k + 1)) ∧ Hid (xs'[k]? = some x) := Rd.at1 h hk
end
@[go_sem] theorem run_store_float {P : Program} {w : World} {a : Addr} {m : Mode} (k : FloatKind) (b : Nat) : (store a (.float k b) m).run P w = stored P w a (.float k b) m := run_store P w a _ m rfl
@[go_sem] theorem run_store_map {P : Program} {w : World} {a : Addr} {m : Mode} (r : Option Nat) : (store a (.map r) m).run P w = stored P w a (.map r) m := run_store P w a _ m rfl
end Go.Proofs.YtgflhpfeghplpaaGreatDoor
