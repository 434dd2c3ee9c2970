/- Arguments opened: slices of integers, slices of edits. -/
import Derived.Test.YtgflhpfeghplpaaGreatDoorOwn2
import Derived.Deep.Slices
import Derived.Deep.Strs
import Derived.ProofKit
set_option maxRecDepth 100000
namespace Go.Proofs.YtgflhpfeghplpaaGreatDoor
open Go.RowKit Go.ChangeShapes Go.WideShapes Go.ChangeAt
instance : Inhabited Ed := ⟨⟨false, 0, 0⟩⟩
section
variable {H : Type} {enc : TypeId × Value → H} {P : Program} {w : World} {base : Nat} {sp : Nat → Bool} {held : Bool}
theorem sl_open {α : Type} [Inhabited α] {d : Kd α} {t e : TypeId} {fuel : Nat} {v : Value} {x : DataW H × List MemPlace} (ht : P.underlying t = some (.slice e)) (hc : P.cellsOf e = d.sz) (hsz : 0 < d.sz)
    (hel : ∀ n cs y, DataW.trod enc P w base sp held n e cs = some y → cs.length = d.sz → ∃ z, d.K (fun _ => True) w z cs)
    (h : DataW.trod enc P w base sp held fuel t [v] = some x) : ∃ xs, Sl d (fun _ => True) w v xs := by
  rcases Go.Deep.open_slice ht h with ⟨h1, _⟩ | ⟨a, len, cap, m, n, D, Pl, h1, hb, hl, hm, hmm, _, hx⟩
  · have : v = .slice none 0 0 := by simpa using h1
    subst this
    exact ⟨[], Sl.nil _ _ _⟩
  · have hv : v = .slice (some a) len cap := by simpa using h1
    subst hv
    have hlm : len ≤ m := by rw [hmm]; split <;> omega
    have hcap : cap ≤ 9223372036854775807 := by simpa [maxLen] using hm
    by_cases h0 : len = 0
    · subst h0
      exact ⟨[], some a, 0, 0, cap, rfl, by simp, hcap, ⟨fun h => by simp at h, fun j x hx => by simp at hx⟩⟩
    obtain ⟨z, hz⟩ := Go.Deep.choose_lt (α := α) (n := len) (p := fun i z => ∃ cs, d.K (fun _ => True) w z cs ∧ ∀ j u, cs[j]? = some u → w.cell? (a.add (i * d.sz + j)) = some u) (fun i hi => by
      obtain ⟨cs, h2, h3⟩ := hx i (by omega)
      rw [hc] at h2
      obtain ⟨_, hlen, hcell⟩ := World.cells?_some h2
      obtain ⟨z, hz⟩ := hel _ _ _ h3 hlen
      refine ⟨z, cs, hz, fun j u hu => ?_⟩
      have := hcell j (by rw [← hlen]; exact get_lt hu)
      rw [Go.Deep.add_add] at this
      rw [this]
      exact hu)
    obtain ⟨ab, ao, asp⟩ := a
    obtain ⟨cs, h2, h3⟩ := hz 0 (by omega)
    have hl0 := d.len h2
    obtain ⟨u, hu⟩ := get_some (xs := cs) (k := 0) (by omega)
    have h4 := h3 0 u hu
    have hsp : asp = none := by simpa [Addr.add] using World.cell?_spot h4
    subst hsp
    have hbl : ab < w.heap.size := by simpa [Addr.add] using World.block_lt_of_cell? w _ h4
    refine ⟨(List.range len).map z, some ⟨ab, ao, none⟩, ab, ao, cap, by simp, by simpa using hl, hcap, ⟨fun _ => ⟨rfl, trivial, hbl⟩, fun j x hj => ?_⟩⟩
    rw [List.getElem?_map] at hj
    obtain ⟨i, hi, rfl⟩ := Option.map_eq_some_iff.1 hj
    have hjl : j < len := by have := get_lt hi; simpa using this
    have hij : i = j := by rw [List.getElem?_range hjl] at hi; simpa using hi.symm
    subst hij
    obtain ⟨cs', h5, h6⟩ := hz i hjl
    refine ⟨cs', h5, fun k u hu => ?_⟩
    have := h6 k u hu
    have e : (⟨ab, ao, none⟩ : Addr).add (i * d.sz + k) = ⟨ab, ao + i * d.sz + k, none⟩ := by unfold Addr.add; split <;> simp_all <;> omega
    rwa [e] at this
theorem open_ints_sl {t : TypeId} {e : TypeId} {v : Value} {x : DataW H} {p : List MemPlace} (ht : P.underlying t = some (.slice e)) (he : P.underlying e = some (.int .i64)) (hc : P.cellsOf e = 1) (hv : ∃ a n c, v = .slice a n c)
    (h : DataW.Trod enc P w base sp held t v x p) : ∃ xs, Sl Kd.int (fun _ => True) w v xs := by
  obtain ⟨fuel, h⟩ := h
  obtain ⟨a, n, c, rfl⟩ := hv
  refine sl_open (d := Kd.int) ht hc (Nat.lt_succ_self 0) (fun n cs y hy _ => ?_) (by simpa [Value.cells] using h)
  obtain ⟨k, rfl, _⟩ := DataW.trod_int he hy
  exact ⟨k, rfl⟩
theorem open_eds_sl {t e : TypeId} {f0 f1 f2 : Field} {v : Value} {x : DataW H} {p : List MemPlace} (ht : P.underlying t = some (.slice e)) (he : P.underlying e = some (.struct #[f0, f1, f2])) (hc : P.cellsOf e = 3)
    (o0 : f0.offset = 0) (o1 : f1.offset = 1) (o2 : f2.offset = 2) (c0 : P.cellsOf f0.type = 1) (c1 : P.cellsOf f1.type = 1) (c2 : P.cellsOf f2.type = 1)
    (t0 : P.underlying f0.type = some .bool) (t1 : P.underlying f1.type = some (.int .i64)) (t2 : P.underlying f2.type = some (.int .i64)) (hv : ∃ a n c, v = .slice a n c)
    (h : DataW.Trod enc P w base sp held t v x p) : ∃ xs, Sl Kd.ed (fun _ => True) w v xs := by
  obtain ⟨fuel, h⟩ := h
  obtain ⟨a, n, c, rfl⟩ := hv
  refine sl_open (d := Kd.ed) ht hc (by decide) (fun n cs y hy hl => ?_) (by simpa [Value.cells] using h)
  obtain ⟨y0, y1, y2, m, _, _, g0, g1, g2⟩ := Go.Deep.trod_struct3 he hy
  match cs, hl with
  | [v0, v1, v2], _ =>
    simp [o0, o1, o2, c0, c1, c2] at g0 g1 g2
    obtain ⟨b, e0, _⟩ := DataW.trod_bool t0 g0
    obtain ⟨k1, e1, _⟩ := DataW.trod_int t1 g1
    obtain ⟨k2, e2, _⟩ := DataW.trod_int t2 g2
    simp at e0 e1 e2
    subst e0 e1 e2
    exact ⟨⟨b, k1, k2⟩, rfl⟩
end
end Go.Proofs.YtgflhpfeghplpaaGreatDoor
