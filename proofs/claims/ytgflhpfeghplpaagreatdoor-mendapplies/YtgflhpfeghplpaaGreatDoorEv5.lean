/- What is read and written. -/
import Derived.Test.YtgflhpfeghplpaaGreatDoorEv4
set_option maxRecDepth 100000
namespace Go.Proofs.YtgflhpfeghplpaaGreatDoor
open Go.RowKit
namespace Ev
section
variable {C : Cfg} {base : World} {ρ ρ' : Rho} {s : AW} {w w' : World} {P : Program}
theorem rb {α β : Type} {m : Sem α} {f : α → Sem β} {a : α} {w1 : World} {r : Result β} (h : m.run P w = .ok a w1) (k : (f a).run P w1 = r) : (m >>= f).run P w = r := by
  rw [Sem.run_bind, h]; exact k
theorem r_val {m : Sem Value} {v : Value} (h : m.run P w = .ok v w') : (do pure (Next.value (← m)) : Sem Next).run P w = .ok (.value v) w' := rb h rfl
theorem r_unit {m : Sem Unit} (h : m.run P w = .ok () w') : (do m; pure Next.skip : Sem Next).run P w = .ok .skip w' := rb h rfl
theorem r_under {t : TypeId} {d : TypeDesc} (h : P.underlying t = some d) : (underlying t).run P w = .ok d w := by
  unfold underlying
  refine rb (run_program P w) ?_
  simp only [h]; rfl
theorem r_info {t : TypeId} {i : TypeInfo} (h : P.info? t = some i) : (typeInfo t).run P w = .ok i w := by
  unfold typeInfo
  refine rb (run_program P w) ?_
  simp only [h]; rfl
theorem info_of_under {t : TypeId} {d : TypeDesc} (h : P.underlying t = some d) : ∃ i, P.info? t = some i := by
  unfold Program.underlying at h
  split at h
  · rename_i x hx; exact ⟨_, by assumption⟩
  · rename_i i _ hi; exact ⟨i, hi⟩
  · cases h
theorem r_size {t : TypeId} {i : TypeInfo} (h : P.info? t = some i) : (sizeOf t).run P w = .ok (sz P t) w := by
  unfold sizeOf
  refine rb (r_info h) ?_
  simp [sz, h]
theorem sz_pos {t : TypeId} (h : 0 < sz P t) : ∃ i, P.info? t = some i := by
  unfold sz at h
  split at h
  · exact ⟨_, by assumption⟩
  · simp at h
theorem r_size' {t : TypeId} (h : 0 < sz P t) : (sizeOf t).run P w = .ok (sz P t) w := by
  obtain ⟨i, hi⟩ := sz_pos h
  exact r_size hi
theorem agg_info {t : TypeId} {b : Bool} (h : agg? P t = some b) : ∃ i, P.info? t = some i := by
  unfold agg? at h
  cases hu : P.underlying t with
  | none => rw [hu] at h; cases h
  | some d => exact info_of_under hu
theorem r_isAgg {t : TypeId} {b : Bool} (h : agg? P t = some b) : (isAgg t).run P w = .ok b w := by
  unfold isAgg
  unfold agg? at h
  cases hu : P.underlying t with
  | none => rw [hu] at h; cases h
  | some d =>
    rw [hu] at h
    refine rb (r_under hu) ?_
    cases d <;> simp at h <;> subst h <;> rfl
theorem r_zero {t : TypeId} {z : Value} (h : zeroOf P t = some z) : (zeroValue t).run P w = .ok z w ∧ (∃ i, P.info? t = some i) ∧ ∀ x ∈ z.cells.toList, closed0 x = true := by
  unfold zeroOf at h
  cases hi : P.info? t with
  | none => rw [hi] at h; cases h
  | some i =>
    rw [hi] at h
    simp only at h
    cases hz : i.zero with
    | none => rw [hz] at h; cases h
    | some z' =>
      rw [hz] at h
      simp only at h
      cases hc : z'.cells.toList.all closed0 with
      | false => rw [hc] at h; cases h
      | true =>
        rw [hc] at h
        simp only [cond_true, Option.some.injEq] at h
        subst h
        refine ⟨?_, ⟨i, rfl⟩, List.all_eq_true.1 hc⟩
        unfold zeroValue
        refine rb (r_info hi) ?_
        simp only [hz]; rfl
theorem add_none (c o i : Nat) : Addr.add ⟨c, o, none⟩ i = ⟨c, o + i, none⟩ := by
  unfold Addr.add
  split
  · rename_i h; subst h; rfl
  · rfl
theorem cell_of {c o : Nat} {arr : Array Value} {e : TypeId} {fz : Nat × Nat} (h : w.heap[c]? = some (.cells arr e fz)) : w.cell? ⟨c, o, none⟩ = arr[o]? := by
  simp [World.cell?, h]
theorem r_load {a : Addr} {v : Value} (h : w.cell? a = some v) : (load a).run P w = .ok v w := by
  rw [run_load, h]
theorem r_loadFrom {c : Nat} : ∀ (ys : List Value) (o i : Nat) (acc : Array Value), (∀ (j : Nat) (y : Value), ys[j]? = some y → w.cell? ⟨c, o + (i + j), none⟩ = some y) →
    (loadCellsFrom ⟨c, o, none⟩ i ys.length acc).run P w = .ok (acc ++ ys.toArray) w
  | [], o, i, acc, _ => by simp [loadCellsFrom]
  | y :: ys, o, i, acc, h => by
    unfold loadCellsFrom
    refine rb (a := y) (w1 := w) (r_load ?_) ?_
    · rw [add_none]; exact h 0 y rfl
    · have := r_loadFrom (c := c) ys o (i + 1) (acc.push y) (fun j z hz => by have := h (j + 1) z hz; rwa [show i + 1 + j = i + (j + 1) by omega])
      rw [this]
      congr 1
      rw [Array.push_eq_append, Array.append_assoc]; simp
theorem r_loadCells {c o n : Nat} {ys : List Value} (hn : n = ys.length) (h : ∀ (j : Nat) (y : Value), ys[j]? = some y → w.cell? ⟨c, o + j, none⟩ = some y) :
    (loadCells ⟨c, o, none⟩ n).run P w = .ok ys.toArray w := by
  subst hn
  unfold loadCells
  have := r_loadFrom (P := P) (w := w) (c := c) ys o 0 #[] (fun j y hy => by rw [Nat.zero_add]; exact h j y hy)
  simpa using this
theorem cut_inv {α : Type} {cs xs : List α} {i n : Nat} (h : cut cs i n = some xs) : xs = (cs.drop i).take n ∧ xs.length = n := by
  unfold cut at h
  cases hb : Nat.beq ((cs.drop i).take n).length n with
  | false => simp only [hb, cond_false] at h; cases h
  | true => simp only [hb, cond_true, Option.some.injEq] at h; subst h; exact ⟨rfl, Nat.eq_of_beq_eq_true hb⟩
theorem cut_get {α : Type} {cs xs : List α} {i n j : Nat} {x : α} (h : cut cs i n = some xs) (hx : xs[j]? = some x) : cs[i + j]? = some x := by
  obtain ⟨rfl, _⟩ := cut_inv h
  rw [List.getElem?_take] at hx
  split at hx
  · rwa [List.getElem?_drop] at hx
  · cases hx
theorem cellsAt_inv {b o n : Nat} {xs : List Value} (h : cellsAt s b o n = some xs) : ∃ cs e x, s.get b = some (.cells cs e x) ∧ cut cs o n = some xs ∧ ∀ v ∈ xs, v ≠ junk := by
  unfold cellsAt at h
  split at h
  · split at h
    · rename_i ys hy
      cases ha : ys.all notJunk with
      | false => rw [ha] at h; cases h
      | true =>
        rw [ha] at h
        cases h
        refine ⟨_, _, _, by assumption, hy, fun v hv e => ?_⟩
        have := List.all_eq_true.1 ha v hv
        rw [e] at this
        cases this
    · cases h
  · cases h
/-- The model's cells of a block that the evaluator has. -/
theorem RW.cells (h : RW C base ρ s w) {b o n c d l : Nat} {xs : List Value} (hb : ρ b = some (c, d, l)) (hx : cellsAt s b o n = some xs) :
    ∃ ys, RL ρ xs ys ∧ ys.length = n ∧ ∀ (j : Nat) (y : Value), ys[j]? = some y → w.cell? ⟨c, d + o + j, none⟩ = some y := by
  obtain ⟨cs, e, x, hg, hc, hjk⟩ := cellsAt_inv hx
  have ho := h.obj b c d l hb
  rw [hg] at ho
  obtain ⟨arr, h1, h2, h3, h4⟩ := ho
  have hl := (cut_inv hc).2
  have key : ∀ j x, xs[j]? = some x → ∃ u, arr[d + o + j]? = some u ∧ RV ρ x u := fun j x hj => by
    obtain ⟨u, hu, hr⟩ := h4 _ _ (cut_get hc hj)
    rw [← Nat.add_assoc] at hu
    exact ⟨u, hu, hr.resolve_left (hjk _ (List.mem_of_getElem? hj))⟩
  refine ⟨(List.range n).map fun j => (arr[d + o + j]?).getD default, ⟨by simp [hl], fun j x y hx hy => ?_⟩, by simp, fun j y hy => ?_⟩
  · have hj : j < n := by have := (List.getElem?_eq_some_iff.1 hx).1; omega
    obtain ⟨u, hu, hr⟩ := key j x hx
    rw [List.getElem?_map, List.getElem?_range hj] at hy
    simp only [Option.map_some, Option.some.injEq, hu, Option.getD_some] at hy
    rw [← hy]; exact hr
  · have hj : j < n := by have := (List.getElem?_eq_some_iff.1 hy).1; simpa using this
    have hx : xs[j]? = some xs[j] := List.getElem?_eq_getElem (by omega)
    obtain ⟨u, hu, hr⟩ := key j _ hx
    rw [List.getElem?_map, List.getElem?_range hj] at hy
    simp only [Option.map_some, Option.some.injEq, hu, Option.getD_some] at hy
    rw [cell_of h1, hu, hy]
theorem RW.load (h : RW C base ρ s w) {t : TypeId} {b o c d l : Nat} {ag : Bool} {xs : List Value} (hb : ρ b = some (c, d, l)) (ht : agg? C.P t = some ag)
    (hx : cellsAt s b o (if ag then sz C.P t else 1) = some xs) :
    ∃ vc, (loadVar t ⟨c, d + o, none⟩).run C.P w = .ok vc w ∧ (ag = true → RV ρ (.agg xs.toArray) vc) ∧ (ag = false → ∀ v, xs = [v] → RV ρ v vc) := by
  obtain ⟨ys, hr, hn, hc⟩ := h.cells hb hx
  cases ag with
  | true =>
    refine ⟨.agg ys.toArray, ?_, fun _ => RV.agg_l hr, fun e => by cases e⟩
    unfold loadVar
    refine rb (r_isAgg ht) ?_
    obtain ⟨i, hi⟩ := agg_info ht
    simp only [if_true]
    refine rb (r_size hi) ?_
    exact rb (r_loadCells (by simpa using hn.symm) (fun j y hy => hc j y hy)) rfl
  | false =>
    simp only [Bool.false_eq_true, if_false] at hn
    match ys, hn with
    | [y], _ =>
      refine ⟨y, ?_, (fun e => by cases e), fun _ v hv => by subst hv; exact hr.2 0 v y rfl rfl⟩
      unfold loadVar
      refine rb (r_isAgg ht) ?_
      simp only [Bool.false_eq_true, if_false]
      exact r_load (hc 0 y rfl)
/-! ### Writing -/
/-- Block c has other cells; nothing else is other. -/
structure Wrote (w w' : World) (c : Nat) (arr : Array Value) (e : TypeId) : Prop where
  size : w'.heap.size = w.heap.size
  other : ∀ k, k ≠ c → w'.heap[k]? = w.heap[k]?
  this : w'.heap[c]? = some (.cells arr e (0, 0))
  os : w'.os = w.os
  tape : w'.tape = w.tape
  output : w'.output = w.output
theorem frozen_no {c o : Nat} {arr : Array Value} {e : TypeId} (h : w.heap[c]? = some (.cells arr e (0, 0))) : w.frozen? ⟨c, o, none⟩ = false := by
  simp [World.frozen?, h]
theorem setCell_wrote {c o : Nat} {arr : Array Value} {e : TypeId} {v : Value} (h : w.heap[c]? = some (.cells arr e (0, 0))) :
    Wrote w (w.setCell ⟨c, o, none⟩ v) c (arr.setIfInBounds o v) e := by
  have hc : c < w.heap.size := (Array.getElem?_eq_some_iff.1 h).1
  refine ⟨by simp [World.setCell], fun k hk => ?_, ?_, rfl, rfl, rfl⟩
  · simp only [World.setCell]
    rw [Array.getElem?_modify]
    simp [Ne.symm hk]
  · simp only [World.setCell]
    rw [Array.getElem?_modify]
    simp [h]
theorem Wrote.trans {a b c : World} {k : Nat} {x y : Array Value} {e e' : TypeId} (h : Wrote a b k x e) (g : Wrote b c k y e') : Wrote a c k y e' :=
  ⟨g.size.trans h.size, fun i hi => (g.other i hi).trans (h.other i hi), g.this, g.os.trans h.os, g.tape.trans h.tape, g.output.trans h.output⟩
theorem r_storeCells {c : Nat} {e : TypeId} : ∀ (ys : List Value) (o i : Nat) (w : World) (arr : Array Value), w.heap[c]? = some (.cells arr e (0, 0)) → o + i + ys.length ≤ arr.size → (∀ y ∈ ys, y.oneCell' = true) →
    ∃ w' arr', (storeCells ⟨c, o, none⟩ ys i).run P w = .ok () w' ∧ Wrote w w' c arr' e ∧ arr'.size = arr.size ∧
      (∀ j, j < ys.length → arr'[o + i + j]? = ys[j]?) ∧ (∀ j, (j < o + i ∨ o + i + ys.length ≤ j) → arr'[j]? = arr[j]?)
  | [], o, i, w, arr, h, _, _ => by
    refine ⟨w, arr, by simp [storeCells], ⟨rfl, fun _ _ => rfl, h, rfl, rfl, rfl⟩, rfl, fun j hj => by simp at hj, fun _ _ => rfl⟩
  | y :: ys, o, i, w, arr, h, hs, hy => by
    simp only [List.length_cons] at hs
    have hcell : w.cell? (Addr.add ⟨c, o, none⟩ i) = some arr[o + i] := by
      rw [add_none, cell_of h, Array.getElem?_eq_getElem]
    have hst : (store (Addr.add ⟨c, o, none⟩ i) y).run P w = .ok () (w.setCell ⟨c, o + i, none⟩ y) := by
      rw [run_store P w _ y .plain (hy y (by simp)), hcell]
      rw [add_none, frozen_no h]
      simp
    have hw := setCell_wrote (o := o + i) (v := y) h
    obtain ⟨w', arr', h1, h2, h3, h4, h5⟩ := r_storeCells ys o (i + 1) (w.setCell ⟨c, o + i, none⟩ y) (arr.setIfInBounds (o + i) y) hw.this (by simp; omega) (fun z hz => hy z (by simp [hz]))
    refine ⟨w', arr', ?_, hw.trans h2, by simpa using h3, fun j hj => ?_, fun j hj => ?_⟩
    · unfold storeCells
      exact rb hst h1
    · cases j with
      | zero =>
        rw [Nat.add_zero]
        rw [h5 _ (by left; omega), Array.getElem?_setIfInBounds_self_of_lt (by omega)]
        rfl
      | succ j =>
        simp only [List.length_cons] at hj
        have := h4 j (by omega)
        rw [show o + (i + 1) + j = o + i + (j + 1) by omega] at this
        rw [this]; rfl
    · simp only [List.length_cons] at hj
      rw [h5 j (by omega), Array.getElem?_setIfInBounds_ne (by omega)]
theorem lay_inv {α : Type} {cs xs cs' : List α} {o : Nat} (h : lay cs o xs = some cs') : o + xs.length ≤ cs.length ∧ cs' = cs.take o ++ xs ++ cs.drop (o + xs.length) := by
  unfold lay at h
  cases hb : Nat.ble (o + xs.length) cs.length with
  | false => simp only [hb, cond_false] at h; cases h
  | true => simp only [hb, cond_true, Option.some.injEq] at h; exact ⟨Nat.le_of_ble_eq_true hb, h.symm⟩
theorem lay_len {α : Type} {cs xs cs' : List α} {o : Nat} (h : lay cs o xs = some cs') : cs'.length = cs.length := by
  obtain ⟨h1, rfl⟩ := lay_inv h
  simp; omega
theorem lay_get {α : Type} {cs xs cs' : List α} {o i : Nat} {v : α} (h : lay cs o xs = some cs') (hv : cs'[i]? = some v) :
    (o ≤ i ∧ i < o + xs.length ∧ xs[i - o]? = some v) ∨ ((i < o ∨ o + xs.length ≤ i) ∧ cs[i]? = some v) := by
  obtain ⟨h1, rfl⟩ := lay_inv h
  rw [List.append_assoc] at hv
  have ht : (cs.take o).length = o := by simp; omega
  by_cases hi : i < o
  · rw [List.getElem?_append_left (by omega), List.getElem?_take, if_pos hi] at hv
    exact .inr ⟨.inl hi, hv⟩
  · rw [List.getElem?_append_right (by omega), ht] at hv
    by_cases hj : i - o < xs.length
    · rw [List.getElem?_append_left hj] at hv
      exact .inl ⟨by omega, by omega, hv⟩
    · rw [List.getElem?_append_right (by omega), List.getElem?_drop] at hv
      rw [show o + xs.length + (i - o - xs.length) = i by omega] at hv
      exact .inr ⟨.inr (by omega), hv⟩
theorem RW.wrote (h : RW C base ρ s w) {b c d l o : Nat} {cs xs cs' ys : List Value} {e : TypeId} {x : Bool} {arr arr' : Array Value} (hb : ρ b = some (c, d, l)) (hG : C.G ≤ b)
    (hg : s.get b = some (.cells cs e x)) (hl : lay cs o xs = some cs') (hr : RL ρ xs ys) (hw : Wrote w w' c arr' e) (ha : w.heap[c]? = some (.cells arr e (0, 0)))
    (hs : arr'.size = arr.size) (h4 : ∀ j, j < ys.length → arr'[d + o + j]? = ys[j]?) (h5 : ∀ j, (j < d + o ∨ d + o + ys.length ≤ j) → arr'[j]? = arr[j]?) :
    RW C base ρ (s.set b (.cells cs' e x)) w' := by
  have hbase := (h.img b c d l hb).2 hG
  have hob := h.obj b c d l hb
  rw [hg] at hob
  obtain ⟨arr0, g1, g2, g3, g4⟩ := hob
  rw [ha] at g1
  have earr : arr0 = arr := by simpa using g1.symm
  subst earr
  have hlv : live (s.get b) = true := by rw [hg]; rfl
  have lv : ∀ k, live ((s.set b (.cells cs' e x)).get k) = true → live (s.get k) = true := fun k hk => by
    by_cases e : b = k
    · subst e; exact hlv
    · rwa [AW.get_set_ne e] at hk
  refine ⟨by rw [hw.size]; exact h.size, fun k hk => by rw [hw.other k (by omega)]; exact h.keep k hk, hw.os.trans h.os, hw.tape.trans h.tape, hw.output.trans h.output, fun k hk => h.fresh k hk, h.glob, fun k c d l e => by rw [hw.size]; exact h.img k c d l e, ?_, ?_⟩
  · intro k k' c1 d1 l1 d2 l2 e1 e2 hk hk'
    exact h.inj k k' c1 d1 l1 d2 l2 e1 e2 (lv _ hk) (lv _ hk')
  · intro k c1 d1 l1 e1
    by_cases ek : b = k
    · subst ek
      rw [hb] at e1; cases e1
      rcases AW.get_set_or (s := s) (b := b) (o := .cells cs' e x) with hh | hh
      · rw [hh]
        refine ⟨arr', hw.this, by rw [lay_len hl, hs]; exact g2, g3, fun i v hv => ?_⟩
        rcases lay_get hl hv with ⟨i1, i2, i3⟩ | ⟨i1, i2⟩
        · obtain ⟨u, hu, hru⟩ := hr.get i3
          refine ⟨u, ?_, .inr hru⟩
          have hlen := hr.1
          have := h4 (i - o) (by omega)
          rw [show d + o + (i - o) = d + i by omega] at this
          rw [this, hu]
        · obtain ⟨u, hu, hru⟩ := g4 i v i2
          have hlen := hr.1
          exact ⟨u, by rw [h5 _ (by omega)]; exact hu, hru⟩
      · rw [hh]; trivial
    · rw [AW.get_set_ne ek]
      by_cases ec : c1 = c
      · subst ec
        cases hlk : live (s.get k) with
        | true => exact absurd (h.inj b k _ _ _ _ _ hb e1 hlv hlk) ek
        | false =>
          cases hk : s.get k with
          | none => trivial
          | some ob => cases ob with
            | cells _ _ _ => rw [hk] at hlk; cases hlk
            | map _ => rw [hk] at hlk; cases hlk
            | dead => trivial
      · exact RO.world (hw.other _ ec) (h.obj k c1 d1 l1 e1)
theorem writeAt_inv {prot : List Nat} {b o : Nat} {xs : List Value} {s' : AW} (h : writeAt C prot s b o xs = some s') :
    ∃ cs e x cs', s.get b = some (.cells cs e x) ∧ C.G ≤ b ∧ free prot b = true ∧ (∀ y ∈ xs, y.oneCell' = true) ∧ lay cs o xs = some cs' ∧ s' = s.set b (.cells cs' e x) := by
  unfold writeAt at h
  split at h
  · rename_i cs e x hg
    cases hb : ownB C prot b && xs.all Value.oneCell' with
    | false => rw [hb] at h; cases h
    | true =>
      rw [hb] at h
      simp only [cond_true, Option.bind_eq_bind, Option.bind_eq_some_iff, Option.some.injEq] at h
      obtain ⟨cs', hl, rfl⟩ := h
      simp only [ownB, Bool.and_eq_true] at hb
      exact ⟨cs, e, x, cs', hg, Nat.le_of_ble_eq_true hb.1.1, hb.1.2, by simpa using hb.2, hl, rfl⟩
  · cases h
theorem RL.all_one {xs ys : List Value} (h : RL ρ xs ys) (k : ∀ y ∈ xs, y.oneCell' = true) : ∀ y ∈ ys, y.oneCell' = true := fun y hy => by
  obtain ⟨i, hi, rfl⟩ := List.getElem_of_mem hy
  have hx : xs[i]? = some (xs[i]'(by have := h.1; omega)) := List.getElem?_eq_getElem (by have := h.1; omega)
  exact (h.2 i _ _ hx (List.getElem?_eq_getElem hi)).one (k _ (List.mem_of_getElem? hx))
theorem RW.write (h : RW C base ρ s w) {prot : List Nat} {b o c d l : Nat} {xs ys : List Value} {s' : AW} (hb : ρ b = some (c, d, l)) (hw : writeAt C prot s b o xs = some s') (hr : RL ρ xs ys) :
    ∃ w', (storeCells ⟨c, d + o, none⟩ ys).run C.P w = .ok () w' ∧ RW C base ρ s' w' := by
  obtain ⟨cs, e, x, cs', hg, hG, _, hone, hl, rfl⟩ := writeAt_inv hw
  have hob := h.obj b c d l hb
  rw [hg] at hob
  obtain ⟨arr, g1, g2, g3, g4⟩ := hob
  have hll := (lay_inv hl).1
  have hlen := hr.1
  obtain ⟨w', arr', h1, h2, h3, h4, h5⟩ := r_storeCells (P := C.P) ys (d + o) 0 w arr g1 (by omega) (hr.all_one hone)
  simp only [Nat.add_zero] at h4 h5
  exact ⟨w', h1, h.wrote hb hG hg hl hr h2 g1 h3 h4 h5⟩
theorem free_ne {prot : List Nat} {b k : Nat} (h : free prot b = true) (hk : k ∈ prot) : b ≠ k := by
  intro e
  subst e
  unfold free at h
  have : prot.any (fun x => Nat.beq x b) = true := List.any_eq_true.2 ⟨b, hk, Nat.beq_refl b⟩
  rw [this] at h
  cases h
theorem writeAt_prot {prot : List Nat} {b o : Nat} {xs : List Value} {s' : AW} (h : writeAt C prot s b o xs = some s') : (∀ k ∈ prot, s'.get k = s.get k) ∧ s'.next = s.next := by
  obtain ⟨cs, e, x, cs', hg, hG, hf, hone, hl, rfl⟩ := writeAt_inv h
  exact ⟨fun k hk => AW.get_set_ne (free_ne hf hk), rfl⟩
end
end Ev
end Go.Proofs.YtgflhpfeghplpaaGreatDoor
