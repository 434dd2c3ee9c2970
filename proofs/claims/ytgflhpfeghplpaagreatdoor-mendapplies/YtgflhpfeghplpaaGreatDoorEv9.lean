/- What writes. -/
import Derived.Test.YtgflhpfeghplpaaGreatDoorEv8
set_option maxRecDepth 100000
namespace Go.Proofs.YtgflhpfeghplpaaGreatDoor
open Go.RowKit
namespace Ev
section
variable {C : Cfg} {base : World} {ρ ρ' : Rho} {s s' : AW} {w w' : World} {ev : Operand → Option Value} {evc : Operand → Value} {o : Oper} {P : Program} {prot : List Nat}
/-- What a writing operation comes to. -/
def WOk (C : Cfg) (base : World) (ρ : Rho) (s s' : AW) (v : Value) (res : Result Value) : Prop :=
  ∃ vc w' ρ', res = .ok vc w' ∧ Rle ρ ρ' ∧ RV ρ' v vc ∧ RW C base ρ' s' w' ∧ ∀ b, b < s.next → ρ' b = ρ b
def Kept (prot : List Nat) (s s' : AW) : Prop := s.next ≤ s'.next ∧ ∀ b ∈ prot, b < s.next → s'.get b = s.get b
theorem Kept.refl (prot : List Nat) (s : AW) : Kept prot s s := ⟨Nat.le_refl _, fun _ _ _ => rfl⟩
theorem Kept.trans {a b c : AW} (h : Kept prot a b) (k : Kept prot b c) : Kept prot a c :=
  ⟨Nat.le_trans h.1 k.1, fun x hx hl => (k.2 x hx (Nat.lt_of_lt_of_le hl h.1)).trans (h.2 x hx hl)⟩
theorem Kept.push (prot : List Nat) (s : AW) (o : AO) : Kept prot s (s.push o) := ⟨by rw [AW.next_push]; omega, fun b _ hl => AW.get_push_ne (by omega)⟩
theorem Kept.set {b : Nat} (h : free prot b = true) (o : AO) : Kept prot s (s.set b o) := ⟨Nat.le_refl _, fun _ hk _ => AW.get_set_ne (free_ne h hk)⟩
theorem Kept.write {b o : Nat} {xs : List Value} (h : writeAt C prot s b o xs = some s') : Kept prot s s' := by
  obtain ⟨h1, h2⟩ := writeAt_prot h
  exact ⟨by omega, fun b hb _ => h1 b hb⟩
theorem RW.dead (h : RW C base ρ s w) (b : Nat) : RW C base ρ (s.set b .dead) w := by
  have lv : ∀ k, live ((s.set b .dead).get k) = true → k ≠ b ∧ live (s.get k) = true := fun k hk => by
    by_cases e : b = k
    · subst e
      rcases AW.get_set_or (s := s) (b := b) (o := .dead) with hh | hh <;> (rw [hh] at hk; cases hk)
    · rw [AW.get_set_ne e] at hk
      exact ⟨fun x => e x.symm, hk⟩
  refine ⟨h.size, h.keep, h.os, h.tape, h.output, h.fresh, h.glob, h.img, fun k k' c d l d' l' e1 e2 h1 h2 => h.inj k k' c d l d' l' e1 e2 (lv _ h1).2 (lv _ h2).2, fun k c d l e => ?_⟩
  by_cases ek : b = k
  · subst ek
    rcases AW.get_set_or (s := s) (b := b) (o := .dead) with hh | hh <;> (rw [hh]; trivial)
  · rw [AW.get_set_ne ek]; exact h.obj k c d l e
theorem src_ok (hw : RW C base ρ s w) {size n : Nat} {x xc : Value} {xs : List Value} (hx : RV ρ x xc) (hn : ∃ k, lenV x = some k ∧ n ≤ k) (h : srcCells s size n x = some xs) :
    ∃ ys, (Builtin.firstCells size n xc).run C.P w = .ok ys.toArray w ∧ RL ρ xs ys := by
  unfold srcCells at h
  split at h
  · rename_i b o m q
    obtain ⟨k, hk, hnk⟩ := hn
    simp only [lenV, Option.some.injEq] at hk
    subst hk
    cases hx with
    | scalar hh => cases hh
    | sl hb =>
      obtain ⟨ys, hr, hn, hc⟩ := hw.cells hb h
      exact ⟨ys, r_loadCells hn.symm hc, hr⟩
    | slE hb =>
      have : n = 0 := by omega
      subst this
      obtain ⟨cs, e, q, hg, hc, _⟩ := cellsAt_inv h
      have hl := (cut_inv hc).2
      have : xs = [] := List.length_eq_zero_iff.1 (by omega)
      subst this
      refine ⟨[], ?_, RL.nil⟩
      unfold Builtin.firstCells
      rw [Nat.zero_mul]
      rfl
  · obtain ⟨h0, h⟩ := cond_some h
    cases h
    have := Nat.eq_of_beq_eq_true h0
    subst this
    refine ⟨[], ?_, RL.nil⟩
    cases hx with
    | scalar hh => cases hh
    | sl0 => unfold Builtin.firstCells; rw [Nat.zero_mul]; rfl
  · obtain ⟨h0, h⟩ := cond_some h
    cases h
    refine ⟨[], ?_, RL.nil⟩
    cases hx with
    | scalar hh => cases hh
    | snil => rfl
  · obtain ⟨h0, h⟩ := cond_some h
    cases h
    cases hx with
    | scalar hh =>
      refine ⟨_, ?_, RL.refl_of (fun x hx => ?_)⟩
      · simp only [Builtin.firstCells, Array.toArray_toList]
        rfl
      · rw [Array.toList_map] at hx
        obtain ⟨u, _, rfl⟩ := List.mem_map.1 hx
        exact .scalar rfl
  · cases h
theorem len_ok {x xc : Value} {k : Nat} (hx : RV ρ x xc) (h : lenV x = some k) : (Builtin.lenOf xc).run P w = .ok k w := by
  unfold lenV at h
  split at h
  · cases h
    cases hx <;> first | rfl | (rename_i hh; cases hh; done)
  · cases h
    cases hx with
    | scalar hh => rfl
  · cases h
theorem storeVar_ok (hw : RW C base ρ s w) {t : TypeId} {b o c d l : Nat} {v vc : Value} (hb : ρ b = some (c, d, l)) (hv : RV ρ v vc) (hz : v.cells.size = sz C.P t) (hp : 0 < sz C.P t)
    (h : writeAt C prot s b o v.cells.toList = some s') : ∃ w', (storeVar t ⟨c, d + o, none⟩ vc).run C.P w = .ok () w' ∧ RW C base ρ s' w' := by
  obtain ⟨w', h1, h2⟩ := hw.write hb h hv.cells
  refine ⟨w', ?_, h2⟩
  unfold storeVar
  have hc := hv.cells.1
  simp only [Array.length_toList] at hc
  refine rb (r_size' hp) ?_
  rw [if_neg (by omega)]
  exact h1
theorem r_setObj {r : Nat} {o o' : Obj} (h : w.heap[r]? = some o') (hm : (∃ es clk, o' = .map es clk)) : (setObj r o).run P w = .ok () { w with heap := w.heap.setIfInBounds r o } := by
  obtain ⟨es, clk, rfl⟩ := hm
  simp only [setObj, Sem.run, h]
theorem RW.setMap (h : RW C base ρ s w) {b c d l : Nat} {es es' : List (Value × Value)} {ces : Array MapEntry} {clk : Nat} {cs0 : Array MapEntry} {clk0 : Nat} (hb : ρ b = some (c, d, l)) (hG : C.G ≤ b)
    (hg : s.get b = some (.map es)) (h0 : w.heap[c]? = some (.map cs0 clk0)) (hr : RMap ρ es' ces.toList) :
    RW C base ρ (s.set b (.map es')) { w with heap := w.heap.setIfInBounds c (.map ces clk) } := by
  have hbase := (h.img b c d l hb).2 hG
  have hc : c < w.heap.size := (Array.getElem?_eq_some_iff.1 h0).1
  have hlv : live (s.get b) = true := by rw [hg]; rfl
  have lv : ∀ k, live ((s.set b (.map es')).get k) = true → live (s.get k) = true := fun k hk => by
    by_cases e : b = k
    · subst e; exact hlv
    · rwa [AW.get_set_ne e] at hk
  have hoth : ∀ k, k ≠ c → (w.heap.setIfInBounds c (.map ces clk))[k]? = w.heap[k]? := fun k hk => Array.getElem?_setIfInBounds_ne (Ne.symm hk)
  refine ⟨by simpa using h.size, fun k hk => by rw [hoth k (by omega)]; exact h.keep k hk, h.os, h.tape, h.output, fun k hk => h.fresh k hk, h.glob, fun k c d l e => by simpa using h.img k c d l e, ?_, ?_⟩
  · intro k k' c1 d1 l1 d2 l2 e1 e2 hk hk'
    exact h.inj k k' c1 d1 l1 d2 l2 e1 e2 (lv _ hk) (lv _ hk')
  · intro k c1 d1 l1 e1
    by_cases ek : b = k
    · subst ek
      rw [hb] at e1; cases e1
      rcases AW.get_set_or (s := s) (b := b) (o := .map es') with hh | hh
      · rw [hh]
        exact ⟨ces, clk, Array.getElem?_setIfInBounds_self_of_lt hc, hr⟩
      · rw [hh]; trivial
    · rw [AW.get_set_ne ek]
      by_cases ec : c1 = c
      · subst ec
        cases hlk : live (s.get k) with
        | true => exact absurd (h.inj b k _ _ _ _ _ hb e1 hlv hlk) ek
        | false =>
          cases hk : s.get k with
          | none => trivial
          | some ob => cases ob with
            | cells _ _ _ => rw [hk] at hlk; cases hlk
            | map _ => rw [hk] at hlk; cases hlk
            | dead => trivial
      · exact RO.world (hoth _ ec) (h.obj k c1 d1 l1 e1)
theorem updV_get {k v : Value} : ∀ (es : List (Value × Value)) (i j : Nat), (updV k v es i)[j]? = if i = j then (es[j]?).map (fun _ => (k, v)) else es[j]?
  | [], i, j => by simp [updV]
  | e :: es, 0, j => by cases j <;> simp [updV]
  | e :: es, i + 1, j => by
    cases j with
    | zero => simp [updV]
    | succ j => simp only [updV, List.getElem?_cons_succ, updV_get es i j]; simp
theorem updV_len {k v : Value} : ∀ (es : List (Value × Value)) (i : Nat), (updV k v es i).length = es.length
  | [], i => rfl
  | e :: es, 0 => rfl
  | e :: es, i + 1 => by simp [updV, updV_len es i]
theorem mapUpd_ok (hw : RW C base ρ s w) {t : TypeId} {m k v mc kc vc : Value} (hm : RV ρ m mc) (hk : RV ρ k kc) (hv : RV ρ v vc) (h : mapUpd C prot s t m k v = some s') :
    Kept prot s s' ∧ ∃ w', (Instr.mapUpdate t mc kc vc).run C.P w = .ok () w' ∧ RW C base ρ s' w' := by
  unfold mapUpd at h
  split at h
  · rename_i kt et b hu
    have e2 : ∃ c d l, ρ b = some (c, d, l) ∧ mc = .map (some c) := by
      cases hm with
      | scalar hh => cases hh
      | map hb => exact ⟨_, _, _, hb, rfl⟩
    obtain ⟨c, d, l, hb, rfl⟩ := e2
    split at h
    · rename_i es hg
      obtain ⟨ho, h⟩ := cond_some h
      simp only [ownB, Bool.and_eq_true] at ho
      have hG := Nat.le_of_ble_eq_true ho.1
      obtain ⟨q, hq, h⟩ := bind_some h
      have hob := hw.obj b c d l hb
      rw [hg] at hob
      obtain ⟨ces, clk, g1, g2⟩ := hob
      obtain ⟨hf, f1, r', f2, f3⟩ := findV_ok (w := w) g2 hq
      have ek : kc = k := hk.flat_inv hf
      subst ek
      split at h
      · rename_i i vv
        obtain ⟨e, he, h⟩ := bind_some h
        obtain ⟨k', hk', h⟩ := bind_some h
        cases h
        refine ⟨Kept.set ho.2 _, ?_⟩
        cases r' with
        | none => exact f3.elim
        | some p =>
          obtain ⟨j, u⟩ := p
          have hij : i = j := f3.1
          subst hij
          have hlen : ces.toList.length = es.length := g2.1.symm
          have hil : i < ces.size := by have := (List.getElem?_eq_some_iff.1 he).1; simp at hlen; omega
          have hcell : ces.toList[i]? = some ces[i] := by simp [hil]
          have hkey := (g2.2 i e _ he hcell).1
          refine ⟨{ w with heap := w.heap.setIfInBounds c (.map (ces.modify i fun e => { e with key := k', val := vc }) clk) }, ?_, hw.setMap hb hG hg g1 ⟨?_, ?_⟩⟩
          · unfold Instr.mapUpdate
            refine rb (r_under hu) ?_
            refine rb (r_getObj g1) ?_
            refine rb f1 ?_
            refine rb f2 ?_
            refine rb (a := k') (w1 := w) ?_ (r_setObj g1 ⟨_, _, rfl⟩)
            have : ((ces[i]?).map (·.key)).getD kc = e.1 := by
              rw [Array.getElem?_eq_getElem hil]; simpa using hkey
            rw [this]
            exact prun_run hk' w
          · rw [updV_len]; simpa using hlen.symm
          · intro j e' c' hj hj'
            rw [updV_get] at hj
            by_cases eij : i = j
            · subst eij
              rw [if_pos rfl, he] at hj
              simp only [Option.map_some, Option.some.injEq] at hj
              subst hj
              have : (ces.modify i fun e => { e with key := k', val := vc })[i]? = some { ces[i] with key := k', val := vc } := by
                rw [Array.getElem?_modify]; simp [hil]
              have hj2 : (ces.modify i fun e => { e with key := k', val := vc })[i]? = some c' := by rw [← Array.getElem?_toList]; exact hj'
              rw [this] at hj2
              cases hj2
              exact ⟨rfl, hv⟩
            · rw [if_neg eij] at hj
              have hj2 : (ces.modify i fun e => { e with key := k', val := vc })[j]? = some c' := by rw [← Array.getElem?_toList]; exact hj'
              rw [Array.getElem?_modify, if_neg eij] at hj2
              exact g2.2 j e' c' hj (by simpa using hj2)
      · cases h
        refine ⟨Kept.set ho.2 _, ?_⟩
        cases r' with
        | some p => exact f3.elim
        | none =>
          refine ⟨{ w with heap := w.heap.setIfInBounds c (.map (ces.push { key := kc, val := vc, born := clk }) (clk + 1)) }, ?_, hw.setMap hb hG hg g1 ⟨?_, ?_⟩⟩
          · unfold Instr.mapUpdate
            refine rb (r_under hu) ?_
            refine rb (r_getObj g1) ?_
            refine rb f1 ?_
            refine rb f2 ?_
            exact r_setObj g1 ⟨_, _, rfl⟩
          · have := g2.1; simp at this ⊢; omega
          · intro j e' c' hj hj'
            have hlen := g2.1
            simp only [Array.toList_push] at hj'
            by_cases hlt : j < es.length
            · rw [List.getElem?_append_left hlt] at hj
              rw [List.getElem?_append_left (by omega)] at hj'
              exact g2.2 j e' c' hj hj'
            · rw [List.getElem?_append_right (by omega)] at hj
              rw [List.getElem?_append_right (by omega), ← hlen] at hj'
              cases hjj : j - es.length with
              | zero =>
                rw [hjj] at hj hj'
                simp at hj hj'
                subst hj; subst hj'
                exact ⟨rfl, hv⟩
              | succ n => rw [hjj] at hj; simp at hj
    · cases h
  · cases h
end
end Ev
end Go.Proofs.YtgflhpfeghplpaaGreatDoor
