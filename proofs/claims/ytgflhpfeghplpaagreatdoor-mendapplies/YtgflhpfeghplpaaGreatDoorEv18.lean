/- slices.Insert, slices.overlaps. -/
import Derived.Test.YtgflhpfeghplpaaGreatDoorEv17
import Derived.Lib.Overlaps
set_option maxRecDepth 100000
namespace Go.Proofs.YtgflhpfeghplpaaGreatDoor
open Go.RowKit
namespace Ev
section
variable {C C' : Cfg} {call : CallT} {prot : List Nat} {n : Nat} {base : World} {ρ ρ' ρ0 : Rho} {a : Act} {w : World} {t t' : Tm} {s s' : AW}
theorem RW.cast (hP : C'.P = C.P) (hG : C'.G = C.G) (h : RW C base ρ s w) : RW C' base ρ s w :=
  ⟨h.size, h.keep, h.os, h.tape, h.output, h.fresh, by rw [hG]; exact h.glob, by rw [hG]; exact h.img, h.inj, by rw [hP]; exact h.obj⟩
theorem Ret.cast (hP : C'.P = C.P) (hG : C'.G = C.G) {v : Value} {e : Ending} (h : Ret C base ρ s s' v e w) : Ret C' base ρ s s' v e w := by
  obtain ⟨vc, ρ', h1, h2, h3, h4, h5⟩ := h
  exact ⟨vc, ρ', h1, h2, h3, h4.cast hP hG, h5⟩
theorem CallOk.cast (hP : C'.P = C.P) (hG : C'.G = C.G) (hX : C'.ext = C.ext) (h : CallOk C call) : CallOk C' call := by
  refine ⟨fun f g hg xs s v hv base ρ w xc hw hr => ?_, fun f prot xs s v s' hc => ?_⟩
  · rw [hP]
    exact h.1 f g (by rw [← hX]; exact hg) xs s v hv base ρ w xc (hw.cast hP.symm hG.symm) hr
  · obtain ⟨h1, h2, h3⟩ := h.2 f prot xs s v s' hc
    refine ⟨h1, by rw [hP]; exact h2, fun base ρ w xc hw hr => ?_⟩
    rw [hP]
    refine Calls.mono (h3 base ρ w xc (hw.cast hP.symm hG.symm) hr) (fun e w' he => ?_)
    obtain ⟨vc, ρ', a1, a2, a3, a4, a5⟩ := he
    exact ⟨vc, ρ', a1, a2, a3, a4.cast hP hG, a5⟩
theorem veq_eq {v u : Value} (h : veq v u = true) : v = u := by
  unfold veq at h
  split at h
  · simp at h; rw [h]
  · simp only [Bool.and_eq_true, beq_iff_eq, decide_eq_true_eq] at h
    rw [h.1, h.2]
  · rename_i a b
    have : a.toList = b.toList := by simpa using h
    have : a = b := by
      rw [ByteArray.toList_eq, ByteArray.toList_eq] at this
      obtain ⟨⟨x⟩⟩ := a
      obtain ⟨⟨y⟩⟩ := b
      simp at this
      rw [this]
    rw [this]
  · rfl
  · rename_i a b
    simp only [Bool.and_eq_true] at h
    obtain ⟨⟨⟨h1, h2⟩, h3⟩, h4⟩ := h
    have e1 := Nat.eq_of_beq_eq_true h1
    have e2 := Nat.eq_of_beq_eq_true h2
    clear h1 h2
    obtain ⟨b1, o1, s1⟩ := a
    obtain ⟨b2, o2, s2⟩ := b
    simp only at e1 e2 h3 h4
    subst e1; subst e2
    cases s1 <;> cases s2 <;> first | rfl | (cases h4; done) | (cases h3; done)
  · simp only [Bool.and_eq_true] at h
    rw [Nat.eq_of_beq_eq_true h.1, Nat.eq_of_beq_eq_true h.2]
  · rename_i a _ _ b _ _
    simp only [Bool.and_eq_true] at h
    obtain ⟨⟨⟨⟨⟨h1, h2⟩, h3⟩, h4⟩, h5⟩, h6⟩ := h
    have e1 := Nat.eq_of_beq_eq_true h1
    have e2 := Nat.eq_of_beq_eq_true h2
    rw [Nat.eq_of_beq_eq_true h5, Nat.eq_of_beq_eq_true h6]
    clear h1 h2 h5 h6
    obtain ⟨b1, o1, s1⟩ := a
    obtain ⟨b2, o2, s2⟩ := b
    simp only at e1 e2 h3 h4
    subst e1; subst e2
    cases s1 <;> cases s2 <;> first | rfl | (cases h4; done) | (cases h3; done)
  · cases h
theorem vseq_eq : ∀ {xs ys : List Value}, vseq xs ys = true → xs = ys
  | [], [], _ => rfl
  | [], _ :: _, h => by cases h
  | _ :: _, [], h => by cases h
  | a :: r, b :: r', h => by
    simp only [vseq, Bool.and_eq_true] at h
    rw [veq_eq h.1, vseq_eq h.2]
/-- The evaluator may say something else of blocks, if it is so. -/
theorem RW.reset {s1 s2 : AW} (h : RW C base ρ s1 w) (hn : s2.next = s1.next) (hg : ∀ k, k < s1.next → s2.get k = s1.get k ∨ s2.get k = some .dead ∨ s2.get k = none ∨ (live (s1.get k) = true ∧ ∀ c d l, ρ k = some (c, d, l) → RO C.P ρ (s2.get k) w c d l)) : RW C base ρ s2 w := by
  have lt : ∀ {k x}, ρ k = some x → k < s1.next := fun {k x} e => Nat.lt_of_not_le (fun hh => by rw [h.fresh k hh] at e; cases e)
  have lv : ∀ k, k < s1.next → live (s2.get k) = true → live (s1.get k) = true := fun k hk hl => by
    rcases hg k hk with e | e | e | e
    · rwa [e] at hl
    · rw [e] at hl; cases hl
    · rw [e] at hl; cases hl
    · exact e.1
  refine ⟨h.size, h.keep, h.os, h.tape, h.output, fun k hk => h.fresh k (by omega), h.glob, h.img, fun k k' c d l d' l' e1 e2 h1 h2 => h.inj k k' c d l d' l' e1 e2 (lv k (lt e1) h1) (lv k' (lt e2) h2), fun k c d l e => ?_⟩
  rcases hg k (lt e) with e1 | e1 | e1 | e1
  · rw [e1]; exact h.obj k c d l e
  · rw [e1]; trivial
  · rw [e1]; trivial
  · exact e1.2 c d l e
theorem RW.lt (h : RW C base ρ s w) {k : Nat} {x : Nat × Nat × Nat} (e : ρ k = some x) : k < s.next := Nat.lt_of_not_le (fun hh => by rw [h.fresh k hh] at e; cases e)
set_option maxHeartbeats 1000000 in
theorem insert_ok (hm : C.P.follows .mixedOrders = true) (hcall : CallOk C call) {f : FuncId} (hok : fnOk C f = true) {xs : List Value} {v : Value} (h : insertV C f call prot xs s = some (v, s')) :
    Kept prot s s' ∧ ∀ (base : World) (ρ : Rho) (w : World) (xc : Array Value), RW C base ρ s w → RL ρ xs xc.toList → Calls C.P f xc w (Ret C base ρ s s' v) := by
  unfold insertV at h
  split at h
  · rename_i b o n ca i b' o' ca'
    obtain ⟨k, hk, g1⟩ := bind_some h
    clear h
    split at g1
    · rename_i cs e hg
      cases hcond : (Nat.blt k n && ownB C prot b && Nat.beq ca n && Nat.beq (sz C.P e) 1 && Nat.beq (o + ca) cs.length) with
      | false =>
        rw [hcond] at g1
        exact body_ok hm hcall hok g1
      | true =>
        rw [hcond] at g1
        simp only [cond_true] at g1
        simp only [Bool.and_eq_true, ownB] at hcond
        obtain ⟨⟨⟨⟨c1, c2, c3⟩, c4⟩, c5⟩, c6⟩ := hcond
        have c1 : k < n := by simpa [Nat.blt_eq] using c1
        have c2 := Nat.le_of_ble_eq_true c2
        have c4 := Nat.eq_of_beq_eq_true c4
        have c5 := Nat.eq_of_beq_eq_true c5
        have c6 := Nat.eq_of_beq_eq_true c6
        obtain ⟨old, hold, g2⟩ := bind_some g1
        clear g1
        obtain ⟨⟨v1, s1⟩, hr1, g3⟩ := bind_some g2
        clear g2
        obtain ⟨⟨v2, s2⟩, hr2, g4⟩ := bind_some g3
        clear g3
        simp only at g4
        split at g4
        · rename_i q1 d1 l1 k1 cs1 e1 q2 d2 l2 k2 cs2 e2 hs1 hs2
          obtain ⟨hc, g5⟩ := cond_some g4
          clear g4
          simp only [Option.some.injEq, Prod.mk.injEq] at g5
          obtain ⟨g5v, g5s⟩ := g5
          subst g5v; subst g5s
          simp only [Bool.and_eq_true] at hc
          obtain ⟨⟨⟨⟨⟨⟨⟨⟨m1, m2⟩, m3⟩, m4⟩, m5⟩, m6⟩, m7⟩, m8⟩, m9⟩ := hc
          have m1 := Nat.eq_of_beq_eq_true m1
          have m2 := Nat.eq_of_beq_eq_true m2
          have m3 := Nat.eq_of_beq_eq_true m3
          have m4 := Nat.eq_of_beq_eq_true m4
          have m5 := Nat.eq_of_beq_eq_true m5
          have m6 : e1 = e2 := Nat.eq_of_beq_eq_true m6
          have m7 := vseq_eq m7
          have m8 := Nat.eq_of_beq_eq_true m8
          have m9 := Nat.eq_of_beq_eq_true m9
          subst m1; subst m2; subst m3; subst m4; subst m5; subst m6; subst m7
          obtain ⟨kp1, b1⟩ := body_ok hm hcall hok hr1
          obtain ⟨kp2, b2⟩ := body_ok hm hcall hok hr2
          -- what the two runs leave
          have g2get : ∀ j, j < s.next → s2.get j = ((s.set b .dead).push (.cells (old ++ [junk]) e false)).get j := fun j hj => kp2.2 j (List.mem_range.2 hj) (by rw [AW.next_push]; show j < s.next + 1; omega)
          have g1get : ∀ j, j < s.next → s1.get j = (s.set b (.cells cs e true)).get j := fun j hj => kp1.2 j (List.mem_range.2 hj) hj
          have g2ne : ∀ j, j < s.next → j ≠ b → s2.get j = s.get j := fun j hj hb => by
            rw [g2get j hj, AW.get_push_ne (by show j ≠ s.next; omega), AW.get_set_ne (Ne.symm hb)]
          have g1ne : ∀ j, j < s.next → j ≠ b → s1.get j = s.get j := fun j hj hb => by
            rw [g1get j hj, AW.get_set_ne (Ne.symm hb)]
          have g2b : b < s.next → s2.get b = some .dead ∨ s2.get b = none := fun hb => by
            rw [g2get b hb, AW.get_push_ne (by show b ≠ s.next; omega)]
            exact AW.get_set_or
          refine ⟨⟨by omega, fun j hj hl => g2ne j hl (Ne.symm (free_ne c3 hj))⟩, fun base ρ w xc hw hr => ?_⟩
          obtain ⟨x1, r1, hx1, hv1, hrr⟩ := hr.uncons
          obtain ⟨x2, r2, rfl, hv2, hrr⟩ := hrr.uncons
          obtain ⟨x3, r3, rfl, hv3, hrr⟩ := hrr.uncons
          have := hrr.of_nil
          subst this
          have shape : ∃ c d l, ρ b = some (c, d, l) ∧ x1 = .slice (some ⟨c, d + o, none⟩) n (ca + l) := by
            cases hv1 with
            | scalar hh => cases hh
            | sl hb => exact ⟨_, _, _, hb, rfl⟩
            | slE hb => omega
          obtain ⟨c, d, l, hb, hx⟩ := shape
          have hbn := hw.lt hb
          have hob := hw.obj b c d l hb
          rw [hg] at hob
          obtain ⟨arr, q1, q2, q3, q4⟩ := hob
          by_cases hl : l = 0
          · -- the capacity is full
            subst hl
            have hw1 : RW C base ρ (s.set b (.cells cs e true)) w := by
              refine RW.reset hw rfl (fun j hj => ?_)
              by_cases ej : b = j
              · subst ej
                rcases AW.get_set_or (s := s) (b := b) (o := .cells cs e true) with hh | hh
                · refine .inr (.inr (.inr ⟨by rw [hg]; rfl, fun c1 d1 l1 e1 => ?_⟩))
                  rw [hb] at e1; cases e1
                  rw [hh]
                  exact ⟨arr, q1, q2, fun _ => rfl, q4⟩
                · exact .inr (.inr (.inl hh))
              · exact .inl (AW.get_set_ne ej)
            refine Calls.mono (b1 base ρ w xc hw1 hr) (fun en w' he => ?_)
            obtain ⟨vc, ρ', a1, a2, a3, a4, a5⟩ := he
            refine ⟨vc, ρ', a1, a2, a3, ?_, a5⟩
            refine RW.reset a4 (by omega) (fun j hj => ?_)
            by_cases ej : j = b
            · subst ej
              rcases g2b hbn with hh | hh
              · exact .inr (.inl hh)
              · exact .inr (.inr (.inl hh))
            · by_cases ejn : j < s.next
              · exact .inl (by rw [g2ne j ejn ej, g1ne j ejn ej])
              · have : j = s.next := by omega
                subst this
                exact .inl (by rw [hs1, hs2])
          · -- there is one place more
            have hl : 1 ≤ l := by omega
            have hlen := (cut_inv (cellsAt_inv hold).choose_spec.choose_spec.choose_spec.2.1).2
            have hcells : ∀ (j : Nat) (u : Value), old[j]? = some u → ∃ y, arr[d + o + j]? = some y ∧ RJ ρ u y := by
              intro j u hj
              obtain ⟨ys, h1, h2, h3⟩ := hw.cells hb hold
              obtain ⟨y, hy, hry⟩ := h1.get hj
              have := h3 j y hy
              rw [cell_of q1] at this
              exact ⟨y, this, .inr hry⟩
            have hol : old.length = n := by
              obtain ⟨ys, h1, h2, h3⟩ := hw.cells hb hold
              rw [h1.1, h2]
            have hwB := hw.regrow (w' := w) (o := o) (xs := old ++ [junk]) (arr' := arr) (T := l - 1) hb c2 hg ⟨rfl, fun _ _ => rfl, q1, rfl, rfl, rfl⟩ (fun j u hj => by
              by_cases hjn : j < n
              · rw [List.getElem?_append_left (by omega)] at hj
                exact hcells j u hj
              · rw [List.getElem?_append_right (by omega)] at hj
                have hj0 : j = n := by
                  have := (List.getElem?_eq_some_iff.1 hj).1
                  simp at this
                  omega
                rw [hol, hj0, Nat.sub_self] at hj
                cases hj
                rw [hj0]
                have hlt : d + o + n < arr.size := by
                  rw [c5] at q2
                  omega
                exact ⟨arr[d + o + n], Array.getElem?_eq_getElem hlt, .inl rfl⟩) (by
              rw [List.length_append, hol, c5]
              simp only [List.length_singleton]
              rw [c5] at q2
              omega)
            have hfr : ρ s.next = none := hw.fresh _ (Nat.le_refl _)
            have hmon : Rle ρ (ext ρ s.next (c, d + o, l - 1)) := Rle.ext hfr
            have hrB : RL (ext ρ s.next (c, d + o, l - 1)) [.slice (some ⟨s.next, 0, none⟩) n (n + 1), i, .slice (some ⟨b', o', none⟩) 1 ca'] xc.toList := by
              rw [hx1]
              refine RL.cons ?_ (RL.cons (hv2.mono hmon) (RL.cons (hv3.mono hmon) RL.nil))
              rw [hx]
              have := RV.sl (ρ := ext ρ s.next (c, d + o, l - 1)) (b := s.next) (o := 0) (n := n) (k := n + 1) ext_self
              rwa [Nat.add_zero, show n + 1 + (l - 1) = ca + l by omega] at this
            refine Calls.mono (b2 base _ w xc hwB hrB) (fun en w' he => ?_)
            obtain ⟨vc, ρ', a1, a2, a3, a4, a5⟩ := he
            refine ⟨vc, ρ', a1, hmon.trans a2, a3, a4, fun j hj => ?_⟩
            rw [a5 j (by rw [AW.next_push]; show j < s.next + 1; omega), ext_ne (by omega)]
        · cases g4
    · exact body_ok hm hcall hok g1
  · exact body_ok hm hcall hok h
theorem apart_ok {xs : List Value} {v : Value} {f : FuncId} {fn : Func} {tS tR e : TypeId} (hf : C.P.funcs[f]? = some fn) (hname : (fn.name == "runtime.NumGoroutine") = false) (hb : fn.body.isNone = true) (hn : Extern.findNext fn = none)
    (he : Extern.find fn = some (Extern.SlicesOverlaps.overlaps #[tS, tS] #[tR])) (ht : C.P.underlying tS = some (.slice e)) (hz : 0 < sz C.P e) (h : apartV xs s = some v) {xc : Array Value} (hw : RW C base ρ s w) (hr : RL ρ xs xc.toList) :
    ∃ vc, (callFunc f xc).run C.P w = .ok (.value vc) w ∧ RV ρ v vc := by
  unfold apartV at h
  split at h
  · rename_i b o n ca b' o' m ca'
    split at h
    · rename_i cs e1 x1 y cs' e2 x2 hg1 hg2
      obtain ⟨hc, h⟩ := cond_none h
      cases h
      simp only [Bool.or_eq_false_iff] at hc
      obtain ⟨⟨h1, h2⟩, h3⟩ := hc
      have h1 := Nat.ne_of_beq_eq_false h1
      have h2 := Nat.ne_of_beq_eq_false h2
      have h3 := Nat.ne_of_beq_eq_false h3
      obtain ⟨y1, r1, e3, hv1, hrr⟩ := hr.uncons
      obtain ⟨y2, r2, rfl, hv2, hrr⟩ := hrr.uncons
      have := hrr.of_nil
      subst this
      have exc : xc = #[y1, y2] := by rw [← Array.toList_inj]; exact e3
      subst exc
      have sh : ∀ {b o n ca : Nat} {y : Value}, n ≠ 0 → RV ρ (.slice (some ⟨b, o, none⟩) n ca) y → ∃ c d l, ρ b = some (c, d, l) ∧ y = .slice (some ⟨c, d + o, none⟩) n (ca + l) := by
        intro b o n ca y hn hv
        cases hv with
        | scalar hh => cases hh
        | sl hb => exact ⟨_, _, _, hb, rfl⟩
        | slE hb => exact absurd rfl hn
      obtain ⟨c1, d1, l1, hb1, rfl⟩ := sh h2 hv1
      obtain ⟨c2, d2, l2, hb2, rfl⟩ := sh h3 hv2
      have ho1 := hw.obj _ _ _ _ hb1
      have ho2 := hw.obj _ _ _ _ hb2
      rw [hg1] at ho1
      rw [hg2] at ho2
      obtain ⟨arr1, p1, p2, p3, p4⟩ := ho1
      obtain ⟨arr2, r1, r2, r3, r4⟩ := ho2
      have hne : c1 ≠ c2 := fun e => by
        subst e
        exact h1 (hw.inj _ _ _ _ _ _ _ hb1 hb2 (by rw [hg1]; rfl) (by rw [hg2]; rfl))
      refine ⟨.bool false, ?_, .scalar rfl⟩
      rw [run_callFunc_extern hf hname hb hn he]
      rw [Lib.run_overlaps_apart w tS tR e ht (sz C.P e) (fun w => r_size' hz) ⟨c1, d1 + o, none⟩ ⟨c2, d2 + o', none⟩ n (ca + l1) m (ca' + l2) hne e1 e2 arr1.size arr2.size
        (by simp [World.shape?, p1]) (by simp [World.shape?, r1]) (by simp only [List.length_cons] at r2; omega) (frozen_no p1) (frozen_no p1)]
      rfl
    · cases h
  · cases h
end
end Ev
end Go.Proofs.YtgflhpfeghplpaaGreatDoor
