/- (*meter.Meter).Run. -/
import Derived.Test.YtgflhpfeghplpaaGreatDoorEv18
import Derived.Recover
set_option maxRecDepth 100000
namespace Go.Proofs.YtgflhpfeghplpaaGreatDoor
open Go.RowKit
namespace Ev
theorem wl {P : Program} {ops : Array Oper} {Q : Exit → Act → World → Prop} {o : Oper} {rest : List Oper} {a : Act} {w w' : World} {v : Value} (hg : o.guard = none)
    (h : (execOp a.eval o).run P w = .ok (.value v) w') (k : wpList P ops Q rest (a.put o.dst v) w') : wpList P ops Q (o :: rest) a w := by
  unfold wpList
  rw [if_pos (by simp [Region.wanted, hg])]
  left
  unfold Oper.wp
  rw [h]
  exact k
theorem wls {P : Program} {ops : Array Oper} {Q : Exit → Act → World → Prop} {o : Oper} {rest : List Oper} {a : Act} {w w' : World} (hg : o.guard = none)
    (h : (execOp a.eval o).run P w = .ok .skip w') (k : wpList P ops Q rest (a.put o.dst undef) w') : wpList P ops Q (o :: rest) a w := by
  unfold wpList
  rw [if_pos (by simp [Region.wanted, hg])]
  left
  unfold Oper.wp
  rw [h]
  exact k
theorem wld {P : Program} {ops : Array Oper} {Q : Exit → Act → World → Prop} {o : Oper} {rest : List Oper} {a : Act} {w w' : World} {d : Deferred} (hg : o.guard = none)
    (h : (execOp a.eval o).run P w = .ok (.defer d) w') (k : wpList P ops Q rest ({ a with defers := d :: a.defers }.put o.dst undef) w') : wpList P ops Q (o :: rest) a w := by
  unfold wpList
  rw [if_pos (by simp [Region.wanted, hg])]
  left
  unfold Oper.wp
  rw [h]
  exact k
theorem wle {P : Program} {ops : Array Oper} {Q : Exit → Act → World → Prop} {o : Oper} {rest : List Oper} {a : Act} {w w' : World} {f : FuncId} {xs : Array Value} (hg : o.guard = none)
    (h : (execOp a.eval o).run P w = .ok (.enter f xs) w') (k : Calls P f xs w' fun
      | .returned v, w'' => wpList P ops Q rest (a.put o.dst v) w''
      | .panicked chain, w'' => Q (.panic chain) a w''
      | .outgrown, _ => LetsOut Q) : wpList P ops Q (o :: rest) a w := by
  unfold wpList
  rw [if_pos (by simp [Region.wanted, hg])]
  left
  unfold Oper.wp
  rw [h]
  exact k
theorem eqNil (P : Program) (t : TypeId) (ms : Array (String × TypeId)) (x : Operand) (hu : P.underlying t = some (.interface ms)) (w : World) :
    (do eqGuard .eql t x (.const .nilIface) .nilIface .nilIface; binOp .eql t .nilIface .nilIface : Sem Value).run P w = .ok (.bool true) w := by
  refine rb (a := ()) (w1 := w) ?_ ?_
  · unfold eqGuard
    cases x <;> rfl
  · show (do pure (.bool (← Op.equal t .nilIface .nilIface)) : Sem Value).run P w = _
    exact rb (a := true) (w1 := w) (rb (r_under hu) rfl) rfl
theorem ep_self {a : Act} {d : Nat} {v : Value} (h : d < a.tmps.size) : (a.put (some d) v).eval (.tmp d) = v := by
  simp only [Act.put, Act.eval, Array.getD_eq_getD_getElem?]
  rw [Array.getElem?_setIfInBounds_self_of_lt h]
  rfl
theorem ep_ne {a : Act} {d u : Nat} {v : Value} (h : d ≠ u) : (a.put (some d) v).eval (.tmp u) = a.eval (.tmp u) := by
  simp only [Act.put, Act.eval, Array.getD_eq_getD_getElem?]
  rw [Array.getElem?_setIfInBounds_ne h]
theorem sp_put {a : Act} {d : Option Tmp} {v : Value} : (a.put d v).tmps.size = a.tmps.size := by
  cases d <;> simp [Act.put]
theorem dp_put {a : Act} {d : Option Tmp} {v : Value} : (a.put d v).defers = a.defers := by
  cases d <;> simp [Act.put]
theorem rec_nil (m d : Value) (w : World) : CallsD Tryz.prog 118 #[m, d] .returning w fun e u' w' => e = .returned (.tuple #[]) ∧ u' = .returning ∧ w' = w := by
  refine callsD_of_wpS Tryz.func118 rfl fun c₀ cs hu => ?_
  have hs : (#[m, d] ++ Array.replicate (Tryz.f118.ntmps - #[m, d].size) undef).size = 17 := by simp [Tryz.ntmps118]
  generalize (#[m, d] ++ Array.replicate (Tryz.f118.ntmps - #[m, d].size) undef) = tm at hs
  apply wpS_seq
  apply wpS_region
  have hr : recoverD (c₀ :: cs) = none := by
    cases c₀
    simp only at hu
    subst hu
    rfl
  show (match recoverD (c₀ :: cs) with
    | some (v, cs') => _
    | none => _)
  rw [hr]
  show Code.wpS _ _ _ _ _ _
  refine wpS_of_wp ?_
  have h5 : (Act.put { tmps := tm, defers := [] } (some 5) .nilIface).eval (.tmp 5) = .nilIface := ep_self (by rw [hs]; omega)
  have hs' : (Act.put { tmps := tm, defers := [] } (some 5) .nilIface).tmps.size = 17 := by rw [sp_put]; exact hs
  have hd' : (Act.put { tmps := tm, defers := [] } (some 5) .nilIface).defers = [] := by rw [dp_put]
  show Code.wp _ _ _ (Act.put { tmps := tm, defers := [] } (some 5) .nilIface) _
  generalize (Act.put { tmps := tm, defers := [] } (some 5) .nilIface) = A at h5 hs' hd'
  refine wp_block ?_
  refine wp_seq ?_
  refine wp_region_list ?_
  refine wl (v := .bool true) (w' := w) rfl ?_ ?_
  · refine r_val (m := (do eqGuard .eql 20 (.tmp 5) (.const .nilIface) (A.eval (.tmp 5)) .nilIface; binOp .eql 20 (A.eval (.tmp 5)) .nilIface)) ?_
    rw [h5]
    exact eqNil Tryz.prog 20 #[] _ Tryz.underlying20 w
  · refine wp_cond_true (ep_self (by rw [hs']; omega)) ?_
    refine wp_region_list ?_
    refine wl (v := .nilIface) (w' := w) rfl ?_ ?_
    · show Sem.run _ (Pure.pure (Next.value ((A.put (some 7) (.bool true)).eval (.tmp 5)))) w = _
      rw [ep_ne (by omega), h5]
      rfl
    · refine ⟨?_, .returning, by rw [← hu], .tuple #[], by simp [results, Tryz.results118], rfl, rfl, rfl⟩
      rw [dp_put, dp_put]
      exact hd'
theorem res_cell {P : Program} {fn : Func} {tm : Array Value} {a : Tmp} {t : TypeId} {p : Addr} {v : Value} {w : World} (hr : fn.results = #[.cell a t]) (hv : tm.getD a undef = .pointer (some p))
    (hl : (loadVar t p).run P w = .ok v w) : (results fn tm).run P w = .ok v w := by
  unfold results
  rw [hr]
  refine rb (a := #[v]) (w1 := w) ?_ rfl
  rw [Array.mapM_eq_mapM_toList, Sem.run_map]
  refine congrArg (fun (r : Result (List Value)) => r.andThen fun a w' => Result.ok a.toArray w') (a₂ := .ok [v] w) ?_
  rw [List.mapM_cons]
  refine rb (a := v) (w1 := w) ?_ (rb (a := []) (w1 := w) rfl rfl)
  simp only [hv]
  exact rb (a := p) (w1 := w) rfl hl
set_option maxHeartbeats 1000000 in
theorem run_ok {C : Cfg} {call : CallT} {prot : List Nat} {s s' : AW} {v : Value} {xs : List Value} (hP : C.P = Tryz.prog) (hcall : CallOk C call) (h : runV C 176 4 call prot xs s = some (v, s')) :
    Kept prot s s' ∧ ∀ (base : World) (ρ : Rho) (w : World) (xc : Array Value), RW C base ρ s w → RL ρ xs xc.toList → Calls C.P 91 xc w (Ret C base ρ s s' v) := by
  unfold runV at h
  split at h
  · rename_i b o f first captured
    obtain ⟨⟨v0, s3⟩, h1, g1⟩ := bind_some h
    clear h
    obtain ⟨s4, h2, g2⟩ := bind_some g1
    clear g1
    cases g2
    obtain ⟨kp, hrun, hc⟩ := hcall.2 _ _ _ _ _ _ h1
    have hn2 : ((s.push (.cells [.pointer (some ⟨b, o, none⟩)] 176 true)).push (.cells [.bool false] 4 true)).next = s.next + 2 := rfl
    have hkw := writeAt_prot h2
    have hne : ∀ j, j < s.next → s'.get j = s3.get j := fun j hj => by
      obtain ⟨cs, e, x, cs', q1, q2, q3, q4, q5, rfl⟩ := writeAt_inv h2
      exact AW.get_set_ne (by omega)
    refine ⟨⟨by have := kp.1; rw [hn2] at this; rw [hkw.2]; omega, fun j hj hl => ?_⟩, fun base ρ w xc hw hr => ?_⟩
    · rw [hne j hl, kp.2 j (by simp [hj]) (by rw [hn2]; omega), AW.get_push_ne (by rw [AW.next_push]; omega), AW.get_push_ne (by omega)]
    obtain ⟨x1, r1, e1, hv1, hrr⟩ := hr.uncons
    obtain ⟨x2, r2, rfl, hv2, hrr⟩ := hrr.uncons
    have := hrr.of_nil
    subst this
    have exc : xc = #[x1, x2] := by rw [← Array.toList_inj]; exact e1
    subst exc
    obtain ⟨fs, cs, e2, hf1, hf2⟩ := hv2.func_inv
    subst e2
    -- the two new variables
    let w1 : World := { w with heap := w.heap.push (.cells #[x1] 176) }
    let w2 : World := { w1 with heap := w1.heap.push (.cells #[.bool false] 4) }
    have hw1 := RW.alloc (o := .cells #[x1] 176) (d := 0) (l := 0) (hw.push (.cells [.pointer (some ⟨b, o, none⟩)] 176 true)) (b := s.next) (by rw [AW.next_push]; omega) (hw.fresh _ (Nat.le_refl _)) (by
      rcases AW.get_push_or (s := s) (o := .cells [.pointer (some ⟨b, o, none⟩)] 176 true) with hh | hh
      · rw [hh]; exact RO.new (RL.cons hv1 RL.nil)
      · rw [hh]; trivial)
    have hw2 := RW.alloc (o := .cells #[.bool false] 4) (d := 0) (l := 0) (hw1.push (.cells [.bool false] 4 true)) (b := s.next + 1) (by rw [AW.next_push, AW.next_push]; omega) (hw1.fresh _ (by rw [AW.next_push]; omega)) (by
      rcases AW.get_push_or (s := s.push (.cells [.pointer (some ⟨b, o, none⟩)] 176 true)) (o := .cells [.bool false] 4 true) with hh | hh
      · rw [AW.next_push] at hh
        rw [hh]; exact RO.new (RL.cons (.scalar rfl) RL.nil)
      · rw [AW.next_push] at hh
        rw [hh]; trivial)
    have hmon1 : Rle ρ (ext ρ s.next (w.heap.size, 0, 0)) := Rle.ext (hw.fresh _ (Nat.le_refl _))
    have hmon2 := Rle.ext (x := (w1.heap.size, 0, 0)) (hw1.fresh (s.next + 1) (by rw [AW.next_push]; omega))
    obtain ⟨c, d, l, hb, ex1⟩ := hv1.ptr_inv
    have hrargs : RL (ext (ext ρ s.next (w.heap.size, 0, 0)) (s.next + 1) (w1.heap.size, 0, 0)) (first.toList ++ captured.toList) (fs ++ #[] ++ cs).toList := by
      have := (hf1.append hf2).mono (hmon1.trans hmon2)
      simpa using this
    have hcalls := hc base _ w2 (fs ++ #[] ++ cs) hw2 hrargs
    rw [hP] at hcalls
    have hcf : ∀ w, (callFunc f (fs ++ #[] ++ cs)).run Tryz.prog w = .ok (.enter f (fs ++ #[] ++ cs)) w := fun w => by rw [← hP]; exact hrun _ _
    have e118 : ∀ (xs : Array Value) (w : World), (callFunc 118 xs).run Tryz.prog w = .ok (.enter 118 xs) w := fun xs w => Tryz.call118 xs w
    rw [hP]
    refine calls_of_wp_defers Tryz.func91 rfl ?_
    have hs : (#[x1, .func (.func f) fs cs] ++ Array.replicate (Tryz.f91.ntmps - #[x1, .func (.func f) fs cs].size) undef).size = 8 := by simp [Tryz.ntmps91]
    have ht0 : (#[x1, .func (.func f) fs cs] ++ Array.replicate (Tryz.f91.ntmps - #[x1, .func (.func f) fs cs].size) undef).getD 0 undef = x1 := by simp [Array.getD_eq_getD_getElem?]
    have ht1 : (#[x1, .func (.func f) fs cs] ++ Array.replicate (Tryz.f91.ntmps - #[x1, .func (.func f) fs cs].size) undef).getD 1 undef = .func (.func f) fs cs := by simp [Array.getD_eq_getD_getElem?]
    generalize (#[x1, .func (.func f) fs cs] ++ Array.replicate (Tryz.f91.ntmps - #[x1, .func (.func f) fs cs].size) undef) = tm at hs ht0 ht1
    let A0 : Act := { tmps := tm, defers := [] }
    have a00 : A0.eval (.tmp 0) = x1 := ht0
    have a01 : A0.eval (.tmp 1) = .func (.func f) fs cs := ht1
    have as0 : A0.tmps.size = 8 := hs
    let p2 : Value := .pointer (some ⟨w.heap.size, 0, none⟩)
    let p4 : Value := .pointer (some ⟨w1.heap.size, 0, none⟩)
    let A1 := A0.put (some 2) p2
    let A2 := A1.put (some 4) p4
    let A3 := A2.put (some 5) (.func (.func 118) #[] #[p2, p4])
    let dd : Deferred := { target := .fn (.func 118) #[p2, p4], args := #[] ++ #[] }
    let A4 : Act := { A3 with defers := dd :: A3.defers }.put none undef
    let A5 := A4.put (some 6) (.func (.func f) fs cs)
    have s1 : A1.tmps.size = 8 := by rw [show A1 = A0.put (some 2) p2 from rfl, sp_put]; exact as0
    have s2 : A2.tmps.size = 8 := by rw [show A2 = A1.put (some 4) p4 from rfl, sp_put]; exact s1
    have s3' : A3.tmps.size = 8 := by rw [show A3 = A2.put (some 5) _ from rfl, sp_put]; exact s2
    have s4 : A4.tmps.size = 8 := s3'
    have a22 : A2.eval (.tmp 2) = p2 := by
      rw [show A2 = A1.put (some 4) p4 from rfl, ep_ne (by omega)]
      exact ep_self (by rw [as0]; omega)
    have a24 : A2.eval (.tmp 4) = p4 := ep_self (by rw [s1]; omega)
    have a35 : A3.eval (.tmp 5) = .func (.func 118) #[] #[p2, p4] := ep_self (by rw [s2]; omega)
    have a41 : A4.eval (.tmp 1) = .func (.func f) fs cs := by
      show A3.eval (.tmp 1) = _
      rw [show A3 = A2.put (some 5) _ from rfl, ep_ne (by omega), show A2 = A1.put (some 4) p4 from rfl, ep_ne (by omega), show A1 = A0.put (some 2) p2 from rfl, ep_ne (by omega)]
      exact a01
    have a44 : A4.eval (.tmp 4) = p4 := by
      show A3.eval (.tmp 4) = _
      rw [show A3 = A2.put (some 5) _ from rfl, ep_ne (by omega)]
      exact a24
    have a56 : A5.eval (.tmp 6) = .func (.func f) fs cs := ep_self (by rw [s4]; omega)
    have hcells : x1.cells = #[x1] := by rw [ex1]; rfl
    refine wp_seq ?_
    refine wp_region_list ?_
    refine wl (v := p2) (w' := w1) rfl ?_ ?_
    · refine r_val (m := Instr.box 176 (A0.eval (.tmp 0))) ?_
      rw [a00]
      show (do pure (.pointer (some (← newVar 176 x1))) : Sem Value).run _ w = _
      unfold newVar
      rw [hcells]
      rfl
    refine wl (v := p4) (w' := w2) rfl ?_ ?_
    · refine r_val (m := Instr.alloc 4 true (.tuple #[])) ?_
      unfold Instr.alloc
      refine rb (Tryz.zeroValue4 w1) ?_
      rfl
    show Code.wp _ _ _ A2 w2
    refine wp_seq ?_
    refine wp_region_list ?_
    refine wl (v := .func (.func 118) #[] #[p2, p4]) (w' := w2) rfl ?_ ?_
    · refine r_val (m := Instr.makeFunc (.func 118) (#[].map A2.eval) (#[Operand.tmp 2, Operand.tmp 4].map A2.eval)) ?_
      rw [show #[Operand.tmp 2, Operand.tmp 4].map A2.eval = #[A2.eval (.tmp 2), A2.eval (.tmp 4)] by simp, a22, a24]
      simp [Instr.makeFunc]
    refine wld (d := dd) (w' := w2) rfl ?_ ?_
    · show (do let d ← Deferred.ofValue (A3.eval (.tmp 5)) (#[].map A3.eval); pure (Next.defer d) : Sem Next).run _ w2 = _
      rw [a35, show (#[] : Array Operand).map A3.eval = #[] by simp]
      rfl
    show Code.wp _ _ _ A4 w2
    refine wp_seq ?_
    refine wp_region_list ?_
    refine wl (v := .func (.func f) fs cs) (w' := w2) rfl ?_ ?_
    · show Sem.run _ (Pure.pure (Next.value (A4.eval (.tmp 1)))) w2 = _
      rw [a41]
      rfl
    refine wle (f := f) (xs := fs ++ #[] ++ cs) (w' := w2) rfl ?_ ?_
    · show (do let d ← Deferred.ofValue (A5.eval (.tmp 6)) (#[].map A5.eval); invoke d.target d.args : Sem Next).run _ w2 = _
      rw [a56, show (#[] : Array Operand).map A5.eval = #[] by simp]
      exact hcf w2
    refine Calls.mono hcalls (fun en w3 he => ?_)
    obtain ⟨vc, ρ3, rfl, r2, r3, hw3, r5⟩ := he
    let A6 := A5.put (some 7) vc
    show Code.wp _ _ _ A6 w3
    have a64 : A6.eval (.tmp 4) = p4 := by
      rw [show A6 = A5.put (some 7) vc from rfl, ep_ne (by omega), show A5 = A4.put (some 6) _ from rfl, ep_ne (by omega)]
      exact a44
    have hd6 : A6.defers = [dd] := rfl
    clear_value A6
    have a64' : A6.tmps.getD 4 undef = p4 := a64
    have hb4 : ρ3 (s.next + 1) = some (w1.heap.size, 0, 0) := by
      rw [r5 (s.next + 1) (by rw [hn2]; omega)]
      exact ext_self
    obtain ⟨cs0, e0, x0, cs0', q1, q2, q3, q4, q5, rfl⟩ := writeAt_inv h2
    have hob := hw3.obj _ _ _ _ hb4
    rw [q1] at hob
    obtain ⟨arr, o1, o2, o3, o4⟩ := hob
    have hll := (lay_inv q5).1
    obtain ⟨w4, arr', t1, t2, t3, t4, t5⟩ := r_storeCells (P := Tryz.prog) [.bool true] 0 0 w3 arr o1 (by simp only [List.length_singleton] at hll ⊢; omega) (by intro y hy; simp at hy; subst hy; rfl)
    have hw4 := hw3.wrote (o := 0) hb4 q2 q1 q5 (RL.cons (ρ := ρ3) (.scalar rfl) RL.nil) t2 o1 t3 t4 t5
    refine wp_seq ?_
    refine wp_region_list ?_
    refine wls (w' := w4) rfl ?_ ?_
    · refine r_unit (m := Instr.storeAt 4 (A6.eval (.tmp 4)) (.bool true)) ?_
      rw [a64]
      refine rb (a := (⟨w1.heap.size, 0, none⟩ : Addr)) (w1 := w3) rfl ?_
      unfold storeVar
      refine rb (Tryz.sizeOf4 w3) ?_
      rw [if_neg (by simp [Value.cells])]
      exact t1
    refine wp_ret ?_
    show Leaves Tryz.prog Tryz.f91 A6.tmps _ A6.defers .returning w4
    rw [hd6]
    refine leaves_cons (by simp) (e118 _ w4) ?_
    refine CallsD.mono (rec_nil p2 p4 w4) (fun en u' w5 he => ?_)
    obtain ⟨rfl, rfl, rfl⟩ := he
    refine ⟨.bool true, ?_, .bool true, ρ3, rfl, (hmon1.trans hmon2).trans r2, .scalar rfl, hw4, fun j hj => ?_⟩
    · have hcell : w5.cell? ⟨w1.heap.size, 0, none⟩ = some (.bool true) := by
        rw [cell_of t2.this]
        have := t4 0 (by simp)
        simpa using this
      refine res_cell (p := ⟨w1.heap.size, 0, none⟩) Tryz.results91 a64' ?_
      unfold loadVar
      refine rb (Tryz.isAgg4 w5) ?_
      simp only [Bool.false_eq_true, if_false]
      exact r_load hcell
    · rw [r5 j (by rw [hn2]; omega), ext_ne (by omega), ext_ne (by omega)]
  · cases h
end Ev
end Go.Proofs.YtgflhpfeghplpaaGreatDoor
