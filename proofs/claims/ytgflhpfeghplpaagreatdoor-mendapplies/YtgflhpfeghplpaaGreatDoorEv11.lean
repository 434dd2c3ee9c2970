/- Operations in their order, one by one. -/
import Derived.Test.YtgflhpfeghplpaaGreatDoorEv10
set_option maxRecDepth 100000
namespace Go.Proofs.YtgflhpfeghplpaaGreatDoor
open Go.RowKit
namespace Ev
section
variable {C : Cfg} {s s' : AW} {ev : Operand → Option Value} {o : Oper} {prot : List Nat} {call : CallT} {v : Value}
/-- What is asked of functions without a body. -/
def ExtOk (C : Cfg) : Prop := ∀ (f : FuncId) (g : List Value → AW → Option Value), C.ext f = some g → ∀ (xs : List Value) (s : AW) (v : Value), g xs s = some v →
  ∀ (base : World) (ρ : Rho) (w : World) (xc : Array Value), RW C base ρ s w → RL ρ xs xc.toList → ∃ vc, (callFunc f xc).run C.P w = .ok (.value vc) w ∧ RV ρ v vc
/-- What is asked of the calls of the evaluator. -/
def CallOk (C : Cfg) (call : CallT) : Prop := ExtOk C ∧ ∀ (f : FuncId) (prot : List Nat) (xs : List Value) (s : AW) (v : Value) (s' : AW), call f prot xs s = some (v, s') →
  Kept prot s s' ∧ (∀ (xc : Array Value) (w : World), (callFunc f xc).run C.P w = .ok (.enter f xc) w) ∧
  ∀ (base : World) (ρ : Rho) (w : World) (xc : Array Value), RW C base ρ s w → RL ρ xs xc.toList →
    Calls C.P f xc w fun e w' => ∃ vc ρ', e = .returned vc ∧ Rle ρ ρ' ∧ RV ρ' v vc ∧ RW C base ρ' s' w' ∧ ∀ b, b < s.next → ρ' b = ρ b
def StepOk (C : Cfg) (s s' : AW) (v : Value) (o : Oper) (a : Act) (base : World) (ρ : Rho) (w : World) : Prop :=
  ∀ (Q : Exit → Act → World → Prop) (next : Act → World → Prop), (∀ vc w' ρ', Rle ρ ρ' → RV ρ' v vc → RW C base ρ' s' w' → (∀ b, b < s.next → ρ' b = ρ b) → next (a.put o.dst vc) w') → o.wp C.P a w next Q
theorem step_val {a : Act} {base : World} {ρ : Rho} {w : World} {m : Sem Value} (he : execOp a.eval o = (do pure (Next.value (← m)))) (h : WOk C base ρ s s' v (m.run C.P w)) : StepOk C s s' v o a base ρ w := by
  intro Q next hn
  obtain ⟨vc, w', ρ', h1, h2, h3, h4, h5⟩ := h
  unfold Oper.wp
  rw [he, r_val h1]
  exact hn vc w' ρ' h2 h3 h4 h5
theorem step_unit {a : Act} {base : World} {ρ : Rho} {w : World} {m : Sem Unit} (he : execOp a.eval o = (do m; pure Next.skip)) (h : ∃ w', m.run C.P w = .ok () w' ∧ RW C base ρ s' w') : StepOk C s s' undefV o a base ρ w := by
  intro Q next hn
  obtain ⟨w', h1, h4⟩ := h
  unfold Oper.wp
  rw [he, r_unit h1]
  exact hn undef w' ρ (Rle.refl _) RV.undef h4 (fun _ _ => rfl)
theorem target_ok {c : Call} {f : FuncId} {xs : List Value} {ρ : Rho} {evc : Operand → Value} {w : World} {ty : TypeId} (hE : RE ρ ev evc) (h : target C ev c = some (f, xs)) :
    ∃ xc : Array Value, RL ρ xs xc.toList ∧ (do let d ← resolve evc c ty; invoke d.target d.args : Sem Next).run C.P w = (callFunc f xc).run C.P w := by
  obtain ⟨callee, args, tys⟩ := c
  unfold target at h
  obtain ⟨vs, hvs, g1⟩ := bind_some h
  clear h
  have hr := evals_ok hE hvs
  simp only at g1 hr hvs
  cases callee with
  | value x =>
    simp only at g1
    obtain ⟨u, hu, g2⟩ := bind_some g1
    clear g1
    split at g2
    · rename_i g first captured
      cases g2
      obtain ⟨fs, cs, e, hf1, hf2⟩ := (hE _ _ hu).func_inv
      refine ⟨fs ++ args.map evc ++ cs, ?_, ?_⟩
      · have := (hf1.append hr).append hf2
        simpa using this
      · show (do let d ← Deferred.ofValue (evc x) (args.map evc); invoke d.target d.args : Sem Next).run C.P w = _
        rw [e]
        rfl
    · cases g2
  | invoke r name =>
    simp only at g1
    obtain ⟨u, hu, g2⟩ := bind_some g1
    clear g1
    split at g2
    · rename_i t v
      obtain ⟨i, hi, g3⟩ := bind_some g2
      clear g2
      obtain ⟨m, hm, g4⟩ := bind_some g3
      clear g3
      obtain ⟨hp, g5⟩ := cond_some g4
      clear g4
      split at g5
      · rename_i g e hmf hut
        cases g5
        have hrr := hE _ _ hu
        have e2 : ∃ vc, evc r = .iface t vc ∧ RV ρ v vc := by
          generalize evc r = q at hrr
          cases hrr with
          | scalar hh => cases hh
          | iface h => exact ⟨_, rfl, h⟩
        obtain ⟨vc, e2, hv⟩ := e2
        refine ⟨#[vc] ++ args.map evc, ?_, ?_⟩
        · have := RL.cons hv hr
          simpa using this
        · have hpath : m.path.toList = [] := by
            have : m.path = #[] := by simpa using hp
            rw [this]
          have hmeth : (method (C.P.types.size + Made.depth) t vc name).run C.P w = .ok (f, vc) w := by
            rw [show C.P.types.size + Made.depth = (C.P.types.size + 99) + 1 from rfl]
            unfold method
            refine rb (r_info hi) ?_
            simp only [hm, hpath]
            refine rb (a := (t, Place.val vc)) (w1 := w) rfl ?_
            simp only [hmf]
            refine rb (a := vc) (w1 := w) ?_ rfl
            unfold receiverAt
            refine rb (r_under hut) ?_
            rfl
          show (do
            let some recv := (#[evc r] ++ args.map evc)[0]? | stuck "call: a method without a receiver"
            callMethod recv name ((#[evc r] ++ args.map evc).extract 1 (#[evc r] ++ args.map evc).size) : Sem Next).run C.P w = _
          have h0 : (#[evc r] ++ args.map evc)[0]? = some (evc r) := by rw [Array.getElem?_append_left (by simp)]; rfl
          have h1 : (#[evc r] ++ args.map evc).extract 1 (#[evc r] ++ args.map evc).size = args.map evc := by
            apply Array.toList_inj.1
            simp [List.take_of_length_le]
          rw [h1]
          rw [e2] at h0 ⊢
          split
          · rename_i recv hrecv
            rw [h0] at hrecv
            cases hrecv
            unfold callMethod
            refine rb (run_program _ _) ?_
            refine rb hmeth ?_
            rfl
          · rename_i hrecv
            exact absurd h0 (hrecv _)
      · cases g5
    · cases g2
  | builtin b => cases g1
theorem mapUpd_kept {t : TypeId} {m k x : Value} (h : mapUpd C prot s t m k x = some s') : Kept prot s s' := by
  unfold mapUpd at h
  split at h
  · split at h
    · obtain ⟨ho, h⟩ := cond_some h
      simp only [ownB, Bool.and_eq_true] at ho
      obtain ⟨q, hq, h⟩ := bind_some h
      split at h
      · obtain ⟨e, he, h⟩ := bind_some h
        obtain ⟨k', hk', h⟩ := bind_some h
        cases h
        exact Kept.set ho.2 _
      · cases h
        exact Kept.set ho.2 _
    · cases h
  · cases h
theorem appendV_kept {t : TypeId} {xt : Option TypeId} {x y u : Value} (h : appendV C prot s t xt x y = some (u, s')) : Kept prot s s' := by
  unfold appendV at h
  split at h
  · rename_i e a n ca hu
    obtain ⟨hc, h⟩ := cond_some h
    obtain ⟨k, hk, h⟩ := bind_some h
    obtain ⟨xs, hxs, h⟩ := bind_some h
    cases hfit : Nat.ble (n + k) ca with
    | true =>
      rw [hfit] at h
      simp only [cond_true] at h
      cases hk0 : Nat.beq k 0 with
      | true =>
        rw [hk0] at h
        simp only [cond_true, Option.some.injEq, Prod.mk.injEq] at h
        rw [← h.2]
        exact Kept.refl _ _
      | false =>
        rw [hk0] at h
        simp only [cond_false] at h
        split at h
        · obtain ⟨s1, hs1, h⟩ := bind_some h
          cases h
          exact Kept.write hs1
        · cases h
    | false =>
      rw [hfit] at h
      simp only [cond_false] at h
      obtain ⟨z, hzv, h⟩ := bind_some h
      obtain ⟨hc, h⟩ := cond_some h
      split at h
      · obtain ⟨old, hold, h⟩ := bind_some h
        split at h
        · rename_i ex _
          cases ex with
          | true =>
            simp only [cond_true, Option.some.injEq, Prod.mk.injEq] at h
            rw [← h.2]
            exact Kept.push _ _ _
          | false =>
            simp only [cond_false] at h
            obtain ⟨hc, h⟩ := cond_some h
            simp only [Option.some.injEq, Prod.mk.injEq] at h
            rw [← h.2]
            simp only [Bool.and_eq_true, ownB] at hc
            exact (Kept.set hc.1.1.1.2 _).trans (Kept.push _ _ _)
        · cases h
      · obtain ⟨hc, h⟩ := cond_some h
        cases h
        exact Kept.push _ _ _
      · obtain ⟨hc, h⟩ := cond_some h
        cases h
        exact Kept.push _ _ _
      · cases h
  · cases h
theorem copyV_kept {t : TypeId} {x y u : Value} (h : copyV C prot s t x y = some (u, s')) : Kept prot s s' := by
  unfold copyV at h
  split at h
  · rename_i e a n ca hu
    obtain ⟨hc, h⟩ := cond_some h
    obtain ⟨k, hk, h⟩ := bind_some h
    obtain ⟨xs, hxs, h⟩ := bind_some h
    cases hk0 : Nat.beq (Nat.min k n) 0 with
    | true =>
      rw [hk0] at h
      simp only [cond_true, Option.some.injEq, Prod.mk.injEq] at h
      rw [← h.2]
      exact Kept.refl _ _
    | false =>
      rw [hk0] at h
      simp only [cond_false] at h
      split at h
      · obtain ⟨s1, hs1, h⟩ := bind_some h
        cases h
        exact Kept.write hs1
      · cases h
  · cases h
theorem eop_ok (hcall : CallOk C call) (h : eop C call prot ev s o = some (v, s')) :
    Kept prot s s' ∧ ∀ {base : World} {ρ : Rho} {w : World} {a : Act}, RE ρ ev a.eval → RW C base ρ s w → StepOk C s s' v o a base ρ w := by
  obtain ⟨dst, op, ty, pos, after, guard⟩ := o
  unfold eop at h
  cases op <;> simp only at h <;> try (cases h; done)
  case insert t m k x =>
    unfold eMap at h
    obtain ⟨m', hm, g1⟩ := bind_some h
    obtain ⟨k', hk, g2⟩ := bind_some g1
    obtain ⟨x', hx, g3⟩ := bind_some g2
    obtain ⟨s1, hs, g4⟩ := bind_some g3
    clear h g1 g2 g3
    cases g4
    refine ⟨mapUpd_kept hs, fun hE hw => step_unit (m := Instr.mapUpdate t _ _ _) rfl (mapUpd_ok hw (hE _ _ hm) (hE _ _ hk) (hE _ _ hx) hs).2⟩
  case store t a x =>
    unfold eStore at h
    obtain ⟨x', hx, g1⟩ := bind_some h
    obtain ⟨a', ha, g2⟩ := bind_some g1
    clear h g1
    split at g2
    · rename_i b o
      obtain ⟨hc, g3⟩ := cond_some g2
      clear g2
      obtain ⟨s1, hs, g4⟩ := bind_some g3
      clear g3
      cases g4
      simp only [Bool.and_eq_true] at hc
      have c1 := Nat.eq_of_beq_eq_true hc.1
      have c2 : 0 < sz C.P t := by simpa [Nat.blt_eq] using hc.2
      refine ⟨Kept.write hs, fun {base ρ w act} hE hw => ?_⟩
      obtain ⟨c, d, l, hb, e⟩ := (hE _ _ ha).ptr_inv
      obtain ⟨w', h1, h2⟩ := storeVar_ok hw hb (hE _ _ hx) c1 c2 hs
      refine step_unit (m := Instr.storeAt t (act.eval a) (act.eval x)) rfl ⟨w', ?_, h2⟩
      rw [e]
      exact rb (a := (⟨c, d + o, none⟩ : Addr)) (w1 := w) rfl h1
    · cases g2
  case mapUpdate t m k x =>
    unfold eMap at h
    obtain ⟨m', hm, g1⟩ := bind_some h
    obtain ⟨k', hk, g2⟩ := bind_some g1
    obtain ⟨x', hx, g3⟩ := bind_some g2
    obtain ⟨s1, hs, g4⟩ := bind_some g3
    clear h g1 g2 g3
    cases g4
    refine ⟨mapUpd_kept hs, fun hE hw => step_unit (m := Instr.mapUpdate t _ _ _) rfl (mapUpd_ok hw (hE _ _ hm) (hE _ _ hk) (hE _ _ hx) hs).2⟩
  case call c =>
    have exts : ∀ {f : FuncId} {xs : List Value} {g : List Value → AW → Option Value}, target C ev c = some (f, xs) → C.ext f = some g → g xs s = some v →
        ∀ {base : World} {ρ : Rho} {w : World} {a : Act}, RE ρ ev a.eval → RW C base ρ s w → StepOk C s s v { dst := dst, op := .call c, type := ty, pos := pos, after := after, guard := guard } a base ρ w := by
      intro f xs g ht hg hv base ρ w a hE hw Q next hn
      obtain ⟨xc, hr, hrun⟩ := target_ok (w := w) (ty := ty) hE ht
      obtain ⟨vc, h1, h2⟩ := hcall.1 f g hg xs s v hv base ρ w xc hw hr
      unfold Oper.wp
      rw [show (execOp a.eval { dst := dst, op := .call c, type := ty, pos := pos, after := after, guard := guard }) = (do let d ← resolve a.eval c ty; invoke d.target d.args : Sem Next) from rfl, hrun, h1]
      exact hn vc w ρ (Rle.refl _) h2 hw (fun _ _ => rfl)
    have calls : ∀ {f : FuncId} {xs : List Value}, target C ev c = some (f, xs) → call f prot xs s = some (v, s') →
        Kept prot s s' ∧ ∀ {base : World} {ρ : Rho} {w : World} {a : Act}, RE ρ ev a.eval → RW C base ρ s w → StepOk C s s' v { dst := dst, op := .call c, type := ty, pos := pos, after := after, guard := guard } a base ρ w := by
      intro f xs ht hc
      obtain ⟨h1, h2, h3⟩ := hcall.2 f prot xs s v s' hc
      refine ⟨h1, fun {base ρ w a} hE hw Q next hn => ?_⟩
      obtain ⟨xc, hr, hrun⟩ := target_ok (w := w) (ty := ty) hE ht
      unfold Oper.wp
      rw [show (execOp a.eval { dst := dst, op := .call c, type := ty, pos := pos, after := after, guard := guard }) = (do let d ← resolve a.eval c ty; invoke d.target d.args : Sem Next) from rfl, hrun, h2]
      refine Calls.mono (h3 base ρ w xc hw hr) (fun e w' he => ?_)
      obtain ⟨vc, ρ', rfl, g1, g2, g3, g4⟩ := he
      exact hn vc w' ρ' g1 g2 g3 g4
    unfold eCall at h
    obtain ⟨callee, args, tys⟩ := c
    cases callee with
    | value x =>
      simp only at h
      unfold eFunc at h
      obtain ⟨p, hp, g1⟩ := bind_some h
      obtain ⟨pf, px⟩ := p
      simp only at g1
      split at g1
      · rename_i g hg
        obtain ⟨v', hv', g2⟩ := bind_some g1
        cases g2
        exact ⟨Kept.refl _ _, exts hp hg hv'⟩
      · exact calls hp g1
    | invoke r name =>
      simp only at h
      unfold eFunc at h
      obtain ⟨p, hp, g1⟩ := bind_some h
      obtain ⟨pf, px⟩ := p
      simp only at g1
      split at g1
      · rename_i g hg
        obtain ⟨v', hv', g2⟩ := bind_some g1
        cases g2
        exact ⟨Kept.refl _ _, exts hp hg hv'⟩
      · exact calls hp g1
    | builtin b =>
      simp only at h
      unfold eBuiltin at h
      cases b <;> simp only at h <;> try (cases h; done)
      case append =>
        unfold eAppend at h
        split at h
        · rename_i x y t e1 e2
          obtain ⟨x', hx, g1⟩ := bind_some h
          obtain ⟨y', hy, g2⟩ := bind_some g1
          clear h g1
          have ea : args = #[x, y] := by rw [← Array.toList_inj]; exact e1
          subst ea
          cases hi : isIntT C.P tys[1]? with
          | true =>
            rw [hi] at g2
            simp only [cond_true] at g2
            refine ⟨appendZ_kept g2, fun {base ρ w a} hE hw => ?_⟩
            refine step_val (m := Builtin.append_ tys ty (#[x, y].map a.eval)) rfl ?_
            rw [show #[x, y].map a.eval = #[a.eval x, a.eval y] by simp]
            exact appendZ_ok hw (hE _ _ hx) (hE _ _ hy) e2 hi g2
          | false =>
            rw [hi] at g2
            simp only [cond_false] at g2
            refine ⟨appendV_kept g2, fun {base ρ w a} hE hw => ?_⟩
            refine step_val (m := Builtin.append_ tys ty (#[x, y].map a.eval)) rfl ?_
            rw [show #[x, y].map a.eval = #[a.eval x, a.eval y] by simp]
            exact (appendV_ok hw (hE _ _ hx) (hE _ _ hy) e2 g2).2
        · cases h
      case copy =>
        unfold eCopy at h
        split at h
        · rename_i x y t e1 e2
          obtain ⟨x', hx, g1⟩ := bind_some h
          obtain ⟨y', hy, g2⟩ := bind_some g1
          clear h g1
          have ea : args = #[x, y] := by rw [← Array.toList_inj]; exact e1
          subst ea
          refine ⟨copyV_kept g2, fun {base ρ w a} hE hw => ?_⟩
          refine step_val (m := Builtin.copy_ tys ty (#[x, y].map a.eval)) rfl ?_
          rw [show #[x, y].map a.eval = #[a.eval x, a.eval y] by simp]
          exact (copyV_ok hw (hE _ _ hx) (hE _ _ hy) e2 g2).2
        · cases h
end
end Ev
end Go.Proofs.YtgflhpfeghplpaaGreatDoor
