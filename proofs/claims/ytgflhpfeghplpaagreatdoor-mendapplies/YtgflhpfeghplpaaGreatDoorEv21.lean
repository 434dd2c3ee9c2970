/- The law's own example answers true, whatever the tape says. -/
import Derived.Test.YtgflhpfeghplpaaGreatDoorEv20
import Derived.Test.YtgflhpfeghplpaaGreatDoorEv19
set_option maxRecDepth 1000000
namespace Go.Proofs.YtgflhpfeghplpaaGreatDoor
open Go.RowKit
namespace Ev
theorem mixed : Tryz.prog.follows .mixedOrders = true := by kernel_rfl
theorem maskOk : (List.range 256).all (fun f => !maskN.testBit f || fnOk cfg f) = true := by kernel_rfl
theorem insOk : fnOk cfg0 117 = true := by kernel_rfl
theorem runOk : fnOk cfg 91 = true := by kernel_rfl
theorem ovFind : Extern.find Tryz.f141 = some (Extern.SlicesOverlaps.overlaps #[114, 114] #[4]) := by kernel_rfl
theorem ovNext : Extern.findNext Tryz.f141 = none := by kernel_rfl
theorem ovName : (Tryz.f141.name == "runtime.NumGoroutine") = false := by kernel_rfl
theorem ovBody : Tryz.f141.body.isNone = true := by kernel_rfl
theorem ovSize : 0 < sz Tryz.prog 22 := by
  have : sz Tryz.prog 22 = 1 := by kernel_rfl
  rw [this]; decide
theorem extOk : ExtOk cfg := by
  intro f g hg xs s v hv base ρ w xc hw hr
  have h1 : (bif Nat.beq f 141 then some apartV else none) = some g := hg
  cases hb : Nat.beq f 141 with
  | false => rw [hb] at h1; cases h1
  | true =>
    rw [hb] at h1
    cases h1
    have := Nat.eq_of_beq_eq_true hb
    subst this
    exact apart_ok (C := cfg) (e := 22) Tryz.func141 ovName ovBody ovNext ovFind Tryz.underlying114 ovSize hv hw hr
theorem mask_fn : ∀ f, cfg.mask.testBit f = true → fnOk cfg f = true := by
  intro f hf
  have hf : maskN.testBit f = true := hf
  have hlt : f < 256 := by
    refine Nat.lt_of_not_le (fun hle => ?_)
    have h1 : maskN < 2 ^ f := Nat.lt_of_lt_of_le (by decide : maskN < 2 ^ 256) (Nat.pow_le_pow_right (by omega) hle)
    rw [Nat.testBit_lt_two_pow h1] at hf
    cases hf
  have := List.all_eq_true.1 maskOk f (List.mem_range.2 hlt)
  rw [hf] at this
  simpa using this
theorem spOk : SpOk cfg := by
  intro f g hg
  have h1 : (bif Nat.beq f 117 then some (fun call prot xs s => insertV cfg0 117 call prot xs s) else bif Nat.beq f 91 then some (fun call prot xs s => runV cfg0 176 4 call prot xs s) else none) = some g := hg
  cases hb : Nat.beq f 117 with
  | true =>
    rw [hb] at h1
    cases h1
    have := Nat.eq_of_beq_eq_true hb
    subst this
    refine ⟨fun xc w => callFunc_ok (C := cfg0) insOk xc w, fun call hcall prot xs s v s' h => ?_⟩
    obtain ⟨k1, k2⟩ := insert_ok (C := cfg0) mixed (CallOk.cast (C := cfg) (C' := cfg0) rfl rfl rfl hcall) insOk h
    exact ⟨k1, fun base ρ w xc hw hr => Calls.mono (k2 base ρ w xc (RW.cast (C := cfg) (C' := cfg0) rfl rfl hw) hr) (fun e w' he => Ret.cast (C := cfg0) (C' := cfg) rfl rfl he)⟩
  | false =>
    rw [hb] at h1
    cases hb2 : Nat.beq f 91 with
    | false => rw [hb2] at h1; cases h1
    | true =>
      rw [hb2] at h1
      cases h1
      have := Nat.eq_of_beq_eq_true hb2
      subst this
      refine ⟨fun xc w => callFunc_ok (C := cfg) runOk xc w, fun call hcall prot xs s v s' h => ?_⟩
      obtain ⟨k1, k2⟩ := run_ok (C := cfg0) rfl (CallOk.cast (C := cfg) (C' := cfg0) rfl rfl rfl hcall) h
      exact ⟨k1, fun base ρ w xc hw hr => Calls.mono (k2 base ρ w xc (RW.cast (C := cfg) (C' := cfg0) rfl rfl hw) hr) (fun e w' he => Ret.cast (C := cfg0) (C' := cfg) rfl rfl he)⟩
theorem start_rw (w : World) : RW cfg w (fun _ => none) start0 w :=
  ⟨Nat.le_refl _, fun _ _ => rfl, rfl, rfl, rfl, fun _ _ => rfl, fun g hg => absurd hg (Nat.not_lt_zero g), fun b c d l e => by (cases e), fun b b' c d l d' l' e => by (cases e), fun b c d l e => by (cases e)⟩
/-- accidencelaw22.alive -/
theorem alive_any (w : World) : Calls Tryz.prog 4 #[] w fun e w' => e = .returned (.bool true) ∧ Below w.heap.size w w' := by
  have hrun := alive_run
  have hok := callF_ok (C := cfg) mixed extOk mask_fn spOk 60
  generalize callF cfg 60 = cc at hrun hok
  unfold isTrue at hrun
  split at hrun
  · rename_i b s' h
    subst hrun
    have := (hok.2 4 [] [] start0 _ _ h).2.2 w (fun _ => none) w #[] (start_rw w) RL.nil
    refine Calls.mono this (fun e w' he => ?_)
    obtain ⟨vc, ρ', rfl, _, hv, hw, _⟩ := he
    rw [hv.scalar_inv rfl]
    exact ⟨rfl, hw.below⟩
  · cases hrun
end Ev
end Go.Proofs.YtgflhpfeghplpaaGreatDoor
