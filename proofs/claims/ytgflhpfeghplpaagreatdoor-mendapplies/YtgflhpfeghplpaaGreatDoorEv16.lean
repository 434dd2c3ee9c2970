/- Code and calls. -/
import Derived.Test.YtgflhpfeghplpaaGreatDoorEv15
import Derived.Tactics
import Derived.Scope
set_option maxRecDepth 100000
namespace Go.Proofs.YtgflhpfeghplpaaGreatDoor
open Go.RowKit
namespace Ev
section
variable {C : Cfg} {call : CallT} {prot : List Nat} {n : Nat} {ops : Array Oper} {base : World} {ρ ρ' ρ0 : Rho} {a : Act} {w : World} {t t' : Tm} {s s' : AW} {o : Oper}
theorem step1_ok (hcall : CallOk C call) {v : Value} {bs : List Nat} (h : step1 C call prot t s ops o = some (v, s', bs)) (hT : RT ρ n t a) (hw : RW C base ρ s w) {K : Act → World → Prop} {Q : Exit → Act → World → Prop}
    (hK : ∀ vc w' ρ', Rle ρ ρ' → RV ρ' v vc → RW C base ρ' s' w' → (∀ b, b < s.next → ρ' b = ρ b) → K (a.put o.dst vc) w') :
    if Region.wanted o (yielded ops a.tmps) then o.wp C.P a w K Q ∨ (o.asks C.P a w ∧ LetsOut Q) else K (a.put o.dst undef) w := by
  rw [want_eq (ops := ops) (t := t) (fun u _ => hT.2.2 u)]
  have hE : RE ρ (evalO C t) a.eval := RE_all (fun g hg => hw.glob g hg) hT.2.2
  cases he : isE o.op with
  | true =>
    rcases step_E he h with ⟨h1, h2, h3⟩ | ⟨h1, h2⟩
    · rw [h1, if_neg (by simp)]
      exact hK undef w ρ (Rle.refl _) (by rw [h2]; exact RV.undef) (by rw [h3]; exact hw) (fun _ _ => rfl)
    · rw [h1, if_pos rfl]
      exact .inl ((eop_ok hcall h2).2 hE hw Q K (fun vc w' ρ' a1 a2 a3 a4 => hK vc w' ρ' a1 a2 a3 a4))
  | false =>
    rcases step_V he h with ⟨h1, h2, h3⟩ | ⟨h1, r, hr, hv, hrd, hsh⟩
    · rw [h1, if_neg (by simp)]
      exact hK undef w ρ (Rle.refl _) (by rw [h2]; exact RV.undef) (by rw [h3]; exact hw) (fun _ _ => rfl)
    · rw [h1, if_pos rfl]
      left
      have key : VOk C base ρ s' s.next r.al r.v ((execOp a.eval o).run C.P w) := by
        rcases hsh with ⟨h4, h5, _⟩ | ⟨ob, h4, h5, _⟩
        · subst h5
          exact vop_sound hr hE hw (fun ob hob => by rw [h4] at hob; cases hob)
        · subst h5
          refine vop_sound (vop_stable hr (fun b hb => AW.get_push_ne (by have := hrd b hb; omega))) hE (hw.push ob) (fun ob' hob => ?_)
          rw [h4] at hob
          cases hob
          exact ⟨hw.fresh _ (Nat.le_refl _), by rw [AW.next_push]; omega, AW.get_push_or⟩
      obtain ⟨vc, w', ρ', hrun, hle, hrv, hrw, hne, _⟩ := key
      unfold Oper.wp
      rw [hrun]
      exact hK vc w' ρ' hle (by rw [hv]; exact hrv) hrw (fun b hb => hne b (by omega))
theorem put_RT {v vc : Value} (hp : put n t o.dst v = some t') (hn : n ≤ 10000) (hT : RT ρ n t a) (hle : Rle ρ ρ') (hv : RV ρ' v vc) : RT ρ' n t' (a.put o.dst vc) := by
  obtain ⟨h1, h2, h3, h4⟩ := put_tm (vc := vc) hp hT.1
  refine ⟨h1, h4.trans hT.2.1, fun x => ?_⟩
  unfold put at hp
  by_cases hd : o.dst = some x
  · rw [h2 x hd]
    rw [hd] at hp
    obtain ⟨hb, hp⟩ := cond_some hp
    have hxn : x < n := by simpa [Nat.blt_eq] using hb
    cases hp
    rw [get_set_self deep _ x _ (by
      rw [show (2 : Nat) ^ deep = 18446744073709551616 by rfl]
      exact Nat.lt_of_lt_of_le (Nat.succ_lt_succ hxn) (by omega))]
    exact hv
  · rw [h3 x hd]
    have : t'.get deep x = t.get deep x := by
      split at hp
      · cases hp; rfl
      · rename_i d hd'
        obtain ⟨_, hp⟩ := cond_some hp
        cases hp
        exact get_set_ne _ _ _ _ _ (fun e => hd (by rw [hd', e]))
    rw [this]
    exact (hT.2.2 x).mono hle
theorem Kept.sub {prot prot' : List Nat} (h : ∀ b ∈ prot, b ∈ prot') (k : Kept prot' s s') : Kept prot s s' := ⟨k.1, fun b hb hl => k.2 b (h b hb) hl⟩
theorem seq_kept (hcall : CallOk C call) : ∀ (l : List Oper) (t : Tm) (s : AW), seqOps C call prot n ops l t s = some (t', s') → Kept prot s s'
  | [], t, s, h => by
    simp only [seqOps, Option.some.injEq, Prod.mk.injEq] at h
    rw [← h.2]
    exact Kept.refl _ _
  | o :: l, t, s, h => by
    unfold seqOps at h
    obtain ⟨⟨v, s1, bs⟩, hst, h⟩ := bind_some h
    obtain ⟨t1, ht1, h⟩ := bind_some h
    exact (step_kept hcall hst).1.trans (seq_kept hcall l t1 s1 h)
theorem any_kept (hcall : CallOk C call) : ∀ (ps : List PItem) (h : List (Nat × List Nat)) (t : Tm) (s : AW), anyOps C call prot n ops ps h t s = some (t', s') → Kept prot s s'
  | [], _, t, s, h => by
    simp only [anyOps, Option.some.injEq, Prod.mk.injEq] at h
    rw [← h.2]
    exact Kept.refl _ _
  | x :: l, hh, t, s, h => by
    unfold anyOps at h
    obtain ⟨o, ho, h⟩ := bind_some h
    obtain ⟨⟨v, s1, bs⟩, hst, h⟩ := bind_some h
    obtain ⟨t1, ht1, h⟩ := bind_some h
    refine Kept.trans ?_ (any_kept hcall l _ t1 s1 h)
    refine Kept.sub (fun b hb => ?_) (step_kept hcall hst).1
    cases x.isE with
    | true => exact List.mem_append.2 (.inr hb)
    | false => exact hb
theorem seq_ok (hcall : CallOk C call) (hn : n ≤ 10000) {Q : Exit → Act → World → Prop} : ∀ (l : List Oper) (t : Tm) (s : AW) (a : Act) (w : World) (ρ : Rho), seqOps C call prot n ops l t s = some (t', s') → RT ρ n t a → RW C base ρ s w →
    (∀ a' w' ρ', Rle ρ ρ' → RT ρ' n t' a' → RW C base ρ' s' w' → (∀ b, b < s.next → ρ' b = ρ b) → Q .normal a' w') → wpList C.P ops Q l a w
  | [], t, s, a, w, ρ, h, hT, hw, hQ => by
    simp only [seqOps, Option.some.injEq, Prod.mk.injEq] at h
    obtain ⟨rfl, rfl⟩ := h
    exact hQ a w ρ (Rle.refl _) hT hw (fun _ _ => rfl)
  | o :: l, t, s, a, w, ρ, h, hT, hw, hQ => by
    unfold seqOps at h
    obtain ⟨⟨v, s1, bs⟩, hst, h⟩ := bind_some h
    obtain ⟨t1, ht1, h⟩ := bind_some h
    have hk1 := (step_kept hcall hst).1
    unfold wpList
    refine step1_ok hcall hst hT hw (fun vc w' ρ' hle hv hw' hf => ?_)
    refine seq_ok hcall hn l t1 s1 _ w' ρ' h (put_RT ht1 hn hT hle hv) hw' (fun a2 w2 ρ2 h1 h2 h3 h4 => hQ a2 w2 ρ2 (hle.trans h1) h2 h3 (fun b hb => ?_))
    rw [h4 b (Nat.lt_of_lt_of_le hb hk1.1)]
    exact hf b hb
/-! ### Code -/
def codeOk (C : Cfg) (f : FuncId) : Code → Bool
  | .region id ops true => match C.plans f id with
    | some ps => regionOk ops ps
    | none => true
  | .seq x y => codeOk C f x && codeOk C f y
  | .cond _ x y => codeOk C f x && codeOk C f y
  | .block _ x => codeOk C f x
  | .loop x => codeOk C f x
  | .scope x => codeOk C f x
  | _ => true
def exOf : Ex → Exit
  | .normal => .normal
  | .exit id => .exit id
  | .ret => .ret
def Post (C : Cfg) (base : World) (ρ : Rho) (n : Nat) (s : AW) (e : Ex) (t' : Tm) (s' : AW) : Exit → Act → World → Prop := fun x a' w' =>
  x = exOf e ∧ ∃ ρ', Rle ρ ρ' ∧ RT ρ' n t' a' ∧ RW C base ρ' s' w' ∧ ∀ b, b < s.next → ρ' b = ρ b
theorem Post.trans {s1 : AW} {e : Ex} {x : Exit} {a' : Act} {w' : World} (h1 : Rle ρ ρ') (h2 : ∀ b, b < s.next → ρ' b = ρ b) (hk : s.next ≤ s1.next) (h : Post C base ρ' n s1 e t' s' x a' w') : Post C base ρ n s e t' s' x a' w' := by
  obtain ⟨g1, ρ2, g2, g3, g4, g5⟩ := h
  exact ⟨g1, ρ2, h1.trans g2, g3, g4, fun b hb => (g5 b (Nat.lt_of_lt_of_le hb hk)).trans (h2 b hb)⟩
/-- A loop that stands at the head of a round. -/
def LW (P : Program) (c : Code) (Q : Exit → Act → World → Prop) (a : Act) (w : World) : Prop :=
  ∀ (b : Frame) (k : List Item) (cs : List Frame), ∃ e a' w', Q e a' w' ∧ Arrives P (lone (b.at a (.code c :: .inLoop c :: k)) cs w) b k cs e a' w'
theorem lw_loop {P : Program} {c : Code} {Q : Exit → Act → World → Prop} (h : LW P c Q a w) : (Code.loop c).wp P Q a w := by
  intro b k cs
  obtain ⟨e, a', w', hq, harr⟩ := h b k cs
  exact ⟨e, a', w', hq, .of_steps (.one step_loop) harr⟩
theorem lw_step {P : Program} {c : Code} {Q : Exit → Act → World → Prop} (h : c.wp P (Exit.then (LW P c Q) Q) a w) : LW P c Q a w := by
  intro b k cs
  obtain ⟨e, a₁, w₁, hq, harr⟩ := h b (.inLoop c :: k) cs
  cases e with
  | normal =>
    obtain ⟨e₂, a₂, w₂, hq₂, harr₂⟩ := hq b k cs
    exact ⟨e₂, a₂, w₂, hq₂, .of_steps (Steps.trans harr (.one step_inLoop)) harr₂⟩
  | exit id => exact ⟨_, a₁, w₁, hq, .pass (x := .inLoop c) rfl (fun _ _ => .inl (by simp)) harr⟩
  | goto l => exact ⟨_, a₁, w₁, hq, .pass (x := .inLoop c) rfl (fun _ _ => .inl (by simp)) harr⟩
  | ret => exact ⟨_, a₁, w₁, hq, .pass (x := .inLoop c) rfl (fun _ _ => .inl (by simp)) harr⟩
  | panic ch => exact ⟨_, a₁, w₁, hq, .pass (x := .inLoop c) rfl (fun _ _ => .inl (by simp)) harr⟩
  | outgrown => exact ⟨_, a₁, w₁, hq, .pass (x := .inLoop c) rfl (fun _ _ => .inl (by simp)) harr⟩
theorem code_ok (hm : C.P.follows .mixedOrders = true) (hcall : CallOk C call) (hn : n ≤ 10000) {f : FuncId} : ∀ (k : Nat) (c : Code) (t : Tm) (s : AW) (e : Ex) (t' : Tm) (s' : AW), code C call f prot n k c t s = some (e, t', s') → codeOk C f c = true →
    Kept prot s s' ∧ ∀ (ρ : Rho) (a : Act) (w : World), RT ρ n t a → RW C base ρ s w → c.wp C.P (Post C base ρ n s e t' s') a w ∧ ∀ x, c = .loop x → LW C.P x (Post C base ρ n s e t' s') a w := by
  intro k
  induction k with
  | zero => intro c t s e t' s' h; cases h
  | succ k ih =>
    have one : ∀ {c : Code} {t : Tm} {s : AW} {e : Ex} {t' : Tm} {s' : AW}, (∀ x, c ≠ .loop x) → (∀ (ρ : Rho) (a : Act) (w : World), RT ρ n t a → RW C base ρ s w → c.wp C.P (Post C base ρ n s e t' s') a w) →
        ∀ (ρ : Rho) (a : Act) (w : World), RT ρ n t a → RW C base ρ s w → c.wp C.P (Post C base ρ n s e t' s') a w ∧ ∀ x, c = .loop x → LW C.P x (Post C base ρ n s e t' s') a w :=
      fun hc h ρ a w hT hw => ⟨h ρ a w hT hw, fun x e => absurd e (hc x)⟩
    have here : ∀ {ρ : Rho} {a : Act} {w : World} {t : Tm} {s : AW} {e : Ex}, RT ρ n t a → RW C base ρ s w → Post C base ρ n s e t s (exOf e) a w := fun hT hw => ⟨rfl, _, Rle.refl _, hT, hw, fun _ _ => rfl⟩
    intro c t s e t' s' h hc
    cases c with
    | skip =>
      cases h
      exact ⟨Kept.refl _ _, one (by simp) (fun ρ a w hT hw => wp_skip (here hT hw))⟩
    | label l =>
      cases h
      exact ⟨Kept.refl _ _, one (by simp) (fun ρ a w hT hw => wp_label (here hT hw))⟩
    | exit id =>
      cases h
      exact ⟨Kept.refl _ _, one (by simp) (fun ρ a w hT hw => wp_exit (here hT hw))⟩
    | ret =>
      cases h
      exact ⟨Kept.refl _ _, one (by simp) (fun ρ a w hT hw => wp_ret (here hT hw))⟩
    | seq x y =>
      simp only [codeOk, Bool.and_eq_true] at hc
      unfold code at h
      simp only at h
      split at h
      · rename_i t1 s1 hx
        obtain ⟨k1, g1⟩ := ih x t s .normal t1 s1 hx hc.1
        obtain ⟨k2, g2⟩ := ih y t1 s1 e t' s' h hc.2
        refine ⟨k1.trans k2, one (by simp) (fun ρ a w hT hw => wp_seq (wp_mono (g1 ρ a w hT hw).1 (fun x a' w' hp => ?_)))⟩
        obtain ⟨rfl, ρ', p1, p2, p3, p4⟩ := hp
        exact wp_mono (g2 ρ' a' w' p2 p3).1 (fun x a2 w2 hp2 => hp2.trans p1 p4 k1.1)
      · rename_i hne
        obtain ⟨k1, g1⟩ := ih x t s e t' s' h hc.1
        refine ⟨k1, one (by simp) (fun ρ a w hT hw => wp_seq (wp_mono (g1 ρ a w hT hw).1 (fun x a' w' hp => ?_)))⟩
        have hp' := hp
        obtain ⟨rfl, ρ', p1, p2, p3, p4⟩ := hp
        cases e with
        | normal => exact absurd h (hne _ _)
        | exit id => exact hp'
        | ret => exact hp'
    | cond c x y =>
      simp only [codeOk, Bool.and_eq_true] at hc
      unfold code at h
      simp only at h
      split at h
      · rename_i hv
        obtain ⟨k1, g1⟩ := ih x t s e t' s' h hc.1
        refine ⟨k1, one (by simp) (fun ρ a w hT hw => ?_)⟩
        have := (RE_all (fun g hg => hw.glob g hg) hT.2.2 c _ hv).scalar_inv rfl
        exact wp_cond_true this (g1 ρ a w hT hw).1
      · rename_i hv
        obtain ⟨k1, g1⟩ := ih y t s e t' s' h hc.2
        refine ⟨k1, one (by simp) (fun ρ a w hT hw => ?_)⟩
        have := (RE_all (fun g hg => hw.glob g hg) hT.2.2 c _ hv).scalar_inv rfl
        exact wp_cond_false this (g1 ρ a w hT hw).1
      · cases h
    | block id x =>
      simp only [codeOk] at hc
      unfold code at h
      simp only at h
      split at h
      · rename_i id' t1 s1 hx
        obtain ⟨k1, g1⟩ := ih x t s (.exit id') t1 s1 hx hc
        cases hb : Nat.beq id' id with
        | true =>
          rw [hb] at h
          simp only [cond_true, Option.some.injEq, Prod.mk.injEq] at h
          obtain ⟨rfl, rfl, rfl⟩ := h
          refine ⟨k1, one (by simp) (fun ρ a w hT hw => wp_block (wp_mono (g1 ρ a w hT hw).1 (fun x a' w' hp => ?_)))⟩
          obtain ⟨rfl, hp⟩ := hp
          simp only [exOf, Exit.inBlock, Nat.eq_of_beq_eq_true hb, if_true]
          exact ⟨rfl, hp⟩
        | false =>
          rw [hb] at h
          simp only [cond_false, Option.some.injEq, Prod.mk.injEq] at h
          obtain ⟨rfl, rfl, rfl⟩ := h
          refine ⟨k1, one (by simp) (fun ρ a w hT hw => wp_block (wp_mono (g1 ρ a w hT hw).1 (fun x a' w' hp => ?_)))⟩
          obtain ⟨rfl, hp⟩ := hp
          simp only [exOf, Exit.inBlock, if_neg (Nat.ne_of_beq_eq_false hb)]
          exact ⟨rfl, hp⟩
      · rename_i hne
        obtain ⟨k1, g1⟩ := ih x t s e t' s' h hc
        refine ⟨k1, one (by simp) (fun ρ a w hT hw => wp_block (wp_mono (g1 ρ a w hT hw).1 (fun x a' w' hp => ?_)))⟩
        have hp' := hp
        obtain ⟨rfl, _⟩ := hp
        cases e with
        | normal => exact hp'
        | exit id => exact absurd h (hne _ _ _)
        | ret => exact hp'
    | loop x =>
      simp only [codeOk] at hc
      unfold code at h
      simp only at h
      split at h
      · rename_i t1 s1 hx
        obtain ⟨k1, g1⟩ := ih x t s .normal t1 s1 hx hc
        obtain ⟨k2, g2⟩ := ih (.loop x) t1 s1 e t' s' h hc
        have key : ∀ (ρ : Rho) (a : Act) (w : World), RT ρ n t a → RW C base ρ s w → LW C.P x (Post C base ρ n s e t' s') a w := fun ρ a w hT hw => by
          refine lw_step (wp_mono (g1 ρ a w hT hw).1 (fun y a' w' hp => ?_))
          obtain ⟨rfl, ρ', p1, p2, p3, p4⟩ := hp
          have := (g2 ρ' a' w' p2 p3).2 x rfl
          intro b kk cs
          obtain ⟨e2, a2, w2, hq, harr⟩ := this b kk cs
          exact ⟨e2, a2, w2, hq.trans p1 p4 k1.1, harr⟩
        refine ⟨k1.trans k2, fun ρ a w hT hw => ⟨lw_loop (key ρ a w hT hw), fun y hy => ?_⟩⟩
        cases hy
        exact key ρ a w hT hw
      · rename_i hne
        obtain ⟨k1, g1⟩ := ih x t s e t' s' h hc
        have key : ∀ (ρ : Rho) (a : Act) (w : World), RT ρ n t a → RW C base ρ s w → LW C.P x (Post C base ρ n s e t' s') a w := fun ρ a w hT hw => by
          refine lw_step (wp_mono (g1 ρ a w hT hw).1 (fun y a' w' hp => ?_))
          have hp' := hp
          obtain ⟨rfl, _⟩ := hp
          cases e with
          | normal => exact absurd h (hne _ _)
          | exit id => exact hp'
          | ret => exact hp'
        refine ⟨k1, fun ρ a w hT hw => ⟨lw_loop (key ρ a w hT hw), fun y hy => ?_⟩⟩
        cases hy
        exact key ρ a w hT hw
    | scope x =>
      simp only [codeOk] at hc
      unfold code at h
      simp only at h
      obtain ⟨k1, g1⟩ := ih x t s e t' s' h hc
      refine ⟨k1, one (by simp) (fun ρ a w hT hw => wp_scope_straight (wp_mono (g1 ρ a w hT hw).1 (fun x a' w' hp => ?_)))⟩
      have hp' := hp
      obtain ⟨rfl, _⟩ := hp
      cases e <;> exact hp'
    | region id ops draw =>
      unfold code at h
      cases draw with
      | false =>
        simp only at h
        obtain ⟨⟨t1, s1⟩, hx, h⟩ := Option.map_eq_some_iff.1 h
        cases h
        exact ⟨seq_kept hcall _ _ _ hx, one (by simp) (fun ρ a w hT hw => wp_region_list (seq_ok hcall hn ops.toList t s a w ρ hx hT hw (fun a' w' ρ' h1 h2 h3 h4 => ⟨rfl, ρ', h1, h2, h3, h4⟩)))⟩
      | true =>
        simp only at h
        simp only [codeOk] at hc
        split at h
        · rename_i ps hps
          rw [hps] at hc
          obtain ⟨⟨t1, s1⟩, hx, h⟩ := Option.map_eq_some_iff.1 h
          cases h
          exact ⟨any_kept hcall _ _ _ _ hx, one (by simp) (fun ρ a w hT hw => any_ok hm hcall hc hn hx hT hw (fun a' w' ρ' h1 h2 h3 h4 => ⟨rfl, ρ', h1, h2, h3, h4⟩))⟩
        · cases h
    | rangeFunc _ _ _ _ => cases h
    | goto l => cases h
    | refuse w => cases h
end
end Ev
end Go.Proofs.YtgflhpfeghplpaaGreatDoor
