/- A statement whose order is open: whatever order is drawn. -/
import Derived.Test.YtgflhpfeghplpaaGreatDoorEv14
set_option maxRecDepth 100000
namespace Go.Proofs.YtgflhpfeghplpaaGreatDoor
open Go.RowKit
namespace Ev
section
variable {C : Cfg} {call : CallT} {prot : List Nat} {n : Nat} {ops : Array Oper} {ps : List PItem} {T : Nat → Tm} {S : Nat → AW} {O : Nat → Oper} {V : Nat → Value} {B : Nat → List Nat} {H : Nat → List (Nat × List Nat)}
variable {base : World} {ρ ρ' ρ0 : Rho} {a : Act} {w : World}
set_option maxHeartbeats 1000000 in
theorem any_main (hcall : CallOk C call) (htr : Trc C call prot n ops ps T S O V B H) (hok : regionOk ops ps = true) (hn : n ≤ 10000) {Q : Exit → Act → World → Prop}
    (hQ : ∀ a' w' ρ', Rle ρ0 ρ' → RT ρ' n (T ps.length) a' → RW C base ρ' (S ps.length) w' → (∀ b, b < (S 0).next → ρ' b = ρ0 b) → Q .normal a' w') :
    ∀ (fuel : Nat) (L : Array Bool) (a : Act) (w : World) (q : Nat) (ρ : Rho), Inv C n ops ps T S O V base ρ0 q ρ L a w → cnt ops L ≤ fuel → wpAny C.P .any ops Q fuel L a w := by
  simp only [regionOk, Bool.and_eq_true] at hok
  obtain ⟨⟨⟨hlen, htopo⟩, hpairs⟩, hsurj⟩ := hok
  have hlen := Nat.eq_of_beq_eq_true hlen
  have hflag : ∀ p x, ps[p]? = some x → x.isE = isE (O p).op := fun p x hx => by
    obtain ⟨o, ho, h2, _⟩ := topo_at htopo hx
    have := htr.op p x hx
    rw [ho] at this
    cases this
    exact h2
  have hlt : ∀ (p : Nat) (x : PItem), ps[p]? = some x → x.i < ops.size := fun p x hx => (Array.getElem?_eq_some_iff.1 (htr.op p x hx)).1
  have hpair : ∀ {p q : Nat} {x y : PItem}, ps[p]? = some x → ps[q]? = some y → p < q → x.i ≠ y.i ∧ ((ancOf (ancs ops (ps.map (·.i)) []) y.i).testBit x.i = true ∨ (Oper.apart ops (O p) (O q) = true ∧ x.isE = false ∧ (y.isE = true → y.pend.any (fun k => Nat.beq x.i k) = true))) := by
    intro p q x y hx hy hpq
    have := pairs_at hpairs hx hy hpq
    unfold pairOk at this
    rw [htr.op p x hx, htr.op q y hy] at this
    simp only [Bool.and_eq_true, Bool.not_eq_true', Bool.or_eq_true] at this
    refine ⟨Nat.ne_of_beq_eq_false this.1, ?_⟩
    rcases this.2 with h | ⟨⟨h1, h2⟩, h3⟩
    · exact .inl h
    · refine .inr ⟨h1, h2, fun he => ?_⟩
      rcases h3 with h3 | h3
      · rw [he] at h3; cases h3
      · exact h3
  have hinj : ∀ {p q : Nat} {x y : PItem}, ps[p]? = some x → ps[q]? = some y → x.i = y.i → p = q := by
    intro p q x y hx hy e
    rcases Nat.lt_trichotomy p q with h | h | h
    · exact absurd e (hpair hx hy h).1
    · exact h
    · exact absurd e.symm (hpair hy hx h).1
  -- at the end
  have fin : ∀ {L : Array Bool} {a : Act} {w : World} {q : Nat} {ρ : Rho}, Inv C n ops ps T S O V base ρ0 q ρ L a w → (∀ (p : Nat) (x : PItem), ps[p]? = some x → Lst L x.i) → Q .normal a w := by
    intro L a w q ρ I hall
    have hq : q = ps.length := by
      rcases I.at_ with h | ⟨x, hx, _⟩
      · exact h
      · exact absurd (hall q x hx) (I.after q x (Nat.le_refl _) hx)
    subst hq
    refine hQ a w ρ I.mono ⟨I.tsize, I.defers, fun x => ?_⟩ I.rw_ I.fr
    have h1 := I.tm x
    rwa [cur_T htr hn ps.length (Nat.le_refl _) (fun r hr _ => by
      have hx : ps[r]? = some ps[r] := List.getElem?_eq_getElem hr
      rw [innL_some hx]
      exact hall r _ hx)] at h1
  -- nothing is ready: all is done
  have ends : ∀ {L : Array Bool} {a : Act} {w : World} {q : Nat} {ρ : Rho}, Inv C n ops ps T S O V base ρ0 q ρ L a w → Region.ready .any ops L = [] → ∀ (p : Nat) (x : PItem), ps[p]? = some x → Lst L x.i := by
    intro L a w q ρ I hr p
    induction p using Nat.strongRecOn with
    | _ p ih =>
      intro x hx
      by_cases hl : Lst L x.i
      · exact hl
      · exfalso
        obtain ⟨o, ho, _, he⟩ := topo_at htopo hx
        have : x.i ∈ Region.ready .any ops L := by
          unfold Region.ready
          refine List.mem_filter.2 ⟨List.mem_range.2 (hlt p x hx), ?_⟩
          have h1 : L.getD x.i true = false := by
            have hs : x.i < L.size := by rw [I.size]; exact hlt p x hx
            unfold Lst at hl
            simp only [Array.getD_eq_getD_getElem?, Array.getElem?_eq_getElem hs, Option.getD_some] at hl ⊢
            simpa using hl
          rw [h1, ho]
          simp only [Bool.not_false, Bool.true_and, Option.map_some, Option.getD_some]
          rw [← Array.all_toList, List.all_eq_true]
          intro e hem
          cases hb : Region.binds .any e with
          | false => rfl
          | true =>
            rcases he e hem hb with h | ⟨p', x', hp', hx', hi'⟩
            · simp at h
            · have := ih p' hp' x' hx'
              rw [hi'] at this
              rw [Bool.not_true, Bool.false_or]
              exact this
        rw [hr] at this
        simp at this
  intro fuel
  induction fuel with
  | zero =>
    intro L a w q ρ I hc
    have hnone : ∀ (p : Nat) (x : PItem), ps[p]? = some x → Lst L x.i := fun p x hx => by
      unfold cnt at hc
      have h0 := List.countP_eq_zero.1 (Nat.le_zero.1 hc) x.i (List.mem_range.2 (hlt p x hx))
      unfold Lst
      simpa using h0
    refine ⟨?_, fin I hnone⟩
    refine List.eq_nil_iff_forall_not_mem.2 (fun i hi => ?_)
    unfold Region.ready at hi
    obtain ⟨hi1, hi2⟩ := List.mem_filter.1 hi
    simp only [Bool.and_eq_true, Bool.not_eq_true'] at hi2
    have hs := List.mem_range.1 hi1
    obtain ⟨x, hxm, hxi⟩ := List.any_eq_true.1 (List.all_eq_true.1 hsurj i hi1)
    obtain ⟨p, hp, rfl⟩ := List.getElem_of_mem hxm
    have h1 := hnone p _ (List.getElem?_eq_getElem hp)
    rw [Nat.eq_of_beq_eq_true hxi] at h1
    unfold Lst at h1
    have hs' : i < L.size := by rw [I.size]; exact hs
    have h2 := hi2.1
    simp only [Array.getD_eq_getD_getElem?, Array.getElem?_eq_getElem hs', Option.getD_some] at h1 h2
    rw [h1] at h2; cases h2
  | succ fuel ih =>
    intro L a w q ρ I hc
    refine ⟨fun hr => fin I (ends I hr), fun i hi => ?_⟩
    unfold Region.ready at hi
    obtain ⟨hi1, hi2⟩ := List.mem_filter.1 hi
    simp only [Bool.and_eq_true, Bool.not_eq_true'] at hi2
    have hs := List.mem_range.1 hi1
    obtain ⟨x, hxm, hxi⟩ := List.any_eq_true.1 (List.all_eq_true.1 hsurj i hi1)
    obtain ⟨p, hp, hxp⟩ := List.getElem_of_mem hxm
    have hx : ps[p]? = some x := by rw [← hxp]; exact List.getElem?_eq_getElem hp
    clear hxm hxp
    have hxi := Nat.eq_of_beq_eq_true hxi
    subst hxi
    have hsL : x.i < L.size := by rw [I.size]; exact hs
    have hnot : ¬ Lst L x.i := by
      have h2 := hi2.1
      unfold Lst
      simp only [Array.getD_eq_getD_getElem?, Array.getElem?_eq_getElem hsL, Option.getD_some] at h2 ⊢
      simpa using h2
    have hop := htr.op p x hx
    have hedge : ∀ e ∈ (O p).after.toList, Region.binds .any e = true → Lst L e.on := by
      have h2 := hi2.2
      rw [hop] at h2
      simp only [Option.map_some, Option.getD_some] at h2
      rw [← Array.all_toList, List.all_eq_true] at h2
      intro e he hb
      have := h2 e he
      rw [hb] at this
      simpa [Lst] using this
    -- behind it
    have hL' : ∀ j, Lst (L.setIfInBounds x.i true) j ↔ j = x.i ∨ Lst L j := fun j => by
      unfold Lst
      rw [lst_set hsL]
      by_cases e : j = x.i
      · simp [e]
      · simp [e]
    have hclosed' : Closed ops (L.setIfInBounds x.i true) := by
      intro j o hj ho e he hb
      rw [hL'] at hj ⊢
      rcases hj with rfl | hj
      · rw [hop] at ho
        cases ho
        exact .inr (hedge e he hb)
      · exact .inr (I.closed j o hj ho e he hb)
    have hsub : ∀ {j : Nat}, j ≠ x.i → (ancOf (ancs ops (ps.map (·.i)) []) x.i).testBit j = true → Lst L j := by
      intro j hj h
      have := anc_ok hclosed' h ((hL' _).2 (.inl rfl))
      rcases (hL' _).1 this with e | h
      · exact absurd e hj
      · exact h
    have hpq : p ≤ q := by
      refine Nat.le_of_not_lt (fun hlt' => ?_)
      rcases I.at_ with h | ⟨z, hz, hze⟩
      · omega
      · obtain ⟨h1, h2⟩ := hpair hz hx hlt'
        rcases h2 with h2 | ⟨_, h2, _⟩
        · exact I.after q z (Nat.le_refl _) hz (hsub h1 h2)
        · rw [hze] at h2; cases h2
    -- what is done behind it in the evaluator's order, and what is not done ahead of it
    have later : ∀ (r : Nat) (y : PItem), p < r → ps[r]? = some y → Lst L y.i → Oper.apart ops (O p) (O r) = true := by
      intro r y hr hy hl
      obtain ⟨h1, h2⟩ := hpair hx hy hr
      rcases h2 with h2 | ⟨h2, _, _⟩
      · exact absurd (anc_ok I.closed h2 hl) hnot
      · exact h2
    have earlier : ∀ (r : Nat) (y : PItem), r < p → ps[r]? = some y → ¬ Lst L y.i → Oper.apart ops (O r) (O p) = true := by
      intro r y hr hy hl
      obtain ⟨h1, h2⟩ := hpair hy hx hr
      rcases h2 with h2 | ⟨h2, _, _⟩
      · exact absurd (hsub h1 h2) hl
      · exact h2
    have pending : ∀ (r : Nat) (y : PItem), p < r → r < q → ps[r]? = some y → y.isE = true → y.pend.any (fun k => Nat.beq x.i k) = true := by
      intro r y hr hrq hy hye
      obtain ⟨h1, h2⟩ := hpair hx hy hr
      rcases h2 with h2 | ⟨_, _, h3⟩
      · exact absurd (anc_ok I.closed h2 (I.before r y hrq hy hye)) hnot
      · exact h3 hye
    have inn_at : ∀ (r : Nat) (y : PItem), ps[r]? = some y → (innL ps L r = true ↔ Lst L y.i) := fun r y hy => by rw [innL_some hy]; rfl
    have inn_no : ∀ r, ps.length ≤ r → innL ps L r = false := fun r hr => by simp [innL, List.getElem?_eq_none hr]
    have ops_eq : ∀ u ∈ (O p).looksAt ops, RV ρ (((T p).get deep u).getD undefV) (a.tmps.getD u undef) := by
      intro u hu
      have h1 := I.tm u
      have e1 : cur O V (innL ps L) (T 0) u ps.length = cur O V (innL ps L) (T 0) u p := by
        have := cur_skip (O := O) (V := V) (inn := innL ps L) (t0 := T 0) (x := u) (p := p) (ps.length - p) (fun r h1 h2 hd => by
          by_cases e : r = p
          · subst e
            rw [innL_some hx]
            unfold Lst at hnot
            simpa using hnot
          · have hy : ps[r]? = some ps[r] := List.getElem?_eq_getElem (by omega)
            cases hin : innL ps L r with
            | false => rfl
            | true =>
              have := (Oper.apart_spec (later r _ (by omega) hy ((inn_at r _ hy).1 hin))).2.2 u hd
              exact absurd hu this)
        rwa [show p + (ps.length - p) = ps.length by omega] at this
      rw [e1, cur_T htr hn p (by omega) (fun r hr hd => by
        have hy : ps[r]? = some ps[r] := List.getElem?_eq_getElem (by omega)
        cases hin : innL ps L r with
        | true => rfl
        | false =>
          have hnl : ¬ Lst L (ps[r]).i := fun h => by rw [(inn_at r _ hy).2 h] at hin; cases hin
          have := (Oper.apart_spec (earlier r _ hr hy hnl)).1 u hd
          exact absurd hu this)] at h1
      exact h1
    have hinn' : ∀ r, r ≠ p → innL ps (L.setIfInBounds x.i true) r = innL ps L r := by
      intro r hr
      cases hy : ps[r]? with
      | none => simp [innL, hy]
      | some y =>
        rw [innL_some hy, innL_some hy, lst_set hsL, if_neg (fun e => hr (hinj hy hx e))]
    have hinnp : innL ps (L.setIfInBounds x.i true) p = true := by rw [innL_some hx, lst_set hsL, if_pos rfl]
    have tm' : ∀ {ρ' : Rho} {vc : Value}, Rle ρ ρ' → RV ρ' (V p) vc →
        (a.put (O p).dst vc).tmps.size = n ∧ (a.put (O p).dst vc).defers = [] ∧ ∀ u, RV ρ' (cur O V (innL ps (L.setIfInBounds x.i true)) (T 0) u ps.length) ((a.put (O p).dst vc).tmps.getD u undef) := by
      intro ρ' vc hle hv
      obtain ⟨h1, h2, h3, h4⟩ := put_tm (vc := vc) (htr.pt p x hx) I.tsize
      refine ⟨h1, h4.trans I.defers, fun u => ?_⟩
      by_cases hd : (O p).dst = some u
      · rw [h2 u hd]
        have e1 : cur O V (innL ps (L.setIfInBounds x.i true)) (T 0) u (p + 1) = V p := by
          unfold cur
          rw [if_pos ⟨hinnp, hd⟩]
        have e2 := cur_skip (O := O) (V := V) (inn := innL ps (L.setIfInBounds x.i true)) (t0 := T 0) (x := u) (p := p + 1) (ps.length - (p + 1)) (fun r g1 g2 hdr => by
          rw [hinn' r (by omega)]
          have hy : ps[r]? = some ps[r] := List.getElem?_eq_getElem (by omega)
          cases hin : innL ps L r with
          | false => rfl
          | true => exact absurd hdr ((Oper.apart_spec (later r _ (by omega) hy ((inn_at r _ hy).1 hin))).2.1 u hd))
        rw [show p + 1 + (ps.length - (p + 1)) = ps.length by omega] at e2
        rw [e2, e1]
        exact hv
      · rw [h3 u hd, cur_upd_ne hinn' hd]
        exact (I.tm u).mono hle
    have hcnt : cnt ops (L.setIfInBounds x.i true) ≤ fuel := by
      have := cnt_set I.size hs hnot
      omega
    have hsize' : (L.setIfInBounds x.i true).size = ops.size := by simpa using I.size
    have hwant := want_eq (ops := ops) ops_eq
    have hRE := RE_only (C := C) (o := O p) (fun g hg => I.rw_.glob g hg) ops_eq
    have hst := htr.st p x hx
    unfold wpOp
    rw [hop]
    simp only
    rw [hwant]
    by_cases hpq' : p < q
    · -- what only reckons, reads or makes
      have hxe : x.isE = false := by
        cases he : x.isE with
        | false => rfl
        | true => exact absurd (I.before p x hpq' hx he) hnot
      have hop_e : isE (O p).op = false := by rw [← hflag p x hx]; exact hxe
      have goon : ∀ {ρ' : Rho} {vc : Value} {w' : World}, Rle ρ ρ' → RV ρ' (V p) vc → RW C base ρ' (S q) w' → (∀ b, b ≠ (S p).next → ρ' b = ρ b) → ((S (p + 1)).next ≠ (S p).next + 1 → ρ' = ρ) →
          wpAny C.P .any ops Q fuel (L.setIfInBounds x.i true) (a.put (O p).dst vc) w' := by
        intro ρ' vc w' hle hv hw' hne hno
        obtain ⟨g1, g2, g3⟩ := tm' hle hv
        refine ih _ _ _ q ρ' ⟨hsize', hclosed', I.le, fun r y h1 h2 h3 => (hL' _).2 (.inr (I.before r y h1 h2 h3)), I.at_, fun r y h1 h2 h3 => ?_, hw', ?_, g1, g2, g3, I.mono.trans hle, fun b hb => ?_⟩ hcnt
        · rcases (hL' _).1 h3 with e | h
          · have := hinj h2 hx e
            omega
          · exact I.after r y h1 h2 h
        · intro r y h1 h2 h3 h4 h5
          have hrp : r ≠ p := fun e => by
            subst e
            rw [hx] at h2
            cases h2
            exact h4 ((hL' _).2 (.inl rfl))
          have hold := I.hole r y h1 h2 h3 (fun hl => h4 ((hL' _).2 (.inr hl))) h5
          by_cases hal : (S (p + 1)).next = (S p).next + 1
          · rw [hne]
            · exact hold
            · intro e
              rcases Nat.lt_or_gt_of_ne hrp with h | h
              · have := next_mono hcall htr (p := r + 1) (q := p) (by omega) (by omega)
                omega
              · have := next_mono hcall htr (p := p + 1) (q := r) (by omega) (by have := (List.getElem?_eq_some_iff.1 h2).1; omega)
                omega
          · rw [hno hal]; exact hold
        · have h0 := next_mono hcall htr (p := 0) (q := p) (by omega) (by omega)
          by_cases hal : (S (p + 1)).next = (S p).next + 1
          · rw [hne b (by omega)]; exact I.fr b hb
          · rw [hno hal]; exact I.fr b hb
      rcases step_V hop_e hst with ⟨hw0, hv0, hs0⟩ | ⟨hw0, r, hr, hv0, hrd, hsh⟩
      · rw [hw0, if_neg (by simp)]
        refine goon (Rle.refl ρ) (by rw [hv0]; exact RV.undef) I.rw_ (fun _ _ => rfl) (fun _ => rfl)
      · rw [hw0, if_pos rfl]
        left
        have hbB : ∀ b ∈ r.rd, b ∈ B p := fun b hb => by
          rcases hsh with ⟨_, _, e⟩ | ⟨ob, _, _, e⟩
          · rw [e]; exact hb
          · rw [e]; exact List.mem_cons_of_mem _ hb
        have hnx : (S p).next ≤ (S (p + 1)).next := next_mono hcall htr (by omega) (by omega)
        have hchain : ∀ b ∈ B p, b < (S (p + 1)).next → (S q).get b = (S (p + 1)).get b := fun b hb hl => by
          have := chain hcall htr hflag hx hxe hb hl (q - (p + 1)) (by have := I.le; omega) (fun r' y h1 h2 hy hye => pending r' y h1 (by omega) hy hye)
          rwa [show p + 1 + (q - (p + 1)) = q by omega] at this
        have hrds : ∀ b ∈ r.rd, (S q).get b = (S p).get b := fun b hb => by
          have h1 := hrd b hb
          rw [hchain b (hbB b hb) (by omega)]
          exact (step_kept hcall hst).2 hop_e b h1
        have hvop : vop C (S p).next (only (O p) (evalO C (T p))) (S q) (O p) = some r := by
          rw [vop_only]
          exact vop_stable hr hrds
        have hsound := vop_sound hvop hRE I.rw_ (fun ob hob => by
          rcases hsh with ⟨h1, _, _⟩ | ⟨ob', h1, h2, h3⟩
          · rw [h1] at hob; cases hob
          · rw [h1] at hob
            cases hob
            have hn1 : (S (p + 1)).next = (S p).next + 1 := by rw [h2]; rfl
            refine ⟨I.hole p x hpq' hx hxe hnot hn1, ?_, ?_⟩
            · have := next_mono hcall htr (p := p + 1) (q := q) (by omega) I.le
              omega
            · rw [hchain _ (by rw [h3]; simp) (by omega), h2]
              exact AW.get_push_or)
        obtain ⟨vc, w', ρ', hrun, hle, hrv, hrw, hne, hno⟩ := hsound
        unfold Oper.wp
        rw [hrun]
        refine goon hle (by rw [hv0]; exact hrv) hrw hne (fun hal => hno ?_)
        rcases hsh with ⟨h1, _, _⟩ | ⟨ob', h1, h2, h3⟩
        · exact h1
        · exact absurd (by rw [h2]; rfl) hal
    · -- what has an effect
      have hpe : p = q := by omega
      subst hpe
      have hxe : x.isE = true := by
        rcases I.at_ with h | ⟨z, hz, hze⟩
        · omega
        · rw [hx] at hz; cases hz; exact hze
      have hop_e : isE (O p).op = true := by rw [← hflag p x hx]; exact hxe
      have goon : ∀ {ρ' : Rho} {vc : Value} {w' : World}, Rle ρ ρ' → RV ρ' (V p) vc → RW C base ρ' (S (p + 1)) w' → (∀ b, b < (S p).next → ρ' b = ρ b) →
          wpAny C.P .any ops Q fuel (L.setIfInBounds x.i true) (a.put (O p).dst vc) w' := by
        intro ρ' vc w' hle hv hw' hfr
        obtain ⟨g1, g2, g3⟩ := tm' hle hv
        obtain ⟨q', k1, k2, k3, k4, k5⟩ := advance hcall htr hflag (ps.length - (p + 1)) (p + 1) (by omega) hw'
        refine ih _ _ _ q' ρ' ⟨hsize', hclosed', k2, fun r y h1 h2 h3 => ?_, k4, fun r y h1 h2 h3 => ?_, k5, ?_, g1, g2, g3, I.mono.trans hle, fun b hb => ?_⟩ hcnt
        · rcases Nat.lt_trichotomy r p with h | h | h
          · exact (hL' _).2 (.inr (I.before r y h h2 h3))
          · subst h
            rw [hx] at h2
            cases h2
            exact (hL' _).2 (.inl rfl)
          · rw [k3 r y (by omega) h1 h2] at h3; cases h3
        · rcases (hL' _).1 h3 with e | h
          · have := hinj h2 hx e
            omega
          · exact I.after r y (by omega) h2 h
        · intro r y h1 h2 h3 h4 h5
          have hrp : r ≠ p := fun e => by
            subst e
            rw [hx] at h2
            cases h2
            rw [hxe] at h3; cases h3
          rcases Nat.lt_or_gt_of_ne hrp with h | h
          · have hlt2 := next_mono hcall htr (p := r + 1) (q := p) (by omega) (by omega)
            rw [hfr _ (by omega)]
            exact I.hole r y h h2 h3 (fun hl => h4 ((hL' _).2 (.inr hl))) h5
          · exact hw'.fresh _ (next_mono hcall htr (p := p + 1) (q := r) (by omega) (by have := (List.getElem?_eq_some_iff.1 h2).1; omega))
        · have h0 := next_mono hcall htr (p := 0) (q := p) (by omega) (by omega)
          rw [hfr b (by omega)]
          exact I.fr b hb
      rcases step_E hop_e hst with ⟨hw0, hv0, hs0⟩ | ⟨hw0, he⟩
      · rw [hw0, if_neg (by simp)]
        refine goon (Rle.refl ρ) (by rw [hv0]; exact RV.undef) (by rw [hs0]; exact I.rw_) (fun _ _ => rfl)
      · rw [hw0, if_pos rfl]
        left
        rw [← eop_only] at he
        exact (eop_ok hcall he).2 hRE I.rw_ Q _ (fun vc w' ρ' h1 h2 h3 h4 => goon h1 h2 h3 h4)
theorem any_ok (hm : C.P.follows .mixedOrders = true) (hcall : CallOk C call) (hok : regionOk ops ps = true) (hn : n ≤ 10000) {t t' : Tm} {s s' : AW} (h : anyOps C call prot n ops ps [] t s = some (t', s')) {id : Nat} {Q : Exit → Act → World → Prop}
    (hT : RT ρ n t a) (hw : RW C base ρ s w) (hQ : ∀ a' w' ρ', Rle ρ ρ' → RT ρ' n t' a' → RW C base ρ' s' w' → (∀ b, b < s.next → ρ' b = ρ b) → Q .normal a' w') : (Code.region id ops true).wp C.P Q a w := by
  obtain ⟨T, S, O, V, B, H, htr, hT0, hS0, hH0, hTe, hSe⟩ := trc_of ps [] t s t' s' h
  refine wp_region_any hm ?_
  have hok' := hok
  simp only [regionOk, Bool.and_eq_true] at hok'
  have hflag : ∀ p x, ps[p]? = some x → x.isE = isE (O p).op := fun p x hx => by
    obtain ⟨o, ho, h2, _⟩ := topo_at hok'.1.1.2 hx
    have := htr.op p x hx
    rw [ho] at this
    cases this
    exact h2
  have hw0 : RW C base ρ (S 0) { w with drawn := w.drawn + 1 } := by rw [hS0]; exact hw.drew _
  obtain ⟨q, k1, k2, k3, k4, k5⟩ := advance hcall htr hflag ps.length 0 (by omega) hw0
  have hl : ∀ j, ¬ Lst (Array.replicate ops.size false) j := fun j hj => by
    unfold Lst at hj
    simp only [Array.getD_eq_getD_getElem?, Array.getElem?_replicate] at hj
    split at hj <;> simp at hj
  refine any_main hcall htr hok hn (ρ0 := ρ) (base := base) (fun a' w' ρ' h1 h2 h3 h4 => hQ a' w' ρ' h1 (by rw [← hTe]; exact h2) (by rw [← hSe]; exact h3) (by rw [← hS0]; exact h4)) ops.size _ _ _ q ρ
    ⟨by simp, fun i o hi => absurd hi (hl i), k2, (fun p x h1 h2 h3 => by rw [k3 p x (by omega) h1 h2] at h3; cases h3), k4, fun p x _ _ => hl _, k5, fun p x h1 h2 h3 _ _ => ?_, hT.1, hT.2.1, fun x => ?_, Rle.refl _, fun _ _ => rfl⟩ ?_
  · exact hw0.fresh _ (next_mono hcall htr (by omega) (by omega))
  · have := cur_skip (O := O) (V := V) (inn := innL ps (Array.replicate ops.size false)) (t0 := T 0) (x := x) (p := 0) ps.length (fun r _ _ _ => by
      cases hy : ps[r]? with
      | none => simp [innL, hy]
      | some y =>
        rw [innL_some hy]
        have := hl y.i
        unfold Lst at this
        simpa using this)
    rw [Nat.zero_add] at this
    rw [this, hT0]
    exact hT.2.2 x
  · unfold cnt
    exact Nat.le_trans List.countP_le_length (by simp)
end
end Ev
end Go.Proofs.YtgflhpfeghplpaaGreatDoor
