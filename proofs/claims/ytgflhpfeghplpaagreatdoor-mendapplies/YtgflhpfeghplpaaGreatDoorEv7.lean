/- What only reckons, reads, or makes a block: operation by operation. -/
import Derived.Test.YtgflhpfeghplpaaGreatDoorEv6
import Derived.IntWalk
set_option maxRecDepth 100000
namespace Go.Proofs.YtgflhpfeghplpaaGreatDoor
open Go.RowKit
namespace Ev
section
variable {C : Cfg} {base : World} {ρ ρ' : Rho} {s s' : AW} {w w' : World} {ev : Operand → Option Value} {evc : Operand → Value} {o : Oper} {nb : Nat} {r : VR} {P : Program}
def VOk (C : Cfg) (base : World) (ρ : Rho) (s : AW) (nb : Nat) (al : Option AO) (v : Value) (res : Result Next) : Prop :=
  ∃ vc w' ρ', res = .ok (.value vc) w' ∧ Rle ρ ρ' ∧ RV ρ' v vc ∧ RW C base ρ' s w' ∧ (∀ b, b ≠ nb → ρ' b = ρ b) ∧ (al = none → ρ' = ρ)
theorem vok_pure {v vc : Value} {al : Option AO} {res : Result Next} (hw : RW C base ρ s w) (h : res = .ok (.value vc) w) (hr : RV ρ v vc) : VOk C base ρ s nb al v res :=
  ⟨vc, w, ρ, h, Rle.refl ρ, hr, hw, fun _ _ => rfl, fun _ => rfl⟩
theorem RO.new {cs : List Value} {arr : Array Value} {e : TypeId} {x : Bool} (h : RL ρ cs arr.toList) : RO P ρ (some (.cells cs e x)) { w with heap := w.heap.push (.cells arr e) } w.heap.size 0 0 := by
  refine ⟨arr, by simp, by have := h.1; simp at this; simp; omega, fun _ => rfl, fun i v hv => ?_⟩
  obtain ⟨u, hu, hr⟩ := h.get hv
  exact ⟨u, by simpa using hu, .inr hr⟩
theorem vok_alloc {v vc : Value} {al : Option AO} {ob : AO} (ha : al = some ob) {res : Result Next} {o : Obj} (hw : RW C base ρ s w) (hb : nb < s.next) (hn : ρ nb = none) (ho : RO C.P ρ (s.get nb) { w with heap := w.heap.push o } w.heap.size 0 0)
    (h : res = .ok (.value vc) { w with heap := w.heap.push o }) (hr : ∀ ρ', ρ' nb = some (w.heap.size, 0, 0) → Rle ρ ρ' → RV ρ' v vc) : VOk C base ρ s nb al v res :=
  ⟨vc, _, ext ρ nb (w.heap.size, 0, 0), h, Rle.ext hn, hr _ ext_self (Rle.ext hn), hw.alloc hb hn ho, fun _ hb => ext_ne hb, fun e => by rw [ha] at e; cases e⟩
theorem RL.set {xs ys : List Value} {v u : Value} (h : RL ρ xs ys) (hv : RV ρ v u) (i : Nat) : RL ρ (xs.set i v) (ys.set i u) := ⟨by simp [h.1], fun j x y hx hy => by
  rw [List.getElem?_set] at hx hy
  have := h.1
  split at hx
  · rename_i e
    rw [if_pos e] at hy
    split at hx
    · rw [if_pos (by omega)] at hy
      cases hx; cases hy; exact hv
    · cases hx
  · rename_i e
    rw [if_neg e] at hy
    exact h.2 j x y hx hy⟩
theorem fold_ok (off : Nat) : ∀ (vs us : List Value) (k : Nat) (a c : Array Value), RL ρ vs us → RL ρ a.toList c.toList →
    RL ρ ((vs.zipIdx k).foldl (fun cs (p : Value × Nat) => cs.setIfInBounds (off + p.2) p.1) a).toList ((us.zipIdx k).foldl (fun cs (p : Value × Nat) => cs.setIfInBounds (off + p.2) p.1) c).toList
  | [], us, k, a, c, h, hr => by rw [h.of_nil]; exact hr
  | v :: vs, us, k, a, c, h, hr => by
    obtain ⟨u, us', rfl, hu, hus⟩ := h.uncons
    simp only [List.zipIdx_cons, List.foldl_cons]
    exact fold_ok off vs us' (k + 1) _ _ hus (by simpa using hr.set hu (off + k))
theorem fill_ok {pl : Nat → Option (Nat × Nat)} : ∀ (ps qs : List (Nat × Value)) (a c ra : Array Value), RP ρ ps qs → RL ρ a.toList c.toList → Instr.fill pl a ps = some ra →
    ∃ rc, Instr.fill pl c qs = some rc ∧ RL ρ ra.toList rc.toList
  | [], qs, a, c, ra, hp, hr, h => by
    cases qs with
    | nil => simp only [Instr.fill, Option.some.injEq] at h; subst h; exact ⟨c, rfl, hr⟩
    | cons q qs => exact hp.elim
  | (i, v) :: ps, qs, a, c, ra, hp, hr, h => by
    cases qs with
    | nil => exact hp.elim
    | cons q qs =>
      obtain ⟨j, u⟩ := q
      obtain ⟨rfl, hv, hp⟩ := hp
      have hc := hv.cells
      have h1 : v.cells.size = u.cells.size := by simpa using hc.1
      have h2 : a.size = c.size := by simpa using hr.1
      simp only [Instr.fill] at h ⊢
      cases hpl : pl i with
      | none => rw [hpl] at h; cases h
      | some p =>
        obtain ⟨off, n⟩ := p
        rw [hpl] at h
        simp only at h ⊢
        rw [← h1, ← h2]
        split at h
        · cases h
        · rename_i hne
          rw [if_neg hne]
          refine fill_ok ps qs _ _ ra hp ?_ h
          have := fold_ok (ρ := ρ) off v.cells.toList u.cells.toList 0 a c hc hr
          rw [← Array.toList_zipIdx, ← Array.toList_zipIdx, Array.foldl_toList, Array.foldl_toList] at this
          exact this
theorem closed_refl {cs : List Value} (h : ∀ x ∈ cs, closed0 x = true) : RL ρ cs cs := RL.refl_of (fun x hx => RV.closed0 (h x hx))
theorem part_ok {t : TypeId} {cs ds : Array Value} {off : Nat} {v : Value} (h : partOf P t cs off = some v) (hr : RL ρ cs.toList ds.toList) : ∃ u, (part t ds off).run P w = .ok u w ∧ RV ρ v u := by
  obtain ⟨b, hb, h⟩ := bind_some h
  unfold part
  obtain ⟨i, hi⟩ := agg_info hb
  cases b with
  | true =>
    simp only [Option.some.injEq] at h
    subst h
    refine ⟨.agg (ds.extract off (off + sz P t)), rb (r_isAgg hb) ?_, ?_⟩
    · simp only [if_true]
      exact rb (r_size hi) rfl
    · have := RV.agg_l ((hr.drop off).take (sz P t))
      have e : ∀ x : Array Value, x.extract off (off + sz P t) = (List.take (sz P t) (List.drop off x.toList)).toArray := fun x => by
        apply Array.toList_inj.1
        simp [List.extract_eq_take_drop]
      rw [e, e]; exact this
  | false =>
    simp only at h
    have hx : cs.toList[off]? = some v := by simpa using h
    obtain ⟨u, hu, hr⟩ := hr.get hx
    refine ⟨u, rb (r_isAgg hb) ?_, hr⟩
    simp only [Bool.false_eq_true, if_false]
    rw [show ds[off]? = some u by simpa using hu]
    rfl
theorem natOf_inv {v : Value} {n : Nat} (h : natOf v = some n) : ∃ k, v = .int k (n : Int) := by
  unfold natOf at h
  split at h
  · cases h; exact ⟨_, rfl⟩
  · cases h
theorem RV.int_inv {k : IntKind} {n : Int} {u : Value} (h : RV ρ (.int k n) u) : u = .int k n := h.scalar_inv rfl
theorem r_bound {k : IntKind} {n y : Nat} {code : BoundsCode} (h : n ≤ y) : (Instr.sliceBound (.int k (n : Int)) y code).run P w = .ok n w := by
  unfold Instr.sliceBound
  refine rb (a := (k, (n : Int))) (w1 := w) rfl ?_
  simp only
  rw [if_pos (by omega)]
  rfl
def isNat (v : Option Value) (n d : Nat) : Prop := (v = none ∧ n = d) ∨ ∃ k, v = some (.int k (n : Int))
theorem r_bounds {len cap l h : Nat} {lo hi : Option Value} (hl : isNat lo l 0) (hh : isNat hi h len) (h1 : l ≤ h) (h2 : h ≤ cap) :
    (Instr.sliceBounds true len cap lo hi none).run P w = .ok (l, h, cap) w := by
  unfold Instr.sliceBounds
  rcases hh with ⟨rfl, rfl⟩ | ⟨k, rfl⟩ <;> rcases hl with ⟨rfl, rfl⟩ | ⟨k', rfl⟩
  · exact rb (a := cap) (w1 := w) rfl (rb (a := h) (w1 := w) rfl (rb (a := 0) (w1 := w) rfl rfl))
  · exact rb (a := cap) (w1 := w) rfl (rb (a := h) (w1 := w) rfl (rb (a := l) (w1 := w) (r_bound h1) rfl))
  · exact rb (a := cap) (w1 := w) rfl (rb (a := h) (w1 := w) (r_bound h2) (rb (a := 0) (w1 := w) rfl rfl))
  · exact rb (a := cap) (w1 := w) rfl (rb (a := h) (w1 := w) (r_bound h2) (rb (a := l) (w1 := w) (r_bound h1) rfl))
theorem r_bounds3 {len cap l m : Nat} {lo : Option Value} {hi mx : Value} (hl : isNat lo l 0) (hh : ∃ k, hi = .int k (m : Int)) (hm : ∃ k, mx = .int k (m : Int)) (h1 : l ≤ m) (h2 : m ≤ cap) :
    (Instr.sliceBounds true len cap lo (some hi) (some mx)).run P w = .ok (l, m, m) w := by
  obtain ⟨k1, rfl⟩ := hh
  obtain ⟨k2, rfl⟩ := hm
  unfold Instr.sliceBounds
  rcases hl with ⟨rfl, rfl⟩ | ⟨k', rfl⟩
  · exact rb (a := m) (w1 := w) (r_bound h2) (rb (a := m) (w1 := w) (r_bound (Nat.le_refl _)) (rb (a := 0) (w1 := w) rfl rfl))
  · exact rb (a := m) (w1 := w) (r_bound h2) (rb (a := m) (w1 := w) (r_bound (Nat.le_refl _)) (rb (a := l) (w1 := w) (r_bound h1) rfl))
theorem opt_nat {x y : Option Value} {d l : Nat} (h : (x = none ∧ y = none) ∨ ∃ a b, x = some a ∧ y = some b ∧ RV ρ a b) (e : natD x d = some l) : isNat y l d := by
  unfold natD at e
  rcases h with ⟨rfl, rfl⟩ | ⟨a, b, rfl, rfl, hr⟩
  · simp only [Option.some.injEq] at e; exact .inl ⟨rfl, e.symm⟩
  · obtain ⟨k, rfl⟩ := natOf_inv e
    exact .inr ⟨k, by rw [hr.int_inv]⟩
theorem sliceV_ok {t : TypeId} {x x' v : Value} {lo hi mx lo' hi' mx' : Option Value} (hx : RV ρ x x')
    (hlo : (lo = none ∧ lo' = none) ∨ ∃ a b, lo = some a ∧ lo' = some b ∧ RV ρ a b) (hhi : (hi = none ∧ hi' = none) ∨ ∃ a b, hi = some a ∧ hi' = some b ∧ RV ρ a b)
    (hmx : (mx = none ∧ mx' = none) ∨ ∃ a b, mx = some a ∧ mx' = some b ∧ RV ρ a b) (h : sliceV P t x lo hi mx = some v) :
    ∃ u, (Instr.sliceAt t x' lo' hi' mx').run P w = .ok u w ∧ RV ρ v u := by
  unfold sliceV at h
  split at h
  · rename_i e a n ca hu
    obtain ⟨hh, h1, g1⟩ := bind_some h
    obtain ⟨l, h2, g2⟩ := bind_some g1
    clear h g1
    have hl := opt_nat hlo h2
    have hhN := opt_nat hhi h1
    have shape : ∃ a' cc, x' = .slice a' n cc ∧ ca ≤ cc := by
      cases hx with
      | scalar hh => cases hh
      | snil => exact ⟨_, _, rfl, Nat.le_refl _⟩
      | sl _ => exact ⟨_, _, rfl, by omega⟩
      | sl0 => exact ⟨_, _, rfl, Nat.le_refl _⟩
      | slE _ => exact ⟨_, _, rfl, Nat.le_refl _⟩
    obtain ⟨a', cc, rfl, hcc⟩ := shape
    have run0 : ∀ (l h m : Nat) (hz : 0 < sz P e), (Instr.sliceBounds true n cc lo' hi' mx').run P w = .ok (l, h, m) w →
        (Instr.sliceAt t (.slice a' n cc) lo' hi' mx').run P w = .ok (.slice (if m = l then a' else a'.map (·.add (l * sz P e))) (h - l) (m - l)) w := by
      intro l h m hz hb
      unfold Instr.sliceAt
      refine rb (r_under hu) ?_
      simp only
      unfold Instr.slice
      refine rb (r_under hu) ?_
      simp only
      refine rb hb ?_
      exact rb (r_size' hz) rfl
    rcases hmx with ⟨rfl, rfl⟩ | ⟨am, bm, rfl, rfl, hrm⟩
    · simp only at g2
      obtain ⟨hc, g3⟩ := cond_some g2
      clear g2
      simp only [Bool.and_eq_true] at hc
      obtain ⟨⟨c1, c2⟩, c3⟩ := hc
      have c1 := Nat.le_of_ble_eq_true c1
      have c2 := Nat.le_of_ble_eq_true c2
      have c3 : 0 < sz P e := by simpa [Nat.blt_eq] using c3
      have hrun := run0 l hh cc c3 (r_bounds (P := P) (w := w) (cap := cc) hl hhN c1 (by omega))
      refine ⟨_, hrun, ?_⟩
      cases hx with
      | scalar hh => cases hh
      | snil =>
        simp only [Option.some.injEq] at g3; subst g3
        split <;> exact .snil
      | @sl b o c d L _ _ hb =>
        simp only [Option.some.injEq] at g3; subst g3
        split
        · rename_i e1
          have e2 : L = 0 := by omega
          subst e2
          rw [show hh - l = 0 by omega, show ca - l = 0 by omega, show ca + 0 - l = 0 by omega]
          exact .slE hb
        · simp only [Option.map_some, add_none]
          rw [show ca + L - l = (ca - l) + L by omega, Nat.add_assoc]
          exact .sl hb
      | sl0 =>
        simp only [Option.some.injEq] at g3; subst g3
        rw [if_pos (by omega), show hh - l = 0 by omega, show 0 - l = 0 by omega]
        exact .sl0
      | slE hb =>
        simp only [Option.some.injEq] at g3; subst g3
        rw [if_pos (by omega), show hh - l = 0 by omega, show 0 - l = 0 by omega]
        exact .slE hb
    · simp only at g2
      obtain ⟨m, h3, g3⟩ := bind_some g2
      clear g2
      obtain ⟨hc, g4⟩ := cond_some g3
      clear g3
      simp only [Bool.and_eq_true] at hc
      obtain ⟨⟨⟨⟨c0, c1⟩, c2⟩, c3⟩, c4⟩ := hc
      have c1 := Nat.eq_of_beq_eq_true c1
      have c2 := Nat.eq_of_beq_eq_true c2
      have c3 := Nat.le_of_ble_eq_true c3
      have c4 : 0 < sz P e := by simpa [Nat.blt_eq] using c4
      obtain ⟨k, rfl⟩ := natOf_inv h3
      have hbm := hrm.int_inv
      subst hbm
      rcases hhN with ⟨hn, _⟩ | ⟨k2, hk2⟩
      · rcases hhi with ⟨rfl, rfl⟩ | ⟨a, b, rfl, rfl, _⟩
        · cases c0
        · cases hn
      · have hrun := run0 l m m c4 (by rw [hk2]; exact r_bounds3 (P := P) (w := w) (cap := cc) hl ⟨k2, by rw [c2]⟩ ⟨k, rfl⟩ (by omega) (by omega))
        refine ⟨_, hrun, ?_⟩
        rw [if_pos (by omega), show m - l = 0 by omega]
        cases hx with
        | scalar hh => cases hh
        | snil => simp only [Option.some.injEq] at g4; subst g4; exact .snil
        | sl _ => simp only [Option.some.injEq] at g4; subst g4; exact .sl0
        | sl0 => simp only [Option.some.injEq] at g4; subst g4; exact .sl0
        | slE _ => simp only [Option.some.injEq] at g4; subst g4; exact .sl0
  · cases h
/-! ### Maps -/
theorem prun_bind {α β : Type} (x : Sem α) (f : α → Sem β) : prun P (x >>= f) = (prun P x).bind (fun a => prun P (f a)) := by
  show prun P (x.bind f) = _
  induction x with
  | pure a => rfl
  | program k ih => exact ih P
  | mark _ k ih => exact ih
  | _ => rfl
theorem prun_pure {α : Type} (a : α) : prun P (Pure.pure a : Sem α) = some a := rfl
theorem RMap.keys {es : List (Value × Value)} {cs : List MapEntry} (h : RMap ρ es cs) {e : Value × Value} {c : MapEntry} {i : Nat} (he : es[i]? = some e) (hc : cs[i]? = some c) : c.key = e.1 ∧ RV ρ e.2 c.val := h.2 i e c he hc
theorem RMap.uncons {es : List (Value × Value)} {cs : List MapEntry} {e : Value × Value} (h : RMap ρ (e :: es) cs) : ∃ c cs', cs = c :: cs' ∧ c.key = e.1 ∧ RV ρ e.2 c.val ∧ RMap ρ es cs' := by
  cases cs with
  | nil => have := h.1; simp at this
  | cons c cs => exact ⟨c, cs, rfl, (h.2 0 e c rfl rfl).1, (h.2 0 e c rfl rfl).2, by have := h.1; simpa using this, fun i x y hx hy => h.2 (i + 1) x y hx hy⟩
def RF (ρ : Rho) : Option (Nat × Value) → Option (Nat × Value) → Prop
  | none, none => True
  | some (i, v), some (j, u) => i = j ∧ RV ρ v u
  | _, _ => False
theorem findNow_ok {kind : TypeDesc} {k : Value} : ∀ (es : List (Value × Value)) (cs : List MapEntry) (i : Nat), RMap ρ es cs →
    (Instr.findNow kind k (toME es) i = none ∧ Instr.findNow kind k cs i = none) ∨ ∃ r r', Instr.findNow kind k (toME es) i = some r ∧ Instr.findNow kind k cs i = some r' ∧ RF ρ r r'
  | [], cs, i, h => by
    have : cs = [] := List.length_eq_zero_iff.1 (by have := h.1; simpa using this.symm)
    subst this
    exact .inr ⟨none, none, rfl, rfl, trivial⟩
  | e :: es, cs, i, h => by
    obtain ⟨c, cs', rfl, hk, hv, hr⟩ := h.uncons
    simp only [toME, List.map_cons, Instr.findNow]
    rw [hk]
    cases hs : Instr.sameNow kind k e.1 with
    | none => exact .inl ⟨rfl, rfl⟩
    | some b =>
      cases b with
      | true => exact .inr ⟨_, _, rfl, rfl, rfl, hv⟩
      | false => exact findNow_ok es cs' (i + 1) hr
theorem findAsking_ok {t : TypeId} {k : Value} : ∀ (es : List (Value × Value)) (cs : List MapEntry) (i : Nat) (r : Option (Nat × Value)), RMap ρ es cs → prun P (Instr.findAsking t k (toME es) i) = some r →
    ∃ r', prun P (Instr.findAsking t k cs i) = some r' ∧ RF ρ r r'
  | [], cs, i, r, h, hp => by
    have : cs = [] := List.length_eq_zero_iff.1 (by have := h.1; simpa using this.symm)
    subst this
    simp only [toME, List.map_nil, Instr.findAsking, prun_pure, Option.some.injEq] at hp
    subst hp
    exact ⟨none, rfl, trivial⟩
  | e :: es, cs, i, r, h, hp => by
    obtain ⟨c, cs', rfl, hk, hv, hr⟩ := h.uncons
    simp only [toME, List.map_cons, Instr.findAsking, prun_bind, Option.bind_eq_some_iff] at hp ⊢
    obtain ⟨b, hb, hp⟩ := hp
    cases b with
    | true =>
      simp only [if_true, prun_pure, Option.some.injEq] at hp
      subst hp
      exact ⟨some (i, c.val), ⟨true, by rw [hk]; exact hb, by simp [prun_pure]⟩, rfl, hv⟩
    | false =>
      simp only [Bool.false_eq_true, if_false] at hp
      obtain ⟨r', h1, h2⟩ := findAsking_ok es cs' (i + 1) r hr hp
      exact ⟨r', ⟨false, by rw [hk]; exact hb, by simpa using h1⟩, h2⟩
theorem findKey_ok {t : TypeId} {k : Value} {es : List (Value × Value)} {cs : List MapEntry} {r : Option (Nat × Value)} (h : RMap ρ es cs) (hp : prun P (Instr.findKey t k (toME es)) = some r) :
    ∃ r', prun P (Instr.findKey t k cs) = some r' ∧ RF ρ r r' := by
  unfold Instr.findKey at *
  rw [prun_bind] at hp
  obtain ⟨d, hd, hp⟩ := Option.bind_eq_some_iff.1 hp
  rcases findNow_ok (kind := d) (k := k) es cs 0 h with ⟨h1, h2⟩ | ⟨q, q', h1, h2, h3⟩
  · rw [h1] at hp
    obtain ⟨r', h4, h5⟩ := findAsking_ok es cs 0 r h hp
    refine ⟨r', ?_, h5⟩
    rw [prun_bind, hd]
    simp only [Option.bind_some, h2]
    exact h4
  · rw [h1] at hp
    simp only [prun_pure, Option.some.injEq] at hp
    subst hp
    refine ⟨q', ?_, h3⟩
    rw [prun_bind, hd]
    simp only [Option.bind_some, h2]
    rfl
theorem r_getObj {r : Nat} {es : Array MapEntry} {clk : Nat} (h : w.heap[r]? = some (.map es clk)) : (getObj r).run P w = .ok (.map es clk) w := by
  simp only [getObj, Sem.run, h]
theorem findV_ok {t : TypeId} {k : Value} {em : Bool} {es : List (Value × Value)} {cs : List MapEntry} {r : Option (Nat × Value)} (h : RMap ρ es cs) (hp : findV P t k em es = some r) :
    flat k = true ∧ (Instr.checkKey em 10000 t k).run P w = .ok () w ∧ ∃ r', (Instr.findKey t k cs).run P w = .ok r' w ∧ RF ρ r r' := by
  unfold findV at hp
  obtain ⟨h1, hp⟩ := cond_some hp
  obtain ⟨u, h2, hp⟩ := bind_some hp
  obtain ⟨r', h3, h4⟩ := findKey_ok h hp
  exact ⟨h1, prun_run h2 w, r', prun_run h3 w, h4⟩
end
end Ev
end Go.Proofs.YtgflhpfeghplpaaGreatDoor
