/- What only reckons, reads, or makes a block: all such operations. -/
import Derived.Test.YtgflhpfeghplpaaGreatDoorEv7
set_option maxRecDepth 100000
namespace Go.Proofs.YtgflhpfeghplpaaGreatDoor
open Go.RowKit
namespace Ev
section
variable {C : Cfg} {base : World} {ρ ρ' : Rho} {s s' : AW} {w w' : World} {ev : Operand → Option Value} {evc : Operand → Value} {o : Oper} {nb : Nat} {r : VR} {P : Program}
theorem loadV_ok (hw : RW C base ρ s w) {t : TypeId} {b o c d l : Nat} {v : Value} (hb : ρ b = some (c, d, l)) (h : loadV C.P s t b o = some v) :
    ∃ vc, (loadVar t ⟨c, d + o, none⟩).run C.P w = .ok vc w ∧ RV ρ v vc := by
  unfold loadV at h
  split at h
  · rename_i ht
    obtain ⟨cs, hc, rfl⟩ := Option.map_eq_some_iff.1 h
    obtain ⟨vc, h1, h2, _⟩ := hw.load hb ht (by simpa using hc)
    exact ⟨vc, h1, h2 rfl⟩
  · rename_i ht
    split at h
    · rename_i x hc
      cases h
      obtain ⟨vc, h1, _, h3⟩ := hw.load hb ht (by simpa using hc)
      exact ⟨vc, h1, h3 rfl _ rfl⟩
    · cases h
  · cases h
theorem loadV_stable {t : TypeId} {b o : Nat} {v : Value} (h : loadV P s t b o = some v) (hs : s'.get b = s.get b) : loadV P s' t b o = some v := by
  unfold loadV cellsAt at *
  rw [hs]
  exact h
theorem vop_stable (h : vop C nb ev s o = some r) (hs : ∀ b ∈ r.rd, s'.get b = s.get b) : vop C nb ev s' o = some r := by
  obtain ⟨dst, op, ty, pos, after, guard⟩ := o
  unfold vop at h ⊢
  cases op <;> first | exact h | skip
  case load t a =>
    simp only at h ⊢
    unfold vLoad at h ⊢
    obtain ⟨v, hv, h⟩ := bind_some h
    rw [hv]
    simp only [Option.bind_eq_bind, Option.bind_some]
    split at h
    · rename_i b o
      obtain ⟨u, hu, h⟩ := bind_some h
      cases h
      rw [loadV_stable hu (hs b (by simp))]
      rfl
    · cases h
  case lookup t x ix ok =>
    simp only at h ⊢
    unfold vLookup at h ⊢
    obtain ⟨k, hk, h⟩ := bind_some h
    obtain ⟨m, hm, h⟩ := bind_some h
    rw [hk, hm]
    simp only [Option.bind_eq_bind, Option.bind_some]
    split at h
    · rename_i kt et b hu
      have hrd : s'.get b = s.get b := by
        split at h
        · obtain ⟨z, hz, h⟩ := bind_some h
          obtain ⟨q, hq, h⟩ := bind_some h
          split at h <;> (cases h; exact hs b (by simp))
        · cases h
      rw [hrd]
      exact h
    · cases h
  case call c =>
    simp only at h ⊢
    unfold vCall at h ⊢
    obtain ⟨callee, args, tys⟩ := c
    cases callee with
    | builtin b =>
      simp only at h ⊢
      unfold vBuiltin at h ⊢
      cases b <;> first | exact h | skip
      case cap =>
        simp only at h ⊢
        unfold vCap at h ⊢
        split at h
        · obtain ⟨v, hv, h⟩ := bind_some h
          rw [hv]
          simp only [Option.bind_eq_bind, Option.bind_some]
          split at h
          · rename_i b o n ca hu
            have hrd : s'.get b = s.get b := by
              split at h <;> (cases h; exact hs b (by simp))
            rw [hrd]
            exact h
          · cases h
        · cases h
    | value f => exact h
    | invoke a b => exact h
theorem small_wrap {n : Int} (h : smallI n = true) : IntKind.i64.wrap n = n := by
  apply IntWalk.i64_in
  unfold smallI at h
  split at h
  · rename_i n
    have := Nat.le_of_ble_eq_true h
    rw [Int.ofNat_eq_natCast]
    constructor <;> omega
  · have := Nat.le_of_ble_eq_true h
    constructor <;> omega
theorem fast_ok {op : BinOp} {t : TypeId} {x y : Operand} {a b v : Value} (h : fastV op a b = some v) :
    (do eqGuard op t x y a b; binOp op t a b : Sem Value).run P w = .ok v w ∧ scalar v = true ∧ scalar a = true ∧ scalar b = true := by
  unfold fastV at h
  split at h
  · rename_i m n
    refine ⟨?_, ?_, rfl, rfl⟩
    · unfold fastInt at h
      cases op <;> simp only at h <;> (try (cases h; done)) <;> (try (cases h; rfl; done))
      case add =>
        obtain ⟨hs, h⟩ := cond_some h
        cases h
        show (Op.intArith .add .i64 m n).run P w = _
        unfold Op.intArith
        simp only [small_wrap hs]
        rfl
      case sub =>
        obtain ⟨hs, h⟩ := cond_some h
        cases h
        show (Op.intArith .sub .i64 m n).run P w = _
        unfold Op.intArith
        simp only [small_wrap hs]
        rfl
    · unfold fastInt at h
      cases op <;> simp only at h <;> (try (cases h; done)) <;> (try (cases h; rfl; done))
      all_goals
        obtain ⟨hs, h⟩ := cond_some h
        cases h
        rfl
  · cases h
theorem wrap_small {n : Nat} (h : n ≤ 1048576) : IntKind.i64.wrap (n : Int) = n := IntWalk.i64_in _ (by omega)
set_option maxHeartbeats 2000000 in
theorem vop_sound (h : vop C nb ev s o = some r) (hE : RE ρ ev evc) (hw : RW C base ρ s w)
    (hal : ∀ ob, r.al = some ob → ρ nb = none ∧ nb < s.next ∧ (s.get nb = some ob ∨ s.get nb = none)) : VOk C base ρ s nb r.al r.v ((execOp evc o).run C.P w) := by
  have flatC : ∀ {r : VR}, vfl o.op = true → vflat C ev o = some r → VOk C base ρ s nb r.al r.v ((execOp evc o).run C.P w) := fun hv hf => by
    obtain ⟨_, _, h1, h2⟩ := vflat_ok (w := w) hv hE hf
    exact vok_pure hw h2 (RV.of_flat h1)
  have mk : ∀ {ob : AO} {oc : Obj} {v vc : Value} {res : Result Next}, r.al = some ob → RO C.P ρ (some ob) { w with heap := w.heap.push oc } w.heap.size 0 0 →
      res = .ok (.value vc) { w with heap := w.heap.push oc } → (∀ ρ', ρ' nb = some (w.heap.size, 0, 0) → Rle ρ ρ' → RV ρ' v vc) → VOk C base ρ s nb r.al v res := by
    intro ob oc v vc res ha hro hres hv
    obtain ⟨h1, h2, h3⟩ := hal ob ha
    refine vok_alloc ha hw h2 h1 ?_ hres hv
    rcases h3 with h3 | h3
    · rw [h3]; exact hro
    · rw [h3]; trivial
  obtain ⟨dst, op, ty, pos, after, guard⟩ := o
  unfold vop at h
  cases op <;> simp only at h <;> try (cases h; done)
  case move x =>
    unfold vMove at h
    obtain ⟨v, hv, h⟩ := bind_some h
    cases h
    exact vok_pure hw rfl (hE _ _ hv)
  case assign x =>
    unfold vMove at h
    obtain ⟨v, hv, h⟩ := bind_some h
    cases h
    exact vok_pure hw rfl (hE _ _ hv)
  case pick c a b =>
    unfold vPick at h
    obtain ⟨t, ht, h⟩ := bind_some h
    have hc := hE _ _ ht
    split at h
    · obtain ⟨v, hv, h⟩ := bind_some h
      cases h
      refine vok_pure hw ?_ (hE _ _ hv)
      show (do pure (Next.value (if ← asBool (evc c) then evc a else evc b)) : Sem Next).run C.P w = _
      rw [hc.scalar_inv rfl]; rfl
    · obtain ⟨v, hv, h⟩ := bind_some h
      cases h
      refine vok_pure hw ?_ (hE _ _ hv)
      show (do pure (Next.value (if ← asBool (evc c) then evc a else evc b)) : Sem Next).run C.P w = _
      rw [hc.scalar_inv rfl]; rfl
    · cases h
  case alloc e =>
    unfold vAlloc at h
    obtain ⟨z, hz, h⟩ := bind_some h
    cases h
    obtain ⟨z1, z2, z3⟩ := r_zero (w := w) hz
    refine mk (oc := .cells z.cells e) rfl (RO.new (closed_refl z3)) (r_val (m := Instr.alloc e true (.tuple #[])) (v := .pointer (some ⟨w.heap.size, 0, none⟩)) ?_) (fun ρ' h1 _ => RV.ptr (d := 0) h1)
    unfold Instr.alloc
    refine rb z1 ?_
    rfl
  case box e x =>
    unfold vBox at h
    obtain ⟨v, hv, h⟩ := bind_some h
    cases h
    exact mk (oc := .cells (evc x).cells e) rfl (RO.new (hE _ _ hv).cells) (r_val (m := Instr.box e (evc x)) (v := .pointer (some ⟨w.heap.size, 0, none⟩)) rfl) (fun ρ' h1 _ => RV.ptr (d := 0) h1)
  case build t parts =>
    unfold vBuild at h
    obtain ⟨ps, hp, h⟩ := bind_some h
    obtain ⟨z, hz, h⟩ := bind_some h
    obtain ⟨z1, z2, z3⟩ := r_zero (w := w) hz
    split at h
    · rename_i fs hu
      obtain ⟨hf, h⟩ := cond_some h
      obtain ⟨cs, hc, h⟩ := bind_some h
      cases h
      have hps := evParts_ok hE hp
      obtain ⟨rc, h1, h2⟩ := fill_ok ps _ z.cells z.cells cs hps (closed_refl z3) hc
      have hmap : (fs.mapM (fun f => do pure (f.offset, ← sizeOf f.type) : Field → Sem (Nat × Nat))).run C.P w = .ok (fs.map fun f => (f.offset, sz C.P f.type)) w := by
        rw [Array.mapM_eq_mapM_toList]
        have key : ∀ l : List Field, (∀ f ∈ l, 0 < sz C.P f.type) → (l.mapM (fun f => do pure (f.offset, ← sizeOf f.type) : Field → Sem (Nat × Nat))).run C.P w = .ok (l.map fun f => (f.offset, sz C.P f.type)) w := by
          intro l
          induction l with
          | nil => intro _; rfl
          | cons f l ih =>
            intro hl
            rw [List.mapM_cons]
            refine rb (rb (r_size' (hl f (by simp))) rfl) ?_
            refine rb (ih (fun g hg => hl g (by simp [hg]))) rfl
        have := key fs.toList (fun f hm => by
          have := List.all_eq_true.1 hf f hm
          simpa [Nat.blt_eq] using this)
        rw [Sem.run_map, this]
        refine congrArg (fun x => Result.ok x w) ?_
        apply Array.toList_inj.1
        simp
      refine vok_pure hw (r_val (m := Instr.build t (parts.map fun (i, x) => (i, evc x))) (v := .agg rc) ?_) (by have := RV.agg_l h2; simpa using this)
      unfold Instr.build
      refine rb z1 ?_
      refine rb (r_under hu) ?_
      simp only
      refine rb hmap ?_
      have e1 : (fun (i : Nat) => (fs.map fun (f : Field) => (f.offset, sz C.P f.type))[i]?) = (fun i => (fs[i]?).map fun (f : Field) => (f.offset, sz C.P f.type)) := by
        funext i; simp
      have e2 : (parts.map fun (x : Nat × Operand) => (x.1, evc x.2)).toList = parts.toList.map fun p => (p.1, evc p.2) := by simp
      simp only [e1, e2, h1]
      rfl
    · cases h
  case buildSlice t n parts =>
    unfold vBuildSlice at h
    obtain ⟨ps, hp, h⟩ := bind_some h
    split at h
    · rename_i e hu
      obtain ⟨z, hz, h⟩ := bind_some h
      obtain ⟨z1, z2, z3⟩ := r_zero (w := w) hz
      obtain ⟨hk, h⟩ := cond_some h
      simp only [Bool.and_eq_true] at hk
      obtain ⟨⟨k1, k2⟩, k3⟩ := hk
      have k1 := Nat.le_of_ble_eq_true k1
      have k2 : 0 < z.cells.size := by simpa [Nat.blt_eq] using k2
      have k3 : 0 < sz C.P e := by simpa [Nat.blt_eq] using k3
      obtain ⟨cs, hc, h⟩ := bind_some h
      cases h
      have hps := evParts_ok hE hp
      have hrep : RL ρ ((Array.range (n * sz C.P e)).map fun i => z.cells[i % z.cells.size]!).toList ((Array.range (n * sz C.P e)).map fun i => z.cells[i % z.cells.size]!).toList := by
        refine closed_refl (fun x hx => ?_)
        rw [Array.toList_map] at hx
        obtain ⟨i, _, rfl⟩ := List.mem_map.1 hx
        have hi : i % z.cells.size < z.cells.size := Nat.mod_lt _ k2
        rw [getElem!_pos z.cells _ hi]
        exact z3 _ (by simp)
      obtain ⟨rc, h1, h2⟩ := fill_ok ps _ _ _ cs hps hrep hc
      refine mk (oc := .cells rc e) rfl (RO.new h2) (r_val (m := Instr.buildSlice t n (parts.map fun (i, x) => (i, evc x))) (v := .slice (some ⟨w.heap.size, 0, none⟩) n n) ?_) (fun ρ' h1 _ => by have := RV.sl (n := n) (k := n) (o := 0) (d := 0) h1; simpa using this)
      unfold Instr.buildSlice
      refine rb (r_under hu) ?_
      simp only
      refine rb (r_size' k3) ?_
      have e2 : (parts.map fun (x : Nat × Operand) => (x.1, evc x.2)).toList = parts.toList.map fun p => (p.1, evc p.2) := by simp
      have hlt : ¬ n * sz C.P e > 2 ^ 24 := by omega
      rw [if_neg hlt]
      by_cases h0 : n * sz C.P e = 0
      · simp only [if_pos h0, e2]
        refine rb (a := #[]) (w1 := w) rfl ?_
        have e3 : ((Array.range (n * sz C.P e)).map fun x => (#[] : Array Value)[x % (#[] : Array Value).size]!) = ((Array.range (n * sz C.P e)).map fun i => z.cells[i % z.cells.size]!) := by
          rw [h0]; simp
        rw [e3]
        simp only [h1]
        rfl
      · simp only [if_neg h0, e2]
        refine rb z1 ?_
        refine rb (a := z.cells) (w1 := w) rfl ?_
        simp only [h1]
        rfl
    · cases h
  case load t a =>
    unfold vLoad at h
    obtain ⟨v, hv, h⟩ := bind_some h
    split at h
    · rename_i b o
      obtain ⟨u, hu, h⟩ := bind_some h
      cases h
      obtain ⟨c, d, l, hb, e⟩ := (hE _ _ hv).ptr_inv
      obtain ⟨vc, h1, h2⟩ := loadV_ok hw hb hu
      refine vok_pure hw (r_val (m := Instr.loadAt t (evc a)) (v := vc) ?_) h2
      rw [e]
      exact rb (a := ⟨c, d + o, none⟩) (w1 := w) rfl h1
    · cases h
  case nilCheck x =>
    unfold vNil at h
    obtain ⟨v, hv, h⟩ := bind_some h
    have hr := hE _ _ hv
    split at h <;> (try (cases h; done)) <;>
    · cases h
      refine vok_pure (vc := evc x) hw ?_ hr
      simp only [execOp]
      generalize evc x = q at hr
      cases hr <;> first | rfl | (rename_i hh; cases hh; done)
  case binOp op t x y yt =>
    unfold vBin at h
    obtain ⟨a, ha, g1⟩ := bind_some h
    clear h
    obtain ⟨b, hb, h⟩ := bind_some g1
    clear g1
    split at h
    · rename_i v hfv
      cases h
      obtain ⟨f1, f2, f3, f4⟩ := fast_ok (P := C.P) (w := w) (t := t) (x := x) (y := y) hfv
      have e1 := (hE _ _ ha).scalar_inv f3
      have e2 := (hE _ _ hb).scalar_inv f4
      refine vok_pure hw (r_val (m := (do eqGuard op t x y (evc x) (evc y); binOp op t (evc x) (evc y))) (v := v) ?_) (.scalar f2)
      rw [e1, e2]
      exact f1
    split at h
    · rename_i r' hf
      cases h
      exact flatC rfl hf
    · unfold vBin2 at h
      cases op <;> simp only at h <;> try (cases h; done)
      case eql =>
        obtain ⟨d, hd, h⟩ := bind_some h
        obtain ⟨q, hq, h⟩ := bind_some h
        obtain ⟨h1, h2, h3, h4⟩ := nilEq_ok (w := w) hd (hE _ _ ha) (hE _ _ hb) hq
        cases h
        refine vok_pure hw (r_val (m := (do eqGuard .eql t x y (evc x) (evc y); binOp .eql t (evc x) (evc y))) (v := .bool q) ?_) (.scalar rfl)
        refine rb (h2 _ _ _) ?_
        rw [h3]
        exact rb h1 rfl
      case neq =>
        obtain ⟨d, hd, h⟩ := bind_some h
        obtain ⟨q, hq, h⟩ := bind_some h
        obtain ⟨h1, h2, h3, h4⟩ := nilEq_ok (w := w) hd (hE _ _ ha) (hE _ _ hb) hq
        cases h
        refine vok_pure hw (r_val (m := (do eqGuard .neq t x y (evc x) (evc y); binOp .neq t (evc x) (evc y))) (v := .bool !q) ?_) (.scalar rfl)
        refine rb (h2 _ _ _) ?_
        rw [h4]
        exact rb h1 rfl
      case gtr =>
        split at h
        · rename_i n k _
          obtain ⟨hle, h⟩ := cond_some h
          cases h
          have hle := Nat.le_of_ble_eq_true hle
          have e1 : evc x = .int .i64 (n : Int) := (hE _ _ ha).int_inv
          have e2 : ∃ m : Int, evc y = .int .i64 m ∧ (k : Int) ≤ m := by
            have hr := hE _ _ hb
            generalize evc y = q at hr
            cases hr with
            | scalar hh => cases hh
            | lb hh => exact ⟨_, rfl, hh⟩
          obtain ⟨m, e2, hm⟩ := e2
          refine vok_pure hw (r_val (m := (do eqGuard .gtr t x y (evc x) (evc y); binOp .gtr t (evc x) (evc y))) (v := .bool false) ?_) (.scalar rfl)
          rw [e1, e2]
          refine rb (a := ()) (w1 := w) rfl ?_
          show (Op.intCmp .gtr (n : Int) m).run C.P w = _
          unfold Op.intCmp
          have : decide ((n : Int) > m) = false := decide_eq_false (by omega)
          simp [this]
        · cases h
  case unOp => exact flatC rfl h
  case convert => exact flatC rfl h
  case makeInterface t x =>
    unfold vMakeI at h
    obtain ⟨v, hv, h⟩ := bind_some h
    split at h
    · cases h
    · rename_i d hne hu
      cases h
      refine vok_pure hw (r_val (m := Instr.makeInterface t (evc x)) (v := .iface t (evc x)) ?_) (.iface (hE _ _ hv))
      unfold Instr.makeInterface
      refine rb (r_under hu) ?_
      cases d <;> first | rfl | exact absurd rfl (hne _)
    · cases h
  case makeFunc fn first captured =>
    unfold vMakeF at h
    obtain ⟨fs, hf, h⟩ := bind_some h
    obtain ⟨cs, hc, h⟩ := bind_some h
    cases h
    have h1 := evals_ok hE hf
    have h2 := evals_ok hE hc
    refine vok_pure hw (r_val (m := Instr.makeFunc fn (first.map evc) (captured.map evc)) (v := .func fn (first.map evc) (captured.map evc)) rfl) (RV.func ?_ ?_ ?_ ?_)
    · have := h1.1; simpa using this
    · have := h2.1; simpa using this
    · exact fun i x y hx hy => h1.2 i x y (by simpa using hx) (by simpa using hy)
    · exact fun i x y hx hy => h2.2 i x y (by simpa using hx) (by simpa using hy)
  case makeMap t x =>
    unfold vMakeM at h
    split at h
    · cases h
      exact mk (oc := .map #[] 0) rfl ⟨#[], 0, by simp, rfl, fun i e c he => by simp at he⟩ (r_val (m := Instr.makeMap t none) (v := .map (some w.heap.size)) rfl) (fun ρ' h1 _ => RV.map h1)
    · cases h
  case makeSlice t l c =>
    unfold vMakeS at h
    obtain ⟨v1, hv1, h⟩ := bind_some h
    obtain ⟨n, hn, h⟩ := bind_some h
    obtain ⟨v2, hv2, h⟩ := bind_some h
    obtain ⟨k, hk, h⟩ := bind_some h
    split at h
    · rename_i e hu
      obtain ⟨z, hz, h⟩ := bind_some h
      obtain ⟨z1, z2, z3⟩ := r_zero (w := w) hz
      obtain ⟨hc, h⟩ := cond_some h
      cases h
      simp only [Bool.and_eq_true] at hc
      obtain ⟨⟨⟨⟨c1, c2⟩, c3⟩, c4⟩, c5⟩ := hc
      have c1 := Nat.le_of_ble_eq_true c1
      have c2 := Nat.le_of_ble_eq_true c2
      have c3 := Nat.le_of_ble_eq_true c3
      have c4 := Nat.eq_of_beq_eq_true c4
      have c5 : 0 < sz C.P e := by simpa [Nat.blt_eq] using c5
      obtain ⟨i, hi⟩ := sz_pos c5
      have hby : bytesOf C.P e = i.bytes := by simp [bytesOf, hi]
      obtain ⟨k1, e1⟩ := natOf_inv hn
      obtain ⟨k2, e2⟩ := natOf_inv hk
      have f1 : evc l = .int k1 n := by have := hE _ _ hv1; rw [e1] at this; exact this.int_inv
      have f2 : evc c = .int k2 k := by have := hE _ _ hv2; rw [e2] at this; exact this.int_inv
      have hrep : ∀ x ∈ ((Array.range (k * sz C.P e)).map fun i => z.cells[i % z.cells.size]!).toList, closed0 x = true := fun x hx => by
        rw [Array.toList_map] at hx
        obtain ⟨i, _, rfl⟩ := List.mem_map.1 hx
        have hi : i % z.cells.size < z.cells.size := Nat.mod_lt _ (by omega)
        rw [getElem!_pos z.cells _ hi]
        exact z3 _ (by simp)
      refine mk (oc := .cells ((Array.range (k * sz C.P e)).map fun i => z.cells[i % z.cells.size]!) e) rfl (RO.new (closed_refl hrep))
        (r_val (m := Instr.makeSlice t (evc l) (evc c)) (v := .slice (some ⟨w.heap.size, 0, none⟩) n k) ?_) (fun ρ' h1 _ => by have := RV.sl (n := n) (k := k) (o := 0) (d := 0) h1; simpa using this)
      unfold Instr.makeSlice
      refine rb (r_under hu) ?_
      simp only [f1, f2]
      refine rb (a := (n : Int)) (w1 := w) rfl ?_
      refine rb (a := (k : Int)) (w1 := w) rfl ?_
      refine rb (r_info hi) ?_
      simp only [wrap_small (Nat.le_trans c1 c3), wrap_small c3]
      have e48 : (2 : Int) ^ 48 = 281474976710656 := by rfl
      have g0 : ((i.bytes * k : Nat) : Int) ≤ ((1048576 : Nat) : Int) := Int.ofNat_le.2 (by rw [hby] at c2; exact c2)
      rw [Int.natCast_mul] at g0
      have g1 : (decide ((k : Int) < 0) || decide ((i.bytes : Int) * (k : Int) > 2 ^ 48)) = false := by
        rw [Bool.or_eq_false_iff]
        exact ⟨decide_eq_false (by omega), decide_eq_false (by rw [e48]; omega)⟩
      have g3 : ((decide ((k : Int) < 0) || decide ((i.bytes : Int) * (k : Int) > 2 ^ 48)) || decide ((n : Int) < 0) || decide ((n : Int) > (k : Int))) = false := by
        rw [g1, Bool.or_eq_false_iff, Bool.or_eq_false_iff]
        exact ⟨⟨rfl, decide_eq_false (by omega)⟩, decide_eq_false (by omega)⟩
      rw [if_neg (by rw [g3]; simp)]
      rw [Int.toNat_natCast, Int.toNat_natCast]
      refine rb (run_askRoom _ _ _) ?_
      refine rb (r_size' c5) ?_
      by_cases h0 : k * sz C.P e = 0
      · simp only [if_pos h0]
        refine rb (a := #[]) (w1 := w) rfl ?_
        have e3 : ((Array.range (k * sz C.P e)).map fun x => (#[] : Array Value)[x % (#[] : Array Value).size]!) = ((Array.range (k * sz C.P e)).map fun i => z.cells[i % z.cells.size]!) := by
          rw [h0]; simp
        rw [e3]
        rfl
      · simp only [if_neg h0]
        refine rb z1 ?_
        refine rb (a := z.cells) (w1 := w) rfl ?_
        rfl
    · cases h
  case slice t x lo hi mx =>
    unfold vSlice at h
    obtain ⟨v, hv, h⟩ := bind_some h
    split at h
    · exact flatC rfl h
    · obtain ⟨lo', h1, h⟩ := bind_some h
      obtain ⟨hi', h2, h⟩ := bind_some h
      obtain ⟨mx', h3, h⟩ := bind_some h
      obtain ⟨u, h4, h⟩ := bind_some h
      cases h
      obtain ⟨uc, h5, h6⟩ := sliceV_ok (w := w) (hE _ _ hv) (evalO?_ok hE h1) (evalO?_ok hE h2) (evalO?_ok hE h3) h4
      exact vok_pure hw (r_val h5) h6
  case fieldAddr t x f =>
    unfold vFieldAddr at h
    obtain ⟨v, hv, h⟩ := bind_some h
    split at h
    · rename_i b o
      split at h
      · rename_i fs hu
        obtain ⟨fl, hf, h⟩ := bind_some h
        obtain ⟨hz, h⟩ := cond_none h
        cases h
        obtain ⟨c, d, l, hb, e⟩ := (hE _ _ hv).ptr_inv
        have hz : 0 < sz C.P fl.type := Nat.pos_of_ne_zero (Nat.ne_of_beq_eq_false hz)
        refine vok_pure hw (r_val (m := Instr.fieldAt t (evc x) f) (v := .pointer (some ⟨c, d + (o + fl.offset), none⟩)) ?_) (.ptr hb)
        unfold Instr.fieldAt
        refine rb (r_under hu) ?_
        simp only [hf, e]
        refine rb (a := ⟨c, d + o, none⟩) (w1 := w) rfl ?_
        refine rb (a := ⟨c, d + (o + fl.offset), none⟩) (w1 := w) ?_ rfl
        unfold fieldPlace
        refine rb (r_size' hz) ?_
        rw [if_neg (by omega), add_none, Nat.add_assoc]; rfl
      · cases h
    · cases h
  case field t x f =>
    unfold vField at h
    obtain ⟨v, hv, h⟩ := bind_some h
    split at h
    · rename_i cs
      split at h
      · rename_i fs hu
        obtain ⟨fl, hf, h⟩ := bind_some h
        obtain ⟨u, hu', h⟩ := bind_some h
        cases h
        obtain ⟨ds, e, hr⟩ := (hE _ _ hv).agg_inv
        obtain ⟨uc, h1, h2⟩ := part_ok (w := w) hu' hr
        refine vok_pure hw (r_val (m := Instr.field t (evc x) f) (v := uc) ?_) h2
        unfold Instr.field
        refine rb (r_under hu) ?_
        simp only [hf, e]
        exact rb (a := ds) (w1 := w) rfl h1
      · cases h
    · cases h
  case indexAddr t x ix =>
    unfold vIndexAddr at h
    obtain ⟨iv, hiv, h⟩ := bind_some h
    obtain ⟨i, hi, h⟩ := bind_some h
    obtain ⟨v, hv, h⟩ := bind_some h
    obtain ⟨k, e1⟩ := natOf_inv hi
    have f1 : evc ix = .int k i := by have := hE _ _ hiv; rw [e1] at this; exact this.int_inv
    split at h
    · rename_i e b o n ca hu
      obtain ⟨hc, h⟩ := cond_some h
      cases h
      simp only [Bool.and_eq_true] at hc
      have c1 : i < n := by simpa [Nat.blt_eq] using hc.1
      have c2 : 0 < sz C.P e := by simpa [Nat.blt_eq] using hc.2
      have hr := hE _ _ hv
      have e2 : ∃ c d l cc, ρ b = some (c, d, l) ∧ evc x = .slice (some ⟨c, d + o, none⟩) n cc := by
        generalize evc x = q at hr
        cases hr with
        | scalar hh => cases hh
        | sl hb => exact ⟨_, _, _, _, hb, rfl⟩
        | slE hb => omega
      obtain ⟨c, d, l, cc, hb, e2⟩ := e2
      refine vok_pure hw (r_val (m := Instr.indexAt t (evc x) (evc ix)) (v := .pointer (some ⟨c, d + (o + i * sz C.P e), none⟩)) ?_) (.ptr hb)
      unfold Instr.indexAt
      rw [f1, e2]
      refine rb (a := (k, (i : Int))) (w1 := w) rfl ?_
      simp only
      refine rb (r_under hu) ?_
      simp only
      refine rb (a := ((some ⟨c, d + o, none⟩ : Option Addr), n, e)) (w1 := w) rfl ?_
      simp only
      refine rb (r_under hu) ?_
      simp only
      rw [if_pos (by omega)]
      refine rb (r_size' c2) ?_
      rw [Int.toNat_natCast, add_none, Nat.add_assoc]
      rfl
    · rename_i n e b o hu
      obtain ⟨hc, h⟩ := cond_some h
      cases h
      simp only [Bool.and_eq_true] at hc
      have c1 : i < n := by simpa [Nat.blt_eq] using hc.1
      have c2 : 0 < sz C.P e := by simpa [Nat.blt_eq] using hc.2
      obtain ⟨c, d, l, hb, e2⟩ := (hE _ _ hv).ptr_inv
      refine vok_pure hw (r_val (m := Instr.indexAt t (evc x) (evc ix)) (v := .pointer (some ⟨c, d + (o + i * sz C.P e), none⟩)) ?_) (.ptr hb)
      unfold Instr.indexAt
      rw [f1, e2]
      refine rb (a := (k, (i : Int))) (w1 := w) rfl ?_
      simp only
      refine rb (r_under hu) ?_
      simp only
      refine rb (a := (⟨c, d + o, none⟩ : Addr)) (w1 := w) rfl ?_
      refine rb (a := ((some ⟨c, d + o, none⟩ : Option Addr), n, e)) (w1 := w) rfl ?_
      simp only
      refine rb (r_under hu) ?_
      simp only
      rw [if_pos (by omega)]
      refine rb (r_size' c2) ?_
      rw [Int.toNat_natCast, add_none, Nat.add_assoc]
      rfl
    · cases h
  case index t x ix =>
    unfold vIndex at h
    obtain ⟨v, hv, h⟩ := bind_some h
    split at h
    · exact flatC rfl h
    · rename_i cs
      obtain ⟨iv, hiv, h⟩ := bind_some h
      obtain ⟨i, hi, h⟩ := bind_some h
      obtain ⟨k, e1⟩ := natOf_inv hi
      have f1 : evc ix = .int k i := by have := hE _ _ hiv; rw [e1] at this; exact this.int_inv
      split at h
      · rename_i n e hu
        obtain ⟨hc, h⟩ := cond_some h
        simp only [Bool.and_eq_true] at hc
        have c1 : i < n := by simpa [Nat.blt_eq] using hc.1
        have c2 : 0 < sz C.P e := by simpa [Nat.blt_eq] using hc.2
        obtain ⟨u, hu', h⟩ := bind_some h
        cases h
        obtain ⟨ds, e2, hr⟩ := (hE _ _ hv).agg_inv
        obtain ⟨uc, h1, h2⟩ := part_ok (w := w) hu' hr
        refine vok_pure hw (r_val (m := Instr.index t (evc x) (evc ix)) (v := uc) ?_) h2
        unfold Instr.index
        rw [f1, e2]
        refine rb (a := (k, (i : Int))) (w1 := w) rfl ?_
        simp only
        refine rb (r_under hu) ?_
        simp only
        rw [if_pos (by omega)]
        refine rb (r_size' c2) ?_
        rw [Int.toNat_natCast]
        exact h1
      · cases h
    · cases h
  case lookup t x ix ok =>
    unfold vLookup at h
    obtain ⟨k, hk, h⟩ := bind_some h
    obtain ⟨v, hv, h⟩ := bind_some h
    split at h
    · rename_i kt et b hu
      split at h
      · rename_i es hg
        obtain ⟨z, hz, h⟩ := bind_some h
        obtain ⟨z1, z2, z3⟩ := r_zero (w := w) hz
        obtain ⟨q, hq, h⟩ := bind_some h
        have hr := hE _ _ hv
        have e2 : ∃ c d l, ρ b = some (c, d, l) ∧ evc x = .map (some c) := by
          generalize evc x = q at hr
          cases hr with
          | scalar hh => cases hh
          | map hb => exact ⟨_, _, _, hb, rfl⟩
        obtain ⟨c, d, l, hb, e2⟩ := e2
        have ho := hw.obj b c d l hb
        rw [hg] at ho
        obtain ⟨ces, clk, h1, h2⟩ := ho
        have hem : ces.isEmpty = es.isEmpty := by
          have hl : es.length = ces.size := by simpa using h2.1
          rw [Bool.eq_iff_iff, Array.isEmpty_iff_size_eq_zero, List.isEmpty_iff_length_eq_zero]; omega
        obtain ⟨hf, g1, r', g2, g3⟩ := findV_ok (w := w) h2 hq
        have ek : evc ix = k := (hE _ _ hk).flat_inv hf
        rw [← hem] at g1
        have fin : ∀ (res : Value), (match r' with | some (_, u) => (if ok then Value.tuple #[u, .bool true] else u) = res | none => (if ok then Value.tuple #[z, .bool false] else z) = res) →
            (Instr.lookup t (evc x) (evc ix) ok).run C.P w = .ok res w := by
          intro res hres
          unfold Instr.lookup
          refine rb (r_under hu) ?_
          rw [e2, ek]
          refine rb (r_getObj h1) ?_
          refine rb (a := ces) (w1 := w) rfl ?_
          refine rb g1 ?_
          refine rb g2 ?_
          cases r' with
          | none =>
            refine rb z1 ?_
            refine rb (a := (z, false)) (w1 := w) rfl ?_
            simp only at hres
            subst hres
            rfl
          | some p =>
            obtain ⟨i, u⟩ := p
            refine rb (a := (u, true)) (w1 := w) rfl ?_
            simp only at hres
            subst hres
            rfl
        split at h
        · rename_i i vv
          cases h
          cases r' with
          | none => exact g3.elim
          | some p =>
            obtain ⟨j, u⟩ := p
            have hru : RV ρ vv u := g3.2
            refine vok_pure hw (r_val (fin _ rfl)) ?_
            cases ok
            · exact hru
            · exact RV.tuple_l (RL.cons hru (RL.cons (.scalar rfl) RL.nil))
        · cases h
          cases r' with
          | some p => exact g3.elim
          | none =>
            have hz' : RV ρ z z := by
              cases z with
              | agg cs => have := RV.agg_l (closed_refl (ρ := ρ) z3); simpa [Value.cells] using this
              | _ => exact RV.closed0 (z3 _ (by simp [Value.cells]))
            refine vok_pure hw (r_val (fin _ rfl)) ?_
            cases ok
            · exact hz'
            · exact RV.tuple_l (RL.cons hz' (RL.cons (.scalar rfl) RL.nil))
      · cases h
    · cases h
  case extract x i =>
    unfold vExtract at h
    obtain ⟨v, hv, h⟩ := bind_some h
    split at h
    · rename_i vs
      obtain ⟨u, hu, h⟩ := bind_some h
      cases h
      obtain ⟨cs, e, hr⟩ := (hE _ _ hv).tuple_inv
      obtain ⟨uc, h1, h2⟩ := hr.get (show vs.toList[i]? = some u by simpa using hu)
      refine vok_pure hw (r_val (m := Instr.extract (evc x) i) (v := uc) ?_) h2
      rw [e]
      unfold Instr.extract
      simp only [show cs[i]? = some uc by simpa using h1]
      rfl
    · cases h
  case call c =>
    obtain ⟨callee, args, tys⟩ := c
    unfold vCall at h
    cases callee with
    | value f => cases h
    | invoke a b => cases h
    | builtin b =>
      simp only at h
      unfold vBuiltin at h
      cases b <;> simp only at h <;> try (cases h; done)
      case len =>
        unfold vLen at h
        split at h
        · rename_i x t e1 e2
          obtain ⟨v, hv, h⟩ := bind_some h
          split at h
          · rename_i e a n ca hu
            cases h
            have hr := hE _ _ hv
            have e3 : ∃ a' cc, evc x = .slice a' n cc := by
              generalize evc x = q at hr
              cases hr with
              | scalar hh => cases hh
              | snil => exact ⟨_, _, rfl⟩
              | sl _ => exact ⟨_, _, rfl⟩
              | sl0 => exact ⟨_, _, rfl⟩
              | slE _ => exact ⟨_, _, rfl⟩
            obtain ⟨a', cc, e3⟩ := e3
            have ea : args = #[x] := by rw [← Array.toList_inj]; exact e1
            have et : tys = #[t] := by rw [← Array.toList_inj]; exact e2
            subst ea; subst et
            refine vok_pure hw (vc := .int .i64 n) ?_ (.scalar rfl)
            show (do pure (Next.value (← Builtin.len_ #[t] ty (#[x].map evc))) : Sem Next).run C.P w = _
            rw [show #[x].map evc = #[evc x] by simp]
            refine r_val ?_
            rw [e3]
            unfold Builtin.len_
            exact rb (r_under hu) rfl
          · exact flatC rfl h
        · cases h
      case cap =>
        unfold vCap at h
        split at h
        · rename_i x t e1 e2
          obtain ⟨v, hv, h⟩ := bind_some h
          split at h
          · rename_i e b o n ca hu
            have hr := hE _ _ hv
            have e3 : ∃ a' cc, evc x = .slice a' n cc ∧ ca ≤ cc ∧ (∀ cs e, s.get b = some (.cells cs e true) → cc = ca) := by
              generalize evc x = q at hr
              cases hr with
              | scalar hh => cases hh
              | sl hb =>
                refine ⟨_, _, rfl, by omega, fun cs e hg => ?_⟩
                have ho := hw.obj _ _ _ _ hb
                rw [hg] at ho
                obtain ⟨arr, _, _, h3, _⟩ := ho
                rw [h3 rfl]; rfl
              | slE _ => exact ⟨_, _, rfl, by omega, fun _ _ _ => rfl⟩
            obtain ⟨a', cc, e3, hle, hex⟩ := e3
            have ea : args = #[x] := by rw [← Array.toList_inj]; exact e1
            have et : tys = #[t] := by rw [← Array.toList_inj]; exact e2
            subst ea; subst et
            have hrun : (execOp evc { dst := dst, op := .call { callee := .builtin .cap, args := #[x], argTypes := #[t] }, type := ty, pos := pos, after := after, guard := guard }).run C.P w = .ok (.value (.int .i64 (cc : Nat))) w := by
              show (do pure (Next.value (← Builtin.cap_ #[t] ty (#[x].map evc))) : Sem Next).run C.P w = _
              rw [show #[x].map evc = #[evc x] by simp]
              refine r_val ?_
              rw [e3]
              unfold Builtin.cap_
              exact rb (r_under hu) rfl
            split at h
            · rename_i cs e' hg
              cases h
              refine vok_pure hw hrun ?_
              rw [hex cs e' hg]
              exact .scalar rfl
            · cases h
              exact vok_pure hw hrun (.lb (by omega))
          · cases h
        · cases h
      case min => exact flatC rfl h
      case max => exact flatC rfl h
end
end Ev
end Go.Proofs.YtgflhpfeghplpaaGreatDoor
