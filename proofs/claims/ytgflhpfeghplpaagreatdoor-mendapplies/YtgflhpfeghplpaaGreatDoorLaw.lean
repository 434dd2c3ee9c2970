/- The two ways to go through edits agree. -/
import Derived.Test.YtgflhpfeghplpaaGreatDoorRef
set_option maxRecDepth 100000
namespace Go.Proofs.YtgflhpfeghplpaaGreatDoor
/-- What waits for a place that is past stays. -/
theorem refOut_stuck {ws : List Int} : ∀ (k q : Nat) (e : Ed) (r : List Ed) (out : List Int), (e.at_ < q ∨ e.at_ ≥ ((q + k : Nat) : Int)) → ∃ out', refOut ws k q (e :: r) out = some (e :: r, out')
  | 0, _, _, _, out, _ => ⟨out, rfl⟩
  | k + 1, q, e, r, out, h => by
    have hne : ¬ e.at_ = (q : Int) := by rcases h with h | h <;> omega
    have h1 : refIn ws q (e :: r) out = some (e :: r, out, false) := by rw [refIn, if_neg hne]
    rw [refOut, h1]
    exact refOut_stuck k (q + 1) e r _ (by rcases h with h | h; left; omega; right; omega)
def refS (ws : List Int) (k q : Nat) (es : List Ed) (out : List Int) : Option (List Int) := match refOut ws k q es out with
  | some ([], o) => some o
  | _ => none
theorem refS_none {ws : List Int} {k q : Nat} {es : List Ed} {out : List Int} (h : refOut ws k q es out = none) : refS ws k q es out = none := by rw [refS, h]
theorem refS_stuck {ws : List Int} {k q : Nat} {e : Ed} {r : List Ed} {out : List Int} (h : e.at_ < q ∨ e.at_ ≥ ((q + k : Nat) : Int)) : refS ws k q (e :: r) out = none := by
  obtain ⟨o, ho⟩ := refOut_stuck (ws := ws) k q e r out h
  rw [refS, ho]
/-- One place further. -/
theorem refS_next {ws : List Int} {k q : Nat} {es : List Ed} {out : List Int} (h : ∀ e r, es = e :: r → e.at_ ≠ q) : refS ws (k + 1) q es out = refS ws k (q + 1) es (if q < ws.length then out ++ [ws.getD q 0] else out) := by
  have h1 : refIn ws q es out = some (es, out, false) := by
    cases es with
    | nil => rfl
    | cons e r => rw [refIn, if_neg (h e r rfl)]
  rw [refS, refOut, h1]
  simp [refS]
theorem drop_get {ws : List Int} {q : Nat} (h : q < ws.length) : ws.drop q = ws.getD q 0 :: ws.drop (q + 1) := by
  rw [List.drop_eq_getElem_cons h]
  simp [h]
theorem mend_ref {ws : List Int} : ∀ (m : Nat) (q k : Nat) (es : List Ed) (out : List Int), q + k = ws.length + 1 → q ≤ ws.length → k + es.length ≤ m → mendA ws es out q = refS ws k q es out
  | 0, q, k, es, out, hk, hq, hm => by omega
  | m + 1, q, k + 1, [], out, hk, hq, hm => by
    rw [refS_next (fun e r h => by cases h)]
    by_cases hl : q < ws.length
    · rw [if_pos hl, ← mend_ref m (q + 1) k [] _ (by omega) (by omega) (by simp at hm ⊢; omega), mendA, mendA, drop_get hl]
      simp
    · rw [if_neg hl]
      have : k = 0 := by omega
      subst this
      rw [mendA, List.drop_of_length_le (by omega)]
      simp [refS, refOut]
  | m + 1, q, 0, es, out, hk, hq, hm => by omega
  | m + 1, q, k + 1, e :: r, out, hk, hq, hm => by
    simp only [List.length_cons] at hm
    by_cases h1 : e.at_ < q
    · rw [mendA, if_pos (.inl h1), refS_stuck (.inl h1)]
    by_cases h2 : e.at_ > ws.length
    · rw [mendA, if_pos (.inr h2), refS_stuck (.inr (by omega))]
    by_cases h3 : e.at_ = q
    · rw [mendA, if_neg (by omega)]
      have hn : e.at_.toNat = q := by omega
      have ht : (ws.drop q).take (q - q) = [] := by simp
      cases hout : e.out with
      | true =>
        rw [if_pos rfl, hn, ht, List.append_nil]
        by_cases h4 : q = ws.length ∨ ws[q]? ≠ some e.term
        · rw [if_pos (by rcases h4 with h4 | h4; left; omega; right; exact h4)]
          refine (refS_none ?_).symm
          rw [refOut, refIn, if_pos h3, hout, if_pos rfl, if_pos h4]
        · rw [if_neg (by intro h; exact h4 (by rcases h with h | h; left; omega; right; exact h))]
          have hql : q ≠ ws.length := fun h => h4 (.inl h)
          rw [mend_ref m (q + 1) k r out (by omega) (by omega) (by omega)]
          rw [refS, refS, refOut, refIn, if_pos h3, hout, if_pos rfl, if_neg h4]
          simp
      | false =>
        rw [if_neg (by simp), hn, ht, List.append_nil]
        rw [mend_ref m q (k + 1) r (out ++ [e.term]) hk hq (by omega)]
        rw [refS, refS, refOut, refOut, refIn.eq_2, if_pos h3, hout, if_neg (by simp)]
    · rw [refS_next (fun e' r' h => by injection h with h _; subst h; exact h3)]
      have hql : q < ws.length := by omega
      rw [if_pos hql, ← mend_ref m (q + 1) k (e :: r) _ (by omega) (by omega) (by simp; omega)]
      have a1 : ¬ (e.at_ < (q : Int) ∨ e.at_ > ws.length) := by omega
      have a2 : ¬ (e.at_ < ((q + 1 : Nat) : Int) ∨ e.at_ > ws.length) := by omega
      rw [mendA, mendA, if_neg a1, if_neg a2]
      have hn : (ws.drop q).take (e.at_.toNat - q) = ws.getD q 0 :: (ws.drop (q + 1)).take (e.at_.toNat - (q + 1)) := by
        rw [drop_get hql, show e.at_.toNat - q = (e.at_.toNat - (q + 1)) + 1 by omega, List.take_succ_cons]
      rw [hn]
      simp only [List.append_assoc, List.cons_append, List.nil_append]
theorem both {ws : List Int} (es : List Ed) : (mendA ws es [] 0).isSome = (refR ws es).1 ∧ ((refR ws es).1 = true → (mendA ws es [] 0).getD [] = (refR ws es).2) := by
  rw [mend_ref _ 0 (ws.length + 1) es [] (by omega) (Nat.zero_le _) (Nat.le_refl _)]
  unfold refS refR
  cases h : refOut ws (ws.length + 1) 0 es [] with
  | none => exact ⟨rfl, fun h => by cases h⟩
  | some p =>
    obtain ⟨es', o⟩ := p
    cases es' with
    | nil => exact ⟨rfl, fun _ => rfl⟩
    | cons e r => exact ⟨rfl, fun h => by cases h⟩
end Go.Proofs.YtgflhpfeghplpaaGreatDoor
