/- accidenceref02.Less and Same. -/
import Derived.Test.YtgflhpfeghplpaaGreatDoorOwn2
set_option maxRecDepth 100000
set_option linter.unusedSimpArgs false
set_option linter.unusedVariables false
namespace Go.Proofs.YtgflhpfeghplpaaGreatDoor
open Go.RowKit
def lessL : List Int → List Int → Bool
  | [], [] => false
  | [], _ :: _ => true
  | _ :: _, [] => false
  | a :: xs, b :: ys => if a = b then lessL xs ys else decide (a < b)
theorem lessL_self : ∀ xs, lessL xs xs = false
  | [] => rfl
  | a :: xs => by rw [lessL, if_pos rfl]; exact lessL_self xs
set_option maxHeartbeats 4000000 in
theorem less_any (F G : Nat → Prop) (va vb : Value) (xs ys : List Int) (w : World) (ha : Sl Kd.int F w va xs) (hb : Sl Kd.int G w vb ys) :
    Calls Tryz.prog 12 #[va, vb] w fun e w' => e = .returned (.bool (lessL xs ys)) ∧ Nw w w' := by
  obtain ⟨A, b, o, c, rfl, h1, h2, h3⟩ := ha
  obtain ⟨A', b', o', c', rfl, h1', h2', h3'⟩ := hb
  have hna : xs.length ≤ 9223372036854775807 := by omega
  have hnb : ys.length ≤ 9223372036854775807 := by omega
  go_enter Tryz.func12, Tryz.ntmps12
  go_wp2
  clear h2 h2'
  go_loopw [5] (fun t wr => ∃ k n : Nat, k ≤ xs.length ∧ k ≤ ys.length ∧ t = .int .i64 k ∧ wr = w.drewN n ∧ lessL (xs.drop k) (ys.drop k) = lessL xs ys) (fun t _ => xs.length - (intOf t).toNat)
  case atStart => exact ⟨0, 0, Nat.zero_le _, Nat.zero_le _, rfl, by simp [World.drewN], rfl⟩
  case round =>
  obtain ⟨k, n, hk, hk', rfl, rfl, hI⟩ := hrel
  have HI := Lib.hid hI; clear hI
  by_cases hlt : k < xs.length
  · have hd : decide ((k : Int) < (xs.length : Int)) = true := by simp; omega
    by_cases hlt' : k < ys.length
    · have hd' : decide ((k : Int) < (ys.length : Int)) = true := by simp; omega
      obtain ⟨x, rfl, _, hbl, hx, Hd, Hx⟩ := Rd.int h3 hlt
      obtain ⟨y, rfl, _, hbl', hy, Hd', Hx'⟩ := Rd.int h3' hlt'
      by_cases hxy : x = y
      · have hq : (x == y) = true := by simpa using hxy
        have Hxy := Lib.hid hxy; clear hxy
        go_wp2
        go_quiet (fail)
        go_wp2
        go_roundw
        case rel => exact ⟨k+1, _, by omega, by omega, by go_num, rfl, by rw [← HI.out, Hd.out, Hd'.out, lessL, if_pos Hxy.out]⟩
        case measure => simp [intOf] <;> omega
      · have hq : (x == y) = false := by simpa using hxy
        have Hxy := Lib.hid hxy; clear hxy
        go_wp2
        go_quiet (fail)
        go_wp2
        go_quiet (fail)
        go_wp2
        go_ret
        refine ⟨?_, ?_⟩
        · rw [← HI.out, Hd.out, Hd'.out, lessL, if_neg Hxy.out]
          rfl
        · repeat first | exact Ch.refl _ _ | apply Ch.drewN | apply Ch.drew
    · have hd' : decide ((k : Int) < (ys.length : Int)) = false := by simp; omega
      go_wp2
      go_ret
      refine ⟨?_, by repeat first | exact Ch.refl _ _ | apply Ch.drewN | apply Ch.drew⟩
      have e : ys.drop k = [] := List.drop_of_length_le (by omega)
      obtain ⟨x, hx⟩ := get_some hlt
      rw [← HI.out, e, drop_cons hx]
      have : ¬ ((xs.length : Int) < (ys.length : Int)) := by omega
      simp [lessL]
      omega
  · have hd : decide ((k : Int) < (xs.length : Int)) = false := by simp; omega
    go_wp2
    go_ret
    refine ⟨?_, by repeat first | exact Ch.refl _ _ | apply Ch.drewN | apply Ch.drew⟩
    have e : xs.drop k = [] := List.drop_of_length_le (by omega)
    rw [← HI.out, e]
    by_cases hlt' : k < ys.length
    · obtain ⟨x, hx⟩ := get_some hlt'
      rw [drop_cons hx]
      simp [lessL]
      omega
    · have e' : ys.drop k = [] := List.drop_of_length_le (by omega)
      rw [e']
      simp [lessL]
      omega
set_option maxHeartbeats 4000000 in
theorem same_any (F G : Nat → Prop) (va vb : Value) (xs ys : List Int) (w : World) (ha : Sl Kd.int F w va xs) (hb : Sl Kd.int G w vb ys) :
    Calls Tryz.prog 7 #[va, vb] w fun e w' => e = .returned (.bool (!lessL xs ys && !lessL ys xs)) ∧ Nw w w' := by
  replace ha := ha.mono (F' := fun _ => True) (fun _ _ => trivial)
  replace hb := hb.mono (F' := fun _ => True) (fun _ _ => trivial)
  go_enter Tryz.func7, Tryz.ntmps7
  cases h1 : lessL xs ys with
  | true =>
    go_wp2_with (go_at_call 12; refine (less_any (fun _ => True) (fun _ => True) va vb xs ys w ha hb).mono ?_; rintro e w' ⟨rfl, hn⟩)
    go_ret
    exact ⟨by simp, by assumption⟩
  | false =>
    go_wp2_with (go_at_call 12; refine (less_any (fun _ => True) (fun _ => True) _ _ _ _ _ (by first | exact ha | exact hb.nw hn) (by first | exact hb | exact ha.nw hn)).mono ?_; rintro e w' ⟨rfl, hn⟩)
    go_ret
    exact ⟨by simp, Ch.nw (by assumption) hn⟩
end Go.Proofs.YtgflhpfeghplpaaGreatDoor
