/- The walks of past.may and octavoref17.One: whether a version may be. -/
import Derived.Test.YtdofdegicdkhlaaProg
import Derived.Test.YtdofdegicdkhlaaPastPlain
import Derived.WalkSpells
import Derived.WalkLawsBesides
namespace Go.Proofs.Ytdofdegicdkhlaa
open Go.RowKit Go.Oct

set_option maxHeartbeats 1000000 in
theorem may17_any (a b : Int) (w : World) : Calls Try.prog 47 #[.agg #[.int .i64 a, .int .i64 b]] w fun e w' => e = .returned (.bool (decide (verMay (a, b)))) ∧ Below w.heap.size w w' := by
  by_cases h0 : ¬ (0 ≤ a)
  · rw [show decide (verMay (a, b)) = false from decide_eq_false (by unfold verMay; simp only; omega)]
    go_enter Try.func47, Try.ntmps47
    go_wp2_with fail
    go_ret
    exact ⟨rfl, (Below.refl _ _).alloc (Nat.le_refl _) _⟩
  replace h0 := Decidable.not_not.1 h0
  by_cases h1 : ¬ (a < 1048576)
  · rw [show decide (verMay (a, b)) = false from decide_eq_false (by unfold verMay; simp only; omega)]
    go_enter Try.func47, Try.ntmps47
    go_wp2_with fail
    go_ret
    exact ⟨rfl, (Below.refl _ _).alloc (Nat.le_refl _) _⟩
  replace h1 := Decidable.not_not.1 h1
  by_cases h2 : ¬ (0 ≤ b)
  · rw [show decide (verMay (a, b)) = false from decide_eq_false (by unfold verMay; simp only; omega)]
    go_enter Try.func47, Try.ntmps47
    go_wp2_with fail
    go_ret
    exact ⟨rfl, (Below.refl _ _).alloc (Nat.le_refl _) _⟩
  replace h2 := Decidable.not_not.1 h2
  by_cases h3 : ¬ (b ≤ 1048576)
  · rw [show decide (verMay (a, b)) = false from decide_eq_false (by unfold verMay; simp only; omega)]
    go_enter Try.func47, Try.ntmps47
    go_wp2_with fail
    go_ret
    exact ⟨rfl, (Below.refl _ _).alloc (Nat.le_refl _) _⟩
  replace h3 := Decidable.not_not.1 h3
  by_cases g : (a = 0) ∧ (b = 0)
  · rw [show decide (verMay (a, b)) = true from decide_eq_true (by unfold verMay; simp only; omega)]
    have e1 : ((a : Int) == 0) = true := by simp; omega
    have e2 : ((b : Int) == 0) = true := by simp; omega
    have q1 : a ≤ 0 := by omega
    have q2 : b ≤ 0 := by omega
    clear g
    go_enter Try.func47, Try.ntmps47
    go_wp2_with fail
    go_ret
    exact ⟨by first | rfl | (simp; omega), (Below.refl _ _).alloc (Nat.le_refl _) _⟩
  by_cases g : (a = 0) ∧ (¬ b = 0)
  · rw [show decide (verMay (a, b)) = false from decide_eq_false (by unfold verMay; simp only; omega)]
    have e1 : ((a : Int) == 0) = true := by simp; omega
    have e2 : ((b : Int) == 0) = false := by simp; omega
    have q1 : a ≤ 0 := by omega
    have q2 : 1 ≤ b := by omega
    clear g
    go_enter Try.func47, Try.ntmps47
    go_wp2_with fail
    go_ret
    exact ⟨by first | rfl | (simp; omega), (Below.refl _ _).alloc (Nat.le_refl _) _⟩
  by_cases g : (¬ a = 0) ∧ (b = 0)
  · rw [show decide (verMay (a, b)) = false from decide_eq_false (by unfold verMay; simp only; omega)]
    have e1 : ((a : Int) == 0) = false := by simp; omega
    have e2 : ((b : Int) == 0) = true := by simp; omega
    have q1 : 1 ≤ a := by omega
    have q2 : b ≤ 0 := by omega
    clear g
    go_enter Try.func47, Try.ntmps47
    go_wp2_with fail
    go_ret
    exact ⟨by first | rfl | (simp; omega), (Below.refl _ _).alloc (Nat.le_refl _) _⟩
  by_cases g : (¬ a = 0) ∧ (¬ b = 0)
  · rw [show decide (verMay (a, b)) = true from decide_eq_true (by unfold verMay; simp only; omega)]
    have e1 : ((a : Int) == 0) = false := by simp; omega
    have e2 : ((b : Int) == 0) = false := by simp; omega
    have q1 : 1 ≤ a := by omega
    have q2 : 1 ≤ b := by omega
    clear g
    go_enter Try.func47, Try.ntmps47
    go_wp2_with fail
    go_ret
    exact ⟨by first | rfl | (simp; omega), (Below.refl _ _).alloc (Nat.le_refl _) _⟩
  omega
set_option maxHeartbeats 1000000 in
theorem one17_any (a b : Int) (w : World) : Calls Try.prog 48 #[.agg #[.int .i64 a, .int .i64 b]] w fun e w' => e = .returned (.bool (decide (verMay (a, b)))) ∧ Below w.heap.size w w' := by
  by_cases h0 : ¬ (0 ≤ a)
  · rw [show decide (verMay (a, b)) = false from decide_eq_false (by unfold verMay; simp only; omega)]
    go_enter Try.func48, Try.ntmps48
    go_wp2_with fail
    go_ret
    exact ⟨rfl, (Below.refl _ _).alloc (Nat.le_refl _) _⟩
  replace h0 := Decidable.not_not.1 h0
  by_cases h1 : ¬ (a < 1048576)
  · rw [show decide (verMay (a, b)) = false from decide_eq_false (by unfold verMay; simp only; omega)]
    go_enter Try.func48, Try.ntmps48
    go_wp2_with fail
    go_ret
    exact ⟨rfl, (Below.refl _ _).alloc (Nat.le_refl _) _⟩
  replace h1 := Decidable.not_not.1 h1
  by_cases h2 : ¬ (0 ≤ b)
  · rw [show decide (verMay (a, b)) = false from decide_eq_false (by unfold verMay; simp only; omega)]
    go_enter Try.func48, Try.ntmps48
    go_wp2_with fail
    go_ret
    exact ⟨rfl, (Below.refl _ _).alloc (Nat.le_refl _) _⟩
  replace h2 := Decidable.not_not.1 h2
  by_cases h3 : ¬ (b ≤ 1048576)
  · rw [show decide (verMay (a, b)) = false from decide_eq_false (by unfold verMay; simp only; omega)]
    go_enter Try.func48, Try.ntmps48
    go_wp2_with fail
    go_ret
    exact ⟨rfl, (Below.refl _ _).alloc (Nat.le_refl _) _⟩
  replace h3 := Decidable.not_not.1 h3
  by_cases g : (a = 0) ∧ (b = 0)
  · rw [show decide (verMay (a, b)) = true from decide_eq_true (by unfold verMay; simp only; omega)]
    have e1 : ((a : Int) == 0) = true := by simp; omega
    have e2 : ((b : Int) == 0) = true := by simp; omega
    have q1 : a ≤ 0 := by omega
    have q2 : b ≤ 0 := by omega
    clear g
    go_enter Try.func48, Try.ntmps48
    go_wp2_with fail
    go_ret
    exact ⟨by first | rfl | (simp; omega), (Below.refl _ _).alloc (Nat.le_refl _) _⟩
  by_cases g : (a = 0) ∧ (¬ b = 0)
  · rw [show decide (verMay (a, b)) = false from decide_eq_false (by unfold verMay; simp only; omega)]
    have e1 : ((a : Int) == 0) = true := by simp; omega
    have e2 : ((b : Int) == 0) = false := by simp; omega
    have q1 : a ≤ 0 := by omega
    have q2 : 1 ≤ b := by omega
    clear g
    go_enter Try.func48, Try.ntmps48
    go_wp2_with fail
    go_ret
    exact ⟨by first | rfl | (simp; omega), (Below.refl _ _).alloc (Nat.le_refl _) _⟩
  by_cases g : (¬ a = 0) ∧ (b = 0)
  · rw [show decide (verMay (a, b)) = false from decide_eq_false (by unfold verMay; simp only; omega)]
    have e1 : ((a : Int) == 0) = false := by simp; omega
    have e2 : ((b : Int) == 0) = true := by simp; omega
    have q1 : 1 ≤ a := by omega
    have q2 : b ≤ 0 := by omega
    clear g
    go_enter Try.func48, Try.ntmps48
    go_wp2_with fail
    go_ret
    exact ⟨by first | rfl | (simp; omega), (Below.refl _ _).alloc (Nat.le_refl _) _⟩
  by_cases g : (¬ a = 0) ∧ (¬ b = 0)
  · rw [show decide (verMay (a, b)) = true from decide_eq_true (by unfold verMay; simp only; omega)]
    have e1 : ((a : Int) == 0) = false := by simp; omega
    have e2 : ((b : Int) == 0) = false := by simp; omega
    have q1 : 1 ≤ a := by omega
    have q2 : 1 ≤ b := by omega
    clear g
    go_enter Try.func48, Try.ntmps48
    go_wp2_with fail
    go_ret
    exact ⟨by first | rfl | (simp; omega), (Below.refl _ _).alloc (Nat.le_refl _) _⟩
  omega
end Go.Proofs.Ytdofdegicdkhlaa
