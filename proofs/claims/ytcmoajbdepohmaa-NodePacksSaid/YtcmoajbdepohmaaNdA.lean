/- Layer 13: node.counted, node.mayEntry, node.mayKid. -/
import Derived.Test.YtcmoajbdepohmaaNdPlain
import Derived.ProofKit
import Derived.Lib.Hide
import Derived.Test.YtcmoajbdepohmaaLeE
namespace Go.Proofs.Ytcmoajbdepohmaa
open Go.RowKit Go.Oct
theorem counted_any (l b : Int) (w : World) : Calls Try.prog 52 #[.int .i64 l, .int .i64 b] w fun e w' => e = .returned (.bool (decide (-1 ≤ l ∧ l ≤ b))) ∧ w' = w := by
  by_cases h0 : ¬ (-1 ≤ l)
  · rw [show decide (-1 ≤ l ∧ l ≤ b) = false from decide_eq_false (by omega)]
    go_enter Try.func52, Try.ntmps52
    go_wp2_with fail
    go_ret
    exact ⟨rfl, rfl⟩
  replace h0 := Decidable.not_not.1 h0
  by_cases h1 : ¬ (l ≤ b)
  · rw [show decide (-1 ≤ l ∧ l ≤ b) = false from decide_eq_false (by omega)]
    go_enter Try.func52, Try.ntmps52
    go_wp2_with fail
    go_ret
    exact ⟨rfl, rfl⟩
  replace h1 := Decidable.not_not.1 h1
  rw [show decide (-1 ≤ l ∧ l ≤ b) = true from decide_eq_true (by omega)]
  go_enter Try.func52, Try.ntmps52
  go_wp2_with fail
  go_ret
  exact ⟨rfl, rfl⟩
set_option maxHeartbeats 4000000 in
theorem mayKid_any (g b l s : Int) (w : World) : Calls Try.prog 48 #[.agg #[.int .i64 g, .int .i64 b, .int .i64 l, .int .i64 s]] w fun e w' => e = .returned (.bool (decide (kidMay (g, b, l, s)))) ∧ Below w.heap.size w w' := by
  by_cases h0 : ¬ (1 ≤ g)
  · rw [show decide (kidMay (g, b, l, s)) = false from decide_eq_false (by unfold kidMay; simp only; first | omega | (simp; omega) | (simp; done))]
    go_enter Try.func48, Try.ntmps48
    go_wp2_with fail
    go_ret
    first | exact ⟨rfl, below_new (Below.refl _ _) _⟩ | exact ⟨congrArg (fun x => Ending.returned (Value.bool x)) (decide_eq_false (by omega)), below_new (Below.refl _ _) _⟩
  replace h0 := Decidable.not_not.1 h0
  by_cases h1 : ¬ (g < 1048576)
  · rw [show decide (kidMay (g, b, l, s)) = false from decide_eq_false (by unfold kidMay; simp only; first | omega | (simp; omega) | (simp; done))]
    go_enter Try.func48, Try.ntmps48
    go_wp2_with fail
    go_ret
    first | exact ⟨rfl, below_new (Below.refl _ _) _⟩ | exact ⟨congrArg (fun x => Ending.returned (Value.bool x)) (decide_eq_false (by omega)), below_new (Below.refl _ _) _⟩
  replace h1 := Decidable.not_not.1 h1
  by_cases h2 : ¬ (1 ≤ b)
  · rw [show decide (kidMay (g, b, l, s)) = false from decide_eq_false (by unfold kidMay; simp only; first | omega | (simp; omega) | (simp; done))]
    go_enter Try.func48, Try.ntmps48
    go_wp2_with fail
    go_ret
    first | exact ⟨rfl, below_new (Below.refl _ _) _⟩ | exact ⟨congrArg (fun x => Ending.returned (Value.bool x)) (decide_eq_false (by omega)), below_new (Below.refl _ _) _⟩
  replace h2 := Decidable.not_not.1 h2
  by_cases h3 : ¬ (b ≤ 1048576)
  · rw [show decide (kidMay (g, b, l, s)) = false from decide_eq_false (by unfold kidMay; simp only; first | omega | (simp; omega) | (simp; done))]
    go_enter Try.func48, Try.ntmps48
    go_wp2_with fail
    go_ret
    first | exact ⟨rfl, below_new (Below.refl _ _) _⟩ | exact ⟨congrArg (fun x => Ending.returned (Value.bool x)) (decide_eq_false (by omega)), below_new (Below.refl _ _) _⟩
  replace h3 := Decidable.not_not.1 h3
  by_cases h4 : ¬ (-1 ≤ l ∧ l ≤ b)
  · rw [show decide (kidMay (g, b, l, s)) = false from decide_eq_false (by unfold kidMay; simp only; first | omega | (simp; omega) | (simp; done))]
    have HC := Lib.hid (show decide (-1 ≤ l ∧ l ≤ b) = false from decide_eq_false (by omega))
    go_enter Try.func48, Try.ntmps48
    go_wp2_with fail
    refine (counted_any _ _ _).mono ?_
    rintro e w' ⟨rfl, rfl⟩
    rw [HC.out]
    go_wp2_with fail
    go_ret
    first | exact ⟨rfl, below_new (Below.refl _ _) _⟩ | exact ⟨congrArg (fun x => Ending.returned (Value.bool x)) (decide_eq_false (by omega)), below_new (Below.refl _ _) _⟩
  replace h4 := Decidable.not_not.1 h4
  obtain ⟨h4a, h4b⟩ := h4
  by_cases h5 : ¬ (1 ≤ s)
  · rw [show decide (kidMay (g, b, l, s)) = false from decide_eq_false (by unfold kidMay; simp only; first | omega | (simp; omega) | (simp; done))]
    have HC := Lib.hid (show decide (-1 ≤ l ∧ l ≤ b) = true from decide_eq_true (by omega))
    go_enter Try.func48, Try.ntmps48
    go_wp2_with fail
    refine (counted_any _ _ _).mono ?_
    rintro e w' ⟨rfl, rfl⟩
    rw [HC.out]
    go_wp2_with fail
    go_ret
    first | exact ⟨rfl, below_new (Below.refl _ _) _⟩ | exact ⟨congrArg (fun x => Ending.returned (Value.bool x)) (decide_eq_false (by omega)), below_new (Below.refl _ _) _⟩
  replace h5 := Decidable.not_not.1 h5
  by_cases h6 : ¬ (s ≤ b)
  · rw [show decide (kidMay (g, b, l, s)) = false from decide_eq_false (by unfold kidMay; simp only; first | omega | (simp; omega) | (simp; done))]
    have HC := Lib.hid (show decide (-1 ≤ l ∧ l ≤ b) = true from decide_eq_true (by omega))
    go_enter Try.func48, Try.ntmps48
    go_wp2_with fail
    refine (counted_any _ _ _).mono ?_
    rintro e w' ⟨rfl, rfl⟩
    rw [HC.out]
    go_wp2_with fail
    go_ret
    first | exact ⟨rfl, below_new (Below.refl _ _) _⟩ | exact ⟨congrArg (fun x => Ending.returned (Value.bool x)) (decide_eq_false (by omega)), below_new (Below.refl _ _) _⟩
  replace h6 := Decidable.not_not.1 h6
  rw [show decide (kidMay (g, b, l, s)) = true from decide_eq_true (by unfold kidMay; simp only; first | omega | (simp; omega) | (simp; done))]
  have HC := Lib.hid (show decide (-1 ≤ l ∧ l ≤ b) = true from decide_eq_true (by omega))
  go_enter Try.func48, Try.ntmps48
  go_wp2_with fail
  refine (counted_any _ _ _).mono ?_
  rintro e w' ⟨rfl, rfl⟩
  rw [HC.out]
  go_wp2_with fail
  go_ret
  first | exact ⟨rfl, below_new (Below.refl _ _) _⟩ | exact ⟨congrArg (fun x => Ending.returned (Value.bool x)) (decide_eq_true (by omega)), below_new (Below.refl _ _) _⟩
set_option maxHeartbeats 8000000 in
theorem mayEntry_any (s a n l : Int) (w : World) : Calls Try.prog 47 #[.agg #[.int .i64 s, .int .i64 a, .int .i64 n, .int .i64 l]] w fun e w' => e = .returned (.bool (decide (entMay (s, a, n, l)))) ∧ Below w.heap.size w w' := by
  by_cases hs : ¬ (s = 0 ∨ s = 1)
  · have hs0 : (s == 0) = false := by rw [beq_eq_false_iff_ne]; omega
    have hs1 : (s == 1) = false := by rw [beq_eq_false_iff_ne]; omega
    rw [show decide (entMay (s, a, n, l)) = false from decide_eq_false (by unfold entMay; simp only; first | omega | (simp; omega) | (simp; done))]
    go_enter Try.func47, Try.ntmps47
    go_wp2_with fail
    go_ret
    first | exact ⟨rfl, below_new (below_new (Below.refl _ _) _) _⟩ | exact ⟨congrArg (fun x => Ending.returned (Value.bool x)) (decide_eq_false (by omega)), below_new (below_new (Below.refl _ _) _) _⟩
  rcases Decidable.not_not.1 hs with rfl | rfl
  · by_cases h0 : ¬ (0 ≤ a)
    · rw [show decide (entMay (0, a, n, l)) = false from decide_eq_false (by unfold entMay; simp only; first | omega | (simp; omega) | (simp; done))]
      go_enter Try.func47, Try.ntmps47
      go_wp2_with fail
      go_ret
      first | exact ⟨rfl, below_new (below_new (Below.refl _ _) _) _⟩ | exact ⟨congrArg (fun x => Ending.returned (Value.bool x)) (decide_eq_false (by omega)), below_new (below_new (Below.refl _ _) _) _⟩
    replace h0 := Decidable.not_not.1 h0
    by_cases h1 : ¬ (a ≤ 16777216)
    · rw [show decide (entMay (0, a, n, l)) = false from decide_eq_false (by unfold entMay; simp only; first | omega | (simp; omega) | (simp; done))]
      go_enter Try.func47, Try.ntmps47
      go_wp2_with fail
      go_ret
      first | exact ⟨rfl, below_new (below_new (Below.refl _ _) _) _⟩ | exact ⟨congrArg (fun x => Ending.returned (Value.bool x)) (decide_eq_false (by omega)), below_new (below_new (Below.refl _ _) _) _⟩
    replace h1 := Decidable.not_not.1 h1
    by_cases h2 : ¬ (1 ≤ n)
    · rw [show decide (entMay (0, a, n, l)) = false from decide_eq_false (by unfold entMay; simp only; first | omega | (simp; omega) | (simp; done))]
      go_enter Try.func47, Try.ntmps47
      go_wp2_with fail
      go_ret
      first | exact ⟨rfl, below_new (below_new (Below.refl _ _) _) _⟩ | exact ⟨congrArg (fun x => Ending.returned (Value.bool x)) (decide_eq_false (by omega)), below_new (below_new (Below.refl _ _) _) _⟩
    replace h2 := Decidable.not_not.1 h2
    by_cases h3 : ¬ (n ≤ 16777216 - a)
    · rw [show decide (entMay (0, a, n, l)) = false from decide_eq_false (by unfold entMay; simp only; first | omega | (simp; omega) | (simp; done))]
      go_enter Try.func47, Try.ntmps47
      go_wp2_with fail
      go_ret
      first | exact ⟨rfl, below_new (below_new (Below.refl _ _) _) _⟩ | exact ⟨congrArg (fun x => Ending.returned (Value.bool x)) (decide_eq_false (by omega)), below_new (below_new (Below.refl _ _) _) _⟩
    replace h3 := Decidable.not_not.1 h3
    by_cases h4 : ¬ (n ≤ 1048576)
    · rw [show decide (entMay (0, a, n, l)) = false from decide_eq_false (by unfold entMay; simp only; first | omega | (simp; omega) | (simp; done))]
      go_enter Try.func47, Try.ntmps47
      go_wp2_with fail
      go_ret
      first | exact ⟨rfl, below_new (below_new (Below.refl _ _) _) _⟩ | exact ⟨congrArg (fun x => Ending.returned (Value.bool x)) (decide_eq_false (by omega)), below_new (below_new (Below.refl _ _) _) _⟩
    replace h4 := Decidable.not_not.1 h4
    by_cases h5 : ¬ (-1 ≤ l ∧ l ≤ n)
    · rw [show decide (entMay (0, a, n, l)) = false from decide_eq_false (by unfold entMay; simp only; first | omega | (simp; omega) | (simp; done))]
      have HC := Lib.hid (show decide (-1 ≤ l ∧ l ≤ n) = false from decide_eq_false (by omega))
      go_enter Try.func47, Try.ntmps47
      go_wp2_with fail
      refine (counted_any _ _ _).mono ?_
      rintro e w' ⟨rfl, rfl⟩
      rw [HC.out]
      go_wp2_with fail
      go_ret
      first | exact ⟨rfl, below_new (below_new (Below.refl _ _) _) _⟩ | exact ⟨congrArg (fun x => Ending.returned (Value.bool x)) (decide_eq_false (by omega)), below_new (below_new (Below.refl _ _) _) _⟩
    replace h5 := Decidable.not_not.1 h5
    obtain ⟨h5a, h5b⟩ := h5
    by_cases h6 : ¬ (l = -1)
    · rw [show decide (entMay (0, a, n, l)) = false from decide_eq_false (by unfold entMay; simp only; first | omega | (simp; omega) | (simp; done))]
      have HC := Lib.hid (show decide (-1 ≤ l ∧ l ≤ n) = true from decide_eq_true (by omega))
      go_enter Try.func47, Try.ntmps47
      go_wp2_with fail
      refine (counted_any _ _ _).mono ?_
      rintro e w' ⟨rfl, rfl⟩
      rw [HC.out]
      go_wp2_with fail
      go_ret
      first | exact ⟨rfl, below_new (below_new (Below.refl _ _) _) _⟩ | exact ⟨congrArg (fun x => Ending.returned (Value.bool x)) (decide_eq_false (by omega)), below_new (below_new (Below.refl _ _) _) _⟩
    replace h6 := Decidable.not_not.1 h6
    subst h6
    rw [show decide (entMay (0, a, n, -1)) = true from decide_eq_true (by unfold entMay; simp only; first | omega | (simp; omega) | (simp; done))]
    have HC := Lib.hid (show decide (-1 ≤ (-1) ∧ (-1) ≤ n) = true from decide_eq_true (by omega))
    go_enter Try.func47, Try.ntmps47
    go_wp2_with fail
    refine (counted_any _ _ _).mono ?_
    rintro e w' ⟨rfl, rfl⟩
    rw [HC.out]
    go_wp2_with fail
    go_ret
    first | exact ⟨rfl, below_new (below_new (Below.refl _ _) _) _⟩ | exact ⟨congrArg (fun x => Ending.returned (Value.bool x)) (decide_eq_true (by omega)), below_new (below_new (Below.refl _ _) _) _⟩
  · by_cases h0 : ¬ (0 ≤ a)
    · rw [show decide (entMay (1, a, n, l)) = false from decide_eq_false (by unfold entMay; simp only; first | omega | (simp; omega) | (simp; done))]
      go_enter Try.func47, Try.ntmps47
      go_wp2_with fail
      go_ret
      first | exact ⟨rfl, below_new (below_new (Below.refl _ _) _) _⟩ | exact ⟨congrArg (fun x => Ending.returned (Value.bool x)) (decide_eq_false (by omega)), below_new (below_new (Below.refl _ _) _) _⟩
    replace h0 := Decidable.not_not.1 h0
    by_cases h1 : ¬ (a ≤ 16777216)
    · rw [show decide (entMay (1, a, n, l)) = false from decide_eq_false (by unfold entMay; simp only; first | omega | (simp; omega) | (simp; done))]
      go_enter Try.func47, Try.ntmps47
      go_wp2_with fail
      go_ret
      first | exact ⟨rfl, below_new (below_new (Below.refl _ _) _) _⟩ | exact ⟨congrArg (fun x => Ending.returned (Value.bool x)) (decide_eq_false (by omega)), below_new (below_new (Below.refl _ _) _) _⟩
    replace h1 := Decidable.not_not.1 h1
    by_cases h2 : ¬ (1 ≤ n)
    · rw [show decide (entMay (1, a, n, l)) = false from decide_eq_false (by unfold entMay; simp only; first | omega | (simp; omega) | (simp; done))]
      go_enter Try.func47, Try.ntmps47
      go_wp2_with fail
      go_ret
      first | exact ⟨rfl, below_new (below_new (Below.refl _ _) _) _⟩ | exact ⟨congrArg (fun x => Ending.returned (Value.bool x)) (decide_eq_false (by omega)), below_new (below_new (Below.refl _ _) _) _⟩
    replace h2 := Decidable.not_not.1 h2
    by_cases h3 : ¬ (n ≤ 16777216 - a)
    · rw [show decide (entMay (1, a, n, l)) = false from decide_eq_false (by unfold entMay; simp only; first | omega | (simp; omega) | (simp; done))]
      go_enter Try.func47, Try.ntmps47
      go_wp2_with fail
      go_ret
      first | exact ⟨rfl, below_new (below_new (Below.refl _ _) _) _⟩ | exact ⟨congrArg (fun x => Ending.returned (Value.bool x)) (decide_eq_false (by omega)), below_new (below_new (Below.refl _ _) _) _⟩
    replace h3 := Decidable.not_not.1 h3
    by_cases h4 : ¬ (n ≤ 1048576)
    · rw [show decide (entMay (1, a, n, l)) = false from decide_eq_false (by unfold entMay; simp only; first | omega | (simp; omega) | (simp; done))]
      go_enter Try.func47, Try.ntmps47
      go_wp2_with fail
      go_ret
      first | exact ⟨rfl, below_new (below_new (Below.refl _ _) _) _⟩ | exact ⟨congrArg (fun x => Ending.returned (Value.bool x)) (decide_eq_false (by omega)), below_new (below_new (Below.refl _ _) _) _⟩
    replace h4 := Decidable.not_not.1 h4
    by_cases h5 : ¬ (-1 ≤ l ∧ l ≤ n)
    · rw [show decide (entMay (1, a, n, l)) = false from decide_eq_false (by unfold entMay; simp only; first | omega | (simp; omega) | (simp; done))]
      have HC := Lib.hid (show decide (-1 ≤ l ∧ l ≤ n) = false from decide_eq_false (by omega))
      go_enter Try.func47, Try.ntmps47
      go_wp2_with fail
      refine (counted_any _ _ _).mono ?_
      rintro e w' ⟨rfl, rfl⟩
      rw [HC.out]
      go_wp2_with fail
      go_ret
      first | exact ⟨rfl, below_new (below_new (Below.refl _ _) _) _⟩ | exact ⟨congrArg (fun x => Ending.returned (Value.bool x)) (decide_eq_false (by omega)), below_new (below_new (Below.refl _ _) _) _⟩
    replace h5 := Decidable.not_not.1 h5
    obtain ⟨h5a, h5b⟩ := h5
    rw [show decide (entMay (1, a, n, l)) = true from decide_eq_true (by unfold entMay; simp only; first | omega | (simp; omega) | (simp; done))]
    have HC := Lib.hid (show decide (-1 ≤ l ∧ l ≤ n) = true from decide_eq_true (by omega))
    go_enter Try.func47, Try.ntmps47
    go_wp2_with fail
    refine (counted_any _ _ _).mono ?_
    rintro e w' ⟨rfl, rfl⟩
    rw [HC.out]
    go_wp2_with fail
    go_ret
    first | exact ⟨rfl, below_new (below_new (Below.refl _ _) _) _⟩ | exact ⟨congrArg (fun x => Ending.returned (Value.bool x)) (decide_eq_true (by omega)), below_new (below_new (Below.refl _ _) _) _⟩
end Go.Proofs.Ytcmoajbdepohmaa
