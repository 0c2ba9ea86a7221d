/- The walks of super.May and octavoref16.May. -/
import Derived.Test.YtdekfbmjhmfmaaaProg
import Derived.Test.YtdekfbmjhmfmaaaBase
import Derived.Test.YtdekfbmjhmfmaaaSupPlain
import Derived.WalkSpells
import Derived.WalkLawsBesides
namespace Go.Proofs.Ytdekfbmjhmfmaaa
open Go.RowKit Go.Oct

/-- a superblock as a value -/
def supV (g r c t o : Int) : Value := .agg #[.int .i64 g, .int .i64 r, .int .i64 c, .int .i64 t, .int .i64 o]
set_option maxHeartbeats 1000000 in
theorem superMay_any (g r c t o : Int) (w : World) :
    Calls Try.prog 18 #[.agg #[.int .i64 g, .int .i64 r, .int .i64 c, .int .i64 t, .int .i64 o]] w fun e w' => e = .returned (.bool (decide (supMay g r c t o))) ∧ Below w.heap.size w w' := by
  by_cases h0 : ¬ (1 ≤ g)
  · have hd : decide (supMay g r c t o) = false := decide_eq_false (by unfold supMay; omega)
    rw [hd]
    clear hd
    go_enter Try.func18, Try.ntmps18
    go_wp2_with fail
    go_ret
    exact ⟨rfl, (Below.refl _ _).alloc (Nat.le_refl _) _⟩
  replace h0 := Decidable.not_not.1 h0
  by_cases h1 : ¬ (g ≤ 1099511627776)
  · have hd : decide (supMay g r c t o) = false := decide_eq_false (by unfold supMay; omega)
    rw [hd]
    clear hd
    go_enter Try.func18, Try.ntmps18
    go_wp2_with fail
    go_ret
    exact ⟨rfl, (Below.refl _ _).alloc (Nat.le_refl _) _⟩
  replace h1 := Decidable.not_not.1 h1
  by_cases h2 : ¬ (1 ≤ r)
  · have hd : decide (supMay g r c t o) = false := decide_eq_false (by unfold supMay; omega)
    rw [hd]
    clear hd
    go_enter Try.func18, Try.ntmps18
    go_wp2_with fail
    go_ret
    exact ⟨rfl, (Below.refl _ _).alloc (Nat.le_refl _) _⟩
  replace h2 := Decidable.not_not.1 h2
  by_cases h3 : ¬ (r < 1048576)
  · have hd : decide (supMay g r c t o) = false := decide_eq_false (by unfold supMay; omega)
    rw [hd]
    clear hd
    go_enter Try.func18, Try.ntmps18
    go_wp2_with fail
    go_ret
    exact ⟨rfl, (Below.refl _ _).alloc (Nat.le_refl _) _⟩
  replace h3 := Decidable.not_not.1 h3
  by_cases h4 : ¬ (0 ≤ c)
  · have hd : decide (supMay g r c t o) = false := decide_eq_false (by unfold supMay; omega)
    rw [hd]
    clear hd
    go_enter Try.func18, Try.ntmps18
    go_wp2_with fail
    go_ret
    exact ⟨rfl, (Below.refl _ _).alloc (Nat.le_refl _) _⟩
  replace h4 := Decidable.not_not.1 h4
  by_cases h5 : ¬ (c < 16)
  · have hd : decide (supMay g r c t o) = false := decide_eq_false (by unfold supMay; omega)
    rw [hd]
    clear hd
    go_enter Try.func18, Try.ntmps18
    go_wp2_with fail
    go_ret
    exact ⟨rfl, (Below.refl _ _).alloc (Nat.le_refl _) _⟩
  replace h5 := Decidable.not_not.1 h5
  by_cases h6 : ¬ (0 ≤ t)
  · have hd : decide (supMay g r c t o) = false := decide_eq_false (by unfold supMay; omega)
    rw [hd]
    clear hd
    go_enter Try.func18, Try.ntmps18
    go_wp2_with fail
    go_ret
    exact ⟨rfl, (Below.refl _ _).alloc (Nat.le_refl _) _⟩
  replace h6 := Decidable.not_not.1 h6
  by_cases h7 : ¬ (t ≤ 16777216)
  · have hd : decide (supMay g r c t o) = false := decide_eq_false (by unfold supMay; omega)
    rw [hd]
    clear hd
    go_enter Try.func18, Try.ntmps18
    go_wp2_with fail
    go_ret
    exact ⟨rfl, (Below.refl _ _).alloc (Nat.le_refl _) _⟩
  replace h7 := Decidable.not_not.1 h7
  by_cases h8 : ¬ (0 ≤ o)
  · have hd : decide (supMay g r c t o) = false := decide_eq_false (by unfold supMay; omega)
    rw [hd]
    clear hd
    go_enter Try.func18, Try.ntmps18
    go_wp2_with fail
    go_ret
    exact ⟨rfl, (Below.refl _ _).alloc (Nat.le_refl _) _⟩
  replace h8 := Decidable.not_not.1 h8
  by_cases h9 : ¬ (o ≤ 1048576)
  · have hd : decide (supMay g r c t o) = false := decide_eq_false (by unfold supMay; omega)
    rw [hd]
    clear hd
    go_enter Try.func18, Try.ntmps18
    go_wp2_with fail
    go_ret
    exact ⟨rfl, (Below.refl _ _).alloc (Nat.le_refl _) _⟩
  replace h9 := Decidable.not_not.1 h9
  have hd : decide (supMay g r c t o) = true := decide_eq_true (by unfold supMay; omega)
  rw [hd]
  clear hd
  go_enter Try.func18, Try.ntmps18
  go_wp2_with fail
  go_ret
  exact ⟨rfl, (Below.refl _ _).alloc (Nat.le_refl _) _⟩
set_option maxHeartbeats 1000000 in
theorem refMay16_any (g r c t o : Int) (w : World) :
    Calls Try.prog 19 #[.agg #[.int .i64 g, .int .i64 r, .int .i64 c, .int .i64 t, .int .i64 o]] w fun e w' => e = .returned (.bool (decide (supMay g r c t o))) ∧ Below w.heap.size w w' := by
  by_cases h0 : ¬ (1 ≤ g)
  · have hd : decide (supMay g r c t o) = false := decide_eq_false (by unfold supMay; omega)
    rw [hd]
    clear hd
    go_enter Try.func19, Try.ntmps19
    go_wp2_with fail
    go_ret
    exact ⟨rfl, (Below.refl _ _).alloc (Nat.le_refl _) _⟩
  replace h0 := Decidable.not_not.1 h0
  by_cases h1 : ¬ (g ≤ 1099511627776)
  · have hd : decide (supMay g r c t o) = false := decide_eq_false (by unfold supMay; omega)
    rw [hd]
    clear hd
    go_enter Try.func19, Try.ntmps19
    go_wp2_with fail
    go_ret
    exact ⟨rfl, (Below.refl _ _).alloc (Nat.le_refl _) _⟩
  replace h1 := Decidable.not_not.1 h1
  by_cases h2 : ¬ (1 ≤ r)
  · have hd : decide (supMay g r c t o) = false := decide_eq_false (by unfold supMay; omega)
    rw [hd]
    clear hd
    go_enter Try.func19, Try.ntmps19
    go_wp2_with fail
    go_ret
    exact ⟨rfl, (Below.refl _ _).alloc (Nat.le_refl _) _⟩
  replace h2 := Decidable.not_not.1 h2
  by_cases h3 : ¬ (r < 1048576)
  · have hd : decide (supMay g r c t o) = false := decide_eq_false (by unfold supMay; omega)
    rw [hd]
    clear hd
    go_enter Try.func19, Try.ntmps19
    go_wp2_with fail
    go_ret
    exact ⟨rfl, (Below.refl _ _).alloc (Nat.le_refl _) _⟩
  replace h3 := Decidable.not_not.1 h3
  by_cases h4 : ¬ (0 ≤ c)
  · have hd : decide (supMay g r c t o) = false := decide_eq_false (by unfold supMay; omega)
    rw [hd]
    clear hd
    go_enter Try.func19, Try.ntmps19
    go_wp2_with fail
    go_ret
    exact ⟨rfl, (Below.refl _ _).alloc (Nat.le_refl _) _⟩
  replace h4 := Decidable.not_not.1 h4
  by_cases h5 : ¬ (c < 16)
  · have hd : decide (supMay g r c t o) = false := decide_eq_false (by unfold supMay; omega)
    rw [hd]
    clear hd
    go_enter Try.func19, Try.ntmps19
    go_wp2_with fail
    go_ret
    exact ⟨rfl, (Below.refl _ _).alloc (Nat.le_refl _) _⟩
  replace h5 := Decidable.not_not.1 h5
  by_cases h6 : ¬ (0 ≤ t)
  · have hd : decide (supMay g r c t o) = false := decide_eq_false (by unfold supMay; omega)
    rw [hd]
    clear hd
    go_enter Try.func19, Try.ntmps19
    go_wp2_with fail
    go_ret
    exact ⟨rfl, (Below.refl _ _).alloc (Nat.le_refl _) _⟩
  replace h6 := Decidable.not_not.1 h6
  by_cases h7 : ¬ (t ≤ 16777216)
  · have hd : decide (supMay g r c t o) = false := decide_eq_false (by unfold supMay; omega)
    rw [hd]
    clear hd
    go_enter Try.func19, Try.ntmps19
    go_wp2_with fail
    go_ret
    exact ⟨rfl, (Below.refl _ _).alloc (Nat.le_refl _) _⟩
  replace h7 := Decidable.not_not.1 h7
  by_cases h8 : ¬ (0 ≤ o)
  · have hd : decide (supMay g r c t o) = false := decide_eq_false (by unfold supMay; omega)
    rw [hd]
    clear hd
    go_enter Try.func19, Try.ntmps19
    go_wp2_with fail
    go_ret
    exact ⟨rfl, (Below.refl _ _).alloc (Nat.le_refl _) _⟩
  replace h8 := Decidable.not_not.1 h8
  by_cases h9 : ¬ (o ≤ 1048576)
  · have hd : decide (supMay g r c t o) = false := decide_eq_false (by unfold supMay; omega)
    rw [hd]
    clear hd
    go_enter Try.func19, Try.ntmps19
    go_wp2_with fail
    go_ret
    exact ⟨rfl, (Below.refl _ _).alloc (Nat.le_refl _) _⟩
  replace h9 := Decidable.not_not.1 h9
  have hd : decide (supMay g r c t o) = true := decide_eq_true (by unfold supMay; omega)
  rw [hd]
  clear hd
  go_enter Try.func19, Try.ntmps19
  go_wp2_with fail
  go_ret
  exact ⟨rfl, (Below.refl _ _).alloc (Nat.le_refl _) _⟩
end Go.Proofs.Ytdekfbmjhmfmaaa
