/- The walk of octavoref01.Pick. -/
import Derived.Test.YtcmoajbdepohmaaProg
import Derived.Test.YtcmoajbdepohmaaBase
import Derived.WalkSpells
import Derived.WalkLawsBesides
import Derived.IntWalk
namespace Go.Proofs.Ytcmoajbdepohmaa
open Go.RowKit Go.Oct
theorem tmod_neg {x n : Int} (h : x < 0) (hn : 1 ≤ n) : (Int.tmod x n < 0 ∧ -n < Int.tmod x n ∧ Int.tmod x n + n = x % n) ∨ (Int.tmod x n = 0 ∧ x % n = 0) := by
  obtain ⟨y, rfl⟩ : ∃ y : Int, x = -y := ⟨-x, by omega⟩
  have e : Int.tmod (-y) n = -(y % n) := by rw [Int.neg_tmod, Int.tmod_eq_emod_of_nonneg (by omega)]
  have b0 := Int.emod_nonneg y (show n ≠ 0 by omega)
  have b1 := Int.emod_lt_of_pos y (show 0 < n by omega)
  rw [e]
  by_cases h0 : y % n = 0
  · right
    refine ⟨by omega, ?_⟩
    exact Int.emod_eq_zero_of_dvd ((Int.dvd_neg).2 (Int.dvd_of_emod_eq_zero h0))
  · left
    refine ⟨by omega, by omega, ?_⟩
    have h1 := Int.mul_ediv_add_emod y n
    have h3 : n * (-(y / n) - 1) = -(n * (y / n)) - n := by rw [Int.mul_sub, Int.mul_neg, Int.mul_one]
    have h2 : n * (-(y / n) - 1) + (n - y % n) = -y := by
      rw [h3]
      generalize n * (y / n) = q at h1
      generalize y % n = r at h1
      omega
    rw [← h2, Int.mul_add_emod_self_left, Int.emod_eq_of_lt (a := n - y % n) (b := n) (by omega) (by omega)]
    omega
theorem pick_any (x n : Int) (w : World) (hn : 1 ≤ n) (hn2 : n ≤ 1000) (hx0 : -9223372036854775808 ≤ x) (hx1 : x ≤ 9223372036854775807) :
    Calls Try.prog 43 #[.int .i64 x, .int .i64 n] w fun e w' => e = .returned (.int .i64 (x % n)) ∧ w = w' := by
  have b0 := Int.emod_nonneg x (show n ≠ 0 by omega)
  have b1 := Int.emod_lt_of_pos x (show 0 < n by omega)
  by_cases h : 0 ≤ x
  · go_enter Try.func43, Try.ntmps43
    go_wp2
    go_ret
    exact ⟨rfl, rfl⟩
  · have ht := tmod_neg (x := x) (n := n) (by omega) hn
    obtain ⟨t, hte⟩ : ∃ t, Int.tmod x n = t := ⟨_, rfl⟩
    obtain ⟨r, hr⟩ : ∃ r, x % n = r := ⟨_, rfl⟩
    rw [hte, hr] at ht
    rw [hr] at b0 b1 ⊢
    clear hr
    rcases ht with ⟨t0, t1, t2⟩ | ⟨t0, t1⟩
    · subst t2
      go_enter Try.func43, Try.ntmps43
      go_wp2
      go_ret
      exact ⟨rfl, rfl⟩
    · subst t0
      subst t1
      go_enter Try.func43, Try.ntmps43
      go_wp2
      go_ret
      exact ⟨rfl, rfl⟩
end Go.Proofs.Ytcmoajbdepohmaa
