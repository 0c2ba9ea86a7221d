/- The walk of octavoref01.Pick, and of the law PastKeeps. -/
import Derived.Test.YtdofdegicdkhlaaPastQ
import Derived.Test.YtdofdegicdkhlaaPastJ
namespace Go.Proofs.Ytdofdegicdkhlaa
open Go.RowKit Go.Oct

/-- behind so many commits -/
def keepList (most : Nat) : Nat → List Ver
  | 0 => [(1, 1)]
  | k + 1 => lastOf most (keepList most k ++ [((2 : Int) + k, (2 : Int) + k)])
def diag (s n : Nat) : List Ver := (List.range' s n).map fun j : Nat => ((j : Int), (j : Int))
theorem diag_length (s n : Nat) : (diag s n).length = n := by simp [diag]
theorem diag_get (s n i : Nat) (h : i < (diag s n).length) : (diag s n)[i] = (((s + i : Nat) : Int), ((s + i : Nat) : Int)) := by
  simp [diag]
theorem keepList_eq (most : Nat) (h : 1 ≤ most) : ∀ k, keepList most k = diag (k + 2 - min (k + 1) most) (min (k + 1) most)
  | 0 => by
    have : min (0 + 1) most = 1 := by omega
    rw [this]; rfl
  | k + 1 => by
    have ih := keepList_eq most h k
    have hs : k + 2 - min (k + 1) most + min (k + 1) most = k + 2 := by omega
    have e : diag (k + 2 - min (k + 1) most) (min (k + 1) most) ++ [((2 : Int) + k, (2 : Int) + k)] = diag (k + 2 - min (k + 1) most) (min (k + 1) most + 1) := by
      unfold diag
      rw [List.range'_1_concat, List.map_append, hs]
      simp only [List.map_cons, List.map_nil]
      congr 3 <;> omega
    rw [keepList, ih, e]
    unfold lastOf
    rw [diag_length]
    unfold diag
    rw [← List.map_drop, List.drop_range']
    congr 2 <;> omega
theorem keepList_len (most k : Nat) (h : 1 ≤ most) : (keepList most k).length = min (k + 1) most := by rw [keepList_eq most h, diag_length]
theorem keepList_may (most k : Nat) (h : 1 ≤ most) (h16 : most ≤ 16) (hk : k ≤ 1000) : pastMay (keepList most k) (((keepList most k).length : Int) - 1) := by
  have hl := keepList_len most k h
  refine ⟨by omega, by omega, by omega, by omega, fun v hv => ?_⟩
  rw [keepList_eq most h] at hv
  unfold diag at hv
  simp only [List.mem_map, List.mem_range'_1] at hv
  obtain ⟨j, hj, rfl⟩ := hv
  exact ⟨by simp only; omega, by simp only; omega, by simp only; omega, by simp only; omega, Iff.rfl⟩
theorem keep_com (most k : Nat) (h : 1 ≤ most) (h16 : most ≤ 16) (hk : k ≤ 1000) :
    comCode (keepList most k) (((keepList most k).length : Int) - 1) ((2 : Int) + k, (2 : Int) + k) most = 0 ∧
    comList (keepList most k) (((keepList most k).length : Int) - 1) ((2 : Int) + k, (2 : Int) + k) most = keepList most (k + 1) ∧
    comCur (keepList most k) (((keepList most k).length : Int) - 1) ((2 : Int) + k, (2 : Int) + k) most = ((keepList most (k + 1)).length : Int) - 1 := by
  have hm := keepList_may most k h h16 hk
  have hl := keepList_len most k h
  have hc : comCode (keepList most k) (((keepList most k).length : Int) - 1) ((2 : Int) + k, (2 : Int) + k) most = 0 := by
    have hv : verMay ((2 : Int) + k, (2 : Int) + k) := ⟨by simp only; omega, by simp only; omega, by simp only; omega, by simp only; omega, Iff.rfl⟩
    unfold comCode
    rw [if_pos ⟨hm, hv, by omega, by omega⟩]
  have hL : comList (keepList most k) (((keepList most k).length : Int) - 1) ((2 : Int) + k, (2 : Int) + k) most = keepList most (k + 1) := by
    rw [comList, if_pos hc, show (((keepList most k).length : Int) - 1).toNat + 1 = (keepList most k).length by omega, List.take_length, Int.toNat_natCast]
    rfl
  exact ⟨hc, hL, by rw [comCur, if_pos hc, hL]⟩
theorem tmod_neg {x n : Int} (h : x < 0) (hn : 1 ≤ n) : (Int.tmod x n < 0 ∧ -n < Int.tmod x n ∧ Int.tmod x n + n = x % n) ∨ (Int.tmod x n = 0 ∧ x % n = 0) := by
  obtain ⟨y, rfl⟩ : ∃ y : Int, x = -y := ⟨-x, by omega⟩
  have e : Int.tmod (-y) n = -(y % n) := by rw [Int.neg_tmod, Int.tmod_eq_emod_of_nonneg (by omega)]
  have b0 := Int.emod_nonneg y (show n ≠ 0 by omega)
  have b1 := Int.emod_lt_of_pos y (show 0 < n by omega)
  rw [e]
  by_cases h0 : y % n = 0
  · right
    refine ⟨by omega, ?_⟩
    exact Int.emod_eq_zero_of_dvd ((Int.dvd_neg).2 (Int.dvd_of_emod_eq_zero h0))
  · left
    refine ⟨by omega, by omega, ?_⟩
    have h1 := Int.mul_ediv_add_emod y n
    have h3 : n * (-(y / n) - 1) = -(n * (y / n)) - n := by rw [Int.mul_sub, Int.mul_neg, Int.mul_one]
    have h2 : n * (-(y / n) - 1) + (n - y % n) = -y := by
      rw [h3]
      generalize n * (y / n) = q at h1
      generalize y % n = r at h1
      omega
    rw [← h2, Int.mul_add_emod_self_left, Int.emod_eq_of_lt (a := n - y % n) (b := n) (by omega) (by omega)]
    omega
theorem pick_any (x n : Int) (w : World) (hn : 1 ≤ n) (hn2 : n ≤ 1000) (hx0 : -9223372036854775808 ≤ x) (hx1 : x ≤ 9223372036854775807) :
    Calls Try.prog 35 #[.int .i64 x, .int .i64 n] w fun e w' => e = .returned (.int .i64 (x % n)) ∧ w = w' := by
  have b0 := Int.emod_nonneg x (show n ≠ 0 by omega)
  have b1 := Int.emod_lt_of_pos x (show 0 < n by omega)
  by_cases h : 0 ≤ x
  · go_enter Try.func35, Try.ntmps35
    go_wp2
    go_ret
    exact ⟨rfl, rfl⟩
  · have ht := tmod_neg (x := x) (n := n) (by omega) hn
    obtain ⟨t, hte⟩ : ∃ t, Int.tmod x n = t := ⟨_, rfl⟩
    obtain ⟨r, hr⟩ : ∃ r, x % n = r := ⟨_, rfl⟩
    rw [hte, hr] at ht
    rw [hr] at b0 b1 ⊢
    clear hr
    rcases ht with ⟨t0, t1, t2⟩ | ⟨t0, t1⟩
    · subst t2
      go_enter Try.func35, Try.ntmps35
      go_wp2
      go_ret
      exact ⟨rfl, rfl⟩
    · subst t0
      subst t1
      go_enter Try.func35, Try.ntmps35
      go_wp2
      go_ret
      exact ⟨rfl, rfl⟩
end Go.Proofs.Ytdofdegicdkhlaa
