/- The walks of the document's own numbers as bytes, and of the two readings of bytes as a number. -/
import Derived.Test.YtcmoajbdepohmaaLeA
namespace Go.Proofs.Ytcmoajbdepohmaa
open Go.RowKit Go.Oct

set_option maxHeartbeats 400000 in
theorem refBytes_any (n width : Int) (w : World) (hn0 : -9223372036854775808 ≤ n) (hn1 : n ≤ 9223372036854775807) (hw0 : -9223372036854775808 ≤ width) (hw1 : width ≤ 9223372036854775807) :
    Calls Try.prog 16 #[.int .i64 n, .int .i64 width] w (BytesPost n width w) := by
  by_cases h1 : width < 1
  · have HC := Lib.hid (numCode_arg (n := n) (.inl h1))
    go_enter Try.func16, Try.ntmps16
    go_wp2
    go_ret2
    exact post_bad HC.out (by decide) _ _ rfl
  by_cases h2 : 8 < width
  · have HC := Lib.hid (numCode_arg (n := n) (.inr (.inl h2)))
    go_enter Try.func16, Try.ntmps16
    go_wp2
    go_ret2
    exact post_bad HC.out (by decide) _ _ rfl
  by_cases h3 : n < 0
  · have HC := Lib.hid (numCode_arg (width := width) (.inr (.inr h3)))
    go_enter Try.func16, Try.ntmps16
    go_wp2
    go_ret2
    exact post_bad HC.out (by decide) _ _ rfl
  have hall : ¬ (width < 1 ∨ 8 < width ∨ n < 0) := by omega
  obtain ⟨k, rfl⟩ := Int.eq_ofNat_of_zero_le (show 0 ≤ width by omega)
  obtain ⟨m, rfl⟩ := Int.eq_ofNat_of_zero_le (show 0 ≤ n by omega)
  have hk8 : k ≤ 8 := by omega
  have hm : m < 9223372036854775808 := by omega
  obtain ⟨i0, hi, hz0, hz1, hz2⟩ := info_parts infoU8
  have HA := Lib.hid hall
  clear hall hn0 hn1 hw0 hw1
  go_enter Try.func16, Try.ntmps16
  go_wp2
  go_loopw [0, 6, 7] (fun a v i wr => ∃ j q : Nat, j ≤ k ∧ i = .int .i64 j ∧ q < 9223372036854775808 ∧ a = .int .i64 q ∧ q = m / 256 ^ j ∧ wr.ownsRow w.heap.size 5 1 v j (bs (numList m j)) ∧ Below w.heap.size w wr) (fun _ _ i _ => k - (intOf i).toNat)
  case atStart => exact ⟨0, m, Nat.zero_le _, rfl, hm, rfl, by simp, World.ownsRow_nil _ _ _ _, Below.refl _ _⟩
  case round =>
    obtain ⟨j, q, hj, rfl, hq, rfl, he, hown, hnx⟩ := hrel
    have HE := Lib.hid he
    clear he
    by_cases hlt : j < k
    · have HT := Lib.hid (show bs (numList m (j + 1)) = bs (numList m j) ++ [.int .u8 ((q : Int) % 256)] by
        rw [numList_snoc, bs_append, ← HE.out]
        simp only [bs, List.map_cons, List.map_nil]
        rw [UInt8.toNat_ofNat_of_lt' (by simp [UInt8.size]; omega)]
        rfl)
      have hsz := hnx.size
      have HQ := Lib.hid (show q / 256 = m / 256 ^ (j + 1) by rw [HE.out, Nat.div_div_eq_div_mul, Nat.pow_succ])
      go_wp2_with (at_builtin; refine wpList_append_own _ rfl _ _ 22 rfl w.heap.size 5 i0 (.int .u8 0) 1 1 Try.underlying22 hi hz0 hz1 hz2 rfl (by decide) _ _ _ rfl (hown.alloc _) ⟨wr.heap.size, 0, none⟩ 1 1 [.int .u8 ((q : Int) % 256)] rfl rfl ?c1 ?c2 ?c3 ?c4 ?c5 ?_)
      case c1 => exact cell_one_new _ _ _
      case c2 => intro u hu; simp at hu; subst hu; rfl
      case c3 => unfold maxLen; omega
      case c4 => omega
      case c5 => simp; omega
      intro v' w1 hown' hgrow _
      have hnx1 : Below w.heap.size w w1 := (hnx.alloc hsz _).grown hgrow (by simp; omega) (fun k hk => (hown.lt k hk).1)
      clear hown hgrow hnx
      go_wp2
      go_roundw
      case rel => exact ⟨j + 1, q / 256, by omega, by go_num, by omega, by go_num, HQ.out, by rw [HT.out]; exact hown', hnx1⟩
      case measure => simp [intOf]; omega
    · have HJ := Lib.hid (show j = k by omega)
      by_cases hz : q = 0
      · have HC := Lib.hid (numCode_ok (n := (m : Int)) (width := (k : Int)) HA.out (by
          have h1 := HE.out
          rw [HJ.out, hz] at h1
          have hp : 0 < 256 ^ k := Nat.pow_pos (by decide)
          have := (Nat.div_eq_zero_iff_lt hp).1 h1.symm
          simpa using this))
        have hq0 : ((q : Int) != 0) = false := by subst hz; rfl
        clear hz
        go_wp2
        go_ret2
        refine ⟨_, by rw [HC.out]; rfl, ?_, hnx⟩
        have hb : numBytes (m : Int) (k : Int) = numList m k := by simp [numBytes, HC.out]
        rw [hb, numList_length]
        rw [HJ.out] at hown
        exact hown
      · have HC := Lib.hid (numCode_range (n := (m : Int)) (width := (k : Int)) HA.out (by
          have h1 := HE.out
          rw [HJ.out] at h1
          rcases Nat.lt_or_ge m (256 ^ k) with h | h
          · rw [Nat.div_eq_of_lt h] at h1; exact absurd h1 hz
          · simpa using h))
        have hq0 : ((q : Int) != 0) = true := by rw [bne_iff_ne]; omega
        clear hz
        go_wp2
        go_ret2
        refine ⟨.slice none 0 0, by rw [HC.out]; rfl, ?_, hnx⟩
        rw [numBytes_bad (by rw [HC.out]; decide)]
        exact World.ownsRow_nil _ _ _ _
end Go.Proofs.Ytcmoajbdepohmaa
