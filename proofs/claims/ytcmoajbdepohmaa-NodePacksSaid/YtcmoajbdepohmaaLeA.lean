/- The walks of the package le's numbers: Bytes and Int, and the document's own. -/
import Derived.Test.YtcmoajbdepohmaaCopy
import Derived.Test.YtcmoajbdepohmaaLePlain
import Derived.Deep.AppendLies
namespace Go.Proofs.Ytcmoajbdepohmaa
open Go.RowKit Go.Oct

theorem numBytes_bad {n width : Int} (h : numCode n width ≠ 0) : numBytes n width = [] := by simp [numBytes, h]
theorem numCode_arg {n width : Int} (h : width < 1 ∨ 8 < width ∨ n < 0) : numCode n width = 1 := by simp only [numCode, if_pos h]
theorem numCode_range {n width : Int} (h : ¬ (width < 1 ∨ 8 < width ∨ n < 0)) (h2 : 256 ^ width.toNat ≤ n.toNat) : numCode n width = 2 := by simp only [numCode, if_neg h, if_pos h2]
theorem numCode_ok {n width : Int} (h : ¬ (width < 1 ∨ 8 < width ∨ n < 0)) (h2 : ¬ 256 ^ width.toNat ≤ n.toNat) : numCode n width = 0 := by simp only [numCode, if_neg h, if_neg h2]
theorem shr_test (m k : Nat) : ((m : Int) / 2 ^ (8 * k) != 0) = decide (256 ^ k ≤ m) := by
  have e : (2 : Nat) ^ (8 * k) = 256 ^ k := by rw [Nat.pow_mul]
  have h1 : ((m : Int) / 2 ^ (8 * k)) = ((m / 256 ^ k : Nat) : Int) := by rw [← e]; simp
  rw [h1]
  have hp : 0 < 256 ^ k := Nat.pow_pos (by decide)
  by_cases h : 256 ^ k ≤ m
  · rw [decide_eq_true h, bne_iff_ne]
    have := Nat.div_pos h hp
    omega
  · rw [decide_eq_false h, Nat.div_eq_of_lt (by omega)]; rfl
theorem shr_byte (m j : Nat) : ((m : Int) / 2 ^ (8 * j) % 256) = ((UInt8.ofNat (m / 256 ^ j % 256)).toNat : Int) := by
  have e : (2 : Nat) ^ (8 * j) = 256 ^ j := by rw [Nat.pow_mul]
  have h1 : ((m : Int) / 2 ^ (8 * j)) = ((m / 256 ^ j : Nat) : Int) := by rw [← e]; simp
  rw [h1, UInt8.toNat_ofNat_of_lt' (by simp [UInt8.size]; omega)]
  omega
theorem num_set (m k j : Nat) (h : j < k) : bs (numList m (j + 1)) ++ List.replicate (k - (j + 1)) (.int .u8 0) = (bs (numList m j) ++ List.replicate (k - j) (Value.int .u8 0)).set j (.int .u8 ((m : Int) / 2 ^ (8 * j) % 256)) := by
  have hl : (bs (numList m j)).length = j := by rw [bs_length, numList_length]
  rw [List.set_append_right _ _ (by omega), hl, Nat.sub_self, show k - j = (k - (j + 1)) + 1 by omega, List.replicate_succ, List.set_cons_zero, numList_snoc, bs_append, shr_byte]
  simp [bs]
/-- what Bytes answers -/
def BytesPost (n width : Int) (w : World) (e : Ending) (w' : World) : Prop :=
  ∃ v, e = .returned (.tuple #[v, .int .i64 (numCode n width : Nat)]) ∧ w'.ownsRow w.heap.size 5 1 v (numBytes n width).length (bs (numBytes n width)) ∧ Below w.heap.size w w'
theorem post_bad {n width : Int} {c : Nat} (h : numCode n width = c) (hc : c ≠ 0) (w : World) (e : Ending) (he : e = .returned (.tuple #[.slice none 0 0, .int .i64 (c : Int)])) : BytesPost n width w e w := by
  refine ⟨.slice none 0 0, by rw [he, h], ?_, Below.refl _ _⟩
  rw [numBytes_bad (by rw [h]; exact hc)]
  exact World.ownsRow_nil _ _ _ _
set_option maxHeartbeats 400000 in
theorem numBytes_any (n width : Int) (w : World) (hn0 : -9223372036854775808 ≤ n) (hn1 : n ≤ 9223372036854775807) (hw0 : -9223372036854775808 ≤ width) (hw1 : width ≤ 9223372036854775807) :
    Calls Try.prog 15 #[.int .i64 n, .int .i64 width] w (BytesPost n width w) := by
  by_cases h1 : width < 1
  · have HC := Lib.hid (numCode_arg (n := n) (.inl h1))
    go_enter Try.func15, Try.ntmps15
    go_wp2
    go_ret2
    exact post_bad HC.out (by decide) _ _ rfl
  by_cases h2 : 8 < width
  · have HC := Lib.hid (numCode_arg (n := n) (.inr (.inl h2)))
    go_enter Try.func15, Try.ntmps15
    go_wp2
    go_ret2
    exact post_bad HC.out (by decide) _ _ rfl
  by_cases h3 : n < 0
  · have HC := Lib.hid (numCode_arg (width := width) (.inr (.inr h3)))
    go_enter Try.func15, Try.ntmps15
    go_wp2
    go_ret2
    exact post_bad HC.out (by decide) _ _ rfl
  have hall : ¬ (width < 1 ∨ 8 < width ∨ n < 0) := by omega
  obtain ⟨k, rfl⟩ := Int.eq_ofNat_of_zero_le (show 0 ≤ width by omega)
  obtain ⟨m, rfl⟩ := Int.eq_ofNat_of_zero_le (show 0 ≤ n by omega)
  have hk1 : 1 ≤ k := by omega
  have hk8 : k ≤ 8 := by omega
  have hm : m < 9223372036854775808 := by omega
  by_cases h4 : 256 ^ k ≤ m
  · have HC := Lib.hid (numCode_range (n := (m : Int)) (width := (k : Int)) hall (by simpa using h4))
    have hk7 : k < 8 := by
      rcases Nat.lt_or_ge k 8 with h | h
      · exact h
      · obtain rfl : k = 8 := by omega
        omega
    have ht : ((m : Int) / 2 ^ (8 * k) != 0) = true := by rw [shr_test, decide_eq_true_iff]; exact h4
    clear hall h1 h2 h3 hn0 hn1 hw0 hw1 h4
    go_enter Try.func15, Try.ntmps15
    go_wp2
    go_ret2
    exact post_bad HC.out (by decide) _ _ rfl
  · have HC := Lib.hid (numCode_ok (n := (m : Int)) (width := (k : Int)) hall (by simpa using h4))
    have hmk : m < 256 ^ k := by omega
    have ht : k < 8 → ((m : Int) / 2 ^ (8 * k) != 0) = false := fun _ => by rw [shr_test, decide_eq_false_iff_not]; omega
    obtain ⟨i0, hi, hz0, hz1, hz2⟩ := info_parts infoU8
    have hbk : i0.bytes * k ≤ 281474976710656 := by rw [hz2]; omega
    have HM := Lib.hid hmk
    have hkm : k ≤ maxLen := by unfold maxLen; omega
    clear hall h1 h2 h3 hn0 hn1 hw0 hw1 h4 hmk
    by_cases h8 : k < 8
    all_goals
      try have ht' := ht h8
      clear ht
      go_enter Try.func15, Try.ntmps15
      go_wp2_with (at_make; refine wpList_make_full _ rfl _ _ 22 rfl w.heap.size 5 i0 (.int .u8 0) 1 Try.underlying22 hi hz0 hz1 .i64 .i64 _ _ k rfl rfl rfl rfl hbk hkm (Nat.le_refl _) ?_)
      intro w2 hown hgrow
      have hown1 : w2.ownsRow w.heap.size 5 1 (.slice (some ⟨w.heap.size, 0, none⟩) k k) k (bs (numList m 0) ++ List.replicate (k - 0) (.int .u8 0)) := by
        simpa [numList, bs, toList_madeCells_one] using hown
      have hnx : Below w.heap.size w w2 := (Below.refl _ _).grown hgrow (Nat.le_refl _) (by simp)
      clear hown hgrow hi hz0 hz1 hz2 hbk
      try clear ht'
      go_wp2
      go_loopw [32] (fun i wr => ∃ j : Nat, j ≤ k ∧ i = .int .i64 j ∧ wr.ownsRow w.heap.size 5 1 (.slice (some ⟨w.heap.size, 0, none⟩) k k) k (bs (numList m j) ++ List.replicate (k - j) (.int .u8 0)) ∧ Below w.heap.size w wr) (fun i _ => k - (intOf i).toNat)
      case atStart => exact ⟨0, Nat.zero_le _, rfl, hown1, hnx⟩
      case round =>
        clear hown1 hnx
        obtain ⟨j, hj, rfl, hown, hnx⟩ := hrel
        by_cases hlt : j < k
        · obtain ⟨u, hu⟩ : ∃ u, wr.cell? ⟨w.heap.size, j, none⟩ = some u := by
            refine ⟨_, (hown.cellAt j (by omega)).trans (List.getElem?_eq_getElem ?_)⟩
            simp [bs, numList_length]; omega
          have hfr := hown.frozenAt j
          have hst := hown.stored j (.int .u8 ((m : Int) / 2 ^ (8 * j) % 256))
          have HX := Lib.hid (num_set m k j hlt)
          clear hown
          go_wp2
          go_roundw
          case rel => exact ⟨j + 1, by omega, by go_num, by rw [HX.out]; exact hst.1, hnx.setCell (Nat.le_refl _) _⟩
          case measure => simp [intOf]; omega
        · have HJ := Lib.hid (show j = k by omega)
          go_wp2
          go_ret2
          refine ⟨_, by rw [HC.out]; rfl, ?_, hnx⟩
          have hb : numBytes (m : Int) (k : Int) = numList m k := by simp [numBytes, HC.out]
          rw [hb, numList_length]
          rw [HJ.out] at hown
          simpa using hown
end Go.Proofs.Ytcmoajbdepohmaa
