/- The walks of the checksum's scalar functions: what step, move, times and the two Joins compute, said on natural numbers. -/
import Derived.Test.YtdekfbmjhmfmaaaProg
import Derived.Test.YtdekfbmjhmfmaaaCrcPlain
import Derived.WalkKit
import Derived.WalkSpells
import Derived.WalkLawsBesides
import Derived.Lib.Hide
namespace Go.Proofs.Ytdekfbmjhmfmaaa
open Go.RowKit

theorem ret_u32 {a b : Nat} (h : a = b) : Ending.returned (.int .u32 (a : Int)) = .returned (.int .u32 (b : Int)) := by rw [h]
theorem u32and1 (s : Nat) (hs : s < 4294967296) : bits .and .u32 (s : Int) 1 = ((s % 2 : Nat) : Int) := by
  have h := u32_and_nat s 1 hs (by omega)
  rw [Nat.and_one_is_mod] at h
  exact h
theorem u32half (s : Nat) (hs : s < 4294967296) : bits .xor .u32 ((s : Int) / 2) 3988292384 = ((s / 2 ^^^ 3988292384 : Nat) : Int) := by
  have h := u32_xor_nat (s / 2) 3988292384 (by omega) (by omega)
  rw [← h]
  congr 1
theorem step_any (s : Nat) (hs : s < 4294967296) (w : World) :
    Calls Try.prog 50 #[.int .u32 (s : Int)] w fun e w' => e = .returned (.int .u32 (OctCrc.st s : Nat)) ∧ w = w' := by
  have e1 := u32and1 s hs
  have e2 := u32half s hs
  by_cases h : s % 2 = 1
  · have hst : OctCrc.st s = s / 2 ^^^ 3988292384 := by simp [OctCrc.st, h]
    have HS := Lib.hid hst
    rw [h] at e1
    clear hst h
    go_enter Try.func50, Try.ntmps50
    go_wp2
    go_ret
    exact ⟨by rw [HS.out]; rfl, rfl⟩
  · have hst : OctCrc.st s = s / 2 := by simp [OctCrc.st, h]
    have HS := Lib.hid hst
    rw [show s % 2 = 0 by omega] at e1
    clear hst h
    go_enter Try.func50, Try.ntmps50
    go_wp2
    go_ret
    exact ⟨by rw [HS.out]; rfl, rfl⟩

set_option maxHeartbeats 400000 in
theorem move_any (s : Nat) (hs : s < 4294967296) (w : World) :
    Calls Try.prog 48 #[.int .u32 (s : Int)] w fun e w' => e = .returned (.int .u32 (OctCrc.sts 8 s : Nat)) ∧ w = w' := by
  go_enter Try.func48, Try.ntmps48
  go_wp2
  go_loop [0, 3] (fun v i => ∃ k t : Nat, k ≤ 8 ∧ i = .int .i64 k ∧ t < 4294967296 ∧ v = .int .u32 (t : Nat) ∧ OctCrc.sts (8 - k) t = OctCrc.sts 8 s) (fun _ i => 8 - (intOf i).toNat)
  case atStart => exact ⟨0, s, by omega, rfl, hs, rfl, rfl⟩
  case round =>
    obtain ⟨k, t, hk, rfl, ht, rfl, he⟩ := hrel
    have HE := Lib.hid he
    clear he
    by_cases hlt : k < 8
    · have e2 := u32half t ht
      have hn : OctCrc.sts (8 - k) t = OctCrc.sts (8 - (k + 1)) (OctCrc.st t) := by rw [show 8 - k = (8 - (k + 1)) + 1 by omega]; rfl
      have HN := Lib.hid hn
      have HL := Lib.hid (OctCrc.st_lt t ht)
      clear hn
      by_cases h : t % 2 = 1
      · have HS := Lib.hid (show OctCrc.st t = t / 2 ^^^ 3988292384 by simp [OctCrc.st, h])
        have hm : ((t : Int) % 2 == 1) = true := by simp; omega
        clear h
        go_wp2
        go_round
        case rel => exact ⟨k + 1, OctCrc.st t, by omega, by go_num, HL.out, by rw [HS.out]; try rfl, by rw [← HN.out, HE.out]⟩
        case measure => simp [intOf]; omega
      · have HS := Lib.hid (show OctCrc.st t = t / 2 by simp [OctCrc.st, h])
        have hm : ((t : Int) % 2 == 1) = false := by simp; omega
        clear h
        go_wp2
        go_round
        case rel => exact ⟨k + 1, OctCrc.st t, by omega, by go_num, HL.out, by rw [HS.out]; try rfl, by rw [← HN.out, HE.out]⟩
        case measure => simp [intOf]; omega
    · go_wp2
      go_ret
      exact ⟨ret_u32 (by have h1 := HE.out; rw [show 8 - k = 0 by omega] at h1; exact h1), rfl⟩
theorem u32xor (a b : Nat) (ha : a < 4294967296) (hb : b < 4294967296) : bits .xor .u32 (a : Int) (b : Int) = ((a ^^^ b : Nat) : Int) := u32_xor_nat a b ha hb

end Go.Proofs.Ytdekfbmjhmfmaaa
