/- The walks of the product of two sums and of the document's own joining. -/
import Derived.Test.YtdofdegicdkhlaaCrcA
namespace Go.Proofs.Ytdofdegicdkhlaa
open Go.RowKit

set_option maxHeartbeats 400000 in
theorem refJoin_any (a b : Nat) (n : Int) (ha : a < 4294967296) (hb : b < 4294967296) (hn : n ≤ 9223372036854775807) (w : World) :
    Calls Try.prog 21 #[.int .u32 (a : Int), .int .u32 (b : Int), .int .i64 n] w fun e w' => e = .returned (.int .u32 (OctCrc.join a b n.toNat : Nat)) ∧ w = w' := by
  go_enter Try.func21, Try.ntmps21
  go_wp2
  go_loop [0, 7] (fun v i => ∃ k t : Nat, k ≤ n.toNat ∧ i = .int .i64 k ∧ t < 4294967296 ∧ v = .int .u32 (t : Nat) ∧ t = OctCrc.sts (8 * k) a) (fun _ i => n.toNat - (intOf i).toNat)
  case atStart => exact ⟨0, a, by omega, rfl, ha, rfl, rfl⟩
  case round =>
    obtain ⟨k, t, hk, rfl, ht, rfl, he⟩ := hrel
    have HE := Lib.hid he
    clear he
    by_cases hlt : (k : Int) < n
    · go_wp2_with (go_at_call 43; refine (move_any t ht _).mono ?_; rintro e w' ⟨rfl, rfl⟩)
      go_round
      case rel => exact ⟨k + 1, OctCrc.sts 8 t, by omega, by go_num, OctCrc.sts_lt _ _ ht, rfl, by rw [HE.out, ← OctCrc.sts_add, Nat.mul_add]⟩
      case measure => simp [intOf]; omega
    · have e1 := u32xor t b ht hb
      go_wp2
      go_ret
      exact ⟨ret_u32 (by have h1 := HE.out; rw [show k = n.toNat by omega] at h1; rw [h1]; rfl), rfl⟩

set_option maxHeartbeats 400000 in
theorem times_any (a b : Nat) (ha : a < 4294967296) (hb : b < 4294967296) (w : World) :
    Calls Try.prog 44 #[.int .u32 (a : Int), .int .u32 (b : Int)] w fun e w' => e = .returned (.int .u32 (OctCrc.times a b : Nat)) ∧ w = w' := by
  go_enter Try.func44, Try.ntmps44
  go_wp2
  go_loop [1, 5, 6] (fun v o i => ∃ k t out m : Nat, k ≤ 32 ∧ m = 2 ^ k / 2 ∧ i = .int .u32 m ∧ t < 4294967296 ∧ out < 4294967296 ∧ v = .int .u32 (t : Nat) ∧ o = .int .u32 (out : Nat) ∧ OctCrc.timesFrom a k out t = OctCrc.times a b) (fun _ _ i => (intOf i).toNat)
  case atStart => exact ⟨32, b, 0, 2147483648, by omega, by decide, rfl, hb, by omega, rfl, rfl, rfl⟩
  case round =>
    obtain ⟨k, t, out, m, hk, hm, rfl, ht, ho, rfl, rfl, he⟩ := hrel
    have HE := Lib.hid he
    have HM := Lib.hid hm
    clear he hm
    by_cases hlt : k = 0
    · have h0 : m = 0 := by rw [HM.out, hlt]
      subst h0
      go_wp2
      go_ret
      exact ⟨ret_u32 (by rw [← HE.out, hlt]; rfl), rfl⟩
    · obtain ⟨j, rfl⟩ : ∃ j, k = j + 1 := ⟨k - 1, by omega⟩
      have hm2 : m = 2 ^ j := by rw [HM.out, Nat.pow_succ]; omega
      have hp : 0 < 2 ^ j := Nat.pow_pos (by decide)
      have hp2 : 2 ^ j < 4294967296 := by
        have := Nat.pow_lt_pow_of_lt (a := 2) (n := j) (m := 32) (by decide) (by omega); simpa using this
      have hpos : ((m : Int) != 0) = true := by rw [bne_iff_ne]; omega
      have hml : 0 < m := by omega
      have hm4 : m < 4294967296 := by omega
      have hh : m / 2 = 2 ^ j / 2 := by rw [hm2]
      have HH := Lib.hid hh
      have HX := Lib.hid (u32xor out t ho ht)
      have hxl : out ^^^ t < 4294967296 := Nat.xor_lt_two_pow (n := 32) ho ht
      have HN := Lib.hid (show OctCrc.timesFrom a (j + 1) out t = OctCrc.timesFrom a j (if a.testBit j then out ^^^ t else out) (OctCrc.st t) from rfl)
      have ea := u32_and_nat a m ha hm4
      have hbit : a &&& m = if a.testBit j then m else 0 := by
        rw [hm2, OctCrc.and_bit]
      rw [hbit] at ea
      clear hbit hh hm2 hp hp2
      cases htb : a.testBit j
      · have hc : (bits .and .u32 (a : Int) (m : Int) != 0) = false := by rw [ea, htb]; rfl
        have HB := Lib.hid htb
        clear htb ea
        go_wp2_with (go_at_call 42; refine (step_any t ht _).mono ?_; rintro e w' ⟨rfl, rfl⟩)
        go_round
        case rel => exact ⟨j, OctCrc.st t, out, m / 2, by omega, HH.out, by go_num, OctCrc.st_lt _ ht, ho, rfl, rfl, by rw [← HE.out, HN.out, HB.out]; rfl⟩
        case measure => simp [intOf]; omega
      · have hc : (bits .and .u32 (a : Int) (m : Int) != 0) = true := by rw [ea, htb, bne_iff_ne]; simp; omega
        have HB := Lib.hid htb
        clear htb ea
        have hx := HX.out
        go_wp2_with (go_at_call 42; refine (step_any t ht _).mono ?_; rintro e w' ⟨rfl, rfl⟩)
        go_round
        case rel => exact ⟨j, OctCrc.st t, out ^^^ t, m / 2, by omega, HH.out, by go_num, OctCrc.st_lt _ ht, hxl, rfl, rfl, by rw [← HE.out, HN.out, HB.out]; rfl⟩
        case measure => simp [intOf]; omega
end Go.Proofs.Ytdofdegicdkhlaa
