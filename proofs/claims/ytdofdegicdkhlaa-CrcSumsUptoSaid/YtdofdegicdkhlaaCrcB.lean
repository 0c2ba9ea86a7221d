/- The walk of crc.Join: it joins two sums as the plain law says, however long the second text is. -/
import Derived.Test.YtdofdegicdkhlaaCrcJ
namespace Go.Proofs.Ytdofdegicdkhlaa
open Go.RowKit

theorem i64and1 (q : Nat) (hq : q < 9223372036854775808) : bits .and .i64 (q : Int) 1 = ((q % 2 : Nat) : Int) := by
  show IntKind.i64.wrap ((BitVec.ofInt 64 (q : Int) &&& BitVec.ofInt 64 (1 : Int)).toNat : Int) = _
  have e1 : (BitVec.ofInt 64 (q : Int)).toNat = q := by
    rw [BitVec.ofInt_natCast, BitVec.toNat_ofNat]; exact Nat.mod_eq_of_lt (by omega)
  have e2 : (BitVec.ofInt 64 (1 : Int)).toNat = 1 := by decide
  rw [BitVec.toNat_and, e1, e2, Nat.and_one_is_mod, IntKind.wrap_i64]
  omega

set_option maxHeartbeats 400000 in
theorem join_any (a b : Nat) (n : Int) (ha : a < 4294967296) (hb : b < 4294967296) (hn : n ≤ 9223372036854775807) (w : World) :
    Calls Try.prog 20 #[.int .u32 (a : Int), .int .u32 (b : Int), .int .i64 n] w fun e w' => e = .returned (.int .u32 (OctCrc.join a b n.toNat : Nat)) ∧ w = w' := by
  go_enter Try.func20, Try.ntmps20
  go_wp2
  go_loop [0, 2, 7] (fun v i p => ∃ (t m pw : Nat) (z : Int), z ≤ 9223372036854775807 ∧ i = .int .i64 z ∧ t < 4294967296 ∧ v = .int .u32 (t : Nat) ∧ pw < 4294967296 ∧ p = .int .u32 (pw : Nat) ∧ pw = OctCrc.sts (8 * m) 2147483648 ∧ OctCrc.sts (8 * m * z.toNat) t = OctCrc.sts (8 * n.toNat) a) (fun _ i _ => (intOf i).toNat)
  case atStart => exact ⟨a, 1, 8388608, n, hn, rfl, ha, rfl, by omega, rfl, OctCrc.join_first.symm, rfl⟩
  case round =>
    obtain ⟨t, m, pw, z, hz, rfl, ht, rfl, hpl, rfl, hpw, he⟩ := hrel
    have HE := Lib.hid he
    have HP := Lib.hid hpw
    clear he hpw
    by_cases hlt : 0 < z
    · obtain ⟨q, rfl⟩ := Int.eq_ofNat_of_zero_le (Int.le_of_lt hlt)
      have hq0 : 0 < q := by omega
      have hq1 : q < 9223372036854775808 := by omega
      have ea := i64and1 q hq1
      have HQ := Lib.hid (show OctCrc.times pw pw = OctCrc.sts (8 * (2 * m)) 2147483648 by rw [HP.out]; exact OctCrc.join_square m)
      have HQL : OctCrc.times pw pw < 4294967296 := by rw [HQ.out]; exact OctCrc.sts_lt _ _ (by decide)
      rcases Nat.mod_two_eq_zero_or_one q with h | h
      · rw [h] at ea
        have HR := Lib.hid (OctCrc.join_even t m q h)
        clear h
        go_wp2_with (go_at_call 44; refine (times_any pw pw hpl hpl _).mono ?_; rintro e w' ⟨rfl, rfl⟩)
        go_round
        case rel => exact ⟨t, 2 * m, OctCrc.times pw pw, (q / 2 : Nat), by omega, by go_num, ht, rfl, HQL, rfl, HQ.out, by rw [Int.toNat_natCast, HR.out]; exact HE.out⟩
        case measure => simp [intOf]; omega
      · rw [h] at ea
        have HR := Lib.hid (OctCrc.join_odd t m q h ht)
        clear h
        go_wp2_with fail
        refine (times_any pw t hpl ht _).mono ?_; rintro e w' ⟨rfl, rfl⟩
        go_wp2_with fail
        refine (times_any pw pw hpl hpl _).mono ?_; rintro e w' ⟨rfl, rfl⟩
        go_wp2_with fail
        go_round
        case rel => exact ⟨OctCrc.times pw t, 2 * m, OctCrc.times pw pw, (q / 2 : Nat), by omega, by go_num, by rw [HP.out, OctCrc.times_sts _ _ ht]; exact OctCrc.sts_lt _ _ ht, rfl, HQL, rfl, HQ.out, by rw [Int.toNat_natCast]; rw [HP.out, HR.out]; exact HE.out⟩
        case measure => simp [intOf]; omega
    · have e1 := u32xor t b ht hb
      go_wp2
      go_ret
      exact ⟨ret_u32 (by have h1 := HE.out; rw [show z.toNat = 0 by omega] at h1; unfold OctCrc.join; rw [← h1]; rfl), rfl⟩
theorem joinN_any (a b n : Nat) (ha : a < 4294967296) (hb : b < 4294967296) (hn : n ≤ 9223372036854775807) (w : World) :
    Calls Try.prog 20 #[.int .u32 (a : Int), .int .u32 (b : Int), .int .i64 (n : Int)] w fun e w' => e = .returned (.int .u32 (OctCrc.join a b n : Nat)) ∧ w = w' :=
  join_any a b n ha hb (by omega) w
end Go.Proofs.Ytdofdegicdkhlaa
