/- The walks of the two readings of bytes as a number. -/
import Derived.Test.YtcmoajbdepohmaaLeB
namespace Go.Proofs.Ytcmoajbdepohmaa
open Go.RowKit Go.Oct

theorem i64_ofInt (a : Nat) (ha : a < 9223372036854775808) : (BitVec.ofInt 64 (a : Int)).toNat = a := by
  rw [BitVec.ofInt_natCast, BitVec.toNat_ofNat]; exact Nat.mod_eq_of_lt (by omega)
theorem i64_or_byte (v b : Nat) (hv : v ≤ 36028797018963967) (hb : b < 256) : bits .or .i64 ((v : Int) * 256) (b : Int) = ((b + 256 * v : Nat) : Int) := by
  have e : ((v : Int) * 256) = ((v * 256 : Nat) : Int) := by omega
  rw [e]
  show IntKind.i64.wrap ((BitVec.ofInt 64 ((v * 256 : Nat) : Int) ||| BitVec.ofInt 64 (b : Int)).toNat : Int) = _
  rw [BitVec.toNat_or, i64_ofInt _ (by omega), i64_ofInt _ (by omega), IntKind.wrap_i64]
  have h := Nat.shiftLeft_add_eq_or_of_lt (b := b) (i := 8) (by omega) v
  rw [Nat.shiftLeft_eq] at h
  rw [show v * 256 = v * 2 ^ 8 by rfl, ← h]
  omega
theorem valCode_arg {l : List UInt8} (h : l.length < 1 ∨ 8 < l.length) : valCode l = 1 := by simp only [valCode, if_pos h]
theorem valCode_range {l : List UInt8} (h : ¬ (l.length < 1 ∨ 8 < l.length)) (h2 : 9223372036854775808 ≤ numVal l) : valCode l = 2 := by simp only [valCode, if_neg h, if_pos h2]
theorem valCode_ok {l : List UInt8} (h : ¬ (l.length < 1 ∨ 8 < l.length)) (h2 : numVal l < 9223372036854775808) : valCode l = 0 := by
  simp only [valCode, if_neg h, if_neg (show ¬ 9223372036854775808 ≤ numVal l by omega)]
/-- what a reading of bytes answers -/
def IntPost (l : List UInt8) (w : World) (e : Ending) (w' : World) : Prop := e = .returned (.tuple #[.int .i64 (numOf l : Nat), .int .i64 (valCode l : Nat)]) ∧ w = w'
theorem int_bad {l : List UInt8} {c : Nat} (h : valCode l = c) (hc : c ≠ 0) (w : World) (e : Ending) (he : e = .returned (.tuple #[.int .i64 0, .int .i64 (c : Int)])) : IntPost l w e w := by
  refine ⟨?_, rfl⟩
  rw [he]
  simp [numOf, h, hc]
set_option maxHeartbeats 400000 in
theorem leInt_any (v : Value) (l : List UInt8) (w : World) (hb : Bytes w v l) : Calls Try.prog 20 #[v] w (IntPost l w) := by
  obtain ⟨a, cap, rfl, hcap, hmax, hcells⟩ := hb.open
  unfold maxLen at hmax
  by_cases h1 : l.length < 1
  · have HC := Lib.hid (valCode_arg (l := l) (.inl h1))
    go_enter Try.func20, Try.ntmps20
    go_wp2
    go_ret2
    exact int_bad HC.out (by decide) _ _ rfl
  by_cases h2 : 8 < l.length
  · have HC := Lib.hid (valCode_arg (l := l) (.inr h2))
    go_enter Try.func20, Try.ntmps20
    go_wp2
    go_ret2
    exact int_bad HC.out (by decide) _ _ rfl
  obtain ⟨b, o, rfl, hcs⟩ := hcells (by omega)
  clear hcells hb
  have hall : ¬ (l.length < 1 ∨ 8 < l.length) := by omega
  by_cases h3 : 9223372036854775808 ≤ numVal l
  · have HC := Lib.hid (valCode_range hall h3)
    have h8 : l.length = 8 := by
      rcases Nat.lt_or_ge l.length 8 with h | h
      · have := numVal_seven l h; omega
      · omega
    have h7 : 127 < (l[7]'(by omega)).toNat := by rw [numVal_eight l h8] at h3; omega
    have hc7 := hcs 7 (by omega)
    obtain ⟨t, ht⟩ : ∃ t : UInt8, t = l[7]'(by omega) := ⟨_, rfl⟩
    rw [← ht] at hc7 h7
    clear ht
    have e8 : ((l.length : Int) == 8) = true := by simp [h8]
    have p8 : (7 : Int) < (l.length : Int) := by omega
    have g7 : (127 : Int) < (t.toNat : Int) := by omega
    clear h3 hcs hall h8 h7
    go_enter Try.func20, Try.ntmps20
    go_wp2
    go_ret2
    exact int_bad HC.out (by decide) _ _ rfl
  · have HC := Lib.hid (valCode_ok hall (by omega))
    have HV := Lib.hid (show numOf l = numVal l by simp [numOf, HC.out])
    have hlt63 : numVal l < 9223372036854775808 := by omega
    have hloop : ∀ (K : Prop), K → K := fun _ h => h
    have HCS := Lib.hid hcs
    have HL := Lib.hid hlt63
    by_cases h8 : l.length = 8
    · have h7 : ¬ 127 < (l[7]'(by omega)).toNat := by rw [numVal_eight l h8] at h3; omega
      have hc7 := hcs 7 (by omega)
      obtain ⟨t, ht⟩ : ∃ t : UInt8, t = l[7]'(by omega) := ⟨_, rfl⟩
      rw [← ht] at hc7 h7
      clear ht
      have e8 : ((l.length : Int) == 8) = true := by simp [h8]
      have p8 : (7 : Int) < (l.length : Int) := by omega
      have g7 : ¬ (127 : Int) < (t.toNat : Int) := by omega
      clear h3 hcs hall h8 h7 hloop hlt63
      go_enter Try.func20, Try.ntmps20
      go_wp2
      clear e8 p8 g7 hc7
      go_loop [4, 5] (fun n i => ∃ (j : Nat) (z : Int), j ≤ l.length ∧ z = (j : Int) - 1 ∧ i = .int .i64 z ∧ n = .int .i64 (numVal (l.drop j) : Nat)) (fun _ i => (intOf i + 1).toNat)
      case atStart => exact ⟨l.length, _, Nat.le_refl _, rfl, rfl, by rw [List.drop_length]; rfl⟩
      case round =>
        obtain ⟨j, z, hj, hz, rfl, rfl⟩ := hrel
        by_cases h0 : j = 0
        · have HJ := Lib.hid h0
          have hz1 : z < 0 := by omega
          clear hz h0
          go_wp2
          go_ret2
          exact ⟨by rw [HV.out, HC.out, HJ.out]; rfl, rfl⟩
        · obtain ⟨p, rfl⟩ : ∃ p, j = p + 1 := ⟨j - 1, by omega⟩
          obtain rfl : z = (p : Int) := by omega
          clear hz h0
          have hcell := HCS.out p (by omega)
          have hd := numVal_drop l p (by omega)
          have hd2 := numVal_drop_le l p
          have hv : numVal (l.drop (p + 1)) ≤ 36028797018963967 := by have := HL.out; omega
          have hor := i64_or_byte (numVal (l.drop (p + 1))) (l[p]'(by omega)).toNat hv (UInt8.toNat_lt _)
          have HD := Lib.hid hd
          have hb0 : ((l[p]'(by omega)).toNat : Int) ≤ 255 := by have := UInt8.toNat_lt (l[p]'(by omega)); omega
          have hb1 : (0 : Int) ≤ ((l[p]'(by omega)).toNat : Int) := by omega
          obtain ⟨q, hq⟩ : ∃ q, q = numVal (l.drop (p + 1)) := ⟨_, rfl⟩
          rw [← hq] at hv hor HD ⊢
          clear hd hd2 hq
          go_wp2
          go_round
          case rel => exact ⟨p, (p : Int) - 1, by omega, rfl, by go_num, by rw [HD.out]; go_num⟩
          case measure => simp [intOf]
    · have e8 : ((l.length : Int) == 8) = false := by simp; omega
      clear h3 hcs hall h8 hloop hlt63
      go_enter Try.func20, Try.ntmps20
      go_wp2
      clear e8
      go_loop [4, 5] (fun n i => ∃ (j : Nat) (z : Int), j ≤ l.length ∧ z = (j : Int) - 1 ∧ i = .int .i64 z ∧ n = .int .i64 (numVal (l.drop j) : Nat)) (fun _ i => (intOf i + 1).toNat)
      case atStart => exact ⟨l.length, _, Nat.le_refl _, rfl, rfl, by rw [List.drop_length]; rfl⟩
      case round =>
        obtain ⟨j, z, hj, hz, rfl, rfl⟩ := hrel
        by_cases h0 : j = 0
        · have HJ := Lib.hid h0
          have hz1 : z < 0 := by omega
          clear hz h0
          go_wp2
          go_ret2
          exact ⟨by rw [HV.out, HC.out, HJ.out]; rfl, rfl⟩
        · obtain ⟨p, rfl⟩ : ∃ p, j = p + 1 := ⟨j - 1, by omega⟩
          obtain rfl : z = (p : Int) := by omega
          clear hz h0
          have hcell := HCS.out p (by omega)
          have hd := numVal_drop l p (by omega)
          have hd2 := numVal_drop_le l p
          have hv : numVal (l.drop (p + 1)) ≤ 36028797018963967 := by have := HL.out; omega
          have hor := i64_or_byte (numVal (l.drop (p + 1))) (l[p]'(by omega)).toNat hv (UInt8.toNat_lt _)
          have HD := Lib.hid hd
          have hb0 : ((l[p]'(by omega)).toNat : Int) ≤ 255 := by have := UInt8.toNat_lt (l[p]'(by omega)); omega
          have hb1 : (0 : Int) ≤ ((l[p]'(by omega)).toNat : Int) := by omega
          obtain ⟨q, hq⟩ : ∃ q, q = numVal (l.drop (p + 1)) := ⟨_, rfl⟩
          rw [← hq] at hv hor HD ⊢
          clear hd hd2 hq
          go_wp2
          go_round
          case rel => exact ⟨p, (p : Int) - 1, by omega, rfl, by go_num, by rw [HD.out]; go_num⟩
          case measure => simp [intOf]
set_option maxHeartbeats 400000 in
theorem refInt_any (v : Value) (l : List UInt8) (w : World) (hb : Bytes w v l) : Calls Try.prog 21 #[v] w (IntPost l w) := by
  obtain ⟨a, cap, rfl, hcap, hmax, hcells⟩ := hb.open
  unfold maxLen at hmax
  by_cases h1 : l.length < 1
  · have HC := Lib.hid (valCode_arg (l := l) (.inl h1))
    go_enter Try.func21, Try.ntmps21
    go_wp2
    go_ret2
    exact int_bad HC.out (by decide) _ _ rfl
  by_cases h2 : 8 < l.length
  · have HC := Lib.hid (valCode_arg (l := l) (.inr h2))
    go_enter Try.func21, Try.ntmps21
    go_wp2
    go_ret2
    exact int_bad HC.out (by decide) _ _ rfl
  obtain ⟨b, o, rfl, hcs⟩ := hcells (by omega)
  clear hcells hb
  have hall : ¬ (l.length < 1 ∨ 8 < l.length) := by omega
  by_cases h3 : 9223372036854775808 ≤ numVal l
  · have HC := Lib.hid (valCode_range hall h3)
    have h8 : l.length = 8 := by
      rcases Nat.lt_or_ge l.length 8 with h | h
      · have := numVal_seven l h; omega
      · omega
    have h7 : 127 < (l[7]'(by omega)).toNat := by rw [numVal_eight l h8] at h3; omega
    have hc7 := hcs 7 (by omega)
    obtain ⟨t, ht⟩ : ∃ t : UInt8, t = l[7]'(by omega) := ⟨_, rfl⟩
    rw [← ht] at hc7 h7
    clear ht
    have e8 : ((l.length : Int) == 8) = true := by simp [h8]
    have p8 : (7 : Int) < (l.length : Int) := by omega
    have g7 : (128 : Int) ≤ (t.toNat : Int) := by omega
    clear h3 hcs hall h8 h7
    go_enter Try.func21, Try.ntmps21
    go_wp2
    go_ret2
    exact int_bad HC.out (by decide) _ _ rfl
  · have HC := Lib.hid (valCode_ok hall (by omega))
    have HV := Lib.hid (show numOf l = numVal l by simp [numOf, HC.out])
    have hlt63 : numVal l < 9223372036854775808 := by omega
    have hloop : ∀ (K : Prop), K → K := fun _ h => h
    have HCS := Lib.hid hcs
    have HL := Lib.hid hlt63
    by_cases h8 : l.length = 8
    · have h7 : ¬ 127 < (l[7]'(by omega)).toNat := by rw [numVal_eight l h8] at h3; omega
      have hc7 := hcs 7 (by omega)
      obtain ⟨t, ht⟩ : ∃ t : UInt8, t = l[7]'(by omega) := ⟨_, rfl⟩
      rw [← ht] at hc7 h7
      clear ht
      have e8 : ((l.length : Int) == 8) = true := by simp [h8]
      have p8 : (7 : Int) < (l.length : Int) := by omega
      have g7 : ¬ (128 : Int) ≤ (t.toNat : Int) := by omega
      clear h3 hcs hall h8 h7 hloop hlt63
      go_enter Try.func21, Try.ntmps21
      go_wp2
      clear e8 p8 g7 hc7
      go_loop [4, 5] (fun n i => ∃ j : Nat, j ≤ l.length ∧ i = .int .i64 j ∧ n = .int .i64 (numVal (l.drop (l.length - j)) : Nat)) (fun _ i => l.length - (intOf i).toNat)
      case atStart => exact ⟨0, Nat.zero_le _, rfl, by rw [Nat.sub_zero, List.drop_length]; rfl⟩
      case round =>
        obtain ⟨j, hj, rfl, rfl⟩ := hrel
        by_cases h0 : j < l.length
        · obtain ⟨p, hp⟩ : ∃ p, p = l.length - 1 - j := ⟨_, rfl⟩
          have hcell := HCS.out p (by omega)
          have hd := numVal_drop l p (by omega)
          have hd2 := numVal_drop_le l p
          have hv : numVal (l.drop (p + 1)) ≤ 36028797018963967 := by have := HL.out; omega
          have HD := Lib.hid hd
          have hb0 : ((l[p]'(by omega)).toNat : Int) ≤ 255 := by have := UInt8.toNat_lt (l[p]'(by omega)); omega
          have hb1 : (0 : Int) ≤ ((l[p]'(by omega)).toNat : Int) := by omega
          have HP := Lib.hid (show l.length - j = p + 1 by omega)
          have HP2 := Lib.hid (show l.length - (j + 1) = p by omega)
          rw [HP.out]
          obtain ⟨q, hq⟩ : ∃ q, q = numVal (l.drop (p + 1)) := ⟨_, rfl⟩
          rw [← hq] at hv HD ⊢
          obtain ⟨t, ht⟩ : ∃ t : UInt8, t = l[p]'(by omega) := ⟨_, rfl⟩
          rw [← ht] at hcell HD hb0 hb1
          rw [hp] at hcell
          clear hd hd2 hq ht hp
          go_wp2
          go_round
          case rel => exact ⟨j + 1, by omega, by go_num, by rw [HP2.out, HD.out]; go_num⟩
          case measure => simp [intOf]; omega
        · have HJ := Lib.hid (show l.length - j = 0 by omega)
          go_wp2
          go_ret2
          exact ⟨by rw [HV.out, HC.out, HJ.out]; rfl, rfl⟩
    · have e8 : ((l.length : Int) == 8) = false := by simp; omega
      clear h3 hcs hall h8 hloop hlt63
      go_enter Try.func21, Try.ntmps21
      go_wp2
      clear e8
      go_loop [4, 5] (fun n i => ∃ j : Nat, j ≤ l.length ∧ i = .int .i64 j ∧ n = .int .i64 (numVal (l.drop (l.length - j)) : Nat)) (fun _ i => l.length - (intOf i).toNat)
      case atStart => exact ⟨0, Nat.zero_le _, rfl, by rw [Nat.sub_zero, List.drop_length]; rfl⟩
      case round =>
        obtain ⟨j, hj, rfl, rfl⟩ := hrel
        by_cases h0 : j < l.length
        · obtain ⟨p, hp⟩ : ∃ p, p = l.length - 1 - j := ⟨_, rfl⟩
          have hcell := HCS.out p (by omega)
          have hd := numVal_drop l p (by omega)
          have hd2 := numVal_drop_le l p
          have hv : numVal (l.drop (p + 1)) ≤ 36028797018963967 := by have := HL.out; omega
          have HD := Lib.hid hd
          have hb0 : ((l[p]'(by omega)).toNat : Int) ≤ 255 := by have := UInt8.toNat_lt (l[p]'(by omega)); omega
          have hb1 : (0 : Int) ≤ ((l[p]'(by omega)).toNat : Int) := by omega
          have HP := Lib.hid (show l.length - j = p + 1 by omega)
          have HP2 := Lib.hid (show l.length - (j + 1) = p by omega)
          rw [HP.out]
          obtain ⟨q, hq⟩ : ∃ q, q = numVal (l.drop (p + 1)) := ⟨_, rfl⟩
          rw [← hq] at hv HD ⊢
          obtain ⟨t, ht⟩ : ∃ t : UInt8, t = l[p]'(by omega) := ⟨_, rfl⟩
          rw [← ht] at hcell HD hb0 hb1
          rw [hp] at hcell
          clear hd hd2 hq ht hp
          go_wp2
          go_round
          case rel => exact ⟨j + 1, by omega, by go_num, by rw [HP2.out, HD.out]; go_num⟩
          case measure => simp [intOf]; omega
        · have HJ := Lib.hid (show l.length - j = 0 by omega)
          go_wp2
          go_ret2
          exact ⟨by rw [HV.out, HC.out, HJ.out]; rfl, rfl⟩
end Go.Proofs.Ytcmoajbdepohmaa
