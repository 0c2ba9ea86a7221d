/- One bit of a byte turned: another byte. No program is named here. -/
import Derived.WalkKit
import Derived.WalkSpells
import Derived.WalkLawsBesides
namespace Go.Oct
open Go.RowKit

theorem turned_byte (b : UInt8) (r : Nat) (hr : r < 8) : ∃ y : UInt8, b ≠ y ∧ bits .xor .u8 (b.toNat : Int) ((2 : Int) ^ r % 256) = (y.toNat : Int) := by
  have hp : (2 : Nat) ^ r < 256 := by
    have := Nat.pow_lt_pow_of_lt (a := 2) (n := r) (m := 8) (by decide) hr; simpa using this
  have hp0 : 0 < (2 : Nat) ^ r := Nat.pow_pos (by decide)
  have e : ((2 : Int) ^ r % 256) = ((2 ^ r : Nat) : Int) := by
    have h1 : (2 : Int) ^ r = ((2 ^ r : Nat) : Int) := by simp
    rw [h1]; omega
  have hb := b.toNat_lt
  have hx : b.toNat ^^^ 2 ^ r < 256 := Nat.xor_lt_two_pow (n := 8) hb hp
  refine ⟨UInt8.ofNat (b.toNat ^^^ 2 ^ r), ?_, ?_⟩
  · intro hE
    have h1 : b.toNat = b.toNat ^^^ 2 ^ r := by
      have := congrArg UInt8.toNat hE
      rwa [UInt8.toNat_ofNat_of_lt' (by simpa [UInt8.size] using hx)] at this
    have h2 : (2 : Nat) ^ r = 0 := by
      have := congrArg (b.toNat ^^^ ·) h1
      simp only [← Nat.xor_assoc, Nat.xor_self, Nat.zero_xor] at this
      exact this.symm
    omega
  · rw [e, u8_xor_nat _ _ hb hp, UInt8.toNat_ofNat_of_lt' (by simpa [UInt8.size] using hx)]
end Go.Oct
