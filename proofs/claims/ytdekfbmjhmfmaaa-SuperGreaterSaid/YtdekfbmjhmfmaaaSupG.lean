/- The walks of super.Place and of the layer's awake. -/
import Derived.Test.YtdekfbmjhmfmaaaSupF
namespace Go.Proofs.Ytdekfbmjhmfmaaa
open Go.RowKit Go.Oct

theorem i64and1 (n : Int) : bits .and .i64 n 1 = n % 2 := by
  show IntKind.i64.wrap ((BitVec.ofInt 64 n &&& BitVec.ofInt 64 1).toNat : Int) = _
  rw [BitVec.toNat_and, show (BitVec.ofInt 64 1).toNat = 1 from rfl, Nat.and_one_is_mod, IntKind.wrap_i64, BitVec.toNat_ofInt]
  omega
theorem place_any (n : Int) (w : World) : Calls Try.prog 36 #[.int .i64 n] w fun e w' => e = .returned (.int .i64 (64 * (n % 2))) ∧ w = w' := by
  have h := i64and1 n
  have h0 : 0 ≤ n % 2 := by omega
  have h1 : n % 2 ≤ 1 := by omega
  obtain ⟨m, hm⟩ : ∃ m, m = n % 2 := ⟨_, rfl⟩
  rw [← hm] at h h0 h1 ⊢
  clear hm
  go_enter Try.func36, Try.ntmps36
  go_wp2
  go_ret
  exact ⟨rfl, rfl⟩
def wakeBody : List UInt8 := [111, 99, 116, 97, 118, 111, 48, 49, 3, 0, 0, 0, 0, 0, 2, 0, 0, 0, 0, 7, 0, 0, 0, 9, 0, 0, 0] ++ List.replicate 33 0
theorem wake_body : supBody 3 2 0 7 9 = wakeBody := by decide +kernel
set_option maxHeartbeats 1000000 in
theorem awake16_any (w : World) : Calls Try.prog 17 #[] w fun e w' => e = .returned (.bool true) ∧ Below w.heap.size w w' := by
  have hM : supMay 3 2 0 7 9 := by decide
  obtain ⟨ho, f1, _⟩ := supOpen_pack hM
  have HPL := Lib.hid (supPack_len hM)
  have HC := Lib.hid (show supCode 3 2 0 7 9 = 0 by decide)
  have hP : supPack 3 2 0 7 9 = wakeBody ++ numBytes (OctCrc.crc wakeBody : Nat) 4 := by rw [supPack, if_pos hM, wake_body]
  generalize numBytes (OctCrc.crc wakeBody : Nat) 4 = S at hP
  have HO := Lib.hid ho
  have HG := Lib.hid (show supOf (supPack 3 2 0 7 9) 8 6 = 3 by simp only [supOf, ho, if_true]; omega)
  obtain ⟨P, hPE⟩ : ∃ P, supPack 3 2 0 7 9 = P := ⟨_, rfl⟩
  rw [hPE] at HPL hP HO HG
  have HPE := Lib.hid hPE
  clear hPE ho f1 hM
  have HP8 := Lib.hid (show P.take 8 = [111, 99, 116, 97, 118, 111, 48, 49] by rw [hP]; rfl)
  have hc8 : ∀ (h : 8 < P.length), P[8] = 3 := fun h => by simp only [hP]; rfl
  have hc14 : ∀ (h : 14 < P.length), P[14] = 2 := fun h => by simp only [hP]; rfl
  have hc19 : ∀ (h : 19 < P.length), P[19] = 7 := fun h => by simp only [hP]; rfl
  have hc23 : ∀ (h : 23 < P.length), P[23] = 9 := fun h => by simp only [hP]; rfl
  have H8 := Lib.hid hc8
  have H14 := Lib.hid hc14
  have H19 := Lib.hid hc19
  have H23 := Lib.hid hc23
  clear hc8 hc14 hc19 hc23 hP
  go_enter Try.func17, Try.ntmps17
  go_wp2_with fail
  refine (superPack_any 3 2 0 7 9 _).mono ?_
  rintro e w1 ⟨v, rfl, hown, hx1⟩
  rw [HPE.out, HPL.out] at hown
  rw [HC.out]
  obtain ⟨g, cp, hf⟩ := Joins.ownsRow_form hown (by decide)
  subst hf
  have HB1 := Lib.hid (show Bytes w1 (.slice (some ⟨g, 0, none⟩) 64 cp) P by unfold Bytes; rw [HPL.out]; exact Has.own hown)
  have hcp : 64 ≤ cp := by obtain ⟨_, _, h, h2, _⟩ := HB1.out; simp only [Value.slice.injEq] at h; rw [HPL.out] at h2; omega
  have hcm : cp ≤ 9223372036854775807 := by obtain ⟨_, _, h, _, h2, _⟩ := HB1.out; simp only [Value.slice.injEq] at h; unfold maxLen at h2; omega
  clear hown
  go_wp2_with fail
  refine (superOpen_any _ P _ HB1.out).mono ?_
  rintro e w2 ⟨rfl, hx2⟩
  rw [HG.out, HO.out]
  have hw2 := hx1.trans (hx2.mono hx1.size)
  have hB2 := HB1.out.below hx2
  obtain ⟨_, _, hf, _, _, hcs⟩ := hB2.open
  simp only [Value.slice.injEq] at hf
  obtain ⟨rfl, -, rfl⟩ := hf
  obtain ⟨b, o, hf, hcs⟩ := hcs (by rw [HPL.out]; decide)
  simp only [Option.some.injEq, Addr.mk.injEq, and_true] at hf
  obtain ⟨rfl, rfl⟩ := hf
  have c8 : w2.cell? ⟨g, 8, none⟩ = some (.int .u8 3) := by have := hcs 8 (by rw [HPL.out]; decide); rw [H8.out] at this; exact this
  have c14 : w2.cell? ⟨g, 14, none⟩ = some (.int .u8 2) := by have := hcs 14 (by rw [HPL.out]; decide); rw [H14.out] at this; exact this
  have c19 : w2.cell? ⟨g, 19, none⟩ = some (.int .u8 7) := by have := hcs 19 (by rw [HPL.out]; decide); rw [H19.out] at this; exact this
  have c23 : w2.cell? ⟨g, 23, none⟩ = some (.int .u8 9) := by have := hcs 23 (by rw [HPL.out]; decide); rw [H23.out] at this; exact this
  have hgl : g < w2.heap.size := World.block_lt_of_cell? w2 _ c8
  have ht := hB2.take 8 (by decide)
  rw [HP8.out] at ht
  have hcv : ∀ o, (convert 24 9 (.slice (some ⟨g, 0, none⟩) 8 cp)).run Try.prog (w2.alloc o) = .ok (.string ⟨#[111, 99, 116, 97, 118, 111, 48, 49]⟩) (w2.alloc o) := fun o =>
    Bytes.text (P := Try.prog) (ht.alloc o) (by decide) 24 5 9 Try.underlying24 Try.underlying5 Try.underlying9
  clear hx1 hx2 hB2 ht hcs
  go_wp2_with fail
  refine (place_any 3 _).mono ?_
  rintro e w' ⟨rfl, rfl⟩
  go_wp2_with fail
  go_ret
  exact ⟨rfl, below_new hw2 _⟩
end Go.Proofs.Ytdekfbmjhmfmaaa
