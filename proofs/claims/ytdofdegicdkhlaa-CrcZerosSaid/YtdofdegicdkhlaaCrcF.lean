/- The walk of CrcTurned: with any one bit turned a text has another sum. -/
import Derived.Test.YtdofdegicdkhlaaCrcE
import Derived.Test.YtdofdegicdkhlaaCopy
import Derived.Deep.AppendLies
namespace Go.Proofs.Ytdofdegicdkhlaa
open Go.RowKit Go.Oct

theorem turned_byte (b : UInt8) (r : Nat) (hr : r < 8) : ∃ y : UInt8, b ≠ y ∧ bits .xor .u8 (b.toNat : Int) ((2 : Int) ^ r % 256) = (y.toNat : Int) := by
  have hp : (2 : Nat) ^ r < 256 := by
    have := Nat.pow_lt_pow_of_lt (a := 2) (n := r) (m := 8) (by decide) hr; simpa using this
  have hp0 : 0 < (2 : Nat) ^ r := Nat.pow_pos (by decide)
  have e : ((2 : Int) ^ r % 256) = ((2 ^ r : Nat) : Int) := by
    have h1 : (2 : Int) ^ r = ((2 ^ r : Nat) : Int) := by simp
    rw [h1]; omega
  have hb := b.toNat_lt
  have hx : b.toNat ^^^ 2 ^ r < 256 := Nat.xor_lt_two_pow (n := 8) hb hp
  refine ⟨UInt8.ofNat (b.toNat ^^^ 2 ^ r), ?_, ?_⟩
  · intro hE
    have h1 : b.toNat = b.toNat ^^^ 2 ^ r := by
      have := congrArg UInt8.toNat hE
      rwa [UInt8.toNat_ofNat_of_lt' (by simpa [UInt8.size] using hx)] at this
    have h2 : (2 : Nat) ^ r = 0 := by
      have := congrArg (b.toNat ^^^ ·) h1
      simp only [← Nat.xor_assoc, Nat.xor_self, Nat.zero_xor] at this
      exact this.symm
    omega
  · rw [e, u8_xor_nat _ _ hb hp, UInt8.toNat_ofNat_of_lt' (by simpa [UInt8.size] using hx)]
set_option maxHeartbeats 400000 in
theorem crcTurned_walk (v0 : Value) (l0 : List UInt8) (bit : Int) (w : World) (B0 : Bytes w v0 l0) (n0 : l0.length ≤ 140737488351232) (w1 : (Lit.int .i64 bit).wf = true) :
    Calls Try.prog 7 #[v0, .int .i64 bit] w fun e w' => e = .returned (.bool true) ∧ Below w.heap.size w w' := by
  obtain ⟨a0, c0, rfl, hc0, hm0, _⟩ := B0.open
  unfold maxLen at hm0
  by_cases h : bit < 0
  · go_enter Try.func7, Try.ntmps7
    go_wp2_with fail
    refine (awake02_any _).mono ?_
    rintro e w1 ⟨rfl, hb1⟩
    go_wp2_with fail
    go_ret
    exact ⟨rfl, hb1⟩
  obtain ⟨q, rfl⟩ := Int.eq_ofNat_of_zero_le (Int.not_lt.1 h)
  have hq : q < 9223372036854775808 := by
    have hmax : IntKind.i64.max = 9223372036854775807 := rfl
    simp only [Lit.wf, Bool.and_eq_true, decide_eq_true_eq] at w1
    omega
  clear w1 h
  by_cases h : l0.length ≤ q / 8
  · go_enter Try.func7, Try.ntmps7
    go_wp2_with fail
    refine (awake02_any _).mono ?_
    rintro e w1 ⟨rfl, hb1⟩
    go_wp2_with fail
    go_ret
    exact ⟨rfl, hb1⟩
  have hlt : q / 8 < l0.length := by omega
  clear h
  go_enter Try.func7, Try.ntmps7
  go_wp2_with fail
  refine (copy_any _ _ _ B0 (by omega)).mono ?_
  rintro e w1 ⟨v', rfl, hown, hb1⟩
  obtain ⟨g, cap, rfl, hgb⟩ := hown.form (by omega)
  have hg := hown.lt g rfl
  have hcell := hown.cellAt (q / 8) (by omega)
  rw [bs_get l0 (q / 8) hlt] at hcell
  have hfr := hown.frozenAt (q / 8)
  go_wp2_with fail
  obtain ⟨y, hne, hy⟩ := turned_byte l0[q / 8] (q % 8) (by omega)
  rw [hy]
  clear hy
  obtain ⟨hown2, hgrow⟩ := hown.stored (q / 8) (.int .u8 (y.toNat : Int))
  rw [← bs_set] at hown2
  have hb2 : Below w.heap.size w (w1.setCell ⟨g, q / 8, none⟩ (.int .u8 (y.toNat : Int))) := hb1.setCell (by simp; omega) _
  have HC := Lib.hid (show OctCrc.crc l0 ≠ OctCrc.crc (l0.set (q / 8) y) by
    have hs : l0.set (q / 8) y = l0.take (q / 8) ++ y :: l0.drop (q / 8 + 1) := List.set_eq_take_append_cons_drop.trans (if_pos hlt)
    have ho : l0 = l0.take (q / 8) ++ l0[q / 8] :: l0.drop (q / 8 + 1) := by rw [← List.drop_eq_getElem_cons hlt, List.take_append_drop]
    rw [hs]
    conv => lhs; rw [ho]
    exact OctCrc.crc_turned _ _ _ _ hne)
  have hB2 : Bytes (w1.setCell ⟨g, q / 8, none⟩ (.int .u8 (y.toNat : Int))) (.slice (some ⟨g, 0, none⟩) l0.length cap) (l0.set (q / 8) y) := by
    have := Has.own hown2
    unfold Bytes
    rwa [List.length_set]
  have hB1 := B0.below hb2
  generalize (w1.setCell ⟨g, q / 8, none⟩ (.int .u8 (y.toNat : Int))) = w2 at hB1 hB2 hb2 ⊢
  clear hcell hfr hown hown2 hgrow
  refine (awake02_any _).mono ?_
  rintro e w3 ⟨rfl, hb3⟩
  have hB1' := hB1.below hb3
  have hB2' := hB2.below hb3
  have hb4 := hb2.trans (hb3.mono hb2.size)
  go_wp2_with fail
  refine (of_any _ [l0] _ (Pieces.one (heap_last rfl) (hB1'.alloc _))).mono ?_
  rintro e w' ⟨rfl, rfl⟩
  go_wp2_with fail
  refine (of_any _ [l0.set (q / 8) y] _ (Pieces.one (heap_last (by simp)) ((hB2'.alloc _).alloc _))).mono ?_
  rintro e w' ⟨rfl, rfl⟩
  go_wp2_with fail
  go_ret
  exact ⟨ret_bool (by rw [bne_iff_ne]; intro e; exact HC.out (by simpa using Int.ofNat.inj e)), below_new (below_new hb4 _) _⟩

theorem infoSl : (Try.prog.info? 5).map (fun i => (i.zero, i.size, i.bytes)) = some (some (.int .u8 0), 1, 1) := infoU8
set_option maxHeartbeats 400000 in
theorem crcZeros_walk (v0 : Value) (l0 : List UInt8) (n : Int) (w : World) (B0 : Bytes w v0 l0) (n0 : l0.length ≤ 140737488351232) (w1 : (Lit.int .i64 n).wf = true) :
    Calls Try.prog 9 #[v0, .int .i64 n] w fun e w' => e = .returned (.bool true) ∧ Below w.heap.size w w' := by
  obtain ⟨a0, c0, rfl, hc0, hm0, _⟩ := B0.open
  unfold maxLen at hm0
  by_cases h : n < 0
  · go_enter Try.func9, Try.ntmps9
    go_wp2_with fail
    refine (awake02_any _).mono ?_
    rintro e w1 ⟨rfl, hb1⟩
    go_wp2_with fail
    refine (awake02_any _).mono ?_
    rintro e w2 ⟨rfl, hb2⟩
    go_wp2_with fail
    go_ret
    exact ⟨rfl, hb1.trans (hb2.mono hb1.size)⟩
  by_cases h2 : 2000 < n
  · go_enter Try.func9, Try.ntmps9
    go_wp2_with fail
    refine (awake02_any _).mono ?_
    rintro e w1 ⟨rfl, hb1⟩
    go_wp2_with fail
    refine (awake02_any _).mono ?_
    rintro e w2 ⟨rfl, hb2⟩
    go_wp2_with fail
    go_ret
    exact ⟨rfl, hb1.trans (hb2.mono hb1.size)⟩
  by_cases h3 : 5000 < l0.length
  · go_enter Try.func9, Try.ntmps9
    go_wp2_with fail
    refine (awake02_any _).mono ?_
    rintro e w1 ⟨rfl, hb1⟩
    go_wp2_with fail
    refine (awake02_any _).mono ?_
    rintro e w2 ⟨rfl, hb2⟩
    go_wp2_with fail
    go_ret
    exact ⟨rfl, hb1.trans (hb2.mono hb1.size)⟩
  obtain ⟨q, rfl⟩ := Int.eq_ofNat_of_zero_le (Int.not_lt.1 h)
  clear w1 n0
  have HZ := Lib.hid (show (List.replicate q (0 : UInt8)).length = q by simp)
  have hj1 := Lib.hid (OctCrc.crc_join l0 (List.replicate q 0))
  have hj2 := Lib.hid (OctCrc.crc_join (List.replicate q 0) l0)
  obtain ⟨i0, hi, hz0, hz1, hz2⟩ := info_parts infoU8
  go_enter Try.func9, Try.ntmps9
  go_wp2_with fail
  refine (awake02_any _).mono ?_
  rintro e w1 ⟨rfl, hb1⟩
  have B0' := B0.below hb1
  have hs1 := hb1.size
  have hq : q ≤ 2000 := by omega
  have hqi : i0.bytes * q ≤ 281474976710656 := by rw [hz2]; omega
  go_wp2_with (at_make; refine wpList_make_full _ rfl _ _ 23 rfl w.heap.size 5 i0 (.int .u8 0) 1 Try.underlying23 hi hz0 hz1 .i64 .i64 _ _ q rfl rfl rfl rfl hqi ?c1 ?c2 ?c3)
  case c1 => unfold maxLen; omega
  case c2 => omega
  intro w2 hown hgrow
  have hcells : (madeCells #[Value.int .u8 0] q).toList = bs (List.replicate q 0) := by
    rw [toList_madeCells_one]; simp [bs]
  have hB2 : Bytes w2 (.slice (some ⟨w1.heap.size, 0, none⟩) q q) (List.replicate q 0) := by
    have := Has.own hown
    rw [hcells] at this
    unfold Bytes
    rwa [HZ.out]
  have hb2 : Below w.heap.size w w2 := hb1.grown hgrow hs1 (by simp)
  have hB1 := B0.below hb2
  clear hown hgrow hcells hqi hi hz0 hz1 hz2
  go_wp2_with fail
  refine (of_two _ _ l0 (List.replicate q 0) _ _ _ _ (heap_last rfl) (hB1.alloc _) (hB2.alloc _)).mono ?_
  rintro e w' ⟨rfl, rfl⟩
  go_wp2_with fail
  refine (of_one _ l0 _ _ _ _ (heap_last (by simp)) ((hB1.alloc _).alloc _)).mono ?_
  rintro e w' ⟨rfl, rfl⟩
  go_wp2_with fail
  refine (of_one _ (List.replicate q 0) _ _ _ _ (heap_last (by simp)) (((hB2.alloc _).alloc _).alloc _)).mono ?_
  rintro e w' ⟨rfl, rfl⟩
  go_wp2_with fail
  refine (joinN_any _ _ q (OctCrc.crc_lt _) (OctCrc.crc_lt _) (by omega) _).mono ?_
  rintro e w' ⟨rfl, rfl⟩
  have e1 : ((OctCrc.crc (l0 ++ List.replicate q 0) : Int) == (OctCrc.join (OctCrc.crc l0) (OctCrc.crc (List.replicate q 0)) q : Int)) = true := by
    have h1 := hj1.out
    rw [HZ.out] at h1
    exact beq_u32 h1.symm
  go_wp2_with fail
  refine (of_two _ _ (List.replicate q 0) l0 _ _ _ _ (heap_last (by simp)) ((((hB2.alloc _).alloc _).alloc _).alloc _) ((((hB1.alloc _).alloc _).alloc _).alloc _)).mono ?_
  rintro e w' ⟨rfl, rfl⟩
  go_wp2_with fail
  refine (of_one _ (List.replicate q 0) _ _ _ _ (heap_last (by simp)) (((((hB2.alloc _).alloc _).alloc _).alloc _).alloc _)).mono ?_
  rintro e w' ⟨rfl, rfl⟩
  go_wp2_with fail
  refine (of_one _ l0 _ _ _ _ (heap_last (by simp)) ((((((hB1.alloc _).alloc _).alloc _).alloc _).alloc _).alloc _)).mono ?_
  rintro e w' ⟨rfl, rfl⟩
  go_wp2_with fail
  refine (joinN_any _ _ l0.length (OctCrc.crc_lt _) (OctCrc.crc_lt _) (by omega) _).mono ?_
  rintro e w' ⟨rfl, rfl⟩
  have e2 : ((OctCrc.crc (List.replicate q 0 ++ l0) : Int) == (OctCrc.join (OctCrc.crc (List.replicate q 0)) (OctCrc.crc l0) l0.length : Int)) = true := beq_u32 hj2.out.symm
  go_wp2_with fail
  go_ret
  exact ⟨rfl, below_new (below_new (below_new (below_new (below_new (below_new hb2 _) _) _) _) _) _⟩
end Go.Proofs.Ytdofdegicdkhlaa
