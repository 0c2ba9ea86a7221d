/- The walk of CrcMixes: the sums of three texts of one length, their bits turned in one another. -/
import Derived.Test.YtdofdegicdkhlaaCrcE
import Derived.Test.YtdofdegicdkhlaaCopy
import Derived.Test.YtdofdegicdkhlaaRely
import Derived.StillTailTactics
import Derived.Deep.AppendLies
namespace Go.Proofs.Ytdofdegicdkhlaa
open Go.RowKit Go.Oct

/-- it is a slice of slices of these bytes -/
def kPieces (ls : List (List UInt8)) : Keeps := ⟨fun v w => Pieces w v ls, fun _ _ _ h k => h.below k⟩
theorem mix_length (x y z : List UInt8) : (mix x y z).length = min (min x.length y.length) z.length := by simp [mix]
theorem mix_get (x y z : List UInt8) (i : Nat) (h : i < (mix x y z).length) (hx : i < x.length) (hy : i < y.length) (hz : i < z.length) : (mix x y z)[i] = x[i] ^^^ y[i] ^^^ z[i] := by simp [mix]
theorem u8xor3 (a b c : UInt8) : bits .xor .u8 (bits .xor .u8 (a.toNat : Int) (b.toNat : Int)) (c.toNat : Int) = ((a ^^^ b ^^^ c).toNat : Int) := by
  rw [u8_xor_nat _ _ a.toNat_lt b.toNat_lt, u8_xor_nat _ _ (Nat.xor_lt_two_pow (n := 8) a.toNat_lt b.toNat_lt) c.toNat_lt, UInt8.toNat_xor, UInt8.toNat_xor]
set_option maxHeartbeats 1000000 in
theorem crcMixes_walk (v0 : Value) (l0 : List UInt8) (v1 : Value) (l1 : List UInt8) (v2 : Value) (l2 : List UInt8) (w : World) (B0 : Bytes w v0 l0) (n0 : l0.length ≤ 140737488351232) (B1 : Bytes w v1 l1) (n1 : l1.length ≤ 140737488351232) (B2 : Bytes w v2 l2) (n2 : l2.length ≤ 140737488351232) :
    Calls Try.prog 8 #[v0, v1, v2] w fun e w' => e = .returned (.bool true) ∧ Below w.heap.size w w' := by
  obtain ⟨a0, c0, rfl, hc0, hm0, hcs0⟩ := B0.open
  obtain ⟨a1, c1, rfl, hc1, hm1, hcs1⟩ := B1.open
  obtain ⟨a2, c2, rfl, hc2, hm2, hcs2⟩ := B2.open
  unfold maxLen at hm0 hm1 hm2
  obtain ⟨i0, hi, hz0, hz1, hz2⟩ := info_parts infoU8
  by_cases h0 : min (min l0.length l1.length) l2.length = 0
  · have hmin : ∀ (ts : Array TypeId) (t : TypeId) (w : World), (Builtin.min_ ts t #[.int .i64 (l0.length : Int), .int .i64 (l1.length : Int), .int .i64 (l2.length : Int)]).run Try.prog w = .ok (.int .i64 0) w := by
      intro ts t w
      rw [run_min_int3]
      congr 2
      split <;> split at * <;> omega
    have x1 := u32xor (OctCrc.crc []) (OctCrc.crc []) (OctCrc.crc_lt _) (OctCrc.crc_lt _)
    have x2 := u32xor (OctCrc.crc [] ^^^ OctCrc.crc []) (OctCrc.crc []) (Nat.xor_lt_two_pow (n := 32) (OctCrc.crc_lt _) (OctCrc.crc_lt _)) (OctCrc.crc_lt _)
    have x3 : ((OctCrc.crc [] ^^^ OctCrc.crc [] ^^^ OctCrc.crc [] : Nat) : Int) == ((OctCrc.crc [] : Nat) : Int) := beq_u32 (by rw [Nat.xor_self, Nat.zero_xor])
    clear h0 hcs0 hcs1 hcs2 hi hz0 hz1 hz2
    go_enter Try.func8, Try.ntmps8
    go_wp2_with fail
    refine wp_loop_rounds 1 ?_
    rw [rounds_succ]
    go_wp2_with fail
    refine region_each 25 [some 39, some 40, some 41, some 42, some 43, some 44, some 45, some 46, some 47, some 48, some 49, some 50, some 51, some 52, some 53, some 54, some 55, some 56, some 57, some 58, some 59, some 60, some 61, some 62, some 6] [[], [0], [1], [1], [2, 3, 1], [4, 1], [5, 1], [1], [1], [7, 8, 1], [9, 1], [10, 1], [6, 11, 1], [1], [1], [13, 14, 1], [15, 1], [16, 1], [12, 17, 1], [1], [19, 1], [20, 1], [18, 21, 1], [1, 22], [23]]
      [kIs (.bool true), kIs (.bool true), kIs (.slice a0 l0.length c0), kIs (.int .i64 0), kBytes [], kPieces [[]], kIs (.int .u32 (OctCrc.crc [] : Nat)), kIs (.slice a1 l1.length c1), kIs (.int .i64 0), kBytes [], kPieces [[]], kIs (.int .u32 (OctCrc.crc [] : Nat)), kIs (.int .u32 (OctCrc.crc [] ^^^ OctCrc.crc [] : Nat)), kIs (.slice a2 l2.length c2), kIs (.int .i64 0), kBytes [], kPieces [[]], kIs (.int .u32 (OctCrc.crc [] : Nat)), kIs (.int .u32 (OctCrc.crc [] ^^^ OctCrc.crc [] ^^^ OctCrc.crc [] : Nat)), kIs (.slice none 0 0), kPieces [[]], kIs (.int .u32 (OctCrc.crc [] : Nat)), kIs (.bool true), kIs (.bool true), kIs (.bool true)]
      (by kernel_rfl) (by kernel_rfl) (by kernel_rfl) (by kernel_rfl) ?_ ?_
    · simp only [obligsD]
      refine ⟨?_, ?_, ?_, ?_, ?_, ?_, ?_, ?_, ?_, ?_, ?_, ?_, ?_, ?_, ?_, ?_, ?_, ?_, ?_, ?_, ?_, ?_, ?_, ?_, ?_, trivial⟩
      · intro us w1 hb _
        change Oper.wp _ _ _ _ _ _
        go_simp
        refine (awake02_any _).mono ?_
        rintro e w2 ⟨rfl, hb2⟩
        exact ⟨_, rfl, hb2, rfl⟩
      · intro us w1 _ hd
        simp only [List.mem_cons, List.not_mem_nil, or_false, forall_eq, List.getD_cons_zero, List.getD_cons_succ, kIs] at hd
        simp only [putD, List.getD_cons_zero, List.getD_cons_succ, Act.put, hd]
        go_simp
        exact ⟨_, rfl, Below.refl _ _, rfl⟩
      · intro us w1 _ hd
        simp only [List.mem_cons, List.not_mem_nil, or_false, forall_eq, List.getD_cons_zero, List.getD_cons_succ, kIs] at hd
        refine ⟨fun _ => ?_, fun h => (h (by simp [hd])).elim⟩
        simp only [putD, List.getD_cons_zero, List.getD_cons_succ, Act.put, hd]
        go_simp
        exact ⟨_, rfl, Below.refl _ _, rfl⟩
      · intro us w1 _ hd
        simp only [List.mem_cons, List.not_mem_nil, or_false, forall_eq, List.getD_cons_zero, List.getD_cons_succ, kIs] at hd
        refine ⟨fun _ => ?_, fun h => (h (by simp [hd])).elim⟩
        simp only [putD, List.getD_cons_zero, List.getD_cons_succ, Act.put, hd]
        go_simp
        exact ⟨_, rfl, Below.refl _ _, rfl⟩
      · intro us w1 hb hd
        simp only [List.mem_cons, List.not_mem_nil, or_false, forall_eq_or_imp, forall_eq, List.getD_cons_zero, List.getD_cons_succ, kIs] at hd
        refine ⟨fun _ => ?_, fun h => (h (by simp [hd])).elim⟩
        simp only [putD, List.getD_cons_zero, List.getD_cons_succ, Act.put, hd]
        go_simp
        exact ⟨_, rfl, Below.refl _ _, a0, c0, rfl, Nat.zero_le _, (by unfold maxLen; omega), fun h => by simp [bs] at h⟩
      · intro us w1 hb hd
        simp only [List.mem_cons, List.not_mem_nil, or_false, forall_eq_or_imp, forall_eq, List.getD_cons_zero, List.getD_cons_succ, kBytes, kIs] at hd
        refine ⟨fun _ => ?_, fun h => (h (by simp [hd])).elim⟩
        obtain ⟨ax, cx, hx, _, _, _⟩ := hd.1.open
        simp only [List.length_nil] at hx
        simp only [putD, List.getD_cons_zero, List.getD_cons_succ, Act.put, hx]
        go_simp
        exact ⟨_, rfl, (Below.refl _ _).alloc (Nat.le_refl _) _, Pieces.one (heap_last rfl) (Bytes.alloc (by have := hd.1; rwa [hx] at this) _)⟩
      · intro us w1 hb hd
        simp only [List.mem_cons, List.not_mem_nil, or_false, forall_eq_or_imp, forall_eq, List.getD_cons_zero, List.getD_cons_succ, kIs, kPieces] at hd
        refine ⟨fun _ => ?_, fun h => (h (by simp [hd])).elim⟩
        simp only [putD, List.getD_cons_zero, List.getD_cons_succ, Act.put]
        go_simp
        refine (of_any _ [[]] _ hd.1).mono ?_
        rintro e w' ⟨rfl, rfl⟩
        exact ⟨_, rfl, Below.refl _ _, by simp [kIs]⟩
      · intro us w1 _ hd
        simp only [List.mem_cons, List.not_mem_nil, or_false, forall_eq, List.getD_cons_zero, List.getD_cons_succ, kIs] at hd
        refine ⟨fun _ => ?_, fun h => (h (by simp [hd])).elim⟩
        simp only [putD, List.getD_cons_zero, List.getD_cons_succ, Act.put, hd]
        go_simp
        exact ⟨_, rfl, Below.refl _ _, rfl⟩
      · intro us w1 _ hd
        simp only [List.mem_cons, List.not_mem_nil, or_false, forall_eq, List.getD_cons_zero, List.getD_cons_succ, kIs] at hd
        refine ⟨fun _ => ?_, fun h => (h (by simp [hd])).elim⟩
        simp only [putD, List.getD_cons_zero, List.getD_cons_succ, Act.put, hd]
        go_simp
        exact ⟨_, rfl, Below.refl _ _, rfl⟩
      · intro us w1 hb hd
        simp only [List.mem_cons, List.not_mem_nil, or_false, forall_eq_or_imp, forall_eq, List.getD_cons_zero, List.getD_cons_succ, kIs] at hd
        refine ⟨fun _ => ?_, fun h => (h (by simp [hd])).elim⟩
        simp only [putD, List.getD_cons_zero, List.getD_cons_succ, Act.put, hd]
        go_simp
        exact ⟨_, rfl, Below.refl _ _, a1, c1, rfl, Nat.zero_le _, (by unfold maxLen; omega), fun h => by simp [bs] at h⟩
      · intro us w1 hb hd
        simp only [List.mem_cons, List.not_mem_nil, or_false, forall_eq_or_imp, forall_eq, List.getD_cons_zero, List.getD_cons_succ, kBytes, kIs] at hd
        refine ⟨fun _ => ?_, fun h => (h (by simp [hd])).elim⟩
        obtain ⟨ax, cx, hx, _, _, _⟩ := hd.1.open
        simp only [List.length_nil] at hx
        simp only [putD, List.getD_cons_zero, List.getD_cons_succ, Act.put, hx]
        go_simp
        exact ⟨_, rfl, (Below.refl _ _).alloc (Nat.le_refl _) _, Pieces.one (heap_last rfl) (Bytes.alloc (by have := hd.1; rwa [hx] at this) _)⟩
      · intro us w1 hb hd
        simp only [List.mem_cons, List.not_mem_nil, or_false, forall_eq_or_imp, forall_eq, List.getD_cons_zero, List.getD_cons_succ, kIs, kPieces] at hd
        refine ⟨fun _ => ?_, fun h => (h (by simp [hd])).elim⟩
        simp only [putD, List.getD_cons_zero, List.getD_cons_succ, Act.put]
        go_simp
        refine (of_any _ [[]] _ hd.1).mono ?_
        rintro e w' ⟨rfl, rfl⟩
        exact ⟨_, rfl, Below.refl _ _, by simp [kIs]⟩
      · intro us w1 _ hd
        simp only [List.mem_cons, List.not_mem_nil, or_false, forall_eq_or_imp, forall_eq, List.getD_cons_zero, List.getD_cons_succ, kIs] at hd
        refine ⟨fun _ => ?_, fun h => (h (by simp [hd])).elim⟩
        simp only [putD, List.getD_cons_zero, List.getD_cons_succ, Act.put, hd]
        go_simp
        exact ⟨_, rfl, Below.refl _ _, rfl⟩
      · intro us w1 _ hd
        simp only [List.mem_cons, List.not_mem_nil, or_false, forall_eq, List.getD_cons_zero, List.getD_cons_succ, kIs] at hd
        refine ⟨fun _ => ?_, fun h => (h (by simp [hd])).elim⟩
        simp only [putD, List.getD_cons_zero, List.getD_cons_succ, Act.put, hd]
        go_simp
        exact ⟨_, rfl, Below.refl _ _, rfl⟩
      · intro us w1 _ hd
        simp only [List.mem_cons, List.not_mem_nil, or_false, forall_eq, List.getD_cons_zero, List.getD_cons_succ, kIs] at hd
        refine ⟨fun _ => ?_, fun h => (h (by simp [hd])).elim⟩
        simp only [putD, List.getD_cons_zero, List.getD_cons_succ, Act.put, hd]
        go_simp
        exact ⟨_, rfl, Below.refl _ _, rfl⟩
      · intro us w1 hb hd
        simp only [List.mem_cons, List.not_mem_nil, or_false, forall_eq_or_imp, forall_eq, List.getD_cons_zero, List.getD_cons_succ, kIs] at hd
        refine ⟨fun _ => ?_, fun h => (h (by simp [hd])).elim⟩
        simp only [putD, List.getD_cons_zero, List.getD_cons_succ, Act.put, hd]
        go_simp
        exact ⟨_, rfl, Below.refl _ _, a2, c2, rfl, Nat.zero_le _, (by unfold maxLen; omega), fun h => by simp [bs] at h⟩
      · intro us w1 hb hd
        simp only [List.mem_cons, List.not_mem_nil, or_false, forall_eq_or_imp, forall_eq, List.getD_cons_zero, List.getD_cons_succ, kBytes, kIs] at hd
        refine ⟨fun _ => ?_, fun h => (h (by simp [hd])).elim⟩
        obtain ⟨ax, cx, hx, _, _, _⟩ := hd.1.open
        simp only [List.length_nil] at hx
        simp only [putD, List.getD_cons_zero, List.getD_cons_succ, Act.put, hx]
        go_simp
        exact ⟨_, rfl, (Below.refl _ _).alloc (Nat.le_refl _) _, Pieces.one (heap_last rfl) (Bytes.alloc (by have := hd.1; rwa [hx] at this) _)⟩
      · intro us w1 hb hd
        simp only [List.mem_cons, List.not_mem_nil, or_false, forall_eq_or_imp, forall_eq, List.getD_cons_zero, List.getD_cons_succ, kIs, kPieces] at hd
        refine ⟨fun _ => ?_, fun h => (h (by simp [hd])).elim⟩
        simp only [putD, List.getD_cons_zero, List.getD_cons_succ, Act.put]
        go_simp
        refine (of_any _ [[]] _ hd.1).mono ?_
        rintro e w' ⟨rfl, rfl⟩
        exact ⟨_, rfl, Below.refl _ _, by simp [kIs]⟩
      · intro us w1 _ hd
        simp only [List.mem_cons, List.not_mem_nil, or_false, forall_eq_or_imp, forall_eq, List.getD_cons_zero, List.getD_cons_succ, kIs] at hd
        refine ⟨fun _ => ?_, fun h => (h (by simp [hd])).elim⟩
        simp only [putD, List.getD_cons_zero, List.getD_cons_succ, Act.put, hd]
        go_simp
        exact ⟨_, rfl, Below.refl _ _, rfl⟩
      · intro us w1 _ hd
        simp only [List.mem_cons, List.not_mem_nil, or_false, forall_eq, List.getD_cons_zero, List.getD_cons_succ, kIs] at hd
        refine ⟨fun _ => ?_, fun h => (h (by simp [hd])).elim⟩
        simp only [putD, List.getD_cons_zero, List.getD_cons_succ, Act.put, hd]
        go_simp
        exact ⟨_, rfl, Below.refl _ _, rfl⟩
      · intro us w1 hb hd
        simp only [List.mem_cons, List.not_mem_nil, or_false, forall_eq_or_imp, forall_eq, List.getD_cons_zero, List.getD_cons_succ, kIs] at hd
        refine ⟨fun _ => ?_, fun h => (h (by simp [hd])).elim⟩
        simp only [putD, List.getD_cons_zero, List.getD_cons_succ, Act.put, hd]
        go_simp
        exact ⟨_, rfl, (Below.refl _ _).alloc (Nat.le_refl _) _, Pieces.one (heap_last rfl) ((Bytes.nil _).alloc _)⟩
      · intro us w1 hb hd
        simp only [List.mem_cons, List.not_mem_nil, or_false, forall_eq_or_imp, forall_eq, List.getD_cons_zero, List.getD_cons_succ, kIs, kPieces] at hd
        refine ⟨fun _ => ?_, fun h => (h (by simp [hd])).elim⟩
        simp only [putD, List.getD_cons_zero, List.getD_cons_succ, Act.put]
        go_simp
        refine (of_any _ [[]] _ hd.1).mono ?_
        rintro e w' ⟨rfl, rfl⟩
        exact ⟨_, rfl, Below.refl _ _, by simp [kIs]⟩
      · intro us w1 _ hd
        simp only [List.mem_cons, List.not_mem_nil, or_false, forall_eq_or_imp, forall_eq, List.getD_cons_zero, List.getD_cons_succ, kIs] at hd
        refine ⟨fun _ => ?_, fun h => (h (by simp [hd])).elim⟩
        simp only [putD, List.getD_cons_zero, List.getD_cons_succ, Act.put, hd]
        go_simp
        exact ⟨_, rfl, Below.refl _ _, rfl⟩
      · intro us w1 _ hd
        simp only [List.mem_cons, List.not_mem_nil, or_false, forall_eq_or_imp, forall_eq, List.getD_cons_zero, List.getD_cons_succ, kIs] at hd
        simp only [putD, List.getD_cons_zero, List.getD_cons_succ, Act.put, hd]
        go_simp
        exact ⟨_, rfl, Below.refl _ _, rfl⟩
      · intro us w1 _ hd
        simp only [List.mem_cons, List.not_mem_nil, or_false, forall_eq, List.getD_cons_zero, List.getD_cons_succ, kIs] at hd
        simp only [putD, List.getD_cons_zero, List.getD_cons_succ, Act.put, hd]
        go_simp
        exact ⟨_, rfl, Below.refl _ _, rfl⟩
    · intro us w2 hb hp
      have h24 := hp 24 (by simp)
      simp only [List.getD_cons_zero, List.getD_cons_succ, kIs] at h24
      rw [show List.range 25 = [0, 1, 2, 3, 4, 5, 6, 7, 8, 9, 10, 11, 12, 13, 14, 15, 16, 17, 18, 19, 20, 21, 22, 23, 24] from rfl]
      simp only [putD, List.getD_cons_zero, List.getD_cons_succ, Act.put, List.setIfInBounds_toArray, List.set_cons_zero, List.set_cons_succ, h24]
      go_wp2
      go_ret
      exact ⟨rfl, hb⟩
  obtain ⟨b0, o0, rfl, hk0⟩ := hcs0 (by omega)
  obtain ⟨b1, o1, rfl, hk1⟩ := hcs1 (by omega)
  obtain ⟨b2, o2, rfl, hk2⟩ := hcs2 (by omega)
  have hb0 : b0 < w.heap.size := World.block_lt_of_cell? w _ (hk0 0 (by omega))
  have hb1 : b1 < w.heap.size := World.block_lt_of_cell? w _ (hk1 0 (by omega))
  have hb2 : b2 < w.heap.size := World.block_lt_of_cell? w _ (hk2 0 (by omega))
  have HK0 := Lib.hid hk0
  have HK1 := Lib.hid hk1
  have HK2 := Lib.hid hk2
  clear hcs0 hcs1 hcs2 hk0 hk1 hk2
  obtain ⟨n, hn⟩ : ∃ n, n = min (min l0.length l1.length) l2.length := ⟨_, rfl⟩
  have hn0 : n ≤ l0.length := by omega
  have hn1 : n ≤ l1.length := by omega
  have hn2 : n ≤ l2.length := by omega
  have HN := Lib.hid hn
  have hnp : 0 < n := by omega
  clear h0
  have HM := Lib.hid (mix_length l0 l1 l2)
  have hmin : ∀ (ts : Array TypeId) (t : TypeId) (w : World), (Builtin.min_ ts t #[.int .i64 (l0.length : Int), .int .i64 (l1.length : Int), .int .i64 (l2.length : Int)]).run Try.prog w = .ok (.int .i64 (n : Int)) w := by
    intro ts t w
    rw [run_min_int3]
    congr 2
    split <;> split at * <;> omega
  clear hn
  go_enter Try.func8, Try.ntmps8
  go_wp2_with fail
  clear hmin
  go_loopw [8, 9] (fun v i wr => ∃ k : Nat, k ≤ n ∧ i = .int .i64 k ∧ wr.ownsRow w.heap.size 5 1 v k (bs ((mix l0 l1 l2).take k)) ∧ Below w.heap.size w wr) (fun _ i _ => n - (intOf i).toNat)
  case atStart => exact ⟨0, Nat.zero_le _, rfl, World.ownsRow_nil _ _ _ _, Below.refl _ _⟩
  case round =>
    obtain ⟨k, hk, rfl, hown, hnx⟩ := hrel
    by_cases hlt : k < n
    · have hc0 : wr.cell? ⟨b0, o0 + k, none⟩ = some (.int .u8 (l0[k].toNat : Int)) := (hnx.cell hb0).trans (HK0.out k (by omega))
      have hc1 : wr.cell? ⟨b1, o1 + k, none⟩ = some (.int .u8 (l1[k].toNat : Int)) := (hnx.cell hb1).trans (HK1.out k (by omega))
      have hc2 : wr.cell? ⟨b2, o2 + k, none⟩ = some (.int .u8 (l2[k].toNat : Int)) := (hnx.cell hb2).trans (HK2.out k (by omega))
      have hx := u8xor3 l0[k] l1[k] l2[k]
      have hsz := hnx.size
      have q0 : (k : Int) < (l0.length : Int) := by omega
      have q1 : (k : Int) < (l1.length : Int) := by omega
      have q2 : (k : Int) < (l2.length : Int) := by omega
      have q3 : (0 : Int) ≤ (k : Int) := by omega
      go_wp2_with fail
      refine region_each_tail 16 [some 22, some 23, some 24, some 25, some 26, some 27, some 28, some 29, some 30, some 31, some 32, some 33, some 34, some 35, some 36, some 37, some 38, some 8] [[], [], [], [1, 2], [3], [], [], [5, 6], [7], [4, 8], [], [], [10, 11], [12], [9, 13], [14]]
        [kIs u8, kIs (.slice (some ⟨b0, o0, none⟩) l0.length c0), kIs (.int .i64 k), kIs (.pointer (some ⟨b0, o0 + k, none⟩)), kIs (.int .u8 (l0[k].toNat : Int)), kIs (.slice (some ⟨b1, o1, none⟩) l1.length c1), kIs (.int .i64 k), kIs (.pointer (some ⟨b1, o1 + k, none⟩)), kIs (.int .u8 (l1[k].toNat : Int)), kIs (.int .u8 (bits .xor .u8 (l0[k].toNat : Int) (l1[k].toNat : Int))), kIs (.slice (some ⟨b2, o2, none⟩) l2.length c2), kIs (.int .i64 k), kIs (.pointer (some ⟨b2, o2 + k, none⟩)), kIs (.int .u8 (l2[k].toNat : Int)), kIs (.int .u8 ((l0[k] ^^^ l1[k] ^^^ l2[k]).toNat : Int)), kHas 1 [.int .u8 ((l0[k] ^^^ l1[k] ^^^ l2[k]).toNat : Int)]]
        (by kernel_rfl) (by kernel_rfl) (by kernel_rfl) (by kernel_rfl) (by kernel_rfl) ?_ ?_
      · simp only [List.take_succ_cons, List.take_zero, obligsD]
        refine ⟨?_, ?_, ?_, ?_, ?_, ?_, ?_, ?_, ?_, ?_, ?_, ?_, ?_, ?_, ?_, ?_, trivial⟩
        · intro us w1 _ _
          change Oper.wp _ _ _ _ _ _
          go_simp
          exact ⟨_, rfl, Below.refl _ _, rfl⟩
        · intro us w1 _ _
          change Oper.wp _ _ _ _ _ _
          go_simp
          exact ⟨_, rfl, Below.refl _ _, rfl⟩
        · intro us w1 _ _
          change Oper.wp _ _ _ _ _ _
          go_simp
          exact ⟨_, rfl, Below.refl _ _, rfl⟩
        · intro us w1 _ hd
          simp only [List.mem_cons, List.not_mem_nil, or_false, forall_eq_or_imp, forall_eq, List.getD_cons_zero, List.getD_cons_succ, kIs] at hd
          simp only [putD, List.getD_cons_zero, List.getD_cons_succ, Act.put, hd]
          go_simp
          exact ⟨_, rfl, Below.refl _ _, rfl⟩
        · intro us w1 hb hd
          simp only [List.mem_cons, List.not_mem_nil, or_false, forall_eq, List.getD_cons_zero, List.getD_cons_succ, kIs] at hd
          simp only [putD, List.getD_cons_zero, List.getD_cons_succ, Act.put, hd]
          have hc := (hb.cell (World.block_lt_of_cell? _ _ hc0)).trans hc0
          go_simp
          exact ⟨_, rfl, Below.refl _ _, rfl⟩
        · intro us w1 _ _
          change Oper.wp _ _ _ _ _ _
          go_simp
          exact ⟨_, rfl, Below.refl _ _, rfl⟩
        · intro us w1 _ _
          change Oper.wp _ _ _ _ _ _
          go_simp
          exact ⟨_, rfl, Below.refl _ _, rfl⟩
        · intro us w1 _ hd
          simp only [List.mem_cons, List.not_mem_nil, or_false, forall_eq_or_imp, forall_eq, List.getD_cons_zero, List.getD_cons_succ, kIs] at hd
          simp only [putD, List.getD_cons_zero, List.getD_cons_succ, Act.put, hd]
          go_simp
          exact ⟨_, rfl, Below.refl _ _, rfl⟩
        · intro us w1 hb hd
          simp only [List.mem_cons, List.not_mem_nil, or_false, forall_eq, List.getD_cons_zero, List.getD_cons_succ, kIs] at hd
          simp only [putD, List.getD_cons_zero, List.getD_cons_succ, Act.put, hd]
          have hc := (hb.cell (World.block_lt_of_cell? _ _ hc1)).trans hc1
          go_simp
          exact ⟨_, rfl, Below.refl _ _, rfl⟩
        · intro us w1 _ hd
          simp only [List.mem_cons, List.not_mem_nil, or_false, forall_eq_or_imp, forall_eq, List.getD_cons_zero, List.getD_cons_succ, kIs] at hd
          simp only [putD, List.getD_cons_zero, List.getD_cons_succ, Act.put, hd]
          go_simp
          exact ⟨_, rfl, Below.refl _ _, rfl⟩
        · intro us w1 _ _
          change Oper.wp _ _ _ _ _ _
          go_simp
          exact ⟨_, rfl, Below.refl _ _, rfl⟩
        · intro us w1 _ _
          change Oper.wp _ _ _ _ _ _
          go_simp
          exact ⟨_, rfl, Below.refl _ _, rfl⟩
        · intro us w1 _ hd
          simp only [List.mem_cons, List.not_mem_nil, or_false, forall_eq_or_imp, forall_eq, List.getD_cons_zero, List.getD_cons_succ, kIs] at hd
          simp only [putD, List.getD_cons_zero, List.getD_cons_succ, Act.put, hd]
          go_simp
          exact ⟨_, rfl, Below.refl _ _, rfl⟩
        · intro us w1 hb hd
          simp only [List.mem_cons, List.not_mem_nil, or_false, forall_eq, List.getD_cons_zero, List.getD_cons_succ, kIs] at hd
          simp only [putD, List.getD_cons_zero, List.getD_cons_succ, Act.put, hd]
          have hc := (hb.cell (World.block_lt_of_cell? _ _ hc2)).trans hc2
          go_simp
          exact ⟨_, rfl, Below.refl _ _, rfl⟩
        · intro us w1 _ hd
          simp only [List.mem_cons, List.not_mem_nil, or_false, forall_eq_or_imp, forall_eq, List.getD_cons_zero, List.getD_cons_succ, kIs] at hd
          simp only [putD, List.getD_cons_zero, List.getD_cons_succ, Act.put, hd]
          go_simp
          exact ⟨_, rfl, Below.refl _ _, rfl⟩
        · intro us w1 hb hd
          simp only [List.mem_cons, List.not_mem_nil, or_false, forall_eq_or_imp, forall_eq, List.getD_cons_zero, List.getD_cons_succ, kIs] at hd
          simp only [putD, List.getD_cons_zero, List.getD_cons_succ, Act.put, hd]
          go_simp
          exact ⟨_, rfl, (Below.refl _ _).alloc (Nat.le_refl _) _, Has.block (heap_last rfl) (Nat.le_refl _) (by decide) (fun i x hi => by simpa using hi)⟩
      · intro us w2 hb hp
        have h15 := hp 15 (by omega)
        have h0 := hp 0 (by omega)
        simp only [List.getD_cons_zero, List.getD_cons_succ, kIs, kHas] at h0 h15
        obtain ⟨ad, cp, hv, hcp, hmx, hcell⟩ := h15.open
        obtain ⟨bb, ob, rfl, hcl⟩ := hcell (by simp)
        have hcl0 := hcl 0 (by simp)
        have hown2 := own_keep hown hb
        have hnx2 := hnx.trans (hb.mono hsz)
        have hsz2 := hnx2.size
        clear hp h15 hcell hcl hown hnx hsz
        rw [show List.range 16 = [0, 1, 2, 3, 4, 5, 6, 7, 8, 9, 10, 11, 12, 13, 14, 15] from rfl]
        simp only [List.drop_succ_cons, List.drop_zero, putD, List.getD_cons_zero, List.getD_cons_succ, Act.put, List.setIfInBounds_toArray, List.set_cons_zero, List.set_cons_succ, h0, hv]
        have hlm : k < (mix l0 l1 l2).length := by rw [HM.out, ← HN.out]; exact hlt
        have HT := Lib.hid (show bs ((mix l0 l1 l2).take (k + 1)) = bs ((mix l0 l1 l2).take k) ++ [.int .u8 ((l0[k] ^^^ l1[k] ^^^ l2[k]).toNat : Int)] by
          rw [List.take_succ_eq_append_getElem hlm, bs_append, mix_get _ _ _ _ hlm (by omega) (by omega) (by omega)]; rfl)
        have HL := Lib.hid hcl0
        clear hlm hv h0 hcl0 hx hb
        go_wp2_with (at_builtin; refine wpList_append_own _ rfl _ _ 23 rfl w.heap.size 5 i0 (.int .u8 0) 1 1 Try.underlying23 hi hz0 hz1 hz2 rfl (by decide) _ _ _ rfl hown2 ⟨bb, ob, none⟩ 1 cp [.int .u8 ((l0[k] ^^^ l1[k] ^^^ l2[k]).toNat : Int)] rfl rfl ?c1 ?c2 ?c3 ?c4 ?c5 ?_)
        case c1 =>
          intro j u hj
          match j, hj with
          | 0, hj => simp at hj; subst hj; simpa [Addr.add] using HL.out
        case c2 => intro u hu; simp at hu; subst hu; rfl
        case c3 => unfold maxLen; omega
        case c4 => omega
        case c5 => omega
        intro v' w1 hown' hgrow _
        have hnx1 : Below w.heap.size w w1 := hnx2.grown hgrow hsz2 (fun k hk => (hown2.lt k hk).1)
        clear hown2 hgrow hnx2
        go_wp2
        go_roundw
        case rel => exact ⟨k + 1, by omega, by go_num, by rw [HT.out]; exact hown', hnx1⟩
        case measure => simp [intOf]; omega
    · have hkn : k = n := by omega
      subst hkn
      have hlen : (mix l0 l1 l2).take k = mix l0 l1 l2 := List.take_of_length_le (by rw [HM.out, ← HN.out]; omega)
      rw [hlen] at hown
      clear hlen
      obtain ⟨g, cap, rfl, hgb⟩ := hown.form (by omega)
      have hsz := hnx.size
      have BM : Bytes wr (.slice (some ⟨g, 0, none⟩) k cap) (mix l0 l1 l2) := by
        have h1 := Has.own hown
        unfold Bytes
        rwa [show (mix l0 l1 l2).length = k by rw [HM.out, ← HN.out]]
      have B0' := (B0.below (hnx.mono (Nat.le_refl _))).take k hn0
      have B1' := (B1.below (hnx.mono (Nat.le_refl _))).take k hn1
      have B2' := (B2.below (hnx.mono (Nat.le_refl _))).take k hn2
      have x1 := u32xor (OctCrc.crc (l0.take k)) (OctCrc.crc (l1.take k)) (OctCrc.crc_lt _) (OctCrc.crc_lt _)
      have x2 := u32xor (OctCrc.crc (l0.take k) ^^^ OctCrc.crc (l1.take k)) (OctCrc.crc (l2.take k)) (Nat.xor_lt_two_pow (n := 32) (OctCrc.crc_lt _) (OctCrc.crc_lt _)) (OctCrc.crc_lt _)
      have x3 : ((OctCrc.crc (l0.take k) ^^^ OctCrc.crc (l1.take k) ^^^ OctCrc.crc (l2.take k) : Nat) : Int) == ((OctCrc.crc (mix l0 l1 l2) : Nat) : Int) := beq_u32 (by
        have hm := OctCrc.crc_mix (l0.take k) (l1.take k) (l2.take k) (by simp; omega) (by simp; omega)
        rw [hm]
        congr 1
        have hk1 : k = min (min l0.length l1.length) l2.length := HN.out
        apply List.ext_getElem
        · simp [mix]; omega
        · intro i h1 h2; simp [mix])
      have z0 : (0 : Int) ≤ (k : Int) := by omega
      have z1 : (k : Int) ≤ (c0 : Int) := by omega
      have z2 : (k : Int) ≤ (c1 : Int) := by omega
      have z3 : (k : Int) ≤ (c2 : Int) := by omega
      clear hown hlt hi
      go_wp2_with fail
      refine region_each 25 [some 39, some 40, some 41, some 42, some 43, some 44, some 45, some 46, some 47, some 48, some 49, some 50, some 51, some 52, some 53, some 54, some 55, some 56, some 57, some 58, some 59, some 60, some 61, some 62, some 6] [[], [0], [1], [1], [2, 3, 1], [4, 1], [5, 1], [1], [1], [7, 8, 1], [9, 1], [10, 1], [6, 11, 1], [1], [1], [13, 14, 1], [15, 1], [16, 1], [12, 17, 1], [1], [19, 1], [20, 1], [18, 21, 1], [1, 22], [23]]
        [kIs (.bool true), kIs (.bool true), kIs (.slice (some ⟨b0, o0, none⟩) l0.length c0), kIs (.int .i64 k), kIs (.slice (some ⟨b0, o0, none⟩) k c0), kPieces [l0.take k], kIs (.int .u32 (OctCrc.crc (l0.take k) : Nat)), kIs (.slice (some ⟨b1, o1, none⟩) l1.length c1), kIs (.int .i64 k), kIs (.slice (some ⟨b1, o1, none⟩) k c1), kPieces [l1.take k], kIs (.int .u32 (OctCrc.crc (l1.take k) : Nat)), kIs (.int .u32 (OctCrc.crc (l0.take k) ^^^ OctCrc.crc (l1.take k) : Nat)), kIs (.slice (some ⟨b2, o2, none⟩) l2.length c2), kIs (.int .i64 k), kIs (.slice (some ⟨b2, o2, none⟩) k c2), kPieces [l2.take k], kIs (.int .u32 (OctCrc.crc (l2.take k) : Nat)), kIs (.int .u32 (OctCrc.crc (l0.take k) ^^^ OctCrc.crc (l1.take k) ^^^ OctCrc.crc (l2.take k) : Nat)), kIs (.slice (some ⟨g, 0, none⟩) k cap), kPieces [mix l0 l1 l2], kIs (.int .u32 (OctCrc.crc (mix l0 l1 l2) : Nat)), kIs (.bool true), kIs (.bool true), kIs (.bool true)]
        (by kernel_rfl) (by kernel_rfl) (by kernel_rfl) (by kernel_rfl) ?_ ?_
      · simp only [obligsD]
        refine ⟨?_, ?_, ?_, ?_, ?_, ?_, ?_, ?_, ?_, ?_, ?_, ?_, ?_, ?_, ?_, ?_, ?_, ?_, ?_, ?_, ?_, ?_, ?_, ?_, ?_, trivial⟩
        · intro us w1 hb _
          change Oper.wp _ _ _ _ _ _
          go_simp
          refine (awake02_any _).mono ?_
          rintro e w2 ⟨rfl, hb2⟩
          exact ⟨_, rfl, hb2, rfl⟩
        · intro us w1 _ hd
          simp only [List.mem_cons, List.not_mem_nil, or_false, forall_eq, List.getD_cons_zero, List.getD_cons_succ, kIs] at hd
          simp only [putD, List.getD_cons_zero, List.getD_cons_succ, Act.put, hd]
          go_simp
          exact ⟨_, rfl, Below.refl _ _, rfl⟩
        · intro us w1 _ hd
          simp only [List.mem_cons, List.not_mem_nil, or_false, forall_eq, List.getD_cons_zero, List.getD_cons_succ, kIs] at hd
          refine ⟨fun _ => ?_, fun h => (h (by simp [hd])).elim⟩
          simp only [putD, List.getD_cons_zero, List.getD_cons_succ, Act.put, hd]
          go_simp
          exact ⟨_, rfl, Below.refl _ _, rfl⟩
        · intro us w1 _ hd
          simp only [List.mem_cons, List.not_mem_nil, or_false, forall_eq, List.getD_cons_zero, List.getD_cons_succ, kIs] at hd
          refine ⟨fun _ => ?_, fun h => (h (by simp [hd])).elim⟩
          simp only [putD, List.getD_cons_zero, List.getD_cons_succ, Act.put, hd]
          go_simp
          exact ⟨_, rfl, Below.refl _ _, rfl⟩
        · intro us w1 _ hd
          simp only [List.mem_cons, List.not_mem_nil, or_false, forall_eq_or_imp, forall_eq, List.getD_cons_zero, List.getD_cons_succ, kIs] at hd
          refine ⟨fun _ => ?_, fun h => (h (by simp [hd])).elim⟩
          simp only [putD, List.getD_cons_zero, List.getD_cons_succ, Act.put, hd]
          go_simp
          exact ⟨_, rfl, Below.refl _ _, rfl⟩
        · intro us w1 hb hd
          simp only [List.mem_cons, List.not_mem_nil, or_false, forall_eq_or_imp, forall_eq, List.getD_cons_zero, List.getD_cons_succ, kIs] at hd
          refine ⟨fun _ => ?_, fun h => (h (by simp [hd])).elim⟩
          simp only [putD, List.getD_cons_zero, List.getD_cons_succ, Act.put, hd]
          go_simp
          exact ⟨_, rfl, (Below.refl _ _).alloc (Nat.le_refl _) _, Pieces.one (heap_last rfl) ((B0'.below hb).alloc _)⟩
        · intro us w1 hb hd
          simp only [List.mem_cons, List.not_mem_nil, or_false, forall_eq_or_imp, forall_eq, List.getD_cons_zero, List.getD_cons_succ, kIs, kPieces] at hd
          refine ⟨fun _ => ?_, fun h => (h (by simp [hd])).elim⟩
          simp only [putD, List.getD_cons_zero, List.getD_cons_succ, Act.put]
          go_simp
          refine (of_any _ [l0.take k] _ hd.1).mono ?_
          rintro e w' ⟨rfl, rfl⟩
          exact ⟨_, rfl, Below.refl _ _, by simp [kIs]⟩
        · intro us w1 _ hd
          simp only [List.mem_cons, List.not_mem_nil, or_false, forall_eq, List.getD_cons_zero, List.getD_cons_succ, kIs] at hd
          refine ⟨fun _ => ?_, fun h => (h (by simp [hd])).elim⟩
          simp only [putD, List.getD_cons_zero, List.getD_cons_succ, Act.put, hd]
          go_simp
          exact ⟨_, rfl, Below.refl _ _, rfl⟩
        · intro us w1 _ hd
          simp only [List.mem_cons, List.not_mem_nil, or_false, forall_eq, List.getD_cons_zero, List.getD_cons_succ, kIs] at hd
          refine ⟨fun _ => ?_, fun h => (h (by simp [hd])).elim⟩
          simp only [putD, List.getD_cons_zero, List.getD_cons_succ, Act.put, hd]
          go_simp
          exact ⟨_, rfl, Below.refl _ _, rfl⟩
        · intro us w1 _ hd
          simp only [List.mem_cons, List.not_mem_nil, or_false, forall_eq_or_imp, forall_eq, List.getD_cons_zero, List.getD_cons_succ, kIs] at hd
          refine ⟨fun _ => ?_, fun h => (h (by simp [hd])).elim⟩
          simp only [putD, List.getD_cons_zero, List.getD_cons_succ, Act.put, hd]
          go_simp
          exact ⟨_, rfl, Below.refl _ _, rfl⟩
        · intro us w1 hb hd
          simp only [List.mem_cons, List.not_mem_nil, or_false, forall_eq_or_imp, forall_eq, List.getD_cons_zero, List.getD_cons_succ, kIs] at hd
          refine ⟨fun _ => ?_, fun h => (h (by simp [hd])).elim⟩
          simp only [putD, List.getD_cons_zero, List.getD_cons_succ, Act.put, hd]
          go_simp
          exact ⟨_, rfl, (Below.refl _ _).alloc (Nat.le_refl _) _, Pieces.one (heap_last rfl) ((B1'.below hb).alloc _)⟩
        · intro us w1 hb hd
          simp only [List.mem_cons, List.not_mem_nil, or_false, forall_eq_or_imp, forall_eq, List.getD_cons_zero, List.getD_cons_succ, kIs, kPieces] at hd
          refine ⟨fun _ => ?_, fun h => (h (by simp [hd])).elim⟩
          simp only [putD, List.getD_cons_zero, List.getD_cons_succ, Act.put]
          go_simp
          refine (of_any _ [l1.take k] _ hd.1).mono ?_
          rintro e w' ⟨rfl, rfl⟩
          exact ⟨_, rfl, Below.refl _ _, by simp [kIs]⟩
        · intro us w1 _ hd
          simp only [List.mem_cons, List.not_mem_nil, or_false, forall_eq_or_imp, forall_eq, List.getD_cons_zero, List.getD_cons_succ, kIs] at hd
          refine ⟨fun _ => ?_, fun h => (h (by simp [hd])).elim⟩
          simp only [putD, List.getD_cons_zero, List.getD_cons_succ, Act.put, hd]
          go_simp
          exact ⟨_, rfl, Below.refl _ _, rfl⟩
        · intro us w1 _ hd
          simp only [List.mem_cons, List.not_mem_nil, or_false, forall_eq, List.getD_cons_zero, List.getD_cons_succ, kIs] at hd
          refine ⟨fun _ => ?_, fun h => (h (by simp [hd])).elim⟩
          simp only [putD, List.getD_cons_zero, List.getD_cons_succ, Act.put, hd]
          go_simp
          exact ⟨_, rfl, Below.refl _ _, rfl⟩
        · intro us w1 _ hd
          simp only [List.mem_cons, List.not_mem_nil, or_false, forall_eq, List.getD_cons_zero, List.getD_cons_succ, kIs] at hd
          refine ⟨fun _ => ?_, fun h => (h (by simp [hd])).elim⟩
          simp only [putD, List.getD_cons_zero, List.getD_cons_succ, Act.put, hd]
          go_simp
          exact ⟨_, rfl, Below.refl _ _, rfl⟩
        · intro us w1 _ hd
          simp only [List.mem_cons, List.not_mem_nil, or_false, forall_eq_or_imp, forall_eq, List.getD_cons_zero, List.getD_cons_succ, kIs] at hd
          refine ⟨fun _ => ?_, fun h => (h (by simp [hd])).elim⟩
          simp only [putD, List.getD_cons_zero, List.getD_cons_succ, Act.put, hd]
          go_simp
          exact ⟨_, rfl, Below.refl _ _, rfl⟩
        · intro us w1 hb hd
          simp only [List.mem_cons, List.not_mem_nil, or_false, forall_eq_or_imp, forall_eq, List.getD_cons_zero, List.getD_cons_succ, kIs] at hd
          refine ⟨fun _ => ?_, fun h => (h (by simp [hd])).elim⟩
          simp only [putD, List.getD_cons_zero, List.getD_cons_succ, Act.put, hd]
          go_simp
          exact ⟨_, rfl, (Below.refl _ _).alloc (Nat.le_refl _) _, Pieces.one (heap_last rfl) ((B2'.below hb).alloc _)⟩
        · intro us w1 hb hd
          simp only [List.mem_cons, List.not_mem_nil, or_false, forall_eq_or_imp, forall_eq, List.getD_cons_zero, List.getD_cons_succ, kIs, kPieces] at hd
          refine ⟨fun _ => ?_, fun h => (h (by simp [hd])).elim⟩
          simp only [putD, List.getD_cons_zero, List.getD_cons_succ, Act.put]
          go_simp
          refine (of_any _ [l2.take k] _ hd.1).mono ?_
          rintro e w' ⟨rfl, rfl⟩
          exact ⟨_, rfl, Below.refl _ _, by simp [kIs]⟩
        · intro us w1 _ hd
          simp only [List.mem_cons, List.not_mem_nil, or_false, forall_eq_or_imp, forall_eq, List.getD_cons_zero, List.getD_cons_succ, kIs] at hd
          refine ⟨fun _ => ?_, fun h => (h (by simp [hd])).elim⟩
          simp only [putD, List.getD_cons_zero, List.getD_cons_succ, Act.put, hd]
          go_simp
          exact ⟨_, rfl, Below.refl _ _, rfl⟩
        · intro us w1 _ hd
          simp only [List.mem_cons, List.not_mem_nil, or_false, forall_eq, List.getD_cons_zero, List.getD_cons_succ, kIs] at hd
          refine ⟨fun _ => ?_, fun h => (h (by simp [hd])).elim⟩
          simp only [putD, List.getD_cons_zero, List.getD_cons_succ, Act.put, hd]
          go_simp
          exact ⟨_, rfl, Below.refl _ _, rfl⟩
        · intro us w1 hb hd
          simp only [List.mem_cons, List.not_mem_nil, or_false, forall_eq_or_imp, forall_eq, List.getD_cons_zero, List.getD_cons_succ, kIs] at hd
          refine ⟨fun _ => ?_, fun h => (h (by simp [hd])).elim⟩
          simp only [putD, List.getD_cons_zero, List.getD_cons_succ, Act.put, hd]
          go_simp
          exact ⟨_, rfl, (Below.refl _ _).alloc (Nat.le_refl _) _, Pieces.one (heap_last rfl) ((BM.below hb).alloc _)⟩
        · intro us w1 hb hd
          simp only [List.mem_cons, List.not_mem_nil, or_false, forall_eq_or_imp, forall_eq, List.getD_cons_zero, List.getD_cons_succ, kIs, kPieces] at hd
          refine ⟨fun _ => ?_, fun h => (h (by simp [hd])).elim⟩
          simp only [putD, List.getD_cons_zero, List.getD_cons_succ, Act.put]
          go_simp
          refine (of_any _ [mix l0 l1 l2] _ hd.1).mono ?_
          rintro e w' ⟨rfl, rfl⟩
          exact ⟨_, rfl, Below.refl _ _, by simp [kIs]⟩
        · intro us w1 _ hd
          simp only [List.mem_cons, List.not_mem_nil, or_false, forall_eq_or_imp, forall_eq, List.getD_cons_zero, List.getD_cons_succ, kIs] at hd
          refine ⟨fun _ => ?_, fun h => (h (by simp [hd])).elim⟩
          simp only [putD, List.getD_cons_zero, List.getD_cons_succ, Act.put, hd]
          go_simp
          exact ⟨_, rfl, Below.refl _ _, rfl⟩
        · intro us w1 _ hd
          simp only [List.mem_cons, List.not_mem_nil, or_false, forall_eq_or_imp, forall_eq, List.getD_cons_zero, List.getD_cons_succ, kIs] at hd
          simp only [putD, List.getD_cons_zero, List.getD_cons_succ, Act.put, hd]
          go_simp
          exact ⟨_, rfl, Below.refl _ _, rfl⟩
        · intro us w1 _ hd
          simp only [List.mem_cons, List.not_mem_nil, or_false, forall_eq, List.getD_cons_zero, List.getD_cons_succ, kIs] at hd
          simp only [putD, List.getD_cons_zero, List.getD_cons_succ, Act.put, hd]
          go_simp
          exact ⟨_, rfl, Below.refl _ _, rfl⟩
      · intro us w2 hb hp
        have h24 := hp 24 (by simp)
        simp only [List.getD_cons_zero, List.getD_cons_succ, kIs] at h24
        rw [show List.range 25 = [0, 1, 2, 3, 4, 5, 6, 7, 8, 9, 10, 11, 12, 13, 14, 15, 16, 17, 18, 19, 20, 21, 22, 23, 24] from rfl]
        simp only [putD, List.getD_cons_zero, List.getD_cons_succ, Act.put, List.setIfInBounds_toArray, List.set_cons_zero, List.set_cons_succ, h24]
        go_wp2
        go_ret
        exact ⟨rfl, hnx.trans (hb.mono hsz)⟩
end Go.Proofs.Ytdofdegicdkhlaa
