/- The walks of the laws of layer 2 that say nothing of the document's answer: CrcJoins, CrcGroups; and CrcMoves. -/
import Derived.Test.YtdofdegicdkhlaaCrcD
import Derived.LoadGo2
namespace Go.Proofs.Ytdofdegicdkhlaa
open Go.RowKit Go.Oct

theorem u32_of_wf {n : Int} (h : (Lit.int .u32 n).wf = true) : ∃ a : Nat, n = a ∧ a < 4294967296 := by
  have hmin : IntKind.u32.min = 0 := rfl
  have hmax : IntKind.u32.max = 4294967295 := rfl
  simp only [Lit.wf, Bool.and_eq_true, decide_eq_true_eq] at h
  exact ⟨n.toNat, by omega, by omega⟩
set_option maxHeartbeats 400000 in
theorem crcJoins_walk (v0 : Value) (l0 : List UInt8) (v1 : Value) (l1 : List UInt8) (w : World) (B0 : Bytes w v0 l0) (_n0 : l0.length ≤ 140737488351232) (B1 : Bytes w v1 l1) (_n1 : l1.length ≤ 140737488351232) :
    Calls Try.prog 5 #[v0, v1] w fun e w' => e = .returned (.bool true) ∧ Below w.heap.size w w' := by
  obtain ⟨a0, c0, rfl, _, _, _⟩ := B0.open
  obtain ⟨a1, c1, rfl, _, _, _⟩ := B1.open
  have hj := Lib.hid (OctCrc.crc_join l0 l1)
  go_enter Try.func5, Try.ntmps5
  go_wp2_with fail
  refine (awake02_any _).mono ?_
  rintro e w1 ⟨rfl, hb1⟩
  have B0' := B0.below hb1
  have B1' := B1.below hb1
  go_wp2_with fail
  refine (of_any _ [l0] _ (Pieces.one (heap_last rfl) (B0'.alloc _))).mono ?_
  rintro e w' ⟨rfl, rfl⟩
  go_wp2_with fail
  refine (of_any _ [l1] _ (Pieces.one (heap_last (by simp)) ((B1'.alloc _).alloc _))).mono ?_
  rintro e w' ⟨rfl, rfl⟩
  go_wp2_with fail
  refine (join_any _ _ l1.length (OctCrc.crc_lt _) (OctCrc.crc_lt _) (by omega) _).mono ?_
  rintro e w' ⟨rfl, rfl⟩
  go_wp2_with fail
  refine (of_any _ [l0, l1] _ (Pieces.two (heap_last (by simp)) (((B0'.alloc _).alloc _).alloc _) (((B1'.alloc _).alloc _).alloc _))).mono ?_
  rintro e w' ⟨rfl, rfl⟩
  go_wp2_with fail
  go_ret
  exact ⟨ret_bool (beq_u32 hj.out), below_new (below_new (below_new hb1 _) _) _⟩

set_option maxHeartbeats 400000 in
theorem crcGroups_walk (a b c n m : Int) (w : World) (wa : (Lit.int .u32 a).wf = true) (wb : (Lit.int .u32 b).wf = true) (wc : (Lit.int .u32 c).wf = true) (_wn : (Lit.int .i64 n).wf = true) (_wm : (Lit.int .i64 m).wf = true) :
    Calls Try.prog 6 #[.int .u32 a, .int .u32 b, .int .u32 c, .int .i64 n, .int .i64 m] w fun e w' => e = .returned (.bool true) ∧ Below w.heap.size w w' := by
  obtain ⟨a, rfl, ha⟩ := u32_of_wf wa
  obtain ⟨b, rfl, hb⟩ := u32_of_wf wb
  obtain ⟨c, rfl, hc⟩ := u32_of_wf wc
  clear wa wb wc
  by_cases h : n < 0
  · go_enter Try.func6, Try.ntmps6
    go_wp2_with fail
    refine (awake02_any _).mono ?_
    rintro e w1 ⟨rfl, hb1⟩
    go_wp2_with fail
    go_ret
    exact ⟨rfl, hb1⟩
  have hn0 : ¬ n < 0 := h
  clear h
  by_cases h : m < 0
  · go_enter Try.func6, Try.ntmps6
    go_wp2_with fail
    refine (awake02_any _).mono ?_
    rintro e w1 ⟨rfl, hb1⟩
    go_wp2_with fail
    go_ret
    exact ⟨rfl, hb1⟩
  have hm0 : ¬ m < 0 := h
  clear h
  by_cases h : 2305843009213693952 < n
  · go_enter Try.func6, Try.ntmps6
    go_wp2_with fail
    refine (awake02_any _).mono ?_
    rintro e w1 ⟨rfl, hb1⟩
    go_wp2_with fail
    go_ret
    exact ⟨rfl, hb1⟩
  have hxn : ¬ 2305843009213693952 < n := h
  clear h
  by_cases h : 2305843009213693952 < m
  · go_enter Try.func6, Try.ntmps6
    go_wp2_with fail
    refine (awake02_any _).mono ?_
    rintro e w1 ⟨rfl, hb1⟩
    go_wp2_with fail
    go_ret
    exact ⟨rfl, hb1⟩
  have hxm : ¬ 2305843009213693952 < m := h
  clear h
  have hj := Lib.hid (OctCrc.join_join a b c n.toNat m.toNat)
  have hl1 := OctCrc.join_lt a b n.toNat ha hb
  have hl2 := OctCrc.join_lt b c m.toNat hb hc
  go_enter Try.func6, Try.ntmps6
  go_wp2_with fail
  refine (awake02_any _).mono ?_
  rintro e w1 ⟨rfl, hb1⟩
  go_wp2_with fail
  refine (join_any a b n ha hb (by omega) _).mono ?_
  rintro e w' ⟨rfl, rfl⟩
  go_wp2_with fail
  refine (join_any _ c m hl1 hc (by omega) _).mono ?_
  rintro e w' ⟨rfl, rfl⟩
  go_wp2_with fail
  refine (join_any b c m hb hc (by omega) _).mono ?_
  rintro e w' ⟨rfl, rfl⟩
  go_wp2_with fail
  refine (join_any a _ _ ha hl2 (by omega) _).mono ?_
  rintro e w' ⟨rfl, rfl⟩
  go_wp2_with fail
  go_ret
  exact ⟨ret_bool (beq_u32 (by rw [hj.out]; congr 1; omega)), hb1⟩
set_option maxHeartbeats 400000 in
theorem crcMoves_walk (a b n : Int) (w : World) (wa : (Lit.int .u32 a).wf = true) (wb : (Lit.int .u32 b).wf = true) (_wn : (Lit.int .i64 n).wf = true) :
    Calls Try.prog 4 #[.int .u32 a, .int .u32 b, .int .i64 n] w fun e w' => e = .returned (.bool true) ∧ Below w.heap.size w w' := by
  obtain ⟨a, rfl, ha⟩ := u32_of_wf wa
  obtain ⟨b, rfl, hb⟩ := u32_of_wf wb
  clear wa wb
  by_cases h : 3000 < n
  · go_enter Try.func4, Try.ntmps4
    go_wp2_with fail
    refine (awake02_any _).mono ?_
    rintro e w1 ⟨rfl, hb1⟩
    go_wp2_with fail
    go_ret
    exact ⟨rfl, hb1⟩
  · go_enter Try.func4, Try.ntmps4
    go_wp2_with fail
    refine (awake02_any _).mono ?_
    rintro e w1 ⟨rfl, hb1⟩
    go_wp2_with fail
    refine (join_any a b n ha hb (by omega) _).mono ?_
    rintro e w' ⟨rfl, rfl⟩
    go_wp2_with fail
    refine (refJoin_any a b n ha hb (by omega) _).mono ?_
    rintro e w' ⟨rfl, rfl⟩
    go_wp2_with fail
    go_ret
    exact ⟨rfl, hb1⟩
end Go.Proofs.Ytdofdegicdkhlaa
