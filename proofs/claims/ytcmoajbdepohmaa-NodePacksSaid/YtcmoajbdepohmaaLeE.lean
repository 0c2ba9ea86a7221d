/- The walks of LeWrites, LeReads and LeNil. -/
import Derived.Test.YtcmoajbdepohmaaLeD
import Derived.Test.YtcmoajbdepohmaaLent
namespace Go.Proofs.Ytcmoajbdepohmaa
open Go.RowKit Go.Oct

theorem i64_of_wf {n : Int} (h : (Lit.int .i64 n).wf = true) : -9223372036854775808 ≤ n ∧ n ≤ 9223372036854775807 := by
  have hmin : IntKind.i64.min = -9223372036854775808 := rfl
  have hmax : IntKind.i64.max = 9223372036854775807 := rfl
  simp only [Lit.wf, Bool.and_eq_true, decide_eq_true_eq] at h
  omega
set_option maxHeartbeats 400000 in
theorem leWrites_walk (n width : Int) (w : World) (w0 : (Lit.int .i64 n).wf = true) (w1 : (Lit.int .i64 width).wf = true) :
    Calls Try.prog 3 #[.int .i64 n, .int .i64 width] w fun e w' => e = .returned (.bool true) ∧ Below w.heap.size w w' := by
  obtain ⟨a0, a1⟩ := i64_of_wf w0
  obtain ⟨b0, b1⟩ := i64_of_wf w1
  clear w0 w1
  go_enter Try.func3, Try.ntmps3
  go_wp2_with fail
  refine (numBytes_any n width _ a0 a1 b0 b1).mono ?_
  rintro e w1 ⟨v1, rfl, hown1, hx1⟩
  have hb1 := Bytes.own hown1
  clear hown1
  go_wp2_with fail
  refine (refBytes_any n width _ a0 a1 b0 b1).mono ?_
  rintro e w2 ⟨v2, rfl, hown2, hx2⟩
  have hb2 := Bytes.own hown2
  have hb1' := hb1.below hx2
  have hx3 := below_step hx1 hx2
  clear hown2 hb1 hx1 hx2
  go_wp2_with fail
  refine (awake01_any _).mono ?_
  rintro e w3 ⟨rfl, hx4⟩
  have hb2' := hb2.below hx4
  have hb1'' := hb1'.below hx4
  have hx5 := below_step hx3 hx4
  clear hb2 hb1' hx3 hx4
  go_wp2_with fail
  refine (same_any _ _ _ _ _ hb1'' hb2').mono ?_
  rintro e w4 ⟨rfl, hx6⟩
  rw [decide_eq_true rfl]
  have hx7 := below_step hx5 hx6
  go_wp2_with fail
  go_ret
  exact ⟨by simp, hx7⟩
set_option maxHeartbeats 400000 in
theorem leReads_walk (v0 : Value) (l0 : List UInt8) (w : World) (B0 : Bytes w v0 l0) (n0 : l0.length ≤ 140737488351232) :
    Calls Try.prog 4 #[v0] w fun e w' => e = .returned (.bool true) ∧ Below w.heap.size w w' := by
  obtain ⟨a0, c0, rfl, _, _, _⟩ := B0.open
  go_enter Try.func4, Try.ntmps4
  go_wp2_with fail
  refine (lent_any _ _ _ B0 (by omega)).mono ?_
  rintro e w1 ⟨v1, rfl, hl1, hx1⟩
  have hb1 := hl1.bytes
  go_wp2_with fail
  refine (leInt_any _ _ _ hb1).mono ?_
  rintro e w' ⟨rfl, rfl⟩
  have B1 := B0.below hx1
  go_wp2_with fail
  refine (refInt_any _ _ _ B1).mono ?_
  rintro e w' ⟨rfl, rfl⟩
  go_wp2_with fail
  refine (awake01_any _).mono ?_
  rintro e w2 ⟨rfl, hx2⟩
  have hl2 := hl1.below hx2
  have B2 := B1.below hx2
  have hx3 := below_step hx1 hx2
  clear hl1 hb1 B1 B0 hx1 hx2
  go_wp2_with fail
  refine (kept_any _ _ _ _ _ hl2 B2 (by omega)).mono ?_
  rintro e w3 ⟨rfl, hx4⟩
  go_wp2_with fail
  go_ret
  exact ⟨by simp, below_step hx3 hx4⟩
set_option maxHeartbeats 400000 in
theorem leNil_walk (n : Int) (w : World) (_w0 : (Lit.int .i64 n).wf = true) :
    Calls Try.prog 10 #[.int .i64 n] w fun e w' => e = .returned (.bool true) ∧ Below w.heap.size w w' := by
  go_enter Try.func10, Try.ntmps10
  go_wp2_with fail
  refine (nil_int n _).mono ?_
  rintro e w' ⟨rfl, rfl⟩
  go_wp2_with fail
  refine (nil_take n _).mono ?_
  rintro e w' ⟨rfl, rfl⟩
  go_wp2_with fail
  refine (awake01_any _).mono ?_
  rintro e w2 ⟨rfl, hx2⟩
  go_wp2_with fail
  refine (nil_zeros n _).mono ?_
  rintro e w' ⟨rfl, rfl⟩
  go_wp2_with fail
  refine (nil_left _).mono ?_
  rintro e w' ⟨rfl, rfl⟩
  go_wp2_with fail
  refine (nil_place _).mono ?_
  rintro e w' ⟨rfl, rfl⟩
  go_wp2_with fail
  go_ret
  exact ⟨rfl, hx2⟩
end Go.Proofs.Ytcmoajbdepohmaa
