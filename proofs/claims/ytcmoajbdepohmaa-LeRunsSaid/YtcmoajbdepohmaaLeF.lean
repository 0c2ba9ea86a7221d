/- The walk of LeBack: a number that is written is read as it was, and what is read is written as it was. -/
import Derived.Test.YtcmoajbdepohmaaLeE
namespace Go.Proofs.Ytcmoajbdepohmaa
open Go.RowKit Go.Oct

theorem num_back {n width : Int} (h : numCode n width = 0) (hn : n ≤ 9223372036854775807) : valCode (numBytes n width) = 0 ∧ (numOf (numBytes n width) : Int) = n ∧ ((numBytes n width).length : Int) = width ∧ 0 < (numBytes n width).length := by
  have h1 : ¬ (width < 1 ∨ 8 < width ∨ n < 0) := by
    intro hh; rw [numCode_arg hh] at h; cases h
  have h2 : ¬ 256 ^ width.toNat ≤ n.toNat := by
    intro hh; rw [numCode_range h1 hh] at h; cases h
  have hb : numBytes n width = numList n.toNat width.toNat := by simp [numBytes, h]
  have hl : (numBytes n width).length = width.toNat := by rw [hb, numList_length]
  have hv : numVal (numBytes n width) = n.toNat := by rw [hb, numVal_numList]; exact Nat.mod_eq_of_lt (by omega)
  have hc : valCode (numBytes n width) = 0 := valCode_ok (by rw [hl]; omega) (by rw [hv]; omega)
  exact ⟨hc, by simp only [numOf, hc, if_true]; rw [hv]; omega, by rw [hl]; omega, by rw [hl]; omega⟩
theorem val_back {l : List UInt8} (h : valCode l = 0) : numCode (numOf l : Int) (l.length : Int) = 0 ∧ numBytes (numOf l : Int) (l.length : Int) = l ∧ numOf l < 9223372036854775808 ∧ 0 < l.length ∧ l.length ≤ 8 := by
  have h1 : ¬ (l.length < 1 ∨ 8 < l.length) := by
    intro hh; rw [valCode_arg hh] at h; cases h
  have h2 : ¬ 9223372036854775808 ≤ numVal l := by
    intro hh; rw [valCode_range h1 hh] at h; cases h
  have hv : numOf l = numVal l := by simp [numOf, h]
  have hc : numCode (numOf l : Int) (l.length : Int) = 0 := numCode_ok (by omega) (by rw [hv]; simp; exact numVal_lt l)
  refine ⟨hc, ?_, by omega, by omega, by omega⟩
  simp only [numBytes, hc, if_true]
  rw [hv]
  simpa using numList_numVal l
theorem val_bad {l : List UInt8} (h : valCode l ≠ 0) : numOf l = 0 := by simp [numOf, h]
set_option maxHeartbeats 1000000 in
theorem leBack_walk (n width : Int) (v2 : Value) (l2 : List UInt8) (w : World) (w0 : (Lit.int .i64 n).wf = true) (w1 : (Lit.int .i64 width).wf = true) (B2 : Bytes w v2 l2) (_n2 : l2.length ≤ 140737488351232) :
    Calls Try.prog 5 #[.int .i64 n, .int .i64 width, v2] w fun e w' => e = .returned (.bool true) ∧ Below w.heap.size w w' := by
  obtain ⟨a0, a1⟩ := i64_of_wf w0
  obtain ⟨b0, b1⟩ := i64_of_wf w1
  clear w0 w1
  obtain ⟨a2, c2, rfl, _, _, _⟩ := B2.open
  by_cases hc : numCode n width = 0
  · obtain ⟨p1, p2, p3, p4⟩ := num_back hc a1
    have C := Lib.hid hc
    have P1 := Lib.hid p1
    have P2 := Lib.hid p2
    by_cases hv : valCode l2 = 0
    · obtain ⟨q1, q2, q3, q4, q5⟩ := val_back hv
      have V := Lib.hid hv
      have Q1 := Lib.hid q1
      have Q2 := Lib.hid q2
      clear hc p1 p2 hv q1 q2
      go_enter Try.func5, Try.ntmps5
      go_wp2_with fail
      refine (awake01_any _).mono ?_
      rintro e w1 ⟨rfl, hx1⟩
      have B21 := B2.below hx1
      go_wp2_with fail
      refine (numBytes_any n width _ a0 a1 b0 b1).mono ?_
      rintro e w2 ⟨v1, rfl, hown1, hx2⟩
      rw [C.out]
      have hb1 := Bytes.own hown1
      have B22 := B21.below hx2
      have hx3 := below_step hx1 hx2
      obtain ⟨g, cp, rfl, _⟩ := hown1.form (by omega)
      clear hown1 hx1 hx2 B21 B2
      go_wp2_with fail
      refine (leInt_any _ _ _ hb1).mono ?_
      rintro e w' ⟨rfl, rfl⟩
      rw [P1.out, P2.out]
      go_wp2_with fail
      refine (leInt_any _ _ _ B22).mono ?_
      rintro e w' ⟨rfl, rfl⟩
      rw [V.out]
      go_wp2_with fail
      refine (numBytes_any _ _ _ (by omega) (by omega) (by omega) (by omega)).mono ?_
      rintro e w3 ⟨v3, rfl, hown3, hx4⟩
      rw [Q1.out, Q2.out] at *
      have hb3 := Bytes.own hown3
      have B23 := B22.below hx4
      have hx5 := below_step hx3 hx4
      clear hown3
      go_wp2_with fail
      refine (same_any _ _ _ _ _ hb3 B23).mono ?_
      rintro e w4 ⟨rfl, hx6⟩
      go_wp2_with fail
      go_ret
      exact ⟨by simp, below_step hx5 hx6⟩
    · have Z := Lib.hid (val_bad hv)
      clear hc p1 p2
      go_enter Try.func5, Try.ntmps5
      go_wp2_with fail
      refine (awake01_any _).mono ?_
      rintro e w1 ⟨rfl, hx1⟩
      have B21 := B2.below hx1
      go_wp2_with fail
      refine (numBytes_any n width _ a0 a1 b0 b1).mono ?_
      rintro e w2 ⟨v1, rfl, hown1, hx2⟩
      rw [C.out]
      have hb1 := Bytes.own hown1
      have B22 := B21.below hx2
      have hx3 := below_step hx1 hx2
      obtain ⟨g, cp, rfl, _⟩ := hown1.form (by omega)
      clear hown1 hx1 hx2 B21 B2
      go_wp2_with fail
      refine (leInt_any _ _ _ hb1).mono ?_
      rintro e w' ⟨rfl, rfl⟩
      rw [P1.out, P2.out]
      go_wp2_with fail
      refine (leInt_any _ _ _ B22).mono ?_
      rintro e w' ⟨rfl, rfl⟩
      rw [Z.out]
      go_wp2_with fail
      go_ret
      exact ⟨by simp, hx3⟩
  · by_cases hv : valCode l2 = 0
    · obtain ⟨q1, q2, q3, q4, q5⟩ := val_back hv
      have V := Lib.hid hv
      have Q1 := Lib.hid q1
      have Q2 := Lib.hid q2
      clear hv q1 q2
      go_enter Try.func5, Try.ntmps5
      go_wp2_with fail
      refine (awake01_any _).mono ?_
      rintro e w1 ⟨rfl, hx1⟩
      have B21 := B2.below hx1
      go_wp2_with fail
      refine (numBytes_any n width _ a0 a1 b0 b1).mono ?_
      rintro e w2 ⟨v1, rfl, hown1, hx2⟩
      have B22 := B21.below hx2
      have hx3 := below_step hx1 hx2
      clear hx1 hx2 B21 B2
      go_wp2_with fail
      refine (leInt_any _ _ _ B22).mono ?_
      rintro e w' ⟨rfl, rfl⟩
      rw [V.out]
      go_wp2_with fail
      refine (numBytes_any _ _ _ (by omega) (by omega) (by omega) (by omega)).mono ?_
      rintro e w3 ⟨v3, rfl, hown3, hx4⟩
      rw [Q1.out, Q2.out] at *
      have hb3 := Bytes.own hown3
      have B23 := B22.below hx4
      have hx5 := below_step hx3 hx4
      clear hown3
      go_wp2_with fail
      refine (same_any _ _ _ _ _ hb3 B23).mono ?_
      rintro e w4 ⟨rfl, hx6⟩
      go_wp2_with fail
      go_ret
      exact ⟨by simp, below_step hx5 hx6⟩
    · have Z := Lib.hid (val_bad hv)
      go_enter Try.func5, Try.ntmps5
      go_wp2_with fail
      refine (awake01_any _).mono ?_
      rintro e w1 ⟨rfl, hx1⟩
      have B21 := B2.below hx1
      go_wp2_with fail
      refine (numBytes_any n width _ a0 a1 b0 b1).mono ?_
      rintro e w2 ⟨v1, rfl, hown1, hx2⟩
      have B22 := B21.below hx2
      have hx3 := below_step hx1 hx2
      clear hx1 hx2 B21 B2
      go_wp2_with fail
      refine (leInt_any _ _ _ B22).mono ?_
      rintro e w' ⟨rfl, rfl⟩
      rw [Z.out]
      go_wp2_with fail
      go_ret
      exact ⟨by simp, hx3⟩
end Go.Proofs.Ytcmoajbdepohmaa
