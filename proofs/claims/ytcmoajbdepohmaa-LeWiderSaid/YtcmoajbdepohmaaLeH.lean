/- The walk of LeWider: a number in more bytes is the same with bytes 0 behind. -/
import Derived.Test.YtcmoajbdepohmaaLeG
namespace Go.Proofs.Ytcmoajbdepohmaa
open Go.RowKit Go.Oct

theorem numList_wider : ∀ (k n j : Nat), n < 256 ^ k → numList n (k + j) = numList n k ++ List.replicate j 0
  | 0, n, j, h => by
    have h0 : n = 0 := by simpa using h
    subst h0
    clear h
    induction j with
    | zero => rfl
    | succ j ih =>
      rw [Nat.zero_add] at ih ⊢
      rw [show numList 0 (j + 1) = 0 :: numList 0 j from rfl, List.replicate_succ, ih]
      rfl
  | k + 1, n, j, h => by
    rw [show k + 1 + j = (k + j) + 1 by omega, numList, numList_wider k (n / 256) j (by rw [Nat.pow_succ] at h; omega), numList, List.cons_append]
theorem numBytes_wider {n : Int} {k j : Nat} (h : numCode n k = 0) (hj : k + j ≤ 8) : 0 ≤ n ∧ numCode n (k + j : Nat) = 0 ∧ numBytes n (k + j : Nat) = numBytes n k ++ List.replicate j 0 := by
  have h1 : ¬ ((k : Int) < 1 ∨ 8 < (k : Int) ∨ n < 0) := by
    intro hh; rw [numCode_arg hh] at h; cases h
  have h2 : ¬ 256 ^ k ≤ n.toNat := by
    intro hh; rw [numCode_range h1 (by simpa using hh)] at h; cases h
  have h3 : n.toNat < 256 ^ (k + j) := Nat.lt_of_lt_of_le (Nat.lt_of_not_le h2) (Nat.pow_le_pow_right (by omega) (by omega))
  have hc : numCode n (k + j : Nat) = 0 := numCode_ok (by omega) (by rw [Int.toNat_natCast]; exact Nat.not_le.2 h3)
  refine ⟨by omega, hc, ?_⟩
  simp only [numBytes, hc, h, if_true]
  exact numList_wider k n.toNat j (Nat.lt_of_not_le h2)
set_option maxHeartbeats 1000000 in
theorem leWider_walk (n width more : Int) (w : World) (w0 : (Lit.int .i64 n).wf = true) (w1 : (Lit.int .i64 width).wf = true) (w2 : (Lit.int .i64 more).wf = true) :
    Calls Try.prog 7 #[.int .i64 n, .int .i64 width, .int .i64 more] w fun e w' => e = .returned (.bool true) ∧ Below w.heap.size w w' := by
  obtain ⟨a0, a1⟩ := i64_of_wf w0
  obtain ⟨b0, b1⟩ := i64_of_wf w1
  obtain ⟨d0, d1⟩ := i64_of_wf w2
  clear w0 w1 w2
  by_cases h1 : more < 0
  · go_enter Try.func7, Try.ntmps7
    go_wp2_with fail
    refine (awake01_any _).mono ?_
    rintro e w1 ⟨rfl, hx1⟩
    go_wp2_with fail
    go_ret
    exact ⟨rfl, hx1⟩
  by_cases h2 : more > 8
  · go_enter Try.func7, Try.ntmps7
    go_wp2_with fail
    refine (awake01_any _).mono ?_
    rintro e w1 ⟨rfl, hx1⟩
    go_wp2_with fail
    go_ret
    exact ⟨rfl, hx1⟩
  by_cases h3 : width < 1
  · go_enter Try.func7, Try.ntmps7
    go_wp2_with fail
    refine (awake01_any _).mono ?_
    rintro e w1 ⟨rfl, hx1⟩
    go_wp2_with fail
    go_ret
    exact ⟨rfl, hx1⟩
  by_cases h4 : width > 8
  · go_enter Try.func7, Try.ntmps7
    go_wp2_with fail
    refine (awake01_any _).mono ?_
    rintro e w1 ⟨rfl, hx1⟩
    go_wp2_with fail
    go_ret
    exact ⟨rfl, hx1⟩
  obtain ⟨k, rfl⟩ : ∃ k : Nat, width = k := ⟨width.toNat, by omega⟩
  obtain ⟨j, hj⟩ : ∃ j : Nat, ((k + j : Nat) : Int) = min 8 (k + more) := ⟨(min 8 (k + more) - k).toNat, by omega⟩
  have hkj : k + j ≤ 8 := by omega
  have hsum : IntKind.i64.wrap ((k : Int) + more) = k + more := IntWalk.i64_in _ (by omega)
  have hmin : ∀ (ts : Array TypeId) (t : TypeId) (w : World), (Builtin.min_ ts t #[.int .i64 8, .int .i64 ((k : Int) + more)]).run Try.prog w = .ok (.int .i64 ((k + j : Nat) : Int)) w := by
    intro ts t w
    have e : (if (k : Int) + more < 8 then (k : Int) + more else 8) = ((k + j : Nat) : Int) := by
      rw [hj]; split <;> omega
    rw [run_min_int2, e]
  clear hj
  by_cases hn : numCode n k = 0
  · obtain ⟨n0, p2, p3⟩ := numBytes_wider hn hkj
    obtain ⟨q1, q2, q3, q4⟩ := num_back hn a1
    have P2 := Lib.hid p2
    have P3 := Lib.hid p3
    have N := Lib.hid hn
    have q5 : (numBytes n k).length = k := by omega
    have Q5 := Lib.hid q5
    clear q1 q2 q3 hn p2 p3 q5
    go_enter Try.func7, Try.ntmps7
    go_wp2_with fail
    refine (numBytes_any n k _ a0 a1 b0 b1).mono ?_
    rintro e w1 ⟨v1, rfl, hown1, hx1⟩
    rw [N.out]
    have B1 := Bytes.own hown1
    clear hown1
    go_wp2_with fail
    refine (numBytes_any n (k + j : Nat) _ a0 a1 (by omega) (by omega)).mono ?_
    rintro e w2 ⟨v2, rfl, hown2, hx2⟩
    rw [P2.out]
    have B2 := Bytes.own hown2
    have B11 := B1.below hx2
    have hx3 := below_step hx1 hx2
    clear hown2 hx1 hx2 B1
    go_wp2_with fail
    refine (awake01_any _).mono ?_
    rintro e w3 ⟨rfl, hx4⟩
    have B12 := B11.below hx4
    have B22 := B2.below hx4
    have hx5 := below_step hx3 hx4
    rw [P3.out] at B22
    clear hx3 hx4 B11 B2
    generalize numBytes n k = l at *
    obtain ⟨p1, c1, rfl, hc1, hmx1, hcs1⟩ := B22.open
    have hlen : (l ++ List.replicate j (0 : UInt8)).length = k + j := by simp [Q5.out]
    obtain ⟨g1, o1, rfl, hk1⟩ := hcs1 (by omega)
    unfold maxLen at hmx1
    have HK := Lib.hid hk1
    have B3 := B22.take k (by omega)
    rw [show (l ++ List.replicate j (0 : UInt8)).take k = l by rw [← Q5.out]; simp] at B3
    rw [hlen] at hc1 ⊢
    have HLEN := Lib.hid hlen
    clear hcs1 hk1 hlen B22
    go_wp2_with fail
    refine (same_any _ _ _ _ _ B3 B12).mono ?_
    rintro e w4 ⟨rfl, hx6⟩
    rw [decide_eq_true rfl]
    have hx7 := below_step hx5 hx6
    clear hx5 B3 B12
    go_wp2_with fail
    go_loopw [11] (fun i wr => ∃ m : Nat, k ≤ m ∧ m ≤ k + j ∧ i = .int .i64 (m : Int) ∧ Below w4.heap.size w4 wr) (fun i _ => (k + j) - (intOf i).toNat)
    case atStart => exact ⟨k, Nat.le_refl _, by omega, by go_num, Below.refl _ _⟩
    case round =>
      obtain ⟨m, hkm, hm, rfl, hnx⟩ := hrel
      by_cases hlt : m < k + j
      · have hml : m < (l ++ List.replicate j (0 : UInt8)).length := by rw [HLEN.out]; exact hlt
        have hz : (l ++ List.replicate j (0 : UInt8))[m] = 0 := by
          rw [List.getElem_append_right (by rw [Q5.out]; exact hkm)]
          simp
        have c1 : wr.cell? ⟨g1, o1 + m, none⟩ = some (.int .u8 0) := by
          have h0 := HK.out m hml
          rw [hz] at h0
          have h1 := (hx6.cell (World.block_lt_of_cell? w3 _ h0)).trans h0
          exact (hnx.cell (World.block_lt_of_cell? w4 _ h1)).trans h1
        have q0 : (0 : Int) ≤ (m : Int) := by omega
        have q1 : (m : Int) < ((k + j : Nat) : Int) := by omega
        clear hz
        go_wp2_with fail
        go_roundw
        case rel => exact ⟨m + 1, by omega, by omega, by go_num, hnx⟩
        case measure => simp [intOf]; omega
      · have hmm : m = k + j := by omega
        subst hmm
        go_wp2_with fail
        go_ret
        exact ⟨rfl, below_step hx7 hnx⟩
  · go_enter Try.func7, Try.ntmps7
    go_wp2_with fail
    refine (numBytes_any n k _ a0 a1 b0 b1).mono ?_
    rintro e w1 ⟨v1, rfl, hown1, hx1⟩
    clear hown1
    go_wp2_with fail
    refine (numBytes_any n (k + j : Nat) _ a0 a1 (by omega) (by omega)).mono ?_
    rintro e w2 ⟨v2, rfl, hown2, hx2⟩
    have hx3 := below_step hx1 hx2
    clear hown2
    go_wp2_with fail
    refine (awake01_any _).mono ?_
    rintro e w3 ⟨rfl, hx4⟩
    have hx5 := below_step hx3 hx4
    go_wp2_with fail
    refine (awake01_any _).mono ?_
    rintro e w4 ⟨rfl, hx6⟩
    go_wp2_with fail
    go_ret
    exact ⟨rfl, below_step hx5 hx6⟩
end Go.Proofs.Ytcmoajbdepohmaa
