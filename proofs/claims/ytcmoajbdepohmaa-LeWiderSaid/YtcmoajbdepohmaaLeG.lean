/- The walk of LeOrder: of two numbers in as many bytes the lesser has the lesser bytes, looked at from the last one on. -/
import Derived.Test.YtcmoajbdepohmaaLeF
import Derived.BigQuiet
import Derived.Deep.QuietTactic
namespace Go.Proofs.Ytcmoajbdepohmaa
open Go.RowKit Go.Oct

/-- the last byte that differs tells which number is the lesser -/
theorem numVal_lt_of : ∀ (l m : List UInt8) (i : Nat) (h1 : i < l.length) (h2 : i < m.length), l.length = m.length → l.drop (i + 1) = m.drop (i + 1) → l[i].toNat < m[i].toNat → numVal l < numVal m
  | [], _, _, h, _, _, _, _ => absurd h (Nat.not_lt_zero _)
  | _ :: _, [], _, _, h, _, _, _ => absurd h (Nat.not_lt_zero _)
  | a :: l, b :: m, 0, _, _, _, hd, hlt => by
    simp only [List.drop_succ_cons, List.drop_zero] at hd
    simp only [List.getElem_cons_zero] at hlt
    subst hd
    simp only [numVal]
    omega
  | a :: l, b :: m, i + 1, h1, h2, hl, hd, hlt => by
    simp only [List.drop_succ_cons] at hd
    simp only [List.getElem_cons_succ] at hlt
    have h := numVal_lt_of l m i (by simpa using h1) (by simpa using h2) (by simpa using hl) hd hlt
    have := a.toNat_lt
    simp only [numVal]
    omega
theorem numBytes_order {n m width : Int} (h1 : numCode n width = 0) (h2 : numCode m width = 0) (hn : n ≤ 9223372036854775807) (hm : m ≤ 9223372036854775807) :
    (numBytes n width).length = (numBytes m width).length ∧ 0 < (numBytes n width).length ∧ (numBytes n width = numBytes m width → n = m) ∧
    ∀ (i : Nat) (a : i < (numBytes n width).length) (b : i < (numBytes m width).length), (numBytes n width).drop (i + 1) = (numBytes m width).drop (i + 1) → (numBytes n width)[i] ≠ (numBytes m width)[i] →
      decide (((numBytes n width)[i].toNat : Int) < ((numBytes m width)[i].toNat : Int)) = decide (n < m) ∧ n ≠ m := by
  obtain ⟨p1, p2, p3, p4⟩ := num_back h1 hn
  obtain ⟨q1, q2, q3, q4⟩ := num_back h2 hm
  have v1 : numOf (numBytes n width) = numVal (numBytes n width) := by simp [numOf, p1]
  have v2 : numOf (numBytes m width) = numVal (numBytes m width) := by simp [numOf, q1]
  rw [v1] at p2
  rw [v2] at q2
  generalize numBytes n width = l at *
  generalize numBytes m width = k at *
  have hlen : l.length = k.length := by omega
  refine ⟨hlen, p4, fun e => by subst e; omega, fun i a b hd hne => ?_⟩
  have hne' : l[i].toNat ≠ k[i].toNat := fun e => hne (UInt8.toNat_inj.1 e)
  rcases Nat.lt_or_gt_of_ne hne' with h | h
  · have := numVal_lt_of l k i a b hlen hd h
    exact ⟨by rw [decide_eq_true (by omega), decide_eq_true (by omega)], by omega⟩
  · have := numVal_lt_of k l i b a hlen.symm hd.symm h
    exact ⟨by rw [decide_eq_false (by omega), decide_eq_false (by omega)], by omega⟩
set_option maxHeartbeats 1000000 in
theorem leOrder_walk (n m width : Int) (w : World) (w0 : (Lit.int .i64 n).wf = true) (w1 : (Lit.int .i64 m).wf = true) (w2 : (Lit.int .i64 width).wf = true) :
    Calls Try.prog 6 #[.int .i64 n, .int .i64 m, .int .i64 width] w fun e w' => e = .returned (.bool true) ∧ Below w.heap.size w w' := by
  obtain ⟨a0, a1⟩ := i64_of_wf w0
  obtain ⟨b0, b1⟩ := i64_of_wf w1
  obtain ⟨d0, d1⟩ := i64_of_wf w2
  clear w0 w1 w2
  by_cases hn : numCode n width = 0
  · by_cases hm : numCode m width = 0
    · obtain ⟨r1, r2, r3, r4⟩ := numBytes_order hn hm a1 b1
      have N := Lib.hid hn
      have M := Lib.hid hm
      have R3 := Lib.hid r3
      have R4 := Lib.hid r4
      clear hn hm r3 r4
      go_enter Try.func6, Try.ntmps6
      go_wp2_with fail
      refine (numBytes_any n width _ a0 a1 d0 d1).mono ?_
      rintro e w1 ⟨v1, rfl, hown1, hx1⟩
      rw [N.out]
      have B1 := Bytes.own hown1
      clear hown1
      go_wp2_with fail
      refine (numBytes_any m width _ b0 b1 d0 d1).mono ?_
      rintro e w2 ⟨v2, rfl, hown2, hx2⟩
      rw [M.out]
      have B2 := Bytes.own hown2
      have B11 := B1.below hx2
      have hx3 := below_step hx1 hx2
      clear hown2 hx1 hx2 B1
      go_wp2_with fail
      refine (awake01_any _).mono ?_
      rintro e w3 ⟨rfl, hx4⟩
      have B12 := B11.below hx4
      have B22 := B2.below hx4
      have hx5 := below_step hx3 hx4
      clear hx3 hx4 B11 B2
      generalize numBytes n width = l at *
      generalize numBytes m width = k at *
      obtain ⟨p1, c1, rfl, hc1, hmx1, hcs1⟩ := B12.open
      obtain ⟨p2, c2, rfl, hc2, hmx2, hcs2⟩ := B22.open
      obtain ⟨g1, o1, rfl, hk1⟩ := hcs1 (by omega)
      obtain ⟨g2, o2, rfl, hk2⟩ := hcs2 (by omega)
      unfold maxLen at hmx1 hmx2
      have HK := Lib.hid hk1
      have HK2 := Lib.hid hk2
      have HL := Lib.hid r1
      rw [← r1] at hc2 ⊢
      clear hcs1 hcs2 hk1 hk2 r1 B12 B22
      go_wp2_with fail
      go_loopw [11] (fun i wr => ∃ j : Nat, j ≤ l.length ∧ i = .int .i64 ((j : Int) - 1) ∧ l.drop j = k.drop j ∧ Below w3.heap.size w3 wr) (fun i _ => (intOf i + 1).toNat)
      case atStart => exact ⟨l.length, Nat.le_refl _, by go_num, by rw [List.drop_length, HL.out, List.drop_length], Below.refl _ _⟩
      case round =>
        obtain ⟨j, hj, rfl, he, hnx⟩ := hrel
        have HE := Lib.hid he
        clear he
        by_cases hlt : 0 < j
        · obtain ⟨j, rfl⟩ : ∃ i, j = i + 1 := ⟨j - 1, by omega⟩
          have hjm : j < k.length := by have := HL.out; omega
          have hjl : j < l.length := hj
          rw [show ((j + 1 : Nat) : Int) - 1 = (j : Int) by omega]
          have c1 : wr.cell? ⟨g1, o1 + j, none⟩ = some (.int .u8 (l[j].toNat : Int)) := (hnx.cell (World.block_lt_of_cell? w3 _ (HK.out j hjl))).trans (HK.out j hjl)
          have c2 : wr.cell? ⟨g2, o2 + j, none⟩ = some (.int .u8 (k[j].toNat : Int)) := (hnx.cell (World.block_lt_of_cell? w3 _ (HK2.out j hjm))).trans (HK2.out j hjm)
          have q0 : (0 : Int) ≤ (j : Int) := by omega
          have q1 : (j : Int) < (l.length : Int) := by omega
          by_cases hq : l[j] = k[j]
          · have ht : ((l[j].toNat : Int) != (k[j].toNat : Int)) = false := by rw [hq]; simp
            have HQ := Lib.hid (show l.drop j = k.drop j by rw [List.drop_eq_getElem_cons hjl, List.drop_eq_getElem_cons hjm, HE.out, hq])
            clear hq
            go_wp2_with fail
            go_quiet (fail)
            go_wp2_with fail
            go_roundw
            case rel => exact ⟨j, by omega, by go_num, HQ.out, hnx.trans (below_drawn _ _ _)⟩
            case measure => simp [intOf]
          · have ht : ((l[j].toNat : Int) != (k[j].toNat : Int)) = true := by
              rw [bne_iff_ne]
              intro e
              exact hq (UInt8.toNat_inj.1 (by omega))
            obtain ⟨hd, hne⟩ := R4.out j hjl hjm HE.out hq
            by_cases hnm : n < m
            · have h5 : decide ((l[j].toNat : Int) < (k[j].toNat : Int)) = true := by rw [hd]; exact decide_eq_true hnm
              have h6 : decide (n < m) = true := decide_eq_true hnm
              have h7 : ((l[j].toNat : Int) < (k[j].toNat : Int)) := by first | exact of_decide_eq_true h5 | exact of_decide_eq_false h5
              clear hd hq
              go_wp2_with fail
              go_quiet (fail)
              go_wp2_with fail
              go_quiet (fail)
              go_wp2_with fail
              go_ret
              exact ⟨by simp [hne], below_step hx5 (hnx.trans ((below_drawn _ _ _).trans (below_drawn _ _ _)))⟩
            · have h5 : decide ((l[j].toNat : Int) < (k[j].toNat : Int)) = false := by rw [hd]; exact decide_eq_false hnm
              have h6 : decide (n < m) = false := decide_eq_false hnm
              have h7 : (k[j].toNat : Int) ≤ (l[j].toNat : Int) := Int.not_lt.1 (of_decide_eq_false h5)
              have h8 : m ≤ n := Int.not_lt.1 hnm
              have h9 : decide (l[j].toNat < k[j].toNat) = false := decide_eq_false (by omega)
              clear hd hq
              go_wp2_with fail
              go_quiet (fail)
              go_wp2_with fail
              go_quiet (fail)
              go_wp2_with fail
              go_ret
              exact ⟨by simp [hne], below_step hx5 (hnx.trans ((below_drawn _ _ _).trans (below_drawn _ _ _)))⟩
        · have HJ : j = 0 := by omega
          subst HJ
          have hnm : n = m := R3.out (by simpa using HE.out)
          go_wp2_with fail
          go_ret
          exact ⟨by simp [hnm], below_step hx5 hnx⟩
    · have N := Lib.hid hn
      clear hn
      go_enter Try.func6, Try.ntmps6
      go_wp2_with fail
      refine (numBytes_any n width _ a0 a1 d0 d1).mono ?_
      rintro e w1 ⟨v1, rfl, hown1, hx1⟩
      rw [N.out]
      clear hown1
      go_wp2_with fail
      refine (numBytes_any m width _ b0 b1 d0 d1).mono ?_
      rintro e w2 ⟨v2, rfl, hown2, hx2⟩
      have hx3 := below_step hx1 hx2
      clear hown2
      go_wp2_with fail
      refine (awake01_any _).mono ?_
      rintro e w3 ⟨rfl, hx4⟩
      have hx5 := below_step hx3 hx4
      go_wp2_with fail
      refine (awake01_any _).mono ?_
      rintro e w4 ⟨rfl, hx6⟩
      go_wp2_with fail
      go_ret
      exact ⟨rfl, below_step hx5 hx6⟩
  · go_enter Try.func6, Try.ntmps6
    go_wp2_with fail
    refine (numBytes_any n width _ a0 a1 d0 d1).mono ?_
    rintro e w1 ⟨v1, rfl, hown1, hx1⟩
    clear hown1
    go_wp2_with fail
    refine (numBytes_any m width _ b0 b1 d0 d1).mono ?_
    rintro e w2 ⟨v2, rfl, hown2, hx2⟩
    have hx3 := below_step hx1 hx2
    clear hown2
    go_wp2_with fail
    refine (awake01_any _).mono ?_
    rintro e w3 ⟨rfl, hx4⟩
    have hx5 := below_step hx3 hx4
    go_wp2_with fail
    refine (awake01_any _).mono ?_
    rintro e w4 ⟨rfl, hx6⟩
    go_wp2_with fail
    go_ret
    exact ⟨rfl, below_step hx5 hx6⟩
end Go.Proofs.Ytcmoajbdepohmaa
