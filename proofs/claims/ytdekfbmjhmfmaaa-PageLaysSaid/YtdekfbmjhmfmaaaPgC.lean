/- The walk of octavoref05.Open. -/
import Derived.Test.YtdekfbmjhmfmaaaPgD
namespace Go.Proofs.Ytdekfbmjhmfmaaa
open Go.RowKit Go.Oct

set_option maxRecDepth 100000 in
set_option maxHeartbeats 2000000 in
theorem refOpen05_any (no : Int) (vb : Value) (l : List UInt8) (w : World) (hB : Bytes w vb l) (wn : -9223372036854775808 ≤ no) (wn1 : no ≤ 9223372036854775807) : Calls Try.prog 32 #[.int .i64 no, vb] w (PgOp no l w) := by
  obtain ⟨ab, cb, rfl, hcap, hmax, hcells⟩ := hB.open
  unfold maxLen at hmax
  by_cases h1 : no < 0
  · have HC := Lib.hid (show pgOpen no l = 1 by unfold pgOpen; rw [if_pos (by omega)])
    go_enter Try.func32, Try.ntmps32
    go_wp2_with fail
    go_ret3
    exact pgOp_bad HC.out (by decide) _ _ _ rfl (Below.refl _ _)
  by_cases h2 : 1048576 ≤ no
  · have HC := Lib.hid (show pgOpen no l = 1 by unfold pgOpen; rw [if_pos (by omega)])
    go_enter Try.func32, Try.ntmps32
    go_wp2_with fail
    go_ret3
    exact pgOp_bad HC.out (by decide) _ _ _ rfl (Below.refl _ _)
  by_cases h3 : l.length ≠ 256
  · have HC := Lib.hid (show pgOpen no l = 3 by unfold pgOpen; rw [if_neg (by omega), if_pos h3])
    have hne : ((l.length : Int) != 256) = true := by rw [bne_iff_ne]; omega
    clear h3
    go_enter Try.func32, Try.ntmps32
    go_wp2_with fail
    go_ret3
    exact pgOp_bad HC.out (by decide) _ _ _ rfl (Below.refl _ _)
  have hL : l.length = 256 := Decidable.not_not.1 h3
  obtain ⟨b, o, rfl, hcs⟩ := hcells (by omega)
  have hbw : b < w.heap.size := World.block_lt_of_cell? w _ (hcs 0 (by omega))
  obtain ⟨kd, hkd⟩ : ∃ x, fld l 0 1 = x := ⟨_, rfl⟩
  have hc0 : w.cell? ⟨b, o, none⟩ = some (.int .u8 (kd : Nat)) := by rw [← hkd, numList1 l 0 (by omega)]; exact hcs 0 (by omega)
  have hkl : kd < 256 := by rw [← hkd]; exact fld_lt l 0 1
  have HC0 := Lib.hid hc0
  have HKD := Lib.hid hkd
  have HL := Lib.hid hL
  rw [hL] at hB hcap ⊢
  have hn1 : ¬ ¬ (0 ≤ no ∧ no < 1048576) := by omega
  have b8 : Bytes w (.slice (some ⟨b, o + 8, none⟩) 4 (cb - 8)) ((l.drop 8).take 4) := hB.cut 8 4 _ (by decide) (by omega) (by unfold maxLen; omega)
  have b2 : Bytes w (.slice (some ⟨b, o + 2, none⟩) 2 (cb - 2)) ((l.drop 2).take 2) := hB.cut 2 2 _ (by decide) (by omega) (by unfold maxLen; omega)
  have t8 : Bytes w (.slice (some ⟨b, o, none⟩) 8 cb) (l.take 8) := hB.take 8 (by decide)
  have d12 : Bytes w (.slice (some ⟨b, o + 12, none⟩) 244 (cb - 12)) (l.drop 12) := hB.tail 12 244 _ (by decide) (by omega) (by unfold maxLen; omega)
  have HB := Lib.hid hB
  have B8 := Lib.hid b8
  have B2 := Lib.hid b2
  have T8 := Lib.hid t8
  have D12 := Lib.hid d12
  have hcapI : (256 : Int) ≤ (cb : Int) := by omega
  have hcap8 : (8 : Int) ≤ (cb : Int) := by omega
  have hcap12 : (12 : Int) ≤ (cb : Int) := by omega
  have hcapn : ¬ (cb = 12) := by omega
  have hN := numOf_short (l := (l.drop 8).take 4) (by rw [fld_len l 8 4 (by omega)]; decide) (by rw [fld_len l 8 4 (by omega)]; decide)
  have hN2 := numOf_short (l := (l.drop 2).take 2) (by rw [fld_len l 2 2 (by omega)]; decide) (by rw [fld_len l 2 2 (by omega)]; decide)
  obtain ⟨sm, hsm⟩ : ∃ x, fld l 8 4 = x := ⟨_, rfl⟩
  obtain ⟨n, hn⟩ : ∃ x, fld l 2 2 = x := ⟨_, rfl⟩
  obtain ⟨cr, hcr⟩ : ∃ x, OctCrc.crc (pgSummed l) = x := ⟨_, rfl⟩
  have HN := Lib.hid (show numOf ((l.drop 8).take 4) = sm by rw [hN, ← hsm]; rfl)
  have HN2 := Lib.hid (show numOf ((l.drop 2).take 2) = n by rw [hN2, ← hn]; rfl)
  have HNE := Lib.hid hn
  have HCR := Lib.hid (show OctCrc.crc (l.take 8 ++ l.drop 12) = cr from hcr)
  have hcl : cr < 4294967296 := by rw [← hcr]; exact OctCrc.crc_lt _
  have HSM := Lib.hid hsm
  have HCQ := Lib.hid hcr
  have LT8 := Lib.hid (show (l.take 8).length = 8 by rw [List.length_take, hL]; rfl)
  have LD12 := Lib.hid (show (l.drop 12).length = 244 by rw [List.length_drop, hL])
  obtain ⟨i0, hi, hz0, hz1, hz2⟩ := info_parts infoU8
  have hnl : n < 65536 := by rw [← hn]; exact fld_lt l 2 2
  clear b8 b2 t8 d12 hB hcells hcs hN hN2 hsm hn hcr h3 hL hkd hc0
  by_cases h4 : sm = cr
  · have hcc : ((sm : Int) != (cr : Int)) = false := by rw [h4]; simp
    have HSC := Lib.hid (show fld l 8 4 = OctCrc.crc (pgSummed l) by rw [HSM.out, HCQ.out, h4])
    clear h4
    go_enter Try.func32, Try.ntmps32
    go_wp2_with fail
    refine (refInt_any _ _ _ B8.out).mono ?_
    rintro e w' ⟨rfl, rfl⟩
    rw [HN.out]
    go_wp2_with fail
    refine region_each_tail 5 [some 30, some 31, some 32, some 33, some 34, some 35, some 9] [[], [0], [1], [], [3]]
      [kIs (.slice (some ⟨b, o, none⟩) 256 cb), kIs (.slice (some ⟨b, o, none⟩) 8 cb), kOwn w.heap.size 5 1 8 (bs (l.take 8)), kIs (.slice (some ⟨b, o, none⟩) 256 cb), kIs (.slice (some ⟨b, o + 12, none⟩) 244 (cb - 12))]
      (by kernel_rfl) (by kernel_rfl) (by kernel_rfl) (by kernel_rfl) (by kernel_rfl) ?_ ?_
    · simp only [List.take_succ_cons, List.take_zero, obligsD]
      refine ⟨?_, ?_, ?_, ?_, ?_, trivial⟩
      · intro us w1 hb _
        simp only [putD, Act.put]
        go_simp
        exact ⟨_, rfl, Below.refl _ _, rfl⟩
      · intro us w1 hb hd
        simp only [List.mem_cons, List.not_mem_nil, or_false, forall_eq, List.getD_cons_zero, kIs] at hd
        simp only [putD, List.getD_cons_zero, List.getD_cons_succ, Act.put, hd]
        go_simp
        exact ⟨_, rfl, Below.refl _ _, rfl⟩
      · intro us w1 hb hd
        simp only [List.mem_cons, List.not_mem_nil, or_false, forall_eq, List.getD_cons_zero, List.getD_cons_succ, kIs] at hd
        simp only [putD, List.getD_cons_zero, List.getD_cons_succ, Act.put, hd]
        go_simp
        refine (copy_any _ (l.take 8) _ (T8.out.below hb) (by rw [LT8.out]; decide)).mono ?_
        rintro e w9 ⟨v9, rfl, hown, hx⟩
        rw [LT8.out] at hown
        exact ⟨_, rfl, hx, Joins.ownsRow_le hown hb.size⟩
      · intro us w1 hb _
        simp only [putD, Act.put]
        go_simp
        exact ⟨_, rfl, Below.refl _ _, rfl⟩
      · intro us w1 hb hd
        simp only [List.mem_cons, List.not_mem_nil, or_false, forall_eq, List.getD_cons_zero, List.getD_cons_succ, kIs] at hd
        simp only [putD, List.getD_cons_zero, List.getD_cons_succ, Act.put, hd]
        go_simp
        exact ⟨_, rfl, Below.refl _ _, rfl⟩
    intro us w1 hb hp
    have h2 := hp 2 (by simp)
    have h4 := hp 4 (by simp)
    simp only [List.getD_cons_zero, List.getD_cons_succ, kIs] at h2 h4
    rw [show List.range 5 = [0, 1, 2, 3, 4] from rfl]
    simp only [List.drop_succ_cons, List.drop_zero, putD, List.getD_cons_zero, List.getD_cons_succ, Act.put, List.setIfInBounds_toArray, List.set_cons_zero, List.set_cons_succ, h4]
    have hown2 : w1.ownsRow w.heap.size 5 1 (us 2) 8 (bs (l.take 8)) := h2
    obtain ⟨vq, hvq⟩ : ∃ x, us 2 = x := ⟨_, rfl⟩
    rw [hvq] at hown2 ⊢
    have HO1 := Lib.hid hown2
    have hD1 := Lib.hid (D12.out.below hb)
    clear hp h2 h4 hown2 hvq
    have hs1 := hb.size
    go_wp2_with (at_builtin; go_loud (refine wpList_append_has _ rfl (.tmp 32) (.tmp 34) 24 rfl w.heap.size 5 i0 (.int .u8 0) 1 1 Try.underlying24 hi hz0 hz1 hz2 rfl (by decide) vq 8 _ rfl HO1.out (.slice (some ⟨b, o + 12, none⟩) 244 (cb - 12)) 244 (bs (l.drop 12)) rfl (by have := hD1.out; unfold Bytes at this; rw [LD12.out] at this; exact this) ?c2 (bs_one _) (by decide) (by decide) ?c5 ?_))
    case c2 => rw [bs_length, LD12.out]
    case c5 => omega
    intro vall w2 hown hgr _
    have hw2 : Below w.heap.size w w2 := grown_below hb hgr HO1.out
    rw [← bs_append] at hown
    have HB2 := Lib.hid (show Bytes w2 vall (l.take 8 ++ l.drop 12) by unfold Bytes; rw [List.length_append, LT8.out, LD12.out]; exact Has.own hown)
    clear hown hgr hb HO1 hD1 hs1
    go_wp2_with fail
    refine (refOf_any _ _ _ HB2.out).mono ?_
    rintro e w' ⟨rfl, rfl⟩
    rw [HCR.out]
    clear HB2
    go_wp2_with fail
    refine (refInt_any _ _ _ (B2.out.below hw2)).mono ?_
    rintro e w' ⟨rfl, rfl⟩
    rw [HN2.out]
    by_cases h5 : 244 < n
    · have HC := Lib.hid (pgForm_code hn1 HL.out HSC.out (fun h => by have := h.2.2.2.1; rw [HNE.out] at this; omega))
      go_wp2_with fail
      go_ret3
      exact pgOp_bad HC.out (by decide) _ _ _ rfl hw2
    · have hn244 : n ≤ 244 := by omega
      have hq0 : (0 : Int) ≤ (n : Int) := by omega
      have hq1 : (12 : Int) + (n : Int) ≤ (cb : Int) := by omega
      have hwr : IntKind.i64.wrap (12 + (n : Int)) = ((12 + n : Nat) : Int) := by rw [IntWalk.i64_in _ (by omega)]; omega
      have hcut : Bytes w (.slice (some ⟨b, o + 12, none⟩) n (cb - 12)) ((l.drop 12).take n) := HB.out.cut 12 n _ (by omega) (by omega) (by unfold maxLen; omega)
      have HCUT := Lib.hid (hcut.below hw2)
      have hbl : ((l.drop 12).take n).length = n := fld_len l 12 n (by rw [HL.out]; omega)
      have HBL := Lib.hid hbl
      have HIFF := Lib.hid (pgForm_iff (no := no) (b := l) (by omega) (by omega) HL.out HSC.out)
      clear hcut hbl h5
      obtain ⟨Y, hY⟩ : ∃ y, (l.drop 12).take n = y := ⟨_, rfl⟩
      rw [hY] at HCUT HBL
      have HY := Lib.hid hY
      clear hY
      go_wp2_with fail
      refine (copy_any _ Y _ HCUT.out (by rw [HBL.out]; omega)).mono ?_
      rintro e w3 ⟨v3, rfl, hown, hx3⟩
      rw [HBL.out] at hown
      have hw3 := below_step hw2 hx3
      have hs2 := hw2.size
      have hB3 : Bytes w3 v3 Y := by unfold Bytes; rw [HBL.out]; exact Has.own hown
      have HB3 := Lib.hid hB3
      have HO3 := Lib.hid hown
      have c0 : w3.cell? ⟨b, o, none⟩ = some (.int .u8 (kd : Nat)) := (hw3.cell (p := ⟨b, o, none⟩) hbw).trans HC0.out
      clear hx3 hown hB3 HCUT hw2
      go_wp2_with fail
      obtain ⟨K, hK⟩ : ∃ x, pgCode no (kd : Nat) Y = x := ⟨_, rfl⟩
      obtain ⟨P, hP⟩ : ∃ x, pgPack no (kd : Nat) Y = x := ⟨_, rfl⟩
      have HIF := HIFF.out
      rw [HNE.out, HKD.out, HY.out, hK, hP] at HIF
      have HIFF2 := Lib.hid HIF
      have HK := Lib.hid hK
      have HP := Lib.hid hP
      clear hK hP HIF HIFF
      refine (refPack05_any no (kd : Nat) v3 Y _ HB3.out (by omega) (by omega)).mono ?_
      rintro e w4 ⟨v4, rfl, hown, hx4⟩
      rw [HP.out] at hown
      rw [HK.out]
      have HB4 := Lib.hid (show Bytes w4 v4 P from Bytes.own hown)
      have HO4 := Lib.hid (own_keep HO3.out hx4)
      have hs3 := hw3.size
      have hw4 := below_step hw3 hx4
      have c4 : w4.cell? ⟨b, o, none⟩ = some (.int .u8 (kd : Nat)) := (hw4.cell (p := ⟨b, o, none⟩) hbw).trans HC0.out
      clear hown hx4 HB3 HO3 c0 hw3
      by_cases hK0 : K = 0
      · subst hK0
        go_wp2_with fail
        refine (same_any v4 _ P l _ HB4.out (by have := HB.out.below hw4; unfold Bytes at this ⊢; exact this)).mono ?_
        rintro e w5 ⟨rfl, hx5⟩
        have HO5 := Lib.hid (own_keep HO4.out hx5)
        have hw5 := below_step hw4 hx5
        have c5 : w5.cell? ⟨b, o, none⟩ = some (.int .u8 (kd : Nat)) := (hw5.cell (p := ⟨b, o, none⟩) hbw).trans HC0.out
        clear c4 hx5 HO4 HB4 hw4
        by_cases hPl : P = l
        · rw [decide_eq_true hPl]
          have HPG := Lib.hid (show pgOpen no l = 0 from pgOpen_mk (by omega) (by omega) HL.out HSC.out (HIFF2.out.2 ⟨hn244, by trivial, hPl⟩))
          clear hPl
          go_wp2_with fail
          go_ret3
          refine ⟨v3, ?_, ?_, hw5⟩
          · rw [HPG.out, pgKind, if_pos HPG.out, HKD.out]; rfl
          · rw [pgBody, if_pos HPG.out, HNE.out, HY.out, HBL.out]
            exact Joins.ownsRow_le HO5.out hs2
        · rw [decide_eq_false hPl]
          have HC := Lib.hid (pgForm_code hn1 HL.out HSC.out (fun h => hPl (HIFF2.out.1 h).2.2))
          clear hPl
          go_wp2_with fail
          go_ret3
          exact pgOp_bad HC.out (by decide) _ _ _ rfl hw5
      · have HC := Lib.hid (pgForm_code hn1 HL.out HSC.out (fun h => hK0 (HIFF2.out.1 h).2.1))
        have hKi : ¬ ((K : Int) = 0) := by omega
        have hKb : ((K : Int) != 0) = true := by rw [bne_iff_ne]; exact hKi
        clear hK0
        go_wp2_with fail
        go_ret3
        exact pgOp_bad HC.out (by decide) _ _ _ rfl hw4
  · have hcc : ((sm : Int) != (cr : Int)) = true := by rw [bne_iff_ne]; omega
    have HC := Lib.hid (show pgOpen no l = 5 by unfold pgOpen; rw [if_neg hn1, if_neg (by rw [HL.out]; decide), if_pos (by rw [HSM.out, HCQ.out]; exact h4)])
    clear h4
    go_enter Try.func32, Try.ntmps32
    go_wp2_with fail
    refine (refInt_any _ _ _ B8.out).mono ?_
    rintro e w' ⟨rfl, rfl⟩
    rw [HN.out]
    go_wp2_with fail
    refine region_each_tail 5 [some 30, some 31, some 32, some 33, some 34, some 35, some 9] [[], [0], [1], [], [3]]
      [kIs (.slice (some ⟨b, o, none⟩) 256 cb), kIs (.slice (some ⟨b, o, none⟩) 8 cb), kOwn w.heap.size 5 1 8 (bs (l.take 8)), kIs (.slice (some ⟨b, o, none⟩) 256 cb), kIs (.slice (some ⟨b, o + 12, none⟩) 244 (cb - 12))]
      (by kernel_rfl) (by kernel_rfl) (by kernel_rfl) (by kernel_rfl) (by kernel_rfl) ?_ ?_
    · simp only [List.take_succ_cons, List.take_zero, obligsD]
      refine ⟨?_, ?_, ?_, ?_, ?_, trivial⟩
      · intro us w1 hb _
        simp only [putD, Act.put]
        go_simp
        exact ⟨_, rfl, Below.refl _ _, rfl⟩
      · intro us w1 hb hd
        simp only [List.mem_cons, List.not_mem_nil, or_false, forall_eq, List.getD_cons_zero, kIs] at hd
        simp only [putD, List.getD_cons_zero, List.getD_cons_succ, Act.put, hd]
        go_simp
        exact ⟨_, rfl, Below.refl _ _, rfl⟩
      · intro us w1 hb hd
        simp only [List.mem_cons, List.not_mem_nil, or_false, forall_eq, List.getD_cons_zero, List.getD_cons_succ, kIs] at hd
        simp only [putD, List.getD_cons_zero, List.getD_cons_succ, Act.put, hd]
        go_simp
        refine (copy_any _ (l.take 8) _ (T8.out.below hb) (by rw [LT8.out]; decide)).mono ?_
        rintro e w9 ⟨v9, rfl, hown, hx⟩
        rw [LT8.out] at hown
        exact ⟨_, rfl, hx, Joins.ownsRow_le hown hb.size⟩
      · intro us w1 hb _
        simp only [putD, Act.put]
        go_simp
        exact ⟨_, rfl, Below.refl _ _, rfl⟩
      · intro us w1 hb hd
        simp only [List.mem_cons, List.not_mem_nil, or_false, forall_eq, List.getD_cons_zero, List.getD_cons_succ, kIs] at hd
        simp only [putD, List.getD_cons_zero, List.getD_cons_succ, Act.put, hd]
        go_simp
        exact ⟨_, rfl, Below.refl _ _, rfl⟩
    intro us w1 hb hp
    have h2 := hp 2 (by simp)
    have h4 := hp 4 (by simp)
    simp only [List.getD_cons_zero, List.getD_cons_succ, kIs] at h2 h4
    rw [show List.range 5 = [0, 1, 2, 3, 4] from rfl]
    simp only [List.drop_succ_cons, List.drop_zero, putD, List.getD_cons_zero, List.getD_cons_succ, Act.put, List.setIfInBounds_toArray, List.set_cons_zero, List.set_cons_succ, h4]
    have hown2 : w1.ownsRow w.heap.size 5 1 (us 2) 8 (bs (l.take 8)) := h2
    obtain ⟨vq, hvq⟩ : ∃ x, us 2 = x := ⟨_, rfl⟩
    rw [hvq] at hown2 ⊢
    have HO1 := Lib.hid hown2
    have hD1 := Lib.hid (D12.out.below hb)
    clear hp h2 h4 hown2 hvq
    have hs1 := hb.size
    go_wp2_with (at_builtin; go_loud (refine wpList_append_has _ rfl (.tmp 32) (.tmp 34) 24 rfl w.heap.size 5 i0 (.int .u8 0) 1 1 Try.underlying24 hi hz0 hz1 hz2 rfl (by decide) vq 8 _ rfl HO1.out (.slice (some ⟨b, o + 12, none⟩) 244 (cb - 12)) 244 (bs (l.drop 12)) rfl (by have := hD1.out; unfold Bytes at this; rw [LD12.out] at this; exact this) ?c2 (bs_one _) (by decide) (by decide) ?c5 ?_))
    case c2 => rw [bs_length, LD12.out]
    case c5 => omega
    intro vall w2 hown hgr _
    have hw2 : Below w.heap.size w w2 := grown_below hb hgr HO1.out
    rw [← bs_append] at hown
    have HB2 := Lib.hid (show Bytes w2 vall (l.take 8 ++ l.drop 12) by unfold Bytes; rw [List.length_append, LT8.out, LD12.out]; exact Has.own hown)
    clear hown hgr hb HO1 hD1 hs1
    go_wp2_with fail
    refine (refOf_any _ _ _ HB2.out).mono ?_
    rintro e w' ⟨rfl, rfl⟩
    rw [HCR.out]
    clear HB2
    go_wp2_with fail
    go_ret3
    exact pgOp_bad HC.out (by decide) _ _ _ rfl hw2
end Go.Proofs.Ytdekfbmjhmfmaaa
