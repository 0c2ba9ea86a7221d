/- The walk of super.Pack. -/
import Derived.Test.YtdekfbmjhmfmaaaSupC
import Derived.Test.YtdekfbmjhmfmaaaZeros
namespace Go.Proofs.Ytdekfbmjhmfmaaa
open Go.RowKit Go.Oct

theorem numBytes_has (n width : Int) (X : List UInt8) (k : Nat) (hX : numBytes n width = X) (hk : X.length = k) (w : World) (hn : -9223372036854775808 ≤ n ∧ n ≤ 9223372036854775807) (hw : -9223372036854775808 ≤ width ∧ width ≤ 9223372036854775807) :
    Calls Try.prog 38 #[.int .i64 n, .int .i64 width] w fun e w' => ∃ v, e = .returned (.tuple #[v, .int .i64 (numCode n width : Nat)]) ∧ Has w' v k (bs X) ∧ Below w.heap.size w w' := by
  refine (numBytes_any n width w hn.1 hn.2 hw.1 hw.2).mono ?_
  rintro e w1 ⟨v1, rfl, hown1, hx1⟩
  rw [hX, hk] at hown1
  exact ⟨_, rfl, Has.own hown1, hx1⟩
/-- the block of super.fields -/
def fieldsObj (g r c t o : Int) : Obj := .cells #[.int .i64 g, .int .i64 6, .int .i64 r, .int .i64 4, .int .i64 c, .int .i64 1, .int .i64 t, .int .i64 4, .int .i64 o, .int .i64 4] 64 (0, 0)
theorem fieldsObj_cells {w : World} {b : Nat} {g r c t o : Int} (h : w.heap[b]? = some (fieldsObj g r c t o)) :
    w.cell? ⟨b, 0, none⟩ = some (.int .i64 g) ∧ w.cell? ⟨b, 1, none⟩ = some (.int .i64 6) ∧ w.cell? ⟨b, 2, none⟩ = some (.int .i64 r) ∧ w.cell? ⟨b, 3, none⟩ = some (.int .i64 4) ∧ w.cell? ⟨b, 4, none⟩ = some (.int .i64 c) ∧
    w.cell? ⟨b, 5, none⟩ = some (.int .i64 1) ∧ w.cell? ⟨b, 6, none⟩ = some (.int .i64 t) ∧ w.cell? ⟨b, 7, none⟩ = some (.int .i64 4) ∧ w.cell? ⟨b, 8, none⟩ = some (.int .i64 o) ∧ w.cell? ⟨b, 9, none⟩ = some (.int .i64 4) := by
  unfold fieldsObj at h
  exact ⟨by rw [World.cell_block h]; rfl, by rw [World.cell_block h]; rfl, by rw [World.cell_block h]; rfl, by rw [World.cell_block h]; rfl, by rw [World.cell_block h]; rfl, by rw [World.cell_block h]; rfl, by rw [World.cell_block h]; rfl, by rw [World.cell_block h]; rfl, by rw [World.cell_block h]; rfl, by rw [World.cell_block h]; rfl⟩
set_option maxHeartbeats 2000000 in
theorem superPack_any (g r c t o : Int) (w : World) :
    Calls Try.prog 15 #[.agg #[.int .i64 g, .int .i64 r, .int .i64 c, .int .i64 t, .int .i64 o]] w (SupPost g r c t o w) := by
  have kc := fun (w : World) (C : Array Value) (n c g : Nat) (hg : g = w.heap.size) => Joins.run_convert_bytes_const_at (P := Try.prog) w 24 5 C n c g hg Try.underlying24 Try.underlying5
  by_cases hM : supMay g r c t o
  · obtain ⟨l1, l2, l3, l4, l5⟩ := supMay_lens hM
    obtain ⟨bd1, bd2, bd3, bd4, bd5⟩ := supMay_bds hM
    obtain ⟨i0, hi, hz0, hz1, hz2⟩ := info_parts infoU8
    have HP := Lib.hid (show supPack g r c t o = supBody g r c t o ++ numBytes (OctCrc.crc (supBody g r c t o) : Nat) 4 by rw [supPack, if_pos hM])
    have HB := Lib.hid (show supBody g r c t o = supLetters ++ numBytes g 6 ++ numBytes r 4 ++ numBytes c 1 ++ numBytes t 4 ++ numBytes o 4 ++ List.replicate 33 0 from rfl)
    have HBL := Lib.hid (supBody_len hM)
    have HCS := Lib.hid (show (numBytes (OctCrc.crc (supBody g r c t o) : Nat) 4).length = 4 by rw [crc_bytes, numList_length])
    have HCL := Lib.hid (show supCode g r c t o = 0 by rw [supCode, if_pos hM])
    have HD := Lib.hid (decide_eq_true hM)
    clear hM
    obtain ⟨X1, e1⟩ : ∃ x, numBytes g 6 = x := ⟨_, rfl⟩
    obtain ⟨X2, e2⟩ : ∃ x, numBytes r 4 = x := ⟨_, rfl⟩
    obtain ⟨X3, e3⟩ : ∃ x, numBytes c 1 = x := ⟨_, rfl⟩
    obtain ⟨X4, e4⟩ : ∃ x, numBytes t 4 = x := ⟨_, rfl⟩
    obtain ⟨X5, e5⟩ : ∃ x, numBytes o 4 = x := ⟨_, rfl⟩
    rw [e1] at l1 HB
    rw [e2] at l2 HB
    rw [e3] at l3 HB
    rw [e4] at l4 HB
    rw [e5] at l5 HB
    have E1 := Lib.hid e1
    have E2 := Lib.hid e2
    have E3 := Lib.hid e3
    have E4 := Lib.hid e4
    have E5 := Lib.hid e5
    have L1 := Lib.hid l1
    have L2 := Lib.hid l2
    have L3 := Lib.hid l3
    have L4 := Lib.hid l4
    have L5 := Lib.hid l5
    clear e1 e2 e3 e4 e5 l1 l2 l3 l4 l5
    go_enter Try.func15, Try.ntmps15
    go_wp2_with fail
    refine (superMay_any g r c t o _).mono ?_
    rintro e w1 ⟨rfl, hx1⟩
    rw [HD.out]
    have hb1 : w1.heap[w.heap.size]? = some (supBox g r c t o) := box_below (heap_last rfl) hx1
    have hs1 : w.heap.size < w1.heap.size := (Array.getElem?_eq_some_iff.1 hb1).1
    have hw1 : Below w.heap.size w w1 := ((Below.refl _ _).alloc (Nat.le_refl _) _).trans (hx1.mono (by simp))
    obtain ⟨ca1, ca2, ca3, ca4, ca5⟩ := supBox_cells hb1
    clear hx1
    go_wp2_with fail
    refine (fields_any g r c t o _).mono ?_
    rintro e w2 ⟨fb, rfl, hfb, hff, hx2⟩
    have hlet : w2.heap[w1.heap.size]? = some (.cells letterCells 5 (8, 9)) := box_below (heap_last rfl) hx2
    have hb2 : w2.heap[fb]? = some (fieldsObj g r c t o) := hff
    have hw2 : Below w.heap.size w w2 := (below_new hw1 _).trans (hx2.mono (by simp; omega))
    have hfw : w.heap.size + 1 ≤ fb := by simp at hfb; omega
    have hl0 : w1.heap.size < fb := by simp at hfb; omega
    have HLT := Lib.hid hlet
    clear hx2 ca1 ca2 ca3 ca4 ca5 hb1 hlet hw1 hff hfb
    obtain ⟨q0, q1, q2, q3, q4, q5, q6, q7, q8, q9⟩ := fieldsObj_cells hb2
    have hs2 : fb < w2.heap.size := (Array.getElem?_eq_some_iff.1 hb2).1
    go_wp2_with fail
    refine wp_loop_rounds 6 ?_
    rw [rounds_succ]
    go_wp2_with fail
    refine (numBytes_has g 6 X1 6 E1.out L1.out _ bd1 (by omega)).mono ?_
    rintro e w3 ⟨v1, rfl, hv, hx⟩
    have hb3 : w3.heap[fb]? = some (fieldsObj g r c t o) := box_below (heap_keep hb2 _) hx
    have hlet3 : w3.heap[w1.heap.size]? = some (.cells letterCells 5 (8, 9)) := box_below (heap_keep HLT.out _) hx
    have hw3 : Below w.heap.size w w3 := (below_new hw2 _).trans (hx.mono (by simp; omega))
    have hs3 : fb < w3.heap.size := (Array.getElem?_eq_some_iff.1 hb3).1
    have HV1 := Lib.hid hv
    have HLT3 := Lib.hid hlet3
    clear hx hv q0 q1 q2 q3 q4 q5 q6 q7 q8 q9 hw2 hb2 hlet3 HLT
    go_wp2_with (at_builtin; go_loud (refine wpList_append_full _ rfl (.tmp 31) (.tmp 32) 24 rfl 5 i0 (.int .u8 0) 1 1 Try.underlying24 hi hz0 hz1 hz2 rfl (by decide) w1.heap.size 0 8 (bs supLetters) rfl rfl (letters_cells HLT3.out) v1 6 (bs X1) rfl HV1.out ?c2 (bs_one _) (by decide) (by decide) (by decide) ?_))
    case c2 => rw [bs_length, L1.out]
    intro va w4 hown0 hgr0
    have hgb := below_none hgr0
    have hb4 : w4.heap[fb]? = some (fieldsObj g r c t o) := box_below hb3 hgb
    have hw4 : Below w.heap.size w w4 := hw3.trans (hgb.mono (by omega))
    have hs4 : fb < w4.heap.size := (Array.getElem?_eq_some_iff.1 hb4).1
    have hown : w4.ownsRow (fb + 1) 5 1 va 14 (bs (supLetters ++ X1)) := by rw [bs_append]; exact Joins.ownsRow_le hown0 (by omega)
    obtain ⟨q0, q1, q2, q3, q4, q5, q6, q7, q8, q9⟩ := fieldsObj_cells hb4
    have HO := Lib.hid hown
    clear hown hown0 hgr0 hgb hb3 hw3 HV1 HLT3
    go_wp2_with fail
    rw [rounds_succ]
    go_wp2_with fail
    refine (numBytes_has r 4 X2 4 E2.out L2.out _ bd2 (by omega)).mono ?_
    rintro e w5 ⟨v2, rfl, hv, hx⟩
    have hb5 : w5.heap[fb]? = some (fieldsObj g r c t o) := box_below (heap_keep hb4 _) hx
    have hw5 : Below w.heap.size w w5 := (below_new hw4 _).trans (hx.mono (by simp; omega))
    have hs5 : fb < w5.heap.size := (Array.getElem?_eq_some_iff.1 hb5).1
    have HO2 := Lib.hid (own_keep (HO.out.alloc _) hx)
    have HV := Lib.hid hv
    clear hx q0 q1 q2 q3 q4 q5 q6 q7 q8 q9 hb4 hv hw4 hs4 HO
    go_wp2_with (at_builtin; go_loud (refine wpList_append_has _ rfl (.tmp 31) (.tmp 32) 24 rfl (fb + 1) 5 i0 (.int .u8 0) 1 1 Try.underlying24 hi hz0 hz1 hz2 rfl (by decide) va 14 (bs (supLetters ++ X1)) rfl HO2.out v2 4 (bs X2) rfl HV.out ?c2 (bs_one _) (by decide) (by decide) ?c5 ?_))
    case c2 => rw [bs_length, L2.out]
    case c5 => omega
    intro vb2 w6 hown0 hgr0 _
    have hb6 : w6.heap[fb]? = some (fieldsObj g r c t o) := box_grown hb5 hgr0 (own_block_ge HO2.out (by omega))
    have hw6 : Below w.heap.size w w6 := grown_below hw5 hgr0 (Joins.ownsRow_le HO2.out (by omega))
    have hs6 : fb < w6.heap.size := (Array.getElem?_eq_some_iff.1 hb6).1
    have hown : w6.ownsRow (fb + 1) 5 1 vb2 18 (bs (supLetters ++ X1 ++ X2)) := by simp only [bs_append, List.append_assoc] at hown0 ⊢; exact hown0
    obtain ⟨q0, q1, q2, q3, q4, q5, q6, q7, q8, q9⟩ := fieldsObj_cells hb6
    have HO := Lib.hid hown
    clear hown hown0 hgr0 hb5 hw5 hs5 HO2 HV
    go_wp2_with fail
    rw [rounds_succ]
    go_wp2_with fail
    refine (numBytes_has c 1 X3 1 E3.out L3.out _ bd3 (by omega)).mono ?_
    rintro e w7 ⟨v3, rfl, hv, hx⟩
    have hb7 : w7.heap[fb]? = some (fieldsObj g r c t o) := box_below (heap_keep hb6 _) hx
    have hw7 : Below w.heap.size w w7 := (below_new hw6 _).trans (hx.mono (by simp; omega))
    have hs7 : fb < w7.heap.size := (Array.getElem?_eq_some_iff.1 hb7).1
    have HO2 := Lib.hid (own_keep (HO.out.alloc _) hx)
    have HV := Lib.hid hv
    clear hx q0 q1 q2 q3 q4 q5 q6 q7 q8 q9 hb6 hv hw6 hs6 HO
    go_wp2_with (at_builtin; go_loud (refine wpList_append_has _ rfl (.tmp 31) (.tmp 32) 24 rfl (fb + 1) 5 i0 (.int .u8 0) 1 1 Try.underlying24 hi hz0 hz1 hz2 rfl (by decide) vb2 18 (bs (supLetters ++ X1 ++ X2)) rfl HO2.out v3 1 (bs X3) rfl HV.out ?c2 (bs_one _) (by decide) (by decide) ?c5 ?_))
    case c2 => rw [bs_length, L3.out]
    case c5 => omega
    intro vb3 w8 hown0 hgr0 _
    have hb8 : w8.heap[fb]? = some (fieldsObj g r c t o) := box_grown hb7 hgr0 (own_block_ge HO2.out (by omega))
    have hw8 : Below w.heap.size w w8 := grown_below hw7 hgr0 (Joins.ownsRow_le HO2.out (by omega))
    have hs8 : fb < w8.heap.size := (Array.getElem?_eq_some_iff.1 hb8).1
    have hown : w8.ownsRow (fb + 1) 5 1 vb3 19 (bs (supLetters ++ X1 ++ X2 ++ X3)) := by simp only [bs_append, List.append_assoc] at hown0 ⊢; exact hown0
    obtain ⟨q0, q1, q2, q3, q4, q5, q6, q7, q8, q9⟩ := fieldsObj_cells hb8
    have HO := Lib.hid hown
    clear hown hown0 hgr0 hb7 hw7 hs7 HO2 HV
    go_wp2_with fail
    rw [rounds_succ]
    go_wp2_with fail
    refine (numBytes_has t 4 X4 4 E4.out L4.out _ bd4 (by omega)).mono ?_
    rintro e w9 ⟨v4, rfl, hv, hx⟩
    have hb9 : w9.heap[fb]? = some (fieldsObj g r c t o) := box_below (heap_keep hb8 _) hx
    have hw9 : Below w.heap.size w w9 := (below_new hw8 _).trans (hx.mono (by simp; omega))
    have hs9 : fb < w9.heap.size := (Array.getElem?_eq_some_iff.1 hb9).1
    have HO2 := Lib.hid (own_keep (HO.out.alloc _) hx)
    have HV := Lib.hid hv
    clear hx q0 q1 q2 q3 q4 q5 q6 q7 q8 q9 hb8 hv hw8 hs8 HO
    go_wp2_with (at_builtin; go_loud (refine wpList_append_has _ rfl (.tmp 31) (.tmp 32) 24 rfl (fb + 1) 5 i0 (.int .u8 0) 1 1 Try.underlying24 hi hz0 hz1 hz2 rfl (by decide) vb3 19 (bs (supLetters ++ X1 ++ X2 ++ X3)) rfl HO2.out v4 4 (bs X4) rfl HV.out ?c2 (bs_one _) (by decide) (by decide) ?c5 ?_))
    case c2 => rw [bs_length, L4.out]
    case c5 => omega
    intro vb4 w10 hown0 hgr0 _
    have hb10 : w10.heap[fb]? = some (fieldsObj g r c t o) := box_grown hb9 hgr0 (own_block_ge HO2.out (by omega))
    have hw10 : Below w.heap.size w w10 := grown_below hw9 hgr0 (Joins.ownsRow_le HO2.out (by omega))
    have hs10 : fb < w10.heap.size := (Array.getElem?_eq_some_iff.1 hb10).1
    have hown : w10.ownsRow (fb + 1) 5 1 vb4 23 (bs (supLetters ++ X1 ++ X2 ++ X3 ++ X4)) := by simp only [bs_append, List.append_assoc] at hown0 ⊢; exact hown0
    obtain ⟨q0, q1, q2, q3, q4, q5, q6, q7, q8, q9⟩ := fieldsObj_cells hb10
    have HO := Lib.hid hown
    clear hown hown0 hgr0 hb9 hw9 hs9 HO2 HV
    go_wp2_with fail
    rw [rounds_succ]
    go_wp2_with fail
    refine (numBytes_has o 4 X5 4 E5.out L5.out _ bd5 (by omega)).mono ?_
    rintro e w11 ⟨v5, rfl, hv, hx⟩
    have hb11 : w11.heap[fb]? = some (fieldsObj g r c t o) := box_below (heap_keep hb10 _) hx
    have hw11 : Below w.heap.size w w11 := (below_new hw10 _).trans (hx.mono (by simp; omega))
    have hs11 : fb < w11.heap.size := (Array.getElem?_eq_some_iff.1 hb11).1
    have HO2 := Lib.hid (own_keep (HO.out.alloc _) hx)
    have HV := Lib.hid hv
    clear hx q0 q1 q2 q3 q4 q5 q6 q7 q8 q9 hb10 hv hw10 hs10 HO
    go_wp2_with (at_builtin; go_loud (refine wpList_append_has _ rfl (.tmp 31) (.tmp 32) 24 rfl (fb + 1) 5 i0 (.int .u8 0) 1 1 Try.underlying24 hi hz0 hz1 hz2 rfl (by decide) vb4 23 (bs (supLetters ++ X1 ++ X2 ++ X3 ++ X4)) rfl HO2.out v5 4 (bs X5) rfl HV.out ?c2 (bs_one _) (by decide) (by decide) ?c5 ?_))
    case c2 => rw [bs_length, L5.out]
    case c5 => omega
    intro vb5 w12 hown0 hgr0 _
    have hb12 : w12.heap[fb]? = some (fieldsObj g r c t o) := box_grown hb11 hgr0 (own_block_ge HO2.out (by omega))
    have hw12 : Below w.heap.size w w12 := grown_below hw11 hgr0 (Joins.ownsRow_le HO2.out (by omega))
    have hs12 : fb < w12.heap.size := (Array.getElem?_eq_some_iff.1 hb12).1
    have hown : w12.ownsRow (fb + 1) 5 1 vb5 27 (bs (supLetters ++ X1 ++ X2 ++ X3 ++ X4 ++ X5)) := by simp only [bs_append, List.append_assoc] at hown0 ⊢; exact hown0
    obtain ⟨q0, q1, q2, q3, q4, q5, q6, q7, q8, q9⟩ := fieldsObj_cells hb12
    have HO := Lib.hid hown
    clear hown hown0 hgr0 hb11 hw11 hs11 HO2 HV
    go_wp2_with fail
    clear q0 q1 q2 q3 q4 q5 q6 q7 q8 q9
    obtain ⟨A, hA⟩ : ∃ A, A = supLetters ++ X1 ++ X2 ++ X3 ++ X4 ++ X5 := ⟨_, rfl⟩
    rw [← hA] at HO HB
    clear hA
    rw [rounds_succ]
    obtain ⟨gb, cp, hf⟩ := Joins.ownsRow_form HO.out (by decide)
    subst hf
    go_wp2_with (at_builtin; go_loud (refine wpList_append_zeros _ rfl (.tmp 35) (.tmp 38) 24 3 rfl (fb + 1) 5 i0 (.int .u8 0) 1 1 .i64 .i64 Try.underlying24 Try.underlying3 hi hz0 hz1 hz2 rfl (by decide) (by decide) _ 27 _ rfl HO.out (by decide) 33 rfl (by decide) (by decide) (by decide) ?c5 ?_))
    case c5 => omega
    intro v6 w20 hown0 hgr0
    have hw20 : Below w.heap.size w w20 := grown_below hw12 hgr0 (Joins.ownsRow_le HO.out (by omega))
    have hs20 : fb < w20.heap.size := by have := hgr0.size; omega
    have hbody : w20.ownsRow (fb + 1) 5 1 v6 60 (bs (supBody g r c t o)) := by
      rw [HB.out, bs_append]
      exact zeros_bs 33 ▸ hown0
    have HO6 := Lib.hid hbody
    have HBY := Lib.hid (show Bytes w20 v6 (supBody g r c t o) by unfold Bytes; rw [HBL.out]; exact Has.own hbody)
    obtain ⟨gb6, cp6, hf⟩ := Joins.ownsRow_form hbody (by decide)
    subst hf
    clear hown0 hgr0 hw12 hb12 HO hbody
    go_wp2_with fail
    refine (of_one _ (supBody g r c t o) w20.heap.size _ _ _ (heap_last rfl) (HBY.out.alloc _)).mono ?_
    rintro e w' ⟨rfl, rfl⟩
    have hcr : (OctCrc.crc (supBody g r c t o) : Nat) < 4294967296 := OctCrc.crc_lt _
    obtain ⟨q, hq⟩ : ∃ q, OctCrc.crc (supBody g r c t o) = q := ⟨_, rfl⟩
    rw [hq] at hcr HCS HP
    rw [hq]
    clear hq
    go_wp2_with fail
    obtain ⟨S, e6⟩ : ∃ x, numBytes (q : Int) 4 = x := ⟨_, rfl⟩
    rw [e6] at HCS HP
    refine (numBytes_has (q : Int) 4 S 4 e6 HCS.out _ (by omega) (by omega)).mono ?_
    clear e6
    rintro e w21 ⟨v8, rfl, hv, hx⟩
    have hw21 : Below w.heap.size w w21 := (below_new hw20 _).trans (hx.mono (by simp; omega))
    have hs21 : fb < w21.heap.size := by have := hx.size; simp at this; omega
    have HO2 := Lib.hid (own_keep (HO6.out.alloc _) hx)
    have HV := Lib.hid hv
    clear hx hv hw20 HO6 HBY
    go_wp2_with (at_builtin; go_loud (refine wpList_append_has _ rfl (.tmp 48) (.tmp 49) 24 rfl (fb + 1) 5 i0 (.int .u8 0) 1 1 Try.underlying24 hi hz0 hz1 hz2 rfl (by decide) _ _ _ rfl HO2.out v8 4 (bs S) rfl HV.out ?c2 (bs_one _) (by decide) (by decide) ?c5 ?_))
    case c2 => rw [bs_length, HCS.out]
    case c5 => omega
    intro v9 w22 hown0 hgr0 _
    have hw22 : Below w.heap.size w w22 := grown_below hw21 hgr0 (Joins.ownsRow_le HO2.out (by omega))
    have HO3 := Lib.hid hown0
    clear hown0 hgr0
    go_wp2_with fail
    go_ret2
    refine ⟨v9, by rw [HCL.out]; rfl, ?_, hw22⟩
    rw [HP.out, List.length_append, HCS.out, HBL.out, bs_append]
    exact Joins.ownsRow_le HO3.out (by omega)
  · have HM := Lib.hid hM
    have HD := Lib.hid (decide_eq_false hM)
    clear hM
    go_enter Try.func15, Try.ntmps15
    go_wp2_with fail
    refine (superMay_any g r c t o _).mono ?_
    rintro e w1 ⟨rfl, hx1⟩
    rw [HD.out]
    go_wp2_with fail
    go_ret2
    refine ⟨_, by rw [supCode, if_neg HM.out]; rfl, ?_, ?_⟩
    · rw [supPack, if_neg HM.out]
      exact World.ownsRow_nil _ _ _ _
    · exact ((Below.refl _ _).alloc (Nat.le_refl _) _).trans (hx1.mono (by simp))
end Go.Proofs.Ytdekfbmjhmfmaaa
