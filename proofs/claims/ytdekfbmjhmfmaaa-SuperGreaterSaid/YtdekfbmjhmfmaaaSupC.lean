/- The walk of octavoref16.Pack. -/
import Derived.Test.YtdekfbmjhmfmaaaSupB
import Derived.Test.YtdekfbmjhmfmaaaLeB
import Derived.Test.YtdekfbmjhmfmaaaCrcC
import Derived.Test.YtdekfbmjhmfmaaaFull
import Derived.Lib.SmallJoins
namespace Go.Proofs.Ytdekfbmjhmfmaaa
open Go.RowKit Go.Oct

theorem below_step {w w1 w2 : World} (h : Below w.heap.size w w1) (k : Below w1.heap.size w1 w2) : Below w.heap.size w w2 := h.trans (k.mono h.size)
theorem bytes16_has (n width : Int) (X : List UInt8) (k : Nat) (hX : numBytes n width = X) (hk : X.length = k) (w : World) (hn : -9223372036854775808 ≤ n ∧ n ≤ 9223372036854775807) (hw : -9223372036854775808 ≤ width ∧ width ≤ 9223372036854775807) :
    Calls Try.prog 40 #[.int .i64 n, .int .i64 width] w fun e w' => ∃ v, e = .returned v ∧ Has w' v k (bs X) ∧ Below w.heap.size w w' := by
  obtain ⟨hn0, hn1⟩ := hn
  obtain ⟨hw0, hw1⟩ := hw
  have HX := Lib.hid hX
  have HK := Lib.hid hk
  clear hX hk
  go_enter Try.func40, Try.ntmps40
  go_wp2_with fail
  refine (refBytes_any n width _ hn0 hn1 hw0 hw1).mono ?_
  rintro e w1 ⟨v1, rfl, hown1, hx1⟩
  go_wp2_with fail
  go_ret
  rw [HX.out, HK.out] at hown1
  exact ⟨_, rfl, Has.own hown1, hx1⟩
/-- what Pack answers -/
def SupPost (g r c t o : Int) (w : World) (e : Ending) (w' : World) : Prop :=
  ∃ v, e = .returned (.tuple #[v, .int .i64 (supCode g r c t o : Nat)]) ∧ w'.ownsRow w.heap.size 5 1 v (supPack g r c t o).length (bs (supPack g r c t o)) ∧ Below w.heap.size w w'
theorem supMay_bds {g r c t o : Int} (h : supMay g r c t o) : (-9223372036854775808 ≤ g ∧ g ≤ 9223372036854775807) ∧ (-9223372036854775808 ≤ r ∧ r ≤ 9223372036854775807) ∧ (-9223372036854775808 ≤ c ∧ c ≤ 9223372036854775807) ∧ (-9223372036854775808 ≤ t ∧ t ≤ 9223372036854775807) ∧ (-9223372036854775808 ≤ o ∧ o ≤ 9223372036854775807) := by
  unfold supMay at h; omega
/-- the box of a superblock -/
def supBox (g r c t o : Int) : Obj := .cells #[.int .i64 g, .int .i64 r, .int .i64 c, .int .i64 t, .int .i64 o] 23 (0, 0)
theorem supBox_cells {w : World} {b : Nat} {g r c t o : Int} (h : w.heap[b]? = some (supBox g r c t o)) :
    w.cell? ⟨b, 0, none⟩ = some (.int .i64 g) ∧ w.cell? ⟨b, 1, none⟩ = some (.int .i64 r) ∧ w.cell? ⟨b, 2, none⟩ = some (.int .i64 c) ∧ w.cell? ⟨b, 3, none⟩ = some (.int .i64 t) ∧ w.cell? ⟨b, 4, none⟩ = some (.int .i64 o) := by
  unfold supBox at h
  exact ⟨by rw [World.cell_block h]; rfl, by rw [World.cell_block h]; rfl, by rw [World.cell_block h]; rfl, by rw [World.cell_block h]; rfl, by rw [World.cell_block h]; rfl⟩
def letterCells : Array Value := #[.int .u8 111, .int .u8 99, .int .u8 116, .int .u8 97, .int .u8 118, .int .u8 111, .int .u8 48, .int .u8 49]
theorem letters_cells {w : World} {b : Nat} {f : Nat × Nat} (h : w.heap[b]? = some (.cells letterCells 5 f)) (j : Nat) (u : Value) (hj : (bs supLetters)[j]? = some u) : w.cell? ⟨b, 0 + j, none⟩ = some u := by
  rw [World.cell_block h, Nat.zero_add, ← hj]
  show letterCells[j]? = letterCells.toList[j]?
  simp
def sliceLen : Value → Nat
  | .slice _ n _ => n
  | _ => 0
theorem grown_below {w w1 w2 : World} {e : TypeId} {size n : Nat} {v : Value} {xs : List Value} (h : Below w.heap.size w w1) (k : w1.grownBy w2 v.ownBlock) (ho : w1.ownsRow w.heap.size e size v n xs) : Below w.heap.size w w2 :=
  h.grown k h.size (fun k hk => (ho.lt k hk).1)
set_option maxHeartbeats 2000000 in
theorem refPack16_any (g r c t o : Int) (w : World) :
    Calls Try.prog 16 #[.agg #[.int .i64 g, .int .i64 r, .int .i64 c, .int .i64 t, .int .i64 o]] w (SupPost g r c t o w) := by
  have kc := fun (w : World) (C : Array Value) (n c g : Nat) (hg : g = w.heap.size) => Joins.run_convert_bytes_const_at (P := Try.prog) w 24 5 C n c g hg Try.underlying24 Try.underlying5
  by_cases hM : supMay g r c t o
  · obtain ⟨l1, l2, l3, l4, l5⟩ := supMay_lens hM
    obtain ⟨bd1, bd2, bd3, bd4, bd5⟩ := supMay_bds hM
    obtain ⟨i0, hi, hz0, hz1, hz2⟩ := info_parts infoU8
    have HP := Lib.hid (show supPack g r c t o = supBody g r c t o ++ numBytes (OctCrc.crc (supBody g r c t o) : Nat) 4 by rw [supPack, if_pos hM])
    have HB := Lib.hid (show supBody g r c t o = supLetters ++ numBytes g 6 ++ numBytes r 4 ++ numBytes c 1 ++ numBytes t 4 ++ numBytes o 4 ++ List.replicate 33 0 from rfl)
    have HBL := Lib.hid (supBody_len hM)
    have HCS := Lib.hid (show (numBytes (OctCrc.crc (supBody g r c t o) : Nat) 4).length = 4 by rw [crc_bytes, numList_length])
    have HCL := Lib.hid (show supCode g r c t o = 0 by rw [supCode, if_pos hM])
    have HD := Lib.hid (decide_eq_true hM)
    clear hM
    obtain ⟨X1, e1⟩ : ∃ x, numBytes g 6 = x := ⟨_, rfl⟩
    obtain ⟨X2, e2⟩ : ∃ x, numBytes r 4 = x := ⟨_, rfl⟩
    obtain ⟨X3, e3⟩ : ∃ x, numBytes c 1 = x := ⟨_, rfl⟩
    obtain ⟨X4, e4⟩ : ∃ x, numBytes t 4 = x := ⟨_, rfl⟩
    obtain ⟨X5, e5⟩ : ∃ x, numBytes o 4 = x := ⟨_, rfl⟩
    rw [e1] at l1 HB
    rw [e2] at l2 HB
    rw [e3] at l3 HB
    rw [e4] at l4 HB
    rw [e5] at l5 HB
    have E1 := Lib.hid e1
    have E2 := Lib.hid e2
    have E3 := Lib.hid e3
    have E4 := Lib.hid e4
    have E5 := Lib.hid e5
    have L1 := Lib.hid l1
    have L2 := Lib.hid l2
    have L3 := Lib.hid l3
    have L4 := Lib.hid l4
    have L5 := Lib.hid l5
    clear e1 e2 e3 e4 e5 l1 l2 l3 l4 l5
    go_enter Try.func16, Try.ntmps16
    go_wp2_with fail
    refine (refMay16_any g r c t o _).mono ?_
    rintro e w1 ⟨rfl, hx1⟩
    rw [HD.out]
    have hb1 : w1.heap[w.heap.size]? = some (supBox g r c t o) := box_below (heap_last rfl) hx1
    have hs1 : w.heap.size < w1.heap.size := (Array.getElem?_eq_some_iff.1 hb1).1
    have hw1 : Below w.heap.size w w1 := ((Below.refl _ _).alloc (Nat.le_refl _) _).trans (hx1.mono (by simp))
    obtain ⟨ca1, ca2, ca3, ca4, ca5⟩ := supBox_cells hb1
    clear hx1
    go_wp2_with fail
    refine (bytes16_has g 6 X1 6 E1.out L1.out _ bd1 (by omega)).mono ?_
    rintro e w2 ⟨v1, rfl, hv1, hx2⟩
    have hlet : w2.heap[w1.heap.size]? = some (.cells letterCells 5 (8, 9)) := box_below (heap_last rfl) hx2
    have hb2 : w2.heap[w.heap.size]? = some (supBox g r c t o) := box_below (heap_keep hb1 _) hx2
    have hw2 : Below w.heap.size w w2 := (below_new hw1 _).trans (hx2.mono (by simp; omega))
    have hs2 : w.heap.size < w2.heap.size := (Array.getElem?_eq_some_iff.1 hb2).1
    have HV1 := Lib.hid hv1
    have HLT := Lib.hid hlet
    clear hx2 ca1 ca2 ca3 ca4 ca5 hb1 hv1 hlet hw1
    go_wp2_with (at_builtin; go_loud (refine wpList_append_full _ rfl (.tmp 10) (.tmp 13) 24 rfl 5 i0 (.int .u8 0) 1 1 Try.underlying24 hi hz0 hz1 hz2 rfl (by decide) w1.heap.size 0 8 (bs supLetters) rfl rfl (letters_cells HLT.out) v1 6 (bs X1) rfl HV1.out ?c2 (bs_one _) (by decide) (by decide) (by decide) ?_))
    case c2 => rw [bs_length, L1.out]
    intro va w3 hown0 hgr0
    have hgb := below_none hgr0
    have hb3 : w3.heap[w.heap.size]? = some (supBox g r c t o) := box_below hb2 hgb
    have hw3 : Below w.heap.size w w3 := hw2.trans (hgb.mono (by omega))
    have hs3 : w.heap.size < w3.heap.size := (Array.getElem?_eq_some_iff.1 hb3).1
    have hown : w3.ownsRow (w.heap.size + 1) 5 1 va 14 (bs (supLetters ++ X1)) := by rw [bs_append]; exact Joins.ownsRow_le hown0 (by omega)
    obtain ⟨ca1, ca2, ca3, ca4, ca5⟩ := supBox_cells hb3
    have HO := Lib.hid hown
    clear hown hown0 hgr0 hgb hb2 hw2 HV1 HLT
    go_wp2_with fail
    refine (bytes16_has r 4 X2 4 E2.out L2.out _ bd2 (by omega)).mono ?_
    rintro e w4 ⟨v2, rfl, hv, hx⟩
    have hb4 : w4.heap[w.heap.size]? = some (supBox g r c t o) := box_below hb3 hx
    have hw4 : Below w.heap.size w w4 := hw3.trans (hx.mono (by omega))
    have hs4 : w.heap.size < w4.heap.size := (Array.getElem?_eq_some_iff.1 hb4).1
    have HO2 := Lib.hid (own_keep HO.out hx)
    have HV := Lib.hid hv
    clear hx ca1 ca2 ca3 ca4 ca5 hb3 hv hw3 hs3 HO
    go_wp2_with (at_builtin; go_loud (refine wpList_append_has _ rfl (.tmp 15) (.tmp 18) 24 rfl (w.heap.size + 1) 5 i0 (.int .u8 0) 1 1 Try.underlying24 hi hz0 hz1 hz2 rfl (by decide) va 14 (bs (supLetters ++ X1)) rfl HO2.out v2 4 (bs X2) rfl HV.out ?c2 (bs_one _) (by decide) (by decide) ?c5 ?_))
    case c2 => rw [bs_length, L2.out]
    case c5 => omega
    intro vb2 w5 hown0 hgr0 _
    have hb5 : w5.heap[w.heap.size]? = some (supBox g r c t o) := box_grown hb4 hgr0 (own_block_ge HO2.out (by omega))
    have hw5 : Below w.heap.size w w5 := grown_below hw4 hgr0 (Joins.ownsRow_le HO2.out (by omega))
    have hs5 : w.heap.size < w5.heap.size := (Array.getElem?_eq_some_iff.1 hb5).1
    have hown : w5.ownsRow (w.heap.size + 1) 5 1 vb2 18 (bs (supLetters ++ X1 ++ X2)) := by simp only [bs_append, List.append_assoc] at hown0 ⊢; exact hown0
    obtain ⟨ca1, ca2, ca3, ca4, ca5⟩ := supBox_cells hb5
    have HO := Lib.hid hown
    clear hown hown0 hgr0 hb4 hw4 hs4 HO2 HV
    go_wp2_with fail
    refine (bytes16_has c 1 X3 1 E3.out L3.out _ bd3 (by omega)).mono ?_
    rintro e w6 ⟨v3, rfl, hv, hx⟩
    have hb6 : w6.heap[w.heap.size]? = some (supBox g r c t o) := box_below hb5 hx
    have hw6 : Below w.heap.size w w6 := hw5.trans (hx.mono (by omega))
    have hs6 : w.heap.size < w6.heap.size := (Array.getElem?_eq_some_iff.1 hb6).1
    have HO2 := Lib.hid (own_keep HO.out hx)
    have HV := Lib.hid hv
    clear hx ca1 ca2 ca3 ca4 ca5 hb5 hv hw5 hs5 HO
    go_wp2_with (at_builtin; go_loud (refine wpList_append_has _ rfl (.tmp 20) (.tmp 23) 24 rfl (w.heap.size + 1) 5 i0 (.int .u8 0) 1 1 Try.underlying24 hi hz0 hz1 hz2 rfl (by decide) vb2 18 (bs (supLetters ++ X1 ++ X2)) rfl HO2.out v3 1 (bs X3) rfl HV.out ?c2 (bs_one _) (by decide) (by decide) ?c5 ?_))
    case c2 => rw [bs_length, L3.out]
    case c5 => omega
    intro vb3 w7 hown0 hgr0 _
    have hb7 : w7.heap[w.heap.size]? = some (supBox g r c t o) := box_grown hb6 hgr0 (own_block_ge HO2.out (by omega))
    have hw7 : Below w.heap.size w w7 := grown_below hw6 hgr0 (Joins.ownsRow_le HO2.out (by omega))
    have hs7 : w.heap.size < w7.heap.size := (Array.getElem?_eq_some_iff.1 hb7).1
    have hown : w7.ownsRow (w.heap.size + 1) 5 1 vb3 19 (bs (supLetters ++ X1 ++ X2 ++ X3)) := by simp only [bs_append, List.append_assoc] at hown0 ⊢; exact hown0
    obtain ⟨ca1, ca2, ca3, ca4, ca5⟩ := supBox_cells hb7
    have HO := Lib.hid hown
    clear hown hown0 hgr0 hb6 hw6 hs6 HO2 HV
    go_wp2_with fail
    refine (bytes16_has t 4 X4 4 E4.out L4.out _ bd4 (by omega)).mono ?_
    rintro e w8 ⟨v4, rfl, hv, hx⟩
    have hb8 : w8.heap[w.heap.size]? = some (supBox g r c t o) := box_below hb7 hx
    have hw8 : Below w.heap.size w w8 := hw7.trans (hx.mono (by omega))
    have hs8 : w.heap.size < w8.heap.size := (Array.getElem?_eq_some_iff.1 hb8).1
    have HO2 := Lib.hid (own_keep HO.out hx)
    have HV := Lib.hid hv
    clear hx ca1 ca2 ca3 ca4 ca5 hb7 hv hw7 hs7 HO
    go_wp2_with (at_builtin; go_loud (refine wpList_append_has _ rfl (.tmp 25) (.tmp 28) 24 rfl (w.heap.size + 1) 5 i0 (.int .u8 0) 1 1 Try.underlying24 hi hz0 hz1 hz2 rfl (by decide) vb3 19 (bs (supLetters ++ X1 ++ X2 ++ X3)) rfl HO2.out v4 4 (bs X4) rfl HV.out ?c2 (bs_one _) (by decide) (by decide) ?c5 ?_))
    case c2 => rw [bs_length, L4.out]
    case c5 => omega
    intro vb4 w9 hown0 hgr0 _
    have hb9 : w9.heap[w.heap.size]? = some (supBox g r c t o) := box_grown hb8 hgr0 (own_block_ge HO2.out (by omega))
    have hw9 : Below w.heap.size w w9 := grown_below hw8 hgr0 (Joins.ownsRow_le HO2.out (by omega))
    have hs9 : w.heap.size < w9.heap.size := (Array.getElem?_eq_some_iff.1 hb9).1
    have hown : w9.ownsRow (w.heap.size + 1) 5 1 vb4 23 (bs (supLetters ++ X1 ++ X2 ++ X3 ++ X4)) := by simp only [bs_append, List.append_assoc] at hown0 ⊢; exact hown0
    obtain ⟨ca1, ca2, ca3, ca4, ca5⟩ := supBox_cells hb9
    have HO := Lib.hid hown
    clear hown hown0 hgr0 hb8 hw8 hs8 HO2 HV
    go_wp2_with fail
    refine (bytes16_has o 4 X5 4 E5.out L5.out _ bd5 (by omega)).mono ?_
    rintro e w10 ⟨v5, rfl, hv, hx⟩
    have hb10 : w10.heap[w.heap.size]? = some (supBox g r c t o) := box_below hb9 hx
    have hw10 : Below w.heap.size w w10 := hw9.trans (hx.mono (by omega))
    have hs10 : w.heap.size < w10.heap.size := (Array.getElem?_eq_some_iff.1 hb10).1
    have HO2 := Lib.hid (own_keep HO.out hx)
    have HV := Lib.hid hv
    clear hx ca1 ca2 ca3 ca4 ca5 hb9 hv hw9 hs9 HO
    go_wp2_with (at_builtin; go_loud (refine wpList_append_has _ rfl (.tmp 30) (.tmp 33) 24 rfl (w.heap.size + 1) 5 i0 (.int .u8 0) 1 1 Try.underlying24 hi hz0 hz1 hz2 rfl (by decide) vb4 23 (bs (supLetters ++ X1 ++ X2 ++ X3 ++ X4)) rfl HO2.out v5 4 (bs X5) rfl HV.out ?c2 (bs_one _) (by decide) (by decide) ?c5 ?_))
    case c2 => rw [bs_length, L5.out]
    case c5 => omega
    intro vb5 w11 hown0 hgr0 _
    have hb11 : w11.heap[w.heap.size]? = some (supBox g r c t o) := box_grown hb10 hgr0 (own_block_ge HO2.out (by omega))
    have hw11 : Below w.heap.size w w11 := grown_below hw10 hgr0 (Joins.ownsRow_le HO2.out (by omega))
    have hs11 : w.heap.size < w11.heap.size := (Array.getElem?_eq_some_iff.1 hb11).1
    have hown : w11.ownsRow (w.heap.size + 1) 5 1 vb5 27 (bs (supLetters ++ X1 ++ X2 ++ X3 ++ X4 ++ X5)) := by simp only [bs_append, List.append_assoc] at hown0 ⊢; exact hown0
    obtain ⟨ca1, ca2, ca3, ca4, ca5⟩ := supBox_cells hb11
    have HO := Lib.hid hown
    clear hown hown0 hgr0 hb10 hw10 hs10 HO2 HV
    clear ca1 ca2 ca3 ca4 ca5
    obtain ⟨A, hA⟩ : ∃ A, A = supLetters ++ X1 ++ X2 ++ X3 ++ X4 ++ X5 := ⟨_, rfl⟩
    rw [← hA] at HO HB
    clear hA
    have hbb := hb11
    clear hb11
    go_wp2_with fail
    go_loopw [4] (fun v wr => ∃ (k gb cp : Nat), 27 ≤ k ∧ k ≤ 60 ∧ v = .slice (some ⟨gb, 0, none⟩) k cp ∧ wr.ownsRow (w.heap.size + 1) 5 1 v k (bs (A ++ List.replicate (k - 27) 0)) ∧ Below w.heap.size w wr ∧ w.heap.size < wr.heap.size) (fun v _ => 60 - sliceLen v)
    case atStart =>
      obtain ⟨gb, cp, hf⟩ := Joins.ownsRow_form HO.out (by decide)
      exact ⟨27, gb, cp, by decide, by decide, hf, by simpa using HO.out, hw11, hs11⟩
    case round =>
      obtain ⟨k, gb, cp, hk1, hk2, hform, hown, hnx, hsz⟩ := hrel
      subst hform
      have HO := Lib.hid hown
      clear hown
      by_cases hlt : k < 60
      · go_wp2_with (at_builtin; go_loud (refine wpList_append_own _ rfl (.tmp 38) (.tmp 39) 24 rfl (w.heap.size + 1) 5 i0 (.int .u8 0) 1 1 Try.underlying24 hi hz0 hz1 hz2 rfl (by decide) _ _ _ rfl (HO.out.alloc _) ⟨wr.heap.size, 0, none⟩ 1 1 [.int .u8 0] rfl rfl ?c1 ?c2 ?c3 ?c4 ?c5 ?_))
        case c1 => exact cell_one_new _ _ _
        case c2 => intro u hu; simp at hu; subst hu; rfl
        case c3 => unfold maxLen; omega
        case c4 => omega
        case c5 => simp; omega
        intro v' w9 hown' hgrow _
        have hnx1 : Below w.heap.size w w9 := (hnx.alloc (by omega) _).grown hgrow (by simp; omega) (fun k hk => by have := (HO.out.lt k hk).1; omega)
        have hsz1 : w.heap.size < w9.heap.size := by have := hgrow.size; simp at this; omega
        have HO3 := Lib.hid hown'
        clear hgrow hnx hown'
        go_wp2_with fail
        go_roundw
        case rel =>
          obtain ⟨gb', cp', hf⟩ := Joins.ownsRow_form HO3.out (by omega)
          refine ⟨k + 1, gb', cp', by omega, by omega, hf, ?_, hnx1, hsz1⟩
          have e9 : A ++ List.replicate (k + 1 - 27) 0 = A ++ List.replicate (k - 27) 0 ++ [0] := by
            rw [show k + 1 - 27 = (k - 27) + 1 by omega, List.replicate_succ', List.append_assoc]
          rw [e9, bs_append]
          exact HO3.out
        case measure =>
          obtain ⟨gb', cp', hf⟩ := Joins.ownsRow_form HO3.out (by omega)
          rw [hf]
          show 60 - (k + 1) < 60 - k
          omega
      · obtain rfl : k = 60 := by omega
        have hbody : Bytes wr (.slice (some ⟨gb, 0, none⟩) 60 cp) (supBody g r c t o) := by
          unfold Bytes
          rw [HBL.out, HB.out]
          exact Has.own HO.out
        go_wp2_with fail
        refine (refOf_any _ (supBody g r c t o) _ hbody).mono ?_
        rintro e w' ⟨rfl, rfl⟩
        have hcr : (OctCrc.crc (supBody g r c t o) : Nat) < 4294967296 := OctCrc.crc_lt _
        obtain ⟨q, hq⟩ : ∃ q, OctCrc.crc (supBody g r c t o) = q := ⟨_, rfl⟩
        rw [hq] at hcr HCS HP
        rw [hq]
        clear hq hbody
        go_wp2_with fail
        obtain ⟨S, e6⟩ : ∃ x, numBytes (q : Int) 4 = x := ⟨_, rfl⟩
        rw [e6] at HCS HP
        refine (bytes16_has (q : Int) 4 S 4 e6 HCS.out _ (by omega) (by omega)).mono ?_
        clear e6
        rintro e w8 ⟨v8, rfl, hv, hx⟩
        have hw8 : Below w.heap.size w w8 := hnx.trans (hx.mono (by omega))
        have hs8 := hx.size
        have HO2 := Lib.hid (own_keep HO.out hx)
        have HV := Lib.hid hv
        clear hx hv hnx HO
        go_wp2_with (at_builtin; go_loud (refine wpList_append_has _ rfl (.tmp 41) (.tmp 45) 24 rfl (w.heap.size + 1) 5 i0 (.int .u8 0) 1 1 Try.underlying24 hi hz0 hz1 hz2 rfl (by decide) _ _ _ rfl HO2.out v8 4 (bs S) rfl HV.out ?c2 (bs_one _) (by decide) (by decide) ?c5 ?_))
        case c2 => rw [bs_length, HCS.out]
        case c5 => omega
        intro v9 w9 hown0 hgr0 _
        have hw9 : Below w.heap.size w w9 := grown_below hw8 hgr0 (Joins.ownsRow_le HO2.out (by omega))
        have HO3 := Lib.hid hown0
        clear hown0 hgr0
        go_wp2_with fail
        go_ret2
        refine ⟨v9, by rw [HCL.out]; rfl, ?_, hw9⟩
        rw [HP.out, HB.out, List.length_append, HCS.out, ← HB.out, HBL.out, HB.out, bs_append]
        exact Joins.ownsRow_le HO3.out (by omega)
  · have HM := Lib.hid hM
    have HD := Lib.hid (decide_eq_false hM)
    clear hM
    go_enter Try.func16, Try.ntmps16
    go_wp2_with fail
    refine (refMay16_any g r c t o _).mono ?_
    rintro e w1 ⟨rfl, hx1⟩
    rw [HD.out]
    go_wp2_with fail
    go_ret2
    refine ⟨_, by rw [supCode, if_neg HM.out]; rfl, ?_, ?_⟩
    · rw [supPack, if_neg HM.out]
      exact World.ownsRow_nil _ _ _ _
    · exact ((Below.refl _ _).alloc (Nat.le_refl _) _).trans (hx1.mono (by simp))
end Go.Proofs.Ytdekfbmjhmfmaaa
