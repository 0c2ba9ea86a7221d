/- The walk of octavoref17.Open. -/
import Derived.Test.YtdofdegicdkhlaaPkB
namespace Go.Proofs.Ytdofdegicdkhlaa
open Go.RowKit Go.Oct

theorem fld_one (b : List UInt8) (i : Nat) (h : i < b.length) : fld b i 1 = b[i].toNat := by
  unfold fld
  rw [List.drop_eq_getElem_cons h, List.take_succ_cons, List.take_zero, numVal, numVal, Nat.mul_zero, Nat.add_zero]
theorem numOf_four {l : List UInt8} (h : l.length = 4) : numOf l = numVal l := by
  have := numVal_seven l (by omega)
  have hv : valCode l = 0 := by unfold valCode; rw [if_neg (by omega), if_neg (by omega)]
  unfold numOf
  rw [if_pos hv]
set_option maxHeartbeats 2000000 in
theorem refOpen17_any (v : Value) (l : List UInt8) (w : World) (hB : Bytes w v l) (hll : l.length ≤ 140737488355328) : Calls Try.prog 41 #[v] w (VoPost l w) := by
  obtain ⟨a, cap, rfl, hcap, hmax, hcells⟩ := hB.open
  unfold maxLen at hmax
  have HB := Lib.hid hB
  clear hB
  by_cases h0 : l.length < 1
  · have HN := Lib.hid (show ¬ (verSized l ∧ listMay (verList l (fld l 0 1))) from fun h => by have := h.1; unfold verSized at this; omega)
    have hi0 : (l.length : Int) < 1 := by omega
    clear hcells
    go_enter Try.func41, Try.ntmps41
    go_wp2_with fail
    go_ret2
    exact vo_bad HN.out rfl (Below.refl _ _)
  · obtain ⟨bb, oo, rfl, hcs⟩ := hcells (by omega)
    obtain ⟨mn, hmn⟩ : ∃ x, fld l 0 1 = x := ⟨_, rfl⟩
    have hml : mn < 256 := by rw [← hmn]; exact fld_lt l 0 1
    have hc0 : w.cell? ⟨bb, oo, none⟩ = some (.int .u8 (mn : Nat)) := by
      have := hcs 0 (by omega)
      rw [← fld_one l 0 (by omega), hmn] at this
      exact this
    have hbw : bb < w.heap.size := World.block_lt_of_cell? w _ hc0
    have HC0 := Lib.hid hc0
    have HMN := Lib.hid hmn
    have hl1 : (1 : Int) ≤ (l.length : Int) := by omega
    clear hmn hcells hcs
    by_cases hs : l.length = 1 + 8 * mn
    · have HSZ := Lib.hid (show verSized l by unfold verSized; rw [HMN.out]; exact hs)
      have hcmp : ((l.length : Int) != 1 + 8 * (mn : Int)) = false := by rw [bne_eq_false_iff_eq]; omega
      have hsa1 : l.length ≤ 1 + 8 * mn := by omega
      have hsa2 : 1 + 8 * mn ≤ l.length := by omega
      obtain ⟨i0', hi, hz0, hz1, hz2⟩ := info_parts infoVer
      clear hs
      go_enter Try.func41, Try.ntmps41
      go_wp2_with fail
      clear hcmp hc0
      go_loopw [4, 5] (fun lv i wr => ∃ k : Nat, k ≤ mn ∧ i = .int .i64 k ∧ wr.ownsRow w.heap.size 41 2 lv k (vs (verList l k)) ∧ Below w.heap.size w wr) (fun _ i _ => mn - (intOf i).toNat)
      case atStart => exact ⟨0, Nat.zero_le _, rfl, World.ownsRow_nil _ _ _ _, Below.refl _ _⟩
      case round =>
        obtain ⟨k, hk, rfl, hown, hnx⟩ := hrel
        have HO := Lib.hid hown
        have c0 := (hnx.cell (p := ⟨bb, oo, none⟩) hbw).trans HC0.out
        by_cases hlt : k < mn
        · have HT := Lib.hid (verList_snoc l k)
          obtain ⟨x, hx⟩ : ∃ x, fld l (1 + 8 * k) 4 = x := ⟨_, rfl⟩
          obtain ⟨y, hy⟩ : ∃ y, fld l (5 + 8 * k) 4 = y := ⟨_, rfl⟩
          have HV := Lib.hid (show verAt l k = (((x : Nat) : Int), ((y : Nat) : Int)) by unfold verAt; rw [hx, hy])
          obtain ⟨X, hX⟩ : ∃ z, (l.drop (1 + 8 * k)).take 4 = z := ⟨_, rfl⟩
          obtain ⟨Y, hY⟩ : ∃ z, (l.drop (5 + 8 * k)).take 4 = z := ⟨_, rfl⟩
          have lx : X.length = 4 := by rw [← hX]; simp; omega
          have ly : Y.length = 4 := by rw [← hY]; simp; omega
          have HX := Lib.hid (show numOf X = x by rw [numOf_four lx, ← hx, ← hX]; rfl)
          have HY := Lib.hid (show numOf Y = y by rw [numOf_four ly, ← hy, ← hY]; rfl)
          have bx : Bytes w (.slice (some ⟨bb, oo + (1 + 8 * k), none⟩) 4 (cap - (1 + 8 * k))) X := by rw [← hX]; exact Bytes.cut HB.out (1 + 8 * k) 4 _ (by omega) (by omega) (by unfold maxLen; omega)
          have bY : Bytes w (.slice (some ⟨bb, oo + (5 + 8 * k), none⟩) 4 (cap - (5 + 8 * k))) Y := by rw [← hY]; exact Bytes.cut HB.out (5 + 8 * k) 4 _ (by omega) (by omega) (by unfold maxLen; omega)
          have BX := Lib.hid bx
          have BY := Lib.hid bY
          have t1 : (1 + 8 * (k : Int)).toNat = 1 + 8 * k := by omega
          have t2 : (5 + 8 * (k : Int)).toNat = 5 + 8 * k := by omega
          have t3 : (9 + 8 * (k : Int)).toNat = 9 + 8 * k := by omega
          have s1 : (0 : Int) ≤ 1 + 8 * (k : Int) := by omega
          have s2 : 1 + 8 * (k : Int) ≤ 5 + 8 * (k : Int) := by omega
          have s3 : 5 + 8 * (k : Int) ≤ (cap : Int) := by omega
          have s4 : 5 + 8 * (k : Int) ≤ 9 + 8 * (k : Int) := by omega
          have s5 : 9 + 8 * (k : Int) ≤ (cap : Int) := by omega
          have s6 : ¬ cap = 1 + 8 * k := by omega
          have s7 : ¬ cap = 5 + 8 * k := by omega
          have s8 : 5 + 8 * k - (1 + 8 * k) = 4 := by omega
          have s9 : 9 + 8 * k - (5 + 8 * k) = 4 := by omega
          clear hx hy hX hY lx ly bx bY hown
          go_wp2_with fail
          refine (refInt_any _ X _ (BX.out.below hnx)).mono ?_
          rintro e w' ⟨rfl, rfl⟩
          rw [HX.out]
          go_wp2_with fail
          refine (refInt_any _ Y _ (BY.out.below hnx)).mono ?_
          rintro e w' ⟨rfl, rfl⟩
          rw [HY.out]
          have hsb := hnx.size
          go_wp2_with (at_builtin; go_loud (refine wpList_append_has _ rfl (.tmp 56) (.tmp 60) 37 rfl w.heap.size 41 i0' (.agg #[.int .i64 0, .int .i64 0]) 2 16 Try.underlying37 hi hz0 hz1 hz2 rfl (by decide) _ _ _ rfl (HO.out.alloc _) (.slice (some ⟨wr.heap.size, 0, none⟩) 1 1) 1 (vs [(((x : Nat) : Int), ((y : Nat) : Int))]) rfl (has_ver (heap_last rfl)) rfl (vs_one _) ?c3 ?c4 ?c5 ?_))
          case c3 => unfold maxLen; omega
          case c4 => omega
          case c5 => simp; omega
          intro vc wc hownc hgrc _
          have hwc : Below w.heap.size w wc := grown_below (below_new hnx _) hgrc (HO.out.alloc _)
          rw [← vs_append, ← HV.out, ← HT.out] at hownc
          have HOC := Lib.hid hownc
          clear hownc hgrc hnx HO c0
          go_wp2_with fail
          go_roundw
          case rel => exact ⟨k + 1, by omega, by go_num, HOC.out, hwc⟩
          case measure => simp [intOf]; omega
        · obtain rfl : k = mn := by omega
          have hvs : Vers wr u4 (verList l k) := by unfold Vers; rw [verList_length]; exact Has.own hown
          have HVS := Lib.hid hvs
          clear hown hvs HO
          go_wp2_with fail
          refine (refListed17_any _ (verList l k) _ HVS.out).mono ?_
          rintro e wd ⟨rfl, hx⟩
          have hvd := Vers.below HVS.out hx
          have hwd := below_step hnx hx
          have HVD := Lib.hid hvd
          clear hx hvd hnx HVS c0
          by_cases hM : listMay (verList l k)
          · obtain ⟨o1, o2⟩ := verOpen_yes (b := l) ⟨HSZ.out, by rw [HMN.out]; exact hM⟩
            rw [HMN.out] at o2
            have O1 := Lib.hid o1
            have O2 := Lib.hid o2
            rw [decide_eq_true hM]
            clear o1 o2 hM
            go_wp2_with fail
            go_ret2
            exact ⟨_, by rw [O1.out]; rfl, by rw [O2.out]; exact HVD.out, hwd⟩
          · have HN := Lib.hid (show ¬ (verSized l ∧ listMay (verList l (fld l 0 1))) from fun h => hM (by have := h.2; rw [HMN.out] at this; exact this))
            rw [decide_eq_false hM]
            clear hM
            go_wp2_with fail
            go_ret2
            exact vo_bad HN.out rfl hwd
    · have HN := Lib.hid (show ¬ (verSized l ∧ listMay (verList l (fld l 0 1))) from fun h => by have := h.1; unfold verSized at this; rw [HMN.out] at this; exact hs this)
      have hcmp : ((l.length : Int) != 1 + 8 * (mn : Int)) = true := by rw [bne_iff_ne]; omega
      clear hs
      go_enter Try.func41, Try.ntmps41
      go_wp2_with fail
      go_ret2
      exact vo_bad HN.out rfl (Below.refl _ _)
end Go.Proofs.Ytdofdegicdkhlaa
