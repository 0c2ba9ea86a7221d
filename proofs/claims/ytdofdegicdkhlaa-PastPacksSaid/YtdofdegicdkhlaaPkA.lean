/- The walks of past.Pack and octavoref17.Pack. -/
import Derived.Test.YtdofdegicdkhlaaPkPlain
import Derived.Test.YtdofdegicdkhlaaPastF
import Derived.Test.YtdofdegicdkhlaaLeB
namespace Go.Proofs.Ytdofdegicdkhlaa
open Go.RowKit Go.Oct

theorem infoU8k : (Try.prog.info? 5).map (fun i => (i.zero, i.size, i.bytes)) = some (some (.int .u8 0), 1, 1) := by kernel_rfl
/-- what the two Packs answer -/
def VpPost (l : List Ver) (w : World) (e : Ending) (w' : World) : Prop :=
  ∃ v, e = .returned (.tuple #[v, .int .i64 (verCode l : Nat)]) ∧ w'.ownsRow w.heap.size 5 1 v (verPack l).length (bs (verPack l)) ∧ Below w.heap.size w w'
theorem vp_bad {l : List Ver} (h : ¬ listMay l) {w w' : World} {e : Ending} (he : e = .returned (.tuple #[.slice none 0 0, .int .i64 1])) (hb : Below w.heap.size w w') : VpPost l w e w' := by
  refine ⟨.slice none 0 0, by rw [he, verCode, if_neg h]; rfl, ?_, hb⟩
  rw [verPack, if_neg h]
  exact World.ownsRow_nil _ _ _ _
theorem own_one8 (w : World) (base : Nat) (a : Value) (h : base ≤ w.heap.size) : (w.alloc (.cells #[a] 5)).ownsRow base 5 1 (.slice (some ⟨w.heap.size, 0, none⟩) 1 1) 1 [a] := by
  have := World.ownsRow_lit (size := 1) (e := 5) w #[a] 1 h (by decide) rfl
  simpa using this
theorem grown_below {w w1 w2 : World} {e : TypeId} {size n : Nat} {v : Value} {xs : List Value} (h : Below w.heap.size w w1) (k : w1.grownBy w2 v.ownBlock) (ho : w1.ownsRow w.heap.size e size v n xs) : Below w.heap.size w w2 :=
  h.grown k h.size (fun k hk => (ho.lt k hk).1)
set_option maxHeartbeats 2000000 in
theorem pastPack_any (v : Value) (l : List Ver) (w : World) (hB : Vers w v l) : Calls Try.prog 36 #[v] w (VpPost l w) := by
  obtain ⟨a, cap, rfl, hcap, hmax, hcells⟩ := Vers.open hB
  unfold maxLen at hmax
  by_cases hM : listMay l
  · have hl1 := hM.1
    have hl16 := hM.2.1
    have hall := hM.2.2
    obtain ⟨b, o, rfl, hbl, hcs⟩ := hcells (by omega)
    have HCS := Lib.hid hcs
    have HB := Lib.hid hB
    have HD := Lib.hid (decide_eq_true hM)
    have HALL := Lib.hid hall
    have HPL := Lib.hid (verPack_len hM)
    have HP := Lib.hid (show verPack l = UInt8.ofNat l.length :: verBody l by rw [verPack, if_pos hM])
    have HC := Lib.hid (show verCode l = 0 by rw [verCode, if_pos hM])
    have hkm : (l.length : Int) % 256 = (l.length : Int) := by omega
    have HK := Lib.hid (show [Value.int .u8 (l.length : Int)] = bs [UInt8.ofNat l.length] by
      simp only [bs, List.map_cons, List.map_nil]
      rw [UInt8.toNat_ofNat_of_lt' (by simp [UInt8.size]; omega)])
    obtain ⟨i0', hi, hz0, hz1, hz2⟩ := info_parts infoU8k
    clear hM hcells hcs hB hall
    go_enter Try.func36, Try.ntmps36
    go_wp2_with fail
    refine (listed17_any _ l _ HB.out).mono ?_
    rintro e w1 ⟨rfl, hw1⟩
    rw [HD.out]
    go_wp2_with fail
    have hown : (w1.alloc (.cells #[.int .u8 (l.length : Int)] 5)).ownsRow w.heap.size 5 1 (.slice (some ⟨w1.heap.size, 0, none⟩) 1 1) 1 (bs [UInt8.ofNat l.length]) := by
      rw [← HK.out]; exact own_one8 w1 w.heap.size (.int .u8 (l.length : Int)) hw1.size
    have hw2 := below_new hw1 (.cells #[.int .u8 (l.length : Int)] 5)
    have HO := Lib.hid hown
    clear hown
    go_loopw [4, 20] (fun ov i wr => ∃ k : Nat, k ≤ l.length ∧ i = .int .i64 k ∧ wr.ownsRow w.heap.size 5 1 ov (1 + 8 * k) (bs (UInt8.ofNat l.length :: verBody (l.take k))) ∧ Below w.heap.size w wr) (fun _ i _ => l.length - (intOf i).toNat)
    case atStart => exact ⟨0, Nat.zero_le _, rfl, by simpa [verBody] using HO.out, hw2⟩
    case round =>
      clear HO hw2
      obtain ⟨k, hk, rfl, hown, hnx⟩ := hrel
      by_cases hlt : k < l.length
      · have c0 := (hnx.cell (p := ⟨b, o + k * 2, none⟩) hbl).trans (HCS.out k hlt).1
        have c1 := (hnx.cell (p := ⟨b, o + k * 2 + 1, none⟩) hbl).trans (HCS.out k hlt).2
        have hvm := HALL.out l[k] (List.getElem_mem _)
        obtain ⟨n1, n2⟩ := verMay_codes hvm
        have HT := Lib.hid (show verBody (l.take (k + 1)) = verBody (l.take k) ++ verBytes l[k] by rw [List.take_succ_eq_append_getElem hlt, verBody_snoc])
        obtain ⟨x, hx⟩ : ∃ x, l[k] = x := ⟨_, rfl⟩
        rw [hx] at c0 c1 n1 n2 hvm HT
        obtain ⟨x1, x2⟩ := x
        unfold verMay at hvm
        simp only at c0 c1 n1 n2 hvm
        obtain ⟨y0, y1, y2, y3, -⟩ := hvm
        obtain ⟨X1, e1⟩ : ∃ y, numBytes x1 4 = y := ⟨_, rfl⟩
        obtain ⟨X2, e2⟩ : ∃ y, numBytes x2 4 = y := ⟨_, rfl⟩
        have l1 : X1.length = 4 := by rw [← e1]; exact numBytes_len' (k := 4) n1
        have l2 : X2.length = 4 := by rw [← e2]; exact numBytes_len' (k := 4) n2
        have N1 := Lib.hid n1
        have N2 := Lib.hid n2
        have E1 := Lib.hid e1
        have E2 := Lib.hid e2
        have L1 := Lib.hid l1
        have L2 := Lib.hid l2
        have HT2 := Lib.hid (show verBytes (x1, x2) = X1 ++ X2 by rw [verBytes, ← e1, ← e2])
        have i0 : ∀ w, (Instr.index 73 (.agg #[.int .i64 x1, .int .i64 x2]) (.int .i64 0)).run Try.prog w = .ok (.int .i64 x1) w := fun _ => by rfl
        have i1 : ∀ w, (Instr.index 73 (.agg #[.int .i64 x1, .int .i64 x2]) (.int .i64 1)).run Try.prog w = .ok (.int .i64 x2) w := fun _ => by rfl
        have HO := Lib.hid hown
        have r0 : (0 : Int) ≤ (k : Int) := by omega
        have r1 : (k : Int) < (l.length : Int) := by omega
        clear hx n1 n2 e1 e2 l1 l2 hown
        go_wp2_with fail
        refine wp_loop_rounds 3 ?_
        rw [rounds_succ]
        go_wp2_with fail
        refine (numBytes_any x1 4 _ (by omega) (by omega) (by omega) (by omega)).mono ?_
        rintro e wa ⟨va, rfl, howna, hxa⟩
        rw [E1.out, L1.out] at howna
        rw [N1.out]
        have HVA := Lib.hid (Has.own howna)
        have hba := box_below (heap_last (o := .cells #[.int .i64 x1, .int .i64 x2] 41) rfl) hxa
        have HOA := Lib.hid (own_keep (HO.out.alloc (.cells #[.int .i64 x1, .int .i64 x2] 41)) hxa)
        have hwa : Below w.heap.size w wa := (below_new hnx _).trans (hxa.mono (by have := hnx.size; simp; omega))
        have hsa := hwa.size
        clear howna hxa hnx HO c0 c1 hba
        go_wp2_with (at_builtin; go_loud (refine wpList_append_has _ rfl (.tmp 37) (.tmp 38) 23 rfl w.heap.size 5 i0' (.int .u8 0) 1 1 Try.underlying23 hi hz0 hz1 hz2 rfl (by decide) _ _ _ rfl HOA.out va 4 (bs X1) rfl HVA.out ?c2 (bs_one _) ?c3 ?c4 ?c5 ?_))
        case c2 => rw [bs_length, L1.out]
        case c3 => unfold maxLen; omega
        case c4 => omega
        case c5 => omega
        intro vb wb hownb hgrb _
        have hwb : Below w.heap.size w wb := grown_below hwa hgrb HOA.out
        have hsb := hwb.size
        rw [← bs_append] at hownb
        have HOB := Lib.hid hownb
        clear hownb hgrb hwa HOA HVA
        go_wp2_with fail
        rw [rounds_succ]
        go_wp2_with fail
        refine (numBytes_any x2 4 _ (by omega) (by omega) (by omega) (by omega)).mono ?_
        rintro e wc ⟨vc, rfl, hownc, hxc⟩
        rw [E2.out, L2.out] at hownc
        rw [N2.out]
        have HVC := Lib.hid (Has.own hownc)
        have HOC := Lib.hid (own_keep HOB.out hxc)
        have hwc := below_step hwb hxc
        have hsc := hwc.size
        clear hownc hxc hwb HOB
        go_wp2_with (at_builtin; go_loud (refine wpList_append_has _ rfl (.tmp 37) (.tmp 38) 23 rfl w.heap.size 5 i0' (.int .u8 0) 1 1 Try.underlying23 hi hz0 hz1 hz2 rfl (by decide) _ _ _ rfl HOC.out vc 4 (bs X2) rfl HVC.out ?c2 (bs_one _) ?c3 ?c4 ?c5 ?_))
        case c2 => rw [bs_length, L2.out]
        case c3 => unfold maxLen; omega
        case c4 => omega
        case c5 => omega
        intro vd wd hownd hgrd _
        have hwd : Below w.heap.size w wd := grown_below hwc hgrd HOC.out
        rw [← bs_append] at hownd
        have HOD := Lib.hid hownd
        clear hownd hgrd hwc HOC HVC
        go_wp2_with fail
        rw [rounds_succ]
        go_wp2_with fail
        go_roundw
        case rel =>
          refine ⟨k + 1, by omega, by go_num, ?_, hwd⟩
          rw [HT.out, HT2.out, show 1 + 8 * (k + 1) = 1 + 8 * k + 4 + 4 by omega]
          have h := HOD.out
          simp only [List.cons_append, List.append_assoc] at h
          exact h
        case measure => simp [intOf]; omega
      · obtain rfl : k = l.length := by omega
        have hfin := hown
        rw [List.take_length, ← HP.out] at hfin
        clear hown
        go_wp2_with fail
        go_ret2
        refine ⟨_, by rw [HC.out]; rfl, ?_, hnx⟩
        rw [HPL.out]
        exact hfin
  · have HM := Lib.hid hM
    have HD := Lib.hid (decide_eq_false hM)
    have HB := Lib.hid hB
    clear hM hcells hB
    go_enter Try.func36, Try.ntmps36
    go_wp2_with fail
    refine (listed17_any _ l _ HB.out).mono ?_
    rintro e w1 ⟨rfl, hw1⟩
    rw [HD.out]
    go_wp2_with fail
    go_ret2
    exact vp_bad HM.out rfl hw1
theorem own_apart {w w' : World} {base size n : Nat} {e : TypeId} {v : Value} {xs : List Value} {row : Option Nat} (h : w.ownsRow base e size v n xs) (k : w.grownBy w' row) (hne : ∀ i j, v.ownBlock = some i → row = some j → i ≠ j) : w'.ownsRow base e size v n xs := by
  refine h.kept k ?_
  cases hvo : v.ownBlock with
  | none => exact .inl rfl
  | some g => right; intro e; exact hne g g hvo e.symm rfl
set_option maxHeartbeats 2000000 in
theorem refPack17_any (v : Value) (l : List Ver) (w : World) (hB : Vers w v l) : Calls Try.prog 37 #[v] w (VpPost l w) := by
  obtain ⟨a, cap, rfl, hcap, hmax, hcells⟩ := Vers.open hB
  unfold maxLen at hmax
  by_cases hM : listMay l
  · have hl1 := hM.1
    have hl16 := hM.2.1
    have hall := hM.2.2
    obtain ⟨b, o, rfl, hbl, hcs⟩ := hcells (by omega)
    have HCS := Lib.hid hcs
    have HB := Lib.hid hB
    have HD := Lib.hid (decide_eq_true hM)
    have HALL := Lib.hid hall
    have HPL := Lib.hid (verPack_len hM)
    have HP := Lib.hid (show verPack l = UInt8.ofNat l.length :: verBody l by rw [verPack, if_pos hM])
    have HC := Lib.hid (show verCode l = 0 by rw [verCode, if_pos hM])
    have hkm : (l.length : Int) % 256 = (l.length : Int) := by omega
    have HK := Lib.hid (show [Value.int .u8 (l.length : Int)] = bs [UInt8.ofNat l.length] by
      simp only [bs, List.map_cons, List.map_nil]
      rw [UInt8.toNat_ofNat_of_lt' (by simp [UInt8.size]; omega)])
    obtain ⟨i0', hi, hz0, hz1, hz2⟩ := info_parts infoU8k
    clear hM hcells hcs hB hall
    go_enter Try.func37, Try.ntmps37
    go_wp2_with fail
    refine (refListed17_any _ l _ HB.out).mono ?_
    rintro e w1 ⟨rfl, hw1⟩
    rw [HD.out]
    go_wp2_with fail
    have hown : (w1.alloc (.cells #[.int .u8 (l.length : Int)] 5)).ownsRow w.heap.size 5 1 (.slice (some ⟨w1.heap.size, 0, none⟩) 1 1) 1 (bs [UInt8.ofNat l.length]) := by
      rw [← HK.out]; exact own_one8 w1 w.heap.size (.int .u8 (l.length : Int)) hw1.size
    have hw2 := below_new hw1 (.cells #[.int .u8 (l.length : Int)] 5)
    have HO := Lib.hid hown
    clear hown
    go_loopw [4, 5] (fun ov i wr => ∃ k : Nat, k ≤ l.length ∧ i = .int .i64 k ∧ wr.ownsRow w.heap.size 5 1 ov (1 + 8 * k) (bs (UInt8.ofNat l.length :: verBody (l.take k))) ∧ Below w.heap.size w wr) (fun _ i _ => l.length - (intOf i).toNat)
    case atStart => exact ⟨0, Nat.zero_le _, rfl, by simpa [verBody] using HO.out, hw2⟩
    case round =>
      clear HO hw2
      obtain ⟨k, hk, rfl, hown, hnx⟩ := hrel
      by_cases hlt : k < l.length
      · have c0 := (hnx.cell (p := ⟨b, o + k * 2, none⟩) hbl).trans (HCS.out k hlt).1
        have c1 := (hnx.cell (p := ⟨b, o + k * 2 + 1, none⟩) hbl).trans (HCS.out k hlt).2
        have hvm := HALL.out l[k] (List.getElem_mem _)
        obtain ⟨n1, n2⟩ := verMay_codes hvm
        have HT := Lib.hid (show verBody (l.take (k + 1)) = verBody (l.take k) ++ verBytes l[k] by rw [List.take_succ_eq_append_getElem hlt, verBody_snoc])
        obtain ⟨x, hx⟩ : ∃ x, l[k] = x := ⟨_, rfl⟩
        have hc1 := (HCS.out k hlt).2
        rw [hx] at c0 c1 n1 n2 hvm HT hc1
        obtain ⟨x1, x2⟩ := x
        unfold verMay at hvm
        simp only at c0 c1 n1 n2 hvm hc1
        have HC1 := Lib.hid hc1
        clear hc1
        obtain ⟨y0, y1, y2, y3, -⟩ := hvm
        obtain ⟨X1, e1⟩ : ∃ y, numBytes x1 4 = y := ⟨_, rfl⟩
        obtain ⟨X2, e2⟩ : ∃ y, numBytes x2 4 = y := ⟨_, rfl⟩
        have l1 : X1.length = 4 := by rw [← e1]; exact numBytes_len' (k := 4) n1
        have l2 : X2.length = 4 := by rw [← e2]; exact numBytes_len' (k := 4) n2
        have N1 := Lib.hid n1
        have N2 := Lib.hid n2
        have E1 := Lib.hid e1
        have E2 := Lib.hid e2
        have L1 := Lib.hid l1
        have L2 := Lib.hid l2
        have HT2 := Lib.hid (show verBytes (x1, x2) = X1 ++ X2 by rw [verBytes, ← e1, ← e2])
        have CB := Lib.hid (show w.cell? ⟨b, o + k * 2 + 1, none⟩ = some (.int .i64 x2) from HC1.out)
        have HO := Lib.hid hown
        have r0 : (0 : Int) ≤ (k : Int) := by omega
        have r1 : (k : Int) < (l.length : Int) := by omega
        clear hx n1 n2 e1 e2 l1 l2 hown
        go_wp2_with fail
        refine (refBytes_any x1 4 _ (by omega) (by omega) (by omega) (by omega)).mono ?_
        rintro e wa ⟨va, rfl, howna, hxa⟩
        rw [E1.out, L1.out] at howna
        rw [N1.out]
        have HVA := Lib.hid (Has.own howna)
        have HOA := Lib.hid (own_keep HO.out hxa)
        have hwa := below_step hnx hxa
        have d1 := (hwa.cell (p := ⟨b, o + k * 2 + 1, none⟩) hbl).trans CB.out
        clear howna hxa hnx HO c0 c1
        go_wp2_with fail
        refine (refBytes_any x2 4 _ (by omega) (by omega) (by omega) (by omega)).mono ?_
        rintro e wb ⟨vb, rfl, hownb, hxb⟩
        rw [E2.out, L2.out] at hownb
        rw [N2.out]
        have HVB := Lib.hid (Has.own hownb)
        have HVA2 := Lib.hid (HVA.out.below hxb)
        have HOB := Lib.hid (own_keep HOA.out hxb)
        have hwb := below_step hwa hxb
        have hsb := hwb.size
        have hblk : ∀ i, vb.ownBlock = some i → wa.heap.size ≤ i := fun i hi => (hownb.lt i hi).1
        have HOWB := Lib.hid hownb
        have hlo : ∀ i, u4.ownBlock = some i → i < wa.heap.size := fun i hi => (HOA.out.lt i hi).2
        clear hownb hxb hwa HOA HVA d1
        go_wp2_with (at_builtin; go_loud (refine wpList_append_has_at _ rfl (.tmp 41) (.tmp 42) 23 rfl w.heap.size 5 i0' (.int .u8 0) 1 1 Try.underlying23 hi hz0 hz1 hz2 rfl (by decide) _ _ _ rfl HOB.out va 4 (bs X1) rfl HVA2.out ?c2 (bs_one _) ?c3 ?c4 ?c5 ?_))
        case c2 => rw [bs_length, L1.out]
        case c3 => unfold maxLen; omega
        case c4 => omega
        case c5 => omega
        intro vc wc hownc hgrc hbk
        have hwc : Below w.heap.size w wc := grown_below hwb hgrc HOB.out
        have hsc := hwc.size
        have HVC := Lib.hid (Has.own (own_apart HOWB.out hgrc (fun i j hi hj e => by have := hblk i hi; have := hlo j hj; omega)))
        rw [← bs_append] at hownc
        have HOC := Lib.hid hownc
        clear hownc hgrc hwb HOB HVB HOWB HVA2 hbk hblk hlo
        go_wp2_with (at_builtin; go_loud (refine wpList_append_has _ rfl (.tmp 44) (.tmp 45) 23 rfl w.heap.size 5 i0' (.int .u8 0) 1 1 Try.underlying23 hi hz0 hz1 hz2 rfl (by decide) _ _ _ rfl HOC.out vb 4 (bs X2) rfl HVC.out ?c2 (bs_one _) ?c3 ?c4 ?c5 ?_))
        case c2 => rw [bs_length, L2.out]
        case c3 => unfold maxLen; omega
        case c4 => omega
        case c5 => omega
        intro vd wd hownd hgrd _
        have hwd : Below w.heap.size w wd := grown_below hwc hgrd HOC.out
        rw [← bs_append] at hownd
        have HOD := Lib.hid hownd
        clear hownd hgrd hwc HOC HVC
        go_wp2_with fail
        go_roundw
        case rel =>
          refine ⟨k + 1, by omega, by go_num, ?_, hwd⟩
          rw [HT.out, HT2.out, show 1 + 8 * (k + 1) = 1 + 8 * k + 4 + 4 by omega]
          have h := HOD.out
          simp only [List.cons_append, List.append_assoc] at h
          exact h
        case measure => simp [intOf]; omega
      · obtain rfl : k = l.length := by omega
        have hfin := hown
        rw [List.take_length, ← HP.out] at hfin
        clear hown
        go_wp2_with fail
        go_ret2
        refine ⟨_, by rw [HC.out]; rfl, ?_, hnx⟩
        rw [HPL.out]
        exact hfin
  · have HM := Lib.hid hM
    have HD := Lib.hid (decide_eq_false hM)
    have HB := Lib.hid hB
    clear hM hcells hB
    go_enter Try.func37, Try.ntmps37
    go_wp2_with fail
    refine (refListed17_any _ l _ HB.out).mono ?_
    rintro e w1 ⟨rfl, hw1⟩
    rw [HD.out]
    go_wp2_with fail
    go_ret2
    exact vp_bad HM.out rfl hw1
end Go.Proofs.Ytdofdegicdkhlaa
