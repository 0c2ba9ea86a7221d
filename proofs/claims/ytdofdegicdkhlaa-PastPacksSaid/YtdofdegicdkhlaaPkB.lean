/- The walk of past.Open. -/
import Derived.Test.YtdofdegicdkhlaaPkA
import Derived.Test.YtdofdegicdkhlaaLeC
import Derived.Test.YtdofdegicdkhlaaRdrF
import Derived.Test.YtdofdegicdkhlaaRdrL
import Derived.Test.YtdofdegicdkhlaaCut
namespace Go.Proofs.Ytdofdegicdkhlaa
open Go.RowKit Go.Oct

/-- what the two Opens answer -/
def VoPost (b : List UInt8) (w : World) (e : Ending) (w' : World) : Prop :=
  ∃ v, e = .returned (.tuple #[v, .int .i64 (verOpen b : Nat)]) ∧ Vers w' v (verOf b) ∧ Below w.heap.size w w'
theorem Vers.nil (w : World) : Vers w (.slice none 0 0) [] := ⟨none, 0, rfl, Nat.le_refl _, by decide, fun h => by simp [vs] at h⟩
theorem vo_bad {b : List UInt8} (h : ¬ (verSized b ∧ listMay (verList b (fld b 0 1)))) {w w' : World} {e : Ending} (he : e = .returned (.tuple #[.slice none 0 0, .int .i64 4])) (hb : Below w.heap.size w w') : VoPost b w e w' := by
  obtain ⟨h1, h2⟩ := verOpen_no h
  exact ⟨.slice none 0 0, by rw [he, h1]; rfl, by rw [h2]; exact Vers.nil _, hb⟩
theorem rd_any {l : List UInt8} (a k : Nat) (hk : a + k ≤ l.length) (k1 : 1 ≤ k) (k7 : k ≤ 7) : rdVal l a k = fld l a k ∧ rdAt l a k = a + k ∧ rdCode l a k = 0 := by
  have hlk : ((l.drop a).take k).length = k := by simp; omega
  have hc : rdCode l a k = 0 := by
    unfold rdCode
    rw [if_neg (by omega), if_neg (by omega), Int.toNat_natCast]
    unfold valCode
    rw [if_neg (by omega), if_neg (by have := numVal_seven ((l.drop a).take k) (by omega); omega)]
  refine ⟨?_, ?_, hc⟩
  · simp only [rdVal, hc, if_true, Int.toNat_natCast, fld]
  · simp only [rdAt, hc, if_true, Int.toNat_natCast]
theorem reader_box {base : Nat} {w : World} {g : Nat} {l : List UInt8} {at_ : Nat} (h : Reader base w g l at_) : ∃ cs, w.heap[g]? = some (.cells cs 84 (0, 0)) := by
  obtain ⟨_, _, _, gb, cp, h4, _⟩ := h
  exact ⟨_, h4⟩
/-- a reader stays while versions are appended -/
theorem Reader.vers {base B size n : Nat} {w w' : World} {g : Nat} {l : List UInt8} {at_ : Nat} {v : Value} {xs : List Value} (h : Reader base w g l at_) (ho : w.ownsRow B 41 size v n xs) (k : w.grownBy w' v.ownBlock) : Reader base w' g l at_ := by
  rcases ho.2 with ⟨rfl, _⟩ | ⟨gv, cap, cur, rfl, _, hg, _⟩
  · exact h.below (below_none k)
  · exact h.far (s := gv) k hg (by decide) (by decide)
theorem has_ver {w : World} {g : Nat} {x y : Int} {f : Nat × Nat} {t : TypeId} (h : w.heap[g]? = some (.cells #[.int .i64 x, .int .i64 y] t f)) : Has w (.slice (some ⟨g, 0, none⟩) 1 1) 1 (vs [(x, y)]) :=
  Has.block h (Nat.le_refl _) (by decide) (fun i z hi => by simpa [vs] using hi)
set_option maxHeartbeats 2000000 in
theorem pastOpen_any (v : Value) (l : List UInt8) (w : World) (hB : Bytes w v l) (hll : l.length ≤ 140737488355328) : Calls Try.prog 39 #[v] w (VoPost l w) := by
  obtain ⟨a, cap, rfl, hcap, hmax, -⟩ := hB.open
  unfold maxLen at hmax
  have HB := Lib.hid hB
  clear hB
  by_cases h0 : l.length < 1
  · have HN := Lib.hid (show ¬ (verSized l ∧ listMay (verList l (fld l 0 1))) from fun h => by have := h.1; unfold verSized at this; omega)
    have hc : rdCode l 0 1 = 3 := by unfold rdCode; rw [if_neg (by omega), if_pos (by omega)]
    have HC := Lib.hid hc
    go_enter Try.func39, Try.ntmps39
    go_wp2_with fail
    refine (on_any _ l _ HB.out hll).mono ?_
    rintro e w1 ⟨g, rfl, hr1, hw1⟩
    have hg0 : w.heap.size ≤ g := hr1.1
    have HR1 := Lib.hid hr1
    clear hr1 hc
    go_wp2_with fail
    refine (rdInt_any _ g l 0 1 _ HR1.out (by decide)).mono ?_
    rintro e w2 ⟨rfl, -, hx⟩
    rw [HC.out]
    have hw2 := below_grown hw1 hx hg0 hw1.size
    clear hx
    go_wp2_with fail
    go_ret2
    exact vo_bad HN.out rfl hw2
  · obtain ⟨mn, hmn⟩ : ∃ x, fld l 0 1 = x := ⟨_, rfl⟩
    have hml : mn < 256 := by rw [← hmn]; exact fld_lt l 0 1
    have r1 := rd_any (l := l) 0 1 (by omega) (by decide) (by decide)
    rw [hmn] at r1
    have HRD := Lib.hid (show rdVal l 0 1 = mn ∧ rdAt l 0 1 = 1 ∧ rdCode l 0 1 = 0 from r1)
    have HMN := Lib.hid hmn
    clear r1 hmn
    have hleft : ((l.length - 1 : Nat) : Int) = (l.length : Int) - 1 := by omega
    have HLF := Lib.hid hleft
    have hl1 : (1 : Int) ≤ (l.length : Int) := by omega
    clear hleft
    by_cases hs : l.length = 1 + 8 * mn
    · have hsz : verSized l := by unfold verSized; rw [HMN.out]; exact hs
      have HSZ := Lib.hid hsz
      have hcmp : (((l.length : Int) - 1) != 8 * (mn : Int)) = false := by rw [bne_eq_false_iff_eq]; omega
      have hsa1 : l.length ≤ 1 + 8 * mn := by omega
      have hsa2 : 1 + 8 * mn ≤ l.length := by omega
      clear hsz hs
      go_enter Try.func39, Try.ntmps39
      go_wp2_with fail
      refine (on_any _ l _ HB.out hll).mono ?_
      rintro e w1 ⟨g, rfl, hr1, hw1⟩
      have hg0 : w.heap.size ≤ g := hr1.1
      have HR1 := Lib.hid hr1
      clear hr1
      go_wp2_with fail
      refine (rdInt_any _ g l 0 1 _ HR1.out (by decide)).mono ?_
      rintro e w2 ⟨rfl, hr2, hx⟩
      rw [HRD.out.1, HRD.out.2.2]
      rw [HRD.out.2.1] at hr2
      have hw2 := below_grown hw1 hx hg0 hw1.size
      have HR2 := Lib.hid hr2
      clear hx hr2 HR1 hw1
      go_wp2_with fail
      refine (left_any _ g l 1 _ HR2.out).mono ?_
      rintro e w3 ⟨rfl, hx⟩
      rw [HLF.out]
      have hw3 := below_step hw2 hx
      have HR3 := Lib.hid (HR2.out.below hx)
      clear hx hw2 HR2
      go_wp2_with fail
      clear hcmp
      obtain ⟨i0', hi, hz0, hz1, hz2⟩ := info_parts infoVer
      obtain ⟨B, hBe⟩ : ∃ B, B = w.heap.size := ⟨_, rfl⟩
      go_loopw [7, 29] (fun lv i wr => ∃ k : Nat, k ≤ mn ∧ i = .int .i64 k ∧ wr.ownsRow w.heap.size 41 2 lv k (vs (verList l k)) ∧ Reader w.heap.size wr g l (1 + 8 * k) ∧ Below w.heap.size w wr) (fun _ i _ => mn - (intOf i).toNat)
      case atStart => exact ⟨0, Nat.zero_le _, rfl, World.ownsRow_nil _ _ _ _, HR3.out, hw3⟩
      case round =>
        clear HR3 hw3
        obtain ⟨k, hk, rfl, hown, hrd, hnx⟩ := hrel
        have HO := Lib.hid hown
        have HR := Lib.hid hrd
        by_cases hlt : k < mn
        · have ra := rd_any (l := l) (1 + 8 * k) 4 (by omega) (by decide) (by decide)
          have rb := rd_any (l := l) (5 + 8 * k) 4 (by omega) (by decide) (by decide)
          have HT := Lib.hid (verList_snoc l k)
          obtain ⟨x, hx⟩ : ∃ x, fld l (1 + 8 * k) 4 = x := ⟨_, rfl⟩
          obtain ⟨y, hy⟩ : ∃ y, fld l (5 + 8 * k) 4 = y := ⟨_, rfl⟩
          have HV := Lib.hid (show verAt l k = (((x : Nat) : Int), ((y : Nat) : Int)) by unfold verAt; rw [hx, hy])
          rw [hx] at ra
          rw [hy] at rb
          have RA := Lib.hid (show rdVal l (1 + 8 * k) 4 = x ∧ rdAt l (1 + 8 * k) 4 = 5 + 8 * k ∧ rdCode l (1 + 8 * k) 4 = 0 from ⟨ra.1, by have := ra.2.1; show rdAt l (1 + 8 * k) ((4 : Nat) : Int) = _; omega, ra.2.2⟩)
          have RB := Lib.hid (show rdVal l (5 + 8 * k) 4 = y ∧ rdAt l (5 + 8 * k) 4 = 1 + 8 * (k + 1) ∧ rdCode l (5 + 8 * k) 4 = 0 from ⟨rb.1, by have := rb.2.1; show rdAt l (5 + 8 * k) ((4 : Nat) : Int) = _; omega, rb.2.2⟩)
          clear ra rb hx hy hown hrd
          go_wp2_with fail
          refine (rdInt_any _ g l _ 4 _ HR.out (by decide)).mono ?_
          rintro e wa ⟨rfl, hra, hxa⟩
          rw [RA.out.1, RA.out.2.2]
          rw [RA.out.2.1] at hra
          obtain ⟨cs, hbx⟩ := reader_box HR.out
          have HOA := Lib.hid (own_far HO.out hxa hbx (by decide))
          have hwa := below_grown hnx hxa hg0 hnx.size
          have HRA := Lib.hid hra
          clear hra hxa hbx hnx HO HR
          go_wp2_with fail
          refine (rdInt_any _ g l _ 4 _ HRA.out (by decide)).mono ?_
          rintro e wb ⟨rfl, hrb, hxb⟩
          rw [RB.out.1, RB.out.2.2]
          rw [RB.out.2.1] at hrb
          obtain ⟨cs, hbx⟩ := reader_box HRA.out
          have HOB := Lib.hid (own_far HOA.out hxb hbx (by decide))
          have hwb := below_grown hwa hxb hg0 hwa.size
          have hsb := hwb.size
          have HRB := Lib.hid hrb
          clear hrb hxb hbx hwa HOA HRA
          go_wp2_with (at_builtin; go_loud (refine wpList_append_has _ rfl (.tmp 41) (.tmp 45) 37 rfl w.heap.size 41 i0' (.agg #[.int .i64 0, .int .i64 0]) 2 16 Try.underlying37 hi hz0 hz1 hz2 rfl (by decide) _ _ _ rfl (HOB.out.alloc _) (.slice (some ⟨wb.heap.size, 0, none⟩) 1 1) 1 (vs [(((x : Nat) : Int), ((y : Nat) : Int))]) rfl (has_ver (heap_last rfl)) rfl (vs_one _) ?c3 ?c4 ?c5 ?_))
          case c3 => unfold maxLen; omega
          case c4 => omega
          case c5 => simp; omega
          intro vc wc hownc hgrc _
          have hwc : Below w.heap.size w wc := grown_below (below_new hwb _) hgrc (HOB.out.alloc _)
          have hrc := (HRB.out.below ((Below.refl _ _).alloc (Nat.le_refl _) (.cells #[.int .i64 (x : Nat), .int .i64 (y : Nat)] 41))).vers (HOB.out.alloc _) hgrc
          rw [← vs_append, ← HV.out, ← HT.out] at hownc
          have HOC := Lib.hid hownc
          have HRC := Lib.hid hrc
          clear hownc hgrc hrc hwb HOB HRB
          go_wp2_with fail
          go_roundw
          case rel => exact ⟨k + 1, by omega, by go_num, HOC.out, HRC.out, hwc⟩
          case measure => simp [intOf]; omega
        · obtain rfl : k = mn := by omega
          have hvs : Vers wr u7 (verList l k) := by unfold Vers; rw [verList_length]; exact Has.own hown
          have HVS := Lib.hid hvs
          clear hown hrd hvs HR HO
          go_wp2_with fail
          refine (listed17_any _ (verList l k) _ HVS.out).mono ?_
          rintro e wd ⟨rfl, hx⟩
          have hvd := Vers.below HVS.out hx
          have hwd := below_step hnx hx
          have HVD := Lib.hid hvd
          clear hx hvd hnx HVS
          by_cases hM : listMay (verList l k)
          · obtain ⟨o1, o2⟩ := verOpen_yes (b := l) ⟨HSZ.out, by rw [HMN.out]; exact hM⟩
            rw [HMN.out] at o2
            have O1 := Lib.hid o1
            have O2 := Lib.hid o2
            rw [decide_eq_true hM]
            clear o1 o2 hM
            go_wp2_with fail
            go_ret2
            exact ⟨_, by rw [O1.out]; rfl, by rw [O2.out]; exact HVD.out, hwd⟩
          · have HN := Lib.hid (show ¬ (verSized l ∧ listMay (verList l (fld l 0 1))) from fun h => hM (by have := h.2; rw [HMN.out] at this; exact this))
            rw [decide_eq_false hM]
            clear hM
            go_wp2_with fail
            go_ret2
            exact vo_bad HN.out rfl hwd
    · have HN := Lib.hid (show ¬ (verSized l ∧ listMay (verList l (fld l 0 1))) from fun h => by have := h.1; unfold verSized at this; rw [HMN.out] at this; exact hs this)
      have hcmp : (((l.length : Int) - 1) != 8 * (mn : Int)) = true := by rw [bne_iff_ne]; omega
      clear hs
      go_enter Try.func39, Try.ntmps39
      go_wp2_with fail
      refine (on_any _ l _ HB.out hll).mono ?_
      rintro e w1 ⟨g, rfl, hr1, hw1⟩
      have hg0 : w.heap.size ≤ g := hr1.1
      have HR1 := Lib.hid hr1
      clear hr1
      go_wp2_with fail
      refine (rdInt_any _ g l 0 1 _ HR1.out (by decide)).mono ?_
      rintro e w2 ⟨rfl, hr2, hx⟩
      rw [HRD.out.1, HRD.out.2.2]
      rw [HRD.out.2.1] at hr2
      have hw2 := below_grown hw1 hx hg0 hw1.size
      have HR2 := Lib.hid hr2
      clear hx hr2 HR1 hw1
      go_wp2_with fail
      refine (left_any _ g l 1 _ HR2.out).mono ?_
      rintro e w3 ⟨rfl, hx⟩
      rw [HLF.out]
      have hw3 := below_step hw2 hx
      clear hx hw2 HR2
      go_wp2_with fail
      go_ret2
      exact vo_bad HN.out rfl hw3
end Go.Proofs.Ytdofdegicdkhlaa
