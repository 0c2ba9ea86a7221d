/- The walk of the law PageTurned. -/
import Derived.Test.YtdekfbmjhmfmaaaPgF
namespace Go.Proofs.Ytdekfbmjhmfmaaa
open Go.RowKit Go.Oct

theorem pg_none {no : Int} {b : List UInt8} (h : pgOpen no b ≠ 0) : pgKind no b = 0 ∧ pgBody no b = [] := by
  unfold pgKind pgBody
  rw [if_neg h, if_neg h]
  exact ⟨rfl, rfl⟩
theorem page_set {w : World} {g : Nat} {P : List UInt8} {t : TypeId} {f : Nat × Nat} (h : w.heap[g]? = some (.cells (bs P).toArray t f)) (i : Nat) (y : UInt8) :
    (w.setCell ⟨g, i, none⟩ (.int .u8 (y.toNat : Int))).heap[g]? = some (.cells (bs (P.set i y)).toArray t f) := by
  rw [heap_set h i _, bs_set]
  simp
set_option maxHeartbeats 4000000 in
theorem pageTurned_walk (no kind : Int) (v : Value) (l : List UInt8) (bit other : Int) (w : World) (w0 : (Lit.int .i64 no).wf = true) (_w1 : (Lit.int .i64 kind).wf = true) (B : Bytes w v l) (n0 : l.length ≤ 140737488351232)
    (_w3 : (Lit.int .i64 bit).wf = true) (_w4 : (Lit.int .i64 other).wf = true) :
    Calls Try.prog 10 #[.int .i64 no, .int .i64 kind, v, .int .i64 bit, .int .i64 other] w fun e w' => e = .returned (.bool true) ∧ Below w.heap.size w w' := by
  obtain ⟨a0, a1⟩ := i64_wf_bounds w0
  obtain ⟨ab, cb, rfl, -, -, -⟩ := B.open
  have HB := Lib.hid B
  by_cases hK : pgCode no kind l = 0
  · obtain ⟨hM, hL⟩ := pgCode_ok hK
    obtain ⟨o1, o2, o3⟩ := pgOpen_pack hM hL
    have hlen := pgPack_len hM hL
    obtain ⟨P, hP⟩ : ∃ P, pgPack no kind l = P := ⟨_, rfl⟩
    rw [hP] at o1 o2 o3 hlen
    have HP := Lib.hid hP
    have HK := Lib.hid hK
    have HL := Lib.hid hlen
    have HO1 := Lib.hid o1
    have HO2 := Lib.hid o2
    have HO3 := Lib.hid o3
    clear o1 o2 o3 hlen hP hK hM hL B w0
    go_enter Try.func10, Try.ntmps10
    go_wp2_with fail
    refine (pagePack_any no kind _ l _ HB.out a0 a1).mono ?_
    rintro e w1 ⟨v1, rfl, hv, hx⟩
    rw [HP.out] at hv
    rw [HK.out]
    obtain ⟨g, rfl, hg, hbx⟩ := hv.full HL.out
    have HBX := Lib.hid hbx
    have hw1 := hx
    clear hx hv hbx
    go_wp2_with fail
    refine (awake05_any _).mono ?_
    rintro e w2 ⟨rfl, hx⟩
    have HBX2 := Lib.hid (box_below HBX.out hx)
    have hw2 := below_step hw1 hx
    clear hx hw1 HBX
    go_wp2_with fail
    refine (pageOpen_any no _ P _ (page_bytes HBX2.out HL.out)).mono ?_
    rintro e w3 ⟨v3, rfl, hown, hx⟩
    rw [HO3.out] at hown
    rw [HO1.out, HO2.out]
    have HV3 := Lib.hid (show Bytes w3 v3 l from Bytes.own hown)
    have HBX3 := Lib.hid (box_below HBX2.out hx)
    have hw3 := below_step hw2 hx
    clear hx hown hw2 HBX2
    go_wp2_with fail
    refine (same_yes _ _ l _ HV3.out (HB.out.below hw3)).mono ?_
    rintro e w4 ⟨rfl, hx⟩
    have HBX4 := Lib.hid (box_below HBX3.out hx)
    have hw4 := below_step hw3 hx
    clear hx hw3 HBX3 HV3
    go_wp2_with fail
    refine (pageOpen_any other _ P _ (page_bytes HBX4.out HL.out)).mono ?_
    rintro e w5 ⟨v5, rfl, -, hx⟩
    have HBX5 := Lib.hid (box_below HBX4.out hx)
    have hw5 := below_step hw4 hx
    obtain ⟨E, hE⟩ : ∃ E, pgOpen other P = E := ⟨_, rfl⟩
    obtain ⟨K5, hK5⟩ : ∃ K, pgKind other P = K := ⟨_, rfl⟩
    rw [hE, hK5]
    have hno : other ≠ no → E ≠ 0 := fun h => by rw [← hE]; exact pgOpen_other HO1.out h
    have HNO := Lib.hid hno
    clear hx hw4 HBX4 hE hK5 hno
    have hs5 := hw5.size
    have hgl5 := (Array.getElem?_eq_some_iff.1 HBX5.out).1
    have hcases : (((other != no) = true ∧ ((E : Int) == 0) = false) ∨ (other != no) = false) := by
      by_cases h : other = no
      · right; rw [h]; simp
      · left
        have := HNO.out h
        exact ⟨by rw [bne_iff_ne]; exact h, by rw [beq_eq_false_iff_ne]; omega⟩
    rcases hcases with ⟨hq1, hq2⟩ | hq1
    all_goals
      by_cases hb0 : bit < 0
      · go_wp2_with fail
        go_ret
        exact ⟨rfl, hw5⟩
      by_cases hb1 : 2048 ≤ bit
      · go_wp2_with fail
        go_ret
        exact ⟨rfl, hw5⟩
      obtain ⟨q, rfl⟩ := Int.eq_ofNat_of_zero_le (Int.not_lt.1 hb0)
      have hq : q < 2048 := by omega
      have hlt : q / 8 < P.length := by rw [HL.out]; omega
      have hcell := page_cell HBX5.out (q / 8) P[q / 8] (List.getElem?_eq_getElem hlt)
      have hfr := page_free HBX5.out (q / 8)
      have HTN := Lib.hid (fun (y : UInt8) (hy : y ≠ P[q / 8]) => pgOpen_turned (m := no) HO1.out (q / 8) hlt y hy)
      obtain ⟨p, hp⟩ : ∃ p, p = P[q / 8] := ⟨_, rfl⟩
      rw [← hp] at hcell HTN
      clear hb0 hb1 hp
      go_wp2_with fail
      obtain ⟨y, hne, hy⟩ := turned_byte p (q % 8) (by omega)
      rw [hy]
      have hnn := HTN.out y (Ne.symm hne)
      have hbx6 := page_set HBX5.out (q / 8) y
      obtain ⟨Y, hY⟩ : ∃ Y, P.set (q / 8) y = Y := ⟨_, rfl⟩
      have hYl : Y.length = 256 := by rw [← hY, List.length_set, HL.out]
      rw [hY] at hnn hbx6
      have hw6 : Below w.heap.size w (w5.setCell ⟨g, q / 8, none⟩ (.int .u8 (y.toNat : Int))) := hw5.setCell hg _
      have HB6 := Lib.hid (page_bytes hbx6 hYl)
      generalize w5.setCell ⟨g, q / 8, none⟩ (.int .u8 (y.toNat : Int)) = w6 at HB6 hw6 ⊢
      obtain ⟨k0, b0⟩ := pg_none hnn
      have HK0 := Lib.hid k0
      have HB0 := Lib.hid b0
      obtain ⟨k, hk⟩ : ∃ k, pgOpen no Y = k := ⟨_, rfl⟩
      rw [hk] at hnn
      have HKK := Lib.hid hk
      have hkb : ((k : Int) != 0) = true := by rw [bne_iff_ne]; omega
      clear hcell hfr hy hne hY hYl hbx6 hk hnn k0 b0 HTN hw5 HBX5
      refine (pageOpen_any no _ Y _ HB6.out).mono ?_
      rintro e w7 ⟨v7, rfl, hown, hx⟩
      rw [HB0.out] at hown
      rw [HKK.out, HK0.out]
      obtain ⟨a7, c7, rfl⟩ := own_shape hown
      have hw7 := below_step hw6 hx
      clear hx hw6 hown HB6
      go_wp2_with fail
      go_ret
      exact ⟨rfl, hw7⟩
  · obtain ⟨K, hKe⟩ : ∃ K, pgCode no kind l = K := ⟨_, rfl⟩
    rw [hKe] at hK
    have HK := Lib.hid hKe
    have hkb : ((K : Int) != 0) = true := by rw [bne_iff_ne]; omega
    clear hKe hK B w0
    go_enter Try.func10, Try.ntmps10
    go_wp2_with fail
    refine (pagePack_any no kind _ l _ HB.out a0 a1).mono ?_
    rintro e w1 ⟨v1, rfl, -, hx1⟩
    rw [HK.out]
    go_wp2_with fail
    refine (awake05_any _).mono ?_
    rintro e w2 ⟨rfl, hx2⟩
    go_wp2_with fail
    refine (awake05_any _).mono ?_
    rintro e w3 ⟨rfl, hx3⟩
    go_wp2_with fail
    go_ret
    exact ⟨rfl, below_step (below_step hx1 hx2) hx3⟩
end Go.Proofs.Ytdekfbmjhmfmaaa
