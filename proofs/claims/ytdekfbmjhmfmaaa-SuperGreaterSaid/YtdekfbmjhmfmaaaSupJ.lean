/- The walk of the law SuperTurned. -/
import Derived.Test.YtdekfbmjhmfmaaaSupI
namespace Go.Proofs.Ytdekfbmjhmfmaaa
open Go.RowKit Go.Oct

theorem supOf_pack {g r c t o : Int} (h : supMay g r c t o) : supOpen (supPack g r c t o) = 0 ∧ ((supOf (supPack g r c t o) 8 6 : Nat) : Int) = g ∧ ((supOf (supPack g r c t o) 14 4 : Nat) : Int) = r ∧
    ((supOf (supPack g r c t o) 18 1 : Nat) : Int) = c ∧ ((supOf (supPack g r c t o) 19 4 : Nat) : Int) = t ∧ ((supOf (supPack g r c t o) 23 4 : Nat) : Int) = o := by
  have h1 := supOpen_pack h
  obtain ⟨h0, h2⟩ := h1
  simp only [supOf, h0, if_true]
  exact ⟨trivial, h2⟩
set_option maxHeartbeats 1000000 in
theorem superTurned_walk (g r c t o bit : Int) (w : World) (_hw : ∀ z ∈ [g, r, c, t, o], (Lit.int .i64 z).wf = true) (w1 : (Lit.int .i64 bit).wf = true) :
    Calls Try.prog 6 #[.agg #[.int .i64 g, .int .i64 r, .int .i64 c, .int .i64 t, .int .i64 o], .int .i64 bit] w fun e w' => e = .returned (.bool true) ∧ Below w.heap.size w w' := by
  by_cases hM : supMay g r c t o
  · obtain ⟨o0, o1, o2, o3, o4, o5⟩ := supOf_pack hM
    have hlen := supPack_len hM
    have hcode : supCode g r c t o = 0 := by rw [supCode, if_pos hM]
    obtain ⟨P, hP⟩ : ∃ P, supPack g r c t o = P := ⟨_, rfl⟩
    rw [hP] at o0 o1 o2 o3 o4 o5 hlen
    have HP := Lib.hid hP
    have HC := Lib.hid hcode
    have HLn := Lib.hid hlen
    have HO := Lib.hid (And.intro o0 (And.intro o1 (And.intro o2 (And.intro o3 (And.intro o4 o5)))))
    clear o0 o1 o2 o3 o4 o5 hP hcode hlen hM
    go_enter Try.func6, Try.ntmps6
    go_wp2_with fail
    refine (superPack_any g r c t o _).mono ?_
    rintro e w2 ⟨v2, rfl, hown2, hx2⟩
    rw [HP.out, HLn.out] at hown2
    rw [HC.out]
    have hbx2 := box_below (heap_last (o := supBox g r c t o) rfl) hx2
    have hw2 : Below w.heap.size w w2 := ((Below.refl _ _).alloc (Nat.le_refl _) _).trans (hx2.mono (by simp))
    obtain ⟨g2, c2, hf⟩ := Joins.ownsRow_form hown2 (by decide)
    subst hf
    have hgl : w.heap.size + 1 ≤ g2 := by have := (hown2.lt g2 rfl).1; simp at this; omega
    have HW2 := Lib.hid hown2
    clear hown2 hx2
    go_wp2_with fail
    refine (awake16_any _).mono ?_
    rintro e w3 ⟨rfl, hx3⟩
    have hbx3 := box_below hbx2 hx3
    have hw3 := below_step hw2 hx3
    have HW3 := Lib.hid (Joins.ownsRow_le (own_keep HW2.out hx3) (show w.heap.size + 1 ≤ _ by simp))
    have hB3 : Bytes w3 (.slice (some ⟨g2, 0, none⟩) 64 c2) P := by unfold Bytes; rw [HLn.out]; exact Has.own HW3.out
    have hcap : 64 ≤ c2 := (own_cap HW3.out).1
    have hmax : c2 ≤ 9223372036854775807 := (own_cap HW3.out).2
    have hs3 := hw3.size
    clear hx3 hw2 hbx2 HW2
    go_wp2_with fail
    refine (superOpen_any _ P _ hB3).mono ?_
    rintro e w4 ⟨rfl, hx4⟩
    rw [HO.out.1, HO.out.2.1, HO.out.2.2.1, HO.out.2.2.2.1, HO.out.2.2.2.2.1, HO.out.2.2.2.2.2]
    have hbx4 := box_below hbx3 hx4
    have hw4 := below_new (below_step hw3 hx4) (supBox g r c t o)
    have HW4 := Lib.hid ((own_keep HW3.out hx4).alloc (supBox g r c t o))
    have hs4 : w.heap.size < w4.heap.size := (Array.getElem?_eq_some_iff.1 hbx4).1
    obtain ⟨y0, y1, y2, y3, y4⟩ := supBox_cells hbx4
    clear hx4 hw3 hbx3 HW3 hB3
    by_cases hb0 : bit < 0
    · go_wp2_with fail
      go_ret
      exact ⟨rfl, hw4⟩
    by_cases hb1 : 512 ≤ bit
    · go_wp2_with fail
      go_ret
      exact ⟨rfl, hw4⟩
    obtain ⟨q, rfl⟩ := Int.eq_ofNat_of_zero_le (Int.not_lt.1 hb0)
    have hq : q < 512 := by omega
    have hlt : q / 8 < P.length := by rw [HLn.out]; omega
    have hcell := HW4.out.cellAt (q / 8) (by omega)
    rw [bs_get P (q / 8) hlt] at hcell
    have hfr := HW4.out.frozenAt (q / 8)
    have HTN := Lib.hid (supOpen_turned HO.out.1 (q / 8) hlt)
    obtain ⟨p, hp⟩ : ∃ p, p = P[q / 8] := ⟨_, rfl⟩
    rw [← hp] at hcell HTN
    have hg4 : g2 < (w4.alloc (supBox g r c t o)).heap.size := (HW4.out.lt g2 rfl).2
    clear w1 hb0 hb1 hp
    unfold supBox at hcell hfr hg4
    go_wp2_with fail
    obtain ⟨y, hne, hy⟩ := turned_byte p (q % 8) (by omega)
    rw [hy]
    have hno := HTN.out y (Ne.symm hne)
    obtain ⟨hown5, hgr5⟩ := HW4.out.stored (q / 8) (.int .u8 (y.toNat : Int))
    rw [← bs_set] at hown5
    obtain ⟨Y, hY⟩ : ∃ Y, P.set (q / 8) y = Y := ⟨_, rfl⟩
    have hYl : Y.length = 64 := by rw [← hY, List.length_set, HLn.out]
    rw [hY] at hno hown5
    have hB5 : Bytes ((w4.alloc (supBox g r c t o)).setCell ⟨g2, q / 8, none⟩ (.int .u8 (y.toNat : Int))) (.slice (some ⟨g2, 0, none⟩) 64 c2) Y := by unfold Bytes; rw [hYl]; exact Has.own hown5
    have hw5 : Below w.heap.size w ((w4.alloc (supBox g r c t o)).setCell ⟨g2, q / 8, none⟩ (.int .u8 (y.toNat : Int))) := hw4.setCell (by simp; omega) _
    unfold supBox at hB5 hw5
    generalize (w4.alloc (.cells #[.int .i64 g, .int .i64 r, .int .i64 c, .int .i64 t, .int .i64 o] 23)).setCell ⟨g2, q / 8, none⟩ (.int .u8 (y.toNat : Int)) = w5 at hB5 hw5 ⊢
    have h0 : ∀ a k, supOf Y a k = 0 := fun a k => by simp [supOf, hno]
    have H0 := Lib.hid (And.intro (h0 8 6) (And.intro (h0 14 4) (And.intro (h0 18 1) (And.intro (h0 19 4) (h0 23 4)))))
    obtain ⟨k, hk⟩ : ∃ k, supOpen Y = k := ⟨_, rfl⟩
    rw [hk] at hno
    have HK := Lib.hid hk
    have hkb : ((k : Int) != 0) = true := by rw [bne_iff_ne]; omega
    clear hcell hfr hg4 hy hne hown5 hgr5 hY hYl h0 hk hno y0 y1 y2 y3 y4 hw4 hbx4 HTN
    refine (superOpen_any _ Y _ hB5).mono ?_
    rintro e w6 ⟨rfl, hx6⟩
    rw [HK.out, H0.out.1, H0.out.2.1, H0.out.2.2.1, H0.out.2.2.2.1, H0.out.2.2.2.2]
    have hw6 := below_step hw5 hx6
    clear hx6 hw5 hB5
    go_wp2_with fail
    go_ret
    exact ⟨rfl, below_new hw6 _⟩
  · have HC := Lib.hid (show supCode g r c t o = 1 by rw [supCode, if_neg hM])
    clear hM
    go_enter Try.func6, Try.ntmps6
    go_wp2_with fail
    refine (superPack_any g r c t o _).mono ?_
    rintro e w2 ⟨v2, rfl, -, hx2⟩
    rw [HC.out]
    have hw2 : Below w.heap.size w w2 := ((Below.refl _ _).alloc (Nat.le_refl _) _).trans (hx2.mono (by simp))
    clear hx2
    go_wp2_with fail
    refine (awake16_any _).mono ?_
    rintro e w3 ⟨rfl, hx3⟩
    go_wp2_with fail
    refine (awake16_any _).mono ?_
    rintro e w4 ⟨rfl, hx4⟩
    go_wp2_with fail
    go_ret
    exact ⟨rfl, below_step (below_step hw2 hx3) hx4⟩
end Go.Proofs.Ytdekfbmjhmfmaaa
