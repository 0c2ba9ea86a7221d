/- The walk of octavoref17.Commit. -/
import Derived.Test.YtdofdegicdkhlaaPastF
namespace Go.Proofs.Ytdofdegicdkhlaa
open Go.RowKit Go.Oct

theorem has_one {w : World} {x1 x2 : Int} : Has (w.alloc (.cells #[.int .i64 x1, .int .i64 x2] 41)) (.slice (some ⟨w.heap.size, 0, none⟩) 1 1) 1 (vs [(x1, x2)]) :=
  Has.block (heap_last rfl) (Nat.le_refl _) (by decide) (fun i x hi => by rw [Nat.zero_add, ← hi]; simp [vs])
def sliceLen : Value → Nat
  | .slice _ n _ => n
  | _ => 0
set_option maxHeartbeats 4000000 in
theorem refCommit17_any (v : Value) (l : List Ver) (c x1 x2 most : Int) (w : World) (hB : Vers w v l) :
    Calls Try.prog 29 #[.agg #[v, .int .i64 c], .agg #[.int .i64 x1, .int .i64 x2], .int .i64 most] w (PastPost w (comCode l c (x1, x2) most) (comList l c (x1, x2) most) (comCur l c (x1, x2) most)) := by
  obtain ⟨a, cap, rfl, hcap, hmax, hcells⟩ := Vers.open hB
  unfold maxLen at hmax
  by_cases hM : pastMay l c
  · by_cases hV : verMay (x1, x2)
    · by_cases hm1 : most < 1
      · obtain ⟨e1, e2, e3⟩ := com_bad (l := l) (c := c) (v := (x1, x2)) (most := most) (by omega)
        rw [e1, e2, e3]
        have HM := Lib.hid (decide_eq_true hM)
        have HV := Lib.hid (decide_eq_true hV)
        clear e1 e2 e3 hM hV hcells
        go_enter Try.func29, Try.ntmps29
        go_wp2_with fail
        refine (refMay17_any _ l _ _ (Vers.alloc (Vers.alloc (Vers.alloc hB _) _) _)).mono ?_
        rintro e w2 ⟨rfl, hx2⟩
        rw [HM.out]
        have hbx := box_below (heap_keep (heap_keep (heap_last (o := pastBox (.slice a l.length cap) c) rfl) _) _) hx2
        have hbv := box_below (heap_keep (heap_last (o := verBox x1 x2) (sz1 _ _).symm) _) hx2
        have hbz : w2.heap[w.heap.size + 2]? = some (pastBox (.slice none 0 0) 0) := box_below (heap_last (by simp only [sz1])) hx2
        have hw2 : Below w.heap.size w w2 := (below_new (below_new (below_new (Below.refl _ _) _) _) _).trans (hx2.mono (by simp; omega))
        clear hx2
        obtain ⟨y0, y1⟩ := verBox_cells hbv
        go_wp2_with fail
        refine (one17_any _ _ _).mono ?_
        rintro e w3 ⟨rfl, hx3⟩
        rw [HV.out]
        have hw3 := below_step hw2 hx3
        have hbz3 := box_below hbz hx3
        obtain ⟨z0, z1⟩ := pastBox_cells hbz3
        have hfz := pastBox_free hbz3
        have hls := (Array.getElem?_eq_some_iff.1 hbz3).1
        clear hx3 hbx hbv hbz hbz3 y0 y1
        go_wp2_with fail
        refine bodyPost_ret (v := .tuple #[.agg #[.slice none 0 0, .int .i64 0], .int .i64 1]) (by simp [results, Try.results29, go_sem, z0, z1]) rfl ?_
        exact past_bad (sets2_below hw3 (by omega) _ _) _ rfl
      by_cases hm2 : 16 < most
      · obtain ⟨e1, e2, e3⟩ := com_bad (l := l) (c := c) (v := (x1, x2)) (most := most) (by omega)
        rw [e1, e2, e3]
        have HM := Lib.hid (decide_eq_true hM)
        have HV := Lib.hid (decide_eq_true hV)
        clear e1 e2 e3 hM hV hcells
        go_enter Try.func29, Try.ntmps29
        go_wp2_with fail
        refine (refMay17_any _ l _ _ (Vers.alloc (Vers.alloc (Vers.alloc hB _) _) _)).mono ?_
        rintro e w2 ⟨rfl, hx2⟩
        rw [HM.out]
        have hbx := box_below (heap_keep (heap_keep (heap_last (o := pastBox (.slice a l.length cap) c) rfl) _) _) hx2
        have hbv := box_below (heap_keep (heap_last (o := verBox x1 x2) (sz1 _ _).symm) _) hx2
        have hbz : w2.heap[w.heap.size + 2]? = some (pastBox (.slice none 0 0) 0) := box_below (heap_last (by simp only [sz1])) hx2
        have hw2 : Below w.heap.size w w2 := (below_new (below_new (below_new (Below.refl _ _) _) _) _).trans (hx2.mono (by simp; omega))
        clear hx2
        obtain ⟨y0, y1⟩ := verBox_cells hbv
        go_wp2_with fail
        refine (one17_any _ _ _).mono ?_
        rintro e w3 ⟨rfl, hx3⟩
        rw [HV.out]
        have hw3 := below_step hw2 hx3
        have hbz3 := box_below hbz hx3
        obtain ⟨z0, z1⟩ := pastBox_cells hbz3
        have hfz := pastBox_free hbz3
        have hls := (Array.getElem?_eq_some_iff.1 hbz3).1
        clear hx3 hbx hbv hbz hbz3 y0 y1
        go_wp2_with fail
        refine bodyPost_ret (v := .tuple #[.agg #[.slice none 0 0, .int .i64 0], .int .i64 1]) (by simp [results, Try.results29, go_sem, z0, z1]) rfl ?_
        exact past_bad (sets2_below hw3 (by omega) _ _) _ rfl
      obtain ⟨hc0, hc1, hlm⟩ := id hM
      have hl16 := hlm.2.1
      obtain ⟨k, rfl⟩ := Int.eq_ofNat_of_zero_le hc0
      obtain ⟨m, rfl⟩ := Int.eq_ofNat_of_zero_le (show 0 ≤ most by omega)
      have hk : k < l.length := by omega
      have e1 : comCode l k (x1, x2) m = 0 := by unfold comCode; rw [if_pos ⟨hM, hV, by omega, by omega⟩]
      have e2 : comList l k (x1, x2) m = lastOf m (l.take (k + 1) ++ [(x1, x2)]) := by simp [comList, e1]
      have e3 : comCur l k (x1, x2) m = ((lastOf m (l.take (k + 1) ++ [(x1, x2)])).length : Int) - 1 := by simp only [comCur, e1, if_true, e2]
      rw [e1, e2, e3]
      have HM := Lib.hid (decide_eq_true hM)
      have HV := Lib.hid (decide_eq_true hV)
      obtain ⟨b, o, rfl, hbl, hcs⟩ := hcells (by omega)
      have HCS := Lib.hid hcs
      have HTL := Lib.hid (show (l.take (k + 1)).length = k + 1 by simp; omega)
      obtain ⟨i0, hi, hz0, hz1, hz2⟩ := info_parts infoVer
      clear e1 e2 e3 hM hV hcells hlm hc0 hcs
      go_enter Try.func29, Try.ntmps29
      go_wp2_with fail
      refine (refMay17_any _ l _ _ (Vers.alloc (Vers.alloc (Vers.alloc hB _) _) _)).mono ?_
      rintro e w2 ⟨rfl, hx2⟩
      rw [HM.out]
      have hbx := box_below (heap_keep (heap_keep (heap_last (o := pastBox (.slice (some ⟨b, o, none⟩) l.length cap) (k : Int)) rfl) _) _) hx2
      have hbv := box_below (heap_keep (heap_last (o := verBox x1 x2) (sz1 _ _).symm) _) hx2
      have hbz : w2.heap[w.heap.size + 2]? = some (pastBox (.slice none 0 0) 0) := box_below (heap_last (by simp only [sz1])) hx2
      have hw2 : Below w.heap.size w w2 := (below_new (below_new (below_new (Below.refl _ _) _) _) _).trans (hx2.mono (by simp; omega))
      clear hx2
      obtain ⟨y0, y1⟩ := verBox_cells hbv
      go_wp2_with fail
      refine (one17_any _ _ _).mono ?_
      rintro e w3 ⟨rfl, hx3⟩
      rw [HV.out]
      have hw3 := below_step hw2 hx3
      have hbz3 := box_below hbz hx3
      obtain ⟨z0, z1⟩ := pastBox_cells hbz3
      have hfz := pastBox_free hbz3
      have hls := (Array.getElem?_eq_some_iff.1 hbz3).1
      have hbx3 := box_below hbx hx3
      have hbv3 := box_below hbv hx3
      clear hx3 hbx hbv hbz y0 y1 z0 z1 hfz
      go_wp2_with fail
      go_loopw [8, 9] (fun v i wr => ∃ j : Nat, j ≤ k + 1 ∧ i = .int .i64 j ∧ wr.ownsRow (w.heap.size + 3) 41 2 v j (vs (l.take j)) ∧ Below w.heap.size w wr ∧ wr.heap[w.heap.size]? = some (pastBox (.slice (some ⟨b, o, none⟩) l.length cap) (k : Int)) ∧ wr.heap[w.heap.size + 1]? = some (verBox x1 x2) ∧ wr.heap[w.heap.size + 2]? = some (pastBox (.slice none 0 0) 0)) (fun _ i _ => k + 1 - (intOf i).toNat)
      case atStart => exact ⟨0, Nat.zero_le _, rfl, World.ownsRow_nil _ _ _ _, hw3, hbx3, hbv3, hbz3⟩
      case round =>
        obtain ⟨j, hj, rfl, hown, hnx, h1, h2, h3⟩ := hrel
        have HO := Lib.hid hown
        have H2 := Lib.hid h2
        have H3 := Lib.hid h3
        have H1 := Lib.hid h1
        have hl3 : w.heap.size + 2 < wr.heap.size := (Array.getElem?_eq_some_iff.1 h3).1
        obtain ⟨y0, y1⟩ := pastBox_cells h1
        clear hown h1 h2 h3 hw3 hbx3 hbv3 hbz3 hls
        by_cases hlt : j < k + 1
        · have hjl : j < l.length := by omega
          have hc1' := (hnx.cell (p := ⟨b, o + j * 2, none⟩) hbl).trans (HCS.out j hjl).1
          have hc2' := (hnx.cell (p := ⟨b, o + j * 2 + 1, none⟩) hbl).trans (HCS.out j hjl).2
          have HT := Lib.hid (show vs (l.take (j + 1)) = vs (l.take j) ++ vs [l[j]] by rw [← vs_append, List.take_succ_eq_append_getElem hjl])
          obtain ⟨x, hx⟩ : ∃ x, x = l[j] := ⟨_, rfl⟩
          rw [← hx] at hc1' hc2' HT
          clear hx
          obtain ⟨u1, u2⟩ := x
          go_wp2_with (at_builtin; go_loud (refine wpList_append_has _ rfl (.tmp 33) (.tmp 39) 37 rfl (w.heap.size + 3) 41 i0 (.agg #[.int .i64 0, .int .i64 0]) 2 16 Try.underlying37 hi hz0 hz1 hz2 rfl (by decide) _ _ _ rfl (HO.out.alloc _) _ _ _ rfl has_one rfl (vs_one _) ?c3 ?c4 ?c5 ?_))
          case c3 => unfold maxLen; omega
          case c4 => omega
          case c5 => first | omega | (simp; omega)
          intro v' w9 hown' hgrow _
          have hnx1 : Below w.heap.size w w9 := (hnx.alloc (by omega) _).grown hgrow (by simp; omega) (fun q hq => by have := (HO.out.lt q hq).1; omega)
          have k1 := box_grown (heap_keep H1.out _) hgrow (own_block_ge HO.out (by omega))
          have k2 := box_grown (heap_keep H2.out _) hgrow (own_block_ge HO.out (by omega))
          have k3 := box_grown (heap_keep H3.out _) hgrow (own_block_ge HO.out (by omega))
          have HR := Lib.hid hown'
          have K1 := Lib.hid k1
          have K2 := Lib.hid k2
          have K3 := Lib.hid k3
          clear hgrow hnx hown' k1 k2 k3 hc1' hc2' y0 y1
          go_wp2_with fail
          go_roundw
          case rel => exact ⟨j + 1, by omega, by go_num, by rw [HT.out]; exact HR.out, hnx1, K1.out, K2.out, K3.out⟩
          case measure => first | omega | (simp [intOf]; omega) | (simp only [intOf]; omega)
        · obtain rfl : j = k + 1 := by omega
          obtain ⟨z0, z1⟩ := verBox_cells H2.out
          go_wp2_with (at_builtin; go_loud (refine wpList_append_has _ rfl (.tmp 41) (.tmp 43) 37 rfl (w.heap.size + 3) 41 i0 (.agg #[.int .i64 0, .int .i64 0]) 2 16 Try.underlying37 hi hz0 hz1 hz2 rfl (by decide) _ _ _ rfl (HO.out.alloc _) _ _ _ rfl has_one rfl (vs_one _) ?c3 ?c4 ?c5 ?_))
          case c3 => unfold maxLen; omega
          case c4 => omega
          case c5 => simp; omega
          intro v5 w5 hown5 hgr5 _
          have hw5 : Below w.heap.size w w5 := (hnx.alloc (by omega) _).grown hgr5 (by simp; omega) (fun q hq => by have := (HO.out.lt q hq).1; omega)
          have hbz5 := box_grown (heap_keep H3.out _) hgr5 (own_block_ge HO.out (by omega))
          have hres : w5.ownsRow (w.heap.size + 3) 41 2 v5 (l.take (k + 1) ++ [(x1, x2)]).length (vs (l.take (k + 1) ++ [(x1, x2)])) := by
            rw [vs_append, List.length_append, HTL.out]
            exact hown5
          obtain ⟨L, hL⟩ : ∃ L, L = l.take (k + 1) ++ [(x1, x2)] := ⟨_, rfl⟩
          have hLl : L.length = k + 2 := by rw [hL, List.length_append, HTL.out]; rfl
          rw [← hL] at hres
          have HLE := Lib.hid hL
          clear hL hown5 hgr5 hnx y0 y1 z0 z1
          obtain ⟨g5, c5, hf⟩ := Joins.ownsRow_form hres (by omega)
          subst hf
          obtain ⟨hcl, hcm⟩ := own_cap2 hres
          unfold maxLen at hcm
          have hg5 : w.heap.size + 3 ≤ g5 := (hres.lt g5 rfl).1
          have n1 : 2 ≤ L.length := by omega
          have n2 : L.length ≤ 17 := by omega
          have HR := Lib.hid hres
          obtain ⟨z0, z1⟩ := pastBox_cells hbz5
          have hfz := pastBox_free hbz5
          have hls := (Array.getElem?_eq_some_iff.1 hbz5).1
          clear hres hLl hbz5
          go_wp2_with fail
          go_loop [8] (fun v => ∃ j : Nat, j < L.length ∧ (j = 0 ∨ m + j ≤ L.length) ∧ v = .slice (some ⟨g5, j * 2, none⟩) (L.length - j) (c5 - j)) (fun v => sliceLen v)
          case atStart => exact ⟨0, by omega, .inl rfl, rfl⟩
          case round =>
            obtain ⟨j, hj1, hj2, rfl⟩ := hrel
            have HJ2 := Lib.hid hj2
            by_cases hgt : m + j < L.length
            · have q1 : (m : Int) < ((L.length - j : Nat) : Int) := by omega
              have q2 : ¬ c5 - j = 1 := by omega
              have q3 : (1 : Int) ≤ ((L.length - j : Nat) : Int) := by omega
              have q4 : ((L.length - j : Nat) : Int) ≤ ((c5 - j : Nat) : Int) := by omega
              clear hj2
              go_wp2_with fail
              refine ⟨⟨j + 1, by omega, .inr (by omega), by rw [show (j + 1) * 2 = j * 2 + 2 by omega, show L.length - (j + 1) = L.length - j - 1 by omega, show c5 - (j + 1) = c5 - j - 1 by omega]⟩, ?_⟩
              show L.length - j - 1 < L.length - j
              omega
            · have q1 : ((L.length - j : Nat) : Int) ≤ (m : Int) := by omega
              have HLL := Lib.hid (show lastOf m L = L.drop j by unfold lastOf; rw [show L.length - m = j by omega])
              have HLJ := Lib.hid (show (L.drop j).length = L.length - j by rw [List.length_drop])
              have HTT := Lib.hid (NewVers.tail HR.out j (by omega))
              have q2 : 1 ≤ L.length - j := by omega
              obtain ⟨n, hn⟩ : ∃ n, L.length - j = n := ⟨_, rfl⟩
              rw [hn] at q1 q2 HLJ ⊢
              clear hj2 hn hgt
              go_wp2_with fail
              refine bodyPost_ret (v := .tuple #[.agg #[.slice (some ⟨g5, j * 2, none⟩) n (c5 - j), .int .i64 ((n : Int) - 1)], .int .i64 0]) (by simp [results, Try.results29, go_sem, z0, z1]) rfl ?_
              rw [← HLE.out, HLL.out, HLJ.out]
              have h9 := HTT.out
              rw [HLJ.out] at h9
              exact ⟨_, rfl, (h9.sets2 (w.heap.size + 2) (by omega) _ _).mono (by omega), sets2_below hw5 (by omega) _ _⟩
    · obtain ⟨e1, e2, e3⟩ := com_bad (l := l) (c := c) (v := (x1, x2)) (most := most) (fun h => hV h.2.1)
      rw [e1, e2, e3]
      have HM := Lib.hid (decide_eq_true hM)
      have HV := Lib.hid (decide_eq_false hV)
      clear e1 e2 e3 hM hV hcells
      go_enter Try.func29, Try.ntmps29
      go_wp2_with fail
      refine (refMay17_any _ l _ _ (Vers.alloc (Vers.alloc (Vers.alloc hB _) _) _)).mono ?_
      rintro e w2 ⟨rfl, hx2⟩
      rw [HM.out]
      have hbx := box_below (heap_keep (heap_keep (heap_last (o := pastBox (.slice a l.length cap) c) rfl) _) _) hx2
      have hbv := box_below (heap_keep (heap_last (o := verBox x1 x2) (sz1 _ _).symm) _) hx2
      have hbz : w2.heap[w.heap.size + 2]? = some (pastBox (.slice none 0 0) 0) := box_below (heap_last (by simp only [sz1])) hx2
      have hw2 : Below w.heap.size w w2 := (below_new (below_new (below_new (Below.refl _ _) _) _) _).trans (hx2.mono (by simp; omega))
      clear hx2
      obtain ⟨y0, y1⟩ := verBox_cells hbv
      go_wp2_with fail
      refine (one17_any _ _ _).mono ?_
      rintro e w3 ⟨rfl, hx3⟩
      rw [HV.out]
      have hw3 := below_step hw2 hx3
      have hbz3 := box_below hbz hx3
      obtain ⟨z0, z1⟩ := pastBox_cells hbz3
      have hfz := pastBox_free hbz3
      have hls := (Array.getElem?_eq_some_iff.1 hbz3).1
      clear hx3 hbx hbv hbz hbz3 y0 y1
      go_wp2_with fail
      refine bodyPost_ret (v := .tuple #[.agg #[.slice none 0 0, .int .i64 0], .int .i64 1]) (by simp [results, Try.results29, go_sem, z0, z1]) rfl ?_
      exact past_bad (sets2_below hw3 (by omega) _ _) _ rfl
  · obtain ⟨e1, e2, e3⟩ := com_bad (l := l) (c := c) (v := (x1, x2)) (most := most) (fun h => hM h.1)
    rw [e1, e2, e3]
    have HM := Lib.hid (decide_eq_false hM)
    clear e1 e2 e3 hM hcells
    go_enter Try.func29, Try.ntmps29
    go_wp2_with fail
    refine (refMay17_any _ l _ _ (Vers.alloc (Vers.alloc (Vers.alloc hB _) _) _)).mono ?_
    rintro e w2 ⟨rfl, hx2⟩
    rw [HM.out]
    have hbx := box_below (heap_keep (heap_keep (heap_last (o := pastBox (.slice a l.length cap) c) rfl) _) _) hx2
    have hbv := box_below (heap_keep (heap_last (o := verBox x1 x2) (sz1 _ _).symm) _) hx2
    have hbz : w2.heap[w.heap.size + 2]? = some (pastBox (.slice none 0 0) 0) := box_below (heap_last (by simp only [sz1])) hx2
    have hw2 : Below w.heap.size w w2 := (below_new (below_new (below_new (Below.refl _ _) _) _) _).trans (hx2.mono (by simp; omega))
    clear hx2
    obtain ⟨z0, z1⟩ := pastBox_cells hbz
    have hfz := pastBox_free hbz
    have hls := (Array.getElem?_eq_some_iff.1 hbz).1
    clear hbx hbv hbz
    go_wp2_with fail
    refine bodyPost_ret (v := .tuple #[.agg #[.slice none 0 0, .int .i64 0], .int .i64 1]) (by simp [results, Try.results29, go_sem, z0, z1]) rfl ?_
    exact past_bad (sets2_below hw2 (by omega) _ _) _ rfl
end Go.Proofs.Ytdofdegicdkhlaa
