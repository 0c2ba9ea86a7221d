/- Layer 13: node.Pack of an inner node. -/
import Derived.Test.YtcmoajbdepohmaaNdF
namespace Go.Proofs.Ytcmoajbdepohmaa
open Go.RowKit Go.Oct
set_option maxHeartbeats 4000000 in
theorem nodePack_inner (ve vk : Value) (es ks : List Quad) (w : World) (He : Quads w ve es) (Hk : Quads w vk ks) (le : es.length ≤ 4398046511104) (lk : ks.length ≤ 4398046511104) :
    Calls Try.prog 33 #[.agg #[.bool false, ve, vk]] w (NpPost false es ks w) := by
  by_cases hM : ndMay false es ks
  · have hm : (∀ x ∈ ks, kidMay x) ∧ 2 ≤ ks.length ∧ ks.length ≤ 12 := by
      rcases hM with h | h
      · exact absurd h.1 (by decide)
      · exact ⟨h.2.2.1, h.2.2.2.1, h.2.2.2.2.1⟩
    obtain ⟨hall, hl1, hl12⟩ := hm
    have HE := Lib.hid He
    have HK := Lib.hid Hk
    obtain ⟨a, cap, rfl, hc1, hc2, hcs⟩ := Hk.open
    unfold maxLen at hc2
    obtain ⟨b, o, rfl, hbl, hcell⟩ := hcs (by omega)
    have HCS := Lib.hid hcell
    have HALL := Lib.hid hall
    have HD := Lib.hid (decide_eq_true hM)
    have HP := Lib.hid (show ndPack false es ks = layAll 1 [(ks.length : Int)] ++ ndBody kidBytes ks by rw [ndPack, if_pos hM]; rfl)
    have HKD := Lib.hid (show ndKind false es ks = 2 by rw [ndKind, if_pos hM]; rfl)
    have HC := Lib.hid (show ndCode false es ks = 0 by rw [ndCode, if_pos hM])
    clear hM He Hk hcs hcell hall
    go_enter Try.func33, Try.ntmps33
    have HB0 := Lib.hid (show (w.alloc (ndBox false ve (.slice (some ⟨b, o, none⟩) ks.length cap))).heap[w.heap.size]? = some (ndBox false ve (.slice (some ⟨b, o, none⟩) ks.length cap)) from heap_last rfl)
    go_wp2_with fail
    refine (nodeMay_any false _ _ es ks _ (HE.out.alloc _) (HK.out.alloc _) le lk).mono ?_
    rintro e w1 ⟨rfl, hx⟩
    rw [HD.out]
    have hw1 := below_step (below_new (Below.refl _ _) _) hx
    have HB1 := Lib.hid (box_below HB0.out hx)
    obtain ⟨b0, b1, b2⟩ := ndBox_cells HB1.out
    have hnl := (Array.getElem?_eq_some_iff.1 HB1.out).1
    clear hx HB0
    go_wp2_with fail
    refine (put_block w.heap.size (.slice none 0 0) [] 1 [(ks.length : Int)] w1.heap.size #[.int .i64 (ks.length : Int)] _ _ _ (heap_last rfl) rfl (by have := hw1.size; simp; omega) (World.ownsRow_nil _ _ _ _) (by decide) (by simp) (by intro x hx; rw [List.mem_singleton] at hx; subst hx; omega) (by decide) (by decide) (by intro i hi; cases hi)).mono ?_
    rintro e w2 ⟨v2, rfl, ho2, hg2, -⟩
    rw [List.nil_append] at ho2
    have HO2 := Lib.hid ho2
    have hw2 := below_new hw1 (.cells #[.int .i64 (ks.length : Int)] 3)
    replace hw2 : Below w.heap.size w w2 := hw2.trans ((below_none hg2).mono hw2.size)
    have HB2 := Lib.hid (box_below (heap_keep HB1.out (.cells #[.int .i64 (ks.length : Int)] 3)) (below_none hg2))
    clear b0 b1 b2 hnl HB1 ho2 hg2
    obtain ⟨b0, b1, b2⟩ := ndBox_cells HB2.out
    have hnl := (Array.getElem?_eq_some_iff.1 HB2.out).1
    go_wp2_with fail
    clear b0 b1 b2 hnl HB2
    obtain ⟨N0, hN0⟩ : ∃ N0, N0 = layAll 1 [(ks.length : Int)] := ⟨_, rfl⟩
    have hN8 : N0.length ≤ 8 := by rw [hN0]; exact layAll_le 1 [(ks.length : Int)]
    have HO2' := Lib.hid (show w2.ownsRow w.heap.size 5 1 v2 N0.length (bs N0) by rw [hN0]; exact HO2.out)
    have HN0 := Lib.hid hN0
    clear HO2 hN0
    go_loopw [3, 54] (fun ov i wr => ∃ k : Nat, k ≤ ks.length ∧ i = .int .i64 k ∧ wr.ownsRow w.heap.size 5 1 ov (N0 ++ ndBody kidBytes (ks.take k)).length (bs (N0 ++ ndBody kidBytes (ks.take k))) ∧ Below w.heap.size w wr) (fun _ i _ => ks.length - (intOf i).toNat)
    case atStart => exact ⟨0, Nat.zero_le _, rfl, by simpa [ndBody] using HO2'.out, hw2⟩
    case round =>
      clear HO2' hw2
      obtain ⟨k, hk, rfl, hown, hnx⟩ := hrel
      have HO := Lib.hid hown
      by_cases hlt : k < ks.length
      · obtain ⟨c0, c1, c2, c3⟩ := HCS.out k hlt
        replace c0 := (hnx.cell (p := ⟨b, o + k * 4, none⟩) hbl).trans c0
        replace c1 := (hnx.cell (p := ⟨b, o + k * 4 + 1, none⟩) hbl).trans c1
        replace c2 := (hnx.cell (p := ⟨b, o + k * 4 + 2, none⟩) hbl).trans c2
        replace c3 := (hnx.cell (p := ⟨b, o + k * 4 + 3, none⟩) hbl).trans c3
        have hle := ndBody_le kidBytes kidBytes_le (ks.take k)
        have hlk : (ks.take k).length = k := by simp; omega
        have hM : (N0 ++ ndBody kidBytes (ks.take k)).length ≤ 1000 := by rw [List.length_append]; omega
        have HT := Lib.hid (ndBody_next kidBytes ks k hlt)
        have hen := HALL.out ks[k] (List.getElem_mem _)
        obtain ⟨x, hx⟩ : ∃ x, ks[k] = x := ⟨_, rfl⟩
        rw [hx] at c0 c1 c2 c3 hen
        have HX := Lib.hid hx
        obtain ⟨s0, s1, s2, s3⟩ := x
        unfold kidMay at hen
        simp only at c0 c1 c2 c3 hen
        obtain ⟨y0, y1, y2, y3, y4, y5, y6, y7⟩ := hen
        obtain ⟨M, eM⟩ : ∃ y, N0 ++ ndBody kidBytes (ks.take k) = y := ⟨_, rfl⟩
        rw [eM] at hM
        have EM := Lib.hid eM
        have HO' := Lib.hid (show wr.ownsRow w.heap.size 5 1 u3 M.length (bs M) by rw [← eM]; exact hown)
        have r0 : (0 : Int) ≤ (k : Int) := by omega
        have r1 : (k : Int) < (ks.length : Int) := by omega
        clear hx eM hle hlk hown HO
        go_wp2_with fail
        have hnx1 := below_new hnx (.cells #[.int .i64 s0, .int .i64 s1, .int .i64 s2, .int .i64 s3] 82)
        have hlt3 : ∀ i, u3.ownBlock = some i → i < wr.heap.size := fun i hi => (HO'.out.lt i hi).2
        have HLT3 := Lib.hid hlt3
        have HOQ := Lib.hid (HO'.out.alloc (.cells #[.int .i64 s0, .int .i64 s1, .int .i64 s2, .int .i64 s3] 82))
        clear hlt3 HO'
        refine (put_4 w.heap.size u3 M 4 s0 s1 s2 s3 _ _ (heap_last (by simp)) (by have := hnx.size; simp; omega) (HOQ.out.alloc _) (by omega) (by decide) (by decide) (by omega) (by intro i hi; have := HLT3.out i hi; omega)).mono ?_
        rintro e wb ⟨vb, rfl, hob, hgb, -⟩
        have HNB := Lib.hid (show Below w.heap.size w wb from below_put (below_new hnx1 _) (HOQ.out.alloc _) hgb)
        have HOF := Lib.hid (show wb.ownsRow w.heap.size 5 1 vb (N0 ++ ndBody kidBytes (ks.take (k + 1))).length (bs (N0 ++ ndBody kidBytes (ks.take (k + 1)))) by
          rw [HT.out, HX.out, ← List.append_assoc, EM.out, kidBytes]; exact hob)
        clear hob hgb hnx hnx1 HOQ c0 c1 c2 c3
        go_wp2_with fail
        go_roundw
        case rel => exact ⟨k + 1, by omega, by go_num, HOF.out, HNB.out⟩
        case measure => simp [intOf]; omega
      · obtain rfl : k = ks.length := by omega
        have HPL := Lib.hid (show ndPack false es ks = N0 ++ ndBody kidBytes ks by rw [HP.out, HN0.out])
        rw [List.take_length] at hown
        have HOF := Lib.hid hown
        clear hown HO
        go_wp2_with fail
        go_ret3
        refine ⟨_, by rw [HKD.out, HC.out]; rfl, ?_, hnx⟩
        rw [HPL.out]
        exact HOF.out
  · have HM := Lib.hid hM
    have HD := Lib.hid (decide_eq_false hM)
    have HE := Lib.hid He
    have HK := Lib.hid Hk
    clear hM He Hk
    go_enter Try.func33, Try.ntmps33
    go_wp2_with fail
    refine (nodeMay_any false _ _ es ks _ (HE.out.alloc _) (HK.out.alloc _) le lk).mono ?_
    rintro e w1 ⟨rfl, hx⟩
    rw [HD.out]
    have hw1 := below_step (below_new (Below.refl _ _) _) hx
    clear hx
    go_wp2_with fail
    go_ret3
    exact np_bad HM.out rfl hw1
/-- node.Pack -/
theorem nodePack_any (leaf : Bool) (ve vk : Value) (es ks : List Quad) (w : World) (He : Quads w ve es) (Hk : Quads w vk ks) (le : es.length ≤ 4398046511104) (lk : ks.length ≤ 4398046511104) :
    Calls Try.prog 33 #[.agg #[.bool leaf, ve, vk]] w (NpPost leaf es ks w) := by
  cases leaf
  · exact nodePack_inner ve vk es ks w He Hk le lk
  · exact nodePack_leaf ve vk es ks w He Hk le lk
end Go.Proofs.Ytcmoajbdepohmaa
