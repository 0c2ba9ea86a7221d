/- Layer 13: node.Pack of a leaf. -/
import Derived.Test.YtcmoajbdepohmaaNdE
import Derived.Test.YtcmoajbdepohmaaRdrF
import Derived.Deep.RegionHeld3
namespace Go.Proofs.Ytcmoajbdepohmaa
open Go.RowKit Go.Oct
/-- what the two Packs answer -/
def NpPost (leaf : Bool) (es ks : List Quad) (w : World) (e : Ending) (w' : World) : Prop :=
  ∃ v, e = .returned (.tuple #[.int .i64 (ndKind leaf es ks : Nat), v, .int .i64 (ndCode leaf es ks : Nat)]) ∧ w'.ownsRow w.heap.size 5 1 v (ndPack leaf es ks).length (bs (ndPack leaf es ks)) ∧ Below w.heap.size w w'
theorem np_bad {leaf : Bool} {es ks : List Quad} (h : ¬ ndMay leaf es ks) {w w' : World} {e : Ending} (he : e = .returned (.tuple #[.int .i64 0, .slice none 0 0, .int .i64 1])) (hb : Below w.heap.size w w') : NpPost leaf es ks w e w' := by
  refine ⟨.slice none 0 0, by rw [he, ndKind, ndCode, if_neg h, if_neg h]; rfl, ?_, hb⟩
  rw [ndPack, if_neg h]
  exact World.ownsRow_nil _ _ _ _
theorem cell_new (w : World) (cs : Array Value) (t : TypeId) (i : Nat) (x : Value) (h : cs[i]? = some x) : (w.alloc (.cells cs t)).cell? ⟨w.heap.size, i, none⟩ = some x := by
  rw [World.cell_block (heap_last rfl)]; exact h
theorem below_put {w0 w w' : World} {v : Value} {e : TypeId} {size n : Nat} {xs : List Value} (h : Below w0.heap.size w0 w) (ho : w.ownsRow w0.heap.size e size v n xs) (k : w.grownBy w' v.ownBlock) : Below w0.heap.size w0 w' :=
  h.grown k h.size (fun k hk => (ho.lt k hk).1)
theorem box_put {w w' : World} {b : Nat} {o : Obj} {row : Option Nat} (h : w.heap[b]? = some o) (k : w.grownBy w' row) (hne : some b ≠ row) : w'.heap[b]? = some o :=
  (k.block b (Array.getElem?_eq_some_iff.1 h).1 hne).trans h
theorem heap_last_d {w : World} {b : Nat} {o : Obj} (h : b = w.heap.size) : (w.alloc o).drew.heap[b]? = some o := heap_last h
theorem heap_keep_d {w : World} {b : Nat} {o : Obj} (h : w.heap[b]? = some o) (o' : Obj) : (w.alloc o').drew.heap[b]? = some o := heap_keep h o'
theorem blk_ne {u : Value} {bx i : Nat} (H : ∀ j, u.ownBlock = some j → j < bx) (h : bx ≤ i) : some i ≠ u.ownBlock := fun e => by have := H i e.symm; omega
theorem cell_more {w : World} {a : Addr} {v : Value} (h : w.cell? a = some v) (o : Obj) : (w.alloc o).cell? a = some v :=
  (((Below.refl _ _).alloc (Nat.le_refl _) o).cell (World.block_lt_of_cell? w a h)).trans h
set_option maxHeartbeats 4000000 in
theorem nodePack_leaf (ve vk : Value) (es ks : List Quad) (w : World) (He : Quads w ve es) (Hk : Quads w vk ks) (le : es.length ≤ 4398046511104) (lk : ks.length ≤ 4398046511104) :
    Calls Try.prog 33 #[.agg #[.bool true, ve, vk]] w (NpPost true es ks w) := by
  by_cases hM : ndMay true es ks
  · have hm : (∀ x ∈ es, entMay x) ∧ 1 ≤ es.length ∧ es.length ≤ 12 := by
      rcases hM with h | h
      · exact ⟨h.2.2.1, h.2.2.2.1, h.2.2.2.2.1⟩
      · exact absurd h.1 (by decide)
    obtain ⟨hall, hl1, hl12⟩ := hm
    have HE := Lib.hid He
    have HK := Lib.hid Hk
    obtain ⟨a, cap, rfl, hc1, hc2, hcs⟩ := He.open
    unfold maxLen at hc2
    obtain ⟨b, o, rfl, hbl, hcell⟩ := hcs (by omega)
    have HCS := Lib.hid hcell
    have HALL := Lib.hid hall
    have HD := Lib.hid (decide_eq_true hM)
    have HP := Lib.hid (show ndPack true es ks = layAll 1 [(es.length : Int)] ++ ndBody entBytes es by rw [ndPack, if_pos hM]; rfl)
    have HKD := Lib.hid (show ndKind true es ks = 1 by rw [ndKind, if_pos hM]; rfl)
    have HC := Lib.hid (show ndCode true es ks = 0 by rw [ndCode, if_pos hM])
    clear hM He Hk hcs hcell hall
    go_enter Try.func33, Try.ntmps33
    have HB0 := Lib.hid (show (w.alloc (ndBox true (.slice (some ⟨b, o, none⟩) es.length cap) vk)).heap[w.heap.size]? = some (ndBox true (.slice (some ⟨b, o, none⟩) es.length cap) vk) from heap_last rfl)
    go_wp2_with fail
    refine (nodeMay_any true _ _ es ks _ (HE.out.alloc _) (HK.out.alloc _) le lk).mono ?_
    rintro e w1 ⟨rfl, hx⟩
    rw [HD.out]
    have hw1 := below_step (below_new (Below.refl _ _) _) hx
    have HB1 := Lib.hid (box_below HB0.out hx)
    obtain ⟨b0, b1, b2⟩ := ndBox_cells HB1.out
    have hnl := (Array.getElem?_eq_some_iff.1 HB1.out).1
    clear hx HB0
    go_wp2_with fail
    refine (put_block w.heap.size (.slice none 0 0) [] 1 [(es.length : Int)] w1.heap.size #[.int .i64 (es.length : Int)] _ _ _ (heap_last rfl) rfl (by have := hw1.size; simp; omega) (World.ownsRow_nil _ _ _ _) (by decide) (by simp) (by intro x hx; rw [List.mem_singleton] at hx; subst hx; omega) (by decide) (by decide) (by intro i hi; cases hi)).mono ?_
    rintro e w2 ⟨v2, rfl, ho2, hg2, -⟩
    rw [List.nil_append] at ho2
    have HO2 := Lib.hid ho2
    have hw2 := below_new hw1 (.cells #[.int .i64 (es.length : Int)] 3)
    replace hw2 : Below w.heap.size w w2 := hw2.trans ((below_none hg2).mono hw2.size)
    have HB2 := Lib.hid (box_below (heap_keep HB1.out (.cells #[.int .i64 (es.length : Int)] 3)) (below_none hg2))
    clear b0 b1 b2 hnl HB1 ho2 hg2
    obtain ⟨b0, b1, b2⟩ := ndBox_cells HB2.out
    have hnl := (Array.getElem?_eq_some_iff.1 HB2.out).1
    go_wp2_with fail
    clear b0 b1 b2 hnl HB2
    obtain ⟨N0, hN0⟩ : ∃ N0, N0 = layAll 1 [(es.length : Int)] := ⟨_, rfl⟩
    have hN8 : N0.length ≤ 8 := by rw [hN0]; exact layAll_le 1 [(es.length : Int)]
    have HO2' := Lib.hid (show w2.ownsRow w.heap.size 5 1 v2 N0.length (bs N0) by rw [hN0]; exact HO2.out)
    have HN0 := Lib.hid hN0
    clear HO2 hN0
    go_loopw [3, 23] (fun ov i wr => ∃ k : Nat, k ≤ es.length ∧ i = .int .i64 k ∧ wr.ownsRow w.heap.size 5 1 ov (N0 ++ ndBody entBytes (es.take k)).length (bs (N0 ++ ndBody entBytes (es.take k))) ∧ Below w.heap.size w wr) (fun _ i _ => es.length - (intOf i).toNat)
    case atStart => exact ⟨0, Nat.zero_le _, rfl, by simpa [ndBody] using HO2'.out, hw2⟩
    case round =>
      clear HO2' hw2
      obtain ⟨k, hk, rfl, hown, hnx⟩ := hrel
      have HO := Lib.hid hown
      by_cases hlt : k < es.length
      · obtain ⟨c0, c1, c2, c3⟩ := HCS.out k hlt
        replace c0 := (hnx.cell (p := ⟨b, o + k * 4, none⟩) hbl).trans c0
        replace c1 := (hnx.cell (p := ⟨b, o + k * 4 + 1, none⟩) hbl).trans c1
        replace c2 := (hnx.cell (p := ⟨b, o + k * 4 + 2, none⟩) hbl).trans c2
        replace c3 := (hnx.cell (p := ⟨b, o + k * 4 + 3, none⟩) hbl).trans c3
        have hle := ndBody_le entBytes entBytes_le (es.take k)
        have hlk : (es.take k).length = k := by simp; omega
        have hM : (N0 ++ ndBody entBytes (es.take k)).length ≤ 1000 := by rw [List.length_append]; omega
        have HT := Lib.hid (ndBody_next entBytes es k hlt)
        have hen := HALL.out es[k] (List.getElem_mem _)
        obtain ⟨x, hx⟩ : ∃ x, es[k] = x := ⟨_, rfl⟩
        rw [hx] at c0 c1 c2 c3 hen
        have HX := Lib.hid hx
        obtain ⟨s0, s1, s2, s3⟩ := x
        unfold entMay at hen
        simp only at c0 c1 c2 c3 hen
        obtain ⟨y0, y1, y2, y3, y4, y5, y6, y7, -⟩ := hen
        obtain ⟨M, eM⟩ : ∃ y, N0 ++ ndBody entBytes (es.take k) = y := ⟨_, rfl⟩
        rw [eM] at hM
        have EM := Lib.hid eM
        have HO' := Lib.hid (show wr.ownsRow w.heap.size 5 1 u3 M.length (bs M) by rw [← eM]; exact hown)
        have r0 : (0 : Int) ≤ (k : Int) := by omega
        have r1 : (k : Int) < (es.length : Int) := by omega
        clear hx eM hle hlk hown HO
        go_wp2_with fail
        have hlt3 : ∀ i, u3.ownBlock = some i → i < wr.heap.size := fun i hi => (HO'.out.lt i hi).2
        obtain ⟨wq, hwq⟩ : ∃ x, x = wr.alloc (.cells #[.int .i64 s0, .int .i64 s1, .int .i64 s2, .int .i64 s3] 80) := ⟨_, rfl⟩
        obtain ⟨bx, hbx⟩ : ∃ x, x = wr.heap.size := ⟨_, rfl⟩
        have HOQ := Lib.hid (show wq.ownsRow w.heap.size 5 1 u3 M.length (bs M) by rw [hwq]; exact HO'.out.alloc _)
        have hnq : Below w.heap.size w wq := by rw [hwq]; exact below_new hnx _
        have q0 : wq.cell? ⟨bx, 0, none⟩ = some (.int .i64 s0) := by rw [hwq, hbx]; exact cell_new _ _ _ _ _ rfl
        have q1 : wq.cell? ⟨bx, 1, none⟩ = some (.int .i64 s1) := by rw [hwq, hbx]; exact cell_new _ _ _ _ _ rfl
        have q2 : wq.cell? ⟨bx, 2, none⟩ = some (.int .i64 s2) := by rw [hwq, hbx]; exact cell_new _ _ _ _ _ rfl
        have q3 : wq.cell? ⟨bx, 3, none⟩ = some (.int .i64 s3) := by rw [hwq, hbx]; exact cell_new _ _ _ _ _ rfl
        have hbq : bx < wq.heap.size := by rw [hwq, hbx]; simp
        have hlq : ∀ i, u3.ownBlock = some i → i < bx := by rw [hbx]; exact hlt3
        have HLQ := Lib.hid hlq
        have HNQ := Lib.hid hnq
        have hbs : w.heap.size ≤ wq.heap.size := hnq.size
        rw [← hwq, ← hbx]
        clear hwq hbx hlt3 hnx HO' c0 c1 c2 c3 hlq hnq
        go_region_held3 (fun w' => w'.cell? ⟨bx, 0, none⟩ = some (.int .i64 s0) ∧ w'.cell? ⟨bx, 1, none⟩ = some (.int .i64 s1) ∧ w'.cell? ⟨bx, 2, none⟩ = some (.int .i64 s2) ∧ w'.cell? ⟨bx, 3, none⟩ = some (.int .i64 s3))
          (first
            | exact ⟨q0, q1, q2, q3⟩
            | exact ⟨cell_more q0 _, cell_more q1 _, cell_more q2 _, cell_more q3 _⟩
            | exact ⟨cell_more (cell_more q0 _) _, cell_more (cell_more q1 _) _, cell_more (cell_more q2 _) _, cell_more (cell_more q3 _) _⟩
            | exact ⟨m0, m1, m2, m3⟩
            | exact ⟨k0, k1, k2, k3⟩
            | exact ⟨cell_more k0 _, cell_more k1 _, cell_more k2 _, cell_more k3 _⟩
            | fail "keep")
          (first
            | (go_at_call 45
               ((with_reducible refine (put_1 w.heap.size u3 M 1 s0 _ _ ?hA1 ?hA2 ?hA3 (by omega) (by decide) (by decide) (by omega) ?hA4).mono ?_))
               case hA1 => first | exact heap_last rfl | exact heap_keep (heap_last rfl) _ | exact heap_last (by simp) | exact heap_last_d rfl | exact heap_last_d (by simp) | fail "A1"
               case hA2 => first | (simp; omega) | fail "A2"
               case hA3 => first | exact HOQ.out.alloc _ | exact (HOQ.out.alloc _).alloc _ | fail "A3"
               case hA4 => first | (intro i hi; have := HLQ.out i hi; simp; omega) | fail "A4"
               rintro e wa ⟨va, rfl, hoa, hga, hba⟩
               have k0 : wa.cell? ⟨bx, 0, none⟩ = some (.int .i64 s0) := hga.cell (by first | exact cell_more q0 _ | exact cell_more (cell_more q0 _) _) (fun e => by have := HLQ.out bx e.symm; omega)
               have k1 : wa.cell? ⟨bx, 1, none⟩ = some (.int .i64 s1) := hga.cell (by first | exact cell_more q1 _ | exact cell_more (cell_more q1 _) _) (fun e => by have := HLQ.out bx e.symm; omega)
               have k2 : wa.cell? ⟨bx, 2, none⟩ = some (.int .i64 s2) := hga.cell (by first | exact cell_more q2 _ | exact cell_more (cell_more q2 _) _) (fun e => by have := HLQ.out bx e.symm; omega)
               have k3 : wa.cell? ⟨bx, 3, none⟩ = some (.int .i64 s3) := hga.cell (by first | exact cell_more q3 _ | exact cell_more (cell_more q3 _) _) (fun e => by have := HLQ.out bx e.symm; omega)
               have HNA := Lib.hid (show Below w.heap.size w wa from below_put (by first | exact (below_new HNQ.out _).drew | exact (below_new (below_new HNQ.out _) _).drew | exact below_new HNQ.out _ | exact below_new (below_new HNQ.out _) _ | fail "C1") (by first | exact HOQ.out.alloc _ | exact (HOQ.out.alloc _).alloc _ | fail "C2") hga)
               have HOA := Lib.hid hoa
               have HBA := Lib.hid hba
               have HGA := Lib.hid hga
               have hla : bx < wa.heap.size := World.block_lt_of_cell? wa _ k0
               have HVB := Lib.hid (show ∀ i, va.ownBlock = some i → i ≠ bx by
                 intro i hi
                 rcases hba with h | h
                 · rw [h] at hi; have := HLQ.out i hi; omega
                 · have := h i hi; simp at this; omega)
               clear hoa hba hga)
            | (go_at_call 45
               ((with_reducible refine (put_3 w.heap.size va (M ++ layAll 1 [s0]) 4 s1 s2 s3 _ _ ?hB1 ?hB2 ?hB3 ?hB4 (by decide) (by decide) (by omega) ?hB5).mono ?_))
               case hB1 => first | exact heap_last rfl | exact heap_last_d rfl | exact box_put (by first | exact heap_last rfl | exact heap_keep (heap_last rfl) _ | exact heap_last_d rfl | exact heap_keep_d (heap_last rfl) _ | exact heap_last (by simp) | exact heap_last_d (by simp) | fail "B0") HGA.out (blk_ne HLQ.out (by first | omega | (simp; omega) | fail "N0")) | fail "B1"
               case hB2 => first | (have := HNA.out.size; simp; omega) | fail "B2"
               case hB3 => first | exact HOA.out | exact HOA.out.alloc _ | fail "B3"
               case hB4 => first | (have := layAll_le 1 [s0]; simp only [List.length_append, List.length_cons, List.length_nil] at *; omega) | fail "B4"
               case hB5 =>
                 first
                   | (intro i hi; have := (HOA.out.lt i hi).2; omega)
                   | (intro i hi
                      rcases HBA.out with h | h
                      · rw [h] at hi; have := HLQ.out i hi; simp; omega
                      · have := h i hi; simp at this ⊢; omega)
                   | fail "B5"
               rintro e wb ⟨vb, rfl, hob, hgb, -⟩
               have m0 : wb.cell? ⟨bx, 0, none⟩ = some (.int .i64 s0) := hgb.cell (by first | exact k0 | exact cell_more k0 _) (fun e => HVB.out bx e.symm rfl)
               have m1 : wb.cell? ⟨bx, 1, none⟩ = some (.int .i64 s1) := hgb.cell (by first | exact k1 | exact cell_more k1 _) (fun e => HVB.out bx e.symm rfl)
               have m2 : wb.cell? ⟨bx, 2, none⟩ = some (.int .i64 s2) := hgb.cell (by first | exact k2 | exact cell_more k2 _) (fun e => HVB.out bx e.symm rfl)
               have m3 : wb.cell? ⟨bx, 3, none⟩ = some (.int .i64 s3) := hgb.cell (by first | exact k3 | exact cell_more k3 _) (fun e => HVB.out bx e.symm rfl)
               have HNB := Lib.hid (show Below w.heap.size w wb from below_put (by first | exact HNA.out | exact HNA.out.drew | exact below_new HNA.out _ | exact (below_new HNA.out _).drew | fail "C3") (by first | exact HOA.out | exact HOA.out.alloc _ | fail "C4") hgb)
               have HOB := Lib.hid hob
               clear hob)
            | fail "no arm")
        all_goals
          have HOF := Lib.hid (show wb.ownsRow w.heap.size 5 1 vb (N0 ++ ndBody entBytes (es.take (k + 1))).length (bs (N0 ++ ndBody entBytes (es.take (k + 1)))) by
            rw [HT.out, HX.out, ← List.append_assoc, EM.out, entBytes, ← List.append_assoc]; exact HOB.out)
          clear HOB hgb m0 m1 m2 m3 k0 k1 k2 k3 q0 q1 q2 q3 HOA HNA HOQ
          go_wp2_with fail
          go_roundw
          case rel => exact ⟨k + 1, by omega, by go_num, HOF.out, HNB.out⟩
          case measure => simp [intOf]; omega
      · obtain rfl : k = es.length := by omega
        have HPL := Lib.hid (show ndPack true es ks = N0 ++ ndBody entBytes es by rw [HP.out, HN0.out])
        rw [List.take_length] at hown
        have HOF := Lib.hid hown
        clear hown HO
        go_wp2_with fail
        go_ret3
        refine ⟨_, by rw [HKD.out, HC.out]; rfl, ?_, hnx⟩
        rw [HPL.out]
        exact HOF.out
  · have HM := Lib.hid hM
    have HD := Lib.hid (decide_eq_false hM)
    have HE := Lib.hid He
    have HK := Lib.hid Hk
    clear hM He Hk
    go_enter Try.func33, Try.ntmps33
    go_wp2_with fail
    refine (nodeMay_any true _ _ es ks _ (HE.out.alloc _) (HK.out.alloc _) le lk).mono ?_
    rintro e w1 ⟨rfl, hx⟩
    rw [HD.out]
    have hw1 := below_step (below_new (Below.refl _ _) _) hx
    clear hx
    go_wp2_with fail
    go_ret3
    exact np_bad HM.out rfl hw1
end Go.Proofs.Ytcmoajbdepohmaa
