/- The walk of octavoref16.Open. -/
import Derived.Test.YtdekfbmjhmfmaaaSupC
import Derived.Test.YtdekfbmjhmfmaaaLeC
import Derived.Test.YtdekfbmjhmfmaaaSame
import Derived.Test.YtdekfbmjhmfmaaaCut
import Derived.Test.YtdekfbmjhmfmaaaRely
import Derived.StillTailTactics
import Derived.Deep.QuietTactic
import Derived.BigQuiet
namespace Go.Proofs.Ytdekfbmjhmfmaaa
open Go.RowKit Go.Oct

theorem numOf_short {l : List UInt8} (h : 1 ≤ l.length) (h7 : l.length ≤ 7) : numOf l = numVal l := by
  have := numVal_seven l (by omega)
  simp [numOf, valCode_ok (l := l) (by omega) this]
theorem number16_any (v : Value) (l : List UInt8) (n : Nat) (w : World) (hb : Bytes w v l) (h : 1 ≤ l.length) (h7 : l.length ≤ 7) (hn : numVal l = n) :
    Calls Try.prog 47 #[v] w fun e w' => e = .returned (.int .i64 (n : Nat)) ∧ w = w' := by
  have HN := Lib.hid (show numOf l = n by rw [numOf_short h h7, hn])
  clear hn
  go_enter Try.func47, Try.ntmps47
  go_wp2_with fail
  refine (refInt_any v l _ hb).mono ?_
  rintro e w' ⟨rfl, rfl⟩
  go_wp2_with fail
  go_ret
  exact ⟨by rw [HN.out]; rfl, rfl⟩
theorem quiet_left {P : Program} {f : FuncId} {args : Array Value} {w : World} {n : Nat} {v : Value}
    (h : Calls P f args (w.drewN n) fun e w' => e = .returned v ∧ w.drewN n = w') : Calls P f args (w.drewN n) fun e w'' => e = .returned v ∧ ∃ m, w'' = w.drewN m :=
  h.mono fun _ _ ⟨he, hm⟩ => ⟨he, n, hm.symm⟩
theorem supBox_set {w : World} {b : Nat} {x0 x1 x2 x3 x4 : Int} (h : w.heap[b]? = some (supBox x0 x1 x2 x3 x4)) (g r c t o : Int) :
    (((((w.setCell ⟨b, 0, none⟩ (.int .i64 g)).setCell ⟨b, 1, none⟩ (.int .i64 r)).setCell ⟨b, 2, none⟩ (.int .i64 c)).setCell ⟨b, 3, none⟩ (.int .i64 t)).setCell ⟨b, 4, none⟩ (.int .i64 o)).heap[b]? = some (supBox g r c t o) := by
  unfold supBox at h ⊢
  simp [World.setCell, Array.getElem?_modify, h]
theorem sets_other (w : World) (b i : Nat) (hne : i ≠ b) (v0 v1 v2 v3 v4 : Value) :
    (((((w.setCell ⟨b, 0, none⟩ v0).setCell ⟨b, 1, none⟩ v1).setCell ⟨b, 2, none⟩ v2).setCell ⟨b, 3, none⟩ v3).setCell ⟨b, 4, none⟩ v4).heap[i]? = w.heap[i]? := by
  rw [Below.heap_setCell _ _ _ _ hne, Below.heap_setCell _ _ _ _ hne, Below.heap_setCell _ _ _ _ hne, Below.heap_setCell _ _ _ _ hne, Below.heap_setCell _ _ _ _ hne]
theorem sets_below {w0 w : World} {B b : Nat} (h : Below B w0 w) (hb : B ≤ b) (v0 v1 v2 v3 v4 : Value) :
    Below B w0 (((((w.setCell ⟨b, 0, none⟩ v0).setCell ⟨b, 1, none⟩ v1).setCell ⟨b, 2, none⟩ v2).setCell ⟨b, 3, none⟩ v3).setCell ⟨b, 4, none⟩ v4) :=
  ((((h.setCell hb _).setCell hb _).setCell hb _).setCell hb _).setCell hb _
theorem supBox_free {w : World} {b : Nat} {g r c t o : Int} (h : w.heap[b]? = some (supBox g r c t o)) (i : Nat) : w.frozen? ⟨b, i, none⟩ = false := by simp [World.frozen?, h, supBox]
/-- what Open answers -/
def OpenPost (l : List UInt8) (w : World) (e : Ending) (w' : World) : Prop :=
  e = .returned (.tuple #[.agg #[.int .i64 (supOf l 8 6 : Nat), .int .i64 (supOf l 14 4 : Nat), .int .i64 (supOf l 18 1 : Nat), .int .i64 (supOf l 19 4 : Nat), .int .i64 (supOf l 23 4 : Nat)], .int .i64 (supOpen l : Nat)]) ∧ Below w.heap.size w w'
theorem open_bad {l : List UInt8} {c : Nat} (h : supOpen l = c) (hc : c ≠ 0) (w w' : World) (e : Ending) (he : e = .returned (.tuple #[.agg #[.int .i64 0, .int .i64 0, .int .i64 0, .int .i64 0, .int .i64 0], .int .i64 (c : Int)])) (hb : Below w.heap.size w w') : OpenPost l w e w' := by
  have h0 : ∀ a k, supOf l a k = 0 := fun a k => by simp [supOf, h, hc]
  exact ⟨by rw [he, h0, h0, h0, h0, h0, h]; rfl, hb⟩
set_option maxHeartbeats 1000000 in
theorem refOpen16_any (v : Value) (l : List UInt8) (w : World) (hb : Bytes w v l) : Calls Try.prog 23 #[v] w (OpenPost l w) := by
  obtain ⟨a, cap, rfl, hcap, hmax, hcells⟩ := hb.open
  unfold maxLen at hmax
  by_cases h1 : l.length = 64
  · obtain ⟨b, o, rfl, hcs⟩ := hcells (by omega)
    have HL := Lib.hid h1
    rw [h1] at hb hcap ⊢
    have HB := Lib.hid hb
    clear hcells hcs hb h1
    have b60 : Bytes w (.slice (some ⟨b, o + 60, none⟩) 4 (cap - 60)) (l.drop 60) := HB.out.tail 60 4 _ (by decide) (by omega) (by unfold maxLen; omega)
    have t60 : Bytes w (.slice (some ⟨b, o, none⟩) 60 cap) (l.take 60) := HB.out.take 60 (by decide)
    have B60 := Lib.hid b60
    have T60 := Lib.hid t60
    have HD := Lib.hid (show (l.drop 60).length = 4 by rw [List.length_drop, HL.out])
    have hcapI : (64 : Int) ≤ (cap : Int) := by omega
    clear b60 t60
    by_cases h2 : numVal (l.drop 60) = OctCrc.crc (l.take 60)
    · have HW := Lib.hid h2
      have hcc : ((numVal (l.drop 60) : Int) != (OctCrc.crc (l.take 60) : Int)) = false := by rw [h2]; simp
      have hyl := OctCrc.crc_lt (l.take 60)
      have HC8 := Lib.hid (show ((l.drop 8).take 6).length = 6 by rw [List.length_take, List.length_drop, HL.out]; rfl)
      have HC14 := Lib.hid (show ((l.drop 14).take 4).length = 4 by rw [List.length_take, List.length_drop, HL.out]; rfl)
      have HC18 := Lib.hid (show ((l.drop 18).take 1).length = 1 by rw [List.length_take, List.length_drop, HL.out]; rfl)
      have HC19 := Lib.hid (show ((l.drop 19).take 4).length = 4 by rw [List.length_take, List.length_drop, HL.out]; rfl)
      have HC23 := Lib.hid (show ((l.drop 23).take 4).length = 4 by rw [List.length_take, List.length_drop, HL.out]; rfl)
      have hfl1 := fld_lt l 8 6
      have hfl2 := fld_lt l 14 4
      have hfl3 := fld_lt l 18 1
      have hfl4 := fld_lt l 19 4
      have hfl5 := fld_lt l 23 4
      have hB := Lib.hid (And.intro hfl1 (And.intro hfl2 (And.intro hfl3 (And.intro hfl4 hfl5))))
      clear h2 hfl1 hfl2 hfl3 hfl4 hfl5
      go_enter Try.func23, Try.ntmps23
      go_wp2_with fail
      go_quiet ((first | (go_at_call 47; exact quiet_left (number16_any _ _ _ _ ((B60.out.alloc _).below (below_drawn _ _ _)) (by rw [HD.out]; decide) (by rw [HD.out]; decide) rfl)) | (go_at_call 26; exact quiet_left (refOf_any _ _ _ ((T60.out.alloc _).below (below_drawn _ _ _))))))
      go_wp2_with fail
      have hx2 : Below w.heap.size w ((w.alloc (.cells #[.int .i64 0, .int .i64 0, .int .i64 0, .int .i64 0, .int .i64 0] 23)).drewN nq) := ((Below.refl _ _).alloc (Nat.le_refl _) _).trans (below_drawn _ _ _)
      have hbk : ((w.alloc (.cells #[.int .i64 0, .int .i64 0, .int .i64 0, .int .i64 0, .int .i64 0] 23)).drewN nq).heap[w.heap.size]? = some (supBox 0 0 0 0 0) := heap_last rfl
      generalize (w.alloc (.cells #[.int .i64 0, .int .i64 0, .int .i64 0, .int .i64 0, .int .i64 0] 23)).drewN nq = w2 at hx2 hbk ⊢
      have HB2 := Lib.hid (HB.out.below hx2)
      clear hcc
      refine region_each_tail 17 [some 20, some 21, some 22, some 23, some 24, some 25, some 26, some 27, some 28, some 29, some 30, some 31, some 32, some 33, some 34, some 35, some 4, none] [[], [0], [1], [], [3], [4], [], [6], [7], [], [9], [10], [], [12], [13], [2, 5, 8, 11, 14], []]
        [kIs (.slice (some ⟨b, o, none⟩) 64 cap), kIs (.slice (some ⟨b, o + 8, none⟩) 6 (cap - 8)), kIs (.int .i64 (fld l 8 6 : Nat)), kIs (.slice (some ⟨b, o, none⟩) 64 cap), kIs (.slice (some ⟨b, o + 14, none⟩) 4 (cap - 14)), kIs (.int .i64 (fld l 14 4 : Nat)), kIs (.slice (some ⟨b, o, none⟩) 64 cap), kIs (.slice (some ⟨b, o + 18, none⟩) 1 (cap - 18)), kIs (.int .i64 (fld l 18 1 : Nat)), kIs (.slice (some ⟨b, o, none⟩) 64 cap), kIs (.slice (some ⟨b, o + 19, none⟩) 4 (cap - 19)), kIs (.int .i64 (fld l 19 4 : Nat)), kIs (.slice (some ⟨b, o, none⟩) 64 cap), kIs (.slice (some ⟨b, o + 23, none⟩) 4 (cap - 23)), kIs (.int .i64 (fld l 23 4 : Nat)), kIs (.agg #[.int .i64 (fld l 8 6 : Nat), .int .i64 (fld l 14 4 : Nat), .int .i64 (fld l 18 1 : Nat), .int .i64 (fld l 19 4 : Nat), .int .i64 (fld l 23 4 : Nat)]), kBox w2.heap.size (supBox 0 0 0 0 0)]
        (by kernel_rfl) (by kernel_rfl) (by kernel_rfl) (by kernel_rfl) (by kernel_rfl) ?_ ?_
      · simp only [List.take_succ_cons, List.take_zero, obligsD]
        refine ⟨?_, ?_, ?_, ?_, ?_, ?_, ?_, ?_, ?_, ?_, ?_, ?_, ?_, ?_, ?_, ?_, ?_, trivial⟩
        · intro us w1 _ _
          change Oper.wp _ _ _ _ _ _
          go_simp
          exact ⟨_, rfl, Below.refl _ _, rfl⟩
        · intro us w1 hb hd
          simp only [List.mem_cons, List.not_mem_nil, or_false, forall_eq, List.getD_cons_zero, kIs] at hd
          have p1 : (14 : Int) ≤ (cap : Int) := by omega
          have p2 : ¬ cap = 8 := by omega
          simp only [putD, List.getD_cons_zero, Act.put, hd]
          go_simp
          exact ⟨_, rfl, Below.refl _ _, rfl⟩
        · intro us w1 hb hd
          simp only [List.mem_cons, List.not_mem_nil, or_false, forall_eq, List.getD_cons_zero, List.getD_cons_succ, kIs] at hd
          simp only [putD, List.getD_cons_zero, List.getD_cons_succ, Act.put, hd]
          go_simp
          refine (number16_any _ _ (fld l 8 6) _ ((HB2.out.cut 8 6 (cap - 8) (by decide) (by omega) (by unfold maxLen; omega)).below hb) (by rw [HC8.out]; decide) (by rw [HC8.out]; decide) rfl).mono ?_
          rintro e w2 ⟨rfl, rfl⟩
          exact ⟨_, rfl, Below.refl _ _, rfl⟩
        · intro us w1 _ _
          change Oper.wp _ _ _ _ _ _
          go_simp
          exact ⟨_, rfl, Below.refl _ _, rfl⟩
        · intro us w1 hb hd
          simp only [List.mem_cons, List.not_mem_nil, or_false, forall_eq, List.getD_cons_zero, List.getD_cons_succ, kIs] at hd
          have p1 : (18 : Int) ≤ (cap : Int) := by omega
          have p2 : ¬ cap = 14 := by omega
          simp only [putD, List.getD_cons_zero, List.getD_cons_succ, Act.put, hd]
          go_simp
          exact ⟨_, rfl, Below.refl _ _, rfl⟩
        · intro us w1 hb hd
          simp only [List.mem_cons, List.not_mem_nil, or_false, forall_eq, List.getD_cons_zero, List.getD_cons_succ, kIs] at hd
          simp only [putD, List.getD_cons_zero, List.getD_cons_succ, Act.put, hd]
          go_simp
          refine (number16_any _ _ (fld l 14 4) _ ((HB2.out.cut 14 4 (cap - 14) (by decide) (by omega) (by unfold maxLen; omega)).below hb) (by rw [HC14.out]; decide) (by rw [HC14.out]; decide) rfl).mono ?_
          rintro e w2 ⟨rfl, rfl⟩
          exact ⟨_, rfl, Below.refl _ _, rfl⟩
        · intro us w1 _ _
          change Oper.wp _ _ _ _ _ _
          go_simp
          exact ⟨_, rfl, Below.refl _ _, rfl⟩
        · intro us w1 hb hd
          simp only [List.mem_cons, List.not_mem_nil, or_false, forall_eq, List.getD_cons_zero, List.getD_cons_succ, kIs] at hd
          have p1 : (19 : Int) ≤ (cap : Int) := by omega
          have p2 : ¬ cap = 18 := by omega
          simp only [putD, List.getD_cons_zero, List.getD_cons_succ, Act.put, hd]
          go_simp
          exact ⟨_, rfl, Below.refl _ _, rfl⟩
        · intro us w1 hb hd
          simp only [List.mem_cons, List.not_mem_nil, or_false, forall_eq, List.getD_cons_zero, List.getD_cons_succ, kIs] at hd
          simp only [putD, List.getD_cons_zero, List.getD_cons_succ, Act.put, hd]
          go_simp
          refine (number16_any _ _ (fld l 18 1) _ ((HB2.out.cut 18 1 (cap - 18) (by decide) (by omega) (by unfold maxLen; omega)).below hb) (by rw [HC18.out]; decide) (by rw [HC18.out]; decide) rfl).mono ?_
          rintro e w2 ⟨rfl, rfl⟩
          exact ⟨_, rfl, Below.refl _ _, rfl⟩
        · intro us w1 _ _
          change Oper.wp _ _ _ _ _ _
          go_simp
          exact ⟨_, rfl, Below.refl _ _, rfl⟩
        · intro us w1 hb hd
          simp only [List.mem_cons, List.not_mem_nil, or_false, forall_eq, List.getD_cons_zero, List.getD_cons_succ, kIs] at hd
          have p1 : (23 : Int) ≤ (cap : Int) := by omega
          have p2 : ¬ cap = 19 := by omega
          simp only [putD, List.getD_cons_zero, List.getD_cons_succ, Act.put, hd]
          go_simp
          exact ⟨_, rfl, Below.refl _ _, rfl⟩
        · intro us w1 hb hd
          simp only [List.mem_cons, List.not_mem_nil, or_false, forall_eq, List.getD_cons_zero, List.getD_cons_succ, kIs] at hd
          simp only [putD, List.getD_cons_zero, List.getD_cons_succ, Act.put, hd]
          go_simp
          refine (number16_any _ _ (fld l 19 4) _ ((HB2.out.cut 19 4 (cap - 19) (by decide) (by omega) (by unfold maxLen; omega)).below hb) (by rw [HC19.out]; decide) (by rw [HC19.out]; decide) rfl).mono ?_
          rintro e w2 ⟨rfl, rfl⟩
          exact ⟨_, rfl, Below.refl _ _, rfl⟩
        · intro us w1 _ _
          change Oper.wp _ _ _ _ _ _
          go_simp
          exact ⟨_, rfl, Below.refl _ _, rfl⟩
        · intro us w1 hb hd
          simp only [List.mem_cons, List.not_mem_nil, or_false, forall_eq, List.getD_cons_zero, List.getD_cons_succ, kIs] at hd
          have p1 : (27 : Int) ≤ (cap : Int) := by omega
          have p2 : ¬ cap = 23 := by omega
          simp only [putD, List.getD_cons_zero, List.getD_cons_succ, Act.put, hd]
          go_simp
          exact ⟨_, rfl, Below.refl _ _, rfl⟩
        · intro us w1 hb hd
          simp only [List.mem_cons, List.not_mem_nil, or_false, forall_eq, List.getD_cons_zero, List.getD_cons_succ, kIs] at hd
          simp only [putD, List.getD_cons_zero, List.getD_cons_succ, Act.put, hd]
          go_simp
          refine (number16_any _ _ (fld l 23 4) _ ((HB2.out.cut 23 4 (cap - 23) (by decide) (by omega) (by unfold maxLen; omega)).below hb) (by rw [HC23.out]; decide) (by rw [HC23.out]; decide) rfl).mono ?_
          rintro e w2 ⟨rfl, rfl⟩
          exact ⟨_, rfl, Below.refl _ _, rfl⟩
        · intro us w1 _ hd
          simp only [List.mem_cons, List.not_mem_nil, or_false, forall_eq_or_imp, forall_eq, List.getD_cons_zero, List.getD_cons_succ, kIs] at hd
          simp only [putD, List.getD_cons_zero, List.getD_cons_succ, Act.put, hd]
          go_simp
          exact ⟨_, rfl, Below.refl _ _, rfl⟩
        · intro us w1 hb _
          change Oper.wp _ _ _ _ _ _
          go_simp
          exact ⟨_, rfl, (Below.refl _ _).alloc (Nat.le_refl _) _, _, rfl, hb.size, heap_last rfl⟩
      intro us w3 hb hp
      have h15 := hp 15 (by simp)
      have h16 := hp 16 (by simp)
      simp only [List.getD_cons_zero, List.getD_cons_succ, kIs, kBox] at h15 h16
      obtain ⟨gs, h16, hgs, hgb⟩ := h16
      rw [show List.range 17 = [0, 1, 2, 3, 4, 5, 6, 7, 8, 9, 10, 11, 12, 13, 14, 15, 16] from rfl]
      simp only [List.drop_succ_cons, List.drop_zero, putD, List.getD_cons_zero, List.getD_cons_succ, Act.put, List.setIfInBounds_toArray, List.set_cons_zero, List.set_cons_succ, h15, h16]
      have hbk3 := box_below hbk hb
      have hx3 : Below w.heap.size w w3 := hx2.trans (hb.mono hx2.size)
      have HB3 := Lib.hid (HB2.out.below hb)
      have hgs3 : w.heap.size + 1 ≤ gs := by have := (Array.getElem?_eq_some_iff.1 hbk).1; omega
      obtain ⟨z0, z1, z2, z3, z4⟩ := supBox_cells hgb
      have hfz : ∀ i, w3.frozen? ⟨gs, i, none⟩ = false := fun i => by simp [World.frozen?, hgb, supBox]
      have hgl := (Array.getElem?_eq_some_iff.1 hgb).1
      clear hp h15 h16 hb hx2 hbk HB2
      go_wp2_with fail
      have hbg4 := supBox_set hgb (fld l 8 6 : Nat) (fld l 14 4 : Nat) (fld l 18 1 : Nat) (fld l 19 4 : Nat) (fld l 23 4 : Nat)
      have hbk4 := (sets_other w3 gs w.heap.size (by omega) (.int .i64 (fld l 8 6 : Nat)) (.int .i64 (fld l 14 4 : Nat)) (.int .i64 (fld l 18 1 : Nat)) (.int .i64 (fld l 19 4 : Nat)) (.int .i64 (fld l 23 4 : Nat))).trans hbk3
      have hx4 := sets_below hx3 (show w.heap.size ≤ gs by omega) (.int .i64 (fld l 8 6 : Nat)) (.int .i64 (fld l 14 4 : Nat)) (.int .i64 (fld l 18 1 : Nat)) (.int .i64 (fld l 19 4 : Nat)) (.int .i64 (fld l 23 4 : Nat))
      generalize (((((w3.setCell ⟨gs, 0, none⟩ (.int .i64 (fld l 8 6 : Nat))).setCell ⟨gs, 1, none⟩ (.int .i64 (fld l 14 4 : Nat))).setCell ⟨gs, 2, none⟩ (.int .i64 (fld l 18 1 : Nat))).setCell ⟨gs, 3, none⟩ (.int .i64 (fld l 19 4 : Nat))).setCell ⟨gs, 4, none⟩ (.int .i64 (fld l 23 4 : Nat))) = w4 at hbg4 hbk4 hx4 ⊢
      clear z0 z1 z2 z3 z4 hfz hgl hgb hbk3 hx3 HB3 hgs
      have hbw : w.heap.size < w4.heap.size := (Array.getElem?_eq_some_iff.1 hbk4).1
      refine (refPack16_any _ _ _ _ _ _).mono ?_
      rintro e w5 ⟨v5, rfl, hown5, hx5⟩
      have hbg5 := box_below hbg4 hx5
      have hbk5 := box_below hbk4 hx5
      have hw5 : Below w.heap.size w w5 := hx4.trans (hx5.mono (by omega))
      have hpk : Bytes w5 v5 (supPack (fld l 8 6) (fld l 14 4) (fld l 18 1) (fld l 19 4) (fld l 23 4)) := Bytes.own hown5
      have hBl : Bytes w5 (.slice (some ⟨b, o, none⟩) 64 cap) l := HB.out.below hw5
      have HF := Lib.hid (supForm_iff HL.out HW.out)
      clear hbg4 hbk4 hx4 hown5 hx5 hbw
      by_cases hf : supForm l
      · have HOP := Lib.hid (show supOpen l = 0 by unfold supOpen; rw [if_neg (by rw [HL.out]; decide), if_neg (by rw [HW.out]; simp), if_pos hf])
        have HM := Lib.hid (HF.out.1 hf)
        rw [show supCode (fld l 8 6) (fld l 14 4) (fld l 18 1) (fld l 19 4) (fld l 23 4) = 0 by unfold supCode; rw [if_pos HM.out.1]]
        rw [HM.out.2] at hpk
        clear hf HF
        go_wp2_with fail
        refine (same_any _ _ l l _ hpk hBl).mono ?_
        rintro e w6 ⟨rfl, hx6⟩
        have hbg6 := box_below hbg5 hx6
        have hbk6 := box_below hbk5 hx6
        have hw6 : Below w.heap.size w w6 := hw5.trans (hx6.mono hw5.size)
        rw [show decide (l = l) = true by simp]
        obtain ⟨z0, z1, z2, z3, z4⟩ := supBox_cells hbg6
        obtain ⟨y0, y1, y2, y3, y4⟩ := supBox_cells hbk6
        have hfz := supBox_free hbk6
        have hls := (Array.getElem?_eq_some_iff.1 hbk6).1
        clear hpk hBl hbg5 hbk5 hw5 hx6
        go_wp2_with fail
        refine bodyPost_ret (v := .tuple #[.agg #[.int .i64 (fld l 8 6 : Nat), .int .i64 (fld l 14 4 : Nat), .int .i64 (fld l 18 1 : Nat), .int .i64 (fld l 19 4 : Nat), .int .i64 (fld l 23 4 : Nat)], .int .i64 0]) (by simp [results, Try.results23, go_sem, y0, y1, y2, y3, y4]) rfl ?_
        refine ⟨?_, sets_below hw6 (Nat.le_refl _) _ _ _ _ _⟩
        rw [HOP.out]
        simp only [supOf, HOP.out, if_true]
        rfl
      · have HOP := Lib.hid (show supOpen l = 4 by unfold supOpen; rw [if_neg (by rw [HL.out]; decide), if_neg (by rw [HW.out]; simp), if_neg hf])
        by_cases hm : supMay (fld l 8 6) (fld l 14 4) (fld l 18 1) (fld l 19 4) (fld l 23 4)
        · have hne : decide (supPack (fld l 8 6) (fld l 14 4) (fld l 18 1) (fld l 19 4) (fld l 23 4) = l) = false := decide_eq_false fun e => hf (HF.out.2 ⟨hm, e⟩)
          have HN := Lib.hid hne
          rw [show supCode (fld l 8 6) (fld l 14 4) (fld l 18 1) (fld l 19 4) (fld l 23 4) = 0 by unfold supCode; rw [if_pos hm]]
          clear hf HF hm hne
          go_wp2_with fail
          refine (same_any _ _ _ l _ hpk hBl).mono ?_
          rintro e w6 ⟨rfl, hx6⟩
          have hbk6 := box_below hbk5 hx6
          have hw6 : Below w.heap.size w w6 := hw5.trans (hx6.mono hw5.size)
          rw [HN.out]
          obtain ⟨y0, y1, y2, y3, y4⟩ := supBox_cells hbk6
          have hfz := supBox_free hbk6
          have hls := (Array.getElem?_eq_some_iff.1 hbk6).1
          clear hpk hBl hbg5 hbk5 hw5 hx6
          go_wp2_with fail
          refine bodyPost_ret (v := .tuple #[.agg #[.int .i64 0, .int .i64 0, .int .i64 0, .int .i64 0, .int .i64 0], .int .i64 4]) (by simp [results, Try.results23, go_sem, y0, y1, y2, y3, y4]) rfl ?_
          exact open_bad HOP.out (by decide) _ _ _ rfl (sets_below hw6 (Nat.le_refl _) _ _ _ _ _)
        · rw [show supCode (fld l 8 6) (fld l 14 4) (fld l 18 1) (fld l 19 4) (fld l 23 4) = 1 by unfold supCode; rw [if_neg hm]]
          obtain ⟨y0, y1, y2, y3, y4⟩ := supBox_cells hbk5
          have hfz := supBox_free hbk5
          have hls := (Array.getElem?_eq_some_iff.1 hbk5).1
          clear hf HF hm hpk hBl hbg5
          go_wp2_with fail
          refine bodyPost_ret (v := .tuple #[.agg #[.int .i64 0, .int .i64 0, .int .i64 0, .int .i64 0, .int .i64 0], .int .i64 4]) (by simp [results, Try.results23, go_sem, y0, y1, y2, y3, y4]) rfl ?_
          exact open_bad HOP.out (by decide) _ _ _ rfl (sets_below hw5 (Nat.le_refl _) _ _ _ _ _)
    · have HO := Lib.hid (show supOpen l = 5 by unfold supOpen; rw [if_neg (by rw [HL.out]; decide), if_pos h2])
      have hne : ((numVal (l.drop 60) : Int) != (OctCrc.crc (l.take 60) : Int)) = true := by rw [bne_iff_ne]; omega
      have hyl := OctCrc.crc_lt (l.take 60)
      clear h2
      go_enter Try.func23, Try.ntmps23
      go_wp2_with fail
      go_quiet ((first | (go_at_call 47; exact quiet_left (number16_any _ _ _ _ ((B60.out.alloc _).below (below_drawn _ _ _)) (by rw [HD.out]; decide) (by rw [HD.out]; decide) rfl)) | (go_at_call 26; exact quiet_left (refOf_any _ _ _ ((T60.out.alloc _).below (below_drawn _ _ _))))))
      go_wp2
      refine bodyPost_ret (v := .tuple #[.agg #[.int .i64 0, .int .i64 0, .int .i64 0, .int .i64 0, .int .i64 0], .int .i64 5]) (by simp [results, Try.results23, go_sem]) rfl ?_
      exact open_bad HO.out (by decide) _ _ _ rfl ((((((((Below.refl _ _).alloc (Nat.le_refl _) _).trans (below_drawn _ _ _)).setCell (by simp) _).setCell (by simp) _).setCell (by simp) _).setCell (by simp) _).setCell (by simp) _)
  · have HC := Lib.hid (show supOpen l = 3 by unfold supOpen; rw [if_pos h1])
    have hne : ((l.length : Int) != 64) = true := by rw [bne_iff_ne]; omega
    clear h1
    go_enter Try.func23, Try.ntmps23
    go_wp2_with fail
    refine bodyPost_ret (v := .tuple #[.agg #[.int .i64 0, .int .i64 0, .int .i64 0, .int .i64 0, .int .i64 0], .int .i64 3]) (by simp [results, Try.results23, go_sem]) rfl ?_
    exact open_bad HC.out (by decide) _ _ _ rfl ((Below.refl _ _).alloc (Nat.le_refl _) _)
end Go.Proofs.Ytdekfbmjhmfmaaa
