/- The walk of the law PastTurns. -/
import Derived.Test.YtdofdegicdkhlaaPastI
namespace Go.Proofs.Ytdofdegicdkhlaa
open Go.RowKit Go.Oct

/-- what is to be known of a slice to be written over -/
def SpotV (w : World) (v : Value) (l : List Ver) (row : Option Nat) : Prop :=
  l ≠ [] → ∃ g o cap cs, v = .slice (some ⟨g, o, none⟩) l.length cap ∧ row = some g ∧ w.heap[g]? = some (.cells cs 41 (0, 0)) ∧ o + l.length * 2 ≤ cs.size
theorem SpotV.below {w w' : World} {v : Value} {l : List Ver} {row : Option Nat} (h : SpotV w v l row) (k : Below w.heap.size w w') : SpotV w' v l row := by
  intro hl
  obtain ⟨g, o, cap, cs, h1, h2, h3, h4⟩ := h hl
  exact ⟨g, o, cap, cs, h1, h2, box_below h3 k, h4⟩
theorem SpotV.grown {w w' : World} {v : Value} {l : List Ver} {row row' : Option Nat} (h : SpotV w v l row) (k : w.grownBy w' row') (hne : ∀ r, row' = some r → row = some r → False) : SpotV w' v l row := by
  intro hl
  obtain ⟨g, o, cap, cs, h1, h2, h3, h4⟩ := h hl
  exact ⟨g, o, cap, cs, h1, h2, box_grown h3 k (fun e => hne g e h2), h4⟩
theorem NewVers.spot {base : Nat} {w : World} {v : Value} {l : List Ver} (h : NewVers base w v l) : ∃ row : Option Nat, (∀ r, row = some r → base ≤ r ∧ r < w.heap.size) ∧ SpotV w v l row := by
  rcases h with ⟨rfl, rfl⟩ | ⟨g, o, cap, cs, rfl, hb, hg, h1, h2, h3⟩
  · exact ⟨none, (fun r e => by cases e), fun hl => (hl rfl).elim⟩
  · refine ⟨some g, fun r e => ?_, fun hl => ⟨g, o, cap, cs, rfl, rfl, hg, ?_⟩⟩
    · obtain rfl := Option.some.inj e
      exact ⟨hb, (Array.getElem?_eq_some_iff.1 hg).1⟩
    · have hlen := congrArg List.length h3
      simp only [vs_length, List.length_take, List.length_drop, Array.length_toList] at hlen
      have : 0 < l.length := by
        rcases Nat.eq_zero_or_pos l.length with h | h
        · exact (hl (List.eq_nil_of_length_eq_zero h)).elim
        · exact h
      omega
theorem NewVers.grown {base : Nat} {w w' : World} {v : Value} {l : List Ver} {row : Option Nat} (h : NewVers base w v l) (k : w.grownBy w' row) (hne : ∀ r, row = some r → r < base) : NewVers base w' v l := by
  rcases h with h | ⟨g, o, cap, cs, rfl, hb, hg, r⟩
  · exact .inl h
  · exact .inr ⟨g, o, cap, cs, rfl, hb, box_grown hg k (fun e => by have := hne g e; omega), r⟩
theorem LendV.grown {base : Nat} {w w' : World} {g n cp : Nat} {l : List Ver} {row : Option Nat} (h : LendV base w (.slice (some ⟨g, 0, none⟩) n cp) l) (k : w.grownBy w' row) (hne : row ≠ some g) : LendV base w' (.slice (some ⟨g, 0, none⟩) n cp) l := by
  obtain ⟨g', cp', hv, ho⟩ := h
  simp only [Value.slice.injEq, Option.some.injEq, Addr.mk.injEq, and_true, true_and] at hv
  obtain ⟨rfl, rfl, rfl⟩ := hv
  exact ⟨g, cp, rfl, ho.kept k (.inr (fun e => hne e.symm))⟩
theorem below_row {w0 w w' : World} {row : Option Nat} (h : Below w0.heap.size w0 w) (k : w.grownBy w' row) (hne : ∀ r, row = some r → w0.heap.size ≤ r) : Below w0.heap.size w0 w' :=
  ⟨k.os.trans h.os, k.tape.trans h.tape, k.output.trans h.output, Nat.le_trans h.size k.size, fun i hi => (k.block i (by have := h.size; omega) (by intro e; have := hne i e.symm; omega)).trans (h.block i hi)⟩
set_option maxRecDepth 100000 in
set_option maxHeartbeats 8000000 in
theorem pastTurns_walk (v : Value) (l : List Ver) (c x1 x2 most : Int) (w : World) (hB : Vers w v l) (hl0 : l.length ≤ 8796093021952) (hcw : (Lit.int .i64 c).wf = true) (_hw : ∀ z ∈ [x1, x2], (Lit.int .i64 z).wf = true) (_wm : (Lit.int .i64 most).wf = true) :
    Calls Try.prog 10 #[.agg #[v, .int .i64 c], .agg #[.int .i64 x1, .int .i64 x2], .int .i64 most] w fun e w' => e = .returned (.bool true) ∧ Below w.heap.size w w' := by
  have hl : l.length ≤ 8796093022144 := by omega
  have hcm : c ≤ 9223372036854775807 := by
    have hmax : IntKind.i64.max = 9223372036854775807 := rfl
    simp only [Lit.wf, Bool.and_eq_true, decide_eq_true_eq] at hcw
    omega
  clear hcw hl0 _hw _wm
  obtain ⟨a, cap, rfl, hcap, hmax, hcells⟩ := Vers.open hB
  unfold maxLen at hmax
  by_cases hM : pastMay l c
  · have HM := Lib.hid (decide_eq_true hM)
    obtain ⟨hc0, hc1, hlm⟩ := id hM
    obtain ⟨k, rfl⟩ := Int.eq_ofNat_of_zero_le hc0
    have hk : k < l.length := by omega
    have hl16 := hlm.2.1
    have HN := Lib.hid (show nowOf l k = l[k] by unfold nowOf; rw [if_pos hM]; simp [hk])
    obtain ⟨b, o, rfl, hbl, hcs⟩ := hcells (by omega)
    have hcs := hcs k hk
    obtain ⟨n, hn⟩ : ∃ n, n = l[k] := ⟨_, rfl⟩
    rw [← hn] at hcs HN
    obtain ⟨n1, n2⟩ := n
    obtain ⟨h1, h2⟩ := hcs
    have HC1 := Lib.hid h1
    have HC2 := Lib.hid h2
    clear hn hM hcells h1 h2 hc0 hlm
    have P0 := Lib.hid hB
    obtain ⟨KA, hKA⟩ : ∃ x, comCode l (k : Int) (x1, x2) most = x := ⟨_, rfl⟩
    have HKA := Lib.hid hKA
    clear hKA
    obtain ⟨LA, hLA⟩ : ∃ x, comList l (k : Int) (x1, x2) most = x := ⟨_, rfl⟩
    have HLA := Lib.hid hLA
    clear hLA
    obtain ⟨UA, hUA⟩ : ∃ x, comCur l (k : Int) (x1, x2) most = x := ⟨_, rfl⟩
    have HUA := Lib.hid hUA
    clear hUA
    obtain ⟨KB, hKB⟩ : ∃ x, turnCode l (k : Int) (-1) = x := ⟨_, rfl⟩
    have HKB := Lib.hid hKB
    clear hKB
    obtain ⟨LB, hLB⟩ : ∃ x, turnList l (k : Int) (-1) = x := ⟨_, rfl⟩
    have HLB := Lib.hid hLB
    clear hLB
    obtain ⟨UB, hUB⟩ : ∃ x, turnCur l (k : Int) (-1) = x := ⟨_, rfl⟩
    have HUB := Lib.hid hUB
    clear hUB
    obtain ⟨KD, hKD⟩ : ∃ x, turnCode l (k : Int) 1 = x := ⟨_, rfl⟩
    have HKD := Lib.hid hKD
    clear hKD
    obtain ⟨LD, hLD⟩ : ∃ x, turnList l (k : Int) 1 = x := ⟨_, rfl⟩
    have HLD := Lib.hid hLD
    clear hLD
    obtain ⟨UD, hUD⟩ : ∃ x, turnCur l (k : Int) 1 = x := ⟨_, rfl⟩
    have HUD := Lib.hid hUD
    clear hUD
    clear hB
    go_enter Try.func10, Try.ntmps10
    go_wp2_with fail
    refine (lent17_any _ l (k : Int) _ (Vers.alloc (Vers.alloc P0.out _) _) hl).mono ?_
    rintro e w1 ⟨vl, rfl, hlv, hx⟩
    have hbel_w1 : Below w.heap.size w w1 := (below_new (below_new (Below.refl w.heap.size w) _) _).trans (hx.mono (by first | omega | (simp; done) | (simp; omega)))
    have hz_w1 : w.heap.size + 2 ≤ w1.heap.size := by have hz := hx.size; first | omega | (simp only [sz1] at hz; omega)
    have B3 := Lib.hid (show w1.heap[w.heap.size]? = some (pastBox (.slice (some ⟨b, o, none⟩) l.length cap) (k : Int)) from box_below (heap_keep (heap_last (o := pastBox (.slice (some ⟨b, o, none⟩) l.length cap) (k : Int)) rfl) _) hx)
    have B4 := Lib.hid (show w1.heap[w.heap.size + 1]? = some (verBox x1 x2) from box_below (heap_last (o := verBox x1 x2) (by simp only [sz1])) hx)
    clear hx 
    have hl_B3 := (Array.getElem?_eq_some_iff.1 B3.out).1
    have hl_B4 := (Array.getElem?_eq_some_iff.1 B4.out).1
    have LC := Lib.hid hlv
    obtain ⟨gl, cl, hf, hlo⟩ := id hlv
    subst hf
    have hgl1 : gl < w1.heap.size := (hlo.lt gl rfl).2
    clear hlv hlo
    obtain ⟨yB3_0, yB3_1⟩ := pastBox_cells B3.out
    go_wp2_with fail
    refine (refMay17_any _ l (k : Int) _ (Vers.alloc (Vers.below P0.out hbel_w1) _)).mono ?_
    rintro e w2 ⟨rfl, hx⟩
    clear yB3_0 yB3_1
    have hbel_w2 : Below w.heap.size w w2 := (below_new hbel_w1 _).trans (hx.mono (by have := hbel_w1.size; first | omega | (simp; omega)))
    have hz_w2 : w1.heap.size + 1 ≤ w2.heap.size := by have hz := hx.size; first | omega | (simp only [sz1] at hz; omega)
    have B3' := Lib.hid (box_below (heap_keep B3.out _) hx)
    have B4' := Lib.hid (box_below (heap_keep B4.out _) hx)
    have LC' := Lib.hid ((LC.out.below ((Below.refl _ _).alloc (Nat.le_refl _) _)).below hx)
    have B7 := Lib.hid (show w2.heap[w1.heap.size]? = some (pastBox (.slice (some ⟨gl, 0, none⟩) l.length cl) (k : Int)) from box_below (heap_last (o := pastBox (.slice (some ⟨gl, 0, none⟩) l.length cl) (k : Int)) rfl) hx)
    clear hx B3 B4 LC hbel_w1
    have B3 := B3'
    have B4 := B4'
    have LC := LC'
    clear B3' B4' LC'
    clear hl_B3 hl_B4
    have hl_B3 := (Array.getElem?_eq_some_iff.1 B3.out).1
    have hl_B4 := (Array.getElem?_eq_some_iff.1 B4.out).1
    have hl_B7 := (Array.getElem?_eq_some_iff.1 B7.out).1
    rw [HM.out]
    obtain ⟨yB3_0, yB3_1⟩ := pastBox_cells B3.out
    obtain ⟨yB7_0, yB7_1⟩ := pastBox_cells B7.out
    obtain ⟨yB4_0, yB4_1⟩ := verBox_cells B4.out
    have c1 := (hbel_w2.cell (p := ⟨b, o + k * 2, none⟩) hbl).trans HC1.out
    have c2 := (hbel_w2.cell (p := ⟨b, o + k * 2 + 1, none⟩) hbl).trans HC2.out
    have hbw : b < w2.heap.size := by have := hbel_w2.size; omega
    go_wp2_with fail
    obtain ⟨w3, hset⟩ : ∃ x, x = (w2.alloc (.cells #[.int .i64 n1, .int .i64 n2] 41)) := ⟨_, rfl⟩
    rw [← hset]
    have hx : Below (w2.alloc (verBox n1 n2)).heap.size (w2.alloc (verBox n1 n2)) w3 := by rw [hset]; exact Below.refl _ _
    clear hset
    clear yB3_0 yB3_1 yB7_0 yB7_1 yB4_0 yB4_1 c1 c2 hbw
    have hbel_w3 : Below w.heap.size w w3 := (below_new hbel_w2 _).trans (hx.mono (by have := hbel_w2.size; first | omega | (simp; omega)))
    have hz_w3 : w2.heap.size + 1 ≤ w3.heap.size := by have hz := hx.size; first | omega | (simp only [sz1] at hz; omega)
    have B3' := Lib.hid (box_below (heap_keep B3.out _) hx)
    have B4' := Lib.hid (box_below (heap_keep B4.out _) hx)
    have LC' := Lib.hid ((LC.out.below ((Below.refl _ _).alloc (Nat.le_refl _) _)).below hx)
    have B7' := Lib.hid (box_below (heap_keep B7.out _) hx)
    have B9 := Lib.hid (show w3.heap[w2.heap.size]? = some (verBox n1 n2) from box_below (heap_last (o := verBox n1 n2) rfl) hx)
    clear hx B3 B4 LC B7 hbel_w2
    have B3 := B3'
    have B4 := B4'
    have LC := LC'
    have B7 := B7'
    clear B3' B4' LC' B7'
    clear hl_B3 hl_B4 hl_B7
    have hl_B3 := (Array.getElem?_eq_some_iff.1 B3.out).1
    have hl_B4 := (Array.getElem?_eq_some_iff.1 B4.out).1
    have hl_B7 := (Array.getElem?_eq_some_iff.1 B7.out).1
    have hl_B9 := (Array.getElem?_eq_some_iff.1 B9.out).1
    obtain ⟨yB7_0, yB7_1⟩ := pastBox_cells B7.out
    obtain ⟨yB9_0, yB9_1⟩ := verBox_cells B9.out
    refine region_each 14 [some 32, some 33, some 34, some 35, some 36, some 37, some 38, some 39, some 40, some 41, some 42, some 43, some 44, some 45] [[], [0], [1], [2], [3, 2], [2], [4, 5, 2], [2, 6], [7], [8], [9, 8], [8], [10, 11, 8], [8, 12]]
      [kIs (.bool true), kIs (.bool false), kIs (.bool false), kIs (.agg #[(.slice (some ⟨gl, 0, none⟩) l.length cl), .int .i64 (k : Int)]), kIs (.bool true), kIs (.bool true), kIs (.bool false), kIs (.bool false), kIs (.bool false), kIs (.agg #[(.slice (some ⟨gl, 0, none⟩) l.length cl), .int .i64 (k : Int)]), kIs (.agg #[.int .i64 n1, .int .i64 n2]), kIs (.agg #[.int .i64 n1, .int .i64 n2]), kIs (.bool false), kIs (.bool false)]
      (by kernel_rfl) (by kernel_rfl) (by kernel_rfl) (by kernel_rfl) ?_ ?_
    · simp only [obligsD]
      refine ⟨?_, ?_, ?_, ?_, ?_, ?_, ?_, ?_, ?_, ?_, ?_, ?_, ?_, ?_, trivial⟩
      · intro us w1 hb _
        change Oper.wp _ _ _ _ _ _
        go_simp
        refine (awake17_any _).mono ?_
        rintro e w9 ⟨rfl, hb2⟩
        exact ⟨_, rfl, hb2, rfl⟩
      · intro us w1 _ hd
        simp only [List.mem_cons, List.not_mem_nil, or_false, forall_eq, List.getD_cons_zero, kIs] at hd
        simp only [putD, List.getD_cons_zero, Act.put, hd]
        go_simp
        exact ⟨_, rfl, Below.refl _ _, rfl⟩
      · intro us w1 _ hd
        simp only [List.mem_cons, List.not_mem_nil, or_false, forall_eq, List.getD_cons_zero, List.getD_cons_succ, kIs] at hd
        simp only [putD, List.getD_cons_zero, List.getD_cons_succ, Act.put, hd]
        go_simp
        exact ⟨_, rfl, Below.refl _ _, rfl⟩
      · intro us w1 hb hd
        simp only [List.mem_cons, List.not_mem_nil, or_false, forall_eq, List.getD_cons_zero, List.getD_cons_succ, kIs] at hd
        refine ⟨fun _ => ?_, fun h => (h (by simp [hd])).elim⟩
        simp only [putD, List.getD_cons_zero, List.getD_cons_succ, Act.put, hd]
        have d0 := (hb.cell (World.block_lt_of_cell? _ _ yB7_0)).trans yB7_0
        have d1 := (hb.cell (World.block_lt_of_cell? _ _ yB7_1)).trans yB7_1
        go_simp
        exact ⟨_, rfl, Below.refl _ _, rfl⟩
      · intro us w1 hb hd
        simp only [List.mem_cons, List.not_mem_nil, or_false, forall_eq_or_imp, forall_eq, List.getD_cons_zero, List.getD_cons_succ, kIs] at hd
        refine ⟨fun _ => ?_, fun h => (h (by simp [hd])).elim⟩
        simp only [putD, List.getD_cons_zero, List.getD_cons_succ, Act.put, hd]
        go_simp
        refine (pastMay_any _ l (k : Int) _ (LC.out.below hb).vers).mono ?_
        rintro e w9 ⟨rfl, hb2⟩
        rw [HM.out]
        exact ⟨_, rfl, hb2, rfl⟩
      · intro us w1 _ hd
        simp only [List.mem_cons, List.not_mem_nil, or_false, forall_eq, List.getD_cons_zero, List.getD_cons_succ, kIs] at hd
        refine ⟨fun _ => ?_, fun h => (h (by simp [hd])).elim⟩
        simp only [putD, List.getD_cons_zero, List.getD_cons_succ, Act.put, hd]
        go_simp
        exact ⟨_, rfl, Below.refl _ _, rfl⟩
      · intro us w1 _ hd
        simp only [List.mem_cons, List.not_mem_nil, or_false, forall_eq_or_imp, forall_eq, List.getD_cons_zero, List.getD_cons_succ, kIs] at hd
        refine ⟨fun _ => ?_, fun h => (h (by simp [hd])).elim⟩
        simp only [putD, List.getD_cons_zero, List.getD_cons_succ, Act.put, hd]
        go_simp
        exact ⟨_, rfl, Below.refl _ _, rfl⟩
      · intro us w1 _ hd
        simp only [List.mem_cons, List.not_mem_nil, or_false, forall_eq_or_imp, forall_eq, List.getD_cons_zero, List.getD_cons_succ, kIs] at hd
        simp only [putD, List.getD_cons_zero, List.getD_cons_succ, Act.put, hd]
        go_simp
        exact ⟨_, rfl, Below.refl _ _, rfl⟩
      · intro us w1 _ hd
        simp only [List.mem_cons, List.not_mem_nil, or_false, forall_eq, List.getD_cons_zero, List.getD_cons_succ, kIs] at hd
        simp only [putD, List.getD_cons_zero, List.getD_cons_succ, Act.put, hd]
        go_simp
        exact ⟨_, rfl, Below.refl _ _, rfl⟩
      · intro us w1 hb hd
        simp only [List.mem_cons, List.not_mem_nil, or_false, forall_eq, List.getD_cons_zero, List.getD_cons_succ, kIs] at hd
        refine ⟨fun _ => ?_, fun h => (h (by simp [hd])).elim⟩
        simp only [putD, List.getD_cons_zero, List.getD_cons_succ, Act.put, hd]
        have d0 := (hb.cell (World.block_lt_of_cell? _ _ yB7_0)).trans yB7_0
        have d1 := (hb.cell (World.block_lt_of_cell? _ _ yB7_1)).trans yB7_1
        go_simp
        exact ⟨_, rfl, Below.refl _ _, rfl⟩
      · intro us w1 hb hd
        simp only [List.mem_cons, List.not_mem_nil, or_false, forall_eq_or_imp, forall_eq, List.getD_cons_zero, List.getD_cons_succ, kIs] at hd
        refine ⟨fun _ => ?_, fun h => (h (by simp [hd])).elim⟩
        simp only [putD, List.getD_cons_zero, List.getD_cons_succ, Act.put, hd]
        go_simp
        refine (pastNow_any _ l (k : Int) _ (LC.out.below hb).vers).mono ?_
        rintro e w9 ⟨rfl, hb2⟩
        rw [HN.out]
        exact ⟨_, rfl, hb2, rfl⟩
      · intro us w1 hb hd
        simp only [List.mem_cons, List.not_mem_nil, or_false, forall_eq, List.getD_cons_zero, List.getD_cons_succ, kIs] at hd
        refine ⟨fun _ => ?_, fun h => (h (by simp [hd])).elim⟩
        simp only [putD, List.getD_cons_zero, List.getD_cons_succ, Act.put, hd]
        have d0 := (hb.cell (World.block_lt_of_cell? _ _ yB9_0)).trans yB9_0
        have d1 := (hb.cell (World.block_lt_of_cell? _ _ yB9_1)).trans yB9_1
        go_simp
        exact ⟨_, rfl, Below.refl _ _, rfl⟩
      · intro us w1 _ hd
        simp only [List.mem_cons, List.not_mem_nil, or_false, forall_eq_or_imp, forall_eq, List.getD_cons_zero, List.getD_cons_succ, kIs] at hd
        refine ⟨fun _ => ?_, fun h => (h (by simp [hd])).elim⟩
        simp only [putD, List.getD_cons_zero, List.getD_cons_succ, Act.put, hd]
        go_simp
        exact ⟨_, rfl, Below.refl _ _, rfl⟩
      · intro us w1 _ hd
        simp only [List.mem_cons, List.not_mem_nil, or_false, forall_eq_or_imp, forall_eq, List.getD_cons_zero, List.getD_cons_succ, kIs] at hd
        simp only [putD, List.getD_cons_zero, List.getD_cons_succ, Act.put, hd]
        go_simp
        exact ⟨_, rfl, Below.refl _ _, rfl⟩
    intro us w4 hx hp
    have h13 := hp 13 (by simp)
    simp only [List.getD_cons_zero, List.getD_cons_succ, kIs] at h13
    rw [show List.range 14 = [0, 1, 2, 3, 4, 5, 6, 7, 8, 9, 10, 11, 12, 13] from rfl]
    simp only [putD, List.getD_cons_zero, List.getD_cons_succ, Act.put, List.setIfInBounds_toArray, List.set_cons_zero, List.set_cons_succ, h13]
    clear hp h13
    clear yB7_0 yB7_1 yB9_0 yB9_1
    have hbel_w4 : Below w.heap.size w w4 := hbel_w3.trans (hx.mono (by have := hbel_w3.size; first | omega | (simp; omega)))
    have hz_w4 : w3.heap.size + 0 ≤ w4.heap.size := by have hz := hx.size; first | omega | (simp only [sz1] at hz; omega)
    have B3' := Lib.hid (box_below B3.out hx)
    have B4' := Lib.hid (box_below B4.out hx)
    have LC' := Lib.hid (LC.out.below hx)
    have B7' := Lib.hid (box_below B7.out hx)
    clear hx B3 B4 LC B7 B9 hbel_w3
    have B3 := B3'
    have B4 := B4'
    have LC := LC'
    have B7 := B7'
    clear B3' B4' LC' B7'
    clear hl_B3 hl_B4 hl_B7 hl_B9
    have hl_B3 := (Array.getElem?_eq_some_iff.1 B3.out).1
    have hl_B4 := (Array.getElem?_eq_some_iff.1 B4.out).1
    have hl_B7 := (Array.getElem?_eq_some_iff.1 B7.out).1
    obtain ⟨yB7_0, yB7_1⟩ := pastBox_cells B7.out
    obtain ⟨yB4_0, yB4_1⟩ := verBox_cells B4.out
    go_wp2_with fail
    refine (pastCommit_any _ l (k : Int) x1 x2 most _ LC.out.vers hl).mono ?_
    rintro e w5 ⟨va, rfl, hna, hx⟩
    clear yB7_0 yB7_1 yB4_0 yB4_1
    have hbel_w5 : Below w.heap.size w w5 := hbel_w4.trans (hx.mono (by have := hbel_w4.size; first | omega | (simp; omega)))
    have hz_w5 : w4.heap.size + 0 ≤ w5.heap.size := by have hz := hx.size; first | omega | (simp only [sz1] at hz; omega)
    have B3' := Lib.hid (box_below B3.out hx)
    have B4' := Lib.hid (box_below B4.out hx)
    have LC' := Lib.hid (LC.out.below hx)
    have B7' := Lib.hid (box_below B7.out hx)
    clear hx B3 B4 LC B7 hbel_w4
    have B3 := B3'
    have B4 := B4'
    have LC := LC'
    have B7 := B7'
    clear B3' B4' LC' B7'
    clear hl_B3 hl_B4 hl_B7
    have hl_B3 := (Array.getElem?_eq_some_iff.1 B3.out).1
    have hl_B4 := (Array.getElem?_eq_some_iff.1 B4.out).1
    have hl_B7 := (Array.getElem?_eq_some_iff.1 B7.out).1
    rw [HLA.out] at hna
    rw [HKA.out, HUA.out]
    obtain ⟨ga, ca, hf⟩ := hna.form
    subst hf
    have Na := Lib.hid hna
    have hma : LA.length ≤ 9223372036854775807 := by obtain ⟨_, _, _, q1, q2, _⟩ := Vers.open hna.vers; unfold maxLen at q2; omega
    obtain ⟨ra, hra, hsa⟩ := hna.spot
    have RA := Lib.hid hra
    have SA := Lib.hid hsa
    clear hna hra hsa
    obtain ⟨yB3_0, yB3_1⟩ := pastBox_cells B3.out
    obtain ⟨yB4_0, yB4_1⟩ := verBox_cells B4.out
    go_wp2_with fail
    refine (refCommit17_any _ l (k : Int) x1 x2 most _ (Vers.alloc (Vers.below P0.out hbel_w5) _)).mono ?_
    rintro e w6 ⟨vx, rfl, hnx, hx⟩
    clear yB3_0 yB3_1 yB4_0 yB4_1
    have hbel_w6 : Below w.heap.size w w6 := (below_new hbel_w5 _).trans (hx.mono (by have := hbel_w5.size; first | omega | (simp; omega)))
    have hz_w6 : w5.heap.size + 1 ≤ w6.heap.size := by have hz := hx.size; first | omega | (simp only [sz1] at hz; omega)
    have B3' := Lib.hid (box_below (heap_keep B3.out _) hx)
    have B4' := Lib.hid (box_below (heap_keep B4.out _) hx)
    have LC' := Lib.hid ((LC.out.below ((Below.refl _ _).alloc (Nat.le_refl _) _)).below hx)
    have B7' := Lib.hid (box_below (heap_keep B7.out _) hx)
    have Na' := Lib.hid ((Na.out.below ((Below.refl _ _).alloc (Nat.le_refl _) _)).below hx)
    have SA' := Lib.hid ((SA.out.below ((Below.refl _ _).alloc (Nat.le_refl _) _)).below hx)
    have B10 := Lib.hid (show w6.heap[w5.heap.size]? = some (pastBox (.slice ga LA.length ca) UA) from box_below (heap_last (o := pastBox (.slice ga LA.length ca) UA) rfl) hx)
    clear hx B3 B4 LC B7 Na SA hbel_w5
    have B3 := B3'
    have B4 := B4'
    have LC := LC'
    have B7 := B7'
    have Na := Na'
    have SA := SA'
    clear B3' B4' LC' B7' Na' SA'
    clear hl_B3 hl_B4 hl_B7
    have hl_B3 := (Array.getElem?_eq_some_iff.1 B3.out).1
    have hl_B4 := (Array.getElem?_eq_some_iff.1 B4.out).1
    have hl_B7 := (Array.getElem?_eq_some_iff.1 B7.out).1
    have hl_B10 := (Array.getElem?_eq_some_iff.1 B10.out).1
    rw [HLA.out] at hnx
    rw [HKA.out, HUA.out]
    obtain ⟨gx, cx, hf⟩ := hnx.form
    subst hf
    have Nx := Lib.hid hnx
    have hmx : LA.length ≤ 9223372036854775807 := by obtain ⟨_, _, _, q1, q2, _⟩ := Vers.open hnx.vers; unfold maxLen at q2; omega
    clear hnx
    obtain ⟨yB10_0, yB10_1⟩ := pastBox_cells B10.out
    go_wp2_with fail
    refine (sameP_yes _ _ LA UA _ (Na.out.below ((Below.refl _ _).alloc (Nat.le_refl _) _)).vers (Nx.out.below ((Below.refl _ _).alloc (Nat.le_refl _) _)).vers).mono ?_
    rintro e w7 ⟨rfl, hx⟩
    clear yB10_0 yB10_1
    have hbel_w7 : Below w.heap.size w w7 := (below_new hbel_w6 _).trans (hx.mono (by have := hbel_w6.size; first | omega | (simp; omega)))
    have hz_w7 : w6.heap.size + 1 ≤ w7.heap.size := by have hz := hx.size; first | omega | (simp only [sz1] at hz; omega)
    have B3' := Lib.hid (box_below (heap_keep B3.out _) hx)
    have B4' := Lib.hid (box_below (heap_keep B4.out _) hx)
    have LC' := Lib.hid ((LC.out.below ((Below.refl _ _).alloc (Nat.le_refl _) _)).below hx)
    have B7' := Lib.hid (box_below (heap_keep B7.out _) hx)
    have SA' := Lib.hid ((SA.out.below ((Below.refl _ _).alloc (Nat.le_refl _) _)).below hx)
    have B10' := Lib.hid (box_below (heap_keep B10.out _) hx)
    have B12 := Lib.hid (show w7.heap[w6.heap.size]? = some (pastBox (.slice gx LA.length cx) UA) from box_below (heap_last (o := pastBox (.slice gx LA.length cx) UA) rfl) hx)
    clear hx B3 B4 LC B7 Na SA B10 Nx hbel_w6
    have B3 := B3'
    have B4 := B4'
    have LC := LC'
    have B7 := B7'
    have SA := SA'
    have B10 := B10'
    clear B3' B4' LC' B7' SA' B10'
    clear hl_B3 hl_B4 hl_B7 hl_B10
    have hl_B3 := (Array.getElem?_eq_some_iff.1 B3.out).1
    have hl_B4 := (Array.getElem?_eq_some_iff.1 B4.out).1
    have hl_B7 := (Array.getElem?_eq_some_iff.1 B7.out).1
    have hl_B10 := (Array.getElem?_eq_some_iff.1 B10.out).1
    have hl_B12 := (Array.getElem?_eq_some_iff.1 B12.out).1
    obtain ⟨yB7_0, yB7_1⟩ := pastBox_cells B7.out
    go_wp2_with fail
    refine (pastUndo_any _ l (k : Int) _ LC.out.vers hl hcm).mono ?_
    rintro e w8 ⟨vb, rfl, hnb, hx⟩
    clear yB7_0 yB7_1
    have hbel_w8 : Below w.heap.size w w8 := hbel_w7.trans (hx.mono (by have := hbel_w7.size; first | omega | (simp; omega)))
    have hz_w8 : w7.heap.size + 0 ≤ w8.heap.size := by have hz := hx.size; first | omega | (simp only [sz1] at hz; omega)
    have B3' := Lib.hid (box_below B3.out hx)
    have B4' := Lib.hid (box_below B4.out hx)
    have LC' := Lib.hid (LC.out.below hx)
    have B7' := Lib.hid (box_below B7.out hx)
    have SA' := Lib.hid (SA.out.below hx)
    have B10' := Lib.hid (box_below B10.out hx)
    have B12' := Lib.hid (box_below B12.out hx)
    clear hx B3 B4 LC B7 SA B10 B12 hbel_w7
    have B3 := B3'
    have B4 := B4'
    have LC := LC'
    have B7 := B7'
    have SA := SA'
    have B10 := B10'
    have B12 := B12'
    clear B3' B4' LC' B7' SA' B10' B12'
    clear hl_B3 hl_B4 hl_B7 hl_B10 hl_B12
    have hl_B3 := (Array.getElem?_eq_some_iff.1 B3.out).1
    have hl_B4 := (Array.getElem?_eq_some_iff.1 B4.out).1
    have hl_B7 := (Array.getElem?_eq_some_iff.1 B7.out).1
    have hl_B10 := (Array.getElem?_eq_some_iff.1 B10.out).1
    have hl_B12 := (Array.getElem?_eq_some_iff.1 B12.out).1
    rw [HLB.out] at hnb
    rw [HKB.out, HUB.out]
    obtain ⟨gb, cb, hf⟩ := hnb.form
    subst hf
    have Nb := Lib.hid hnb
    have hmb : LB.length ≤ 9223372036854775807 := by obtain ⟨_, _, _, q1, q2, _⟩ := Vers.open hnb.vers; unfold maxLen at q2; omega
    obtain ⟨rb, hrb, hsb⟩ := hnb.spot
    have RB := Lib.hid hrb
    have SB := Lib.hid hsb
    clear hnb hrb hsb
    obtain ⟨yB3_0, yB3_1⟩ := pastBox_cells B3.out
    go_wp2_with fail
    refine (refTurn17_any _ l (k : Int) (-1) _ (Vers.alloc (Vers.below P0.out hbel_w8) _) (by decide) (by decide)).mono ?_
    rintro e w9 ⟨vy, rfl, hoy, hx⟩
    clear yB3_0 yB3_1
    have hbel_w9 : Below w.heap.size w w9 := (below_new hbel_w8 _).trans (hx.mono (by have := hbel_w8.size; first | omega | (simp; omega)))
    have hz_w9 : w8.heap.size + 1 ≤ w9.heap.size := by have hz := hx.size; first | omega | (simp only [sz1] at hz; omega)
    have B3' := Lib.hid (box_below (heap_keep B3.out _) hx)
    have B4' := Lib.hid (box_below (heap_keep B4.out _) hx)
    have LC' := Lib.hid ((LC.out.below ((Below.refl _ _).alloc (Nat.le_refl _) _)).below hx)
    have B7' := Lib.hid (box_below (heap_keep B7.out _) hx)
    have SA' := Lib.hid ((SA.out.below ((Below.refl _ _).alloc (Nat.le_refl _) _)).below hx)
    have B10' := Lib.hid (box_below (heap_keep B10.out _) hx)
    have B12' := Lib.hid (box_below (heap_keep B12.out _) hx)
    have Nb' := Lib.hid ((Nb.out.below ((Below.refl _ _).alloc (Nat.le_refl _) _)).below hx)
    have SB' := Lib.hid ((SB.out.below ((Below.refl _ _).alloc (Nat.le_refl _) _)).below hx)
    have B14 := Lib.hid (show w9.heap[w8.heap.size]? = some (pastBox (.slice gb LB.length cb) UB) from box_below (heap_last (o := pastBox (.slice gb LB.length cb) UB) rfl) hx)
    clear hx B3 B4 LC B7 SA B10 B12 Nb SB hbel_w8
    have B3 := B3'
    have B4 := B4'
    have LC := LC'
    have B7 := B7'
    have SA := SA'
    have B10 := B10'
    have B12 := B12'
    have Nb := Nb'
    have SB := SB'
    clear B3' B4' LC' B7' SA' B10' B12' Nb' SB'
    clear hl_B3 hl_B4 hl_B7 hl_B10 hl_B12
    have hl_B3 := (Array.getElem?_eq_some_iff.1 B3.out).1
    have hl_B4 := (Array.getElem?_eq_some_iff.1 B4.out).1
    have hl_B7 := (Array.getElem?_eq_some_iff.1 B7.out).1
    have hl_B10 := (Array.getElem?_eq_some_iff.1 B10.out).1
    have hl_B12 := (Array.getElem?_eq_some_iff.1 B12.out).1
    have hl_B14 := (Array.getElem?_eq_some_iff.1 B14.out).1
    rw [HLB.out] at hoy
    rw [HKB.out, HUB.out]
    have Zy := Lib.hid (vers_turn hoy P0.out)
    obtain ⟨gy, cy, hf, -⟩ := Vers.open Zy.out
    subst hf
    clear hoy
    obtain ⟨yB14_0, yB14_1⟩ := pastBox_cells B14.out
    go_wp2_with fail
    refine (sameP_yes _ _ LB UB _ (Nb.out.below ((Below.refl _ _).alloc (Nat.le_refl _) _)).vers (Vers.alloc (Vers.below Zy.out hbel_w9) _)).mono ?_
    rintro e w10 ⟨rfl, hx⟩
    clear yB14_0 yB14_1
    have hbel_w10 : Below w.heap.size w w10 := (below_new hbel_w9 _).trans (hx.mono (by have := hbel_w9.size; first | omega | (simp; omega)))
    have hz_w10 : w9.heap.size + 1 ≤ w10.heap.size := by have hz := hx.size; first | omega | (simp only [sz1] at hz; omega)
    have B3' := Lib.hid (box_below (heap_keep B3.out _) hx)
    have B4' := Lib.hid (box_below (heap_keep B4.out _) hx)
    have LC' := Lib.hid ((LC.out.below ((Below.refl _ _).alloc (Nat.le_refl _) _)).below hx)
    have B7' := Lib.hid (box_below (heap_keep B7.out _) hx)
    have SA' := Lib.hid ((SA.out.below ((Below.refl _ _).alloc (Nat.le_refl _) _)).below hx)
    have B10' := Lib.hid (box_below (heap_keep B10.out _) hx)
    have B12' := Lib.hid (box_below (heap_keep B12.out _) hx)
    have SB' := Lib.hid ((SB.out.below ((Below.refl _ _).alloc (Nat.le_refl _) _)).below hx)
    have B14' := Lib.hid (box_below (heap_keep B14.out _) hx)
    have B15 := Lib.hid (show w10.heap[w9.heap.size]? = some (pastBox (.slice gy LB.length cy) UB) from box_below (heap_last (o := pastBox (.slice gy LB.length cy) UB) rfl) hx)
    clear hx B3 B4 LC B7 SA B10 B12 Nb SB B14 hbel_w9
    have B3 := B3'
    have B4 := B4'
    have LC := LC'
    have B7 := B7'
    have SA := SA'
    have B10 := B10'
    have B12 := B12'
    have SB := SB'
    have B14 := B14'
    clear B3' B4' LC' B7' SA' B10' B12' SB' B14'
    clear hl_B3 hl_B4 hl_B7 hl_B10 hl_B12 hl_B14
    have hl_B3 := (Array.getElem?_eq_some_iff.1 B3.out).1
    have hl_B4 := (Array.getElem?_eq_some_iff.1 B4.out).1
    have hl_B7 := (Array.getElem?_eq_some_iff.1 B7.out).1
    have hl_B10 := (Array.getElem?_eq_some_iff.1 B10.out).1
    have hl_B12 := (Array.getElem?_eq_some_iff.1 B12.out).1
    have hl_B14 := (Array.getElem?_eq_some_iff.1 B14.out).1
    have hl_B15 := (Array.getElem?_eq_some_iff.1 B15.out).1
    obtain ⟨yB7_0, yB7_1⟩ := pastBox_cells B7.out
    go_wp2_with fail
    refine (pastRedo_any _ l (k : Int) _ LC.out.vers hl).mono ?_
    rintro e w11 ⟨vd, rfl, hnd, hx⟩
    clear yB7_0 yB7_1
    have hbel_w11 : Below w.heap.size w w11 := hbel_w10.trans (hx.mono (by have := hbel_w10.size; first | omega | (simp; omega)))
    have hz_w11 : w10.heap.size + 0 ≤ w11.heap.size := by have hz := hx.size; first | omega | (simp only [sz1] at hz; omega)
    have B3' := Lib.hid (box_below B3.out hx)
    have B4' := Lib.hid (box_below B4.out hx)
    have LC' := Lib.hid (LC.out.below hx)
    have B7' := Lib.hid (box_below B7.out hx)
    have SA' := Lib.hid (SA.out.below hx)
    have B10' := Lib.hid (box_below B10.out hx)
    have B12' := Lib.hid (box_below B12.out hx)
    have SB' := Lib.hid (SB.out.below hx)
    have B14' := Lib.hid (box_below B14.out hx)
    have B15' := Lib.hid (box_below B15.out hx)
    clear hx B3 B4 LC B7 SA B10 B12 SB B14 B15 hbel_w10
    have B3 := B3'
    have B4 := B4'
    have LC := LC'
    have B7 := B7'
    have SA := SA'
    have B10 := B10'
    have B12 := B12'
    have SB := SB'
    have B14 := B14'
    have B15 := B15'
    clear B3' B4' LC' B7' SA' B10' B12' SB' B14' B15'
    clear hl_B3 hl_B4 hl_B7 hl_B10 hl_B12 hl_B14 hl_B15
    have hl_B3 := (Array.getElem?_eq_some_iff.1 B3.out).1
    have hl_B4 := (Array.getElem?_eq_some_iff.1 B4.out).1
    have hl_B7 := (Array.getElem?_eq_some_iff.1 B7.out).1
    have hl_B10 := (Array.getElem?_eq_some_iff.1 B10.out).1
    have hl_B12 := (Array.getElem?_eq_some_iff.1 B12.out).1
    have hl_B14 := (Array.getElem?_eq_some_iff.1 B14.out).1
    have hl_B15 := (Array.getElem?_eq_some_iff.1 B15.out).1
    rw [HLD.out] at hnd
    rw [HKD.out, HUD.out]
    obtain ⟨gd, cd, hf⟩ := hnd.form
    subst hf
    have Nd := Lib.hid hnd
    have hmd : LD.length ≤ 9223372036854775807 := by obtain ⟨_, _, _, q1, q2, _⟩ := Vers.open hnd.vers; unfold maxLen at q2; omega
    clear hnd
    obtain ⟨yB3_0, yB3_1⟩ := pastBox_cells B3.out
    go_wp2_with fail
    refine (refTurn17_any _ l (k : Int) (1) _ (Vers.alloc (Vers.below P0.out hbel_w11) _) (by decide) (by decide)).mono ?_
    rintro e w12 ⟨vz, rfl, hoz, hx⟩
    clear yB3_0 yB3_1
    have hbel_w12 : Below w.heap.size w w12 := (below_new hbel_w11 _).trans (hx.mono (by have := hbel_w11.size; first | omega | (simp; omega)))
    have hz_w12 : w11.heap.size + 1 ≤ w12.heap.size := by have hz := hx.size; first | omega | (simp only [sz1] at hz; omega)
    have B3' := Lib.hid (box_below (heap_keep B3.out _) hx)
    have B4' := Lib.hid (box_below (heap_keep B4.out _) hx)
    have LC' := Lib.hid ((LC.out.below ((Below.refl _ _).alloc (Nat.le_refl _) _)).below hx)
    have B7' := Lib.hid (box_below (heap_keep B7.out _) hx)
    have SA' := Lib.hid ((SA.out.below ((Below.refl _ _).alloc (Nat.le_refl _) _)).below hx)
    have B10' := Lib.hid (box_below (heap_keep B10.out _) hx)
    have B12' := Lib.hid (box_below (heap_keep B12.out _) hx)
    have SB' := Lib.hid ((SB.out.below ((Below.refl _ _).alloc (Nat.le_refl _) _)).below hx)
    have B14' := Lib.hid (box_below (heap_keep B14.out _) hx)
    have B15' := Lib.hid (box_below (heap_keep B15.out _) hx)
    have Nd' := Lib.hid ((Nd.out.below ((Below.refl _ _).alloc (Nat.le_refl _) _)).below hx)
    have B16 := Lib.hid (show w12.heap[w11.heap.size]? = some (pastBox (.slice gd LD.length cd) UD) from box_below (heap_last (o := pastBox (.slice gd LD.length cd) UD) rfl) hx)
    clear hx B3 B4 LC B7 SA B10 B12 SB B14 B15 Nd hbel_w11
    have B3 := B3'
    have B4 := B4'
    have LC := LC'
    have B7 := B7'
    have SA := SA'
    have B10 := B10'
    have B12 := B12'
    have SB := SB'
    have B14 := B14'
    have B15 := B15'
    have Nd := Nd'
    clear B3' B4' LC' B7' SA' B10' B12' SB' B14' B15' Nd'
    clear hl_B3 hl_B4 hl_B7 hl_B10 hl_B12 hl_B14 hl_B15
    have hl_B3 := (Array.getElem?_eq_some_iff.1 B3.out).1
    have hl_B4 := (Array.getElem?_eq_some_iff.1 B4.out).1
    have hl_B7 := (Array.getElem?_eq_some_iff.1 B7.out).1
    have hl_B10 := (Array.getElem?_eq_some_iff.1 B10.out).1
    have hl_B12 := (Array.getElem?_eq_some_iff.1 B12.out).1
    have hl_B14 := (Array.getElem?_eq_some_iff.1 B14.out).1
    have hl_B15 := (Array.getElem?_eq_some_iff.1 B15.out).1
    have hl_B16 := (Array.getElem?_eq_some_iff.1 B16.out).1
    rw [HLD.out] at hoz
    rw [HKD.out, HUD.out]
    have Zz := Lib.hid (vers_turn hoz P0.out)
    obtain ⟨gz, cz, hf, -⟩ := Vers.open Zz.out
    subst hf
    clear hoz
    obtain ⟨yB16_0, yB16_1⟩ := pastBox_cells B16.out
    go_wp2_with fail
    refine (sameP_yes _ _ LD UD _ (Nd.out.below ((Below.refl _ _).alloc (Nat.le_refl _) _)).vers (Vers.alloc (Vers.below Zz.out hbel_w12) _)).mono ?_
    rintro e w13 ⟨rfl, hx⟩
    clear yB16_0 yB16_1
    have hbel_w13 : Below w.heap.size w w13 := (below_new hbel_w12 _).trans (hx.mono (by have := hbel_w12.size; first | omega | (simp; omega)))
    have hz_w13 : w12.heap.size + 1 ≤ w13.heap.size := by have hz := hx.size; first | omega | (simp only [sz1] at hz; omega)
    have B3' := Lib.hid (box_below (heap_keep B3.out _) hx)
    have B4' := Lib.hid (box_below (heap_keep B4.out _) hx)
    have LC' := Lib.hid ((LC.out.below ((Below.refl _ _).alloc (Nat.le_refl _) _)).below hx)
    have B7' := Lib.hid (box_below (heap_keep B7.out _) hx)
    have SA' := Lib.hid ((SA.out.below ((Below.refl _ _).alloc (Nat.le_refl _) _)).below hx)
    have B10' := Lib.hid (box_below (heap_keep B10.out _) hx)
    have B12' := Lib.hid (box_below (heap_keep B12.out _) hx)
    have SB' := Lib.hid ((SB.out.below ((Below.refl _ _).alloc (Nat.le_refl _) _)).below hx)
    have B14' := Lib.hid (box_below (heap_keep B14.out _) hx)
    have B15' := Lib.hid (box_below (heap_keep B15.out _) hx)
    have Nd' := Lib.hid ((Nd.out.below ((Below.refl _ _).alloc (Nat.le_refl _) _)).below hx)
    have B16' := Lib.hid (box_below (heap_keep B16.out _) hx)
    have B17 := Lib.hid (show w13.heap[w12.heap.size]? = some (pastBox (.slice gz LD.length cz) UD) from box_below (heap_last (o := pastBox (.slice gz LD.length cz) UD) rfl) hx)
    clear hx B3 B4 LC B7 SA B10 B12 SB B14 B15 Nd B16 hbel_w12
    have B3 := B3'
    have B4 := B4'
    have LC := LC'
    have B7 := B7'
    have SA := SA'
    have B10 := B10'
    have B12 := B12'
    have SB := SB'
    have B14 := B14'
    have B15 := B15'
    have Nd := Nd'
    have B16 := B16'
    clear B3' B4' LC' B7' SA' B10' B12' SB' B14' B15' Nd' B16'
    clear hl_B3 hl_B4 hl_B7 hl_B10 hl_B12 hl_B14 hl_B15 hl_B16
    have hl_B3 := (Array.getElem?_eq_some_iff.1 B3.out).1
    have hl_B4 := (Array.getElem?_eq_some_iff.1 B4.out).1
    have hl_B7 := (Array.getElem?_eq_some_iff.1 B7.out).1
    have hl_B10 := (Array.getElem?_eq_some_iff.1 B10.out).1
    have hl_B12 := (Array.getElem?_eq_some_iff.1 B12.out).1
    have hl_B14 := (Array.getElem?_eq_some_iff.1 B14.out).1
    have hl_B15 := (Array.getElem?_eq_some_iff.1 B15.out).1
    have hl_B16 := (Array.getElem?_eq_some_iff.1 B16.out).1
    have hl_B17 := (Array.getElem?_eq_some_iff.1 B17.out).1
    obtain ⟨yB10_0, yB10_1⟩ := pastBox_cells B10.out
    go_wp2_with fail
    go_loopw [18] (fun i wr => ∃ j : Nat, j ≤ LA.length ∧ i = .int .i64 j ∧ w13.grownBy wr ra ∧ SpotV wr (.slice ga LA.length ca) LA ra) (fun i _ => LA.length - (intOf i).toNat)
    case atStart => exact ⟨0, Nat.zero_le _, rfl, World.grownBy.refl _ _, SA.out⟩
    case round =>
      obtain ⟨j, hj, rfl, hgr, hsp⟩ := hrel
      clear yB10_0 yB10_1
      have hbg := box_grown B10.out hgr (by intro e; have := RA.out _ e; omega)
      by_cases hlt : j < LA.length
      · obtain ⟨g, o', cap', cs, hv, hr, hcs, hsz⟩ := hsp (by intro e; rw [e] at hlt; simp at hlt)
        simp only [Value.slice.injEq, true_and] at hv
        obtain ⟨rfl, rfl⟩ := hv
        have hcc : wr.cell? ⟨g, o' + j * 2, none⟩ = some (cs[o' + j * 2]'(by omega)) := by rw [World.cell_block hcs]; exact Array.getElem?_eq_getElem _
        have hff : wr.frozen? ⟨g, o' + j * 2, none⟩ = false := by simp [World.frozen?, hcs]
        have hgs := (Array.getElem?_eq_some_iff.1 hcs).1
        have hlb := (Array.getElem?_eq_some_iff.1 hbg).1
        obtain ⟨y0, y1⟩ := pastBox_cells hbg
        have HR := Lib.hid hr
        have HCS := Lib.hid hcs
        obtain ⟨u, hu⟩ : ∃ u, cs[o' + j * 2]'(by omega) = u := ⟨_, rfl⟩
        rw [hu] at hcc
        clear hr hcs hsp hu
        go_wp2_with fail
        go_roundw
        case rel =>
          refine ⟨j + 1, by omega, by go_num, ?_, ?_⟩
          · have k := grown_setCell wr ⟨g, o' + j * 2, none⟩ (.int .i64 (-1))
            rw [HR.out] at hgr ⊢
            exact hgr.trans k
          · intro _
            refine ⟨g, o', _, _, rfl, HR.out, by have h9 := HCS.out; simp [World.setCell, Array.getElem?_modify, h9]; rfl, by simpa using hsz⟩
        case measure => simp [intOf]; omega
      · obtain ⟨w14, rfl⟩ : ∃ x : World, x = wr := ⟨_, rfl⟩
        clear hbg hsp
        have hbel_w14 := below_row hbel_w13 hgr (by intro r e; have := RA.out _ e; omega)
        have hz_w14 : w13.heap.size ≤ w14.heap.size := hgr.size
        have B3' := Lib.hid (box_grown B3.out hgr (by intro e; have := RA.out _ e; omega))
        have B4' := Lib.hid (box_grown B4.out hgr (by intro e; have := RA.out _ e; omega))
        have LC' := Lib.hid (LC.out.grown hgr (by intro e; have := RA.out _ e; omega))
        have B7' := Lib.hid (box_grown B7.out hgr (by intro e; have := RA.out _ e; omega))
        have B10' := Lib.hid (box_grown B10.out hgr (by intro e; have := RA.out _ e; omega))
        have B12' := Lib.hid (box_grown B12.out hgr (by intro e; have := RA.out _ e; omega))
        have SB' := Lib.hid (SB.out.grown hgr (by intro r e e2; have := RA.out _ e; have := RB.out _ e2; omega))
        have B14' := Lib.hid (box_grown B14.out hgr (by intro e; have := RA.out _ e; omega))
        have B15' := Lib.hid (box_grown B15.out hgr (by intro e; have := RA.out _ e; omega))
        have Nd' := Lib.hid (Nd.out.grown hgr (by intro r e; have := RA.out _ e; omega))
        have B16' := Lib.hid (box_grown B16.out hgr (by intro e; have := RA.out _ e; omega))
        have B17' := Lib.hid (box_grown B17.out hgr (by intro e; have := RA.out _ e; omega))
        clear B3 B4 LC B7 SA B10 B12 SB B14 B15 Nd B16 B17 hbel_w13
        have B3 := B3'
        have B4 := B4'
        have LC := LC'
        have B7 := B7'
        have B10 := B10'
        have B12 := B12'
        have SB := SB'
        have B14 := B14'
        have B15 := B15'
        have Nd := Nd'
        have B16 := B16'
        have B17 := B17'
        clear B3' B4' LC' B7' B10' B12' SB' B14' B15' Nd' B16' B17'
        clear hl_B3 hl_B4 hl_B7 hl_B10 hl_B12 hl_B14 hl_B15 hl_B16 hl_B17
        have hl_B3 := (Array.getElem?_eq_some_iff.1 B3.out).1
        have hl_B4 := (Array.getElem?_eq_some_iff.1 B4.out).1
        have hl_B7 := (Array.getElem?_eq_some_iff.1 B7.out).1
        have hl_B10 := (Array.getElem?_eq_some_iff.1 B10.out).1
        have hl_B12 := (Array.getElem?_eq_some_iff.1 B12.out).1
        have hl_B14 := (Array.getElem?_eq_some_iff.1 B14.out).1
        have hl_B15 := (Array.getElem?_eq_some_iff.1 B15.out).1
        have hl_B16 := (Array.getElem?_eq_some_iff.1 B16.out).1
        have hl_B17 := (Array.getElem?_eq_some_iff.1 B17.out).1
        obtain ⟨yB14_0, yB14_1⟩ := pastBox_cells B14.out
        obtain ⟨yB10_0, yB10_1⟩ := pastBox_cells B10.out
        go_wp2_with fail
        go_loopw [19] (fun i wr => ∃ j : Nat, j ≤ LB.length ∧ i = .int .i64 j ∧ w14.grownBy wr rb ∧ SpotV wr (.slice gb LB.length cb) LB rb) (fun i _ => LB.length - (intOf i).toNat)
        case atStart => exact ⟨0, Nat.zero_le _, rfl, World.grownBy.refl _ _, SB.out⟩
        case round =>
          obtain ⟨j, hj, rfl, hgr, hsp⟩ := hrel
          clear yB14_0 yB14_1 yB10_0 yB10_1
          have hbg := box_grown B14.out hgr (by intro e; have := RB.out _ e; omega)
          by_cases hlt : j < LB.length
          · obtain ⟨g, o', cap', cs, hv, hr, hcs, hsz⟩ := hsp (by intro e; rw [e] at hlt; simp at hlt)
            simp only [Value.slice.injEq, true_and] at hv
            obtain ⟨rfl, rfl⟩ := hv
            have hcc : wr.cell? ⟨g, o' + j * 2, none⟩ = some (cs[o' + j * 2]'(by omega)) := by rw [World.cell_block hcs]; exact Array.getElem?_eq_getElem _
            have hff : wr.frozen? ⟨g, o' + j * 2, none⟩ = false := by simp [World.frozen?, hcs]
            have hgs := (Array.getElem?_eq_some_iff.1 hcs).1
            have hlb := (Array.getElem?_eq_some_iff.1 hbg).1
            obtain ⟨y0, y1⟩ := pastBox_cells hbg
            have HR := Lib.hid hr
            have HCS := Lib.hid hcs
            obtain ⟨u, hu⟩ : ∃ u, cs[o' + j * 2]'(by omega) = u := ⟨_, rfl⟩
            rw [hu] at hcc
            clear hr hcs hsp hu
            go_wp2_with fail
            go_roundw
            case rel =>
              refine ⟨j + 1, by omega, by go_num, ?_, ?_⟩
              · have k := grown_setCell wr ⟨g, o' + j * 2, none⟩ (.int .i64 (-1))
                rw [HR.out] at hgr ⊢
                exact hgr.trans k
              · intro _
                refine ⟨g, o', _, _, rfl, HR.out, by have h9 := HCS.out; simp [World.setCell, Array.getElem?_modify, h9]; rfl, by simpa using hsz⟩
            case measure => simp [intOf]; omega
          · obtain ⟨w15, rfl⟩ : ∃ x : World, x = wr := ⟨_, rfl⟩
            clear hbg hsp
            have hbel_w15 := below_row hbel_w14 hgr (by intro r e; have := RB.out _ e; omega)
            have hz_w15 : w14.heap.size ≤ w15.heap.size := hgr.size
            have B3' := Lib.hid (box_grown B3.out hgr (by intro e; have := RB.out _ e; omega))
            have B4' := Lib.hid (box_grown B4.out hgr (by intro e; have := RB.out _ e; omega))
            have LC' := Lib.hid (LC.out.grown hgr (by intro e; have := RB.out _ e; omega))
            have B7' := Lib.hid (box_grown B7.out hgr (by intro e; have := RB.out _ e; omega))
            have B10' := Lib.hid (box_grown B10.out hgr (by intro e; have := RB.out _ e; omega))
            have B12' := Lib.hid (box_grown B12.out hgr (by intro e; have := RB.out _ e; omega))
            have B14' := Lib.hid (box_grown B14.out hgr (by intro e; have := RB.out _ e; omega))
            have B15' := Lib.hid (box_grown B15.out hgr (by intro e; have := RB.out _ e; omega))
            have Nd' := Lib.hid (Nd.out.grown hgr (by intro r e; have := RB.out _ e; omega))
            have B16' := Lib.hid (box_grown B16.out hgr (by intro e; have := RB.out _ e; omega))
            have B17' := Lib.hid (box_grown B17.out hgr (by intro e; have := RB.out _ e; omega))
            clear B3 B4 LC B7 B10 B12 SB B14 B15 Nd B16 B17 hbel_w14
            have B3 := B3'
            have B4 := B4'
            have LC := LC'
            have B7 := B7'
            have B10 := B10'
            have B12 := B12'
            have B14 := B14'
            have B15 := B15'
            have Nd := Nd'
            have B16 := B16'
            have B17 := B17'
            clear B3' B4' LC' B7' B10' B12' B14' B15' Nd' B16' B17'
            clear hl_B3 hl_B4 hl_B7 hl_B10 hl_B12 hl_B14 hl_B15 hl_B16 hl_B17
            have hl_B3 := (Array.getElem?_eq_some_iff.1 B3.out).1
            have hl_B4 := (Array.getElem?_eq_some_iff.1 B4.out).1
            have hl_B7 := (Array.getElem?_eq_some_iff.1 B7.out).1
            have hl_B10 := (Array.getElem?_eq_some_iff.1 B10.out).1
            have hl_B12 := (Array.getElem?_eq_some_iff.1 B12.out).1
            have hl_B14 := (Array.getElem?_eq_some_iff.1 B14.out).1
            have hl_B15 := (Array.getElem?_eq_some_iff.1 B15.out).1
            have hl_B16 := (Array.getElem?_eq_some_iff.1 B16.out).1
            have hl_B17 := (Array.getElem?_eq_some_iff.1 B17.out).1
            obtain ⟨yB7_0, yB7_1⟩ := pastBox_cells B7.out
            obtain ⟨yB3_0, yB3_1⟩ := pastBox_cells B3.out
            obtain ⟨yB14_0, yB14_1⟩ := pastBox_cells B14.out
            go_wp2_with fail
            refine (kept17_any _ _ _ l (k : Int) _ LC.out (Vers.below P0.out hbel_w15) hl).mono ?_
            rintro e w16 ⟨rfl, hx⟩
            clear yB7_0 yB7_1 yB3_0 yB3_1 yB14_0 yB14_1
            have hbel_w16 : Below w.heap.size w w16 := hbel_w15.trans (hx.mono (by have := hbel_w15.size; first | omega | (simp; omega)))
            have hz_w16 : w15.heap.size + 0 ≤ w16.heap.size := by have hz := hx.size; first | omega | (simp only [sz1] at hz; omega)
            have B3' := Lib.hid (box_below B3.out hx)
            have B4' := Lib.hid (box_below B4.out hx)
            have LC' := Lib.hid (LC.out.below hx)
            have B7' := Lib.hid (box_below B7.out hx)
            have B10' := Lib.hid (box_below B10.out hx)
            have B12' := Lib.hid (box_below B12.out hx)
            have B14' := Lib.hid (box_below B14.out hx)
            have B15' := Lib.hid (box_below B15.out hx)
            have Nd' := Lib.hid (Nd.out.below hx)
            have B16' := Lib.hid (box_below B16.out hx)
            have B17' := Lib.hid (box_below B17.out hx)
            clear hx B3 B4 LC B7 B10 B12 B14 B15 Nd B16 B17 hbel_w15
            have B3 := B3'
            have B4 := B4'
            have LC := LC'
            have B7 := B7'
            have B10 := B10'
            have B12 := B12'
            have B14 := B14'
            have B15 := B15'
            have Nd := Nd'
            have B16 := B16'
            have B17 := B17'
            clear B3' B4' LC' B7' B10' B12' B14' B15' Nd' B16' B17'
            clear hl_B3 hl_B4 hl_B7 hl_B10 hl_B12 hl_B14 hl_B15 hl_B16 hl_B17
            have hl_B3 := (Array.getElem?_eq_some_iff.1 B3.out).1
            have hl_B4 := (Array.getElem?_eq_some_iff.1 B4.out).1
            have hl_B7 := (Array.getElem?_eq_some_iff.1 B7.out).1
            have hl_B10 := (Array.getElem?_eq_some_iff.1 B10.out).1
            have hl_B12 := (Array.getElem?_eq_some_iff.1 B12.out).1
            have hl_B14 := (Array.getElem?_eq_some_iff.1 B14.out).1
            have hl_B15 := (Array.getElem?_eq_some_iff.1 B15.out).1
            have hl_B16 := (Array.getElem?_eq_some_iff.1 B16.out).1
            have hl_B17 := (Array.getElem?_eq_some_iff.1 B17.out).1
            obtain ⟨yB16_0, yB16_1⟩ := pastBox_cells B16.out
            obtain ⟨yB17_0, yB17_1⟩ := pastBox_cells B17.out
            go_wp2_with fail
            refine (sameP_yes _ _ LD UD _ Nd.out.vers (Vers.below Zz.out hbel_w16)).mono ?_
            rintro e w17 ⟨rfl, hx⟩
            clear yB16_0 yB16_1 yB17_0 yB17_1
            have hbel_w17 : Below w.heap.size w w17 := hbel_w16.trans (hx.mono (by have := hbel_w16.size; first | omega | (simp; omega)))
            have hz_w17 : w16.heap.size + 0 ≤ w17.heap.size := by have hz := hx.size; first | omega | (simp only [sz1] at hz; omega)
            have B3' := Lib.hid (box_below B3.out hx)
            have B4' := Lib.hid (box_below B4.out hx)
            have LC' := Lib.hid (LC.out.below hx)
            have B7' := Lib.hid (box_below B7.out hx)
            have B10' := Lib.hid (box_below B10.out hx)
            have B12' := Lib.hid (box_below B12.out hx)
            have B14' := Lib.hid (box_below B14.out hx)
            have B15' := Lib.hid (box_below B15.out hx)
            have Nd' := Lib.hid (Nd.out.below hx)
            have B16' := Lib.hid (box_below B16.out hx)
            have B17' := Lib.hid (box_below B17.out hx)
            clear hx B3 B4 LC B7 B10 B12 B14 B15 Nd B16 B17 hbel_w16
            have B3 := B3'
            have B4 := B4'
            have LC := LC'
            have B7 := B7'
            have B10 := B10'
            have B12 := B12'
            have B14 := B14'
            have B15 := B15'
            have Nd := Nd'
            have B16 := B16'
            have B17 := B17'
            clear B3' B4' LC' B7' B10' B12' B14' B15' Nd' B16' B17'
            clear hl_B3 hl_B4 hl_B7 hl_B10 hl_B12 hl_B14 hl_B15 hl_B16 hl_B17
            have hl_B3 := (Array.getElem?_eq_some_iff.1 B3.out).1
            have hl_B4 := (Array.getElem?_eq_some_iff.1 B4.out).1
            have hl_B7 := (Array.getElem?_eq_some_iff.1 B7.out).1
            have hl_B10 := (Array.getElem?_eq_some_iff.1 B10.out).1
            have hl_B12 := (Array.getElem?_eq_some_iff.1 B12.out).1
            have hl_B14 := (Array.getElem?_eq_some_iff.1 B14.out).1
            have hl_B15 := (Array.getElem?_eq_some_iff.1 B15.out).1
            have hl_B16 := (Array.getElem?_eq_some_iff.1 B16.out).1
            have hl_B17 := (Array.getElem?_eq_some_iff.1 B17.out).1
            go_wp2_with fail
            go_ret
            exact ⟨rfl, hbel_w17⟩
  · have HM := Lib.hid (decide_eq_false hM)
    have HN := Lib.hid (show nowOf l c = (0, 0) by unfold nowOf; rw [if_neg hM])
    clear hM hcells
    have P0 := Lib.hid hB
    obtain ⟨KA, hKA⟩ : ∃ x, comCode l c (x1, x2) most = x := ⟨_, rfl⟩
    have HKA := Lib.hid hKA
    clear hKA
    obtain ⟨LA, hLA⟩ : ∃ x, comList l c (x1, x2) most = x := ⟨_, rfl⟩
    have HLA := Lib.hid hLA
    clear hLA
    obtain ⟨UA, hUA⟩ : ∃ x, comCur l c (x1, x2) most = x := ⟨_, rfl⟩
    have HUA := Lib.hid hUA
    clear hUA
    obtain ⟨KB, hKB⟩ : ∃ x, turnCode l c (-1) = x := ⟨_, rfl⟩
    have HKB := Lib.hid hKB
    clear hKB
    obtain ⟨LB, hLB⟩ : ∃ x, turnList l c (-1) = x := ⟨_, rfl⟩
    have HLB := Lib.hid hLB
    clear hLB
    obtain ⟨UB, hUB⟩ : ∃ x, turnCur l c (-1) = x := ⟨_, rfl⟩
    have HUB := Lib.hid hUB
    clear hUB
    obtain ⟨KD, hKD⟩ : ∃ x, turnCode l c 1 = x := ⟨_, rfl⟩
    have HKD := Lib.hid hKD
    clear hKD
    obtain ⟨LD, hLD⟩ : ∃ x, turnList l c 1 = x := ⟨_, rfl⟩
    have HLD := Lib.hid hLD
    clear hLD
    obtain ⟨UD, hUD⟩ : ∃ x, turnCur l c 1 = x := ⟨_, rfl⟩
    have HUD := Lib.hid hUD
    clear hUD
    clear hB
    go_enter Try.func10, Try.ntmps10
    go_wp2_with fail
    refine (lent17_any _ l c _ (Vers.alloc (Vers.alloc P0.out _) _) hl).mono ?_
    rintro e w1 ⟨vl, rfl, hlv, hx⟩
    have hbel_w1 : Below w.heap.size w w1 := (below_new (below_new (Below.refl w.heap.size w) _) _).trans (hx.mono (by first | omega | (simp; done) | (simp; omega)))
    have hz_w1 : w.heap.size + 2 ≤ w1.heap.size := by have hz := hx.size; first | omega | (simp only [sz1] at hz; omega)
    have B3 := Lib.hid (show w1.heap[w.heap.size]? = some (pastBox (.slice a l.length cap) c) from box_below (heap_keep (heap_last (o := pastBox (.slice a l.length cap) c) rfl) _) hx)
    have B4 := Lib.hid (show w1.heap[w.heap.size + 1]? = some (verBox x1 x2) from box_below (heap_last (o := verBox x1 x2) (by simp only [sz1])) hx)
    clear hx 
    have hl_B3 := (Array.getElem?_eq_some_iff.1 B3.out).1
    have hl_B4 := (Array.getElem?_eq_some_iff.1 B4.out).1
    have LC := Lib.hid hlv
    obtain ⟨gl, cl, hf, hlo⟩ := id hlv
    subst hf
    have hgl1 : gl < w1.heap.size := (hlo.lt gl rfl).2
    clear hlv hlo
    obtain ⟨yB3_0, yB3_1⟩ := pastBox_cells B3.out
    go_wp2_with fail
    refine (refMay17_any _ l c _ (Vers.alloc (Vers.below P0.out hbel_w1) _)).mono ?_
    rintro e w2 ⟨rfl, hx⟩
    clear yB3_0 yB3_1
    have hbel_w2 : Below w.heap.size w w2 := (below_new hbel_w1 _).trans (hx.mono (by have := hbel_w1.size; first | omega | (simp; omega)))
    have hz_w2 : w1.heap.size + 1 ≤ w2.heap.size := by have hz := hx.size; first | omega | (simp only [sz1] at hz; omega)
    have B3' := Lib.hid (box_below (heap_keep B3.out _) hx)
    have B4' := Lib.hid (box_below (heap_keep B4.out _) hx)
    have LC' := Lib.hid ((LC.out.below ((Below.refl _ _).alloc (Nat.le_refl _) _)).below hx)
    have B7 := Lib.hid (show w2.heap[w1.heap.size]? = some (pastBox (.slice (some ⟨gl, 0, none⟩) l.length cl) c) from box_below (heap_last (o := pastBox (.slice (some ⟨gl, 0, none⟩) l.length cl) c) rfl) hx)
    clear hx B3 B4 LC hbel_w1
    have B3 := B3'
    have B4 := B4'
    have LC := LC'
    clear B3' B4' LC'
    clear hl_B3 hl_B4
    have hl_B3 := (Array.getElem?_eq_some_iff.1 B3.out).1
    have hl_B4 := (Array.getElem?_eq_some_iff.1 B4.out).1
    have hl_B7 := (Array.getElem?_eq_some_iff.1 B7.out).1
    rw [HM.out]
    obtain ⟨yB3_0, yB3_1⟩ := pastBox_cells B3.out
    obtain ⟨yB7_0, yB7_1⟩ := pastBox_cells B7.out
    obtain ⟨yB4_0, yB4_1⟩ := verBox_cells B4.out
    go_wp2_with fail
    obtain ⟨w3, hset⟩ : ∃ x, x = (w2.alloc (.cells #[.int .i64 0, .int .i64 0] 41)) := ⟨_, rfl⟩
    rw [← hset]
    have hx : Below (w2.alloc (verBox 0 0)).heap.size (w2.alloc (verBox 0 0)) w3 := by rw [hset]; exact Below.refl _ _
    clear hset
    clear yB3_0 yB3_1 yB7_0 yB7_1 yB4_0 yB4_1
    have hbel_w3 : Below w.heap.size w w3 := (below_new hbel_w2 _).trans (hx.mono (by have := hbel_w2.size; first | omega | (simp; omega)))
    have hz_w3 : w2.heap.size + 1 ≤ w3.heap.size := by have hz := hx.size; first | omega | (simp only [sz1] at hz; omega)
    have B3' := Lib.hid (box_below (heap_keep B3.out _) hx)
    have B4' := Lib.hid (box_below (heap_keep B4.out _) hx)
    have LC' := Lib.hid ((LC.out.below ((Below.refl _ _).alloc (Nat.le_refl _) _)).below hx)
    have B7' := Lib.hid (box_below (heap_keep B7.out _) hx)
    have B9 := Lib.hid (show w3.heap[w2.heap.size]? = some (verBox 0 0) from box_below (heap_last (o := verBox 0 0) rfl) hx)
    clear hx B3 B4 LC B7 hbel_w2
    have B3 := B3'
    have B4 := B4'
    have LC := LC'
    have B7 := B7'
    clear B3' B4' LC' B7'
    clear hl_B3 hl_B4 hl_B7
    have hl_B3 := (Array.getElem?_eq_some_iff.1 B3.out).1
    have hl_B4 := (Array.getElem?_eq_some_iff.1 B4.out).1
    have hl_B7 := (Array.getElem?_eq_some_iff.1 B7.out).1
    have hl_B9 := (Array.getElem?_eq_some_iff.1 B9.out).1
    obtain ⟨yB7_0, yB7_1⟩ := pastBox_cells B7.out
    obtain ⟨yB9_0, yB9_1⟩ := verBox_cells B9.out
    refine region_each 14 [some 32, some 33, some 34, some 35, some 36, some 37, some 38, some 39, some 40, some 41, some 42, some 43, some 44, some 45] [[], [0], [1], [2], [3, 2], [2], [4, 5, 2], [2, 6], [7], [8], [9, 8], [8], [10, 11, 8], [8, 12]]
      [kIs (.bool true), kIs (.bool false), kIs (.bool false), kIs (.agg #[(.slice (some ⟨gl, 0, none⟩) l.length cl), .int .i64 c]), kIs (.bool false), kIs (.bool false), kIs (.bool false), kIs (.bool false), kIs (.bool false), kIs (.agg #[(.slice (some ⟨gl, 0, none⟩) l.length cl), .int .i64 c]), kIs (.agg #[.int .i64 0, .int .i64 0]), kIs (.agg #[.int .i64 0, .int .i64 0]), kIs (.bool false), kIs (.bool false)]
      (by kernel_rfl) (by kernel_rfl) (by kernel_rfl) (by kernel_rfl) ?_ ?_
    · simp only [obligsD]
      refine ⟨?_, ?_, ?_, ?_, ?_, ?_, ?_, ?_, ?_, ?_, ?_, ?_, ?_, ?_, trivial⟩
      · intro us w1 hb _
        change Oper.wp _ _ _ _ _ _
        go_simp
        refine (awake17_any _).mono ?_
        rintro e w9 ⟨rfl, hb2⟩
        exact ⟨_, rfl, hb2, rfl⟩
      · intro us w1 _ hd
        simp only [List.mem_cons, List.not_mem_nil, or_false, forall_eq, List.getD_cons_zero, kIs] at hd
        simp only [putD, List.getD_cons_zero, Act.put, hd]
        go_simp
        exact ⟨_, rfl, Below.refl _ _, rfl⟩
      · intro us w1 _ hd
        simp only [List.mem_cons, List.not_mem_nil, or_false, forall_eq, List.getD_cons_zero, List.getD_cons_succ, kIs] at hd
        simp only [putD, List.getD_cons_zero, List.getD_cons_succ, Act.put, hd]
        go_simp
        exact ⟨_, rfl, Below.refl _ _, rfl⟩
      · intro us w1 hb hd
        simp only [List.mem_cons, List.not_mem_nil, or_false, forall_eq, List.getD_cons_zero, List.getD_cons_succ, kIs] at hd
        refine ⟨fun _ => ?_, fun h => (h (by simp [hd])).elim⟩
        simp only [putD, List.getD_cons_zero, List.getD_cons_succ, Act.put, hd]
        have d0 := (hb.cell (World.block_lt_of_cell? _ _ yB7_0)).trans yB7_0
        have d1 := (hb.cell (World.block_lt_of_cell? _ _ yB7_1)).trans yB7_1
        go_simp
        exact ⟨_, rfl, Below.refl _ _, rfl⟩
      · intro us w1 hb hd
        simp only [List.mem_cons, List.not_mem_nil, or_false, forall_eq_or_imp, forall_eq, List.getD_cons_zero, List.getD_cons_succ, kIs] at hd
        refine ⟨fun _ => ?_, fun h => (h (by simp [hd])).elim⟩
        simp only [putD, List.getD_cons_zero, List.getD_cons_succ, Act.put, hd]
        go_simp
        refine (pastMay_any _ l c _ (LC.out.below hb).vers).mono ?_
        rintro e w9 ⟨rfl, hb2⟩
        rw [HM.out]
        exact ⟨_, rfl, hb2, rfl⟩
      · intro us w1 _ hd
        simp only [List.mem_cons, List.not_mem_nil, or_false, forall_eq, List.getD_cons_zero, List.getD_cons_succ, kIs] at hd
        refine ⟨fun _ => ?_, fun h => (h (by simp [hd])).elim⟩
        simp only [putD, List.getD_cons_zero, List.getD_cons_succ, Act.put, hd]
        go_simp
        exact ⟨_, rfl, Below.refl _ _, rfl⟩
      · intro us w1 _ hd
        simp only [List.mem_cons, List.not_mem_nil, or_false, forall_eq_or_imp, forall_eq, List.getD_cons_zero, List.getD_cons_succ, kIs] at hd
        refine ⟨fun _ => ?_, fun h => (h (by simp [hd])).elim⟩
        simp only [putD, List.getD_cons_zero, List.getD_cons_succ, Act.put, hd]
        go_simp
        exact ⟨_, rfl, Below.refl _ _, rfl⟩
      · intro us w1 _ hd
        simp only [List.mem_cons, List.not_mem_nil, or_false, forall_eq_or_imp, forall_eq, List.getD_cons_zero, List.getD_cons_succ, kIs] at hd
        simp only [putD, List.getD_cons_zero, List.getD_cons_succ, Act.put, hd]
        go_simp
        exact ⟨_, rfl, Below.refl _ _, rfl⟩
      · intro us w1 _ hd
        simp only [List.mem_cons, List.not_mem_nil, or_false, forall_eq, List.getD_cons_zero, List.getD_cons_succ, kIs] at hd
        simp only [putD, List.getD_cons_zero, List.getD_cons_succ, Act.put, hd]
        go_simp
        exact ⟨_, rfl, Below.refl _ _, rfl⟩
      · intro us w1 hb hd
        simp only [List.mem_cons, List.not_mem_nil, or_false, forall_eq, List.getD_cons_zero, List.getD_cons_succ, kIs] at hd
        refine ⟨fun _ => ?_, fun h => (h (by simp [hd])).elim⟩
        simp only [putD, List.getD_cons_zero, List.getD_cons_succ, Act.put, hd]
        have d0 := (hb.cell (World.block_lt_of_cell? _ _ yB7_0)).trans yB7_0
        have d1 := (hb.cell (World.block_lt_of_cell? _ _ yB7_1)).trans yB7_1
        go_simp
        exact ⟨_, rfl, Below.refl _ _, rfl⟩
      · intro us w1 hb hd
        simp only [List.mem_cons, List.not_mem_nil, or_false, forall_eq_or_imp, forall_eq, List.getD_cons_zero, List.getD_cons_succ, kIs] at hd
        refine ⟨fun _ => ?_, fun h => (h (by simp [hd])).elim⟩
        simp only [putD, List.getD_cons_zero, List.getD_cons_succ, Act.put, hd]
        go_simp
        refine (pastNow_any _ l c _ (LC.out.below hb).vers).mono ?_
        rintro e w9 ⟨rfl, hb2⟩
        rw [HN.out]
        exact ⟨_, rfl, hb2, rfl⟩
      · intro us w1 hb hd
        simp only [List.mem_cons, List.not_mem_nil, or_false, forall_eq, List.getD_cons_zero, List.getD_cons_succ, kIs] at hd
        refine ⟨fun _ => ?_, fun h => (h (by simp [hd])).elim⟩
        simp only [putD, List.getD_cons_zero, List.getD_cons_succ, Act.put, hd]
        have d0 := (hb.cell (World.block_lt_of_cell? _ _ yB9_0)).trans yB9_0
        have d1 := (hb.cell (World.block_lt_of_cell? _ _ yB9_1)).trans yB9_1
        go_simp
        exact ⟨_, rfl, Below.refl _ _, rfl⟩
      · intro us w1 _ hd
        simp only [List.mem_cons, List.not_mem_nil, or_false, forall_eq_or_imp, forall_eq, List.getD_cons_zero, List.getD_cons_succ, kIs] at hd
        refine ⟨fun _ => ?_, fun h => (h (by simp [hd])).elim⟩
        simp only [putD, List.getD_cons_zero, List.getD_cons_succ, Act.put, hd]
        go_simp
        exact ⟨_, rfl, Below.refl _ _, rfl⟩
      · intro us w1 _ hd
        simp only [List.mem_cons, List.not_mem_nil, or_false, forall_eq_or_imp, forall_eq, List.getD_cons_zero, List.getD_cons_succ, kIs] at hd
        simp only [putD, List.getD_cons_zero, List.getD_cons_succ, Act.put, hd]
        go_simp
        exact ⟨_, rfl, Below.refl _ _, rfl⟩
    intro us w4 hx hp
    have h13 := hp 13 (by simp)
    simp only [List.getD_cons_zero, List.getD_cons_succ, kIs] at h13
    rw [show List.range 14 = [0, 1, 2, 3, 4, 5, 6, 7, 8, 9, 10, 11, 12, 13] from rfl]
    simp only [putD, List.getD_cons_zero, List.getD_cons_succ, Act.put, List.setIfInBounds_toArray, List.set_cons_zero, List.set_cons_succ, h13]
    clear hp h13
    clear yB7_0 yB7_1 yB9_0 yB9_1
    have hbel_w4 : Below w.heap.size w w4 := hbel_w3.trans (hx.mono (by have := hbel_w3.size; first | omega | (simp; omega)))
    have hz_w4 : w3.heap.size + 0 ≤ w4.heap.size := by have hz := hx.size; first | omega | (simp only [sz1] at hz; omega)
    have B3' := Lib.hid (box_below B3.out hx)
    have B4' := Lib.hid (box_below B4.out hx)
    have LC' := Lib.hid (LC.out.below hx)
    have B7' := Lib.hid (box_below B7.out hx)
    clear hx B3 B4 LC B7 B9 hbel_w3
    have B3 := B3'
    have B4 := B4'
    have LC := LC'
    have B7 := B7'
    clear B3' B4' LC' B7'
    clear hl_B3 hl_B4 hl_B7 hl_B9
    have hl_B3 := (Array.getElem?_eq_some_iff.1 B3.out).1
    have hl_B4 := (Array.getElem?_eq_some_iff.1 B4.out).1
    have hl_B7 := (Array.getElem?_eq_some_iff.1 B7.out).1
    obtain ⟨yB7_0, yB7_1⟩ := pastBox_cells B7.out
    obtain ⟨yB4_0, yB4_1⟩ := verBox_cells B4.out
    go_wp2_with fail
    refine (pastCommit_any _ l c x1 x2 most _ LC.out.vers hl).mono ?_
    rintro e w5 ⟨va, rfl, hna, hx⟩
    clear yB7_0 yB7_1 yB4_0 yB4_1
    have hbel_w5 : Below w.heap.size w w5 := hbel_w4.trans (hx.mono (by have := hbel_w4.size; first | omega | (simp; omega)))
    have hz_w5 : w4.heap.size + 0 ≤ w5.heap.size := by have hz := hx.size; first | omega | (simp only [sz1] at hz; omega)
    have B3' := Lib.hid (box_below B3.out hx)
    have B4' := Lib.hid (box_below B4.out hx)
    have LC' := Lib.hid (LC.out.below hx)
    have B7' := Lib.hid (box_below B7.out hx)
    clear hx B3 B4 LC B7 hbel_w4
    have B3 := B3'
    have B4 := B4'
    have LC := LC'
    have B7 := B7'
    clear B3' B4' LC' B7'
    clear hl_B3 hl_B4 hl_B7
    have hl_B3 := (Array.getElem?_eq_some_iff.1 B3.out).1
    have hl_B4 := (Array.getElem?_eq_some_iff.1 B4.out).1
    have hl_B7 := (Array.getElem?_eq_some_iff.1 B7.out).1
    rw [HLA.out] at hna
    rw [HKA.out, HUA.out]
    obtain ⟨ga, ca, hf⟩ := hna.form
    subst hf
    have Na := Lib.hid hna
    have hma : LA.length ≤ 9223372036854775807 := by obtain ⟨_, _, _, q1, q2, _⟩ := Vers.open hna.vers; unfold maxLen at q2; omega
    obtain ⟨ra, hra, hsa⟩ := hna.spot
    have RA := Lib.hid hra
    have SA := Lib.hid hsa
    clear hna hra hsa
    obtain ⟨yB3_0, yB3_1⟩ := pastBox_cells B3.out
    obtain ⟨yB4_0, yB4_1⟩ := verBox_cells B4.out
    go_wp2_with fail
    refine (refCommit17_any _ l c x1 x2 most _ (Vers.alloc (Vers.below P0.out hbel_w5) _)).mono ?_
    rintro e w6 ⟨vx, rfl, hnx, hx⟩
    clear yB3_0 yB3_1 yB4_0 yB4_1
    have hbel_w6 : Below w.heap.size w w6 := (below_new hbel_w5 _).trans (hx.mono (by have := hbel_w5.size; first | omega | (simp; omega)))
    have hz_w6 : w5.heap.size + 1 ≤ w6.heap.size := by have hz := hx.size; first | omega | (simp only [sz1] at hz; omega)
    have B3' := Lib.hid (box_below (heap_keep B3.out _) hx)
    have B4' := Lib.hid (box_below (heap_keep B4.out _) hx)
    have LC' := Lib.hid ((LC.out.below ((Below.refl _ _).alloc (Nat.le_refl _) _)).below hx)
    have B7' := Lib.hid (box_below (heap_keep B7.out _) hx)
    have Na' := Lib.hid ((Na.out.below ((Below.refl _ _).alloc (Nat.le_refl _) _)).below hx)
    have SA' := Lib.hid ((SA.out.below ((Below.refl _ _).alloc (Nat.le_refl _) _)).below hx)
    have B10 := Lib.hid (show w6.heap[w5.heap.size]? = some (pastBox (.slice ga LA.length ca) UA) from box_below (heap_last (o := pastBox (.slice ga LA.length ca) UA) rfl) hx)
    clear hx B3 B4 LC B7 Na SA hbel_w5
    have B3 := B3'
    have B4 := B4'
    have LC := LC'
    have B7 := B7'
    have Na := Na'
    have SA := SA'
    clear B3' B4' LC' B7' Na' SA'
    clear hl_B3 hl_B4 hl_B7
    have hl_B3 := (Array.getElem?_eq_some_iff.1 B3.out).1
    have hl_B4 := (Array.getElem?_eq_some_iff.1 B4.out).1
    have hl_B7 := (Array.getElem?_eq_some_iff.1 B7.out).1
    have hl_B10 := (Array.getElem?_eq_some_iff.1 B10.out).1
    rw [HLA.out] at hnx
    rw [HKA.out, HUA.out]
    obtain ⟨gx, cx, hf⟩ := hnx.form
    subst hf
    have Nx := Lib.hid hnx
    have hmx : LA.length ≤ 9223372036854775807 := by obtain ⟨_, _, _, q1, q2, _⟩ := Vers.open hnx.vers; unfold maxLen at q2; omega
    clear hnx
    obtain ⟨yB10_0, yB10_1⟩ := pastBox_cells B10.out
    go_wp2_with fail
    refine (sameP_yes _ _ LA UA _ (Na.out.below ((Below.refl _ _).alloc (Nat.le_refl _) _)).vers (Nx.out.below ((Below.refl _ _).alloc (Nat.le_refl _) _)).vers).mono ?_
    rintro e w7 ⟨rfl, hx⟩
    clear yB10_0 yB10_1
    have hbel_w7 : Below w.heap.size w w7 := (below_new hbel_w6 _).trans (hx.mono (by have := hbel_w6.size; first | omega | (simp; omega)))
    have hz_w7 : w6.heap.size + 1 ≤ w7.heap.size := by have hz := hx.size; first | omega | (simp only [sz1] at hz; omega)
    have B3' := Lib.hid (box_below (heap_keep B3.out _) hx)
    have B4' := Lib.hid (box_below (heap_keep B4.out _) hx)
    have LC' := Lib.hid ((LC.out.below ((Below.refl _ _).alloc (Nat.le_refl _) _)).below hx)
    have B7' := Lib.hid (box_below (heap_keep B7.out _) hx)
    have SA' := Lib.hid ((SA.out.below ((Below.refl _ _).alloc (Nat.le_refl _) _)).below hx)
    have B10' := Lib.hid (box_below (heap_keep B10.out _) hx)
    have B12 := Lib.hid (show w7.heap[w6.heap.size]? = some (pastBox (.slice gx LA.length cx) UA) from box_below (heap_last (o := pastBox (.slice gx LA.length cx) UA) rfl) hx)
    clear hx B3 B4 LC B7 Na SA B10 Nx hbel_w6
    have B3 := B3'
    have B4 := B4'
    have LC := LC'
    have B7 := B7'
    have SA := SA'
    have B10 := B10'
    clear B3' B4' LC' B7' SA' B10'
    clear hl_B3 hl_B4 hl_B7 hl_B10
    have hl_B3 := (Array.getElem?_eq_some_iff.1 B3.out).1
    have hl_B4 := (Array.getElem?_eq_some_iff.1 B4.out).1
    have hl_B7 := (Array.getElem?_eq_some_iff.1 B7.out).1
    have hl_B10 := (Array.getElem?_eq_some_iff.1 B10.out).1
    have hl_B12 := (Array.getElem?_eq_some_iff.1 B12.out).1
    obtain ⟨yB7_0, yB7_1⟩ := pastBox_cells B7.out
    go_wp2_with fail
    refine (pastUndo_any _ l c _ LC.out.vers hl hcm).mono ?_
    rintro e w8 ⟨vb, rfl, hnb, hx⟩
    clear yB7_0 yB7_1
    have hbel_w8 : Below w.heap.size w w8 := hbel_w7.trans (hx.mono (by have := hbel_w7.size; first | omega | (simp; omega)))
    have hz_w8 : w7.heap.size + 0 ≤ w8.heap.size := by have hz := hx.size; first | omega | (simp only [sz1] at hz; omega)
    have B3' := Lib.hid (box_below B3.out hx)
    have B4' := Lib.hid (box_below B4.out hx)
    have LC' := Lib.hid (LC.out.below hx)
    have B7' := Lib.hid (box_below B7.out hx)
    have SA' := Lib.hid (SA.out.below hx)
    have B10' := Lib.hid (box_below B10.out hx)
    have B12' := Lib.hid (box_below B12.out hx)
    clear hx B3 B4 LC B7 SA B10 B12 hbel_w7
    have B3 := B3'
    have B4 := B4'
    have LC := LC'
    have B7 := B7'
    have SA := SA'
    have B10 := B10'
    have B12 := B12'
    clear B3' B4' LC' B7' SA' B10' B12'
    clear hl_B3 hl_B4 hl_B7 hl_B10 hl_B12
    have hl_B3 := (Array.getElem?_eq_some_iff.1 B3.out).1
    have hl_B4 := (Array.getElem?_eq_some_iff.1 B4.out).1
    have hl_B7 := (Array.getElem?_eq_some_iff.1 B7.out).1
    have hl_B10 := (Array.getElem?_eq_some_iff.1 B10.out).1
    have hl_B12 := (Array.getElem?_eq_some_iff.1 B12.out).1
    rw [HLB.out] at hnb
    rw [HKB.out, HUB.out]
    obtain ⟨gb, cb, hf⟩ := hnb.form
    subst hf
    have Nb := Lib.hid hnb
    have hmb : LB.length ≤ 9223372036854775807 := by obtain ⟨_, _, _, q1, q2, _⟩ := Vers.open hnb.vers; unfold maxLen at q2; omega
    obtain ⟨rb, hrb, hsb⟩ := hnb.spot
    have RB := Lib.hid hrb
    have SB := Lib.hid hsb
    clear hnb hrb hsb
    obtain ⟨yB3_0, yB3_1⟩ := pastBox_cells B3.out
    go_wp2_with fail
    refine (refTurn17_any _ l c (-1) _ (Vers.alloc (Vers.below P0.out hbel_w8) _) (by decide) (by decide)).mono ?_
    rintro e w9 ⟨vy, rfl, hoy, hx⟩
    clear yB3_0 yB3_1
    have hbel_w9 : Below w.heap.size w w9 := (below_new hbel_w8 _).trans (hx.mono (by have := hbel_w8.size; first | omega | (simp; omega)))
    have hz_w9 : w8.heap.size + 1 ≤ w9.heap.size := by have hz := hx.size; first | omega | (simp only [sz1] at hz; omega)
    have B3' := Lib.hid (box_below (heap_keep B3.out _) hx)
    have B4' := Lib.hid (box_below (heap_keep B4.out _) hx)
    have LC' := Lib.hid ((LC.out.below ((Below.refl _ _).alloc (Nat.le_refl _) _)).below hx)
    have B7' := Lib.hid (box_below (heap_keep B7.out _) hx)
    have SA' := Lib.hid ((SA.out.below ((Below.refl _ _).alloc (Nat.le_refl _) _)).below hx)
    have B10' := Lib.hid (box_below (heap_keep B10.out _) hx)
    have B12' := Lib.hid (box_below (heap_keep B12.out _) hx)
    have Nb' := Lib.hid ((Nb.out.below ((Below.refl _ _).alloc (Nat.le_refl _) _)).below hx)
    have SB' := Lib.hid ((SB.out.below ((Below.refl _ _).alloc (Nat.le_refl _) _)).below hx)
    have B14 := Lib.hid (show w9.heap[w8.heap.size]? = some (pastBox (.slice gb LB.length cb) UB) from box_below (heap_last (o := pastBox (.slice gb LB.length cb) UB) rfl) hx)
    clear hx B3 B4 LC B7 SA B10 B12 Nb SB hbel_w8
    have B3 := B3'
    have B4 := B4'
    have LC := LC'
    have B7 := B7'
    have SA := SA'
    have B10 := B10'
    have B12 := B12'
    have Nb := Nb'
    have SB := SB'
    clear B3' B4' LC' B7' SA' B10' B12' Nb' SB'
    clear hl_B3 hl_B4 hl_B7 hl_B10 hl_B12
    have hl_B3 := (Array.getElem?_eq_some_iff.1 B3.out).1
    have hl_B4 := (Array.getElem?_eq_some_iff.1 B4.out).1
    have hl_B7 := (Array.getElem?_eq_some_iff.1 B7.out).1
    have hl_B10 := (Array.getElem?_eq_some_iff.1 B10.out).1
    have hl_B12 := (Array.getElem?_eq_some_iff.1 B12.out).1
    have hl_B14 := (Array.getElem?_eq_some_iff.1 B14.out).1
    rw [HLB.out] at hoy
    rw [HKB.out, HUB.out]
    have Zy := Lib.hid (vers_turn hoy P0.out)
    obtain ⟨gy, cy, hf, -⟩ := Vers.open Zy.out
    subst hf
    clear hoy
    obtain ⟨yB14_0, yB14_1⟩ := pastBox_cells B14.out
    go_wp2_with fail
    refine (sameP_yes _ _ LB UB _ (Nb.out.below ((Below.refl _ _).alloc (Nat.le_refl _) _)).vers (Vers.alloc (Vers.below Zy.out hbel_w9) _)).mono ?_
    rintro e w10 ⟨rfl, hx⟩
    clear yB14_0 yB14_1
    have hbel_w10 : Below w.heap.size w w10 := (below_new hbel_w9 _).trans (hx.mono (by have := hbel_w9.size; first | omega | (simp; omega)))
    have hz_w10 : w9.heap.size + 1 ≤ w10.heap.size := by have hz := hx.size; first | omega | (simp only [sz1] at hz; omega)
    have B3' := Lib.hid (box_below (heap_keep B3.out _) hx)
    have B4' := Lib.hid (box_below (heap_keep B4.out _) hx)
    have LC' := Lib.hid ((LC.out.below ((Below.refl _ _).alloc (Nat.le_refl _) _)).below hx)
    have B7' := Lib.hid (box_below (heap_keep B7.out _) hx)
    have SA' := Lib.hid ((SA.out.below ((Below.refl _ _).alloc (Nat.le_refl _) _)).below hx)
    have B10' := Lib.hid (box_below (heap_keep B10.out _) hx)
    have B12' := Lib.hid (box_below (heap_keep B12.out _) hx)
    have SB' := Lib.hid ((SB.out.below ((Below.refl _ _).alloc (Nat.le_refl _) _)).below hx)
    have B14' := Lib.hid (box_below (heap_keep B14.out _) hx)
    have B15 := Lib.hid (show w10.heap[w9.heap.size]? = some (pastBox (.slice gy LB.length cy) UB) from box_below (heap_last (o := pastBox (.slice gy LB.length cy) UB) rfl) hx)
    clear hx B3 B4 LC B7 SA B10 B12 Nb SB B14 hbel_w9
    have B3 := B3'
    have B4 := B4'
    have LC := LC'
    have B7 := B7'
    have SA := SA'
    have B10 := B10'
    have B12 := B12'
    have SB := SB'
    have B14 := B14'
    clear B3' B4' LC' B7' SA' B10' B12' SB' B14'
    clear hl_B3 hl_B4 hl_B7 hl_B10 hl_B12 hl_B14
    have hl_B3 := (Array.getElem?_eq_some_iff.1 B3.out).1
    have hl_B4 := (Array.getElem?_eq_some_iff.1 B4.out).1
    have hl_B7 := (Array.getElem?_eq_some_iff.1 B7.out).1
    have hl_B10 := (Array.getElem?_eq_some_iff.1 B10.out).1
    have hl_B12 := (Array.getElem?_eq_some_iff.1 B12.out).1
    have hl_B14 := (Array.getElem?_eq_some_iff.1 B14.out).1
    have hl_B15 := (Array.getElem?_eq_some_iff.1 B15.out).1
    obtain ⟨yB7_0, yB7_1⟩ := pastBox_cells B7.out
    go_wp2_with fail
    refine (pastRedo_any _ l c _ LC.out.vers hl).mono ?_
    rintro e w11 ⟨vd, rfl, hnd, hx⟩
    clear yB7_0 yB7_1
    have hbel_w11 : Below w.heap.size w w11 := hbel_w10.trans (hx.mono (by have := hbel_w10.size; first | omega | (simp; omega)))
    have hz_w11 : w10.heap.size + 0 ≤ w11.heap.size := by have hz := hx.size; first | omega | (simp only [sz1] at hz; omega)
    have B3' := Lib.hid (box_below B3.out hx)
    have B4' := Lib.hid (box_below B4.out hx)
    have LC' := Lib.hid (LC.out.below hx)
    have B7' := Lib.hid (box_below B7.out hx)
    have SA' := Lib.hid (SA.out.below hx)
    have B10' := Lib.hid (box_below B10.out hx)
    have B12' := Lib.hid (box_below B12.out hx)
    have SB' := Lib.hid (SB.out.below hx)
    have B14' := Lib.hid (box_below B14.out hx)
    have B15' := Lib.hid (box_below B15.out hx)
    clear hx B3 B4 LC B7 SA B10 B12 SB B14 B15 hbel_w10
    have B3 := B3'
    have B4 := B4'
    have LC := LC'
    have B7 := B7'
    have SA := SA'
    have B10 := B10'
    have B12 := B12'
    have SB := SB'
    have B14 := B14'
    have B15 := B15'
    clear B3' B4' LC' B7' SA' B10' B12' SB' B14' B15'
    clear hl_B3 hl_B4 hl_B7 hl_B10 hl_B12 hl_B14 hl_B15
    have hl_B3 := (Array.getElem?_eq_some_iff.1 B3.out).1
    have hl_B4 := (Array.getElem?_eq_some_iff.1 B4.out).1
    have hl_B7 := (Array.getElem?_eq_some_iff.1 B7.out).1
    have hl_B10 := (Array.getElem?_eq_some_iff.1 B10.out).1
    have hl_B12 := (Array.getElem?_eq_some_iff.1 B12.out).1
    have hl_B14 := (Array.getElem?_eq_some_iff.1 B14.out).1
    have hl_B15 := (Array.getElem?_eq_some_iff.1 B15.out).1
    rw [HLD.out] at hnd
    rw [HKD.out, HUD.out]
    obtain ⟨gd, cd, hf⟩ := hnd.form
    subst hf
    have Nd := Lib.hid hnd
    have hmd : LD.length ≤ 9223372036854775807 := by obtain ⟨_, _, _, q1, q2, _⟩ := Vers.open hnd.vers; unfold maxLen at q2; omega
    clear hnd
    obtain ⟨yB3_0, yB3_1⟩ := pastBox_cells B3.out
    go_wp2_with fail
    refine (refTurn17_any _ l c (1) _ (Vers.alloc (Vers.below P0.out hbel_w11) _) (by decide) (by decide)).mono ?_
    rintro e w12 ⟨vz, rfl, hoz, hx⟩
    clear yB3_0 yB3_1
    have hbel_w12 : Below w.heap.size w w12 := (below_new hbel_w11 _).trans (hx.mono (by have := hbel_w11.size; first | omega | (simp; omega)))
    have hz_w12 : w11.heap.size + 1 ≤ w12.heap.size := by have hz := hx.size; first | omega | (simp only [sz1] at hz; omega)
    have B3' := Lib.hid (box_below (heap_keep B3.out _) hx)
    have B4' := Lib.hid (box_below (heap_keep B4.out _) hx)
    have LC' := Lib.hid ((LC.out.below ((Below.refl _ _).alloc (Nat.le_refl _) _)).below hx)
    have B7' := Lib.hid (box_below (heap_keep B7.out _) hx)
    have SA' := Lib.hid ((SA.out.below ((Below.refl _ _).alloc (Nat.le_refl _) _)).below hx)
    have B10' := Lib.hid (box_below (heap_keep B10.out _) hx)
    have B12' := Lib.hid (box_below (heap_keep B12.out _) hx)
    have SB' := Lib.hid ((SB.out.below ((Below.refl _ _).alloc (Nat.le_refl _) _)).below hx)
    have B14' := Lib.hid (box_below (heap_keep B14.out _) hx)
    have B15' := Lib.hid (box_below (heap_keep B15.out _) hx)
    have Nd' := Lib.hid ((Nd.out.below ((Below.refl _ _).alloc (Nat.le_refl _) _)).below hx)
    have B16 := Lib.hid (show w12.heap[w11.heap.size]? = some (pastBox (.slice gd LD.length cd) UD) from box_below (heap_last (o := pastBox (.slice gd LD.length cd) UD) rfl) hx)
    clear hx B3 B4 LC B7 SA B10 B12 SB B14 B15 Nd hbel_w11
    have B3 := B3'
    have B4 := B4'
    have LC := LC'
    have B7 := B7'
    have SA := SA'
    have B10 := B10'
    have B12 := B12'
    have SB := SB'
    have B14 := B14'
    have B15 := B15'
    have Nd := Nd'
    clear B3' B4' LC' B7' SA' B10' B12' SB' B14' B15' Nd'
    clear hl_B3 hl_B4 hl_B7 hl_B10 hl_B12 hl_B14 hl_B15
    have hl_B3 := (Array.getElem?_eq_some_iff.1 B3.out).1
    have hl_B4 := (Array.getElem?_eq_some_iff.1 B4.out).1
    have hl_B7 := (Array.getElem?_eq_some_iff.1 B7.out).1
    have hl_B10 := (Array.getElem?_eq_some_iff.1 B10.out).1
    have hl_B12 := (Array.getElem?_eq_some_iff.1 B12.out).1
    have hl_B14 := (Array.getElem?_eq_some_iff.1 B14.out).1
    have hl_B15 := (Array.getElem?_eq_some_iff.1 B15.out).1
    have hl_B16 := (Array.getElem?_eq_some_iff.1 B16.out).1
    rw [HLD.out] at hoz
    rw [HKD.out, HUD.out]
    have Zz := Lib.hid (vers_turn hoz P0.out)
    obtain ⟨gz, cz, hf, -⟩ := Vers.open Zz.out
    subst hf
    clear hoz
    obtain ⟨yB16_0, yB16_1⟩ := pastBox_cells B16.out
    go_wp2_with fail
    refine (sameP_yes _ _ LD UD _ (Nd.out.below ((Below.refl _ _).alloc (Nat.le_refl _) _)).vers (Vers.alloc (Vers.below Zz.out hbel_w12) _)).mono ?_
    rintro e w13 ⟨rfl, hx⟩
    clear yB16_0 yB16_1
    have hbel_w13 : Below w.heap.size w w13 := (below_new hbel_w12 _).trans (hx.mono (by have := hbel_w12.size; first | omega | (simp; omega)))
    have hz_w13 : w12.heap.size + 1 ≤ w13.heap.size := by have hz := hx.size; first | omega | (simp only [sz1] at hz; omega)
    have B3' := Lib.hid (box_below (heap_keep B3.out _) hx)
    have B4' := Lib.hid (box_below (heap_keep B4.out _) hx)
    have LC' := Lib.hid ((LC.out.below ((Below.refl _ _).alloc (Nat.le_refl _) _)).below hx)
    have B7' := Lib.hid (box_below (heap_keep B7.out _) hx)
    have SA' := Lib.hid ((SA.out.below ((Below.refl _ _).alloc (Nat.le_refl _) _)).below hx)
    have B10' := Lib.hid (box_below (heap_keep B10.out _) hx)
    have B12' := Lib.hid (box_below (heap_keep B12.out _) hx)
    have SB' := Lib.hid ((SB.out.below ((Below.refl _ _).alloc (Nat.le_refl _) _)).below hx)
    have B14' := Lib.hid (box_below (heap_keep B14.out _) hx)
    have B15' := Lib.hid (box_below (heap_keep B15.out _) hx)
    have Nd' := Lib.hid ((Nd.out.below ((Below.refl _ _).alloc (Nat.le_refl _) _)).below hx)
    have B16' := Lib.hid (box_below (heap_keep B16.out _) hx)
    have B17 := Lib.hid (show w13.heap[w12.heap.size]? = some (pastBox (.slice gz LD.length cz) UD) from box_below (heap_last (o := pastBox (.slice gz LD.length cz) UD) rfl) hx)
    clear hx B3 B4 LC B7 SA B10 B12 SB B14 B15 Nd B16 hbel_w12
    have B3 := B3'
    have B4 := B4'
    have LC := LC'
    have B7 := B7'
    have SA := SA'
    have B10 := B10'
    have B12 := B12'
    have SB := SB'
    have B14 := B14'
    have B15 := B15'
    have Nd := Nd'
    have B16 := B16'
    clear B3' B4' LC' B7' SA' B10' B12' SB' B14' B15' Nd' B16'
    clear hl_B3 hl_B4 hl_B7 hl_B10 hl_B12 hl_B14 hl_B15 hl_B16
    have hl_B3 := (Array.getElem?_eq_some_iff.1 B3.out).1
    have hl_B4 := (Array.getElem?_eq_some_iff.1 B4.out).1
    have hl_B7 := (Array.getElem?_eq_some_iff.1 B7.out).1
    have hl_B10 := (Array.getElem?_eq_some_iff.1 B10.out).1
    have hl_B12 := (Array.getElem?_eq_some_iff.1 B12.out).1
    have hl_B14 := (Array.getElem?_eq_some_iff.1 B14.out).1
    have hl_B15 := (Array.getElem?_eq_some_iff.1 B15.out).1
    have hl_B16 := (Array.getElem?_eq_some_iff.1 B16.out).1
    have hl_B17 := (Array.getElem?_eq_some_iff.1 B17.out).1
    obtain ⟨yB10_0, yB10_1⟩ := pastBox_cells B10.out
    go_wp2_with fail
    go_loopw [18] (fun i wr => ∃ j : Nat, j ≤ LA.length ∧ i = .int .i64 j ∧ w13.grownBy wr ra ∧ SpotV wr (.slice ga LA.length ca) LA ra) (fun i _ => LA.length - (intOf i).toNat)
    case atStart => exact ⟨0, Nat.zero_le _, rfl, World.grownBy.refl _ _, SA.out⟩
    case round =>
      obtain ⟨j, hj, rfl, hgr, hsp⟩ := hrel
      clear yB10_0 yB10_1
      have hbg := box_grown B10.out hgr (by intro e; have := RA.out _ e; omega)
      by_cases hlt : j < LA.length
      · obtain ⟨g, o', cap', cs, hv, hr, hcs, hsz⟩ := hsp (by intro e; rw [e] at hlt; simp at hlt)
        simp only [Value.slice.injEq, true_and] at hv
        obtain ⟨rfl, rfl⟩ := hv
        have hcc : wr.cell? ⟨g, o' + j * 2, none⟩ = some (cs[o' + j * 2]'(by omega)) := by rw [World.cell_block hcs]; exact Array.getElem?_eq_getElem _
        have hff : wr.frozen? ⟨g, o' + j * 2, none⟩ = false := by simp [World.frozen?, hcs]
        have hgs := (Array.getElem?_eq_some_iff.1 hcs).1
        have hlb := (Array.getElem?_eq_some_iff.1 hbg).1
        obtain ⟨y0, y1⟩ := pastBox_cells hbg
        have HR := Lib.hid hr
        have HCS := Lib.hid hcs
        obtain ⟨u, hu⟩ : ∃ u, cs[o' + j * 2]'(by omega) = u := ⟨_, rfl⟩
        rw [hu] at hcc
        clear hr hcs hsp hu
        go_wp2_with fail
        go_roundw
        case rel =>
          refine ⟨j + 1, by omega, by go_num, ?_, ?_⟩
          · have k := grown_setCell wr ⟨g, o' + j * 2, none⟩ (.int .i64 (-1))
            rw [HR.out] at hgr ⊢
            exact hgr.trans k
          · intro _
            refine ⟨g, o', _, _, rfl, HR.out, by have h9 := HCS.out; simp [World.setCell, Array.getElem?_modify, h9]; rfl, by simpa using hsz⟩
        case measure => simp [intOf]; omega
      · obtain ⟨w14, rfl⟩ : ∃ x : World, x = wr := ⟨_, rfl⟩
        clear hbg hsp
        have hbel_w14 := below_row hbel_w13 hgr (by intro r e; have := RA.out _ e; omega)
        have hz_w14 : w13.heap.size ≤ w14.heap.size := hgr.size
        have B3' := Lib.hid (box_grown B3.out hgr (by intro e; have := RA.out _ e; omega))
        have B4' := Lib.hid (box_grown B4.out hgr (by intro e; have := RA.out _ e; omega))
        have LC' := Lib.hid (LC.out.grown hgr (by intro e; have := RA.out _ e; omega))
        have B7' := Lib.hid (box_grown B7.out hgr (by intro e; have := RA.out _ e; omega))
        have B10' := Lib.hid (box_grown B10.out hgr (by intro e; have := RA.out _ e; omega))
        have B12' := Lib.hid (box_grown B12.out hgr (by intro e; have := RA.out _ e; omega))
        have SB' := Lib.hid (SB.out.grown hgr (by intro r e e2; have := RA.out _ e; have := RB.out _ e2; omega))
        have B14' := Lib.hid (box_grown B14.out hgr (by intro e; have := RA.out _ e; omega))
        have B15' := Lib.hid (box_grown B15.out hgr (by intro e; have := RA.out _ e; omega))
        have Nd' := Lib.hid (Nd.out.grown hgr (by intro r e; have := RA.out _ e; omega))
        have B16' := Lib.hid (box_grown B16.out hgr (by intro e; have := RA.out _ e; omega))
        have B17' := Lib.hid (box_grown B17.out hgr (by intro e; have := RA.out _ e; omega))
        clear B3 B4 LC B7 SA B10 B12 SB B14 B15 Nd B16 B17 hbel_w13
        have B3 := B3'
        have B4 := B4'
        have LC := LC'
        have B7 := B7'
        have B10 := B10'
        have B12 := B12'
        have SB := SB'
        have B14 := B14'
        have B15 := B15'
        have Nd := Nd'
        have B16 := B16'
        have B17 := B17'
        clear B3' B4' LC' B7' B10' B12' SB' B14' B15' Nd' B16' B17'
        clear hl_B3 hl_B4 hl_B7 hl_B10 hl_B12 hl_B14 hl_B15 hl_B16 hl_B17
        have hl_B3 := (Array.getElem?_eq_some_iff.1 B3.out).1
        have hl_B4 := (Array.getElem?_eq_some_iff.1 B4.out).1
        have hl_B7 := (Array.getElem?_eq_some_iff.1 B7.out).1
        have hl_B10 := (Array.getElem?_eq_some_iff.1 B10.out).1
        have hl_B12 := (Array.getElem?_eq_some_iff.1 B12.out).1
        have hl_B14 := (Array.getElem?_eq_some_iff.1 B14.out).1
        have hl_B15 := (Array.getElem?_eq_some_iff.1 B15.out).1
        have hl_B16 := (Array.getElem?_eq_some_iff.1 B16.out).1
        have hl_B17 := (Array.getElem?_eq_some_iff.1 B17.out).1
        obtain ⟨yB14_0, yB14_1⟩ := pastBox_cells B14.out
        obtain ⟨yB10_0, yB10_1⟩ := pastBox_cells B10.out
        go_wp2_with fail
        go_loopw [19] (fun i wr => ∃ j : Nat, j ≤ LB.length ∧ i = .int .i64 j ∧ w14.grownBy wr rb ∧ SpotV wr (.slice gb LB.length cb) LB rb) (fun i _ => LB.length - (intOf i).toNat)
        case atStart => exact ⟨0, Nat.zero_le _, rfl, World.grownBy.refl _ _, SB.out⟩
        case round =>
          obtain ⟨j, hj, rfl, hgr, hsp⟩ := hrel
          clear yB14_0 yB14_1 yB10_0 yB10_1
          have hbg := box_grown B14.out hgr (by intro e; have := RB.out _ e; omega)
          by_cases hlt : j < LB.length
          · obtain ⟨g, o', cap', cs, hv, hr, hcs, hsz⟩ := hsp (by intro e; rw [e] at hlt; simp at hlt)
            simp only [Value.slice.injEq, true_and] at hv
            obtain ⟨rfl, rfl⟩ := hv
            have hcc : wr.cell? ⟨g, o' + j * 2, none⟩ = some (cs[o' + j * 2]'(by omega)) := by rw [World.cell_block hcs]; exact Array.getElem?_eq_getElem _
            have hff : wr.frozen? ⟨g, o' + j * 2, none⟩ = false := by simp [World.frozen?, hcs]
            have hgs := (Array.getElem?_eq_some_iff.1 hcs).1
            have hlb := (Array.getElem?_eq_some_iff.1 hbg).1
            obtain ⟨y0, y1⟩ := pastBox_cells hbg
            have HR := Lib.hid hr
            have HCS := Lib.hid hcs
            obtain ⟨u, hu⟩ : ∃ u, cs[o' + j * 2]'(by omega) = u := ⟨_, rfl⟩
            rw [hu] at hcc
            clear hr hcs hsp hu
            go_wp2_with fail
            go_roundw
            case rel =>
              refine ⟨j + 1, by omega, by go_num, ?_, ?_⟩
              · have k := grown_setCell wr ⟨g, o' + j * 2, none⟩ (.int .i64 (-1))
                rw [HR.out] at hgr ⊢
                exact hgr.trans k
              · intro _
                refine ⟨g, o', _, _, rfl, HR.out, by have h9 := HCS.out; simp [World.setCell, Array.getElem?_modify, h9]; rfl, by simpa using hsz⟩
            case measure => simp [intOf]; omega
          · obtain ⟨w15, rfl⟩ : ∃ x : World, x = wr := ⟨_, rfl⟩
            clear hbg hsp
            have hbel_w15 := below_row hbel_w14 hgr (by intro r e; have := RB.out _ e; omega)
            have hz_w15 : w14.heap.size ≤ w15.heap.size := hgr.size
            have B3' := Lib.hid (box_grown B3.out hgr (by intro e; have := RB.out _ e; omega))
            have B4' := Lib.hid (box_grown B4.out hgr (by intro e; have := RB.out _ e; omega))
            have LC' := Lib.hid (LC.out.grown hgr (by intro e; have := RB.out _ e; omega))
            have B7' := Lib.hid (box_grown B7.out hgr (by intro e; have := RB.out _ e; omega))
            have B10' := Lib.hid (box_grown B10.out hgr (by intro e; have := RB.out _ e; omega))
            have B12' := Lib.hid (box_grown B12.out hgr (by intro e; have := RB.out _ e; omega))
            have B14' := Lib.hid (box_grown B14.out hgr (by intro e; have := RB.out _ e; omega))
            have B15' := Lib.hid (box_grown B15.out hgr (by intro e; have := RB.out _ e; omega))
            have Nd' := Lib.hid (Nd.out.grown hgr (by intro r e; have := RB.out _ e; omega))
            have B16' := Lib.hid (box_grown B16.out hgr (by intro e; have := RB.out _ e; omega))
            have B17' := Lib.hid (box_grown B17.out hgr (by intro e; have := RB.out _ e; omega))
            clear B3 B4 LC B7 B10 B12 SB B14 B15 Nd B16 B17 hbel_w14
            have B3 := B3'
            have B4 := B4'
            have LC := LC'
            have B7 := B7'
            have B10 := B10'
            have B12 := B12'
            have B14 := B14'
            have B15 := B15'
            have Nd := Nd'
            have B16 := B16'
            have B17 := B17'
            clear B3' B4' LC' B7' B10' B12' B14' B15' Nd' B16' B17'
            clear hl_B3 hl_B4 hl_B7 hl_B10 hl_B12 hl_B14 hl_B15 hl_B16 hl_B17
            have hl_B3 := (Array.getElem?_eq_some_iff.1 B3.out).1
            have hl_B4 := (Array.getElem?_eq_some_iff.1 B4.out).1
            have hl_B7 := (Array.getElem?_eq_some_iff.1 B7.out).1
            have hl_B10 := (Array.getElem?_eq_some_iff.1 B10.out).1
            have hl_B12 := (Array.getElem?_eq_some_iff.1 B12.out).1
            have hl_B14 := (Array.getElem?_eq_some_iff.1 B14.out).1
            have hl_B15 := (Array.getElem?_eq_some_iff.1 B15.out).1
            have hl_B16 := (Array.getElem?_eq_some_iff.1 B16.out).1
            have hl_B17 := (Array.getElem?_eq_some_iff.1 B17.out).1
            obtain ⟨yB7_0, yB7_1⟩ := pastBox_cells B7.out
            obtain ⟨yB3_0, yB3_1⟩ := pastBox_cells B3.out
            obtain ⟨yB14_0, yB14_1⟩ := pastBox_cells B14.out
            go_wp2_with fail
            refine (kept17_any _ _ _ l c _ LC.out (Vers.below P0.out hbel_w15) hl).mono ?_
            rintro e w16 ⟨rfl, hx⟩
            clear yB7_0 yB7_1 yB3_0 yB3_1 yB14_0 yB14_1
            have hbel_w16 : Below w.heap.size w w16 := hbel_w15.trans (hx.mono (by have := hbel_w15.size; first | omega | (simp; omega)))
            have hz_w16 : w15.heap.size + 0 ≤ w16.heap.size := by have hz := hx.size; first | omega | (simp only [sz1] at hz; omega)
            have B3' := Lib.hid (box_below B3.out hx)
            have B4' := Lib.hid (box_below B4.out hx)
            have LC' := Lib.hid (LC.out.below hx)
            have B7' := Lib.hid (box_below B7.out hx)
            have B10' := Lib.hid (box_below B10.out hx)
            have B12' := Lib.hid (box_below B12.out hx)
            have B14' := Lib.hid (box_below B14.out hx)
            have B15' := Lib.hid (box_below B15.out hx)
            have Nd' := Lib.hid (Nd.out.below hx)
            have B16' := Lib.hid (box_below B16.out hx)
            have B17' := Lib.hid (box_below B17.out hx)
            clear hx B3 B4 LC B7 B10 B12 B14 B15 Nd B16 B17 hbel_w15
            have B3 := B3'
            have B4 := B4'
            have LC := LC'
            have B7 := B7'
            have B10 := B10'
            have B12 := B12'
            have B14 := B14'
            have B15 := B15'
            have Nd := Nd'
            have B16 := B16'
            have B17 := B17'
            clear B3' B4' LC' B7' B10' B12' B14' B15' Nd' B16' B17'
            clear hl_B3 hl_B4 hl_B7 hl_B10 hl_B12 hl_B14 hl_B15 hl_B16 hl_B17
            have hl_B3 := (Array.getElem?_eq_some_iff.1 B3.out).1
            have hl_B4 := (Array.getElem?_eq_some_iff.1 B4.out).1
            have hl_B7 := (Array.getElem?_eq_some_iff.1 B7.out).1
            have hl_B10 := (Array.getElem?_eq_some_iff.1 B10.out).1
            have hl_B12 := (Array.getElem?_eq_some_iff.1 B12.out).1
            have hl_B14 := (Array.getElem?_eq_some_iff.1 B14.out).1
            have hl_B15 := (Array.getElem?_eq_some_iff.1 B15.out).1
            have hl_B16 := (Array.getElem?_eq_some_iff.1 B16.out).1
            have hl_B17 := (Array.getElem?_eq_some_iff.1 B17.out).1
            obtain ⟨yB16_0, yB16_1⟩ := pastBox_cells B16.out
            obtain ⟨yB17_0, yB17_1⟩ := pastBox_cells B17.out
            go_wp2_with fail
            refine (sameP_yes _ _ LD UD _ Nd.out.vers (Vers.below Zz.out hbel_w16)).mono ?_
            rintro e w17 ⟨rfl, hx⟩
            clear yB16_0 yB16_1 yB17_0 yB17_1
            have hbel_w17 : Below w.heap.size w w17 := hbel_w16.trans (hx.mono (by have := hbel_w16.size; first | omega | (simp; omega)))
            have hz_w17 : w16.heap.size + 0 ≤ w17.heap.size := by have hz := hx.size; first | omega | (simp only [sz1] at hz; omega)
            have B3' := Lib.hid (box_below B3.out hx)
            have B4' := Lib.hid (box_below B4.out hx)
            have LC' := Lib.hid (LC.out.below hx)
            have B7' := Lib.hid (box_below B7.out hx)
            have B10' := Lib.hid (box_below B10.out hx)
            have B12' := Lib.hid (box_below B12.out hx)
            have B14' := Lib.hid (box_below B14.out hx)
            have B15' := Lib.hid (box_below B15.out hx)
            have Nd' := Lib.hid (Nd.out.below hx)
            have B16' := Lib.hid (box_below B16.out hx)
            have B17' := Lib.hid (box_below B17.out hx)
            clear hx B3 B4 LC B7 B10 B12 B14 B15 Nd B16 B17 hbel_w16
            have B3 := B3'
            have B4 := B4'
            have LC := LC'
            have B7 := B7'
            have B10 := B10'
            have B12 := B12'
            have B14 := B14'
            have B15 := B15'
            have Nd := Nd'
            have B16 := B16'
            have B17 := B17'
            clear B3' B4' LC' B7' B10' B12' B14' B15' Nd' B16' B17'
            clear hl_B3 hl_B4 hl_B7 hl_B10 hl_B12 hl_B14 hl_B15 hl_B16 hl_B17
            have hl_B3 := (Array.getElem?_eq_some_iff.1 B3.out).1
            have hl_B4 := (Array.getElem?_eq_some_iff.1 B4.out).1
            have hl_B7 := (Array.getElem?_eq_some_iff.1 B7.out).1
            have hl_B10 := (Array.getElem?_eq_some_iff.1 B10.out).1
            have hl_B12 := (Array.getElem?_eq_some_iff.1 B12.out).1
            have hl_B14 := (Array.getElem?_eq_some_iff.1 B14.out).1
            have hl_B15 := (Array.getElem?_eq_some_iff.1 B15.out).1
            have hl_B16 := (Array.getElem?_eq_some_iff.1 B16.out).1
            have hl_B17 := (Array.getElem?_eq_some_iff.1 B17.out).1
            go_wp2_with fail
            go_ret
            exact ⟨rfl, hbel_w17⟩
end Go.Proofs.Ytdofdegicdkhlaa
