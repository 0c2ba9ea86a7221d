/- The walks of super.Newest and octavoref16.Newest. -/
import Derived.Test.YtdekfbmjhmfmaaaSupJ
import Derived.RegionTactic
import Derived.BigRegion
namespace Go.Proofs.Ytdekfbmjhmfmaaa
open Go.RowKit Go.Oct

/-- the sixty-four bytes of one place -/
def supPart (l : List UInt8) (i : Nat) : List UInt8 := (l.drop (64 * i)).take 64
/-- a superblock stands at its place -/
def supHas (l : List UInt8) (i : Nat) : Prop := 64 * i + 64 ≤ l.length ∧ supOpen (supPart l i) = 0 ∧ fld (supPart l i) 8 6 % 2 = i
instance (l : List UInt8) (i : Nat) : Decidable (supHas l i) := by unfold supHas; infer_instance
/-- a field of the one that counts so far -/
def bval (l : List UInt8) (b : Option Nat) (at_ k : Nat) : Nat := match b with | none => 0 | some i => fld (supPart l i) at_ k
/-- which one counts behind so many places -/
def bst (l : List UInt8) : Nat → Option Nat
  | 0 => none
  | i + 1 => if supHas l i ∧ bval l (bst l i) 8 6 < fld (supPart l i) 8 6 then some i else bst l i
theorem bst_no {l : List UInt8} {i : Nat} (h : ¬ (supHas l i ∧ bval l (bst l i) 8 6 < fld (supPart l i) 8 6)) : bst l (i + 1) = bst l i := by rw [bst, if_neg h]
theorem bst_yes {l : List UInt8} {i : Nat} (h : supHas l i ∧ bval l (bst l i) 8 6 < fld (supPart l i) 8 6) : bst l (i + 1) = some i := by rw [bst, if_pos h]
theorem supOpen_gen {l : List UInt8} (h : supOpen l = 0) : 1 ≤ fld l 8 6 := by
  have := (supPack_of h).2
  unfold supMay at this
  omega
theorem bst_some {l : List UInt8} : ∀ {i j : Nat}, bst l i = some j → supHas l j
  | 0, _, h => by cases h
  | i + 1, j, h => by
    rw [bst] at h
    split at h
    · rename_i hh
      obtain rfl := Option.some.inj h
      exact hh.1
    · exact bst_some h
theorem bst_found {l : List UInt8} (i : Nat) : (decide (0 < bval l (bst l i) 8 6)) = (bst l i).isSome := by
  cases h : bst l i with
  | none => simp [bval]
  | some j =>
    have := supOpen_gen (bst_some h).2.1
    exact decide_eq_true (show 0 < fld (supPart l j) 8 6 by omega)
theorem supOf_ok {X : List UInt8} (h : supOpen X = 0) (a k : Nat) : supOf X a k = fld X a k := by simp [supOf, h]
/-- what Newest answers -/
def NewPost (l : List UInt8) (w : World) (e : Ending) (w' : World) : Prop :=
  e = .returned (.tuple #[.agg #[.int .i64 (bval l (bst l 2) 8 6 : Nat), .int .i64 (bval l (bst l 2) 14 4 : Nat), .int .i64 (bval l (bst l 2) 18 1 : Nat), .int .i64 (bval l (bst l 2) 19 4 : Nat), .int .i64 (bval l (bst l 2) 23 4 : Nat)], .bool (bst l 2).isSome]) ∧ Below w.heap.size w w'
/-- the box of the one that counts so far -/
def bstBox (l : List UInt8) (b : Option Nat) : Obj := supBox (bval l b 8 6 : Nat) (bval l b 14 4 : Nat) (bval l b 18 1 : Nat) (bval l b 19 4 : Nat) (bval l b 23 4 : Nat)
theorem part_bytes {w : World} {b o n cap : Nat} {l : List UInt8} (h : Bytes w (.slice (some ⟨b, o, none⟩) n cap) l) (i : Nat) (hi : 64 * i + 64 ≤ n) (hc : n ≤ cap) (hm : cap ≤ maxLen) :
    Bytes w (.slice (some ⟨b, o + 64 * i, none⟩) 64 (cap - 64 * i)) (supPart l i) := h.cut (64 * i) 64 (cap - 64 * i) hi (by omega) (by omega)
theorem bst_eq {w : World} {g : Nat} {l : List UInt8} {i : Nat} (h : bst l (i + 1) = bst l i) (k : w.heap[g]? = some (bstBox l (bst l i))) : w.heap[g]? = some (bstBox l (bst l (i + 1))) := by rw [h]; exact k
set_option maxRecDepth 100000 in
set_option maxHeartbeats 4000000 in
theorem superNewest_any (v : Value) (l : List UInt8) (w : World) (hb : Bytes w v l) : Calls Try.prog 34 #[v] w (NewPost l w) := by
  obtain ⟨a, cap, rfl, hcap, hmax, hcells⟩ := hb.open
  unfold maxLen at hmax
  have i0 : ∀ w, (Instr.index 82 (.agg #[.int .i64 0, .int .i64 64]) (.int .i64 0)).run Try.prog w = .ok (.int .i64 0) w := fun _ => by kernel_rfl
  have i1 : ∀ w, (Instr.index 82 (.agg #[.int .i64 0, .int .i64 64]) (.int .i64 1)).run Try.prog w = .ok (.int .i64 64) w := fun _ => by kernel_rfl
  go_enter Try.func34, Try.ntmps34
  go_wp2_with fail
  go_loopw [10] (fun i wr => ∃ k : Nat, k ≤ 2 ∧ i = .int .i64 k ∧ wr.heap[w.heap.size + 1]? = some (bstBox l (bst l k)) ∧ wr.heap[w.heap.size]? = some (supBox 0 0 0 0 0) ∧ Below w.heap.size w wr) (fun i _ => 2 - (intOf i).toNat)
  case atStart => exact ⟨0, by decide, rfl, heap_last (size_alloc _ _).symm, heap_keep (heap_last rfl) _, below_new (below_new (Below.refl _ _) _) _⟩
  case round =>
    obtain ⟨k, hk, rfl, h4, h2, hnx⟩ := hrel
    have B4 := Lib.hid h4
    have B2 := Lib.hid h2
    clear h4 h2
    rcases (show k = 0 ∨ k = 1 ∨ k = 2 by omega) with rfl | rfl | rfl
    · by_cases hs : l.length < 64
      · have HB := Lib.hid (bst_no (l := l) (i := 0) (fun h => by have := h.1.1; omega))
        have q1 : (l.length : Int) < 64 := by omega
        obtain ⟨y0, y1, y2, y3, y4⟩ := supBox_cells B4.out
        go_wp2_with fail
        go_roundw
        case rel => exact ⟨1, by decide, rfl, bst_eq HB.out B4.out, B2.out, hnx⟩
        case measure => simp [intOf]
      · have q1 : (64 : Int) ≤ (l.length : Int) := by omega
        have q2 : (64 : Int) ≤ (cap : Int) := by omega
        obtain ⟨b, o, rfl, hcs⟩ := hcells (by omega)
        have HP0 := Lib.hid (part_bytes hb 0 (by omega) hcap (by unfold maxLen; omega))
        have HP := Lib.hid (show Bytes wr (.slice (some ⟨b, o, none⟩) 64 cap) (supPart l 0) from HP0.out.below hnx)
        clear HP0 hcs hcells
        obtain ⟨X, hX⟩ : ∃ X, supPart l 0 = X := ⟨_, rfl⟩
        rw [hX] at HP
        have HX := Lib.hid hX
        clear hX
        go_wp2_with fail
        refine (superOpen_any _ X _ HP.out).mono ?_
        rintro e w2 ⟨rfl, hx⟩
        have B4' := Lib.hid (box_below B4.out hx)
        have B2' := Lib.hid (box_below B2.out hx)
        have hnx2 := below_step hnx hx
        have hl4 := (Array.getElem?_eq_some_iff.1 B4'.out).1
        have hl2 := (Array.getElem?_eq_some_iff.1 B2'.out).1
        obtain ⟨y0, y1, y2, y3, y4⟩ := supBox_cells B4'.out
        clear B4 B2 hx hnx
        by_cases ho : supOpen X = 0
        · obtain ⟨G, hG⟩ : ∃ G, supOf X 8 6 = G := ⟨_, rfl⟩
          have hf : ∀ a k, supOf X a k = fld X a k := supOf_ok ho
          rw [hf 8 6] at hG
          have HF := Lib.hid (And.intro (hf 14 4) (And.intro (hf 18 1) (And.intro (hf 19 4) (hf 23 4))))
          have HG := Lib.hid hG
          have h1 := supOpen_gen ho
          rw [hG] at h1
          rw [ho, hf 8 6, hG, hf 14 4, hf 18 1, hf 19 4, hf 23 4]
          have HO := Lib.hid ho
          have hGl : G < 281474976710656 := by rw [← hG]; exact fld_lt X 8 6
          clear ho hf hG
          by_cases hpar : G % 2 = 0
          · have HH := Lib.hid (show supHas l 0 from ⟨by omega, by rw [HX.out]; exact HO.out, by rw [HX.out, HG.out]; exact hpar⟩)
            have p1 : (G : Int) % 2 = 0 := by omega
            by_cases hgt : bval l (bst l 0) 8 6 < G
            · have HB := Lib.hid (bst_yes (l := l) (i := 0) ⟨HH.out, by rw [HX.out, HG.out]; exact hgt⟩)
              have q3 : ((bval l (bst l 0) 8 6 : Nat) : Int) < (G : Int) := by omega
              have hfz := supBox_free B4'.out
              clear hpar hgt
              go_wp2_with fail
              refine (place_any G _).mono ?_
              rintro e w' ⟨rfl, rfl⟩
              go_wp2_with fail
              go_roundw
              case rel =>
                refine ⟨1, by decide, rfl, ?_, heap_keep ((sets_other _ _ _ (by omega) _ _ _ _ _).trans B2'.out) _, below_new (sets_below hnx2 (show w.heap.size ≤ w.heap.size + 1 by omega) _ _ _ _ _) _⟩
                rw [HB.out, bstBox]
                simp only [bval, HX.out, HG.out]
                exact heap_keep (supBox_set B4'.out _ _ _ _ _) _
              case measure => simp [intOf]
            · have HB := Lib.hid (bst_no (l := l) (i := 0) (fun h => hgt (by have := h.2; rwa [HX.out, HG.out] at this)))
              have hgt0 : ¬ 0 < G := hgt
              exact (hgt0 (show 0 < G by omega)).elim
          · have HB := Lib.hid (bst_no (l := l) (i := 0) (fun h => hpar (by have := h.1.2.2; rwa [HX.out, HG.out] at this)))
            have p1 : (G : Int) % 2 = 1 := by omega
            clear hpar
            go_wp2_with fail
            refine (place_any G _).mono ?_
            rintro e w' ⟨rfl, rfl⟩
            go_wp2_with fail
            go_roundw
            case rel => exact ⟨1, by decide, rfl, bst_eq HB.out (heap_keep B4'.out _), heap_keep B2'.out _, below_new hnx2 _⟩
            case measure => simp [intOf]
        · have HB := Lib.hid (bst_no (l := l) (i := 0) (fun h => ho (by have := h.1.2.1; rwa [HX.out] at this)))
          obtain ⟨K, hK⟩ : ∃ K, supOpen X = K := ⟨_, rfl⟩
          rw [hK] at ho
          rw [hK]
          have hk : ((K : Int) == 0) = false := by simp; omega
          clear ho hK
          go_wp2_with fail
          go_roundw
          case rel => exact ⟨1, by decide, rfl, bst_eq HB.out (heap_keep B4'.out _), heap_keep B2'.out _, below_new hnx2 _⟩
          case measure => simp [intOf]
    · by_cases hs : l.length < 128
      · have HB := Lib.hid (bst_no (l := l) (i := 1) (fun h => by have := h.1.1; omega))
        have q1 : (l.length : Int) < 128 := by omega
        obtain ⟨y0, y1, y2, y3, y4⟩ := supBox_cells B4.out
        go_wp2_with fail
        go_roundw
        case rel => exact ⟨2, by decide, rfl, bst_eq HB.out B4.out, B2.out, hnx⟩
        case measure => simp [intOf]
      · have q1 : (128 : Int) ≤ (l.length : Int) := by omega
        have q2 : (128 : Int) ≤ (cap : Int) := by omega
        obtain ⟨b, o, rfl, hcs⟩ := hcells (by omega)
        have HP0 := Lib.hid (part_bytes hb 1 (by omega) hcap (by unfold maxLen; omega))
        have HP := Lib.hid (show Bytes wr (.slice (some ⟨b, o + 64, none⟩) 64 (cap - 64)) (supPart l 1) from HP0.out.below hnx)
        clear HP0 hcs hcells
        obtain ⟨X, hX⟩ : ∃ X, supPart l 1 = X := ⟨_, rfl⟩
        rw [hX] at HP
        have HX := Lib.hid hX
        clear hX
        go_wp2_with fail
        refine (superOpen_any _ X _ HP.out).mono ?_
        rintro e w2 ⟨rfl, hx⟩
        have B4' := Lib.hid (box_below B4.out hx)
        have B2' := Lib.hid (box_below B2.out hx)
        have hnx2 := below_step hnx hx
        have hl4 := (Array.getElem?_eq_some_iff.1 B4'.out).1
        have hl2 := (Array.getElem?_eq_some_iff.1 B2'.out).1
        obtain ⟨y0, y1, y2, y3, y4⟩ := supBox_cells B4'.out
        clear B4 B2 hx hnx
        by_cases ho : supOpen X = 0
        · obtain ⟨G, hG⟩ : ∃ G, supOf X 8 6 = G := ⟨_, rfl⟩
          have hf : ∀ a k, supOf X a k = fld X a k := supOf_ok ho
          rw [hf 8 6] at hG
          have HF := Lib.hid (And.intro (hf 14 4) (And.intro (hf 18 1) (And.intro (hf 19 4) (hf 23 4))))
          have HG := Lib.hid hG
          have h1 := supOpen_gen ho
          rw [hG] at h1
          rw [ho, hf 8 6, hG, hf 14 4, hf 18 1, hf 19 4, hf 23 4]
          have HO := Lib.hid ho
          have hGl : G < 281474976710656 := by rw [← hG]; exact fld_lt X 8 6
          clear ho hf hG
          by_cases hpar : G % 2 = 1
          · have HH := Lib.hid (show supHas l 1 from ⟨by omega, by rw [HX.out]; exact HO.out, by rw [HX.out, HG.out]; exact hpar⟩)
            have p1 : (G : Int) % 2 = 1 := by omega
            by_cases hgt : bval l (bst l 1) 8 6 < G
            · have HB := Lib.hid (bst_yes (l := l) (i := 1) ⟨HH.out, by rw [HX.out, HG.out]; exact hgt⟩)
              have q3 : ((bval l (bst l 1) 8 6 : Nat) : Int) < (G : Int) := by omega
              have hfz := supBox_free B4'.out
              clear hpar hgt
              go_wp2_with fail
              refine (place_any G _).mono ?_
              rintro e w' ⟨rfl, rfl⟩
              go_wp2_with fail
              go_roundw
              case rel =>
                refine ⟨2, by decide, rfl, ?_, heap_keep ((sets_other _ _ _ (by omega) _ _ _ _ _).trans B2'.out) _, below_new (sets_below hnx2 (show w.heap.size ≤ w.heap.size + 1 by omega) _ _ _ _ _) _⟩
                rw [HB.out, bstBox]
                simp only [bval, HX.out, HG.out]
                exact heap_keep (supBox_set B4'.out _ _ _ _ _) _
              case measure => simp [intOf]
            · have HB := Lib.hid (bst_no (l := l) (i := 1) (fun h => hgt (by have := h.2; rwa [HX.out, HG.out] at this)))
              have q3 : (G : Int) ≤ ((bval l (bst l 1) 8 6 : Nat) : Int) := by omega
              clear hpar hgt
              go_wp2_with fail
              refine (place_any G _).mono ?_
              rintro e w' ⟨rfl, rfl⟩
              go_wp2_with fail
              go_roundw
              case rel => exact ⟨2, by decide, rfl, bst_eq HB.out (heap_keep B4'.out _), heap_keep B2'.out _, below_new hnx2 _⟩
              case measure => simp [intOf]
          · have HB := Lib.hid (bst_no (l := l) (i := 1) (fun h => hpar (by have := h.1.2.2; rwa [HX.out, HG.out] at this)))
            have p1 : (G : Int) % 2 = 0 := by omega
            clear hpar
            go_wp2_with fail
            refine (place_any G _).mono ?_
            rintro e w' ⟨rfl, rfl⟩
            go_wp2_with fail
            go_roundw
            case rel => exact ⟨2, by decide, rfl, bst_eq HB.out (heap_keep B4'.out _), heap_keep B2'.out _, below_new hnx2 _⟩
            case measure => simp [intOf]
        · have HB := Lib.hid (bst_no (l := l) (i := 1) (fun h => ho (by have := h.1.2.1; rwa [HX.out] at this)))
          obtain ⟨K, hK⟩ : ∃ K, supOpen X = K := ⟨_, rfl⟩
          rw [hK] at ho
          rw [hK]
          have hk : ((K : Int) == 0) = false := by simp; omega
          clear ho hK
          go_wp2_with fail
          go_roundw
          case rel => exact ⟨2, by decide, rfl, bst_eq HB.out (heap_keep B4'.out _), heap_keep B2'.out _, below_new hnx2 _⟩
          case measure => simp [intOf]
    · have HS := Lib.hid (bst_found (l := l) 2)
      obtain ⟨y0, y1, y2, y3, y4⟩ := supBox_cells B4.out
      obtain ⟨z0, z1, z2, z3, z4⟩ := supBox_cells B2.out
      have hfz := supBox_free B2.out
      have hl4 := (Array.getElem?_eq_some_iff.1 B4.out).1
      have hl2 := (Array.getElem?_eq_some_iff.1 B2.out).1
      obtain ⟨n0, hn0⟩ : ∃ x, bval l (bst l 2) 8 6 = x := ⟨_, rfl⟩
      obtain ⟨n1, hn1⟩ : ∃ x, bval l (bst l 2) 14 4 = x := ⟨_, rfl⟩
      obtain ⟨n2, hn2⟩ : ∃ x, bval l (bst l 2) 18 1 = x := ⟨_, rfl⟩
      obtain ⟨n3, hn3⟩ : ∃ x, bval l (bst l 2) 19 4 = x := ⟨_, rfl⟩
      obtain ⟨n4, hn4⟩ : ∃ x, bval l (bst l 2) 23 4 = x := ⟨_, rfl⟩
      rw [hn0] at y0 HS
      rw [hn1] at y1
      rw [hn2] at y2
      rw [hn3] at y3
      rw [hn4] at y4
      have HN := Lib.hid (And.intro hn0 (And.intro hn1 (And.intro hn2 (And.intro hn3 hn4))))
      clear hn0 hn1 hn2 hn3 hn4 B4 B2 i0 i1 hb hcells
      go_wp2_with fail
      go_region
      all_goals
        go_wp2_with fail
        refine bodyPost_ret (v := .tuple #[.agg #[.int .i64 n0, .int .i64 n1, .int .i64 n2, .int .i64 n3, .int .i64 n4], .bool (decide (0 < n0))]) (by simp [results, Try.results34, go_sem, z0, z1, z2, z3, z4]) rfl ?_
        refine ⟨?_, (sets_below hnx (Nat.le_refl _) _ _ _ _ _).drew⟩
        rw [HN.out.1, HN.out.2.1, HN.out.2.2.1, HN.out.2.2.2.1, HN.out.2.2.2.2, ← HS.out]
theorem bval_none {l : List UInt8} {b : Option Nat} (h : b.isSome = false) : bval l b 8 6 = 0 := by
  cases b with
  | none => rfl
  | some i => cases h
set_option maxRecDepth 100000 in
set_option maxHeartbeats 8000000 in
theorem refNewest16_any (v : Value) (l : List UInt8) (w : World) (hb : Bytes w v l) : Calls Try.prog 35 #[v] w (NewPost l w) := by
  obtain ⟨a, cap, rfl, hcap, hmax, hcells⟩ := hb.open
  unfold maxLen at hmax
  go_enter Try.func35, Try.ntmps35
  go_wp2_with fail
  go_loopw [5, 6] (fun f i wr => ∃ k : Nat, k ≤ 2 ∧ i = .int .i64 k ∧ f = .bool (bst l k).isSome ∧ wr.heap[w.heap.size + 1]? = some (bstBox l (bst l k)) ∧ wr.heap[w.heap.size]? = some (supBox 0 0 0 0 0) ∧ Below w.heap.size w wr) (fun _ i _ => 2 - (intOf i).toNat)
  case atStart => exact ⟨0, by decide, rfl, rfl, heap_last (size_alloc _ _).symm, heap_keep (heap_last rfl) _, below_new (below_new (Below.refl _ _) _) _⟩
  case round =>
    obtain ⟨k, hk, rfl, hfbe, h4, h2, hnx⟩ := hrel
    have B4 := Lib.hid h4
    have B2 := Lib.hid h2
    obtain ⟨fb, hfb⟩ : ∃ fb, (bst l k).isSome = fb := ⟨_, rfl⟩
    rw [hfb] at hfbe
    subst hfbe
    have HFB := Lib.hid hfb
    clear h4 h2
    rcases (show k = 0 ∨ k = 1 ∨ k = 2 by omega) with rfl | rfl | rfl
    · obtain rfl : false = fb := HFB.out
      by_cases hs : l.length < 64
      · have HB := Lib.hid (bst_no (l := l) (i := 0) (fun h => by have := h.1.1; omega))
        have q1 : (l.length : Int) < 64 := by omega
        go_wp2_with fail
        go_roundw
        case rel => exact ⟨1, by decide, rfl, by rw [HB.out, HFB.out], bst_eq HB.out B4.out, B2.out, hnx⟩
        case measure => simp [intOf]
      · have q1 : (64 : Int) ≤ (l.length : Int) := by omega
        have q2 : (64 : Int) ≤ (cap : Int) := by omega
        obtain ⟨b, o, rfl, hcs⟩ := hcells (by omega)
        have HP0 := Lib.hid (part_bytes hb 0 (by omega) hcap (by unfold maxLen; omega))
        have HP := Lib.hid (show Bytes wr (.slice (some ⟨b, o, none⟩) 64 cap) (supPart l 0) from HP0.out.below hnx)
        clear HP0 hcs hcells
        obtain ⟨X, hX⟩ : ∃ X, supPart l 0 = X := ⟨_, rfl⟩
        rw [hX] at HP
        have HX := Lib.hid hX
        clear hX
        go_wp2_with fail
        refine (refOpen16_any _ X _ HP.out).mono ?_
        rintro e w2 ⟨rfl, hx⟩
        have B4' := Lib.hid (box_below B4.out hx)
        have B2' := Lib.hid (box_below B2.out hx)
        have hnx2 := below_step hnx hx
        have hl4 := (Array.getElem?_eq_some_iff.1 B4'.out).1
        have hl2 := (Array.getElem?_eq_some_iff.1 B2'.out).1
        obtain ⟨y0, y1, y2, y3, y4⟩ := supBox_cells B4'.out
        clear B4 B2 hx hnx
        by_cases ho : supOpen X = 0
        · obtain ⟨G, hG⟩ : ∃ G, supOf X 8 6 = G := ⟨_, rfl⟩
          have hf : ∀ a k, supOf X a k = fld X a k := supOf_ok ho
          rw [hf 8 6] at hG
          have HG := Lib.hid hG
          have h1 := supOpen_gen ho
          rw [hG] at h1
          rw [ho, hf 8 6, hG, hf 14 4, hf 18 1, hf 19 4, hf 23 4]
          have HO := Lib.hid ho
          have hGl : G < 281474976710656 := by rw [← hG]; exact fld_lt X 8 6
          clear ho hf hG
          by_cases hpar : G % 2 = 0
          · have HH := Lib.hid (show supHas l 0 from ⟨by omega, by rw [HX.out]; exact HO.out, by rw [HX.out, HG.out]; exact hpar⟩)
            have p1 : (G : Int) % 2 = 0 := by omega
            have HB := Lib.hid (bst_yes (l := l) (i := 0) ⟨HH.out, by rw [HX.out, HG.out, bval_none HFB.out]; omega⟩)
            have hfz := supBox_free B4'.out
            clear hpar
            go_wp2_with fail
            go_roundw
            case rel =>
              refine ⟨1, by decide, rfl, by rw [HB.out]; rfl, ?_, heap_keep ((sets_other _ _ _ (by omega) _ _ _ _ _).trans B2'.out) _, below_new (sets_below hnx2 (show w.heap.size ≤ w.heap.size + 1 by omega) _ _ _ _ _) _⟩
              rw [HB.out, bstBox]
              simp only [bval, HX.out, HG.out]
              exact heap_keep (supBox_set B4'.out _ _ _ _ _) _
            case measure => simp [intOf]
          · have HB := Lib.hid (bst_no (l := l) (i := 0) (fun h => hpar (by have := h.1.2.2; rwa [HX.out, HG.out] at this)))
            have p1 : (G : Int) % 2 = 1 := by omega
            clear hpar
            go_wp2_with fail
            go_roundw
            case rel => exact ⟨1, by decide, rfl, by rw [HB.out, HFB.out], bst_eq HB.out (heap_keep B4'.out _), heap_keep B2'.out _, below_new hnx2 _⟩
            case measure => simp [intOf]
        · have HB := Lib.hid (bst_no (l := l) (i := 0) (fun h => ho (by have := h.1.2.1; rwa [HX.out] at this)))
          obtain ⟨K, hK⟩ : ∃ K, supOpen X = K := ⟨_, rfl⟩
          rw [hK] at ho
          rw [hK]
          have hk : ((K : Int) == 0) = false := by simp; omega
          clear ho hK
          go_wp2_with fail
          go_roundw
          case rel => exact ⟨1, by decide, rfl, by rw [HB.out, HFB.out], bst_eq HB.out (heap_keep B4'.out _), heap_keep B2'.out _, below_new hnx2 _⟩
          case measure => simp [intOf]
    · cases fb
      · by_cases hs : l.length < 128
        · have HB := Lib.hid (bst_no (l := l) (i := 1) (fun h => by have := h.1.1; omega))
          have q1 : (l.length : Int) < 128 := by omega
          go_wp2_with fail
          go_roundw
          case rel => exact ⟨2, by decide, rfl, by rw [HB.out, HFB.out], bst_eq HB.out B4.out, B2.out, hnx⟩
          case measure => simp [intOf]
        · have q1 : (128 : Int) ≤ (l.length : Int) := by omega
          have q2 : (128 : Int) ≤ (cap : Int) := by omega
          obtain ⟨b, o, rfl, hcs⟩ := hcells (by omega)
          have HP0 := Lib.hid (part_bytes hb 1 (by omega) hcap (by unfold maxLen; omega))
          have HP := Lib.hid (show Bytes wr (.slice (some ⟨b, o + 64, none⟩) 64 (cap - 64)) (supPart l 1) from HP0.out.below hnx)
          clear HP0 hcs hcells
          obtain ⟨X, hX⟩ : ∃ X, supPart l 1 = X := ⟨_, rfl⟩
          rw [hX] at HP
          have HX := Lib.hid hX
          clear hX
          go_wp2_with fail
          refine (refOpen16_any _ X _ HP.out).mono ?_
          rintro e w2 ⟨rfl, hx⟩
          have B4' := Lib.hid (box_below B4.out hx)
          have B2' := Lib.hid (box_below B2.out hx)
          have hnx2 := below_step hnx hx
          have hl4 := (Array.getElem?_eq_some_iff.1 B4'.out).1
          have hl2 := (Array.getElem?_eq_some_iff.1 B2'.out).1
          obtain ⟨y0, y1, y2, y3, y4⟩ := supBox_cells B4'.out
          clear B4 B2 hx hnx
          by_cases ho : supOpen X = 0
          · obtain ⟨G, hG⟩ : ∃ G, supOf X 8 6 = G := ⟨_, rfl⟩
            have hf : ∀ a k, supOf X a k = fld X a k := supOf_ok ho
            rw [hf 8 6] at hG
            have HG := Lib.hid hG
            have h1 := supOpen_gen ho
            rw [hG] at h1
            rw [ho, hf 8 6, hG, hf 14 4, hf 18 1, hf 19 4, hf 23 4]
            have HO := Lib.hid ho
            have hGl : G < 281474976710656 := by rw [← hG]; exact fld_lt X 8 6
            clear ho hf hG
            by_cases hpar : G % 2 = 1
            · have HH := Lib.hid (show supHas l 1 from ⟨by omega, by rw [HX.out]; exact HO.out, by rw [HX.out, HG.out]; exact hpar⟩)
              have p1 : (G : Int) % 2 = 1 := by omega
              have HB := Lib.hid (bst_yes (l := l) (i := 1) ⟨HH.out, by rw [HX.out, HG.out, bval_none HFB.out]; omega⟩)
              have hfz := supBox_free B4'.out
              clear hpar
              go_wp2_with fail
              go_roundw
              case rel =>
                refine ⟨2, by decide, rfl, by rw [HB.out]; rfl, ?_, heap_keep ((sets_other _ _ _ (by omega) _ _ _ _ _).trans B2'.out) _, below_new (sets_below hnx2 (show w.heap.size ≤ w.heap.size + 1 by omega) _ _ _ _ _) _⟩
                rw [HB.out, bstBox]
                simp only [bval, HX.out, HG.out]
                exact heap_keep (supBox_set B4'.out _ _ _ _ _) _
              case measure => simp [intOf]
            · have HB := Lib.hid (bst_no (l := l) (i := 1) (fun h => hpar (by have := h.1.2.2; rwa [HX.out, HG.out] at this)))
              have p1 : (G : Int) % 2 = 0 := by omega
              clear hpar
              go_wp2_with fail
              go_roundw
              case rel => exact ⟨2, by decide, rfl, by rw [HB.out, HFB.out], bst_eq HB.out (heap_keep B4'.out _), heap_keep B2'.out _, below_new hnx2 _⟩
              case measure => simp [intOf]
          · have HB := Lib.hid (bst_no (l := l) (i := 1) (fun h => ho (by have := h.1.2.1; rwa [HX.out] at this)))
            obtain ⟨K, hK⟩ : ∃ K, supOpen X = K := ⟨_, rfl⟩
            rw [hK] at ho
            rw [hK]
            have hk : ((K : Int) == 0) = false := by simp; omega
            clear ho hK
            go_wp2_with fail
            go_roundw
            case rel => exact ⟨2, by decide, rfl, by rw [HB.out, HFB.out], bst_eq HB.out (heap_keep B4'.out _), heap_keep B2'.out _, below_new hnx2 _⟩
            case measure => simp [intOf]
      · by_cases hs : l.length < 128
        · have HB := Lib.hid (bst_no (l := l) (i := 1) (fun h => by have := h.1.1; omega))
          have q1 : (l.length : Int) < 128 := by omega
          go_wp2_with fail
          go_roundw
          case rel => exact ⟨2, by decide, rfl, by rw [HB.out, HFB.out], bst_eq HB.out B4.out, B2.out, hnx⟩
          case measure => simp [intOf]
        · have q1 : (128 : Int) ≤ (l.length : Int) := by omega
          have q2 : (128 : Int) ≤ (cap : Int) := by omega
          obtain ⟨b, o, rfl, hcs⟩ := hcells (by omega)
          have HP0 := Lib.hid (part_bytes hb 1 (by omega) hcap (by unfold maxLen; omega))
          have HP := Lib.hid (show Bytes wr (.slice (some ⟨b, o + 64, none⟩) 64 (cap - 64)) (supPart l 1) from HP0.out.below hnx)
          clear HP0 hcs hcells
          obtain ⟨X, hX⟩ : ∃ X, supPart l 1 = X := ⟨_, rfl⟩
          rw [hX] at HP
          have HX := Lib.hid hX
          clear hX
          go_wp2_with fail
          refine (refOpen16_any _ X _ HP.out).mono ?_
          rintro e w2 ⟨rfl, hx⟩
          have B4' := Lib.hid (box_below B4.out hx)
          have B2' := Lib.hid (box_below B2.out hx)
          have hnx2 := below_step hnx hx
          have hl4 := (Array.getElem?_eq_some_iff.1 B4'.out).1
          have hl2 := (Array.getElem?_eq_some_iff.1 B2'.out).1
          obtain ⟨y0, y1, y2, y3, y4⟩ := supBox_cells B4'.out
          clear B4 B2 hx hnx
          by_cases ho : supOpen X = 0
          · obtain ⟨G, hG⟩ : ∃ G, supOf X 8 6 = G := ⟨_, rfl⟩
            have hf : ∀ a k, supOf X a k = fld X a k := supOf_ok ho
            rw [hf 8 6] at hG
            have HG := Lib.hid hG
            have h1 := supOpen_gen ho
            rw [hG] at h1
            rw [ho, hf 8 6, hG, hf 14 4, hf 18 1, hf 19 4, hf 23 4]
            have HO := Lib.hid ho
            have hGl : G < 281474976710656 := by rw [← hG]; exact fld_lt X 8 6
            clear ho hf hG
            by_cases hpar : G % 2 = 1
            · have HH := Lib.hid (show supHas l 1 from ⟨by omega, by rw [HX.out]; exact HO.out, by rw [HX.out, HG.out]; exact hpar⟩)
              have p1 : (G : Int) % 2 = 1 := by omega
              by_cases hgt : bval l (bst l 1) 8 6 < G
              · have HB := Lib.hid (bst_yes (l := l) (i := 1) ⟨HH.out, by rw [HX.out, HG.out]; exact hgt⟩)
                have q3 : ((bval l (bst l 1) 8 6 : Nat) : Int) < (G : Int) := by omega
                have hfz := supBox_free B4'.out
                clear hpar hgt
                go_wp2_with fail
                go_roundw
                case rel =>
                  refine ⟨2, by decide, rfl, by rw [HB.out]; rfl, ?_, heap_keep ((sets_other _ _ _ (by omega) _ _ _ _ _).trans B2'.out) _, below_new (sets_below hnx2 (show w.heap.size ≤ w.heap.size + 1 by omega) _ _ _ _ _) _⟩
                  rw [HB.out, bstBox]
                  simp only [bval, HX.out, HG.out]
                  exact heap_keep (supBox_set B4'.out _ _ _ _ _) _
                case measure => simp [intOf]
              · have HB := Lib.hid (bst_no (l := l) (i := 1) (fun h => hgt (by have := h.2; rwa [HX.out, HG.out] at this)))
                have q3 : (G : Int) ≤ ((bval l (bst l 1) 8 6 : Nat) : Int) := by omega
                clear hpar hgt
                go_wp2_with fail
                go_roundw
                case rel => exact ⟨2, by decide, rfl, by rw [HB.out, HFB.out], bst_eq HB.out (heap_keep B4'.out _), heap_keep B2'.out _, below_new hnx2 _⟩
                case measure => simp [intOf]
            · have HB := Lib.hid (bst_no (l := l) (i := 1) (fun h => hpar (by have := h.1.2.2; rwa [HX.out, HG.out] at this)))
              have p1 : (G : Int) % 2 = 0 := by omega
              clear hpar
              go_wp2_with fail
              go_roundw
              case rel => exact ⟨2, by decide, rfl, by rw [HB.out, HFB.out], bst_eq HB.out (heap_keep B4'.out _), heap_keep B2'.out _, below_new hnx2 _⟩
              case measure => simp [intOf]
          · have HB := Lib.hid (bst_no (l := l) (i := 1) (fun h => ho (by have := h.1.2.1; rwa [HX.out] at this)))
            obtain ⟨K, hK⟩ : ∃ K, supOpen X = K := ⟨_, rfl⟩
            rw [hK] at ho
            rw [hK]
            have hk : ((K : Int) == 0) = false := by simp; omega
            clear ho hK
            go_wp2_with fail
            go_roundw
            case rel => exact ⟨2, by decide, rfl, by rw [HB.out, HFB.out], bst_eq HB.out (heap_keep B4'.out _), heap_keep B2'.out _, below_new hnx2 _⟩
            case measure => simp [intOf]
    · obtain ⟨y0, y1, y2, y3, y4⟩ := supBox_cells B4.out
      obtain ⟨z0, z1, z2, z3, z4⟩ := supBox_cells B2.out
      have hfz := supBox_free B2.out
      have hl4 := (Array.getElem?_eq_some_iff.1 B4.out).1
      have hl2 := (Array.getElem?_eq_some_iff.1 B2.out).1
      go_wp2_with fail
      refine bodyPost_ret (v := .tuple #[.agg #[.int .i64 (bval l (bst l 2) 8 6 : Nat), .int .i64 (bval l (bst l 2) 14 4 : Nat), .int .i64 (bval l (bst l 2) 18 1 : Nat), .int .i64 (bval l (bst l 2) 19 4 : Nat), .int .i64 (bval l (bst l 2) 23 4 : Nat)], .bool fb]) (by simp [results, Try.results35, go_sem, z0, z1, z2, z3, z4]) rfl ?_
      exact ⟨by rw [HFB.out], sets_below hnx (Nat.le_refl _) _ _ _ _ _⟩
end Go.Proofs.Ytdekfbmjhmfmaaa
