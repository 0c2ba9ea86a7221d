/- The walks of past.May, octavoref17.May, past.Now. -/
import Derived.Test.YtdofdegicdkhlaaPastB
import Derived.Test.YtdofdegicdkhlaaFull
namespace Go.Proofs.Ytdofdegicdkhlaa
open Go.RowKit Go.Oct

theorem Vers.alloc {w : World} {v : Value} {l : List Ver} (h : Vers w v l) (o : Obj) : Vers (w.alloc o) v l := Has.alloc h o
theorem sz1 (w : World) (o : Obj) : (w.alloc o).heap.size = w.heap.size + 1 := by simp
theorem below_step {w w1 w2 : World} (h : Below w.heap.size w w1) (k : Below w1.heap.size w1 w2) : Below w.heap.size w w2 := h.trans (k.mono h.size)
set_option maxHeartbeats 1000000 in
theorem pastMay_any (v : Value) (l : List Ver) (c : Int) (w : World) (hB : Vers w v l) :
    Calls Try.prog 26 #[.agg #[v, .int .i64 c]] w fun e w' => e = .returned (.bool (decide (pastMay l c))) ∧ Below w.heap.size w w' := by
  obtain ⟨a, cap, rfl, hcap, hmax, -⟩ := Vers.open hB
  unfold maxLen at hmax
  by_cases h0 : c < 0
  · rw [show decide (pastMay l c) = false from decide_eq_false (by unfold pastMay; omega)]
    clear hB
    go_enter Try.func26, Try.ntmps26
    go_wp2_with fail
    go_ret
    exact ⟨rfl, (Below.refl _ _).alloc (Nat.le_refl _) _⟩
  by_cases h1 : (l.length : Int) ≤ c
  · rw [show decide (pastMay l c) = false from decide_eq_false (by unfold pastMay; omega)]
    clear hB
    go_enter Try.func26, Try.ntmps26
    go_wp2_with fail
    go_ret
    exact ⟨rfl, (Below.refl _ _).alloc (Nat.le_refl _) _⟩
  have HD := Lib.hid (show decide (pastMay l c) = decide (listMay l) from decide_eq_decide.2 ⟨fun h => h.2.2, fun h => ⟨by omega, by omega, h⟩⟩)
  go_enter Try.func26, Try.ntmps26
  go_wp2_with fail
  refine (listed17_any _ l _ (Vers.alloc hB _)).mono ?_
  rintro e w2 ⟨rfl, hx2⟩
  generalize decide (listMay l) = D at HD
  go_wp2_with fail
  go_ret
  exact ⟨by rw [HD.out]; rfl, ((Below.refl _ _).alloc (Nat.le_refl _) _).trans (hx2.mono (by simp))⟩
/-- the box of a past -/
def pastBox (v : Value) (c : Int) : Obj := .cells #[v, .int .i64 c] 39 (0, 0)
theorem pastBox_cells {w : World} {b : Nat} {v : Value} {c : Int} (h : w.heap[b]? = some (pastBox v c)) : w.cell? ⟨b, 0, none⟩ = some v ∧ w.cell? ⟨b, 1, none⟩ = some (.int .i64 c) := by
  unfold pastBox at h
  exact ⟨by rw [World.cell_block h]; rfl, by rw [World.cell_block h]; rfl⟩
theorem pastBox_free {w : World} {b : Nat} {v : Value} {c : Int} (h : w.heap[b]? = some (pastBox v c)) (i : Nat) : w.frozen? ⟨b, i, none⟩ = false := by simp [World.frozen?, h, pastBox]
/-- the box of a version -/
def verBox (x y : Int) : Obj := .cells #[.int .i64 x, .int .i64 y] 41 (0, 0)
theorem verBox_cells {w : World} {b : Nat} {x y : Int} (h : w.heap[b]? = some (verBox x y)) : w.cell? ⟨b, 0, none⟩ = some (.int .i64 x) ∧ w.cell? ⟨b, 1, none⟩ = some (.int .i64 y) := by
  unfold verBox at h
  exact ⟨by rw [World.cell_block h]; rfl, by rw [World.cell_block h]; rfl⟩
theorem verBox_free {w : World} {b : Nat} {x y : Int} (h : w.heap[b]? = some (verBox x y)) (i : Nat) : w.frozen? ⟨b, i, none⟩ = false := by simp [World.frozen?, h, verBox]
set_option maxHeartbeats 1000000 in
theorem refMay17_any (v : Value) (l : List Ver) (c : Int) (w : World) (hB : Vers w v l) :
    Calls Try.prog 24 #[.agg #[v, .int .i64 c]] w fun e w' => e = .returned (.bool (decide (pastMay l c))) ∧ Below w.heap.size w w' := by
  obtain ⟨a, cap, rfl, hcap, hmax, -⟩ := Vers.open hB
  unfold maxLen at hmax
  by_cases hL : listMay l
  · have HL := Lib.hid (decide_eq_true hL)
    by_cases h0 : 0 ≤ c
    · by_cases h1 : c < (l.length : Int)
      · have HD := Lib.hid (show decide (pastMay l c) = true from decide_eq_true ⟨h0, h1, hL⟩)
        clear hL
        go_enter Try.func24, Try.ntmps24
        go_wp2_with fail
        refine (refListed17_any _ l _ (Vers.alloc hB _)).mono ?_
        rintro e w2 ⟨rfl, hx2⟩
        rw [HL.out]
        have hbx := box_below (heap_last (o := pastBox (.slice a l.length cap) c) rfl) hx2
        obtain ⟨y0, y1⟩ := pastBox_cells hbx
        clear hbx
        go_wp2_with fail
        go_ret
        exact ⟨by rw [HD.out]; first | rfl | (simp; omega), ((Below.refl _ _).alloc (Nat.le_refl _) _).trans (hx2.mono (by simp))⟩
      · have HD := Lib.hid (show decide (pastMay l c) = false from decide_eq_false (by unfold pastMay; omega))
        clear hL
        go_enter Try.func24, Try.ntmps24
        go_wp2_with fail
        refine (refListed17_any _ l _ (Vers.alloc hB _)).mono ?_
        rintro e w2 ⟨rfl, hx2⟩
        rw [HL.out]
        have hbx := box_below (heap_last (o := pastBox (.slice a l.length cap) c) rfl) hx2
        obtain ⟨y0, y1⟩ := pastBox_cells hbx
        clear hbx
        go_wp2_with fail
        go_ret
        exact ⟨by rw [HD.out]; first | rfl | (simp; omega), ((Below.refl _ _).alloc (Nat.le_refl _) _).trans (hx2.mono (by simp))⟩
    · have HD := Lib.hid (show decide (pastMay l c) = false from decide_eq_false (by unfold pastMay; omega))
      clear hL
      go_enter Try.func24, Try.ntmps24
      go_wp2_with fail
      refine (refListed17_any _ l _ (Vers.alloc hB _)).mono ?_
      rintro e w2 ⟨rfl, hx2⟩
      rw [HL.out]
      have hbx := box_below (heap_last (o := pastBox (.slice a l.length cap) c) rfl) hx2
      obtain ⟨y0, y1⟩ := pastBox_cells hbx
      clear hbx
      go_wp2_with fail
      go_ret
      exact ⟨by rw [HD.out]; first | rfl | (simp; omega), ((Below.refl _ _).alloc (Nat.le_refl _) _).trans (hx2.mono (by simp))⟩
  · have HL := Lib.hid (decide_eq_false hL)
    have HD := Lib.hid (show decide (pastMay l c) = false from decide_eq_false fun h => hL h.2.2)
    clear hL
    go_enter Try.func24, Try.ntmps24
    go_wp2_with fail
    refine (refListed17_any _ l _ (Vers.alloc hB _)).mono ?_
    rintro e w2 ⟨rfl, hx2⟩
    rw [HL.out]
    go_wp2_with fail
    go_ret
    exact ⟨by rw [HD.out]; rfl, ((Below.refl _ _).alloc (Nat.le_refl _) _).trans (hx2.mono (by simp))⟩
def verV (x : Ver) : Value := .agg #[.int .i64 x.1, .int .i64 x.2]
set_option maxHeartbeats 1000000 in
theorem pastNow_any (v : Value) (l : List Ver) (c : Int) (w : World) (hB : Vers w v l) :
    Calls Try.prog 27 #[.agg #[v, .int .i64 c]] w fun e w' => e = .returned (.agg #[.int .i64 (nowOf l c).1, .int .i64 (nowOf l c).2]) ∧ Below w.heap.size w w' := by
  obtain ⟨a, cap, rfl, hcap, hmax, hcells⟩ := Vers.open hB
  unfold maxLen at hmax
  by_cases hM : pastMay l c
  · obtain ⟨hc0, hc1, -⟩ := id hM
    obtain ⟨k, rfl⟩ := Int.eq_ofNat_of_zero_le hc0
    have hk : k < l.length := by omega
    have HN := Lib.hid (show nowOf l k = l[k] by unfold nowOf; rw [if_pos hM]; simp [hk])
    have HM := Lib.hid (decide_eq_true hM)
    obtain ⟨b, o, rfl, hbl, hcs⟩ := hcells (by omega)
    have hcs := hcs k hk
    obtain ⟨x, hx⟩ : ∃ x, x = l[k] := ⟨_, rfl⟩
    rw [← hx] at hcs HN
    obtain ⟨x1, x2⟩ := x
    obtain ⟨h1, h2⟩ := hcs
    have H1 := Lib.hid h1
    have H2 := Lib.hid h2
    clear hx hM hcells h1 h2 hc0
    go_enter Try.func27, Try.ntmps27
    go_wp2_with fail
    refine (pastMay_any _ l _ _ (Vers.alloc (Vers.alloc hB _) _)).mono ?_
    rintro e w2 ⟨rfl, hx2⟩
    rw [HM.out]
    have hbx := box_below (heap_keep (heap_last (o := pastBox (.slice (some ⟨b, o, none⟩) l.length cap) (k : Int)) rfl) _) hx2
    have hbz := box_below (heap_last (o := verBox 0 0) (sz1 _ _).symm) hx2
    obtain ⟨y0, y1⟩ := pastBox_cells hbx
    obtain ⟨z0, z1⟩ := verBox_cells hbz
    have hfz := verBox_free hbz
    have hls := (Array.getElem?_eq_some_iff.1 hbz).1
    have hw2 : Below w.heap.size w w2 := (below_new (below_new (Below.refl _ _) _) _).trans (hx2.mono (by simp; omega))
    have c1 := (hw2.cell (p := ⟨b, o + k * 2, none⟩) hbl).trans H1.out
    have c2 := (hw2.cell (p := ⟨b, o + k * 2 + 1, none⟩) hbl).trans H2.out
    clear hbx hbz hx2
    go_wp2_with fail
    refine bodyPost_ret (v := .agg #[.int .i64 x1, .int .i64 x2]) (by simp [results, Try.results27, go_sem, z0, z1]) rfl ?_
    refine ⟨by rw [HN.out], (hw2.setCell (by simp) _).setCell (by simp) _⟩
  · have HN := Lib.hid (show nowOf l c = (0, 0) by unfold nowOf; rw [if_neg hM])
    have HM := Lib.hid (decide_eq_false hM)
    clear hM hcells
    go_enter Try.func27, Try.ntmps27
    go_wp2_with fail
    refine (pastMay_any _ l _ _ (Vers.alloc (Vers.alloc hB _) _)).mono ?_
    rintro e w2 ⟨rfl, hx2⟩
    rw [HM.out]
    have hbz := box_below (heap_last (o := verBox 0 0) (sz1 _ _).symm) hx2
    obtain ⟨z0, z1⟩ := verBox_cells hbz
    have hfz := verBox_free hbz
    have hls := (Array.getElem?_eq_some_iff.1 hbz).1
    have hw2 : Below w.heap.size w w2 := (below_new (below_new (Below.refl _ _) _) _).trans (hx2.mono (by simp; omega))
    clear hbz hx2
    go_wp2_with fail
    refine bodyPost_ret (v := .agg #[.int .i64 0, .int .i64 0]) (by simp [results, Try.results27, go_sem, z0, z1]) rfl ?_
    refine ⟨by rw [HN.out], (hw2.setCell (by simp) _).setCell (by simp) _⟩
end Go.Proofs.Ytdofdegicdkhlaa
