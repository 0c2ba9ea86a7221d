/- The walk of the law SuperNewest. -/
import Derived.Test.YtdekfbmjhmfmaaaSupK
namespace Go.Proofs.Ytdekfbmjhmfmaaa
open Go.RowKit Go.Oct

theorem tmod_two (n : Int) : (n.tmod 2 != 0) = if n % 2 = 0 then false else true := by
  have h1 : n.tmod 2 = 0 ↔ n % 2 = 0 := by rw [← Int.dvd_iff_tmod_eq_zero, Int.dvd_iff_emod_eq_zero]
  by_cases h : n % 2 = 0
  · rw [if_pos h, h1.2 h]; rfl
  · rw [if_neg h, bne_iff_ne]; exact fun e => h (h1.1 e)
theorem kept_supBox {w : World} {g r c t o : Int} : w.alloc (supBox g r c t o) = w.alloc (.cells #[.int .i64 g, .int .i64 r, .int .i64 c, .int .i64 t, .int .i64 o] 23) := rfl
set_option maxHeartbeats 2000000 in
theorem superNewest_walk (v0 : Value) (l0 : List UInt8) (gen : Int) (w : World) (B0 : Bytes w v0 l0) (n0 : l0.length ≤ 140737488351232) (_w1 : (Lit.int .i64 gen).wf = true) :
    Calls Try.prog 12 #[v0, .int .i64 gen] w fun e w' => e = .returned (.bool true) ∧ Below w.heap.size w w' := by
  obtain ⟨a0, c0, rfl, -, -, -⟩ := B0.open
  by_cases hp : gen % 2 = 0
  all_goals
    obtain ⟨n0', hn0⟩ : ∃ x, bval l0 (bst l0 2) 8 6 = x := ⟨_, rfl⟩
    obtain ⟨n1, hn1⟩ : ∃ x, bval l0 (bst l0 2) 14 4 = x := ⟨_, rfl⟩
    obtain ⟨n2, hn2⟩ : ∃ x, bval l0 (bst l0 2) 18 1 = x := ⟨_, rfl⟩
    obtain ⟨n3, hn3⟩ : ∃ x, bval l0 (bst l0 2) 19 4 = x := ⟨_, rfl⟩
    obtain ⟨n4, hn4⟩ : ∃ x, bval l0 (bst l0 2) 23 4 = x := ⟨_, rfl⟩
    obtain ⟨fb, hfb⟩ : ∃ x, (bst l0 2).isSome = x := ⟨_, rfl⟩
    have HN := Lib.hid (And.intro hn0 (And.intro hn1 (And.intro hn2 (And.intro hn3 (And.intro hn4 hfb)))))
    clear hn0 hn1 hn2 hn3 hn4 hfb
    go_enter Try.func12, Try.ntmps12
    go_wp2_with fail
    refine (lent_any _ _ _ B0 (by omega)).mono ?_
    rintro e w1 ⟨v1, rfl, hl1, hx1⟩
    have hb1 := hl1.bytes
    go_wp2_with fail
    refine (superNewest_any _ l0 _ hb1).mono ?_
    rintro e w2 ⟨rfl, hx2⟩
    rw [HN.out.1, HN.out.2.1, HN.out.2.2.1, HN.out.2.2.2.1, HN.out.2.2.2.2.1, HN.out.2.2.2.2.2]
    have B2 := (B0.below hx1).below hx2
    have hl2 := hl1.below hx2
    have hw2 := below_step hx1 hx2
    clear hl1 hb1 hx1 hx2
    go_wp2_with fail
    refine (refNewest16_any _ l0 _ (B2.alloc _)).mono ?_
    rintro e w3 ⟨rfl, hx3⟩
    rw [HN.out.1, HN.out.2.1, HN.out.2.2.1, HN.out.2.2.2.1, HN.out.2.2.2.2.1, HN.out.2.2.2.2.2]
    have B3 := (B2.alloc _).below hx3
    have hl3 := (hl2.below ((Below.refl _ _).alloc (Nat.le_refl _) _)).below hx3
    have hw3 := (below_new hw2 _).trans (hx3.mono (by have := hw2.size; simp; omega))
    have hbx := box_below (heap_last (o := supBox n0' n1 n2 n3 n4) rfl) hx3
    have ht := tmod_two gen
    first
      | rw [if_pos hp] at ht
      | rw [if_neg hp] at ht
    clear hx3 hl2 B2 hw2
    go_wp2_with fail
    refine (awake16_any _).mono ?_
    rintro e w4 ⟨rfl, hx4⟩
    have hw4 := (below_new hw3 _).trans (hx4.mono (by have := hw3.size; simp; omega))
    have hbx4 := box_below (heap_keep hbx _) hx4
    have hbz4 := box_below (heap_last (o := supBox n0' n1 n2 n3 n4) rfl) hx4
    have B4 := (B3.alloc _).below hx4
    have hl4 := (hl3.below ((Below.refl _ _).alloc (Nat.le_refl _) _)).below hx4
    obtain ⟨y0, y1, y2, y3, y4⟩ := supBox_cells hbx4
    obtain ⟨z0, z1, z2, z3, z4⟩ := supBox_cells hbz4
    clear hx4 hl3 B3 hw3 hbx hbx4 hbz4 ht
    go_wp2_with fail
    refine (kept_any _ _ _ l0 _ hl4 B4 (by omega)).mono ?_
    rintro e w5 ⟨rfl, hx5⟩
    clear y0 y1 y2 y3 y4 z0 z1 z2 z3 z4
    go_wp2_with fail
    refine (place_any gen _).mono ?_
    rintro e w' ⟨rfl, rfl⟩
    first
      | (have hq : gen % 2 = 1 := by omega)
      | skip
    go_wp2_with fail
    go_ret
    exact ⟨by first | rfl | (simp; omega), below_step hw4 hx5⟩
end Go.Proofs.Ytdekfbmjhmfmaaa
