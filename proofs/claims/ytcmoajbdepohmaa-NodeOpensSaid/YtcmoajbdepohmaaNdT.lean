/- The walk of the law NodeOpens. -/
import Derived.Test.YtcmoajbdepohmaaNdR
import Derived.Test.YtcmoajbdepohmaaNdS
import Derived.Test.YtcmoajbdepohmaaNdL
import Derived.Test.YtcmoajbdepohmaaLent
namespace Go.Proofs.Ytcmoajbdepohmaa
open Go.RowKit Go.Oct
theorem ndMay_lens {leaf : Bool} {es ks : List Quad} (h : ndMay leaf es ks) : es.length ≤ 12 ∧ ks.length ≤ 12 := by
  rcases h with h | h
  · obtain ⟨_, rfl, _, _, h2, _⟩ := h; exact ⟨h2, by simp⟩
  · obtain ⟨_, rfl, _, _, h2, _⟩ := h; exact ⟨by simp, h2⟩
theorem no_lens (kind : Int) (b : List UInt8) : (noEs kind b).length ≤ 12 ∧ (noKs kind b).length ≤ 12 := by
  unfold noEs noKs
  by_cases h : ndOpens kind b
  · rw [if_pos h, if_pos h]; exact ndMay_lens h.2
  · rw [if_neg h, if_neg h]; simp
theorem box_alloc_below {w w1 : World} {o : Obj} (k : Below (w.alloc o).heap.size (w.alloc o) w1) : w1.heap[w.heap.size]? = some o := box_below (heap_last rfl) k
set_option maxRecDepth 100000 in
set_option maxHeartbeats 4000000 in
theorem nodeOpens_walk (kind : Int) (vb : Value) (b : List UInt8) (w : World) (_wk : (Lit.int .i64 kind).wf = true) (hB : Bytes w vb b) (hb0 : b.length ≤ 140737488351232) :
    Calls Try.prog 12 #[.int .i64 kind, vb] w fun e w' => e = .returned (.bool true) ∧ Below w.heap.size w w' := by
  obtain ⟨ab, cb, rfl, -, hmb, -⟩ := hB.open
  unfold maxLen at hmb
  have HB := Lib.hid hB
  obtain ⟨C, hC⟩ : ∃ C, noCode kind b = C := ⟨_, rfl⟩
  obtain ⟨LF, hLF⟩ : ∃ C, noLeaf kind b = C := ⟨_, rfl⟩
  obtain ⟨ES, hES⟩ : ∃ C, noEs kind b = C := ⟨_, rfl⟩
  obtain ⟨KS, hKS⟩ : ∃ C, noKs kind b = C := ⟨_, rfl⟩
  obtain ⟨l1, l2⟩ := no_lens kind b
  rw [hES] at l1
  rw [hKS] at l2
  have HC := Lib.hid hC
  have HLF := Lib.hid hLF
  have HES := Lib.hid hES
  have HKS := Lib.hid hKS
  clear hB hC hLF hES hKS _wk
  go_enter Try.func12, Try.ntmps12
  go_wp2_with fail
  refine (lent_any _ b _ HB.out (by omega)).mono ?_
  rintro e w1 ⟨v1, rfl, hl, hx⟩
  have HL1 := Lib.hid hl
  have hw1 := hx
  clear hl hx
  go_wp2_with fail
  refine (nodeOpen_any kind v1 b _ HL1.out.bytes (by omega)).mono ?_
  rintro e w2 ⟨ve, vk, rfl, hqe, hqk, hx⟩
  rw [HC.out, HLF.out]
  rw [HES.out] at hqe
  rw [HKS.out] at hqk
  obtain ⟨ea, ec, rfl⟩ := hqe.form
  obtain ⟨ka, kc, rfl⟩ := hqk.form
  have HE2 := Lib.hid hqe
  have HK2 := Lib.hid hqk
  have HL2 := Lib.hid (HL1.out.below hx)
  have hw2 := below_step hw1 hx
  clear hqe hqk hx hw1 HL1
  go_wp2_with fail
  refine (refOpen_any kind _ b _ ((HB.out.below hw2).alloc _) (by omega)).mono ?_
  rintro e w3 ⟨ue, uk, rfl, hqe, hqk, hx⟩
  rw [HC.out, HLF.out]
  rw [HES.out] at hqe
  rw [HKS.out] at hqk
  obtain ⟨xa, xc, rfl⟩ := hqe.form
  obtain ⟨ya, yc, rfl⟩ := hqk.form
  have HX3 := Lib.hid hqe
  have HY3 := Lib.hid hqk
  have HE3 := Lib.hid (Has.below (HE2.out.alloc _) hx)
  have HK3 := Lib.hid (Has.below (HK2.out.alloc _) hx)
  have HL3 := Lib.hid ((HL2.out.below ((Below.refl _ _).alloc (Nat.le_refl _) (ndBox LF (.slice ea ES.length ec) (.slice ka KS.length kc)))).below hx)
  have HBX3 := Lib.hid (show w3.heap[w2.heap.size]? = some (ndBox LF (.slice ea ES.length ec) (.slice ka KS.length kc)) from box_alloc_below hx)
  have hw3 := below_step (below_new hw2 (ndBox LF (.slice ea ES.length ec) (.slice ka KS.length kc))) hx
  have hs3 : w2.heap.size < w3.heap.size := (Array.getElem?_eq_some_iff.1 HBX3.out).1
  obtain ⟨n6, hn6⟩ : ∃ x, x = w2.heap.size := ⟨_, rfl⟩
  rw [← hn6] at HBX3 hs3 ⊢
  clear hqe hqk hx hw2 HL2 HE2 HK2 hn6
  go_wp2_with fail
  refine (awake13_any _).mono ?_
  rintro e w4 ⟨rfl, hx⟩
  have hbx4 := box_below (heap_keep HBX3.out _) hx
  have hby4 := box_below (heap_last (w := w3) (o := ndBox LF (.slice xa ES.length xc) (.slice ya KS.length yc)) rfl) hx
  have HE4 := Lib.hid (Has.below (HE3.out.alloc _) hx)
  have HK4 := Lib.hid (Has.below (HK3.out.alloc _) hx)
  have HX4 := Lib.hid (Has.below (HX3.out.alloc _) hx)
  have HY4 := Lib.hid (Has.below (HY3.out.alloc _) hx)
  have HL4 := Lib.hid ((HL3.out.below ((Below.refl _ _).alloc (Nat.le_refl _) (ndBox LF (.slice xa ES.length xc) (.slice ya KS.length yc)))).below hx)
  have hw4 := below_step (below_new hw3 _) hx
  obtain ⟨p0, p1, p2⟩ := ndBox_cells hbx4
  obtain ⟨q0, q1, q2⟩ := ndBox_cells hby4
  have hz1 := (Array.getElem?_eq_some_iff.1 hby4).1
  have hz2 := (Array.getElem?_eq_some_iff.1 hbx4).1
  clear hx hw3 HL3 HE3 HK3 HX3 HY3 HBX3 hbx4 hby4
  go_wp2_with fail
  refine (same13_yes LF _ _ _ _ ES KS _ HE4.out HK4.out HX4.out HY4.out (by omega) (by omega)).mono ?_
  rintro e w5 ⟨rfl, hx⟩
  have HL5 := Lib.hid (HL4.out.below hx)
  have hw5 := below_step hw4 hx
  clear hx hw4 HL4 HE4 HK4 HX4 HY4 p0 p1 p2 q0 q1 q2
  go_wp2_with fail
  refine (kept_any _ _ _ b _ HL5.out (HB.out.below hw5) (by omega)).mono ?_
  rintro e w6 ⟨rfl, hx⟩
  go_wp2_with fail
  go_ret
  exact ⟨by simp, below_step hw5 hx⟩
end Go.Proofs.Ytcmoajbdepohmaa
