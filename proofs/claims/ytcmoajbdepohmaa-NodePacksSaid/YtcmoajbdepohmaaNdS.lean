/- Layer 13: octavoref13.Same: are two nodes alike? -/
import Derived.Test.YtcmoajbdepohmaaNdC
import Derived.Test.YtcmoajbdepohmaaNdL
namespace Go.Proofs.Ytcmoajbdepohmaa
open Go.RowKit Go.Oct
set_option maxRecDepth 100000 in
set_option maxHeartbeats 4000000 in
/-- two nodes that are alike -/
theorem same13_yes (leaf : Bool) (v1 v2 u1 u2 : Value) (es ks : List Quad) (w : World) (H1 : Quads w v1 es) (H2 : Quads w v2 ks) (G1 : Quads w u1 es) (G2 : Quads w u2 ks) (le : es.length ≤ 4398046511104) (lk : ks.length ≤ 4398046511104) :
    Calls Try.prog 42 #[.agg #[.bool leaf, v1, v2], .agg #[.bool leaf, u1, u2]] w (Asked true w) := by
  obtain ⟨a1, c1, rfl, x1, y1, hc1⟩ := H1.open
  obtain ⟨a2, c2, rfl, x2, y2, hc2⟩ := H2.open
  obtain ⟨b1, d1, rfl, x3, y3, hd1⟩ := G1.open
  obtain ⟨b2, d2, rfl, x4, y4, hd2⟩ := G2.open
  unfold maxLen at y1 y2 y3 y4
  have HC1 := Lib.hid hc1
  have HC2 := Lib.hid hc2
  have HD1 := Lib.hid hd1
  have HD2 := Lib.hid hd2
  clear H1 H2 G1 G2 hc1 hc2 hd1 hd2
  have hbx : ∀ o, ((w.alloc (ndBox leaf (.slice a1 es.length c1) (.slice a2 ks.length c2))).alloc o).heap[w.heap.size]? = some (ndBox leaf (.slice a1 es.length c1) (.slice a2 ks.length c2)) := fun o => heap_keep (heap_last rfl) _
  have HA := Lib.hid (hbx (ndBox leaf (.slice b1 es.length d1) (.slice b2 ks.length d2)))
  have HB := Lib.hid (show ((w.alloc (ndBox leaf (.slice a1 es.length c1) (.slice a2 ks.length c2))).alloc (ndBox leaf (.slice b1 es.length d1) (.slice b2 ks.length d2))).heap[w.heap.size + 1]? = some (ndBox leaf (.slice b1 es.length d1) (.slice b2 ks.length d2)) from heap_last (by simp))
  clear hbx
  have HBL := Lib.hid (show Below w.heap.size w ((w.alloc (ndBox leaf (.slice a1 es.length c1) (.slice a2 ks.length c2))).alloc (ndBox leaf (.slice b1 es.length d1) (.slice b2 ks.length d2))) from below_new (below_new (Below.refl _ _) _) _)
  go_enter Try.func42, Try.ntmps42
  go_wp2_with fail
  go_loopw [5] (fun i wr => ∃ k : Nat, k ≤ es.length ∧ i = .int .i64 k ∧ wr.heap[w.heap.size]? = some (ndBox leaf (.slice a1 es.length c1) (.slice a2 ks.length c2)) ∧ wr.heap[w.heap.size + 1]? = some (ndBox leaf (.slice b1 es.length d1) (.slice b2 ks.length d2)) ∧ Below w.heap.size w wr) (fun i _ => es.length - (intOf i).toNat)
  case atStart => exact ⟨0, Nat.zero_le _, rfl, HA.out, HB.out, HBL.out⟩
  case round =>
    clear HA HB HBL
    obtain ⟨wq, hwq⟩ : ∃ x, x = wr := ⟨_, rfl⟩
    rw [← hwq] at hrel ⊢
    clear hwq
    obtain ⟨k, hk, rfl, hba, hbb, hbl⟩ := hrel
    obtain ⟨p0, p1, p2⟩ := ndBox_cells hba
    obtain ⟨q0, q1, q2⟩ := ndBox_cells hbb
    have hz1 := (Array.getElem?_eq_some_iff.1 hbb).1
    have HA := Lib.hid hba
    have HB := Lib.hid hbb
    have HBL := Lib.hid hbl
    clear hba hbb
    by_cases hlt : k < es.length
    · obtain ⟨e1, o1, rfl, hb1, hk1⟩ := HC1.out (by omega)
      obtain ⟨e2, o2, rfl, hb2, hk2⟩ := HD1.out (by omega)
      obtain ⟨m0, m1, m2, m3⟩ := hk1 k hlt
      obtain ⟨n0, n1, n2, n3⟩ := hk2 k hlt
      obtain ⟨x, hx⟩ : ∃ x, es[k] = x := ⟨_, rfl⟩
      rw [hx] at m0 m1 m2 m3 n0 n1 n2 n3
      obtain ⟨s0, s1, s2, s3⟩ := x
      simp only at m0 m1 m2 m3 n0 n1 n2 n3
      replace m0 := (hbl.cell (p := ⟨e1, o1 + k * 4, none⟩) hb1).trans m0
      replace m1 := (hbl.cell (p := ⟨e1, o1 + k * 4 + 1, none⟩) hb1).trans m1
      replace m2 := (hbl.cell (p := ⟨e1, o1 + k * 4 + 2, none⟩) hb1).trans m2
      replace m3 := (hbl.cell (p := ⟨e1, o1 + k * 4 + 3, none⟩) hb1).trans m3
      replace n0 := (hbl.cell (p := ⟨e2, o2 + k * 4, none⟩) hb2).trans n0
      replace n1 := (hbl.cell (p := ⟨e2, o2 + k * 4 + 1, none⟩) hb2).trans n1
      replace n2 := (hbl.cell (p := ⟨e2, o2 + k * 4 + 2, none⟩) hb2).trans n2
      replace n3 := (hbl.cell (p := ⟨e2, o2 + k * 4 + 3, none⟩) hb2).trans n3
      have r0 : (0 : Int) ≤ (k : Int) := by omega
      have r1 : (k : Int) < (es.length : Int) := by omega
      clear hx hk1 hk2 hbl
      go_wp2_with fail
      go_quiet (fail)
      go_wp2_with fail
      go_roundw
      case rel => exact ⟨k + 1, by omega, by go_num, HA.out, HB.out, HBL.out.trans (below_drawn _ _ _)⟩
      case measure => simp [intOf]; omega
    · obtain rfl : k = es.length := by omega
      clear hbl
      go_wp2_with fail
      clear p0 p1 p2 q0 q1 q2 hz1
      go_loopw [6] (fun i wr => ∃ k : Nat, k ≤ ks.length ∧ i = .int .i64 k ∧ wr.heap[w.heap.size]? = some (ndBox leaf (.slice a1 es.length c1) (.slice a2 ks.length c2)) ∧ wr.heap[w.heap.size + 1]? = some (ndBox leaf (.slice b1 es.length d1) (.slice b2 ks.length d2)) ∧ Below w.heap.size w wr) (fun i _ => ks.length - (intOf i).toNat)
      case atStart => exact ⟨0, Nat.zero_le _, rfl, HA.out, HB.out, HBL.out⟩
      case round =>
        clear HA HB HBL
        obtain ⟨wq, hwq⟩ : ∃ x, x = wr := ⟨_, rfl⟩
        rw [← hwq] at hrel ⊢
        clear hwq
        obtain ⟨k, hk, rfl, hba, hbb, hbl⟩ := hrel
        obtain ⟨p0, p1, p2⟩ := ndBox_cells hba
        obtain ⟨q0, q1, q2⟩ := ndBox_cells hbb
        have hz1 := (Array.getElem?_eq_some_iff.1 hbb).1
        have HA := Lib.hid hba
        have HB := Lib.hid hbb
        have HBL := Lib.hid hbl
        clear hba hbb
        by_cases hlt : k < ks.length
        · obtain ⟨e1, o1, rfl, hb1, hk1⟩ := HC2.out (by omega)
          obtain ⟨e2, o2, rfl, hb2, hk2⟩ := HD2.out (by omega)
          obtain ⟨m0, m1, m2, m3⟩ := hk1 k hlt
          obtain ⟨n0, n1, n2, n3⟩ := hk2 k hlt
          obtain ⟨x, hx⟩ : ∃ x, ks[k] = x := ⟨_, rfl⟩
          rw [hx] at m0 m1 m2 m3 n0 n1 n2 n3
          obtain ⟨s0, s1, s2, s3⟩ := x
          simp only at m0 m1 m2 m3 n0 n1 n2 n3
          replace m0 := (hbl.cell (p := ⟨e1, o1 + k * 4, none⟩) hb1).trans m0
          replace m1 := (hbl.cell (p := ⟨e1, o1 + k * 4 + 1, none⟩) hb1).trans m1
          replace m2 := (hbl.cell (p := ⟨e1, o1 + k * 4 + 2, none⟩) hb1).trans m2
          replace m3 := (hbl.cell (p := ⟨e1, o1 + k * 4 + 3, none⟩) hb1).trans m3
          replace n0 := (hbl.cell (p := ⟨e2, o2 + k * 4, none⟩) hb2).trans n0
          replace n1 := (hbl.cell (p := ⟨e2, o2 + k * 4 + 1, none⟩) hb2).trans n1
          replace n2 := (hbl.cell (p := ⟨e2, o2 + k * 4 + 2, none⟩) hb2).trans n2
          replace n3 := (hbl.cell (p := ⟨e2, o2 + k * 4 + 3, none⟩) hb2).trans n3
          have r0 : (0 : Int) ≤ (k : Int) := by omega
          have r1 : (k : Int) < (ks.length : Int) := by omega
          clear hx hk1 hk2 hbl
          go_wp2_with fail
          go_quiet (fail)
          go_wp2_with fail
          go_roundw
          case rel => exact ⟨k + 1, by omega, by go_num, HA.out, HB.out, HBL.out.trans (below_drawn _ _ _)⟩
          case measure => simp [intOf]; omega
        · obtain rfl : k = ks.length := by omega
          clear hbl
          go_wp2_with fail
          go_ret
          exact ⟨rfl, HBL.out⟩
end Go.Proofs.Ytcmoajbdepohmaa
