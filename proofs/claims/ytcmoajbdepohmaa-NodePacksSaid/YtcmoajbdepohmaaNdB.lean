/- Layer 13: node.May (UNDER WAY). -/
import Derived.Test.YtcmoajbdepohmaaNdA
import Derived.Test.YtcmoajbdepohmaaFull
import Derived.Test.YtcmoajbdepohmaaLeD
import Derived.Test.YtcmoajbdepohmaaSame
import Derived.BigQuiet
namespace Go.Proofs.Ytcmoajbdepohmaa
open Go.RowKit Go.Oct
/-- a slice of entries, or of kids -/
def Quads (w : World) (v : Value) (l : List Quad) : Prop := Has w v l.length (qs l)
theorem Quads.open {w : World} {v : Value} {l : List Quad} (h : Quads w v l) : ∃ a cap, v = .slice a l.length cap ∧ l.length ≤ cap ∧ cap ≤ maxLen ∧
    (0 < l.length → ∃ b o, a = some ⟨b, o, none⟩ ∧ b < w.heap.size ∧ ∀ i (hi : i < l.length), w.cell? ⟨b, o + i * 4, none⟩ = some (.int .i64 l[i].1) ∧ w.cell? ⟨b, o + i * 4 + 1, none⟩ = some (.int .i64 l[i].2.1) ∧ w.cell? ⟨b, o + i * 4 + 2, none⟩ = some (.int .i64 l[i].2.2.1) ∧ w.cell? ⟨b, o + i * 4 + 3, none⟩ = some (.int .i64 l[i].2.2.2)) := by
  obtain ⟨a, cap, hv, h1, h2, h3⟩ := h
  refine ⟨a, cap, hv, h1, h2, fun hl => ?_⟩
  obtain ⟨b, o, ha, hc⟩ := h3 (by intro e; have := congrArg List.length e; rw [qs_length, List.length_nil] at this; omega)
  have hcell : ∀ i (hi : i < l.length), w.cell? ⟨b, o + i * 4, none⟩ = some (.int .i64 l[i].1) ∧ w.cell? ⟨b, o + i * 4 + 1, none⟩ = some (.int .i64 l[i].2.1) ∧ w.cell? ⟨b, o + i * 4 + 2, none⟩ = some (.int .i64 l[i].2.2.1) ∧ w.cell? ⟨b, o + i * 4 + 3, none⟩ = some (.int .i64 l[i].2.2.2) := by
    intro i hi
    obtain ⟨g0, g1, g2, g3⟩ := qs_get l i hi
    exact ⟨hc _ _ g0, hc _ _ g1, hc _ _ g2, hc _ _ g3⟩
  exact ⟨b, o, ha, World.block_lt_of_cell? w _ (hcell 0 hl).1, hcell⟩
/-- the box of a node -/
def ndBox (leaf : Bool) (ve vk : Value) : Obj := .cells #[.bool leaf, ve, vk] 56 (0, 0)
theorem ndBox_cells {w : World} {b : Nat} {leaf : Bool} {ve vk : Value} (h : w.heap[b]? = some (ndBox leaf ve vk)) : w.cell? ⟨b, 0, none⟩ = some (.bool leaf) ∧ w.cell? ⟨b, 1, none⟩ = some ve ∧ w.cell? ⟨b, 2, none⟩ = some vk := by
  unfold ndBox at h
  exact ⟨by rw [World.cell_block h]; rfl, by rw [World.cell_block h]; rfl, by rw [World.cell_block h]; rfl⟩
theorem sumOf_next (f : Quad → Int) (l : List Quad) (k : Nat) (hk : k < l.length) : sumOf f (l.take (k + 1)) = sumOf f (l.take k) + f l[k] := by
  rw [List.take_succ_eq_append_getElem hk, sumOf_append]; simp [sumOf]
theorem sumOf_most (f : Quad → Int) (l : List Quad) (k : Nat) (hk : k ≤ l.length) (hl : l.length ≤ 4398046511104) (h : ∀ x ∈ l.take k, 0 ≤ f x ∧ f x ≤ 1048576) : 0 ≤ sumOf f (l.take k) ∧ sumOf f (l.take k) ≤ 4611686018427387904 := by
  obtain ⟨h1, h2⟩ := sumOf_le f 1048576 _ h
  refine ⟨h1, Int.le_trans h2 ?_⟩
  have : ((l.take k).length : Int) ≤ 4398046511104 := by simp; omega
  omega
theorem ent_len {x : Quad} (h : entMay x) : 0 ≤ lenOf x ∧ lenOf x ≤ 1048576 := by unfold entMay at h; unfold lenOf; omega
theorem take_all {p : Quad → Prop} {l : List Quad} {k : Nat} (hk : k < l.length) (h : ∀ x ∈ l.take k, p x) (hx : p l[k]) : ∀ x ∈ l.take (k + 1), p x := by
  intro x hx'
  rw [List.take_succ_eq_append_getElem hk, List.mem_append, List.mem_singleton] at hx'
  rcases hx' with h' | rfl
  · exact h x h'
  · exact hx
set_option maxRecDepth 100000 in
set_option maxHeartbeats 4000000 in
/-- a leaf -/
theorem nodeMay_leaf (ve vk : Value) (es ks : List Quad) (w : World) (He : Quads w ve es) (Hk : Quads w vk ks) (le : es.length ≤ 4398046511104) (lk : ks.length ≤ 4398046511104) :
    Calls Try.prog 36 #[.agg #[.bool true, ve, vk]] w fun e w' => e = .returned (.bool (decide (ndMay true es ks))) ∧ Below w.heap.size w w' := by
  obtain ⟨a, cap, rfl, hc1, hc2, hcs⟩ := He.open
  obtain ⟨ak, ck, rfl, hk1, hk2, hks⟩ := Hk.open
  unfold maxLen at hc2 hk2
  have HCS := Lib.hid hcs
  have HKS := Lib.hid hks
  clear hcs hks He Hk
  go_enter Try.func36, Try.ntmps36
  have hb0 : (w.alloc (ndBox true (.slice a es.length cap) (.slice ak ks.length ck))).heap[w.heap.size]? = some (ndBox true (.slice a es.length cap) (.slice ak ks.length ck)) := heap_last rfl
  have HB0 := Lib.hid hb0
  clear hb0
  go_wp2_with fail
  go_loopw [3, 14] (fun s i wr => ∃ k : Nat, k ≤ es.length ∧ i = .int .i64 k ∧ s = .int .i64 (sumOf lenOf (es.take k)) ∧ (∀ x ∈ es.take k, entMay x) ∧ wr.heap[w.heap.size]? = some (ndBox true (.slice a es.length cap) (.slice ak ks.length ck)) ∧ Below w.heap.size w wr) (fun _ i _ => es.length - (intOf i).toNat)
  case atStart => exact ⟨0, Nat.zero_le _, rfl, rfl, by simp, HB0.out, below_new (Below.refl _ _) _⟩
  case round =>
    clear HB0
    obtain ⟨k, hk, rfl, rfl, hall, hbx, hbl⟩ := hrel
    obtain ⟨b0, b1, b2⟩ := ndBox_cells hbx
    have hnl := (Array.getElem?_eq_some_iff.1 hbx).1
    by_cases hlt : k < es.length
    · obtain ⟨b, o, rfl, hb, hcell⟩ := HCS.out (by omega)
      obtain ⟨c0, c1, c2, c3⟩ := hcell k hlt
      replace c0 := (hbl.cell (p := ⟨b, o + k * 4, none⟩) hb).trans c0
      replace c1 := (hbl.cell (p := ⟨b, o + k * 4 + 1, none⟩) hb).trans c1
      replace c2 := (hbl.cell (p := ⟨b, o + k * 4 + 2, none⟩) hb).trans c2
      replace c3 := (hbl.cell (p := ⟨b, o + k * 4 + 3, none⟩) hb).trans c3
      obtain ⟨x, hx⟩ : ∃ x, es[k] = x := ⟨_, rfl⟩
      rw [hx] at c0 c1 c2 c3
      have HX := Lib.hid hx
      have HALL := Lib.hid hall
      have HBX := Lib.hid hbx
      obtain ⟨s0, s1, s2, s3⟩ := x
      simp only at c0 c1 c2 c3
      have hsum := sumOf_most lenOf es k hk le (fun y hy => ent_len (hall y hy))
      have HSN := Lib.hid (sumOf_next lenOf es k hlt)
      obtain ⟨S, hS⟩ : ∃ S, S = sumOf lenOf (es.take k) := ⟨_, rfl⟩
      rw [← hS] at hsum ⊢
      have HS := Lib.hid hS
      obtain ⟨hS0, hS1⟩ := hsum
      have r0 : (0 : Int) ≤ (k : Int) := by omega
      have r1 : (k : Int) < (es.length : Int) := by omega
      clear hx hall hbx hS hcell
      go_wp2_with fail
      refine (mayEntry_any s0 s1 s2 s3 _).mono ?_
      rintro e w2 ⟨rfl, hx2⟩
      have HBX2 := Lib.hid (box_below (heap_keep HBX.out (.cells #[.int .i64 s0, .int .i64 s1, .int .i64 s2, .int .i64 s3] 80)) hx2)
      have hbl2 := below_step (below_new hbl (.cells #[.int .i64 s0, .int .i64 s1, .int .i64 s2, .int .i64 s3] 80)) hx2
      have hec := box_below (heap_last (o := .cells #[.int .i64 s0, .int .i64 s1, .int .i64 s2, .int .i64 s3] 80) (w := wr) rfl) hx2
      have e2 : w2.cell? ⟨wr.heap.size, 2, none⟩ = some (.int .i64 s2) := by rw [World.cell_block hec]; rfl
      have hel := (Array.getElem?_eq_some_iff.1 hec).1
      clear hx2 b0 b1 b2 c0 c1 c2 c3 hbl hec
      by_cases hm : entMay (s0, s1, s2, s3)
      · rw [decide_eq_true hm]
        have hl2 := ent_len hm
        unfold lenOf at hl2
        simp only at hl2
        have wS := IntWalk.i64_in (S + s2) (by omega)
        have wk := IntWalk.i64_in ((k : Int) + 1) (by omega)
        have HM := Lib.hid hm
        clear hm
        go_wp2_with fail
        go_roundw
        case rel => exact ⟨k + 1, by omega, by go_num, by rw [HSN.out, ← HS.out, HX.out]; rfl, take_all hlt HALL.out (by rw [HX.out]; exact HM.out), HBX2.out, hbl2⟩
        case measure => simp [intOf]; omega
      · rw [decide_eq_false hm]
        go_wp2_with fail
        go_ret
        have hno : ¬ ndMay true es ks := by
          intro h
          rcases h with h | h
          · exact hm (by have := h.2.2.1 es[k] (List.getElem_mem _); rw [HX.out] at this; exact this)
          · exact absurd h.1 (by decide)
        rw [decide_eq_false hno]
        exact ⟨rfl, hbl2⟩
    · have r1 : ¬ (k : Int) < (es.length : Int) := by omega
      have hke : es.take k = es := List.take_of_length_le (by omega)
      rw [hke] at hall ⊢
      obtain ⟨S, hS⟩ : ∃ S, S = sumOf lenOf es := ⟨_, rfl⟩
      rw [← hS]
      have HS := Lib.hid hS
      have HALL := Lib.hid hall
      have HBX := Lib.hid hbx
      clear hS hall hbx hke
      go_wp2_with fail
      go_loopw [3, 4, 35] (fun s c i wr' => s = .int .i64 S ∧ c = .int .i64 0 ∧ i = .int .i64 0 ∧ wr'.heap[w.heap.size]? = some (ndBox true (.slice a es.length cap) (.slice ak ks.length ck)) ∧ Below w.heap.size w wr') (fun _ _ _ _ => 0)
      case atStart => exact ⟨rfl, rfl, rfl, HBX.out, hbl⟩
      case round =>
        clear HBX hbl b0 b1 b2 hnl
        obtain ⟨rfl, rfl, rfl, hbx, hbl⟩ := hrel
        obtain ⟨b0, b1, b2⟩ := ndBox_cells hbx
        have hnl := (Array.getElem?_eq_some_iff.1 hbx).1
        by_cases hk0 : 0 < ks.length
        · obtain ⟨b, o, rfl, hb, hcell⟩ := HKS.out hk0
          obtain ⟨c0, c1, c2, c3⟩ := hcell 0 hk0
          rw [Nat.zero_mul, Nat.add_zero] at c0 c1 c2 c3
          replace c0 := (hbl.cell (p := ⟨b, o, none⟩) hb).trans c0
          replace c1 := (hbl.cell (p := ⟨b, o + 1, none⟩) hb).trans c1
          replace c2 := (hbl.cell (p := ⟨b, o + 2, none⟩) hb).trans c2
          replace c3 := (hbl.cell (p := ⟨b, o + 3, none⟩) hb).trans c3
          have hno : ¬ ndMay true es ks := by
            intro h
            rcases h with h | h
            · rw [h.2.1] at hk0; simp at hk0
            · exact absurd h.1 (by decide)
          have HNO := Lib.hid (decide_eq_false hno)
          have q1 : (0 : Int) < (ks.length : Int) := by omega
          clear hcell hno
          go_wp2_with fail
          go_ret
          rw [HNO.out]
          exact ⟨rfl, below_new hbl _⟩
        · have q1 : ¬ (0 : Int) < (ks.length : Int) := by omega
          have hk0' : ks = [] := List.eq_nil_of_length_eq_zero (by omega)
          have HD := Lib.hid (show decide (ndMay true es ks) = decide ((1 : Int) ≤ (es.length : Int) ∧ (es.length : Int) ≤ 12 ∧ S ≤ 1048576) by
            apply decide_eq_decide.2
            constructor
            · rintro (h | h)
              · have hs := HS.out; exact ⟨by omega, by omega, by rw [hs]; exact h.2.2.2.2.2⟩
              · exact absurd h.1 (by decide)
            · rintro ⟨h1, h2, h3⟩
              have hs := HS.out
              exact .inl ⟨rfl, hk0', HALL.out, by omega, by omega, by rw [← hs]; exact h3⟩)
          clear hk0'
          go_wp2_with fail
          go_quiet (fail)
          go_wp2_with fail
          go_quiet (fail)
          by_cases g1 : (1 : Int) ≤ (es.length : Int)
          · by_cases g2 : (es.length : Int) ≤ 12
            · by_cases g3 : S ≤ 1048576
              · have HE := Lib.hid (decide_eq_true (show (1 : Int) ≤ (es.length : Int) ∧ (es.length : Int) ≤ 12 ∧ S ≤ 1048576 from ⟨g1, g2, g3⟩))
                go_wp2_with fail
                go_ret
                rw [HD.out, HE.out]
                exact ⟨rfl, by first | exact hbl | exact hbl.trans (below_drawn _ _ _)⟩
              · have HE := Lib.hid (decide_eq_false (show ¬ ((1 : Int) ≤ (es.length : Int) ∧ (es.length : Int) ≤ 12 ∧ S ≤ 1048576) from fun h => g3 h.2.2))
                go_wp2_with fail
                go_ret
                rw [HD.out, HE.out]
                exact ⟨rfl, by first | exact hbl | exact hbl.trans (below_drawn _ _ _)⟩
            · have HE := Lib.hid (decide_eq_false (show ¬ ((1 : Int) ≤ (es.length : Int) ∧ (es.length : Int) ≤ 12 ∧ S ≤ 1048576) from fun h => g2 h.2.1))
              go_wp2_with fail
              go_ret
              rw [HD.out, HE.out]
              exact ⟨rfl, by first | exact hbl | exact hbl.trans (below_drawn _ _ _)⟩
          · have HE := Lib.hid (decide_eq_false (show ¬ ((1 : Int) ≤ (es.length : Int) ∧ (es.length : Int) ≤ 12 ∧ S ≤ 1048576) from fun h => g1 h.1))
            go_wp2_with fail
            go_ret
            rw [HD.out, HE.out]
            exact ⟨rfl, by first | exact hbl | exact hbl.trans (below_drawn _ _ _)⟩
end Go.Proofs.Ytcmoajbdepohmaa
