/- Layer 13: node.Sum. -/
import Derived.Test.YtcmoajbdepohmaaNdC
import Derived.Test.YtcmoajbdepohmaaNsPlain
import Derived.RegionTactic
import Derived.BigRegion
namespace Go.Proofs.Ytcmoajbdepohmaa
open Go.RowKit Go.Oct
/-- a variable that holds a number -/
def numBox (n : Int) : Obj := .cells #[.int .i64 n] 3 (0, 0)
theorem numBox_cell {w : World} {b : Nat} {n : Int} (h : w.heap[b]? = some (numBox n)) : w.cell? ⟨b, 0, none⟩ = some (.int .i64 n) ∧ w.frozen? ⟨b, 0, none⟩ = false := by
  unfold numBox at h
  exact ⟨by rw [World.cell_block h]; rfl, by simp [World.frozen?, h]⟩
theorem numBox_set {w : World} {b : Nat} {n : Int} (h : w.heap[b]? = some (numBox n)) (m : Int) : (w.setCell ⟨b, 0, none⟩ (.int .i64 m)).heap[b]? = some (numBox m) := by
  have := heap_setCell_same w b 0 _ _ (.int .i64 m) h
  simpa [numBox] using this
def AddPost (pb pl ps : Nat) (B L S b l s : Int) (w : World) (e : Ending) (w' : World) : Prop :=
  e = .returned (.tuple #[]) ∧ w'.heap[pb]? = some (numBox (B + b)) ∧ w'.heap[pl]? = some (numBox (lnStep L l)) ∧ w'.heap[ps]? = some (numBox (S + s)) ∧ w'.heap.size = w.heap.size ∧
    w'.os = w.os ∧ w'.tape = w.tape ∧ w'.output = w.output ∧ ∀ i, i ≠ pb → i ≠ pl → i ≠ ps → w'.heap[i]? = w.heap[i]?
theorem add_end {pb pl ps : Nat} {B L S b l s X : Int} {w : World} (hb : w.heap[pb]? = some (numBox B)) (hl : w.heap[pl]? = some (numBox L)) (hs : w.heap[ps]? = some (numBox S)) (n1 : pb ≠ pl) (n2 : pb ≠ ps) (n3 : pl ≠ ps) (hX : lnStep L l = X) :
    AddPost pb pl ps B L S b l s w (.returned (.tuple #[])) (((w.setCell ⟨pb, 0, none⟩ (.int .i64 (B + b))).setCell ⟨ps, 0, none⟩ (.int .i64 (S + s))).setCell ⟨pl, 0, none⟩ (.int .i64 X)).drew := by
  subst hX
  have h1 := numBox_set hb (B + b)
  have h2 := numBox_set (w := w.setCell ⟨pb, 0, none⟩ (.int .i64 (B + b))) (b := ps) (n := S) (by rw [Below.heap_setCell _ _ _ _ (Ne.symm n2)]; exact hs) (S + s)
  have h3 := numBox_set (w := (w.setCell ⟨pb, 0, none⟩ (.int .i64 (B + b))).setCell ⟨ps, 0, none⟩ (.int .i64 (S + s))) (b := pl) (n := L) (by rw [Below.heap_setCell _ _ _ _ n3, Below.heap_setCell _ _ _ _ (Ne.symm n1)]; exact hl) (lnStep L l)
  refine ⟨rfl, ?_, h3, ?_, by simp [World.setCell], rfl, rfl, rfl, fun i e1 e2 e3 => ?_⟩
  · exact (Below.heap_setCell _ _ _ _ n1).trans ((Below.heap_setCell _ _ _ _ n2).trans h1)
  · exact (Below.heap_setCell _ _ _ _ (Ne.symm n3)).trans h2
  · exact (Below.heap_setCell _ _ _ _ e2).trans ((Below.heap_setCell _ _ _ _ e3).trans (Below.heap_setCell _ _ _ _ e1))
set_option maxHeartbeats 2000000 in
theorem add_any (pb pl ps : Nat) (B L S b l s : Int) (w : World) (hb : w.heap[pb]? = some (numBox B)) (hl : w.heap[pl]? = some (numBox L)) (hs : w.heap[ps]? = some (numBox S)) (n1 : pb ≠ pl) (n2 : pb ≠ ps) (n3 : pl ≠ ps)
    (b0 : 0 ≤ B + b) (b1 : B + b ≤ 4611686018427387904) (s0 : 0 ≤ S + s) (s1 : S + s ≤ 4611686018427387904) (l1 : L + l ≤ 4611686018427387904) (l2 : -9223372036854775808 ≤ L + l) :
    Calls Try.prog 49 #[.int .i64 b, .int .i64 l, .int .i64 s, .pointer (some ⟨pb, 0, none⟩), .pointer (some ⟨ps, 0, none⟩), .pointer (some ⟨pl, 0, none⟩)] w (AddPost pb pl ps B L S b l s w) := by
  obtain ⟨cb, fb⟩ := numBox_cell hb
  obtain ⟨cl, fl⟩ := numBox_cell hl
  obtain ⟨cs, fs⟩ := numBox_cell hs
  have hbs := (Array.getElem?_eq_some_iff.1 hb).1
  have hls := (Array.getElem?_eq_some_iff.1 hl).1
  have hss := (Array.getElem?_eq_some_iff.1 hs).1
  have wB := IntWalk.i64_in (B + b) (by omega)
  have wS := IntWalk.i64_in (S + s) (by omega)
  have wL := IntWalk.i64_in (L + l) (by omega)
  have HB := Lib.hid hb
  have HL := Lib.hid hl
  have HS := Lib.hid hs
  clear hb hl hs
  have HLS := Lib.hid (show lnStep L l = if l < 0 ∨ L < 0 then -1 else L + l from rfl)
  have n1' := Ne.symm n1
  have n2' := Ne.symm n2
  have n3' := Ne.symm n3
  by_cases g1 : l < 0
  · have HX := Lib.hid (show lnStep L l = -1 by rw [HLS.out, if_pos (.inl g1)])
    clear wL
    go_enter Try.func49, Try.ntmps49
    go_wp2_with fail
    go_region
    all_goals
      go_wp2_with fail
      go_end0
      exact add_end HB.out HL.out HS.out n1 n2 n3 HX.out
  by_cases g2 : L < 0
  · have HX := Lib.hid (show lnStep L l = -1 by rw [HLS.out, if_pos (.inr g2)])
    clear wL
    go_enter Try.func49, Try.ntmps49
    go_wp2_with fail
    go_region
    all_goals
      go_wp2_with fail
      go_end0
      exact add_end HB.out HL.out HS.out n1 n2 n3 HX.out
  have HX := Lib.hid (show lnStep L l = L + l by rw [HLS.out, if_neg (by omega)])
  go_enter Try.func49, Try.ntmps49
  go_wp2_with fail
  go_region
  all_goals
    go_wp2_with fail
    go_end0
    exact add_end HB.out HL.out HS.out n1 n2 n3 HX.out
end Go.Proofs.Ytcmoajbdepohmaa
