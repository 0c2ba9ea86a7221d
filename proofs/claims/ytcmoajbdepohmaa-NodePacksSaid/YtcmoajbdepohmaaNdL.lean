/- Layer 13: the answers that are fixed: octavolaw13.awake answers true. -/
import Derived.Test.YtcmoajbdepohmaaNdI
import Derived.Test.YtcmoajbdepohmaaNdK
namespace Go.Proofs.Ytcmoajbdepohmaa
open Go.RowKit Go.Oct
def wakeQ : List Quad := [(1, 3, 5, 1)]
def wakeB : List UInt8 := [1, 1, 3, 0, 0, 0, 5, 0, 0, 0, 1, 0, 0, 0]
theorem Quads.form {w : World} {v : Value} {l : List Quad} (h : Quads w v l) : ∃ a cap, v = .slice a l.length cap := by
  obtain ⟨a, c, h, _⟩ := h; exact ⟨_, _, h⟩
theorem Quads.below {w w' : World} {v : Value} {l : List Quad} (h : Quads w v l) (k : Below w.heap.size w w') : Quads w' v l := Has.below h k
theorem Quads.alloc {w : World} {v : Value} {l : List Quad} (h : Quads w v l) (o : Obj) : Quads (w.alloc o) v l := Has.alloc h o
theorem wake_pack : ndPack true wakeQ [] = wakeB ∧ ndKind true wakeQ [] = 1 ∧ ndCode true wakeQ [] = 0 := by decide +kernel
theorem wake_open : noLeaf 1 wakeB = true ∧ noCode 1 wakeB = 0 ∧ noEs 1 wakeB = wakeQ ∧ noKs 1 wakeB = [] := by decide +kernel
theorem wake_sum : smB true wakeQ [] = 5 ∧ smL true wakeQ [] = 1 ∧ smS true wakeQ [] = 1 := by decide +kernel
set_option maxHeartbeats 1000000 in
theorem awake13_any (w : World) : Calls Try.prog 35 #[] w fun e w' => e = .returned (.bool true) ∧ Below w.heap.size w w' := by
  have HP := Lib.hid wake_pack
  have HO := Lib.hid wake_open
  have HS := Lib.hid wake_sum
  go_enter Try.func35, Try.ntmps35
  go_wp2_with fail
  have HQ := Lib.hid (show Quads (w.alloc (.cells #[.int .i64 1, .int .i64 3, .int .i64 5, .int .i64 1] 80)) (.slice (some ⟨w.heap.size, 0, none⟩) 1 1) wakeQ from has_quad (x := (1, 3, 5, 1)) (heap_last rfl))
  have hw1 := below_new (below_new (Below.refl _ w) (.cells #[.int .i64 1, .int .i64 3, .int .i64 5, .int .i64 1] 80)) (ndBox true (.slice (some ⟨w.heap.size, 0, none⟩) 1 1) (.slice none 0 0))
  refine (nodePack_any true _ _ wakeQ [] _ (HQ.out.alloc _) (Quads.nil _) (by decide) (by decide)).mono ?_
  rintro e w2 ⟨vb, rfl, hown, hx⟩
  rw [HP.out.2.1, HP.out.2.2]
  rw [HP.out.1] at hown
  have HB := Lib.hid (show Bytes w2 vb wakeB from Bytes.own hown)
  have hw2 := below_step hw1 hx
  clear hown hx hw1
  go_wp2_with fail
  refine (nodeOpen_any 1 vb wakeB _ HB.out (by decide)).mono ?_
  rintro e w3 ⟨ve, vk, rfl, hqe, hqk, hx⟩
  obtain ⟨o1, o2, o3, o4⟩ := HO.out
  rw [o1, o2]
  rw [o3] at hqe
  rw [o4] at hqk
  obtain ⟨ea, ec, rfl⟩ := hqe.form
  obtain ⟨ka, kc, rfl⟩ := hqk.form
  have HB3 := Lib.hid (HB.out.below hx)
  have HE := Lib.hid hqe
  have HK := Lib.hid hqk
  have hw3 := below_step hw2 hx
  clear hqe hqk hx hw2 o1 o2 o3 o4 HB
  go_wp2_with fail
  refine (nodeSum_any true _ _ wakeQ [] _ (HE.out.alloc _) (HK.out.alloc _) (by decide) (by decide)).mono ?_
  rintro e w4 ⟨rfl, hx⟩
  rw [HS.out.1, HS.out.2.1, HS.out.2.2]
  have HB4 := Lib.hid ((HB3.out.alloc _).below hx)
  have hw4 := below_step (below_new hw3 _) hx
  obtain ⟨ba, bc, rfl⟩ : ∃ a c, vb = .slice a wakeB.length c := by obtain ⟨a, c, h, _⟩ := HB4.out; exact ⟨_, _, h⟩
  clear hx hw3
  go_wp2_with fail
  refine (same_yes _ _ wakeB _ (HB4.out.alloc _) (Bytes.block (heap_last rfl) rfl (by decide) (by decide) rfl)).mono ?_
  rintro e w5 ⟨rfl, hx⟩
  have hw5 := below_step (below_new hw4 _) hx
  clear hx hw4
  go_wp2_with fail
  go_ret
  exact ⟨rfl, hw5⟩
end Go.Proofs.Ytcmoajbdepohmaa
