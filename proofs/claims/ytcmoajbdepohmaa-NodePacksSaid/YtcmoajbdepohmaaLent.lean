/- The walks of octavoref01.Lent and Kept: bytes with a mark behind them, and whether it stands. -/
import Derived.Test.YtcmoajbdepohmaaCopy
import Derived.Test.YtcmoajbdepohmaaSame
import Derived.Test.YtcmoajbdepohmaaAppend
import Derived.Deep.AppendLies
namespace Go.Proofs.Ytcmoajbdepohmaa
open Go.RowKit Go.Oct

/-- v is a slice of these bytes that lies from base on, with the mark in its room -/
def Lend (base : Nat) (w : World) (v : Value) (l : List UInt8) : Prop :=
  ∃ g cp, v = .slice (some ⟨g, 0, none⟩) l.length cp ∧ w.ownsRow base 5 1 (.slice (some ⟨g, 0, none⟩) (l.length + 3) cp) (l.length + 3) (bs (l ++ [165, 90, 165]))
theorem Lend.below {base : Nat} {w w' : World} {v : Value} {l : List UInt8} (h : Lend base w v l) (k : Below w.heap.size w w') : Lend base w' v l := by
  obtain ⟨g, cp, hv, ho⟩ := h
  exact ⟨g, cp, hv, own_keep ho k⟩
theorem own_sub0 {w : World} {base g cp n : Nat} {e : TypeId} {l m : List UInt8} (h : w.ownsRow base e 1 (.slice (some ⟨g, 0, none⟩) n cp) n (bs (l ++ m))) (hn : l.length ≤ n) :
    Bytes w (.slice (some ⟨g, 0, none⟩) l.length cp) l := by
  obtain ⟨h1, h2⟩ : n ≤ cp ∧ cp ≤ maxLen := by
    rcases h.2 with ⟨h', _⟩ | ⟨g', cap', cur, h', hb, hg, hnc, hcm, hcs, htake⟩
    · simp at h'
    · simp only [Value.slice.injEq, Option.some.injEq, Addr.mk.injEq, and_true, true_and] at h'
      obtain ⟨rfl, rfl⟩ := h'
      exact ⟨hnc, hcm⟩
  refine ⟨_, _, rfl, by omega, h2, fun _ => ⟨g, 0, rfl, fun i x hi => ?_⟩⟩
  have hil : i < l.length := by have := (List.getElem?_eq_some_iff.1 hi).1; rwa [bs_length] at this
  rw [Nat.zero_add, h.cellAt i (by omega), bs_append, List.getElem?_append_left (by rw [bs_length]; exact hil)]
  exact hi
theorem Lend.bytes {base : Nat} {w : World} {v : Value} {l : List UInt8} (h : Lend base w v l) : Bytes w v l := by
  obtain ⟨g, cp, rfl, ho⟩ := h
  exact own_sub0 ho (by omega)
set_option maxHeartbeats 400000 in
theorem lent_any (v : Value) (l : List UInt8) (w : World) (hb : Bytes w v l) (hl : l.length ≤ 140737488355320) :
    Calls Try.prog 19 #[v] w fun e w' => ∃ v', e = .returned v' ∧ Lend w.heap.size w' v' l ∧ Below w.heap.size w w' := by
  obtain ⟨a, cap, rfl, hcap, hmax, _⟩ := hb.open
  unfold maxLen at hmax
  obtain ⟨i0, hi, hz0, hz1, hz2⟩ := info_parts infoU8
  have HA := Lib.hid (bs_append l [165, 90, 165])
  go_enter Try.func19, Try.ntmps19
  go_wp2_with fail
  refine (copy_any _ _ _ hb (by omega)).mono ?_
  rintro e w1 ⟨v', rfl, hown, hx⟩
  have hs := hx.size
  clear hb
  go_wp2_with (at_builtin; refine wpList_append_lies _ rfl _ _ 22 rfl w.heap.size 5 i0 (.int .u8 0) 1 1 Try.underlying22 hi hz0 hz1 hz2 rfl (by decide) _ _ _ rfl (hown.alloc _) ⟨w1.heap.size, 0, none⟩ 3 3 (bs [165, 90, 165]) rfl rfl ?c1 ?c2 ?c3 ?c4 ?c5 ?c6 (w1.heap.size + 1) ?c7 ?_)
  case c1 => exact World.news_of_block (heap_last rfl)
  case c2 => exact bs_one _
  case c3 => decide
  case c4 => unfold maxLen; omega
  case c5 => omega
  case c6 => simp; omega
  case c7 => simp
  intro g cp w2 hown' hgrow _ _
  have hx2 : Below w.heap.size w w2 := (hx.alloc hs _).grown hgrow (by simp; omega) (fun k hk => (hown.lt k hk).1)
  rw [← HA.out] at hown'
  have hcp : l.length + 3 ≤ cp := by
    rcases hown'.2 with ⟨h', _⟩ | ⟨g', cap', cur, h', hb, hg, hnc, hcm, hcs, htake⟩
    · simp at h'
    · simp only [Value.slice.injEq, Option.some.injEq, Addr.mk.injEq, and_true, true_and] at h'
      obtain ⟨rfl, rfl⟩ := h'
      exact hnc
  have q1 : (l.length : Int) ≤ (cp : Int) := by omega
  clear hgrow hown hx
  go_wp2_with fail
  go_ret
  exact ⟨_, rfl, ⟨g, cp, rfl, hown'⟩, hx2⟩
set_option maxHeartbeats 400000 in
theorem kept_any (base : Nat) (v vb : Value) (l : List UInt8) (w : World) (hv : Lend base w v l) (hb : Bytes w vb l) (hl : l.length ≤ 140737488355320) :
    Calls Try.prog 22 #[v, vb] w (Asked true w) := by
  have hB := hv.bytes
  obtain ⟨g, cp, rfl, hown⟩ := hv
  obtain ⟨a, cap, rfl, _, _, _⟩ := hb.open
  have hcp : l.length + 3 ≤ cp := by
    rcases hown.2 with ⟨h', _⟩ | ⟨g', cap', cur, h', hb, hg, hnc, hcm, hcs, htake⟩
    · simp at h'
    · simp only [Value.slice.injEq, Option.some.injEq, Addr.mk.injEq, and_true, true_and] at h'
      obtain ⟨rfl, rfl⟩ := h'
      exact hnc
  have q1 : (l.length : Int) + 3 ≤ (cp : Int) := by omega
  have HO := Lib.hid hown
  clear hown
  go_enter Try.func22, Try.ntmps22
  go_wp2_with fail
  refine (same_any _ _ l l _ hB hb).mono ?_
  rintro e w1 ⟨rfl, hx⟩
  rw [decide_eq_true rfl]
  have hown1 := own_keep HO.out hx
  have c0 : w1.cell? ⟨g, l.length, none⟩ = some (.int .u8 165) := by rw [hown1.cellAt _ (by omega), bs_append, List.getElem?_append_right (by rw [bs_length]; omega)]; simp [bs]
  have c1 : w1.cell? ⟨g, l.length + 1, none⟩ = some (.int .u8 90) := by rw [hown1.cellAt _ (by omega), bs_append, List.getElem?_append_right (by rw [bs_length]; omega)]; simp [bs]
  have c2 : w1.cell? ⟨g, l.length + 2, none⟩ = some (.int .u8 165) := by rw [hown1.cellAt _ (by omega), bs_append, List.getElem?_append_right (by rw [bs_length]; omega)]; simp [bs]
  clear hown1 hB hb
  go_wp2_with fail
  go_ret
  exact ⟨rfl, hx⟩
end Go.Proofs.Ytcmoajbdepohmaa
