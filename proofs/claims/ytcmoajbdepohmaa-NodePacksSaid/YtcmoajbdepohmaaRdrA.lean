/- The walks of the package le's reader: On, next, Int, Take, Zeros, Left, Place. -/
import Derived.Test.YtcmoajbdepohmaaLeC
import Derived.Test.YtcmoajbdepohmaaSame
import Derived.Test.YtcmoajbdepohmaaRely
namespace Go.Proofs.Ytcmoajbdepohmaa
open Go.RowKit Go.Oct

/-- block g is a reader of these bytes, of which so many were read; it and its bytes lie from base on -/
def Reader (base : Nat) (w : World) (g : Nat) (l : List UInt8) (at_ : Nat) : Prop :=
  base ≤ g ∧ at_ ≤ l.length ∧ l.length ≤ 140737488355328 ∧ ∃ gb cp, w.heap[g]? = some (.cells #[.slice (some ⟨gb, 0, none⟩) l.length cp, .int .i64 (at_ : Int)] 76 (0, 0)) ∧ w.ownsRow base 5 1 (.slice (some ⟨gb, 0, none⟩) l.length cp) l.length (bs l)
theorem own_none (w : World) (base : Nat) (h : base ≤ w.heap.size) : (w.alloc (.cells #[] 5)).ownsRow base 5 1 (.slice (some ⟨w.heap.size, 0, none⟩) 0 0) 0 [] :=
  World.ownsRow_made w #[] 0 h (by decide) (by simp)
set_option maxHeartbeats 400000 in
theorem on_any (v : Value) (l : List UInt8) (w : World) (hb : Bytes w v l) (hl : l.length ≤ 140737488355328) :
    Calls Try.prog 23 #[v] w fun e w' => ∃ g, e = .returned (.pointer (some ⟨g, 0, none⟩)) ∧ Reader w.heap.size w' g l 0 ∧ Below w.heap.size w w' := by
  obtain ⟨a, cap, rfl, hcap, hmax, hcells⟩ := hb.open
  unfold maxLen at hmax
  obtain ⟨i0, hi, hz0, hz1, hz2⟩ := info_parts infoU8
  by_cases h0 : l.length = 0
  · have hl0 : l = [] := List.eq_nil_of_length_eq_zero h0
    subst hl0
    simp only [List.length_nil]
    have hown0 := own_none w w.heap.size (Nat.le_refl _)
    cases a with
    | none =>
      clear hcells hb h0 hcap
      go_enter Try.func23, Try.ntmps23
      go_wp2
      go_ret
      exact ⟨_, rfl, ⟨by simp, Nat.zero_le _, by simp, _, _, heap_last (by simp), hown0.alloc _⟩, below_new (below_new (Below.refl _ _) _) _⟩
    | some ad =>
      have HN := Lib.hid (show ∀ j u, ([] : List Value)[j]? = some u → (w.alloc (.cells #[] 5)).cell? (ad.add j) = some u by intro j u h; simp at h)
      clear hcells hb h0 hcap
      go_enter Try.func23, Try.ntmps23
      go_wp2_with (at_builtin; refine wpList_append_own _ rfl _ _ 22 rfl w.heap.size 5 i0 (.int .u8 0) 1 1 Try.underlying22 hi hz0 hz1 hz2 rfl (by decide) _ _ _ rfl hown0 ad 0 cap [] rfl rfl HN.out ?c2 ?c3 ?c4 ?c5 ?_)
      case c2 => intro u hu; simp at hu
      case c3 => decide
      case c4 => decide
      case c5 => simp
      intro v' w1 hown' hgrow hnil
      have hnx1 : Below w.heap.size w w1 := ((Below.refl _ _).alloc (Nat.le_refl _) _).grown hgrow (by simp) (fun k hk => (hown0.lt k hk).1)
      obtain ⟨g, cp, rfl⟩ : ∃ g cp, v' = .slice (some ⟨g, 0, none⟩) 0 cp := by
        rcases hown'.2 with ⟨h, _⟩ | ⟨g, cp, _, h, _⟩
        · exact (hnil h).elim
        · exact ⟨g, cp, h⟩
      clear hgrow hown0 hi hz0 hz1 hz2 hnil
      go_wp2
      go_ret
      exact ⟨_, rfl, ⟨hnx1.size, Nat.zero_le _, by simp, _, _, heap_last rfl, hown'.alloc _⟩, below_new hnx1 _⟩
  · obtain ⟨b, o, rfl, hcs⟩ := hcells (by omega)
    have hbB : b < w.heap.size := World.block_lt_of_cell? w _ (hcs 0 (by omega))
    have HN := Lib.hid (show ∀ j u, (bs l)[j]? = some u → (w.alloc (.cells #[] 5)).cell? ((⟨b, o, none⟩ : Addr).add j) = some u by
      intro j u hj
      have hjl : j < l.length := by have := (List.getElem?_eq_some_iff.1 hj).1; rwa [bs_length] at this
      rw [bs_get l j hjl] at hj
      have e : (⟨b, o, none⟩ : Addr).add j = ⟨b, o + j, none⟩ := by unfold Addr.add; split <;> simp_all
      rw [e]
      exact ((((Below.refl _ _).alloc (Nat.le_refl _) _).cell (by simpa using hbB)).trans (hcs j hjl)).trans hj)
    have hone : ∀ u ∈ bs l, u.oneCell' = true := by intro u hu; simp [bs] at hu; obtain ⟨x, _, rfl⟩ := hu; rfl
    have HO := Lib.hid hone
    have hown0 := own_none w w.heap.size (Nat.le_refl _)
    clear hcells hb hcs hone
    go_enter Try.func23, Try.ntmps23
    go_wp2_with (at_builtin; refine wpList_append_own _ rfl _ _ 22 rfl w.heap.size 5 i0 (.int .u8 0) 1 1 Try.underlying22 hi hz0 hz1 hz2 rfl (by decide) _ _ _ rfl hown0 ⟨b, o, none⟩ l.length cap (bs l) rfl ?c0 ?c1 ?c2 ?c3 ?c4 ?c5 ?_)
    case c0 => rw [bs_length, Nat.mul_one]
    case c1 => exact HN.out
    case c2 => exact HO.out
    case c3 => unfold maxLen; omega
    case c4 => omega
    case c5 => simp
    intro v' w1 hown' hgrow _
    obtain ⟨g, cp, rfl, _⟩ := hown'.form (by omega)
    have hnx1 : Below w.heap.size w w1 := ((Below.refl _ _).alloc (Nat.le_refl _) _).grown hgrow (by simp) (fun k hk => (hown0.lt k hk).1)
    clear hgrow hown0 hi hz0 hz1 hz2
    go_wp2
    go_ret
    exact ⟨_, rfl, ⟨hnx1.size, Nat.zero_le _, hl, _, _, heap_last rfl, hown'.alloc _⟩, below_new hnx1 _⟩
theorem own_cap {w : World} {base : Nat} {e : TypeId} {size g n cp : Nat} {xs : List Value} (h : w.ownsRow base e size (.slice (some ⟨g, 0, none⟩) n cp) n xs) : n ≤ cp ∧ cp ≤ maxLen := by
  rcases h.2 with ⟨h', _⟩ | ⟨g', cap', cur, h', hb, hg, hnc, hcm, hcs, htake⟩
  · simp at h'
  · simp only [Value.slice.injEq, Option.some.injEq, Addr.mk.injEq, and_true, true_and] at h'
    obtain ⟨rfl, rfl⟩ := h'
    exact ⟨hnc, hcm⟩
theorem own_sub {w : World} {base g cp : Nat} {e : TypeId} {l : List UInt8} (h : w.ownsRow base e 1 (.slice (some ⟨g, 0, none⟩) l.length cp) l.length (bs l)) (a m : Nat) (hm : a + m ≤ l.length) :
    Bytes w (.slice (some ⟨g, a, none⟩) m (cp - a)) ((l.drop a).take m) := by
  obtain ⟨h1, h2⟩ := own_cap h
  have hl : ((l.drop a).take m).length = m := by simp; omega
  unfold Bytes
  rw [hl]
  refine ⟨_, _, rfl, by omega, by omega, fun _ => ⟨g, a, rfl, fun i x hi => ?_⟩⟩
  have hil : i < m := by have := (List.getElem?_eq_some_iff.1 hi).1; rwa [bs_length, hl] at this
  rw [h.cellAt (a + i) (by omega), ← hi]
  simp [bs, hil]
/-- how a reading of the next n bytes is refused -/
def nextCode (n : Int) (left : Nat) : Nat := if n < 0 then 1 else if (left : Int) < n then 3 else 0
theorem Reader.left {base : Nat} {w : World} {g : Nat} {l : List UInt8} {at_ : Nat} (h : Reader base w g l at_) : at_ ≤ l.length ∧ l.length ≤ 140737488355328 := ⟨h.2.1, h.2.2.1⟩
def nextBytes (l : List UInt8) (at_ : Nat) (n : Int) : List UInt8 := if nextCode n (l.length - at_) = 0 then (l.drop at_).take n.toNat else []
def NextPost (l : List UInt8) (at_ : Nat) (n : Int) (w : World) (e : Ending) (w' : World) : Prop :=
  ∃ v, e = .returned (.tuple #[v, .int .i64 (nextCode n (l.length - at_) : Nat)]) ∧ Bytes w' v (nextBytes l at_ n) ∧ Below w.heap.size w w'
set_option maxHeartbeats 400000 in
theorem next_any (base g : Nat) (l : List UInt8) (at_ : Nat) (n : Int) (w : World) (hr : Reader base w g l at_) (hn1 : n ≤ 9223372036854775807) :
    Calls Try.prog 44 #[.pointer (some ⟨g, 0, none⟩), .int .i64 n] w (NextPost l at_ n w) := by
  obtain ⟨_, hat, hl, gb, cp, hg, hown⟩ := hr
  have c0 : w.cell? ⟨g, 0, none⟩ = some (.slice (some ⟨gb, 0, none⟩) l.length cp) := by rw [World.cell_block hg]; rfl
  have c1 : w.cell? ⟨g, 1, none⟩ = some (.int .i64 (at_ : Int)) := by rw [World.cell_block hg]; rfl
  have HO := Lib.hid hown
  clear hg hown
  by_cases h1 : n < 0
  · have HC := Lib.hid (show nextCode n (l.length - at_) = 1 by unfold nextCode; rw [if_pos h1])
    go_enter Try.func44, Try.ntmps44
    go_wp2
    go_ret2
    refine ⟨.slice none 0 0, by rw [HC.out]; rfl, ?_, Below.refl _ _⟩
    simp only [nextBytes, HC.out]
    exact Bytes.nil _
  · obtain ⟨m, rfl⟩ := Int.eq_ofNat_of_zero_le (Int.not_lt.1 h1)
    have hs : IntKind.i64.wrap ((l.length : Int) - (at_ : Int)) = (l.length : Int) - (at_ : Int) := IntWalk.i64_in _ (by omega)
    have hatI : (at_ : Int) ≤ (l.length : Int) := by omega
    by_cases h2 : l.length - at_ < m
    · have HC := Lib.hid (show nextCode (m : Int) (l.length - at_) = 3 by unfold nextCode; rw [if_neg h1, if_pos (by omega)])
      have ht : (l.length : Int) - (at_ : Int) < (m : Int) := by omega
      go_enter Try.func44, Try.ntmps44
      go_wp2
      go_quiet (fail)
      go_wp2
      go_ret2
      refine ⟨.slice none 0 0, by rw [HC.out]; rfl, ?_, below_drawn _ _ _⟩
      simp only [nextBytes, HC.out]
      exact Bytes.nil _
    · have HC := Lib.hid (show nextCode (m : Int) (l.length - at_) = 0 by unfold nextCode; rw [if_neg h1, if_neg (by omega)])
      have ht : ¬ (l.length : Int) - (at_ : Int) < (m : Int) := by omega
      have hcap := own_cap HO.out
      have hmx := hcap.2
      unfold maxLen at hmx
      have hs2 : IntKind.i64.wrap ((at_ : Int) + (m : Int)) = (at_ : Int) + (m : Int) := IntWalk.i64_in _ (by omega)
      have q0 : (0 : Int) ≤ (at_ : Int) := by omega
      have q1 : (at_ : Int) ≤ (at_ : Int) + (m : Int) := by omega
      have q2 : (at_ : Int) + (m : Int) ≤ (cp : Int) := by omega
      have q3 : ((at_ : Int) + (m : Int)).toNat = at_ + m := by omega
      clear hcap hmx
      have hmm : at_ + m ≤ l.length := by omega
      have HB := Lib.hid (own_sub HO.out at_ m hmm)
      have HX := Lib.hid (show nextBytes l at_ (m : Int) = (l.drop at_).take m by simp [nextBytes, HC.out])
      by_cases hc : cp = at_
      · have hm0 : m = 0 := by omega
        have HM := Lib.hid hm0
        go_enter Try.func44, Try.ntmps44
        go_wp2
        go_quiet (fail)
        go_wp2
        go_quiet (fail)
        go_wp2
        go_ret2
        refine ⟨_, by rw [HC.out]; rfl, ?_, (below_drawn _ _ _).trans (below_drawn _ _ _)⟩
        rw [HX.out, HM.out, List.take_zero]
        refine ⟨_, _, rfl, ?_, ?_, fun h => by simp [bs] at h⟩
        · simp
        · unfold maxLen; omega
      · go_enter Try.func44, Try.ntmps44
        go_wp2
        go_quiet (fail)
        go_wp2
        go_quiet (fail)
        go_wp2
        go_ret2
        refine ⟨_, by rw [HC.out]; rfl, ?_, (below_drawn _ _ _).trans (below_drawn _ _ _)⟩
        rw [HX.out]
        exact (HB.out.below (below_drawn _ _ _)).below (below_drawn _ _ _)
end Go.Proofs.Ytcmoajbdepohmaa
