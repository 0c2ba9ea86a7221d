/- A row that may begin in the midst of its block ('s = s[1:]', then 'append(s, x)'): its laws. No program is named here. -/
import Derived.Test.YtdofdegicdkhlaaAppend
import Derived.Test.YtdofdegicdkhlaaFull
import Derived.Laws.AppendOwn
import Derived.ArgAppend
namespace Go.Oct
open Go.RowKit
/-- v is nil, or n elements of a block, from some cell on; what its capacity is lies in the block; row: the block -/
def OffRow (w : World) (e : TypeId) (size : Nat) (v : Value) (n : Nat) (xs : List Value) (row : Option Nat) : Prop :=
  xs.length = n * size ∧ ((v = .slice none 0 0 ∧ n = 0 ∧ row = none) ∨
    ∃ g o cap cs, v = .slice (some ⟨g, o, none⟩) n cap ∧ row = some g ∧ w.heap[g]? = some (.cells cs e (0, 0)) ∧ n ≤ cap ∧ cap ≤ maxLen ∧ o + cap * size ≤ cs.size ∧ (cs.toList.drop o).take (n * size) = xs)
theorem OffRow.own {w : World} {base size n : Nat} {e : TypeId} {v : Value} {xs : List Value} (h : w.ownsRow base e size v n xs) : OffRow w e size v n xs v.ownBlock := by
  refine ⟨h.1, ?_⟩
  rcases h.2 with ⟨rfl, rfl⟩ | ⟨g, cap, cur, rfl, _, hg, hnc, hcm, hcs, ht⟩
  · exact .inl ⟨rfl, rfl, rfl⟩
  · exact .inr ⟨g, 0, cap, cur, rfl, rfl, hg, hnc, hcm, by rw [hcs, Nat.zero_add]; exact Nat.le_refl _, by rw [List.drop_zero]; exact ht⟩
theorem OffRow.has {w : World} {size n : Nat} {e : TypeId} {v : Value} {xs : List Value} {row : Option Nat} (h : OffRow w e size v n xs row) : Has w v n xs := by
  rcases h.2 with ⟨rfl, rfl, _⟩ | ⟨g, o, cap, cs, rfl, _, hg, h1, h2, _, h3⟩
  · have : xs = [] := List.eq_nil_of_length_eq_zero (by simpa using h.1)
    subst this
    exact ⟨none, 0, rfl, Nat.le_refl _, by decide, fun h => by simp at h⟩
  · refine ⟨_, _, rfl, h1, h2, fun _ => ⟨g, o, rfl, fun i x hi => ?_⟩⟩
    rw [World.cell_block hg]
    rw [← h3, List.getElem?_take] at hi
    split at hi
    · rw [List.getElem?_drop] at hi
      simpa using hi
    · cases hi
theorem OffRow.kept {w w' : World} {size n : Nat} {e : TypeId} {v : Value} {xs : List Value} {row row' : Option Nat} (h : OffRow w e size v n xs row) (k : w.grownBy w' row') (hne : ∀ i, row = some i → row' = some i → False) : OffRow w' e size v n xs row := by
  refine ⟨h.1, ?_⟩
  rcases h.2 with h | ⟨g, o, cap, cs, hv, hr, hg, r⟩
  · exact .inl h
  · exact .inr ⟨g, o, cap, cs, hv, hr, box_grown hg k (fun e => hne g hr e), r⟩
theorem OffRow.below {w w' : World} {size n : Nat} {e : TypeId} {v : Value} {xs : List Value} {row : Option Nat} (h : OffRow w e size v n xs row) (k : Below w.heap.size w w') : OffRow w' e size v n xs row := by
  refine ⟨h.1, ?_⟩
  rcases h.2 with h | ⟨g, o, cap, cs, hv, hr, hg, r⟩
  · exact .inl h
  · exact .inr ⟨g, o, cap, cs, hv, hr, box_below hg k, r⟩
theorem OffRow.lt {w : World} {size n : Nat} {e : TypeId} {v : Value} {xs : List Value} {row : Option Nat} (h : OffRow w e size v n xs row) : ∀ i, row = some i → i < w.heap.size := by
  intro i hi
  rcases h.2 with ⟨_, _, h⟩ | ⟨g, o, cap, cs, hv, hr, hg, r⟩
  · rw [h] at hi; cases hi
  · rw [hr] at hi
    have := Option.some.inj hi
    have := (Array.getElem?_eq_some_iff.1 hg).1
    omega
theorem OffRow.shape {w : World} {size n : Nat} {e : TypeId} {v : Value} {xs : List Value} {row : Option Nat} (h : OffRow w e size v n xs row) (hn : 0 < n) :
    ∃ g o cap, v = .slice (some ⟨g, o, none⟩) n cap ∧ n ≤ cap ∧ cap ≤ maxLen := by
  rcases h.2 with ⟨_, h, _⟩ | ⟨g, o, cap, cs, hv, hr, hg, h1, h2, r⟩
  · omega
  · exact ⟨g, o, cap, hv, h1, h2⟩
theorem OffRow.form {w : World} {size n : Nat} {e : TypeId} {v : Value} {xs : List Value} {row : Option Nat} (h : OffRow w e size v n xs row) : ∃ a cap, v = .slice a n cap := by
  rcases h.2 with ⟨hv, h, _⟩ | ⟨g, o, cap, cs, hv, _⟩
  · subst h; exact ⟨_, _, hv⟩
  · exact ⟨_, _, hv⟩
/-- the first ones -/
theorem OffRow.front {w : World} {size n g o cap : Nat} {e : TypeId} {xs : List Value} {row : Option Nat} (h : OffRow w e size (.slice (some ⟨g, o, none⟩) n cap) n xs row) (m : Nat) (hm : m ≤ n) :
    OffRow w e size (.slice (some ⟨g, o, none⟩) m cap) m (xs.take (m * size)) row := by
  rcases h.2 with ⟨hv, _⟩ | ⟨g', o', cap', cs, hv, hr, hg, h1, h2, h3, h4⟩
  · simp at hv
  · simp only [Value.slice.injEq, Option.some.injEq, Addr.mk.injEq, and_true, true_and] at hv
    obtain ⟨⟨rfl, rfl⟩, rfl⟩ := hv
    have hle : m * size ≤ n * size := Nat.mul_le_mul_right _ hm
    refine ⟨by rw [List.length_take, h.1]; omega, .inr ⟨g, o, cap, cs, rfl, hr, hg, by omega, h2, h3, ?_⟩⟩
    rw [← h4, List.take_take, Nat.min_eq_left hle]
/-- all but the first -/
theorem OffRow.rest {w : World} {size n g o cap : Nat} {e : TypeId} {xs : List Value} {row : Option Nat} (h : OffRow w e size (.slice (some ⟨g, o, none⟩) (n + 1) cap) (n + 1) xs row) :
    OffRow w e size (.slice (some ⟨g, o + size, none⟩) n (cap - 1)) n (xs.drop size) row := by
  rcases h.2 with ⟨hv, _⟩ | ⟨g', o', cap', cs, hv, hr, hg, h1, h2, h3, h4⟩
  · simp at hv
  · simp only [Value.slice.injEq, Option.some.injEq, Addr.mk.injEq, and_true, true_and] at hv
    obtain ⟨⟨rfl, rfl⟩, rfl⟩ := hv
    have e1 : (n + 1) * size = size + n * size := by rw [Nat.add_mul, Nat.one_mul, Nat.add_comm]
    have e2 : cap * size = size + (cap - 1) * size := by
      obtain ⟨c, rfl⟩ : ∃ c, cap = c + 1 := ⟨cap - 1, by omega⟩
      rw [Nat.add_mul, Nat.one_mul, Nat.add_comm, Nat.add_sub_cancel]
    refine ⟨by rw [List.length_drop, h.1, e1, Nat.add_sub_cancel_left], .inr ⟨g, o + size, cap - 1, cs, rfl, hr, hg, by omega, by unfold maxLen at h2 ⊢; omega, by rw [e2] at h3; omega, ?_⟩⟩
    rw [← h4, e1, List.drop_take, ← List.drop_drop, Nat.add_sub_cancel_left]
/-- an empty row at the last place, where the cut keeps its address -/
theorem OffRow.last {w : World} {size g o : Nat} {e : TypeId} {xs : List Value} {row : Option Nat} (h : OffRow w e size (.slice (some ⟨g, o, none⟩) 1 1) 1 xs row) :
    OffRow w e size (.slice (some ⟨g, o, none⟩) 0 0) 0 [] row := by
  rcases h.2 with ⟨hv, _⟩ | ⟨g', o', cap', cs, hv, hr, hg, h1, h2, h3, h4⟩
  · simp at hv
  · simp only [Value.slice.injEq, Option.some.injEq, Addr.mk.injEq, and_true, true_and] at hv
    obtain ⟨⟨rfl, rfl⟩, rfl⟩ := hv
    exact ⟨by simp, .inr ⟨g, o, 0, cs, rfl, hr, hg, Nat.le_refl _, by decide, by omega, by simp⟩⟩
theorem run_append_off {P : Program} (w : World) (t ty e : TypeId) (i : TypeInfo) (z : Value) (size bytes : Nat) (ht : P.underlying t = some (.slice e)) (hi : P.info? e = some i) (hz : i.zero = some z)
    (hsize : i.size = size) (hby : i.bytes = bytes) (hzs : z.cells.size = size) (hsz : 0 < size)
    (v : Value) (n : Nat) (xs : List Value) (row : Option Nat) (hown : OffRow w e size v n xs row)
    (a : Addr) (m c : Nat) (news : List Value) (hl : news.length = m * size) (hnews : ∀ j u, news[j]? = some u → w.cell? (a.add j) = some u) (h1 : ∀ u ∈ news, u.oneCell' = true)
    (h63 : n + m ≤ maxLen) (hbytes : (n + m) * bytes ≤ 140737488355328) :
    ∃ v' w' row', (Builtin.append_ #[t, t] ty #[v, .slice (some a) m c]).run P w = .ok v' w' ∧ OffRow w' e size v' (n + m) (xs ++ news) row' ∧ w.grownBy w' row ∧ (row' = row ∨ ∃ r, row' = some r ∧ w.heap.size ≤ r) := by
  rcases hown.2 with ⟨rfl, rfl, rfl⟩ | ⟨g, o, cap, cs, rfl, rfl, hg, hnc, hcm, hcs, htake⟩
  · have hx : xs = [] := List.eq_nil_of_length_eq_zero (by simpa using hown.1)
    subst hx
    obtain ⟨v', w', hr, ho, hgr, _⟩ := run_append_own (P := P) w w.heap.size t ty e i z size bytes ht hi hz hsize hby hzs hsz (.slice none 0 0) 0 [] (World.ownsRow_nil _ _ _ _) a m c news hl hnews h1 h63 hbytes (Nat.le_refl _)
    refine ⟨v', w', v'.ownBlock, hr, OffRow.own ho, hgr, ?_⟩
    cases hvo : v'.ownBlock with
    | none => exact .inl rfl
    | some r => exact .inr ⟨r, rfl, (ho.lt r hvo).1⟩
  · by_cases hroom : n + m ≤ cap
    · subst hsize
      have hfit : o + n * i.size + news.length ≤ cs.size := by
        have : (n + m) * i.size ≤ cap * i.size := Nat.mul_le_mul_right _ hroom
        rw [Nat.add_mul] at this
        rw [hl]; omega
      have hf := run_firstCells_some (P := P) w i.size m a m c news hl hnews
      have hst := run_storeCells_at P g (o + n * i.size) e news 0 cs w hg (by simpa using hfit) h1
      simp only [Nat.add_zero] at hst
      have hr : (Builtin.append_ #[t, t] ty #[.slice (some ⟨g, o, none⟩) n cap, .slice (some a) m c]).run P w =
          .ok (.slice (some ⟨g, o, none⟩) (n + m) cap) (w.setRow g (cs.toList.take (o + n * i.size) ++ news ++ cs.toList.drop (o + n * i.size + news.length)).toArray) := by
        simp [Builtin.append_, run_underlying ht, sizeOf, typeInfo, hi, Builtin.lenOf, hroom, hf, Addr.add_lit, hst]
      refine ⟨_, _, some g, hr, ⟨by rw [List.length_append, hown.1, hl, Nat.add_mul], .inr ⟨g, o, cap, _, rfl, rfl, setRow_heap w g cs _ e _ hg, hroom, hcm, ?_, ?_⟩⟩, ⟨rfl, rfl, rfl, by simp, fun k _ hk => setRow_other w g k _ (fun e => hk (by rw [e]))⟩, .inl rfl⟩
      · simp only [List.size_toArray, List.length_append, List.length_take, List.length_drop, Array.length_toList]
        omega
      · have hxl := hown.1
        have e0 : (cs.toList.take (o + n * i.size)).drop o = xs := by
          rw [List.drop_take, Nat.add_sub_cancel_left]; exact htake
        have hol : o ≤ (cs.toList.take (o + n * i.size)).length := by
          simp only [List.length_take, Array.length_toList]; omega
        simp only [List.append_assoc]
        rw [List.drop_append_of_le_length hol, e0, ← List.append_assoc]
        have : (xs ++ news).length = (n + m) * i.size := by rw [List.length_append, hxl, hl, Nat.add_mul]
        rw [← this, List.take_left]
    · have holds : ∀ j u, xs[j]? = some u → w.cell? ((⟨g, o, none⟩ : Addr).add j) = some u := by
        intro j u hj
        rw [Addr.add_lit, World.cell_block hg]
        rw [← htake, List.getElem?_take] at hj
        split at hj
        · rw [List.getElem?_drop] at hj
          simpa using hj
        · cases hj
      obtain ⟨v', w', hr, ho, hgr⟩ := run_append_arg_grows (P := P) w t ty e i z size bytes ht hi hz hsize hby hzs hsz ⟨g, o, none⟩ n cap xs hown.1 holds a m c news hl hnews (by omega) h63 hbytes
      refine ⟨v', w', v'.ownBlock, hr, OffRow.own ho, ⟨hgr.os, hgr.tape, hgr.output, hgr.size, fun k hk _ => hgr.block k hk (by simp)⟩, ?_⟩
      cases hvo : v'.ownBlock with
      | none =>
        exfalso
        rcases ho.2 with ⟨_, h0⟩ | ⟨g', cap', cur', rfl, _⟩
        · omega
        · simp [Value.ownBlock] at hvo
      | some r => exact .inr ⟨r, rfl, (ho.lt r hvo).1⟩
theorem wpList_append_off {P : Program} (w : World) {ops : Array Oper} {rest : List Oper} {o : Oper} {a : Act} {Q : Exit → Act → World → Prop} (hgd : o.guard = none) (s x : Operand) (t : TypeId)
    (ho : o.op = .call { callee := .builtin .append, args := #[s, x], argTypes := #[t, t] })
    (e : TypeId) (i : TypeInfo) (z : Value) (size bytes : Nat) (ht : P.underlying t = some (.slice e)) (hi : P.info? e = some i) (hz : i.zero = some z)
    (hsize : i.size = size) (hby : i.bytes = bytes) (hzs : z.cells.size = size) (hsz : 0 < size)
    (v : Value) (n : Nat) (xs : List Value) (row : Option Nat) (hs : a.eval s = v) (hown : OffRow w e size v n xs row)
    (ad : Addr) (m c : Nat) (news : List Value) (hx : a.eval x = .slice (some ad) m c) (hl : news.length = m * size) (hnews : ∀ j u, news[j]? = some u → w.cell? (ad.add j) = some u) (h1 : ∀ u ∈ news, u.oneCell' = true)
    (h63 : n + m ≤ maxLen) (hbytes : (n + m) * bytes ≤ 140737488355328)
    (h : ∀ v' w' row', OffRow w' e size v' (n + m) (xs ++ news) row' → w.grownBy w' row → (row' = row ∨ ∃ r, row' = some r ∧ w.heap.size ≤ r) → wpList P ops Q rest (a.put o.dst v') w') : wpList P ops Q (o :: rest) a w := by
  refine wpList_plain hgd fun K hK => ?_
  obtain ⟨v', w', row', hr, h2, h3, h4⟩ := run_append_off (P := P) w t o.type e i z size bytes ht hi hz hsize hby hzs hsz v n xs row hown ad m c news hl hnews h1 h63 hbytes
  unfold Oper.wp
  simp [execOp, ho, resolve, invoke, builtin, hs, hx, hr, Result.andThen]
  exact hK _ _ (h v' w' row' h2 h3 h4)
end Go.Oct
