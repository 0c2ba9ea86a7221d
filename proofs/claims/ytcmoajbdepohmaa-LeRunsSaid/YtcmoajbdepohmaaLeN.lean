/- How an argument of a law that is a slice of calls (a byte, a whole number) is read. -/
import Derived.Test.YtcmoajbdepohmaaLeM
import Derived.Test.YtcmoajbdepohmaaOpenV
namespace Go.Proofs.Ytcmoajbdepohmaa
open Go.ChangeShapes Go.WideShapes Go.ChangeAt Go.RowKit Go.Deep Go.Joins Go.Oct

theorem cls_cell : ∀ (l : List (Nat × Int)) (i : Nat) (x : Value), (cls l)[i]? = some x → ∃ q, ∃ h : q < l.length, (i = q * 2 ∧ x = .int .u8 (l[q].1 : Nat)) ∨ (i = q * 2 + 1 ∧ x = .int .i64 l[q].2)
  | [], i, x, h => by simp [cls] at h
  | v :: l, 0, x, h => ⟨0, by simp, .inl ⟨rfl, by simpa [cls] using h.symm⟩⟩
  | v :: l, 1, x, h => ⟨0, by simp, .inr ⟨rfl, by simpa [cls] using h.symm⟩⟩
  | v :: l, i + 2, x, h => by
    obtain ⟨q, hq, hx⟩ := cls_cell l i x (by simpa [cls] using h)
    refine ⟨q + 1, by simpa using hq, ?_⟩
    simp only [List.getElem_cons_succ]
    rcases hx with ⟨h1, h2⟩ | ⟨h1, h2⟩
    · exact .inl ⟨by omega, h2⟩
    · exact .inr ⟨by omega, h2⟩
theorem calls_in {H : Type} {enc : TypeId × Value → H} {P : Program} {W : World} {base b0 : Nat} {s e : TypeId} {f0 f1 : Field} {v : Value} {d : DataW H} {p : List MemPlace}
    (ht : P.underlying s = some (.slice e)) (he : P.underlying e = some (.struct #[f0, f1])) (hone : oneCellFields P #[f0, f1] = true) (hC : P.cellsOf e = 2) (h0 : P.underlying f0.type = some (.int .u8)) (h1 : P.underlying f1.type = some (.int .i64))
    (hv : Value.okWide P W .any base s v) (h : DataW.Trod enc P W b0 (fun _ => true) true s v d p) :
    ∃ l : List (Nat × Int), CallsOf W v l ∧ ∀ c ∈ l, -9223372036854775808 ≤ c.2 ∧ c.2 ≤ 9223372036854775807 := by
  obtain ⟨a, ln, cp, rfl⟩ := okWide_slice ht hv
  obtain ⟨fuel, hf⟩ := h
  have hf' : DataW.trod enc P W b0 (fun _ => true) true fuel s [.slice a ln cp] = some (d, p) := hf
  rcases open_slice_fields ht he hone hC hf' with ⟨hcs, _⟩ | ⟨a', len, cap, m, D, Pl, hcs, _, hl, hm, hmm, hx, hi⟩
  · simp only [List.cons.injEq, and_true, Value.slice.injEq] at hcs
    obtain ⟨rfl, rfl, rfl⟩ := hcs
    exact ⟨[], ⟨none, 0, rfl, Nat.le_refl _, by decide, fun h => by simp [cls] at h⟩, by simp⟩
  · simp only [List.cons.injEq, and_true, Value.slice.injEq] at hcs
    obtain ⟨rfl, rfl, rfl⟩ := hcs
    simp only [if_true] at hmm
    have hcell : ∀ q, q < ln → ∃ (k : Nat) (z : Int), W.cell? (a'.add (q * 2)) = some (.int .u8 (k : Nat)) ∧ W.cell? (a'.add (q * 2 + 1)) = some (.int .i64 z) ∧ (-9223372036854775808 ≤ z ∧ z ≤ 9223372036854775807) := by
      intro q hq
      obtain ⟨ys, n, _, _, _, hfs⟩ := hi q (by omega)
      obtain ⟨v0, y0, c0, _, t0⟩ := hfs 0 f0 rfl
      obtain ⟨v1, y1, c1, _, t1⟩ := hfs 1 f1 rfl
      obtain ⟨z0, e0, _, w0⟩ := DataW.trod_int h0 t0
      obtain ⟨z1, e1, _, w1⟩ := DataW.trod_int h1 t1
      simp only [List.cons.injEq, and_true] at e0 e1
      subst e0; subst e1
      obtain ⟨b0, b1⟩ := byte_of_wf w0
      obtain ⟨k, rfl⟩ := Int.eq_ofNat_of_zero_le b0
      exact ⟨k, z1, c0, c1, i64_of_wf w1⟩
    refine ⟨(List.range ln).map (fun q => match W.cell? (a'.add (q * 2)), W.cell? (a'.add (q * 2 + 1)) with | some (.int _ x), some (.int _ y) => (x.toNat, y) | _, _ => (0, 0)), ?_, ?_⟩
    · refine ⟨some a', cp, by simp, by simpa using hl, hm, fun hne => ?_⟩
      have hp : 0 < ln := by
        rcases Nat.eq_zero_or_pos ln with hz | hz
        · subst hz; simp [cls] at hne
        · exact hz
      obtain ⟨k0, z0, hk0, _, _⟩ := hcell 0 hp
      obtain ⟨b, o, spot⟩ := a'
      have hspot : spot = none := by simpa [Addr.add] using World.cell?_spot hk0
      subst hspot
      have hadd : ∀ i, (⟨b, o, none⟩ : Addr).add i = ⟨b, o + i, none⟩ := fun i => by unfold Addr.add; split <;> simp_all
      refine ⟨b, o, rfl, fun i x hix => ?_⟩
      obtain ⟨q, hq, hqx⟩ := cls_cell _ i x hix
      have hq2 : q < ln := by simpa using hq
      obtain ⟨k, z, c0, c1, _⟩ := hcell q hq2
      rcases hqx with ⟨rfl, hx2⟩ | ⟨rfl, hx2⟩
      · rw [hx2, ← hadd, c0]
        simp [c0, c1]
      · rw [hx2, ← hadd, c1]
        simp [c0, c1]
    · intro c hc
      simp only [List.mem_map, List.mem_range] at hc
      obtain ⟨q, hq, rfl⟩ := hc
      obtain ⟨k, z, c0, c1, hb⟩ := hcell q hq
      simp only [c0, c1]
      exact hb
end Go.Proofs.Ytcmoajbdepohmaa
