/- How an argument of a law that is a node (a bool, a slice of entries, a slice of kids) is read. No program is named here. -/
import Derived.Test.YtcmoajbdepohmaaOpenV
import Derived.Test.YtcmoajbdepohmaaNdPlain
namespace Go.Oct
open Go.ChangeShapes Go.WideShapes Go.ChangeAt Go.RowKit Go.Deep Go.Joins
variable {H : Type} {enc : TypeId × Value → H} {P : Program}
/-- whatever reads as this type is whole numbers alone -/
def Flat (enc : TypeId × Value → H) (P : Program) (W : World) (b0 : Nat) (e : TypeId) : Prop :=
  ∀ fuel cs x, DataW.trod enc P W b0 (fun _ => true) true fuel e cs = some x → ∀ c ∈ cs, ∃ z, c = Value.int .i64 z
theorem flat_int {W : World} {b0 : Nat} {e : TypeId} (h : P.underlying e = some (.int .i64)) : Flat enc P W b0 e := by
  intro fuel cs x hx c hc
  obtain ⟨z, hz, _⟩ := DataW.trod_int h hx
  subst hz
  exact ⟨z, by simpa using hc⟩
def covers (P : Program) (t : TypeId) (fs : Array Field) : Bool := (List.range (P.cellsOf t)).all fun q => (List.range fs.size).any fun i => match fs[i]? with | some f => decide (f.offset ≤ q) && decide (q < f.offset + P.cellsOf f.type) | none => false
theorem flat_struct {W : World} {b0 : Nat} {t : TypeId} {fs : Array Field} (ht : P.underlying t = some (.struct fs)) (hc : covers P t fs = true) (hf : ∀ f ∈ fs, Flat enc P W b0 f.type) : Flat enc P W b0 t := by
  intro fuel cs x hx c hmem
  obtain ⟨xs, n, _, _, hl, hlen, hg⟩ := DataW.trod_struct ht hx
  obtain ⟨q, hq, rfl⟩ := List.getElem_of_mem hmem
  have h1 := List.all_eq_true.1 hc q (List.mem_range.2 (by rw [← hl]; exact hq))
  obtain ⟨i, hi, h2⟩ := List.any_eq_true.1 h1
  have hif : i < fs.size := List.mem_range.1 hi
  have hfi : fs[i]? = some fs[i] := Array.getElem?_eq_getElem hif
  rw [hfi] at h2
  simp only [Bool.and_eq_true, decide_eq_true_eq] at h2
  have h3 := hg i fs[i] hfi
  have hys : xs[i]? = some (xs[i]'(by omega)) := List.getElem?_eq_getElem (by omega)
  refine hf fs[i] (Array.getElem_mem hif) _ _ _ (h3.trans hys) _ ?_
  refine List.mem_iff_getElem?.2 ⟨q - fs[i].offset, ?_⟩
  rw [List.getElem?_take, if_pos (by omega), List.getElem?_drop, show fs[i].offset + (q - fs[i].offset) = q by omega]
  exact List.getElem?_eq_getElem hq
/-- a slice of rows of whole numbers -/
theorem rows_in {W : World} {b0 c : Nat} {t e : TypeId} {fuel : Nat} {v : Value} {x : DataW H × List MemPlace} (ht : P.underlying t = some (.slice e)) (hC : P.cellsOf e = c) (hpos : 0 < c) (hfl : Flat enc P W b0 e)
    (h : DataW.trod enc P W b0 (fun _ => true) true fuel t [v] = some x) :
    ∃ (len : Nat) (zs : List Int), zs.length = len * c ∧ Has W v len (zs.map (Value.int .i64)) ∧ (len = 0 ∨ ∃ E S, x.1 = .slice E S ∧ E.length = len) := by
  rcases open_slice ht h with ⟨hcs, _⟩ | ⟨a, len, cap, m, n, D, Pl, hcs, _, hl, hm, hmm, hx, hi⟩
  · simp only [List.cons.injEq, and_true] at hcs
    subst hcs
    exact ⟨0, [], by simp, ⟨none, 0, rfl, Nat.le_refl _, by decide, fun h => by simp at h⟩, .inl rfl⟩
  · simp only [List.cons.injEq, and_true] at hcs
    subst hcs
    simp only [if_true] at hmm
    rw [hC] at hi
    have hcell : ∀ q, q < len * c → ∃ z, W.cell? (a.add q) = some (.int .i64 z) := by
      intro q hq
      have hi1 : q / c < len := (Nat.div_lt_iff_lt_mul hpos).2 hq
      obtain ⟨cs', hc', ht'⟩ := hi (q / c) (by omega)
      obtain ⟨_, hcl, hat⟩ := World.cells?_some hc'
      have hj : q % c < c := Nat.mod_lt _ hpos
      have h1 := hat (q % c) hj
      have hv : cs'[q % c]? = some (cs'[q % c]'(by omega)) := List.getElem?_eq_getElem (by omega)
      obtain ⟨z, hz⟩ := hfl _ _ _ ht' _ (List.getElem_mem (show q % c < cs'.length by omega))
      rw [hv, hz, Go.Deep.add_add, Nat.div_add_mod' q c] at h1
      exact ⟨z, h1⟩
    refine ⟨len, (List.range (len * c)).map (fun q => match W.cell? (a.add q) with | some (.int _ z) => z | _ => 0), by simp, ⟨some a, cap, rfl, hl, hm, fun hne => ?_⟩, .inr ⟨_, _, by rw [hx], by simp⟩⟩
    have hp : 0 < len * c := by
      rcases Nat.eq_zero_or_pos (len * c) with h0 | h0
      · rw [h0] at hne; simp at hne
      · exact h0
    obtain ⟨z0, h0⟩ := hcell 0 hp
    obtain ⟨b, o, spot⟩ := a
    have hspot : spot = none := by simpa [Addr.add] using World.cell?_spot h0
    subst hspot
    refine ⟨b, o, rfl, fun i x hx' => ?_⟩
    have hil : i < len * c := by
      have := (List.getElem?_eq_some_iff.1 hx').1
      simpa using this
    obtain ⟨z, hz⟩ := hcell i hil
    have e : (⟨b, o, none⟩ : Addr).add i = ⟨b, o + i, none⟩ := by unfold Addr.add; split <;> simp_all
    have hx2 : some (Value.int .i64 z) = some x := by
      rw [← hx']
      simp [hil, hz]
    rw [← hx2, ← e]
    exact hz
theorem quads_of : ∀ (n : Nat) (zs : List Int), zs.length = n * 4 → ∃ l : List Quad, l.length = n ∧ zs.map (Value.int .i64) = qs l
  | 0, zs, h => ⟨[], rfl, by have : zs = [] := List.eq_nil_of_length_eq_zero (by omega); subst this; rfl⟩
  | n + 1, a :: b :: c :: d :: zs, h => by
    obtain ⟨l, h1, h2⟩ := quads_of n zs (by simp at h; omega)
    exact ⟨(a, b, c, d) :: l, by simp [h1], by simp [qs, h2]⟩
  | n + 1, [a, b, c], h => by simp at h <;> omega
  | n + 1, [a, b], h => by simp at h <;> omega
  | n + 1, [a], h => by simp at h <;> omega
  | n + 1, [], h => by simp at h <;> omega
/-- a node that came in -/
theorem node_in {W : World} {base b0 : Nat} {t s1 s2 e1 e2 : TypeId} {f0 f1 f2 : Field} {v : Value} {d : DataW H} {p : List MemPlace} {ts : List TypeId} {ds : List (DataW H)} {j : Nat}
    (hst : P.underlying t = some (.struct #[f0, f1, f2])) (hone0 : oneCellFields P #[f0, f1, f2] = true) (hC0 : P.cellsOf t = 3) (hb : P.underlying f0.type = some .bool) (hf1 : f1.type = s1) (hf2 : f2.type = s2)
    (ht1 : P.underlying s1 = some (.slice e1)) (ht2 : P.underlying s2 = some (.slice e2)) (hC1 : P.cellsOf e1 = 4) (hC2 : P.cellsOf e2 = 4) (hby1 : P.bytesOf e1 = 32) (hby2 : P.bytesOf e2 = 32) (hfl1 : Flat enc P W b0 e1) (hfl2 : Flat enc P W b0 e2)
    (hv : Value.okWide P W .any base t v) (h : DataW.Trod enc P W b0 (fun _ => true) true t v d p)
    (hs : (DataW.weightsEach P ts ds).all (· ≤ reachBytes) = true) (hj : ts[j]? = some t) (hd : ds[j]? = some d) :
    ∃ (leaf : Bool) (ve vk : Value) (es ks : List Quad), v = .agg #[.bool leaf, ve, vk] ∧ Has W ve es.length (qs es) ∧ Has W vk ks.length (qs ks) ∧ es.length ≤ 4398046510976 ∧ ks.length ≤ 4398046510976 := by
  obtain ⟨v0, v1, v2, y0, y1, y2, n, rfl, rfl, rfl, h0, h1, h2⟩ := open_agg3 hst hone0 hC0 hv h
  obtain ⟨c, hc, _⟩ := DataW.trod_bool hb h0
  simp only [List.cons.injEq, and_true] at hc
  subst hc
  rw [hf1] at h1
  rw [hf2] at h2
  obtain ⟨n1, z1, hz1, hH1, hE1⟩ := rows_in ht1 hC1 (by omega) hfl1 h1
  obtain ⟨n2, z2, hz2, hH2, hE2⟩ := rows_in ht2 hC2 (by omega) hfl2 h2
  obtain ⟨l1, hl1, hv1⟩ := quads_of n1 z1 hz1
  obtain ⟨l2, hl2, hv2⟩ := quads_of n2 z2 hz2
  have hmem : ∀ q ∈ DataW.weightsEach P ([f0, f1, f2].map (·.type)) [y0.1, y1.1, y2.1], q ≤ reachBytes := by
    intro q hq
    have := List.all_eq_true.1 hs q (DataW.weights_mem_each hj hd q (by simp only [DataW.weights, hst]; exact hq))
    simpa using this
  have hall : (DataW.weightsEach P ([f0, f1, f2].map (·.type)) [y0.1, y1.1, y2.1]).all (· ≤ reachBytes) = true := List.all_eq_true.2 fun q hq => by simpa using hmem q hq
  have hrb : reachBytes = 140737488351232 := rfl
  refine ⟨c, v1, v2, l1, l2, rfl, ?_, ?_, ?_, ?_⟩
  · rw [hl1, ← hv1]; exact hH1
  · rw [hl2, ← hv2]; exact hH2
  · rcases hE1 with h0' | ⟨E, S, hx, hEl⟩
    · omega
    · have hr := sized_slice (P := P) (ts := [f0, f1, f2].map (·.type)) (ds := [y0.1, y1.1, y2.1]) hall (j := 1) (t := s1) (e := e1) (elems := E) (spare := S) (by simp [hf1]) (by simp [hx]) ht1
      rw [hby1, hEl] at hr
      omega
  · rcases hE2 with h0' | ⟨E, S, hx, hEl⟩
    · omega
    · have hr := sized_slice (P := P) (ts := [f0, f1, f2].map (·.type)) (ds := [y0.1, y1.1, y2.1]) hall (j := 2) (t := s2) (e := e2) (elems := E) (spare := S) (by simp [hf2]) (by simp [hx]) ht2
      rw [hby2, hEl] at hr
      omega
end Go.Oct
