/- How an argument of a law that is a slice of structs of whole numbers is read, alone or as a field. No program is named here. -/
import Derived.Test.YtcmoajbdepohmaaOpen
import Derived.Test.YtcmoajbdepohmaaPastPlain
namespace Go.Oct
open Go.ChangeShapes Go.WideShapes Go.ChangeAt Go.RowKit Go.Deep Go.Joins
variable {H : Type} {enc : TypeId × Value → H} {P : Program}
theorem open_slice_fields {w : World} {base : Nat} {spare : Nat → Bool} {held : Bool} {t e : TypeId} {fs : Array Field} {fuel : Nat} {cs : List Value} {x : DataW H × List MemPlace} (ht : P.underlying t = some (.slice e)) (he : P.underlying e = some (.struct fs))
    (hone : oneCellFields P fs = true) (hC : P.cellsOf e = fs.size) (h : DataW.trod enc P w base spare held fuel t cs = some x) :
    (cs = [.slice none 0 0] ∧ x = (.nil, [])) ∨
    ∃ (a : Addr) (len cap m : Nat) (D : Nat → DataW H) (Pl : Nat → List MemPlace), cs = [.slice (some a) len cap] ∧ base ≤ a.block ∧ len ≤ cap ∧ cap ≤ maxLen ∧ m = (if spare a.block then cap else len) ∧
      x = (.slice ((List.range len).map D) ((List.range (m - len)).map fun j => D (len + j)), MemPlace.row a (m * fs.size) ++ (List.range m).flatMap Pl) ∧
      ∀ i, i < m → ∃ (ys : List (DataW H × List MemPlace)) (n : Nat), D i = .agg (ys.map (·.1)) ∧ Pl i = ys.flatMap (·.2) ∧ ys.length = fs.size ∧
        ∀ (j : Nat) (f : Field), fs[j]? = some f → ∃ (v : Value) (y : DataW H × List MemPlace), w.cell? (a.add (i * fs.size + j)) = some v ∧ ys[j]? = some y ∧ DataW.trod enc P w base spare held n f.type [v] = some y := by
  rcases open_slice ht h with h0 | ⟨a, len, cap, m, n, D, Pl, hcs, hb, hl, hm, hmm, hx, hi⟩
  · exact .inl h0
  · refine .inr ⟨a, len, cap, m, D, Pl, hcs, hb, hl, hm, hmm, by rw [hC] at hx; exact hx, fun i him => ?_⟩
    obtain ⟨cs', hc, ht'⟩ := hi i him
    rw [hC] at hc
    obtain ⟨ys, n', hn', hy, hlen, hyl, hf⟩ := DataW.trod_struct he ht'
    obtain ⟨_, hcl, hat⟩ := World.cells?_some hc
    simp only [Prod.mk.injEq] at hy
    refine ⟨ys, n', hy.1, hy.2, hyl, fun j f hj => ?_⟩
    obtain ⟨ho, hk⟩ := hone_of hone j f hj
    have hjl : j < fs.size := (Array.getElem?_eq_some_iff.1 hj).1
    have hcell := hat j hjl
    have hv : cs'[j]? = some (cs'[j]'(by omega)) := List.getElem?_eq_getElem (by omega)
    have h1 := hf j f hj
    rw [ho, hk] at h1
    have hone' : (cs'.drop j).take 1 = [cs'[j]'(by omega)] := by
      rw [List.drop_eq_getElem_cons (by omega)]
      rfl
    rw [hone'] at h1
    have hys : ys[j]? = some (ys[j]'(by omega)) := List.getElem?_eq_getElem (by omega)
    refine ⟨_, _, ?_, hys, h1.trans hys⟩
    rw [← Go.Deep.add_add, hcell, hv]
/-- a slice of structs of whole numbers -/
theorem structs_in {W : World} {b0 : Nat} {t e : TypeId} {fs : Array Field} {fuel : Nat} {v : Value} {x : DataW H × List MemPlace} (ht : P.underlying t = some (.slice e)) (he : P.underlying e = some (.struct fs)) (hone : oneCellFields P fs = true) (hC : P.cellsOf e = fs.size)
    (hint : ∀ f ∈ fs, P.underlying f.type = some (.int .i64)) (hpos : 0 < fs.size) (h : DataW.trod enc P W b0 (fun _ => true) true fuel t [v] = some x) :
    ∃ (len : Nat) (zs : List Int), zs.length = len * fs.size ∧ Has W v len (zs.map (Value.int .i64)) ∧ (len = 0 ∨ ∃ E S, x.1 = .slice E S ∧ E.length = len) := by
  rcases open_slice_fields ht he hone hC h with ⟨hcs, _⟩ | ⟨a, len, cap, m, D, Pl, hcs, _, hl, hm, hmm, hx, hi⟩
  · simp only [List.cons.injEq, and_true] at hcs
    subst hcs
    exact ⟨0, [], by simp, ⟨none, 0, rfl, Nat.le_refl _, by decide, fun h => by simp at h⟩, .inl rfl⟩
  · simp only [List.cons.injEq, and_true] at hcs
    subst hcs
    simp only [if_true] at hmm
    have hcell : ∀ q, q < len * fs.size → ∃ z, W.cell? (a.add q) = some (.int .i64 z) := by
      intro q hq
      have hi1 : q / fs.size < len := (Nat.div_lt_iff_lt_mul hpos).2 hq
      obtain ⟨ys, n, _, _, _, hf⟩ := hi (q / fs.size) (by omega)
      have hj : q % fs.size < fs.size := Nat.mod_lt _ hpos
      have hfj : fs[q % fs.size]? = some fs[q % fs.size] := Array.getElem?_eq_getElem hj
      obtain ⟨v, y, hv, _, hty⟩ := hf _ _ hfj
      rw [Nat.div_add_mod' q fs.size] at hv
      obtain ⟨z, hz, _⟩ := DataW.trod_int (hint _ (Array.getElem_mem hj)) hty
      simp only [List.cons.injEq, and_true] at hz
      exact ⟨z, by rw [hv, hz]⟩
    refine ⟨len, (List.range (len * fs.size)).map (fun q => match W.cell? (a.add q) with | some (.int _ z) => z | _ => 0), by simp, ⟨some a, cap, rfl, hl, hm, fun hne => ?_⟩, .inr ⟨_, _, by rw [hx], by simp⟩⟩
    have hp : 0 < len * fs.size := by
      rcases Nat.eq_zero_or_pos (len * fs.size) with h0 | h0
      · rw [h0] at hne; simp at hne
      · exact h0
    obtain ⟨z0, h0⟩ := hcell 0 hp
    obtain ⟨b, o, spot⟩ := a
    have hspot : spot = none := by simpa [Addr.add] using World.cell?_spot h0
    subst hspot
    refine ⟨b, o, rfl, fun i x hx' => ?_⟩
    have hil : i < len * fs.size := by
      have := (List.getElem?_eq_some_iff.1 hx').1
      simpa using this
    obtain ⟨z, hz⟩ := hcell i hil
    have e : (⟨b, o, none⟩ : Addr).add i = ⟨b, o + i, none⟩ := by unfold Addr.add; split <;> simp_all
    have hx2 : some (Value.int .i64 z) = some x := by
      rw [← hx']
      simp [hil, hz]
    rw [← hx2, ← e]
    exact hz
theorem pairs_of : ∀ (n : Nat) (zs : List Int), zs.length = n * 2 → ∃ l : List Ver, l.length = n ∧ zs.map (Value.int .i64) = vs l
  | 0, zs, h => ⟨[], rfl, by have : zs = [] := List.eq_nil_of_length_eq_zero (by omega); subst this; rfl⟩
  | n + 1, a :: b :: zs, h => by
    obtain ⟨l, h1, h2⟩ := pairs_of n zs (by simp at h; omega)
    exact ⟨(a, b) :: l, by simp [h1], by simp [vs, h2]⟩
  | n + 1, [a], h => by simp at h <;> omega
  | n + 1, [], h => by simp at h <;> omega
/-- a list of versions that came in as a field of a struct, with another field that is a whole number -/
theorem past_in {W : World} {base b0 : Nat} {t s e : TypeId} {f0 f1 : Field} {fs : Array Field} {v : Value} {d : DataW H} {p : List MemPlace} {ts : List TypeId} {ds : List (DataW H)} {j : Nat}
    (hst : P.underlying t = some (.struct #[f0, f1])) (hone0 : oneCellFields P #[f0, f1] = true) (hC0 : P.cellsOf t = 2) (hf0 : f0.type = s) (hf1 : P.underlying f1.type = some (.int .i64))
    (ht : P.underlying s = some (.slice e)) (he : P.underlying e = some (.struct fs)) (hone : oneCellFields P fs = true) (hC : P.cellsOf e = fs.size) (hint : ∀ f ∈ fs, P.underlying f.type = some (.int .i64)) (h2 : fs.size = 2) (hby : P.bytesOf e = 16)
    (hv : Value.okWide P W .any base t v) (h : DataW.Trod enc P W b0 (fun _ => true) true t v d p)
    (hs : (DataW.weightsEach P ts ds).all (· ≤ reachBytes) = true) (hj : ts[j]? = some t) (hd : ds[j]? = some d) :
    ∃ (u : Value) (c : Int) (l : List Ver), v = .agg #[u, .int .i64 c] ∧ Vers W u l ∧ l.length ≤ 8796093021952 ∧ (Lit.int .i64 c).wf = true := by
  obtain ⟨v0, v1, y0, y1, n, rfl, rfl, rfl, h0, h1⟩ := open_agg2 hst hone0 hC0 hv h
  obtain ⟨c, hc, _, hw⟩ := DataW.trod_int hf1 h1
  simp only [List.cons.injEq, and_true] at hc
  subst hc
  rw [hf0] at h0
  obtain ⟨len, zs, hz, hH, hE⟩ := structs_in ht he hone hC hint (by omega) h0
  rw [h2] at hz
  obtain ⟨l, hl, hvs⟩ := pairs_of len zs hz
  refine ⟨v0, c, l, rfl, ?_, ?_, hw⟩
  · unfold Vers
    rw [hl, ← hvs]
    exact hH
  · rcases hE with h0' | ⟨E, S, hx, hEl⟩
    · omega
    · have hmem : ∀ q ∈ DataW.weightsEach P ([f0, f1].map (·.type)) [y0.1, y1.1], q ≤ reachBytes := by
        intro q hq
        have := List.all_eq_true.1 hs q (DataW.weights_mem_each hj hd q (by simp only [DataW.weights, hst]; exact hq))
        simpa using this
      have hr := sized_slice (P := P) (ts := [f0, f1].map (·.type)) (ds := [y0.1, y1.1]) (List.all_eq_true.2 fun q hq => by simpa using hmem q hq) (j := 0) (t := s) (e := e) (elems := E) (spare := S) (by simp [hf0]) (by simp [hx]) ht
      rw [hby, hEl] at hr
      have : reachBytes = 140737488351232 := rfl
      omega
/-- a list of versions that came in -/
theorem vers_in {W : World} {base b0 : Nat} {s e : TypeId} {fs : Array Field} {v : Value} {d : DataW H} {p : List MemPlace} {ts : List TypeId} {ds : List (DataW H)} {j : Nat}
    (ht : P.underlying s = some (.slice e)) (he : P.underlying e = some (.struct fs)) (hone : oneCellFields P fs = true) (hC : P.cellsOf e = fs.size) (hint : ∀ f ∈ fs, P.underlying f.type = some (.int .i64)) (h2 : fs.size = 2) (hby : P.bytesOf e = 16)
    (hv : Value.okWide P W .any base s v) (h : DataW.Trod enc P W b0 (fun _ => true) true s v d p)
    (hs : (DataW.weightsEach P ts ds).all (· ≤ reachBytes) = true) (hj : ts[j]? = some s) (hd : ds[j]? = some d) :
    ∃ l : List Ver, Vers W v l ∧ l.length ≤ 8796093021952 := by
  obtain ⟨a, ln, cp, rfl⟩ := okWide_slice ht hv
  obtain ⟨fuel, hf⟩ := h
  have h0 : DataW.trod enc P W b0 (fun _ => true) true fuel s [.slice a ln cp] = some (d, p) := hf
  obtain ⟨len, zs, hz, hH, hE⟩ := structs_in ht he hone hC hint (by omega) h0
  rw [h2] at hz
  obtain ⟨l, hl, hvs⟩ := pairs_of len zs hz
  refine ⟨l, ?_, ?_⟩
  · unfold Vers
    rw [hl, ← hvs]
    exact hH
  · rcases hE with h0' | ⟨E, S, hx, hEl⟩
    · omega
    · simp only at hx
      have hr := sized_slice hs hj (hd.trans (congrArg some hx)) ht
      rw [hby, hEl] at hr
      have : reachBytes = 140737488351232 := rfl
      omega
end Go.Oct
