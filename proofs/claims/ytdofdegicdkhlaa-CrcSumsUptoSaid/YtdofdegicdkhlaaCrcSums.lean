/- The law CrcSums, where what it reads is of bulk at most 1048576: its argument is opened as data, its walk (CrcH) is called, the given statement is closed. -/
import Derived.Test.YtdofdegicdkhlaaRows
import Derived.Test.YtdofdegicdkhlaaFrame
import Derived.Test.YtdofdegicdkhlaaCrcH
import Derived.Deep.Slices
import Derived.Deep.CondSized
namespace Go.Proofs.Ytdofdegicdkhlaa.lawCrcSums
open Go.ChangeShapes Go.WideShapes Go.ChangeAt Go.RowKit Go.Oct
theorem own : ownKnob Try.prog.godebug = none := by kernel_rfl
theorem laidOut : laidOutB Try.prog = true := by kernel_rfl
section
variable {H : Type} {enc : TypeId × Value → H} {P : Program}
theorem bulk_pos (d : DataW H) : 1 ≤ Rows.uptoBulk d := by
  cases d with
  | lit l => cases l <;> simp [Rows.uptoBulk]
  | _ => simp [Rows.uptoBulk]
theorem bulk_length (l : List (DataW H)) : l.length ≤ Rows.uptoBulkAll l := by
  induction l with
  | nil => simp [Rows.uptoBulkAll]
  | cons x r ih => have := bulk_pos x; simp only [Rows.uptoBulkAll, List.length_cons]; omega
theorem bulk_slice (es sp : List (DataW H)) : Rows.uptoBulkAll es ≤ Rows.uptoBulk (.slice es sp) := by
  simp only [Rows.uptoBulk]
  omega
theorem bulk_flat (f : Nat → List UInt8) (D : Nat → DataW H) : ∀ (r : List Nat), (∀ i ∈ r, (f i).length ≤ Rows.uptoBulk (D i)) → (r.map f).flatten.length ≤ Rows.uptoBulkAll (r.map D)
  | [], _ => by simp
  | i :: r, h => by
    have h1 := bulk_flat f D r (fun j hj => h j (List.mem_cons_of_mem _ hj))
    have h2 := h i List.mem_cons_self
    simp only [List.map_cons, List.flatten_cons, List.length_append, Rows.uptoBulkAll]
    omega
/-- one slice of bytes among others -/
theorem piece_in {W : World} {b0 fuel : Nat} {e q : TypeId} {v : Value} {d : DataW H} {p : List MemPlace} (he : P.underlying e = some (.slice q)) (hq : P.underlying q = some (.int .u8)) (hc : P.cellsOf q = 1)
    (hf : DataW.trod enc P W b0 (fun _ => true) true fuel e [v] = some (d, p)) : ∃ l, Bytes W v l ∧ l.length ≤ Rows.uptoBulk d := by
  rcases open_ints he hq hc hf with ⟨hcs, _⟩ | ⟨x, len, c, zs, hcs, _, hl, hm, hz, hx, hcell, hwz⟩
  · simp only [List.cons.injEq, and_true] at hcs
    subst hcs
    exact ⟨[], Bytes.nil W, by simp⟩
  · simp only [List.cons.injEq, and_true] at hcs
    subst hcs
    simp only [if_true] at hz
    obtain ⟨l, hll, hB⟩ := bytes_of_row hl hm hz hcell hwz
    refine ⟨l, hB, ?_⟩
    simp only [Prod.mk.injEq] at hx
    rw [hx.1]
    have h1 := bulk_slice (H := H) (lits .u8 (zs.take len)) (lits .u8 (zs.drop len))
    have h2 := bulk_length (H := H) (lits .u8 (zs.take len))
    have h3 : (lits (H := H) .u8 (zs.take len)).length = len := by simp [lits]; omega
    omega
/-- slices of bytes that came in -/
theorem pieces_in {W : World} {base b0 : Nat} {t e q : TypeId} {v : Value} {d : DataW H} {p : List MemPlace}
    (ht : P.underlying t = some (.slice e)) (he : P.underlying e = some (.slice q)) (hq : P.underlying q = some (.int .u8)) (ce : P.cellsOf e = 1) (cq : P.cellsOf q = 1)
    (hv : Value.okWide P W .any base t v) (h : DataW.Trod enc P W b0 (fun _ => true) true t v d p) :
    ∃ ls, Pieces W v ls ∧ ls.length ≤ Rows.uptoBulk d ∧ ls.flatten.length ≤ Rows.uptoBulk d := by
  obtain ⟨a, len, cap, rfl⟩ := okWide_slice ht hv
  obtain ⟨fuel, hf⟩ := h
  rcases Deep.open_slice1 ht ce hf with ⟨hcs, _⟩ | ⟨x, ln, c, m, n, V, D, Pl, hcs, _, hl, hm, hmm, hx, hi⟩
  · simp [Value.cells] at hcs
    obtain ⟨rfl, rfl, rfl⟩ := hcs
    exact ⟨[], ⟨[], rfl, ⟨none, 0, rfl, Nat.le_refl _, by decide, fun h => by simp at h⟩, fun i h => by simp at h⟩, by simp, by simp⟩
  · simp [Value.cells] at hcs
    obtain ⟨rfl, rfl, rfl⟩ := hcs
    simp only [if_true] at hmm
    subst hmm
    simp only [Prod.mk.injEq] at hx
    have hall : ∀ i, ∃ l, i < len → Bytes W (V i) l ∧ l.length ≤ Rows.uptoBulk (D i) := by
      intro i
      by_cases h : i < len
      · obtain ⟨l, h1⟩ := piece_in he hq cq (hi i (by omega)).2
        exact ⟨l, fun _ => h1⟩
      · exact ⟨[], fun h' => absurd h' h⟩
    let f : Nat → List UInt8 := fun i => Classical.choose (hall i)
    have hfs : ∀ i, i < len → Bytes W (V i) (f i) ∧ (f i).length ≤ Rows.uptoBulk (D i) := fun i => Classical.choose_spec (hall i)
    have hls : ((List.range len).map f).length = len := by simp
    have hbs := bulk_slice (H := H) ((List.range len).map D) ((List.range (m - len)).map fun j => D (len + j))
    refine ⟨(List.range len).map f, ⟨(List.range len).map V, by simp, ?_, fun i h h' => ?_⟩, ?_, ?_⟩
    · rw [hls]
      refine ⟨some x, m, rfl, hl, hm, fun hne => ?_⟩
      have hpos : 0 < len := by
        rcases Nat.eq_zero_or_pos len with h | h
        · subst h; simp at hne
        · exact h
      have h0 := (hi 0 (by omega)).1
      obtain ⟨b, o, spot⟩ := x
      have hspot : spot = none := by simpa [Addr.add] using World.cell?_spot h0
      subst hspot
      refine ⟨b, o, rfl, fun i y hy => ?_⟩
      have hil : i < len := by
        have := (List.getElem?_eq_some_iff.1 hy).1
        simpa using this
      have hci := (hi i (by omega)).1
      have e1 : (⟨b, o, none⟩ : Addr).add i = ⟨b, o + i, none⟩ := by unfold Addr.add; split <;> simp_all
      rw [e1] at hci
      rw [hci]
      simpa [hil] using hy
    · have hil : i < len := by simpa using h
      simpa using (hfs i hil).1
    · rw [hls, hx.1]
      have := bulk_length (H := H) ((List.range len).map D)
      simp at this
      omega
    · rw [hx.1]
      have := bulk_flat f D (List.range len) (fun i hi' => (hfs i (by simpa using hi')).2)
      omega
end
set_option maxRecDepth 100000 in
theorem lifted (os : Os) (started : os.Started) (H : Type) (enc : TypeId × Value → H) (F : Stop.Interp) :
    ReturnsInHanded {} Try.checked os 3 .any ((Rows.OpenSpec.upto Rows.crcSumsSpec).pre6 enc Try.prog Try.f3 Rows.crcSumsUptoRow.domain false) (((Rows.OpenSpec.upto Rows.crcSumsSpec).at F).post enc Try.prog Try.f3 false true false false) := by
  refine returnsInHanded_of_cond (C := Try.checked) (s := Rows.OpenSpec.upto Rows.crcSumsSpec) (k := Rows.uptoSmall) rfl own started (by kernel_rfl) Try.func3
    (OpenSpec.witness (enc := enc) (C := Try.checked) (s := Rows.OpenSpec.upto Rows.crcSumsSpec) (k := Rows.uptoSmall) rfl false ⟨#[], #[.slice none 0 0], []⟩ 8 (by kernel_rfl) (by kernel_rfl) (by kernel_rfl)
      (x := ([.nil], [], [])) (by kernel_rfl) rfl (by kernel_rfl)) ?_
  intro W base args ds gs before hval0 hW _ hk _
  have hval : ∀ (j : Nat) t v, Try.f3.params[j]? = some t → args[j]? = some v → Value.okWide Try.prog W .any base t v := hval0
  have hW' := hW
  obtain ⟨p, q, hA0, hV, rfl, _, _⟩ := hW
  have hA : DataW.TrodAll enc Try.prog W 0 (fun _ => true) true Try.f3.params.toList args.toList ds p := hA0
  rw [Try.params3] at hA hval
  obtain ⟨v0, vs0, d0, ds0, p0, q0, hargs, rfl, rfl, h0, r0⟩ := trodAll_cons hA
  obtain ⟨rfl, rfl, rfl⟩ := trodAll_nil r0
  obtain rfl : args = #[v0] := by cases args; simp_all
  obtain ⟨rfl, rfl⟩ := trodVars_none hV
  have lt0 : ∀ x ∈ p0, x.block < W.heap.size := by obtain ⟨m, hm⟩ := h0; exact DataW.trod_lt m _ _ _ hm
  obtain ⟨ls, hP, n1, n2⟩ := pieces_in Try.underlying22 Try.underlying23 Try.underlying5 (by kernel_rfl) (by kernel_rfl) (hval 0 22 v0 rfl rfl) h0
  have hb : Rows.uptoBulkAll ([d0] ++ []) ≤ 1048576 := of_decide_eq_true hk
  have hb2 : Rows.uptoBulk d0 ≤ 1048576 := by
    have : Rows.uptoBulkAll ([d0] ++ []) = Rows.uptoBulk d0 := by simp [Rows.uptoBulkAll]
    omega
  clear hA0 hval0 hb hk
  refine (crcSums_walk v0 ls W hP (by omega) (by omega)).mono fun e W' ⟨he, bel⟩ => ?_
  subst he
  exact ⟨_, rfl, _, _, _, [], _, [], hW', trodAll_mk1 (shut_bool Try.underlying4 _), (trodAll_cons_mk (Below.trod laidOut (by kernel_rfl) (of_decide_eq_true (by kernel_rfl)) h0 bel lt0) trodAll_mk0), rfl, bel.frame _, fun h => by cases h⟩
/-- The given statement. -/
theorem proved : Rows.CrcSumsUptoSaid :=
  OpenClaim.holds_of_cond 3 Try.f3 rfl rfl rfl rfl rfl rfl rfl ⟨rfl, rfl, rfl, rfl, rfl⟩ rfl rfl rfl rfl rfl (by kernel_rfl) Try.func3 (by kernel_rfl)
    (of_decide_eq_true (by kernel_rfl)) (by unfold Func.isWrapper; first | (rw [if_pos (by decide +kernel)]; kernel_rfl) | (rw [if_neg (by decide +kernel)]; exact ⟨rfl, rfl⟩))
    (fun os started H enc _ F => lifted os started H enc F)
end Go.Proofs.Ytdofdegicdkhlaa.lawCrcSums
