/- Plain laws: what is packed is opened as it was, what is opened is packed as it was (layer 13). No program is named here. -/
import Derived.Test.YtcmoajbdepohmaaNoPlain
namespace Go.Oct
theorem opn_code {n : Int} (h0 : -1 ≤ n) (h1 : n ≤ 4294967294) : numCode (opn n) 4 = 0 := by
  unfold opn
  split
  · decide
  · exact numCode_of (k := 4) (by omega) (by simp only [Nat.reducePow]; omega) (by decide) (by decide)
theorem opn4_four {n : Int} (h0 : -1 ≤ n) (h1 : n ≤ 4294967294) : (opn4 4 n).length = 4 ∧ unopn ((numVal (opn4 4 n) : Nat) : Int) = n := by
  have hc := opn_code h0 h1
  refine ⟨numBytes_len' (k := 4) hc, ?_⟩
  have hv : ((numVal (opn4 4 n) : Nat) : Int) = opn n := numVal_bytes (k := 4) hc
  rw [hv]
  exact opn_back (by omega)
theorem opn4_one {n : Int} (h0 : 0 ≤ n) (h1 : n ≤ 255) : opn4 1 n = [UInt8.ofNat n.toNat] ∧ ((numVal (opn4 1 n) : Nat) : Int) = n ∧ (opn4 1 n).length = 1 := by
  have ho : opn n = n := if_neg (by omega)
  have hc : numCode n 1 = 0 := numCode_of (k := 1) h0 (by simp only [Nat.reducePow]; omega) (by decide) (by decide)
  have hv : ((numVal (numBytes n 1) : Nat) : Int) = n := numVal_bytes (k := 1) hc
  have hl : (numBytes n 1).length = 1 := numBytes_len' (k := 1) hc
  unfold opn4
  rw [ho]
  refine ⟨?_, hv, hl⟩
  have he : numBytes n 1 = numList n.toNat 1 := by unfold numBytes; rw [if_pos hc]; rfl
  rw [he]
  simp only [numList]
  rw [Nat.mod_eq_of_lt (by omega)]
theorem ndBody_len {f : Quad → List UInt8} {each : Nat} {l : List Quad} (h : ∀ x ∈ l, (f x).length = each) : (ndBody f l).length = each * l.length := by
  induction l with
  | nil => rfl
  | cons x l ih =>
    rw [ndBody, List.length_append, h x (by simp), ih (fun y hy => h y (by simp [hy])), List.length_cons, Nat.mul_succ]
    omega
theorem ndBody_drop {f : Quad → List UInt8} {each : Nat} {l : List Quad} (h : ∀ x ∈ l, (f x).length = each) (i : Nat) : (ndBody f l).drop (each * i) = ndBody f (l.drop i) := by
  induction l generalizing i with
  | nil => simp [ndBody]
  | cons v l ih =>
    cases i with
    | zero => simp
    | succ i =>
      have hv := h v (by simp)
      have := ih (fun x hx => h x (by simp [hx])) i
      rw [ndBody, List.drop_succ_cons, ← this, show each * (i + 1) = each + each * i by rw [Nat.mul_succ]; omega, ← List.drop_drop, ← hv, List.drop_left]
theorem pack_at {f : Quad → List UInt8} {each : Nat} {l : List Quad} (h : ∀ x ∈ l, (f x).length = each) (b : UInt8) (i : Nat) (hi : i < l.length) :
    (b :: ndBody f l).drop (1 + each * i) = f l[i] ++ ndBody f (l.drop (i + 1)) := by
  rw [show 1 + each * i = each * i + 1 by omega, List.drop_succ_cons, ndBody_drop h, List.drop_eq_getElem_cons hi, ndBody]
theorem fld_at {f : Quad → List UInt8} {each : Nat} {l : List Quad} (h : ∀ x ∈ l, (f x).length = each) (b : UInt8) (i d w : Nat) (hi : i < l.length) (hd : d + w ≤ each) :
    fld (b :: ndBody f l) (1 + each * i + d) w = numVal (((f l[i]).drop d).take w) := by
  unfold fld
  have hl := h l[i] (List.getElem_mem _)
  rw [← List.drop_drop, pack_at h b i hi, List.drop_append_of_le_length (by omega), List.take_append_of_le_length (by simp; omega)]
theorem four_parts {p0 p1 p2 p3 : List UInt8} {n0 : Nat} (h0 : p0.length = n0) (h1 : p1.length = 4) (h2 : p2.length = 4) (h3 : p3.length = 4) :
    ((p0 ++ (p1 ++ (p2 ++ p3))).drop 0).take n0 = p0 ∧ ((p0 ++ (p1 ++ (p2 ++ p3))).drop n0).take 4 = p1 ∧ ((p0 ++ (p1 ++ (p2 ++ p3))).drop (n0 + 4)).take 4 = p2 ∧ ((p0 ++ (p1 ++ (p2 ++ p3))).drop (n0 + 8)).take 4 = p3 := by
  refine ⟨?_, ?_, ?_, ?_⟩
  · rw [List.drop_zero, List.take_left' h0]
  · rw [List.drop_left' h0, List.take_left' h1]
  · rw [← List.drop_drop, List.drop_left' h0, List.drop_left' h1, List.take_left' h2]
  · rw [show n0 + 8 = n0 + 4 + 4 by omega, ← List.drop_drop, ← List.drop_drop, List.drop_left' h0, List.drop_left' h1, List.drop_left' h2, List.take_of_length_le (by omega)]
theorem entBytes_eq (x : Quad) : entBytes x = opn4 1 x.1 ++ (opn4 4 x.2.1 ++ (opn4 4 x.2.2.1 ++ opn4 4 x.2.2.2)) := by simp [entBytes, layAll]
theorem kidBytes_eq (x : Quad) : kidBytes x = opn4 4 x.1 ++ (opn4 4 x.2.1 ++ (opn4 4 x.2.2.1 ++ opn4 4 x.2.2.2)) := by simp [kidBytes, layAll]
theorem entBytes_len {x : Quad} (h : entMay x) : (entBytes x).length = 13 := by
  unfold entMay at h
  rw [entBytes_eq]
  have a := (opn4_one (n := x.1) (by omega) (by omega)).2.2
  have b := (opn4_four (n := x.2.1) (by omega) (by omega)).1
  have c := (opn4_four (n := x.2.2.1) (by omega) (by omega)).1
  have d := (opn4_four (n := x.2.2.2) (by omega) (by omega)).1
  simp only [List.length_append, a, b, c, d]
theorem kidBytes_len {x : Quad} (h : kidMay x) : (kidBytes x).length = 16 := by
  unfold kidMay at h
  rw [kidBytes_eq]
  have a := (opn4_four (n := x.1) (by omega) (by omega)).1
  have b := (opn4_four (n := x.2.1) (by omega) (by omega)).1
  have c := (opn4_four (n := x.2.2.1) (by omega) (by omega)).1
  have d := (opn4_four (n := x.2.2.2) (by omega) (by omega)).1
  simp only [List.length_append, a, b, c, d]
theorem ndEnt_back {l : List Quad} (h : ∀ x ∈ l, entMay x) (b : UInt8) (i : Nat) (hi : i < l.length) : ndEnt (b :: ndBody entBytes l) i = l[i] := by
  have hl : ∀ x ∈ l, (entBytes x).length = 13 := fun x hx => entBytes_len (h x hx)
  have hx := h l[i] (List.getElem_mem _)
  unfold entMay at hx
  obtain ⟨_, a1, a2⟩ := opn4_one (n := l[i].1) (by omega) (by omega)
  obtain ⟨b1, b2⟩ := opn4_four (n := l[i].2.1) (by omega) (by omega)
  obtain ⟨c1, c2⟩ := opn4_four (n := l[i].2.2.1) (by omega) (by omega)
  obtain ⟨d1, d2⟩ := opn4_four (n := l[i].2.2.2) (by omega) (by omega)
  obtain ⟨e0, e1, e2, e3⟩ := four_parts a2 b1 c1 d1
  have g0 := fld_at hl b i 0 1 hi (by omega)
  have g1 := fld_at hl b i 1 4 hi (by omega)
  have g2 := fld_at hl b i (1 + 4) 4 hi (by omega)
  have g3 := fld_at hl b i (1 + 8) 4 hi (by omega)
  rw [entBytes_eq] at g0 g1 g2 g3
  rw [e0] at g0
  rw [e1] at g1
  rw [e2] at g2
  rw [e3] at g3
  unfold ndEnt
  rw [show 1 + 13 * i = 1 + 13 * i + 0 by omega, g0, a1, show 2 + 13 * i = 1 + 13 * i + 1 by omega, g1, b2, show 6 + 13 * i = 1 + 13 * i + (1 + 4) by omega, g2, c2, show 10 + 13 * i = 1 + 13 * i + (1 + 8) by omega, g3, d2]
theorem ndKid_back {l : List Quad} (h : ∀ x ∈ l, kidMay x) (b : UInt8) (i : Nat) (hi : i < l.length) : ndKid (b :: ndBody kidBytes l) i = l[i] := by
  have hl : ∀ x ∈ l, (kidBytes x).length = 16 := fun x hx => kidBytes_len (h x hx)
  have hx := h l[i] (List.getElem_mem _)
  unfold kidMay at hx
  obtain ⟨a2, a1⟩ := opn4_four (n := l[i].1) (by omega) (by omega)
  obtain ⟨b1, b2⟩ := opn4_four (n := l[i].2.1) (by omega) (by omega)
  obtain ⟨c1, c2⟩ := opn4_four (n := l[i].2.2.1) (by omega) (by omega)
  obtain ⟨d1, d2⟩ := opn4_four (n := l[i].2.2.2) (by omega) (by omega)
  obtain ⟨e0, e1, e2, e3⟩ := four_parts a2 b1 c1 d1
  have g0 := fld_at hl b i 0 4 hi (by omega)
  have g1 := fld_at hl b i 4 4 hi (by omega)
  have g2 := fld_at hl b i (4 + 4) 4 hi (by omega)
  have g3 := fld_at hl b i (4 + 8) 4 hi (by omega)
  rw [kidBytes_eq] at g0 g1 g2 g3
  rw [e0] at g0
  rw [e1] at g1
  rw [e2] at g2
  rw [e3] at g3
  unfold ndKid
  rw [show 1 + 16 * i = 1 + 16 * i + 0 by omega, g0, a1, show 5 + 16 * i = 1 + 16 * i + 4 by omega, g1, b2, show 9 + 16 * i = 1 + 16 * i + (4 + 4) by omega, g2, c2, show 13 + 16 * i = 1 + 16 * i + (4 + 8) by omega, g3, d2]
theorem qList_eq {f : Nat → Quad} {l : List Quad} (h : ∀ i (hi : i < l.length), f i = l[i]) : qList f l.length = l := by
  apply List.ext_getElem
  · exact qList_length _ _
  · intro i h1 h2
    simp only [qList, List.getElem_map, List.getElem_range]
    exact h i h2
theorem fld_head (b : UInt8) (l : List UInt8) : fld (b :: l) 0 1 = b.toNat := by
  unfold fld; simp [numVal]
/-- what is packed is opened as it was; of the other kind it is none; it has at most so many bytes -/
theorem nd_back {leaf : Bool} {es ks : List Quad} (h : ndMay leaf es ks) :
    noCode (ndKind leaf es ks : Nat) (ndPack leaf es ks) = 0 ∧ noLeaf (ndKind leaf es ks : Nat) (ndPack leaf es ks) = leaf ∧ noEs (ndKind leaf es ks : Nat) (ndPack leaf es ks) = es ∧ noKs (ndKind leaf es ks : Nat) (ndPack leaf es ks) = ks ∧
    noCode (3 - (ndKind leaf es ks : Nat)) (ndPack leaf es ks) = 4 ∧ (ndPack leaf es ks).length ≤ 244 := by
  rcases id h with ⟨rfl, rfl, hall, h1, h12, hs⟩ | ⟨rfl, rfl, hall, h1, h12, hs⟩
  · obtain ⟨o1, _, _⟩ := opn4_one (n := (es.length : Int)) (by omega) (by omega)
    have hp : ndPack true es [] = UInt8.ofNat es.length :: ndBody entBytes es := by
      rw [ndPack, if_pos h, if_pos rfl]
      simp only [layAll, o1, Int.toNat_natCast, List.append_nil, List.singleton_append]
    have hk : ndKind true es [] = 1 := by rw [ndKind, if_pos h]; rfl
    have hf : fld (UInt8.ofNat es.length :: ndBody entBytes es) 0 1 = es.length := by
      rw [fld_head, UInt8.toNat_ofNat_of_lt' (by simp [UInt8.size]; omega)]
    have hlen : (UInt8.ofNat es.length :: ndBody entBytes es).length = 1 + 13 * es.length := by
      rw [List.length_cons, ndBody_len (fun x hx => entBytes_len (hall x hx))]; omega
    have hq : qList (ndEnt (UInt8.ofNat es.length :: ndBody entBytes es)) es.length = es := qList_eq (fun i hi => ndEnt_back hall _ i hi)
    have hop : ndOpens 1 (UInt8.ofNat es.length :: ndBody entBytes es) := ndOpens_one.2 ⟨by rw [hf, hlen], by rw [hf, hq]; exact h⟩
    have hno : ¬ ndOpens 2 (UInt8.ofNat es.length :: ndBody entBytes es) := fun h2 => by have := (ndOpens_two.1 h2).1; rw [hf, hlen] at this; omega
    rw [hp, hk]
    refine ⟨?_, ?_, ?_, ?_, ?_, by rw [hlen]; omega⟩
    · show noCode 1 _ = 0; rw [noCode, if_pos hop]
    · show noLeaf 1 _ = true; rw [noLeaf, if_pos hop]; rfl
    · show noEs 1 _ = es; rw [noEs, if_pos hop, ndEsOf, if_pos rfl, hf, hq]
    · show noKs 1 _ = []; rw [noKs, if_pos hop]; rfl
    · show noCode 2 _ = 4; rw [noCode, if_neg hno]
  · obtain ⟨o1, _, _⟩ := opn4_one (n := (ks.length : Int)) (by omega) (by omega)
    have hp : ndPack false [] ks = UInt8.ofNat ks.length :: ndBody kidBytes ks := by
      rw [ndPack, if_pos h, if_neg (by decide)]
      simp only [layAll, o1, Int.toNat_natCast, List.append_nil, List.singleton_append]
    have hk : ndKind false [] ks = 2 := by rw [ndKind, if_pos h]; rfl
    have hf : fld (UInt8.ofNat ks.length :: ndBody kidBytes ks) 0 1 = ks.length := by
      rw [fld_head, UInt8.toNat_ofNat_of_lt' (by simp [UInt8.size]; omega)]
    have hlen : (UInt8.ofNat ks.length :: ndBody kidBytes ks).length = 1 + 16 * ks.length := by
      rw [List.length_cons, ndBody_len (fun x hx => kidBytes_len (hall x hx))]; omega
    have hq : qList (ndKid (UInt8.ofNat ks.length :: ndBody kidBytes ks)) ks.length = ks := qList_eq (fun i hi => ndKid_back hall _ i hi)
    have hop : ndOpens 2 (UInt8.ofNat ks.length :: ndBody kidBytes ks) := ndOpens_two.2 ⟨by rw [hf, hlen], by rw [hf, hq]; exact h⟩
    have hno : ¬ ndOpens 1 (UInt8.ofNat ks.length :: ndBody kidBytes ks) := fun h2 => by have := (ndOpens_one.1 h2).1; rw [hf, hlen] at this; omega
    rw [hp, hk]
    refine ⟨?_, ?_, ?_, ?_, ?_, by rw [hlen]; omega⟩
    · show noCode 2 _ = 0; rw [noCode, if_pos hop]
    · show noLeaf 2 _ = false; rw [noLeaf, if_pos hop]; rfl
    · show noEs 2 _ = []; rw [noEs, if_pos hop]; rfl
    · show noKs 2 _ = ks; rw [noKs, if_pos hop, ndKsOf, if_pos rfl, hf, hq]
    · show noCode 1 _ = 4; rw [noCode, if_neg hno]
theorem opn_unopn {m : Nat} (h : m < 4294967296) : opn (unopn (m : Int)) = (m : Int) := by
  unfold unopn
  by_cases h1 : (m : Int) = 4294967295
  · rw [if_pos h1]; unfold opn; rw [if_pos rfl, h1]
  · rw [if_neg h1]; unfold opn; rw [if_neg (by omega)]
theorem four_fld (b : List UInt8) (a : Nat) (h : a + 4 ≤ b.length) : opn4 4 (unopn (fld b a 4 : Nat)) = (b.drop a).take 4 := by
  unfold opn4
  have := fld_lt b a 4
  rw [opn_unopn (by simpa using this)]
  exact numBytes_fld b a 4 h (by decide) (by decide)
theorem one_fld (b : List UInt8) (a : Nat) (h : a + 1 ≤ b.length) : opn4 1 ((fld b a 1 : Nat) : Int) = (b.drop a).take 1 := by
  unfold opn4
  rw [show opn ((fld b a 1 : Nat) : Int) = ((fld b a 1 : Nat) : Int) from if_neg (by omega)]
  exact numBytes_fld b a 1 h (by decide) (by decide)
theorem ndEnt_bytes (b : List UInt8) (i : Nat) (h : 14 + 13 * i ≤ b.length) : b.take (1 + 13 * i) ++ entBytes (ndEnt b i) = b.take (1 + 13 * (i + 1)) := by
  rw [entBytes_eq]
  simp only [ndEnt]
  rw [one_fld b _ (by omega), four_fld b _ (by omega), four_fld b _ (by omega), four_fld b _ (by omega), ← List.append_assoc, cut_join, ← List.append_assoc, show 1 + 13 * i + 1 = 2 + 13 * i by omega, cut_join, ← List.append_assoc, show 2 + 13 * i + 4 = 6 + 13 * i by omega, cut_join, show 6 + 13 * i + 4 = 10 + 13 * i by omega, cut_join]
  congr 1; omega
theorem ndKid_bytes (b : List UInt8) (i : Nat) (h : 17 + 16 * i ≤ b.length) : b.take (1 + 16 * i) ++ kidBytes (ndKid b i) = b.take (1 + 16 * (i + 1)) := by
  rw [kidBytes_eq]
  simp only [ndKid]
  rw [four_fld b _ (by omega), four_fld b _ (by omega), four_fld b _ (by omega), four_fld b _ (by omega), ← List.append_assoc, cut_join, ← List.append_assoc, show 1 + 16 * i + 4 = 5 + 16 * i by omega, cut_join, ← List.append_assoc, show 5 + 16 * i + 4 = 9 + 16 * i by omega, cut_join, show 9 + 16 * i + 4 = 13 + 16 * i by omega, cut_join]
  congr 1; omega
theorem body_take (f : Quad → List UInt8) (g : List UInt8 → Nat → Quad) (each : Nat) (b : List UInt8) (hg : ∀ i, each + 1 + each * i ≤ b.length → b.take (1 + each * i) ++ f (g b i) = b.take (1 + each * (i + 1))) :
    ∀ k, 1 + each * k ≤ b.length → b.take 1 ++ ndBody f (qList (g b) k) = b.take (1 + each * k) := by
  intro k
  induction k with
  | zero => intro _; simp [qList, ndBody]
  | succ k ih =>
    intro hk
    rw [Nat.mul_succ] at hk
    rw [qList_snoc, ndBody_append, ← List.append_assoc, ih (by omega), ← hg k (by omega)]
    simp [ndBody]
/-- what is opened is packed as it was -/
theorem nd_forth {kind : Int} {b : List UInt8} (h : ndOpens kind b) :
    ndMay (noLeaf kind b) (noEs kind b) (noKs kind b) ∧ ((ndKind (noLeaf kind b) (noEs kind b) (noKs kind b) : Nat) : Int) = kind ∧ ndPack (noLeaf kind b) (noEs kind b) (noKs kind b) = b := by
  have hM : ndMay (noLeaf kind b) (noEs kind b) (noKs kind b) := by
    rw [noLeaf, noEs, noKs, if_pos h, if_pos h, if_pos h]; exact h.2
  refine ⟨hM, ?_⟩
  have e1 : noLeaf kind b = decide (kind = 1) := by rw [noLeaf, if_pos h]
  have e2 : noEs kind b = ndEsOf kind b := by rw [noEs, if_pos h]
  have e3 : noKs kind b = ndKsOf kind b := by rw [noKs, if_pos h]
  rcases h.1 with ⟨rfl, hl⟩ | ⟨rfl, hl⟩
  · have hkd : ndKind (noLeaf 1 b) (noEs 1 b) (noKs 1 b) = 1 := by rw [ndKind, if_pos hM, e1]; rfl
    refine ⟨by rw [hkd]; rfl, ?_⟩
    rw [ndPack, if_pos hM, e1, if_pos (by rfl), e2]
    have e4 : ndEsOf 1 b = qList (ndEnt b) (fld b 0 1) := if_pos rfl
    rw [e4, qList_length]
    have h1 : layAll 1 [((fld b 0 1 : Nat) : Int)] = b.take 1 := by
      simp only [layAll, List.append_nil]
      rw [one_fld b 0 (by omega), List.drop_zero]
    rw [h1, body_take entBytes ndEnt 13 b (fun i hi => ndEnt_bytes b i (by omega)) _ (by omega), ← hl, List.take_length]
  · have hkd : ndKind (noLeaf 2 b) (noEs 2 b) (noKs 2 b) = 2 := by rw [ndKind, if_pos hM, e1]; rfl
    refine ⟨by rw [hkd]; rfl, ?_⟩
    rw [ndPack, if_pos hM, e1, if_neg (by decide), e3]
    have e4 : ndKsOf 2 b = qList (ndKid b) (fld b 0 1) := if_pos rfl
    rw [e4, qList_length]
    have h1 : layAll 1 [((fld b 0 1 : Nat) : Int)] = b.take 1 := by
      simp only [layAll, List.append_nil]
      rw [one_fld b 0 (by omega), List.drop_zero]
    rw [h1, body_take kidBytes ndKid 16 b (fun i hi => ndKid_bytes b i (by omega)) _ (by omega), ← hl, List.take_length]
end Go.Oct
