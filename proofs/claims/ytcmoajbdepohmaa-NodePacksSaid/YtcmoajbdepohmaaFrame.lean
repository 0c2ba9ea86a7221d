/- How an argument of a law is read: a slice of bytes that came in reads as a list, and is no longer than the form's own reach. No program is named here. -/
import Derived.ProofKit
import Derived.OpenShut
import Derived.ChangeOld
import Derived.SizedLaws
import Derived.Test.YtcmoajbdepohmaaBase
namespace Go.Oct
open Go.ChangeShapes Go.WideShapes Go.ChangeAt Go.RowKit
variable {H : Type} {enc : TypeId × Value → H} {P : Program}
theorem byte_of_wf {n : Int} (h : (Lit.int .u8 n).wf = true) : 0 ≤ n ∧ n < 256 := by
  have hmin : IntKind.u8.min = 0 := rfl
  have hmax : IntKind.u8.max = 255 := rfl
  simp only [Lit.wf, Bool.and_eq_true, decide_eq_true_eq] at h
  omega
def byteOf (n : Int) : UInt8 := UInt8.ofNat n.toNat
theorem byteOf_back {n : Int} (h0 : 0 ≤ n) (h1 : n < 256) : ((byteOf n).toNat : Int) = n := by
  unfold byteOf
  rw [UInt8.toNat_ofNat_of_lt' (by simp [UInt8.size]; omega)]
  omega
/-- bytes out of a row of numbers -/
theorem bytes_of_row {W : World} {a : Addr} {len cap : Nat} {zs : List Int} (hl : len ≤ cap) (hm : cap ≤ maxLen) (hz : zs.length = cap)
    (hc : ∀ i, i < zs.length → W.cell? (a.add i) = some (.int .u8 (zs.getD i 0))) (hw : ∀ n ∈ zs, (Lit.int .u8 n).wf = true) :
    ∃ l, l.length = len ∧ Bytes W (.slice (some a) len cap) l := by
  refine ⟨(zs.take len).map byteOf, by simp; omega, ?_⟩
  have hlen : ((zs.take len).map byteOf).length = len := by simp; omega
  unfold Bytes
  rw [hlen]
  refine ⟨some a, cap, rfl, hl, hm, fun hne => ?_⟩
  have hpos : 0 < len := by
    rcases Nat.eq_zero_or_pos len with h | h
    · subst h; simp [bs] at hne
    · exact h
  have h0 := hc 0 (by omega)
  obtain ⟨b, o, spot⟩ := a
  have hspot : spot = none := by simpa [Addr.add] using World.cell?_spot h0
  subst hspot
  refine ⟨b, o, rfl, fun i x hx => ?_⟩
  have hi : i < len := by
    have := (List.getElem?_eq_some_iff.1 hx).1
    rwa [bs_length, hlen] at this
  have hiz : i < zs.length := by omega
  have hci := hc i hiz
  have e : (⟨b, o, none⟩ : Addr).add i = ⟨b, o + i, none⟩ := by unfold Addr.add; split <;> simp_all
  rw [e] at hci
  rw [hci]
  have hg : zs.getD i 0 = zs[i] := by simp [hiz]
  obtain ⟨w0, w1⟩ := byte_of_wf (hw zs[i] (List.getElem_mem _))
  rw [hg]
  have hx2 : (bs ((zs.take len).map byteOf))[i]? = some (.int .u8 ((byteOf zs[i]).toNat : Int)) := by
    simp [bs, hi, hiz]
  rw [hx2] at hx
  rw [← hx, byteOf_back w0 w1]
/-- a slice of bytes that came in -/
theorem bytes_in {W : World} {base b0 : Nat} {t e : TypeId} {v : Value} {d : DataW H} {p : List MemPlace} {ts : List TypeId} {ds : List (DataW H)} {j : Nat}
    (ht : P.underlying t = some (.slice e)) (he : P.underlying e = some (.int .u8)) (hc : P.cellsOf e = 1) (hb : P.bytesOf e = 1)
    (hv : Value.okWide P W .any base t v) (h : DataW.Trod enc P W b0 (fun _ => true) true t v d p)
    (hs : (DataW.weightsEach P ts ds).all (· ≤ reachBytes) = true) (hj : ts[j]? = some t) (hd : ds[j]? = some d) :
    ∃ l, Bytes W v l ∧ l.length ≤ 140737488351232 := by
  obtain ⟨a, len, cap, rfl⟩ := okWide_slice ht hv
  obtain ⟨fuel, hf⟩ := h
  rcases open_ints ht he hc hf with ⟨hcs, _⟩ | ⟨x, l, c, zs, hcs, _, hl, hm, hz, hx, hcell, hwz⟩
  · simp [Value.cells] at hcs
    obtain ⟨rfl, rfl, rfl⟩ := hcs
    exact ⟨[], Bytes.nil W, by simp⟩
  · simp [Value.cells] at hcs
    obtain ⟨rfl, rfl, rfl⟩ := hcs
    simp only [if_true] at hz
    obtain ⟨l, hll, hB⟩ := bytes_of_row hl hm hz hcell hwz
    refine ⟨l, hB, ?_⟩
    simp only [Prod.mk.injEq] at hx
    have hr := sized_slice hs hj (hd.trans (congrArg some hx.1)) ht
    rw [hb] at hr
    simp [lits, hz] at hr
    have : reachBytes = 140737488351232 := rfl
    omega
end Go.Oct
