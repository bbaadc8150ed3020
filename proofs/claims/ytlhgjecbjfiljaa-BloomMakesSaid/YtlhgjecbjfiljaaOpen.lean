/- What an argument that is a slice of bytes, or of texts, holds. -/
import Derived.Test.YtlhgjecbjfiljaaRows
import Derived.Test.YtlhgjecbjfiljaaWalkE
import Derived.ProofKit
import Derived.OpenShut
import Derived.ShutString
import Derived.ChangeOld
import Derived.Below
import Derived.SliceStrings
namespace Go.Proofs.Ytlhgjecbjfiljaa
open Go.ChangeShapes Go.WideShapes Go.ChangeAt Go.RowKit
open Go.ChangeMaps (open_string shut_string)

theorem own : ownKnob Try.prog.godebug = none := by kernel_rfl
theorem laidOut : laidOutB Try.prog = true := by kernel_rfl

theorem bytes_of_ints {w : World} {x : Addr} {len : Nat} {zs : List Int} (hl : len ≤ zs.length) (hc : ∀ i, i < zs.length → w.cell? (x.add i) = some (.int .u8 (zs.getD i 0))) (hw : ∀ n ∈ zs, (Lit.int .u8 n).wf = true) :
    ∃ l : List UInt8, l.length = len ∧ IsBytes w (some x) l := by
  refine ⟨(zs.take len).map (fun n => UInt8.ofNat n.toNat), by simp; omega, ?_⟩
  intro h0
  have h0' : 0 < len := by simpa [Nat.min_eq_left hl] using h0
  obtain ⟨b, off, spot⟩ := x
  have hc0 := hc 0 (by omega)
  have hspot : spot = none := by simpa [Addr.add] using World.cell?_spot hc0
  subst hspot
  refine ⟨b, off, rfl, ?_, ?_⟩
  · have := World.block_lt_of_cell? w _ hc0
    simpa [Addr.add] using this
  · intro k hk
    have hk' : k < len := by simpa [Nat.min_eq_left hl] using hk
    have h := hc k (by omega)
    rw [Addr.add_lit] at h
    rw [h]
    have hz : zs.getD k 0 ∈ zs := by simp only [List.getD, show k < zs.length by omega, List.getElem?_eq_getElem, Option.getD_some, List.getElem_mem]
    have hb := bounds_u8 (hw _ hz)
    congr 2
    simp only [List.getD, List.getElem?_map, List.getElem?_take, hk', ↓reduceIte, show k < zs.length by omega, List.getElem?_eq_getElem, Option.map_some, Option.getD_some]
    simp only [List.getD, show k < zs.length by omega, List.getElem?_eq_getElem, Option.getD_some] at hb
    rw [UInt8.toNat_ofNat']
    omega

theorem strs_of_cells {w : World} {x : Addr} {len : Nat} {ss : List ByteArray} (hl : len ≤ ss.length) (hc : ∀ i, i < ss.length → w.cell? (x.add i) = some (.string (ss.getD i ByteArray.empty))) :
    ∃ l : List ByteArray, l.length = len ∧ (∀ s ∈ l, s ∈ ss) ∧ IsStrs w (some x) l := by
  refine ⟨ss.take len, by simp; omega, fun s hs => List.mem_of_mem_take hs, ?_⟩
  intro h0
  have h0' : 0 < len := by simpa [Nat.min_eq_left hl] using h0
  obtain ⟨b, off, spot⟩ := x
  have hc0 := hc 0 (by omega)
  have hspot : spot = none := by simpa [Addr.add] using World.cell?_spot hc0
  subst hspot
  refine ⟨b, off, rfl, ?_, ?_⟩
  · have := World.block_lt_of_cell? w _ hc0
    simpa [Addr.add] using this
  · intro k hk
    have hk' : k < len := by simpa [Nat.min_eq_left hl] using hk
    have h := hc k (by omega)
    rw [Addr.add_lit] at h
    rw [h]
    simp [List.getD, hk']

/-- an argument of a type of slices of bytes -/
theorem view_bytes {H : Type} {enc : TypeId × Value → H} {P : Program} {W : World} {t e : TypeId} {a : Option Addr} {len cap : Nat} {d : DataW H} {p : List MemPlace}
    (ht : P.underlying t = some (.slice e)) (he : P.underlying e = some (.int .u8)) (hc : P.cellsOf e = 1) (h : DataW.Trod enc P W 0 (fun _ => true) true t (.slice a len cap) d p) :
    ∃ l : List UInt8, l.length = len ∧ len ≤ 9223372036854775807 ∧ IsBytes W a l := by
  obtain ⟨fuel, hf⟩ := h
  rcases open_ints ht he hc hf with ⟨hcs, _⟩ | ⟨x, l, c, zs, hcs, _, hl, hm, hz, _, hcell, hwz⟩
  · simp [Value.cells] at hcs
    obtain ⟨rfl, rfl, rfl⟩ := hcs
    exact ⟨[], rfl, by omega, fun h => by cases h⟩
  · simp [Value.cells] at hcs
    obtain ⟨rfl, rfl, rfl⟩ := hcs
    simp only [if_true] at hz
    obtain ⟨y, hy, hv⟩ := bytes_of_ints (len := len) (by omega) hcell hwz
    unfold maxLen at hm
    exact ⟨y, hy, by omega, hv⟩
/-- an argument of a type of slices of texts -/
theorem view_strs {H : Type} {enc : TypeId × Value → H} {P : Program} {W : World} {t e : TypeId} {a : Option Addr} {len cap : Nat} {d : DataW H} {p : List MemPlace}
    (ht : P.underlying t = some (.slice e)) (he : P.underlying e = some .string) (hc : P.cellsOf e = 1) (h : DataW.Trod enc P W 0 (fun _ => true) true t (.slice a len cap) d p) :
    ∃ l : List ByteArray, l.length = len ∧ len ≤ 9223372036854775807 ∧ (∀ s ∈ l, s.size ≤ 9223372036854775807) ∧ IsStrs W a l := by
  obtain ⟨fuel, hf⟩ := h
  rcases open_strings ht he hc hf with ⟨hcs, _⟩ | ⟨x, l, c, ss, hcs, _, hl, hm, hz, _, hcell, hws⟩
  · simp [Value.cells] at hcs
    obtain ⟨rfl, rfl, rfl⟩ := hcs
    exact ⟨[], rfl, by omega, (fun s h => (by cases h)), (fun h => (by cases h))⟩
  · simp [Value.cells] at hcs
    obtain ⟨rfl, rfl, rfl⟩ := hcs
    simp only [if_true] at hz
    obtain ⟨y, hy, hin, hv⟩ := strs_of_cells (len := len) (by omega) hcell
    unfold maxLen at hm hws
    exact ⟨y, hy, by omega, fun s h => by have := hws s (hin s h); omega, hv⟩
end Go.Proofs.Ytlhgjecbjfiljaa
