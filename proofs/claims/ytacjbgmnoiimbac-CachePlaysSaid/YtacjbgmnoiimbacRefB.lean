/- The document's Used: walked. -/
import Derived.Test.YtacjbgmnoiimbacRefA
namespace Go.Proofs.Ytacjbgmnoiimbac
set_option linter.unusedVariables false
set_option linter.unusedSimpArgs false
open Go.RowKit

theorem vals_items {w : World} {a : Option Addr} {its : List It} (h : IsVals w a (itemsV its)) (h0 : 0 < its.length) : ∃ g off, a = some ⟨g, off, none⟩ ∧ g < w.heap.size ∧ ∀ k, k < its.length → w.cell? ⟨g, off + k * 3, none⟩ = some (.int .i64 (its.getD k default).file) ∧ w.cell? ⟨g, off + k * 3 + 1, none⟩ = some (.int .i64 (its.getD k default).blk) ∧ w.cell? ⟨g, off + k * 3 + 2, none⟩ = some (.slice (its.getD k default).a (its.getD k default).keys.length (its.getD k default).kc) := by
  have hl := length_itemsV its
  obtain ⟨g, off, ha, hg, hc⟩ := h (by omega)
  refine ⟨g, off, ha, hg, fun k hk => ?_⟩
  obtain ⟨h1, h2, h3⟩ := itemsV_get its k hk
  exact ⟨(hc (k * 3) (by omega)).trans h1, by rw [Nat.add_assoc]; exact (hc (k * 3 + 1) (by omega)).trans h2, by rw [Nat.add_assoc]; exact (hc (k * 3 + 2) (by omega)).trans h3⟩
theorem total_take (its : List It) (j : Nat) (h : j < its.length) : total (its.take (j + 1)) = total (its.take j) + sizeK (its.getD j default).keys := by
  have e : its.take (j + 1) = its.take j ++ [its.getD j default] := by
    rw [List.take_add_one, List.getElem?_eq_getElem h, List.getD_eq_getElem?_getD, List.getElem?_eq_getElem h]; rfl
  rw [e, total_snoc]
theorem total_le_take (its : List It) (j : Nat) : total (its.take j) ≤ total its := by
  have e : total its = total (its.take j) + total (its.drop j) := by
    unfold total
    rw [← List.sum_append, ← List.map_append, List.take_append_drop]
  omega
theorem row42 {w : World} {r : Nat} {room : Int} {v : Value} (h : w.heap[r]? = some (.cells #[.int .i64 room, v] 42 (0, 0))) : w.cell? ⟨r, 0, none⟩ = some (.int .i64 room) ∧ w.cell? ⟨r, 1, none⟩ = some v := ⟨heap_cell h 0, heap_cell h 1⟩
set_option maxRecDepth 100000 in
set_option maxHeartbeats 2000000 in
theorem usedref_any (B r : Nat) (room : Int) (v : Value) (its : List It) (w : World) (h : RefAt B w r room v its) (hok : ItemsOk w its) (hl : its.length ≤ 1000000) (ht : total its ≤ 1000000000) :
    Calls Try.prog 19 #[.pointer (some ⟨r, 0, none⟩)] w fun e w' => e = .returned (.int .i64 (total its : Int)) ∧ Below w.heap.size w w' := by
  obtain ⟨a, c, rfl⟩ := h.2.2.slice
  have HR := Lib.hid h
  have HOk := Lib.hid hok
  have p1 := (row42 h.2.1).2
  clear h hok
  go_enter Try.func19, Try.ntmps19
  go_wp2_with fail
  go_loopw [3, 11] (fun z i wr => ∃ j : Nat, i = .int .i64 j ∧ z = .int .i64 (total (its.take j) : Int) ∧ j ≤ its.length ∧ Hid (Below w.heap.size w wr)) (fun _ i _ => its.length - (intOf i).toNat)
  case atStart => exact ⟨0, rfl, by simp [total], Nat.zero_le _, Below.refl _ _⟩
  case round =>
    obtain ⟨j, rfl, rfl, hj, HB⟩ := hrel
    by_cases hjl : j < its.length
    · have dj : decide ((j : Int) < (its.length : Int)) = true := decide_eq_true (by omega)
      have hij : (j : Int) < (its.length : Int) := by omega
      obtain ⟨g, off, rfl, hg, hc⟩ := vals_items (HR.out.2.2.below HB.out).vals (by omega)
      obtain ⟨c0, c1, c2⟩ := hc j hjl
      obtain ⟨hk, hks, _, hst⟩ := HOk.out _ (getD_mem hjl)
      have htt := total_take its j hjl
      have htl := total_le_take its (j + 1)
      generalize hx : its.getD j default = x at *
      clear hx hc
      obtain ⟨xb, f, b, xa, kc, keys⟩ := x
      simp only at c0 c1 c2 hk hks hst htt
      have hA := HB.out.alloc HB.out.size (.cells #[.int .i64 f, .int .i64 b, .slice xa keys.length kc] 57)
      have hx0 := heap_alloc_new wr (.cells #[.int .i64 f, .int .i64 b, .slice xa keys.length kc] 57)
      have HSz := Lib.hid (size_any f b xa kc keys (wr.alloc (.cells #[.int .i64 f, .int .i64 b, .slice xa keys.length kc] 57)) (by omega) (fun i => by have := hks i; omega) (hst.below hA))
      have HA := Lib.hid hA
      have HX0 := Lib.hid hx0
      have HT := Lib.hid htt
      clear hst hA hx0 htt hks
      generalize total (its.take j) = Z at *
      go_upto_region 5 with (fail)
      generalize (wr.alloc (.cells #[.int .i64 f, .int .i64 b, .slice xa keys.length kc] 57)) = wA at *
      generalize wr.heap.size = gx at *
      have p0 := heap_cell HX0.out 0
      have p1' := heap_cell HX0.out 1
      have p2 := heap_cell HX0.out 2
      simp at p0 p1' p2
      go_wp2_with fail
      refine HSz.out.mono ?_
      clear HSz
      rintro e w3 ⟨rfl, hb3⟩
      have HB3 := Lib.hid (HA.out.trans (hb3.mono HA.out.size))
      have hw : IntKind.i64.wrap ((Z : Int) + (sizeK keys : Int)) = (Z : Int) + (sizeK keys : Int) := by
        have := HT.out
        rw [IntKind.wrap_i64]; omega
      clear hb3
      go_wp2_with fail
      go_roundw
      case rel => exact ⟨j + 1, by go_num, by rw [HT.out]; rfl, by omega, HB3⟩
      case measure => simp [intOf]; omega
    · obtain rfl : j = its.length := by omega
      have dj : decide ((its.length : Int) < (its.length : Int)) = false := by simp
      go_wp2_with fail
      go_ret
      exact ⟨by rw [List.take_length]; rfl, HB.out⟩
end Go.Proofs.Ytacjbgmnoiimbac
