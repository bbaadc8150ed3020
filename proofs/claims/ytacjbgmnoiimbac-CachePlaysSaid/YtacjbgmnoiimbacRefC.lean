/- The document's take: walked. -/
import Derived.Test.YtacjbgmnoiimbacRefB
import Derived.Deep.RegionLaw
namespace Go.Proofs.Ytacjbgmnoiimbac
set_option linter.unusedVariables false
set_option linter.unusedSimpArgs false
open Go.RowKit

def aggOf (x : It) : Value := .agg #[.int .i64 x.file, .int .i64 x.blk, .slice x.a x.keys.length x.kc]
def TakeIs (B r : Nat) (room : Int) (v : Value) (its : List It) (f b : Int) (w : World) (e : Ending) (w' : World) : Prop :=
  Below B w w' ∧ KeepR w w' ∧ ((∃ i v', i < its.length ∧ (its.getD i default).file = f ∧ (its.getD i default).blk = b ∧ e = .returned (.tuple #[aggOf (its.getD i default), .bool true]) ∧ RefAt B w' r room v' (its.eraseIdx i)) ∨
    ((∀ i, i < its.length → ¬ ((its.getD i default).file = f ∧ (its.getD i default).blk = b)) ∧ e = .returned (.tuple #[.agg #[.int .i64 0, .int .i64 0, .slice none 0 0], .bool false]) ∧ RefAt B w' r room v its))
def NoneYet (its : List It) (f b : Int) (j : Nat) : Prop := ∀ i, i < j → ¬ ((its.getD i default).file = f ∧ (its.getD i default).blk = b)
theorem erase_items (its : List It) (i : Nat) : itemsV (its.take i) ++ itemsV (its.drop (i + 1)) = itemsV (its.eraseIdx i) := by
  rw [← itemsV_append, List.eraseIdx_eq_take_drop_succ]
theorem KeepR.above {a b : World} (h : KeepR a b) {g : Nat} (hg : a.heap.size ≤ g) (i : Nat) (v : Value) : KeepR a (b.setCell ⟨g, i, none⟩ v) := fun k o h1 h2 => by
  have hk := (Array.getElem?_eq_some_iff.1 h1).1
  rw [heap_setCell_other b ⟨g, i, none⟩ k v (by simp only; omega)]
  exact h k o h1 h2
theorem take_end {B r : Nat} {room : Int} {w wA w6 : World} {old v6 y0 y1 y2 : Value} {n6 : Nat} {its' : List It} (hB : B ≤ w.heap.size) (hBr : B ≤ r) (hrl : r < w.heap.size) (HA : Below w.heap.size w wA) (htA : w.heap.size < wA.heap.size) (HB6 : Below wA.heap.size wA w6)
    (h6r : w6.heap[r]? = some (.cells #[.int .i64 room, old] 42 (0, 0))) (hrow6 : w6.ownsRow wA.heap.size 57 3 v6 n6 (itemsV its')) :
    Below B w ((((w6.setCell ⟨r, 1, none⟩ v6).setCell ⟨w.heap.size, 0, none⟩ y0).setCell ⟨w.heap.size, 1, none⟩ y1).setCell ⟨w.heap.size, 2, none⟩ y2) ∧ KeepR w ((((w6.setCell ⟨r, 1, none⟩ v6).setCell ⟨w.heap.size, 0, none⟩ y0).setCell ⟨w.heap.size, 1, none⟩ y1).setCell ⟨w.heap.size, 2, none⟩ y2) ∧ RefAt B ((((w6.setCell ⟨r, 1, none⟩ v6).setCell ⟨w.heap.size, 0, none⟩ y0).setCell ⟨w.heap.size, 1, none⟩ y1).setCell ⟨w.heap.size, 2, none⟩ y2) r room v6 its' := by
  have hn : n6 = its'.length := by have := hrow6.1; rw [length_itemsV] at this; omega
  subst hn
  have e0 : ∀ (W : World) (i : Nat) (y : Value) (k : Nat), k ≠ w.heap.size → (W.setCell ⟨w.heap.size, i, none⟩ y).heap[k]? = W.heap[k]? := fun W i y k hk => heap_setCell_other W ⟨w.heap.size, i, none⟩ k y (by simp only; omega)
  refine ⟨?_, ?_, hBr, ?_, ?_⟩
  · have h1 : Below B w w6 := (HA.mono hB).trans (HB6.mono (by omega))
    exact (((h1.setCell (p := ⟨r, 1, none⟩) hBr v6).setCell (p := ⟨w.heap.size, 0, none⟩) hB y0).setCell (p := ⟨w.heap.size, 1, none⟩) hB y1).setCell (p := ⟨w.heap.size, 2, none⟩) hB y2
  · exact (((((KeepR.of HA).trans (KeepR.of HB6)).set h6r 1 v6).above (Nat.le_refl _) 0 y0).above (Nat.le_refl _) 1 y1).above (Nat.le_refl _) 2 y2
  · rw [e0 _ _ _ _ (by omega), e0 _ _ _ _ (by omega), e0 _ _ _ _ (by omega)]
    exact heap_setCell_same w6 r 1 _ 42 v6 h6r
  · refine (slab_row hrow6 (by omega)).same (fun g cur hg _ => ?_)
    have := (hrow6.lt g hg).1
    rw [e0 _ _ _ _ (by omega), e0 _ _ _ _ (by omega), e0 _ _ _ _ (by omega), heap_setCell_other w6 ⟨r, 1, none⟩ g v6 (by simp only; omega)]
set_option maxRecDepth 100000 in
set_option maxHeartbeats 4000000 in
theorem take_any (B r : Nat) (room : Int) (v : Value) (its : List It) (w : World) (hB : B ≤ w.heap.size) (h : RefAt B w r room v its) (hl : its.length ≤ 1000000) (f b : Int) :
    Calls Try.prog 24 #[.pointer (some ⟨r, 0, none⟩), .int .i64 f, .int .i64 b] w (TakeIs B r room v its f b w) := by
  obtain ⟨i57, hi, hz0, hz1, hz2⟩ := info_parts Try.info57
  obtain ⟨a, c, rfl⟩ := h.2.2.slice
  have hcl := h.2.2.len.2
  have HR := Lib.hid h
  have p1 := (row42 h.2.1).2
  have hrl := heap_lt h.2.1
  clear h
  go_enter Try.func24, Try.ntmps24
  have hA0 : Below w.heap.size w (w.alloc (.cells #[.int .i64 0, .int .i64 0, .slice none 0 0] 57)) := (Below.refl _ _).alloc (Nat.le_refl _) _
  have hT0 := heap_alloc_new w (.cells #[.int .i64 0, .int .i64 0, .slice none 0 0] 57)
  have HRel : Hid (Below w.heap.size w (w.alloc (.cells #[.int .i64 0, .int .i64 0, .slice none 0 0] 57)) ∧ (w.alloc (.cells #[.int .i64 0, .int .i64 0, .slice none 0 0] 57)).heap[w.heap.size]? = some (.cells #[.int .i64 0, .int .i64 0, .slice none 0 0] 57 (0, 0)) ∧ NoneYet its f b 0) := ⟨hA0, hT0, fun i hi => absurd hi (Nat.not_lt_zero _)⟩
  clear hA0 hT0
  go_wp2_with fail
  go_loopw [15] (fun i wr => ∃ j : Nat, i = .int .i64 j ∧ j ≤ its.length ∧ Hid (Below w.heap.size w wr ∧ wr.heap[w.heap.size]? = some (.cells #[.int .i64 0, .int .i64 0, .slice none 0 0] 57 (0, 0)) ∧ NoneYet its f b j)) (fun i _ => its.length - (intOf i).toNat)
  case atStart => exact ⟨0, rfl, Nat.zero_le _, HRel⟩
  case round =>
    clear HRel
    obtain ⟨j, rfl, hj, hst⟩ := hrel
    obtain ⟨hB1, hT, hNo⟩ := hst.out
    have HB1 := Lib.hid hB1
    have HT := Lib.hid hT
    have HNo := Lib.hid hNo
    clear hst hB1 hT hNo
    by_cases hjl : j < its.length
    · have dj : decide ((j : Int) < (its.length : Int)) = true := decide_eq_true (by omega)
      have hij : (j : Int) < (its.length : Int) := by omega
      obtain ⟨g, off, rfl, hg, hc⟩ := vals_items (HR.out.2.2.below HB1.out).vals (by omega)
      obtain ⟨c0, c1, c2⟩ := hc j hjl
      have HX : Hid (its.getD j default = its.getD j default) := rfl
      generalize hx : its.getD j default = x at c0 c1 c2
      have HX := Lib.hid hx
      clear hx hc
      have hA := HB1.out.alloc HB1.out.size (.cells #[.int .i64 x.file, .int .i64 x.blk, .slice x.a x.keys.length x.kc] 57)
      have HX0 := Lib.hid (heap_alloc_new wr (.cells #[.int .i64 x.file, .int .i64 x.blk, .slice x.a x.keys.length x.kc] 57))
      have HTA := Lib.hid ((heap_alloc_old wr (.cells #[.int .i64 x.file, .int .i64 x.blk, .slice x.a x.keys.length x.kc] 57) (heap_lt HT.out)).trans HT.out)
      have HA := Lib.hid hA
      have HGx : Hid (w.heap.size < wr.heap.size) := heap_lt HT.out
      clear hA
      go_upto_region 4 with (fail)
      generalize (wr.alloc (.cells #[.int .i64 x.file, .int .i64 x.blk, .slice x.a x.keys.length x.kc] 57)) = wA at *
      generalize wr.heap.size = gx at *
      have p0' := heap_cell HX0.out 0
      have p1' := heap_cell HX0.out 1
      have p2' := heap_cell HX0.out 2
      simp at p0' p1' p2'
      by_cases hf : x.file = f
      · by_cases hb : x.blk = b
        · have bf : (x.file == f) = true := by rw [hf]; exact beq_self_eq_true _
          have bb : (x.blk == b) = true := by rw [hb]; exact beq_self_eq_true _
          have HCut1 := Lib.hid (cutS_vals (xs := itemsV its) (cap := c) (size := 3) (lo := 0) (hi := j) ((HR.out.2.2.below HA.out).vals) (by rw [length_itemsV]; omega) (by rw [length_itemsV]; have := hcl.1; omega) (Nat.zero_le c))
          have HCut2 := Lib.hid (cutS_vals (xs := itemsV its) (cap := c) (size := 3) (lo := j + 1) (hi := its.length) ((HR.out.2.2.below HA.out).vals) (by rw [length_itemsV]; omega) (by rw [length_itemsV]; have := hcl.1; omega) (by have := hcl.1; omega))
          have HV1 : Hid (IsVals wA (cutS (some ⟨g, off, none⟩) c 0 3) (itemsV (its.take j))) := by
            have := HCut1.out
            rw [Nat.zero_mul, List.drop_zero, itemsV_take] at this
            exact this
          have HV2 : Hid (IsVals wA (cutS (some ⟨g, off, none⟩) c (j + 1) 3) (itemsV (its.drop (j + 1)))) := by
            have := HCut2.out
            rw [itemsV_take, itemsV_drop, List.take_length] at this
            exact this
          have hs1 : ∀ W, (Instr.slice 40 (.slice (some ⟨g, off, none⟩) its.length c) none (some (.int .i64 (j : Int))) none).run Try.prog W = .ok (.slice (cutS (some ⟨g, off, none⟩) c 0 3) j c) W := fun W => run_slice_hS (P := Try.prog) W 40 57 i57 3 Try.underlying40 hi hz1 _ _ _ j .i64 (by have := hcl.1; omega)
          have hs2 : ∀ W, (Instr.slice 40 (.slice (some ⟨g, off, none⟩) its.length c) (some (.int .i64 ((j : Int) + 1))) none none).run Try.prog W = .ok (.slice (cutS (some ⟨g, off, none⟩) c (j + 1) 3) (its.length - (j + 1)) (c - (j + 1))) W := fun W => run_slice_lS (P := Try.prog) W 40 57 i57 3 Try.underlying40 hi hz1 _ _ _ (j + 1) .i64 hjl
          have HL1 : Hid ((itemsV (its.take j)).length = j * 3) := by show _ = _; rw [length_itemsV, List.length_take]; omega
          have HL2 : Hid ((itemsV (its.drop (j + 1))).length = (its.length - (j + 1)) * 3) := by show _ = _; rw [length_itemsV, List.length_drop]
          have HBA := Lib.hid ((Below.refl wA.heap.size wA).drew.alloc (Nat.le_refl _) (.cells #[] 57))
          have HE := Lib.hid (row_empty wA.drew wA.heap.size 57 3 (Nat.le_refl _))
          have hwj : IntKind.i64.wrap ((j : Int) + 1) = (j : Int) + 1 := by rw [IntKind.wrap_i64]; omega
          have hrA : r < wA.heap.size := Nat.lt_of_lt_of_le hrl HA.out.size
          have HRA := Lib.hid ((HA.out.block r hrl).trans HR.out.2.1)
          have pA := (row42 HRA.out).2
          have hgA : gx < wA.heap.size := heap_lt HX0.out
          have htA : w.heap.size < wA.heap.size := heap_lt HTA.out
          have HJ : Hid (its.getD j default = x ∧ x.file = f ∧ x.blk = b) := ⟨HX.out, hf, hb⟩
          clear hf hb hg c0 c1 c2 HCut1 HCut2
          go_upto_region 5 with (fail)
          go_region_law (first | (refine step_append_vals rfl (.tmp 31) (.tmp 37) 40 rfl wA.heap.size 57 i57 _ 3 40 Try.underlying40 hi hz0 hz1 hz2 rfl (by decide) _ 0 [] (by rfl) HE.out _ j c (itemsV (its.take j)) (by rfl) HL1.out (HV1.out.below HBA.out) (itemsV_one _) (by unfold maxLen; omega) (by omega) HBA.out.size ?_; intro v4 w4 hrow4 hg4; have HB4 := Lib.hid (Below.own HBA.out HE.out (Nat.le_refl _) HBA.out.size hg4); have hp4 := (row42 ((HB4.out.block r hrA).trans HRA.out)).2; have HRow4 := Lib.hid hrow4; clear hrow4 hg4) | (refine step_append_vals rfl (.tmp 38) (.tmp 45) 40 rfl wA.heap.size 57 i57 _ 3 40 Try.underlying40 hi hz0 hz1 hz2 rfl (by decide) _ (0 + j) _ (by rfl) HRow4.out _ (its.length - (j + 1)) (c - (j + 1)) (itemsV (its.drop (j + 1))) (by rfl) HL2.out (HV2.out.below HB4.out) (itemsV_one _) (by unfold maxLen; omega) (by omega) HB4.out.size ?_; intro v6 w6 hrow6 hg6; have HB6 := Lib.hid (Below.own HB4.out HRow4.out (Nat.le_refl _) HB4.out.size hg6); have HR6 := Lib.hid ((HB6.out.block r hrA).trans HRA.out); have hp6 := (row42 HR6.out).2; have hf6 := frozen_of_row w6 r 1 _ _ HR6.out; obtain ⟨a6, m6, c6, rfl⟩ := row_slice hrow6; have HRow6 := Lib.hid hrow6; clear hrow6 hg6))
          all_goals
            have HEnd := Lib.hid (take_end (y0 := .int .i64 x.file) (y1 := .int .i64 x.blk) (y2 := .slice x.a x.keys.length x.kc) hB HR.out.1 hrl HA.out htA HB6.out HR6.out (its' := its.eraseIdx j) (by rw [← erase_items]; exact HRow6.out))
            have hgx := HGx.out
            have h7x : (w6.setCell ⟨r, 1, none⟩ (.slice a6 m6 c6)).heap[gx]? = some (.cells #[.int .i64 x.file, .int .i64 x.blk, .slice x.a x.keys.length x.kc] 57 (0, 0)) := by
              rw [heap_setCell_other w6 ⟨r, 1, none⟩ gx _ (by simp only; omega)]
              exact (HB6.out.block gx hgA).trans HX0.out
            have h7t : (w6.setCell ⟨r, 1, none⟩ (.slice a6 m6 c6)).heap[w.heap.size]? = some (.cells #[.int .i64 0, .int .i64 0, .slice none 0 0] 57 (0, 0)) := by
              rw [heap_setCell_other w6 ⟨r, 1, none⟩ _ _ (by simp only; omega)]
              exact (HB6.out.block _ htA).trans HTA.out
            generalize (w6.setCell ⟨r, 1, none⟩ (.slice a6 m6 c6)) = w7 at *
            have z0 := heap_cell h7x 0
            have z1 := heap_cell h7x 1
            have z2 := heap_cell h7x 2
            have q0 := heap_cell h7t 0
            have q1 := heap_cell h7t 1
            have q2 := heap_cell h7t 2
            have f0 := frozen_of_row w7 w.heap.size 0 _ _ h7t
            have f1 := frozen_of_row w7 w.heap.size 1 _ _ h7t
            have f2 := frozen_of_row w7 w.heap.size 2 _ _ h7t
            simp at z0 z1 z2 q0 q1 q2
            clear h7x h7t hp6 hf6 hp4
            go_wp2_with fail
            exact bodyPost_ret (v := .tuple #[aggOf x, .bool true]) (by simp [results, Try.results24, go_sem, q0, q1, q2, aggOf]) rfl ⟨HEnd.out.1, HEnd.out.2.1, .inl ⟨j, .slice a6 m6 c6, hjl, by rw [HJ.out.1]; exact HJ.out.2.1, by rw [HJ.out.1]; exact HJ.out.2.2, by rw [HJ.out.1], HEnd.out.2.2⟩⟩
        · have bb : (x.blk == b) = false := by rw [beq_eq_false_iff_ne]; exact hb
          have bf : (x.file == f) = true := by rw [hf]; exact beq_self_eq_true _
          have HRelN : Hid (Below w.heap.size w wA ∧ wA.heap[w.heap.size]? = some (.cells #[.int .i64 0, .int .i64 0, .slice none 0 0] 57 (0, 0)) ∧ NoneYet its f b (j + 1)) := ⟨HA.out, HTA.out, fun i hi => by
            by_cases e : i = j
            · subst e
              rw [HX.out]
              intro hc
              exact hb hc.2
            · exact HNo.out i (by omega)⟩
          clear hb hf
          go_wp2_with fail
          go_roundw
          case rel => exact ⟨j + 1, by go_num, by omega, HRelN⟩
          case measure => simp [intOf]; omega
      · have bf : (x.file == f) = false := by rw [beq_eq_false_iff_ne]; exact hf
        have HRelN : Hid (Below w.heap.size w wA ∧ wA.heap[w.heap.size]? = some (.cells #[.int .i64 0, .int .i64 0, .slice none 0 0] 57 (0, 0)) ∧ NoneYet its f b (j + 1)) := ⟨HA.out, HTA.out, fun i hi => by
          by_cases e : i = j
          · subst e
            rw [HX.out]
            intro hc
            exact hf hc.1
          · exact HNo.out i (by omega)⟩
        clear hf
        go_wp2_with fail
        go_roundw
        case rel => exact ⟨j + 1, by go_num, by omega, HRelN⟩
        case measure => simp [intOf]; omega
    · obtain rfl : j = its.length := by omega
      have dj : decide ((its.length : Int) < (its.length : Int)) = false := by simp
      have q0 := heap_cell HT.out 0
      have q1 := heap_cell HT.out 1
      have q2 := heap_cell HT.out 2
      have f0 := frozen_of_row wr w.heap.size 0 _ _ HT.out
      have f1 := frozen_of_row wr w.heap.size 1 _ _ HT.out
      have f2 := frozen_of_row wr w.heap.size 2 _ _ HT.out
      simp at q0 q1 q2
      go_wp2_with fail
      have hb9 := ((HB1.out.setCell (p := ⟨w.heap.size, 0, none⟩) (Nat.le_refl _) (.int .i64 0)).setCell (p := ⟨w.heap.size, 1, none⟩) (Nat.le_refl _) (.int .i64 0)).setCell (p := ⟨w.heap.size, 2, none⟩) (Nat.le_refl _) (.slice none 0 0)
      exact bodyPost_ret (v := .tuple #[.agg #[.int .i64 0, .int .i64 0, .slice none 0 0], .bool false]) (by simp [results, Try.results24, go_sem, q0, q1, q2]) rfl ⟨hb9.mono hB, KeepR.of hb9, .inr ⟨HNo.out, rfl, HR.out.below hb9⟩⟩
end Go.Proofs.Ytacjbgmnoiimbac
