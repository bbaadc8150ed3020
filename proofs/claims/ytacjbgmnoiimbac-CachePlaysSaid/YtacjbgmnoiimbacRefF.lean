/- The document's Drop: walked. -/
import Derived.Test.YtacjbgmnoiimbacRefE
namespace Go.Proofs.Ytacjbgmnoiimbac
set_option linter.unusedVariables false
set_option linter.unusedSimpArgs false
open Go.RowKit

/-- the items of other files -/
def others (f : Int) (its : List It) : List It := its.filter fun x => !(x.file == f)
theorem others_take (f : Int) (its : List It) (j : Nat) (h : j < its.length) : others f (its.take (j + 1)) = others f (its.take j) ++ (if (its.getD j default).file = f then [] else [its.getD j default]) := by
  have e : its.take (j + 1) = its.take j ++ [its.getD j default] := by
    rw [List.take_add_one, List.getElem?_eq_getElem h, List.getD_eq_getElem?_getD, List.getElem?_eq_getElem h]; rfl
  rw [e]
  unfold others
  rw [List.filter_append]
  congr 1
  by_cases hc : (its.getD j default).file = f
  · rw [if_pos hc, List.filter_cons, if_neg (by rw [hc]; simp)]; rfl
  · rw [if_neg hc, List.filter_cons, if_pos (by simpa using hc)]; rfl
theorem others_len (f : Int) (its : List It) : (others f its).length ≤ its.length := List.length_filter_le _ _
def DropRel (w : World) (f : Int) (its : List It) (j : Nat) (v : Value) (wr : World) : Prop := Below w.heap.size w wr ∧ wr.ownsRow w.heap.size 57 3 v (others f (its.take j)).length (itemsV (others f (its.take j)))
set_option maxRecDepth 100000 in
set_option maxHeartbeats 4000000 in
theorem dropref_any (B r : Nat) (room : Int) (v : Value) (its : List It) (w : World) (hB : B ≤ w.heap.size) (h : RefAt B w r room v its) (hl : its.length ≤ 10000) (f : Int) :
    Calls Try.prog 17 #[.pointer (some ⟨r, 0, none⟩), .int .i64 f] w fun e w' => e = .returned (.tuple #[]) ∧ (∃ v', RefAt B w' r room v' (others f its)) ∧ Below B w w' ∧ KeepR w w' := by
  obtain ⟨i57, hi, hz0, hz1, hz2⟩ := info_parts Try.info57
  obtain ⟨a, c, rfl⟩ := h.2.2.slice
  have HR := Lib.hid h
  have p1 := (row42 h.2.1).2
  have hrl := heap_lt h.2.1
  clear h
  go_enter Try.func17, Try.ntmps17
  go_wp2_with fail
  go_loopw [4, 12] (fun v i wr => ∃ (j : Nat) (oa : Option Addr) (on oc : Nat), v = .slice oa on oc ∧ i = .int .i64 j ∧ j ≤ its.length ∧ Hid (DropRel w f its j (.slice oa on oc) wr)) (fun _ i _ => its.length - (intOf i).toNat)
  case atStart => exact ⟨0, none, 0, 0, rfl, rfl, Nat.zero_le _, ⟨Below.refl _ _, World.ownsRow_nil _ _ _ _⟩⟩
  case round =>
    obtain ⟨j, oa, on, oc, rfl, rfl, hj, hst⟩ := hrel
    obtain ⟨hB1, hRow⟩ := hst.out
    by_cases hjl : j < its.length
    · have dj : decide ((j : Int) < (its.length : Int)) = true := decide_eq_true (by omega)
      have hij : (j : Int) < (its.length : Int) := by omega
      obtain ⟨g, off, rfl, hg, hc⟩ := vals_items (HR.out.2.2.below hB1).vals (by omega)
      obtain ⟨c0, c1, c2⟩ := hc j hjl
      have hot := others_take f its j hjl
      have hol := others_len f (its.take j)
      rw [List.length_take] at hol
      generalize hx : its.getD j default = x at *
      have hA := hB1.alloc hB1.size (.cells #[.int .i64 x.file, .int .i64 x.blk, .slice x.a x.keys.length x.kc] 57)
      have HX0 := Lib.hid (heap_alloc_new wr (.cells #[.int .i64 x.file, .int .i64 x.blk, .slice x.a x.keys.length x.kc] 57))
      have HA := Lib.hid hA
      have HRowA := Lib.hid (hRow.alloc (.cells #[.int .i64 x.file, .int .i64 x.blk, .slice x.a x.keys.length x.kc] 57))
      have HOT := Lib.hid hot
      clear hst hA hRow hB1 hx hc hg hot
      go_upto_region 4 with (fail)
      generalize (wr.alloc (.cells #[.int .i64 x.file, .int .i64 x.blk, .slice x.a x.keys.length x.kc] 57)) = wA at *
      generalize wr.heap.size = gx at *
      have p0' := heap_cell HX0.out 0
      have p1' := heap_cell HX0.out 1
      have p2' := heap_cell HX0.out 2
      simp at p0' p1' p2'
      by_cases hf : x.file = f
      · have bf : (x.file != f) = false := by rw [hf]; simp
        have HRelN : Hid (DropRel w f its (j + 1) (.slice oa on oc) wA) := ⟨HA.out, by rw [HOT.out, if_pos hf, List.append_nil]; exact HRowA.out⟩
        clear hf
        go_wp2_with fail
        go_roundw
        case rel => exact ⟨j + 1, oa, on, oc, rfl, by go_num, by omega, HRelN⟩
        case measure => simp [intOf]; omega
      · have bf : (x.file != f) = true := by rw [bne_iff_ne]; exact hf
        have HF := Lib.hid hf
        generalize (others f (its.take j)) = acc at *
        obtain ⟨q, hq⟩ : ∃ q, q = acc.length := ⟨_, rfl⟩
        have HRowA' : Hid (wA.ownsRow w.heap.size 57 3 (.slice oa on oc) q (itemsV acc)) := by rw [hq]; exact HRowA
        have hol' : q ≤ 10000 := by omega
        have HQ := Lib.hid hq
        have HAA := Lib.hid (HA.out.alloc HA.out.size (.cells #[.int .i64 x.file, .int .i64 x.blk, .slice x.a x.keys.length x.kc] 57))
        clear hf hq hol HRowA
        have HRowB := Lib.hid (HRowA'.out.alloc (.cells #[.int .i64 x.file, .int .i64 x.blk, .slice x.a x.keys.length x.kc] 57))
        have HV : Hid (IsVals (wA.alloc (.cells #[.int .i64 x.file, .int .i64 x.blk, .slice x.a x.keys.length x.kc] 57)) (some ⟨wA.heap.size, 0, none⟩) [.int .i64 x.file, .int .i64 x.blk, .slice x.a x.keys.length x.kc]) := fun _ => ⟨wA.heap.size, 0, rfl, by simp, fun k hk => by
          rw [Nat.zero_add, heap_cell (heap_alloc_new wA _)]; simp⟩
        go_wp2_with (at_builtin; refine wpList_append_vals _ rfl (.tmp 20) (.tmp 22) 40 rfl w.heap.size 57 i57 _ 3 40 Try.underlying40 hi hz0 hz1 hz2 rfl (by decide) (.slice oa on oc) q (itemsV acc) (by rfl) HRowB.out (some ⟨wA.heap.size, 0, none⟩) 1 1 [.int .i64 x.file, .int .i64 x.blk, .slice x.a x.keys.length x.kc] (by rfl) (size_three _ _ _) HV.out (one_item x.file x.blk x.a x.kc x.keys) (by unfold maxLen; omega) (by omega) HAA.out.size ?_; intro v6 w6 hrow6 hg6; have HB6 := Lib.hid (Below.own HAA.out HRowB.out (Nat.le_refl _) HAA.out.size hg6); obtain ⟨a6, m6, c6, rfl⟩ := row_slice hrow6; have HRow6 := Lib.hid hrow6; clear hrow6 hg6)
        go_roundw
        case rel => exact ⟨j + 1, a6, m6, c6, rfl, by go_num, by omega, ⟨HB6.out, by
          rw [HOT.out, if_neg HF.out, itemsV_append, List.length_append, ← HQ.out]; exact HRow6.out⟩⟩
        case measure => simp [intOf]; omega
    · obtain rfl : j = its.length := by omega
      have dj : decide ((its.length : Int) < (its.length : Int)) = false := by simp
      rw [List.take_length] at hRow
      have hr1 : wr.heap[r]? = some (.cells #[.int .i64 room, .slice a its.length c] 42 (0, 0)) := (hB1.block r hrl).trans HR.out.2.1
      have s1 := (row42 hr1).2
      have sf := frozen_of_row wr r 1 _ _ hr1
      have HR1 := Lib.hid hr1
      have HBx := Lib.hid hB1
      have HRw := Lib.hid hRow
      clear hst hB1 hRow hr1
      go_wp2_with fail
      go_end0
      exact ⟨rfl, ⟨_, refAt_turn HR.out.1 HR1.out (slab_row HRw.out hB)⟩, (HBx.out.mono hB).setCell (p := ⟨r, 1, none⟩) HR.out.1 _, (KeepR.of HBx.out).set HR1.out 1 _⟩
end Go.Proofs.Ytacjbgmnoiimbac
