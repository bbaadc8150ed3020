/- The document's Get: walked. -/
import Derived.Test.YtacjbgmnoiimbacRefD
namespace Go.Proofs.Ytacjbgmnoiimbac
set_option linter.unusedVariables false
set_option linter.unusedSimpArgs false
open Go.RowKit

def GetR (B r : Nat) (room : Int) (v : Value) (its : List It) (f b : Int) (w : World) (e : Ending) (w' : World) : Prop :=
  Below B w w' ∧ KeepR w w' ∧ ((∃ i v', i < its.length ∧ (its.getD i default).file = f ∧ (its.getD i default).blk = b ∧ e = .returned (.tuple #[.slice (its.getD i default).a (its.getD i default).keys.length (its.getD i default).kc, .bool true]) ∧ RefAt B w' r room v' (its.eraseIdx i ++ [its.getD i default])) ∨
    ((∀ i, i < its.length → ¬ ((its.getD i default).file = f ∧ (its.getD i default).blk = b)) ∧ e = .returned (.tuple #[.slice none 0 0, .bool false]) ∧ RefAt B w' r room v its))
set_option maxRecDepth 100000 in
set_option maxHeartbeats 4000000 in
theorem getref_any (B r : Nat) (room : Int) (v : Value) (its : List It) (w : World) (hB : B ≤ w.heap.size) (h : RefAt B w r room v its) (hl : its.length ≤ 10000) (f b : Int) :
    Calls Try.prog 15 #[.pointer (some ⟨r, 0, none⟩), .int .i64 f, .int .i64 b] w (GetR B r room v its f b w) := by
  obtain ⟨i57, hi, hz0, hz1, hz2⟩ := info_parts Try.info57
  have HTk := Lib.hid (take_any B r room v its w hB h (by omega) f b)
  have HR0 := Lib.hid h
  clear h
  go_enter Try.func15, Try.ntmps15
  go_wp2_with fail
  refine HTk.out.mono ?_
  clear HTk
  rintro e w1 ⟨hb1, hk1, ⟨i, v1, hil, hf, hb, rfl, hr1⟩ | ⟨hno, rfl, hr1⟩⟩
  · have hl1 : (its.eraseIdx i).length ≤ 10000 := by rw [erase_len its i hil]; omega
    have HI : Hid (i < its.length ∧ (its.getD i default).file = f ∧ (its.getD i default).blk = b) := ⟨hil, hf, hb⟩
    generalize hx : its.getD i default = x at *
    have HX := Lib.hid hx
    generalize hie : its.eraseIdx i = its1 at *
    have HIE := Lib.hid hie
    obtain ⟨a1, c1, rfl⟩ := hr1.2.2.slice
    have HNE : Hid (∀ k, (Value.slice a1 its1.length c1).ownBlock = some k → k < w1.heap.size) := fun k hk => by
      obtain ⟨_, cur, hc⟩ := hr1.2.2.lt hk
      exact heap_lt hc
    have hA := (Below.refl w1.heap.size w1).alloc (Nat.le_refl _) (.cells #[.int .i64 x.file, .int .i64 x.blk, .slice x.a x.keys.length x.kc] 57)
    have HX0 := Lib.hid (heap_alloc_new w1 (.cells #[.int .i64 x.file, .int .i64 x.blk, .slice x.a x.keys.length x.kc] 57))
    have hrA := hr1.below hA
    have HRA := Lib.hid hrA
    have HBA := Lib.hid (hb1.trans (hA.mono (Nat.le_trans hB hb1.size)))
    have HKA := Lib.hid (hk1.trans (KeepR.of hA))
    clear hx hie hA hrA hr1 hb1 hk1 hil hf hb
    unfold aggOf
    go_upto_region 2 with (fail)
    generalize (w1.alloc (.cells #[.int .i64 x.file, .int .i64 x.blk, .slice x.a x.keys.length x.kc] 57)) = wA at *
    generalize w1.heap.size = gx at *
    have x0 := heap_cell HX0.out 0
    have x1 := heap_cell HX0.out 1
    have x2 := heap_cell HX0.out 2
    simp at x0 x1 x2
    have p1 := (row42 HRA.out.2.1).2
    have hgl := heap_lt HX0.out
    have hrl := heap_lt HRA.out.2.1
    have HAA := Lib.hid ((Below.refl wA.heap.size wA).drew.alloc (Nat.le_refl _) (.cells #[.int .i64 x.file, .int .i64 x.blk, .slice x.a x.keys.length x.kc] 57))
    have HRAA := Lib.hid (HRA.out.below HAA.out)
    have HXAA := Lib.hid ((HAA.out.block gx hgl).trans HX0.out)
    have HBAA := Lib.hid (HBA.out.trans (HAA.out.mono (Nat.le_trans hB HBA.out.size)))
    go_wp2_with fail
    go_region_law (refine step_append_slab rfl (.tmp 22) (.tmp 24) 40 rfl B 57 i57 _ 3 40 Try.underlying40 hi hz0 hz1 hz2 rfl (by decide) (.slice a1 its1.length c1) its1.length _ (by rfl) HRAA.out.2.2 ⟨wA.heap.size, 0, none⟩ 1 1 [.int .i64 x.file, .int .i64 x.blk, .slice x.a x.keys.length x.kc] (by rfl) (size_three _ _ _) (three_at wA.drew _ _ _ 57) (one_item x.file x.blk x.a x.kc x.keys) (by unfold maxLen; omega) (by omega) (Nat.le_trans hB HBAA.out.size) ?_; intro v2 w2 hs2 hg2; have HR2 := Lib.hid (slab_other HRAA.out.2.2 HRAA.out.2.1 hg2); have HB2 := Lib.hid (Below.slab HBAA.out HRAA.out.2.2 (Nat.le_trans hB HBAA.out.size) hg2); have HK2 := Lib.hid ((HKA.out.trans (KeepR.of HAA.out)).grown HRAA.out.2.2 hg2); have hp2 := (row42 HR2.out).2; have hf2 := frozen_of_row w2 r 1 _ _ HR2.out; obtain ⟨a2, m2, hv2⟩ := hs2.slice; subst hv2; have HS2 := Lib.hid hs2; have HX2 := Lib.hid ((hg2.block gx (heap_lt HXAA.out) (fun e => absurd (HNE.out gx e.symm) (Nat.lt_irrefl _))).trans HXAA.out); clear hs2 hg2)
    all_goals
      have HRF := Lib.hid (refAt_turn (v' := .slice a2 (its1.length + 1) m2) (its' := its1 ++ [x]) HRA.out.1 HR2.out (by rw [itemsV_append, List.length_append]; exact HS2.out))
      have HBF := Lib.hid (HB2.out.setCell (p := ⟨r, 1, none⟩) HRA.out.1 (.slice a2 (its1.length + 1) m2))
      have HKF := Lib.hid (HK2.out.set HR2.out 1 (.slice a2 (its1.length + 1) m2))
      have hx3 : (w2.setCell ⟨r, 1, none⟩ (.slice a2 (its1.length + 1) m2)).heap[gx]? = some (.cells #[.int .i64 x.file, .int .i64 x.blk, .slice x.a x.keys.length x.kc] 57 (0, 0)) := by
        rw [heap_setCell_other w2 ⟨r, 1, none⟩ gx _ (by
          intro e
          simp only at e
          subst e
          have h1 := HR2.out
          rw [HX2.out] at h1
          simp at h1)]
        exact HX2.out
      clear hp2 hf2 x0 x1 x2 p1
      generalize (w2.setCell ⟨r, 1, none⟩ (.slice a2 (its1.length + 1) m2)) = w3 at *
      have z2 := heap_cell hx3 2
      simp at z2
      clear hx3
      go_wp2_with fail
      exact bodyPost_ret (v := .tuple #[.slice x.a x.keys.length x.kc, .bool true]) (by simp [results, Try.results15, go_sem]) rfl ⟨HBF.out, HKF.out, .inl ⟨i, _, HI.out.1, HX.out ▸ HI.out.2.1, HX.out ▸ HI.out.2.2, by rw [HX.out], by rw [HIE.out, HX.out]; exact HRF.out⟩⟩
  · have HNo := Lib.hid hno
    have hA := (Below.refl w1.heap.size w1).alloc (Nat.le_refl _) (.cells #[.int .i64 0, .int .i64 0, .slice none 0 0] 57)
    have hx0 := heap_alloc_new w1 (.cells #[.int .i64 0, .int .i64 0, .slice none 0 0] 57)
    have hF : GetR B r room v its f b w (.returned (.tuple #[.slice none 0 0, .bool false])) (w1.alloc (.cells #[.int .i64 0, .int .i64 0, .slice none 0 0] 57)) := ⟨hb1.trans (hA.mono (Nat.le_trans hB hb1.size)), hk1.trans (KeepR.of hA), .inr ⟨hno, rfl, hr1.below hA⟩⟩
    have HF := Lib.hid hF
    clear hno hA hF hx0
    go_wp2_with fail
    exact bodyPost_ret (v := .tuple #[.slice none 0 0, .bool false]) (by simp [results, Try.results15, go_sem]) rfl HF.out
end Go.Proofs.Ytacjbgmnoiimbac
