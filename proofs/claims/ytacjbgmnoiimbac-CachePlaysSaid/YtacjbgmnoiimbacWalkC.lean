/- remove: walked. -/
import Derived.Test.YtacjbgmnoiimbacCam
namespace Go.Proofs.Ytacjbgmnoiimbac
set_option linter.unusedVariables false
set_option linter.unusedSimpArgs false
open Go.RowKit

set_option maxRecDepth 100000 in
set_option maxHeartbeats 400000 in
theorem remove_any (g bm rb : Nat) (room used : Int) (its : List It) (w : World) (h : Ca w g bm rb room used its) (i : Nat) (hi : i < its.length) (hu : -1000000000000 ≤ used ∧ used ≤ 1000000000000) (hs : sizeK (its.getD i default).keys ≤ 1000000000) :
    Calls Try.prog 21 #[.pointer (some ⟨g, 0, none⟩), .pointer (some ⟨(its.getD i default).b, 0, none⟩)] w fun e w' => e = .returned (.tuple #[]) ∧ Ca w' g bm rb room (used - (sizeK (its.getD i default).keys : Int)) (its.eraseIdx i) ∧ TurnedC g bm rb its w w' ∧ w'.cell? ⟨(its.getD i default).b, 5, none⟩ = w.cell? ⟨(its.getD i default).b, 5, none⟩ := by
  obtain ⟨L, hy, hL⟩ := h.cy
  obtain ⟨u1, u2, u3, u4⟩ := h.unlinked hy i hi
  have hpl : pvI its.length (i + 1) ≤ its.length := by unfold pvI; split <;> omega
  have hnl : nxI its.length (i + 1) ≤ its.length := by unfold nxI; split <;> omega
  have hpe : posC rb its (i + 1) = (its.getD i default).b := by unfold posC; rw [if_neg (by omega), Nat.add_sub_cancel]
  have hr := h.ring (i + 1) hi
  rw [hpe] at hr
  have HUn := Lib.hid (unlink_any (its.getD i default).b (posC rb its (pvI its.length (i + 1))) (posC rb its (nxI its.length (i + 1))) w (h.item i hi).1 (h.posRow _ hpl) (h.posRow _ hnl) hr.2 hr.1)
  obtain ⟨kk, hf, hLe⟩ := find_yes hL h.names hi
  have hx := hy.2.2.2 (its.getD i default) (by rw [List.getD_eq_getElem?_getD, List.getElem?_eq_getElem hi]; exact List.getElem_mem hi)
  have hxb := hx.1
  have HAe := Lib.hid (apart_erase h.apart i hi)
  have HNe := Lib.hid (names_erase h.names i hi)
  have HSub : Hid (∀ x ∈ its.eraseIdx i, x ∈ its) := fun x hx => List.mem_of_mem_eraseIdx hx
  have HIn : Hid (its.getD i default ∈ its) := by
    show its.getD i default ∈ its
    rw [List.getD_eq_getElem?_getD, List.getElem?_eq_getElem hi]; exact List.getElem_mem hi
  have hpm : ∀ j, j ≤ (its.eraseIdx i).length → ItemRow w (posC rb (its.eraseIdx i) j) := fun j hj => by
    rw [erase_pos]
    rw [erase_len its i hi] at hj
    exact h.posRow _ (by split <;> omega)
  have hgl := h.head
  have HU1 := Lib.hid u1
  have HU2 := Lib.hid u2
  have HU3 := Lib.hid u3
  have HU4 := Lib.hid u4
  have HLe := Lib.hid hLe
  have HF := Lib.hid hf
  have HPM := Lib.hid hpm
  clear u1 u2 u3 u4 hpl hnl hpe hr hx hxb hLe hf hpm hgl h hy hL
  generalize posC rb its (pvI its.length (i + 1)) = P at *
  generalize posC rb its (nxI its.length (i + 1)) = N at *
  generalize its.getD i default = x at *
  obtain ⟨xb, xf, xk, xa, xkc, xkeys⟩ := x
  simp only at HUn HU4 HF hs
  generalize hit : its.eraseIdx i = its2 at *
  clear hit hi
  go_enter Try.func21, Try.ntmps21
  go_wp2_with fail
  refine HUn.out.mono ?_
  clear HUn
  rintro e w1 ⟨rfl, k, hw1⟩
  have HC1 : Hid (Cy w1 g bm rb room used L its) := by rw [hw1]; exact HU1.out.drewN k
  have HR1 : Hid (Ring w1 rb its2) := by rw [hw1]; exact HU2.out.drewN k
  have HT1 : Hid (TurnedC g bm rb its w w1) := by rw [hw1]; exact HU3.out.drewN k
  have HX1 : Hid (w1.cell? ⟨xb, 5, none⟩ = w.cell? ⟨xb, 5, none⟩) := by rw [hw1]; exact HU4.out
  clear HU1 HU2 HU3 HU4 hw1
  obtain ⟨cg, ⟨es, clock, hm, hes⟩, crb, cit⟩ := HC1.out
  obtain ⟨hrow, i0, i1, i2, i3, _, _⟩ := cit _ HIn.out
  have hdel : ∀ (t : TypeId) (n : Nat), (Builtin.delete_ #[50, 47] t #[.map (some bm), .agg #[.int .i64 xf, .int .i64 xk]]).run Try.prog (w1.drewN n) = .ok (.tuple #[]) (withMap (w1.drewN n) bm (es.eraseIdxIfInBounds kk) clock) := fun t n => run_delete_at xf xk (w1.drewN n) bm kk xb t L es clock hm hes HF.out
  have hdel1 : ∀ (t : TypeId), (Builtin.delete_ #[50, 47] t #[.map (some bm), .agg #[.int .i64 xf, .int .i64 xk]]).run Try.prog w1.drew = .ok (.tuple #[]) (withMap w1.drew bm (es.eraseIdxIfInBounds kk) clock) := fun t => hdel t 1
  have g2 := heap_cell cg 2
  simp at g2
  simp only at i0 i1 hs
  clear cg hm crb cit i2 i3 hrow hdel
  go_wp2_with fail
  go_region
  have HC2 : Hid (Cy (withMap w1.drew bm (es.eraseIdxIfInBounds kk) clock) g bm rb room used (L.eraseIdx kk) its) := (HC1.out.drewN 1).turn _ _ (erase_ents kk hes)
  have HT2 : Hid (TurnedC g bm rb its w (withMap w1.drew bm (es.eraseIdxIfInBounds kk) clock)) := (HT1.out.drewN 1).turn _ _
  have hbm : ∃ es0 c0, w1.heap[bm]? = some (.map es0 c0) := by obtain ⟨_, ⟨e0, c0, h0, _⟩, _⟩ := HC1.out; exact ⟨e0, c0, h0⟩
  have hrows : ∀ j, ItemRow w1 j → (withMap w1.drew bm (es.eraseIdxIfInBounds kk) clock).heap[j]? = w1.heap[j]? := fun j ⟨cs, hj, _⟩ => by
    obtain ⟨e0, c0, h0⟩ := hbm
    unfold withMap
    show (w1.heap.setIfInBounds bm _)[j]? = _
    rw [Array.getElem?_setIfInBounds_ne (by rintro rfl; rw [h0] at hj; simp at hj)]
  have hrow1 : ItemRow w1 xb := (HC1.out.2.2.2 _ HIn.out).1
  have hposr : ∀ j, j ≤ its2.length → ItemRow w1 (posC rb its2 j) := fun j hj => by
    unfold posC
    by_cases h0 : j = 0
    · rw [if_pos h0]; exact HC1.out.2.2.1
    · rw [if_neg h0]
      refine (HC1.out.2.2.2 _ (HSub.out _ ?_)).1
      rw [List.getD_eq_getElem?_getD, List.getElem?_eq_getElem (by omega)]; exact List.getElem_mem _
  have HR2 : Hid (Ring (withMap w1.drew bm (es.eraseIdxIfInBounds kk) clock) rb its2) := HR1.out.same (fun j hj => hrows _ (hposr j hj))
  have HX2 : Hid ((withMap w1.drew bm (es.eraseIdxIfInBounds kk) clock).cell? ⟨xb, 5, none⟩ = w.cell? ⟨xb, 5, none⟩) := (cell_heap (hrows xb hrow1) 5).trans HX1.out
  clear hbm hrows hposr hrow1 HC1 HR1 HT1 HX1 hdel1 g2 i0 i1
  generalize withMap w1.drew bm (es.eraseIdxIfInBounds kk) clock = w2 at *
  obtain ⟨cg, _, _, cit⟩ := HC2.out
  obtain ⟨hrow, _, _, _, i3, _, _⟩ := cit _ HIn.out
  have g1 := heap_cell cg 1
  simp at g1
  have fg := frozen_of_row w2 g 1 _ _ cg
  have HCG := Lib.hid cg
  have HRow := Lib.hid hrow
  simp only at i3
  generalize hZ : sizeK xkeys = Z at *
  have HZ := Lib.hid hZ
  clear hZ
  have hwr : IntKind.i64.wrap (used - (Z : Int)) = used - (Z : Int) := by rw [IntKind.wrap_i64]; omega
  clear cg cit hrow hes
  go_wp2_with fail
  go_region
  go_end0
  have hC3 := (HC2.out.use (used - (Z : Int))).drewN 1
  have hgr : ∀ j, ItemRow w2 j → (w2.setCell ⟨g, 1, none⟩ (.int .i64 (used - (Z : Int)))).heap[j]? = w2.heap[j]? := fun j ⟨cs, hj, _⟩ => heap_setCell_other w2 ⟨g, 1, none⟩ j _ (by
    rintro rfl
    have := HCG.out
    rw [this] at hj
    simp at hj)
  have hposr : ∀ j, j ≤ its2.length → ItemRow w2 (posC rb its2 j) := fun j hj => by
    unfold posC
    by_cases h0 : j = 0
    · rw [if_pos h0]; exact HC2.out.2.2.1
    · rw [if_neg h0]
      refine (HC2.out.2.2.2 _ (HSub.out _ ?_)).1
      rw [List.getD_eq_getElem?_getD, List.getElem?_eq_getElem (by omega)]; exact List.getElem_mem _
  have hR3 : Ring ((w2.setCell ⟨g, 1, none⟩ (.int .i64 (used - (Z : Int)))).drewN 1) rb its2 := HR2.out.same (fun j hj => hgr _ (hposr j hj))
  simp only
  rw [HZ.out]
  exact ⟨trivial, Ca.mk' hC3 HLe.out HSub.out hR3 HAe.out HNe.out, (HT2.out.set g 1 _ (.inl rfl)).drewN 1, (cell_heap (hgr xb HRow.out) 5).trans HX2.out⟩
end Go.Proofs.Ytacjbgmnoiimbac
