/- Drop: walked. -/
import Derived.Test.YtacjbgmnoiimbacRefF
import Derived.LaidEqlPtr
namespace Go.Proofs.Ytacjbgmnoiimbac
set_option linter.unusedVariables false
set_option linter.unusedSimpArgs false
open Go.RowKit

def nextC (W : World) (p : Nat) : Nat := match W.cell? ⟨p, 5, none⟩ with | some (.pointer (some a)) => a.block | _ => 0
def stepsC (W : World) (rb : Nat) : Nat → Nat → Nat
  | 0, _ => 0
  | n + 1, p => if p = rb then 0 else stepsC W rb n (nextC W p) + 1
def ptrOf : Value → Nat | .pointer (some a) => a.block | _ => 0
theorem steps_ring {W : World} {rb : Nat} {its : List It} (hR : Ring W rb its) (hA : ApartC rb its) : ∀ (d k F : Nat), its.length - k = d → k ≤ its.length → d ≤ F → stepsC W rb F (posC rb its (nxI its.length k)) = d
  | 0, k, F, hd, hk, _ => by
    obtain rfl : k = its.length := by omega
    have e : nxI its.length its.length = 0 := by unfold nxI; rw [if_pos rfl]
    have e2 : posC rb its 0 = rb := by unfold posC; rw [if_pos rfl]
    rw [e, e2]
    cases F with
    | zero => rfl
    | succ n => rw [stepsC, if_pos rfl]
  | d + 1, k, F, hd, hk, hF => by
    have hk' : k < its.length := by omega
    have e : nxI its.length k = k + 1 := by unfold nxI; rw [if_neg (by omega)]
    have e2 : posC rb its (k + 1) = (its.getD k default).b := by unfold posC; rw [if_neg (by omega), Nat.add_sub_cancel]
    obtain ⟨n, rfl⟩ : ∃ n, F = n + 1 := ⟨F - 1, by omega⟩
    have hn : nextC W (posC rb its (k + 1)) = posC rb its (nxI its.length (k + 1)) := by
      unfold nextC
      rw [(hR (k + 1) (by omega)).1]; rfl
    rw [e, stepsC, hn, if_neg (by rw [e2]; exact hA.1 k hk'), steps_ring hR hA d (k + 1) n (by omega) (by omega) (by omega)]
theorem take_next {ys : List It} {k : Nat} (h : k < ys.length) : ys.take (k + 1) = ys.take k ++ [ys.getD k default] ∧ ys.drop k = ys.getD k default :: ys.drop (k + 1) := by
  refine ⟨?_, ?_⟩
  · rw [List.take_add_one, List.getElem?_eq_getElem h, List.getD_eq_getElem?_getD, List.getElem?_eq_getElem h]; rfl
  · rw [List.drop_eq_getElem_cons h, List.getD_eq_getElem?_getD, List.getElem?_eq_getElem h]; rfl
theorem erase_take (ys : List It) (k : Nat) (h : k < ys.length) : (ys.eraseIdx k).take k = ys.take k ∧ (ys.eraseIdx k).drop k = ys.drop (k + 1) := by
  rw [List.eraseIdx_eq_take_drop_succ]
  have hl : (ys.take k).length = k := by rw [List.length_take]; omega
  exact ⟨by rw [List.take_append_of_le_length (by omega), List.take_of_length_le (by omega)], by rw [List.drop_append_of_le_length (by omega), List.drop_eq_nil_of_le (by omega), List.nil_append]⟩
def DRel (B g bm rb : Nat) (room : Int) (f : Int) (its : List It) (w : World) (ys : List It) (k : Nat) (wr : World) : Prop :=
  OwnC B wr g bm rb room (total ys : Int) ys ∧ Below B w wr ∧ KeepT w wr ∧ others f its = ys.take k ++ others f (ys.drop k) ∧ total ys ≤ 1000000000
theorem DRel.keep {B g bm rb : Nat} {room f : Int} {its ys : List It} {w wr : World} {k : Nat} (h : DRel B g bm rb room f its w ys k wr) (hk : k < ys.length) (hf : (ys.getD k default).file ≠ f) : DRel B g bm rb room f its w ys (k + 1) wr := by
  obtain ⟨h1, h2, h3, h4, h5⟩ := h
  refine ⟨h1, h2, h3, ?_, h5⟩
  rw [h4, (take_next hk).1, (take_next hk).2, List.append_assoc]
  congr 1
  unfold others
  rw [List.filter_cons_of_pos (by simp only [Bool.not_eq_true', beq_eq_false_iff_ne]; exact hf)]
  rfl
theorem nxI_erase (rb : Nat) (ys : List It) (k : Nat) (h : k < ys.length) : posC rb (ys.eraseIdx k) (nxI (ys.eraseIdx k).length k) = posC rb ys (nxI ys.length (k + 1)) := by
  rw [erase_pos, erase_len ys k h]
  unfold nxI
  by_cases e : k + 1 = ys.length
  · have e' : k = ys.length - 1 := by omega
    simp only [if_pos e, if_pos e', Nat.zero_le, if_true]
  · have e' : ¬ k = ys.length - 1 := by omega
    have e2 : ¬ k + 1 ≤ k := by omega
    simp only [if_neg e, if_neg e', if_neg e2]
theorem DRel.cut {B g bm rb : Nat} {room f : Int} {its ys : List It} {w wr w' : World} {k : Nat} (hB : B ≤ w.heap.size) (h : DRel B g bm rb room f its w ys k wr) (hk : k < ys.length) (hf : (ys.getD k default).file = f) (hca : Ca w' g bm rb room ((total ys : Int) - (sizeK (ys.getD k default).keys : Int)) (ys.eraseIdx k)) (ht : TurnedC g bm rb ys wr w') : DRel B g bm rb room f its w (ys.eraseIdx k) k w' := by
  obtain ⟨h1, h2, h3, h4, h5⟩ := h
  have hte := total_erase ys k hk
  have e : (total ys : Int) - (sizeK (ys.getD k default).keys : Int) = (total (ys.eraseIdx k) : Int) := by omega
  rw [e] at hca
  refine ⟨h1.erase k hk hca, h2.trans (ht.below h1.2.1 h1.2.2.1 h1.2.2.2.1 h1.2.2.2.2 (Nat.le_trans hB h2.size)), h3.trans (keep_turned h1.1 ht), ?_, by omega⟩
  rw [(erase_take ys k hk).1, (erase_take ys k hk).2, h4, (take_next hk).2]
  congr 1
  unfold others
  rw [List.filter_cons_of_neg (by rw [hf]; simp)]
theorem Try.size49 : (Try.prog.info? 49).map (fun i => i.size) = some 6 := by kernel_rfl
theorem neq_same (p : Nat) (w : World) : (binOp .neq 45 (.pointer (some ⟨p, 0, none⟩)) (.pointer (some ⟨p, 0, none⟩))).run Try.prog w = .ok (.bool false) w := by
  obtain ⟨j, hj, hsz⟩ : ∃ j, Try.prog.info? 49 = some j ∧ j.size = 6 := by
    have := Try.size49
    cases h : Try.prog.info? 49 with
    | none => rw [h] at this; cases this
    | some j => rw [h] at this; exact ⟨j, rfl, by simpa using this⟩
  have h : ∀ d : Nat, (Op.equalIn (d + 1) 45 (.pointer (some ⟨p, 0, none⟩)) (.pointer (some ⟨p, 0, none⟩))).run Try.prog w = .ok true w := fun d => by
    simp [Op.equalIn, run_underlying Try.underlying45, sizeOf, typeInfo, hj, run_sameAddr_same]
  simp only [binOp]
  simp [Op.equal, Op.maxDepth, h 9999]
theorem neq_other (p q : Nat) (w : World) (hp : ItemRow w p) (hq : ItemRow w q) (hne : p ≠ q) : (binOp .neq 45 (.pointer (some ⟨p, 0, none⟩)) (.pointer (some ⟨q, 0, none⟩))).run Try.prog w = .ok (.bool true) w := by
  obtain ⟨j, hj, hsz⟩ : ∃ j, Try.prog.info? 49 = some j ∧ j.size = 6 := by
    have := Try.size49
    cases h : Try.prog.info? 49 with
    | none => rw [h] at this; cases this
    | some j => rw [h] at this; exact ⟨j, rfl, by simpa using this⟩
  obtain ⟨ca, ha, _⟩ := hp
  obtain ⟨cb, hb, _⟩ := hq
  have hab : (⟨p, 0, none⟩ : Addr) ≠ ⟨q, 0, none⟩ := fun e => hne (by injection e)
  have h : ∀ d : Nat, (Op.equalIn (d + 1) 45 (.pointer (some ⟨p, 0, none⟩)) (.pointer (some ⟨q, 0, none⟩))).run Try.prog w = .ok false w := fun d => by
    simp [Op.equalIn, run_underlying Try.underlying45, sizeOf, typeInfo, hj, hsz, run_sameAddr_other w hab ha hb]
  simp only [binOp]
  simp [Op.equal, Op.maxDepth, h 9999]
set_option maxRecDepth 100000 in
set_option maxHeartbeats 2000000 in
theorem drop_any (B g bm rb : Nat) (room : Int) (its : List It) (w : World) (h : OwnC B w g bm rb room (total its : Int) its) (hB : B ≤ w.heap.size) (f : Int) (hl : its.length ≤ 10000) (ht : total its ≤ 1000000000) :
    Calls Try.prog 16 #[.pointer (some ⟨g, 0, none⟩), .int .i64 f] w fun e w' => e = .returned (.tuple #[]) ∧ OwnC B w' g bm rb room (total (others f its) : Int) (others f its) ∧ Below B w w' ∧ KeepT w w' := by
  have HR0 : Hid (DRel B g bm rb room f its w its 0 w) := ⟨h, Below.refl _ _, (fun _ _ _ _ _ h => h), by simp, ht⟩
  have p3 := heap_cell h.1.head 3
  simp at p3
  have r5 := (h.1.ring 0 (Nat.zero_le _)).1
  have e2 : posC rb its 0 = rb := by unfold posC; rw [if_pos rfl]
  have e3 : nxI its.length 0 = if its.length = 0 then 0 else 1 := by unfold nxI; split <;> split <;> omega
  rw [e2] at r5
  clear h
  have HX : Hid (∃ ys k, posC rb its (nxI its.length 0) = posC rb ys (nxI ys.length k) ∧ k ≤ ys.length ∧ ys.length ≤ 10000 ∧ DRel B g bm rb room f its w ys k w) := ⟨its, 0, rfl, Nat.zero_le _, hl, HR0.out⟩
  generalize posC rb its (nxI its.length 0) = x0 at *
  unfold ptrV at p3 r5
  clear e2 e3 HR0
  go_enter Try.func16, Try.ntmps16
  go_wp2_with fail
  go_loopw [4] (fun x wr => ∃ p, x = .pointer (some ⟨p, 0, none⟩) ∧ Hid (∃ ys k, p = posC rb ys (nxI ys.length k) ∧ k ≤ ys.length ∧ ys.length ≤ 10000 ∧ DRel B g bm rb room f its w ys k wr)) (fun x wr => stepsC wr rb 1000000 (ptrOf x))
  case atStart => exact ⟨x0, rfl, HX.out⟩
  case round =>
    clear HX
    obtain ⟨p, rfl, hst⟩ := hrel
    obtain ⟨ys, k, hp, hk, hyl, hd⟩ := hst.out
    have hmeas := steps_ring hd.1.1.ring hd.1.1.apart (ys.length - k) k 1000000 rfl hk (by omega)
    rw [← hp] at hmeas
    have q3 := heap_cell hd.1.1.head 3
    simp at q3
    by_cases hkl : k < ys.length
    · have hpb : p = (ys.getD k default).b := by
        rw [hp]; unfold nxI; rw [if_neg (by omega)]; unfold posC; rw [if_neg (by omega), Nat.add_sub_cancel]
      have hprb : p ≠ rb := by rw [hpb]; exact hd.1.1.apart.1 k hkl
      have hit := hd.1.1.item k hkl
      have hf0 := hit.2.1
      have hr5 : wr.cell? ⟨p, 5, none⟩ = some (ptrV (posC rb ys (nxI ys.length (k + 1)))) := by
        have := (hd.1.1.ring (k + 1) (by omega)).1
        have e : posC rb ys (k + 1) = p := by rw [hp]; congr 1; unfold nxI; rw [if_neg (by omega)]
        rw [e] at this; exact this
      rw [← hpb] at hf0
      have hms := mem_total (getD_mem hkl)
      have HRm := Lib.hid (remove_any g bm rb room (total ys : Int) ys wr hd.1.1 k hkl (by have := hd.2.2.2.2; omega) (by have := hd.2.2.2.2; omega))
      rw [← hpb] at HRm
      have HMeas := Lib.hid hmeas
      have HD := Lib.hid hd
      have HPB := Lib.hid hpb
      have hne := neq_other p rb wr (by rw [hpb]; exact hit.1) hd.1.1.root hprb
      have HNx := Lib.hid (nxI_erase rb ys k hkl)
      have HEl := Lib.hid (erase_len ys k hkl)
      unfold ptrV at q3 hr5
      clear hst hp hd hit hpb hmeas hms hprb
      by_cases hff : (ys.getD k default).file = f
      · have bf : ((ys.getD k default).file == f) = true := by rw [hff]; exact beq_self_eq_true _
        generalize posC rb ys (nxI ys.length (k + 1)) = x1 at *
        generalize hfi : (ys.getD k default).file = fi at *
        have HF : Hid ((ys.getD k default).file = f) := hfi.trans hff
        clear hff hfi
        go_wp2_with fail
        refine HRm.out.mono ?_
        clear HRm
        rintro e w2 ⟨rfl, hca, hT, h5⟩
        rw [hr5] at h5
        have hd2 := HD.out.cut hB hkl HF.out hca hT
        have hm2 := steps_ring hd2.1.1.ring hd2.1.1.apart ((ys.eraseIdx k).length - k) k 1000000 rfl (by rw [HEl.out]; omega) (by rw [HEl.out]; omega)
        rw [HNx.out, HEl.out] at hm2
        have HM2 := Lib.hid hm2
        have HX2 : Hid (∃ ys k, x1 = posC rb ys (nxI ys.length k) ∧ k ≤ ys.length ∧ ys.length ≤ 10000 ∧ DRel B g bm rb room f its w ys k w2) := ⟨ys.eraseIdx k, k, HNx.out.symm, by rw [HEl.out]; omega, by rw [HEl.out]; omega, hd2⟩
        clear hca hT hd2 hm2
        go_wp2_with fail
        go_roundw
        case rel => exact ⟨x1, rfl, HX2.out⟩
        case measure =>
          show stepsC _ rb 1000000 x1 < stepsC _ rb 1000000 p
          rw [HM2.out, HMeas.out]; omega
      · have bf : ((ys.getD k default).file == f) = false := by rw [beq_eq_false_iff_ne]; exact hff
        have hd2 := HD.out.keep hkl hff
        have HX2 : Hid (∃ zs i, posC rb ys (nxI ys.length (k + 1)) = posC rb zs (nxI zs.length i) ∧ i ≤ zs.length ∧ zs.length ≤ 10000 ∧ DRel B g bm rb room f its w zs i wr) := ⟨ys, k + 1, rfl, hkl, hyl, hd2⟩
        have HM2 := Lib.hid (steps_ring hd2.1.1.ring hd2.1.1.apart (ys.length - (k + 1)) (k + 1) 1000000 rfl hkl (by omega))
        generalize posC rb ys (nxI ys.length (k + 1)) = x1 at *
        generalize hfi : (ys.getD k default).file = fi at *
        clear hff hfi hd2 HRm
        go_wp2_with fail
        go_roundw
        case rel => exact ⟨x1, rfl, HX2.out⟩
        case measure =>
          show stepsC _ rb 1000000 x1 < stepsC _ rb 1000000 p
          rw [HM2.out, HMeas.out]; omega
    · obtain rfl : k = ys.length := by omega
      have hprb : p = rb := by rw [hp]; unfold nxI; rw [if_pos rfl]; unfold posC; rw [if_pos rfl]
      subst hprb
      have hne := neq_same p wr
      have he : others f its = ys := by
        rw [hd.2.2.2.1, List.take_length, List.drop_eq_nil_of_le (Nat.le_refl _)]
        exact List.append_nil _
      have HE : Hid (OwnC B wr g bm p room (total (others f its) : Int) (others f its) ∧ Below B w wr ∧ KeepT w wr) := by
        show _ ∧ _ ∧ _
        rw [he]; exact ⟨hd.1, hd.2.1, hd.2.2.1⟩
      unfold ptrV at q3
      clear hst hp hd hmeas he
      go_wp2_with fail
      go_end0
      exact ⟨rfl, HE.out⟩
end Go.Proofs.Ytacjbgmnoiimbac
