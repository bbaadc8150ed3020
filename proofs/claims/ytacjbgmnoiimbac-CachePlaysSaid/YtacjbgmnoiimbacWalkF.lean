/- Get: walked. -/
import Derived.Test.YtacjbgmnoiimbacWalkE
namespace Go.Proofs.Ytacjbgmnoiimbac
set_option linter.unusedVariables false
set_option linter.unusedSimpArgs false
open Go.RowKit

theorem total_move (its : List It) (i : Nat) (hi : i < its.length) : total (its.eraseIdx i ++ [its.getD i default]) = total its := by
  rw [total_snoc, total_erase its i hi]
/-- what 'Get' does -/
def GetDoes (B g bm rb : Nat) (room : Int) (its : List It) (f b : Int) (w : World) (e : Ending) (w' : World) : Prop :=
  ((∀ i, i < its.length → ¬ ((its.getD i default).file = f ∧ (its.getD i default).blk = b)) → e = .returned (.tuple #[.slice none 0 0, .bool false]) ∧ OwnC B w' g bm rb room (total its : Int) its ∧ Below w.heap.size w w') ∧
  (∀ i, i < its.length → (its.getD i default).file = f → (its.getD i default).blk = b → ∃ a' kc', e = .returned (.tuple #[.slice a' (its.getD i default).keys.length kc', .bool true]) ∧ w'.ownsRow w.heap.size 9 1 (.slice a' (its.getD i default).keys.length kc') (its.getD i default).keys.length (strsV (its.getD i default).keys) ∧
    OwnC B w' g bm rb room (total its : Int) (its.eraseIdx i ++ [its.getD i default]) ∧ Below B w w' ∧ KeepT w w')
set_option maxRecDepth 100000 in
set_option maxHeartbeats 4000000 in
theorem get_any (B g bm rb : Nat) (room : Int) (its : List It) (w : World) (h : OwnC B w g bm rb room (total its : Int) its) (hB : B ≤ w.heap.size) (f b : Int) (hkl : ∀ x ∈ its, x.keys.length ≤ 1000) :
    Calls Try.prog 11 #[.pointer (some ⟨g, 0, none⟩), .int .i64 f, .int .i64 b] w (GetDoes B g bm rb room its f b w) := by
  obtain ⟨L, hy, hL⟩ := h.1.cy
  obtain ⟨hh, ⟨es, clock, hm, hes⟩, _, hit⟩ := hy
  have g2 := heap_cell hh 2
  simp at g2
  have hlk : (Instr.lookup 50 (.map (some bm)) (.agg #[.int .i64 f, .int .i64 b]) true).run Try.prog w = .ok (.tuple #[match findL f b L 0 with | some p => ptrV p.2 | none => .pointer none, .bool (findL f b L 0).isSome]) w := run_lookup f b w bm L ⟨es, clock, hm, hes⟩
  have HO := Lib.hid h
  by_cases hyes : ∃ i, i < its.length ∧ (its.getD i default).file = f ∧ (its.getD i default).blk = b
  · obtain ⟨i, hi, hif, hib⟩ := hyes
    obtain ⟨k, hf, _⟩ := find_yes hL h.1.names hi
    have HUniq : Hid (∀ j, j < its.length → (its.getD j default).file = f → (its.getD j default).blk = b → j = i) := fun j hj h1 h2 => h.1.names j i hj hi (h1.trans hif.symm) (h2.trans hib.symm)
    have HNot : Hid (¬ ∀ i, i < its.length → ¬ ((its.getD i default).file = f ∧ (its.getD i default).blk = b)) := fun hn => hn i hi ⟨hif, hib⟩
    rw [hif, hib] at hf
    rw [hf] at hlk
    have hlk1 : (Instr.lookup 50 (.map (some bm)) (.agg #[.int .i64 f, .int .i64 b]) true).run Try.prog w = .ok (.tuple #[.pointer (some ⟨(its.getD i default).b, 0, none⟩), .bool true]) w := hlk
    have hy : Cy w g bm rb room (total its : Int) L its := ⟨hh, ⟨es, clock, hm, hes⟩, h.1.root, hit⟩
    obtain ⟨u1, u2, u3, _⟩ := h.1.unlinked hy i hi
    have hpl : pvI its.length (i + 1) ≤ its.length := by unfold pvI; split <;> omega
    have hnl : nxI its.length (i + 1) ≤ its.length := by unfold nxI; split <;> omega
    have hpe : posC rb its (i + 1) = (its.getD i default).b := by unfold posC; rw [if_neg (by omega), Nat.add_sub_cancel]
    have hr := h.1.ring (i + 1) hi
    rw [hpe] at hr
    have HUn := Lib.hid (unlink_any (its.getD i default).b (posC rb its (pvI its.length (i + 1))) (posC rb its (nxI its.length (i + 1))) w (h.1.item i hi).1 (h.1.posRow _ hpl) (h.1.posRow _ hnl) hr.2 hr.1)
    have hxr : (its.getD i default).b ≠ rb := h.1.apart.1 i hi
    have hxn : ∀ j, j < (its.eraseIdx i).length → ((its.eraseIdx i).getD j default).b ≠ (its.getD i default).b := fun j hj e => by
      rw [erase_len its i hi] at hj
      rw [erase_at] at e
      by_cases a : j < i
      · rw [if_pos a] at e
        have := h.1.apart.2 j i (by omega) hi e
        omega
      · rw [if_neg a] at e
        have := h.1.apart.2 (j + 1) i (by omega) hi e
        omega
    have HAe := Lib.hid (apart_snoc (apart_erase h.1.apart i hi) hxr hxn)
    have HNe := Lib.hid (names_snoc (x := its.getD i default) (names_erase h.1.names i hi) (fun j hj ⟨h1, h2⟩ => by
      rw [erase_len its i hi] at hj
      rw [erase_at] at h1 h2
      by_cases a : j < i
      · rw [if_pos a] at h1 h2
        have := h.1.names j i (by omega) hi h1 h2
        omega
      · rw [if_neg a] at h1 h2
        have := h.1.names (j + 1) i (by omega) hi h1 h2
        omega))
    have hsub : ∀ x ∈ its.eraseIdx i, x ∈ its := fun x hx => List.mem_of_mem_eraseIdx hx
    have hin := getD_mem hi
    have hperm : L.Perm ((its.eraseIdx i ++ [its.getD i default]).map tri) := by
      rw [List.map_append]
      refine hL.trans ?_
      have h1 := (perm_erase its i hi).map tri
      have e1 : its[i] = its.getD i default := by rw [List.getD_eq_getElem?_getD, List.getElem?_eq_getElem hi, Option.getD_some]
      rw [List.map_cons, e1] at h1
      exact h1.symm.trans (List.perm_append_comm (l₁ := [tri (its.getD i default)]) (l₂ := (its.eraseIdx i).map tri))
    have HPerm := Lib.hid hperm
    have HSub2 : Hid (∀ x ∈ its.eraseIdx i ++ [its.getD i default], x ∈ its) := fun x hx => by
      rcases List.mem_append.1 hx with hx | hx
      · exact hsub x hx
      · simp only [List.mem_cons, List.not_mem_nil, or_false] at hx
        subst hx; exact hin
    have HPB : Hid (∀ (its' : List It) (j : Nat), (∀ x ∈ its', x ∈ its) → B ≤ posC rb its' j ∨ its'.length < j) := fun its' j hs => by
      unfold posC
      by_cases h0 : j = 0
      · rw [if_pos h0]; exact .inl HO.out.2.2.2.1
      · rw [if_neg h0]
        by_cases h1 : j ≤ its'.length
        · left
          obtain ⟨q, hq, hqe⟩ := List.getElem_of_mem (hs _ (getD_mem (by omega : j - 1 < its'.length)))
          have := HO.out.2.2.2.2 q hq
          rw [List.getD_eq_getElem?_getD, List.getElem?_eq_getElem hq, Option.getD_some, hqe] at this
          exact this
        · right; omega
    have HU1 := Lib.hid u1
    have HU2 := Lib.hid u2
    have HU3 := Lib.hid u3
    have HIn : Hid (its.getD i default ∈ its) := hin
    have HSub : Hid (∀ x ∈ its.eraseIdx i, x ∈ its) := hsub
    have HAe0 := Lib.hid (apart_erase h.1.apart i hi)
    have HXN : Hid ((its.getD i default).b ≠ rb ∧ ∀ j, j < (its.eraseIdx i).length → ((its.eraseIdx i).getD j default).b ≠ (its.getD i default).b) := ⟨hxr, hxn⟩
    have HTm := Lib.hid (total_move its i hi)
    have HPBx : Hid (B ≤ (its.getD i default).b) := h.2.2.2.2 i hi
    have HKL : Hid ((its.getD i default).keys.length ≤ 1000) := hkl _ hin
    have HII : Hid (i < its.length ∧ (its.getD i default).file = f ∧ (its.getD i default).blk = b) := ⟨hi, hif, hib⟩
    clear u1 u2 u3 hin hsub hxr hxn hperm hpl hnl hpe hr hlk hf hh hm hes hit hL h hy hkl hi hif hib
    have HGoal : Hid (∀ e w', (∃ a' kc', e = .returned (.tuple #[.slice a' (its.getD i default).keys.length kc', .bool true]) ∧ w'.ownsRow w.heap.size 9 1 (.slice a' (its.getD i default).keys.length kc') (its.getD i default).keys.length (strsV (its.getD i default).keys) ∧ OwnC B w' g bm rb room (total its : Int) (its.eraseIdx i ++ [its.getD i default]) ∧ Below B w w' ∧ KeepT w w') → GetDoes B g bm rb room its f b w e w') := fun e w' hx => ⟨fun hn => absurd hn HNot.out, fun j hj h1 h2 => by
      have := HUniq.out j hj h1 h2
      subst this
      exact hx⟩
    go_enter Try.func11, Try.ntmps11
    generalize posC rb its (pvI its.length (i + 1)) = P at *
    generalize posC rb its (nxI its.length (i + 1)) = N at *
    generalize its.getD i default = x at *
    generalize its.eraseIdx i = its2 at *
    obtain ⟨xb, xf, xk, xa, xkc, xkeys⟩ := x
    simp only at hlk1 HUn HXN HPBx HKL HGoal
    go_wp2_with fail
    refine HUn.out.mono ?_
    clear HUn
    rintro e w1 ⟨rfl, kk, hw1⟩
    have hC1 : Cy w1 g bm rb room (total its : Int) L its := by rw [hw1]; exact HU1.out.drewN kk
    have hR1 : Ring w1 rb its2 := by rw [hw1]; exact HU2.out.drewN kk
    have hT1 : TurnedC g bm rb its w w1 := by rw [hw1]; exact HU3.out.drewN kk
    have HT1 := Lib.hid hT1
    obtain ⟨l1, l2, l3, l4⟩ := hC1.lasted HIn.out HSub.out hR1 HAe0.out HXN.out.1 HXN.out.2
    have HLast := Lib.hid (last_any g xb (posC rb its2 its2.length) rb bm room (total its : Int) w1 hC1.1 (hC1.2.2.2 _ HIn.out).1 l3 hC1.2.2.1 (hR1 0 (Nat.zero_le _)).2 l4 (fun e => HXN.out.1 e.symm))
    have hk1 : KeepT w w1 := keep_turned HO.out.1 hT1
    have HKW := Lib.hid ((((hk1.item (hC1.2.2.2 _ HIn.out).1 4 (ptrV (posC rb its2 its2.length))).item ((hC1.2.2.2 _ HIn.out).1.set _ _ _) 5 (ptrV rb)).item ((l3.set _ _ _).set _ _ _) 5 (ptrV xb)).item (((hC1.2.2.1.set _ _ _).set _ _ _).set _ _ _) 4 (ptrV xb))
    simp only at HKW
    have HL1 := Lib.hid l1
    have HL2 := Lib.hid l2
    have HPP : Hid (B ≤ posC rb its2 its2.length) := by
      rcases HPB.out its2 its2.length HSub.out with c | c
      · exact c
      · omega
    simp only at HL1 HL2
    generalize posC rb its2 its2.length = PP at *
    clear HU1 HU2 HU3 hw1 hC1 hR1 hT1 l1 l2 l3 l4 hk1
    go_wp2_with fail
    refine HLast.out.mono ?_
    clear HLast
    rintro e w2 ⟨rfl, kk2, hw2⟩
    have hca := Ca.mk' (HL1.out.drewN kk2) HPerm.out HSub2.out (HL2.out.drewN kk2) HAe.out HNe.out
    rw [← hw2] at hca
    have hbw : Below B w w2 := by
      rw [hw2]
      exact Below.drewN ((((((HT1.out.below HO.out.2.1 HO.out.2.2.1 HO.out.2.2.2.1 HO.out.2.2.2.2 hB)).setCell (p := ⟨xb, 4, none⟩) HPBx.out _).setCell (p := ⟨xb, 5, none⟩) HPBx.out _).setCell (p := ⟨PP, 5, none⟩) HPP.out _).setCell (p := ⟨rb, 4, none⟩) HO.out.2.2.2.1 _) kk2
    have HK2 : Hid (KeepT w w2) := by
      show KeepT w w2
      rw [hw2]
      exact HKW.out.drewN kk2
    have hsz2 : w.heap.size ≤ w2.heap.size := hbw.size
    have hown : OwnC B w2 g bm rb room (total its : Int) (its2 ++ [⟨xb, xf, xk, xa, xkc, xkeys⟩]) := ⟨hca, HO.out.2.1, HO.out.2.2.1, HO.out.2.2.2.1, fun j hj => by
      obtain ⟨q, hq, hqe⟩ := List.getElem_of_mem (HSub2.out _ (getD_mem hj))
      have := HO.out.2.2.2.2 q hq
      rw [List.getD_eq_getElem?_getD, List.getElem?_eq_getElem hq, Option.getD_some, hqe] at this
      exact this⟩
    have hxi := hca.item its2.length (by simp)
    have hge : (its2 ++ [(⟨xb, xf, xk, xa, xkc, xkeys⟩ : It)]).getD its2.length default = ⟨xb, xf, xk, xa, xkc, xkeys⟩ := by rw [snoc_getD _ _ _ (Nat.le_refl _), if_neg (Nat.lt_irrefl _)]
    rw [hge] at hxi
    obtain ⟨_, _, _, i2, _, i5, i6⟩ := hxi
    simp only at i2 i5 i6
    have HCl := Lib.hid (clone_any xa xkc xkeys w2 (by have := HKL.out; omega) i5 i6.strs)
    have HOwn := Lib.hid hown
    have HBW := Lib.hid hbw
    clear hca hown hbw hge i5 i6 hw2 HL1 HL2 HT1
    go_wp2_with fail
    refine HCl.out.mono ?_
    clear HCl
    rintro e w3 ⟨a', kc', rfl, hrow3, hb3⟩
    have hrow3' : w3.ownsRow w.heap.size 9 1 (.slice a' xkeys.length kc') xkeys.length (strsV xkeys) := row_lower hrow3 hsz2
    have hO3 : OwnC B w3 g bm rb room (total its : Int) (its2 ++ [⟨xb, xf, xk, xa, xkc, xkeys⟩]) := ⟨HOwn.out.1.below hb3, HOwn.out.2⟩
    have hB3 := HBW.out.trans (hb3.mono (Nat.le_trans hB HBW.out.size))
    have hk3 : KeepT w w3 := HK2.out.trans (KeepT.of hb3)
    clear hrow3 hb3
    go_wp2_with fail
    go_ret2
    exact HGoal.out _ _ ⟨a', kc', rfl, hrow3', hO3, hB3, hk3⟩
  · have hno : ∀ i, i < its.length → ¬ ((its.getD i default).file = f ∧ (its.getD i default).blk = b) := fun i hi h => hyes ⟨i, hi, h.1, h.2⟩
    have hf := find_no hL hno
    rw [hf] at hlk
    have hlk1 : (Instr.lookup 50 (.map (some bm)) (.agg #[.int .i64 f, .int .i64 b]) true).run Try.prog w = .ok (.tuple #[.pointer none, .bool false]) w := hlk
    have HNo := Lib.hid hno
    clear hlk hf hyes hno hh hm hes hit hL h
    go_enter Try.func11, Try.ntmps11
    go_wp2_with fail
    go_ret2
    exact ⟨fun _ => ⟨rfl, HO.out, Below.refl _ _⟩, fun i hi h1 h2 => absurd ⟨h1, h2⟩ (HNo.out i hi)⟩
end Go.Proofs.Ytacjbgmnoiimbac
