/- MergeAll: the law walked. -/
import Derived.Test.YtacjbgmnoiimbaaLawa
namespace Go.Proofs.Ytacjbgmnoiimbaa
set_option linter.unusedVariables false
set_option linter.unusedSimpArgs false
open Go.RowKit

/-- the rows' copies, as far as they are made -/
def ORel (L : List RR) (w w0 : World) (j : Nat) (ov : Value) (wr : World) : Prop := ∃ L2, keysR L2 = keysR (L.take j) ∧ wr.ownsRow w0.heap.size 26 1 ov L2.length (rowsV L2) ∧ (∀ x ∈ L2, x.keys.length ≤ x.kc ∧ KeysAt wr x.a x.keys) ∧ Below w.heap.size w wr ∧ w.heap.size ≤ w0.heap.size ∧ w0.heap.size ≤ wr.heap.size
def Want (L : List RR) (j : Nat) (z : Int) : Prop := (z = 0 ∧ ∀ i, i < j → RisesK (at_ L i).keys) ∨ (z = 11 ∧ ∃ i, i < j ∧ ¬ RisesK (at_ L i).keys)
theorem want_yes {L : List RR} {j : Nat} {z : Int} (h : Want L j z) (hr : RisesK (at_ L j).keys) : Want L (j + 1) z := by
  rcases h with ⟨e, h⟩ | ⟨e, i, hi, h⟩
  · exact .inl ⟨e, fun i hi => by
      by_cases e : i = j
      · subst e; exact hr
      · exact h i (by omega)⟩
  · exact .inr ⟨e, i, by omega, h⟩
theorem want_no {L : List RR} {j : Nat} (hr : ¬ RisesK (at_ L j).keys) : Want L (j + 1) 11 := .inr ⟨rfl, j, by omega, hr⟩
theorem keysR_take (L : List RR) (j : Nat) (h : j < L.length) : keysR (L.take (j + 1)) = keysR (L.take j) ++ [(at_ L j).keys] := by
  rw [take_succ_at L j h, keysR_append]; rfl
theorem orel_push {L : List RR} {w w0 wr w4 w6 : World} {j : Nat} {v6 : Value} {L2 : List RR} {a4 : Option Addr} {c4 : Nat} (hj : j < L.length) (hkk : keysR L2 = keysR (L.take j)) (hx : ∀ x ∈ L2, x.keys.length ≤ x.kc ∧ KeysAt wr x.a x.keys) (hw0 : w.heap.size ≤ w0.heap.size) (hB0 : w0.heap.size ≤ wr.heap.size)
    (h4 : Below wr.heap.size wr w4) (hc4 : (at_ L j).keys.length ≤ c4) (hrow4 : KeysAt w4 a4 (at_ L j).keys)
    (hg6 : KeepM w4 w6) (hb6 : Below w.heap.size w w6) (hs6 : w0.heap.size ≤ w6.heap.size) (hrow6 : w6.ownsRow w0.heap.size 26 1 v6 (L2.length + 1) (rowsV L2 ++ [rowV ⟨a4, c4, (at_ L j).keys⟩])) :
    ORel L w w0 (j + 1) v6 w6 := by
  have hk06 : KeepM wr w6 := (KeepM.of h4).trans hg6
  refine ⟨L2 ++ [⟨a4, c4, (at_ L j).keys⟩], by rw [keysR_append, hkk, keysR_take L j hj]; rfl, ?_, fun x hx' => ?_, hb6, hw0, hs6⟩
  · rw [List.length_append, List.length_singleton]
    unfold rowsV
    rw [← map_snoc_row]; exact hrow6
  · rcases List.mem_append.1 hx' with hx' | hx'
    · exact ⟨(hx x hx').1, (hx x hx').2.keep hk06⟩
    · simp only [List.mem_cons, List.not_mem_nil, or_false] at hx'
      subst hx'
      exact ⟨hc4, hrow4.keep hg6⟩
theorem hasK_kr {a b : List RR} (h : keysR a = keysR b) (k : Text) : HasK a k ↔ HasK b k := by rw [hasK_keys, hasK_keys, h]
set_option maxRecDepth 100000 in
set_option maxHeartbeats 4000000 in
theorem lawAll (a : Option Addr) (cap : Nat) (L : List RR) (w : World) (hL : L.length ≤ 9223372036854775807) (h : IsRows w a L) (hsz : ∀ i, i < L.length → RowSz (at_ L i)) :
    Calls Try.prog 3 #[.slice a L.length cap] w fun e w' => e = .returned (.bool true) ∧ Below w.heap.size w w' := by
  obtain ⟨i9, hi9, z90, z91, z92⟩ := info_parts Try.info9
  obtain ⟨i26, hi26, z0, z1, z2⟩ := info_parts Try.info26
  have HF := Lib.hid (fixed_any w)
  have H := Lib.hid h
  have HSz := Lib.hid hsz
  clear h hsz
  go_enter Try.func3, Try.ntmps3
  go_wp2_with fail
  refine HF.out.mono ?_
  clear HF
  rintro e w1 ⟨rfl, hB1⟩
  have HB1 := Lib.hid hB1
  have HFew := Lib.hid (few_any a cap L w1 hL HSz.out (H.out.below hB1))
  clear hB1
  go_wp2_with fail
  refine HFew.out.mono ?_
  clear HFew
  rintro e w2 ⟨⟨r, rfl, hr2⟩, rfl⟩
  cases r with
  | false =>
    clear hr2
    go_wp2_with fail
    go_ret
    exact ⟨rfl, HB1.out⟩
  | true =>
    obtain ⟨h30, h300⟩ := hr2 rfl
    clear hr2
    go_wp2_with fail
    go_loopw [3, 4, 17] (fun zv ov iv wr => ∃ (j : Nat) (z : Int) (oa : Option Addr) (on oc : Nat), zv = .int .i64 z ∧ ov = .slice oa on oc ∧ iv = .int .i64 j ∧ j ≤ L.length ∧ Hid (Want L j z) ∧ Hid (ORel L w w2 j (.slice oa on oc) wr)) (fun _ _ iv _ => L.length - (intOf iv).toNat)
    case atStart => exact ⟨0, 0, none, 0, 0, rfl, rfl, rfl, Nat.zero_le _, .inl ⟨rfl, fun i hi => by omega⟩, ⟨[], rfl, World.ownsRow_nil _ _ _ _, (fun x hx => by cases hx), HB1.out, HB1.out.size, Nat.le_refl _⟩⟩
    case round =>
      clear HB1
      obtain ⟨j, z, oa, on, oc, rfl, rfl, rfl, hj, HWt, hst⟩ := hrel
      by_cases hjl : j < L.length
      · obtain ⟨L2, hkk, hrow, hx, hB, hw0, hs0⟩ := hst.out
        have dj : decide ((j : Int) < (L.length : Int)) = true := decide_eq_true (by omega)
        have hij : (j : Int) < (L.length : Int) := by omega
        obtain ⟨b, off, rfl, hb, hc⟩ := (H.out.below hB) (by omega)
        obtain ⟨c0, hkc, hks⟩ := hc j hjl
        have hszj := len_le_tot (at_mem hjl)
        have HRis := Lib.hid (refrises_any (at_ L j).a (at_ L j).kc (at_ L j).keys wr (by omega) hks)
        have hL2 : L2.length ≤ 30 := by
          have := keysR_len hkk
          rw [List.length_take] at this
          omega
        have hon := row_len' hrow
        subst hon
        have HPush := Lib.hid (fun w4 w6 v6 a4 c4 => orel_push (L := L) (w := w) (w0 := w2) (wr := wr) (w4 := w4) (w6 := w6) (j := j) (v6 := v6) (L2 := L2) (a4 := a4) (c4 := c4) hjl hkk hx hw0 hs0)
        have HB := Lib.hid hB
        have HRow := Lib.hid hrow
        have HStr := Lib.hid hks
        have hw2 : w2.heap.size ≤ wr.heap.size := hs0
        have hww : w.heap.size ≤ w2.heap.size := hw0
        unfold rowV at c0
        clear hst hkk hrow hx hB hw0 hs0 hks hc hb
        by_cases hr : RisesK (at_ L j).keys
        · have HR := Lib.hid hr
          have HWn := Lib.hid (want_yes HWt.out hr)
          clear hr
          generalize at_ L j = x at *
          obtain ⟨xa, xc, xk⟩ := x
          simp only at c0 hkc hszj HRis HPush HR HStr
          go_wp2_with fail
          refine HRis.out.mono ?_
          rintro e w3 ⟨⟨r, rfl, hrr⟩, n3, rfl⟩
          obtain rfl : r = true := hrr.2 HR.out
          clear hrr HRis
          have hBd : Below wr.heap.size wr (wr.drewN n3) := Below.drewN (Below.refl _ _) n3
          have hszd : (wr.drewN n3).heap.size = wr.heap.size := rfl
          have HE := Lib.hid (row_empty (wr.drewN n3) wr.heap.size 9 1 (Nat.le_refl _))
          have HBA := Lib.hid (hBd.alloc (Nat.le_refl _) (.cells #[] 9))
          have HSv := Lib.hid (isStrs_vals (HStr.out.below HBA.out))
          have HSL : Hid ((strsV xk).length = xk.length * 1) := by show _ = _; rw [length_strsV, Nat.mul_one]
          clear hBd
          go_upto_region 13 with (first | (at_builtin; refine wpList_append_vals _ rfl (.tmp 25) (.tmp 26) 26 rfl wr.heap.size 9 i9 _ 1 16 Try.underlying26 hi9 z90 z91 z92 rfl (by decide) (.slice (some ⟨wr.heap.size, 0, none⟩) 0 0) 0 [] (by rfl) HE.out xa xk.length xc (strsV xk) (by rfl) HSL.out HSv.out (strsV_one xk) (by unfold maxLen; omega) (by omega) HBA.out.size ?_; intro v4 w4 hrow4 hg4; have HB4 := Lib.hid (Below.own HBA.out HE.out (Nat.le_refl _) HBA.out.size hg4); obtain ⟨a4, m4, c4, rfl⟩ := row_slice hrow4; rw [Nat.zero_add, List.nil_append] at hrow4; have HRow4 := Lib.hid hrow4; have hm4 := row_len' hrow4; subst hm4; have hcc4 := row_cap HRow4.out; have HRowB := Lib.hid ((Below.row HB4.out HRow.out).alloc (.cells #[.slice a4 xk.length c4] 26)); have HBC := Lib.hid ((HB.out.trans (HB4.out.mono HB.out.size)).alloc (HB.out.trans (HB4.out.mono HB.out.size)).size (.cells #[.slice a4 xk.length c4] 26)); have HVC : Hid (IsVals (w4.alloc (.cells #[.slice a4 xk.length c4] 26)) (some ⟨w4.heap.size, 0, none⟩) [.slice a4 xk.length c4]) := (fun _ => ⟨w4.heap.size, 0, rfl, by simp, fun k hk => by rw [Nat.zero_add, heap_cell (heap_alloc_new w4 _)]; simp⟩); have hs26 : w2.heap.size ≤ (w4.alloc (.cells #[.slice a4 xk.length c4] 26)).heap.size := (by have := HB4.out.size; rw [alloc_size]; omega); clear hrow4 hg4) | (at_builtin; refine wpList_append_vals _ rfl (.tmp 24) (.tmp 28) 22 rfl w2.heap.size 26 i26 _ 1 24 Try.underlying22 hi26 z0 z1 z2 rfl (by decide) (.slice oa L2.length oc) L2.length (rowsV L2) (by rfl) HRowB.out (some ⟨w4.heap.size, 0, none⟩) 1 1 [.slice a4 xk.length c4] (by rfl) rfl HVC.out (fun u hu => by simp only [List.mem_cons, List.not_mem_nil, or_false] at hu; subst hu; rfl) (by unfold maxLen; omega) (by omega) hs26 ?_; intro v6 w6 hrow6 hg6; have HK6 := Lib.hid ((KeepM.of ((Below.refl w4.heap.size w4).alloc (Nat.le_refl _) (.cells #[.slice a4 xk.length c4] 26))).trans (keepM_grown HRowB.out hg6)); have HB6 := Lib.hid (Below.own HBC.out HRowB.out hww HBC.out.size hg6); have hs6 := Nat.le_trans hs26 hg6.size; obtain ⟨a6, m6, c6, rfl⟩ := row_slice hrow6; have HRow6 := Lib.hid hrow6; clear hrow6 hg6))
          have HEnd := Lib.hid (HPush.out w4 w6 (.slice a6 m6 c6) a4 c4 HB4.out hcc4 (row_keys HRow4.out) HK6.out HB6.out hs6 HRow6.out)
          clear HPush HRow6 HB6 HK6 HRow4 HB4 HRowB HBC HVC hs26 hs6
          go_wp2_with fail
          go_roundw
          case rel => exact ⟨j + 1, _, a6, m6, c6, rfl, rfl, by go_num, by omega, HWn, HEnd⟩
          case measure => simp [intOf]; omega
        · have HR := Lib.hid hr
          have HWn := Lib.hid (want_no hr)
          clear hr
          generalize at_ L j = x at *
          obtain ⟨xa, xc, xk⟩ := x
          simp only at c0 hkc hszj HRis HPush HR HStr
          go_wp2_with fail
          refine HRis.out.mono ?_
          rintro e w3 ⟨⟨r, rfl, hrr⟩, n3, rfl⟩
          have hrf : r = false := by
            cases r with
            | true => exact absurd (hrr.1 rfl) HR.out
            | false => rfl
          subst hrf
          clear hrr HRis
          have hBd : Below wr.heap.size wr (wr.drewN n3) := Below.drewN (Below.refl _ _) n3
          have hszd : (wr.drewN n3).heap.size = wr.heap.size := rfl
          have HE := Lib.hid (row_empty (wr.drewN n3) wr.heap.size 9 1 (Nat.le_refl _))
          have HBA := Lib.hid (hBd.alloc (Nat.le_refl _) (.cells #[] 9))
          have HSv := Lib.hid (isStrs_vals (HStr.out.below HBA.out))
          have HSL : Hid ((strsV xk).length = xk.length * 1) := by show _ = _; rw [length_strsV, Nat.mul_one]
          clear hBd
          go_upto_region 13 with (first | (at_builtin; refine wpList_append_vals _ rfl (.tmp 25) (.tmp 26) 26 rfl wr.heap.size 9 i9 _ 1 16 Try.underlying26 hi9 z90 z91 z92 rfl (by decide) (.slice (some ⟨wr.heap.size, 0, none⟩) 0 0) 0 [] (by rfl) HE.out xa xk.length xc (strsV xk) (by rfl) HSL.out HSv.out (strsV_one xk) (by unfold maxLen; omega) (by omega) HBA.out.size ?_; intro v4 w4 hrow4 hg4; have HB4 := Lib.hid (Below.own HBA.out HE.out (Nat.le_refl _) HBA.out.size hg4); obtain ⟨a4, m4, c4, rfl⟩ := row_slice hrow4; rw [Nat.zero_add, List.nil_append] at hrow4; have HRow4 := Lib.hid hrow4; have hm4 := row_len' hrow4; subst hm4; have hcc4 := row_cap HRow4.out; have HRowB := Lib.hid ((Below.row HB4.out HRow.out).alloc (.cells #[.slice a4 xk.length c4] 26)); have HBC := Lib.hid ((HB.out.trans (HB4.out.mono HB.out.size)).alloc (HB.out.trans (HB4.out.mono HB.out.size)).size (.cells #[.slice a4 xk.length c4] 26)); have HVC : Hid (IsVals (w4.alloc (.cells #[.slice a4 xk.length c4] 26)) (some ⟨w4.heap.size, 0, none⟩) [.slice a4 xk.length c4]) := (fun _ => ⟨w4.heap.size, 0, rfl, by simp, fun k hk => by rw [Nat.zero_add, heap_cell (heap_alloc_new w4 _)]; simp⟩); have hs26 : w2.heap.size ≤ (w4.alloc (.cells #[.slice a4 xk.length c4] 26)).heap.size := (by have := HB4.out.size; rw [alloc_size]; omega); clear hrow4 hg4) | (at_builtin; refine wpList_append_vals _ rfl (.tmp 24) (.tmp 28) 22 rfl w2.heap.size 26 i26 _ 1 24 Try.underlying22 hi26 z0 z1 z2 rfl (by decide) (.slice oa L2.length oc) L2.length (rowsV L2) (by rfl) HRowB.out (some ⟨w4.heap.size, 0, none⟩) 1 1 [.slice a4 xk.length c4] (by rfl) rfl HVC.out (fun u hu => by simp only [List.mem_cons, List.not_mem_nil, or_false] at hu; subst hu; rfl) (by unfold maxLen; omega) (by omega) hs26 ?_; intro v6 w6 hrow6 hg6; have HK6 := Lib.hid ((KeepM.of ((Below.refl w4.heap.size w4).alloc (Nat.le_refl _) (.cells #[.slice a4 xk.length c4] 26))).trans (keepM_grown HRowB.out hg6)); have HB6 := Lib.hid (Below.own HBC.out HRowB.out hww HBC.out.size hg6); have hs6 := Nat.le_trans hs26 hg6.size; obtain ⟨a6, m6, c6, rfl⟩ := row_slice hrow6; have HRow6 := Lib.hid hrow6; clear hrow6 hg6))
          have HEnd := Lib.hid (HPush.out w4 w6 (.slice a6 m6 c6) a4 c4 HB4.out hcc4 (row_keys HRow4.out) HK6.out HB6.out hs6 HRow6.out)
          clear HPush HRow6 HB6 HK6 HRow4 HB4 HRowB HBC HVC hs26 hs6
          go_wp2_with fail
          go_roundw
          case rel => exact ⟨j + 1, _, a6, m6, c6, rfl, rfl, by go_num, by omega, HWn, HEnd⟩
          case measure => simp [intOf]; omega
      · obtain rfl : j = L.length := by omega
        have dj : decide ((L.length : Int) < (L.length : Int)) = false := by simp
        obtain ⟨L2, hkk, hrow, hx, hB, hw0, hs0⟩ := hst.out
        rw [List.take_length] at hkk
        have hl2 : L2.length = L.length := keysR_len hkk
        have hon := row_len' hrow
        subst hon
        have htt : tot L2 = tot L := by rw [tot_keys, hkk, ← tot_keys]
        have hok : RowsOk wr L2 := fun x hx' => ⟨(hx x hx').1, (hx x hx').2.strs⟩
        have HR2 := Lib.hid (rows_own hrow hok)
        have HA := Lib.hid (all_any oa oc L2 wr (by omega) (fun i hi => by have := len_le_tot (at_mem hi); omega) (by omega) HR2.out)
        have HKk := Lib.hid hkk
        have HL2 := Lib.hid hl2
        have hl2b : L2.length ≤ 30 := by omega
        have HB := Lib.hid hB
        clear hst hkk hrow hx hB hw0 hs0 hok htt hl2
        rcases HWt.out with ⟨rfl, hall⟩ | ⟨rfl, hbad⟩
        · have HAll2 : Hid (∀ i, i < L2.length → RisesK (at_ L2 i).keys) := fun i hi => by
            rw [keysR_at HKk.out i]
            exact hall i (by rw [← HL2.out]; exact hi)
          clear hall HWt
          go_wp2_with fail
          refine HA.out.mono ?_
          clear HA
          rintro e w3 ⟨_, hgood⟩
          obtain ⟨out, v, rfl, hrow, hris, hmem, hlen, hb3⟩ := hgood HAll2.out
          obtain ⟨va, vn, vc, rfl⟩ := row_slice hrow
          have hvn := row_len' hrow
          subst hvn
          have htt2 : tot L2 = tot L := by rw [tot_keys, HKk.out, ← tot_keys]
          have HP : Hid (Rises (keysOf out) ∧ ∀ k, k ∈ keysOf out ↔ HasK L k) := ⟨hris, fun k => (hmem k).trans (hasK_kr HKk.out k)⟩
          have HStr := Lib.hid (row_strs hrow)
          have HB3 := Lib.hid (HB.out.trans (hb3.mono HB.out.size))
          have HR3 := Lib.hid (HR2.out.below hb3)
          have HW3 : Hid (∃ n, w3 = w3.drewN n) := ⟨0, rfl⟩
          clear hgood hrow hris hmem hb3 HAll2
          go_wp2_with fail
          go_loopw [53] (fun iv wx => ∃ i : Nat, iv = .int .i64 i ∧ i ≤ L2.length ∧ Hid (∃ n, wx = w3.drewN n)) (fun iv _ => L2.length - (intOf iv).toNat)
          case atStart => exact ⟨0, rfl, Nat.zero_le _, HW3⟩
          case round =>
            clear HW3
            obtain ⟨i, rfl, hi, HW⟩ := hrel
            obtain ⟨nx, hwx⟩ := HW.out
            have hbx : Below w3.heap.size w3 wr := by rw [hwx]; exact Below.drewN (Below.refl _ _) nx
            have HBX := Lib.hid hbx
            have HWX := Lib.hid hwx
            clear hwx hbx HW
            by_cases hil : i < L2.length
            · have di : decide ((i : Int) < (L2.length : Int)) = true := decide_eq_true (by omega)
              have hii : (i : Int) < (L2.length : Int) := by omega
              have hii2 : (i : Int) < (L.length : Int) := by rw [← HL2.out]; omega
              obtain ⟨b1, o1, rfl, _, hc1⟩ := (HR3.out.below HBX.out) (by omega)
              obtain ⟨b2, o2, rfl, _, hc2⟩ := (H.out.below (HB3.out.trans (HBX.out.mono HB3.out.size))) (by rw [← HL2.out]; omega)
              obtain ⟨c1, _, s1⟩ := hc1 i hil
              obtain ⟨c2, _, s2⟩ := hc2 i (by rw [← HL2.out]; exact hil)
              have hke := keysR_at HKk.out i
              have hkl : (at_ L i).keys.length ≤ 1000 := by
                have := len_le_tot (at_mem (rs := L) (i := i) (by rw [← HL2.out]; exact hil))
                omega
              unfold rowV at c1 c2
              rw [hke] at c1 s1
              have HSm : Hid (∀ k, Calls Try.prog 11 #[.slice (at_ L2 i).a (at_ L i).keys.length (at_ L2 i).kc, .slice (at_ L i).a (at_ L i).keys.length (at_ L i).kc] (wr.drewN k) fun e w' => e = .returned (.bool true) ∧ ∃ m, w' = (wr.drewN k).drewN m) := fun k => (same_any _ _ _ _ (at_ L i).keys (at_ L i).keys (wr.drewN k) (by omega) (by omega) (s1.below (Below.drewN (Below.refl _ _) k)) (s2.below (Below.drewN (Below.refl _ _) k))).mono fun e w' ⟨h1, h2⟩ => ⟨by rw [h1, decide_eq_true rfl], h2⟩
              clear hc1 hc2 s1 s2 hke
              generalize (at_ L i).keys.length = KL at *
              generalize (at_ L2 i).a = A2 at *
              generalize (at_ L2 i).kc = C2 at *
              generalize (at_ L i).a = A1 at *
              generalize (at_ L i).kc = C1 at *
              go_wp2_with (first | go_quiet (first | (go_at_call 11; refine Calls.quiet_of (HSm.out _))))
              go_roundw
              case rel => exact ⟨i + 1, by go_num, by omega, by rw [HWX.out]; exact ⟨_, World.drewN_drewN _ _ _⟩⟩
              case measure => simp [intOf]; omega
            · obtain rfl : i = L2.length := by omega
              have di : decide ((L2.length : Int) < (L2.length : Int)) = false := by simp
              have HB4 := Lib.hid (HB3.out.trans (HBX.out.mono HB3.out.size))
              have HRf := Lib.hid (refall_any a cap L wr (by omega) (fun i hi => by have := len_le_tot (at_mem hi); omega) (by omega) (H.out.below HB4.out))
              go_wp2_with fail
              refine HRf.out.mono ?_
              clear HRf
              rintro e w5 ⟨out2, v2, rfl, hrow2, hris2, hmem2, hlen2, hb5⟩
              obtain ⟨va2, vn2, vc2, rfl⟩ := row_slice hrow2
              have hvn2 := row_len' hrow2
              subst hvn2
              have heq : out = out2 := keysOf_inj (rises_unique HP.out.1 hris2 (fun k => (HP.out.2 k).trans (hmem2 k).symm))
              have HSm := Lib.hid (same_yes va va2 vc vc2 out.length out2.length out out2 w5 rfl rfl (by omega) (by omega) ((HStr.out.below HBX.out).below hb5) (row_strs hrow2) heq)
              have HB5 := Lib.hid (HB4.out.trans (hb5.mono HB4.out.size))
              clear hrow2 hris2 hmem2 hb5 heq HP HStr
              go_wp2_with fail
              refine HSm.out.mono ?_
              clear HSm
              rintro e w6 ⟨rfl, hb6⟩
              have HB6 := Lib.hid (HB5.out.trans (hb6.mono HB5.out.size))
              clear hb6
              go_wp2_with fail
              go_ret
              exact ⟨rfl, HB6.out⟩
        · have HBad2 : Hid (∃ i, i < L2.length ∧ ¬ RisesK (at_ L2 i).keys) := by
            obtain ⟨i, hi, hn⟩ := hbad
            exact ⟨i, by rw [HL2.out]; exact hi, by rw [keysR_at HKk.out i]; exact hn⟩
          clear hbad HWt
          go_wp2_with fail
          refine HA.out.mono ?_
          clear HA
          rintro e w3 ⟨hb, _⟩
          obtain ⟨rfl, hb3⟩ := hb HBad2.out
          have HB3 := Lib.hid (HB.out.trans (hb3.mono HB.out.size))
          clear hb hb3
          go_wp2_with fail
          go_ret
          exact ⟨rfl, HB3.out⟩
end Go.Proofs.Ytacjbgmnoiimbaa
