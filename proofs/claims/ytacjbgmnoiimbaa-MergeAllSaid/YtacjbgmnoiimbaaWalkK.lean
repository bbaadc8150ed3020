/- New: walked. -/
import Derived.Test.YtacjbgmnoiimbaaWalkJ
namespace Go.Proofs.Ytacjbgmnoiimbaa
set_option linter.unusedVariables false
set_option linter.unusedSimpArgs false
open Go.RowKit

theorem map_snoc_row (rs : List RR) (x : RR) : rs.map rowV ++ [rowV x] = (rs ++ [x]).map rowV := by rw [List.map_append]; rfl
/-- what stands behind the laying in of a row -/
theorem prel_push {L : List RR} {w wr w4 w6 : World} {m j : Nat} {v v6 : Value} {rs : List RR} {a4 : Option Addr} {c4 : Nat} (hj : j < L.length) (hk0 : 0 < (at_ L j).keys.length) (hr : RisesK (at_ L j).keys)
    (hm : w.heap.size ≤ m) (hx : ∀ x ∈ rs, x.keys.length ≤ x.kc ∧ KeysAt wr x.a x.keys) (hkk : keysR rs = keysR (full (L.take j))) (hB : Below w.heap.size w wr) (hri : ∀ i, i < j → RisesK (at_ L i).keys) (hl : rs.length ≤ j)
    (h4 : Below wr.heap.size wr w4) (hc4 : (at_ L j).keys.length ≤ c4) (hrow4 : KeysAt w4 a4 (at_ L j).keys)
    (h6m : w6.heap[m]? = some (.cells #[v] 44 (0, 0))) (hg6 : KeepM w4 w6) (hb6 : Below w.heap.size w w6) (hrow6 : w6.ownsRow w.heap.size 26 1 v6 (rs.length + 1) (rs.map rowV ++ [rowV ⟨a4, c4, (at_ L j).keys⟩])) :
    PRel L w m (j + 1) (w6.setCell ⟨m, 0, none⟩ v6) := by
  have hk6 := hg6.set h6m (.inl rfl) 0 v6
  have hk06 : KeepM wr (w6.setCell ⟨m, 0, none⟩ v6) := (KeepM.of h4).trans hk6
  refine ⟨v6, rs ++ [⟨a4, c4, (at_ L j).keys⟩], heap_setCell_same w6 m 0 _ 44 _ h6m, hm, ?_, fun x hx' => ?_, ?_, hb6.setCell (p := ⟨m, 0, none⟩) hm _, fun i hi => ?_, by rw [List.length_append, List.length_singleton]; omega⟩
  · have hne : v6.ownBlock ≠ some m := by
      intro e
      rcases hrow6.2 with ⟨h1, h2⟩ | ⟨g, cap, cur, h1, h2, h3, _⟩
      · omega
      · rw [h1] at e
        cases e
        rw [h6m] at h3
        cases h3
    rw [← map_snoc_row, List.length_append, List.length_singleton]
    exact ownsRow_setCell_other hrow6 (a := ⟨m, 0, none⟩) hne v6
  · rcases List.mem_append.1 hx' with hx' | hx'
    · exact ⟨(hx x hx').1, (hx x hx').2.keep hk06⟩
    · simp only [List.mem_cons, List.not_mem_nil, or_false] at hx'
      subst hx'
      exact ⟨hc4, hrow4.keep hk6⟩
  · rw [keysR_append, hkk, full_take L j hj, if_pos hk0, keysR_append]; rfl
  · by_cases e : i = j
    · subst e; exact hr
    · exact hri i (by omega)
theorem own_block {W : World} {B : Nat} {v : Value} {n : Nat} {xs : List Value} (h : W.ownsRow B 26 1 v n xs) {k : Nat} (hk : v.ownBlock = some k) : ∃ cur, W.heap[k]? = some (.cells cur 26 (0, 0)) := by
  rcases h.2 with ⟨h1, h2⟩ | ⟨g, cap, cur, h1, h2, h3, _⟩
  · rw [h1] at hk; cases hk
  · rw [h1] at hk; cases hk; exact ⟨cur, h3⟩
theorem keepM_grown {W W' : World} {B : Nat} {v : Value} {n : Nat} {xs : List Value} (h : W.ownsRow B 26 1 v n xs) (hg : W.grownBy W' v.ownBlock) : KeepM W W' := fun k cs t h1 h2 h3 => by
  rw [hg.block k (heap_lt h3) (fun e => by
    obtain ⟨cur, hc⟩ := own_block h e.symm
    rw [h3] at hc
    have := Option.some.inj hc
    simp only [Obj.cells.injEq] at this
    exact h2 this.2.1)]
  exact h3
theorem grown_m {W W' : World} {B m : Nat} {v : Value} {n : Nat} {xs : List Value} {cs : Array Value} (h : W.ownsRow B 26 1 v n xs) (hg : W.grownBy W' v.ownBlock) (hm : W.heap[m]? = some (.cells cs 44 (0, 0))) : W'.heap[m]? = some (.cells cs 44 (0, 0)) := by
  rw [hg.block m (heap_lt hm) (fun e => by
    obtain ⟨cur, hc⟩ := own_block h e.symm
    rw [hm] at hc
    cases hc)]
  exact hm
set_option maxRecDepth 100000 in
set_option maxHeartbeats 2000000 in
theorem new_any (a : Option Addr) (cap : Nat) (L : List RR) (w : World) (hL : L.length ≤ 10000) (hsz : ∀ i, i < L.length → (at_ L i).keys.length ≤ 10000) (h : IsRows w a L) :
    Calls Try.prog 13 #[.slice a L.length cap] w (NewIs L w) := by
  obtain ⟨i9, hi9, z90, z91, z92⟩ := info_parts Try.info9
  obtain ⟨i26, hi26, z0, z1, z2⟩ := info_parts Try.info26
  have H := Lib.hid h
  have HSz := Lib.hid hsz
  clear h hsz
  go_enter Try.func13, Try.ntmps13
  go_wp2_with fail
  have HX0 := heap_alloc_new w (.cells #[.slice none 0 0] 44)
  have HR0 : Hid (PRel L w w.heap.size 0 (w.alloc (.cells #[.slice none 0 0] 44))) := ⟨_, [], HX0, Nat.le_refl _, World.ownsRow_nil _ _ _ _, (fun x hx => by cases hx), rfl, (Below.refl _ _).alloc (Nat.le_refl _) _, (fun i hi => by omega), Nat.le_refl _⟩
  clear HX0
  generalize w.heap.size = m at *
  generalize (w.alloc (.cells #[.slice none 0 0] 44)) = wA at *
  go_loopw [11] (fun i wr => ∃ j : Nat, i = .int .i64 j ∧ j ≤ L.length ∧ Hid (PRel L w m j wr)) (fun i _ => L.length - (intOf i).toNat)
  case atStart => exact ⟨0, rfl, Nat.zero_le _, HR0⟩
  case round =>
    clear HR0
    obtain ⟨j, rfl, hj, hst⟩ := hrel
    by_cases hjl : j < L.length
    · obtain ⟨v, rs, hm, hmB, hrow, hx, hkk, hB, hri, hrl⟩ := hst.out
      have dj : decide ((j : Int) < (L.length : Int)) = true := decide_eq_true (by omega)
      have hij : (j : Int) < (L.length : Int) := by omega
      obtain ⟨b, off, rfl, hb, hc⟩ := (H.out.below hB) (by omega)
      obtain ⟨c0, hkc, hks⟩ := hc j hjl
      have hsz := HSz.out j hjl
      unfold rowV at c0
      have HRis := Lib.hid (rises_any (at_ L j).a (at_ L j).kc (at_ L j).keys wr (by omega) hks)
      have HJ := Lib.hid hjl
      by_cases hr : RisesK (at_ L j).keys
      · by_cases hk0 : 0 < (at_ L j).keys.length
        · have HPush := Lib.hid (fun w4 w6 v6 a4 c4 => prel_push (L := L) (w := w) (wr := wr) (w4 := w4) (w6 := w6) (m := m) (j := j) (v := v) (v6 := v6) (rs := rs) (a4 := a4) (c4 := c4) hjl hk0 hr hmB hx hkk hB hri hrl)
          have HR := Lib.hid hr
          have HM := Lib.hid hm
          have HB := Lib.hid hB
          have HRow := Lib.hid hrow
          have HStr := Lib.hid hks
          have p0 := heap_cell hm 0
          simp at p0
          have hml := heap_lt hm
          obtain ⟨va, vn, vc, rfl⟩ := row_slice hrow
          have hvn := row_len' hrow
          subst hvn
          have d0 : decide ((0 : Int) < ((at_ L j).keys.length : Int)) = true := decide_eq_true (by omega)
          have hmne : m < wr.heap.size := hml
          clear hst hm hrow hx hkk hB hri hks hr hc
          generalize at_ L j = x at *
          obtain ⟨xa, xc, xk⟩ := x
          simp only at c0 hkc hsz HRis hk0 HPush HR HStr d0
          go_wp2_with fail
          refine HRis.out.mono ?_
          rintro e w1 ⟨⟨r, rfl, hrr⟩, rfl⟩
          obtain rfl : r = true := hrr.2 HR.out
          clear hrr HRis
          have HE := Lib.hid (row_empty w1.drew w1.heap.size 9 1 (Nat.le_refl _))
          have HSv := Lib.hid (isStrs_vals (HStr.out.below ((Below.refl w1.heap.size w1).drew.alloc (Nat.le_refl _) (.cells #[] 9))))
          have HBA := Lib.hid ((Below.refl w1.heap.size w1).drew.alloc (Nat.le_refl _) (.cells #[] 9))
          have HSL : Hid ((strsV xk).length = xk.length * 1) := by show _ = _; rw [length_strsV, Nat.mul_one]
          have pBA := heap_cell ((HBA.out.block m hml).trans HM.out) 0
          simp at pBA
          go_upto_region 8 with (fail)
          go_region_law (first | (refine step_append_vals rfl (.tmp 26) (.tmp 27) 26 rfl w1.heap.size 9 i9 _ 1 16 Try.underlying26 hi9 z90 z91 z92 rfl (by decide) _ 0 [] (by rfl) HE.out xa xk.length xc (strsV xk) (by rfl) HSL.out HSv.out (strsV_one xk) (by unfold maxLen; omega) (by omega) HBA.out.size ?_; intro v4 w4 hrow4 hg4; have HB4 := Lib.hid (Below.own HBA.out HE.out (Nat.le_refl _) HBA.out.size hg4); have hp4 := (heap_cell ((HB4.out.block m hml).trans HM.out) 0); simp at hp4; obtain ⟨a4, m4, c4, rfl⟩ := row_slice hrow4; rw [Nat.zero_add, List.nil_append] at hrow4; have HRow4 := Lib.hid hrow4; have hm4 := row_len' hrow4; subst hm4; have hcc4 := row_cap HRow4.out; have HRowB := Lib.hid ((Below.row HB4.out HRow.out).alloc (.cells #[.slice a4 xk.length c4] 26)); have HBC := Lib.hid ((HB.out.trans (HB4.out.mono HB.out.size)).alloc (HB.out.trans (HB4.out.mono HB.out.size)).size (.cells #[.slice a4 xk.length c4] 26)); have HVC : Hid (IsVals (w4.alloc (.cells #[.slice a4 xk.length c4] 26)) (some ⟨w4.heap.size, 0, none⟩) [.slice a4 xk.length c4]) := (fun _ => ⟨w4.heap.size, 0, rfl, by simp, fun k hk => by rw [Nat.zero_add, heap_cell (heap_alloc_new w4 _)]; simp⟩); have HMC := Lib.hid ((Below.block ((Below.refl w4.heap.size w4).alloc (Nat.le_refl _) (.cells #[.slice a4 xk.length c4] 26)) m (heap_lt ((HB4.out.block m hml).trans HM.out))).trans ((HB4.out.block m hml).trans HM.out)); have hp5 := heap_cell HMC.out 0; simp at hp5; clear hrow4 hg4) | (refine step_append_vals rfl (.tmp 25) (.tmp 29) 42 rfl w.heap.size 26 i26 _ 1 24 Try.underlying42 hi26 z0 z1 z2 rfl (by decide) _ rs.length (rs.map rowV) (by rfl) HRowB.out (some ⟨w4.heap.size, 0, none⟩) 1 1 [.slice a4 xk.length c4] (by rfl) rfl HVC.out (fun u hu => by simp only [List.mem_cons, List.not_mem_nil, or_false] at hu; subst hu; rfl) (by unfold maxLen; omega) (by omega) HBC.out.size ?_; intro v6 w6 hrow6 hg6; have HK6 := Lib.hid ((KeepM.of ((Below.refl w4.heap.size w4).alloc (Nat.le_refl _) (.cells #[.slice a4 xk.length c4] 26))).trans (keepM_grown HRowB.out hg6)); have HM6 := Lib.hid (grown_m HRowB.out hg6 HMC.out); have HB6 := Lib.hid (Below.own HBC.out HRowB.out (Nat.le_refl _) HBC.out.size hg6); have hp6 := heap_cell HM6.out 0; simp at hp6; have hf6 := frozen_of_row w6 m 0 _ _ HM6.out; obtain ⟨a6, m6, c6, rfl⟩ := row_slice hrow6; have HRow6 := Lib.hid hrow6; clear hrow6 hg6))
          all_goals
            have HEnd := Lib.hid (HPush.out w4 w6 (.slice a6 m6 c6) a4 c4 (Below.trans (Below.refl _ _) HB4.out) hcc4 (row_keys HRow4.out) HM6.out HK6.out HB6.out HRow6.out)
            clear HPush HRow6 HB6 HM6 HK6 HRow4 HB4 HRowB HBC HVC HMC
            go_wp2_with fail
            go_roundw
            case rel => exact ⟨j + 1, by go_num, by omega, HEnd⟩
            case measure => simp [intOf]; omega
        · have HRN : Hid (PRel L w m (j + 1) wr) := ⟨v, rs, hm, hmB, hrow, hx, by rw [full_take L j hjl, if_neg hk0, List.append_nil]; exact hkk, hB, (fun i hi => by
            by_cases e : i = j
            · subst e; exact hr
            · exact hri i (by omega)), by omega⟩
          have HR := Lib.hid hr
          have d0 : decide ((0 : Int) < ((at_ L j).keys.length : Int)) = false := decide_eq_false (by omega)
          clear hst hm hrow hx hkk hB hri hks hr hc
          generalize at_ L j = x at *
          obtain ⟨xa, xc, xk⟩ := x
          simp only at c0 hkc hsz HRis hk0 HR d0
          go_wp2_with fail
          refine HRis.out.mono ?_
          rintro e w1 ⟨⟨r, rfl, hrr⟩, rfl⟩
          obtain rfl : r = true := hrr.2 HR.out
          clear hrr HRis
          have hz : xk.length = 0 := by omega
          generalize xk.length = KL at *
          subst hz
          go_wp2_with fail
          go_roundw
          case rel => exact ⟨j + 1, by go_num, by omega, HRN⟩
          case measure => simp [intOf]; omega
      · have HE : Hid (NewIs L w (.returned (.tuple #[.pointer none, .int .i64 11])) wr) := ⟨fun _ => ⟨rfl, hB⟩, fun hall => absurd (hall j hjl) hr⟩
        have HR := Lib.hid hr
        clear hst hm hrow hx hkk hB hri hks hr hc
        generalize at_ L j = x at *
        obtain ⟨xa, xc, xk⟩ := x
        simp only at c0 hkc hsz HRis HR
        go_wp2_with fail
        refine HRis.out.mono ?_
        rintro e w1 ⟨⟨r, rfl, hrr⟩, rfl⟩
        have hrf : r = false := by
          cases r with
          | true => exact absurd (hrr.1 rfl) HR.out
          | false => rfl
        subst hrf
        clear hrr HRis
        go_wp2_with fail
        go_ret2
        exact HE.out
    · obtain rfl : j = L.length := by omega
      have dj : decide ((L.length : Int) < (L.length : Int)) = false := by simp
      have hall : ∀ i, i < L.length → RisesK (at_ L i).keys := by obtain ⟨_, _, _, _, _, _, _, _, h7, _⟩ := hst.out; exact h7
      obtain ⟨v, rs, hp, hb1, hkk, hgr, hrl⟩ := prel_end hst.out
      have HIn := Lib.hid (init_any w.heap.size m v rs wr hp (by omega) (fun i hi => (hgr i hi).1))
      have HEnd := Lib.hid (fun w2 rs' => new_end (w2 := w2) (m := m) (v := v) (rs' := rs') hkk hgr hb1)
      have HAll := Lib.hid hall
      have HB1 := Lib.hid hb1
      have p0 := heap_cell hp.1 0
      clear hst hp hb1 hkk hgr hall
      go_wp2_with fail
      refine HIn.out.mono ?_
      clear HIn
      rintro e w2 ⟨rfl, rs', hp2, hs, hh, hb2, hm2⟩
      have HE := Lib.hid (HEnd.out w2 rs' hp2 hs hh hb2 HAll.out)
      clear hp2 hs hh hb2 hm2
      go_wp2_with fail
      go_ret2
      exact HE.out
end Go.Proofs.Ytacjbgmnoiimbaa
