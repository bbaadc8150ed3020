/- heap.down: walked. -/
import Derived.Test.YtacjbgmnoiimbaaWalkD
namespace Go.Proofs.Ytacjbgmnoiimbaa
set_option linter.unusedVariables false
set_option linter.unusedSimpArgs false
open Go.RowKit

theorem same_ne {rs rs' : List RR} {n : Nat} (hs : SameR n rs rs') (hne : ∀ i, i < n → 0 < (at_ rs i).keys.length) (j : Nat) (hj : j < n) : 0 < (at_ rs' j).keys.length := by
  obtain ⟨i', hi', e⟩ := hs.2.2.1 j hj
  rw [e]; exact hne i' hi'
set_option maxRecDepth 100000 in
set_option maxHeartbeats 2000000 in
theorem down_any (B m : Nat) (v : Value) (rs : List RR) (n i0 : Nat) (w : World) (h : PileAt B w m v rs) (hn : n ≤ rs.length) (hl : rs.length ≤ 1000000) (hi0 : i0 ≤ 1000000) (hne : ∀ i, i < n → 0 < (at_ rs i).keys.length) (hH : HeapFrom rs n (i0 + 1)) :
    Calls Try.prog 20 #[.iface 46 (.pointer (some ⟨m, 0, none⟩)), .int .i64 i0, .int .i64 n] w (DownIs B m v rs n i0 w) := by
  have HR0 : Hid (DRel B m v rs n i0 w i0 w) := ⟨rs, h, SameR.refl _ _, down_start hH, Below.refl _ _, KeepM.refl _⟩
  have HNe := Lib.hid hne
  have HN := Lib.hid hn
  clear h hH hne
  go_enter Try.func20, Try.ntmps20
  go_wp2_with fail
  go_loopw [7] (fun i wr => ∃ j : Nat, i = .int .i64 j ∧ i0 ≤ j ∧ j ≤ 1000000 ∧ Hid (DRel B m v rs n i0 w j wr)) (fun i _ => n - (intOf i).toNat)
  case atStart => exact ⟨i0, rfl, Nat.le_refl _, hi0, HR0⟩
  case round =>
    clear HR0
    obtain ⟨i, rfl, h0i, hi6, hst⟩ := hrel
    obtain ⟨rs', hp, hs, hdI, hB, hK⟩ := hst.out
    have hn' : n ≤ rs'.length := by rw [hs.1]; exact HN.out
    by_cases hleaf : n ≤ 2 * i + 1
    · have HE : Hid (∀ b, DownIs B m v rs n i0 w (.returned (.bool b)) wr) := fun b => ⟨b, rs', rfl, hp, hs, down_leaf hdI hleaf, hB, hK⟩
      clear hst hp hs hdI hB hK
      go_wp2_with fail
      go_ret
      exact HE.out _
    · obtain ⟨g, cap, cs, rfl, hg1, hg2, hg3, hg4⟩ := hp.rows (by omega)
      clear hg1 hg2 hg3 hg4
      obtain ⟨c1, hc1⟩ : ∃ c1, c1 = 2 * i + 1 := ⟨_, rfl⟩
      have q1 := Lib.hid (show 2 * (i : Int) + 1 = (c1 : Int) by omega)
      have d1 : decide ((n : Int) ≤ (c1 : Int)) = false := decide_eq_false (by omega)
      have d2 : decide ((c1 : Int) < 0) = false := decide_eq_false (by omega)
      obtain ⟨c2, hc2⟩ : ∃ c2, c2 = c1 + 1 := ⟨_, rfl⟩
      have q2 := Lib.hid (show (c1 : Int) + 1 = (c2 : Int) by omega)
      have hML := fun k => meth_val 171 "Less" 41 Try.methLess m _ (wr.drewN k) (heap_cell (hp.drewN k).1 0)
      have hML0 := hML 0
      have hML0' : (method 172 46 (.pointer (some ⟨m, 0, none⟩)) "Less").run Try.prog wr = .ok (41, .slice (some ⟨g, 0, none⟩) rs'.length cap) wr := hML0
      clear hML0
      have HC : Hid (c1 = 2 * i + 1 ∧ c2 = 2 * i + 2) := ⟨hc1, by omega⟩
      by_cases hr : c2 < n
      · have d3 : decide ((c2 : Int) < (n : Int)) = true := decide_eq_true (by omega)
        have HB1 := Lib.hid (less_at (W := wr) hp c2 c1 (by omega) (by omega) (same_ne hs HNe.out c2 hr) (same_ne hs HNe.out c1 (by omega)))
        obtain ⟨r1, hr1⟩ : ∃ r1, r1 = decide (hd (at_ rs' c2) < hd (at_ rs' c1)) := ⟨_, rfl⟩
        rw [← hr1] at HB1
        clear hc1 hc2
        cases r1 with
        | true =>
          have HL : Hid (Least rs' n i c2) := by
            have h1 := of_decide_eq_true hr1.symm
            rw [HC.out.1, HC.out.2] at h1
            show Least rs' n i c2
            rw [HC.out.2]; exact least_right (by have := HC.out; omega) h1
          clear hr1
          have hcc1 : c1 ≤ 2000001 := by have := HC.out; omega
          have hcc2 : c2 ≤ 2000002 := by have := HC.out; omega
          have hcc3 : c1 < n := by have := HC.out; omega
          go_upto_region 3 with (fail)
          rw [q1.out]
          go_upto_region 6 with (fail)
          rw [q2.out]
          go_wp2_with fail
          refine HB1.out.mono ?_
          clear HB1
          rintro e wL1 ⟨rfl, k1, rfl⟩
          have HB2 := Lib.hid (fun k => less_at (W := wr.drewN k) (hp.drewN k) c2 i (by omega) (by omega) (same_ne hs HNe.out c2 (by omega)) (same_ne hs HNe.out i (by omega)))
          obtain ⟨r2, hr2⟩ : ∃ r2, r2 = decide (hd (at_ rs' c2) < hd (at_ rs' i)) := ⟨_, rfl⟩
          rw [← hr2] at HB2
          cases r2 with
          | true =>
            have hlt := of_decide_eq_true hr2.symm
            clear hr2
            go_wp2_with fail
            refine (HB2.out _).mono ?_
            clear HB2
            rintro e wL2 ⟨rfl, k2, hwL2⟩
            try rw [World.drewN_drewN] at hwL2
            subst hwL2
            have HS := Lib.hid (fun k => swap_pile (W := wr.drewN k) (hp.drewN k) i c2 (by omega) (by omega))
            have HNx := Lib.hid (down_next hdI h0i hn' HL.out hlt)
            have HSm := Lib.hid (hs.trans (same_swap rs' n i c2 (by omega) (by omega) hn'))
            have hMS := fun k => meth_val 171 "Swap" 42 Try.methSwap m _ (wr.drewN k) (heap_cell (hp.drewN k).1 0)
            have HB := Lib.hid hB
            have HK := Lib.hid hK
            clear hst hp hs hdI hB hK hlt
            go_wp2_with fail
            refine (HS.out _).mono ?_
            clear HS
            rintro e wN ⟨rfl, hpN, hbN, hkN⟩
            have HRN : Hid (DRel B m (.slice (some ⟨g, 0, none⟩) rs'.length cap) rs n i0 w c2 wN) := ⟨_, hpN, HSm.out, HNx.out, (Below.drewN HB.out _).trans hbN, (HK.out.drewN _).trans hkN⟩
            clear hpN hbN hkN hMS
            go_wp2_with fail
            go_roundw
            case rel => exact ⟨c2, by go_num, by have := HC.out; omega, by have := HC.out; have := HN.out; omega, HRN⟩
            case measure => simp [intOf]; have := HC.out; omega
          | false =>
            have hlt := of_decide_eq_false hr2.symm
            have HE : Hid (∀ b k, DownIs B m (.slice (some ⟨g, 0, none⟩) rs'.length cap) rs n i0 w (.returned (.bool b)) (wr.drewN k)) := fun b k => ⟨b, rs', rfl, hp.drewN k, hs, down_rest hdI HL.out hlt, Below.drewN hB k, hK.drewN k⟩
            clear hst hp hs hdI hB hK hr2 hlt
            go_wp2_with fail
            refine (HB2.out _).mono ?_
            clear HB2
            rintro e wL2 ⟨rfl, k2, hwL2⟩
            try rw [World.drewN_drewN] at hwL2
            subst hwL2
            go_wp2_with fail
            go_ret
            exact HE.out _ _
        | false =>
          have HL : Hid (Least rs' n i c1) := by
            have h1 := of_decide_eq_false hr1.symm
            rw [HC.out.1, HC.out.2] at h1
            show Least rs' n i c1
            rw [HC.out.1]; exact least_left (by have := HC.out; omega) (fun _ => h1)
          clear hr1
          have hcc1 : c1 ≤ 2000001 := by have := HC.out; omega
          have hcc2 : c2 ≤ 2000002 := by have := HC.out; omega
          have hcc3 : c1 < n := by have := HC.out; omega
          go_upto_region 3 with (fail)
          rw [q1.out]
          go_upto_region 6 with (fail)
          rw [q2.out]
          go_wp2_with fail
          refine HB1.out.mono ?_
          clear HB1
          rintro e wL1 ⟨rfl, k1, rfl⟩
          have HB2 := Lib.hid (fun k => less_at (W := wr.drewN k) (hp.drewN k) c1 i (by omega) (by omega) (same_ne hs HNe.out c1 (by omega)) (same_ne hs HNe.out i (by omega)))
          obtain ⟨r2, hr2⟩ : ∃ r2, r2 = decide (hd (at_ rs' c1) < hd (at_ rs' i)) := ⟨_, rfl⟩
          rw [← hr2] at HB2
          cases r2 with
          | true =>
            have hlt := of_decide_eq_true hr2.symm
            clear hr2
            go_wp2_with fail
            refine (HB2.out _).mono ?_
            clear HB2
            rintro e wL2 ⟨rfl, k2, hwL2⟩
            try rw [World.drewN_drewN] at hwL2
            subst hwL2
            have HS := Lib.hid (fun k => swap_pile (W := wr.drewN k) (hp.drewN k) i c1 (by omega) (by omega))
            have HNx := Lib.hid (down_next hdI h0i hn' HL.out hlt)
            have HSm := Lib.hid (hs.trans (same_swap rs' n i c1 (by omega) (by omega) hn'))
            have hMS := fun k => meth_val 171 "Swap" 42 Try.methSwap m _ (wr.drewN k) (heap_cell (hp.drewN k).1 0)
            have HB := Lib.hid hB
            have HK := Lib.hid hK
            clear hst hp hs hdI hB hK hlt
            go_wp2_with fail
            refine (HS.out _).mono ?_
            clear HS
            rintro e wN ⟨rfl, hpN, hbN, hkN⟩
            have HRN : Hid (DRel B m (.slice (some ⟨g, 0, none⟩) rs'.length cap) rs n i0 w c1 wN) := ⟨_, hpN, HSm.out, HNx.out, (Below.drewN HB.out _).trans hbN, (HK.out.drewN _).trans hkN⟩
            clear hpN hbN hkN hMS
            go_wp2_with fail
            go_roundw
            case rel => exact ⟨c1, by go_num, by have := HC.out; omega, by have := HC.out; have := HN.out; omega, HRN⟩
            case measure => simp [intOf]; have := HC.out; omega
          | false =>
            have hlt := of_decide_eq_false hr2.symm
            have HE : Hid (∀ b k, DownIs B m (.slice (some ⟨g, 0, none⟩) rs'.length cap) rs n i0 w (.returned (.bool b)) (wr.drewN k)) := fun b k => ⟨b, rs', rfl, hp.drewN k, hs, down_rest hdI HL.out hlt, Below.drewN hB k, hK.drewN k⟩
            clear hst hp hs hdI hB hK hr2 hlt
            go_wp2_with fail
            refine (HB2.out _).mono ?_
            clear HB2
            rintro e wL2 ⟨rfl, k2, hwL2⟩
            try rw [World.drewN_drewN] at hwL2
            subst hwL2
            go_wp2_with fail
            go_ret
            exact HE.out _ _
      · have d3 : decide ((c2 : Int) < (n : Int)) = false := decide_eq_false (by omega)
        have HL : Hid (Least rs' n i c1) := by
          show Least rs' n i c1
          rw [HC.out.1]; exact least_left (by have := HC.out; omega) (fun h => absurd h (by have := HC.out; omega))
        clear hc1 hc2
        have hcc1 : c1 ≤ 2000001 := by have := HC.out; omega
        have hcc2 : c2 ≤ 2000002 := by have := HC.out; omega
        have hcc3 : c1 < n := by have := HC.out; omega
        have HB2 := Lib.hid (fun k => less_at (W := wr.drewN k) (hp.drewN k) c1 i (by omega) (by omega) (same_ne hs HNe.out c1 (by omega)) (same_ne hs HNe.out i (by omega)))
        obtain ⟨r2, hr2⟩ : ∃ r2, r2 = decide (hd (at_ rs' c1) < hd (at_ rs' i)) := ⟨_, rfl⟩
        rw [← hr2] at HB2
        cases r2 with
        | true =>
          have hlt := of_decide_eq_true hr2.symm
          clear hr2
          go_upto_region 3 with (fail)
          rw [q1.out]
          go_upto_region 6 with (fail)
          rw [q2.out]
          go_wp2_with fail
          refine (HB2.out 0).mono ?_
          clear HB2
          rintro e wL2 ⟨rfl, k2, hwL2⟩
          try rw [World.drewN_drewN] at hwL2
          subst hwL2
          have HS := Lib.hid (fun k => swap_pile (W := wr.drewN k) (hp.drewN k) i c1 (by omega) (by omega))
          have HNx := Lib.hid (down_next hdI h0i hn' HL.out hlt)
          have HSm := Lib.hid (hs.trans (same_swap rs' n i c1 (by omega) (by omega) hn'))
          have hMS := fun k => meth_val 171 "Swap" 42 Try.methSwap m _ (wr.drewN k) (heap_cell (hp.drewN k).1 0)
          have HB := Lib.hid hB
          have HK := Lib.hid hK
          clear hst hp hs hdI hB hK hlt
          go_wp2_with fail
          refine (HS.out _).mono ?_
          clear HS
          rintro e wN ⟨rfl, hpN, hbN, hkN⟩
          have HRN : Hid (DRel B m (.slice (some ⟨g, 0, none⟩) rs'.length cap) rs n i0 w c1 wN) := ⟨_, hpN, HSm.out, HNx.out, (Below.drewN HB.out _).trans hbN, (HK.out.drewN _).trans hkN⟩
          clear hpN hbN hkN hMS
          go_wp2_with fail
          go_roundw
          case rel => exact ⟨c1, by go_num, by have := HC.out; omega, by have := HC.out; have := HN.out; omega, HRN⟩
          case measure => simp [intOf]; have := HC.out; omega
        | false =>
          have hlt := of_decide_eq_false hr2.symm
          have HE : Hid (∀ b k, DownIs B m (.slice (some ⟨g, 0, none⟩) rs'.length cap) rs n i0 w (.returned (.bool b)) (wr.drewN k)) := fun b k => ⟨b, rs', rfl, hp.drewN k, hs, down_rest hdI HL.out hlt, Below.drewN hB k, hK.drewN k⟩
          clear hst hp hs hdI hB hK hr2 hlt
          go_upto_region 3 with (fail)
          rw [q1.out]
          go_upto_region 6 with (fail)
          rw [q2.out]
          go_wp2_with fail
          refine (HB2.out 0).mono ?_
          clear HB2
          rintro e wL2 ⟨rfl, k2, hwL2⟩
          try rw [World.drewN_drewN] at hwL2
          subst hwL2
          go_wp2_with fail
          go_ret
          exact HE.out _ _
end Go.Proofs.Ytacjbgmnoiimbaa
