/- CachePlays: the law walked. -/
import Derived.Test.YtacjbgmnoiimbacLawc
namespace Go.Proofs.Ytacjbgmnoiimbac
set_option linter.unusedVariables false
set_option linter.unusedSimpArgs false
open Go.RowKit

set_option maxRecDepth 100000 in
set_option maxHeartbeats 8000000 in
theorem lawPlays (room0 : Int) (a : Option Addr) (cap : Nat) (l : List AA) (w : World) (hl : l.length ≤ 9223372036854775807) (h : IsActs w a l) :
    Calls Try.prog 4 #[.int .i64 room0, .slice a l.length cap] w fun e w' => e = .returned (.bool true) ∧ Below w.heap.size w w' := by
  obtain ⟨i9, hi9, hz0, hz1, hz2⟩ := info_parts Try.info9
  have HF := Lib.hid (fixed_any w)
  have H := Lib.hid h
  clear h
  go_enter Try.func4, Try.ntmps4
  go_wp2_with fail
  refine HF.out.mono ?_
  clear HF
  rintro e w1 ⟨rfl, hB1⟩
  have HFew := Lib.hid (few_any a cap l w1 hl (H.out.below hB1))
  go_wp2_with fail
  refine HFew.out.mono ?_
  clear HFew
  rintro e w2 ⟨⟨r, rfl, hr2⟩, hb2⟩
  have hB2 := hB1.trans (hb2.mono hB1.size)
  cases r with
  | false =>
    go_wp2_with fail
    go_ret
    exact ⟨rfl, hB2⟩
  | true =>
    obtain ⟨h150, hsh⟩ := hr2 rfl
    have HSh := Lib.hid hsh
    have H2 := Lib.hid (H.out.below hB2)
    have HB2 := Lib.hid hB2
    have HN := Lib.hid (new_any room0 w2)
    clear hr2 hsh hb2 hB2 hB1 H
    go_wp2_with fail
    refine HN.out.mono ?_
    clear HN
    rintro e w3 ⟨g, bm, rb, rfl, hg, hbm, hrb, hca, hb3⟩
    have HNr := Lib.hid (newref_any room0 w3)
    have HC3 := Lib.hid hca
    have HB3 := Lib.hid hb3
    clear hca hb3
    go_wp2_with fail
    refine HNr.out.mono ?_
    clear HNr
    rintro e w4 ⟨r, rfl, hr, hb4⟩
    have hrel0 : Hid (PlayRel g bm rb r (max room0 0) w2 0 w4) := ⟨[], [], _, ⟨HC3.out.below hb4, hg, hbm, hrb, fun i hi => absurd hi (Nat.not_lt_zero _)⟩, ⟨Nat.le_trans HB3.out.size hr.1, hr.2.1, slab_nil _ _ _ _⟩, rfl, (fun x hx => by cases hx), HB3.out.trans (hb4.mono HB3.out.size), Nat.le_refl _, Nat.le_refl _⟩
    have hrm0 : 0 ≤ max room0 0 := by omega
    clear hr hb4 HC3 HB3 hg hbm hrb
    generalize max room0 0 = room at *
    go_wp2_with fail
    go_loopw [27] (fun i wr => ∃ j : Nat, i = .int .i64 j ∧ j ≤ l.length ∧ Hid (PlayRel g bm rb r room w2 j wr)) (fun i _ => l.length - (intOf i).toNat)
    case atStart => exact ⟨0, rfl, Nat.zero_le _, hrel0⟩
    case round =>
      clear hrel0
      obtain ⟨j, rfl, hj, hst⟩ := hrel
      obtain ⟨its, itr, v, hown, href, htw, hok, hB, hlen, htot⟩ := hst.out
      clear hst
      by_cases hjl : j < l.length
      · have dj : decide ((j : Int) < (l.length : Int)) = true := decide_eq_true (by omega)
        have hij : (j : Int) < (l.length : Int) := by omega
        obtain ⟨ab, ao, rfl, hab, hac2⟩ := H2.out (by omega)
        obtain ⟨_, _, _, _, _, hkc2, _, _, hst2⟩ := hac2 j hjl
        obtain ⟨c0, c1, c2, c3, _⟩ := acts_at (H2.out.below hB) hjl
        have hshort := HSh.out j hjl
        generalize l.getD j default = x at *
        clear hac2
        obtain ⟨xk, xf, xb, xa, xkc, keys⟩ := x
        simp only at c0 c1 c2 c3 hkc2 hst2 hshort
        have hlen' : its.length ≤ 150 := by rw [htw.len]; omega
        have htot' : total its ≤ 30000 * 150 := by rw [htw.total]; omega
        have hBe := (Below.refl wr.heap.size wr).alloc (Nat.le_refl _) (.cells #[.int .u8 (xk : Int), .int .i64 xf, .int .i64 xb, .slice xa keys.length xkc] 30)
        have HX0 := Lib.hid (heap_alloc_new wr (.cells #[.int .u8 (xk : Int), .int .i64 xf, .int .i64 xb, .slice xa keys.length xkc] 30))
        have HStr2 := Lib.hid hst2
        have HSh5 : Hid (keys.length ≤ 20 ∧ ∀ i, (keys.getD i ByteArray.empty).size ≤ 100) := hshort
        have HOw := Lib.hid (show OwnC w2.heap.size (wr.alloc (.cells #[.int .u8 (xk : Int), .int .i64 xf, .int .i64 xb, .slice xa keys.length xkc] 30)) g bm rb room (total its : Int) its from ⟨hown.1.below hBe, hown.2⟩)
        have HRf := Lib.hid (href.below hBe)
        have HB := Lib.hid (hB.alloc hB.size (.cells #[.int .u8 (xk : Int), .int .i64 xf, .int .i64 xb, .slice xa keys.length xkc] 30))
        have HTw := Lib.hid htw
        have HOk := Lib.hid hok
        have hk20 := HSh5.out.1
        obtain ⟨K3, hK3⟩ : ∃ K3, K3 = xk % 3 := ⟨_, rfl⟩
        have ht3 : ((xk : Int)).tmod 3 = (K3 : Int) := by rw [hK3]; rfl
        have hm3 : ((xk : Int)) % 3 = (K3 : Int) := by rw [hK3]; rfl
        have hK3l : K3 < 3 := by rw [hK3]; omega
        clear hK3 hst2 hown href hB hBe htw hok hshort
        go_upto_region 9 with (fail)
        generalize (wr.alloc (.cells #[.int .u8 (xk : Int), .int .i64 xf, .int .i64 xb, .slice xa keys.length xkc] 30)) = wA at *
        generalize wr.heap.size = gx at *
        have p0 := heap_cell HX0.out 0
        have p1 := heap_cell HX0.out 1
        have p2 := heap_cell HX0.out 2
        have p3 := heap_cell HX0.out 3
        simp at p0 p1 p2 p3
        by_cases h0 : K3 = 0
        · have b0 : ((K3 : Int) == 0) = true := by rw [h0]; rfl
          clear h0
          have HE := Lib.hid (row_empty wA wA.heap.size 9 1 (Nat.le_refl _))
          have HSv := Lib.hid (isStrs_vals ((HStr2.out.below HB.out).below ((Below.refl _ _).alloc (Nat.le_refl _) (.cells #[] 9))))
          have HBA := Lib.hid ((Below.refl wA.heap.size wA).alloc (Nat.le_refl _) (.cells #[] 9))
          have HSL : Hid ((strsV keys).length = keys.length * 1) := by show _ = _; rw [length_strsV, Nat.mul_one]
          have q3 : (wA.alloc (.cells #[] 9)).cell? ⟨gx, 3, none⟩ = some (.slice xa keys.length xkc) := heap_cell ((HBA.out.block gx (heap_lt HX0.out)).trans HX0.out) 3
          clear p1 p2 p3
          go_upto_region 14 with (at_builtin; refine wpList_append_vals _ rfl (.tmp 44) (.tmp 46) 28 rfl wA.heap.size 9 i9 _ 1 16 Try.underlying28 hi9 hz0 hz1 hz2 rfl (by decide) (.slice (some ⟨wA.heap.size, 0, none⟩) 0 0) 0 [] (by rfl) HE.out xa keys.length xkc (strsV keys) (by rfl) HSL.out HSv.out (strsV_one keys) (by unfold maxLen; omega) (by omega) HBA.out.size ?_; intro vO wO hrowO hgO; have HBO := Lib.hid (Below.own HBA.out HE.out (Nat.le_refl _) HBA.out.size hgO); obtain ⟨oa, on, oc, rfl⟩ := row_slice hrowO; rw [Nat.zero_add, List.nil_append] at hrowO; have HRO := Lib.hid hrowO; clear hrowO hgO)
          have hm := row_len' HRO.out
          subst hm
          obtain ⟨obx, hobx⟩ : ∃ obx, obx = blkOf oa := ⟨_, rfl⟩
          have hoc : keys.length ≤ oc := by
            rcases HRO.out.2 with ⟨h1, h2⟩ | ⟨g', cap', cur', h1, _, _, h4, _⟩
            · omega
            · cases h1; exact h4
          have HOO := Lib.hid (show OwnC w2.heap.size wO g bm rb room (total its : Int) its from ⟨HOw.out.1.below HBO.out, HOw.out.2⟩)
          have HBO2 := Lib.hid (HB.out.trans (HBO.out.mono HB.out.size))
          have HXO := Lib.hid ((HBO.out.block gx (heap_lt HX0.out)).trans HX0.out)
          have HPu := Lib.hid (put_any w2.heap.size g bm rb room its wO HOO.out HBO2.out.size hrm0 xf xb oa oc keys (by omega) (fun i => by have := HSh5.out.2 i; omega) hoc (by omega) (row_strs HRO.out))
          have p1 := heap_cell HXO.out 1
          have p2 := heap_cell HXO.out 2
          simp at p1 p2
          go_wp2_with fail
          refine HPu.out.mono ?_
          clear HPu
          rintro e wP ⟨rfl, its1, xbl, xa', xkc', hwo, hxl, hOP, hbP, hkP⟩
          have HBP := Lib.hid (HBO2.out.trans hbP)
          have HRP := Lib.hid ((HRf.out.below HBO.out).keepT hkP)
          have HPr := Lib.hid (putref_any w2 r room _ itr wP HBP.out HRP.out hrm0 HOk.out (by omega) (by omega) xf xb xa xkc keys hk20 HSh5.out.2 hkc2 HStr2.out)
          have HXP := Lib.hid (hkP gx _ 30 (by decide) (by decide) HXO.out)
          have HWo := Lib.hid hwo
          have HXl := Lib.hid hxl
          have HOP := Lib.hid hOP
          have HKP := Lib.hid hkP
          clear hwo hxl hOP hbP hkP p1 p2
          have p1 := heap_cell HXP.out 1
          have p2 := heap_cell HXP.out 2
          have p3 := heap_cell HXP.out 3
          simp at p1 p2 p3
          go_wp2_with fail
          refine HPr.out.mono ?_
          clear HPr
          rintro e wQ ⟨rfl, itr1, vN, hwr, hRN, hBN, hKN⟩
          have HStQ : Hid (PlayX g bm rb r room w2 (j + 1) wQ keys.length obx) := by
            obtain ⟨q1, q2, q3, q4⟩ := play_put (room := room) (x := ⟨xbl, xf, xb, xa', xkc', keys⟩) (y := ⟨0, xf, xb, xa, xkc, keys⟩) HTw.out HOw.out.1.names HOk.out hlen htot HWo.out hwr rfl ⟨hk20, HSh5.out.2, hkc2, HStr2.out⟩
            refine ⟨_, _, vN, HOP.out.keepR hKN, hRN, q1, q2, HBP.out.trans hBN, q3, q4, fun h0 => ?_⟩
            obtain ⟨ob, cs, rfl, h1, h2, _⟩ := row9 HRO.out h0
            obtain rfl : obx = ob := hobx
            refine ⟨Nat.le_trans HB.out.size h1, fun x hx hk p hp => ?_⟩
            rcases List.mem_append.1 (mem_evict hx) with hx | hx
            · have := HOw.out.keysLt x (without_sub HWo.out HOw.out.1.names x hx).1 hk p hp
              omega
            · simp only [List.mem_cons, List.not_mem_nil, or_false] at hx
              subst hx
              have := HXl.out.2 p hp
              have := heap_lt h2
              omega
          have HRow : Hid (0 < keys.length → ∃ csb, oa = some ⟨obx, 0, none⟩ ∧ wQ.heap[obx]? = some (.cells csb 9 (0, 0)) ∧ keys.length ≤ csb.size) := fun h0 => by
            obtain ⟨ob, cs, rfl, h1, h2, h3, _⟩ := row9 HRO.out h0
            obtain rfl : obx = ob := hobx
            exact ⟨cs, rfl, hKN obx _ (HKP.out obx _ 9 (by decide) (by decide) h2) (fun cs' => ⟨(fun e => by cases e), (fun e => by cases e)⟩), h3⟩
          clear hRN hBN hKN hwr HOP HKP HWo HXl HRP HBP HBO HBO2 HXO HXP HOO HRO HBA HE HSv HSL HOw HRf HX0 HTw HOk HStr2 p1 p2 p3 p0 hobx hlen' htot' hlen htot
          have HT0 : Hid (Turn9 obx wQ wQ) := Turn9.refl _ _
          go_wp2_with fail
          go_loopw [65] (fun i wx => ∃ m : Nat, i = .int .i64 m ∧ m ≤ keys.length ∧ Hid (Turn9 obx wQ wx) ∧ Hid (keys.length = 0 → wx = wQ)) (fun i _ => keys.length - (intOf i).toNat)
          case atStart => exact ⟨0, rfl, Nat.zero_le _, HT0, fun _ => rfl⟩
          case round =>
            clear HT0
            obtain ⟨m, rfl, hm, HT, HZ⟩ := hrel
            by_cases hmk : m < keys.length
            · have dm : decide ((m : Int) < (keys.length : Int)) = true := decide_eq_true (by omega)
              have hij2 : (m : Int) < (keys.length : Int) := by omega
              obtain ⟨csb, hoa, hcsb, hcz⟩ := HRow.out (by omega)
              subst hoa
              obtain ⟨csx, hcx, hzx⟩ := HT.out.2.2.2.2.2 csb hcsb
              have hfz := frozen_of_row wr obx m _ _ hcx
              have hce : ∃ y, wr.cell? ⟨obx, m, none⟩ = some y := ⟨csx[m]'(by omega), by rw [heap_cell hcx]; exact Array.getElem?_eq_getElem _⟩
              obtain ⟨y, hce⟩ := hce
              have HTn := Lib.hid (HT.out.set m (.string { data := #[63] }))
              clear hcx hcsb
              go_wp2_with fail
              go_roundw
              case rel => exact ⟨m + 1, by go_num, by omega, HTn, fun h0 => absurd h0 (by omega)⟩
              case measure => simp [intOf]; omega
            · obtain rfl : m = keys.length := by omega
              have dm : decide ((keys.length : Int) < (keys.length : Int)) = false := by simp
              obtain ⟨wE, hwE⟩ : ∃ wE, wE = wr := ⟨_, rfl⟩
              have HPE : Hid (PlayRel g bm rb r room w2 (j + 1) wE) := by
                show PlayRel g bm rb r room w2 (j + 1) wE
                rw [hwE]
                by_cases h0 : keys.length = 0
                · rw [HZ.out h0]; exact HStQ.out.rel
                · obtain ⟨csb, _, hcsb, _⟩ := HRow.out (by omega)
                  obtain ⟨itsQ, itrQ, vQ, a1, a2, a3, a4, a5, a6, a7, a8⟩ := HStQ.out
                  exact play_turn a1 a2 a3 a4 a5 a6 a7 HT.out hcsb (a8 (by omega)).1 (a8 (by omega)).2
              rw [← hwE]
              clear hwE HT HZ HStQ HRow
              obtain ⟨itsE, itrE, vE, hownE, hrefE, htwE, hokE, hBE, hlenE, htotE⟩ := HPE.out
              obtain ⟨va, vc, rfl⟩ := hrefE.2.2.slice
              have HLen := Lib.hid (fun W (hW : Below wE.heap.size wE W) => len_any g bm rb room (total itsE : Int) itsE W (hownE.1.below hW))
              have HUsd := Lib.hid (fun W (hW : Below wE.heap.size wE W) => used_any g bm rb room (total itsE : Int) itsE W (hownE.1.below hW))
              have HUsr := Lib.hid (fun W (hW : Below wE.heap.size wE W) => usedref_any w2.heap.size r room _ itrE W (hrefE.below hW) (hokE.below (hBE.trans (hW.mono hBE.size))) (by omega) (by omega))
              rw [htwE.len] at HLen
              rw [htwE.total] at HUsd
              have HPr := Lib.hid (row42 hrefE.2.1).2
              have HBlk := Lib.hid hrefE.2.1
              have hrl := heap_lt hrefE.2.1
              have HBE := Lib.hid hBE
              have HStay := Lib.hid (fun W (hW : Below wE.heap.size wE W) => (⟨itsE, itrE, _, ⟨hownE.1.below hW, hownE.2⟩, hrefE.below hW, htwE, hokE, hBE.trans (hW.mono hBE.size), hlenE, htotE⟩ : PlayRel g bm rb r room w2 (j + 1) W))
              clear hownE hrefE htwE hokE hBE hlenE htotE HPE
              generalize itrE.length = nE at *
              generalize total itrE = tE at *
              have bn : ((nE : Int) != (nE : Int)) = false := by simp
              have bt : ((tE : Int) != (tE : Int)) = false := by simp
              have hp0 := HPr.out
              have hS0 : Below wE.heap.size wE wE.drew := (Below.refl _ _).drew
              have hl0 : ∀ w', Below wE.heap.size wE w' → w'.cell? ⟨r, 1, none⟩ = some (.slice va nE vc) := fun w' hw => heap_cell ((hw.block _ hrl).trans HBlk.out) 1
              go_wp2_with fail
              try refine wp_region_noPanic ?_
              refine wp_region_held_drew (S := fun w' => Below wE.heap.size wE w') (by kernel_rfl) (Below.refl _ _).drew (fun hHeld => ?_)
              refine take_at 0 110 (v := ?_) rfl rfl (by kernel_rfl) (by kernel_rfl) (by kernel_rfl) (fun _ _ _ h => h) (Or.inl ⟨by rfl, ?_⟩) hHeld ?_
              rotate_left
              · (intro w hSw; (try dsimp only at hSw); go_simp; try with_reducible rfl)
              try simp only [List.setIfInBounds_toArray, List.set_cons_zero, List.set_cons_succ]
              refine take_at 2 112 (v := ?_) rfl rfl (by kernel_rfl) (by kernel_rfl) (by kernel_rfl) (fun _ _ _ h => h) (Or.inl ⟨by rfl, ?_⟩) hHeld ?_
              rotate_left
              · (intro w hSw; (try dsimp only at hSw); go_simp; try with_reducible rfl)
              try simp only [List.setIfInBounds_toArray, List.set_cons_zero, List.set_cons_succ]
              refine take_at 3 113 (v := ?_) rfl rfl (by kernel_rfl) (by kernel_rfl) (by kernel_rfl) (fun _ _ _ h => h) (Or.inl ⟨by rfl, ?_⟩) hHeld ?_
              rotate_left
              · (intro w hSw; (try dsimp only at hSw); go_simp; try with_reducible rfl)
              try simp only [List.setIfInBounds_toArray, List.set_cons_zero, List.set_cons_succ]
              refine take_at 4 114 (v := ?_) rfl rfl (by kernel_rfl) (by kernel_rfl) (by kernel_rfl) (fun _ _ _ h => h) (Or.inl ⟨by rfl, ?_⟩) hHeld ?_
              rotate_left
              · (intro w hSw; (try dsimp only at hSw); go_simp; try with_reducible rfl)
              try simp only [List.setIfInBounds_toArray, List.set_cons_zero, List.set_cons_succ]
              refine take_at 5 115 (v := ?_) rfl rfl (by kernel_rfl) (by kernel_rfl) (by kernel_rfl) (fun _ _ _ h => h) (Or.inl ⟨by rfl, ?_⟩) hHeld ?_
              rotate_left
              · (intro w hSw; (try dsimp only at hSw); go_simp; try with_reducible rfl)
              try simp only [List.setIfInBounds_toArray, List.set_cons_zero, List.set_cons_succ]
              refine take_at 6 116 (v := ?_) rfl rfl (by kernel_rfl) (by kernel_rfl) (by kernel_rfl) (fun _ _ _ h => h) (Or.inl ⟨by rfl, ?_⟩) hHeld ?_
              rotate_left
              · (intro w hSw; (try dsimp only at hSw); go_simp; try with_reducible rfl)
              try simp only [List.setIfInBounds_toArray, List.set_cons_zero, List.set_cons_succ]
              refine only_at 1 111 (by kernel_rfl) rfl rfl (by rfl) (fun K hK => ?_)
              go_simp
              refine (HLen.out _ hS0).mono ?_
              rintro e W1 ⟨rfl, rfl⟩
              refine hK.out _ _ (hS0) (fun hHeld2 => ?_)
              clear hK K hHeld
              have hHeld := hHeld2
              clear hHeld2
              try simp only [Act.put, List.setIfInBounds_toArray, List.set_cons_zero, List.set_cons_succ]
              refine take_at 7 117 (v := ?_) rfl rfl (by kernel_rfl) (by kernel_rfl) (by kernel_rfl) (fun _ _ _ h => h) (Or.inl ⟨by rfl, ?_⟩) hHeld ?_
              rotate_left
              · (intro w hSw; (try dsimp only at hSw); go_simp; try with_reducible rfl)
              try simp only [List.setIfInBounds_toArray, List.set_cons_zero, List.set_cons_succ]
              refine take_at 8 118 (v := ?_) rfl rfl (by kernel_rfl) (by kernel_rfl) (by kernel_rfl) (fun _ _ _ h => h) (Or.inl ⟨by rfl, ?_⟩) hHeld ?_
              rotate_left
              · (intro w hSw; (try dsimp only at hSw); go_simp; try with_reducible rfl)
              try simp only [List.setIfInBounds_toArray, List.set_cons_zero, List.set_cons_succ]
              refine take_at 9 119 (v := ?_) rfl rfl (by kernel_rfl) (by kernel_rfl) (by kernel_rfl) (fun _ _ _ h => h) (Or.inl ⟨by rfl, ?_⟩) hHeld ?_
              rotate_left
              · (intro w hSw; (try dsimp only at hSw); go_simp; try with_reducible rfl)
              try simp only [List.setIfInBounds_toArray, List.set_cons_zero, List.set_cons_succ]
              refine take_at 11 121 (v := ?_) rfl rfl (by kernel_rfl) (by kernel_rfl) (by kernel_rfl) (fun _ _ _ h => h) (Or.inl ⟨by rfl, ?_⟩) hHeld ?_
              rotate_left
              · (intro w hSw; (try dsimp only at hSw); go_simp; try with_reducible rfl)
              try simp only [List.setIfInBounds_toArray, List.set_cons_zero, List.set_cons_succ]
              refine only_at 10 120 (by kernel_rfl) rfl rfl (by rfl) (fun K hK => ?_)
              go_simp
              refine (HUsd.out _ hS0).mono ?_
              rintro e W1 ⟨rfl, rfl⟩
              refine hK.out _ _ (hS0) (fun hHeld2 => ?_)
              clear hK K hHeld
              have hHeld := hHeld2
              clear hHeld2
              try simp only [Act.put, List.setIfInBounds_toArray, List.set_cons_zero, List.set_cons_succ]
              refine only_at 12 122 (by kernel_rfl) rfl rfl (by rfl) (fun K hK => ?_)
              go_simp
              refine (HUsr.out _ hS0).mono ?_
              rintro e W1 ⟨rfl, hb1⟩
              have hS1 : Below wE.heap.size wE W1 := hS0.trans (hb1.mono hS0.size)
              refine hK.out _ _ (hS1) (fun hHeld2 => ?_)
              clear hK K hHeld
              have hHeld := hHeld2
              clear hHeld2
              try simp only [Act.put, List.setIfInBounds_toArray, List.set_cons_zero, List.set_cons_succ]
              refine take_at 13 123 (v := ?_) rfl rfl (by kernel_rfl) (by kernel_rfl) (by kernel_rfl) (fun _ _ _ h => h) (Or.inl ⟨by rfl, ?_⟩) hHeld ?_
              rotate_left
              · (intro w hSw; (try dsimp only at hSw); go_simp; try with_reducible rfl)
              try simp only [List.setIfInBounds_toArray, List.set_cons_zero, List.set_cons_succ]
              refine take_at 14 124 (v := ?_) rfl rfl (by kernel_rfl) (by kernel_rfl) (by kernel_rfl) (fun _ _ _ h => h) (Or.inl ⟨by rfl, ?_⟩) hHeld ?_
              rotate_left
              · (intro w hSw; (try dsimp only at hSw); go_simp; try with_reducible rfl)
              try simp only [List.setIfInBounds_toArray, List.set_cons_zero, List.set_cons_succ]
              refine wpAnyH_done (by kernel_rfl) ?_ _
              refine NoPanic.normal ?_
              have hRelE := Lib.hid (HStay.out _ hS1)
              go_wp2_with fail
              go_roundw
              case rel => exact ⟨j + 1, by go_num, by omega, hRelE⟩
              case measure => simp [intOf]; omega
        · have b0 : ((K3 : Int) == 0) = false := by rw [beq_eq_false_iff_ne]; omega
          by_cases h1 : K3 = 1
          · have b1 : ((K3 : Int) == 1) = true := by rw [h1]; rfl
            clear h0 h1
            have HGt := Lib.hid (get_any w2.heap.size g bm rb room its wA HOw.out HB.out.size xf xb (fun x hx => by have := HTw.out.short HOk.out x hx; omega))
            clear p3
            go_wp2_with fail
            refine HGt.out.mono ?_
            clear HGt
            rintro e wP ⟨hgn, hgy⟩
            by_cases hex : ∃ i, i < its.length ∧ (its.getD i default).file = xf ∧ (its.getD i default).blk = xb
            · obtain ⟨i, hi, hif, hib⟩ := hex
              obtain ⟨ka, kkc, rfl, hrow, hOP, hBP, hKP⟩ := hgy i hi hif hib
              have hmem := getD_mem hi
              obtain ⟨e1, e2, e3⟩ := HTw.out.get hi
              have hk20b := HTw.out.short HOk.out _ hmem
              have hmv := HTw.out.move hi
              have HLt : Hid (∀ x ∈ its.eraseIdx i ++ [its.getD i default], 0 < x.keys.length → ∀ p, x.a = some p → p.block < wA.heap.size) := fun x hx => HOw.out.keysLt x (by
                rcases List.mem_append.1 hx with hx | hx
                · exact List.mem_of_mem_eraseIdx hx
                · simp only [List.mem_cons, List.not_mem_nil, or_false] at hx
                  subst hx; exact hmem)
              have HNm := Lib.hid HOw.out.1.names
              have HBP := Lib.hid (HB.out.trans hBP)
              have HRP := Lib.hid (HRf.out.keepT hKP)
              have HGr := Lib.hid (getref_any w2.heap.size r room _ itr wP HBP.out.size HRP.out (by omega) xf xb)
              have hXP := hKP gx _ 30 (by decide) (by decide) HX0.out
              have p1 := heap_cell hXP 1
              have p2 := heap_cell hXP 2
              simp at p1 p2
              have HOP := Lib.hid hOP
              have HKk := Lib.hid e3
              have HMv := Lib.hid hmv
              have HRow0 := Lib.hid hrow
              have HI : Hid (i < its.length ∧ (its.getD i default).file = xf ∧ (its.getD i default).blk = xb ∧ (itr.getD i default).file = xf ∧ (itr.getD i default).blk = xb) := ⟨hi, hif, hib, e1.symm.trans hif, e2.symm.trans hib⟩
              generalize hkk : (its.getD i default).keys = kk at *
              have HKE := Lib.hid hkk
              clear hkk
              clear hgn hgy hrow hOP hBP hKP hXP hmem e1 e2 e3 hif hib hmv p0
              go_wp2_with fail
              refine HGr.out.mono ?_
              clear HGr
              rintro e wR ⟨hBR, hKR, hcase⟩
              have hcase2 : ∃ v', e = .returned (.tuple #[.slice (itr.getD i default).a kk.length (itr.getD i default).kc, .bool true]) ∧ RefAt w2.heap.size wR r room v' (itr.eraseIdx i ++ [itr.getD i default]) := by
                rcases hcase with ⟨i2, v', h1, h2, h3, h4, h5⟩ | ⟨hno, _, _⟩
                · have h1' : i2 < its.length := by rw [HTw.out.len]; exact h1
                  obtain ⟨f1, f2, _⟩ := HTw.out.get h1'
                  obtain rfl : i = i2 := HNm.out i i2 HI.out.1 h1' (HI.out.2.1.trans (f1.trans h2).symm) (HI.out.2.2.1.trans (f2.trans h3).symm)
                  exact ⟨v', by rw [h4, HKk.out], h5⟩
                · exact absurd ⟨HI.out.2.2.2.1, HI.out.2.2.2.2⟩ (hno i (by rw [← HTw.out.len]; exact HI.out.1))
              clear hcase
              obtain ⟨v', rfl, hRR⟩ := hcase2
              have hokI := HOk.out _ (getD_mem (its := itr) (i := i) (by rw [← HTw.out.len]; exact HI.out.1))
              rw [← HKk.out] at hokI
              have hBPR := HBP.out.trans hBR
              have HSm := Lib.hid (same_at ka (itr.getD i default).a kkc (itr.getD i default).kc _ _ kk kk wR rfl rfl (by omega) (by omega) ((row_keys HRow0.out).same (fun k cs hc => (hKR k _ hc (fun cs' => ⟨(fun e => by cases e), (fun e => by cases e)⟩)).trans hc.symm)).strs (hokI.2.2.2.below hBPR) rfl)
              obtain ⟨obx, hobx⟩ : ∃ obx, obx = blkOf ka := ⟨_, rfl⟩
              have HStR : Hid (PlayX g bm rb r room w2 (j + 1) wR kk.length obx) := by
                refine ⟨_, _, v', (show OwnC w2.heap.size wR g bm rb room (total (its.eraseIdx i ++ [its.getD i default]) : Int) _ from by rw [total_move its i hi]; exact HOP.out.keepR hKR), hRR, HMv.out, HOk.out.sub (fun x hx => ?_), hBPR, ?_, ?_, fun h0 => ?_⟩
                · rcases List.mem_append.1 hx with hx | hx
                  · exact List.mem_of_mem_eraseIdx hx
                  · simp only [List.mem_cons, List.not_mem_nil, or_false] at hx
                    subst hx; exact getD_mem (by rw [← HTw.out.len]; exact HI.out.1)
                · rw [List.length_append, erase_len _ _ (by rw [← HTw.out.len]; exact HI.out.1), List.length_singleton]; omega
                · rw [total_move itr i (by rw [← HTw.out.len]; exact HI.out.1)]; omega
                · obtain ⟨ob, cs, rfl, h1, h2, _⟩ := row9 HRow0.out h0
                  obtain rfl : obx = ob := hobx
                  refine ⟨Nat.le_trans HB.out.size h1, fun x hx hk p hp => ?_⟩
                  have := HLt.out x hx hk p hp
                  omega
              have HRowR : Hid (0 < kk.length → ∃ csb, ka = some ⟨obx, 0, none⟩ ∧ wR.heap[obx]? = some (.cells csb 9 (0, 0)) ∧ kk.length ≤ csb.size) := fun h0 => by
                obtain ⟨ob, cs, rfl, h1, h2, h3, _⟩ := row9 HRow0.out h0
                obtain rfl : obx = ob := hobx
                exact ⟨cs, rfl, hKR obx _ h2 (fun cs' => ⟨(fun e => by cases e), (fun e => by cases e)⟩), h3⟩
              generalize (itr.getD i default).a = ra at *
              generalize (itr.getD i default).kc = rkc at *
              clear hBR hKR hRR hokI hBPR hobx HLt HNm HBP HRP HOP HKk HMv HRow0 HI HKE HOw HRf HX0 HTw HOk HStr2 p1 p2 hlen' htot' hlen htot hi
              go_wp2_with fail
              refine HSm.out.mono ?_
              clear HSm
              rintro e wQ ⟨rfl, hbQ⟩
              have HStQ := Lib.hid (HStR.out.below hbQ)
              have HRow : Hid (0 < kk.length → ∃ csb, ka = some ⟨obx, 0, none⟩ ∧ wQ.heap[obx]? = some (.cells csb 9 (0, 0)) ∧ kk.length ≤ csb.size) := fun h0 => by
                obtain ⟨csb, h1, h2, h3⟩ := HRowR.out h0
                exact ⟨csb, h1, (hbQ.block obx (heap_lt h2)).trans h2, h3⟩
              clear hbQ HStR HRowR
              have HT0 : Hid (Turn9 obx wQ wQ) := Turn9.refl _ _
              go_wp2_with fail
              go_loopw [103] (fun i wx => ∃ m : Nat, i = .int .i64 m ∧ m ≤ kk.length ∧ Hid (Turn9 obx wQ wx) ∧ Hid (kk.length = 0 → wx = wQ)) (fun i _ => kk.length - (intOf i).toNat)
              case atStart => exact ⟨0, rfl, Nat.zero_le _, HT0, fun _ => rfl⟩
              case round =>
                clear HT0
                obtain ⟨m, rfl, hm, HT, HZ⟩ := hrel
                by_cases hmk : m < kk.length
                · have dm : decide ((m : Int) < (kk.length : Int)) = true := decide_eq_true (by omega)
                  have hij2 : (m : Int) < (kk.length : Int) := by omega
                  obtain ⟨csb, hoa, hcsb, hcz⟩ := HRow.out (by omega)
                  subst hoa
                  obtain ⟨csx, hcx, hzx⟩ := HT.out.2.2.2.2.2 csb hcsb
                  have hfz := frozen_of_row wr obx m _ _ hcx
                  have hce : ∃ y, wr.cell? ⟨obx, m, none⟩ = some y := ⟨csx[m]'(by omega), by rw [heap_cell hcx]; exact Array.getElem?_eq_getElem _⟩
                  obtain ⟨y, hce⟩ := hce
                  have HTn := Lib.hid (HT.out.set m (.string { data := #[33] }))
                  clear hcx hcsb
                  go_wp2_with fail
                  go_roundw
                  case rel => exact ⟨m + 1, by go_num, by omega, HTn, fun h0 => absurd h0 (by omega)⟩
                  case measure => simp [intOf]; omega
                · obtain rfl : m = kk.length := by omega
                  have dm : decide ((kk.length : Int) < (kk.length : Int)) = false := by simp
                  obtain ⟨wE, hwE⟩ : ∃ wE, wE = wr := ⟨_, rfl⟩
                  have HPE : Hid (PlayRel g bm rb r room w2 (j + 1) wE) := by
                    show PlayRel g bm rb r room w2 (j + 1) wE
                    rw [hwE]
                    by_cases h0 : kk.length = 0
                    · rw [HZ.out h0]; exact HStQ.out.rel
                    · obtain ⟨csb, _, hcsb, _⟩ := HRow.out (by omega)
                      obtain ⟨itsQ, itrQ, vQ, a1, a2, a3, a4, a5, a6, a7, a8⟩ := HStQ.out
                      exact play_turn a1 a2 a3 a4 a5 a6 a7 HT.out hcsb (a8 (by omega)).1 (a8 (by omega)).2
                  rw [← hwE]
                  clear hwE HT HZ HStQ HRow
                  obtain ⟨itsE, itrE, vE, hownE, hrefE, htwE, hokE, hBE, hlenE, htotE⟩ := HPE.out
                  obtain ⟨va, vc, rfl⟩ := hrefE.2.2.slice
                  have HLen := Lib.hid (fun W (hW : Below wE.heap.size wE W) => len_any g bm rb room (total itsE : Int) itsE W (hownE.1.below hW))
                  have HUsd := Lib.hid (fun W (hW : Below wE.heap.size wE W) => used_any g bm rb room (total itsE : Int) itsE W (hownE.1.below hW))
                  have HUsr := Lib.hid (fun W (hW : Below wE.heap.size wE W) => usedref_any w2.heap.size r room _ itrE W (hrefE.below hW) (hokE.below (hBE.trans (hW.mono hBE.size))) (by omega) (by omega))
                  rw [htwE.len] at HLen
                  rw [htwE.total] at HUsd
                  have HPr := Lib.hid (row42 hrefE.2.1).2
                  have HBlk := Lib.hid hrefE.2.1
                  have hrl := heap_lt hrefE.2.1
                  have HBE := Lib.hid hBE
                  have HStay := Lib.hid (fun W (hW : Below wE.heap.size wE W) => (⟨itsE, itrE, _, ⟨hownE.1.below hW, hownE.2⟩, hrefE.below hW, htwE, hokE, hBE.trans (hW.mono hBE.size), hlenE, htotE⟩ : PlayRel g bm rb r room w2 (j + 1) W))
                  clear hownE hrefE htwE hokE hBE hlenE htotE HPE
                  generalize itrE.length = nE at *
                  generalize total itrE = tE at *
                  have bn : ((nE : Int) != (nE : Int)) = false := by simp
                  have bt : ((tE : Int) != (tE : Int)) = false := by simp
                  have hp0 := HPr.out
                  have hS0 : Below wE.heap.size wE wE.drew := (Below.refl _ _).drew
                  have hl0 : ∀ w', Below wE.heap.size wE w' → w'.cell? ⟨r, 1, none⟩ = some (.slice va nE vc) := fun w' hw => heap_cell ((hw.block _ hrl).trans HBlk.out) 1
                  go_wp2_with fail
                  try refine wp_region_noPanic ?_
                  refine wp_region_held_drew (S := fun w' => Below wE.heap.size wE w') (by kernel_rfl) (Below.refl _ _).drew (fun hHeld => ?_)
                  refine take_at 0 110 (v := ?_) rfl rfl (by kernel_rfl) (by kernel_rfl) (by kernel_rfl) (fun _ _ _ h => h) (Or.inl ⟨by rfl, ?_⟩) hHeld ?_
                  rotate_left
                  · (intro w hSw; (try dsimp only at hSw); go_simp; try with_reducible rfl)
                  try simp only [List.setIfInBounds_toArray, List.set_cons_zero, List.set_cons_succ]
                  refine take_at 2 112 (v := ?_) rfl rfl (by kernel_rfl) (by kernel_rfl) (by kernel_rfl) (fun _ _ _ h => h) (Or.inl ⟨by rfl, ?_⟩) hHeld ?_
                  rotate_left
                  · (intro w hSw; (try dsimp only at hSw); go_simp; try with_reducible rfl)
                  try simp only [List.setIfInBounds_toArray, List.set_cons_zero, List.set_cons_succ]
                  refine take_at 3 113 (v := ?_) rfl rfl (by kernel_rfl) (by kernel_rfl) (by kernel_rfl) (fun _ _ _ h => h) (Or.inl ⟨by rfl, ?_⟩) hHeld ?_
                  rotate_left
                  · (intro w hSw; (try dsimp only at hSw); go_simp; try with_reducible rfl)
                  try simp only [List.setIfInBounds_toArray, List.set_cons_zero, List.set_cons_succ]
                  refine take_at 4 114 (v := ?_) rfl rfl (by kernel_rfl) (by kernel_rfl) (by kernel_rfl) (fun _ _ _ h => h) (Or.inl ⟨by rfl, ?_⟩) hHeld ?_
                  rotate_left
                  · (intro w hSw; (try dsimp only at hSw); go_simp; try with_reducible rfl)
                  try simp only [List.setIfInBounds_toArray, List.set_cons_zero, List.set_cons_succ]
                  refine take_at 5 115 (v := ?_) rfl rfl (by kernel_rfl) (by kernel_rfl) (by kernel_rfl) (fun _ _ _ h => h) (Or.inl ⟨by rfl, ?_⟩) hHeld ?_
                  rotate_left
                  · (intro w hSw; (try dsimp only at hSw); go_simp; try with_reducible rfl)
                  try simp only [List.setIfInBounds_toArray, List.set_cons_zero, List.set_cons_succ]
                  refine take_at 6 116 (v := ?_) rfl rfl (by kernel_rfl) (by kernel_rfl) (by kernel_rfl) (fun _ _ _ h => h) (Or.inl ⟨by rfl, ?_⟩) hHeld ?_
                  rotate_left
                  · (intro w hSw; (try dsimp only at hSw); go_simp; try with_reducible rfl)
                  try simp only [List.setIfInBounds_toArray, List.set_cons_zero, List.set_cons_succ]
                  refine only_at 1 111 (by kernel_rfl) rfl rfl (by rfl) (fun K hK => ?_)
                  go_simp
                  refine (HLen.out _ hS0).mono ?_
                  rintro e W1 ⟨rfl, rfl⟩
                  refine hK.out _ _ (hS0) (fun hHeld2 => ?_)
                  clear hK K hHeld
                  have hHeld := hHeld2
                  clear hHeld2
                  try simp only [Act.put, List.setIfInBounds_toArray, List.set_cons_zero, List.set_cons_succ]
                  refine take_at 7 117 (v := ?_) rfl rfl (by kernel_rfl) (by kernel_rfl) (by kernel_rfl) (fun _ _ _ h => h) (Or.inl ⟨by rfl, ?_⟩) hHeld ?_
                  rotate_left
                  · (intro w hSw; (try dsimp only at hSw); go_simp; try with_reducible rfl)
                  try simp only [List.setIfInBounds_toArray, List.set_cons_zero, List.set_cons_succ]
                  refine take_at 8 118 (v := ?_) rfl rfl (by kernel_rfl) (by kernel_rfl) (by kernel_rfl) (fun _ _ _ h => h) (Or.inl ⟨by rfl, ?_⟩) hHeld ?_
                  rotate_left
                  · (intro w hSw; (try dsimp only at hSw); go_simp; try with_reducible rfl)
                  try simp only [List.setIfInBounds_toArray, List.set_cons_zero, List.set_cons_succ]
                  refine take_at 9 119 (v := ?_) rfl rfl (by kernel_rfl) (by kernel_rfl) (by kernel_rfl) (fun _ _ _ h => h) (Or.inl ⟨by rfl, ?_⟩) hHeld ?_
                  rotate_left
                  · (intro w hSw; (try dsimp only at hSw); go_simp; try with_reducible rfl)
                  try simp only [List.setIfInBounds_toArray, List.set_cons_zero, List.set_cons_succ]
                  refine take_at 11 121 (v := ?_) rfl rfl (by kernel_rfl) (by kernel_rfl) (by kernel_rfl) (fun _ _ _ h => h) (Or.inl ⟨by rfl, ?_⟩) hHeld ?_
                  rotate_left
                  · (intro w hSw; (try dsimp only at hSw); go_simp; try with_reducible rfl)
                  try simp only [List.setIfInBounds_toArray, List.set_cons_zero, List.set_cons_succ]
                  refine only_at 10 120 (by kernel_rfl) rfl rfl (by rfl) (fun K hK => ?_)
                  go_simp
                  refine (HUsd.out _ hS0).mono ?_
                  rintro e W1 ⟨rfl, rfl⟩
                  refine hK.out _ _ (hS0) (fun hHeld2 => ?_)
                  clear hK K hHeld
                  have hHeld := hHeld2
                  clear hHeld2
                  try simp only [Act.put, List.setIfInBounds_toArray, List.set_cons_zero, List.set_cons_succ]
                  refine only_at 12 122 (by kernel_rfl) rfl rfl (by rfl) (fun K hK => ?_)
                  go_simp
                  refine (HUsr.out _ hS0).mono ?_
                  rintro e W1 ⟨rfl, hb1⟩
                  have hS1 : Below wE.heap.size wE W1 := hS0.trans (hb1.mono hS0.size)
                  refine hK.out _ _ (hS1) (fun hHeld2 => ?_)
                  clear hK K hHeld
                  have hHeld := hHeld2
                  clear hHeld2
                  try simp only [Act.put, List.setIfInBounds_toArray, List.set_cons_zero, List.set_cons_succ]
                  refine take_at 13 123 (v := ?_) rfl rfl (by kernel_rfl) (by kernel_rfl) (by kernel_rfl) (fun _ _ _ h => h) (Or.inl ⟨by rfl, ?_⟩) hHeld ?_
                  rotate_left
                  · (intro w hSw; (try dsimp only at hSw); go_simp; try with_reducible rfl)
                  try simp only [List.setIfInBounds_toArray, List.set_cons_zero, List.set_cons_succ]
                  refine take_at 14 124 (v := ?_) rfl rfl (by kernel_rfl) (by kernel_rfl) (by kernel_rfl) (fun _ _ _ h => h) (Or.inl ⟨by rfl, ?_⟩) hHeld ?_
                  rotate_left
                  · (intro w hSw; (try dsimp only at hSw); go_simp; try with_reducible rfl)
                  try simp only [List.setIfInBounds_toArray, List.set_cons_zero, List.set_cons_succ]
                  refine wpAnyH_done (by kernel_rfl) ?_ _
                  refine NoPanic.normal ?_
                  have hRelE := Lib.hid (HStay.out _ hS1)
                  go_wp2_with fail
                  go_roundw
                  case rel => exact ⟨j + 1, by go_num, by omega, hRelE⟩
                  case measure => simp [intOf]; omega
            · obtain ⟨rfl, hOP, hBP⟩ := hgn (fun i hi hc => hex ⟨i, hi, hc.1, hc.2⟩)
              have HNo : Hid (∀ i, i < itr.length → ¬ ((itr.getD i default).file = xf ∧ (itr.getD i default).blk = xb)) := fun i hi hc => by
                have hi' : i < its.length := by rw [HTw.out.len]; exact hi
                obtain ⟨e1, e2, _⟩ := HTw.out.get hi'
                exact hex ⟨i, hi', e1.trans hc.1, e2.trans hc.2⟩
              have HBP := Lib.hid (HB.out.trans (hBP.mono HB.out.size))
              have HRP := Lib.hid (HRf.out.below hBP)
              have HGr := Lib.hid (getref_any w2.heap.size r room _ itr wP HBP.out.size HRP.out (by omega) xf xb)
              have hXP := (hBP.block gx (heap_lt HX0.out)).trans HX0.out
              have p1 := heap_cell hXP 1
              have p2 := heap_cell hXP 2
              simp at p1 p2
              have HOP := Lib.hid hOP
              clear hgn hgy hOP hBP hXP hex p0
              go_wp2_with fail
              refine HGr.out.mono ?_
              clear HGr
              rintro e wR ⟨hBR, hKR, hcase⟩
              have hcase2 : e = .returned (.tuple #[.slice none 0 0, .bool false]) ∧ RefAt w2.heap.size wR r room v itr := by
                rcases hcase with ⟨i2, v', h1, h2, h3, h4, h5⟩ | ⟨_, h4, h5⟩
                · exact absurd ⟨h2, h3⟩ (HNo.out i2 h1)
                · exact ⟨h4, h5⟩
              clear hcase
              obtain ⟨rfl, hRR⟩ := hcase2
              have HSm := Lib.hid (same_at none none 0 0 0 0 [] [] wR rfl rfl (by omega) (by omega) (fun h => absurd h (by simp)) (fun h => absurd h (by simp)) rfl)
              have HStR : Hid (PlayX g bm rb r room w2 (j + 1) wR 0 0) := ⟨its, itr, v, HOP.out.keepR hKR, hRR, HTw.out, HOk.out, HBP.out.trans hBR, by omega, by omega, fun h => absurd h (by omega)⟩
              clear hBR hKR hRR HNo HBP HRP HOP HOw HRf HX0 HTw HOk HStr2 p1 p2 hlen' htot' hlen htot
              go_wp2_with fail
              refine HSm.out.mono ?_
              clear HSm
              rintro e wQ ⟨rfl, hbQ⟩
              have HStQ := Lib.hid (HStR.out.below hbQ)
              clear hbQ HStR
              go_wp2_with fail
              go_loopw [103] (fun i wx => i = .int .i64 0 ∧ Hid (wx = wQ)) (fun _ _ => 0)
              case atStart => exact ⟨rfl, rfl⟩
              case round =>
                obtain ⟨rfl, HZ⟩ := hrel
                obtain ⟨wE, hwE⟩ : ∃ wE, wE = wr := ⟨_, rfl⟩
                have HPE : Hid (PlayRel g bm rb r room w2 (j + 1) wE) := by
                  show PlayRel g bm rb r room w2 (j + 1) wE
                  rw [hwE, HZ.out]; exact HStQ.out.rel
                rw [← hwE]
                clear hwE HZ HStQ
                obtain ⟨itsE, itrE, vE, hownE, hrefE, htwE, hokE, hBE, hlenE, htotE⟩ := HPE.out
                obtain ⟨va, vc, rfl⟩ := hrefE.2.2.slice
                have HLen := Lib.hid (fun W (hW : Below wE.heap.size wE W) => len_any g bm rb room (total itsE : Int) itsE W (hownE.1.below hW))
                have HUsd := Lib.hid (fun W (hW : Below wE.heap.size wE W) => used_any g bm rb room (total itsE : Int) itsE W (hownE.1.below hW))
                have HUsr := Lib.hid (fun W (hW : Below wE.heap.size wE W) => usedref_any w2.heap.size r room _ itrE W (hrefE.below hW) (hokE.below (hBE.trans (hW.mono hBE.size))) (by omega) (by omega))
                rw [htwE.len] at HLen
                rw [htwE.total] at HUsd
                have HPr := Lib.hid (row42 hrefE.2.1).2
                have HBlk := Lib.hid hrefE.2.1
                have hrl := heap_lt hrefE.2.1
                have HBE := Lib.hid hBE
                have HStay := Lib.hid (fun W (hW : Below wE.heap.size wE W) => (⟨itsE, itrE, _, ⟨hownE.1.below hW, hownE.2⟩, hrefE.below hW, htwE, hokE, hBE.trans (hW.mono hBE.size), hlenE, htotE⟩ : PlayRel g bm rb r room w2 (j + 1) W))
                clear hownE hrefE htwE hokE hBE hlenE htotE HPE
                generalize itrE.length = nE at *
                generalize total itrE = tE at *
                have bn : ((nE : Int) != (nE : Int)) = false := by simp
                have bt : ((tE : Int) != (tE : Int)) = false := by simp
                have hp0 := HPr.out
                have hS0 : Below wE.heap.size wE wE.drew := (Below.refl _ _).drew
                have hl0 : ∀ w', Below wE.heap.size wE w' → w'.cell? ⟨r, 1, none⟩ = some (.slice va nE vc) := fun w' hw => heap_cell ((hw.block _ hrl).trans HBlk.out) 1
                go_wp2_with fail
                try refine wp_region_noPanic ?_
                refine wp_region_held_drew (S := fun w' => Below wE.heap.size wE w') (by kernel_rfl) (Below.refl _ _).drew (fun hHeld => ?_)
                refine take_at 0 110 (v := ?_) rfl rfl (by kernel_rfl) (by kernel_rfl) (by kernel_rfl) (fun _ _ _ h => h) (Or.inl ⟨by rfl, ?_⟩) hHeld ?_
                rotate_left
                · (intro w hSw; (try dsimp only at hSw); go_simp; try with_reducible rfl)
                try simp only [List.setIfInBounds_toArray, List.set_cons_zero, List.set_cons_succ]
                refine take_at 2 112 (v := ?_) rfl rfl (by kernel_rfl) (by kernel_rfl) (by kernel_rfl) (fun _ _ _ h => h) (Or.inl ⟨by rfl, ?_⟩) hHeld ?_
                rotate_left
                · (intro w hSw; (try dsimp only at hSw); go_simp; try with_reducible rfl)
                try simp only [List.setIfInBounds_toArray, List.set_cons_zero, List.set_cons_succ]
                refine take_at 3 113 (v := ?_) rfl rfl (by kernel_rfl) (by kernel_rfl) (by kernel_rfl) (fun _ _ _ h => h) (Or.inl ⟨by rfl, ?_⟩) hHeld ?_
                rotate_left
                · (intro w hSw; (try dsimp only at hSw); go_simp; try with_reducible rfl)
                try simp only [List.setIfInBounds_toArray, List.set_cons_zero, List.set_cons_succ]
                refine take_at 4 114 (v := ?_) rfl rfl (by kernel_rfl) (by kernel_rfl) (by kernel_rfl) (fun _ _ _ h => h) (Or.inl ⟨by rfl, ?_⟩) hHeld ?_
                rotate_left
                · (intro w hSw; (try dsimp only at hSw); go_simp; try with_reducible rfl)
                try simp only [List.setIfInBounds_toArray, List.set_cons_zero, List.set_cons_succ]
                refine take_at 5 115 (v := ?_) rfl rfl (by kernel_rfl) (by kernel_rfl) (by kernel_rfl) (fun _ _ _ h => h) (Or.inl ⟨by rfl, ?_⟩) hHeld ?_
                rotate_left
                · (intro w hSw; (try dsimp only at hSw); go_simp; try with_reducible rfl)
                try simp only [List.setIfInBounds_toArray, List.set_cons_zero, List.set_cons_succ]
                refine take_at 6 116 (v := ?_) rfl rfl (by kernel_rfl) (by kernel_rfl) (by kernel_rfl) (fun _ _ _ h => h) (Or.inl ⟨by rfl, ?_⟩) hHeld ?_
                rotate_left
                · (intro w hSw; (try dsimp only at hSw); go_simp; try with_reducible rfl)
                try simp only [List.setIfInBounds_toArray, List.set_cons_zero, List.set_cons_succ]
                refine only_at 1 111 (by kernel_rfl) rfl rfl (by rfl) (fun K hK => ?_)
                go_simp
                refine (HLen.out _ hS0).mono ?_
                rintro e W1 ⟨rfl, rfl⟩
                refine hK.out _ _ (hS0) (fun hHeld2 => ?_)
                clear hK K hHeld
                have hHeld := hHeld2
                clear hHeld2
                try simp only [Act.put, List.setIfInBounds_toArray, List.set_cons_zero, List.set_cons_succ]
                refine take_at 7 117 (v := ?_) rfl rfl (by kernel_rfl) (by kernel_rfl) (by kernel_rfl) (fun _ _ _ h => h) (Or.inl ⟨by rfl, ?_⟩) hHeld ?_
                rotate_left
                · (intro w hSw; (try dsimp only at hSw); go_simp; try with_reducible rfl)
                try simp only [List.setIfInBounds_toArray, List.set_cons_zero, List.set_cons_succ]
                refine take_at 8 118 (v := ?_) rfl rfl (by kernel_rfl) (by kernel_rfl) (by kernel_rfl) (fun _ _ _ h => h) (Or.inl ⟨by rfl, ?_⟩) hHeld ?_
                rotate_left
                · (intro w hSw; (try dsimp only at hSw); go_simp; try with_reducible rfl)
                try simp only [List.setIfInBounds_toArray, List.set_cons_zero, List.set_cons_succ]
                refine take_at 9 119 (v := ?_) rfl rfl (by kernel_rfl) (by kernel_rfl) (by kernel_rfl) (fun _ _ _ h => h) (Or.inl ⟨by rfl, ?_⟩) hHeld ?_
                rotate_left
                · (intro w hSw; (try dsimp only at hSw); go_simp; try with_reducible rfl)
                try simp only [List.setIfInBounds_toArray, List.set_cons_zero, List.set_cons_succ]
                refine take_at 11 121 (v := ?_) rfl rfl (by kernel_rfl) (by kernel_rfl) (by kernel_rfl) (fun _ _ _ h => h) (Or.inl ⟨by rfl, ?_⟩) hHeld ?_
                rotate_left
                · (intro w hSw; (try dsimp only at hSw); go_simp; try with_reducible rfl)
                try simp only [List.setIfInBounds_toArray, List.set_cons_zero, List.set_cons_succ]
                refine only_at 10 120 (by kernel_rfl) rfl rfl (by rfl) (fun K hK => ?_)
                go_simp
                refine (HUsd.out _ hS0).mono ?_
                rintro e W1 ⟨rfl, rfl⟩
                refine hK.out _ _ (hS0) (fun hHeld2 => ?_)
                clear hK K hHeld
                have hHeld := hHeld2
                clear hHeld2
                try simp only [Act.put, List.setIfInBounds_toArray, List.set_cons_zero, List.set_cons_succ]
                refine only_at 12 122 (by kernel_rfl) rfl rfl (by rfl) (fun K hK => ?_)
                go_simp
                refine (HUsr.out _ hS0).mono ?_
                rintro e W1 ⟨rfl, hb1⟩
                have hS1 : Below wE.heap.size wE W1 := hS0.trans (hb1.mono hS0.size)
                refine hK.out _ _ (hS1) (fun hHeld2 => ?_)
                clear hK K hHeld
                have hHeld := hHeld2
                clear hHeld2
                try simp only [Act.put, List.setIfInBounds_toArray, List.set_cons_zero, List.set_cons_succ]
                refine take_at 13 123 (v := ?_) rfl rfl (by kernel_rfl) (by kernel_rfl) (by kernel_rfl) (fun _ _ _ h => h) (Or.inl ⟨by rfl, ?_⟩) hHeld ?_
                rotate_left
                · (intro w hSw; (try dsimp only at hSw); go_simp; try with_reducible rfl)
                try simp only [List.setIfInBounds_toArray, List.set_cons_zero, List.set_cons_succ]
                refine take_at 14 124 (v := ?_) rfl rfl (by kernel_rfl) (by kernel_rfl) (by kernel_rfl) (fun _ _ _ h => h) (Or.inl ⟨by rfl, ?_⟩) hHeld ?_
                rotate_left
                · (intro w hSw; (try dsimp only at hSw); go_simp; try with_reducible rfl)
                try simp only [List.setIfInBounds_toArray, List.set_cons_zero, List.set_cons_succ]
                refine wpAnyH_done (by kernel_rfl) ?_ _
                refine NoPanic.normal ?_
                have hRelE := Lib.hid (HStay.out _ hS1)
                go_wp2_with fail
                go_roundw
                case rel => exact ⟨j + 1, by go_num, by omega, hRelE⟩
                case measure => simp [intOf]; omega
          · have b1 : ((K3 : Int) == 1) = false := by rw [beq_eq_false_iff_ne]; omega
            clear h0 h1
            have HD := Lib.hid (drop_any w2.heap.size g bm rb room its wA HOw.out HB.out.size xf (by omega) (by omega))
            clear p2 p3
            go_wp2_with fail
            refine HD.out.mono ?_
            clear HD
            rintro e wP ⟨rfl, hOP, hBP, hKP⟩
            have HBP := Lib.hid (HB.out.trans hBP)
            have HRP := Lib.hid (HRf.out.keepT hKP)
            have HDr := Lib.hid (dropref_any w2.heap.size r room _ itr wP HBP.out.size HRP.out (by omega) xf)
            have hXP := hKP gx _ 30 (by decide) (by decide) HX0.out
            have p1 := heap_cell hXP 1
            simp at p1
            have HOP := Lib.hid hOP
            clear hOP hBP hKP hXP HOw HRf HX0 HStr2 p0
            go_wp2_with fail
            refine HDr.out.mono ?_
            clear HDr
            rintro e wE ⟨rfl, ⟨vN, hRN⟩, hBN, hKN⟩
            have HPE : Hid (PlayRel g bm rb r room w2 (j + 1) wE) := ⟨_, _, vN, HOP.out.keepR hKN, hRN, HTw.out.others xf, HOk.out.sub (fun x hx => (List.mem_filter.1 hx).1), HBP.out.trans hBN, by have := others_len xf itr; omega, by have := others_total xf itr; omega⟩
            clear hRN hBN hKN HOP HRP HBP HTw HOk p1 hlen' htot' hlen htot
            obtain ⟨itsE, itrE, vE, hownE, hrefE, htwE, hokE, hBE, hlenE, htotE⟩ := HPE.out
            obtain ⟨va, vc, rfl⟩ := hrefE.2.2.slice
            have HLen := Lib.hid (fun W (hW : Below wE.heap.size wE W) => len_any g bm rb room (total itsE : Int) itsE W (hownE.1.below hW))
            have HUsd := Lib.hid (fun W (hW : Below wE.heap.size wE W) => used_any g bm rb room (total itsE : Int) itsE W (hownE.1.below hW))
            have HUsr := Lib.hid (fun W (hW : Below wE.heap.size wE W) => usedref_any w2.heap.size r room _ itrE W (hrefE.below hW) (hokE.below (hBE.trans (hW.mono hBE.size))) (by omega) (by omega))
            rw [htwE.len] at HLen
            rw [htwE.total] at HUsd
            have HPr := Lib.hid (row42 hrefE.2.1).2
            have HBlk := Lib.hid hrefE.2.1
            have hrl := heap_lt hrefE.2.1
            have HBE := Lib.hid hBE
            have HStay := Lib.hid (fun W (hW : Below wE.heap.size wE W) => (⟨itsE, itrE, _, ⟨hownE.1.below hW, hownE.2⟩, hrefE.below hW, htwE, hokE, hBE.trans (hW.mono hBE.size), hlenE, htotE⟩ : PlayRel g bm rb r room w2 (j + 1) W))
            clear hownE hrefE htwE hokE hBE hlenE htotE HPE
            generalize itrE.length = nE at *
            generalize total itrE = tE at *
            have bn : ((nE : Int) != (nE : Int)) = false := by simp
            have bt : ((tE : Int) != (tE : Int)) = false := by simp
            have hp0 := HPr.out
            have hS0 : Below wE.heap.size wE wE.drew := (Below.refl _ _).drew
            have hl0 : ∀ w', Below wE.heap.size wE w' → w'.cell? ⟨r, 1, none⟩ = some (.slice va nE vc) := fun w' hw => heap_cell ((hw.block _ hrl).trans HBlk.out) 1
            go_wp2_with fail
            try refine wp_region_noPanic ?_
            refine wp_region_held_drew (S := fun w' => Below wE.heap.size wE w') (by kernel_rfl) (Below.refl _ _).drew (fun hHeld => ?_)
            refine take_at 0 110 (v := ?_) rfl rfl (by kernel_rfl) (by kernel_rfl) (by kernel_rfl) (fun _ _ _ h => h) (Or.inl ⟨by rfl, ?_⟩) hHeld ?_
            rotate_left
            · (intro w hSw; (try dsimp only at hSw); go_simp; try with_reducible rfl)
            try simp only [List.setIfInBounds_toArray, List.set_cons_zero, List.set_cons_succ]
            refine take_at 2 112 (v := ?_) rfl rfl (by kernel_rfl) (by kernel_rfl) (by kernel_rfl) (fun _ _ _ h => h) (Or.inl ⟨by rfl, ?_⟩) hHeld ?_
            rotate_left
            · (intro w hSw; (try dsimp only at hSw); go_simp; try with_reducible rfl)
            try simp only [List.setIfInBounds_toArray, List.set_cons_zero, List.set_cons_succ]
            refine take_at 3 113 (v := ?_) rfl rfl (by kernel_rfl) (by kernel_rfl) (by kernel_rfl) (fun _ _ _ h => h) (Or.inl ⟨by rfl, ?_⟩) hHeld ?_
            rotate_left
            · (intro w hSw; (try dsimp only at hSw); go_simp; try with_reducible rfl)
            try simp only [List.setIfInBounds_toArray, List.set_cons_zero, List.set_cons_succ]
            refine take_at 4 114 (v := ?_) rfl rfl (by kernel_rfl) (by kernel_rfl) (by kernel_rfl) (fun _ _ _ h => h) (Or.inl ⟨by rfl, ?_⟩) hHeld ?_
            rotate_left
            · (intro w hSw; (try dsimp only at hSw); go_simp; try with_reducible rfl)
            try simp only [List.setIfInBounds_toArray, List.set_cons_zero, List.set_cons_succ]
            refine take_at 5 115 (v := ?_) rfl rfl (by kernel_rfl) (by kernel_rfl) (by kernel_rfl) (fun _ _ _ h => h) (Or.inl ⟨by rfl, ?_⟩) hHeld ?_
            rotate_left
            · (intro w hSw; (try dsimp only at hSw); go_simp; try with_reducible rfl)
            try simp only [List.setIfInBounds_toArray, List.set_cons_zero, List.set_cons_succ]
            refine take_at 6 116 (v := ?_) rfl rfl (by kernel_rfl) (by kernel_rfl) (by kernel_rfl) (fun _ _ _ h => h) (Or.inl ⟨by rfl, ?_⟩) hHeld ?_
            rotate_left
            · (intro w hSw; (try dsimp only at hSw); go_simp; try with_reducible rfl)
            try simp only [List.setIfInBounds_toArray, List.set_cons_zero, List.set_cons_succ]
            refine only_at 1 111 (by kernel_rfl) rfl rfl (by rfl) (fun K hK => ?_)
            go_simp
            refine (HLen.out _ hS0).mono ?_
            rintro e W1 ⟨rfl, rfl⟩
            refine hK.out _ _ (hS0) (fun hHeld2 => ?_)
            clear hK K hHeld
            have hHeld := hHeld2
            clear hHeld2
            try simp only [Act.put, List.setIfInBounds_toArray, List.set_cons_zero, List.set_cons_succ]
            refine take_at 7 117 (v := ?_) rfl rfl (by kernel_rfl) (by kernel_rfl) (by kernel_rfl) (fun _ _ _ h => h) (Or.inl ⟨by rfl, ?_⟩) hHeld ?_
            rotate_left
            · (intro w hSw; (try dsimp only at hSw); go_simp; try with_reducible rfl)
            try simp only [List.setIfInBounds_toArray, List.set_cons_zero, List.set_cons_succ]
            refine take_at 8 118 (v := ?_) rfl rfl (by kernel_rfl) (by kernel_rfl) (by kernel_rfl) (fun _ _ _ h => h) (Or.inl ⟨by rfl, ?_⟩) hHeld ?_
            rotate_left
            · (intro w hSw; (try dsimp only at hSw); go_simp; try with_reducible rfl)
            try simp only [List.setIfInBounds_toArray, List.set_cons_zero, List.set_cons_succ]
            refine take_at 9 119 (v := ?_) rfl rfl (by kernel_rfl) (by kernel_rfl) (by kernel_rfl) (fun _ _ _ h => h) (Or.inl ⟨by rfl, ?_⟩) hHeld ?_
            rotate_left
            · (intro w hSw; (try dsimp only at hSw); go_simp; try with_reducible rfl)
            try simp only [List.setIfInBounds_toArray, List.set_cons_zero, List.set_cons_succ]
            refine take_at 11 121 (v := ?_) rfl rfl (by kernel_rfl) (by kernel_rfl) (by kernel_rfl) (fun _ _ _ h => h) (Or.inl ⟨by rfl, ?_⟩) hHeld ?_
            rotate_left
            · (intro w hSw; (try dsimp only at hSw); go_simp; try with_reducible rfl)
            try simp only [List.setIfInBounds_toArray, List.set_cons_zero, List.set_cons_succ]
            refine only_at 10 120 (by kernel_rfl) rfl rfl (by rfl) (fun K hK => ?_)
            go_simp
            refine (HUsd.out _ hS0).mono ?_
            rintro e W1 ⟨rfl, rfl⟩
            refine hK.out _ _ (hS0) (fun hHeld2 => ?_)
            clear hK K hHeld
            have hHeld := hHeld2
            clear hHeld2
            try simp only [Act.put, List.setIfInBounds_toArray, List.set_cons_zero, List.set_cons_succ]
            refine only_at 12 122 (by kernel_rfl) rfl rfl (by rfl) (fun K hK => ?_)
            go_simp
            refine (HUsr.out _ hS0).mono ?_
            rintro e W1 ⟨rfl, hb1⟩
            have hS1 : Below wE.heap.size wE W1 := hS0.trans (hb1.mono hS0.size)
            refine hK.out _ _ (hS1) (fun hHeld2 => ?_)
            clear hK K hHeld
            have hHeld := hHeld2
            clear hHeld2
            try simp only [Act.put, List.setIfInBounds_toArray, List.set_cons_zero, List.set_cons_succ]
            refine take_at 13 123 (v := ?_) rfl rfl (by kernel_rfl) (by kernel_rfl) (by kernel_rfl) (fun _ _ _ h => h) (Or.inl ⟨by rfl, ?_⟩) hHeld ?_
            rotate_left
            · (intro w hSw; (try dsimp only at hSw); go_simp; try with_reducible rfl)
            try simp only [List.setIfInBounds_toArray, List.set_cons_zero, List.set_cons_succ]
            refine take_at 14 124 (v := ?_) rfl rfl (by kernel_rfl) (by kernel_rfl) (by kernel_rfl) (fun _ _ _ h => h) (Or.inl ⟨by rfl, ?_⟩) hHeld ?_
            rotate_left
            · (intro w hSw; (try dsimp only at hSw); go_simp; try with_reducible rfl)
            try simp only [List.setIfInBounds_toArray, List.set_cons_zero, List.set_cons_succ]
            refine wpAnyH_done (by kernel_rfl) ?_ _
            refine NoPanic.normal ?_
            have hRelE := Lib.hid (HStay.out _ hS1)
            go_wp2_with fail
            go_roundw
            case rel => exact ⟨j + 1, by go_num, by omega, hRelE⟩
            case measure => simp [intOf]; omega
      · obtain rfl : j = l.length := by omega
        have dj : decide ((l.length : Int) < (l.length : Int)) = false := by simp
        have hBf := HB2.out.trans (hB.mono HB2.out.size)
        clear hown href htw hok hB
        go_wp2_with fail
        go_ret
        exact ⟨rfl, hBf⟩
end Go.Proofs.Ytacjbgmnoiimbac
