/- What a token tells, by the document, walked. -/
import Derived.Test.YtbamohcaamgalacWalkI
import Derived.Test.YtbamohcaamgalacPlaind
import Derived.Laws.RangeString
namespace Go.Proofs.Ytbamohcaamgalac
set_option linter.unusedVariables false
set_option linter.unusedSimpArgs false
open Go.RowKit

/-- the text of the signs -/
def SB : ByteArray := { data := #[97, 98, 99, 100, 101, 102, 103, 104, 105, 106, 107, 108, 109, 110, 111, 112, 113, 114, 115, 116, 117, 118, 119, 120, 121, 122, 50, 51, 52, 53, 54, 55] }
theorem SB_get : ∀ pos : Fin 32, SB[pos.val]'(pos.isLt) = sign pos.val ∧ (sign pos.val).toNat < 128 := by decide +kernel
theorem run_next_sign (w : World) (n pos : Nat) (h : pos < 32) (ty : TypeId) :
    (Instr.next (.pointer (some ⟨w.heap.size, 0, none⟩)) true ty).run Try.prog ((w.iter SB pos).drewN n) = .ok (.tuple #[.bool true, .int .i64 pos, .int .i32 (sign pos).toNat]) ((w.iter SB (pos + 1)).drewN n) := by
  have hg := SB_get ⟨pos, h⟩
  have := run_next_ascii (P := Try.prog) (w.drewN n) SB pos ty h (by rw [hg.1]; exact hg.2)
  rw [hg.1] at this
  exact this
theorem run_next_last (w : World) (n : Nat) (ty : TypeId) :
    (Instr.next (.pointer (some ⟨w.heap.size, 0, none⟩)) true ty).run Try.prog ((w.iter SB 32).drewN n) = .ok (.tuple #[.bool false]) ((w.iter SB 32).drewN n) :=
  run_next_end (P := Try.prog) (w.drewN n) SB 32 ty (by decide)
theorem run_sign_at (w : World) (V : Nat) (h : V < 32) : (Instr.index 9 (.string { data := #[97, 98, 99, 100, 101, 102, 103, 104, 105, 106, 107, 108, 109, 110, 111, 112, 113, 114, 115, 116, 117, 118, 119, 120, 121, 122, 50, 51, 52, 53, 54, 55] }) (.int .i64 (V : Int))).run Try.prog w = .ok (.int .u8 ((sign V).toNat : Int)) w := by
  have hs : (ByteArray.mk #[97, 98, 99, 100, 101, 102, 103, 104, 105, 106, 107, 108, 109, 110, 111, 112, 113, 114, 115, 116, 117, 118, 119, 120, 121, 122, 50, 51, 52, 53, 54, 55]).size = 32 := rfl
  have ha := signs_at V h
  rw [run_index_string _ _ _ _ _ Try.underlying9]
  generalize (ByteArray.mk #[97, 98, 99, 100, 101, 102, 103, 104, 105, 106, 107, 108, 109, 110, 111, 112, 113, 114, 115, 116, 117, 118, 119, 120, 121, 122, 50, 51, 52, 53, 54, 55]) = B at *
  rw [dif_pos ⟨by omega, by omega⟩]
  obtain ⟨_, hb⟩ := getElem?_eq_some_iff.1 ha
  simp only [Int.toNat_natCast, hb]
theorem bit_val (V n : Nat) : ((V : Int) / 2 ^ n).tmod 2 = ((V / 2 ^ n % 2 : Nat) : Int) ∧ ((V : Int) / 2 ^ n) % 2 = ((V / 2 ^ n % 2 : Nat) : Int) := by
  have e : (V : Int) / 2 ^ n = ((V / 2 ^ n : Nat) : Int) := by simp
  rw [e]; exact ⟨rfl, rfl⟩
theorem str_eq (a b : List UInt8) : ((ByteArray.mk a.toArray).toList == (ByteArray.mk b.toArray).toList) = decide (a = b) ∧ ((ByteArray.mk a.toArray).toList != (ByteArray.mk b.toArray).toList) = !(decide (a = b)) := by
  rw [ByteArray.toList_mk, ByteArray.toList_mk]
  have h : (a == b) = decide (a = b) := by
    rw [Bool.eq_iff_iff]; simp
  exact ⟨h, by rw [bne, h]⟩
theorem iterPos_at (w : World) (p n : Nat) : ((w.iter SB p).drewN n).iterPos w.heap.size = p := by
  have h := World.iter_heap w SB p
  have h2 : ((w.iter SB p).drewN n).heap[w.heap.size]? = some (.stringIter SB p) := h
  unfold World.iterPos
  rw [h2]
set_option maxRecDepth 100000 in
set_option maxHeartbeats 4000000 in
theorem refread_any (s : ByteArray) (w : World) (hs : s.size ≤ 9223372036854775807) :
    Calls Try.prog 11 #[.string s] w (ReadIs s.data.toList w) := by
  have hsl : s.data.toList.length = s.size := by simp
  by_cases h26 : s.size = 26
  · have H26 := Lib.hid h26
    have hb26 : ((s.size : Int) == 26) = true := by simp [h26]
    have hn26 : ((s.size : Int) != 26) = false := by simp [h26]
    obtain ⟨i0, hi, hz0, hz1, hz2⟩ := info_parts Try.info5
    have HSL := Lib.hid hsl
    obtain ⟨l, hl⟩ : ∃ l, l = s.data.toList := ⟨_, rfl⟩
    rw [← hl]
    have HL := Lib.hid hl
    have hs26 : s.size ≤ 26 := by omega
    have hs26' : 26 ≤ s.size := by omega
    have hll : l.length = 26 := by rw [hl, hsl, h26]
    have HLL := Lib.hid hll
    have hdig : ∀ i, i < 26 → val (l.getD i 0) = digit (numS l) i := by
      intro i hi
      rw [digit_at l i (by omega), hll]; rfl
    have HD := Lib.hid hdig
    clear hsl hl h26 hll hdig
    go_enter Try.func11, Try.ntmps11
    go_wp2_with (refine wpList_make_cap w rfl _ _ 33 rfl w.heap.size 5 i0 (.int .u8 0) Try.underlying33 hi hz0 hz1 rfl _ _ _ _ 17 17 rfl rfl rfl rfl (by omega) (by rw [hz2]; omega) (by omega) (Nat.le_refl _) ?_; intro w1 hown hg)
    have hB1 : Below w.heap.size w w1 := Below.none (Below.refl _ _) (Nat.le_refl _) hg
    have hgw : w.heap.size < w1.heap.size := (hown.lt w.heap.size rfl).2
    obtain ⟨B0, hB0⟩ : ∃ B0, B0 = w.heap.size := ⟨_, rfl⟩
    have hown0 : w1.ownsRow B0 5 1 (.slice (some ⟨B0, 0, none⟩) 17 17) 17 (bytesV (bm (numS l) 0)) := by
      rw [bm_zero, hB0]; exact hown
    have hB1' : Below B0 w w1 := by rw [hB0]; exact hB1
    have HB0 := Lib.hid hB0
    rw [← hB0] at hgw ⊢
    clear hown hg hB1 hB0
    go_loopw [6] (fun i wr => ∃ k : Nat, k ≤ 26 ∧ i = .int .i64 k ∧ wr.ownsRow B0 5 1 (.slice (some ⟨B0, 0, none⟩) 17 17) 17 (bytesV (bm (numS l) (5 * k))) ∧ Hid (∀ j, j < k → isSign (l.getD j 0) = true) ∧ Below B0 w wr ∧ B0 ≤ wr.heap.size) (fun i _ => 26 - (intOf i).toNat)
    case atStart => exact ⟨0, by omega, rfl, hown0, (fun j hj => by omega), hB1', by omega⟩
    case round =>
      clear hown0 hB1' hgw
      obtain ⟨k, hk, rfl, hown, hsg, hB, hBs⟩ := hrel
      by_cases hlt : k < 26
      · have hix := fun W => run_str W s k (by omega)
        rw [← HL.out] at hix
        have hdk : decide ((k : Int) < 26) = true := by simp; omega
        have HDk := Lib.hid (HD.out k hlt)
        have HNo := Lib.hid (fun h => readE_sign l k (by have := HLL.out; omega) h)
        generalize hc : l.getD k 0 = c at *
        have HC := Lib.hid hc
        clear hc
        have hcl := c.toNat_lt
        go_wp2_with fail
        obtain ⟨wo, hwo⟩ : ∃ wo : World, wo = wr := ⟨_, rfl⟩
        subst hwo
        go_loopw [7] (fun v wr => ∃ pos n : Nat, pos ≤ 32 ∧ v = .int .i64 (seen c pos) ∧ wr = (wo.iter SB pos).drewN n) (fun _ w' => 32 - w'.iterPos wo.heap.size)
        case atStart => exact ⟨0, 0, by omega, by rw [seen_zero], rfl⟩
        case round =>
          obtain ⟨pos, n, hpos, rfl, rfl⟩ := hrel
          by_cases hltp : pos < 32
          · have hnx := fun ty => run_next_sign wo n pos hltp ty
            have hsg2 := fun W => run_sign_at W pos hltp
            have hsl := (sign pos).toNat_lt
            by_cases he : sign pos = c
            · have hbe : (((sign pos).toNat : Int) == (c.toNat : Int)) = true := by rw [he]; simp
              have HS := Lib.hid (seen_hit c pos hltp he)
              clear he
              go_wp2_with fail
              go_quiet (fail)
              go_wp2_with fail
              refine ⟨⟨pos + 1, n + nq, by omega, by rw [HS.out], by rw [World.drewN_drewN]⟩, ?_⟩
              rw [World.drewN_drewN, iterPos_at, iterPos_at]; omega
            · have hbe : (((sign pos).toNat : Int) == (c.toNat : Int)) = false := by
                rw [beq_eq_false_iff_ne]; intro h; exact he (UInt8.toNat_inj.1 (by omega))
              have HS := Lib.hid (seen_miss c pos hltp he)
              clear he
              go_wp2_with fail
              go_quiet (fail)
              go_wp2_with fail
              refine ⟨⟨pos + 1, n + nq, by omega, by rw [HS.out], by rw [World.drewN_drewN]⟩, ?_⟩
              rw [World.drewN_drewN, iterPos_at, iterPos_at]; omega
          · obtain rfl : pos = 32 := by omega
            have hnx := fun ty => run_next_last wo n ty
            have hB2 : Below B0 w ((wo.iter SB 32).drewN n) := Below.drewN (hB.alloc hBs _) n
            have hown2 : ((wo.iter SB 32).drewN n).ownsRow B0 5 1 (.slice (some ⟨B0, 0, none⟩) 17 17) 17 (bytesV (bm (numS l) (5 * k))) := Below.row (Below.drewN (Below.refl _ _) n) (hown.alloc _)
            have hBs2 : B0 ≤ ((wo.iter SB 32).drewN n).heap.size := Nat.le_trans hBs (by show wo.heap.size ≤ (wo.heap.push _).size; simp)
            cases hcs : isSign c with
            | false =>
              rw [seen_no c hcs]
              have HE := Lib.hid (HNo.out hcs)
              clear hcs
              go_wp2_with fail
              go_ret3
              exact read_none _ HE.out _ _ (by rw [← HB0.out]; exact hB2)
            | true =>
              rw [seen_yes c hcs]
              have HSG : Hid (∀ j, j < k + 1 → isSign (l.getD j 0) = true) := by
                intro j hj
                by_cases hjk : j < k
                · exact hsg.out j hjk
                · obtain rfl : j = k := by omega
                  rw [HC.out]; exact hcs
              have hV := val_lt c
              have hnb : decide ((val c : Int) < 0) = false := by simp
              generalize val c = V at *
              clear hcs hown hB hBs
              generalize hW : (wo.iter SB 32).drewN n = w5 at *
              have HW := Lib.hid hW
              clear hW
              go_wp2_with fail
              go_loopw [9] (fun i wr => ∃ j : Nat, j ≤ 5 ∧ i = .int .i64 j ∧ wr.ownsRow B0 5 1 (.slice (some ⟨B0, 0, none⟩) 17 17) 17 (bytesV (bm (numS l) (5 * k + j))) ∧ Below B0 w wr ∧ B0 ≤ wr.heap.size) (fun i _ => 5 - (intOf i).toNat)
              case atStart => exact ⟨0, by omega, rfl, hown2, hB2, hBs2⟩
              case round =>
                clear hown2 hB2 hBs2
                obtain ⟨j, hj, rfl, hown, hB, hBs⟩ := hrel
                by_cases hlj : j < 5
                · have hvb := val_bit (numS l) k j V hlt hlj HDk.out
                  have hvi := bit_val V (4 - j)
                  rw [hvb] at hvi
                  obtain ⟨m, hm⟩ : ∃ m, m = 5 * k + j := ⟨_, rfl⟩
                  rw [← hm] at hown hvi
                  have hmi : 5 * (k : Int) + (j : Int) = (m : Int) := by omega
                  have hm130 : m < 130 := by omega
                  have HM : Hid (m + 1 = 5 * k + (j + 1)) := by rw [hm]; rfl
                  have hdj : decide ((j : Int) < 5) = true := by simp; omega
                  clear hm hvb
                  rcases Nat.mod_two_eq_zero_or_one (numS l / 2 ^ (129 - m)) with hb | hb
                  · rw [hb] at hvi
                    obtain ⟨hv1, hv2⟩ := hvi
                    have HST := Lib.hid (bm_stay (numS l) m hm130 hb)
                    clear hb
                    go_wp2_with fail
                    go_roundw
                    case rel => exact ⟨j + 1, by omega, by go_num, by rw [← HM.out, HST.out]; exact hown, hB, hBs⟩
                    case measure => simp [intOf]; omega
                  · rw [hb] at hvi
                    obtain ⟨hv1, hv2⟩ := hvi
                    have hL := length_bm (numS l) m
                    have hcg := (hown.cellAt (m / 8) (by omega)).trans (bytesV_get (bm (numS l) m) (m / 8) (by omega))
                    rw [bm_at _ _ _ (by omega), toNat_ofNat8, Nat.mod_eq_of_lt (byteAt_lt _ _ _)] at hcg
                    have hfg := hown.frozenAt (m / 8)
                    have HST := Lib.hid (bm_set (numS l) m hm130 hb)
                    have hst := byteAt_step (numS l) m hm130
                    rw [hb, Nat.one_mul] at hst
                    have hlt2 := byteAt_lt (numS l) (m + 1) (m / 8)
                    rw [hst] at hlt2
                    have hpi : (2 : Int) ^ (7 - m % 8) = ((2 ^ (7 - m % 8) : Nat) : Int) := by simp
                    generalize byteAt (numS l) m (m / 8) = B at *
                    generalize 2 ^ (7 - m % 8) = P at *
                    have HPI := Lib.hid hpi
                    clear hb hst hL hpi
                    go_wp2_with fail
                    refine ⟨⟨j + 1, by omega, by go_num, ?_, hB.setCell (Nat.le_refl _) _, by simpa [World.setCell] using hBs⟩, by simp [intOf]; omega⟩
                    have hv : (((B : Int) + 2 ^ (7 - m % 8)) % 256) = ((UInt8.ofNat (B + P)).toNat : Int) := by rw [HPI.out, toNat_ofNat8]; omega
                    rw [hv]
                    have := (hown.stored (m / 8) (.int .u8 ((UInt8.ofNat (B + P)).toNat : Int))).1
                    rw [bytesV_set, HST.out, HM.out] at this
                    exact this
                · obtain rfl : j = 5 := by omega
                  go_wp2_with fail
                  go_roundw
                  case rel => exact ⟨k + 1, by omega, by go_num, hown, HSG, hB, hBs⟩
                  case measure => simp [intOf]; omega
      · obtain rfl : k = 26 := by omega
        rw [show 5 * 26 = 130 from rfl, bm_end] at hown
        have hsall := all_signs l (fun k hk => hsg.out k (by rw [HLL.out] at hk; exact hk))
        have HAll := Lib.hid hsall
        clear hsall hsg HD
        have hO := length_outB (numS l)
        have hL17 : (outB (numS l) ++ [UInt8.ofNat (numS l % 4 * 64)]).length = 17 := by rw [List.length_append, hO]; rfl
        have hc16 := (hown.cellAt 16 (by omega)).trans (bytesV_get _ 16 (by omega))
        have e16 : (outB (numS l) ++ [UInt8.ofNat (numS l % 4 * 64)]).getD 16 0 = UInt8.ofNat (numS l % 4 * 64) := by
          rw [List.getD_eq_getElem?_getD, List.getElem?_append_right (by omega), hO]; rfl
        rw [e16, toNat_ofNat8, Nat.mod_eq_of_lt (by omega)] at hc16
        clear e16
        by_cases h0 : numS l % 4 = 0
        · rw [h0] at hc16
          have hE : readE l = if made (gotId l) (gotRev l) = outB (numS l) then 0 else 8 := by rw [readE, if_pos ⟨HLL.out, HAll.out, h0⟩]
          have hgi : gotId l = numB ((outB (numS l)).take 4) := rfl
          have hgr : gotRev l = numB (((outB (numS l)).drop 4).take 8) := rfl
          have HE := Lib.hid hE
          have HGI := Lib.hid hgi
          have HGR := Lib.hid hgr
          have hcell : ∀ j, j < 16 → wr.cell? ⟨B0, j, none⟩ = some (.int .u8 (((outB (numS l)).getD j 0).toNat : Int)) := by
            intro j hj
            have := (hown.cellAt j (by omega)).trans (bytesV_get _ j (by omega))
            rw [this, List.getD_eq_getElem?_getD, List.getElem?_append_left (by omega), ← List.getD_eq_getElem?_getD]
          have HO := Lib.hid hO
          have HCell := Lib.hid hcell
          have hBw : B0 < wr.heap.size := (hown.lt B0 rfl).2
          clear h0 hE hgi hgr hO hcell hown hL17
          generalize outB (numS l) = O at *
          go_wp2_with fail
          go_loop [11, 75] (fun id i => ∃ j : Nat, j ≤ 4 ∧ i = .int .i64 j ∧ id = .int .u32 (idn O j : Nat)) (fun _ i => 4 - (intOf i).toNat)
          case atStart => exact ⟨0, by omega, rfl, rfl⟩
          case round =>
            obtain ⟨j, hj, rfl, rfl⟩ := hrel
            by_cases hlj : j < 4
            · have hcj := HCell.out j (by omega)
              have hdj : decide ((j : Int) < 4) = true := by simp; omega
              have hI := idn_lt O j (by omega)
              have HS := Lib.hid (idn_step O HO.out j hlj)
              generalize O.getD j 0 = d at *
              have hd := d.toNat_lt
              generalize idn O j = I at *
              go_wp2_with fail
              go_round
              case rel => exact ⟨j + 1, by omega, by go_num, congrArg (Value.int .u32) (by rw [HS.out]; omega)⟩
              case measure => simp [intOf]; omega
            · obtain rfl : j = 4 := by omega
              have e1 : idn O 4 = gotId l := (idn_stay O 4 (by omega)).trans HGI.out.symm
              rw [e1]
              have hI : gotId l < 4294967296 := by rw [HGI.out]; exact numB_take_lt O 4 4 (by omega)
              clear e1
              go_wp2_with fail
              go_loop [14, 88] (fun rev i => ∃ j : Nat, j ≤ 8 ∧ i = .int .i64 j ∧ rev = .int .u64 (revn O (4 + j) : Nat)) (fun _ i => 8 - (intOf i).toNat)
              case atStart => exact ⟨0, by omega, rfl, rfl⟩
              case round =>
                obtain ⟨j, hj, rfl, rfl⟩ := hrel
                by_cases hlj : j < 8
                · have hcj := HCell.out (4 + j) (by omega)
                  have hdj : decide ((j : Int) < 8) = true := by simp; omega
                  have hR := revn_lt O (4 + j) (by omega)
                  have HS := Lib.hid (revn_step O HO.out (4 + j) (by omega) (by omega))
                  generalize O.getD (4 + j) 0 = d at *
                  have hd := d.toNat_lt
                  generalize revn O (4 + j) = R at *
                  go_wp2_with fail
                  go_round
                  case rel => exact ⟨j + 1, by omega, by go_num, congrArg (Value.int .u64) (by rw [← Nat.add_assoc, HS.out]; omega)⟩
                  case measure => simp [intOf]; omega
                · obtain rfl : j = 8 := by omega
                  have e2 : revn O (4 + 8) = gotRev l := (revn_end O HO.out).trans HGR.out.symm
                  rw [e2]
                  have hR : gotRev l < 18446744073709551616 := by rw [HGR.out]; exact numB_take_lt _ 8 8 (by omega)
                  clear e2
                  generalize hIl : gotId l = I at *
                  generalize hRl : gotRev l = R at *
                  have HIl := Lib.hid hIl
                  have HRl := Lib.hid hRl
                  clear hIl hRl
                  go_upto_region 35 with (fail)
                  have hbs : IsBytes wr (some ⟨B0, 0, none⟩) O := fun _ => ⟨B0, 0, rfl, hBw, fun j hj => by rw [Nat.zero_add]; exact HCell.out j (by have := HO.out; omega)⟩
                  have hd0 : Below wr.heap.size wr wr.drew := (Below.refl wr.heap.size wr).drew
                  have KP : ∀ w', Below wr.heap.size wr w' → Below wr.heap.size wr w' ∧ (convert 33 9 (.slice (some ⟨B0, 0, none⟩) 16 17)).run Try.prog w' = .ok (.string ⟨O.toArray⟩) w' := fun w' hb => ⟨hb, run_string_of_bytes (P := Try.prog) w' 33 9 5 _ 16 17 O HO.out Try.underlying33 Try.underlying5 Try.underlying9 (hbs.below hb)⟩
                  have HM := Lib.hid (fun w => bytes_any I R w hI hR)
                  obtain ⟨hq1, hq2⟩ := str_eq (made I R) O
                  have KM := fun (w7 : World) a7 c7 (h : IsBytes w7 a7 (made I R)) => run_string_of_bytes (P := Try.prog) w7 33 9 5 a7 16 c7 (made I R) (length_made _ _) Try.underlying33 Try.underlying5 Try.underlying9 h
                  generalize ByteArray.mk (made I R).toArray = MB at *
                  generalize ByteArray.mk O.toArray = OB at *
                  generalize hD : decide (made I R = O) = D at *
                  have HDD := Lib.hid hD
                  have KH := Lib.hid KP
                  have KMH := Lib.hid KM
                  clear hD hbs KP KM
                  go_cut [105] (fun x wc => x = .bool (!D) ∧ Below wr.heap.size wr wc)
                  case first =>
                    refine wp_region_noPanic ?_
                    refine wp_region_held_drew (S := (fun w' => Below wr.heap.size wr w' ∧ (convert 33 9 (.slice (some ⟨B0, 0, none⟩) 16 17)).run Try.prog w' = .ok (.string OB) w')) (by kernel_rfl) (KH.out _ hd0) (fun hHeld => ?_)
                    refine take_at 0 98 (v := ?_) rfl rfl (by kernel_rfl) (by kernel_rfl) (by kernel_rfl) (fun _ _ _ h => h) (Or.inl ⟨by rfl, ?_⟩) hHeld ?_
                    rotate_left
                    · (intro w hSw; (try dsimp only at hSw); go_simp; try with_reducible rfl)
                    try simp only [List.setIfInBounds_toArray, List.set_cons_zero, List.set_cons_succ]
                    refine take_at 1 99 (v := ?_) rfl rfl (by kernel_rfl) (by kernel_rfl) (by kernel_rfl) (fun _ _ _ h => h) (Or.inl ⟨by rfl, ?_⟩) hHeld ?_
                    rotate_left
                    · (intro w hSw; (try dsimp only at hSw); go_simp; try with_reducible rfl)
                    try simp only [List.setIfInBounds_toArray, List.set_cons_zero, List.set_cons_succ]
                    refine take_at 4 102 (v := ?_) rfl rfl (by kernel_rfl) (by kernel_rfl) (by kernel_rfl) (fun _ _ _ h => h) (Or.inl ⟨by rfl, ?_⟩) hHeld ?_
                    rotate_left
                    · (intro w hSw; (try dsimp only at hSw); go_simp; try with_reducible rfl)
                    try simp only [List.setIfInBounds_toArray, List.set_cons_zero, List.set_cons_succ]
                    refine take_at 5 103 (v := ?_) rfl rfl (by kernel_rfl) (by kernel_rfl) (by kernel_rfl) (fun _ _ _ h => h) (Or.inl ⟨by rfl, ?_⟩) hHeld ?_
                    rotate_left
                    · (intro w hSw; (try dsimp only at hSw); go_simp; try with_reducible rfl)
                    try simp only [List.setIfInBounds_toArray, List.set_cons_zero, List.set_cons_succ]
                    refine take_at 6 104 (v := ?_) rfl rfl (by kernel_rfl) (by kernel_rfl) (by kernel_rfl) (fun _ _ _ h => h) (Or.inl ⟨by rfl, ?_⟩) hHeld ?_
                    rotate_left
                    · (intro w hSw; (try dsimp only at hSw); go_simp; try with_reducible rfl)
                    try simp only [List.setIfInBounds_toArray, List.set_cons_zero, List.set_cons_succ]
                    refine only_at 2 100 (by kernel_rfl) rfl rfl (by rfl) (fun K hK => ?_)
                    go_simp
                    refine (HM.out _).mono ?_
                    rintro e w7 ⟨v7, rfl, hown7, hb7⟩
                    obtain ⟨a7, m7, c7, rfl⟩ := row_slice hown7
                    obtain rfl : m7 = 16 := row_len' hown7
                    have hc7 := KMH.out w7 a7 c7 (row_bytes' hown7)
                    have hb7' : Below wr.heap.size wr w7 := below_step (by assumption) hb7
                    clear hown7 hb7
                    go_wp2_with fail
                    refine hK.out _ _ (KH.out _ (by assumption)) (fun hHeld2 => ?_)
                    clear hK K hHeld
                    have hHeld := hHeld2
                    clear hHeld2
                    try simp only [Act.put, List.setIfInBounds_toArray, List.set_cons_zero, List.set_cons_succ]
                    refine only_at 3 101 (by kernel_rfl) rfl rfl (by rfl) (fun K hK => ?_)
                    go_simp
                    refine hK.out _ _ (KH.out _ (by assumption)) (fun hHeld2 => ?_)
                    clear hK K hHeld
                    have hHeld := hHeld2
                    clear hHeld2
                    try simp only [Act.put, List.setIfInBounds_toArray, List.set_cons_zero, List.set_cons_succ]
                    refine take_at 7 105 (v := ?_) rfl rfl (by kernel_rfl) (by kernel_rfl) (by kernel_rfl) (fun _ _ _ h => h) (Or.inl ⟨by rfl, ?_⟩) hHeld ?_
                    rotate_left
                    · (intro w hSw; (try dsimp only at hSw); go_simp; try with_reducible rfl)
                    try simp only [List.setIfInBounds_toArray, List.set_cons_zero, List.set_cons_succ]
                    refine wpAnyH_done (by kernel_rfl) ?_ _
                    refine NoPanic.normal ?_
                    go_wp2_with fail
                    go_meet
                    case rel => exact ⟨rfl, by assumption⟩
                  case rest =>
                    obtain ⟨rfl, hbc⟩ := hcut
                    have hBc : Below w.heap.size w wc := by rw [← HB0.out]; exact hB.trans (hbc.mono hBs)
                    cases D with
                    | true =>
                      have h0 : readE l = 0 := by rw [HE.out, if_pos (of_decide_eq_true HDD.out)]
                      have HR : Hid (ReadIs l w (.returned (.tuple #[.int .u32 I, .int .u64 R, .int .i64 0])) wc) := ⟨by rw [rid, rrev, if_pos h0, if_pos h0, h0, HIl.out, HRl.out]; rfl, hBc⟩
                      clear h0
                      go_wp2_with fail
                      go_ret3
                      exact HR.out
                    | false =>
                      have h8 : readE l = 8 := by rw [HE.out, if_neg (of_decide_eq_false HDD.out)]
                      have HR : Hid (ReadIs l w (.returned (.tuple #[.int .u32 0, .int .u64 0, .int .i64 8])) wc) := ⟨by rw [rid, rrev, if_neg (by omega), if_neg (by omega), h8]; rfl, hBc⟩
                      clear h8
                      go_wp2_with fail
                      go_ret3
                      exact HR.out
        · have HE := Lib.hid (readE_tail l h0)
          generalize hX : numS l % 4 * 64 = X at *
          have hb1 : ((X : Int) == 0) = false := by simp; omega
          have hb2 : ((X : Int) != 0) = true := by simp; omega
          clear h0 hX hown hL17
          go_wp2_with fail
          go_ret3
          exact read_none _ HE.out _ _ (by rw [← HB0.out]; exact hB)
  · have hE := readE_len s.data.toList (by rw [hsl]; exact h26)
    have HE := Lib.hid hE
    have hb26 : ((s.size : Int) == 26) = false := by simp; omega
    have hn26 : ((s.size : Int) != 26) = true := by simp; omega
    clear hE hsl h26
    go_enter Try.func11, Try.ntmps11
    go_wp2_with fail
    go_ret3
    exact read_none _ HE.out _ _ (Below.refl _ _)
end Go.Proofs.Ytbamohcaamgalac
