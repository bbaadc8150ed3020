/- The document's block built, walked. -/
import Derived.Test.YtbamohcaamgalabWalkF
namespace Go.Proofs.Ytbamohcaamgalab
set_option linter.unusedVariables false
set_option linter.unusedSimpArgs false
open Go.RowKit

theorem row_lower {w : World} {base : Nat} {e : TypeId} {size : Nat} {v : Value} {n : Nat} {xs : List Value} (h : w.ownsRow base e size v n xs) {b : Nat} (hb : b ≤ base) : w.ownsRow b e size v n xs :=
  ⟨h.1, h.2.imp id fun ⟨g, cap, cur, hv, hb', r⟩ => ⟨g, cap, cur, hv, Nat.le_trans hb hb', r⟩⟩
/-- en's block lies below out's -/
def Sep (en out : Value) : Prop := ∀ g g', en.ownBlock = some g → out.ownBlock = some g' → g < g'
theorem sep_new {w3 wc : World} {B n n' : Nat} {e e' : TypeId} {size size' : Nat} {en v : Value} {xs xs' : List Value} (hen : w3.ownsRow B e size en n xs) (hv : wc.ownsRow w3.heap.size e' size' v n' xs') : Sep en v :=
  fun g g' h1 h2 => Nat.lt_of_lt_of_le (hen.lt g h1).2 (hv.lt g' h2).1
theorem sep_ne {en out : Value} (h : Sep en out) : out.ownBlock = none ∨ out.ownBlock ≠ en.ownBlock := by
  cases ho : out.ownBlock with
  | none => exact .inl rfl
  | some g' =>
    right
    intro e
    exact Nat.lt_irrefl _ (h g' g' e.symm ho)
/-- behind k keys -/
def RefRel (K : List Text) (w : World) (k : Nat) (out en whole : Value) (wr : World) : Prop :=
  wr.ownsRow w.heap.size 5 1 out (body K k).length (bytesV (body K k)) ∧ wr.ownsRow w.heap.size 5 1 en (4 * wholes k) (bytesV (ends K (wholes k))) ∧ whole = .int .i64 (wholes k : Nat) ∧ Sep en out ∧ (∀ i, i + 1 < k → K.getD i [] < K.getD (i + 1) []) ∧ Below w.heap.size w wr
theorem endsV_yes (ks : List Text) (k : Nat) (h : k % 16 = 0) : ends ks (wholes (k + 1)) = ends ks (wholes k) ++ four (pos ks k) := by
  rw [wholes_succ, if_pos h, ends_succ, wholes_at k h]
theorem endsV_no (ks : List Text) (k : Nat) (h : ¬ k % 16 = 0) : ends ks (wholes (k + 1)) = ends ks (wholes k) := by
  rw [wholes_succ, if_neg h]
set_option maxRecDepth 100000 in
set_option maxHeartbeats 1000000 in
theorem refbuild_any (a : Option Addr) (cap : Nat) (l : List ByteArray) (w : World) (hl : l.length ≤ 3000) (hk : ∀ i, (l.getD i ByteArray.empty).size ≤ 3000) (h : IsStrs w a l) :
    Calls Try.prog 15 #[.slice a l.length cap] w (BuildIs (keysOf l) w) := by
  obtain ⟨i0, hi, hz0, hz1, hz2⟩ := info_parts Try.info5
  have H := Lib.hid h
  obtain ⟨K, hK⟩ : ∃ K, K = keysOf l := ⟨_, rfl⟩
  have hKat : ∀ i, K.getD i [] = (l.getD i ByteArray.empty).data.toList := fun i => by rw [hK]; exact keysOf_at l i
  have hKl : K.length = l.length := by rw [hK]; exact length_keysOf l
  have hks : ∀ i, (K.getD i []).length ≤ 3000 := fun i => by rw [hKat i, size_data]; exact hk i
  have hpos : ∀ n, pos K n ≤ n * 3020 := fun n => pos_le K 3000 (by omega) hks n
  have h0 : RefRel K w 0 (.slice none 0 0) (.slice none 0 0) (.int .i64 0) w :=
    ⟨World.ownsRow_nil _ _ _ _, World.ownsRow_nil _ _ _ _, rfl, (fun g g' h => by cases h), (fun i hi => by omega), Below.refl _ _⟩
  rw [← hK]
  have HKat := Lib.hid hKat
  have HKl := Lib.hid hKl
  have HPos := Lib.hid hpos
  have HKs := Lib.hid hk
  have HK := Lib.hid hK
  clear h hKat hKl hks hpos hk hK
  go_enter Try.func15, Try.ntmps15
  go_wp2_with fail
  go_loopw [4, 5, 6, 12] (fun out en whole i wr => ∃ k : Nat, k ≤ l.length ∧ i = .int .i64 k ∧ Hid (RefRel K w k out en whole wr)) (fun _ _ _ i _ => l.length - (intOf i).toNat)
  case atStart => exact ⟨0, Nat.zero_le _, rfl, h0⟩
  case round =>
    clear h0
    obtain ⟨k, hkl, rfl, hrel⟩ := hrel
    obtain ⟨hout, hen, rfl, hsep, hris, hB⟩ := hrel.out
    have HRis := Lib.hid hris
    have HSep := Lib.hid hsep
    clear hrel hris hsep
    by_cases hlt : k < l.length
    · obtain ⟨b, off, rfl, hb, hc⟩ := (H.out.below hB) (by omega)
      have hck := hc k hlt
      have hdk : decide ((k : Int) < (l.length : Int)) = true := by simp; omega
      have hcs := HKs.out k
      have HKk := Lib.hid (HKat.out k)
      have hwk : wholes k ≤ 3000 := by unfold wholes; omega
      generalize hcc : l.getD k ByteArray.empty = c at *
      have HCC := Lib.hid hcc
      clear hcc
      by_cases hk0 : 0 < k
      · have hd0 : decide (0 < (k : Int)) = true := decide_eq_true (by omega)
        have hc1 := hc (k - 1) (by omega)
        have hss := HKs.out (k - 1)
        have hn1 : ((k : Int) - 1) = ((k - 1 : Nat) : Int) := by omega
        have HK1 := Lib.hid (HKat.out (k - 1))
        generalize hsd : l.getD (k - 1) ByteArray.empty = s at *
        have HSD := Lib.hid hsd
        clear hsd hc
        by_cases hno : ¬ s.data.toList < c.data.toList
        · obtain ⟨hle, _⟩ := less_no c s hno
          have HNR : Hid (¬ Rises K) := by
            intro hr
            have := hr (k - 1) (by rw [HKl.out]; omega)
            rw [show k - 1 + 1 = k by omega, HK1.out, HKk.out] at this
            exact hno this
          clear hno
          generalize hj : k - 1 = j at *
          go_wp2_with fail
          go_ret2
          exact ⟨fun hr => absurd hr HNR.out, fun _ => rfl, hB⟩
        · have hlt2 : s.data.toList < c.data.toList := Classical.not_not.1 hno
          obtain ⟨hl1, hl2, _⟩ := less_yes c s hlt2
          have HL := Lib.hid hlt2
          have HRis2 : Hid (∀ i, i + 1 < k + 1 → K.getD i [] < K.getD (i + 1) []) := by
            intro i hi
            by_cases hik : i + 1 < k
            · exact HRis.out i hik
            · obtain rfl : i = k - 1 := by omega
              rw [show k - 1 + 1 = k by omega, HK1.out, HKk.out]
              exact HL.out
          clear hlt2 hno
          by_cases h16 : k % 16 = 0
          · have hm1 : (((k : Int) % 16) == 0) = true := by rw [beq_iff_eq]; omega
            have HN : Hid (share K k = 0) := by show share K k = 0; rw [share, if_pos h16]
            have HEV := Lib.hid (endsV_yes K k h16)
            have HWS : Hid (wholes (k + 1) = wholes k + 1) := by show wholes (k + 1) = _; rw [wholes_succ, if_pos h16]
            clear h16
            generalize hj : k - 1 = j at *
            obtain ⟨ao, mo, co, rfl⟩ := row_slice hout
            have hmo := row_len' hout
            subst hmo
            obtain ⟨ae, me, ce, rfl⟩ := row_slice hen
            have hme := row_len' hen
            subst hme
            have hpk : pos K k ≤ 10000000 := by have := HPos.out k; omega
            have HFour := Lib.hid (fun W => four_any (pos K k) ((body K k).length : Int) W rfl (by omega))
            go_wp2_with fail
            refine (HFour.out _).mono ?_
            rintro e w2 ⟨v2, rfl, h4, hb2⟩
            obtain ⟨a4, m4, c4, rfl⟩ := row_slice h4
            have hm4 := row_len' h4
            subst hm4
            have HB4 := Lib.hid (row_bytes' h4)
            have hen2 := Below.row hb2 hen
            have hout2 := Below.row hb2 hout
            have hB2 := hB.trans (hb2.mono hB.size)
            clear hen hout hB h4 hb2 HFour
            go_upto_region 13 with (at_builtin; refine wpList_append_bytes w2 rfl _ _ 26 rfl w.heap.size 5 i0 (.int .u8 0) Try.underlying26 hi hz0 hz1 hz2 rfl _ (4 * wholes k) _ rfl hen2 _ 4 c4 (four (pos K k)) rfl rfl HB4.out (by omega) hB2.size ?_; intro v3 w3 hen3 hg3 _; have hB3 := Below.own hB2 hen2 (Nat.le_refl _) hB2.size hg3; have hout3 := hout2.kept hg3 (sep_ne HSep.out))
            have HEN2 : Hid (∀ W', Below w3.heap.size w3 W' → W'.ownsRow w.heap.size 5 1 v3 (4 * wholes (k + 1)) (bytesV (ends K (wholes (k + 1))))) := by
              intro W' hW
              rw [HEV.out, HWS.out, bytesV_append, Nat.mul_add]
              exact Below.row hW hen3
            have HSN : Hid (∀ (wc : World) (v : Value) (n' : Nat) (xs' : List Value), wc.ownsRow w3.heap.size 5 1 v n' xs' → Sep v3 v) := fun wc v n' xs' h => sep_new hen3 h
            have HWV : Hid (Value.int .i64 ((wholes k : Int) + 1) = .int .i64 (wholes (k + 1) : Nat)) := by
              show _ = _
              rw [HWS.out]; go_num
            clear hen2 hout2 hB2 hen3 hg3
            have hob := row_bytes' hout3
            have hoc := row_cap hout3
            have HOB := Lib.hid hob
            have HTX := Lib.hid (extract_data c 0)
            have hxs : (c.extract 0 c.size).size ≤ 3000 := by rw [← size_data, extract_data, List.length_drop, size_data]; omega
            have hcutr : ∀ W, (Instr.slice 9 (.string c) (some (.int .i64 0)) none none).run Try.prog W = .ok (.string (c.extract 0 c.size)) W := fun W => run_cut_from W c 0 (Nat.zero_le _)
            have HEnt : Hid (body K (k + 1) = body K k ++ uv 0 ++ textE (c.data.toList.drop 0)) := by
              show body K (k + 1) = _
              rw [body_succ, ent, HKk.out, HN.out, List.append_assoc]
            have hpl : (body K k).length ≤ 10000000 := by have := HPos.out k; unfold pos at this; omega
            have huv := uv_len64 0 (by omega)
            have hd0 : Below w3.heap.size w3 w3.drew := (Below.refl w3.heap.size w3).drew
            have HBW := Lib.hid hB3
            clear hob hout3
            generalize c.extract 0 c.size = x at *
            generalize hEK : body K (k + 1) = EK at *
            generalize hBK : body K k = BK at *
            have HEK := Lib.hid hEK
            have HBK := Lib.hid hBK
            have huup := uv_pos 0
            have huv0 := Lib.hid (fun W a c h1 h2 h3 => refput_any a c BK 0 W h1 h2 h3)
            generalize huu : uv 0 = UU at *
            clear hEK hBK huu
            go_upto_region 13 with (fail)
            refine wp_region_noPanic ?_
            refine wp_region_held_drew (S := (fun w' => Below w3.heap.size w3 w')) (by kernel_rfl) hd0 (fun hHeld => ?_)
            refine take_at 0 45 (v := ?_) rfl rfl (by kernel_rfl) (by kernel_rfl) (by kernel_rfl) (fun _ _ _ h => h) (Or.inl ⟨by rfl, ?_⟩) hHeld ?_
            rotate_left
            · (intro w hSw; (try dsimp only at hSw); go_simp; try with_reducible rfl)
            try simp only [List.setIfInBounds_toArray, List.set_cons_zero, List.set_cons_succ]
            refine take_at 1 46 (v := ?_) rfl rfl (by kernel_rfl) (by kernel_rfl) (by kernel_rfl) (fun _ _ _ h => h) (Or.inl ⟨by rfl, ?_⟩) hHeld ?_
            rotate_left
            · (intro w hSw; (try dsimp only at hSw); go_simp; try with_reducible rfl)
            try simp only [List.setIfInBounds_toArray, List.set_cons_zero, List.set_cons_succ]
            refine take_at 2 47 (v := ?_) rfl rfl (by kernel_rfl) (by kernel_rfl) (by kernel_rfl) (fun _ _ _ h => h) (Or.inl ⟨by rfl, ?_⟩) hHeld ?_
            rotate_left
            · (intro w hSw; (try dsimp only at hSw); go_simp; try with_reducible rfl)
            try simp only [List.setIfInBounds_toArray, List.set_cons_zero, List.set_cons_succ]
            refine take_at 4 49 (v := ?_) rfl rfl (by kernel_rfl) (by kernel_rfl) (by kernel_rfl) (fun _ _ _ h => h) (Or.inl ⟨by rfl, ?_⟩) hHeld ?_
            rotate_left
            · (intro w hSw; (try dsimp only at hSw); go_simp; try with_reducible rfl)
            try simp only [List.setIfInBounds_toArray, List.set_cons_zero, List.set_cons_succ]
            refine take_at 5 50 (v := ?_) rfl rfl (by kernel_rfl) (by kernel_rfl) (by kernel_rfl) (fun _ _ _ h => h) (Or.inl ⟨by rfl, ?_⟩) hHeld ?_
            rotate_left
            · (intro w hSw; (try dsimp only at hSw); go_simp; try with_reducible rfl)
            try simp only [List.setIfInBounds_toArray, List.set_cons_zero, List.set_cons_succ]
            refine take_at 6 51 (v := ?_) rfl rfl (by kernel_rfl) (by kernel_rfl) (by kernel_rfl) (fun _ _ _ h => h) (Or.inl ⟨by rfl, ?_⟩) hHeld ?_
            rotate_left
            · (intro w hSw; (try dsimp only at hSw); go_simp; try with_reducible rfl)
            try simp only [List.setIfInBounds_toArray, List.set_cons_zero, List.set_cons_succ]
            refine only_at 3 48 (by kernel_rfl) rfl rfl (by rfl) (fun K hK => ?_)
            go_simp
            try rw [hwn]
            refine (huv0.out _ ao co (by omega) (by omega) (HOB.out.below (by assumption))).mono ?_
            rintro e w6 ⟨v6, rfl, hown6, hb6⟩
            have hb6' : Below w3.heap.size w3 w6 := below_step (by assumption) hb6
            obtain ⟨a6, m6, c6, rfl⟩ := row_slice hown6
            have hm6 := row_len' hown6
            have hc6 := row_cap hown6
            have HB6 := Lib.hid (row_bytes' hown6)
            have hl6 : m6 ≤ 100000000 := by rw [hm6, List.length_append]; omega
            have hc6' : m6 ≤ c6 := by rw [hm6]; exact hc6
            have HM6 := Lib.hid hm6
            clear hown6 hm6 hc6
            go_wp2_with fail
            refine hK.out _ _ (by assumption) (fun hHeld2 => ?_)
            clear hK K hHeld
            have hHeld := hHeld2
            clear hHeld2
            try simp only [Act.put, List.setIfInBounds_toArray, List.set_cons_zero, List.set_cons_succ]
            refine only_at 7 52 (by kernel_rfl) rfl rfl (by rfl) (fun K hK => ?_)
            go_simp
            refine (refputtext_at a6 c6 m6 (BK ++ UU) x _ HM6.out.symm (by omega) (by omega) HB6.out).mono ?_
            rintro e w7 ⟨v7, rfl, hown7, hb7⟩
            have hb7' : Below w3.heap.size w3 w7 := below_step (by assumption) hb7
            go_wp2_with fail
            refine hK.out _ _ (by assumption) (fun hHeld2 => ?_)
            clear hK K hHeld
            have hHeld := hHeld2
            clear hHeld2
            try simp only [Act.put, List.setIfInBounds_toArray, List.set_cons_zero, List.set_cons_succ]
            refine take_at 8 4 (v := ?_) rfl rfl (by kernel_rfl) (by kernel_rfl) (by kernel_rfl) (fun _ _ _ h => h) (Or.inl ⟨by rfl, ?_⟩) hHeld ?_
            rotate_left
            · (intro w hSw; (try dsimp only at hSw); go_simp; try with_reducible rfl)
            try simp only [List.setIfInBounds_toArray, List.set_cons_zero, List.set_cons_succ]
            refine wpAnyH_done (by kernel_rfl) ?_ _
            refine NoPanic.normal ?_
            go_wp2_with fail
            have e : BK ++ UU ++ textE x.data.toList = EK := by rw [HTX.out]; exact HEnt.out.symm
            rw [e] at hown7
            have HOut5 := Lib.hid (row_lower hown7 (Below.size (by assumption)))
            clear hown7 e
            have HBC := Lib.hid hb7'
            go_roundw
            case rel =>
              refine ⟨k + 1, by omega, by go_num, ?_⟩
              refine ⟨by rw [HEK.out]; exact row_lower HOut5.out HBW.out.size, HEN2.out _ HBC.out, HWV.out, HSN.out _ _ _ _ HOut5.out, HRis2.out, HBW.out.trans (HBC.out.mono HBW.out.size)⟩
            case measure => simp [intOf]; omega
          · have hm1 : (((k : Int) % 16) == 0) = false := by rw [beq_eq_false_iff_ne]; omega
            have hn0 : share K k = common s.data.toList c.data.toList := by rw [share, if_neg h16, HK1.out, HKk.out]
            have hcl := (common_le s.data.toList c.data.toList).2
            rw [size_data] at hcl
            have HN := Lib.hid hn0
            have HEV := Lib.hid (endsV_no K k h16)
            have HWS : Hid (wholes (k + 1) = wholes k) := by show wholes (k + 1) = _; rw [wholes_succ, if_neg h16]
            have HWV : Hid (Value.int .i64 (wholes k : Nat) = .int .i64 (wholes (k + 1) : Nat)) := by
              show _ = _
              rw [HWS.out]
            clear h16 hn0
            generalize hj : k - 1 = j at *
            obtain ⟨ao, mo, co, rfl⟩ := row_slice hout
            have hmo := row_len' hout
            subst hmo
            obtain ⟨ae, me, ce, rfl⟩ := row_slice hen
            have hme := row_len' hen
            subst hme
            go_wp2_with fail
            refine (refcommon_any s c _ (by omega) (by omega)).mono ?_
            rintro e w2 ⟨rfl, d, rfl⟩
            generalize common s.data.toList c.data.toList = n at *
            have hwn : IntKind.u64.wrap (n : Int) = (n : Int) := IntWalk.u64_in (n : Int) (by omega)
            have hbd := Below.drewN (Below.refl wr.heap.size wr) d
            have hB3 : Below w.heap.size w (wr.drewN d) := Below.drewN hB d
            have hout3 := Below.row hbd hout
            have hen3 := Below.row hbd hen
            clear hbd hout hen hB
            generalize wr.drewN d = w3 at *
            have HEN2 : Hid (∀ W', Below w3.heap.size w3 W' → W'.ownsRow w.heap.size 5 1 (.slice ae (4 * wholes k) ce) (4 * wholes (k + 1)) (bytesV (ends K (wholes (k + 1))))) := by
              intro W' hW
              rw [HEV.out, HWS.out]
              exact Below.row hW hen3
            have HSN : Hid (∀ (wc : World) (v : Value) (n' : Nat) (xs' : List Value), wc.ownsRow w3.heap.size 5 1 v n' xs' → Sep (.slice ae (4 * wholes k) ce) v) := fun wc v n' xs' h => sep_new hen3 h
            clear hen3
            have hob := row_bytes' hout3
            have hoc := row_cap hout3
            have HOB := Lib.hid hob
            have HTX := Lib.hid (extract_data c n)
            have hxs : (c.extract n c.size).size ≤ 3000 := by rw [← size_data, extract_data, List.length_drop, size_data]; omega
            have hcutr := fun W => run_cut_from W c n (by omega)
            have HEnt : Hid (body K (k + 1) = body K k ++ uv n ++ textE (c.data.toList.drop n)) := by
              show body K (k + 1) = _
              rw [body_succ, ent, HKk.out, HN.out, List.append_assoc]
            have hpl : (body K k).length ≤ 10000000 := by have := HPos.out k; unfold pos at this; omega
            have huv := uv_len64 n (by omega)
            have hd0 : Below w3.heap.size w3 w3.drew := (Below.refl w3.heap.size w3).drew
            have HBW := Lib.hid hB3
            clear hob hout3
            generalize c.extract n c.size = x at *
            generalize hEK : body K (k + 1) = EK at *
            generalize hBK : body K k = BK at *
            have HEK := Lib.hid hEK
            have HBK := Lib.hid hBK
            have huup := uv_pos n
            have huv0 := Lib.hid (fun W a c h1 h2 h3 => refput_any a c BK n W h1 h2 h3)
            generalize huu : uv n = UU at *
            clear hEK hBK huu
            go_upto_region 13 with (fail)
            refine wp_region_noPanic ?_
            refine wp_region_held_drew (S := (fun w' => Below w3.heap.size w3 w')) (by kernel_rfl) hd0 (fun hHeld => ?_)
            refine take_at 0 45 (v := ?_) rfl rfl (by kernel_rfl) (by kernel_rfl) (by kernel_rfl) (fun _ _ _ h => h) (Or.inl ⟨by rfl, ?_⟩) hHeld ?_
            rotate_left
            · (intro w hSw; (try dsimp only at hSw); go_simp; try with_reducible rfl)
            try simp only [List.setIfInBounds_toArray, List.set_cons_zero, List.set_cons_succ]
            refine take_at 1 46 (v := ?_) rfl rfl (by kernel_rfl) (by kernel_rfl) (by kernel_rfl) (fun _ _ _ h => h) (Or.inl ⟨by rfl, ?_⟩) hHeld ?_
            rotate_left
            · (intro w hSw; (try dsimp only at hSw); go_simp; try with_reducible rfl)
            try simp only [List.setIfInBounds_toArray, List.set_cons_zero, List.set_cons_succ]
            refine take_at 2 47 (v := ?_) rfl rfl (by kernel_rfl) (by kernel_rfl) (by kernel_rfl) (fun _ _ _ h => h) (Or.inl ⟨by rfl, ?_⟩) hHeld ?_
            rotate_left
            · (intro w hSw; (try dsimp only at hSw); go_simp; try with_reducible rfl)
            try simp only [List.setIfInBounds_toArray, List.set_cons_zero, List.set_cons_succ]
            refine take_at 4 49 (v := ?_) rfl rfl (by kernel_rfl) (by kernel_rfl) (by kernel_rfl) (fun _ _ _ h => h) (Or.inl ⟨by rfl, ?_⟩) hHeld ?_
            rotate_left
            · (intro w hSw; (try dsimp only at hSw); go_simp; try with_reducible rfl)
            try simp only [List.setIfInBounds_toArray, List.set_cons_zero, List.set_cons_succ]
            refine take_at 5 50 (v := ?_) rfl rfl (by kernel_rfl) (by kernel_rfl) (by kernel_rfl) (fun _ _ _ h => h) (Or.inl ⟨by rfl, ?_⟩) hHeld ?_
            rotate_left
            · (intro w hSw; (try dsimp only at hSw); go_simp; try with_reducible rfl)
            try simp only [List.setIfInBounds_toArray, List.set_cons_zero, List.set_cons_succ]
            refine take_at 6 51 (v := ?_) rfl rfl (by kernel_rfl) (by kernel_rfl) (by kernel_rfl) (fun _ _ _ h => h) (Or.inl ⟨by rfl, ?_⟩) hHeld ?_
            rotate_left
            · (intro w hSw; (try dsimp only at hSw); go_simp; try with_reducible rfl)
            try simp only [List.setIfInBounds_toArray, List.set_cons_zero, List.set_cons_succ]
            refine only_at 3 48 (by kernel_rfl) rfl rfl (by rfl) (fun K hK => ?_)
            go_simp
            try rw [hwn]
            refine (huv0.out _ ao co (by omega) (by omega) (HOB.out.below (by assumption))).mono ?_
            rintro e w6 ⟨v6, rfl, hown6, hb6⟩
            have hb6' : Below w3.heap.size w3 w6 := below_step (by assumption) hb6
            obtain ⟨a6, m6, c6, rfl⟩ := row_slice hown6
            have hm6 := row_len' hown6
            have hc6 := row_cap hown6
            have HB6 := Lib.hid (row_bytes' hown6)
            have hl6 : m6 ≤ 100000000 := by rw [hm6, List.length_append]; omega
            have hc6' : m6 ≤ c6 := by rw [hm6]; exact hc6
            have HM6 := Lib.hid hm6
            clear hown6 hm6 hc6
            go_wp2_with fail
            refine hK.out _ _ (by assumption) (fun hHeld2 => ?_)
            clear hK K hHeld
            have hHeld := hHeld2
            clear hHeld2
            try simp only [Act.put, List.setIfInBounds_toArray, List.set_cons_zero, List.set_cons_succ]
            refine only_at 7 52 (by kernel_rfl) rfl rfl (by rfl) (fun K hK => ?_)
            go_simp
            refine (refputtext_at a6 c6 m6 (BK ++ UU) x _ HM6.out.symm (by omega) (by omega) HB6.out).mono ?_
            rintro e w7 ⟨v7, rfl, hown7, hb7⟩
            have hb7' : Below w3.heap.size w3 w7 := below_step (by assumption) hb7
            go_wp2_with fail
            refine hK.out _ _ (by assumption) (fun hHeld2 => ?_)
            clear hK K hHeld
            have hHeld := hHeld2
            clear hHeld2
            try simp only [Act.put, List.setIfInBounds_toArray, List.set_cons_zero, List.set_cons_succ]
            refine take_at 8 4 (v := ?_) rfl rfl (by kernel_rfl) (by kernel_rfl) (by kernel_rfl) (fun _ _ _ h => h) (Or.inl ⟨by rfl, ?_⟩) hHeld ?_
            rotate_left
            · (intro w hSw; (try dsimp only at hSw); go_simp; try with_reducible rfl)
            try simp only [List.setIfInBounds_toArray, List.set_cons_zero, List.set_cons_succ]
            refine wpAnyH_done (by kernel_rfl) ?_ _
            refine NoPanic.normal ?_
            go_wp2_with fail
            have e : BK ++ UU ++ textE x.data.toList = EK := by rw [HTX.out]; exact HEnt.out.symm
            rw [e] at hown7
            have HOut5 := Lib.hid (row_lower hown7 (Below.size (by assumption)))
            clear hown7 e
            have HBC := Lib.hid hb7'
            go_roundw
            case rel =>
              refine ⟨k + 1, by omega, by go_num, ?_⟩
              refine ⟨by rw [HEK.out]; exact row_lower HOut5.out HBW.out.size, HEN2.out _ HBC.out, HWV.out, HSN.out _ _ _ _ HOut5.out, HRis2.out, HBW.out.trans (HBC.out.mono HBW.out.size)⟩
            case measure => simp [intOf]; omega
      · obtain rfl : k = 0 := by omega
        rw [Nat.add_zero] at hck
        have hdk0 : decide ((0 : Int) < (l.length : Int)) = true := decide_eq_true (by omega)
        have HN : Hid (share K 0 = 0) := rfl
        have HEV := Lib.hid (endsV_yes K 0 rfl)
        have HWS : Hid (wholes (0 + 1) = wholes 0 + 1) := rfl
        have HRis2 : Hid (∀ i, i + 1 < 0 + 1 → K.getD i [] < K.getD (i + 1) []) := fun i hi => by omega
        clear hdk
        have hq : Hid (Value.int .i64 ((wholes 0 : Int)) = .int .i64 0) := rfl
        obtain ⟨ao, mo, co, rfl⟩ := row_slice hout
        have hmo := row_len' hout
        subst hmo
        obtain ⟨ae, me, ce, rfl⟩ := row_slice hen
        have hme := row_len' hen
        subst hme
        have hpk : pos K 0 ≤ 10000000 := by have := HPos.out 0; omega
        have HFour := Lib.hid (fun W => four_any (pos K 0) ((body K 0).length : Int) W rfl (by omega))
        go_wp2_with fail
        refine (HFour.out _).mono ?_
        rintro e w2 ⟨v2, rfl, h4, hb2⟩
        obtain ⟨a4, m4, c4, rfl⟩ := row_slice h4
        have hm4 := row_len' h4
        subst hm4
        have HB4 := Lib.hid (row_bytes' h4)
        have hen2 := Below.row hb2 hen
        have hout2 := Below.row hb2 hout
        have hB2 := hB.trans (hb2.mono hB.size)
        clear hen hout hB h4 hb2 HFour
        go_upto_region 13 with (at_builtin; refine wpList_append_bytes w2 rfl _ _ 26 rfl w.heap.size 5 i0 (.int .u8 0) Try.underlying26 hi hz0 hz1 hz2 rfl _ (4 * wholes 0) _ rfl hen2 _ 4 c4 (four (pos K 0)) rfl rfl HB4.out (by omega) hB2.size ?_; intro v3 w3 hen3 hg3 _; have hB3 := Below.own hB2 hen2 (Nat.le_refl _) hB2.size hg3; have hout3 := hout2.kept hg3 (sep_ne HSep.out))
        have HEN2 : Hid (∀ W', Below w3.heap.size w3 W' → W'.ownsRow w.heap.size 5 1 v3 (4 * wholes (0 + 1)) (bytesV (ends K (wholes (0 + 1))))) := by
          intro W' hW
          rw [HEV.out, HWS.out, bytesV_append, Nat.mul_add]
          exact Below.row hW hen3
        have HSN : Hid (∀ (wc : World) (v : Value) (n' : Nat) (xs' : List Value), wc.ownsRow w3.heap.size 5 1 v n' xs' → Sep v3 v) := fun wc v n' xs' h => sep_new hen3 h
        have HWV : Hid (Value.int .i64 ((wholes 0 : Int) + 1) = .int .i64 (wholes (0 + 1) : Nat)) := by
          show _ = _
          rw [HWS.out]; go_num
        clear hen2 hout2 hB2 hen3 hg3
        have hob := row_bytes' hout3
        have hoc := row_cap hout3
        have HOB := Lib.hid hob
        have HTX := Lib.hid (extract_data c 0)
        have hxs : (c.extract 0 c.size).size ≤ 3000 := by rw [← size_data, extract_data, List.length_drop, size_data]; omega
        have hcutr : ∀ W, (Instr.slice 9 (.string c) (some (.int .i64 0)) none none).run Try.prog W = .ok (.string (c.extract 0 c.size)) W := fun W => run_cut_from W c 0 (Nat.zero_le _)
        have HEnt : Hid (body K (0 + 1) = body K 0 ++ uv 0 ++ textE (c.data.toList.drop 0)) := by
          show body K (0 + 1) = _
          rw [body_succ, ent, HKk.out, HN.out, List.append_assoc]
        have hpl : (body K 0).length ≤ 10000000 := by have := HPos.out 0; unfold pos at this; omega
        have huv := uv_len64 0 (by omega)
        have hd0 : Below w3.heap.size w3 w3.drew := (Below.refl w3.heap.size w3).drew
        have HBW := Lib.hid hB3
        clear hob hout3
        generalize c.extract 0 c.size = x at *
        generalize hEK : body K (0 + 1) = EK at *
        generalize hBK : body K 0 = BK at *
        have HEK := Lib.hid hEK
        have HBK := Lib.hid hBK
        have huup := uv_pos 0
        have huv0 := Lib.hid (fun W a c h1 h2 h3 => refput_any a c BK 0 W h1 h2 h3)
        generalize huu : uv 0 = UU at *
        clear hEK hBK huu
        go_upto_region 13 with (fail)
        refine wp_region_noPanic ?_
        refine wp_region_held_drew (S := (fun w' => Below w3.heap.size w3 w')) (by kernel_rfl) hd0 (fun hHeld => ?_)
        refine take_at 0 45 (v := ?_) rfl rfl (by kernel_rfl) (by kernel_rfl) (by kernel_rfl) (fun _ _ _ h => h) (Or.inl ⟨by rfl, ?_⟩) hHeld ?_
        rotate_left
        · (intro w hSw; (try dsimp only at hSw); go_simp; try with_reducible rfl)
        try simp only [List.setIfInBounds_toArray, List.set_cons_zero, List.set_cons_succ]
        refine take_at 1 46 (v := ?_) rfl rfl (by kernel_rfl) (by kernel_rfl) (by kernel_rfl) (fun _ _ _ h => h) (Or.inl ⟨by rfl, ?_⟩) hHeld ?_
        rotate_left
        · (intro w hSw; (try dsimp only at hSw); go_simp; try with_reducible rfl)
        try simp only [List.setIfInBounds_toArray, List.set_cons_zero, List.set_cons_succ]
        refine take_at 2 47 (v := ?_) rfl rfl (by kernel_rfl) (by kernel_rfl) (by kernel_rfl) (fun _ _ _ h => h) (Or.inl ⟨by rfl, ?_⟩) hHeld ?_
        rotate_left
        · (intro w hSw; (try dsimp only at hSw); go_simp; try with_reducible rfl)
        try simp only [List.setIfInBounds_toArray, List.set_cons_zero, List.set_cons_succ]
        refine take_at 4 49 (v := ?_) rfl rfl (by kernel_rfl) (by kernel_rfl) (by kernel_rfl) (fun _ _ _ h => h) (Or.inl ⟨by rfl, ?_⟩) hHeld ?_
        rotate_left
        · (intro w hSw; (try dsimp only at hSw); go_simp; try with_reducible rfl)
        try simp only [List.setIfInBounds_toArray, List.set_cons_zero, List.set_cons_succ]
        refine take_at 5 50 (v := ?_) rfl rfl (by kernel_rfl) (by kernel_rfl) (by kernel_rfl) (fun _ _ _ h => h) (Or.inl ⟨by rfl, ?_⟩) hHeld ?_
        rotate_left
        · (intro w hSw; (try dsimp only at hSw); go_simp; try with_reducible rfl)
        try simp only [List.setIfInBounds_toArray, List.set_cons_zero, List.set_cons_succ]
        refine take_at 6 51 (v := ?_) rfl rfl (by kernel_rfl) (by kernel_rfl) (by kernel_rfl) (fun _ _ _ h => h) (Or.inl ⟨by rfl, ?_⟩) hHeld ?_
        rotate_left
        · (intro w hSw; (try dsimp only at hSw); go_simp; try with_reducible rfl)
        try simp only [List.setIfInBounds_toArray, List.set_cons_zero, List.set_cons_succ]
        refine only_at 3 48 (by kernel_rfl) rfl rfl (by rfl) (fun K hK => ?_)
        go_simp
        try rw [hwn]
        refine (huv0.out _ ao co (by omega) (by omega) (HOB.out.below (by assumption))).mono ?_
        rintro e w6 ⟨v6, rfl, hown6, hb6⟩
        have hb6' : Below w3.heap.size w3 w6 := below_step (by assumption) hb6
        obtain ⟨a6, m6, c6, rfl⟩ := row_slice hown6
        have hm6 := row_len' hown6
        have hc6 := row_cap hown6
        have HB6 := Lib.hid (row_bytes' hown6)
        have hl6 : m6 ≤ 100000000 := by rw [hm6, List.length_append]; omega
        have hc6' : m6 ≤ c6 := by rw [hm6]; exact hc6
        have HM6 := Lib.hid hm6
        clear hown6 hm6 hc6
        go_wp2_with fail
        refine hK.out _ _ (by assumption) (fun hHeld2 => ?_)
        clear hK K hHeld
        have hHeld := hHeld2
        clear hHeld2
        try simp only [Act.put, List.setIfInBounds_toArray, List.set_cons_zero, List.set_cons_succ]
        refine only_at 7 52 (by kernel_rfl) rfl rfl (by rfl) (fun K hK => ?_)
        go_simp
        refine (refputtext_at a6 c6 m6 (BK ++ UU) x _ HM6.out.symm (by omega) (by omega) HB6.out).mono ?_
        rintro e w7 ⟨v7, rfl, hown7, hb7⟩
        have hb7' : Below w3.heap.size w3 w7 := below_step (by assumption) hb7
        go_wp2_with fail
        refine hK.out _ _ (by assumption) (fun hHeld2 => ?_)
        clear hK K hHeld
        have hHeld := hHeld2
        clear hHeld2
        try simp only [Act.put, List.setIfInBounds_toArray, List.set_cons_zero, List.set_cons_succ]
        refine take_at 8 4 (v := ?_) rfl rfl (by kernel_rfl) (by kernel_rfl) (by kernel_rfl) (fun _ _ _ h => h) (Or.inl ⟨by rfl, ?_⟩) hHeld ?_
        rotate_left
        · (intro w hSw; (try dsimp only at hSw); go_simp; try with_reducible rfl)
        try simp only [List.setIfInBounds_toArray, List.set_cons_zero, List.set_cons_succ]
        refine wpAnyH_done (by kernel_rfl) ?_ _
        refine NoPanic.normal ?_
        go_wp2_with fail
        have e : BK ++ UU ++ textE x.data.toList = EK := by rw [HTX.out]; exact HEnt.out.symm
        rw [e] at hown7
        have HOut5 := Lib.hid (row_lower hown7 (Below.size (by assumption)))
        clear hown7 e
        have HBC := Lib.hid hb7'
        go_roundw
        case rel =>
          refine ⟨0 + 1, by omega, by go_num, ?_⟩
          refine ⟨by rw [HEK.out]; exact row_lower HOut5.out HBW.out.size, HEN2.out _ HBC.out, HWV.out, HSN.out _ _ _ _ HOut5.out, HRis2.out, HBW.out.trans (HBC.out.mono HBW.out.size)⟩
        case measure => simp [intOf]; omega
    · obtain rfl : k = l.length := by omega
      have hdk : decide ((l.length : Int) < (l.length : Int)) = false := by simp
      have HRS : Hid (Rises K) := by
        intro i hi
        rw [HKl.out] at hi
        exact HRis.out i hi
      have HBK : Hid (blockOf K = body K l.length ++ ends K (wholes l.length) ++ four (wholes l.length)) := by
        show blockOf K = _
        rw [blockOf, HKl.out]
      have hwl : wholes l.length ≤ 3000 := by unfold wholes; omega
      have hLen : (body K l.length).length ≤ 10000000 := by
        have h2 := HPos.out l.length
        unfold pos at h2
        omega
      obtain ⟨ao, mo, co, rfl⟩ := row_slice hout
      have hmo := row_len' hout
      subst hmo
      obtain ⟨ae, me, ce, rfl⟩ := row_slice hen
      have hme := row_len' hen
      subst hme
      have HEb := Lib.hid (row_bytes' hen)
      have hLe := length_ends K (wholes l.length)
      clear HRis HKs HKl HKat H hlt hkl hen HSep
      generalize wholes l.length = W at *
      generalize hEE : ends K W = EE at *
      generalize body K l.length = BK at *
      generalize l.length = N at *
      have HFour := Lib.hid (fun w0 => four_any W (W : Int) w0 rfl (by omega))
      have HLe := Lib.hid hLe
      clear hEE
      go_wp2_with (at_builtin; refine wpList_append_bytes wr rfl _ _ 26 rfl w.heap.size 5 i0 (.int .u8 0) Try.underlying26 hi hz0 hz1 hz2 rfl _ BK.length _ rfl hout _ (4 * W) ce EE rfl HLe.out HEb.out (by omega) hB.size ?_; intro v3 w3 hown3 hg3 _; have hB3 := Below.own hB hout (Nat.le_refl _) hB.size hg3)
      refine (HFour.out _).mono ?_
      rintro e w4 ⟨v4, rfl, h4, hb4⟩
      obtain ⟨a4, m4, c4, rfl⟩ := row_slice h4
      have hm4 := row_len' h4
      subst hm4
      have HB4 := Lib.hid (row_bytes' h4)
      have hown4 := Below.row hb4 hown3
      have hB4 := hB3.trans (hb4.mono hB3.size)
      clear hown3 hg3 hB3 hb4 h4 hout hB
      go_wp2_with (at_builtin; refine wpList_append_bytes w4 rfl _ _ 26 rfl w.heap.size 5 i0 (.int .u8 0) Try.underlying26 hi hz0 hz1 hz2 rfl _ (BK.length + 4 * W) _ rfl hown4 _ 4 c4 (four W) rfl rfl HB4.out (by omega) hB4.size ?_; intro v5 w5 hown5 hg5 _; have hB5 := Below.own hB4 hown4 (Nat.le_refl _) hB4.size hg5)
      go_ret2
      refine ⟨fun _ => ⟨v5, rfl, ?_⟩, fun h => absurd HRS.out h, hB5⟩
      rw [HBK.out, bytesV_append, bytesV_append]
      have e : (BK ++ EE ++ four W).length = BK.length + 4 * W + 4 := by rw [List.length_append, List.length_append, HLe.out, length_four]
      rw [e]
      exact hown5
end Go.Proofs.Ytbamohcaamgalab
