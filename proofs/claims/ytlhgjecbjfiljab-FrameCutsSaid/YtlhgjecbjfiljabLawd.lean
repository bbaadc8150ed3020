/- FrameCuts, walked. -/
import Derived.Test.YtlhgjecbjfiljabLawb
namespace Go.Proofs.Ytlhgjecbjfiljab
set_option linter.unusedVariables false
set_option linter.unusedSimpArgs false
open Go.RowKit

/-- how many frames end at or ahead of the cut, of the first i -/
def wholes (ls : List (List UInt8)) (cut : Nat) : Nat → Nat
  | 0 => 0
  | i + 1 => if size (ls.take (i + 1)) ≤ cut then i + 1 else wholes ls cut i
theorem wholes_le (ls : List (List UInt8)) (cut : Nat) (i : Nat) : wholes ls cut i ≤ i := by
  induction i with
  | zero => exact Nat.le_refl _
  | succ i ih => rw [wholes]; split <;> omega
theorem wholes_fits (ls : List (List UInt8)) (cut : Nat) (i : Nat) : size (ls.take (wholes ls cut i)) ≤ cut := by
  induction i with
  | zero => rw [wholes]; exact Nat.zero_le _
  | succ i ih => rw [wholes]; split <;> assumption
theorem wholes_past (ls : List (List UInt8)) (cut : Nat) (i : Nat) : ∀ j, wholes ls cut i < j → j ≤ i → cut < size (ls.take j) := by
  induction i with
  | zero => intro j h1 h2; rw [wholes] at h1; omega
  | succ i ih =>
    intro j h1 h2
    rw [wholes] at h1
    split at h1
    · omega
    · rename_i hn
      rcases Nat.lt_or_ge i j with h | h
      · obtain rfl : j = i + 1 := by omega
        omega
      · exact ih j h1 h
theorem size_take_succ (ls : List (List UInt8)) (k : Nat) (h : k < ls.length) : size (ls.take (k + 1)) = size (ls.take k) + (8 + (ls.getD k []).length) := by
  rw [List.take_succ_eq_append_getElem h, size_snoc]
  simp [List.getD, h]
theorem cat_take_succ (ls : List (List UInt8)) (k : Nat) (h : k < ls.length) : cat (ls.take (k + 1)) = cat (ls.take k) ++ seal_ (ls.getD k []) := by
  unfold cat
  rw [List.take_succ_eq_append_getElem h, List.flatMap_append]
  have e : ls.getD k [] = ls[k] := by simp [List.getD, h]
  rw [e]
  simp
def endsV (ls : List (List UInt8)) (k : Nat) : List Value := (List.range k).map fun j => .int .i64 (size (ls.take (j + 1)) : Int)
theorem endsV_succ (ls : List (List UInt8)) (k : Nat) : endsV ls (k + 1) = endsV ls k ++ [.int .i64 (size (ls.take (k + 1)) : Int)] := by simp [endsV, List.range_succ]
theorem endsV_get (ls : List (List UInt8)) (k j : Nat) (h : j < k) : (endsV ls k)[j]? = some (.int .i64 (size (ls.take (j + 1)) : Int)) := by simp [endsV, h]
theorem IsRows.take {w : World} {a : Option Addr} {ls : List (List UInt8)} (h : IsRows w a ls) (k : Nat) : IsRows w a (ls.take k) := by
  intro h0
  have hlen : (ls.take k).length = min k ls.length := List.length_take
  obtain ⟨b, off, rfl, hb, hc⟩ := h (by omega)
  refine ⟨b, off, rfl, hb, fun j hj => ?_⟩
  have e : (ls.take k).getD j [] = ls.getD j [] := by
    rw [List.getD_eq_getElem?_getD, List.getElem?_take, if_pos (by omega), ← List.getD_eq_getElem?_getD]
  rw [e]
  exact hc j (by omega)
theorem size_small (ls : List (List UInt8)) (h : ∀ j, j < ls.length → (ls.getD j []).length ≤ 300) : ∀ k, k ≤ ls.length → size (ls.take k) ≤ 308 * k := by
  intro k
  induction k with
  | zero => intro _; exact Nat.le_refl _
  | succ k ih =>
    intro hk
    rw [size_take_succ ls k (by omega)]
    have := ih (by omega)
    have := h k (by omega)
    omega
theorem Try.info3 : (Try.prog.info? 3).map (fun i => (i.zero, i.size, i.bytes)) = some (some (.int .i64 0), 1, 8) := by kernel_rfl
set_option maxRecDepth 100000 in
set_option maxHeartbeats 8000000 in
theorem lawCuts (a0 : Option Addr) (cap0 : Nat) (ls : List (List UInt8)) (A : Nat) (w : World) (hl : ls.length ≤ 9223372036854775807) (hc : ls.length ≤ cap0) (hA : A < 65536) (h : IsRows w a0 ls) :
    Calls Try.prog 6 #[.slice a0 ls.length cap0, .int .u16 A] w fun e w' => e = .returned (.bool true) ∧ Below w.heap.size w w' := by
  have H0 := Lib.hid h
  obtain ⟨i0, hi, hz0, hz1, hz2⟩ := info_parts Try.info5
  obtain ⟨i3, hi3, hy0, hy1, hy2⟩ := info_parts Try.info3
  obtain ⟨i2, hi2, hx0, hx1, hx2⟩ := info_parts Try.info22
  clear h
  by_cases hb0 : 20 < ls.length
  · go_enter Try.func6, Try.ntmps6
    go_wp2_with (go_at_call 7; refine (fixed_any _).mono ?_; rintro e w1 ⟨rfl, hb1⟩)
    go_ret
    exact ⟨rfl, hb1⟩
  · obtain ⟨n, hn⟩ : ∃ n, n = ls.length := ⟨_, rfl⟩
    have HN := Lib.hid hn.symm
    rw [← hn] at hl hc hb0 ⊢
    clear hn
    go_enter Try.func6, Try.ntmps6
    go_wp2_with fail
    refine (fixed_any _).mono ?_
    rintro e w1 ⟨rfl, hB1⟩
    go_wp2_with fail
    have H1 := Lib.hid (H0.out.below hB1)
    obtain ⟨B, hB⟩ : ∃ B, B = w1.heap.size := ⟨_, rfl⟩
    have hBr : Below B w1 w1 := Below.refl _ _
    have HB := Lib.hid hB
    clear hB H0
    go_loopw [5, 6, 23] (fun al en i wr => ∃ k : Nat, k ≤ n ∧ i = .int .i64 k ∧ wr.ownsRow B 5 1 al (size (ls.take k)) (bytesV (cat (ls.take k))) ∧ wr.ownsRow B 3 1 en k (endsV ls k) ∧ Below B w1 wr ∧ Hid (∀ j, j < k → (ls.getD j []).length ≤ 300)) (fun _ _ i _ => n - (intOf i).toNat)
    case atStart => exact ⟨0, Nat.zero_le _, rfl, World.ownsRow_nil _ _ _ _, World.ownsRow_nil _ _ _ _, hBr, fun j hj => by cases hj⟩
    case round =>
      clear hBr
      obtain ⟨k, hk, rfl, hal, hen, hbr, hsm⟩ := hrel
      have hszk : size (ls.take k) ≤ 308 * k := by
        have h2 : ∀ (m : Nat), m ≤ k → size (ls.take m) ≤ 308 * m := by
          intro m
          induction m with
          | zero => intro _; exact Nat.le_refl _
          | succ m ih =>
            intro hm
            rw [size_take_succ ls m (by have := HN.out; omega)]
            have := ih (by omega)
            have := hsm.out m (by omega)
            omega
        exact h2 k (Nat.le_refl _)
      obtain ⟨aa, ma, ca, rfl⟩ := row_slice hal
      obtain ⟨ae, me, ce, rfl⟩ := row_slice hen
      have hma := row_len' hal
      have hme := row_len' hen
      subst hme
      obtain ⟨S, hS⟩ : ∃ S, S = size (ls.take me) := ⟨_, rfl⟩
      obtain ⟨C, hC⟩ : ∃ C, C = cat (ls.take me) := ⟨_, rfl⟩
      obtain ⟨E, hE⟩ : ∃ E, E = endsV ls me := ⟨_, rfl⟩
      rw [← hS] at hal hszk hma
      rw [← hC] at hal
      rw [← hE] at hen
      obtain rfl : ma = S := hma
      have HS := Lib.hid hS
      have HC := Lib.hid hC
      have HE := Lib.hid hE
      clear hS hC hE
      by_cases hlt : me < n
      · obtain ⟨b, off, rfl, hb, hcs⟩ := H1.out (by have := HN.out; omega)
        obtain ⟨ak, ck, hck, hbk⟩ := hcs me (by have := HN.out; omega)
        have hckr := (hbr.cell (p := ⟨b, off + me, none⟩) (by rw [HB.out]; exact hb)).trans hck
        have hbkr := hbk.below (show Below w1.heap.size w1 _ by rw [← HB.out]; exact hbr)
        have HSZ := Lib.hid (size_take_succ ls me (by have := HN.out; omega))
        have HCT := Lib.hid (cat_take_succ ls me (by have := HN.out; omega))
        obtain ⟨p, hp⟩ : ∃ p, p = ls.getD me [] := ⟨_, rfl⟩
        rw [← hp] at hckr hbkr HSZ HCT
        have HP := Lib.hid hp
        obtain ⟨m, hm⟩ : ∃ m, m = p.length := ⟨_, rfl⟩
        rw [← hm] at hckr HSZ
        have HM := Lib.hid hm.symm
        have HBK := Lib.hid hbkr
        clear hcs hck hbk hbkr hp hm
        by_cases hbig : 300 < m
        · go_wp2_with fail
          go_ret
          exact ⟨rfl, hB1.trans (hbr.mono (by rw [HB.out]; exact hB1.size))⟩
        · go_wp2_with fail
          refine (seal_any ak ck m p _ HM.out (by omega) HBK.out).mono ?_
          rintro e w2 ⟨v2, rfl, hown2, hb2⟩
          have hal2 := Below.row hb2 hal
          have hen2 := Below.row hb2 hen
          have hbr2 := hbr.trans (hb2.mono (Nat.le_trans (by rw [HB.out]; exact Nat.le_refl _) hbr.size))
          obtain ⟨g2, cp2, rfl, hg21, hg22, hg23⟩ := row_shape hown2 (by omega)
          have H2 := Lib.hid (isBytes_row hown2)
          have HL2 : Hid ((seal_ p).length = 8 + m) := by have : (seal_ p).length = 8 + m := by rw [length_seal, HM.out]
                                                          exact this
          have hB2s : B ≤ w2.heap.size := Nat.le_trans (by rw [HB.out]; exact Nat.le_refl _) hbr2.size
          clear hown2 hal hen hb2 hbr
          go_upto_region 13 with (at_builtin; refine wpList_append_bytes w2 rfl _ _ 22 rfl B 5 i0 (.int .u8 0) Try.underlying22 hi hz0 hz1 hz2 rfl _ ma _ rfl hal2 _ (8 + m) cp2 (seal_ p) rfl HL2.out H2.out (by omega) hB2s ?_; intro v3 w3 hown3 hg3 _)
          have hbr3 := Below.own hbr2 hal2 (Nat.le_refl _) hB2s hg3
          have hen3 := hen2.kept hg3 (own_ne hal2 hen2 (by decide))
          obtain ⟨a3, m3, c3, rfl⟩ := row_slice hown3
          obtain rfl := row_len' hown3
          have hB3s : B ≤ w3.heap.size := Nat.le_trans (by rw [HB.out]; exact Nat.le_refl _) hbr3.size
          clear hg3 hal2 hen2 hbr2
          obtain ⟨T, hT⟩ : ∃ T, T = ma + (8 + m) := ⟨_, rfl⟩
          rw [← hT] at hown3 ⊢
          have hT0 : T ≤ 100000 := by omega
          have HT := Lib.hid hT
          clear hT
          go_wp2_with (at_builtin; refine wpList_append_one w3 rfl _ _ 39 rfl B 3 i3 (.int .i64 0) 8 Try.underlying39 hi3 hy0 hy1 hy2 rfl (.slice ae me ce) me E rfl hen3 (.int .i64 (T : Int)) 1 rfl rfl (by omega) (by omega) hB3s ?_; intro v4 w4 hown4 hg4 _)
          have hbr4 := Below.own hbr3 hen3 (Nat.le_refl _) hB3s hg4
          have hal4 := hown3.kept hg4 (own_ne hen3 hown3 (by decide))
          go_roundw
          case rel =>
            refine ⟨me + 1, by omega, by go_num, ?_, ?_, hbr4, ?_⟩
            · rw [HSZ.out, HCT.out, ← HS.out, ← HC.out, ← HT.out, bytesV_append]
              exact hal4
            · rw [endsV_succ, HSZ.out, ← HS.out, ← HE.out, ← HT.out]
              exact hown4
            · intro j hj
              rcases Nat.lt_or_ge j me with h | h
              · exact hsm.out j h
              · obtain rfl : j = me := by omega
                rw [← HP.out, HM.out]; omega
          case measure => simp [intOf]; omega
      · obtain rfl : me = n := by omega
        have HLL : Hid (ls.take me = ls) := by have : ls.take me = ls := List.take_of_length_le (by rw [HN.out]; exact Nat.le_refl _)
                                               exact this
        obtain ⟨K, hK⟩ : ∃ K, K = A % (ma + 1) := ⟨_, rfl⟩
        have hKt : ((A : Int)).tmod ((ma : Int) + 1) = (K : Int) := by rw [hK]; rfl
        have hKb : K ≤ ma := by have := Nat.mod_lt A (show 0 < ma + 1 by omega); omega
        clear hK
        go_upto_region 18 with (fail)
        rw [HE.out] at hen
        go_loopw [10, 11, 48] (fun wh en i wx => ∃ j : Nat, j ≤ me ∧ i = .int .i64 j ∧ wh = .int .i64 (wholes ls K j : Int) ∧ en = .int .i64 (size (ls.take (wholes ls K j)) : Int) ∧ wx = wr) (fun _ _ i _ => me - (intOf i).toNat)
        case atStart => exact ⟨0, Nat.zero_le _, rfl, rfl, rfl, rfl⟩
        case round =>
          obtain ⟨j, hj, rfl, rfl, rfl, rfl⟩ := hrel
          by_cases hlt2 : j < me
          · obtain ⟨ge, rfl, hge, hge'⟩ := row_addr hen (by omega)
            have hce := (hen.cellAt j (by omega)).trans (endsV_get ls me j hlt2)
            have hws : wholes ls K (j + 1) = if size (ls.take (j + 1)) ≤ K then j + 1 else wholes ls K j := rfl
            have HWS := Lib.hid hws
            have hse : ∃ X, X = size (ls.take (j + 1)) := ⟨_, rfl⟩
            obtain ⟨X, hX⟩ := hse
            rw [← hX] at hce
            have HX := Lib.hid hX
            clear hws hX
            by_cases hle : X ≤ K
            · go_wp2_with fail
              go_roundw
              case rel =>
                have hw : wholes ls K (j + 1) = j + 1 := by rw [HWS.out, if_pos (by rw [← HX.out]; exact hle)]
                exact ⟨j + 1, by omega, by go_num, by rw [hw]; go_num, by rw [hw, ← HX.out], trivial⟩
              case measure => simp [intOf]; omega
            · go_wp2_with fail
              go_roundw
              case rel =>
                have hw : wholes ls K (j + 1) = wholes ls K j := by rw [HWS.out, if_neg (by rw [← HX.out]; exact hle)]
                exact ⟨j + 1, by omega, by go_num, by rw [hw], by rw [hw], trivial⟩
              case measure => simp [intOf]; omega
          · obtain rfl : j = me := by omega
            have hwl := wholes_le ls K j
            have hwf := wholes_fits ls K j
            have hwp := wholes_past ls K j
            have hsm3 : ∀ p ∈ ls, p.length < 4294967296 := by
              intro p hp
              obtain ⟨x, hx, rfl⟩ := List.getElem_of_mem hp
              have := hsm.out x (by have := HN.out; omega)
              rw [List.getD_eq_getElem?_getD, List.getElem?_eq_getElem hx, Option.getD_some] at this
              omega
            have hall := allOf_cut ls (wholes ls K j) K hsm3 (by have := HN.out; omega) hwf (fun hlt => hwp _ (by omega) (by have := HN.out; omega)) (by have := HS.out; rw [HLL.out] at this; omega)
            obtain ⟨W, hW⟩ : ∃ W, W = wholes ls K j := ⟨_, rfl⟩
            rw [← hW] at hwl hwf hall ⊢
            have hwz : size (ls.take W) ≤ 100000 := by omega
            have HALL := Lib.hid hall
            have hca := row_cap hal
            have HBS := Lib.hid (row_bytes' hal)
            have HCL : Hid ((C.take K).length = K) := by have : (C.take K).length = K := by
                                                           have h1 := hal.1
                                                           rw [length_bytesV] at h1
                                                           rw [List.length_take]; omega
                                                         exact this
            have HCC : Hid (C = cat ls) := by have : C = cat ls := by rw [HC.out, HLL.out]
                                              exact this
            have hT1 := IsRows.take (H1.out.below (show Below w1.heap.size w1 _ by rw [← HB.out]; exact hbr)) W
            have HT1 := Lib.hid hT1
            have HTL : Hid ((ls.take W).length = W) := by have : (ls.take W).length = W := by rw [List.length_take]; have := HN.out; omega
                                                          exact this
            obtain ⟨Z, hZ⟩ : ∃ Z, Z = size (ls.take W) := ⟨_, rfl⟩
            rw [← hZ] at hwz ⊢
            have HZ := Lib.hid hZ
            clear hZ
            have hcb := cutA_bytes (cap := ca) (lo := 0) (hi := K) HBS.out (by have h1 := hal.1; rw [length_bytesV] at h1; omega) (by have h1 := hal.1; rw [length_bytesV] at h1; omega)
            rw [List.drop_zero] at hcb
            have HCB := Lib.hid hcb
            clear hcb hT1 hwf hwp hall hsm3 hW hal hen
            go_wp2_with (first
              | (refine wpList_slice_h _ rfl _ _ 22 rfl 5 i0 Try.underlying22 hi hz1 aa ma ca K rfl _ _ rfl rfl (by omega) ?_; intro a5 ha5; have HA5 := Lib.hid ha5; clear ha5))
            refine (all_any a5 ca K (C.take K) _ HCL.out (by omega) (by omega) (by rw [HA5.out]; exact HCB.out)).mono ?_
            rintro e w6 ⟨v6, rfl, hown6, hb6⟩
            rw [HCC.out, HALL.out] at hown6
            rw [HCC.out, HALL.out, ← HZ.out]
            obtain ⟨a6, m6, c6, rfl⟩ := hown6.form
            obtain ⟨hm6, hr6⟩ := hown6.rows
            have hm6' : m6 = W := hm6.trans HTL.out
            subst hm6'
            have HR6 := Lib.hid hr6
            have HT6 := Lib.hid (HT1.out.below (hb6.mono (Nat.le_refl _)))
            have hbw := hB1.trans ((hbr.trans (hb6.mono (Nat.le_trans (by rw [HB.out]; exact Nat.le_refl _) hbr.size))).mono (by rw [HB.out]; exact hB1.size))
            have HBW := Lib.hid hbw
            clear hown6 hm6 hr6 hb6 hbw hbr
            go_wp2_with (go_at_call 16; refine (same_any a6 _ c6 cap0 m6 m6 (ls.take m6) (ls.take m6) _ HTL.out HTL.out (by omega) (by omega) (by exact HR6.out) (by exact HT6.out)).mono ?_; rintro e w7 ⟨rfl, k7, rfl⟩; rw [decide_eq_true rfl])
            go_ret
            exact ⟨rfl, Below.drewN HBW.out _⟩
end Go.Proofs.Ytlhgjecbjfiljab
