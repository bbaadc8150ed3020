/- TokenTurned, walked. -/
import Derived.Test.YtbamohcaamgalacLawb
namespace Go.Proofs.Ytbamohcaamgalac
set_option linter.unusedVariables false
set_option linter.unusedSimpArgs false
open Go.RowKit

theorem turnBit_int (d : UInt8) (p : Nat) : bits BinOp.xor IntKind.u8 (d.toNat : Int) ((2 : Int) ^ (p % 8) % 256) = (((d ^^^ UInt8.ofNat (2 ^ (p % 8))).toNat : Nat) : Int) := by
  have h8 : p % 8 < 8 := Nat.mod_lt _ (by decide)
  have hp : 2 ^ (p % 8) < 256 := Nat.lt_of_lt_of_le (Nat.pow_lt_pow_right (by decide) h8) (by decide)
  have hc := d.toNat_lt
  have := u8_xor_nat d.toNat (2 ^ (p % 8)) (by omega) hp
  rw [Int.natCast_pow] at this
  have hq : ((2 : Nat) : Int) ^ (p % 8) % 256 = ((2 : Nat) : Int) ^ (p % 8) := by
    have e : ((2 : Nat) : Int) ^ (p % 8) = ((2 ^ (p % 8) : Nat) : Int) := by simp
    rw [e]; exact Int.emod_eq_of_lt (Int.natCast_nonneg _) (Int.ofNat_lt.2 hp)
  rw [UInt8.toNat_xor, UInt8.toNat_ofNat', Nat.mod_eq_of_lt hp, show (2 : Int) = ((2 : Nat) : Int) from rfl, hq]
  exact this
theorem place_turn (T post : List UInt8) (p : Nat) (h : p / 8 < T.length) :
    (T ++ post).set (p / 8) (T.getD (p / 8) 0 ^^^ UInt8.ofNat (2 ^ (p % 8))) = turn T p ++ post := by
  rw [turn, List.set_append_left _ _ h]
theorem place_get (T post : List UInt8) (i : Nat) (h : i < T.length) : (T ++ post).getD i 0 = T.getD i 0 := by
  rw [List.getD_eq_getElem?_getD, List.getElem?_append_left h, ← List.getD_eq_getElem?_getD]
theorem testBit_int (D j : Nat) : ((D : Int) / 2 ^ j).tmod 2 = if D.testBit j then 1 else 0 := by
  have e : ((D : Int) / 2 ^ j).tmod 2 = ((D / 2 ^ j % 2 : Nat) : Int) := by
    have : ((D : Int) / 2 ^ j) = ((D / 2 ^ j : Nat) : Int) := by simp
    rw [this]; rfl
  rw [e, Nat.testBit_eq_decide_div_mod_eq]
  by_cases h : D / 2 ^ j % 2 = 1
  · rw [h]; simp
  · have : D / 2 ^ j % 2 = 0 := by omega
    rw [this]; rfl
set_option maxRecDepth 100000 in
set_option maxHeartbeats 4000000 in
theorem lawTurned (id rev A D : Nat) (w : World) (hid : id < 4294967296) (hrev : rev < 18446744073709551616) (hA : A < 256) (hD : D < 4294967296) :
    Calls Try.prog 5 #[.int .u32 id, .int .u64 rev, .int .u8 A, .int .u32 D] w fun e w' => e = .returned (.bool true) ∧ Below w.heap.size w w' := by
  have HM := Lib.hid (fun w => bytes_any id rev w hid hrev)
  obtain ⟨K, hKK⟩ : ∃ K, K = A % 96 := ⟨_, rfl⟩
  have hKt : ((A : Int)).tmod 96 = (K : Int) := by rw [hKK]; rfl
  have hK : K < 96 := by rw [hKK]; exact Nat.mod_lt _ (by decide)
  have HT := Lib.hid (readE_turned id rev K D (by omega))
  have hlh := length_head id rev
  have hmade : made id rev = head12 id rev ++ four (sum (head12 id rev)) := rfl
  have hl4 := length_four (sum (head12 id rev))
  rw [hmade] at HM
  generalize four (sum (head12 id rev)) = F at *
  generalize head12 id rev = H at *
  have HLH := Lib.hid hlh
  have HL4 := Lib.hid hl4
  have hs0 : turns H K D 0 = H := rfl
  rw [← hs0] at HM
  have ht0 : turned 12 K D 0 = false := rfl
  have HT0 := Lib.hid ht0
  clear hKK hrev hmade hlh hl4 hs0 ht0
  go_enter Try.func5, Try.ntmps5
  go_wp2_with fail
  refine (fixed_any _).mono ?_
  rintro e w0 ⟨rfl, hb0⟩
  go_wp2_with fail
  refine (HM.out _).mono ?_
  rintro e w1 ⟨v1, rfl, hown, hb1⟩
  have hB1 := hb0.trans (hb1.mono hb0.size)
  obtain ⟨g, c, rfl, hg1, hg2, hc16⟩ := row_shape hown (by omega)
  have hwg : w.heap.size ≤ g := Nat.le_trans hb0.size hg1
  have hown' := row_base hown (b := w.heap.size) hwg
  clear hown hg1 hg2 hb0 hb1 HM
  go_wp2_with fail
  go_loopw [10, 21] (fun t i wr => ∃ j : Nat, j ≤ 32 ∧ i = .int .i64 j ∧ t = .bool (turned 12 K D j) ∧ wr.ownsRow w.heap.size 5 1 (.slice (some ⟨g, 0, none⟩) 16 c) 16 (bytesV (turns H K D j ++ F)) ∧ Below w.heap.size w wr) (fun _ i _ => 32 - (intOf i).toNat)
  case atStart => exact ⟨0, by omega, rfl, by rw [HT0.out], hown', hB1⟩
  case round =>
    clear hown' hB1
    obtain ⟨j, hj, rfl, rfl, hownj, hBj⟩ := hrel
    by_cases hlt : j < 32
    · have hT := length_turns H K D j
      rw [HLH.out] at hT
      have htb := testBit_int D j
      have htu := turned_succ 12 K D j
      have hts : turns H K D (j + 1) = if D.testBit j && decide (K + j < 8 * 12) then turn (turns H K D j) (K + j) else turns H K D j := by rw [turns, HLH.out]
      obtain ⟨p, hp⟩ : ∃ p, p = K + j := ⟨_, rfl⟩
      have hpi : (K : Int) + (j : Int) = (p : Int) := by omega
      rw [← hp] at htu hts
      have hpb : p < 128 := by omega
      clear hp
      by_cases hbt : D.testBit j = true
      · rw [if_pos hbt] at htb
        rw [hbt, Bool.true_and] at htu hts
        by_cases hpl : p < 96
        · rw [if_pos (decide_eq_true (by omega))] at hts
          have htu' : turned 12 K D (j + 1) = true := by rw [htu, decide_eq_true (by omega), Bool.or_true]
          have hpt := place_turn (turns H K D j) F p (by omega)
          have hpg := place_get (turns H K D j) F (p / 8) (by omega)
          rw [← hts] at hpt
          generalize hTN : turns H K D (j + 1) = T' at *
          have HTN := Lib.hid hTN.symm
          generalize turns H K D j = T at *
          have hlen : (T ++ F).length = 16 := by rw [List.length_append, hT, HL4.out]
          have hcg := (hownj.cellAt (p / 8) (by omega)).trans (bytesV_get (T ++ F) (p / 8) (by omega))
          rw [hpg] at hcg
          generalize T.getD (p / 8) 0 = d at *
          have hset := bytesV_set (T ++ F) (p / 8) (d ^^^ UInt8.ofNat (2 ^ (p % 8)))
          rw [hpt] at hset
          have hfg := hownj.frozenAt (p / 8)
          have HS := Lib.hid hset
          have HTT := Lib.hid htu'
          have HB2 := Lib.hid (turnBit_int d p)
          clear hset htu htu' hpt hts hT hpg hTN
          have hu := d.toNat_lt
          go_wp2_with fail
          go_roundw
          case rel =>
            rw [HB2.out]
            refine ⟨j + 1, by omega, by go_num, by rw [HTT.out], ?_, hBj.setCell hwg _⟩
            have := (hownj.stored (p / 8) (.int .u8 ((d ^^^ UInt8.ofNat (2 ^ (p % 8))).toNat : Int))).1
            rw [HS.out] at this
            rw [← HTN.out]
            exact this
          case measure => simp [intOf]; omega
        · rw [decide_eq_false (by omega)] at htu hts
          rw [if_neg (by decide)] at hts
          have HTT := Lib.hid htu
          have HTS := Lib.hid hts
          clear htu hts
          go_wp2_with fail
          go_roundw
          case rel => exact ⟨j + 1, by omega, by go_num, by rw [HTT.out, Bool.or_false], by rw [HTS.out]; exact hownj, hBj⟩
          case measure => simp [intOf]; omega
      · have hbt' : D.testBit j = false := by simpa using hbt
        rw [if_neg hbt] at htb
        rw [hbt', Bool.false_and] at htu hts
        rw [if_neg (by decide)] at hts
        have HTT := Lib.hid htu
        have HTS := Lib.hid hts
        clear htu hts
        go_wp2_with fail
        go_roundw
        case rel => exact ⟨j + 1, by omega, by go_num, by rw [HTT.out, Bool.or_false], by rw [HTS.out]; exact hownj, hBj⟩
        case measure => simp [intOf]; omega
    · obtain rfl : j = 32 := by omega
      have hbs := row_bytes' hownj
      have hL : (turns H K D 32 ++ F).length = 16 := by rw [List.length_append, length_turns, HLH.out, HL4.out]
      have HX := Lib.hid (fun w => text_any (some ⟨g, 0, none⟩) c (turns H K D 32 ++ F) w hL)
      have HB := Lib.hid hbs
      clear hownj hbs hL
      have HSZ := Lib.hid (size_text (turns H K D 32 ++ F))
      generalize turns H K D 32 ++ F = L at *
      generalize turned 12 K D 32 = tt at *
      go_wp2_with fail
      refine (HX.out _ HB.out).mono ?_
      rintro e w2 ⟨rfl, rfl⟩
      go_wp2_with fail
      refine (read_any _ _ (by rw [HSZ.out]; omega)).mono ?_
      rintro e w3 ⟨rfl, hb3⟩
      rw [toList_text, HT.out]
      have hB3 := hBj.trans (hb3.mono hBj.size)
      generalize rid (text L) = I at *
      generalize rrev (text L) = R at *
      cases tt with
      | true =>
        rw [if_pos rfl]
        go_wp2_with fail
        go_ret
        exact ⟨rfl, hB3⟩
      | false =>
        rw [if_neg (by decide)]
        go_wp2_with fail
        go_ret
        exact ⟨rfl, hB3⟩
end Go.Proofs.Ytbamohcaamgalac
