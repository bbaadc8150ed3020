/- A number read, by the document, walked. -/
import Derived.Test.YtbamohcaamgalaeWalkF
namespace Go.Proofs.Ytbamohcaamgalae
set_option linter.unusedVariables false
set_option linter.unusedSimpArgs false
open Go.RowKit

theorem low7_tail_le (l : List UInt8) : ∀ i, low7 (l.drop i) ≤ low7 l := by
  induction l with
  | nil => intro i; simp
  | cons c r ih =>
    intro i
    cases i with
    | zero => exact Nat.le_refl _
    | succ i =>
      rw [List.drop_succ_cons, low7]
      have := ih i
      omega
theorem rem128 (c : UInt8) : ((c.toNat : Int)).tmod 128 = ((c.toNat % 128 : Nat) : Int) ∧ ((c.toNat : Int)) % 128 = ((c.toNat % 128 : Nat) : Int) := ⟨rfl, rfl⟩
set_option maxRecDepth 100000 in
set_option maxHeartbeats 2000000 in
theorem refget_any (a : Option Addr) (cap : Nat) (l : List UInt8) (w : World) (hl : l.length ≤ 1000000000) (h : IsBytes w a l) :
    Calls Try.prog 31 #[.slice a l.length cap] w (GetIs l w) := by
  have H := Lib.hid h
  clear h
  go_enter Try.func31, Try.ntmps31
  go_wp2_with fail
  go_loop [5] (fun i => ∃ k : Nat, k ≤ l.length ∧ k ≤ 9 ∧ i = .int .i64 k ∧ Hid (∀ j, j < k → 128 ≤ (l.getD j 0).toNat)) (fun i => l.length - (intOf i).toNat)
  case atStart => exact ⟨0, Nat.zero_le _, by omega, rfl, fun j hj => by omega⟩
  case round =>
    obtain ⟨k, hk, hk9, rfl, hpre⟩ := hrel
    by_cases hlt : k < l.length
    · obtain ⟨b, off, rfl, hb, hc⟩ := H.out (by omega)
      have hck := hc k hlt
      have hdk : decide ((k : Int) < (l.length : Int)) = true := by simp; omega
      have hu := (l.getD k 0).toNat_lt
      by_cases hc128 : 128 ≤ (l.getD k 0).toNat
      · have hdc : decide (128 ≤ ((l.getD k 0).toNat : Int)) = true := decide_eq_true (by omega)
        by_cases h9 : k = 9
        · subst h9
          have HG := Lib.hid (getE_nine l hlt hpre.out (by omega))
          clear hc
          generalize (l.getD 9 0) = c at *
          go_wp2_with fail
          go_ret3
          exact getIs_bad HG.out (by decide)
        · have b10 : ((k : Int) + 1 == 10) = false := by rw [beq_eq_false_iff_ne]; omega
          have HP : Hid (∀ j, j < k + 1 → 128 ≤ (l.getD j 0).toNat) := by
            intro j hj
            by_cases hjk : j < k
            · exact hpre.out j hjk
            · obtain rfl : j = k := by omega
              exact hc128
          clear hc
          generalize (l.getD k 0) = c at *
          go_wp2_with fail
          go_round
          case rel => exact ⟨k + 1, by omega, by omega, by go_num, HP⟩
          case measure => simp [intOf]; omega
      · have hdc : decide (128 ≤ ((l.getD k 0).toNat : Int)) = false := decide_eq_false (by omega)
        have bl : ((k : Int) == (l.length : Int)) = false := by rw [beq_eq_false_iff_ne]; omega
        by_cases hZ : (l.getD k 0).toNat = 0 ∧ 0 < k
        · obtain ⟨h0, hk0⟩ := hZ
          have HG := Lib.hid (getE_zero l k hlt hk9 hpre.out h0 hk0)
          have b0 : (((l.getD k 0).toNat : Int) == 0) = true := by rw [h0]; rfl
          have d0 : decide (0 < (k : Int)) = true := decide_eq_true (by omega)
          clear hc h0
          generalize (l.getD k 0) = c at *
          go_wp2_with fail
          go_ret3
          exact getIs_bad HG.out (by decide)
        · by_cases hF : k = 9 ∧ 1 < (l.getD k 0).toNat
          · obtain ⟨h9, h1⟩ := hF
            have HG : Hid (getE l = 9) := by
              subst h9
              exact getE_nine l hlt hpre.out h1
            have b0 : (((l.getD k 0).toNat : Int) == 0) = false := by rw [beq_eq_false_iff_ne]; omega
            have b9 : ((k : Int) == 9) = true := by rw [beq_iff_eq]; omega
            have d1 : decide (1 < ((l.getD k 0).toNat : Int)) = true := decide_eq_true (by omega)
            clear hc h9 hZ
            generalize (l.getD k 0) = c at *
            go_wp2_with fail
            go_ret3
            exact getIs_bad HG.out (by decide)
          · have HG := Lib.hid (getIs_good (w := w) (getE_good l k hlt hk9 hpre.out (by omega) (fun h0 => by omega) (fun h9 => by omega)))
            have HGE := Lib.hid (getE_good l k hlt hk9 hpre.out (by omega) (fun h0 => by omega) (fun h9 => by omega))
            have hgv := getV_lt l
            rw [HGE.out.2.2] at hgv
            have hcell := hc
            have HCell := Lib.hid hc
            clear hc
            have hcases : (k = 0 ∧ (((l.getD k 0).toNat : Int) == 0) = true) ∨ ((((l.getD k 0).toNat : Int) == 0) = false ∧ ((k : Int) == 9) = true ∧ decide (1 < ((l.getD k 0).toNat : Int)) = false) ∨ ((((l.getD k 0).toNat : Int) == 0) = false ∧ ((k : Int) == 9) = false) := by
              by_cases h0 : (l.getD k 0).toNat = 0
              · exact Or.inl ⟨by omega, by rw [beq_iff_eq]; omega⟩
              · by_cases h9 : k = 9
                · exact Or.inr (Or.inl ⟨by rw [beq_eq_false_iff_ne]; omega, by rw [beq_iff_eq]; omega, decide_eq_false (by omega)⟩)
                · exact Or.inr (Or.inr ⟨by rw [beq_eq_false_iff_ne]; omega, by rw [beq_eq_false_iff_ne]; omega⟩)
            clear hZ hF hcell HGE
            generalize hL : low7 (l.take (k + 1)) = V at *
            have HL := Lib.hid hL
            clear hL
            rcases hcases with ⟨k0, b0⟩ | hcases
            · subst k0
              rw [Nat.add_zero] at hck
              generalize hcg : (l.getD 0 0) = c at *
              clear hcg
              go_wp2_with fail
              go_loop [6, 7] (fun v i => ∃ m : Nat, m ≤ 0 + 1 ∧ i = .int .i64 ((m : Int) - 1) ∧ v = .int .u64 (low7 ((l.take (0 + 1)).drop m) : Nat)) (fun _ i => (intOf i + 1).toNat)
              case atStart => exact ⟨0 + 1, Nat.le_refl _, by go_num, by rw [List.drop_of_length_le (by rw [List.length_take]; omega)]; rfl⟩
              case round =>
                obtain ⟨m, hm, rfl, rfl⟩ := hrel
                rcases Nat.eq_zero_or_pos m with rfl | hmp
                · rw [List.drop_zero, HL.out]
                  go_wp2_with fail
                  go_ret3
                  exact HG.out
                · obtain ⟨n, rfl⟩ : ∃ n, m = n + 1 := ⟨m - 1, by omega⟩
                  have hst := low7_drop l n (0 + 1) (by omega) (by omega)
                  have hle := low7_tail_le (l.take (0 + 1)) n
                  rw [HL.out] at hle
                  have hcn := HCell.out n (by omega)
                  obtain ⟨r1, r2⟩ := rem128 (l.getD n 0)
                  have hmm : (l.getD n 0).toNat % 128 < 128 := Nat.mod_lt _ (by decide)
                  rw [show ((n + 1 : Nat) : Int) - 1 = (n : Int) by omega]
                  generalize low7 ((l.take (0 + 1)).drop (n + 1)) = A at *
                  generalize hB : low7 ((l.take (0 + 1)).drop n) = B at *
                  have HB := Lib.hid hB
                  have HST := Lib.hid hst
                  have hfit : A * 128 + (l.getD n 0).toNat % 128 < 18446744073709551616 := by omega
                  clear hB hst hle
                  generalize (l.getD n 0).toNat % 128 = q at *
                  generalize (l.getD n 0) = d at *
                  go_wp2_with fail
                  go_round
                  case rel => exact ⟨n, by omega, rfl, by rw [HB.out, HST.out]; go_num⟩
                  case measure => simp [intOf]
            · rcases hcases with ⟨b0, b9, d1⟩ | ⟨b0, b9⟩
              all_goals
                generalize hcg : (l.getD k 0) = c at *
                clear hcg
                go_wp2_with fail
                go_loop [6, 7] (fun v i => ∃ m : Nat, m ≤ k + 1 ∧ i = .int .i64 ((m : Int) - 1) ∧ v = .int .u64 (low7 ((l.take (k + 1)).drop m) : Nat)) (fun _ i => (intOf i + 1).toNat)
                case atStart => exact ⟨k + 1, Nat.le_refl _, by go_num, by rw [List.drop_of_length_le (by rw [List.length_take]; omega)]; rfl⟩
                case round =>
                  obtain ⟨m, hm, rfl, rfl⟩ := hrel
                  rcases Nat.eq_zero_or_pos m with rfl | hmp
                  · rw [List.drop_zero, HL.out]
                    go_wp2_with fail
                    go_ret3
                    exact HG.out
                  · obtain ⟨n, rfl⟩ : ∃ n, m = n + 1 := ⟨m - 1, by omega⟩
                    have hst := low7_drop l n (k + 1) (by omega) (by omega)
                    have hle := low7_tail_le (l.take (k + 1)) n
                    rw [HL.out] at hle
                    have hcn := HCell.out n (by omega)
                    obtain ⟨r1, r2⟩ := rem128 (l.getD n 0)
                    have hmm : (l.getD n 0).toNat % 128 < 128 := Nat.mod_lt _ (by decide)
                    rw [show ((n + 1 : Nat) : Int) - 1 = (n : Int) by omega]
                    generalize low7 ((l.take (k + 1)).drop (n + 1)) = A at *
                    generalize hB : low7 ((l.take (k + 1)).drop n) = B at *
                    have HB := Lib.hid hB
                    have HST := Lib.hid hst
                    have hfit : A * 128 + (l.getD n 0).toNat % 128 < 18446744073709551616 := by omega
                    clear hB hst hle
                    generalize (l.getD n 0).toNat % 128 = q at *
                    generalize (l.getD n 0) = d at *
                    go_wp2_with fail
                    go_round
                    case rel => exact ⟨n, by omega, rfl, by rw [HB.out, HST.out]; go_num⟩
                    case measure => simp [intOf]
    · obtain rfl : k = l.length := by omega
      have HG := Lib.hid (getE_short l hk9 hpre.out)
      have hdk : decide ((l.length : Int) < (l.length : Int)) = false := by simp
      have bl : ((l.length : Int) == (l.length : Int)) = true := by simp
      go_wp2_with fail
      go_ret3
      exact getIs_bad HG.out (by decide)
end Go.Proofs.Ytbamohcaamgalae
