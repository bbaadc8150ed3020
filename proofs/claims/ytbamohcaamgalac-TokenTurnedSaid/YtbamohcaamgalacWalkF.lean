/- The document's text of sixteen bytes, walked. -/
import Derived.Test.YtbamohcaamgalacWalkE
namespace Go.Proofs.Ytbamohcaamgalac
set_option linter.unusedVariables false
set_option linter.unusedSimpArgs false
open Go.RowKit

/-- the first j bits of sign t -/
def vj (X t j : Nat) : Nat := X * 4 / 2 ^ (130 - 5 * t - j) % 2 ^ j
theorem vj_lt (X t j : Nat) (h : j ≤ 5) : vj X t j < 32 := Nat.lt_of_lt_of_le (Nat.mod_lt _ (Nat.two_pow_pos j)) (Nat.pow_le_pow_right (n := 2) (by decide) h)
theorem vj_lt16 (X t j : Nat) (h : j ≤ 4) : vj X t j < 16 := Nat.lt_of_lt_of_le (Nat.mod_lt _ (Nat.two_pow_pos j)) (Nat.pow_le_pow_right (n := 2) (by decide) h)
theorem vj_step (X t j : Nat) (h : 5 * t + j < 130) : vj X t j * 2 + X * 4 / 2 ^ (129 - (5 * t + j)) % 2 = vj X t (j + 1) := by
  have := more_bits (X * 4 / 2 ^ (129 - (5 * t + j))) j 1
  rw [← div_pow_succ] at this
  rw [vj, vj, show 130 - 5 * t - j = 129 - (5 * t + j) + 1 by omega, show 130 - 5 * t - (j + 1) = 129 - (5 * t + j) by omega]
  exact this
theorem bit_low (l : List UInt8) (hl : l.length = 16) (k : Nat) (hk : k < 128) : numB l * 4 / 2 ^ (129 - k) % 2 = (l.getD (k / 8) 0).toNat / 2 ^ (7 - k % 8) % 2 := by
  rw [byte_at l (k / 8) (by omega), hl, show (256 : Nat) = 2 ^ 8 from rfl, mod_div_pow _ _ _ (by omega), ← div_pow_succ]
  rw [show 129 - k = 2 + (8 * (16 - 1 - k / 8) + (7 - k % 8)) by omega, div_pow_succ (numB l * 4) 2, show (2 : Nat) ^ 2 = 4 from rfl, Nat.mul_div_cancel _ (by decide)]
  generalize numB l / 2 ^ (8 * (16 - 1 - k / 8) + (7 - k % 8)) = Y
  obtain ⟨m, hm⟩ : ∃ m, 8 - (7 - k % 8) = m + 1 := ⟨k % 8, by omega⟩
  rw [hm, Nat.pow_succ, Nat.mod_mul_left_mod]
theorem bit_high (X k : Nat) (h1 : 128 ≤ k) (h2 : k < 130) : X * 4 / 2 ^ (129 - k) % 2 = 0 := by
  rcases (by omega : k = 128 ∨ k = 129) with rfl | rfl
  · simp; omega
  · simp; omega
theorem vj_last (X t : Nat) (h : t < 26) : vj X t 5 = X * 4 / 2 ^ (5 * (25 - t)) % 32 := by rw [vj, show 130 - 5 * t - 5 = 5 * (25 - t) by omega]
theorem signs_cut : ∀ V, V < 32 → (ByteArray.mk #[97, 98, 99, 100, 101, 102, 103, 104, 105, 106, 107, 108, 109, 110, 111, 112, 113, 114, 115, 116, 117, 118, 119, 120, 121, 122, 50, 51, 52, 53, 54, 55]).extract V (V + 1) = ⟨#[sign V]⟩ := by decide +kernel
theorem run_cut (w : World) (V : Nat) (h : V < 32) : (Instr.slice 9 (.string { data := #[97, 98, 99, 100, 101, 102, 103, 104, 105, 106, 107, 108, 109, 110, 111, 112, 113, 114, 115, 116, 117, 118, 119, 120, 121, 122, 50, 51, 52, 53, 54, 55] }) (some (.int .i64 (V : Int))) (some (.int .i64 ((V : Int) + 1))) none).run Try.prog w = .ok (.string ⟨#[sign V]⟩) w := by
  have hs : (ByteArray.mk #[97, 98, 99, 100, 101, 102, 103, 104, 105, 106, 107, 108, 109, 110, 111, 112, 113, 114, 115, 116, 117, 118, 119, 120, 121, 122, 50, 51, 52, 53, 54, 55]).size = 32 := rfl
  rw [run_slice_string _ _ _ _ _ _ _ Try.underlying9 (by omega) (by omega) (by rw [hs]; omega), show ((V : Int)).toNat = V by omega, show ((V : Int) + 1).toNat = V + 1 by omega, signs_cut V h]
theorem bit_int (c : UInt8) (n : Nat) : ((c.toNat : Int) / 2 ^ n).tmod 2 = ((c.toNat / 2 ^ n % 2 : Nat) : Int) := by
  have e : (c.toNat : Int) / 2 ^ n = ((c.toNat / 2 ^ n : Nat) : Int) := by simp
  rw [e]; rfl
set_option maxRecDepth 100000 in
set_option maxHeartbeats 1000000 in
theorem text_any (a : Option Addr) (cap : Nat) (l : List UInt8) (w : World) (hl : l.length = 16) (h : IsBytes w a l) :
    Calls Try.prog 15 #[.slice a 16 cap] w fun e w' => e = .returned (.string ⟨(text l).toArray⟩) ∧ w' = w := by
  have H := Lib.hid h
  have HL := Lib.hid hl
  clear h hl
  go_enter Try.func15, Try.ntmps15
  go_wp2_with fail
  go_loop [3, 4] (fun s i => ∃ t : Nat, t ≤ 26 ∧ i = .int .i64 t ∧ s = .string ⟨((text l).take t).toArray⟩) (fun _ i => 26 - (intOf i).toNat)
  case atStart => exact ⟨0, by omega, rfl, rfl⟩
  case round =>
    obtain ⟨t, ht, rfl, rfl⟩ := hrel
    by_cases hlt : t < 26
    · generalize hS : ((text l).take t).toArray = S
      have hSz : S.size ≤ 26 := by rw [← hS]; simp; omega
      have HS := Lib.hid hS
      clear hS
      go_wp2_with fail
      go_loop [5, 6] (fun v i => ∃ j : Nat, j ≤ 5 ∧ i = .int .i64 (5 * t + j : Nat) ∧ v = .int .i64 (vj (numB l) t j : Nat)) (fun _ i => 5 * t + 5 - (intOf i).toNat)
      case atStart => exact ⟨0, by omega, by go_num, by simp [vj, Nat.mod_one]⟩
      case round =>
        obtain ⟨j, hj, rfl, rfl⟩ := hrel
        by_cases hlj : j < 5
        · have hv := vj_lt16 (numB l) t j (by omega)
          have HV := Lib.hid (vj_step (numB l) t j (by omega))
          generalize hvj : vj (numB l) t j = V at *
          obtain ⟨k, hk⟩ : ∃ k, k = 5 * t + j := ⟨_, rfl⟩
          rw [← hk] at HV ⊢
          have hk5 : k < 5 * t + 5 := by omega
          have hk130 : k < 130 := by omega
          have hke : 5 * t ≤ k := by omega
          have HK := Lib.hid hk
          clear hk hvj
          by_cases h128 : k < 128
          · obtain ⟨b, off, rfl, hb, hc⟩ := H.out (by have := HL.out; omega)
            have hck := hc (k / 8) (by have := HL.out; omega)
            have HB := Lib.hid (bit_low l HL.out k h128)
            have hbt := bit_int (l.getD (k / 8) 0) (7 - k % 8)
            have hbl : (l.getD (k / 8) 0).toNat / 2 ^ (7 - k % 8) % 2 < 2 := Nat.mod_lt _ (by decide)
            generalize (l.getD (k / 8) 0).toNat / 2 ^ (7 - k % 8) % 2 = bt at *
            generalize l.getD (k / 8) 0 = c at *
            have hcl := c.toNat_lt
            clear hc
            go_wp2_with fail
            go_round
            case rel => exact ⟨j + 1, by omega, congrArg (Value.int .i64) (by have := HK.out; omega), congrArg (Value.int .i64) (by rw [← HV.out, HB.out]; omega)⟩
            case measure => simp [intOf]; omega
          · have HB := Lib.hid (bit_high (numB l) k (by omega) hk130)
            go_wp2_with fail
            go_round
            case rel => exact ⟨j + 1, by omega, congrArg (Value.int .i64) (by have := HK.out; omega), congrArg (Value.int .i64) (by rw [← HV.out, HB.out]; omega)⟩
            case measure => simp [intOf]; omega
        · obtain rfl : j = 5 := by omega
          have hv := vj_lt (numB l) t 5 (by omega)
          have HV := Lib.hid (vj_last (numB l) t hlt)
          generalize vj (numB l) t 5 = V at *
          have hcut := run_cut w V hv
          go_wp2_with fail
          go_round
          case rel =>
            refine ⟨t + 1, by omega, by go_num, ?_⟩
            have hta := text_take (numB l) t hlt
            rw [text, hta, ← HV.out, ← HS.out, text]
            exact congrArg Value.string (ByteArray.mk_append_mk _ [sign V])
          case measure => simp [intOf]; omega
    · obtain rfl : t = 26 := by omega
      go_wp2_with fail
      go_ret
      exact ⟨by rw [List.take_of_length_le (by rw [text, length_textN]; omega)]; rfl, rfl⟩
end Go.Proofs.Ytbamohcaamgalac
