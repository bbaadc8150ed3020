/- Whether a key may be in a filter: the program's. -/
import Derived.Test.YtlhgjecbjfiljaaWalkD
namespace Go.Proofs.Ytlhgjecbjfiljaa
open Go.RowKit

/-- v is a slice of bytes, and they are l. -/
def IsBytes (w : World) (a : Option Addr) (l : List UInt8) : Prop :=
  0 < l.length → ∃ b off, a = some ⟨b, off, none⟩ ∧ b < w.heap.size ∧ ∀ k, k < l.length → w.cell? ⟨b, off + k, none⟩ = some (.int .u8 ((l.getD k 0).toNat : Int))

theorem mayBits_succ (h size : Nat) (l : List UInt8) (k : Nat) : mayBits h size l (k + 1) = (mayBits h size l k && bitAt l (place h size k)) := by simp [mayBits, List.range_succ]
theorem mayBits_false (h size : Nat) (l : List UInt8) (j k : Nat) (hj : j < k) (hb : bitAt l (place h size j) = false) : mayBits h size l k = false := by
  unfold mayBits
  rw [List.all_eq_false]
  exact ⟨j, List.mem_range.2 hj, by rw [hb]; exact Bool.false_ne_true⟩
theorem bitAt_int (l : List UInt8) (p : Nat) : (bits BinOp.and IntKind.u8 ((l.getD (p / 8) 0).toNat : Int) ((2 ^ (p % 8) : Nat) : Int) == 0) = !bitAt l p := by
  have h8 : p % 8 < 8 := Nat.mod_lt _ (by decide)
  have hp : 2 ^ (p % 8) < 256 := Nat.lt_of_lt_of_le (Nat.pow_lt_pow_right (by decide) h8) (by decide)
  have hc := (l.getD (p / 8) 0).toNat_lt
  rw [u8_and_nat _ _ (by omega) hp]
  unfold bitAt
  rw [Bool.eq_iff_iff]
  simp only [bne, Bool.not_not, beq_iff_eq, Int.natCast_eq_zero]
  rw [← UInt8.toNat_inj]
  simp [Nat.mod_eq_of_lt hp]
theorem bitAt_pow (l : List UInt8) (p : Nat) : (bits BinOp.and IntKind.u8 ((l.getD (p / 8) 0).toNat : Int) ((2 : Int) ^ (p % 8)) == 0) = !bitAt l p := by
  have h := bitAt_int l p
  rw [Int.natCast_pow] at h
  exact h
set_option maxHeartbeats 1000000 in
theorem may_any (a : Option Addr) (cap : Nat) (l : List UInt8) (s : ByteArray) (w : World) (hl : l.length ≤ 3000) (hs : s.size ≤ 300) (h : IsBytes w a l) :
    Calls Try.prog 13 #[.slice a l.length cap, .string s] w fun e w' => e = .returned (.bool (may l s.data.toList)) ∧ Below w.heap.size w w' := by
  by_cases h9 : l.length < 9
  · have HM := Lib.hid (show may l s.data.toList = true by rw [may, if_pos h9])
    clear h
    go_enter Try.func13, Try.ntmps13
    go_wp2
    go_ret
    exact ⟨ret_bool HM.out.symm, Below.refl _ _⟩
  · obtain ⟨b, off, rfl, hb, hc⟩ := h (by omega)
    obtain ⟨n, hn⟩ : ∃ n, n + 1 = l.length := ⟨l.length - 1, by omega⟩
    have hck := hc n (by omega)
    obtain ⟨c, hcc⟩ : ∃ c, c = l.getD n 0 := ⟨_, rfl⟩
    rw [← hcc] at hck
    have HC := Lib.hid hcc
    clear hcc
    have hM : may l s.data.toList = if c.toNat = 0 ∨ 30 < c.toNat then true else mayBits (hash s.data.toList) (8 * n) l c.toNat := by
      rw [may, if_neg h9]; simp only [← hn, Nat.add_sub_cancel, ← HC.out]
    have HM := Lib.hid hM
    clear hM
    have HL := Lib.hid hn
    have HCS := Lib.hid hc
    clear hc
    have hu := c.toNat_lt
    rw [← hn] at hl ⊢
    have h8 : 8 ≤ n := by omega
    clear hn h9
    by_cases h0 : c.toNat = 0
    · have HF : Hid (may l s.data.toList = true) := by rw [HM.out, if_pos (Or.inl h0)]; rfl
      have d1 : ((c.toNat : Int) == 0) = true := by simp; omega
      go_enter Try.func13, Try.ntmps13
      go_wp2
      go_ret
      exact ⟨ret_bool HF.out.symm, Below.refl _ _⟩
    · by_cases h30 : 30 < c.toNat
      · have HF : Hid (may l s.data.toList = true) := by rw [HM.out, if_pos (Or.inr h30)]; rfl
        have d1 : ((c.toNat : Int) == 0) = false := by simp; omega
        go_enter Try.func13, Try.ntmps13
        go_wp2
        go_ret
        exact ⟨ret_bool HF.out.symm, Below.refl _ _⟩
      · have d1 : ((c.toNat : Int) == 0) = false := by simp; omega
        go_enter Try.func13, Try.ntmps13
        go_wp2_with (go_at_call 16; refine (start_any s _ _ hs (by omega) (by omega)).mono ?_; rintro e w1 ⟨rfl, hb1⟩; have hck1 := (hb1.cell (p := ⟨b, off + n, none⟩) hb).trans hck; have hbs : b < w1.heap.size := Nat.lt_of_lt_of_le hb hb1.size)
        obtain ⟨w2, hw2⟩ : ∃ w2, w2 = w1.alloc (.cells #[.int .u64 (((hash s.data.toList % 4294967296 : Nat) : Int)), .int .u64 ((hash s.data.toList / 4294967296 ||| 1 : Nat) : Int), .int .u64 ((8 * n : Nat) : Int)] 35) := ⟨_, rfl⟩
        have hP : Probe w2 w1.heap.size (hash s.data.toList % 4294967296 + 0 * (hash s.data.toList / 4294967296 ||| 1)) (hash s.data.toList / 4294967296 ||| 1) (8 * n) := by
          rw [hw2, Nat.zero_mul, Nat.add_zero]; exact heap_alloc_new _ _
        have hB2 : Below w.heap.size w w2 := by rw [hw2]; exact hb1.alloc hb1.size _
        have hW2 : w1.alloc (.cells #[.int .u64 ((hash s.data.toList : Int) % 4294967296), .int .u64 ((hash s.data.toList / 4294967296 ||| 1 : Nat) : Int), .int .u64 ((n : Int) * 8)] 35) = w2 := by
          rw [hw2, Nat.mul_comm 8 n]; rfl
        rw [hW2]
        clear hW2 hw2 hck1
        have hyb : (hash s.data.toList / 4294967296 ||| 1) ≤ 4294967296 := by
          have ho := or_one (hash s.data.toList / 4294967296)
          have hl := hash_lt s.data.toList
          split at ho <;> omega
        have hxb : hash s.data.toList % 4294967296 < 4294967296 := Nat.mod_lt _ (by decide)
        have HX := Lib.hid (fun j => show place (hash s.data.toList) (8 * n) j = (hash s.data.toList % 4294967296 + j * (hash s.data.toList / 4294967296 ||| 1)) % (8 * n) from rfl)
        generalize hash s.data.toList = x at *
        generalize x % 4294967296 = X at *
        generalize x / 4294967296 ||| 1 = Y at *
        obtain ⟨g, hg⟩ : ∃ g, g = w1.heap.size := ⟨_, rfl⟩
        have hwg : w.heap.size ≤ g := by rw [hg]; exact hb1.size
        rw [← hg] at hP ⊢
        clear hg hb1 hbs
        go_loopw [36] (fun i wr => ∃ j : Nat, j ≤ c.toNat ∧ i = .int .u8 j ∧ Probe wr g (X + j * Y) Y (8 * n) ∧ Below w.heap.size w wr ∧ Hid (mayBits x (8 * n) l j = true)) (fun i _ => c.toNat - (intOf i).toNat)
        case atStart => exact ⟨0, Nat.zero_le _, rfl, hP, hB2, rfl⟩
        case round =>
          obtain ⟨j, hj, rfl, hPj, hBj, hmj⟩ := hrel
          have hjY := Nat.mul_le_mul (show j ≤ 30 by omega) hyb
          by_cases hlt : j < c.toNat
          · have hsucc := Lib.hid (mayBits_succ x (8 * n) l j)
            have hpl := place_lt x (8 * n) j (by omega)
            have hpc := HCS.out (place x (8 * n) j / 8) (by have := HL.out; omega)
            have hbit := bitAt_pow l (place x (8 * n) j)
            rw [HX.out] at hpc hbit
            have HX' := Lib.hid (HX.out j)
            rw [HX'.out] at hpl
            generalize hq : (X + j * Y) % (8 * n) = p at *
            have HQ := Lib.hid hq
            clear hq
            generalize l.getD (p / 8) 0 = d at hpc hbit
            by_cases hbt : bitAt l p = true
            · have hbe : (bits BinOp.and IntKind.u8 (d.toNat : Int) ((2 : Int) ^ (p % 8)) == 0) = false := by rw [hbit, hbt]; rfl
              have HS : Hid (mayBits x (8 * n) l (j + 1) = true) := by rw [hsucc.out, hmj.out, HX'.out, hbt]; rfl
              clear hbit
              go_wp2_with (go_at_call 18; refine (next_any _ _ _ _ p _ hPj HQ.out (by omega) (by omega) (by omega) (by omega)).mono ?_; rintro e w3 ⟨rfl, hP3, hg3⟩; have hB3 := hBj.grown hg3 hBj.size (fun k hk => by cases hk; exact hwg); have hpc3 := (hB3.cell (p := ⟨b, off + p / 8, none⟩) hb).trans hpc)
              go_roundw
              case rel => exact ⟨j + 1, by omega, by go_num, by rw [Nat.add_mul, Nat.one_mul, ← Nat.add_assoc]; exact hP3, hB3, HS⟩
              case measure => simp [intOf]; omega
            · have hbt' : bitAt l p = false := by simpa using hbt
              have hbe : (bits BinOp.and IntKind.u8 (d.toNat : Int) ((2 : Int) ^ (p % 8)) == 0) = true := by rw [hbit, hbt']; rfl
              have HF : Hid (may l s.data.toList = false) := by
                rw [HM.out, if_neg (by omega), mayBits_false x (8 * n) l j c.toNat hlt (by rw [HX'.out]; exact hbt')]; rfl
              clear hbit hbt
              go_wp2_with (go_at_call 18; refine (next_any _ _ _ _ p _ hPj HQ.out (by omega) (by omega) (by omega) (by omega)).mono ?_; rintro e w3 ⟨rfl, hP3, hg3⟩; have hB3 := hBj.grown hg3 hBj.size (fun k hk => by cases hk; exact hwg); have hpc3 := (hB3.cell (p := ⟨b, off + p / 8, none⟩) hb).trans hpc)
              go_ret
              exact ⟨ret_bool HF.out.symm, hB3⟩
          · obtain rfl : j = c.toNat := by omega
            have HF : Hid (may l s.data.toList = true) := by rw [HM.out, if_neg (by omega)]; exact hmj.out
            go_wp2
            go_ret
            exact ⟨ret_bool HF.out.symm, hBj⟩
end Go.Proofs.Ytlhgjecbjfiljaa
