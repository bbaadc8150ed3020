/- The sums of bytes. -/
import Derived.Test.YtbamohcaamgalaeWalkA
namespace Go.Proofs.Ytbamohcaamgalae
set_option linter.unusedVariables false
set_option linter.unusedSimpArgs false
open Go.RowKit

theorem ret_u32 {a b : Int} (h : a = b) : Ending.returned (.int .u32 a) = .returned (.int .u32 b) := by rw [h]
theorem take_snoc8 (l : List UInt8) (k : Nat) (h : k < l.length) : l.take (k + 1) = l.take k ++ [l.getD k 0] := by
  rw [List.take_succ_eq_append_getElem h]
  simp [List.getD, h]
theorem crcRun_take (s : Nat) (l : List UInt8) (k : Nat) (h : k < l.length) : crcRun s (l.take (k + 1)) = crcByte (crcRun s (l.take k)) (l.getD k 0) := by
  rw [take_snoc8 l k h, crcRun_snoc]
theorem xor_lt8 (s : Nat) (c : UInt8) : s % 256 ^^^ c.toNat < 256 := by
  have hc := c.toNat_lt
  have := Nat.xor_lt_two_pow (n := 8) (x := s % 256) (y := c.toNat) (by omega) (by omega)
  omega
theorem index_int (s : Nat) (c : UInt8) : bits BinOp.xor IntKind.u8 ((s : Int) % 256) (c.toNat : Int) = ((s % 256 ^^^ c.toNat : Nat) : Int) := by
  have hc := c.toNat_lt
  have := u8_xor_nat (s % 256) c.toNat (by omega) (by omega)
  exact this
theorem cell_table (s : Nat) (c : UInt8) (hs : s < 4294967296) : bits BinOp.xor IntKind.u32 ((s : Int) / 256) ((crcSteps 8 (s % 256 ^^^ c.toNat) : Nat) : Int) = ((crcByte s c : Nat) : Int) := by
  have hx := xor_lt8 s c
  have := u32_xor_nat (s / 256) (crcSteps 8 (s % 256 ^^^ c.toNat)) (by omega) (crcSteps_lt 8 _ (by omega))
  rw [crcByte_table]
  exact this

theorem xorc_int (s : Nat) (c : UInt8) (hs : s < 4294967296) : bits BinOp.xor IntKind.u32 (s : Int) ((c.toNat : Int) % 4294967296) = ((s ^^^ c.toNat : Nat) : Int) := by
  have hc := c.toNat_lt
  rw [show (c.toNat : Int) % 4294967296 = (c.toNat : Int) by omega]
  exact u32_xor_nat s c.toNat hs (u8_lt32 c)
theorem not_int (s : Nat) (hs : s < 4294967296) : bits BinOp.xor IntKind.u32 IntKind.u32.max (s : Int) = ((s ^^^ 4294967295 : Nat) : Int) := by
  have h := u32_xor_nat 4294967295 s (by decide) hs
  rw [Nat.xor_comm] at h
  have e : IntKind.u32.max = ((4294967295 : Nat) : Int) := by decide
  rw [e]
  exact h
theorem xorP_int (t : Nat) (h : t < 4294967296) : bits BinOp.xor IntKind.u32 ((t : Int) / 2) 3988292384 = ((t / 2 ^^^ 3988292384 : Nat) : Int) := u32_xor_nat (t / 2) 3988292384 (by omega) (by decide)
set_option maxRecDepth 100000 in
set_option maxHeartbeats 1000000 in
theorem sum_any (a : Option Addr) (cap : Nat) (l : List UInt8) (w : World) (hl : l.length ≤ 1000000) (h : IsBytes w a l) :
    Calls Try.prog 38 #[.slice a l.length cap] w fun e w' => e = .returned (.int .u32 (sum l : Int)) ∧ Below w.heap.size w w' := by
  have H := Lib.hid h
  clear h
  obtain ⟨i0, z0, hi, hz, hzs, his⟩ := info43_parts
  go_enter Try.func38, Try.ntmps38
  go_wp2_with fail
  refine (table_any _).mono ?_
  rintro e w1 ⟨T, rfl, hT, hTc, hb1⟩
  have hsz' : (Try.prog.info? 73).map (·.size) = some T.size := by rw [hT, hi, Option.map_some, his]
  have hone : T.all (·.oneCell') = true := by
    rw [Array.all_eq_true]
    intro j hj
    have := hTc j (by omega)
    rw [Array.getElem?_eq_getElem hj] at this
    rw [Option.some.inj this]
    rfl
  have HT := Lib.hid hTc
  have HS' := Lib.hid hsz'
  have HO := Lib.hid hone
  have HZ : Hid (z0.cells.size = T.size) := by rw [hT]; exact hzs
  clear hT hTc hsz' hone
  go_wp2_with (first
    | (refine wpList_alloc_row w1 rfl 73 rfl i0 z0 hi hz ?_; intro w2 hh2 hg2 hs2)
    | (refine wpList_store_arr w2 rfl rfl 73 _ _ rfl w1.heap.size 73 z0.cells T rfl rfl hh2 HS'.out HZ.out HO.out ?_; intro w3 hh3 hg3 hs3))
  have hB3 : Below w.heap.size w w3 := (Below.none hb1 hb1.size hg2).grown hg3 (by have := hb1.size; omega) (fun k hk => by cases hk; exact hb1.size)
  obtain ⟨g, hg⟩ : ∃ g, g = w1.heap.size := ⟨_, rfl⟩
  rw [← hg] at hh3 ⊢
  have HH := Lib.hid hh3
  clear hg hh3 hh2 hg2 hs2 hg3 hs3 hb1
  have H3 := Lib.hid (H.out.below hB3)
  go_loop [4, 10] (fun s i => ∃ k : Nat, k ≤ l.length ∧ i = .int .i64 k ∧ s = .int .u32 (crcRun 4294967295 (l.take k) : Int)) (fun _ i => l.length - (intOf i).toNat)
  case atStart => exact ⟨0, Nat.zero_le _, rfl, rfl⟩
  case round =>
    obtain ⟨k, hk, rfl, rfl⟩ := hrel
    have hs := crcRun_lt (l.take k) 4294967295 (by decide)
    by_cases hlt : k < l.length
    · obtain ⟨b, off, rfl, hb, hc⟩ := H3.out (by omega)
      have hck := hc k hlt
      have HR := Lib.hid (crcRun_take 4294967295 l k hlt)
      generalize l.getD k 0 = c at *
      generalize crcRun 4294967295 (l.take k) = s at *
      have hu := c.toNat_lt
      have hx := xor_lt8 s c
      have hix := index_int s c
      have hct : w3.cell? ⟨g, s % 256 ^^^ c.toNat, none⟩ = some (.int .u32 (crcSteps 8 (s % 256 ^^^ c.toNat) : Int)) := (cell_of_row w3 g _ T 73 (0, 0) HH.out).trans (HT.out _ hx)
      have HCT := Lib.hid (cell_table s c hs)
      generalize s % 256 ^^^ c.toNat = x at *
      clear hc
      go_wp2_with fail
      go_round
      case rel => exact ⟨k + 1, by omega, by go_num, by rw [HR.out, HCT.out]⟩
      case measure => simp [intOf]; omega
    · obtain rfl : k = l.length := by omega
      rw [List.take_length] at hs ⊢
      have HN := Lib.hid (not_int _ hs)
      have HSU : Hid (sum l = crcRun 4294967295 l ^^^ 4294967295) := rfl
      generalize crcRun 4294967295 l = s at *
      go_wp2_with fail
      go_ret
      exact ⟨ret_u32 (by rw [HN.out, HSU.out]), hB3⟩

set_option maxRecDepth 100000 in
set_option maxHeartbeats 1000000 in
theorem refsum_any (a : Option Addr) (cap : Nat) (l : List UInt8) (w : World) (hl : l.length ≤ 1000000) (h : IsBytes w a l) :
    Calls Try.prog 25 #[.slice a l.length cap] w fun e w' => e = .returned (.int .u32 (sum l : Int)) ∧ w' = w := by
  have H3 := Lib.hid h
  clear h
  go_enter Try.func25, Try.ntmps25
  go_wp2_with fail
  go_loop [3, 10] (fun s i => ∃ k : Nat, k ≤ l.length ∧ i = .int .i64 k ∧ s = .int .u32 (crcRun 4294967295 (l.take k) : Int)) (fun _ i => l.length - (intOf i).toNat)
  case atStart => exact ⟨0, Nat.zero_le _, rfl, rfl⟩
  case round =>
    obtain ⟨k, hk, rfl, rfl⟩ := hrel
    have hs := crcRun_lt (l.take k) 4294967295 (by decide)
    by_cases hlt : k < l.length
    · obtain ⟨b, off, rfl, hb, hc⟩ := H3.out (by omega)
      have hck := hc k hlt
      have HR := Lib.hid (crcRun_take 4294967295 l k hlt)
      generalize l.getD k 0 = c at *
      generalize crcRun 4294967295 (l.take k) = s at *
      have HX := Lib.hid (xorc_int s c hs)
      have hx := xor_lt32 hs (u8_lt32 c)
      have HB : Hid (crcByte s c = crcSteps 8 (s ^^^ c.toNat)) := rfl
      clear hc
      go_wp2_with fail
      rw [HX.out]
      generalize s ^^^ c.toNat = x at *
      go_loop [3, 6] (fun s i => ∃ m : Nat, m ≤ 8 ∧ i = .int .i64 m ∧ s = .int .u32 (crcSteps m x : Int)) (fun _ i => 8 - (intOf i).toNat)
      case atStart => exact ⟨0, by omega, rfl, rfl⟩
      case round =>
        obtain ⟨m, hm, rfl, rfl⟩ := hrel
        have hsm := crcSteps_lt m x hx
        have HS := Lib.hid (crcSteps_snoc m x)
        by_cases hlt2 : m < 8
        · generalize crcSteps m x = t at *
          by_cases hodd : t % 2 = 1
          · have hb : ((t : Int) % 2 == 1) = true := by simp; omega
            have HP := Lib.hid (xorP_int t hsm)
            have HT : Hid (crcStep t = t / 2 ^^^ 3988292384) := by have : crcStep t = t / 2 ^^^ 3988292384 := by rw [crcStep, if_pos hodd]
                                                                   exact this
            clear hodd
            go_wp2_with fail
            go_round
            case rel => exact ⟨m + 1, by omega, by go_num, by rw [HP.out, HS.out, HT.out]⟩
            case measure => simp [intOf]; omega
          · have HT : Hid (crcStep t = t / 2) := by have : crcStep t = t / 2 := by rw [crcStep, if_neg hodd, Nat.xor_zero]
                                                    exact this
            have hb : ((t : Int) % 2 == 1) = false := by simp; omega
            clear hodd
            go_wp2_with fail
            go_round
            case rel => exact ⟨m + 1, by omega, by go_num, by rw [HS.out, HT.out]; rfl⟩
            case measure => simp [intOf]; omega
        · obtain rfl : m = 8 := by omega
          go_wp2_with fail
          go_round
          case rel => exact ⟨k + 1, by omega, by go_num, by rw [HR.out, HB.out]⟩
          case measure => simp [intOf]; omega
    · obtain rfl : k = l.length := by omega
      rw [List.take_length] at hs ⊢
      have HSU : Hid (sum l = crcRun 4294967295 l ^^^ 4294967295) := rfl
      generalize crcRun 4294967295 l = s at *
      have HX := Lib.hid (u32_xor_nat s 4294967295 hs (by decide))
      go_wp2_with fail
      go_ret
      exact ⟨ret_u32 (by rw [HSU.out]; exact HX.out), rfl⟩
end Go.Proofs.Ytbamohcaamgalae
