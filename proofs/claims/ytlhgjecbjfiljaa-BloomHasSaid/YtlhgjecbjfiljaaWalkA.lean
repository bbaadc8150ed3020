/- The small functions of the filters of keys: what each returns. -/
import Derived.Test.YtlhgjecbjfiljaaRows
import Derived.Test.YtlhgjecbjfiljaaMath
import Derived.Test.YtlhgjecbjfiljaaKit
namespace Go.Proofs.Ytlhgjecbjfiljaa
open Go.RowKit

theorem ret_u64 {a b : Nat} (h : a = b) : Ending.returned (.int .u64 (a : Int)) = .returned (.int .u64 (b : Int)) := by rw [h]
theorem xor_int (h : Nat) (c : UInt8) (hh : h < 18446744073709551616) : bits BinOp.xor IntKind.u64 (h : Int) (IntKind.u64.wrap (c.toNat : Int)) = ((h ^^^ c.toNat : Nat) : Int) := by
  have hc := c.toNat_lt
  rw [IntWalk.u64_in (c.toNat : Int) (by omega), u64_xor_nat h c.toNat hh (by omega)]
theorem hstep_int (h : Nat) (c : UInt8) (hh : h < 18446744073709551616) :
    IntKind.u64.wrap (bits BinOp.xor IntKind.u64 (h : Int) (IntKind.u64.wrap (c.toNat : Int)) * 1099511628211) = ((hstep h c : Nat) : Int) := by
  have hc := c.toNat_lt
  rw [IntWalk.u64_in (c.toNat : Int) (by omega), u64_xor_nat h c.toNat hh (by omega), IntKind.wrap_u64, hstep]
  omega

set_option maxHeartbeats 400000 in
theorem hash_any (s : ByteArray) (w : World) (hs : s.size ≤ 300) :
    Calls Try.prog 9 #[.string s] w fun e w' => e = .returned (.int .u64 (hash s.data.toList)) ∧ w' = w := by
  go_enter Try.func9, Try.ntmps9
  go_wp2
  go_loop [3, 7] (fun h i => ∃ k : Nat, k ≤ s.size ∧ i = .int .i64 k ∧ h = .int .u64 (hash (s.data.toList.take k))) (fun _ i => s.size - (intOf i).toNat)
  case atStart => exact ⟨0, Nat.zero_le _, rfl, rfl⟩
  case round =>
    obtain ⟨k, hk, rfl, rfl⟩ := hrel
    by_cases hlt : k < s.size
    · have HS := Lib.hid (hash_take s k hlt)
      go_wp2
      go_round
      case rel => exact ⟨k + 1, by omega, by go_num, by rw [HS.out, hstep_int _ _ (hash_lt _)]⟩
      case measure => simp [intOf]; omega
    · go_wp2
      go_ret
      exact ⟨ret_u64 (by rw [List.take_of_length_le (by simp; omega)]), rfl⟩

theorem mul_bd (x y : Int) (hx : 0 ≤ x ∧ x ≤ 4294967295) (hy : 0 ≤ y ∧ y ≤ 4294967295) : 0 ≤ x * y ∧ x * y ≤ 18446744065119617025 := by
  refine ⟨Int.mul_nonneg hx.1 hy.1, ?_⟩
  have := Int.mul_le_mul hx.2 hy.2 hy.1 (by omega)
  omega
def W (x : Int) : Int := IntKind.u64.wrap x
def timesI (al ah bl bh : Int) : Int :=
  W (W ((W (W ((W (al * bl)).tdiv 4294967296) + (W ((W (al * bh)).tmod 4294967296 + (W (ah * bl)).tmod 4294967296)).tmod 4294967296)).tmod 4294967296 * 4294967296) + (W (al * bl)).tmod 4294967296)
theorem W_in (x : Int) (h0 : 0 ≤ x) (h1 : x ≤ 18446744073709551615) : W x = x := IntWalk.u64_in x ⟨h0, h1⟩
theorem tmodM (x : Int) (h : 0 ≤ x) : x.tmod 4294967296 = x % 4294967296 := Int.tmod_eq_emod_of_nonneg h
theorem tdivM (x : Int) (h : 0 ≤ x) : x.tdiv 4294967296 = x / 4294967296 := Int.tdiv_eq_ediv_of_nonneg h
theorem timesI_eq (al ah bl bh : Int) (ha : 0 ≤ al ∧ al ≤ 4294967295) (hb : 0 ≤ ah ∧ ah ≤ 4294967295) (hc : 0 ≤ bl ∧ bl ≤ 4294967295) (hd : 0 ≤ bh ∧ bh ≤ 4294967295) :
    timesI al ah bl bh = (al * bl / 4294967296 + (al * bh % 4294967296 + ah * bl % 4294967296) % 4294967296) % 4294967296 * 4294967296 + al * bl % 4294967296 := by
  obtain ⟨p1, p2⟩ := mul_bd al bl ha hc
  obtain ⟨q1, q2⟩ := mul_bd al bh ha hd
  obtain ⟨r1, r2⟩ := mul_bd ah bl hb hc
  unfold timesI
  generalize al * bl = p at *
  generalize al * bh = q at *
  generalize ah * bl = r at *
  rw [W_in p (by omega) (by omega), W_in q (by omega) (by omega), W_in r (by omega) (by omega), tdivM p p1, tmodM p p1, tmodM q q1, tmodM r r1]
  rw [W_in (q % 4294967296 + r % 4294967296) (by omega) (by omega), W_in (p / 4294967296) (by omega) (by omega), tmodM (q % 4294967296 + r % 4294967296) (by omega),
    W_in (p / 4294967296 + (q % 4294967296 + r % 4294967296) % 4294967296) (by omega) (by omega), tmodM (p / 4294967296 + (q % 4294967296 + r % 4294967296) % 4294967296) (by omega)]
  rw [W_in ((p / 4294967296 + (q % 4294967296 + r % 4294967296) % 4294967296) % 4294967296 * 4294967296) (by omega) (by omega)]
  exact W_in _ (by omega) (by omega)
theorem times_int (a b : Nat) (ha : a < 18446744073709551616) (hb : b < 18446744073709551616) :
    timesI ((a : Int) % 4294967296) ((a : Int) / 4294967296) ((b : Int) % 4294967296) ((b : Int) / 4294967296) = ((a * b % 18446744073709551616 : Nat) : Int) := by
  have h := timesI_eq ((a : Int) % 4294967296) ((a : Int) / 4294967296) ((b : Int) % 4294967296) ((b : Int) / 4294967296) (by omega) (by omega) (by omega) (by omega)
  rw [h, ← times_eq a b ha hb]
  simp only [Int.natCast_add, Int.natCast_mul, Int.natCast_emod, Int.natCast_ediv, Int.cast_ofNat_Int]
set_option maxHeartbeats 400000 in
theorem times_any (a b : Nat) (x y : Int) (w : World) (hx : x = a) (hy : y = b) (ha : a < 18446744073709551616) (hb : b < 18446744073709551616) :
    Calls Try.prog 15 #[.int .u64 x, .int .u64 y] w fun e w' => e = .returned (.int .u64 ((a * b % 18446744073709551616 : Nat) : Int)) ∧ w' = w := by
  have H0 := times_int a b ha hb
  unfold timesI W at H0
  have H := Lib.hid H0
  clear H0
  subst hx hy
  go_enter Try.func15, Try.ntmps15
  go_wp2
  go_ret
  exact ⟨congrArg (fun x : Int => Ending.returned (.int .u64 x)) H.out, rfl⟩

theorem hstep_times (h : Nat) (c : UInt8) : (h ^^^ c.toNat) * 1099511628211 % 18446744073709551616 = hstep h c := rfl
theorem prime_lt : (1099511628211 : Nat) < 18446744073709551616 := by decide
set_option maxHeartbeats 400000 in
theorem refhash_any (s : ByteArray) (w : World) (hs : s.size ≤ 300) :
    Calls Try.prog 10 #[.string s] w fun e w' => e = .returned (.int .u64 (hash s.data.toList)) ∧ w' = w := by
  go_enter Try.func10, Try.ntmps10
  go_wp2
  go_loop [3, 4] (fun h i => ∃ k : Nat, k ≤ s.size ∧ i = .int .i64 k ∧ h = .int .u64 (hash (s.data.toList.take k))) (fun _ i => s.size - (intOf i).toNat)
  case atStart => exact ⟨0, Nat.zero_le _, rfl, rfl⟩
  case round =>
    obtain ⟨k, hk, rfl, rfl⟩ := hrel
    by_cases hlt : k < s.size
    · have HS := Lib.hid (hash_take s k hlt)
      have hl := hash_lt (s.data.toList.take k)
      have hx := xor_lt _ s[k] hl
      have HX := Lib.hid (xor_int _ s[k] hl)
      have HP := Lib.hid hx
      clear hl hx
      go_wp2_with fail
      refine (times_any _ 1099511628211 _ _ _ HX.out rfl HP.out prime_lt).mono ?_
      rintro e w' ⟨rfl, rfl⟩
      go_wp2
      go_round
      case rel => exact ⟨k + 1, by omega, by go_num, by rw [HS.out]; rfl⟩
      case measure => simp [intOf]; omega
    · go_wp2
      go_ret
      exact ⟨ret_u64 (by rw [List.take_of_length_le (by simp; omega)]), rfl⟩
end Go.Proofs.Ytlhgjecbjfiljaa
