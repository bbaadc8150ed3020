/- The document's sixteen bytes of a token, walked. -/
import Derived.Test.YtbamohcaamgalacWalkD
namespace Go.Proofs.Ytbamohcaamgalac
set_option linter.unusedVariables false
set_option linter.unusedSimpArgs false
open Go.RowKit

theorem row_len' {w : World} {base : Nat} {e : TypeId} {size n m c : Nat} {a : Option Addr} {xs : List Value} (h : w.ownsRow base e size (.slice a m c) n xs) : m = n := by
  rcases h.2 with ⟨h0, h1⟩ | ⟨g, cap, cur, hv, _⟩
  · cases h0; omega
  · cases hv; rfl
theorem row_bytes' {w : World} {base : Nat} {n m c : Nat} {a : Option Addr} {l : List UInt8} (h : w.ownsRow base 5 1 (.slice a m c) n (bytesV l)) : IsBytes w a l := by
  intro h0
  rcases h.2 with ⟨hv, h1⟩ | ⟨g, cap, cur, hv, _⟩
  · have := h.1; rw [length_bytesV] at this; omega
  · cases hv
    exact isBytes_row h h0
theorem row_slice {w : World} {base : Nat} {e : TypeId} {size n : Nat} {v : Value} {xs : List Value} (h : w.ownsRow base e size v n xs) : ∃ a m c, v = .slice a m c := by
  rcases h.2 with ⟨hv, _⟩ | ⟨g, cap, cur, hv, _⟩
  · exact ⟨none, 0, 0, hv⟩
  · exact ⟨_, _, _, hv⟩
/-- one byte more -/
theorem bytes_snoc (l : List UInt8) (k : Nat) (h : k < l.length) (z : Int) (hz : z = ((l.getD k 0).toNat : Int)) : bytesV (l.take k) ++ [.int .u8 z] = bytesV (l.take (k + 1)) := by
  rw [take_snoc8 l k h, bytesV_append, hz]; rfl
theorem pow_tmod (v n : Nat) : ((v : Int) / 2 ^ n).tmod 256 % 256 = ((v / 2 ^ n % 256 : Nat) : Int) := by
  have e : (v : Int) / 2 ^ n = ((v / 2 ^ n : Nat) : Int) := by simp
  rw [e]
  have e2 : (((v / 2 ^ n : Nat) : Int)).tmod 256 = ((v / 2 ^ n % 256 : Nat) : Int) := rfl
  rw [e2]
  omega
set_option maxRecDepth 100000 in
set_option maxHeartbeats 1000000 in
theorem bytes_any (id rev : Nat) (w : World) (hid : id < 4294967296) (hrev : rev < 18446744073709551616) :
    Calls Try.prog 14 #[.int .u32 id, .int .u64 rev] w fun e w' => ∃ v, e = .returned v ∧ w'.ownsRow w.heap.size 5 1 v 16 (bytesV (made id rev)) ∧ Below w.heap.size w w' := by
  obtain ⟨i0, hi, hz0, hz1, hz2⟩ := info_parts Try.info5
  have hnil := World.ownsRow_nil w w.heap.size 5 1
  go_enter Try.func14, Try.ntmps14
  go_wp2_with fail
  go_loopw [5, 6] (fun v i wr => ∃ k m : Nat, k + m = 4 ∧ i = .int .i64 ((m : Int) - 1) ∧ wr.ownsRow w.heap.size 5 1 v k (bytesV ((made id rev).take k)) ∧ Below w.heap.size w wr) (fun _ i _ => (intOf i + 1).toNat)
  case atStart => exact ⟨0, 4, by omega, rfl, hnil, Below.refl _ _⟩
  case round =>
    clear hnil
    obtain ⟨k, m, hkm, rfl, hown, hbel⟩ := hrel
    have hL := length_made id rev
    rcases Nat.eq_zero_or_pos m with rfl | hm
    · obtain rfl : k = 4 := by omega
      go_wp2_with fail
      go_loopw [5, 7] (fun v i wr => ∃ k m : Nat, k + m = 8 ∧ i = .int .i64 ((m : Int) - 1) ∧ wr.ownsRow w.heap.size 5 1 v (4 + k) (bytesV ((made id rev).take (4 + k))) ∧ Below w.heap.size w wr) (fun _ i _ => (intOf i + 1).toNat)
      case atStart => exact ⟨0, 8, by omega, rfl, hown, hbel⟩
      case round =>
        clear hown hbel
        obtain ⟨k, m, hkm, rfl, hown, hbel⟩ := hrel
        rcases Nat.eq_zero_or_pos m with rfl | hm
        · obtain rfl : k = 8 := by omega
          obtain ⟨a, mm, c, rfl⟩ := row_slice hown
          obtain rfl : mm = 12 := row_len' hown
          have hbs := row_bytes' hown
          rw [show 4 + 8 = 12 from rfl, made_take] at hbs
          have hs := sum_lt (head12 id rev)
          have HA := Lib.hid (made_at3 id rev)
          have HB := Lib.hid hbs
          clear hbs
          go_wp2_with fail
          refine (refsum_at _ c 12 (head12 id rev) _ rfl (by decide) HB.out).mono ?_
          rintro e w3 ⟨rfl, rfl⟩
          generalize sum (head12 id rev) = S at *
          clear HB
          go_wp2_with fail
          go_loopw [5, 9] (fun v i wr => ∃ k m : Nat, k + m = 4 ∧ i = .int .i64 ((m : Int) - 1) ∧ wr.ownsRow w.heap.size 5 1 v (12 + k) (bytesV ((made id rev).take (12 + k))) ∧ Below w.heap.size w wr) (fun _ i _ => (intOf i + 1).toNat)
          case atStart => exact ⟨0, 4, by omega, rfl, hown, hbel⟩
          case round =>
            clear hown hbel
            obtain ⟨k, m, hkm, rfl, hown, hbel⟩ := hrel
            rcases Nat.eq_zero_or_pos m with rfl | hm
            · obtain rfl : k = 4 := by omega
              go_wp2_with fail
              go_ret
              rw [show 12 + 4 = 16 from rfl, List.take_of_length_le (by omega)] at hown
              exact ⟨_, rfl, hown, hbel⟩
            · obtain ⟨n, rfl⟩ : ∃ n, m = n + 1 := ⟨m - 1, by omega⟩
              have hat := HA.out k (by omega)
              rw [show 24 - 8 * k = 8 * n by omega] at hat
              have HS := Lib.hid (bytes_snoc (made id rev) (12 + k) (by omega))
              have HA2 := Lib.hid hat
              rw [show ((n + 1 : Nat) : Int) - 1 = (n : Int) by omega]
              clear hat hL
              go_wp2_with (at_builtin; refine wpList_append_one _ rfl _ _ 33 rfl w.heap.size 5 i0 (.int .u8 0) 1 Try.underlying33 hi hz0 hz1 hz2 rfl _ _ _ rfl hown _ 1 rfl rfl (by omega) (by omega) hbel.size ?_; intro v' w3 hown3 hgrow3 _; have hB3 := Below.own hbel hown (Nat.le_refl _) hbel.size hgrow3)
              go_roundw
              case rel =>
                refine ⟨k + 1, n, by omega, rfl, ?_, hB3⟩
                rw [← Nat.add_assoc, ← HS.out _ ?_]
                · exact hown3
                · rw [HA2.out]; exact pow_tmod _ _
              case measure => simp [intOf]
        · obtain ⟨n, rfl⟩ : ∃ n, m = n + 1 := ⟨m - 1, by omega⟩
          have hat := made_at2 id rev k (by omega)
          rw [show 56 - 8 * k = 8 * n by omega] at hat
          have HS := Lib.hid (bytes_snoc (made id rev) (4 + k) (by omega))
          have HA := Lib.hid hat
          rw [show ((n + 1 : Nat) : Int) - 1 = (n : Int) by omega]
          clear hat hL
          go_wp2_with (at_builtin; refine wpList_append_one _ rfl _ _ 33 rfl w.heap.size 5 i0 (.int .u8 0) 1 Try.underlying33 hi hz0 hz1 hz2 rfl _ _ _ rfl hown _ 1 rfl rfl (by omega) (by omega) hbel.size ?_; intro v' w3 hown3 hgrow3 _; have hB3 := Below.own hbel hown (Nat.le_refl _) hbel.size hgrow3)
          go_roundw
          case rel =>
            refine ⟨k + 1, n, by omega, rfl, ?_, hB3⟩
            rw [← Nat.add_assoc, ← HS.out _ ?_]
            · exact hown3
            · rw [HA.out]; exact pow_tmod _ _
          case measure => simp [intOf]
    · obtain ⟨n, rfl⟩ : ∃ n, m = n + 1 := ⟨m - 1, by omega⟩
      have hsn := bytes_snoc (made id rev) k (by omega)
      have hat := made_at1 id rev k (by omega)
      rw [show 24 - 8 * k = 8 * n by omega] at hat
      have HS := Lib.hid hsn
      have HA := Lib.hid hat
      rw [show ((n + 1 : Nat) : Int) - 1 = (n : Int) by omega]
      clear hsn hat hL
      go_wp2_with (at_builtin; refine wpList_append_one _ rfl _ _ 33 rfl w.heap.size 5 i0 (.int .u8 0) 1 Try.underlying33 hi hz0 hz1 hz2 rfl _ _ _ rfl hown _ 1 rfl rfl (by omega) (by omega) hbel.size ?_; intro v' w3 hown3 hgrow3 _; have hB3 := Below.own hbel hown (Nat.le_refl _) hbel.size hgrow3)
      go_roundw
      case rel =>
        refine ⟨k + 1, n, by omega, rfl, ?_, hB3⟩
        rw [← HS.out _ ?_]
        · exact hown3
        · rw [HA.out]; exact pow_tmod _ _
      case measure => simp [intOf]
end Go.Proofs.Ytbamohcaamgalac
