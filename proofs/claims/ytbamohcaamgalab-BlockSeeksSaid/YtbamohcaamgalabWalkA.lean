/- How many first bytes two texts share, walked, both ways. -/
import Derived.Test.YtbamohcaamgalabRows
import Derived.Test.YtbamohcaamgalabKitb
import Derived.Test.YtbamohcaamgalabPlainb
namespace Go.Proofs.Ytbamohcaamgalab
set_option linter.unusedVariables false
set_option linter.unusedSimpArgs false
open Go.RowKit

theorem run_str (w : World) (s : ByteArray) (i : Nat) (h : i < s.size) : (Instr.index 9 (.string s) (.int .i64 (i : Int))).run Try.prog w = .ok (.int .u8 ((s.data.toList.getD i 0).toNat : Int)) w := by
  rw [run_index_string _ _ _ _ _ Try.underlying9, dif_pos ⟨by omega, by omega⟩]
  have e : s.data.toList.getD i 0 = s[i] := by
    rw [List.getD_eq_getElem?_getD, Array.getElem?_toList, Array.getElem?_eq_getElem h]; rfl
  simp only [Int.toNat_natCast, e]
theorem beq_u8 (x y : UInt8) : ((x.toNat : Int) == (y.toNat : Int)) = decide (x = y) := by
  by_cases h : x = y
  · rw [h]; simp
  · rw [decide_eq_false h, beq_eq_false_iff_ne]; intro e; exact h (UInt8.toNat_inj.1 (by omega))
set_option maxRecDepth 100000 in
set_option maxHeartbeats 1000000 in
theorem common_any (a b : ByteArray) (w : World) (ha : a.size ≤ 9223372036854775807) (hb : b.size ≤ 9223372036854775807) :
    Calls Try.prog 13 #[.string a, .string b] w fun e w' => e = .returned (.int .i64 (common a.data.toList b.data.toList : Nat)) ∧ ∃ n, w' = w.drewN n := by
  obtain ⟨A, hA⟩ : ∃ A, A = a.data.toList := ⟨_, rfl⟩
  obtain ⟨B, hB⟩ : ∃ B, B = b.data.toList := ⟨_, rfl⟩
  have hAl : A.length = a.size := by rw [hA]; simp
  have hBl : B.length = b.size := by rw [hB]; simp
  rw [← hA, ← hB]
  have HA := Lib.hid hA
  have HB := Lib.hid hB
  have HAl := Lib.hid hAl
  have HBl := Lib.hid hBl
  clear hA hB hAl hBl
  obtain ⟨M, hM1, hM2, hM', hmn⟩ : ∃ M : Nat, M ≤ a.size ∧ M ≤ b.size ∧ (M = a.size ∨ M = b.size) ∧ (if b.size < a.size then (b.size : Int) else (a.size : Int)) = (M : Int) := by
    by_cases h : b.size < a.size
    · exact ⟨b.size, by omega, by omega, Or.inr rfl, by rw [if_pos h]⟩
    · exact ⟨a.size, by omega, by omega, Or.inl rfl, by rw [if_neg h]⟩
  go_enter Try.func13, Try.ntmps13
  go_wp2_with fail
  go_loopw [5] (fun n wr => ∃ k d : Nat, k ≤ M ∧ n = .int .i64 k ∧ Hid (∀ i, i < k → A.getD i 0 = B.getD i 0) ∧ wr = w.drewN d) (fun n _ => M - (intOf n).toNat)
  case atStart => exact ⟨0, 0, by omega, rfl, (fun i hi => by omega), rfl⟩
  case round =>
    obtain ⟨k, d, hkM, rfl, hpre, rfl⟩ := hrel
    by_cases h1 : k < M
    · have hix := fun W => run_str W a k (by omega)
      have hiy := fun W => run_str W b k (by omega)
      rw [← HA.out] at hix
      rw [← HB.out] at hiy
      have hd : decide ((k : Int) < (M : Int)) = true := by simp; omega
      by_cases he : A.getD k 0 = B.getD k 0
      · have hxy : (((A.getD k 0).toNat : Int) == ((B.getD k 0).toNat : Int)) = true := by rw [beq_u8, decide_eq_true he]
        have HP : Hid (∀ i, i < k + 1 → A.getD i 0 = B.getD i 0) := by
          intro i hi
          by_cases hik : i < k
          · exact hpre.out i hik
          · obtain rfl : i = k := by omega
            exact he
        clear he
        generalize A.getD k 0 = x at *
        generalize B.getD k 0 = y at *
        go_wp2_with fail
        go_quiet (fail)
        go_wp2_with fail
        refine ⟨⟨k + 1, d + nq, by omega, by go_num, HP, by first | rfl | rw [World.drewN_drewN]⟩, by simp [intOf]; omega⟩
      · have hxy : (((A.getD k 0).toNat : Int) == ((B.getD k 0).toNat : Int)) = false := by rw [beq_u8, decide_eq_false he]
        have HC : Hid (common A B = k) := common_eq A B k hpre.out (by have := HAl.out; omega) (by have := HBl.out; omega) (Or.inr (Or.inr he))
        clear he
        generalize A.getD k 0 = x at *
        generalize B.getD k 0 = y at *
        go_wp2_with fail
        go_quiet (fail)
        go_wp2_with fail
        go_ret
        exact ⟨by rw [HC.out]; rfl, _, by first | rfl | rw [World.drewN_drewN]⟩
    · obtain rfl : k = M := by omega
      have hd : decide ((k : Int) < (k : Int)) = false := by simp
      have HC : Hid (common A B = k) := common_eq A B k hpre.out (by have := HAl.out; omega) (by have := HBl.out; omega) (by
        have h1 := HAl.out
        have h2 := HBl.out
        rcases hM' with e | e
        · left; omega
        · right; left; omega)
      go_wp2_with fail
      go_quiet (fail)
      go_wp2_with fail
      go_ret
      exact ⟨by rw [HC.out]; rfl, _, by first | rfl | rw [World.drewN_drewN]⟩
set_option maxRecDepth 100000 in
set_option maxHeartbeats 1000000 in
theorem refcommon_any (a b : ByteArray) (w : World) (ha : a.size ≤ 9223372036854775807) (hb : b.size ≤ 9223372036854775807) :
    Calls Try.prog 14 #[.string a, .string b] w fun e w' => e = .returned (.int .i64 (common a.data.toList b.data.toList : Nat)) ∧ ∃ n, w' = w.drewN n := by
  obtain ⟨A, hA⟩ : ∃ A, A = a.data.toList := ⟨_, rfl⟩
  obtain ⟨B, hB⟩ : ∃ B, B = b.data.toList := ⟨_, rfl⟩
  have hAl : A.length = a.size := by rw [hA]; simp
  have hBl : B.length = b.size := by rw [hB]; simp
  rw [← hA, ← hB]
  have HA := Lib.hid hA
  have HB := Lib.hid hB
  have HAl := Lib.hid hAl
  have HBl := Lib.hid hBl
  clear hA hB hAl hBl
  go_enter Try.func14, Try.ntmps14
  go_wp2_with fail
  go_loopw [5] (fun n wr => ∃ k d : Nat, k ≤ a.size ∧ k ≤ b.size ∧ n = .int .i64 k ∧ Hid (∀ i, i < k → A.getD i 0 = B.getD i 0) ∧ wr = w.drewN d) (fun n _ => a.size - (intOf n).toNat)
  case atStart => exact ⟨0, 0, by omega, by omega, rfl, (fun i hi => by omega), rfl⟩
  case round =>
    obtain ⟨k, d, hka, hkb, rfl, hpre, rfl⟩ := hrel
    by_cases h1 : k < a.size
    · have hd1 : decide ((k : Int) < (a.size : Int)) = true := by simp; omega
      by_cases h2 : k < b.size
      · have hd2 : decide ((k : Int) < (b.size : Int)) = true := by simp; omega
        have hix := fun W => run_str W a k (by omega)
        have hiy := fun W => run_str W b k (by omega)
        rw [← HA.out] at hix
        rw [← HB.out] at hiy
        by_cases he : A.getD k 0 = B.getD k 0
        · have hxy : (((A.getD k 0).toNat : Int) == ((B.getD k 0).toNat : Int)) = true := by rw [beq_u8, decide_eq_true he]
          have HP : Hid (∀ i, i < k + 1 → A.getD i 0 = B.getD i 0) := by
            intro i hi
            by_cases hik : i < k
            · exact hpre.out i hik
            · obtain rfl : i = k := by omega
              exact he
          clear he
          generalize A.getD k 0 = x at *
          generalize B.getD k 0 = y at *
          go_wp2_with fail
          go_quiet (fail)
          go_wp2_with fail
          refine ⟨⟨k + 1, d + nq, by omega, by omega, by go_num, HP, by first | rfl | rw [World.drewN_drewN]⟩, by simp [intOf]; omega⟩
        · have hxy : (((A.getD k 0).toNat : Int) == ((B.getD k 0).toNat : Int)) = false := by rw [beq_u8, decide_eq_false he]
          have HC : Hid (common A B = k) := common_eq A B k hpre.out (by have := HAl.out; omega) (by have := HBl.out; omega) (Or.inr (Or.inr he))
          clear he
          generalize A.getD k 0 = x at *
          generalize B.getD k 0 = y at *
          go_wp2_with fail
          go_quiet (fail)
          go_wp2_with fail
          go_ret
          exact ⟨by rw [HC.out]; rfl, _, by first | rfl | rw [World.drewN_drewN]⟩
      · have hd2 : decide ((k : Int) < (b.size : Int)) = false := by simp; omega
        have HC : Hid (common A B = k) := common_eq A B k hpre.out (by have := HAl.out; omega) (by have := HBl.out; omega) (Or.inr (Or.inl (by have := HBl.out; omega)))
        go_wp2_with fail
        go_quiet (fail)
        go_wp2_with fail
        go_ret
        exact ⟨by rw [HC.out]; rfl, _, by first | rfl | rw [World.drewN_drewN]⟩
    · have hd1 : decide ((k : Int) < (a.size : Int)) = false := by simp; omega
      have HC : Hid (common A B = k) := common_eq A B k hpre.out (by have := HAl.out; omega) (by have := HBl.out; omega) (Or.inl (by have := HAl.out; omega))
      go_wp2_with fail
      go_quiet (fail)
      go_wp2_with fail
      go_ret
      exact ⟨by rw [HC.out]; rfl, _, by first | rfl | rw [World.drewN_drewN]⟩
end Go.Proofs.Ytbamohcaamgalab
