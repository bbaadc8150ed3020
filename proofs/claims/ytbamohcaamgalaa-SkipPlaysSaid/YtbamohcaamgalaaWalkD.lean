/- less, most, TrailingZeros8: walked. -/
import Derived.Test.YtbamohcaamgalaaWalkC
import Derived.Test.YtbamohcaamgalaaPlain
namespace Go.Proofs.Ytbamohcaamgalaa
set_option linter.unusedVariables false
set_option linter.unusedSimpArgs false
open Go.RowKit

theorem less_any (x y : ByteArray) (w : World) : Calls Try.prog 23 #[.string x, .string y] w fun e w' => e = .returned (.bool (decide (x.data.toList < y.data.toList))) ∧ w' = w := by
  go_enter Try.func23, Try.ntmps23
  by_cases hl : x.data.toList < y.data.toList
  · have hd : decide (x.data.toList < y.data.toList) = true := decide_eq_true hl
    obtain ⟨h1, h2, h3⟩ := less_yes y x hl
    go_wp2_with fail
    go_ret
    rw [hd]
    first | trivial | exact ⟨rfl, rfl⟩
  · have hd : decide (x.data.toList < y.data.toList) = false := decide_eq_false hl
    obtain ⟨h1, h2⟩ := less_no y x hl
    go_wp2_with fail
    go_ret
    rw [hd]
    first | trivial | exact ⟨rfl, rfl⟩
theorem most_any (x y : ByteArray) (w : World) : Calls Try.prog 26 #[.string x, .string y] w fun e w' => e = .returned (.bool (decide (¬ y.data.toList < x.data.toList))) ∧ w' = w := by
  go_enter Try.func26, Try.ntmps26
  by_cases hl : y.data.toList < x.data.toList
  · have hd : decide (¬ y.data.toList < x.data.toList) = false := decide_eq_false (fun h => h hl)
    obtain ⟨h1, h2, h3⟩ := less_yes x y hl
    go_wp2_with fail
    go_ret
    rw [hd]
    first | trivial | exact ⟨rfl, rfl⟩
  · have hd : decide (¬ y.data.toList < x.data.toList) = true := decide_eq_true hl
    obtain ⟨h1, h2⟩ := less_no x y hl
    go_wp2_with fail
    go_ret
    rw [hd]
    first | trivial | exact ⟨rfl, rfl⟩
theorem tz_out (w : World) (n : Nat) (t : ByteArray) (h : n < t.size) (hall : t.data.toList.all (fun c => decide (c.toNat ≤ 8)) = true) : ∃ z : Nat, Ending.returned (.int .i64 (wrap64 (t[n].toNat : Int))) = Ending.returned (.int .i64 (z : Int)) ∧ z ≤ 8 ∧ w = w := by
  have hm : t[n] ∈ t.data.toList := by
    rw [Array.mem_toList_iff]
    exact Array.getElem_mem h
  have := of_decide_eq_true (List.all_eq_true.1 hall _ hm)
  refine ⟨t[n].toNat, ?_, this, rfl⟩
  rw [IntWalk.wrap64_in _ (by omega)]
set_option maxRecDepth 100000 in
theorem tz8_any (n : Nat) (w : World) (hn : n < 256) : Calls Try.prog 27 #[.int .u8 (n : Int)] w fun e w' => ∃ z : Nat, e = .returned (.int .i64 z) ∧ z ≤ 8 ∧ w' = w := by
  go_enter Try.func27, Try.ntmps27
  go_wp2_with fail
  go_ret
  exact tz_out w n _ _ (by decide +kernel)
end Go.Proofs.Ytbamohcaamgalaa
