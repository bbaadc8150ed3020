/- The fixed calls; the document's Make. -/
import Derived.Test.YtbamohcaamgalacWalkK
namespace Go.Proofs.Ytbamohcaamgalac
set_option linter.unusedVariables false
set_option linter.unusedSimpArgs false
open Go.RowKit

theorem refmake_any (id rev : Nat) (w : World) (hid : id < 4294967296) (hrev : rev < 18446744073709551616) :
    Calls Try.prog 10 #[.int .u32 id, .int .u64 rev] w fun e w' => e = .returned (.string ⟨(text (made id rev)).toArray⟩) ∧ Below w.heap.size w w' := by
  go_enter Try.func10, Try.ntmps10
  go_wp2_with fail
  refine (bytes_any id rev _ hid hrev).mono ?_
  rintro e w1 ⟨v, rfl, hown, hb1⟩
  obtain ⟨a, m, c, rfl⟩ := row_slice hown
  obtain rfl : m = 16 := row_len' hown
  have hbs := row_bytes' hown
  have HB := Lib.hid hbs
  clear hbs hown
  go_wp2_with fail
  refine (text_any a c (made id rev) _ (length_made _ _) HB.out).mono ?_
  rintro e w2 ⟨rfl, rfl⟩
  go_wp2_with fail
  go_ret
  exact ⟨rfl, hb1⟩
/-- what is read of a token that was made -/
theorem read_made (id rev : Nat) (hid : id < 4294967296) (hrev : rev < 18446744073709551616) : readE (text (made id rev)) = 0 ∧ rid (text (made id rev)) = id ∧ rrev (text (made id rev)) = rev := by
  obtain ⟨h1, h2, h3⟩ := readE_made id rev hid hrev
  exact ⟨h1, by rw [rid, if_pos h1, h2], by rw [rrev, if_pos h1, h3]⟩
theorem size_text (X : List UInt8) : (ByteArray.mk (text X).toArray).size = 26 := by
  show (text X).toArray.size = 26
  rw [List.size_toArray]; exact length_textN _
theorem toList_text (X : List UInt8) : (ByteArray.mk (text X).toArray).data.toList = text X := by simp
/-- a token that was made, read -/
theorem read_of_made (id rev : Nat) (w : World) (hid : id < 4294967296) (hrev : rev < 18446744073709551616) :
    Calls Try.prog 9 #[.string ⟨(text (made id rev)).toArray⟩] w fun e w' => e = .returned (.tuple #[.int .u32 id, .int .u64 rev, .int .i64 0]) ∧ Below w.heap.size w w' := by
  refine (read_any _ w (by rw [size_text]; omega)).mono ?_
  rintro e w' ⟨rfl, hb⟩
  obtain ⟨h1, h2, h3⟩ := read_made id rev hid hrev
  rw [toList_text, h1, h2, h3]
  exact ⟨rfl, hb⟩
theorem readE_nil : readE [] = 9 := readE_len [] (by decide)
theorem read_empty (w : World) : Calls Try.prog 9 #[.string { data := #[] }] w fun e w' => e = .returned (.tuple #[.int .u32 0, .int .u64 0, .int .i64 9]) ∧ Below w.heap.size w w' := by
  refine (read_any { data := #[] } w (by decide)).mono ?_
  rintro e w' ⟨rfl, hb⟩
  refine ⟨?_, hb⟩
  have h := readE_nil
  show Ending.returned (.tuple #[.int .u32 (rid [] : Nat), .int .u64 (rrev [] : Nat), .int .i64 (readE [] : Nat)]) = _
  rw [rid, rrev, h]; rfl
theorem choose_seven (w : World) : Calls Try.prog 12 #[.int .u32 1, .string { data := #[] }, .int .i64 1, .int .u64 0, .int .u64 7] w fun e w' => e = .returned (.tuple #[.int .u64 7, .int .i64 0]) ∧ Below w.heap.size w w' :=
  (choose_latest 1 { data := #[] } 0 7 w (by decide)).mono fun e w' ⟨he, hb⟩ => ⟨he, hb⟩
set_option maxRecDepth 100000 in
set_option maxHeartbeats 2000000 in
theorem fixed_any (w : World) : Calls Try.prog 7 #[] w fun e w' => e = .returned (.bool true) ∧ Below w.heap.size w w' := by
  go_enter Try.func7, Try.ntmps7
  go_wp2_with fail
  refine (make_any 1 2 _ (by decide) (by decide)).mono ?_
  rintro e w1 ⟨rfl, hb1⟩
  have h26 := size_text (made 1 2)
  have HR := Lib.hid (fun w => read_of_made 1 2 w (by decide) (by decide))
  generalize (ByteArray.mk (text (made 1 2)).toArray) = s at *
  have hb26 : ((s.size : Int) == 26) = true := by simp [h26]
  clear h26
  go_wp2_with fail
  refine (HR.out _).mono ?_
  rintro e w2 ⟨rfl, hb2⟩
  have hB2 := hb1.trans (hb2.mono hb1.size)
  go_wp2_with fail
  refine (read_empty _).mono ?_
  rintro e w3 ⟨rfl, hb3⟩
  have hB3 := hB2.trans (hb3.mono hB2.size)
  go_wp2_with fail
  refine (choose_seven _).mono ?_
  rintro e w4 ⟨rfl, hb4⟩
  have hB4 := hB3.trans (hb4.mono hB3.size)
  go_wp2_with fail
  go_ret
  exact ⟨rfl, hB4⟩
end Go.Proofs.Ytbamohcaamgalac
