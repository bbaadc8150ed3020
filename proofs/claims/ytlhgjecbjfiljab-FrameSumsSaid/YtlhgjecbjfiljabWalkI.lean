/- The calls whose answers the document fixes. -/
import Derived.Test.YtlhgjecbjfiljabWalkH
import Derived.Lib.SlBytesConst
namespace Go.Proofs.Ytlhgjecbjfiljab
set_option linter.unusedVariables false
set_option linter.unusedSimpArgs false
open Go.RowKit

theorem sum_check : sum [49, 50, 51, 52, 53, 54, 55, 56, 57] = 3421780262 := by decide +kernel
theorem isBytes_lit {w : World} (l : List UInt8) (fr : Nat × Nat) : IsBytes (w.alloc (.cells (bytesV l).toArray 5 fr)) (some ⟨w.heap.size, 0, none⟩) l := by
  intro _
  refine ⟨w.heap.size, 0, rfl, by simp, fun k hk => ?_⟩
  rw [Nat.zero_add, cell_of_row _ _ _ _ _ fr (heap_alloc_new w _)]
  simpa using bytesV_get l k hk

set_option maxHeartbeats 1000000 in
theorem fixed_any (w : World) : Calls Try.prog 7 #[] w fun e w' => e = .returned (.bool true) ∧ Below w.heap.size w w' := by
  have hB0 := (Below.refl w.heap.size w).alloc (Nat.le_refl _) (.cells (bytesV [97, 98]).toArray 5 (2, 3))
  have hl0 := isBytes_lit (w := w) [97, 98] (2, 3)
  have kc := fun (w : World) (C : Array Value) (n c : Nat) => Lib.run_convert_bytes_const (P := Try.prog) w 22 5 C n c Try.underlying22 Try.underlying5
  go_enter Try.func7, Try.ntmps7
  go_wp2_with fail
  refine (seal_any _ 2 2 [97, 98] _ rfl (by omega) hl0).mono ?_
  rintro e w1 ⟨v1, rfl, hown1, hb1⟩
  have hB1 := hB0.trans (hb1.mono (by simp))
  obtain ⟨g, cp, rfl, hg1, hg2, hg3⟩ := row_shape hown1 (by omega)
  have hbs := isBytes_row hown1
  have hE : nextE (seal_ [97, 98]) = 0 := by have := nextE_seal [97, 98] [] (by decide); rwa [List.append_nil] at this
  have hP : payload (seal_ [97, 98]) = [97, 98] := by have := payload_seal [97, 98] [] (by decide); rwa [List.append_nil] at this
  have hN : num (seal_ [97, 98]) = 2 := by have := num_seal [97, 98] [] (by decide); rwa [List.append_nil] at this
  clear hown1 hl0
  go_wp2_with fail
  refine (next_any _ cp 10 (seal_ [97, 98]) _ (length_seal _) hg3 (by omega) hbs).mono ?_
  rintro e w2 ⟨hb2, v2, hok, _⟩
  obtain ⟨rfl, hown2⟩ := hok hE
  rw [hN, hP] at hown2
  rw [hN]
  have hB2 := hB1.trans (hb2.mono hB1.size)
  clear hok hbs hE hP hN hb1 hB0
  obtain ⟨g2, cp2, rfl, hg21, hg22, hg23⟩ := row_shape hown2 (by omega)
  have H2 := Lib.hid (isBytes_row hown2)
  clear hown2
  go_wp2_with fail
  refine (next_any none 0 0 [] _ rfl (by omega) (by omega) (fun h => by cases h)).mono ?_
  rintro e w3 ⟨hb3, v3, _, hno⟩
  have := hno (by rw [nextE_nil]; decide)
  rw [nextE_nil] at this
  subst this
  have hB3 := hB2.trans (hb3.mono hB2.size)
  have H3 := Lib.hid (H2.out.below hb3)
  clear hno
  go_wp2_with fail
  have hl9 := isBytes_lit (w := w3) [49, 50, 51, 52, 53, 54, 55, 56, 57] (9, 10)
  have hB4 := (Below.refl w3.heap.size w3).alloc (Nat.le_refl _) (.cells (bytesV [49, 50, 51, 52, 53, 54, 55, 56, 57]).toArray 5 (9, 10))
  have H4 := Lib.hid (H3.out.below hB4)
  refine (sum_at _ 9 9 [49, 50, 51, 52, 53, 54, 55, 56, 57] _ rfl (by omega) hl9).mono ?_
  rintro e w4 ⟨rfl, hb5⟩
  have hsum : ((sum [49, 50, 51, 52, 53, 54, 55, 56, 57] : Nat) : Int) = 3421780262 := congrArg Nat.cast sum_check
  rw [hsum]
  have hcv := run_string_of_bytes (P := Try.prog) w4 22 9 5 (some ⟨g2, 0, none⟩) 2 cp2 [97, 98] rfl Try.underlying22 Try.underlying5 Try.underlying9 (H4.out.below hb5)
  have hB5 := hB3.trans ((hB4.trans (hb5.mono hB4.size)).mono hB3.size)
  clear hsum hl9 hB4 hb5 hb3 hB3 hB2 hB1
  go_wp2_with fail
  go_ret
  exact ⟨rfl, hB5⟩
end Go.Proofs.Ytlhgjecbjfiljab
