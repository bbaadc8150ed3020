/- The calls whose answers the document fixes. -/
import Derived.Test.YtlhgjecbjfiljaaWalkH
namespace Go.Proofs.Ytlhgjecbjfiljaa
open Go.RowKit

theorem filter_nil : filter (([] : List ByteArray).map (·.data.toList)) 10 = [0, 0, 0, 0, 0, 0, 0, 0, 6] := by decide +kernel
theorem may_a : may [0, 0, 0, 0, 0, 0, 0, 0, 6] [97] = false := by decide +kernel
theorem may_none : may [] [97] = true := by decide +kernel
theorem hash_empty : hash [] = 14695981039346656037 := rfl
theorem isBytes_row {w : World} {base : Nat} {g n cap : Nat} {l : List UInt8} (h : w.ownsRow base 5 1 (.slice (some ⟨g, 0, none⟩) n cap) n (bytesV l)) : IsBytes w (some ⟨g, 0, none⟩) l := by
  intro _
  have hn : l.length = n := by have := h.1; rw [length_bytesV] at this; omega
  refine ⟨g, 0, rfl, (h.lt g rfl).2, fun k hk => ?_⟩
  rw [Nat.zero_add]
  exact (h.cellAt k (by omega)).trans (bytesV_get l k hk)

set_option maxHeartbeats 1000000 in
theorem fixed_any (w : World) : Calls Try.prog 7 #[] w fun e w' => e = .returned (.bool true) ∧ Below w.heap.size w w' := by
  have H0 : IsStrs w none [] := fun h => by cases h
  have HH := Lib.hid hash_empty
  go_enter Try.func7, Try.ntmps7
  go_wp2_with fail
  refine (make_any none 0 [] 10 _ rfl H0).mono ?_
  rintro e w1 ⟨v, rfl, hown, hb1⟩
  rw [filter_nil] at hown
  obtain ⟨g, cp, rfl, hg1, hg2, hg3⟩ := row_shape hown (by decide)
  have hB := isBytes_row hown
  have hc8 : w1.cell? ⟨g, 8, none⟩ = some (.int .u8 6) := hown.cellAt 8 (by decide)
  have M1 := may_any (some ⟨g, 0, none⟩) cp [0, 0, 0, 0, 0, 0, 0, 0, 6] ⟨#[97]⟩ w1 (by decide) (by decide) hB
  have hlen : ([0, 0, 0, 0, 0, 0, 0, 0, 6] : List UInt8).length = 9 := rfl
  rw [hlen] at hg3 M1 ⊢
  have hma : may [0, 0, 0, 0, 0, 0, 0, 0, 6] (⟨#[97]⟩ : ByteArray).data.toList = false := may_a
  rw [hma] at M1
  have HM1 := Lib.hid M1
  clear M1 hown hlen hB H0 hma
  go_wp2_with fail
  refine (hash_any _ _ (by decide)).mono ?_
  rintro e w2 ⟨rfl, rfl⟩
  have hh : ((hash (⟨#[]⟩ : ByteArray).data.toList : Nat) : Int) = 14695981039346656037 := congrArg Nat.cast hash_empty
  rw [hh]
  clear hh
  go_wp2_with fail
  refine (HM1.out).mono ?_
  rintro e w3 ⟨rfl, hb3⟩
  go_wp2_with fail
  have H0 : IsBytes w3 none [] := fun h => by cases h
  have M2 := may_any none 0 [] ⟨#[97]⟩ w3 (by decide) (by decide) H0
  have hma : may [] (⟨#[97]⟩ : ByteArray).data.toList = true := may_none
  rw [hma] at M2
  refine M2.mono ?_
  clear H0 M2 hma
  rintro e w4 ⟨rfl, hb4⟩
  go_wp2_with fail
  go_ret
  exact ⟨rfl, hb1.trans ((hb3.mono hb1.size).trans (hb4.mono (Nat.le_trans hb1.size hb3.size)))⟩
end Go.Proofs.Ytlhgjecbjfiljaa
