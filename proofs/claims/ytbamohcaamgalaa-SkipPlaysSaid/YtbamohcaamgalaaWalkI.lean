/- fixed, SkipNil: walked. -/
import Derived.Test.YtbamohcaamgalaaWalkH
namespace Go.Proofs.Ytbamohcaamgalaa
set_option linter.unusedVariables false
set_option linter.unusedSimpArgs false
open Go.RowKit

/-- one more key, with the places that a law needs -/
theorem put_at (g : Nat) (ns : List Nd) (key : ByteArray) (w : World) (m : Nat) (h : Tw w g ns) (hl : ns.length ≤ 1000000) (hs : sizeN ns ≤ 1000000000) (hks : key.size ≤ 1000000000) (hm : First (keysOf (keysN ns)) (Ahead false key.data.toList) m) :
    Calls Try.prog 10 #[.pointer (some ⟨g, 0, none⟩), .string key] w (PutDoes g ns key m w) := put_any g ns key w h hl hs hks m hm
def tA : ByteArray := { data := #[97] }
def tB : ByteArray := { data := #[98] }
def tAA : ByteArray := { data := #[97, 97] }
set_option maxRecDepth 100000 in
set_option maxHeartbeats 4000000 in
theorem fixed_any (w : World) : Calls Try.prog 7 #[] w fun e w' => e = .returned (.bool true) ∧ Below w.heap.size w w' := by
  have HN := Lib.hid (new_any none 0 [] w (by decide) (Nat.le_refl _) (fun h => by cases h))
  go_enter Try.func7, Try.ntmps7
  go_wp2_with fail
  refine HN.out.mono ?_
  clear HN
  rintro e w1 ⟨g, rfl, hg, hT1, hB1⟩
  have HP1 := Lib.hid (put_any g [] tB w1 hT1 (by decide) (by decide) (by decide) 0 ⟨Nat.zero_le _, fun j hj => absurd hj (Nat.not_lt_zero _), fun h => absurd h (Nat.lt_irrefl _)⟩)
  unfold tB at HP1
  clear hT1
  go_wp2_with fail
  refine HP1.out.mono ?_
  clear HP1
  rintro e w2 ⟨_, hp⟩
  obtain ⟨b1, H1, rfl, hb1, hT2, hU2⟩ := hp (fun h => absurd h.1 (Nat.lt_irrefl _))
  have hB2 := hB1.trans (hU2.below hg (fun i hi => absurd hi (Nat.not_lt_zero _)) hB1.size)
  have e2 : ins [] 0 (⟨b1, tB, H1⟩ : Nd) = [⟨b1, tB, H1⟩] := rfl
  change Tw w2 g (ins [] 0 ⟨b1, tB, H1⟩) at hT2
  rw [e2] at hT2
  have HP2 := Lib.hid (put_any g [⟨b1, tB, H1⟩] tA w2 hT2 (by simp) (show (1 : Nat) ≤ 1000000000 by decide) (by decide) 0 ⟨Nat.zero_le _, fun j hj => absurd hj (Nat.not_lt_zero _), fun _ => by
    show ¬ ([98] : List UInt8) < [97]
    decide⟩)
  unfold tA at HP2
  have hbb1 : w.heap.size ≤ b1 := Nat.le_trans hB1.size hb1
  clear hp hT2 hU2 e2
  go_wp2_with fail
  refine HP2.out.mono ?_
  clear HP2
  rintro e w3 ⟨_, hp⟩
  obtain ⟨b2, H2, rfl, hb2, hT3, hU3⟩ := hp (fun h => by
    have h2 : tB = tA := h.2
    exact absurd h2 (by decide))
  have hB3 := hB2.trans (hU3.below hg (fun i hi => by
    have hi0 : i = 0 := by simpa using hi
    subst hi0
    exact hbb1) hB2.size)
  have e3 : ins [⟨b1, tB, H1⟩] 0 (⟨b2, tA, H2⟩ : Nd) = [⟨b2, tA, H2⟩, ⟨b1, tB, H1⟩] := rfl
  change Tw w3 g (ins [⟨b1, tB, H1⟩] 0 ⟨b2, tA, H2⟩) at hT3
  rw [e3] at hT3
  have HP3 := Lib.hid (put_any g [⟨b2, tA, H2⟩, ⟨b1, tB, H1⟩] tB w3 hT3 (by simp) (show (2 : Nat) ≤ 1000000000 by decide) (by decide) 1 ⟨show (1 : Nat) ≤ 2 by decide, fun j hj => by
    have hj0 : j = 0 := by omega
    subst hj0
    show ([97] : List UInt8) < [98]
    decide, fun _ => by
    show ¬ ([98] : List UInt8) < [98]
    decide⟩)
  unfold tB at HP3
  clear hp hT3 hU3 e3
  go_wp2_with fail
  refine HP3.out.mono ?_
  clear HP3
  rintro e w4 ⟨hp, _⟩
  obtain ⟨rfl, hT4, hb4⟩ := hp ⟨show (1 : Nat) < 2 by decide, rfl⟩
  change Tw w4 g [⟨b2, tA, H2⟩, ⟨b1, tB, H1⟩] at hT4
  have hB4 := hB3.trans (hb4.mono hB3.size)
  have HS := Lib.hid (seek_any g [⟨b2, tA, H2⟩, ⟨b1, tB, H1⟩] tAA w4 hT4)
  have HT4 := Lib.hid hT4
  unfold tAA at HS
  clear hp hb4 hT4
  go_wp2_with fail
  refine HS.out.mono ?_
  clear HS
  rintro e w5 ⟨⟨i, hi, rfl⟩, hb5⟩
  have hi1 : i = 1 := first_one hi ⟨show (1 : Nat) ≤ 2 by decide, fun j hj => by
    have hj0 : j = 0 := by omega
    subst hj0
    show ([97] : List UInt8) < [97, 97]
    decide, fun _ => by
    show ¬ ([98] : List UInt8) < [97, 97]
    decide⟩
  subst hi1
  have ek : (if 1 < (keysN [⟨b2, tA, H2⟩, (⟨b1, tB, H1⟩ : Nd)]).length then (keysN [⟨b2, tA, H2⟩, (⟨b1, tB, H1⟩ : Nd)]).getD 1 ByteArray.empty else ByteArray.empty) = { data := #[98] } := rfl
  have ed : decide (1 < (keysN [⟨b2, tA, H2⟩, (⟨b1, tB, H1⟩ : Nd)]).length) = true := rfl
  rw [ek, ed]
  have hT5 := HT4.out.below hb5
  have HL := Lib.hid (len_any g _ w5 hT5)
  have HZ := Lib.hid (size_any g _ w5 hT5)
  have hB5 := hB4.trans (hb5.mono hB4.size)
  clear hi ek ed hb5 hT5
  go_wp2_with fail
  refine HL.out.mono ?_
  rintro e w6 ⟨rfl, rfl⟩
  go_wp2_with fail
  refine HZ.out.mono ?_
  rintro e w6 ⟨rfl, rfl⟩
  go_wp2_with fail
  go_ret
  exact ⟨rfl, hB5⟩
end Go.Proofs.Ytbamohcaamgalaa
