/- Is a request short?: walked (printed by genWireFw.py). -/
import Derived.Test.YtacjbgmnoiimbabGreatRfC
import Derived.Test.YtacjbgmnoiimbabGreatRdQ
namespace Go.Proofs.YtacjbgmnoiimbabGreat
set_option linter.unusedVariables false
set_option linter.unusedSimpArgs false
open Go.RowKit

set_option maxRecDepth 100000 in
theorem parts_any (a b c d e f : ByteArray) (W : World) :
    Calls Tryz.prog 83 #[.agg #[.string a, .string b, .string c, .string d, .string e, .string f]] W fun ee W' => ∃ g, ee = .returned (.slice (some ⟨g, 0, none⟩) 6 6) ∧ Below W.heap.size W W' ∧ IsStrs W' (some ⟨g, 0, none⟩) [a, b, c, d, e, f] := by
  have hb1 := (Below.refl W.heap.size W).alloc (Nat.le_refl _) (.cells #[.string a, .string b, .string c, .string d, .string e, .string f] 62)
  have HB := Lib.hid (hb1.alloc hb1.size (.cells #[.string a, .string b, .string c, .string d, .string e, .string f] 9))
  have hst := strs_new (W.alloc (.cells #[.string a, .string b, .string c, .string d, .string e, .string f] 62)) [a, b, c, d, e, f]
  rw [alloc_size] at hst
  have HT : Hid (IsStrs ((W.alloc (.cells #[.string a, .string b, .string c, .string d, .string e, .string f] 62)).alloc (.cells #[.string a, .string b, .string c, .string d, .string e, .string f] 9)) (some ⟨W.heap.size + 1, 0, none⟩) [a, b, c, d, e, f]) := hst
  clear hst hb1
  go_enter Tryz.func83, Tryz.ntmps83
  go_wp2_with fail
  go_ret
  exact ⟨_, rfl, HB.out, HT.out⟩
/-- a tuple's parts are short -/
def shortP (t : Six) : Prop := t.1.1.size ≤ 100 ∧ t.1.2.1.size ≤ 100 ∧ t.1.2.2.size ≤ 100 ∧ t.2.1.size ≤ 100 ∧ t.2.2.1.size ≤ 100 ∧ t.2.2.2.size ≤ 100
def ShortIs (t : Six) (W : World) (e : Ending) (W' : World) : Prop := ∃ b, e = .returned (.bool b) ∧ (b = true → shortP t) ∧ Below W.heap.size W W'
set_option maxRecDepth 100000 in
set_option maxHeartbeats 1000000 in
theorem short_any (a b c d e f : ByteArray) (W : World) (hl : a.size ≤ 140737488351232 ∧ b.size ≤ 140737488351232 ∧ c.size ≤ 140737488351232 ∧ d.size ≤ 140737488351232 ∧ e.size ≤ 140737488351232 ∧ f.size ≤ 140737488351232) :
    Calls Tryz.prog 15 #[.agg #[.string a, .string b, .string c, .string d, .string e, .string f]] W (ShortIs ((a, b, c), d, e, f) W) := by
  have HB := Lib.hid ((Below.refl W.heap.size W).alloc (Nat.le_refl _) (.cells #[.string a, .string b, .string c, .string d, .string e, .string f] 62))
  have HC := Lib.hid (parts_any a b c d e f (W.alloc (.cells #[.string a, .string b, .string c, .string d, .string e, .string f] 62)))
  go_enter Tryz.func15, Tryz.ntmps15
  go_wp2_with fail
  refine HC.out.mono ?_
  clear HC
  rintro ee W1 ⟨g, rfl, hb, hst⟩
  have HB1 := Lib.hid (HB.out.trans (hb.mono HB.out.size))
  have HS := Lib.hid hst
  have HA0 : Hid (∀ k, k < 0 → (([a, b, c, d, e, f] : List ByteArray).getD k ByteArray.empty).size ≤ 100) := fun k hk => by omega
  clear hb hst
  go_wp2_with fail
  go_loopw [8] (fun iv wr => ∃ j : Nat, iv = .int .i64 j ∧ j ≤ 6 ∧ Hid (wr = W1 ∧ ∀ k, k < j → (([a, b, c, d, e, f] : List ByteArray).getD k ByteArray.empty).size ≤ 100)) (fun iv _ => 6 - (intOf iv).toNat)
  case atStart => exact ⟨0, rfl, Nat.zero_le _, rfl, HA0.out⟩
  case round =>
    clear HA0
    obtain ⟨j, rfl, hj, hst⟩ := hrel
    obtain ⟨rfl, hall⟩ := hst.out
    have HA := Lib.hid hall
    clear hst hall
    by_cases hjl : j < 6
    · have dj : decide ((j : Int) < 6) = true := decide_eq_true (by omega)
      have dj2 : decide (j < 6) = true := decide_eq_true (by omega)
      have hij : (j : Int) < 6 := by omega
      obtain ⟨b0, off, hab, hbb, hc⟩ := HS.out (by show 0 < 6; omega)
      cases hab
      have cj := hc j hjl
      rw [Nat.zero_add] at cj
      have hsz : (([a, b, c, d, e, f] : List ByteArray).getD j ByteArray.empty).size ≤ 140737488351232 := by
        match j, hjl with
        | 0, _ => exact hl.1
        | 1, _ => exact hl.2.1
        | 2, _ => exact hl.2.2.1
        | 3, _ => exact hl.2.2.2.1
        | 4, _ => exact hl.2.2.2.2.1
        | 5, _ => exact hl.2.2.2.2.2
      clear hc
      by_cases h100 : 100 < (([a, b, c, d, e, f] : List ByteArray).getD j ByteArray.empty).size
      · have d100 : decide ((100 : Int) < ((([a, b, c, d, e, f] : List ByteArray).getD j ByteArray.empty).size : Int)) = true := decide_eq_true (by omega)
        have d101 : decide (100 < (([a, b, c, d, e, f] : List ByteArray).getD j ByteArray.empty).size) = true := decide_eq_true h100
        generalize ([a, b, c, d, e, f] : List ByteArray).getD j ByteArray.empty = s at *
        go_wp2_with fail
        go_ret
        exact ⟨false, rfl, (fun h => by cases h), HB1.out⟩
      · have d100 : decide ((100 : Int) < ((([a, b, c, d, e, f] : List ByteArray).getD j ByteArray.empty).size : Int)) = false := decide_eq_false (by omega)
        have d101 : decide (100 < (([a, b, c, d, e, f] : List ByteArray).getD j ByteArray.empty).size) = false := decide_eq_false h100
        have HN : Hid (∀ k, k < j + 1 → (([a, b, c, d, e, f] : List ByteArray).getD k ByteArray.empty).size ≤ 100) := fun k hk => by
          by_cases hkj : k < j
          · exact HA.out k hkj
          · obtain rfl : k = j := by omega
            omega
        generalize hs : ([a, b, c, d, e, f] : List ByteArray).getD j ByteArray.empty = s at *
        have HSs := Lib.hid hs
        clear hs
        go_wp2_with fail
        go_roundw
        case rel => exact ⟨j + 1, by go_num, by omega, by first | exact ⟨rfl, HN.out⟩ | exact ⟨trivial, HN.out⟩⟩
        case measure => first | (simp [intOf]; done) | (simp [intOf]; omega)
    · obtain rfl : j = 6 := by omega
      have HE : Hid (shortP ((a, b, c), d, e, f)) := ⟨HA.out 0 (by omega), HA.out 1 (by omega), HA.out 2 (by omega), HA.out 3 (by omega), HA.out 4 (by omega), HA.out 5 (by omega)⟩
      go_wp2_with fail
      go_ret
      exact ⟨true, rfl, fun _ => HE.out, HB1.out⟩
/-- a request is short -/
def sixB (t : Six) : Prop := t.1.1.size ≤ 140737488351232 ∧ t.1.2.1.size ≤ 140737488351232 ∧ t.1.2.2.size ≤ 140737488351232 ∧ t.2.1.size ≤ 140737488351232 ∧ t.2.2.1.size ≤ 140737488351232 ∧ t.2.2.2.size ≤ 140737488351232
theorem all_of {T : Type} [Inhabited T] {P : T → Prop} {xs : List T} (h : ∀ k, k < xs.length → P (xs.getD k default)) : ∀ x ∈ xs, P x := fun x hx => by
  obtain ⟨k, hk, rfl⟩ := List.mem_iff_getElem.1 hx
  have := h k hk
  rwa [List.getD_eq_getElem?_getD, List.getElem?_eq_getElem hk, Option.getD_some] at this
end Go.Proofs.YtacjbgmnoiimbabGreat
