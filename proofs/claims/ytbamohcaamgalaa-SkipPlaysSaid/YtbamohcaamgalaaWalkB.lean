/- Rows of texts sought in and put into, as the document does; few; sorted: walked. -/
import Derived.Test.YtbamohcaamgalaaWalkA
namespace Go.Proofs.Ytbamohcaamgalaa
set_option linter.unusedVariables false
set_option linter.unusedSimpArgs false
open Go.RowKit

/-- ahead of key -/
def Ahead (after : Bool) (key x : Text) : Prop := if after then ¬ key < x else x < key
/-- what seeking answers -/
def SeekIs (after : Bool) (l : List ByteArray) (key : ByteArray) (e : Ending) : Prop :=
  ∃ i, First (keysOf l) (Ahead after key.data.toList) i ∧ e = .returned (.tuple #[.string (if i < l.length then l.getD i ByteArray.empty else ByteArray.empty), .bool (decide (i < l.length))])
theorem greater_walk (x key : ByteArray) : Op.bytesLess key.toList x.toList = decide (key.data.toList < x.data.toList) := by
  rw [ByteArray.toList_eq, ByteArray.toList_eq, bytesLess_eq]
set_option maxRecDepth 100000 in
set_option maxHeartbeats 1000000 in
theorem refseek_any (a : Option Addr) (cap : Nat) (l : List ByteArray) (key : ByteArray) (after : Bool) (w : World) (hl : l.length ≤ 1000000000) (h : IsStrs w a l) :
    Calls Try.prog 18 #[.slice a l.length cap, .string key, .bool after] w fun e w' => SeekIs after l key e ∧ w' = w := by
  have H := Lib.hid h
  clear h
  go_enter Try.func18, Try.ntmps18
  go_wp2_with fail
  go_loopw [12] (fun i wr => ∃ k : Nat, k ≤ l.length ∧ i = .int .i64 k ∧ Hid (∀ j, j < k → Ahead after key.data.toList ((keysOf l).getD j [])) ∧ wr = w) (fun i _ => l.length - (intOf i).toNat)
  case atStart => exact ⟨0, Nat.zero_le _, rfl, Lib.hid (fun j hj => by omega), rfl⟩
  case round =>
    obtain ⟨k, hkl, rfl, HE, rfl⟩ := hrel
    by_cases hlt : k < l.length
    · obtain ⟨b, off, rfl, hb, hc⟩ := H.out (by omega)
      have c1 := hc k hlt
      have hdk : decide ((k : Int) < (l.length : Int)) = true := by simp; omega
      have HKx := Lib.hid (keysOf_at l k)
      generalize hx : l.getD k ByteArray.empty = x at *
      have HX := Lib.hid hx
      clear hc hx
      rcases Classical.em (key.data.toList < x.data.toList) with hg | hg
      · have hw : Op.bytesLess key.toList x.toList = true := by rw [greater_walk]; exact decide_eq_true hg
        have HF : Hid (First (keysOf l) (Ahead after key.data.toList) k) := by
          refine ⟨by rw [length_keysOf]; omega, HE.out, fun _ => ?_⟩
          rw [HKx.out]
          unfold Ahead
          split
          · exact fun hn => hn hg
          · exact List.lt_asymm hg
        obtain ⟨hw2, he, _⟩ := less_yes x key hg
        have HR : Hid (SeekIs after l key (.returned (.tuple #[.string x, .bool true]))) := ⟨k, HF.out, by rw [if_pos hlt, HX.out, decide_eq_true hlt]⟩
        clear hg
        go_wp2_with fail
        go_ret2
        exact ⟨HR.out, rfl⟩
      · have hw : Op.bytesLess key.toList x.toList = false := by rw [greater_walk]; exact decide_eq_false hg
        by_cases heq : x = key
        · have he := text_eq_yes x key heq
          have hw2 : Op.bytesLess x.toList key.toList = false := by rw [greater_walk]; exact decide_eq_false (by rw [heq]; exact List.lt_irrefl _)
          cases after with
          | false =>
            have HF : Hid (First (keysOf l) (Ahead false key.data.toList) k) := by
              refine ⟨by rw [length_keysOf]; omega, HE.out, fun _ => ?_⟩
              rw [HKx.out, heq]
              exact List.lt_irrefl _
            have HR : Hid (SeekIs false l key (.returned (.tuple #[.string x, .bool true]))) := ⟨k, HF.out, by rw [if_pos hlt, HX.out, decide_eq_true hlt]⟩
            clear hg heq
            go_wp2_with fail
            go_ret2
            exact ⟨HR.out, rfl⟩
          | true =>
            have HA : Hid (Ahead true key.data.toList ((keysOf l).getD k [])) := by
              show Ahead _ _ _
              rw [HKx.out]; exact hg
            clear hg heq
            go_wp2_with fail
            go_roundw
            case rel =>
              refine ⟨k + 1, by omega, by go_num, ?_, by first | rfl | trivial⟩
              intro j hj
              by_cases e : j = k
              · rw [e]; exact HA.out
              · exact HE.out j (by omega)
            case measure => simp [intOf]; omega
        · have he := text_eq_no x key heq
          have hw2 : Op.bytesLess x.toList key.toList = true := by
            rw [greater_walk]
            refine decide_eq_true ?_
            rcases text_tri x.data.toList key.data.toList with g | g | g
            · exact g
            · exact absurd (bytes_ext g) heq
            · exact absurd g hg
          have HA : Hid (Ahead after key.data.toList ((keysOf l).getD k [])) := by
            show Ahead _ _ _
            rw [HKx.out]
            unfold Ahead
            split
            · exact hg
            · rcases text_tri x.data.toList key.data.toList with g | g | g
              · exact g
              · exact absurd (bytes_ext g) heq
              · exact absurd g hg
          clear hg heq
          go_wp2_with fail
          go_roundw
          case rel =>
            refine ⟨k + 1, by omega, by go_num, ?_, by first | rfl | trivial⟩
            intro j hj
            by_cases e : j = k
            · rw [e]; exact HA.out
            · exact HE.out j (by omega)
          case measure => simp [intOf]; omega
    · obtain rfl : k = l.length := by omega
      have HF : Hid (First (keysOf l) (Ahead after key.data.toList) l.length) := ⟨by rw [length_keysOf]; omega, HE.out, fun h => by rw [length_keysOf] at h; omega⟩
      have hdk : decide ((l.length : Int) < (l.length : Int)) = false := by simp
      have HR : Hid (SeekIs after l key (.returned (.tuple #[.string { data := #[] }, .bool false]))) := ⟨l.length, HF.out, by rw [if_neg (by omega), decide_eq_false (by omega)]; rfl⟩
      go_wp2_with fail
      go_ret2
      exact ⟨HR.out, rfl⟩
set_option maxRecDepth 100000 in
set_option maxHeartbeats 1000000 in
theorem few_any (a : Option Addr) (cap : Nat) (l : List ByteArray) (w : World) (hl : l.length ≤ 9223372036854775807) (hs : ∀ s ∈ l, s.size ≤ 9223372036854775807) (h : IsStrs w a l) :
    Calls Try.prog 8 #[.slice a l.length cap] w fun e w' => (∃ r : Bool, e = .returned (.bool r) ∧ (r = true → l.length ≤ 200 ∧ ∀ i, (l.getD i ByteArray.empty).size ≤ 200)) ∧ w' = w := by
  have H := Lib.hid h
  have hs' : ∀ i, (l.getD i ByteArray.empty).size ≤ 9223372036854775807 := by
    intro i
    by_cases hi : i < l.length
    · rw [List.getD_eq_getElem?_getD, List.getElem?_eq_getElem hi]; exact hs _ (List.getElem_mem hi)
    · rw [List.getD_eq_getElem?_getD, List.getElem?_eq_none (by omega)]; exact Nat.zero_le _
  have HS := Lib.hid hs'
  clear h hs hs'
  go_enter Try.func8, Try.ntmps8
  go_wp2_with fail
  go_loopw [7] (fun i wr => ∃ k : Nat, k ≤ l.length ∧ i = .int .i64 k ∧ Hid (∀ j, j < k → (l.getD j ByteArray.empty).size ≤ 200) ∧ wr = w) (fun i _ => l.length - (intOf i).toNat)
  case atStart => exact ⟨0, Nat.zero_le _, rfl, Lib.hid (fun j hj => by omega), rfl⟩
  case round =>
    obtain ⟨k, hkl, rfl, HE, rfl⟩ := hrel
    by_cases hlt : k < l.length
    · obtain ⟨b, off, rfl, hb, hc⟩ := H.out (by omega)
      have c1 := hc k hlt
      have hs1 := HS.out k
      have hdk : decide ((k : Int) < (l.length : Int)) = true := by simp; omega
      generalize hx : l.getD k ByteArray.empty = x at *
      have HX := Lib.hid hx
      clear hc hx
      by_cases h200 : x.size ≤ 200
      · have hd : decide (200 < (x.size : Int)) = false := decide_eq_false (by omega)
        go_wp2_with fail
        go_roundw
        case rel =>
          refine ⟨k + 1, by omega, by go_num, ?_, by first | rfl | trivial⟩
          intro j hj
          by_cases e : j = k
          · rw [e, HX.out]; exact h200
          · exact HE.out j (by omega)
        case measure => simp [intOf]; omega
      · have hd : decide (200 < (x.size : Int)) = true := decide_eq_true (by omega)
        go_wp2_with fail
        go_ret
        exact ⟨⟨false, rfl, fun h => by cases h⟩, rfl⟩
    · obtain rfl : k = l.length := by omega
      have hdk : decide ((l.length : Int) < (l.length : Int)) = false := by simp
      have HR : Hid (decide ((l.length : Int) ≤ 200) = true → l.length ≤ 200 ∧ ∀ i, (l.getD i ByteArray.empty).size ≤ 200) := by
        intro hd
        have := of_decide_eq_true hd
        refine ⟨by omega, fun i => ?_⟩
        by_cases hi : i < l.length
        · exact HE.out i hi
        · rw [List.getD_eq_getElem?_getD, List.getElem?_eq_none (by omega)]; exact Nat.zero_le _
      generalize hd : decide ((l.length : Int) ≤ 200) = r at *
      have HD := Lib.hid hd
      go_wp2_with fail
      go_ret
      exact ⟨⟨r, rfl, HR.out⟩, rfl⟩
end Go.Proofs.Ytbamohcaamgalaa
