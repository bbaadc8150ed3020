/- What is sought; how many, how great: walked. -/
import Derived.Test.YtbamohcaamgalaaWalkE
namespace Go.Proofs.Ytbamohcaamgalaa
set_option linter.unusedVariables false
set_option linter.unusedSimpArgs false
open Go.RowKit

theorem pathIs_cells {g : Nat} {ns : List Nd} {m : Nat} {w w' : World} {e : Ending} (h : PathIs g ns m w e w') :
    ∃ q : Nat → Nat, e = .returned (.agg #[.pointer (some ⟨q 0, 0, none⟩), .pointer (some ⟨q 1, 0, none⟩), .pointer (some ⟨q 2, 0, none⟩), .pointer (some ⟨q 3, 0, none⟩), .pointer (some ⟨q 4, 0, none⟩), .pointer (some ⟨q 5, 0, none⟩), .pointer (some ⟨q 6, 0, none⟩), .pointer (some ⟨q 7, 0, none⟩)]) ∧ (∀ h, h < 8 → IsLast g ns m h (q h)) ∧ Below w.heap.size w w' := by
  obtain ⟨⟨cs, rfl, hs, hall⟩, hb⟩ := h
  have hq : ∀ h, ∃ pb, h < 8 → cs[h]? = some (.pointer (some ⟨pb, 0, none⟩)) ∧ IsLast g ns m h pb := fun h => by
    by_cases h8 : h < 8
    · obtain ⟨pb, h1⟩ := hall h h8; exact ⟨pb, fun _ => h1⟩
    · exact ⟨0, fun h => absurd h h8⟩
  refine ⟨fun h => (hq h).choose, ?_, fun h h8 => ((hq h).choose_spec h8).2, hb⟩
  have hc : ∀ h, h < 8 → cs[h]? = some (.pointer (some ⟨(hq h).choose, 0, none⟩)) := fun h h8 => ((hq h).choose_spec h8).1
  congr 2
  apply Array.ext_getElem?
  intro i
  by_cases hi : i < 8
  · rw [hc i hi]
    rcases (show i = 0 ∨ i = 1 ∨ i = 2 ∨ i = 3 ∨ i = 4 ∨ i = 5 ∨ i = 6 ∨ i = 7 by omega) with rfl | rfl | rfl | rfl | rfl | rfl | rfl | rfl <;> rfl
  · rw [Array.getElem?_eq_none (by omega), Array.getElem?_eq_none (by simp; omega)]
theorem last_zero {W : World} {g m pb : Nat} {ns : List Nd} (h : Tw W g ns) (hm : m ≤ ns.length) (hp : IsLast g ns m 0 pb) : pb = posB g ns m := by
  obtain ⟨i, hi, rfl, _, hno⟩ := hp
  by_cases e : i = m
  · rw [e]
  · have := hno i (Nat.le_refl _) (by omega)
    obtain ⟨_, _, h1, _⟩ := h.node i (by omega)
    omega
theorem next_zero {W : World} {g m : Nat} {ns : List Nd} (h : Tw W g ns) (hm : m ≤ ns.length) :
    (m < ns.length → W.cell? ⟨posB g ns m, 1, none⟩ = some (.pointer (some ⟨(ns.getD m default).b, 0, none⟩))) ∧ (¬ m < ns.length → W.cell? ⟨posB g ns m, 1, none⟩ = some (.pointer none)) := by
  have hti : 0 < htAt ns m := by
    unfold htAt
    by_cases h0 : m = 0
    · rw [if_pos h0]; omega
    · rw [if_neg h0]; exact (h.node (m - 1) (by omega)).2.2.1
  rcases h.linked m 0 hm (by omega) hti with ⟨hc, hall⟩ | ⟨j, h1, h2, h3, h4, hc⟩
  · refine ⟨fun hlt => ?_, fun _ => hc⟩
    have := hall m (Nat.le_refl _) hlt
    have := (h.node m hlt).2.2.1
    omega
  · have e : j = m := by
      rcases Nat.lt_or_ge m j with c | c
      · have := h4 m (Nat.le_refl _) c
        have := (h.node m (by omega)).2.2.1
        omega
      · omega
    subst e
    exact ⟨fun _ => hc, fun hn => absurd h2 hn⟩
set_option maxRecDepth 100000 in
set_option maxHeartbeats 2000000 in
theorem found_less (g : Nat) (ns : List Nd) (key : ByteArray) (w : World) (h : Tw w g ns) (m : Nat) (hm : First (keysOf (keysN ns)) (Ahead false key.data.toList) m) :
    Calls Try.prog 25 #[.pointer (some ⟨g, 0, none⟩), .string key, .func (.func 23) #[] #[]] w fun e w' => SeekIs false (keysN ns) key e ∧ Below w.heap.size w w' := by
  have HP := Lib.hid (path_less g ns m key w h hm)
  have HT := Lib.hid h
  have HM := Lib.hid hm
  have hmn : m ≤ ns.length := by have := hm.1; rwa [length_keysN] at this
  clear h hm
  go_enter Try.func25, Try.ntmps25
  go_wp2_with fail
  refine HP.out.mono ?_
  clear HP
  intro e w2 hp
  obtain ⟨q, rfl, hq, hb⟩ := pathIs_cells hp
  have hq0 := last_zero HT.out hmn (hq 0 (by omega))
  have HT2 := Lib.hid (HT.out.below hb)
  have hb3 := hb.alloc hb.size (.cells #[.pointer (some ⟨q 0, 0, none⟩), .pointer (some ⟨q 1, 0, none⟩), .pointer (some ⟨q 2, 0, none⟩), .pointer (some ⟨q 3, 0, none⟩), .pointer (some ⟨q 4, 0, none⟩), .pointer (some ⟨q 5, 0, none⟩), .pointer (some ⟨q 6, 0, none⟩), .pointer (some ⟨q 7, 0, none⟩)] 43)
  have HT3 := Lib.hid (HT2.out.below ((Below.refl _ _).alloc (Nat.le_refl _) (.cells #[.pointer (some ⟨q 0, 0, none⟩), .pointer (some ⟨q 1, 0, none⟩), .pointer (some ⟨q 2, 0, none⟩), .pointer (some ⟨q 3, 0, none⟩), .pointer (some ⟨q 4, 0, none⟩), .pointer (some ⟨q 5, 0, none⟩), .pointer (some ⟨q 6, 0, none⟩), .pointer (some ⟨q 7, 0, none⟩)] 43)))
  obtain ⟨n1, n2⟩ := next_zero HT3.out hmn
  rw [← hq0] at n1 n2
  clear hp hq hq0 hb
  by_cases hlt : m < ns.length
  · have c1 := n1 hlt
    obtain ⟨_, ck, _⟩ := HT3.out.node m hlt
    have HR : Hid (SeekIs false (keysN ns) key (.returned (.tuple #[.string (ns.getD m default).key, .bool true]))) := by
      refine ⟨m, HM.out, ?_⟩
      have hl : (keysN ns).length = ns.length := by simp [keysN]
      rw [hl, if_pos hlt, decide_eq_true hlt]
      have : (keysN ns).getD m ByteArray.empty = (ns.getD m default).key := by simp [keysN, List.getD_eq_getElem?_getD, List.getElem?_map, List.getElem?_eq_getElem hlt]
      rw [this]
    generalize (ns.getD m default).key = kk at *
    generalize (ns.getD m default).b = bb at *
    clear n1 n2
    go_wp2_with fail
    go_ret2
    exact ⟨HR.out, hb3⟩
  · have c1 := n2 hlt
    have HR : Hid (SeekIs false (keysN ns) key (.returned (.tuple #[.string { data := #[] }, .bool false]))) := by
      refine ⟨m, HM.out, ?_⟩
      have hl : (keysN ns).length = ns.length := by simp [keysN]
      rw [hl, if_neg hlt, decide_eq_false hlt]; rfl
    clear n1 n2
    go_wp2_with fail
    go_ret2
    exact ⟨HR.out, hb3⟩
set_option maxRecDepth 100000 in
set_option maxHeartbeats 2000000 in
theorem found_most (g : Nat) (ns : List Nd) (key : ByteArray) (w : World) (h : Tw w g ns) (m : Nat) (hm : First (keysOf (keysN ns)) (Ahead true key.data.toList) m) :
    Calls Try.prog 25 #[.pointer (some ⟨g, 0, none⟩), .string key, .func (.func 26) #[] #[]] w fun e w' => SeekIs true (keysN ns) key e ∧ Below w.heap.size w w' := by
  have HP := Lib.hid (path_most g ns m key w h hm)
  have HT := Lib.hid h
  have HM := Lib.hid hm
  have hmn : m ≤ ns.length := by have := hm.1; rwa [length_keysN] at this
  clear h hm
  go_enter Try.func25, Try.ntmps25
  go_wp2_with fail
  refine HP.out.mono ?_
  clear HP
  intro e w2 hp
  obtain ⟨q, rfl, hq, hb⟩ := pathIs_cells hp
  have hq0 := last_zero HT.out hmn (hq 0 (by omega))
  have HT2 := Lib.hid (HT.out.below hb)
  have hb3 := hb.alloc hb.size (.cells #[.pointer (some ⟨q 0, 0, none⟩), .pointer (some ⟨q 1, 0, none⟩), .pointer (some ⟨q 2, 0, none⟩), .pointer (some ⟨q 3, 0, none⟩), .pointer (some ⟨q 4, 0, none⟩), .pointer (some ⟨q 5, 0, none⟩), .pointer (some ⟨q 6, 0, none⟩), .pointer (some ⟨q 7, 0, none⟩)] 43)
  have HT3 := Lib.hid (HT2.out.below ((Below.refl _ _).alloc (Nat.le_refl _) (.cells #[.pointer (some ⟨q 0, 0, none⟩), .pointer (some ⟨q 1, 0, none⟩), .pointer (some ⟨q 2, 0, none⟩), .pointer (some ⟨q 3, 0, none⟩), .pointer (some ⟨q 4, 0, none⟩), .pointer (some ⟨q 5, 0, none⟩), .pointer (some ⟨q 6, 0, none⟩), .pointer (some ⟨q 7, 0, none⟩)] 43)))
  obtain ⟨n1, n2⟩ := next_zero HT3.out hmn
  rw [← hq0] at n1 n2
  clear hp hq hq0 hb
  by_cases hlt : m < ns.length
  · have c1 := n1 hlt
    obtain ⟨_, ck, _⟩ := HT3.out.node m hlt
    have HR : Hid (SeekIs true (keysN ns) key (.returned (.tuple #[.string (ns.getD m default).key, .bool true]))) := by
      refine ⟨m, HM.out, ?_⟩
      have hl : (keysN ns).length = ns.length := by simp [keysN]
      rw [hl, if_pos hlt, decide_eq_true hlt]
      have : (keysN ns).getD m ByteArray.empty = (ns.getD m default).key := by simp [keysN, List.getD_eq_getElem?_getD, List.getElem?_map, List.getElem?_eq_getElem hlt]
      rw [this]
    generalize (ns.getD m default).key = kk at *
    generalize (ns.getD m default).b = bb at *
    clear n1 n2
    go_wp2_with fail
    go_ret2
    exact ⟨HR.out, hb3⟩
  · have c1 := n2 hlt
    have HR : Hid (SeekIs true (keysN ns) key (.returned (.tuple #[.string { data := #[] }, .bool false]))) := by
      refine ⟨m, HM.out, ?_⟩
      have hl : (keysN ns).length = ns.length := by simp [keysN]
      rw [hl, if_neg hlt, decide_eq_false hlt]; rfl
    clear n1 n2
    go_wp2_with fail
    go_ret2
    exact ⟨HR.out, hb3⟩
theorem found_nil (key : ByteArray) (f : Value) (w : World) : Calls Try.prog 25 #[.pointer none, .string key, f] w fun e w' => e = .returned (.tuple #[.string { data := #[] }, .bool false]) ∧ w' = w := by
  go_enter Try.func25, Try.ntmps25
  go_wp2_with fail
  go_ret2
  first | trivial | exact ⟨rfl, rfl⟩
theorem len_nil (w : World) : Calls Try.prog 16 #[.pointer none] w fun e w' => e = .returned (.int .i64 0) ∧ w' = w := by
  go_enter Try.func16, Try.ntmps16
  go_wp2_with fail
  go_ret
  first | trivial | exact ⟨rfl, rfl⟩
theorem size_nil (w : World) : Calls Try.prog 14 #[.pointer none] w fun e w' => e = .returned (.int .i64 0) ∧ w' = w := by
  go_enter Try.func14, Try.ntmps14
  go_wp2_with fail
  go_ret
  first | trivial | exact ⟨rfl, rfl⟩
theorem len_any (g : Nat) (ns : List Nd) (w : World) (h : Tw w g ns) : Calls Try.prog 16 #[.pointer (some ⟨g, 0, none⟩)] w fun e w' => e = .returned (.int .i64 (ns.length : Int)) ∧ w' = w := by
  have c := h.count
  clear h
  go_enter Try.func16, Try.ntmps16
  go_wp2_with fail
  go_ret
  first | trivial | exact ⟨rfl, rfl⟩
theorem size_any (g : Nat) (ns : List Nd) (w : World) (h : Tw w g ns) : Calls Try.prog 14 #[.pointer (some ⟨g, 0, none⟩)] w fun e w' => e = .returned (.int .i64 (sizeN ns : Int)) ∧ w' = w := by
  have c := h.size
  clear h
  go_enter Try.func14, Try.ntmps14
  go_wp2_with fail
  go_ret
  first | trivial | exact ⟨rfl, rfl⟩
/-- where keys that are ahead of a key end -/
theorem first_some (ks : List Text) (p : Text → Prop) : ∃ i, First ks p i := by
  induction ks with
  | nil => exact ⟨0, Nat.le_refl _, fun j hj => absurd hj (Nat.not_lt_zero _), fun h => absurd h (Nat.lt_irrefl _)⟩
  | cons x r ih =>
    by_cases h : p x
    · obtain ⟨i, h1, h2, h3⟩ := ih
      refine ⟨i + 1, by simp; omega, fun j hj => ?_, fun hi => ?_⟩
      · cases j with
        | zero => exact h
        | succ j => rw [List.getD_cons_succ]; exact h2 j (by omega)
      · rw [List.getD_cons_succ]; exact h3 (by simpa using hi)
    · exact ⟨0, Nat.zero_le _, fun j hj => absurd hj (Nat.not_lt_zero _), fun _ => h⟩
theorem seekIs_out {after : Bool} {l : List ByteArray} {key : ByteArray} {e : Ending} (h : SeekIs after l key e) : ∃ (s : ByteArray) (b : Bool), e = .returned (.tuple #[.string s, .bool b]) := by
  obtain ⟨i, _, rfl⟩ := h
  exact ⟨_, _, rfl⟩
theorem seek_any (g : Nat) (ns : List Nd) (key : ByteArray) (w : World) (h : Tw w g ns) : Calls Try.prog 11 #[.pointer (some ⟨g, 0, none⟩), .string key] w fun e w' => SeekIs false (keysN ns) key e ∧ Below w.heap.size w w' := by
  obtain ⟨m, hm⟩ := first_some (keysOf (keysN ns)) (Ahead false key.data.toList)
  have HF := Lib.hid (found_less g ns key w h m hm)
  clear h hm
  go_enter Try.func11, Try.ntmps11
  go_wp2_with fail
  refine HF.out.mono ?_
  clear HF
  rintro e w2 ⟨hs, hb⟩
  obtain ⟨s, b, rfl⟩ := seekIs_out hs
  have HS := Lib.hid hs
  clear hs
  go_wp2_with fail
  go_ret2
  exact ⟨HS.out, hb⟩
theorem seek_nil (key : ByteArray) (w : World) : Calls Try.prog 11 #[.pointer none, .string key] w fun e w' => e = .returned (.tuple #[.string { data := #[] }, .bool false]) ∧ w' = w := by
  go_enter Try.func11, Try.ntmps11
  go_wp2_with fail
  refine (found_nil key _ w).mono ?_
  rintro e w2 ⟨rfl, rfl⟩
  go_wp2_with fail
  go_ret2
  first | trivial | exact ⟨rfl, rfl⟩
theorem after_any (g : Nat) (ns : List Nd) (key : ByteArray) (w : World) (h : Tw w g ns) : Calls Try.prog 15 #[.pointer (some ⟨g, 0, none⟩), .string key] w fun e w' => SeekIs true (keysN ns) key e ∧ Below w.heap.size w w' := by
  obtain ⟨m, hm⟩ := first_some (keysOf (keysN ns)) (Ahead true key.data.toList)
  have HF := Lib.hid (found_most g ns key w h m hm)
  clear h hm
  go_enter Try.func15, Try.ntmps15
  go_wp2_with fail
  refine HF.out.mono ?_
  clear HF
  rintro e w2 ⟨hs, hb⟩
  obtain ⟨s, b, rfl⟩ := seekIs_out hs
  have HS := Lib.hid hs
  clear hs
  go_wp2_with fail
  go_ret2
  exact ⟨HS.out, hb⟩
theorem after_nil (key : ByteArray) (w : World) : Calls Try.prog 15 #[.pointer none, .string key] w fun e w' => e = .returned (.tuple #[.string { data := #[] }, .bool false]) ∧ w' = w := by
  go_enter Try.func15, Try.ntmps15
  go_wp2_with fail
  refine (found_nil key _ w).mono ?_
  rintro e w2 ⟨rfl, rfl⟩
  go_wp2_with fail
  go_ret2
  first | trivial | exact ⟨rfl, rfl⟩
/-- what 'Has' answers -/
theorem has_nil (key : ByteArray) (w : World) : Calls Try.prog 19 #[.pointer none, .string key] w fun e w' => e = .returned (.bool false) ∧ w' = w := by
  go_enter Try.func19, Try.ntmps19
  go_wp2_with fail
  refine (seek_nil key w).mono ?_
  rintro e w2 ⟨rfl, rfl⟩
  go_wp2_with fail
  go_ret
  first | trivial | exact ⟨rfl, rfl⟩
theorem has_any (g : Nat) (ns : List Nd) (key : ByteArray) (w : World) (h : Tw w g ns) (m : Nat) (hm : First (keysOf (keysN ns)) (Ahead false key.data.toList) m) : Calls Try.prog 19 #[.pointer (some ⟨g, 0, none⟩), .string key] w fun e w' => e = .returned (.bool (decide (m < ns.length ∧ (keysN ns).getD m ByteArray.empty = key))) ∧ Below w.heap.size w w' := by
  have HS := Lib.hid (seek_any g ns key w h)
  have HM := Lib.hid hm
  have hl : (keysN ns).length = ns.length := by simp [keysN]
  have HL := Lib.hid hl
  clear h hm hl
  go_enter Try.func19, Try.ntmps19
  go_wp2_with fail
  refine HS.out.mono ?_
  clear HS
  rintro e w2 ⟨⟨i, hi, rfl⟩, hb⟩
  have hi' := first_one hi HM.out
  subst hi'
  rw [HL.out]
  clear hi
  by_cases hlt : i < ns.length
  · rw [if_pos hlt, decide_eq_true hlt]
    by_cases hk : (keysN ns).getD i ByteArray.empty = key
    · have hd : decide (i < ns.length ∧ (keysN ns).getD i ByteArray.empty = key) = true := decide_eq_true ⟨hlt, hk⟩
      have he := text_eq_yes _ _ hk
      have HD := Lib.hid hd
      clear hk hd hlt HM
      generalize (keysN ns).getD i ByteArray.empty = kk at he ⊢
      go_wp2_with fail
      go_ret
      exact ⟨congrArg (fun b => Ending.returned (.bool b)) HD.out.symm, hb⟩
    · have hd : decide (i < ns.length ∧ (keysN ns).getD i ByteArray.empty = key) = false := decide_eq_false (fun h => hk h.2)
      have he := text_eq_no _ _ hk
      have HD := Lib.hid hd
      clear hk hd hlt HM
      generalize (keysN ns).getD i ByteArray.empty = kk at he ⊢
      go_wp2_with fail
      go_ret
      exact ⟨congrArg (fun b => Ending.returned (.bool b)) HD.out.symm, hb⟩
  · rw [if_neg hlt, decide_eq_false hlt]
    have hd : decide (i < ns.length ∧ (keysN ns).getD i ByteArray.empty = key) = false := decide_eq_false (fun h => hlt h.1)
    have HD := Lib.hid hd
    clear hd hlt HM
    go_wp2_with fail
    go_ret
    exact ⟨congrArg (fun b => Ending.returned (.bool b)) HD.out.symm, hb⟩
end Go.Proofs.Ytbamohcaamgalaa
