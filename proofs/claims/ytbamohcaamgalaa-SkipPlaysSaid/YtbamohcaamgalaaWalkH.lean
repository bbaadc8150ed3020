/- Last, All: walked. -/
import Derived.Test.YtbamohcaamgalaaWalkG
namespace Go.Proofs.Ytbamohcaamgalaa
set_option linter.unusedVariables false
set_option linter.unusedSimpArgs false
open Go.RowKit

theorem last_nil (w : World) : Calls Try.prog 20 #[.pointer none] w fun e w' => e = .returned (.tuple #[.string { data := #[] }, .bool false]) ∧ w' = w := by
  go_enter Try.func20, Try.ntmps20
  go_wp2_with fail
  go_ret2
  first | trivial | exact ⟨rfl, rfl⟩
theorem all_nil (w : World) : Calls Try.prog 13 #[.pointer none] w fun e w' => e = .returned (.slice none 0 0) ∧ w' = w := by
  go_enter Try.func13, Try.ntmps13
  go_wp2_with fail
  go_ret
  first | trivial | exact ⟨rfl, rfl⟩
/-- what 'Last' answers -/
def LastIs (ns : List Nd) (e : Ending) : Prop := e = .returned (.tuple #[.string (if 0 < ns.length then (ns.getD (ns.length - 1) default).key else ByteArray.empty), .bool (decide (0 < ns.length))])
set_option maxRecDepth 100000 in
set_option maxHeartbeats 2000000 in
theorem last_any (g : Nat) (ns : List Nd) (w : World) (h : Tw w g ns) (hl : ns.length ≤ 1000000) : Calls Try.prog 20 #[.pointer (some ⟨g, 0, none⟩)] w fun e w' => LastIs ns e ∧ w' = w := by
  have HT := Lib.hid h
  have c10 := h.count
  clear h
  by_cases h0 : ns.length = 0
  · have b0 : ((ns.length : Int) == 0) = true := by rw [h0]; rfl
    have HR : Hid (LastIs ns (.returned (.tuple #[.string { data := #[] }, .bool false]))) := by
      show _ = _
      rw [if_neg (by omega), decide_eq_false (by omega)]; rfl
    clear h0
    go_enter Try.func20, Try.ntmps20
    go_wp2_with fail
    go_ret2
    exact ⟨HR.out, rfl⟩
  · have b0 : ((ns.length : Int) == 0) = false := by rw [beq_eq_false_iff_ne]; omega
    have HN0 : Hid (0 < ns.length) := by show _ < _; omega
    clear h0
    go_enter Try.func20, Try.ntmps20
    go_wp2_with fail
    go_loopw [4, 5] (fun at' hv wr => ∃ (k i : Nat) (z : Int), at' = .pointer (some ⟨posB g ns i, 0, none⟩) ∧ hv = .int .i64 z ∧ z = (k : Int) - 1 ∧ k ≤ 8 ∧ Hid (i ≤ ns.length ∧ k ≤ htAt ns i ∧ (k = 0 → i = ns.length)) ∧ wr = w) (fun _ hv _ => (intOf hv + 1).toNat)
    case atStart => exact ⟨8, 0, 7, rfl, rfl, by omega, Nat.le_refl _, ⟨Nat.zero_le _, Nat.le_refl _, fun h => by cases h⟩, rfl⟩
    case round =>
      obtain ⟨k, i, z, rfl, rfl, hz, hk8, hst, rfl⟩ := hrel
      cases k with
      | zero =>
        have dz : decide ((0 : Int) ≤ z) = false := decide_eq_false (by omega)
        obtain ⟨h1, _, h3⟩ := hst.out
        have hi := h3 rfl
        have hpos := HN0.out
        obtain ⟨_, ck, _⟩ := HT.out.node (ns.length - 1) (by omega)
        have hpe : posB g ns i = (ns.getD (ns.length - 1) default).b := by
          rw [hi]; unfold posB; rw [if_neg (by omega)]
        rw [hpe]
        have HR : Hid (LastIs ns (.returned (.tuple #[.string (ns.getD (ns.length - 1) default).key, .bool true]))) := by
          show _ = _
          rw [if_pos hpos, decide_eq_true hpos]
        generalize (ns.getD (ns.length - 1) default).key = kk at *
        generalize (ns.getD (ns.length - 1) default).b = bb at *
        clear h3 hi hst hpe hpos h1 hz
        go_wp2_with fail
        go_ret2
        exact ⟨HR.out, rfl⟩
      | succ h =>
        obtain rfl : z = (h : Int) := by omega
        have hin0 : (0 : Int) ≤ (h : Int) := by omega
        have hin8 : (h : Int) < 8 := by omega
        obtain ⟨hi, hht, _⟩ := hst.out
        have HHT : Hid (h < htAt ns i ∧ i ≤ ns.length) := ⟨by omega, hi⟩
        have HH8 : Hid (h < 8) := by show _ < _; omega
        clear hst hi hht hz
        go_upto_region 7 with (fail)
        go_loopw [4] (fun at' wx => ∃ i : Nat, at' = .pointer (some ⟨posB g ns i, 0, none⟩) ∧ Hid (h < htAt ns i ∧ i ≤ ns.length) ∧ wx = wr) (fun at' _ => ns.length - posOf g ns (blkOf at'))
        case atStart => exact ⟨i, rfl, HHT, rfl⟩
        case round =>
          clear HHT
          obtain ⟨i2, rfl, hst, rfl⟩ := hrel
          obtain ⟨hti, him⟩ := hst.out
          clear hst
          have h8 := HH8.out
          rcases HT.out.linked i2 h him h8 hti with ⟨hc, hall⟩ | ⟨j, hij, hjl, hjh, hjk, hc⟩
          · have HX : Hid (i2 ≤ ns.length ∧ h ≤ htAt ns i2 ∧ (h = 0 → i2 = ns.length)) := by
              refine ⟨him, by omega, fun h0 => ?_⟩
              rcases Nat.lt_or_ge i2 ns.length with c | c
              · have := hall i2 (Nat.le_refl _) c
                have := (HT.out.node i2 c).2.2.1
                omega
              · omega
            clear hall hti him
            go_wp2_with fail
            go_roundw
            case rel => exact ⟨h, i2, (h : Int) - 1, rfl, by go_num, rfl, by omega, HX, trivial⟩
            case measure => simp [intOf]
          · have hpe : posB g ns (j + 1) = (ns.getD j default).b := by unfold posB; rw [if_neg (by omega), Nat.add_sub_cancel]
            have HX : Hid (h < htAt ns (j + 1) ∧ j + 1 ≤ ns.length) := ⟨by unfold htAt; rw [if_neg (by omega), Nat.add_sub_cancel]; exact hjh, hjl⟩
            have HMeas : Hid (ns.length - posOf g ns (posB g ns (j + 1)) < ns.length - posOf g ns (posB g ns i2)) := by
              show _ < _
              rw [posOf_pos HT.out.apart _ (by omega), posOf_pos HT.out.apart _ (by omega)]
              omega
            have HPE := Lib.hid hpe
            generalize (ns.getD j default).b = bj at *
            clear hjk hjh hpe hti him
            go_wp2_with fail
            go_roundw
            case rel => exact ⟨j + 1, by rw [HPE.out], HX, trivial⟩
            case measure => simp only [blkOf]; rw [← HPE.out]; exact HMeas.out
/-- what stands behind place i -/
def nextV (ns : List Nd) (i : Nat) : Value := if i < ns.length then .pointer (some ⟨(ns.getD i default).b, 0, none⟩) else .pointer none
theorem next_cell {W : World} {g : Nat} {ns : List Nd} (h : Tw W g ns) (i : Nat) (hi : i ≤ ns.length) : W.cell? ⟨posB g ns i, 1, none⟩ = some (nextV ns i) := by
  obtain ⟨h1, h2⟩ := next_zero h hi
  unfold nextV
  by_cases c : i < ns.length
  · rw [if_pos c]; exact h1 c
  · rw [if_neg c]; exact h2 c
set_option maxRecDepth 100000 in
set_option maxHeartbeats 2000000 in
theorem all_any (g : Nat) (ns : List Nd) (w : World) (h : Tw w g ns) (hl : ns.length ≤ 1000000) : Calls Try.prog 13 #[.pointer (some ⟨g, 0, none⟩)] w fun e w' => ∃ v, e = .returned v ∧ w'.ownsRow w.heap.size 9 1 v ns.length (strsV (keysN ns)) ∧ Below w.heap.size w w' := by
  obtain ⟨i9, hi9, hz0, hz1, hz2⟩ := info_parts Try.info9
  have HT := Lib.hid h
  have hc0 := next_cell h 0 (Nat.zero_le _)
  have hp0 : posB g ns 0 = g := rfl
  rw [hp0] at hc0
  clear h hp0
  have hrel0 : Hid (w.ownsRow w.heap.size 9 1 (.slice none 0 0) 0 (strsV ((keysN ns).take 0)) ∧ Below w.heap.size w w) := ⟨World.ownsRow_nil _ _ _ _, Below.refl _ _⟩
  obtain ⟨n0, hn0⟩ : ∃ n0, nextV ns 0 = n0 := ⟨_, rfl⟩
  rw [hn0] at hc0
  have HN0 := Lib.hid hn0
  clear hn0
  go_enter Try.func13, Try.ntmps13
  go_wp2_with fail
  go_loopw [3, 4] (fun v nv wr => ∃ i : Nat, nv = nextV ns i ∧ i ≤ ns.length ∧ Hid (wr.ownsRow w.heap.size 9 1 v i (strsV ((keysN ns).take i)) ∧ Below w.heap.size w wr)) (fun _ nv _ => match nv with | .pointer none => 0 | _ => ns.length + 1 - posOf g ns (blkOf nv))
  case atStart => exact ⟨0, HN0.out.symm, Nat.zero_le _, hrel0⟩
  case round =>
    clear hrel0 hc0
    obtain ⟨i, rfl, hi, hst⟩ := hrel
    obtain ⟨hrow, hB⟩ := hst.out
    obtain ⟨av, mv, cv, rfl⟩ := row_slice hrow
    have hmv := row_len' hrow
    subst hmv
    have hT := HT.out.below hB
    clear hst
    by_cases hlt : mv < ns.length
    · have hnv : nextV ns mv = .pointer (some ⟨(ns.getD mv default).b, 0, none⟩) := by unfold nextV; rw [if_pos hlt]
      obtain ⟨_, ck, _⟩ := hT.node mv hlt
      have hpe : posB g ns (mv + 1) = (ns.getD mv default).b := by unfold posB; rw [if_neg (by omega), Nat.add_sub_cancel]
      have hgk : (keysN ns).take (mv + 1) = (keysN ns).take mv ++ [(ns.getD mv default).key] := by
        have hl2 : mv < (keysN ns).length := by simpa [keysN] using hlt
        rw [List.take_add_one, List.getElem?_eq_getElem hl2]
        simp [keysN, List.getD_eq_getElem?_getD, List.getElem?_eq_getElem hlt]
      have HGK := Lib.hid hgk
      have HPE := Lib.hid hpe
      have HMeas : Hid ((match nextV ns (mv + 1) with | .pointer none => 0 | _ => ns.length + 1 - posOf g ns (blkOf (nextV ns (mv + 1)))) < ns.length + 1 - posOf g ns (posB g ns (mv + 1))) := by
        show _ < _
        rw [posOf_pos HT.out.apart _ (by omega)]
        unfold nextV
        by_cases c : mv + 1 < ns.length
        · rw [if_pos c]
          have e : (ns.getD (mv + 1) default).b = posB g ns (mv + 1 + 1) := by unfold posB; rw [if_neg (by omega), Nat.add_sub_cancel]
          simp only [blkOf]
          rw [e, posOf_pos HT.out.apart _ (by omega)]
          omega
        · rw [if_neg c]
          simp only
          omega
      rw [hnv]
      clear hgk hnv hpe hT
      generalize (ns.getD mv default).key = kk at *
      generalize (ns.getD mv default).b = bb at *
      have HRow := Lib.hid hrow
      have HB := Lib.hid hB
      clear hrow hB
      go_wp2_with (at_builtin; refine wpList_append_one _ rfl (.tmp 20) (.tmp 25) 23 rfl w.heap.size 9 i9 _ 16 Try.underlying23 hi9 hz0 hz1 hz2 rfl (.slice av mv cv) mv (strsV ((keysN ns).take mv)) (by rfl) HRow.out (.string kk) 1 (by rfl) rfl (by omega) (by omega) HB.out.size ?_; intro v6 w6 hrow6 hg6 _; have hB6 := Below.own HB.out HRow.out (Nat.le_refl _) HB.out.size hg6; have hc6 := next_cell (HT.out.below hB6) (mv + 1) hlt; rw [HPE.out] at hc6)
      go_roundw
      case rel =>
        refine ⟨mv + 1, rfl, hlt, ⟨?_, hB6⟩⟩
        rw [HGK.out, strsV_append]
        exact hrow6
      case measure =>
        simp only [blkOf]
        rw [← HPE.out]
        exact HMeas.out
    · have hnv : nextV ns mv = .pointer none := by unfold nextV; rw [if_neg hlt]
      rw [hnv]
      have hml : mv = ns.length := by omega
      have htk : (keysN ns).take mv = keysN ns := List.take_of_length_le (by simp [keysN]; omega)
      rw [htk] at hrow
      have HML := Lib.hid hml
      clear hnv hml htk hT
      go_wp2_with fail
      go_ret
      exact ⟨_, rfl, by rw [← HML.out]; exact hrow, hB⟩
end Go.Proofs.Ytbamohcaamgalaa
