/- BlockCommon, BlockBuilds: the laws walked. -/
import Derived.Test.YtbamohcaamgalabWalkP
namespace Go.Proofs.Ytbamohcaamgalab
set_option linter.unusedVariables false
set_option linter.unusedSimpArgs false
open Go.RowKit

set_option maxRecDepth 100000 in
set_option maxHeartbeats 1000000 in
theorem lawCommon (a b : ByteArray) (w : World) (ha : a.size ≤ 9223372036854775807) (hb : b.size ≤ 9223372036854775807) :
    Calls Try.prog 4 #[.string a, .string b] w fun e w' => e = .returned (.bool true) ∧ Below w.heap.size w w' := by
  have HF := Lib.hid (fixed_any w)
  by_cases h1 : a.size ≤ 3000
  · have d1 : decide (3000 < (a.size : Int)) = false := decide_eq_false (by omega)
    by_cases h2 : b.size ≤ 3000
    · have d2 : decide (3000 < (b.size : Int)) = false := decide_eq_false (by omega)
      obtain ⟨n, hn⟩ : ∃ n, n = common a.data.toList b.data.toList := ⟨_, rfl⟩
      have H1 := Lib.hid (fun w0 => common_any a b w0 ha hb)
      have H2 := Lib.hid (fun w0 => refcommon_any a b w0 ha hb)
      have H3 := Lib.hid (fun w0 => common_any b a w0 hb ha)
      rw [common_comm b.data.toList a.data.toList] at H3
      rw [← hn] at H1 H2 H3
      have hne : ((n : Int) == (n : Int)) = true := by simp
      clear hn
      go_enter Try.func4, Try.ntmps4
      go_wp2_with fail
      refine HF.out.mono ?_
      rintro e w1 ⟨rfl, hB1⟩
      go_wp2_with fail
      refine (H1.out _).mono ?_
      rintro e w2 ⟨rfl, k2, rfl⟩
      have hB2 := Below.drewN hB1 k2
      generalize w1.drewN k2 = w2 at *
      go_wp2_with fail
      refine (H2.out _).mono ?_
      rintro e w3 ⟨rfl, k3, rfl⟩
      have hB3 := Below.drewN hB2 k3
      generalize w2.drewN k3 = w3 at *
      go_wp2_with fail
      refine (H3.out _).mono ?_
      rintro e w4 ⟨rfl, k4, rfl⟩
      have hB4 := Below.drewN hB3 k4
      generalize w3.drewN k4 = w4 at *
      go_wp2_with fail
      refine (H2.out _).mono ?_
      rintro e w5 ⟨rfl, k5, rfl⟩
      have hB5 := Below.drewN hB4 k5
      generalize w4.drewN k5 = w5 at *
      go_wp2_with fail
      go_ret
      exact ⟨rfl, hB5⟩
    · have d2 : decide (3000 < (b.size : Int)) = true := decide_eq_true (by omega)
      go_enter Try.func4, Try.ntmps4
      go_wp2_with fail
      refine HF.out.mono ?_
      rintro e w1 ⟨rfl, hB1⟩
      go_wp2_with fail
      go_ret
      exact ⟨rfl, hB1⟩
  · have d1 : decide (3000 < (a.size : Int)) = true := decide_eq_true (by omega)
    go_enter Try.func4, Try.ntmps4
    go_wp2_with fail
    refine HF.out.mono ?_
    rintro e w1 ⟨rfl, hB1⟩
    go_wp2_with fail
    go_ret
    exact ⟨rfl, hB1⟩
theorem keysOf_inj {a b : List ByteArray} (h : keysOf a = keysOf b) : a = b := by
  have hl : a.length = b.length := by have := congrArg List.length h; rwa [length_keysOf, length_keysOf] at this
  refine strs_ext a b hl (fun j hj => ?_)
  have := congrArg (fun x => List.getD x j []) h
  simp only [keysOf_at] at this
  exact bytes_ext this
theorem sizes_mem {l : List ByteArray} {M : Nat} (h : ∀ i, (l.getD i ByteArray.empty).size ≤ M) (s : ByteArray) (hs : s ∈ l) : s.size ≤ M := by
  obtain ⟨i, hi, rfl⟩ := List.getElem_of_mem hs
  have := h i
  rwa [List.getD_eq_getElem?_getD, List.getElem?_eq_getElem hi] at this
theorem sizes_getD {l : List ByteArray} {M : Nat} (h : ∀ s ∈ l, s.size ≤ M) (i : Nat) : (l.getD i ByteArray.empty).size ≤ M := by
  by_cases hi : i < l.length
  · exact h _ (mem_getD hi)
  · rw [List.getD_eq_getElem?_getD, List.getElem?_eq_none (by omega)]; exact Nat.zero_le _
theorem block_len {L : List ByteArray} (h1 : L.length ≤ 200) (h2 : ∀ i, (L.getD i ByteArray.empty).size ≤ 300) : (blockOf (keysOf L)).length ≤ 100000 := by
  have hp := pos_le (keysOf L) 300 (by omega) (fun i => by rw [keysOf_at, size_data]; exact h2 i) (keysOf L).length
  have hl : (keysOf L).length ≤ 200 := by rw [length_keysOf]; exact h1
  rw [length_blockOf]
  have : (keysOf L).length * (300 + 20) ≤ 200 * (300 + 20) := Nat.mul_le_mul_right _ hl
  have : wholes (keysOf L).length ≤ 200 := by unfold wholes; omega
  omega
theorem parse_own {K : List Text} (h1 : K.length ≤ 3000) (h2 : ∀ i, (K.getD i []).length ≤ 3000) (hr : Rises K) (ks : List Text) (h : parse (keysPart (blockOf K)) [] = some ks) : ks.length ≤ 3000 ∧ ∀ i, (ks.getD i []).length ≤ 3000 := by
  have hR := reads_block K (by omega) (fun i => by have := h2 i; omega) hr
  have : ks = K := Option.some.inj (h.symm.trans hR.2.1)
  subst this
  exact ⟨h1, h2⟩
set_option maxRecDepth 100000 in
set_option maxHeartbeats 2000000 in
theorem lawBuilds (a : Option Addr) (cap : Nat) (l : List ByteArray) (srt : Bool) (w : World) (hl : l.length ≤ 9223372036854775807) (hs : ∀ s ∈ l, s.size ≤ 9223372036854775807) (h : IsStrs w a l) :
    Calls Try.prog 5 #[.slice a l.length cap, .bool srt] w fun e w' => e = .returned (.bool true) ∧ Below w.heap.size w w' := by
  have HF := Lib.hid (fixed_any w)
  have H := Lib.hid h
  have HS := Lib.hid hs
  clear h hs
  go_enter Try.func5, Try.ntmps5
  go_wp2_with fail
  refine HF.out.mono ?_
  clear HF
  rintro e w1 ⟨rfl, hB1⟩
  have HFew := Lib.hid (few_any a cap l w1 hl HS.out (H.out.below hB1))
  go_wp2_with fail
  refine HFew.out.mono ?_
  clear HFew
  rintro e w2 ⟨⟨r, rfl, hr⟩, rfl⟩
  cases r with
  | false =>
    go_wp2_with fail
    go_ret
    exact ⟨rfl, hB1⟩
  | true =>
    obtain ⟨hl2, hs2⟩ := hr rfl
    have HS2 := Lib.hid hs2
    clear hr hs2
    have H1 := Lib.hid (H.out.below hB1)
    go_upto_if 16 with (fail)
    go_cut [0] (fun v wc => ∃ a' c' L, v = .slice a' L.length c' ∧ L.length ≤ 200 ∧ Hid ((∀ i, (L.getD i ByteArray.empty).size ≤ 300) ∧ IsStrs wc a' L) ∧ Below w.heap.size w wc)
    case first =>
      cases srt with
      | false =>
        go_wp2_with fail
        go_meet
        case rel => exact ⟨a, cap, l, rfl, hl2, ⟨HS2.out, H1.out⟩, hB1⟩
      | true =>
        have HSort := Lib.hid (sorted_any a cap l w2 (by omega) H1.out)
        go_wp2_with fail
        refine HSort.out.mono ?_
        rintro e w3 ⟨v, L, rfl, hrow, _, hLl, hmem, hb3⟩
        have hB3 := hB1.trans (hb3.mono hB1.size)
        obtain ⟨a3, m3, c3, rfl⟩ := row_slice hrow
        have hm3 := row_len' hrow
        subst hm3
        have hst := row_strs hrow
        have HSt := Lib.hid hst
        have HMem := Lib.hid hmem
        clear hrow hst hmem
        go_wp2_with fail
        go_meet
        case rel => exact ⟨a3, c3, L, rfl, by omega, ⟨fun i => sizes_getD (fun s hs => sizes_mem HS2.out s (HMem.out s hs)) i, HSt.out⟩, hB3⟩
    case rest =>
      obtain ⟨a', c', L, rfl, hL, hst, hB3⟩ := hcut
      have hsz := hst.out.1
      have hst2 := hst.out.2
      have HBu := Lib.hid (build_any a' c' L _ (by omega) (fun i => by have := hsz i; omega) hst2)
      have HSz := Lib.hid hsz
      have HSt := Lib.hid hst2
      clear hst hsz hst2
      go_wp2_with fail
      refine HBu.out.mono ?_
      clear HBu
      rintro e w4 ⟨hy4, hn4, hb4⟩
      have hB4 := hB3.trans (hb4.mono hB3.size)
      have hst4 := HSt.out.below hb4
      have HBr := Lib.hid (refbuild_any a' c' L w4 (by omega) (fun i => by have := HSz.out i; omega) hst4)
      by_cases hris : Rises (keysOf L)
      · obtain ⟨v4, rfl, hrow4⟩ := hy4 hris
        have HRis := Lib.hid hris
        have HSt4 := Lib.hid hst4
        clear hy4 hn4 hb4 hst4 hris
        obtain ⟨a4, m4, c4, rfl⟩ := row_slice hrow4
        have hm4 := row_len' hrow4
        subst hm4
        go_wp2_with fail
        refine HBr.out.mono ?_
        clear HBr
        rintro e w5 ⟨hy5, _, hb5⟩
        obtain ⟨v5, rfl, hrow5⟩ := hy5 HRis.out
        have hB5 := hB4.trans (hb5.mono hB4.size)
        have hrow45 := Below.row hb5 hrow4
        have HSt5 := Lib.hid (HSt4.out.below hb5)
        clear hy5 hb5 hrow4
        obtain ⟨a5, m5, c5, rfl⟩ := row_slice hrow5
        have hm5 := row_len' hrow5
        subst hm5
        have hby4 := row_bytes' hrow45
        have hby5 := row_bytes' hrow5
        have hcap4 := row_cap1 hrow45
        have hbl := block_len hL HSz.out
        have hcv4 := run_string_of_bytes (P := Try.prog) w5 26 9 5 a4 (blockOf (keysOf L)).length c4 (blockOf (keysOf L)) rfl Try.underlying26 Try.underlying5 Try.underlying9 hby4
        have hcv5 := run_string_of_bytes (P := Try.prog) w5 26 9 5 a5 (blockOf (keysOf L)).length c5 (blockOf (keysOf L)) rfl Try.underlying26 Try.underlying5 Try.underlying9 hby5
        have HPar := Lib.hid (fun ks h => parse_own (K := keysOf L) (by rw [length_keysOf]; omega) (fun i => by rw [keysOf_at, size_data]; have := HSz.out i; omega) HRis.out ks h)
        have HKeys := Lib.hid (keys_any a4 c4 (blockOf (keysOf L)) w5 (by omega) hcap4 HPar.out hby4)
        have HRd := Lib.hid (reads_block (keysOf L) (by rw [length_keysOf]; omega) (fun i => by rw [keysOf_at, size_data]; have := HSz.out i; omega) HRis.out)
        clear hby4 hby5 hrow45 hrow5
        generalize (blockOf (keysOf L)).length = BL at *
        generalize hXX : ({ data := (blockOf (keysOf L)).toArray } : ByteArray) = XX at *
        have hde : (XX.toList == XX.toList) = true := by simp
        clear hXX
        go_wp2_with fail
        refine HKeys.out.mono ?_
        clear HKeys
        rintro e w6 ⟨hb6, hy6, _⟩
        obtain ⟨v6, K', hK', rfl, hrow6⟩ := hy6 _ HRd.out
        have hKK := keysOf_inj hK'
        subst hKK
        have hB6 := hB5.trans (hb6.mono hB5.size)
        obtain ⟨a6, m6, c6, rfl⟩ := row_slice hrow6
        have hm6 := row_len' hrow6
        subst hm6
        have HSame := Lib.hid (same_any a6 a' c6 c' K' K' w6 (by omega) (by omega) (row_strs hrow6) (HSt5.out.below hb6))
        clear hy6 hb6 hrow6
        go_wp2_with fail
        refine HSame.out.mono ?_
        clear HSame
        rintro e w7 ⟨rfl, k7, rfl⟩
        have hB7 := Below.drewN hB6 k7
        generalize w6.drewN k7 = w7 at *
        have hdd : decide (K' = K') = true := by simp
        go_wp2_with fail
        go_ret
        exact ⟨by first | rfl | simp, hB7⟩
      · have := hn4 hris
        subst this
        have HRis := Lib.hid hris
        clear hy4 hn4 hb4 hst4 hris
        go_wp2_with fail
        refine HBr.out.mono ?_
        clear HBr
        rintro e w5 ⟨_, hn5, hb5⟩
        have := hn5 HRis.out
        subst this
        have hB5 := hB4.trans (hb5.mono hB4.size)
        have hcv := run_string_of_bytes (P := Try.prog) w5 26 9 5 none 0 0 [] rfl Try.underlying26 Try.underlying5 Try.underlying9 (fun h => by cases h)
        clear hn5 hb5
        go_wp2_with fail
        go_ret
        exact ⟨rfl, hB5⟩
end Go.Proofs.Ytbamohcaamgalab
