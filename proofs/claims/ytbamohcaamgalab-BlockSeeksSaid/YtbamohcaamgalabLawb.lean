/- BlockReads, BlockSeeks: the laws walked. -/
import Derived.Test.YtbamohcaamgalabLawa
namespace Go.Proofs.Ytbamohcaamgalab
set_option linter.unusedVariables false
set_option linter.unusedSimpArgs false
open Go.RowKit

theorem reads_blk {l : List UInt8} {ks : List Text} (hl : l.length ≤ 3000) (h : Reads l ks) : Blk l ks := by
  have hk : (keysPart l).length ≤ l.length := by unfold keysPart; rw [List.length_take]; omega
  obtain ⟨h1, h2⟩ := parse_bound (keysPart l).length (keysPart l) [] ks (Nat.le_refl _) h.2.1
  exact ⟨h.2.2.1, h.2.2.2.symm, by omega, fun i => by have := h2 i; rw [List.length_nil] at this; omega⟩
theorem parse_small {l : List UInt8} (hl : l.length ≤ 3000) (ks : List Text) (h : parse (keysPart l) [] = some ks) : ks.length ≤ 3000 ∧ ∀ i, (ks.getD i []).length ≤ 3000 := by
  have hk : (keysPart l).length ≤ l.length := by unfold keysPart; rw [List.length_take]; omega
  obtain ⟨h1, h2⟩ := parse_bound (keysPart l).length (keysPart l) [] ks (Nat.le_refl _) h
  exact ⟨by omega, fun i => by have := h2 i; rw [List.length_nil] at this; omega⟩
set_option maxRecDepth 100000 in
set_option maxHeartbeats 2000000 in
theorem lawReads (a : Option Addr) (cap : Nat) (l : List UInt8) (key : ByteArray) (w : World) (hl : l.length ≤ 9223372036854775807) (hc : l.length ≤ cap) (hk : key.size ≤ 9223372036854775807) (h : IsBytes w a l) :
    Calls Try.prog 6 #[.slice a l.length cap, .string key] w fun e w' => e = .returned (.bool true) ∧ Below w.heap.size w w' := by
  have HF := Lib.hid (fixed_any w)
  have H := Lib.hid h
  clear h
  by_cases h1 : l.length ≤ 3000
  · have d1 : decide (3000 < (l.length : Int)) = false := decide_eq_false (by omega)
    have d1' : decide (3000 < l.length) = false := decide_eq_false (by omega)
    by_cases h2 : key.size ≤ 300
    · have d2 : decide (300 < (key.size : Int)) = false := decide_eq_false (by omega)
      have d2' : decide (300 < key.size) = false := decide_eq_false (by omega)
      have HPar := Lib.hid (fun ks h => parse_small h1 ks h)
      go_enter Try.func6, Try.ntmps6
      go_wp2_with fail
      refine HF.out.mono ?_
      clear HF
      rintro e w1 ⟨rfl, hB1⟩
      have HKeys := Lib.hid (keys_any a cap l w1 (by omega) hc HPar.out (H.out.below hB1))
      go_wp2_with fail
      refine HKeys.out.mono ?_
      clear HKeys
      rintro e w2 ⟨hb2, hy2, hn2⟩
      have hB2 := hB1.trans (hb2.mono hB1.size)
      have HRKeys := Lib.hid (refkeys_any a cap l w2 (by omega) hc HPar.out (H.out.below hB2))
      by_cases hR : ∃ ks, Reads l ks
      · obtain ⟨ks, hks⟩ := hR
        have HBlk := Lib.hid (reads_blk h1 hks)
        obtain ⟨v2, K2, hK2, rfl, hrow2⟩ := hy2 ks hks
        have HKs := Lib.hid hks
        clear hy2 hn2 hb2 hks
        go_wp2_with fail
        refine HRKeys.out.mono ?_
        clear HRKeys
        rintro e w3 ⟨hb3, hy3, _⟩
        obtain ⟨v3, K3, hK3, rfl, hrow3⟩ := hy3 ks HKs.out
        have hKK := keysOf_inj (hK2.trans hK3.symm)
        subst hKK
        have hB3 := hB2.trans (hb3.mono hB2.size)
        have hrow23 := Below.row hb3 hrow2
        have HSeek := Lib.hid (seek_any a cap l key w3 (by omega) hc (H.out.below hB3))
        clear hy3 hb3 hrow2 hK3
        go_wp2_with fail
        refine HSeek.out.mono ?_
        clear HSeek
        rintro e w4 ⟨hb4, x, ok, g, rfl, _, _, hg4⟩
        obtain ⟨rfl, _⟩ := hg4 ks HBlk.out
        have hB4 := hB3.trans (hb4.mono hB3.size)
        have hrow24 := Below.row hb4 hrow23
        have hrow34 := Below.row hb4 hrow3
        clear hg4 hb4 hrow23 hrow3
        obtain ⟨a2, m2, c2, rfl⟩ := row_slice hrow24
        have hm2 := row_len' hrow24
        subst hm2
        obtain ⟨a3, m3, c3, rfl⟩ := row_slice hrow34
        have hm3 := row_len' hrow34
        subst hm3
        have hKl : K2.length ≤ 3000 := by have := HBlk.out.2.2.1; rw [← hK2, length_keysOf] at this; exact this
        have HSame := Lib.hid (same_any a2 a3 c2 c3 K2 K2 w4 (by omega) (by omega) (row_strs hrow24) (row_strs hrow34))
        clear hrow24 hrow34
        go_wp2_with fail
        refine HSame.out.mono ?_
        clear HSame
        rintro e w5 ⟨rfl, k5, rfl⟩
        have hB5 := Below.drewN hB4 k5
        generalize w4.drewN k5 = w5 at *
        have hdd : decide (K2 = K2) = true := by simp
        generalize decide (K2 = K2) = dk at *
        subst hdd
        have HEnds := Lib.hid (refends_any a cap l w5 (by omega) (H.out.below hB5) hc)
        have HEnd : Hid (endsOk l) := HKs.out.1
        go_wp2_with fail
        refine HEnds.out.mono ?_
        clear HEnds
        rintro e w6 ⟨n, rfl, hn, _, k6, rfl⟩
        have hB6 := Below.drewN hB5 k6
        generalize w5.drewN k6 = w6 at *
        have hne := hn HEnd.out
        have hd0 : decide (0 ≤ n) = true := decide_eq_true (by omega)
        clear hn hne
        go_wp2_with fail
        go_ret
        exact ⟨rfl, hB6⟩
      · have hno : ∀ ks, ¬ Reads l ks := fun ks h => hR ⟨ks, h⟩
        have := hn2 hno
        subst this
        have HNo := Lib.hid hno
        clear hy2 hn2 hb2 hno hR
        go_wp2_with fail
        refine HRKeys.out.mono ?_
        clear HRKeys
        rintro e w3 ⟨hb3, _, hn3⟩
        have := hn3 HNo.out
        subst this
        have hB3 := hB2.trans (hb3.mono hB2.size)
        have HSeek := Lib.hid (seek_any a cap l key w3 (by omega) hc (H.out.below hB3))
        clear hn3 hb3
        go_wp2_with fail
        refine HSeek.out.mono ?_
        clear HSeek
        rintro e w4 ⟨hb4, x, ok, g, rfl, hg, hge, _⟩
        have hB4 := hB3.trans (hb4.mono hB3.size)
        have HSame := Lib.hid (same_any none none 0 0 [] [] w4 (by decide) (by decide) (fun h => by cases h) (fun h => by cases h))
        clear hb4
        go_wp2_with fail
        refine HSame.out.mono ?_
        clear HSame
        rintro e w5 ⟨rfl, k5, rfl⟩
        have hB5 := Below.drewN hB4 k5
        generalize w4.drewN k5 = w5 at *
        rcases hg with rfl | rfl
        · have HEnds := Lib.hid (refends_any a cap l w5 (by omega) (H.out.below hB5) hc)
          have HEnd : Hid (endsOk l) := hge rfl
          clear hge
          go_wp2_with fail
          refine HEnds.out.mono ?_
          clear HEnds
          rintro e w6 ⟨n, rfl, hn, _, k6, rfl⟩
          have hB6 := Below.drewN hB5 k6
          generalize w5.drewN k6 = w6 at *
          have hne := hn HEnd.out
          have hd0 : decide (0 ≤ n) = true := decide_eq_true (by omega)
          clear hn hne
          go_wp2_with fail
          go_ret
          exact ⟨rfl, hB6⟩
        · clear hge
          go_wp2_with fail
          go_ret
          exact ⟨rfl, hB5⟩
    · have d2 : decide (300 < (key.size : Int)) = true := decide_eq_true (by omega)
      have d2' : decide (300 < key.size) = true := decide_eq_true (by omega)
      go_enter Try.func6, Try.ntmps6
      go_wp2_with fail
      refine HF.out.mono ?_
      rintro e w1 ⟨rfl, hB1⟩
      go_wp2_with fail
      go_ret
      exact ⟨rfl, hB1⟩
  · have d1 : decide (3000 < (l.length : Int)) = true := decide_eq_true (by omega)
    have d1' : decide (3000 < l.length) = true := decide_eq_true (by omega)
    go_enter Try.func6, Try.ntmps6
    go_wp2_with fail
    refine HF.out.mono ?_
    rintro e w1 ⟨rfl, hB1⟩
    go_wp2_with fail
    go_ret
    exact ⟨rfl, hB1⟩
end Go.Proofs.Ytbamohcaamgalab
