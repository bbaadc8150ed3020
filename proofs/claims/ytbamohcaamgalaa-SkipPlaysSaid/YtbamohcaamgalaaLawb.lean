/- SkipWalks: the law walked. -/
import Derived.Test.YtbamohcaamgalaaLawa
namespace Go.Proofs.Ytbamohcaamgalaa
set_option linter.unusedVariables false
set_option linter.unusedSimpArgs false
open Go.RowKit

/-- a list of the law's own -/
def Own (B : Nat) (W : World) (g : Nat) (ns : List Nd) : Prop := Tw W g ns ∧ B ≤ g ∧ ∀ i, i < ns.length → B ≤ (ns.getD i default).b
theorem Own.put {B g m : Nat} {ns : List Nd} {key : ByteArray} {w w' : World} {e : Ending} (h : Own B w g ns) (hB : B ≤ w.heap.size) (hm : m ≤ ns.length) (hp : PutDoes g ns key m w e w') : ∃ (r : Bool) (ns' : List Nd), e = .returned (.bool r) ∧ Own B w' g ns' ∧ Below B w w' ∧
    (r = false ∧ ns' = ns ∧ (m < ns.length ∧ (keysN ns).getD m ByteArray.empty = key) ∨ r = true ∧ (∃ nb H, ns' = ins ns m ⟨nb, key, H⟩ ∧ w.heap.size ≤ nb) ∧ ¬ (m < ns.length ∧ (keysN ns).getD m ByteArray.empty = key)) ∧ Turned g ns w w' := by
  by_cases hy : m < ns.length ∧ (keysN ns).getD m ByteArray.empty = key
  · obtain ⟨rfl, hT, hb⟩ := hp.1 hy
    exact ⟨false, ns, rfl, ⟨hT, h.2.1, h.2.2⟩, hb.mono hB, .inl ⟨rfl, rfl, hy⟩, Turned.of hb⟩
  · obtain ⟨nb, H, rfl, hn, hT, hU⟩ := hp.2 hy
    refine ⟨true, _, rfl, ⟨hT, h.2.1, fun i hi => ?_⟩, hU.below h.2.1 h.2.2 hB, .inr ⟨rfl, ⟨nb, H, rfl, hn⟩, hy⟩, hU⟩
    rw [ins_len ns m _ hm] at hi
    rw [ins_at ns m _ hm]
    by_cases a : i < m
    · rw [if_pos a]; exact h.2.2 i (by omega)
    · rw [if_neg a]
      by_cases b : i = m
      · rw [if_pos b]; exact Nat.le_trans hB hn
      · rw [if_neg b]; exact h.2.2 (i - 1) (by omega)
theorem Own.below {B g : Nat} {ns : List Nd} {w w' : World} (h : Own B w g ns) (hb : Below w.heap.size w w') : Own B w' g ns := ⟨h.1.below hb, h.2⟩
theorem few_at (a : Option Addr) (cap : Nat) (l : List ByteArray) (w : World) (hl : l.length ≤ 9223372036854775807) (hs : ∀ s ∈ l, s.size ≤ 9223372036854775807) (h : IsStrs w a l) :
    Calls Try.prog 8 #[.slice a l.length cap] w fun e w' => (∃ r : Bool, e = .returned (.bool r) ∧ (r = true → l.length ≤ 200 ∧ ∀ i, (l.getD i ByteArray.empty).size ≤ 200)) ∧ w' = w := few_any a cap l w hl hs h
/-- behind some puts -/
def PutsRel (B : Nat) (w1 : World) (g j : Nat) (wr : World) : Prop := ∃ ns, Own B wr g ns ∧ ns.length ≤ j ∧ sizeN ns ≤ 200 * j ∧ Below B w1 wr
theorem sizeN_put {ns ns' : List Nd} {key : ByteArray} {m : Nat} {r : Bool} {X : Prop} {w : Nat} (hm : m ≤ ns.length) (h : r = false ∧ ns' = ns ∧ X ∨ r = true ∧ (∃ nb H, ns' = ins ns m ⟨nb, key, H⟩ ∧ w ≤ nb) ∧ ¬ X) : ns'.length ≤ ns.length + 1 ∧ sizeN ns' ≤ sizeN ns + key.size := by
  rcases h with ⟨_, rfl, _⟩ | ⟨_, ⟨nb, H, rfl, _⟩, _⟩
  · exact ⟨by omega, by omega⟩
  · rw [ins_len ns m _ hm, sizeN_ins]; exact ⟨Nat.le_refl _, Nat.le_refl _⟩
theorem first_empty (ks : List Text) : First ks (Ahead false []) 0 := by
  refine ⟨Nat.zero_le _, fun j hj => absurd hj (Nat.not_lt_zero _), fun _ h => ?_⟩
  unfold Ahead at h
  simp at h
theorem first_after {ks : List Text} (hr : Rises ks) (j : Nat) (hj : j < ks.length) : First ks (Ahead true (ks.getD j [])) (j + 1) := by
  refine ⟨hj, fun i hi => ?_, fun h => ?_⟩
  · unfold Ahead
    simp only [if_true]
    intro hlt
    by_cases e : i = j
    · subst e; exact absurd hlt (List.lt_irrefl _)
    · exact absurd (text_trans hlt (rises_lt hr i j (by omega) hj)) (List.lt_irrefl _)
  · unfold Ahead
    simp only [if_true]
    intro hn
    exact hn (rises_lt hr j (j + 1) (by omega) h)
set_option maxRecDepth 100000 in
set_option maxHeartbeats 4000000 in
theorem lawWalks (a : Option Addr) (cap : Nat) (l : List UInt8) (a2 : Option Addr) (cap2 : Nat) (ps : List ByteArray) (w : World) (hl : l.length ≤ 9223372036854775807) (hc : l.length ≤ cap) (h : IsBytes w a l) (hl2 : ps.length ≤ 9223372036854775807) (hs2 : ∀ s ∈ ps, s.size ≤ 9223372036854775807) (h2 : IsStrs w a2 ps) :
    Calls Try.prog 4 #[.slice a l.length cap, .slice a2 ps.length cap2] w fun e w' => e = .returned (.bool true) ∧ Below w.heap.size w w' := by
  have HF := Lib.hid (fixed_any w)
  have H := Lib.hid h
  have H2 := Lib.hid h2
  have HS2 := Lib.hid hs2
  clear h h2 hs2
  go_enter Try.func4, Try.ntmps4
  go_wp2_with fail
  refine HF.out.mono ?_
  clear HF
  rintro e w1 ⟨rfl, hB1⟩
  have HFew := Lib.hid (few_at a2 cap2 ps w1 hl2 HS2.out (H2.out.below hB1))
  go_wp2_with fail
  refine HFew.out.mono ?_
  clear HFew
  rintro e w2 ⟨⟨r, rfl, hr⟩, rfl⟩
  cases r with
  | false =>
    go_wp2_with fail
    go_ret
    exact ⟨rfl, hB1⟩
  | true =>
    obtain ⟨hp200, hk200⟩ := hr rfl
    have HK := Lib.hid hk200
    clear hr hk200
    by_cases h1000 : 1000 < l.length
    · have d1 : decide (1000 < (l.length : Int)) = true := decide_eq_true (by omega)
      have d1' : decide (1000 < l.length) = true := decide_eq_true h1000
      clear h1000
      go_wp2_with fail
      go_ret
      exact ⟨rfl, hB1⟩
    · have d1 : decide (1000 < (l.length : Int)) = false := decide_eq_false (by omega)
      have d1' : decide (1000 < l.length) = false := decide_eq_false h1000
      have HN := Lib.hid (new_any a cap l w2 (by omega) hc (H.out.below hB1))
      clear h1000
      go_wp2_with fail
      refine HN.out.mono ?_
      clear HN d1 d1'
      rintro e w3 ⟨g, rfl, hg, hT3, hB3⟩
      have hrel0 : Hid (PutsRel w2.heap.size w2 g 0 w3) := ⟨[], ⟨hT3, hg, fun i hi => absurd hi (Nat.not_lt_zero _)⟩, Nat.le_refl _, Nat.zero_le _, hB3⟩
      clear hT3 hB3 hg
      go_wp2_with fail
      go_loopw [27] (fun i wr => ∃ j : Nat, i = .int .i64 j ∧ j ≤ ps.length ∧ Hid (PutsRel w2.heap.size w2 g j wr)) (fun i _ => ps.length - (intOf i).toNat)
      case atStart => exact ⟨0, rfl, Nat.zero_le _, hrel0⟩
      case round =>
        clear hrel0
        obtain ⟨j, rfl, hj, hst⟩ := hrel
        obtain ⟨ns, hown, hnl, hnz, hB⟩ := hst.out
        clear hst
        by_cases hjc : j < ps.length
        · have dj : decide ((j : Int) < (ps.length : Int)) = true := decide_eq_true (by omega)
          have hij : (j : Int) < (ps.length : Int) := by omega
          obtain ⟨pb, po, rfl, hpb, hpc⟩ := ((H2.out.below hB1).below hB) (by omega)
          have c1 := hpc j hjc
          have hks := HK.out j
          generalize ps.getD j ByteArray.empty = key at *
          obtain ⟨m, hm⟩ := first_some (keysOf (keysN ns)) (Ahead false key.data.toList)
          have hmn : m ≤ ns.length := by have := hm.1; rwa [length_keysN] at this
          have HPut := Lib.hid (put_any g ns key wr hown.1 (by omega) (by omega) (by omega) m hm)
          have HOwn := Lib.hid hown
          have HB := Lib.hid hB
          clear hpc hown hm hB
          go_wp2_with fail
          refine HPut.out.mono ?_
          clear HPut
          intro e w5 hput
          obtain ⟨r, ns', rfl, hown', hb', hres, _⟩ := HOwn.out.put HB.out.size hmn hput
          obtain ⟨z1, z2⟩ := sizeN_put hmn hres
          have HR : Hid (PutsRel w2.heap.size w2 g (j + 1) w5) := ⟨ns', hown', by omega, by omega, HB.out.trans hb'⟩
          clear hput hown' hb' hres z1 z2
          go_wp2_with fail
          go_roundw
          case rel => exact ⟨j + 1, by go_num, by omega, HR⟩
          case measure => simp [intOf]; omega
        · obtain rfl : j = ps.length := by omega
          have dj : decide ((ps.length : Int) < (ps.length : Int)) = false := by simp
          have HOwn := Lib.hid hown
          have hBw := hB1.trans (hB.mono hB1.size)
          have HAll := Lib.hid (all_any g ns wr hown.1 (by omega))
          clear hown hB
          go_wp2_with fail
          refine HAll.out.mono ?_
          clear HAll
          rintro e w5 ⟨v, rfl, hrow5, hb5⟩
          obtain ⟨av, mv, cv, rfl⟩ := row_slice hrow5
          have hmv := row_len' hrow5
          have hown5 := HOwn.out.below hb5
          have HSk := Lib.hid (seek_any g ns { data := #[] } w5 hown5.1)
          have hB5 := hBw.trans (hb5.mono hBw.size)
          have HRow5 := Lib.hid hrow5
          have HOwn5 := Lib.hid hown5
          have HMV := Lib.hid hmv
          have hmvu : mv ≤ 200 := by omega
          clear hrow5 hb5 hown5 hmv
          go_wp2_with fail
          refine HSk.out.mono ?_
          clear HSk
          rintro e w6 ⟨⟨i, hi, rfl⟩, hb6⟩
          have hi0 : i = 0 := first_one hi (first_empty _)
          subst hi0
          have hB6 := hB5.trans (hb6.mono hB5.size)
          have HRow6 := Lib.hid (Below.row hb6 HRow5.out)
          have HOwn6 := Lib.hid (HOwn5.out.below hb6)
          clear hi hb6 HRow5 HOwn5
          have hkl : (keysN ns).length = mv := by rw [HMV.out]; simp [keysN]
          rw [hkl]
          obtain ⟨kv, hkv⟩ : ∃ kv, kv = (if 0 < mv then (keysN ns).getD 0 ByteArray.empty else ByteArray.empty) := ⟨_, rfl⟩
          obtain ⟨okv, hokv⟩ : ∃ okv, okv = decide (0 < mv) := ⟨_, rfl⟩
          rw [← hkv, ← hokv]
          have hrel1 : Hid (Own w2.heap.size w6 g ns ∧ w6.ownsRow wr.heap.size 9 1 (.slice av mv cv) mv (strsV (keysN ns)) ∧ Below w.heap.size w w6 ∧ kv = (if 0 < mv then (keysN ns).getD 0 ByteArray.empty else ByteArray.empty) ∧ okv = decide (0 < mv)) := ⟨HOwn6.out, by have := HRow6.out; rwa [← HMV.out] at this, hB6, hkv, hokv⟩
          have HKL := Lib.hid hkl
          clear hkv hokv hkl HRow6 HOwn6 hB6 HMV
          generalize wr.heap.size = BR at *
          go_wp2_with fail
          go_loopw [9, 10, 44] (fun kvv okk i wx => ∃ (j : Nat) (kv : ByteArray) (okv : Bool), kvv = .string kv ∧ okk = .bool okv ∧ i = .int .i64 j ∧ j ≤ mv ∧ Hid (Own w2.heap.size wx g ns ∧ wx.ownsRow BR 9 1 (.slice av mv cv) mv (strsV (keysN ns)) ∧ Below w.heap.size w wx ∧ kv = (if j < mv then (keysN ns).getD j ByteArray.empty else ByteArray.empty) ∧ okv = decide (j < mv))) (fun _ _ i _ => mv - (intOf i).toNat)
          case atStart => exact ⟨0, kv, okv, rfl, rfl, rfl, Nat.zero_le _, hrel1⟩
          case round =>
            clear hrel1
            obtain ⟨j, kv, okv, rfl, rfl, rfl, hj, hst⟩ := hrel
            obtain ⟨hown, hrow, hB, hkv, hokv⟩ := hst.out
            clear hst
            by_cases hjm : j < mv
            · have dj : decide ((j : Int) < (mv : Int)) = true := decide_eq_true (by omega)
              have hij : (j : Int) < (mv : Int) := by omega
              rw [decide_eq_true hjm] at hokv
              rw [if_pos hjm] at hkv
              obtain ⟨ge, oe, rfl, _, hcell⟩ := row_vals hrow (by rw [length_strsV]; have := HKL.out; omega)
              have ce := (hcell j (by rw [length_strsV]; have := HKL.out; omega)).trans (strsV_get (keysN ns) j (by have := HKL.out; omega))
              have HAft := Lib.hid (after_any g ns ((keysN ns).getD j ByteArray.empty) wr hown.1)
              have hfa := first_after hown.1.rises j (by rw [length_keysOf, HKL.out]; exact hjm)
              rw [keysOf_at] at hfa
              have HFA := Lib.hid hfa
              have HOwn2 := Lib.hid hown
              have HRow2 := Lib.hid hrow
              have HB2 := Lib.hid hB
              rw [← hkv] at ce HAft HFA
              have he : (kv.toList == kv.toList) = true := by simp
              subst hokv
              clear hcell hfa hown hrow hB hkv
              go_wp2_with fail
              refine HAft.out.mono ?_
              clear HAft
              rintro e w7 ⟨⟨i, hi, rfl⟩, hb7⟩
              have hi1 : i = j + 1 := first_one hi HFA.out
              subst hi1
              rw [HKL.out]
              have hR : Hid (Own w2.heap.size w7 g ns ∧ w7.ownsRow BR 9 1 (.slice (some ⟨ge, oe, none⟩) mv cv) mv (strsV (keysN ns)) ∧ Below w.heap.size w w7 ∧ (if j + 1 < mv then (keysN ns).getD (j + 1) ByteArray.empty else ByteArray.empty) = (if j + 1 < mv then (keysN ns).getD (j + 1) ByteArray.empty else ByteArray.empty) ∧ decide (j + 1 < mv) = decide (j + 1 < mv)) := ⟨HOwn2.out.below hb7, Below.row hb7 HRow2.out, HB2.out.trans (hb7.mono HB2.out.size), rfl, rfl⟩
              obtain ⟨kn, hkn⟩ : ∃ kn, kn = (if j + 1 < mv then (keysN ns).getD (j + 1) ByteArray.empty else ByteArray.empty) := ⟨_, rfl⟩
              obtain ⟨okn, hokn⟩ : ∃ okn, okn = decide (j + 1 < mv) := ⟨_, rfl⟩
              rw [← hkn, ← hokn]
              have HKN := Lib.hid hkn
              have HOK := Lib.hid hokn
              clear hkn hokn hi hb7
              go_wp2_with fail
              go_roundw
              case rel => exact ⟨j + 1, kn, okn, rfl, rfl, by go_num, by omega, ⟨hR.out.1, hR.out.2.1, hR.out.2.2.1, HKN.out, HOK.out⟩⟩
              case measure => simp [intOf]; omega
            · obtain rfl : j = mv := by omega
              have dj : decide ((j : Int) < (j : Int)) = false := by simp
              rw [decide_eq_false hjm] at hokv
              subst hokv
              have HLn := Lib.hid (len_any g ns wr hown.1)
              have hbe : ((j : Int) == (ns.length : Int)) = true := by
                have := HKL.out
                have e : (keysN ns).length = ns.length := by simp [keysN]
                rw [← this, e]; simp
              clear hrow hown hkv hjm
              go_wp2_with fail
              refine HLn.out.mono ?_
              clear HLn
              rintro e w7 ⟨rfl, rfl⟩
              go_wp2_with fail
              go_ret
              exact ⟨rfl, hB⟩
end Go.Proofs.Ytbamohcaamgalaa
