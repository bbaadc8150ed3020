/- SkipDraws: the law walked. -/
import Derived.Test.YtbamohcaamgalaaLawb
namespace Go.Proofs.Ytbamohcaamgalaa
set_option linter.unusedVariables false
set_option linter.unusedSimpArgs false
open Go.RowKit

/-- two lists that have no block in common -/
def Apart2 (g : Nat) (ns : List Nd) (g' : Nat) (ns' : List Nd) : Prop := g ≠ g' ∧ (∀ i, i < ns.length → (ns.getD i default).b ≠ g') ∧ (∀ i, i < ns'.length → (ns'.getD i default).b ≠ g) ∧ ∀ i j, i < ns.length → j < ns'.length → (ns.getD i default).b ≠ (ns'.getD j default).b
theorem Apart2.symm {g g' : Nat} {ns ns' : List Nd} (h : Apart2 g ns g' ns') : Apart2 g' ns' g ns := ⟨h.1.symm, h.2.2.1, h.2.1, fun i j hi hj => (h.2.2.2 j i hj hi).symm⟩
/-- a list stays while another's blocks turn -/
theorem Tw.turned {W W' : World} {g g' : Nat} {ns ns' : List Nd} (h : Tw W g ns) (hA : Apart2 g ns g' ns') (hT : Tw W g' ns') (hU : Turned g' ns' W W') : Tw W' g ns := by
  have key : ∀ k, k < W.heap.size → k ≠ g' → (∀ i, i < ns'.length → k ≠ (ns'.getD i default).b) → W'.heap[k]? = W.heap[k]? := hU.2.2.2.2
  refine h.same (key g h.gLt hA.1 (fun i hi => (hA.2.2.1 i hi).symm)) (fun i hi => key _ (h.blkLt i hi) (hA.2.1 i hi) (fun j hj => hA.2.2.2 i j hi hj)) (fun k cs hk => key k (heap_lt hk) ?_ (fun j hj => ?_))
  · rintro rfl
    obtain ⟨cs', h1, _⟩ := hT.head
    rw [h1] at hk
    simp at hk
  · rintro rfl
    obtain ⟨⟨cs', h1, _⟩, _⟩ := hT.node j hj
    rw [h1] at hk
    simp at hk
theorem Apart2.ins {g g' m nb H : Nat} {ns ns' : List Nd} {key : ByteArray} (h : Apart2 g ns g' ns') (hm : m ≤ ns.length) (hnb : nb ≠ g') (hnn : ∀ j, j < ns'.length → nb ≠ (ns'.getD j default).b) : Apart2 g (ins ns m ⟨nb, key, H⟩) g' ns' := by
  have key1 : ∀ i, i < (Go.Proofs.Ytbamohcaamgalaa.ins ns m ⟨nb, key, H⟩).length → (∃ i', i' < ns.length ∧ ((Go.Proofs.Ytbamohcaamgalaa.ins ns m ⟨nb, key, H⟩).getD i default) = ns.getD i' default) ∨ (Go.Proofs.Ytbamohcaamgalaa.ins ns m ⟨nb, key, H⟩).getD i default = ⟨nb, key, H⟩ := fun i hi => by
    rw [ins_len ns m _ hm] at hi
    rw [ins_at ns m _ hm]
    by_cases a : i < m
    · rw [if_pos a]; exact .inl ⟨i, by omega, rfl⟩
    · rw [if_neg a]
      by_cases b : i = m
      · rw [if_pos b]; exact .inr rfl
      · rw [if_neg b]; exact .inl ⟨i - 1, by omega, rfl⟩
  refine ⟨h.1, fun i hi => ?_, h.2.2.1, fun i j hi hj => ?_⟩
  · rcases key1 i hi with ⟨i', h1, e⟩ | e
    · rw [e]; exact h.2.1 i' h1
    · rw [e]; exact hnb
  · rcases key1 i hi with ⟨i', h1, e⟩ | e
    · rw [e]; exact h.2.2.2 i' j h1 hj
    · rw [e]; exact hnn j hj
/-- two lists with the same keys -/
def Two (B : Nat) (w1 : World) (g g' j : Nat) (wr : World) : Prop := ∃ ns ns', Own B wr g ns ∧ Own B wr g' ns' ∧ Apart2 g ns g' ns' ∧ keysN ns = keysN ns' ∧ ns.length ≤ j ∧ sizeN ns ≤ 200 * j ∧ Below B w1 wr
theorem sizeN_keys (ns : List Nd) : sizeN ns = ((keysN ns).map (·.size)).sum := by simp [sizeN, keysN, Function.comp_def]
theorem length_of_keys {ns ns' : List Nd} (h : keysN ns = keysN ns') : ns.length = ns'.length := by have := congrArg List.length h; simpa [keysN] using this
/-- what both puts do -/
theorem two_put {B g g' m : Nat} {ns ns' : List Nd} {key : ByteArray} {w w' w'' : World} {e e' : Ending} (h : Own B w g ns) (h' : Own B w g' ns') (hA : Apart2 g ns g' ns') (hk : keysN ns = keysN ns') (hB : B ≤ w.heap.size) (hm : m ≤ ns.length)
    (hp : PutDoes g ns key m w e w') (hp' : PutDoes g' ns' key m w' e' w'') : ∃ (r : Bool) (ms ms' : List Nd), e = .returned (.bool r) ∧ e' = .returned (.bool r) ∧ Own B w'' g ms ∧ Own B w'' g' ms' ∧ Apart2 g ms g' ms' ∧ keysN ms = keysN ms' ∧ ms.length ≤ ns.length + 1 ∧ sizeN ms ≤ sizeN ns + key.size ∧ Below B w w'' := by
  have hlen := length_of_keys hk
  obtain ⟨r, ms, rfl, ho, hb, hres, hU⟩ := h.put hB hm hp
  have ho' : Own B w' g' ns' := ⟨h'.1.turned hA.symm h.1 hU, h'.2⟩
  have hA1 : Apart2 g ms g' ns' := by
    rcases hres with ⟨_, rfl, _⟩ | ⟨_, ⟨nb, H, rfl, hn⟩, _⟩
    · exact hA
    · exact hA.ins hm (by have := h'.1.gLt; omega) (fun j hj => by have := h'.1.blkLt j hj; omega)
  obtain ⟨r', ms', rfl, ho2, hb2, hres', hU'⟩ := ho'.put (Nat.le_trans hB hU.2.2.2.1) (by omega) hp'
  have ho3 : Own B w'' g ms := ⟨ho.1.turned hA1 ho'.1 hU', ho.2⟩
  have hA2 : Apart2 g ms g' ms' := by
    rcases hres' with ⟨_, rfl, _⟩ | ⟨_, ⟨nb, H, rfl, hn⟩, _⟩
    · exact hA1
    · exact (hA1.symm.ins (by omega) (by have := ho.1.gLt; omega) (fun j hj => by have := ho.1.blkLt j hj; omega)).symm
  obtain ⟨z1, z2⟩ := sizeN_put hm hres
  rw [← hk, ← hlen] at hres'
  have hrr : r = r' ∧ keysN ms = keysN ms' := by
    rcases hres with ⟨rfl, rfl, hy⟩ | ⟨rfl, ⟨nb, H, rfl, _⟩, hn⟩
    · rcases hres' with ⟨rfl, rfl, _⟩ | ⟨_, _, hn'⟩
      · exact ⟨rfl, hk⟩
      · exact absurd hy hn'
    · rcases hres' with ⟨_, _, hy'⟩ | ⟨rfl, ⟨nb', H', rfl, _⟩, _⟩
      · exact absurd hy' hn
      · exact ⟨rfl, by rw [keysN_ins, keysN_ins, hk]⟩
  obtain ⟨rfl, hkk⟩ := hrr
  exact ⟨r, ms, ms', rfl, rfl, ho3, ho2, hA2, hkk, z1, z2, hb.trans hb2⟩
theorem same_at (a a2 : Option Addr) (cap cap2 n n2 : Nat) (l l2 : List ByteArray) (w : World) (hn : l.length = n) (hn2 : l2.length = n2) (hl : n ≤ 1000000000) (hl2 : n2 ≤ 1000000000) (h : IsStrs w a l) (h2 : IsStrs w a2 l2) (he : l = l2) :
    Calls Try.prog 12 #[.slice a n cap, .slice a2 n2 cap2] w fun e w' => e = .returned (.bool true) ∧ Below w.heap.size w w' := by
  subst hn hn2
  refine (same_any a a2 cap cap2 l l2 w hl hl2 h h2).mono fun e w' hs => ?_
  obtain ⟨rfl, n, rfl⟩ := hs
  exact ⟨by rw [decide_eq_true he], Below.drewN (Below.refl _ _) n⟩
set_option maxRecDepth 100000 in
set_option maxHeartbeats 4000000 in
theorem lawDraws (a : Option Addr) (cap : Nat) (l : List UInt8) (a1 : Option Addr) (cap1 : Nat) (l1 : List UInt8) (a2 : Option Addr) (cap2 : Nat) (ps : List ByteArray) (a3 : Option Addr) (cap3 : Nat) (qs : List ByteArray) (w : World) (hl : l.length ≤ 9223372036854775807) (hc : l.length ≤ cap) (h : IsBytes w a l) (hl1 : l1.length ≤ 9223372036854775807) (hc1 : l1.length ≤ cap1) (h1 : IsBytes w a1 l1)
    (hl2 : ps.length ≤ 9223372036854775807) (hs2 : ∀ s ∈ ps, s.size ≤ 9223372036854775807) (h2 : IsStrs w a2 ps) (hl3 : qs.length ≤ 9223372036854775807) (hs3 : ∀ s ∈ qs, s.size ≤ 9223372036854775807) (h3 : IsStrs w a3 qs) :
    Calls Try.prog 3 #[.slice a l.length cap, .slice a1 l1.length cap1, .slice a2 ps.length cap2, .slice a3 qs.length cap3] w fun e w' => e = .returned (.bool true) ∧ Below w.heap.size w w' := by
  have HF := Lib.hid (fixed_any w)
  have H := Lib.hid h
  have H1 := Lib.hid h1
  have H2 := Lib.hid h2
  have HS2 := Lib.hid hs2
  have H3 := Lib.hid h3
  have HS3 := Lib.hid hs3
  clear h h1 h2 hs2 h3 hs3
  go_enter Try.func3, Try.ntmps3
  go_wp2_with fail
  refine HF.out.mono ?_
  clear HF
  rintro e w1 ⟨rfl, hB1⟩
  have HFew := Lib.hid (few_at a2 cap2 ps w1 hl2 HS2.out (H2.out.below hB1))
  go_wp2_with fail
  refine HFew.out.mono ?_
  clear HFew
  rintro e w2 ⟨⟨r, rfl, hr⟩, rfl⟩
  cases r with
  | false =>
    go_wp2_with fail
    go_ret
    exact ⟨rfl, hB1⟩
  | true =>
    obtain ⟨hp200, hk200⟩ := hr rfl
    have HK := Lib.hid hk200
    have HFew := Lib.hid (few_at a3 cap3 qs w2 hl3 HS3.out (H3.out.below hB1))
    clear hr hk200
    go_wp2_with fail
    refine HFew.out.mono ?_
    clear HFew
    rintro e w3 ⟨⟨r, rfl, hr⟩, rfl⟩
    cases r with
    | false =>
      go_wp2_with fail
      go_ret
      exact ⟨rfl, hB1⟩
    | true =>
      obtain ⟨hq200, _⟩ := hr rfl
      clear hr
      by_cases g1 : 1000 < l.length
      · have d1 : decide (1000 < (l.length : Int)) = true := decide_eq_true (by omega)
        have d1' : decide (1000 < l.length) = true := decide_eq_true g1
        clear g1
        go_wp2_with fail
        go_ret
        exact ⟨rfl, hB1⟩
      · have d1 : decide (1000 < (l.length : Int)) = false := decide_eq_false (by omega)
        have d1' : decide (1000 < l.length) = false := decide_eq_false g1
        by_cases g2 : 1000 < l1.length
        · have d2 : decide (1000 < (l1.length : Int)) = true := decide_eq_true (by omega)
          have d2' : decide (1000 < l1.length) = true := decide_eq_true g2
          clear g1 g2
          go_wp2_with fail
          go_ret
          exact ⟨rfl, hB1⟩
        · have d2 : decide (1000 < (l1.length : Int)) = false := decide_eq_false (by omega)
          have d2' : decide (1000 < l1.length) = false := decide_eq_false g2
          have HN := Lib.hid (new_any a cap l w3 (by omega) hc (H.out.below hB1))
          have hll1 : l1.length ≤ 1000000 := by omega
          clear g1 g2
          go_wp2_with fail
          refine HN.out.mono ?_
          clear HN
          rintro e w4 ⟨g, rfl, hg, hT4, hB4⟩
          have HN := Lib.hid (new_any a1 cap1 l1 w4 hll1 hc1 (H1.out.below (hB1.trans (hB4.mono hB1.size))))
          go_wp2_with fail
          refine HN.out.mono ?_
          clear HN d1 d1' d2 d2'
          rintro e w5 ⟨g', rfl, hg', hT5, hB5⟩
          have hrel0 : Hid (Two w3.heap.size w3 g g' 0 w5) := ⟨[], [], ⟨hT4.below hB5, hg, fun i hi => absurd hi (Nat.not_lt_zero _)⟩, ⟨hT5, Nat.le_trans hB4.size hg', fun i hi => absurd hi (Nat.not_lt_zero _)⟩, ⟨by have := hT4.gLt; omega, fun i hi => absurd hi (Nat.not_lt_zero _), fun i hi => absurd hi (Nat.not_lt_zero _), fun i j hi => absurd hi (Nat.not_lt_zero _)⟩, rfl, Nat.le_refl _, Nat.zero_le _, hB4.trans (hB5.mono hB4.size)⟩
          clear hT4 hT5 hB4 hB5 hg hg'
          go_wp2_with fail
          go_loopw [45] (fun i wr => ∃ j : Nat, i = .int .i64 j ∧ j ≤ ps.length ∧ Hid (Two w3.heap.size w3 g g' j wr)) (fun i _ => ps.length - (intOf i).toNat)
          case atStart => exact ⟨0, rfl, Nat.zero_le _, hrel0⟩
          case round =>
            clear hrel0
            obtain ⟨j, rfl, hj, hst⟩ := hrel
            obtain ⟨ns, ns', hown, hown', hap, hkk, hnl, hnz, hB⟩ := hst.out
            clear hst
            have hlen := length_of_keys hkk
            by_cases hjc : j < ps.length
            · have dj : decide ((j : Int) < (ps.length : Int)) = true := decide_eq_true (by omega)
              have hij : (j : Int) < (ps.length : Int) := by omega
              obtain ⟨pb, po, rfl, hpb, hpc⟩ := ((H2.out.below hB1).below hB) (by omega)
              have c1 := hpc j hjc
              have hks := HK.out j
              generalize ps.getD j ByteArray.empty = key at *
              obtain ⟨m, hm⟩ := first_some (keysOf (keysN ns)) (Ahead false key.data.toList)
              have hmn : m ≤ ns.length := by have := hm.1; rwa [length_keysN] at this
              have HPut := Lib.hid (put_any g ns key wr hown.1 (by omega) (by omega) (by omega) m hm)
              have HOwn := Lib.hid hown
              have HOwn' := Lib.hid hown'
              have HAp := Lib.hid hap
              have HKK := Lib.hid hkk
              have HB := Lib.hid hB
              have hz' : sizeN ns' = sizeN ns := by rw [sizeN_keys, sizeN_keys, hkk]
              have hm' : First (keysOf (keysN ns')) (Ahead false key.data.toList) m := by rw [← hkk]; exact hm
              have HM' := Lib.hid hm'
              have hb1 : ns'.length ≤ 1000000 := by omega
              have hb2 : sizeN ns' ≤ 1000000000 := by omega
              have hb3 : key.size ≤ 1000000000 := by omega
              have HNL : Hid (ns.length ≤ j ∧ sizeN ns ≤ 200 * j ∧ key.size ≤ 200) := ⟨hnl, hnz, hks⟩
              clear hpc hown hown' hap hkk hm hB hz' hm' hlen
              go_wp2_with fail
              refine HPut.out.mono ?_
              clear HPut
              intro e w5 hput
              obtain ⟨r, ms, rfl, ho, hb, hres, hU⟩ := HOwn.out.put HB.out.size hmn hput
              have ho' : Tw w5 g' ns' := HOwn'.out.1.turned HAp.out.symm HOwn.out.1 hU
              have HPut := Lib.hid (put_any g' ns' key w5 ho' hb1 hb2 hb3 m HM'.out)
              have HPut1 := Lib.hid hput
              clear hput ho hb hres hU ho'
              go_wp2_with fail
              refine HPut.out.mono ?_
              clear HPut
              intro e' w6 hput'
              obtain ⟨r2, ms2, ms', e1, rfl, t1, t2, t3, t4, t5, t6, t7⟩ := two_put HOwn.out HOwn'.out HAp.out HKK.out HB.out.size hmn HPut1.out hput'
              have hrr : r = r2 := by simpa using e1
              subst hrr
              have HR : Hid (Two w3.heap.size w3 g g' (j + 1) w6) := ⟨ms2, ms', t1, t2, t3, t4, by have := HNL.out; omega, by have := HNL.out; omega, HB.out.trans t7⟩
              clear hput' e1 t1 t2 t3 t4 t5 t6 t7
              cases r with
              | true =>
                go_wp2_with fail
                go_roundw
                case rel => exact ⟨j + 1, by go_num, by omega, HR⟩
                case measure => simp [intOf]; omega
              | false =>
                go_wp2_with fail
                go_roundw
                case rel => exact ⟨j + 1, by go_num, by omega, HR⟩
                case measure => simp [intOf]; omega
            · obtain rfl : j = ps.length := by omega
              have dj : decide ((ps.length : Int) < (ps.length : Int)) = false := by simp
              have HOwn := Lib.hid hown
              have HOwn' := Lib.hid hown'
              have HKK := Lib.hid hkk
              have HB := Lib.hid hB
              have hnu : ns.length ≤ 200 := by omega
              have hnu' : ns'.length ≤ 200 := by omega
              have HNU : Hid (ns.length ≤ 200 ∧ ns'.length ≤ 200) := ⟨hnu, hnu'⟩
              clear hown hown' hkk hB hap hnz hnl hlen hnu hnu'
              go_wp2_with fail
              have hrel1 : Hid (Own w3.heap.size wr g ns ∧ Own w3.heap.size wr g' ns' ∧ Below w3.heap.size w3 wr) := ⟨HOwn.out, HOwn'.out, HB.out⟩
              clear HOwn HOwn' HB
              go_loopw [59] (fun i wx => ∃ j : Nat, i = .int .i64 j ∧ j ≤ qs.length ∧ Hid (Own w3.heap.size wx g ns ∧ Own w3.heap.size wx g' ns' ∧ Below w3.heap.size w3 wx)) (fun i _ => qs.length - (intOf i).toNat)
              case atStart => exact ⟨0, rfl, Nat.zero_le _, hrel1⟩
              case round =>
                clear hrel1
                obtain ⟨j, rfl, hj, hst⟩ := hrel
                obtain ⟨ho, ho', hB⟩ := hst.out
                clear hst
                have HO := Lib.hid ho
                have HO' := Lib.hid ho'
                have HB := Lib.hid hB
                by_cases hjc : j < qs.length
                · have dj : decide ((j : Int) < (qs.length : Int)) = true := decide_eq_true (by omega)
                  have hij : (j : Int) < (qs.length : Int) := by omega
                  obtain ⟨pb, po, rfl, hpb, hpc⟩ := ((H3.out.below hB1).below hB) (by omega)
                  have c1 := hpc j hjc
                  generalize qs.getD j ByteArray.empty = key at *
                  have HS := Lib.hid (seek_any g ns key wr ho.1)
                  clear hpc ho ho' hB
                  go_wp2_with fail
                  refine HS.out.mono ?_
                  clear HS
                  rintro e w7 ⟨hs, hb7⟩
                  obtain ⟨s1, b1, rfl⟩ := seekIs_out hs
                  have HS1 := Lib.hid hs
                  have HS := Lib.hid (seek_any g' ns' key w7 (HO'.out.below hb7).1)
                  have HB7 := Lib.hid hb7
                  clear hs hb7
                  go_wp2_with fail
                  refine HS.out.mono ?_
                  clear HS
                  rintro e w8 ⟨hs, hb8⟩
                  obtain ⟨s2, b2, rfl⟩ := seekIs_out hs
                  have hss : s1 = s2 ∧ b1 = b2 := by
                    obtain ⟨i1, hi1, e1⟩ := HS1.out
                    obtain ⟨i2, hi2, e2⟩ := hs
                    rw [← HKK.out] at hi2 e2
                    have := first_one hi1 hi2
                    subst this
                    have := e1.trans e2.symm
                    simpa using this
                  obtain ⟨rfl, rfl⟩ := hss
                  have hT7 := HB7.out
                  have HR : Hid (Own w3.heap.size w8 g ns ∧ Own w3.heap.size w8 g' ns' ∧ Below w3.heap.size w3 w8) := ⟨(HO.out.below HB7.out).below hb8, (HO'.out.below HB7.out).below hb8, (HB.out.trans (HB7.out.mono HB.out.size)).trans (hb8.mono (Nat.le_trans HB.out.size HB7.out.size))⟩
                  have he : (s1.toList == s1.toList) = true := by simp
                  clear hs hb8 hT7
                  cases b1 with
                  | true =>
                    go_wp2_with fail
                    go_roundw
                    case rel => exact ⟨j + 1, by go_num, by omega, HR⟩
                    case measure => simp [intOf]; omega
                  | false =>
                    go_wp2_with fail
                    go_roundw
                    case rel => exact ⟨j + 1, by go_num, by omega, HR⟩
                    case measure => simp [intOf]; omega
                · obtain rfl : j = qs.length := by omega
                  have dj : decide ((qs.length : Int) < (qs.length : Int)) = false := by simp
                  have HAll := Lib.hid (all_any g ns wr ho.1 (by have := HNU.out; omega))
                  clear ho ho' hB
                  go_wp2_with fail
                  refine HAll.out.mono ?_
                  clear HAll
                  rintro e w7 ⟨v7, rfl, hrow7, hb7⟩
                  obtain ⟨a7, m7, c7, rfl⟩ := row_slice hrow7
                  have hm7 := row_len' hrow7
                  have HAll := Lib.hid (all_any g' ns' w7 (HO'.out.below hb7).1 (by have := HNU.out; omega))
                  have HB7 := Lib.hid hb7
                  have HRow7 := Lib.hid hrow7
                  have HM7 := Lib.hid hm7
                  clear hrow7 hb7 hm7
                  go_wp2_with fail
                  refine HAll.out.mono ?_
                  clear HAll
                  rintro e w8 ⟨v8, rfl, hrow8, hb8⟩
                  obtain ⟨a8, m8, c8, rfl⟩ := row_slice hrow8
                  have hm8 := row_len' hrow8
                  have hrow7 := Below.row hb8 HRow7.out
                  have HSa := Lib.hid (same_at a7 a8 c7 c8 m7 m8 (keysN ns) (keysN ns') w8 (by rw [HM7.out]; simp [keysN]) (by rw [hm8]; simp [keysN]) (by have := HM7.out; have := HNU.out; omega) (by have := HNU.out; omega) (row_strs hrow7) (row_strs hrow8) HKK.out)
                  have HB8 := Lib.hid hb8
                  clear hrow7 hrow8 hb8 hm8
                  go_wp2_with fail
                  refine HSa.out.mono ?_
                  clear HSa
                  rintro e w9 ⟨rfl, hb9⟩
                  have o9 := ((HO.out.below HB7.out).below HB8.out).below hb9
                  have o9' := ((HO'.out.below HB7.out).below HB8.out).below hb9
                  have hB9 := (((hB1.trans (HB.out.mono hB1.size)).trans (HB7.out.mono (Nat.le_trans hB1.size HB.out.size))).trans (HB8.out.mono (Nat.le_trans hB1.size (Nat.le_trans HB.out.size HB7.out.size)))).trans (hb9.mono (Nat.le_trans hB1.size (Nat.le_trans HB.out.size (Nat.le_trans HB7.out.size HB8.out.size))))
                  have HZ1 := Lib.hid (size_any g ns w9 o9.1)
                  have HZ2 := Lib.hid (size_any g' ns' w9 o9'.1)
                  have hzz : sizeN ns' = sizeN ns := by rw [sizeN_keys, sizeN_keys, HKK.out]
                  rw [hzz] at HZ2
                  clear o9 o9' hb9 hzz
                  generalize sizeN ns = Z at *
                  go_wp2_with fail
                  refine HZ1.out.mono ?_
                  rintro e w10 ⟨rfl, rfl⟩
                  go_wp2_with fail
                  refine HZ2.out.mono ?_
                  rintro e w11 ⟨rfl, rfl⟩
                  go_wp2_with fail
                  go_ret
                  exact ⟨rfl, hB9⟩
end Go.Proofs.Ytbamohcaamgalaa
