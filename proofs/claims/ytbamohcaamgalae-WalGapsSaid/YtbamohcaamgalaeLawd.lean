/- WalGaps: the law walked. -/
import Derived.Test.YtbamohcaamgalaeOpenb
namespace Go.Proofs.Ytbamohcaamgalae
set_option linter.unusedVariables false
set_option linter.unusedSimpArgs false
open Go.RowKit

def GapRel (P : List (Nat × List Ent)) (k d : Nat) (w1 : World) (j : Nat) (vb : Value) (wr : World) : Prop :=
  Below w1.heap.size w1 wr ∧ wr.ownsRow w1.heap.size 5 1 vb (logB ((mix k d P).take j)).length (bytesV (logB ((mix k d P).take j))) ∧ (∀ i, i < j → ComOk (P.getD i default) ∧ (k ≤ i → ComOk (bump d (P.getD i default)))) ∧ (logB ((mix k d P).take j)).length ≤ j * 12688
/-- the first j moved on -/
def upd (nr : Nat) (es : List Ent) (j : Nat) : List Ent := (es.take j).map (setR nr) ++ es.drop j
theorem upd_len (nr : Nat) (es : List Ent) (j : Nat) : (upd nr es j).length = es.length := by simp [upd]; omega
theorem upd_zero (nr : Nat) (es : List Ent) : upd nr es 0 = es := by simp [upd]
theorem upd_all (nr : Nat) (es : List Ent) : upd nr es es.length = es.map (setR nr) := by simp [upd]
theorem entsV_cons (x : Ent) (r : List Ent) : entsV (x :: r) = .string x.key :: .int .u64 (x.rev : Int) :: .bool x.del :: entsV r := rfl
theorem upd_set (nr : Nat) (es : List Ent) (j : Nat) (h : j < es.length) : (entsV (upd nr es j)).set (j * 3 + 1) (.int .u64 (nr : Int)) = entsV (upd nr es (j + 1)) := by
  have ed : es.drop j = es.getD j default :: es.drop (j + 1) := by
    rw [List.drop_eq_getElem_cons h, List.getD_eq_getElem?_getD, List.getElem?_eq_getElem h]; rfl
  unfold upd
  rw [setR_take nr es j h, ed, entsV_append, entsV_append, entsV_append, entsV_cons, List.append_assoc]
  have hl : (entsV ((es.take j).map (setR nr))).length = j * 3 := by rw [length_entsV, List.length_map, List.length_take, Nat.min_eq_left (by omega)]
  rw [List.set_append_right _ _ (by omega), hl, show j * 3 + 1 - j * 3 = 1 by omega]
  rfl
theorem ents_vals {w : World} {a : Option Addr} {l : List Ent} (h : IsEnts w a l) : IsVals w a (entsV l) := by
  intro h0
  rw [length_entsV] at h0
  obtain ⟨b, off, ha, hb, hc⟩ := h (by omega)
  refine ⟨b, off, ha, hb, fun k hk => ?_⟩
  rw [length_entsV] at hk
  obtain ⟨c0, c1, c2⟩ := hc (k / 3) (by omega)
  obtain ⟨e0, e1, e2⟩ := entsV_get l (k / 3) (by omega)
  rcases (show k = k / 3 * 3 ∨ k = k / 3 * 3 + 1 ∨ k = k / 3 * 3 + 2 by omega) with e | e | e
  · rw [e, c0, e0]
  · rw [e, ← Nat.add_assoc, c1, e1]
  · rw [e, ← Nat.add_assoc, c2, e2]
theorem row_empty (w : World) (B : Nat) (e : TypeId) (size : Nat) (h : B ≤ w.heap.size) : (w.alloc (.cells #[] e)).ownsRow B e size (.slice (some ⟨w.heap.size, 0, none⟩) 0 0) 0 [] :=
  ⟨by simp, .inr ⟨w.heap.size, 0, #[], rfl, h, heap_alloc_new w _, Nat.le_refl _, by unfold maxLen; omega, by simp, by simp⟩⟩
theorem bump_okay (first d : Nat) (l : List (List Ent)) (j : Nat) (hf : 0 < first) (hb : first + l.length + d < 18446744073709551616) (h : j < (comsOf first l).length) (h60 : ((comsOf first l).getD j default).2.length ≤ 60) (hk : ∀ i, (((comsOf first l).getD j default).2.getD i default).key.size ≤ 200) :
    ComOk (bump d ((comsOf first l).getD j default)) ∧ (recordB (bump d ((comsOf first l).getD j default)).1 (bump d ((comsOf first l).getD j default)).2).length ≤ 12680 := by
  have hr := comsOf_rev l first j h
  obtain ⟨h1, h2⟩ := comsOf_ents l first j h
  have hlen := comsOf_len l first
  generalize (comsOf first l).getD j default = c at *
  obtain ⟨rev, es⟩ := c
  simp only at hr h1 h2 h60 hk
  subst hr
  have hk' : ∀ i, ((es.map (setR (first + j + d))).getD i default).key.size ≤ 200 := by
    intro i
    by_cases hi : i < es.length
    · have := hk i
      rw [List.getD_eq_getElem?_getD, List.getElem?_eq_getElem hi] at this
      rw [List.getD_eq_getElem?_getD, List.getElem?_map, List.getElem?_eq_getElem hi]
      exact this
    · rw [List.getD_eq_getElem?_getD, List.getElem?_eq_none (by simp; omega)]; decide
  refine ⟨ok_com (first + j + d) (es.map (setR (first + j + d))) (by omega) (by omega) (by simpa using h1) (by simp; omega) (fun i hi => ?_) hk', ?_⟩
  · simp only [List.length_map] at hi
    rw [List.getD_eq_getElem?_getD, List.getElem?_map, List.getElem?_eq_getElem hi]; rfl
  · have := recK_len (first + j + d) (es.map (setR (first + j + d))) (by omega) (by simp; omega) hk' (es.map (setR (first + j + d))).length (Nat.le_refl _)
    rw [recK_all, List.length_map] at this
    show (recordB (first + j + d) (es.map (setR (first + j + d)))).length ≤ 12680
    omega
theorem encode_at (rev : Nat) (a : Option Addr) (cap n : Nat) (es : List Ent) (w : World) (hn : es.length = n) (hr : rev < 18446744073709551616) (hl : n ≤ 400) (hk : ∀ i, (es.getD i default).key.size ≤ 200) (he : ∀ i, EntOk (es.getD i default)) (h : IsEnts w a es) :
    Calls Try.prog 9 #[comV rev a n cap] w (EncIs rev es w) := by
  subst hn; exact encode_any rev a cap es w hr hl hk he h
theorem setR_short (nr : Nat) (es : List Ent) (hn : nr < 18446744073709551616) (hk : ∀ i, (es.getD i default).key.size ≤ 200) : (∀ i, ((es.map (setR nr)).getD i default).key.size ≤ 200) ∧ ∀ i, EntOk ((es.map (setR nr)).getD i default) := by
  have key : ∀ i, ((es.map (setR nr)).getD i default).key.size ≤ 200 ∧ ((es.map (setR nr)).getD i default).rev < 18446744073709551616 := by
    intro i
    by_cases hi : i < es.length
    · have := hk i
      rw [List.getD_eq_getElem?_getD, List.getElem?_eq_getElem hi] at this
      rw [List.getD_eq_getElem?_getD, List.getElem?_map, List.getElem?_eq_getElem hi]
      exact ⟨this, hn⟩
    · rw [List.getD_eq_getElem?_getD, List.getElem?_eq_none (by simp; omega)]; exact ⟨by decide, by decide⟩
  exact ⟨fun i => (key i).1, fun i => ⟨(key i).2, by have := (key i).1; omega⟩⟩
set_option maxRecDepth 100000 in
set_option maxHeartbeats 4000000 in
theorem lawGaps (first : Nat) (a : Option Addr) (cap : Nat) (ls : List SL) (at' by' : Nat) (w : World) (hf : first < 18446744073709551616) (hl : ls.length ≤ 9223372036854775807) (ha : at' < 256) (hby : by' < 18446744073709551616) (h : IsSls w a ls) :
    Calls Try.prog 6 #[.int .u64 (first : Int), .slice a ls.length cap, .int .u8 (at' : Int), .int .u64 (by' : Int)] w fun e w' => e = .returned (.bool true) ∧ Below w.heap.size w w' := by
  obtain ⟨i5, hi5, hy0, hy1, hy2⟩ := info_parts Try.info5
  obtain ⟨i48, hi48, hz0, hz1, hz2⟩ := info_parts Try.info48
  have HF := Lib.hid (fixed_any w)
  have H := Lib.hid h
  clear h
  by_cases hg : ls.length ≤ 20 ∧ 0 < first ∧ first ≤ 1152921504606846976 ∧ 0 < by' ∧ by' ≤ 1152921504606846976
  · have d1 : decide (20 < (ls.length : Int)) = false := decide_eq_false (by omega)
    have d1' : decide (20 < ls.length) = false := decide_eq_false (by omega)
    have d2 : decide ((first : Int) < 1) = false := decide_eq_false (by omega)
    have d2' : decide (first < 1) = false := decide_eq_false (by omega)
    have d3 : decide (1152921504606846976 < (first : Int)) = false := decide_eq_false (by omega)
    have d3' : decide (1152921504606846976 < first) = false := decide_eq_false (by omega)
    have d4 : ((by' : Int) == 0) = false := by rw [beq_eq_false_iff_ne]; omega
    have d5 : decide (1152921504606846976 < (by' : Int)) = false := decide_eq_false (by omega)
    have d5' : decide (1152921504606846976 < by') = false := decide_eq_false (by omega)
    have HG : Hid (ls.length ≤ 20 ∧ 0 < first ∧ first ≤ 1152921504606846976 ∧ 0 < by' ∧ by' ≤ 1152921504606846976) := hg
    clear hg
    go_enter Try.func6, Try.ntmps6
    go_wp2_with fail
    refine HF.out.mono ?_
    clear HF
    rintro e w0 ⟨rfl, hB0⟩
    have HC := Lib.hid (commits_any first a cap ls w0 (by have := HG.out; omega) (by have := HG.out; omega) (H.out.below hB0))
    go_wp2_with fail
    refine HC.out.mono ?_
    clear HC d1 d1' d2 d2' d3 d3' d4 d5 d5'
    rintro e w1 ⟨hb1, v, cs, rfl, hpr, hrow, hce, hok⟩
    have hB1 := hB0.trans (hb1.mono hB0.size)
    obtain ⟨ac, mc, cc, rfl⟩ := row_slice hrow
    have hmc := row_len' hrow
    subst hmc
    have HCR := Lib.hid (repRead hrow hce)
    have HCC : Hid (cs.length ≤ cc) := row_cap1 hrow
    have hcl : cs.length ≤ 20 := by
      have h1 := comsOf_len (esOf ls) first
      have h2 := HG.out
      rw [← hpr, pairs_len, esOf, List.length_map] at h1
      omega
    have HPR := Lib.hid hpr
    have hco : ∀ j, j < cs.length → (cs.getD j default).es.length ≤ 60 → (∀ i, ((cs.getD j default).es.getD i default).key.size ≤ 200) → (ComOk ((pairs cs).getD j default) ∧ (recordB (cs.getD j default).rev (cs.getD j default).es).length ≤ 12680) ∧ (ComOk (bump by' ((pairs cs).getD j default)) ∧ (recordB ((cs.getD j default).rev + by') ((cs.getD j default).es.map (setR ((cs.getD j default).rev + by')))).length ≤ 12680) ∧ (cs.getD j default).rev ≤ 1152921504606847000 := by
      intro j hj h60 hk
      have h2 := HG.out
      have hjj : j < (comsOf first (esOf ls)).length := by rw [← HPR.out, pairs_len]; exact hj
      have h60' : ((comsOf first (esOf ls)).getD j default).2.length ≤ 60 := by rw [← HPR.out, pairs_get cs j hj]; exact h60
      have hk' : ∀ i, (((comsOf first (esOf ls)).getD j default).2.getD i default).key.size ≤ 200 := by rw [← HPR.out, pairs_get cs j hj]; exact hk
      have t1 := com_okay first (esOf ls) j h2.2.1 (by rw [esOf, List.length_map]; omega) hjj h60' hk'
      have t2 := bump_okay first by' (esOf ls) j h2.2.1 (by rw [esOf, List.length_map]; omega) hjj h60' hk'
      have t3 := comsOf_rev (esOf ls) first j hjj
      rw [← HPR.out] at t1 t2 t3
      rw [pairs_get cs j hj] at t3
      refine ⟨⟨t1.1, ?_⟩, ⟨t2.1, ?_⟩, ?_⟩
      · have := t1.2
        rwa [pairs_get cs j hj] at this
      · have := t2.2
        rw [pairs_get cs j hj] at this
        exact this
      · simp only at t3
        omega
    have HCO := Lib.hid hco
    have HOK := Lib.hid hok
    have HRC : Hid (∀ c ∈ cs, c.rev < 18446744073709551616) := fun c hc => (hce c hc).2
    clear hco hok hpr hb1 hce hrow
    by_cases h2 : cs.length < 2
    · have e2 : decide ((cs.length : Int) < 2) = true := decide_eq_true (by omega)
      have e2' : decide (cs.length < 2) = true := decide_eq_true h2
      clear h2
      go_wp2_with fail
      go_ret
      exact ⟨rfl, hB1⟩
    · have e2 : decide ((cs.length : Int) < 2) = false := decide_eq_false (by omega)
      have e2' : decide (cs.length < 2) = false := decide_eq_false h2
      have hn1 : ((cs.length : Int) - 1) = ((cs.length - 1 : Nat) : Int) := by omega
      have hnw : IntKind.i64.wrap ((cs.length : Int) - 1) = ((cs.length - 1 : Nat) : Int) := by rw [hn1, IntKind.wrap_i64]; omega
      obtain ⟨N1, hN1⟩ : ∃ N1, N1 = cs.length - 1 := ⟨_, rfl⟩
      rw [← hN1] at hn1 hnw
      have hN1p : 0 < N1 := by omega
      have hnz : ¬ (N1 : Int) = 0 := by omega
      obtain ⟨K0, hK⟩ : ∃ K0, K0 = at' % N1 := ⟨_, rfl⟩
      have hKt : ((at' : Int)).tmod (N1 : Int) = (K0 : Int) := by rw [hK]; rfl
      have hKm : ((at' : Int)) % (N1 : Int) = (K0 : Int) := by rw [hK]; rfl
      have hKb : K0 < N1 := by rw [hK]; exact Nat.mod_lt _ hN1p
      have hKn : K0 + 1 < cs.length := by omega
      obtain ⟨K, hKK⟩ : ∃ K, K = K0 + 1 := ⟨_, rfl⟩
      have hKl : K < cs.length := by omega
      have hK0 : 0 < K := by omega
      have HK := Lib.hid hK
      have HN1 := Lib.hid hN1
      have hKw : wrap64 (K : Int) = (K : Int) := IntWalk.wrap64_in _ (by omega)
      have hK1 : (1 : Int) + (K0 : Int) = (K : Int) := by omega
      have hK2 : (K0 : Int) + 1 = (K : Int) := by omega
      clear hK h2 hN1 hKK hKn
      go_upto_region 9 with (fail)
      simp only [hKw]
      clear hKt hKm hKw hnw hn1 hnz hKb hN1p hK1 hK2
      have hrel0 : Hid (GapRel (pairs cs) K by' w1 0 (.slice none 0 0) w1) := ⟨Below.refl _ _, World.ownsRow_nil _ _ _ _, fun i hi => absurd hi (Nat.not_lt_zero _), by simp [logB]⟩
      go_wp2_with fail
      go_loopw [11, 55] (fun vb i wr => ∃ j : Nat, i = .int .i64 j ∧ j ≤ cs.length ∧ Hid (GapRel (pairs cs) K by' w1 j vb wr)) (fun _ i _ => cs.length - (intOf i).toNat)
      case atStart => exact ⟨0, rfl, Nat.zero_le _, hrel0⟩
      case round =>
        clear hrel0
        obtain ⟨j, rfl, hj, hst⟩ := hrel
        obtain ⟨hB, hrb, hoks, hlen⟩ := hst.out
        obtain ⟨ab, mb, cb, rfl⟩ := row_slice hrb
        have hmb := row_len' hrb
        rw [← hmb] at hrb hlen
        have HMB := Lib.hid hmb
        clear hst hmb
        by_cases hjc : j < cs.length
        · obtain ⟨gg, go, rfl, c0, c1, hie, hel⟩ := coms_at (HCR.out.below hB) j hjc
          have hrv : (cs.getD j default).rev < 18446744073709551616 ∧ ∀ i, EntOk ((cs.getD j default).es.getD i default) := by
            have hm : cs.getD j default ∈ cs := by rw [List.getD_eq_getElem?_getD, List.getElem?_eq_getElem hjc]; exact List.getElem_mem hjc
            exact ⟨HRC.out _ hm, (HOK.out _ hm).2⟩
          have hcj := HCO.out j hjc
          have hmx := mix_get K by' j (pairs cs) (by rw [pairs_len]; omega) (by rw [pairs_len]; exact hjc)
          have hpg := pairs_get cs j hjc
          have dj : decide ((j : Int) < (cs.length : Int)) = true := decide_eq_true (by omega)
          have hij : (j : Int) < (cs.length : Int) := by omega
          generalize cs.getD j default = x at *
          obtain ⟨rev, xa, xcap, es⟩ := x
          simp only at c0 c1 hie hel hrv hcj hpg
          rw [hpg] at hcj hmx
          have HPG := Lib.hid hpg
          have HCJ := Lib.hid hcj
          have HMX := Lib.hid hmx
          have HOKS := Lib.hid hoks
          have HEO := Lib.hid hrv.2
          have HJC : Hid (j < cs.length) := hjc
          have hr := hrv.1
          clear hcj hoks hrv hpg hmx
          have HA := Lib.hid (hB.alloc hB.size (.cells #[.int .u64 (rev : Int), .slice xa es.length xcap] 25))
          have HX := Lib.hid (heap_alloc_new wr (.cells #[.int .u64 (rev : Int), .slice xa es.length xcap] 25))
          have HRB := Lib.hid (hrb.alloc (.cells #[.int .u64 (rev : Int), .slice xa es.length xcap] 25))
          have HIE := Lib.hid (hie.below ((Below.refl _ _).alloc (Nat.le_refl _) (.cells #[.int .u64 (rev : Int), .slice xa es.length xcap] 25)))
          have HGX : Hid (w1.heap.size ≤ wr.heap.size) := hB.size
          clear hrb hie hB
          go_upto_region 13 with (fail)
          generalize (wr.alloc (.cells #[.int .u64 (rev : Int), .slice xa es.length xcap] 25)) = W at *
          generalize wr.heap.size = gx at *
          have p0 := heap_cell HX.out 0
          have p1 := heap_cell HX.out 1
          simp at p0 p1
          have HFew := Lib.hid (few_any rev xa xcap es W hel HEO.out HIE.out)
          unfold comV at HFew
          go_wp2_with fail
          refine HFew.out.mono ?_
          clear HFew
          rintro e w2 ⟨⟨r, rfl, hr2⟩, hb2⟩
          have hx2 := (hb2.block gx (heap_lt HX.out)).trans HX.out
          have q0 := heap_cell hx2 0
          have q1 := heap_cell hx2 1
          have qf0 := frozen_of_row w2 gx 0 _ _ hx2
          have qf1 := frozen_of_row w2 gx 1 _ _ hx2
          simp at q0 q1
          have hA2 := HA.out.trans (hb2.mono HA.out.size)
          clear p0 p1
          cases r with
          | false =>
            clear hr2 hb2
            go_wp2_with fail
            go_ret
            exact ⟨rfl, hB1.trans (hA2.mono hB1.size)⟩
          | true =>
            obtain ⟨h400, hks⟩ := hr2 rfl
            clear hr2
            by_cases h60 : es.length ≤ 60
            · have d60 : decide (60 < (es.length : Int)) = false := decide_eq_false (by omega)
              have d60' : decide (60 < es.length) = false := decide_eq_false (by omega)
              obtain ⟨⟨hOk1, hrl1⟩, ⟨hOk2, hrl2⟩, hrb3⟩ := HCJ.out h60 hks
              have HOk : Hid (ComOk ((pairs cs).getD j default) ∧ (K ≤ j → ComOk (bump by' ((pairs cs).getD j default)))) := ⟨by rw [HPG.out]; exact hOk1, fun _ => by rw [HPG.out]; exact hOk2⟩
              have HK1 := Lib.hid hOk1
              have HL1 := Lib.hid hrl1
              have HK2 := Lib.hid hOk2
              have HL2 := Lib.hid hrl2
              have HKS := Lib.hid hks
              have HRB2 := Lib.hid (Below.row hb2 HRB.out)
              have HIE2 := Lib.hid (HIE.out.below hb2)
              have HA2 := Lib.hid hA2
              have HX2 := Lib.hid hx2
              clear hOk1 hrl1 hOk2 hrl2 hks hb2 hA2 hx2
              by_cases hjk : j < K
              · have dk : decide ((K : Int) ≤ (j : Int)) = false := decide_eq_false (by omega)
                have hmix : (mix K by' (pairs cs)).getD j default = (rev, es) := by rw [HMX.out, if_pos hjk]
                have HMIX := Lib.hid hmix
                have HRB5 := HRB2
                have HA5 := HA2
                clear hmix
                have HEnc := Lib.hid (encode_any rev xa xcap es w2 hr h400 HKS.out HEO.out HIE2.out)
                unfold comV at HEnc
                go_wp2_with fail
                refine HEnc.out.mono ?_
                clear HEnc
                rintro e w6 ⟨hb6, hy6, _⟩
                obtain ⟨v6, rfl, hrow6⟩ := hy6 HK1.out.1
                have hA6 := HA5.out.trans (hb6.mono HA5.out.size)
                have hrb6 := Below.row hb6 HRB5.out
                obtain ⟨a6, m6, c6, rfl⟩ := row_slice hrow6
                have hm6 := row_len' hrow6
                have hm6u : m6 ≤ 12688 := by have := HL1.out; omega
                have hsl := length_seal (recordB rev es)
                have HBY := Lib.hid (row_bytes' hrow6)
                have HA6 := Lib.hid hA6
                have HRB6 := Lib.hid hrb6
                rw [← hm6] at hsl
                have HSL := Lib.hid hsl
                have hbnd : mb + m6 ≤ 1000000 := by omega
                have HM6U := Lib.hid hm6u
                clear hy6 hb6 hA6 hrb6 hrow6 hsl hm6 hm6u
                go_wp2_with (at_builtin; (refine wpList_append_bytes _ rfl (.tmp 103) (.tmp 104) 28 rfl w1.heap.size 5 i5 _ Try.underlying28 hi5 hy0 hy1 hy2 rfl (.slice ab mb cb) mb (bytesV (logB ((mix K by' (pairs cs)).take j))) (by rfl) HRB6.out a6 m6 c6 (seal_ (recordB rev es)) (by rfl) HSL.out HBY.out (by omega) HA6.out.size ?_; intro v7 w7 hrow7 hg7 _; have hA7 := Below.own HA6.out HRB6.out (Nat.le_refl _) HA6.out.size hg7; have HA7 := Lib.hid hA7; have HR7 := Lib.hid hrow7; clear hrow7 hA7 hg7))
                go_roundw
                case rel =>
                  have hmg : (mix K by' (pairs cs)).getD j default = (rev, es) := HMIX.out
                  have hls : logB ((mix K by' (pairs cs)).take (j + 1)) = logB ((mix K by' (pairs cs)).take j) ++ seal_ (recordB rev es) := by
                    rw [logB_succ _ j (by rw [mix_len, pairs_len]; exact HJC.out), hmg]
                  have hll : (logB ((mix K by' (pairs cs)).take (j + 1))).length = mb + m6 := by rw [hls, List.length_append, ← HMB.out, HSL.out]
                  refine ⟨j + 1, by go_num, by have := HJC.out; omega, ⟨HA7.out, ?_, ?_, ?_⟩⟩
                  · rw [hll, hls, bytesV_append]; exact HR7.out
                  · intro i hi
                    by_cases e : i = j
                    · rw [e]; exact HOk.out
                    · exact HOKS.out i (by omega)
                  · rw [hll]; have := HM6U.out; omega
                case measure => have := HJC.out; simp [intOf]; omega
              · have dk : decide ((K : Int) ≤ (j : Int)) = true := decide_eq_true (by omega)
                have dk' : decide (K ≤ j) = true := decide_eq_true (by omega)
                have hG := HG.out
                have hwr : IntKind.u64.wrap ((rev : Int) + (by' : Int)) = ((rev + by' : Nat) : Int) := by
                  have : (rev : Int) + (by' : Int) = ((rev + by' : Nat) : Int) := by omega
                  rw [this]; exact IntWalk.u64_in _ (by omega)
                have hnr : rev + by' < 18446744073709551616 := by omega
                have hmix : (mix K by' (pairs cs)).getD j default = (rev + by', es.map (setR (rev + by'))) := by rw [HMX.out, if_neg hjk]; rfl
                have hes0 : 0 < es.length := HK1.out.1.2.1
                have HK2' : Hid (ComOk (rev + by', es.map (setR (rev + by')))) := HK2.out
                clear hG hjk HK2
                have HK2 := HK2'
                clear HK2'
                generalize rev + by' = nr at *
                have HMIX := Lib.hid hmix
                have HSH := Lib.hid (setR_short nr es hnr HKS.out)
                clear hmix
                have hgl := heap_lt HX2.out
                have hx3 := (Below.heap_alloc w2 (.cells #[] 48) _ hgl).trans HX2.out
                have t1 := heap_cell hx3 1
                simp at t1
                have HX3 := Lib.hid hx3
                have HE3 := Lib.hid (row_empty w2 w1.heap.size 48 3 HA2.out.size)
                have HV3 := Lib.hid (ents_vals (HIE2.out.below ((Below.refl _ _).alloc (Nat.le_refl _) (.cells #[] 48))))
                have HA3 := Lib.hid (HA2.out.alloc HA2.out.size (.cells #[] 48))
                have HRB3 := Lib.hid (HRB2.out.alloc (.cells #[] 48))
                have hne : 0 + es.length ≤ 400 := by omega
                clear hx3
                go_upto_region 17 with (at_builtin; refine wpList_append_vals _ rfl (.tmp 72) (.tmp 74) 23 rfl w1.heap.size 48 i48 _ 3 32 Try.underlying23 hi48 hz0 hz1 hz2 rfl (by decide) (.slice (some ⟨w2.heap.size, 0, none⟩) 0 0) 0 [] (by rfl) HE3.out xa es.length xcap (entsV es) (by rfl) (length_entsV es) HV3.out (entsV_one es) (by unfold maxLen; omega) (by omega) HA3.out.size ?_; intro v4 w4 hrow4 hg4; rw [Nat.zero_add, List.nil_append] at hrow4; have HX4 := Lib.hid (heap_kept HE3.out HX3.out (by decide) hg4); have HRB4 := Lib.hid (HRB3.out.kept hg4 (own_ne HE3.out HRB3.out (by decide))); have HA4 := Lib.hid (Below.own HA3.out HE3.out (Nat.le_refl _) HA3.out.size hg4); obtain ⟨g4, c4, hv4, _, hg4l, _⟩ := row_shape hrow4 hes0; subst hv4; have HR4 := Lib.hid hrow4; have f4 := frozen_of_row w4 gx 1 _ _ HX4.out; have c4' := heap_cell HX4.out 1; clear hrow4 hg4; simp at c4')
                have hx5 := heap_setCell_same w4 gx 1 _ 25 (.slice (some ⟨g4, 0, none⟩) es.length c4) HX4.out
                have hr5 := HR4.out.kept (grown_cell w4 gx 1 (.slice (some ⟨g4, 0, none⟩) es.length c4)) (row_not HR4.out HX4.out (by decide))
                have hb5 := HRB4.out.kept (grown_cell w4 gx 1 (.slice (some ⟨g4, 0, none⟩) es.length c4)) (row_not HRB4.out HX4.out (by decide))
                have ha5 := HA4.out.setCell (p := ⟨gx, 1, none⟩) HGX.out (.slice (some ⟨g4, 0, none⟩) es.length c4)
                generalize (w4.setCell ⟨gx, 1, none⟩ (.slice (some ⟨g4, 0, none⟩) es.length c4)) = W5 at *
                have hx5' : W5.heap[gx]? = some (.cells #[.int .u64 (rev : Int), .slice (some ⟨g4, 0, none⟩) es.length c4] 25 (0, 0)) := hx5
                have hx6 := heap_setCell_same W5 gx 0 _ 25 (.int .u64 (nr : Int)) hx5'
                have hr6 := hr5.kept (grown_cell W5 gx 0 (.int .u64 (nr : Int))) (row_not hr5 hx5 (by decide))
                have hb6 := hb5.kept (grown_cell W5 gx 0 (.int .u64 (nr : Int))) (row_not hb5 hx5 (by decide))
                have ha6 := ha5.setCell (p := ⟨gx, 0, none⟩) HGX.out (.int .u64 (nr : Int))
                have y0 := heap_cell hx5' 0
                have y1 := heap_cell hx5' 1
                have yf := frozen_of_row W5 gx 0 _ _ hx5'
                simp at y0 y1
                have hxx : (W5.setCell ⟨gx, 0, none⟩ (.int .u64 (nr : Int))).heap[gx]? = some (.cells #[.int .u64 (nr : Int), .slice (some ⟨g4, 0, none⟩) es.length c4] 25 (0, 0)) := hx6
                have z1 := heap_cell hxx 1
                simp at z1
                have HX6 := Lib.hid hxx
                have HR6 := Lib.hid hr6
                have HB6 := Lib.hid hb6
                have HA6 := Lib.hid ha6
                clear hx5 hr5 hb5 ha5 hx5' hx6 hr6 hb6 ha6 hxx q0 q1 qf0 qf1 f4 c4' t1
                go_upto_region 18 with (fail)
                generalize (W5.setCell ⟨gx, 0, none⟩ (.int .u64 (nr : Int))) = W6 at *
                clear y0 y1 yf
                go_wp2_with fail
                clear z1
                generalize hn4 : es.length = n4 at *
                have HNE := Lib.hid hn4
                clear hn4
                have hrel1 : Hid (W6.heap[gx]? = some (.cells #[.int .u64 (nr : Int), .slice (some ⟨g4, 0, none⟩) n4 c4] 25 (0, 0)) ∧ W6.ownsRow w1.heap.size 48 3 (.slice (some ⟨g4, 0, none⟩) n4 c4) n4 (entsV (upd nr es 0)) ∧ W6.ownsRow w1.heap.size 5 1 (.slice ab mb cb) mb (bytesV (logB ((mix K by' (pairs cs)).take j))) ∧ Below w1.heap.size w1 W6) := ⟨HX6.out, by rw [upd_zero]; exact HR6.out, HB6.out, HA6.out⟩
                go_loopw [85] (fun i wr => ∃ q : Nat, i = .int .i64 q ∧ q ≤ n4 ∧ Hid (wr.heap[gx]? = some (.cells #[.int .u64 (nr : Int), .slice (some ⟨g4, 0, none⟩) n4 c4] 25 (0, 0)) ∧ wr.ownsRow w1.heap.size 48 3 (.slice (some ⟨g4, 0, none⟩) n4 c4) n4 (entsV (upd nr es q)) ∧ wr.ownsRow w1.heap.size 5 1 (.slice ab mb cb) mb (bytesV (logB ((mix K by' (pairs cs)).take j))) ∧ Below w1.heap.size w1 wr)) (fun i _ => n4 - (intOf i).toNat)
                case atStart => exact ⟨0, rfl, Nat.zero_le _, hrel1⟩
                case round =>
                  clear hrel1
                  obtain ⟨q, rfl, hq, hst⟩ := hrel
                  obtain ⟨hx, hr4, hb4, ha4⟩ := hst.out
                  clear hst
                  have v0 := heap_cell hx 0
                  have v1 := heap_cell hx 1
                  simp at v0 v1
                  by_cases hqn : q < n4
                  · have dq : decide ((q : Int) < (n4 : Int)) = true := decide_eq_true (by omega)
                    have hqi : (q : Int) < (n4 : Int) := by omega
                    obtain ⟨_, e1, _⟩ := entsV_get (upd nr es q) q (by rw [upd_len, HNE.out]; exact hqn)
                    have ce := (hr4.cellAt (q * 3 + 1) (by omega)).trans e1
                    have fe := hr4.frozenAt (q * 3 + 1)
                    have HU := Lib.hid (upd_set nr es q (by rw [HNE.out]; exact hqn))
                    have hgne : ¬ g4 = gx := by
                      intro e
                      subst e
                      have := row_not hr4 hx (by decide)
                      simp [Value.ownBlock] at this
                    generalize ((upd nr es q).getD q default).rev = or at *
                    clear e1
                    go_wp2_with fail
                    go_roundw
                    case rel =>
                      have hs := hr4.stored (q * 3 + 1) (.int .u64 (nr : Int))
                      refine ⟨q + 1, by go_num, by omega, ⟨heap_kept hr4 hx (by decide) hs.2, ?_, hb4.kept hs.2 (own_ne hr4 hb4 (by decide)), ha4.setCell (p := ⟨g4, q * 3 + 1, none⟩) (hr4.lt g4 rfl).1 _⟩⟩
                      rw [← HU.out]; exact hs.1
                    case measure => simp [intOf]; omega
                  · obtain rfl : q = n4 := by omega
                    have dq : decide ((q : Int) < (q : Int)) = false := by simp
                    have hre := hr4
                    have huu : upd nr es q = es.map (setR nr) := by rw [← HNE.out, upd_all]
                    rw [huu] at hre
                    have HIE5 := Lib.hid (row_ents hre)
                    have HRB5 := Lib.hid hb4
                    have HA5 := Lib.hid ha4
                    have HN4 : Hid ((es.map (setR nr)).length = q) := by
                      show (es.map (setR nr)).length = q
                      rw [List.length_map]; exact HNE.out
                    clear hr4 hb4 ha4 hre huu
                    have HEnc := Lib.hid (encode_at nr (some ⟨g4, 0, none⟩) c4 q (es.map (setR nr)) wr HN4.out hnr h400 HSH.out.1 HSH.out.2 HIE5.out)
                    unfold comV at HEnc
                    go_wp2_with fail
                    refine HEnc.out.mono ?_
                    clear HEnc
                    rintro e w6 ⟨hb6, hy6, _⟩
                    obtain ⟨v6, rfl, hrow6⟩ := hy6 HK2.out.1
                    have hA6 := HA5.out.trans (hb6.mono HA5.out.size)
                    have hrb6 := Below.row hb6 HRB5.out
                    obtain ⟨a6, m6, c6, rfl⟩ := row_slice hrow6
                    have hm6 := row_len' hrow6
                    have hm6u : m6 ≤ 12688 := by have := HL2.out; omega
                    have hsl := length_seal (recordB nr (es.map (setR nr)))
                    have HBY := Lib.hid (row_bytes' hrow6)
                    have HA6 := Lib.hid hA6
                    have HRB6 := Lib.hid hrb6
                    rw [← hm6] at hsl
                    have HSL := Lib.hid hsl
                    have hbnd : mb + m6 ≤ 1000000 := by omega
                    have HM6U := Lib.hid hm6u
                    clear hy6 hb6 hA6 hrb6 hrow6 hsl hm6 hm6u
                    go_wp2_with (at_builtin; (refine wpList_append_bytes _ rfl (.tmp 103) (.tmp 104) 28 rfl w1.heap.size 5 i5 _ Try.underlying28 hi5 hy0 hy1 hy2 rfl (.slice ab mb cb) mb (bytesV (logB ((mix K by' (pairs cs)).take j))) (by rfl) HRB6.out a6 m6 c6 (seal_ (recordB nr (es.map (setR nr)))) (by rfl) HSL.out HBY.out (by omega) HA6.out.size ?_; intro v7 w7 hrow7 hg7 _; have hA7 := Below.own HA6.out HRB6.out (Nat.le_refl _) HA6.out.size hg7; have HA7 := Lib.hid hA7; have HR7 := Lib.hid hrow7; clear hrow7 hA7 hg7))
                    go_roundw
                    case rel =>
                      have hmg : (mix K by' (pairs cs)).getD j default = (nr, (es.map (setR nr))) := HMIX.out
                      have hls : logB ((mix K by' (pairs cs)).take (j + 1)) = logB ((mix K by' (pairs cs)).take j) ++ seal_ (recordB nr (es.map (setR nr))) := by
                        rw [logB_succ _ j (by rw [mix_len, pairs_len]; exact HJC.out), hmg]
                      have hll : (logB ((mix K by' (pairs cs)).take (j + 1))).length = mb + m6 := by rw [hls, List.length_append, ← HMB.out, HSL.out]
                      refine ⟨j + 1, by go_num, by have := HJC.out; omega, ⟨HA7.out, ?_, ?_, ?_⟩⟩
                      · rw [hll, hls, bytesV_append]; exact HR7.out
                      · intro i hi
                        by_cases e : i = j
                        · rw [e]; exact HOk.out
                        · exact HOKS.out i (by omega)
                      · rw [hll]; have := HM6U.out; omega
                    case measure => have := HJC.out; simp [intOf]; omega
            · have d60 : decide (60 < (es.length : Int)) = true := decide_eq_true (by omega)
              have d60' : decide (60 < es.length) = true := decide_eq_true (by omega)
              clear hb2 h60 hks h400
              go_wp2_with fail
              go_ret
              exact ⟨rfl, hB1.trans (hA2.mono hB1.size)⟩
        · obtain rfl : j = cs.length := by omega
          have dj : decide ((cs.length : Int) < (cs.length : Int)) = false := by simp
          have hpl := pairs_len cs
          have hmx : (mix K by' (pairs cs)).take cs.length = mix K by' (pairs cs) := List.take_of_length_le (by rw [mix_len, hpl]; exact Nat.le_refl _)
          rw [hmx] at hrb
          have hml : mb = (logB (mix K by' (pairs cs))).length := by rw [HMB.out, hmx]
          have hrm := rep_mix (esOf ls) first K by' HG.out.2.1 hK0 (by rw [← HPR.out, hpl]; exact hKl) HG.out.2.2.2.1 (fun c hc => by
            rw [← HPR.out] at hc
            obtain ⟨x, hx, rfl⟩ := List.getElem_of_mem hc
            have := (hoks x (by rw [← hpl]; exact hx)).1
            rwa [List.getD_eq_getElem?_getD, List.getElem?_eq_getElem hx, Option.getD_some] at this) (fun i h1 h2 => by
            rw [← HPR.out] at h2 ⊢
            exact (hoks i (by rw [← hpl]; exact h2)).2 h1)
          rw [← HPR.out, ← hml] at hrm
          obtain ⟨hrm1, hrm2⟩ := hrm
          obtain ⟨Z, hZ⟩ : ∃ Z, Z = (logB ((pairs cs).take K)).length := ⟨_, rfl⟩
          rw [← hZ] at hrm1 hrm2
          have HRM := Lib.hid hrm1
          have HBL : Hid ((logB (mix K by' (pairs cs))).length = mb) := hml.symm
          have hbc := row_cap1 hrb
          have hmbu : mb ≤ 1000000 := by omega
          have HRP := Lib.hid (replay_at ab cb mb _ wr HBL.out hmbu hbc (row_bytes' hrb))
          have HCRT := Lib.hid (HCR.out.take K)
          have HTW : Hid ((cs.take K).length = K) := by
            show (cs.take K).length = K
            rw [List.length_take]; omega
          have HPT : Hid (pairs (cs.take K) = (pairs cs).take K) := by
            show pairs (cs.take K) = (pairs cs).take K
            simp [pairs, List.map_take]
          obtain ⟨i25, hi25, _, _, _⟩ := info_parts Try.info25
          have hccap : cs.length ≤ cc := HCC.out
          have hs2 : ∀ W0, (Instr.slice 37 (.slice ac cs.length cc) none (some (.int .i64 (K : Int))) none).run Try.prog W0 = .ok (.slice ac K cc) W0 := fun W0 => by
            have := run_slice_h0 (P := Try.prog) W0 37 25 i25 Try.underlying37 hi25 ac cs.length cc K .i64 (by omega)
            rwa [cutA_zero] at this
          have dz : decide ((Z : Int) < (mb : Int)) = true := decide_eq_true (by omega)
          have dz' : decide (Z < mb) = true := decide_eq_true hrm2
          have HB := Lib.hid hB
          clear hpl hmx hml hrm1 hrm2 hZ hbc hrb hlen hoks hi25 hB
          go_wp2_with fail
          refine HRP.out.mono ?_
          clear HRP
          rintro e w6 ⟨hb6, v6, cs6, rfl, hp6, hl6, hrow6, hce6⟩
          rw [HRM.out] at hp6 ⊢
          simp only at hp6 ⊢
          obtain ⟨a6, m6, c6, rfl⟩ := row_slice hrow6
          have hm6 := row_len' hrow6
          have hl6' : m6 ≤ 1000000 := by rw [hm6]; have := HBL.out; omega
          have HSA := Lib.hid (sameall_at a6 ac c6 cc m6 K cs6 (cs.take K) w6 hm6.symm HTW.out (by omega) (by omega) (repRead hrow6 hce6) (HCRT.out.below (HB.out.trans (hb6.mono HB.out.size))))
          have hB6 := hB1.trans ((HB.out.trans (hb6.mono HB.out.size)).mono hB1.size)
          have HP6 : Hid (pairs cs6 = pairs (cs.take K)) := by
            show pairs cs6 = pairs (cs.take K)
            rw [hp6, HPT.out]
          clear hb6 hp6 hl6 hrow6 hce6 hm6
          go_wp2_with fail
          refine HSA.out.mono ?_
          clear HSA
          rintro e w7 ⟨⟨r, rfl, hr7⟩, hb7⟩
          have hrt := hr7.2 HP6.out
          subst hrt
          have hB7 := hB6.trans (hb7.mono hB6.size)
          clear hr7 hb7
          go_wp2_with fail
          go_ret
          exact ⟨rfl, hB7⟩
  · go_enter Try.func6, Try.ntmps6
    go_wp2_with fail
    refine HF.out.mono ?_
    clear HF
    rintro e w1 ⟨rfl, hB1⟩
    by_cases g1 : 20 < ls.length
    · have d1 : decide (20 < (ls.length : Int)) = true := decide_eq_true (by omega)
      have d1' : decide (20 < ls.length) = true := decide_eq_true (by omega)
      clear hg g1
      go_wp2_with fail
      go_ret
      exact ⟨rfl, hB1⟩
    · have d1 : decide (20 < (ls.length : Int)) = false := decide_eq_false (by omega)
      have d1' : decide (20 < ls.length) = false := decide_eq_false (by omega)
      by_cases g2 : first < 1
      · have d2 : decide ((first : Int) < 1) = true := decide_eq_true (by omega)
        have d2' : decide (first < 1) = true := decide_eq_true (by omega)
        clear hg g1 g2
        go_wp2_with fail
        go_ret
        exact ⟨rfl, hB1⟩
      · have d2 : decide ((first : Int) < 1) = false := decide_eq_false (by omega)
        have d2' : decide (first < 1) = false := decide_eq_false (by omega)
        by_cases g3 : 1152921504606846976 < first
        · have d3 : decide (1152921504606846976 < (first : Int)) = true := decide_eq_true (by omega)
          have d3' : decide (1152921504606846976 < first) = true := decide_eq_true (by omega)
          clear hg g1 g2 g3
          go_wp2_with fail
          go_ret
          exact ⟨rfl, hB1⟩
        · have d3 : decide (1152921504606846976 < (first : Int)) = false := decide_eq_false (by omega)
          have d3' : decide (1152921504606846976 < first) = false := decide_eq_false (by omega)
          by_cases g4 : by' = 0
          · have d4 : ((by' : Int) == 0) = true := by rw [g4]; rfl
            clear hg g1 g2 g3 g4
            go_wp2_with fail
            go_ret
            exact ⟨rfl, hB1⟩
          · have d4 : ((by' : Int) == 0) = false := by rw [beq_eq_false_iff_ne]; omega
            have d5 : decide (1152921504606846976 < (by' : Int)) = true := decide_eq_true (by omega)
            have d5' : decide (1152921504606846976 < by') = true := decide_eq_true (by omega)
            clear hg g1 g2 g3 g4
            go_wp2_with fail
            go_ret
            exact ⟨rfl, hB1⟩
end Go.Proofs.Ytbamohcaamgalae
