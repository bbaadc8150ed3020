/- WalCuts: the law walked. -/
import Derived.Test.YtbamohcaamgalaeWalkV
namespace Go.Proofs.Ytbamohcaamgalae
set_option linter.unusedVariables false
set_option linter.unusedSimpArgs false
open Go.RowKit

theorem Try.info3 : (Try.prog.info? 3).map (fun i => (i.zero, i.size, i.bytes)) = some (some (.int .i64 0), 1, 8) := by kernel_rfl
def endsV (P : List (Nat × List Ent)) (j : Nat) : List Value := (List.range j).map fun i => .int .i64 ((logB (P.take (i + 1))).length : Int)
theorem endsV_succ (P : List (Nat × List Ent)) (j : Nat) : endsV P (j + 1) = endsV P j ++ [.int .i64 ((logB (P.take (j + 1))).length : Int)] := by simp [endsV, List.range_succ]
theorem endsV_get (P : List (Nat × List Ent)) (j i : Nat) (h : i < j) : (endsV P j)[i]? = some (.int .i64 ((logB (P.take (i + 1))).length : Int)) := by simp [endsV, h]
theorem length_endsV (P : List (Nat × List Ent)) (j : Nat) : (endsV P j).length = j := by simp [endsV]
def CutRel (P : List (Nat × List Ent)) (w1 : World) (j : Nat) (vb ve : Value) (wr : World) : Prop :=
  Below w1.heap.size w1 wr ∧ wr.ownsRow w1.heap.size 5 1 vb (logB (P.take j)).length (bytesV (logB (P.take j))) ∧ wr.ownsRow w1.heap.size 3 1 ve j (endsV P j) ∧ (∀ i, i < j → ComOk (P.getD i default)) ∧ (logB (P.take j)).length ≤ j * 12688
theorem logB_succ (P : List (Nat × List Ent)) (j : Nat) (h : j < P.length) : logB (P.take (j + 1)) = logB (P.take j) ++ seal_ (recordB (P.getD j default).1 (P.getD j default).2) := by
  rw [take_snoc P j h, logB_append, logB_one]
theorem pairs_len (cs : List CM) : (pairs cs).length = cs.length := by simp [pairs]
theorem pairs_get (cs : List CM) (j : Nat) (h : j < cs.length) : (pairs cs).getD j default = ((cs.getD j default).rev, (cs.getD j default).es) := by
  simp [pairs, List.getD_eq_getElem?_getD, List.getElem?_map, List.getElem?_eq_getElem h]
/-- a commit of lists of entries, few and short, is right -/
theorem com_okay (first : Nat) (l : List (List Ent)) (j : Nat) (hf : 0 < first) (hb : first + l.length < 18446744073709551616) (h : j < (comsOf first l).length) (h60 : ((comsOf first l).getD j default).2.length ≤ 60) (hk : ∀ i, (((comsOf first l).getD j default).2.getD i default).key.size ≤ 200) :
    ComOk ((comsOf first l).getD j default) ∧ (recordB ((comsOf first l).getD j default).1 ((comsOf first l).getD j default).2).length ≤ 12680 := by
  have hr := comsOf_rev l first j h
  obtain ⟨h1, h2⟩ := comsOf_ents l first j h
  have hlen := comsOf_len l first
  generalize (comsOf first l).getD j default = c at *
  obtain ⟨rev, es⟩ := c
  simp only at hr h1 h2 h60 hk ⊢
  subst hr
  refine ⟨ok_com _ _ (by omega) (by omega) h1 (by omega) h2 hk, ?_⟩
  have := recK_len (first + j) es (by omega) (by omega) hk es.length (Nat.le_refl _)
  rw [recK_all] at this
  omega
/-- how many are whole, of the first j -/
def wholes (P : List (Nat × List Ent)) (K : Nat) : Nat → Nat
  | 0 => 0
  | j + 1 => if (logB (P.take (j + 1))).length ≤ K then j + 1 else wholes P K j
theorem wholes_le (P : List (Nat × List Ent)) (K : Nat) : ∀ j, wholes P K j ≤ j
  | 0 => Nat.le_refl _
  | j + 1 => by
    unfold wholes
    have := wholes_le P K j
    split <;> omega
theorem wholes_fits (P : List (Nat × List Ent)) (K : Nat) : ∀ j, (logB (P.take (wholes P K j))).length ≤ K
  | 0 => by simp [wholes, logB]
  | j + 1 => by
    unfold wholes
    split
    · assumption
    · exact wholes_fits P K j
theorem wholes_past (P : List (Nat × List Ent)) (K : Nat) : ∀ j i, wholes P K j ≤ i → i < j → K < (logB (P.take (i + 1))).length
  | 0 => fun i _ h => by cases h
  | j + 1 => fun i h1 h2 => by
    unfold wholes at h1
    split at h1
    · omega
    · rename_i hn
      by_cases e : i = j
      · subst e; omega
      · exact wholes_past P K j i h1 (by omega)
theorem run_slice_h0 {P : Program} (w : World) (T e : TypeId) (i : TypeInfo) (ht : P.underlying T = some (.slice e)) (hi : P.info? e = some i) (a : Option Addr) (len cap H : Nat) (kh : IntKind) (h2 : H ≤ cap) :
    (Instr.slice T (.slice a len cap) none (some (.int kh (H : Int))) none).run P w = .ok (.slice (cutA a cap 0) H cap) w := by
  simp [Instr.slice, run_underlying ht, Instr.sliceBounds, run_sliceBound, cutA, sizeOf, typeInfo, hi, h2]
theorem cutA_zero (a : Option Addr) (cap : Nat) : cutA a cap 0 = a := by
  unfold cutA
  split
  · rfl
  · cases a with
    | none => rfl
    | some x => simp [Addr.add]
theorem ComsRead.take {w : World} {a : Option Addr} {cs : List CM} (h : ComsRead w a cs) (n : Nat) : ComsRead w a (cs.take n) := by
  refine ⟨fun h0 => ?_, fun c hc => h.2 c (List.mem_of_mem_take hc)⟩
  have e : comsV cs = comsV (cs.take n) ++ comsV (cs.drop n) := by rw [← comsV_append, List.take_append_drop]
  obtain ⟨b, off, ha, hb, hc⟩ := h.1 (by rw [e, List.length_append]; omega)
  refine ⟨b, off, ha, hb, fun k hk => ?_⟩
  rw [hc k (by rw [e, List.length_append]; omega), e, List.getElem?_append_left hk]
theorem sameall_at (a a2 : Option Addr) (cap cap2 n n2 : Nat) (cs cs2 : List CM) (w : World) (hn : cs.length = n) (hn2 : cs2.length = n2) (hl : n ≤ 1000000000) (hl2 : n2 ≤ 1000000000) (h : ComsRead w a cs) (h2 : ComsRead w a2 cs2) :
    Calls Try.prog 18 #[.slice a n cap, .slice a2 n2 cap2] w (BoolIs (pairs cs = pairs cs2) w) := by
  subst hn hn2; exact sameall_any a a2 cap cap2 cs cs2 w hl hl2 h h2
theorem replay_at (a : Option Addr) (cap n : Nat) (l : List UInt8) (w : World) (hn : l.length = n) (hl : n ≤ 1000000) (hc : n ≤ cap) (h : IsBytes w a l) :
    Calls Try.prog 16 #[.slice a n cap] w (RepIs l w) := by
  subst hn; exact replay_any a cap l w hl hc h
set_option maxRecDepth 100000 in
set_option maxHeartbeats 4000000 in
theorem lawCuts (first : Nat) (a : Option Addr) (cap : Nat) (ls : List SL) (at' : Nat) (w : World) (hf : first < 18446744073709551616) (hl : ls.length ≤ 9223372036854775807) (ha : at' < 65536) (h : IsSls w a ls) :
    Calls Try.prog 5 #[.int .u64 (first : Int), .slice a ls.length cap, .int .u16 (at' : Int)] w fun e w' => e = .returned (.bool true) ∧ Below w.heap.size w w' := by
  obtain ⟨i5, hi5, hy0, hy1, hy2⟩ := info_parts Try.info5
  obtain ⟨i3, hi3, hz0, hz1, hz2⟩ := info_parts Try.info3
  have HF := Lib.hid (fixed_any w)
  have H := Lib.hid h
  clear h
  by_cases hg : 20 < ls.length ∨ first < 1 ∨ 1152921504606846976 < first
  · go_enter Try.func5, Try.ntmps5
    go_wp2_with fail
    refine HF.out.mono ?_
    clear HF
    rintro e w1 ⟨rfl, hB1⟩
    by_cases g1 : 20 < ls.length
    · have d1 : decide (20 < (ls.length : Int)) = true := decide_eq_true (by omega)
      have d1' : decide (20 < ls.length) = true := decide_eq_true g1
      clear hg g1
      go_wp2_with fail
      go_ret
      exact ⟨rfl, hB1⟩
    · have d1 : decide (20 < (ls.length : Int)) = false := decide_eq_false (by omega)
      have d1' : decide (20 < ls.length) = false := decide_eq_false g1
      by_cases g2 : first < 1
      · have d2 : decide ((first : Int) < 1) = true := decide_eq_true (by omega)
        have d2' : decide (first < 1) = true := decide_eq_true g2
        clear hg g1 g2
        go_wp2_with fail
        go_ret
        exact ⟨rfl, hB1⟩
      · have d2 : decide ((first : Int) < 1) = false := decide_eq_false (by omega)
        have d2' : decide (first < 1) = false := decide_eq_false g2
        have d3 : decide (1152921504606846976 < (first : Int)) = true := decide_eq_true (by omega)
        have d3' : decide (1152921504606846976 < first) = true := decide_eq_true (by omega)
        clear hg g1 g2
        go_wp2_with fail
        go_ret
        exact ⟨rfl, hB1⟩
  · have d1 : decide (20 < (ls.length : Int)) = false := decide_eq_false (by omega)
    have d1' : decide (20 < ls.length) = false := decide_eq_false (by omega)
    have d2 : decide ((first : Int) < 1) = false := decide_eq_false (by omega)
    have d2' : decide (first < 1) = false := decide_eq_false (by omega)
    have d3 : decide (1152921504606846976 < (first : Int)) = false := decide_eq_false (by omega)
    have d3' : decide (1152921504606846976 < first) = false := decide_eq_false (by omega)
    have HG : Hid (ls.length ≤ 20 ∧ 0 < first ∧ first ≤ 1152921504606846976) := ⟨by omega, by omega, by omega⟩
    clear hg
    go_enter Try.func5, Try.ntmps5
    go_wp2_with fail
    refine HF.out.mono ?_
    clear HF
    rintro e w0 ⟨rfl, hB0⟩
    have HC := Lib.hid (commits_any first a cap ls w0 (by have := HG.out; omega) (by have := HG.out; omega) (H.out.below hB0))
    go_wp2_with fail
    refine HC.out.mono ?_
    clear HC d1 d1' d2 d2' d3 d3'
    rintro e w1 ⟨hb1, v, cs, rfl, hpr, hrow, hce, hok⟩
    have hB1 := hB0.trans (hb1.mono hB0.size)
    obtain ⟨ac, mc, cc, rfl⟩ := row_slice hrow
    have hmc := row_len' hrow
    subst hmc
    have HCR := Lib.hid (repRead hrow hce)
    have HCC : Hid (cs.length ≤ cc) := row_cap1 hrow
    have hcl : cs.length ≤ 20 := by
      have h1 := comsOf_len (esOf ls) first
      have h2 := HG.out
      rw [← hpr, pairs_len, esOf, List.length_map] at h1
      omega
    have hco : ∀ j, j < cs.length → (cs.getD j default).es.length ≤ 60 → (∀ i, ((cs.getD j default).es.getD i default).key.size ≤ 200) → ComOk ((pairs cs).getD j default) ∧ (recordB (cs.getD j default).rev (cs.getD j default).es).length ≤ 12680 := by
      intro j hj h60 hk
      have h2 := HG.out
      have := com_okay first (esOf ls) j h2.2.1 (by rw [esOf, List.length_map]; omega) (by rw [← hpr, pairs_len]; exact hj) (by rw [← hpr, pairs_get cs j hj]; exact h60) (by rw [← hpr, pairs_get cs j hj]; exact hk)
      rw [← hpr] at this
      refine ⟨this.1, ?_⟩
      have := this.2
      rwa [pairs_get cs j hj] at this
    have HCO := Lib.hid hco
    have HOK := Lib.hid hok
    have HFo : Hid (Follows none (pairs cs)) := by
      show Follows none (pairs cs)
      rw [hpr]
      exact comsOf_follows (esOf ls) first none HG.out.2.1 (.inl rfl)
    have HRC : Hid (∀ c ∈ cs, c.rev < 18446744073709551616) := fun c hc => (hce c hc).2
    clear hco hok hpr hb1 hce hrow
    have hrel0 : Hid (CutRel (pairs cs) w1 0 (.slice none 0 0) (.slice none 0 0) w1) := ⟨Below.refl _ _, World.ownsRow_nil _ _ _ _, World.ownsRow_nil _ _ _ _, fun i hi => absurd hi (Nat.not_lt_zero _), by simp [logB]⟩
    go_wp2_with fail
    go_loopw [8, 9, 39] (fun vb ve i wr => ∃ j : Nat, i = .int .i64 j ∧ j ≤ cs.length ∧ Hid (CutRel (pairs cs) w1 j vb ve wr)) (fun _ _ i _ => cs.length - (intOf i).toNat)
    case atStart => exact ⟨0, rfl, Nat.zero_le _, hrel0⟩
    case round =>
      clear hrel0
      obtain ⟨j, rfl, hj, hst⟩ := hrel
      obtain ⟨hB, hrb, hre, hoks, hlen⟩ := hst.out
      obtain ⟨ab, mb, cb, rfl⟩ := row_slice hrb
      obtain ⟨ae, me, cae, rfl⟩ := row_slice hre
      have hmb := row_len' hrb
      have hme := row_len' hre
      subst hme
      rw [← hmb] at hrb hlen
      have HMB := Lib.hid hmb
      clear hst hmb
      by_cases hjc : me < cs.length
      · obtain ⟨gg, go, rfl, c0, c1, hie, hel⟩ := coms_at (HCR.out.below hB) me hjc
        have hrv : (cs.getD me default).rev < 18446744073709551616 ∧ ∀ i, EntOk ((cs.getD me default).es.getD i default) := by
          have hm : cs.getD me default ∈ cs := by rw [List.getD_eq_getElem?_getD, List.getElem?_eq_getElem hjc]; exact List.getElem_mem hjc
          exact ⟨HRC.out _ hm, (HOK.out _ hm).2⟩
        have hcj := HCO.out me hjc
        have hls := logB_succ (pairs cs) me (by rw [pairs_len]; exact hjc)
        rw [pairs_get cs me hjc] at hls
        simp only at hls
        have hpg := pairs_get cs me hjc
        have dj : decide ((me : Int) < (cs.length : Int)) = true := decide_eq_true (by omega)
        have hij : (me : Int) < (cs.length : Int) := by omega
        generalize cs.getD me default = x at *
        obtain ⟨rev, xa, xcap, es⟩ := x
        simp only at c0 c1 hie hel hrv hcj hls hpg
        have HPG := Lib.hid hpg
        clear hpg
        have HCJ := Lib.hid hcj
        have HLS := Lib.hid hls
        have HOKS := Lib.hid hoks
        have HEO := Lib.hid hrv.2
        have hr := hrv.1
        clear hcj hls hoks hrv
        have hA := hB.alloc hB.size (.cells #[.int .u64 (rev : Int), .slice xa es.length xcap] 25)
        have hx0 := heap_alloc_new wr (.cells #[.int .u64 (rev : Int), .slice xa es.length xcap] 25)
        have hrbA := hrb.alloc (.cells #[.int .u64 (rev : Int), .slice xa es.length xcap] 25)
        have hreA := hre.alloc (.cells #[.int .u64 (rev : Int), .slice xa es.length xcap] 25)
        have hieA := hie.below ((Below.refl _ _).alloc (Nat.le_refl _) (.cells #[.int .u64 (rev : Int), .slice xa es.length xcap] 25))
        have HRB := Lib.hid hrbA
        have HRE := Lib.hid hreA
        have HIE := Lib.hid hieA
        have HA := Lib.hid hA
        have HX := Lib.hid hx0
        clear hrb hre hie hA hx0 hrbA hreA hieA hB
        go_upto_region 11 with (fail)
        generalize (wr.alloc (.cells #[.int .u64 (rev : Int), .slice xa es.length xcap] 25)) = W at *
        generalize wr.heap.size = gx at *
        have p0 := heap_cell HX.out 0
        have p1 := heap_cell HX.out 1
        simp at p0 p1
        have HFew := Lib.hid (few_any rev xa xcap es W hel HEO.out HIE.out)
        unfold comV at HFew
        go_wp2_with fail
        refine HFew.out.mono ?_
        clear HFew
        rintro e w2 ⟨⟨r, rfl, hr2⟩, hb2⟩
        have hx2 := (hb2.block gx (heap_lt HX.out)).trans HX.out
        have q0 := heap_cell hx2 0
        have q1 := heap_cell hx2 1
        simp at q0 q1
        have hA2 := HA.out.trans (hb2.mono HA.out.size)
        clear p0 p1
        cases r with
        | false =>
          clear hr2 hb2
          go_wp2_with fail
          go_ret
          exact ⟨rfl, hB1.trans (hA2.mono hB1.size)⟩
        | true =>
          obtain ⟨h400, hks⟩ := hr2 rfl
          clear hr2
          by_cases h60 : es.length ≤ 60
          · have d60 : decide (60 < (es.length : Int)) = false := decide_eq_false (by omega)
            have d60' : decide (60 < es.length) = false := decide_eq_false (by omega)
            obtain ⟨hOk, hrl⟩ := HCJ.out h60 hks
            have hRight : Right rev es := by
              have := hOk.1
              rwa [HPG.out] at this
            have HOk := Lib.hid hOk
            have HRL := Lib.hid hrl
            have HEnc := Lib.hid (encode_any rev xa xcap es w2 hr h400 hks HEO.out (HIE.out.below hb2))
            unfold comV at HEnc
            have HRight := Lib.hid hRight
            have hrb2 := Below.row hb2 HRB.out
            have hre2 := Below.row hb2 HRE.out
            clear hOk hrl hRight hb2 h400 hks
            go_wp2_with fail
            refine HEnc.out.mono ?_
            clear HEnc
            rintro e w3 ⟨hb3, hy3, _⟩
            obtain ⟨v3, rfl, hrow3⟩ := hy3 HRight.out
            have hA3 := hA2.trans (hb3.mono hA2.size)
            have hrb3 := Below.row hb3 hrb2
            have hre3 := Below.row hb3 hre2
            obtain ⟨a3, m3, c3, rfl⟩ := row_slice hrow3
            have hm3 := row_len' hrow3
            have hm3u : m3 ≤ 12688 := by have := HRL.out; omega
            have hsl := length_seal (recordB rev es)
            have HBY := Lib.hid (row_bytes' hrow3)
            have HA3 := Lib.hid hA3
            have HRB3 := Lib.hid hrb3
            have HRE3 := Lib.hid hre3
            rw [← hm3] at hsl
            have HSL := Lib.hid hsl
            have hbnd : mb + m3 ≤ 1000000 := by omega
            have HM3U := Lib.hid hm3u
            clear hy3 hb3 hA3 hrb3 hre3 hrow3 hsl hA2 hrb2 hre2 hm3 hm3u
            go_wp2_with (at_builtin; first | (refine wpList_append_bytes _ rfl (.tmp 59) (.tmp 60) 28 rfl w1.heap.size 5 i5 _ Try.underlying28 hi5 hy0 hy1 hy2 rfl (.slice ab mb cb) mb (bytesV (logB ((pairs cs).take me))) (by rfl) HRB3.out a3 m3 c3 (seal_ (recordB rev es)) (by rfl) HSL.out HBY.out (by omega) HA3.out.size ?_; intro v4 w4 hrow4 hg4 _; have hre4 := HRE3.out.kept hg4 (own_ne HRB3.out HRE3.out (by decide)); have hA4 := Below.own HA3.out HRB3.out (Nat.le_refl _) HA3.out.size hg4; obtain ⟨a4, m4, c4, rfl⟩ := row_slice hrow4; have hm4 := row_len' hrow4; have HM4 := Lib.hid hm4; have HRB4 := Lib.hid hrow4; have HRE4 := Lib.hid hre4; have HA4 := Lib.hid hA4; clear hm4 hrow4 hre4 hA4 hg4) | (refine wpList_append_one w4 rfl (.tmp 62) (.tmp 65) 45 rfl w1.heap.size 3 i3 _ 8 Try.underlying45 hi3 hz0 hz1 hz2 rfl (.slice ae me cae) me (endsV (pairs cs) me) (by rfl) HRE4.out (.int .i64 (m4 : Int)) 1 (by rfl) rfl (by omega) (by omega) HA4.out.size ?_; intro v5 w5 hrow5 hg5 _))
            have hA5 := Below.own HA4.out HRE4.out (Nat.le_refl _) HA4.out.size hg5
            have hrb5 := HRB4.out.kept hg5 (own_ne HRE4.out HRB4.out (by decide))
            have hlen5 : (logB ((pairs cs).take (me + 1))).length = mb + m3 := by rw [HLS.out, List.length_append, ← HMB.out, HSL.out]
            have HLEN5 := Lib.hid hlen5
            clear hlen5 hg5
            go_roundw
            case rel =>
              refine ⟨me + 1, by go_num, by omega, ⟨hA5, ?_, ?_, ?_, ?_⟩⟩
              · rw [HLEN5.out, HLS.out, bytesV_append]; exact hrb5
              · rw [endsV_succ, HLEN5.out, ← HM4.out]; exact hrow5
              · intro i hi
                by_cases e : i = me
                · rw [e]; exact HOk.out
                · exact HOKS.out i (by omega)
              · rw [HLEN5.out]; have := HM3U.out; omega
            case measure => simp [intOf]; omega
          · have d60 : decide (60 < (es.length : Int)) = true := decide_eq_true (by omega)
            have d60' : decide (60 < es.length) = true := decide_eq_true (by omega)
            clear hb2 h60 hks h400
            go_wp2_with fail
            go_ret
            exact ⟨rfl, hB1.trans (hA2.mono hB1.size)⟩
      · obtain rfl : me = cs.length := by omega
        have dj : decide ((cs.length : Int) < (cs.length : Int)) = false := by simp
        obtain ⟨K, hK⟩ : ∃ K, K = at' % (mb + 1) := ⟨_, rfl⟩
        have hKt : ((at' : Int)).tmod ((mb : Int) + 1) = (K : Int) := by rw [hK]; rfl
        have hKb : K ≤ mb := by have := Nat.mod_lt at' (show 0 < mb + 1 by omega); omega
        have hmbu : mb ≤ 1000000 := by omega
        have htl : (pairs cs).take cs.length = pairs cs := by rw [← pairs_len]; exact List.take_length
        have HTL := Lib.hid htl
        have HOKS := Lib.hid hoks
        clear hK hlen htl hoks
        go_upto_region 22 with (fail)
        go_loopw [15, 16, 76] (fun wh en i wx => ∃ j : Nat, j ≤ cs.length ∧ i = .int .i64 j ∧ wh = .int .i64 (wholes (pairs cs) K j : Int) ∧ en = .int .i64 ((logB ((pairs cs).take (wholes (pairs cs) K j))).length : Int) ∧ wx = wr) (fun _ _ i _ => cs.length - (intOf i).toNat)
        case atStart => exact ⟨0, Nat.zero_le _, rfl, rfl, rfl, rfl⟩
        case round =>
          obtain ⟨j, hj, rfl, rfl, rfl, rfl⟩ := hrel
          by_cases hlt2 : j < cs.length
          · obtain ⟨ge, oe, rfl, _, hcell⟩ := row_vals hre (by rw [length_endsV]; omega)
            have hce := (hcell j (by rw [length_endsV]; omega)).trans (endsV_get (pairs cs) cs.length j hlt2)
            have hws : wholes (pairs cs) K (j + 1) = if (logB ((pairs cs).take (j + 1))).length ≤ K then j + 1 else wholes (pairs cs) K j := rfl
            have HWS := Lib.hid hws
            obtain ⟨X, hX⟩ : ∃ X, X = (logB ((pairs cs).take (j + 1))).length := ⟨_, rfl⟩
            rw [← hX] at hce
            have HX := Lib.hid hX
            clear hws hX hcell
            have dj2 : decide ((j : Int) < (cs.length : Int)) = true := decide_eq_true (by omega)
            have hij : (j : Int) < (cs.length : Int) := by omega
            by_cases hle : X ≤ K
            · have dk : decide ((X : Int) ≤ (K : Int)) = true := decide_eq_true (by omega)
              have HL := Lib.hid hle
              clear hle
              go_wp2_with fail
              go_roundw
              case rel =>
                have hw : wholes (pairs cs) K (j + 1) = j + 1 := by rw [HWS.out, if_pos (by rw [← HX.out]; exact HL.out)]
                exact ⟨j + 1, by omega, by go_num, by rw [hw]; go_num, by rw [hw, ← HX.out], trivial⟩
              case measure => simp [intOf]; omega
            · have dk : decide ((X : Int) ≤ (K : Int)) = false := decide_eq_false (by omega)
              have HL := Lib.hid hle
              clear hle
              go_wp2_with fail
              go_roundw
              case rel =>
                have hw : wholes (pairs cs) K (j + 1) = wholes (pairs cs) K j := by rw [HWS.out, if_neg (by rw [← HX.out]; exact HL.out)]
                exact ⟨j + 1, by omega, by go_num, by rw [hw], by rw [hw], trivial⟩
              case measure => simp [intOf]; omega
          · obtain rfl : j = cs.length := by omega
            have dj2 : decide ((cs.length : Int) < (cs.length : Int)) = false := by simp
            have hwl := wholes_le (pairs cs) K cs.length
            have hwf := wholes_fits (pairs cs) K cs.length
            have hwp := wholes_past (pairs cs) K cs.length
            obtain ⟨W, hW⟩ : ∃ W, W = wholes (pairs cs) K cs.length := ⟨_, rfl⟩
            rw [← hW] at hwl hwf hwp ⊢
            have hcut := rep_cut (pairs cs) none K W (fun c hc => by
              obtain ⟨x, hx, rfl⟩ := List.getElem_of_mem hc
              have := HOKS.out x (by rw [← pairs_len]; exact hx)
              rwa [List.getD_eq_getElem?_getD, List.getElem?_eq_getElem hx, Option.getD_some] at this) HFo.out (by rw [pairs_len]; exact hwl) hwf (fun hlt => hwp W (Nat.le_refl _) (by rw [pairs_len] at hlt; exact hlt))
            obtain ⟨Z, hZ⟩ : ∃ Z, Z = (logB ((pairs cs).take W)).length := ⟨_, rfl⟩
            rw [← hZ] at hcut hwf ⊢
            have HCUT := Lib.hid hcut
            rw [HTL.out] at hrb
            have hbc := row_cap1 hrb
            have hby := row_bytes' hrb
            have hlb : (logB (pairs cs)).length = mb := by rw [HMB.out, HTL.out]
            have hcb := cutA_bytes (cap := cb) (lo := 0) (hi := K) hby (by omega) (by omega)
            rw [List.drop_zero, cutA_zero] at hcb
            have HCL : Hid (((logB (pairs cs)).take K).length = K) := by
              show ((logB (pairs cs)).take K).length = K
              rw [List.length_take]; omega
            have HCRT := Lib.hid (HCR.out.take W)
            have HRP := Lib.hid (replay_at ab cb K _ wr HCL.out (by omega) (by omega) hcb)
            have HTW : Hid ((cs.take W).length = W) := by
              show (cs.take W).length = W
              rw [List.length_take]; omega
            have HPT : Hid (pairs (cs.take W) = (pairs cs).take W) := by
              show pairs (cs.take W) = (pairs cs).take W
              simp [pairs, List.map_take]
            obtain ⟨i25, hi25, _, _, _⟩ := info_parts Try.info25
            have hccap : cs.length ≤ cc := HCC.out
            have hs2 : ∀ W0, (Instr.slice 37 (.slice ac cs.length cc) none (some (.int .i64 (W : Int))) none).run Try.prog W0 = .ok (.slice ac W cc) W0 := fun W0 => by
              have := run_slice_h0 (P := Try.prog) W0 37 25 i25 Try.underlying37 hi25 ac cs.length cc W .i64 (by omega)
              rwa [cutA_zero] at this
            have hs1 : ∀ W0, (Instr.slice 28 (.slice ab mb cb) none (some (.int .i64 (K : Int))) none).run Try.prog W0 = .ok (.slice ab K cb) W0 := fun W0 => by
              have := run_slice_h0 (P := Try.prog) W0 28 5 i5 Try.underlying28 hi5 ab mb cb K .i64 (by omega)
              rwa [cutA_zero] at this
            have HB := Lib.hid hB
            clear hW hwf hwp hcut hZ hrb hby hlb hcb hre hi25 hB
            go_wp2_with fail
            refine HRP.out.mono ?_
            clear HRP
            rintro e w6 ⟨hb6, v6, cs6, rfl, hp6, hl6, hrow6, hce6⟩
            rw [HCUT.out] at hp6 ⊢
            simp only at hp6 ⊢
            obtain ⟨a6, m6, c6, rfl⟩ := row_slice hrow6
            have hm6 := row_len' hrow6
            have hl6' : m6 ≤ 1000000 := by rw [hm6]; have := HCL.out; omega
            have HSA := Lib.hid (sameall_at a6 ac c6 cc m6 W cs6 (cs.take W) w6 hm6.symm HTW.out (by omega) (by omega) (repRead hrow6 hce6) (HCRT.out.below (HB.out.trans (hb6.mono HB.out.size))))
            have hB6 := hB1.trans ((HB.out.trans (hb6.mono HB.out.size)).mono hB1.size)
            have HP6 : Hid (pairs cs6 = pairs (cs.take W)) := by
              show pairs cs6 = pairs (cs.take W)
              rw [hp6, HPT.out]
            clear hb6 hp6 hl6 hrow6 hce6 hm6
            go_wp2_with fail
            refine HSA.out.mono ?_
            clear HSA
            rintro e w7 ⟨⟨r, rfl, hr7⟩, hb7⟩
            have hrt := hr7.2 HP6.out
            subst hrt
            have hB7 := hB6.trans (hb7.mono hB6.size)
            clear hr7 hb7
            go_wp2_with fail
            go_ret
            exact ⟨rfl, hB7⟩
end Go.Proofs.Ytbamohcaamgalae
