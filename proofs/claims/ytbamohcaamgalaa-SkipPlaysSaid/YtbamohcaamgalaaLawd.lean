/- SkipPlays: the law walked. -/
import Derived.Test.YtbamohcaamgalaaLawc
namespace Go.Proofs.Ytbamohcaamgalaa
set_option linter.unusedVariables false
set_option linter.unusedSimpArgs false
open Go.RowKit

theorem wpList_append_vals {P : Program} (w : World) {ops : Array Oper} {rest : List Oper} {o : Oper} {A : Act} {Q : Exit → Act → World → Prop} (hgd : o.guard = none) (s x : Operand) (t : TypeId)
    (ho : o.op = .call { callee := .builtin .append, args := #[s, x], argTypes := #[t, t] })
    (base : Nat) (e : TypeId) (i : TypeInfo) (z : Value) (size bytes : Nat) (ht : P.underlying t = some (.slice e)) (hi : P.info? e = some i) (hz : i.zero = some z) (hsize : i.size = size) (hby : i.bytes = bytes) (hzs : z.cells.size = size) (hsz : 0 < size)
    (v : Value) (n : Nat) (xs : List Value) (hs : A.eval s = v) (hown : w.ownsRow base e size v n xs) (ad : Option Addr) (m c : Nat) (news : List Value) (hx : A.eval x = .slice ad m c) (hm : news.length = m * size) (hb : IsVals w ad news) (h1 : ∀ u ∈ news, u.oneCell' = true)
    (hbd : n + m ≤ maxLen) (hbytes : (n + m) * bytes ≤ 140737488355328) (hbase : base ≤ w.heap.size)
    (h : ∀ v' w', w'.ownsRow base e size v' (n + m) (xs ++ news) → w.grownBy w' v.ownBlock → wpList P ops Q rest (A.put o.dst v') w') : wpList P ops Q (o :: rest) A w :=
  wpList_plain hgd fun K hK => wp_append_vals w s x t ho base e i z size bytes ht hi hz hsize hby hzs hsz v n xs hs hown ad m c news hx hm hb h1 hbd hbytes hbase (fun v' w' g1 g2 => hK _ _ (h v' w' g1 g2))
theorem row_turned {w w' : World} {B g : Nat} {ns : List Nd} {n : Nat} {v : Value} {xs : List Value} (h : w.ownsRow B 9 1 v n xs) (hT : Tw w g ns) (hU : Turned g ns w w') : w'.ownsRow B 9 1 v n xs := by
  refine ⟨h.1, ?_⟩
  rcases h.2 with h1 | ⟨gb, cap, cur, hv, hb, hg, r⟩
  · exact .inl h1
  · refine .inr ⟨gb, cap, cur, hv, hb, ?_, r⟩
    rw [hU.2.2.2.2 gb (heap_lt hg) ?_ (fun i hi => ?_)]
    · exact hg
    · rintro rfl
      obtain ⟨cs, h1, _⟩ := hT.head
      rw [h1] at hg; simp at hg
    · rintro rfl
      obtain ⟨⟨cs, h1, _⟩, _⟩ := hT.node i hi
      rw [h1] at hg; simp at hg
theorem first_ahead {ks : List Text} {key : Text} {m : Nat} (h : First ks (· < key) m) : First ks (Ahead false key) m := by
  obtain ⟨h1, h2, h3⟩ := h
  exact ⟨h1, fun j hj => by have := h2 j hj; unfold Ahead; simpa using this, fun hl => by have := h3 hl; unfold Ahead; simpa using this⟩
theorem putIs_at (a : Option Addr) (cap n : Nat) (l : List ByteArray) (key : ByteArray) (w : World) (hn : l.length = n) (hl : n ≤ 1000000) (hcap : n ≤ cap) (h : IsStrs w a l) :
    Calls Try.prog 17 #[.slice a n cap, .string key] w (PutIs (.slice a n cap) l key w) := by
  subst hn; exact refput_row a cap l key w hl hcap h
theorem refseek_at (a : Option Addr) (cap n : Nat) (l : List ByteArray) (key : ByteArray) (after : Bool) (w : World) (hn : l.length = n) (hl : n ≤ 1000000000) (h : IsStrs w a l) :
    Calls Try.prog 18 #[.slice a n cap, .string key, .bool after] w fun e w' => SeekIs after l key e ∧ w' = w := by
  subst hn; exact refseek_any a cap l key after w hl h
/-- behind some puts, the document's row beside -/
def PlRel (B : Nat) (w1 : World) (g j : Nat) (v s : Value) (wr : World) : Prop := ∃ ns, Own B wr g ns ∧ ns.length ≤ j ∧ sizeN ns ≤ 200 * j ∧ wr.ownsRow B 9 1 v ns.length (strsV (keysN ns)) ∧ s = .int .i64 (sizeN ns : Int) ∧ Below B w1 wr
theorem length_keys (ns : List Nd) : (keysN ns).length = ns.length := by simp [keysN]
set_option maxRecDepth 100000 in
set_option maxHeartbeats 4000000 in
theorem lawPlays (a : Option Addr) (cap : Nat) (l : List UInt8) (a2 : Option Addr) (cap2 : Nat) (ps : List ByteArray) (a3 : Option Addr) (cap3 : Nat) (qs : List ByteArray) (w : World) (hl : l.length ≤ 9223372036854775807) (hc : l.length ≤ cap) (h : IsBytes w a l)
    (hl2 : ps.length ≤ 9223372036854775807) (hs2 : ∀ s ∈ ps, s.size ≤ 9223372036854775807) (h2 : IsStrs w a2 ps) (hl3 : qs.length ≤ 9223372036854775807) (hs3 : ∀ s ∈ qs, s.size ≤ 9223372036854775807) (h3 : IsStrs w a3 qs) :
    Calls Try.prog 5 #[.slice a l.length cap, .slice a2 ps.length cap2, .slice a3 qs.length cap3] w fun e w' => e = .returned (.bool true) ∧ Below w.heap.size w w' := by
  obtain ⟨i9, hi9, hz0, hz1, hz2⟩ := info_parts Try.info9
  have HF := Lib.hid (fixed_any w)
  have H := Lib.hid h
  have H2 := Lib.hid h2
  have HS2 := Lib.hid hs2
  have H3 := Lib.hid h3
  have HS3 := Lib.hid hs3
  clear h h2 hs2 h3 hs3
  go_enter Try.func5, Try.ntmps5
  go_wp2_with fail
  refine HF.out.mono ?_
  clear HF
  rintro e w1 ⟨rfl, hB1⟩
  have HFew := Lib.hid (few_at a2 cap2 ps w1 hl2 HS2.out (H2.out.below hB1))
  go_wp2_with fail
  refine HFew.out.mono ?_
  clear HFew
  rintro e w2 ⟨⟨r, rfl, hr⟩, rfl⟩
  cases r with
  | false =>
    go_wp2_with fail
    go_ret
    exact ⟨rfl, hB1⟩
  | true =>
    obtain ⟨hp200, hk200⟩ := hr rfl
    have HK := Lib.hid hk200
    have HFew := Lib.hid (few_at a3 cap3 qs w2 hl3 HS3.out (H3.out.below hB1))
    clear hr hk200
    go_wp2_with fail
    refine HFew.out.mono ?_
    clear HFew
    rintro e w3 ⟨⟨r, rfl, hr⟩, rfl⟩
    cases r with
    | false =>
      go_wp2_with fail
      go_ret
      exact ⟨rfl, hB1⟩
    | true =>
      obtain ⟨hq200, _⟩ := hr rfl
      clear hr
      by_cases g1 : 1000 < l.length
      · have d1 : decide (1000 < (l.length : Int)) = true := decide_eq_true (by omega)
        have d1' : decide (1000 < l.length) = true := decide_eq_true g1
        clear g1
        go_wp2_with fail
        go_ret
        exact ⟨rfl, hB1⟩
      · have d1 : decide (1000 < (l.length : Int)) = false := decide_eq_false (by omega)
        have d1' : decide (1000 < l.length) = false := decide_eq_false g1
        have HN := Lib.hid (new_any a cap l w3 (by omega) hc (H.out.below hB1))
        clear g1
        go_wp2_with fail
        refine HN.out.mono ?_
        clear HN d1 d1'
        rintro e w4 ⟨g, rfl, hg, hT4, hB4⟩
        have hrel0 : Hid (PlRel w3.heap.size w3 g 0 (.slice none 0 0) (.int .i64 0) w4) := ⟨[], ⟨hT4, hg, fun i hi => absurd hi (Nat.not_lt_zero _)⟩, Nat.le_refl _, Nat.zero_le _, World.ownsRow_nil _ _ _ _, rfl, hB4⟩
        clear hT4 hB4 hg
        go_wp2_with fail
        go_loopw [8, 9, 45] (fun v s i wr => ∃ j : Nat, i = .int .i64 j ∧ j ≤ ps.length ∧ Hid (PlRel w3.heap.size w3 g j v s wr)) (fun _ _ i _ => ps.length - (intOf i).toNat)
        case atStart => exact ⟨0, rfl, Nat.zero_le _, hrel0⟩
        case round =>
          clear hrel0
          obtain ⟨j, rfl, hj, hst⟩ := hrel
          obtain ⟨ns, hown, hnl, hnz, hrow, rfl, hB⟩ := hst.out
          clear hst
          obtain ⟨ah, mh, ch, rfl⟩ := row_slice hrow
          have hmh := row_len' hrow
          by_cases hjc : j < ps.length
          · have dj : decide ((j : Int) < (ps.length : Int)) = true := decide_eq_true (by omega)
            have hij : (j : Int) < (ps.length : Int) := by omega
            obtain ⟨pb, po, rfl, hpb, hpc⟩ := ((H2.out.below hB1).below hB) (by omega)
            have c1 := hpc j hjc
            have hks := HK.out j
            generalize ps.getD j ByteArray.empty = key at *
            have HRef := Lib.hid (putIs_at ah ch mh (keysN ns) key wr (by rw [hmh, length_keys]) (by omega) (by rw [hmh]; exact row_cap hrow) (row_strs hrow))
            have HOwn := Lib.hid hown
            have HRow := Lib.hid hrow
            have HB := Lib.hid hB
            have HMH := Lib.hid hmh
            have HNL : Hid (ns.length ≤ j ∧ sizeN ns ≤ 200 * j ∧ key.size ≤ 200 ∧ j ≤ 200) := ⟨hnl, hnz, hks, by omega⟩
            clear hpc hown hrow hB hmh hnl hnz hks
            go_wp2_with fail
            refine HRef.out.mono ?_
            clear HRef
            rintro e w5 ⟨m, hf, hcase⟩
            have hmn : m ≤ ns.length := by have := hf.1; rwa [length_keysN] at this
            have HM := Lib.hid (first_ahead hf)
            rw [length_keys] at hcase
            have HW1 : Hid ((sizeN ns : Int) + (key.size : Int) = ((sizeN ns + key.size : Nat) : Int)) := by
              show _ = _
              omega
            rcases hcase with ⟨h1, h2, rfl, rfl⟩ | ⟨h1, v5, rfl, hrow5, hb5⟩
            · have HY : Hid (m < ns.length ∧ (keysN ns).getD m ByteArray.empty = key) := ⟨h1, h2⟩
              have HPut := Lib.hid (put_any g ns key w5 HOwn.out.1 (by have := HNL.out; omega) (by have := HNL.out; omega) (by have := HNL.out; omega) m HM.out)
              clear hf h1 h2
              go_wp2_with fail
              refine HPut.out.mono ?_
              clear HPut
              intro e w6 hput
              obtain ⟨rfl, hT6, hb6⟩ := hput.1 HY.out
              have HO6 : Hid (Own w3.heap.size w6 g ns) := ⟨hT6, HOwn.out.2⟩
              have HR6 := Lib.hid (Below.row hb6 HRow.out)
              have HB6 := Lib.hid (HB.out.trans (hb6.mono HB.out.size))
              have HLn := Lib.hid (len_any g ns w6 hT6)
              have HSz := Lib.hid (size_any g ns w6 hT6)
              have hbe : ((ns.length : Int) != (mh : Int)) = false := by rw [HMH.out]; simp
              clear hput hT6 hb6
              go_wp2_with fail
              refine HLn.out.mono ?_
              rintro e w7 ⟨rfl, rfl⟩
              go_wp2_with fail
              refine HSz.out.mono ?_
              rintro e w8 ⟨rfl, rfl⟩
              go_wp2_with fail
              go_roundw
              case rel => exact ⟨j + 1, by go_num, by omega, ⟨ns, HO6.out, by have := HNL.out; omega, by have := HNL.out; omega, HR6.out, rfl, HB6.out⟩⟩
              case measure => simp [intOf]; omega
            · have HNo : Hid (¬ (m < ns.length ∧ (keysN ns).getD m ByteArray.empty = key)) := fun h => h1 h.1 h.2
              obtain ⟨a5, m5, c5, rfl⟩ := row_slice hrow5
              have hm5 := row_len' hrow5
              have ho5 := HOwn.out.below hb5
              have HPut := Lib.hid (put_any g ns key w5 ho5.1 (by have := HNL.out; omega) (by have := HNL.out; omega) (by have := HNL.out; omega) m HM.out)
              have HO5 := Lib.hid ho5
              have HRow5 := Lib.hid (row_lower hrow5 HB.out.size)
              have HB5 := Lib.hid (HB.out.trans (hb5.mono HB.out.size))
              have HM5 := Lib.hid hm5
              clear hf h1 ho5 hrow5 hb5 hm5
              go_wp2_with fail
              refine HPut.out.mono ?_
              clear HPut
              intro e w6 hput
              obtain ⟨nb, H6, rfl, hnb, hT6, hU⟩ := hput.2 HNo.out
              obtain ⟨r6, ns6, e6, ho6, hb6, hres6, _⟩ := HO5.out.put HB5.out.size hmn hput
              have hns6 : Own w3.heap.size w6 g (ins ns m ⟨nb, key, H6⟩) := by
                refine ⟨hT6, HO5.out.2.1, fun i hi => ?_⟩
                rw [ins_len ns m _ hmn] at hi
                rw [ins_at ns m _ hmn]
                by_cases a : i < m
                · rw [if_pos a]; exact HO5.out.2.2 i (by omega)
                · rw [if_neg a]
                  by_cases b : i = m
                  · rw [if_pos b]; exact Nat.le_trans HB5.out.size hnb
                  · rw [if_neg b]; exact HO5.out.2.2 (i - 1) (by omega)
              have HO6 := Lib.hid hns6
              have hr6 := row_turned HRow5.out HO5.out.1 hU
              rw [← keysN_ins ns m ⟨nb, key, H6⟩] at hr6
              have hl6 : (ins ns m ⟨nb, key, H6⟩).length = m5 := by rw [ins_len ns m _ hmn, HM5.out]
              have hz6 : sizeN (ins ns m ⟨nb, key, H6⟩) = sizeN ns + key.size := sizeN_ins ns m _
              rw [← ins_len ns m ⟨nb, key, H6⟩ hmn] at hr6
              have HR6 := Lib.hid hr6
              have HB6 := Lib.hid (HB5.out.trans hb6)
              have HLn := Lib.hid (len_any g _ w6 hT6)
              have HSz := Lib.hid (size_any g _ w6 hT6)
              have HL6 := Lib.hid (ins_len ns m ⟨nb, key, H6⟩ hmn)
              rw [hl6] at HLn
              rw [hz6] at HSz
              have HZ6 := Lib.hid hz6
              have HZB : Hid (sizeN ns + key.size ≤ 200 * (j + 1)) := by show _ ≤ _; have := HNL.out; omega
              have hzw : IntKind.i64.wrap ((sizeN ns : Int) + (key.size : Int)) = ((sizeN ns + key.size : Nat) : Int) := by have := HNL.out; rw [IntKind.wrap_i64]; omega
              clear hput hT6 hU ho6 hb6 hres6 e6 hns6 hr6 hl6 hz6 hnb
              generalize sizeN ns + key.size = Z6 at *
              generalize (ins ns m ⟨nb, key, H6⟩) = ns7 at *
              go_wp2_with fail
              refine HLn.out.mono ?_
              rintro e w7 ⟨rfl, rfl⟩
              go_wp2_with fail
              refine HSz.out.mono ?_
              rintro e w8 ⟨rfl, rfl⟩
              go_wp2_with fail
              go_roundw
              case rel => exact ⟨j + 1, by go_num, by omega, ⟨ns7, HO6.out, by have := HL6.out; have := HNL.out; omega, by rw [HZ6.out]; exact HZB.out, HR6.out, by rw [HZ6.out], HB6.out⟩⟩
              case measure => simp [intOf]; omega
          · obtain rfl : j = ps.length := by omega
            have dj : decide ((ps.length : Int) < (ps.length : Int)) = false := by simp
            have HOwn := Lib.hid hown
            have HRow := Lib.hid hrow
            have hBw := hB1.trans (hB.mono hB1.size)
            have HB := Lib.hid hB
            have HMH := Lib.hid hmh
            have hmhu : mh ≤ 200 := by omega
            have HE0 := Lib.hid (row_empty wr wr.heap.size 9 1 (Nat.le_refl _))
            have HBA := Lib.hid ((Below.refl wr.heap.size wr).alloc (Nat.le_refl _) (.cells #[] 9))
            have HV3 := Lib.hid (isStrs_vals (((H3.out.below hBw)).below HBA.out))
            have HV2 := Lib.hid (isStrs_vals (((H2.out.below hBw)).below HBA.out))
            have HL3 : Hid ((strsV qs).length = qs.length * 1) := by show _ = _; rw [length_strsV, Nat.mul_one]
            have HL2 : Hid ((strsV ps).length = ps.length * 1) := by show _ = _; rw [length_strsV, Nat.mul_one]
            clear hown hrow hB hmh hnz hnl
            go_wp2_with (at_builtin; first | (refine wpList_append_vals _ rfl (.tmp 78) (.tmp 79) 23 rfl wr.heap.size 9 i9 _ 1 16 Try.underlying23 hi9 hz0 hz1 hz2 rfl (by decide) (.slice (some ⟨wr.heap.size, 0, none⟩) 0 0) 0 [] (by rfl) HE0.out a3 qs.length cap3 (strsV qs) (by rfl) HL3.out HV3.out (strsV_one qs) (by unfold maxLen; omega) (by omega) HBA.out.size ?_; intro v4 w4 hrow4 hg4; have hb4 := Below.own HBA.out HE0.out (Nat.le_refl _) HBA.out.size hg4; obtain ⟨a4, m4, c4, rfl⟩ := row_slice hrow4; rw [Nat.zero_add, List.nil_append] at hrow4; have HR4 := Lib.hid hrow4; have HB4 := Lib.hid hb4; have HV2' := Lib.hid (isStrs_vals ((H2.out.below hBw).below hb4)); clear hrow4 hg4 hb4) | (refine wpList_append_vals _ rfl (.tmp 80) (.tmp 81) 23 rfl wr.heap.size 9 i9 _ 1 16 Try.underlying23 hi9 hz0 hz1 hz2 rfl (by decide) (.slice a4 m4 c4) qs.length (strsV qs) (by rfl) HR4.out a2 ps.length cap2 (strsV ps) (by rfl) HL2.out HV2'.out (strsV_one ps) (by unfold maxLen; omega) (by omega) HB4.out.size ?_; intro v5 w5 hrow5 hg5; have hb5 := Below.own HB4.out HR4.out (Nat.le_refl _) HB4.out.size hg5; obtain ⟨a5, m5, c5, rfl⟩ := row_slice hrow5; have HR5 := Lib.hid hrow5; have HB5 := Lib.hid hb5; clear hrow5 hg5 hb5))
            have hm5 := row_len' HR5.out
            have HM5 : Hid ((qs ++ ps).length = m5) := by
              show (qs ++ ps).length = m5
              rw [List.length_append, hm5]
            have hm5u : m5 ≤ 400 := by omega
            have hrel1 : Hid (Own w3.heap.size w5 g ns ∧ IsStrs w5 ah (keysN ns) ∧ IsStrs w5 a5 (qs ++ ps) ∧ Below w3.heap.size w3 w5) := by
              refine ⟨HOwn.out.below HB5.out, (row_strs HRow.out).below HB5.out, ?_, HB.out.trans (HB5.out.mono HB.out.size)⟩
              have := HR5.out
              rw [← strsV_append] at this
              exact row_strs this
            have HKL : Hid ((keysN ns).length = mh) := by
              show (keysN ns).length = mh
              rw [length_keys, HMH.out]
            clear HE0 HBA HV3 HV2 HL3 HL2 HR4 HB4 HV2' HR5 HB5 hm5 HOwn HRow HB hBw
            generalize qs ++ ps = L at *
            go_loopw [84] (fun i wx => ∃ j : Nat, i = .int .i64 j ∧ j ≤ m5 ∧ Hid (Own w3.heap.size wx g ns ∧ IsStrs wx ah (keysN ns) ∧ IsStrs wx a5 L ∧ Below w3.heap.size w3 wx)) (fun i _ => m5 - (intOf i).toNat)
            case atStart => exact ⟨0, rfl, Nat.zero_le _, hrel1⟩
            case round =>
              clear hrel1
              obtain ⟨j, rfl, hj, hst⟩ := hrel
              obtain ⟨ho, hsa, hsl, hB⟩ := hst.out
              clear hst
              by_cases hjm : j < m5
              · have dj : decide ((j : Int) < (m5 : Int)) = true := decide_eq_true (by omega)
                have hij : (j : Int) < (m5 : Int) := by omega
                obtain ⟨lb, lo, rfl, hlb, hlc⟩ := hsl (by rw [HM5.out]; omega)
                have c1 := hlc j (by rw [HM5.out]; exact hjm)
                have HSL := Lib.hid hsl
                generalize L.getD j ByteArray.empty = key at *
                obtain ⟨m, hm⟩ := first_some (keysOf (keysN ns)) (Ahead false key.data.toList)
                have HM := Lib.hid hm
                have hmn : m ≤ ns.length := by have := hm.1; rwa [length_keysN] at this
                have HS := Lib.hid (seek_any g ns key wr ho.1)
                have HO := Lib.hid ho
                have HSA := Lib.hid hsa
                have HB := Lib.hid hB
                clear hlc hm ho hsa hsl hB
                go_wp2_with fail
                refine HS.out.mono ?_
                clear HS
                rintro e w6 ⟨hs, hb6⟩
                obtain ⟨s1, b1, rfl⟩ := seekIs_out hs
                have HS1 := Lib.hid hs
                have HB6 := Lib.hid hb6
                have HR := Lib.hid (refseek_at ah ch mh (keysN ns) key false w6 HKL.out (by omega) (HSA.out.below hb6))
                clear hs hb6
                go_wp2_with fail
                refine HR.out.mono ?_
                clear HR
                rintro e w7 ⟨hs, rfl⟩
                obtain ⟨s2, b2, rfl⟩ := seekIs_out hs
                have hss : s2 = s1 ∧ b2 = b1 ∧ s1 = (if m < ns.length then (keysN ns).getD m ByteArray.empty else ByteArray.empty) ∧ b1 = decide (m < ns.length) := by
                  obtain ⟨i1, hi1, e1⟩ := HS1.out
                  obtain ⟨i2, hi2, e2⟩ := hs
                  have h1 := first_one hi1 hi2
                  subst h1
                  have h2 := first_one hi1 HM.out
                  subst h2
                  have := e2.trans e1.symm
                  rw [length_keys] at e1
                  simp only [Ending.returned.injEq, Value.tuple.injEq, Array.mk.injEq, List.cons.injEq, Value.string.injEq, Value.bool.injEq, and_true] at this e1
                  exact ⟨this.1, this.2, e1.1, e1.2⟩
                obtain ⟨rfl, rfl, hs1, hb1⟩ := hss
                have HSS := Lib.hid hs1
                have HBB := Lib.hid hb1
                have HA := Lib.hid (after_any g ns key w7 (HO.out.below HB6.out).1)
                clear hs hs1 hb1
                go_wp2_with fail
                refine HA.out.mono ?_
                clear HA
                rintro e w8 ⟨hs, hb8⟩
                obtain ⟨s3, b3, rfl⟩ := seekIs_out hs
                have HS3' := Lib.hid hs
                have HB8 := Lib.hid hb8
                have HR := Lib.hid (refseek_at ah ch mh (keysN ns) key true w8 HKL.out (by omega) ((HSA.out.below HB6.out).below hb8))
                clear hs hb8
                go_wp2_with fail
                refine HR.out.mono ?_
                clear HR
                rintro e w9 ⟨hs, rfl⟩
                obtain ⟨s4, b4, rfl⟩ := seekIs_out hs
                have hss : s4 = s3 ∧ b4 = b3 := by
                  obtain ⟨i1, hi1, e1⟩ := HS3'.out
                  obtain ⟨i2, hi2, e2⟩ := hs
                  have h1 := first_one hi1 hi2
                  subst h1
                  have := e2.trans e1.symm
                  simpa using this
                obtain ⟨rfl, rfl⟩ := hss
                have HHas := Lib.hid (has_any g ns key w9 ((HO.out.below HB6.out).below HB8.out).1 m HM.out)
                obtain ⟨hv, hhv⟩ : ∃ hv, hv = decide (m < ns.length ∧ (keysN ns).getD m ByteArray.empty = key) := ⟨_, rfl⟩
                rw [← hhv] at HHas
                have HHV := Lib.hid hhv
                have he1 : (s2.toList == s2.toList) = true := by simp
                have he3 : (s4.toList == s4.toList) = true := by simp
                have hb1 : (b2 != b2) = false := by simp
                have hb3 : (b4 != b4) = false := by simp
                clear hs hhv
                cases b2 with
                | false =>
                  have hvf : hv = false := by
                    rw [HHV.out]
                    apply decide_eq_false
                    rintro ⟨h, _⟩
                    have := HBB.out
                    rw [decide_eq_true h] at this
                    cases this
                  subst hvf
                  clear hb1 hb3
                  cases b4 with
                  | false =>
                    go_wp2_with fail
                    refine HHas.out.mono ?_
                    clear HHas
                    rintro e w10 ⟨rfl, hb10⟩
                    have HR10 : Hid (Own w3.heap.size w10 g ns ∧ IsStrs w10 ah (keysN ns) ∧ IsStrs w10 (some ⟨lb, lo, none⟩) L ∧ Below w3.heap.size w3 w10) := ⟨((HO.out.below HB6.out).below HB8.out).below hb10, ((HSA.out.below HB6.out).below HB8.out).below hb10, ((HSL.out.below HB6.out).below HB8.out).below hb10, ((HB.out.trans (HB6.out.mono HB.out.size)).trans (HB8.out.mono (Nat.le_trans HB.out.size HB6.out.size))).trans (hb10.mono (Nat.le_trans HB.out.size (Nat.le_trans HB6.out.size HB8.out.size)))⟩
                    clear hb10
                    go_wp2_with fail
                    go_roundw
                    case rel => exact ⟨j + 1, by go_num, by omega, HR10⟩
                    case measure => simp [intOf]; omega
                  | true =>
                    go_wp2_with fail
                    refine HHas.out.mono ?_
                    clear HHas
                    rintro e w10 ⟨rfl, hb10⟩
                    have HR10 : Hid (Own w3.heap.size w10 g ns ∧ IsStrs w10 ah (keysN ns) ∧ IsStrs w10 (some ⟨lb, lo, none⟩) L ∧ Below w3.heap.size w3 w10) := ⟨((HO.out.below HB6.out).below HB8.out).below hb10, ((HSA.out.below HB6.out).below HB8.out).below hb10, ((HSL.out.below HB6.out).below HB8.out).below hb10, ((HB.out.trans (HB6.out.mono HB.out.size)).trans (HB8.out.mono (Nat.le_trans HB.out.size HB6.out.size))).trans (hb10.mono (Nat.le_trans HB.out.size (Nat.le_trans HB6.out.size HB8.out.size)))⟩
                    clear hb10
                    go_wp2_with fail
                    go_roundw
                    case rel => exact ⟨j + 1, by go_num, by omega, HR10⟩
                    case measure => simp [intOf]; omega
                | true =>
                  have hml : m < ns.length := of_decide_eq_true HBB.out.symm
                  have hse : s2 = (keysN ns).getD m ByteArray.empty := by rw [HSS.out, if_pos hml]
                  have hvv : hv = decide (s2 = key) := by
                    rw [HHV.out, hse]
                    by_cases c : (keysN ns).getD m ByteArray.empty = key
                    · rw [decide_eq_true c, decide_eq_true ⟨hml, c⟩]
                    · rw [decide_eq_false c, decide_eq_false (fun h => c h.2)]
                  clear hse hml hb1 hb3
                  by_cases hk : s2 = key
                  · have he := text_eq_yes _ _ hk
                    rw [decide_eq_true hk] at hvv
                    subst hvv
                    have HKe := Lib.hid hk
                    clear hk
                    cases b4 with
                    | false =>
                      go_wp2_with fail
                      refine HHas.out.mono ?_
                      clear HHas
                      rintro e w10 ⟨rfl, hb10⟩
                      have HR10 : Hid (Own w3.heap.size w10 g ns ∧ IsStrs w10 ah (keysN ns) ∧ IsStrs w10 (some ⟨lb, lo, none⟩) L ∧ Below w3.heap.size w3 w10) := ⟨((HO.out.below HB6.out).below HB8.out).below hb10, ((HSA.out.below HB6.out).below HB8.out).below hb10, ((HSL.out.below HB6.out).below HB8.out).below hb10, ((HB.out.trans (HB6.out.mono HB.out.size)).trans (HB8.out.mono (Nat.le_trans HB.out.size HB6.out.size))).trans (hb10.mono (Nat.le_trans HB.out.size (Nat.le_trans HB6.out.size HB8.out.size)))⟩
                      clear hb10
                      go_wp2_with fail
                      go_roundw
                      case rel => exact ⟨j + 1, by go_num, by omega, HR10⟩
                      case measure => simp [intOf]; omega
                    | true =>
                      go_wp2_with fail
                      refine HHas.out.mono ?_
                      clear HHas
                      rintro e w10 ⟨rfl, hb10⟩
                      have HR10 : Hid (Own w3.heap.size w10 g ns ∧ IsStrs w10 ah (keysN ns) ∧ IsStrs w10 (some ⟨lb, lo, none⟩) L ∧ Below w3.heap.size w3 w10) := ⟨((HO.out.below HB6.out).below HB8.out).below hb10, ((HSA.out.below HB6.out).below HB8.out).below hb10, ((HSL.out.below HB6.out).below HB8.out).below hb10, ((HB.out.trans (HB6.out.mono HB.out.size)).trans (HB8.out.mono (Nat.le_trans HB.out.size HB6.out.size))).trans (hb10.mono (Nat.le_trans HB.out.size (Nat.le_trans HB6.out.size HB8.out.size)))⟩
                      clear hb10
                      go_wp2_with fail
                      go_roundw
                      case rel => exact ⟨j + 1, by go_num, by omega, HR10⟩
                      case measure => simp [intOf]; omega
                  · have he := text_eq_no _ _ hk
                    rw [decide_eq_false hk] at hvv
                    subst hvv
                    have HKe := Lib.hid hk
                    clear hk
                    cases b4 with
                    | false =>
                      go_wp2_with fail
                      refine HHas.out.mono ?_
                      clear HHas
                      rintro e w10 ⟨rfl, hb10⟩
                      have HR10 : Hid (Own w3.heap.size w10 g ns ∧ IsStrs w10 ah (keysN ns) ∧ IsStrs w10 (some ⟨lb, lo, none⟩) L ∧ Below w3.heap.size w3 w10) := ⟨((HO.out.below HB6.out).below HB8.out).below hb10, ((HSA.out.below HB6.out).below HB8.out).below hb10, ((HSL.out.below HB6.out).below HB8.out).below hb10, ((HB.out.trans (HB6.out.mono HB.out.size)).trans (HB8.out.mono (Nat.le_trans HB.out.size HB6.out.size))).trans (hb10.mono (Nat.le_trans HB.out.size (Nat.le_trans HB6.out.size HB8.out.size)))⟩
                      clear hb10
                      go_wp2_with fail
                      go_roundw
                      case rel => exact ⟨j + 1, by go_num, by omega, HR10⟩
                      case measure => simp [intOf]; omega
                    | true =>
                      go_wp2_with fail
                      refine HHas.out.mono ?_
                      clear HHas
                      rintro e w10 ⟨rfl, hb10⟩
                      have HR10 : Hid (Own w3.heap.size w10 g ns ∧ IsStrs w10 ah (keysN ns) ∧ IsStrs w10 (some ⟨lb, lo, none⟩) L ∧ Below w3.heap.size w3 w10) := ⟨((HO.out.below HB6.out).below HB8.out).below hb10, ((HSA.out.below HB6.out).below HB8.out).below hb10, ((HSL.out.below HB6.out).below HB8.out).below hb10, ((HB.out.trans (HB6.out.mono HB.out.size)).trans (HB8.out.mono (Nat.le_trans HB.out.size HB6.out.size))).trans (hb10.mono (Nat.le_trans HB.out.size (Nat.le_trans HB6.out.size HB8.out.size)))⟩
                      clear hb10
                      go_wp2_with fail
                      go_roundw
                      case rel => exact ⟨j + 1, by go_num, by omega, HR10⟩
                      case measure => simp [intOf]; omega
              · obtain rfl : j = m5 := by omega
                have dj : decide ((j : Int) < (j : Int)) = false := by simp
                have HLa := Lib.hid (last_any g ns wr ho.1 (by have := HMH.out; omega))
                have HAl := Lib.hid (all_any g ns wr ho.1 (by have := HMH.out; omega))
                have HSA := Lib.hid hsa
                have hBw := hB1.trans (hB.mono hB1.size)
                clear ho hsa hsl hB
                go_wp2_with fail
                refine HLa.out.mono ?_
                clear HLa
                rintro e w6 ⟨hla, rfl⟩
                unfold LastIs at hla
                subst hla
                obtain ⟨lv, hlv⟩ : ∃ lv, lv = (if 0 < ns.length then (ns.getD (ns.length - 1) default).key else ByteArray.empty) := ⟨_, rfl⟩
                obtain ⟨lk, hlk⟩ : ∃ lk, lk = decide (0 < ns.length) := ⟨_, rfl⟩
                rw [← hlv, ← hlk]
                have HLV := Lib.hid hlv
                have HLK := Lib.hid hlk
                clear hlv hlk
                go_wp2_with fail
                refine HAl.out.mono ?_
                clear HAl
                rintro e w7 ⟨v7, rfl, hrow7, hb7⟩
                obtain ⟨a7, m7, c7, rfl⟩ := row_slice hrow7
                have hm7 := row_len' hrow7
                have HSm := Lib.hid (same_at a7 ah c7 ch m7 mh (keysN ns) (keysN ns) w7 (by rw [hm7, length_keys]) HKL.out (by have := HMH.out; omega) (by omega) (row_strs hrow7) (HSA.out.below hb7) rfl)
                have hB7 := hBw.trans (hb7.mono hBw.size)
                have HSA7 := Lib.hid (HSA.out.below hb7)
                clear hrow7 hb7 hm7
                go_wp2_with fail
                refine HSm.out.mono ?_
                clear HSm
                rintro e w8 ⟨rfl, hb8⟩
                have hB8 := hB7.trans (hb8.mono hB7.size)
                have HSA8 := Lib.hid (HSA7.out.below hb8)
                clear hb8
                by_cases h0 : 0 < ns.length
                · have hlk : lk = true := by rw [HLK.out, decide_eq_true h0]
                  subst hlk
                  have hmp : 0 < mh := by have := HMH.out; omega
                  have d0 : decide ((0 : Int) < (mh : Int)) = true := decide_eq_true (by omega)
                  have d0' : decide (0 < mh) = true := decide_eq_true hmp
                  obtain ⟨M1, hM1⟩ : ∃ M1, M1 = mh - 1 := ⟨_, rfl⟩
                  have hm1 : (mh : Int) - 1 = (M1 : Int) := by omega
                  have hm1w : IntKind.i64.wrap ((mh : Int) - 1) = (M1 : Int) := by rw [hm1, IntKind.wrap_i64]; omega
                  have hmi : (M1 : Int) < (mh : Int) := by omega
                  obtain ⟨kb, ko, rfl, _, hkc⟩ := HSA8.out (by rw [HKL.out]; exact hmp)
                  have ck := hkc M1 (by rw [HKL.out]; omega)
                  have hle : (keysN ns).getD M1 ByteArray.empty = lv := by
                    rw [HLV.out, if_pos h0, hM1, HMH.out]
                    have hlt : ns.length - 1 < ns.length := by omega
                    simp [keysN, List.getD_eq_getElem?_getD, List.getElem?_map, List.getElem?_eq_getElem hlt]
                  rw [hle] at ck
                  have he : (lv.toList == lv.toList) = true := by simp
                  clear hkc hle hM1 h0
                  go_wp2_with fail
                  go_ret
                  exact ⟨rfl, hB8⟩
                · have hlk : lk = false := by rw [HLK.out, decide_eq_false h0]
                  subst hlk
                  have hm0 : mh = 0 := by have := HMH.out; omega
                  subst hm0
                  clear h0
                  go_wp2_with fail
                  go_ret
                  exact ⟨rfl, hB8⟩
end Go.Proofs.Ytbamohcaamgalaa
