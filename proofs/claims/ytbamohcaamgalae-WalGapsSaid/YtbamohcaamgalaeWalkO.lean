/- A record decoded, as the document does: walked. -/
import Derived.Test.YtbamohcaamgalaeWalkN
import Derived.Deep.RegionLaw
namespace Go.Proofs.Ytbamohcaamgalae
set_option linter.unusedVariables false
set_option linter.unusedSimpArgs false
open Go.RowKit

theorem step_append_vals {P : Program} {w : World} {ops : Array Oper} {o : Oper} {A : Act} {K : Act → World → Prop} {Q : Exit → Act → World → Prop} {E : Prop} (hgd : o.guard = none) (s x : Operand) (t : TypeId)
    (ho : o.op = .call { callee := .builtin .append, args := #[s, x], argTypes := #[t, t] })
    (base : Nat) (e : TypeId) (i : TypeInfo) (z : Value) (size bytes : Nat) (ht : P.underlying t = some (.slice e)) (hi : P.info? e = some i) (hz : i.zero = some z) (hsize : i.size = size) (hby : i.bytes = bytes) (hzs : z.cells.size = size) (hsz : 0 < size)
    (v : Value) (n : Nat) (xs : List Value) (hs : A.eval s = v) (hown : w.ownsRow base e size v n xs) (ad : Option Addr) (m c : Nat) (news : List Value) (hx : A.eval x = .slice ad m c) (hm : news.length = m * size) (hb : IsVals w ad news) (h1 : ∀ u ∈ news, u.oneCell' = true)
    (hbd : n + m ≤ maxLen) (hbytes : (n + m) * bytes ≤ 140737488355328) (hbase : base ≤ w.heap.size)
    (h : ∀ v' w', w'.ownsRow base e size v' (n + m) (xs ++ news) → w.grownBy w' v.ownBlock → K (A.put o.dst v') w') : if Region.wanted o (yielded ops A.tmps) = true then Oper.wp P o A w K Q else E := by
  have hw : Region.wanted o (yielded ops A.tmps) = true := by simp [Region.wanted, hgd]
  rw [if_pos hw]
  exact wp_append_vals w s x t ho base e i z size bytes ht hi hz hsize hby hzs hsz v n xs hs hown ad m c news hx hm hb h1 hbd hbytes hbase h
theorem refget_at (a : Option Addr) (cap n : Nat) (l : List UInt8) (w : World) (hn : l.length = n) (hl : n ≤ 1000000000) (h : IsBytes w a l) :
    Calls Try.prog 31 #[.slice a n cap] w (GetIs l w) := by
  subst hn; exact refget_any a cap l w hl h
theorem refgettext_at (a : Option Addr) (cap n : Nat) (l : List UInt8) (w : World) (hn : l.length = n) (hl : n ≤ 1000000000) (hc : n ≤ cap) (h : IsBytes w a l) :
    Calls Try.prog 32 #[.slice a n cap] w (GetTextIs l w) := by
  subst hn; exact refgettext_any a cap l w hl hc h
/-- behind some entries -/
def RDRel (l : List UInt8) (w : World) (gc rev n at' : Nat) (acc : List Ent) (v : Value) (wr : World) : Prop :=
  wr.heap[gc]? = some (.cells #[.int .u64 (rev : Int), v] 25 (0, 0)) ∧ wr.ownsRow w.heap.size 48 3 v acc.length (entsV acc) ∧ Below w.heap.size w wr ∧ at' ≤ l.length ∧ Hid (DecP l rev n (l.drop at') false acc) ∧ wr.heap[w.heap.size]? = some (.cells #[.int .u64 0, .slice none 0 0] 25 (0, 0))
set_option maxRecDepth 100000 in
set_option maxHeartbeats 2000000 in
theorem refdecode_any (a : Option Addr) (cap : Nat) (l : List UInt8) (w : World) (hl : l.length ≤ 1000000) (hc : l.length ≤ cap) (h : IsBytes w a l) :
    Calls Try.prog 15 #[.slice a l.length cap] w (DecIs l w) := by
  obtain ⟨i48, hi, hz0, hz1, hz2⟩ := info_parts Try.info48
  obtain ⟨i5, hi5, hy0, hy1, hy2⟩ := info_parts Try.info5
  have H := Lib.hid h
  have hN1 := getN_le l
  have hV := getV_lt l
  have hB0 := (Below.refl w.heap.size w).alloc (Nat.le_refl _) (.cells #[.int .u64 0, .slice none 0 0] 25)
  have hres0 := heap_alloc_new w (.cells #[.int .u64 0, .slice none 0 0] 25)
  have HGet := Lib.hid (refget_any a cap l _ (by omega) (h.below hB0))
  unfold GetIs at HGet
  have HCut : Hid (∀ W lo, IsBytes W a l → IsBytes W (cutA a cap lo) (l.drop lo)) := fun W lo hW => by
    have := cutA_bytes (lo := lo) (hi := l.length) hW (Nat.le_refl _) hc
    rwa [List.take_length] at this
  clear h
  by_cases hE : getE l = 0
  · have HE := Lib.hid hE
    have be : ((getE l : Int) != 0) = false := by rw [hE]; rfl
    have hr1 : rest1 l = l.drop (getN l) := rfl
    have hD : (l.drop (getN l)).length = l.length - getN l := List.length_drop
    have hib := HCut.out _ (getN l) (H.out.below hB0)
    have HGet2 := Lib.hid (refget_at (cutA a cap (getN l)) (cap - getN l) (l.length - getN l) (rest1 l) _ hD (by omega) hib)
    unfold GetIs at HGet2
    have hN2 := getN_le (rest1 l)
    rw [hr1, hD] at hN2
    rw [← hr1] at hN2
    have hs1 : ∀ W, (Instr.slice 28 (.slice a l.length cap) (some (.int .i64 (getN l : Int))) none none).run Try.prog W = .ok (.slice (cutA a cap (getN l)) (l.length - getN l) (cap - getN l)) W := fun W => run_slice_l1 (P := Try.prog) W 28 5 i5 Try.underlying28 hi5 hy1 a l.length cap (getN l) .i64 hN1
    have HR1 := Lib.hid hr1
    clear hib hE hD
    clear hr1
    by_cases hE2 : getE (rest1 l) = 0
    · have HE2 := Lib.hid hE2
      have be2 : ((getE (rest1 l) : Int) != 0) = false := by rw [hE2]; rfl
      have hrr : rest1 (rest1 l) = l.drop (getN l + getN (rest1 l)) := by rw [rest1, HR1.out, List.drop_drop]
      have hP0 : DecP l (getV l) (getV (rest1 l)) (l.drop (getN l + getN (rest1 l))) false [] := by
        refine ⟨by rw [List.length_drop]; omega, fun _ => by rw [List.length_drop, List.length_nil]; omega, Nat.zero_le _, fun _ => ⟨?_, HE.out, hE2⟩, (fun h => by cases h), (fun x hx => by cases hx)⟩
        rw [← hrr]
        cases ents (getV l) (getV (rest1 l)) (rest1 (rest1 l)) <;> rfl
      have hcnt := getV_lt (rest1 l)
      have HP0 := Lib.hid hP0
      have HRV : Hid (getV l = getV l) := rfl
      have hcm0 := com_new (w.alloc (.cells #[.int .u64 0, .slice none 0 0] 25)) (getV l : Int) (.slice none 0 0)
      have hB1 := hB0.alloc hB0.size (.cells #[.int .u64 (getV l : Int), .slice none 0 0] 25)
      have hres1 := (Below.heap_alloc (w.alloc (.cells #[.int .u64 0, .slice none 0 0] 25)) (.cells #[.int .u64 (getV l : Int), .slice none 0 0] 25) w.heap.size (by simp)).trans hres0
      have hgw : w.heap.size < (w.alloc (.cells #[.int .u64 0, .slice none 0 0] 25)).heap.size := by simp
      have hN2' : getN l + getN (rest1 l) ≤ l.length := by omega
      clear hP0 hE2 hrr
      generalize getV (rest1 l) = cnt at *
      generalize getN (rest1 l) = n2 at *
      generalize getE (rest1 l) = e2 at *
      generalize getE l = e1 at *
      generalize hrv : getV l = rev at *
      have HRV2 := Lib.hid hrv
      clear hrv HRV
      generalize getN l = n1 at *
      generalize rest1 l = R1 at *
      go_enter Try.func15, Try.ntmps15
      go_wp2_with fail
      refine HGet.out.mono ?_
      rintro e w2 ⟨rfl, rfl⟩
      go_wp2_with fail
      refine HGet2.out.mono ?_
      rintro e w3 ⟨rfl, rfl⟩
      go_wp2_with fail
      have hszw : (w.alloc (.cells #[.int .u64 0, .slice none 0 0] 25)).heap.size = w.heap.size + 1 := by simp
      rw [hszw] at hcm0 hgw
      have hrel0 : RDRel l w (w.heap.size + 1) rev (cnt - 0) (n1 + n2) [] (.slice none 0 0) ((w.alloc (.cells #[.int .u64 0, .slice none 0 0] 25)).alloc (.cells #[.int .u64 (rev : Int), .slice none 0 0] 25)) :=
        ⟨hcm0, World.ownsRow_nil _ _ _ _, hB1, hN2', HP0, hres1⟩
      generalize ((w.alloc (.cells #[.int .u64 0, .slice none 0 0] 25)).alloc (.cells #[.int .u64 (rev : Int), .slice none 0 0] 25)) = W4 at *
      have HGC : Hid (w.heap.size + 1 = w.heap.size + 1) := rfl
      generalize hgcc : w.heap.size + 1 = gc at *
      have hwg : w.heap.size < gc := by omega
      clear hgcc hszw hcm0 hres1 hB1 HGC hgw HGet HGet2 hs1 hB0 hres0 be be2 HP0
      go_loopw [7, 10] (fun at' i wr => ∃ (k j : Nat) (acc : List Ent) (v : Value), at' = .int .i64 k ∧ i = .int .u64 j ∧ j ≤ cnt ∧ Hid (RDRel l w gc rev (cnt - j) k acc v wr)) (fun _ i _ => cnt - (intOf i).toNat)
      case atStart => exact ⟨n1 + n2, 0, [], .slice none 0 0, by go_num, rfl, Nat.zero_le _, hrel0⟩
      case round =>
        clear hrel0
        obtain ⟨k, j, acc, v, rfl, rfl, hj, hst⟩ := hrel
        obtain ⟨hcm, hrow, hB, hk, HP, hres⟩ := hst.out
        obtain ⟨av, mv, cv, rfl⟩ := row_slice hrow
        have hmv := row_len' hrow
        subst hmv
        clear hst
        have r0 := heap_cell hres 0
        have r1 := heap_cell hres 1
        have rf0 := frozen_of_row wr w.heap.size 0 _ _ hres
        have rf1 := frozen_of_row wr w.heap.size 1 _ _ hres
        simp at r0 r1
        have k0 := heap_cell hcm 0
        have k1 := heap_cell hcm 1
        have kf1 := frozen_of_row wr gc 1 _ _ hcm
        simp at k0 k1
        have hRs : ∀ x y, Below w.heap.size w ((wr.setCell ⟨w.heap.size, 0, none⟩ x).setCell ⟨w.heap.size, 1, none⟩ y) := fun x y => (hB.setCell (Nat.le_refl _) x).setCell (Nat.le_refl _) y
        have HRs := Lib.hid hRs
        clear hRs
        by_cases hjc : j < cnt
        · have dj : decide ((j : Int) < (cnt : Int)) = true := decide_eq_true (by omega)
          have dj' : decide (j < cnt) = true := decide_eq_true hjc
          have hDl : (l.drop k).length = l.length - k := List.length_drop
          have hBadF : flagE (l.drop k) ≠ 0 ∨ textN ((l.drop k).drop 1) ≠ 0 → ∀ r es, ¬ Decodes l r es := by
            intro hbad r es hd
            have hs := hd.2.2.2.1
            obtain ⟨t1, _, _⟩ := HP.out.2.2.2.1 rfl
            obtain ⟨q, hq⟩ : ∃ q, cnt - j = q + 1 := ⟨cnt - j - 1, by omega⟩
            rw [← t1, hq, ents_bad rev q _ hbad] at hs
            cases hs
          have HBad := Lib.hid hBadF
          clear hBadF
          by_cases hkl : k < l.length
          · obtain ⟨b, off, rfl, hbb, hc0⟩ := (H.out.below hB) (by omega)
            have c0 := hc0 k hkl
            have hik : (k : Int) < (l.length : Int) := by omega
            have dk : decide ((l.length : Int) ≤ (k : Int)) = false := decide_eq_false (by omega)
            have dk' : decide (l.length ≤ k) = false := decide_eq_false (by omega)
            have hget : (l.drop k).getD 0 0 = l.getD k 0 := by
              rw [List.getD_eq_getElem?_getD, List.getElem?_drop, Nat.add_zero, ← List.getD_eq_getElem?_getD]
            by_cases hby : 1 < (l.getD k 0).toNat
            · have HNo : Hid (∀ r es, ¬ Decodes l r es) := HBad.out (.inl (by rw [flagE, if_pos (.inr (by rw [hget]; exact hby))]; decide))
              have db : decide (1 < ((l.getD k 0).toNat : Int)) = true := decide_eq_true (by omega)
              have db' : decide (1 < (l.getD k 0).toNat) = true := decide_eq_true hby
              generalize (l.getD k 0).toNat = bt at *
              clear hc0 hget hDl
              go_wp2_with fail
              exact bodyPost_ret (v := .tuple #[.agg #[.int .u64 0, .slice none 0 0], .int .i64 9]) (by simp [results, Try.results15, go_sem, r0, r1]) rfl (decIs_bad (HRs.out _ _) HNo.out)
            · have hf0 : flagE (l.drop k) = 0 := by rw [flagE, if_neg (by rw [hget, hDl]; omega)]
              have hfv : flagV (l.drop k) = decide ((l.getD k 0).toNat = 1) := by rw [flagV, if_pos hf0, hget]
              have db : decide (1 < ((l.getD k 0).toNat : Int)) = false := decide_eq_false (by omega)
              have db' : decide (1 < (l.getD k 0).toNat) = false := decide_eq_false hby
              have hd1 : (l.drop k).drop 1 = l.drop (k + 1) := by rw [List.drop_drop]
              rw [hd1] at HBad
              have hUT := usedT_le (l.drop (k + 1))
              rw [List.length_drop] at hUT
              have hs2 : ∀ W, (Instr.slice 28 (.slice (some ⟨b, off, none⟩) l.length cap) (some (.int .i64 ((k : Int) + 1))) none none).run Try.prog W = .ok (.slice (cutA (some ⟨b, off, none⟩) cap (k + 1)) (l.length - (k + 1)) (cap - (k + 1))) W := fun W => by
                have := run_slice_l1 (P := Try.prog) W 28 5 i5 Try.underlying28 hi5 hy1 (some ⟨b, off, none⟩) l.length cap (k + 1) .i64 (by omega)
                rwa [Int.natCast_add] at this
              have HGT := Lib.hid (refgettext_at (cutA (some ⟨b, off, none⟩) cap (k + 1)) (cap - (k + 1)) (l.length - (k + 1)) (l.drop (k + 1)) wr List.length_drop (by omega) (by omega) (HCut.out _ _ (H.out.below hB)))
              unfold GetTextIs at HGT
              by_cases hT : textN (l.drop (k + 1)) = 0
              · have hNx : DecP l rev (cnt - (j + 1)) (l.drop (k + 1 + usedT (l.drop (k + 1)))) false (acc ++ [⟨⟨(gotT (l.drop (k + 1))).toArray⟩, rev, flagV (l.drop k)⟩]) := by
                  have := dec_step (by omega : 0 < cnt - j) HP.out
                  have e1 : stepL false (flagE (l.drop k)) 1 (l.drop k) = l.drop (k + 1) := by rw [stepL, if_pos ⟨rfl, hf0⟩, hd1]
                  have e2 : stepO false (flagE (l.drop k)) = false := by rw [hf0]; rfl
                  rw [e1, e2, hT] at this
                  have e3 : stepL false 0 (usedT (l.drop (k + 1))) (l.drop (k + 1)) = l.drop (k + 1 + usedT (l.drop (k + 1))) := by rw [stepL, if_pos ⟨rfl, rfl⟩, List.drop_drop]
                  have e4 : stepO false 0 = false := rfl
                  rw [e3, e4, show cnt - j - 1 = cnt - (j + 1) by omega] at this
                  exact this
                have HNx := Lib.hid hNx
                have bt : ((textN (l.drop (k + 1)) : Int) != 0) = false := by rw [hT]; rfl
                have hfe : (((l.getD k 0).toNat : Int) == 1) = flagV (l.drop k) := by
                  rw [hfv]
                  by_cases h : (l.getD k 0).toNat = 1
                  · rw [h]; rfl
                  · rw [decide_eq_false h, beq_eq_false_iff_ne]; omega
                have hacc := HP.out.2.2.1
                have hone := one_vals wr.drew (.string ⟨(gotT (l.drop (k + 1))).toArray⟩) (.int .u64 (rev : Int)) (.bool (flagV (l.drop k))) 48
                have hrow0 : wr.drew.ownsRow w.heap.size 48 3 (.slice av acc.length cv) acc.length (entsV acc) := hrow
                have hcm0 : wr.drew.heap[gc]? = some (.cells #[.int .u64 (rev : Int), .slice av acc.length cv] 25 (0, 0)) := hcm
                have hres0 : wr.drew.heap[w.heap.size]? = some (.cells #[.int .u64 0, .slice none 0 0] 25 (0, 0)) := hres
                have hB0 := hB.drew
                have hrowA := hrow0.alloc (.cells #[.string ⟨(gotT (l.drop (k + 1))).toArray⟩, .int .u64 (rev : Int), .bool (flagV (l.drop k))] 48)
                have hcmA := (Below.heap_alloc _ (.cells #[.string ⟨(gotT (l.drop (k + 1))).toArray⟩, .int .u64 (rev : Int), .bool (flagV (l.drop k))] 48) _ (heap_lt hcm0)).trans hcm0
                have hresA := (Below.heap_alloc _ (.cells #[.string ⟨(gotT (l.drop (k + 1))).toArray⟩, .int .u64 (rev : Int), .bool (flagV (l.drop k))] 48) _ (heap_lt hres0)).trans hres0
                have hBA := hB0.alloc hB0.size (.cells #[.string ⟨(gotT (l.drop (k + 1))).toArray⟩, .int .u64 (rev : Int), .bool (flagV (l.drop k))] 48)
                have HOne := Lib.hid hone
                have HRowA := Lib.hid hrowA
                have HCmA := Lib.hid hcmA
                have HResA := Lib.hid hresA
                have HBA := Lib.hid hBA
                clear hone hrow0 hcm0 hres0 hB0 hrowA hcmA hresA hBA hNx hfv hget hDl hT hf0 hd1
                generalize usedT (l.drop (k + 1)) = UT at *
                generalize textN (l.drop (k + 1)) = TN at *
                generalize gotT (l.drop (k + 1)) = KT at *
                generalize flagV (l.drop k) = fv at *
                generalize cutA (some ⟨b, off, none⟩) cap (k + 1) = A2 at *
                generalize (l.getD k 0).toNat = bt0 at *
                clear hc0
                go_wp2_with fail
                refine HGT.out.mono ?_
                rintro e w5 ⟨rfl, rfl⟩
                go_wp2_with fail
                have hgcl : gc < w5.heap.size := heap_lt hcm
                go_region_law (refine step_append_vals rfl (.tmp 70) (.tmp 79) 23 rfl w.heap.size 48 i48 _ 3 32 Try.underlying23 hi hz0 hz1 hz2 rfl (by decide) _ acc.length _ (by rfl) HRowA.out (some ⟨_, 0, none⟩) 1 1 [.string { data := KT.toArray }, .int .u64 (rev : Int), .bool fv] rfl rfl HOne.out (entsV_one [⟨{ data := KT.toArray }, rev, fv⟩]) (by unfold maxLen; omega) (by omega) HBA.out.size ?_; intro v6 w6 hrow6 hg6; have hcm6 := heap_kept HRowA.out HCmA.out (by decide) hg6; have hres6 := heap_kept HRowA.out HResA.out (by decide) hg6; have hB6 := Below.own HBA.out HRowA.out (Nat.le_refl _) HBA.out.size hg6; have hp6 := heap_cell hcm6 1; have hpf6 := frozen_of_row w6 gc 1 _ _ hcm6; obtain ⟨a6, m6, c6, rfl⟩ := row_slice hrow6; have HCm6 := Lib.hid hcm6; have HRes6 := Lib.hid hres6; have HB6 := Lib.hid hB6; have HRow6 := Lib.hid hrow6; clear hcm6 hres6 hB6 hrow6 hg6; simp at hp6)
                all_goals
                  go_wp2_with fail
                  go_roundw
                  case rel =>
                    refine ⟨k + 1 + UT, j + 1, acc ++ [⟨{ data := KT.toArray }, rev, fv⟩], .slice a6 m6 c6, by go_num, by go_num, by omega, ⟨heap_setCell_same _ gc 1 _ 25 _ HCm6.out, ?_, HB6.out.setCell (Nat.le_of_lt hwg) _, by omega, HNx, ?_⟩⟩
                    · have hrow7 := HRow6.out.kept (grown_cell w6 gc 1 (.slice a6 m6 c6)) (row_not HRow6.out HCm6.out (by decide))
                      rw [entsV_append, List.length_append]
                      exact hrow7
                    · rw [heap_setCell_other _ _ _ _ (by simp only; omega)]; exact HRes6.out
                  case measure => simp [intOf]; omega
              · have HNo : Hid (∀ r es, ¬ Decodes l r es) := HBad.out (.inr hT)
                have bt : ((textN (l.drop (k + 1)) : Int) != 0) = true := by rw [bne_iff_ne]; omega
                clear hT hfv hf0
                generalize usedT (l.drop (k + 1)) = UT at *
                generalize textN (l.drop (k + 1)) = TN at *
                generalize gotT (l.drop (k + 1)) = KT at *
                generalize cutA (some ⟨b, off, none⟩) cap (k + 1) = A2 at *
                generalize (l.getD k 0).toNat = bt0 at *
                clear hc0 hget hDl hd1
                go_wp2_with fail
                refine HGT.out.mono ?_
                rintro e w5 ⟨rfl, rfl⟩
                go_wp2_with fail
                exact bodyPost_ret (v := .tuple #[.agg #[.int .u64 0, .slice none 0 0], .int .i64 9]) (by simp [results, Try.results15, go_sem, r0, r1]) rfl (decIs_bad (HRs.out _ _) HNo.out)
          · have HNo : Hid (∀ r es, ¬ Decodes l r es) := HBad.out (.inl (by rw [flagE, if_pos (.inl (by rw [hDl]; omega))]; decide))
            have dk : decide ((l.length : Int) ≤ (k : Int)) = true := decide_eq_true (by omega)
            have dk' : decide (l.length ≤ k) = true := decide_eq_true (by omega)
            go_wp2_with fail
            exact bodyPost_ret (v := .tuple #[.agg #[.int .u64 0, .slice none 0 0], .int .i64 9]) (by simp [results, Try.results15, go_sem, r0, r1]) rfl (decIs_bad (HRs.out _ _) HNo.out)
        · obtain rfl : j = cnt := by omega
          have dj : decide ((j : Int) < (j : Int)) = false := by simp
          obtain ⟨t1, t2, t3⟩ := HP.out.2.2.2.1 rfl
          rw [Nat.sub_self] at t1
          have hmem := HP.out.2.2.2.2.2
          have hacc := HP.out.2.2.1
          have hok : ∀ i, EntOk (acc.getD i default) := by
            intro i
            by_cases hi : i < acc.length
            · have := hmem (acc.getD i default) (by rw [List.getD_eq_getElem?_getD, List.getElem?_eq_getElem hi]; exact List.getElem_mem hi)
              exact ⟨by rw [this.1]; exact hV, by have := this.2; omega⟩
            · rw [List.getD_eq_getElem?_getD, List.getElem?_eq_none (by omega)]
              exact ⟨by decide, by decide⟩
          have hT : ents (getV l) (getV (rest1 l)) (rest1 (rest1 l)) = some (acc, l.drop k) := by rw [← t1]; simp [ents]
          by_cases hkl : k = l.length
          · have dk : ((k : Int) != (l.length : Int)) = false := by rw [hkl]; simp
            have hdn : l.drop k = [] := by rw [hkl, List.drop_length]
            rw [hdn] at hT
            have HRight := Lib.hid (refright_any rev av cv acc wr (by omega) hV hok (row_ents hrow))
            have HT := Lib.hid hT
            have HT2 := Lib.hid t2
            have HT3 := Lib.hid t3
            unfold comV at HRight
            clear hT t1 t2 t3 hok hmem hkl
            go_wp2_with fail
            refine HRight.out.mono ?_
            clear HRight
            rintro e w5 ⟨⟨r, rfl, hr⟩, hb5⟩
            have hB5 := hB.trans (hb5.mono hB.size)
            have hrow5 := Below.row hb5 hrow
            have hres5 := (hb5.block w.heap.size (heap_lt hres)).trans hres
            have hcm5 := (hb5.block gc (heap_lt hcm)).trans hcm
            have r0' := heap_cell hres5 0
            have r1' := heap_cell hres5 1
            have rf0' := frozen_of_row w5 w.heap.size 0 _ _ hres5
            have rf1' := frozen_of_row w5 w.heap.size 1 _ _ hres5
            have k0' := heap_cell hcm5 0
            have k1' := heap_cell hcm5 1
            simp at r0' r1' k0' k1'
            have hne1 : ¬ gc = w.heap.size := by omega
            have hne2 : ¬ w.heap.size = gc := by omega
            cases r with
            | false =>
              have HNo : Hid (∀ r es, ¬ Decodes l r es) := by
                intro r es hd
                have h1 := hd.2.2.2.1
                rw [HT.out] at h1
                simp only [Option.some.injEq, Prod.mk.injEq, and_true] at h1
                have h2 := hd.2.2.2.2
                rw [← h1, hd.2.1, HRV2.out] at h2
                have := hr.2 h2
                cases this
              have HB5 := Lib.hid hB5
              clear hr hb5 hB5 hrow5
              go_wp2_with fail
              exact bodyPost_ret (v := .tuple #[.agg #[.int .u64 0, .slice none 0 0], .int .i64 9]) (by simp [results, Try.results15, go_sem, r0', r1']) rfl (decIs_bad ((HB5.out.setCell (Nat.le_refl _) _).setCell (Nat.le_refl _) _) HNo.out)
            | true =>
              have HD : Hid (Decodes l rev acc) := ⟨HT2.out, HRV2.out.symm, HT3.out, HT.out, hr.1 rfl⟩
              have HB5 := Lib.hid hB5
              have HR5 := Lib.hid hrow5
              have HM5 := Lib.hid hres5
              clear hr hb5 hB5 hrow5
              go_wp2_with fail
              refine bodyPost_ret (v := .tuple #[.agg #[.int .u64 (rev : Int), .slice av acc.length cv], .int .i64 0]) (by simp [results, Try.results15, go_sem, r0', r1']) rfl ⟨(HB5.out.setCell (Nat.le_refl _) _).setCell (Nat.le_refl _) _, fun r es hd => ?_, fun hn => absurd HD.out (hn _ _)⟩
              obtain ⟨rfl, rfl⟩ := decodes_one HD.out hd
              refine ⟨av, cv, rfl, ?_⟩
              have g1 := HR5.out.kept (grown_cell w5 w.heap.size 0 (.int .u64 (rev : Int))) (row_not HR5.out HM5.out (by decide))
              have hm2 := heap_setCell_same _ w.heap.size 0 _ 25 (.int .u64 (rev : Int)) HM5.out
              exact g1.kept (grown_cell _ w.heap.size 1 (.slice av acc.length cv)) (row_not g1 hm2 (by decide))
          · have HNo : Hid (∀ r es, ¬ Decodes l r es) := by
              intro r es hd
              have := hd.2.2.2.1
              rw [hT] at this
              simp only [Option.some.injEq, Prod.mk.injEq] at this
              have h := congrArg List.length this.2
              rw [List.length_drop, List.length_nil] at h
              omega
            have dk : ((k : Int) != (l.length : Int)) = true := by rw [bne_iff_ne]; omega
            clear hT t1 t2 t3 hok hmem hkl
            go_wp2_with fail
            exact bodyPost_ret (v := .tuple #[.agg #[.int .u64 0, .slice none 0 0], .int .i64 9]) (by simp [results, Try.results15, go_sem, r0, r1]) rfl (decIs_bad (HRs.out _ _) HNo.out)
    · have HNo : Hid (∀ r es, ¬ Decodes l r es) := fun r es hd => hE2 hd.2.2.1
      have be2 : ((getE (rest1 l) : Int) != 0) = true := by rw [bne_iff_ne]; omega
      clear hE2
      generalize getV (rest1 l) = cnt at *
      generalize getN (rest1 l) = n2 at *
      generalize getE (rest1 l) = e2 at *
      generalize getE l = e1 at *
      generalize getV l = rev at *
      generalize getN l = n1 at *
      generalize rest1 l = R1 at *
      go_enter Try.func15, Try.ntmps15
      go_wp2_with fail
      refine HGet.out.mono ?_
      rintro e w2 ⟨rfl, rfl⟩
      go_wp2_with fail
      refine HGet2.out.mono ?_
      rintro e w3 ⟨rfl, rfl⟩
      go_wp2_with fail
      exact bodyPost_ret (v := .tuple #[.agg #[.int .u64 0, .slice none 0 0], .int .i64 9]) (by simp [results, Try.results15, go_sem]) rfl (decIs_bad hB0 HNo.out)
  · have HNo : Hid (∀ r es, ¬ Decodes l r es) := fun r es hd => hE hd.1
    have be : ((getE l : Int) != 0) = true := by rw [bne_iff_ne]; omega
    clear hE
    have r0 := heap_cell hres0 0
    have r1 := heap_cell hres0 1
    simp at r0 r1
    go_enter Try.func15, Try.ntmps15
    go_wp2_with fail
    refine HGet.out.mono ?_
    rintro e w2 ⟨rfl, rfl⟩
    go_wp2_with fail
    exact bodyPost_ret (v := .tuple #[.agg #[.int .u64 0, .slice none 0 0], .int .i64 9]) (by simp [results, Try.results15, go_sem]) rfl (decIs_bad hB0 HNo.out)
end Go.Proofs.Ytbamohcaamgalae
