/- Lists read: walked (printed by genWireRi.py). -/
import Derived.Test.YtacjbgmnoiimbabGreatRdJ
namespace Go.Proofs.YtacjbgmnoiimbabGreat
set_option linter.unusedVariables false
set_option linter.unusedSimpArgs false
open Go.RowKit

def reV (x : RE) : Value := .agg #[.int .i64 x.k, .string x.A, .string x.B, .slice x.a x.ps.length x.c]
def neV (x : NE) : Value := .agg #[.int .i64 x.k, .string x.t, .string x.i, .string x.r, .slice x.sa x.ss.length x.sc, .slice x.a x.ps.length x.c]
theorem Tryz.info61_ : (Tryz.prog.info? 71).map (fun i => (i.zero, i.size, i.bytes)) = some (some (.agg #[.int .i64 0, .string ⟨#[]⟩, .string ⟨#[]⟩, .slice none 0 0]), 4, 64) := by kernel_rfl
set_option maxRecDepth 100000 in
set_option maxHeartbeats 4000000 in
theorem irule_any (g bb : Nat) (m : Nat) (W : World) (l : List UInt8) (d : Nat) (odd : Bool) (hone : ∀ l2 o2 W2, l2.length ≤ 1000000000 → RAt W2 g bb l2 d o2 → Calls Tryz.prog 102 #[.pointer (some ⟨g, 0, none⟩)] W2 (RD g bb RE.plain encR okR badR reV (remem m) l2 d o2 W2)) (hl : l.length ≤ 1000000000) (h : RAt W g bb l d odd) :
    Calls Tryz.prog 114 #[.pointer (some ⟨g, 0, none⟩), .func (.func 102) #[.pointer (some ⟨g, 0, none⟩)] #[]] W (RD g bb (fun t : LS RE => t.xs.map RE.plain) (listE encR) (lok okR) (fun ys d => ∃ y ∈ ys, badR y d) lsV (lsmem reC 4 (remem m)) l d odd W) := by
  obtain ⟨i0, hi0, hz0, hz1, hz2⟩ := info_parts Tryz.info61_
  have hgl := h.lt
  have hbl := h.bbl
  have HC := Lib.hid (rnum_any g bb W l d odd hl h)
  have HOne := Lib.hid hone
  clear hone
  clear h
  go_enter Tryz.func114, Tryz.ntmps114
  go_wp2_with fail
  refine HC.out.mono ?_
  clear HC
  rintro e W1 ⟨v, l1, o1, rfl, hg1, hr1, hv, st1⟩
  have HT := Lib.hid st1
  have hv64 : v < 18446744073709551616 := hv
  have hl1 := st1.len
  have HI0 : Hid (IRel g bb reC 71 4 RE.plain encR okR badR (remem m) l1 d o1 v W v [] none 0 l1 o1 W1) := irel_start hg1 hr1
  have hWs := hg1.size
  clear hg1 hr1 st1
  simp only [numV]
  go_wp2_with fail
  go_loopw [5, 6] (fun ov nv wr => ∃ (n : Nat) (xs : List RE) (oa : Option Addr) (oc : Nat) (lj : List UInt8) (oj : Bool), ov = .slice oa xs.length oc ∧ nv = .int .u64 n ∧ n ≤ v ∧ W.heap.size ≤ wr.heap.size ∧ Hid (IRel g bb reC 71 4 RE.plain encR okR badR (remem m) l1 d o1 v W n xs oa oc lj oj wr)) (fun _ nv _ => (intOf nv).toNat)
  case atStart => exact ⟨v, [], none, 0, l1, o1, rfl, rfl, Nat.le_refl _, hWs, HI0⟩
  case round =>
    clear HI0
    obtain ⟨n, xs, oa, oc, lj, oj, rfl, rfl, hnv, hWw, hst⟩ := hrel
    have hI := hst.out
    have hbd := irel_bound hI
    obtain ⟨a, c, hh, _⟩ := id hI.2.1
    have c2 := heap_cell hh 2
    simp at c2
    clear hh
    rcases Nat.eq_zero_or_pos n with hn0 | hn0
    · subst hn0
      have HE := Lib.hid (irel_done hI reC_len (remem_ok m) (.inl rfl) HT.out)
      clear hst hI
      go_wp2_with fail
      go_ret
      exact HE.out
    · have dn : decide ((0 : Int) < (n : Int)) = true := decide_eq_true (by omega)
      have dn' : decide (0 < n) = true := decide_eq_true (by omega)
      cases oj with
      | true =>
        have HE := Lib.hid (irel_done hI reC_len (remem_ok m) (.inr rfl) HT.out)
        clear hst hI
        go_wp2_with fail
        go_ret
        exact HE.out
      | false =>
        have HCall := Lib.hid (HOne.out lj false wr (by omega) hI.2.1)
        have hwn : IntKind.u64.wrap ((n : Int) - 1) = ((n - 1 : Nat) : Int) := by rw [IntKind.wrap_u64]; omega
        have HI := Lib.hid hI
        clear hst hI
        go_wp2_with fail
        refine HCall.out.mono ?_
        clear HCall
        rintro e W2 ⟨x, lk, ok2, rfl, hg2, hr2, hm2, st2⟩
        have hs2 := hg2.size
        obtain ⟨n, rfl⟩ : ∃ k, n = k + 1 := ⟨n - 1, by omega⟩
        have HN := Lib.hid (fun v' w' hrow hgr hat => irel_next (w' := w') HI.out hgl hbl (remem_ok m) uq_rule encR_pos hg2 hr2 hm2 st2 (.cells (reC x).toArray 71) v' hrow hgr hat)
        have HOwn := Lib.hid (irel_own HI.out hgl hg2 (.cells (reC x).toArray 71))
        have hnews : ∀ j u, (reC x)[j]? = some u → (W2.alloc (.cells (reC x).toArray 71)).cell? ((⟨W2.heap.size, 0, none⟩ : Addr).add j) = some u := fun j u hj => by
          rw [Addr.add_lit, Nat.zero_add, heap_cell (heap_alloc_new W2 _)]
          rw [List.getElem?_toArray]; exact hj
        have HNews := Lib.hid hnews
        have hone : ∀ u ∈ reC x, u.oneCell' = true := reC_one x
        have HOneC := Lib.hid hone
        have hsz3 : W.heap.size ≤ (W2.alloc (.cells (reC x).toArray 71)).heap.size := by rw [alloc_size]; omega
        have hlen3 : (reC x).length = 1 * 4 := by rw [reC_len]
        clear hg2 hr2 hm2 st2 hnews hone HI
        simp only [reV]
        go_wp2_with (at_builtin; refine wpList_append_own_at _ rfl (.tmp 20) (.tmp 23) 69 rfl W.heap.size 71 i0 _ 4 64 Tryz.underlying69 hi0 hz0 hz1 hz2 rfl (by decide) (.slice oa xs.length oc) xs.length (elsV reC xs) (by rfl) HOwn.out ⟨W2.heap.size, 0, none⟩ 1 1 (reC x) (by rfl) hlen3 HNews.out HOneC.out (by unfold maxLen; omega) (by omega) hsz3 ?_; intro v4 w4 hrow4 hg4 _ hat4; have HR4 := Lib.hid hrow4; have HG4 := Lib.hid hg4; have HA4 := Lib.hid hat4; have hs4 := Nat.le_trans hsz3 hg4.size; clear hrow4 hg4 hat4)
        obtain ⟨oa2, oc2, rfl, hI2⟩ := HN.out v4 w4 HR4.out HG4.out HA4.out
        have HI2 := Lib.hid hI2
        clear hI2 HN HR4 HG4 HA4
        go_wp2_with fail
        go_roundw
        case rel => exact ⟨n, xs ++ [x], oa2, oc2, lk, ok2, rfl, by go_num, by omega, by omega, HI2⟩
        case measure => first | (simp [intOf]; done) | (simp [intOf]; omega)
theorem Tryz.info52_ : (Tryz.prog.info? 34).map (fun i => (i.zero, i.size, i.bytes)) = some (some (.agg #[.int .i64 0, .string ⟨#[]⟩, .string ⟨#[]⟩, .string ⟨#[]⟩, .slice none 0 0, .slice none 0 0]), 6, 104) := by kernel_rfl
set_option maxRecDepth 100000 in
set_option maxHeartbeats 4000000 in
theorem inode_any (g bb : Nat) (m : Nat) (W : World) (l : List UInt8) (d : Nat) (odd : Bool) (hone : ∀ l2 o2 W2, l2.length ≤ 1000000000 → RAt W2 g bb l2 d o2 → Calls Tryz.prog 48 #[.pointer (some ⟨g, 0, none⟩)] W2 (RD g bb NE.plain encN okN badN neV (nemem m) l2 d o2 W2)) (hl : l.length ≤ 1000000000) (h : RAt W g bb l d odd) :
    Calls Tryz.prog 107 #[.pointer (some ⟨g, 0, none⟩), .func (.func 48) #[.pointer (some ⟨g, 0, none⟩)] #[]] W (RD g bb (fun t : LS NE => t.xs.map NE.plain) (listE encN) (lok okN) (fun ys d => ∃ y ∈ ys, badN y d) lsV (lsmem neC 6 (nemem m)) l d odd W) := by
  obtain ⟨i0, hi0, hz0, hz1, hz2⟩ := info_parts Tryz.info52_
  have hgl := h.lt
  have hbl := h.bbl
  have HC := Lib.hid (rnum_any g bb W l d odd hl h)
  have HOne := Lib.hid hone
  clear hone
  clear h
  go_enter Tryz.func107, Tryz.ntmps107
  go_wp2_with fail
  refine HC.out.mono ?_
  clear HC
  rintro e W1 ⟨v, l1, o1, rfl, hg1, hr1, hv, st1⟩
  have HT := Lib.hid st1
  have hv64 : v < 18446744073709551616 := hv
  have hl1 := st1.len
  have HI0 : Hid (IRel g bb neC 34 6 NE.plain encN okN badN (nemem m) l1 d o1 v W v [] none 0 l1 o1 W1) := irel_start hg1 hr1
  have hWs := hg1.size
  clear hg1 hr1 st1
  simp only [numV]
  go_wp2_with fail
  go_loopw [5, 6] (fun ov nv wr => ∃ (n : Nat) (xs : List NE) (oa : Option Addr) (oc : Nat) (lj : List UInt8) (oj : Bool), ov = .slice oa xs.length oc ∧ nv = .int .u64 n ∧ n ≤ v ∧ W.heap.size ≤ wr.heap.size ∧ Hid (IRel g bb neC 34 6 NE.plain encN okN badN (nemem m) l1 d o1 v W n xs oa oc lj oj wr)) (fun _ nv _ => (intOf nv).toNat)
  case atStart => exact ⟨v, [], none, 0, l1, o1, rfl, rfl, Nat.le_refl _, hWs, HI0⟩
  case round =>
    clear HI0
    obtain ⟨n, xs, oa, oc, lj, oj, rfl, rfl, hnv, hWw, hst⟩ := hrel
    have hI := hst.out
    have hbd := irel_bound hI
    obtain ⟨a, c, hh, _⟩ := id hI.2.1
    have c2 := heap_cell hh 2
    simp at c2
    clear hh
    rcases Nat.eq_zero_or_pos n with hn0 | hn0
    · subst hn0
      have HE := Lib.hid (irel_done hI neC_len (nemem_ok m) (.inl rfl) HT.out)
      clear hst hI
      go_wp2_with fail
      go_ret
      exact HE.out
    · have dn : decide ((0 : Int) < (n : Int)) = true := decide_eq_true (by omega)
      have dn' : decide (0 < n) = true := decide_eq_true (by omega)
      cases oj with
      | true =>
        have HE := Lib.hid (irel_done hI neC_len (nemem_ok m) (.inr rfl) HT.out)
        clear hst hI
        go_wp2_with fail
        go_ret
        exact HE.out
      | false =>
        have HCall := Lib.hid (HOne.out lj false wr (by omega) hI.2.1)
        have hwn : IntKind.u64.wrap ((n : Int) - 1) = ((n - 1 : Nat) : Int) := by rw [IntKind.wrap_u64]; omega
        have HI := Lib.hid hI
        clear hst hI
        go_wp2_with fail
        refine HCall.out.mono ?_
        clear HCall
        rintro e W2 ⟨x, lk, ok2, rfl, hg2, hr2, hm2, st2⟩
        have hs2 := hg2.size
        obtain ⟨n, rfl⟩ : ∃ k, n = k + 1 := ⟨n - 1, by omega⟩
        have HN := Lib.hid (fun v' w' hrow hgr hat => irel_next (w' := w') HI.out hgl hbl (nemem_ok m) uq_node encN_pos hg2 hr2 hm2 st2 (.cells (neC x).toArray 34) v' hrow hgr hat)
        have HOwn := Lib.hid (irel_own HI.out hgl hg2 (.cells (neC x).toArray 34))
        have hnews : ∀ j u, (neC x)[j]? = some u → (W2.alloc (.cells (neC x).toArray 34)).cell? ((⟨W2.heap.size, 0, none⟩ : Addr).add j) = some u := fun j u hj => by
          rw [Addr.add_lit, Nat.zero_add, heap_cell (heap_alloc_new W2 _)]
          rw [List.getElem?_toArray]; exact hj
        have HNews := Lib.hid hnews
        have hone : ∀ u ∈ neC x, u.oneCell' = true := neC_one x
        have HOneC := Lib.hid hone
        have hsz3 : W.heap.size ≤ (W2.alloc (.cells (neC x).toArray 34)).heap.size := by rw [alloc_size]; omega
        have hlen3 : (neC x).length = 1 * 6 := by rw [neC_len]
        clear hg2 hr2 hm2 st2 hnews hone HI
        simp only [neV]
        go_wp2_with (at_builtin; refine wpList_append_own_at _ rfl (.tmp 20) (.tmp 23) 32 rfl W.heap.size 34 i0 _ 6 104 Tryz.underlying32 hi0 hz0 hz1 hz2 rfl (by decide) (.slice oa xs.length oc) xs.length (elsV neC xs) (by rfl) HOwn.out ⟨W2.heap.size, 0, none⟩ 1 1 (neC x) (by rfl) hlen3 HNews.out HOneC.out (by unfold maxLen; omega) (by omega) hsz3 ?_; intro v4 w4 hrow4 hg4 _ hat4; have HR4 := Lib.hid hrow4; have HG4 := Lib.hid hg4; have HA4 := Lib.hid hat4; have hs4 := Nat.le_trans hsz3 hg4.size; clear hrow4 hg4 hat4)
        obtain ⟨oa2, oc2, rfl, hI2⟩ := HN.out v4 w4 HR4.out HG4.out HA4.out
        have HI2 := Lib.hid hI2
        clear hI2 HN HR4 HG4 HA4
        go_wp2_with fail
        go_roundw
        case rel => exact ⟨n, xs ++ [x], oa2, oc2, lk, ok2, rfl, by go_num, by omega, by omega, HI2⟩
        case measure => first | (simp [intOf]; done) | (simp [intOf]; omega)
end Go.Proofs.YtacjbgmnoiimbabGreat
