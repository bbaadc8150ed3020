/- Lists read: walked (printed by genWireRi.py). -/
import Derived.Test.YtacjbgmnoiimbabRdF
namespace Go.Proofs.Ytacjbgmnoiimbab
set_option linter.unusedVariables false
set_option linter.unusedSimpArgs false
open Go.RowKit

theorem Try.info48_ : (Try.prog.info? 48).map (fun i => (i.zero, i.size, i.bytes)) = some (some (.agg #[.string ⟨#[]⟩, .string ⟨#[]⟩]), 2, 32) := by kernel_rfl
set_option maxRecDepth 100000 in
set_option maxHeartbeats 4000000 in
theorem iobj_any (g bb : Nat) (W : World) (l : List UInt8) (d : Nat) (odd : Bool) (hl : l.length ≤ 1000000000) (h : RAt W g bb l d odd) :
    Calls Try.prog 53 #[.pointer (some ⟨g, 0, none⟩), .func (.func 54) #[.pointer (some ⟨g, 0, none⟩)] #[]] W (RD g bb (fun t : LS Duo => t.xs) (listE duoE) (lok duook) nobad lsV (lsmem duoC 2 nomem) l d odd W) := by
  obtain ⟨i0, hi0, hz0, hz1, hz2⟩ := info_parts Try.info48_
  have hgl := h.lt
  have hbl := h.bbl
  have HC := Lib.hid (rnum_any g bb W l d odd hl h)
  clear h
  go_enter Try.func53, Try.ntmps53
  go_wp2_with fail
  refine HC.out.mono ?_
  clear HC
  rintro e W1 ⟨v, l1, o1, rfl, hg1, hr1, hv, st1⟩
  have HT := Lib.hid st1
  have hv64 : v < 18446744073709551616 := hv
  have hl1 := st1.len
  have HI0 : Hid (IRel g bb duoC 48 2 id duoE duook nobad nomem l1 d o1 v W v [] none 0 l1 o1 W1) := irel_start hg1 hr1
  have hWs := hg1.size
  clear hg1 hr1 st1
  simp only [numV]
  go_wp2_with fail
  go_loopw [5, 6] (fun ov nv wr => ∃ (n : Nat) (xs : List Duo) (oa : Option Addr) (oc : Nat) (lj : List UInt8) (oj : Bool), ov = .slice oa xs.length oc ∧ nv = .int .u64 n ∧ n ≤ v ∧ W.heap.size ≤ wr.heap.size ∧ Hid (IRel g bb duoC 48 2 id duoE duook nobad nomem l1 d o1 v W n xs oa oc lj oj wr)) (fun _ nv _ => (intOf nv).toNat)
  case atStart => exact ⟨v, [], none, 0, l1, o1, rfl, rfl, Nat.le_refl _, hWs, HI0⟩
  case round =>
    clear HI0
    obtain ⟨n, xs, oa, oc, lj, oj, rfl, rfl, hnv, hWw, hst⟩ := hrel
    have hI := hst.out
    have hbd := irel_bound hI
    obtain ⟨a, c, hh, _⟩ := id hI.2.1
    have c2 := heap_cell hh 2
    simp at c2
    clear hh
    rcases Nat.eq_zero_or_pos n with hn0 | hn0
    · subst hn0
      have HE := Lib.hid (irel_flat (irel_done hI duoC_len nomem_ok (.inl rfl) HT.out))
      clear hst hI
      go_wp2_with fail
      go_ret
      exact HE.out
    · have dn : decide ((0 : Int) < (n : Int)) = true := decide_eq_true (by omega)
      have dn' : decide (0 < n) = true := decide_eq_true (by omega)
      cases oj with
      | true =>
        have HE := Lib.hid (irel_flat (irel_done hI duoC_len nomem_ok (.inr rfl) HT.out))
        clear hst hI
        go_wp2_with fail
        go_ret
        exact HE.out
      | false =>
        have HCall := Lib.hid (robj_any g bb wr lj d false (by omega) hI.2.1)
        have hwn : IntKind.u64.wrap ((n : Int) - 1) = ((n - 1 : Nat) : Int) := by rw [IntKind.wrap_u64]; omega
        have HI := Lib.hid hI
        clear hst hI
        go_wp2_with fail
        refine HCall.out.mono ?_
        clear HCall
        rintro e W2 ⟨x, lk, ok2, rfl, hg2, hr2, hm2, st2⟩
        have hs2 := hg2.size
        obtain ⟨n, rfl⟩ : ∃ k, n = k + 1 := ⟨n - 1, by omega⟩
        have HN := Lib.hid (fun v' w' hrow hgr hat => irel_next (w' := w') HI.out hgl hbl nomem_ok uq_duo duoE_pos hg2 hr2 hm2 st2 (.cells (duoC x).toArray 48) v' hrow hgr hat)
        have HOwn := Lib.hid (irel_own HI.out hgl hg2 (.cells (duoC x).toArray 48))
        have hnews : ∀ j u, (duoC x)[j]? = some u → (W2.alloc (.cells (duoC x).toArray 48)).cell? ((⟨W2.heap.size, 0, none⟩ : Addr).add j) = some u := fun j u hj => by
          rw [Addr.add_lit, Nat.zero_add, heap_cell (heap_alloc_new W2 _)]
          rw [List.getElem?_toArray]; exact hj
        have HNews := Lib.hid hnews
        have hone : ∀ u ∈ duoC x, u.oneCell' = true := duoC_one x
        have HOneC := Lib.hid hone
        have hsz3 : W.heap.size ≤ (W2.alloc (.cells (duoC x).toArray 48)).heap.size := by rw [alloc_size]; omega
        have hlen3 : (duoC x).length = 1 * 2 := by rw [duoC_len]
        clear hg2 hr2 hm2 st2 hnews hone HI
        simp only [duoV]
        go_wp2_with (at_builtin; refine wpList_append_own_at _ rfl (.tmp 20) (.tmp 23) 44 rfl W.heap.size 48 i0 _ 2 32 Try.underlying44 hi0 hz0 hz1 hz2 rfl (by decide) (.slice oa xs.length oc) xs.length (elsV duoC xs) (by rfl) HOwn.out ⟨W2.heap.size, 0, none⟩ 1 1 (duoC x) (by rfl) hlen3 HNews.out HOneC.out (by unfold maxLen; omega) (by omega) hsz3 ?_; intro v4 w4 hrow4 hg4 _ hat4; have HR4 := Lib.hid hrow4; have HG4 := Lib.hid hg4; have HA4 := Lib.hid hat4; have hs4 := Nat.le_trans hsz3 hg4.size; clear hrow4 hg4 hat4)
        obtain ⟨oa2, oc2, rfl, hI2⟩ := HN.out v4 w4 HR4.out HG4.out HA4.out
        have HI2 := Lib.hid hI2
        clear hI2 HN HR4 HG4 HA4
        go_wp2_with fail
        go_roundw
        case rel => exact ⟨n, xs ++ [x], oa2, oc2, lk, ok2, rfl, by go_num, by omega, by omega, HI2⟩
        case measure => first | (simp [intOf]; done) | (simp [intOf]; omega)
theorem Try.info64_ : (Try.prog.info? 64).map (fun i => (i.zero, i.size, i.bytes)) = some (some (.agg #[.string ⟨#[]⟩, .string ⟨#[]⟩, .string ⟨#[]⟩]), 3, 48) := by kernel_rfl
set_option maxRecDepth 100000 in
set_option maxHeartbeats 4000000 in
theorem isub_any (g bb : Nat) (W : World) (l : List UInt8) (d : Nat) (odd : Bool) (hl : l.length ≤ 1000000000) (h : RAt W g bb l d odd) :
    Calls Try.prog 89 #[.pointer (some ⟨g, 0, none⟩), .func (.func 85) #[.pointer (some ⟨g, 0, none⟩)] #[]] W (RD g bb (fun t : LS Tri => t.xs) (listE triE) (lok triok) nobad lsV (lsmem triC 3 nomem) l d odd W) := by
  obtain ⟨i0, hi0, hz0, hz1, hz2⟩ := info_parts Try.info64_
  have hgl := h.lt
  have hbl := h.bbl
  have HC := Lib.hid (rnum_any g bb W l d odd hl h)
  clear h
  go_enter Try.func89, Try.ntmps89
  go_wp2_with fail
  refine HC.out.mono ?_
  clear HC
  rintro e W1 ⟨v, l1, o1, rfl, hg1, hr1, hv, st1⟩
  have HT := Lib.hid st1
  have hv64 : v < 18446744073709551616 := hv
  have hl1 := st1.len
  have HI0 : Hid (IRel g bb triC 64 3 id triE triok nobad nomem l1 d o1 v W v [] none 0 l1 o1 W1) := irel_start hg1 hr1
  have hWs := hg1.size
  clear hg1 hr1 st1
  simp only [numV]
  go_wp2_with fail
  go_loopw [5, 6] (fun ov nv wr => ∃ (n : Nat) (xs : List Tri) (oa : Option Addr) (oc : Nat) (lj : List UInt8) (oj : Bool), ov = .slice oa xs.length oc ∧ nv = .int .u64 n ∧ n ≤ v ∧ W.heap.size ≤ wr.heap.size ∧ Hid (IRel g bb triC 64 3 id triE triok nobad nomem l1 d o1 v W n xs oa oc lj oj wr)) (fun _ nv _ => (intOf nv).toNat)
  case atStart => exact ⟨v, [], none, 0, l1, o1, rfl, rfl, Nat.le_refl _, hWs, HI0⟩
  case round =>
    clear HI0
    obtain ⟨n, xs, oa, oc, lj, oj, rfl, rfl, hnv, hWw, hst⟩ := hrel
    have hI := hst.out
    have hbd := irel_bound hI
    obtain ⟨a, c, hh, _⟩ := id hI.2.1
    have c2 := heap_cell hh 2
    simp at c2
    clear hh
    rcases Nat.eq_zero_or_pos n with hn0 | hn0
    · subst hn0
      have HE := Lib.hid (irel_flat (irel_done hI triC_len nomem_ok (.inl rfl) HT.out))
      clear hst hI
      go_wp2_with fail
      go_ret
      exact HE.out
    · have dn : decide ((0 : Int) < (n : Int)) = true := decide_eq_true (by omega)
      have dn' : decide (0 < n) = true := decide_eq_true (by omega)
      cases oj with
      | true =>
        have HE := Lib.hid (irel_flat (irel_done hI triC_len nomem_ok (.inr rfl) HT.out))
        clear hst hI
        go_wp2_with fail
        go_ret
        exact HE.out
      | false =>
        have HCall := Lib.hid (rsubd_any g bb wr lj d false (by omega) hI.2.1)
        have hwn : IntKind.u64.wrap ((n : Int) - 1) = ((n - 1 : Nat) : Int) := by rw [IntKind.wrap_u64]; omega
        have HI := Lib.hid hI
        clear hst hI
        go_wp2_with fail
        refine HCall.out.mono ?_
        clear HCall
        rintro e W2 ⟨x, lk, ok2, rfl, hg2, hr2, hm2, st2⟩
        have hs2 := hg2.size
        obtain ⟨n, rfl⟩ : ∃ k, n = k + 1 := ⟨n - 1, by omega⟩
        have HN := Lib.hid (fun v' w' hrow hgr hat => irel_next (w' := w') HI.out hgl hbl nomem_ok uq_tri triE_pos hg2 hr2 hm2 st2 (.cells (triC x).toArray 64) v' hrow hgr hat)
        have HOwn := Lib.hid (irel_own HI.out hgl hg2 (.cells (triC x).toArray 64))
        have hnews : ∀ j u, (triC x)[j]? = some u → (W2.alloc (.cells (triC x).toArray 64)).cell? ((⟨W2.heap.size, 0, none⟩ : Addr).add j) = some u := fun j u hj => by
          rw [Addr.add_lit, Nat.zero_add, heap_cell (heap_alloc_new W2 _)]
          rw [List.getElem?_toArray]; exact hj
        have HNews := Lib.hid hnews
        have hone : ∀ u ∈ triC x, u.oneCell' = true := triC_one x
        have HOneC := Lib.hid hone
        have hsz3 : W.heap.size ≤ (W2.alloc (.cells (triC x).toArray 64)).heap.size := by rw [alloc_size]; omega
        have hlen3 : (triC x).length = 1 * 3 := by rw [triC_len]
        clear hg2 hr2 hm2 st2 hnews hone HI
        simp only [triV]
        go_wp2_with (at_builtin; refine wpList_append_own_at _ rfl (.tmp 20) (.tmp 23) 49 rfl W.heap.size 64 i0 _ 3 48 Try.underlying49 hi0 hz0 hz1 hz2 rfl (by decide) (.slice oa xs.length oc) xs.length (elsV triC xs) (by rfl) HOwn.out ⟨W2.heap.size, 0, none⟩ 1 1 (triC x) (by rfl) hlen3 HNews.out HOneC.out (by unfold maxLen; omega) (by omega) hsz3 ?_; intro v4 w4 hrow4 hg4 _ hat4; have HR4 := Lib.hid hrow4; have HG4 := Lib.hid hg4; have HA4 := Lib.hid hat4; have hs4 := Nat.le_trans hsz3 hg4.size; clear hrow4 hg4 hat4)
        obtain ⟨oa2, oc2, rfl, hI2⟩ := HN.out v4 w4 HR4.out HG4.out HA4.out
        have HI2 := Lib.hid hI2
        clear hI2 HN HR4 HG4 HA4
        go_wp2_with fail
        go_roundw
        case rel => exact ⟨n, xs ++ [x], oa2, oc2, lk, ok2, rfl, by go_num, by omega, by omega, HI2⟩
        case measure => first | (simp [intOf]; done) | (simp [intOf]; omega)
theorem Try.info71_ : (Try.prog.info? 71).map (fun i => (i.zero, i.size, i.bytes)) = some (some (.agg #[.string ⟨#[]⟩, .string ⟨#[]⟩, .string ⟨#[]⟩, .string ⟨#[]⟩, .string ⟨#[]⟩, .string ⟨#[]⟩]), 6, 96) := by kernel_rfl
set_option maxRecDepth 100000 in
set_option maxHeartbeats 4000000 in
theorem itup_any (g bb : Nat) (W : World) (l : List UInt8) (d : Nat) (odd : Bool) (hl : l.length ≤ 1000000000) (h : RAt W g bb l d odd) :
    Calls Try.prog 51 #[.pointer (some ⟨g, 0, none⟩), .func (.func 52) #[.pointer (some ⟨g, 0, none⟩)] #[]] W (RD g bb (fun t : LS Six => t.xs) (listE sixE) (lok sixok) nobad lsV (lsmem sixC 6 nomem) l d odd W) := by
  obtain ⟨i0, hi0, hz0, hz1, hz2⟩ := info_parts Try.info71_
  have hgl := h.lt
  have hbl := h.bbl
  have HC := Lib.hid (rnum_any g bb W l d odd hl h)
  clear h
  go_enter Try.func51, Try.ntmps51
  go_wp2_with fail
  refine HC.out.mono ?_
  clear HC
  rintro e W1 ⟨v, l1, o1, rfl, hg1, hr1, hv, st1⟩
  have HT := Lib.hid st1
  have hv64 : v < 18446744073709551616 := hv
  have hl1 := st1.len
  have HI0 : Hid (IRel g bb sixC 71 6 id sixE sixok nobad nomem l1 d o1 v W v [] none 0 l1 o1 W1) := irel_start hg1 hr1
  have hWs := hg1.size
  clear hg1 hr1 st1
  simp only [numV]
  go_wp2_with fail
  go_loopw [5, 6] (fun ov nv wr => ∃ (n : Nat) (xs : List Six) (oa : Option Addr) (oc : Nat) (lj : List UInt8) (oj : Bool), ov = .slice oa xs.length oc ∧ nv = .int .u64 n ∧ n ≤ v ∧ W.heap.size ≤ wr.heap.size ∧ Hid (IRel g bb sixC 71 6 id sixE sixok nobad nomem l1 d o1 v W n xs oa oc lj oj wr)) (fun _ nv _ => (intOf nv).toNat)
  case atStart => exact ⟨v, [], none, 0, l1, o1, rfl, rfl, Nat.le_refl _, hWs, HI0⟩
  case round =>
    clear HI0
    obtain ⟨n, xs, oa, oc, lj, oj, rfl, rfl, hnv, hWw, hst⟩ := hrel
    have hI := hst.out
    have hbd := irel_bound hI
    obtain ⟨a, c, hh, _⟩ := id hI.2.1
    have c2 := heap_cell hh 2
    simp at c2
    clear hh
    rcases Nat.eq_zero_or_pos n with hn0 | hn0
    · subst hn0
      have HE := Lib.hid (irel_flat (irel_done hI sixC_len nomem_ok (.inl rfl) HT.out))
      clear hst hI
      go_wp2_with fail
      go_ret
      exact HE.out
    · have dn : decide ((0 : Int) < (n : Int)) = true := decide_eq_true (by omega)
      have dn' : decide (0 < n) = true := decide_eq_true (by omega)
      cases oj with
      | true =>
        have HE := Lib.hid (irel_flat (irel_done hI sixC_len nomem_ok (.inr rfl) HT.out))
        clear hst hI
        go_wp2_with fail
        go_ret
        exact HE.out
      | false =>
        have HCall := Lib.hid (rtupd_any g bb wr lj d false (by omega) hI.2.1)
        have hwn : IntKind.u64.wrap ((n : Int) - 1) = ((n - 1 : Nat) : Int) := by rw [IntKind.wrap_u64]; omega
        have HI := Lib.hid hI
        clear hst hI
        go_wp2_with fail
        refine HCall.out.mono ?_
        clear HCall
        rintro e W2 ⟨x, lk, ok2, rfl, hg2, hr2, hm2, st2⟩
        have hs2 := hg2.size
        obtain ⟨n, rfl⟩ : ∃ k, n = k + 1 := ⟨n - 1, by omega⟩
        have HN := Lib.hid (fun v' w' hrow hgr hat => irel_next (w' := w') HI.out hgl hbl nomem_ok uq_six sixE_pos hg2 hr2 hm2 st2 (.cells (sixC x).toArray 71) v' hrow hgr hat)
        have HOwn := Lib.hid (irel_own HI.out hgl hg2 (.cells (sixC x).toArray 71))
        have hnews : ∀ j u, (sixC x)[j]? = some u → (W2.alloc (.cells (sixC x).toArray 71)).cell? ((⟨W2.heap.size, 0, none⟩ : Addr).add j) = some u := fun j u hj => by
          rw [Addr.add_lit, Nat.zero_add, heap_cell (heap_alloc_new W2 _)]
          rw [List.getElem?_toArray]; exact hj
        have HNews := Lib.hid hnews
        have hone : ∀ u ∈ sixC x, u.oneCell' = true := sixC_one x
        have HOneC := Lib.hid hone
        have hsz3 : W.heap.size ≤ (W2.alloc (.cells (sixC x).toArray 71)).heap.size := by rw [alloc_size]; omega
        have hlen3 : (sixC x).length = 1 * 6 := by rw [sixC_len]
        clear hg2 hr2 hm2 st2 hnews hone HI
        simp only [sixV]
        go_wp2_with (at_builtin; refine wpList_append_own_at _ rfl (.tmp 20) (.tmp 23) 43 rfl W.heap.size 71 i0 _ 6 96 Try.underlying43 hi0 hz0 hz1 hz2 rfl (by decide) (.slice oa xs.length oc) xs.length (elsV sixC xs) (by rfl) HOwn.out ⟨W2.heap.size, 0, none⟩ 1 1 (sixC x) (by rfl) hlen3 HNews.out HOneC.out (by unfold maxLen; omega) (by omega) hsz3 ?_; intro v4 w4 hrow4 hg4 _ hat4; have HR4 := Lib.hid hrow4; have HG4 := Lib.hid hg4; have HA4 := Lib.hid hat4; have hs4 := Nat.le_trans hsz3 hg4.size; clear hrow4 hg4 hat4)
        obtain ⟨oa2, oc2, rfl, hI2⟩ := HN.out v4 w4 HR4.out HG4.out HA4.out
        have HI2 := Lib.hid hI2
        clear hI2 HN HR4 HG4 HA4
        go_wp2_with fail
        go_roundw
        case rel => exact ⟨n, xs ++ [x], oa2, oc2, lk, ok2, rfl, by go_num, by omega, by omega, HI2⟩
        case measure => first | (simp [intOf]; done) | (simp [intOf]; omega)
theorem Try.info78_ : (Try.prog.info? 78).map (fun i => (i.zero, i.size, i.bytes)) = some (some (.agg #[.string ⟨#[]⟩, .string ⟨#[]⟩, .string ⟨#[]⟩, .string ⟨#[]⟩, .string ⟨#[]⟩, .string ⟨#[]⟩]), 6, 96) := by kernel_rfl
set_option maxRecDepth 100000 in
set_option maxHeartbeats 4000000 in
theorem iask_any (g bb : Nat) (W : World) (l : List UInt8) (d : Nat) (odd : Bool) (hl : l.length ≤ 1000000000) (h : RAt W g bb l d odd) :
    Calls Try.prog 36 #[.pointer (some ⟨g, 0, none⟩), .func (.func 37) #[.pointer (some ⟨g, 0, none⟩)] #[]] W (RD g bb (fun t : LS Six => t.xs) (listE sixE) (lok sixok) nobad lsV (lsmem sixC 6 nomem) l d odd W) := by
  obtain ⟨i0, hi0, hz0, hz1, hz2⟩ := info_parts Try.info78_
  have hgl := h.lt
  have hbl := h.bbl
  have HC := Lib.hid (rnum_any g bb W l d odd hl h)
  clear h
  go_enter Try.func36, Try.ntmps36
  go_wp2_with fail
  refine HC.out.mono ?_
  clear HC
  rintro e W1 ⟨v, l1, o1, rfl, hg1, hr1, hv, st1⟩
  have HT := Lib.hid st1
  have hv64 : v < 18446744073709551616 := hv
  have hl1 := st1.len
  have HI0 : Hid (IRel g bb sixC 78 6 id sixE sixok nobad nomem l1 d o1 v W v [] none 0 l1 o1 W1) := irel_start hg1 hr1
  have hWs := hg1.size
  clear hg1 hr1 st1
  simp only [numV]
  go_wp2_with fail
  go_loopw [5, 6] (fun ov nv wr => ∃ (n : Nat) (xs : List Six) (oa : Option Addr) (oc : Nat) (lj : List UInt8) (oj : Bool), ov = .slice oa xs.length oc ∧ nv = .int .u64 n ∧ n ≤ v ∧ W.heap.size ≤ wr.heap.size ∧ Hid (IRel g bb sixC 78 6 id sixE sixok nobad nomem l1 d o1 v W n xs oa oc lj oj wr)) (fun _ nv _ => (intOf nv).toNat)
  case atStart => exact ⟨v, [], none, 0, l1, o1, rfl, rfl, Nat.le_refl _, hWs, HI0⟩
  case round =>
    clear HI0
    obtain ⟨n, xs, oa, oc, lj, oj, rfl, rfl, hnv, hWw, hst⟩ := hrel
    have hI := hst.out
    have hbd := irel_bound hI
    obtain ⟨a, c, hh, _⟩ := id hI.2.1
    have c2 := heap_cell hh 2
    simp at c2
    clear hh
    rcases Nat.eq_zero_or_pos n with hn0 | hn0
    · subst hn0
      have HE := Lib.hid (irel_flat (irel_done hI sixC_len nomem_ok (.inl rfl) HT.out))
      clear hst hI
      go_wp2_with fail
      go_ret
      exact HE.out
    · have dn : decide ((0 : Int) < (n : Int)) = true := decide_eq_true (by omega)
      have dn' : decide (0 < n) = true := decide_eq_true (by omega)
      cases oj with
      | true =>
        have HE := Lib.hid (irel_flat (irel_done hI sixC_len nomem_ok (.inr rfl) HT.out))
        clear hst hI
        go_wp2_with fail
        go_ret
        exact HE.out
      | false =>
        have HCall := Lib.hid (raskd_any g bb wr lj d false (by omega) hI.2.1)
        have hwn : IntKind.u64.wrap ((n : Int) - 1) = ((n - 1 : Nat) : Int) := by rw [IntKind.wrap_u64]; omega
        have HI := Lib.hid hI
        clear hst hI
        go_wp2_with fail
        refine HCall.out.mono ?_
        clear HCall
        rintro e W2 ⟨x, lk, ok2, rfl, hg2, hr2, hm2, st2⟩
        have hs2 := hg2.size
        obtain ⟨n, rfl⟩ : ∃ k, n = k + 1 := ⟨n - 1, by omega⟩
        have HN := Lib.hid (fun v' w' hrow hgr hat => irel_next (w' := w') HI.out hgl hbl nomem_ok uq_six sixE_pos hg2 hr2 hm2 st2 (.cells (sixC x).toArray 78) v' hrow hgr hat)
        have HOwn := Lib.hid (irel_own HI.out hgl hg2 (.cells (sixC x).toArray 78))
        have hnews : ∀ j u, (sixC x)[j]? = some u → (W2.alloc (.cells (sixC x).toArray 78)).cell? ((⟨W2.heap.size, 0, none⟩ : Addr).add j) = some u := fun j u hj => by
          rw [Addr.add_lit, Nat.zero_add, heap_cell (heap_alloc_new W2 _)]
          rw [List.getElem?_toArray]; exact hj
        have HNews := Lib.hid hnews
        have hone : ∀ u ∈ sixC x, u.oneCell' = true := sixC_one x
        have HOneC := Lib.hid hone
        have hsz3 : W.heap.size ≤ (W2.alloc (.cells (sixC x).toArray 78)).heap.size := by rw [alloc_size]; omega
        have hlen3 : (sixC x).length = 1 * 6 := by rw [sixC_len]
        clear hg2 hr2 hm2 st2 hnews hone HI
        simp only [sixV]
        go_wp2_with (at_builtin; refine wpList_append_own_at _ rfl (.tmp 20) (.tmp 23) 27 rfl W.heap.size 78 i0 _ 6 96 Try.underlying27 hi0 hz0 hz1 hz2 rfl (by decide) (.slice oa xs.length oc) xs.length (elsV sixC xs) (by rfl) HOwn.out ⟨W2.heap.size, 0, none⟩ 1 1 (sixC x) (by rfl) hlen3 HNews.out HOneC.out (by unfold maxLen; omega) (by omega) hsz3 ?_; intro v4 w4 hrow4 hg4 _ hat4; have HR4 := Lib.hid hrow4; have HG4 := Lib.hid hg4; have HA4 := Lib.hid hat4; have hs4 := Nat.le_trans hsz3 hg4.size; clear hrow4 hg4 hat4)
        obtain ⟨oa2, oc2, rfl, hI2⟩ := HN.out v4 w4 HR4.out HG4.out HA4.out
        have HI2 := Lib.hid hI2
        clear hI2 HN HR4 HG4 HA4
        go_wp2_with fail
        go_roundw
        case rel => exact ⟨n, xs ++ [x], oa2, oc2, lk, ok2, rfl, by go_num, by omega, by omega, HI2⟩
        case measure => first | (simp [intOf]; done) | (simp [intOf]; omega)
theorem Try.info73_ : (Try.prog.info? 73).map (fun i => (i.zero, i.size, i.bytes)) = some (some (.agg #[.bool false, .string ⟨#[]⟩, .string ⟨#[]⟩, .string ⟨#[]⟩, .string ⟨#[]⟩, .string ⟨#[]⟩, .string ⟨#[]⟩]), 7, 104) := by kernel_rfl
set_option maxRecDepth 100000 in
set_option maxHeartbeats 4000000 in
theorem iwrt_any (g bb : Nat) (W : World) (l : List UInt8) (d : Nat) (odd : Bool) (hl : l.length ≤ 1000000000) (h : RAt W g bb l d odd) :
    Calls Try.prog 32 #[.pointer (some ⟨g, 0, none⟩), .func (.func 33) #[.pointer (some ⟨g, 0, none⟩)] #[]] W (RD g bb (fun t : LS Wrt => t.xs) (listE wrtE) (lok wrtok) nobad lsV (lsmem wrtC 7 nomem) l d odd W) := by
  obtain ⟨i0, hi0, hz0, hz1, hz2⟩ := info_parts Try.info73_
  have hgl := h.lt
  have hbl := h.bbl
  have HC := Lib.hid (rnum_any g bb W l d odd hl h)
  clear h
  go_enter Try.func32, Try.ntmps32
  go_wp2_with fail
  refine HC.out.mono ?_
  clear HC
  rintro e W1 ⟨v, l1, o1, rfl, hg1, hr1, hv, st1⟩
  have HT := Lib.hid st1
  have hv64 : v < 18446744073709551616 := hv
  have hl1 := st1.len
  have HI0 : Hid (IRel g bb wrtC 73 7 id wrtE wrtok nobad nomem l1 d o1 v W v [] none 0 l1 o1 W1) := irel_start hg1 hr1
  have hWs := hg1.size
  clear hg1 hr1 st1
  simp only [numV]
  go_wp2_with fail
  go_loopw [5, 6] (fun ov nv wr => ∃ (n : Nat) (xs : List Wrt) (oa : Option Addr) (oc : Nat) (lj : List UInt8) (oj : Bool), ov = .slice oa xs.length oc ∧ nv = .int .u64 n ∧ n ≤ v ∧ W.heap.size ≤ wr.heap.size ∧ Hid (IRel g bb wrtC 73 7 id wrtE wrtok nobad nomem l1 d o1 v W n xs oa oc lj oj wr)) (fun _ nv _ => (intOf nv).toNat)
  case atStart => exact ⟨v, [], none, 0, l1, o1, rfl, rfl, Nat.le_refl _, hWs, HI0⟩
  case round =>
    clear HI0
    obtain ⟨n, xs, oa, oc, lj, oj, rfl, rfl, hnv, hWw, hst⟩ := hrel
    have hI := hst.out
    have hbd := irel_bound hI
    obtain ⟨a, c, hh, _⟩ := id hI.2.1
    have c2 := heap_cell hh 2
    simp at c2
    clear hh
    rcases Nat.eq_zero_or_pos n with hn0 | hn0
    · subst hn0
      have HE := Lib.hid (irel_flat (irel_done hI wrtC_len nomem_ok (.inl rfl) HT.out))
      clear hst hI
      go_wp2_with fail
      go_ret
      exact HE.out
    · have dn : decide ((0 : Int) < (n : Int)) = true := decide_eq_true (by omega)
      have dn' : decide (0 < n) = true := decide_eq_true (by omega)
      cases oj with
      | true =>
        have HE := Lib.hid (irel_flat (irel_done hI wrtC_len nomem_ok (.inr rfl) HT.out))
        clear hst hI
        go_wp2_with fail
        go_ret
        exact HE.out
      | false =>
        have HCall := Lib.hid (rwrtd_any g bb wr lj d false (by omega) hI.2.1)
        have hwn : IntKind.u64.wrap ((n : Int) - 1) = ((n - 1 : Nat) : Int) := by rw [IntKind.wrap_u64]; omega
        have HI := Lib.hid hI
        clear hst hI
        go_wp2_with fail
        refine HCall.out.mono ?_
        clear HCall
        rintro e W2 ⟨x, lk, ok2, rfl, hg2, hr2, hm2, st2⟩
        have hs2 := hg2.size
        obtain ⟨n, rfl⟩ : ∃ k, n = k + 1 := ⟨n - 1, by omega⟩
        have HN := Lib.hid (fun v' w' hrow hgr hat => irel_next (w' := w') HI.out hgl hbl nomem_ok uq_wrt wrtE_pos hg2 hr2 hm2 st2 (.cells (wrtC x).toArray 73) v' hrow hgr hat)
        have HOwn := Lib.hid (irel_own HI.out hgl hg2 (.cells (wrtC x).toArray 73))
        have hnews : ∀ j u, (wrtC x)[j]? = some u → (W2.alloc (.cells (wrtC x).toArray 73)).cell? ((⟨W2.heap.size, 0, none⟩ : Addr).add j) = some u := fun j u hj => by
          rw [Addr.add_lit, Nat.zero_add, heap_cell (heap_alloc_new W2 _)]
          rw [List.getElem?_toArray]; exact hj
        have HNews := Lib.hid hnews
        have hone : ∀ u ∈ wrtC x, u.oneCell' = true := wrtC_one x
        have HOneC := Lib.hid hone
        have hsz3 : W.heap.size ≤ (W2.alloc (.cells (wrtC x).toArray 73)).heap.size := by rw [alloc_size]; omega
        have hlen3 : (wrtC x).length = 1 * 7 := by rw [wrtC_len]
        clear hg2 hr2 hm2 st2 hnews hone HI
        simp only [wrtV]
        go_wp2_with (at_builtin; refine wpList_append_own_at _ rfl (.tmp 20) (.tmp 23) 25 rfl W.heap.size 73 i0 _ 7 104 Try.underlying25 hi0 hz0 hz1 hz2 rfl (by decide) (.slice oa xs.length oc) xs.length (elsV wrtC xs) (by rfl) HOwn.out ⟨W2.heap.size, 0, none⟩ 1 1 (wrtC x) (by rfl) hlen3 HNews.out HOneC.out (by unfold maxLen; omega) (by omega) hsz3 ?_; intro v4 w4 hrow4 hg4 _ hat4; have HR4 := Lib.hid hrow4; have HG4 := Lib.hid hg4; have HA4 := Lib.hid hat4; have hs4 := Nat.le_trans hsz3 hg4.size; clear hrow4 hg4 hat4)
        obtain ⟨oa2, oc2, rfl, hI2⟩ := HN.out v4 w4 HR4.out HG4.out HA4.out
        have HI2 := Lib.hid hI2
        clear hI2 HN HR4 HG4 HA4
        go_wp2_with fail
        go_roundw
        case rel => exact ⟨n, xs ++ [x], oa2, oc2, lk, ok2, rfl, by go_num, by omega, by omega, HI2⟩
        case measure => first | (simp [intOf]; done) | (simp [intOf]; omega)
theorem Try.info129_ : (Try.prog.info? 129).map (fun i => (i.zero, i.size, i.bytes)) = some (some (.agg #[.int .u64 0, .bool false, .string ⟨#[]⟩, .string ⟨#[]⟩, .string ⟨#[]⟩, .string ⟨#[]⟩, .string ⟨#[]⟩, .string ⟨#[]⟩]), 8, 112) := by kernel_rfl
set_option maxRecDepth 100000 in
set_option maxHeartbeats 4000000 in
theorem ievt_any (g bb : Nat) (W : World) (l : List UInt8) (d : Nat) (odd : Bool) (hl : l.length ≤ 1000000000) (h : RAt W g bb l d odd) :
    Calls Try.prog 55 #[.pointer (some ⟨g, 0, none⟩), .func (.func 56) #[.pointer (some ⟨g, 0, none⟩)] #[]] W (RD g bb (fun t : LS Evt => t.xs) (listE evtE) (lok evtok) nobad lsV (lsmem evtC 8 nomem) l d odd W) := by
  obtain ⟨i0, hi0, hz0, hz1, hz2⟩ := info_parts Try.info129_
  have hgl := h.lt
  have hbl := h.bbl
  have HC := Lib.hid (rnum_any g bb W l d odd hl h)
  clear h
  go_enter Try.func55, Try.ntmps55
  go_wp2_with fail
  refine HC.out.mono ?_
  clear HC
  rintro e W1 ⟨v, l1, o1, rfl, hg1, hr1, hv, st1⟩
  have HT := Lib.hid st1
  have hv64 : v < 18446744073709551616 := hv
  have hl1 := st1.len
  have HI0 : Hid (IRel g bb evtC 129 8 id evtE evtok nobad nomem l1 d o1 v W v [] none 0 l1 o1 W1) := irel_start hg1 hr1
  have hWs := hg1.size
  clear hg1 hr1 st1
  simp only [numV]
  go_wp2_with fail
  go_loopw [5, 6] (fun ov nv wr => ∃ (n : Nat) (xs : List Evt) (oa : Option Addr) (oc : Nat) (lj : List UInt8) (oj : Bool), ov = .slice oa xs.length oc ∧ nv = .int .u64 n ∧ n ≤ v ∧ W.heap.size ≤ wr.heap.size ∧ Hid (IRel g bb evtC 129 8 id evtE evtok nobad nomem l1 d o1 v W n xs oa oc lj oj wr)) (fun _ nv _ => (intOf nv).toNat)
  case atStart => exact ⟨v, [], none, 0, l1, o1, rfl, rfl, Nat.le_refl _, hWs, HI0⟩
  case round =>
    clear HI0
    obtain ⟨n, xs, oa, oc, lj, oj, rfl, rfl, hnv, hWw, hst⟩ := hrel
    have hI := hst.out
    have hbd := irel_bound hI
    obtain ⟨a, c, hh, _⟩ := id hI.2.1
    have c2 := heap_cell hh 2
    simp at c2
    clear hh
    rcases Nat.eq_zero_or_pos n with hn0 | hn0
    · subst hn0
      have HE := Lib.hid (irel_flat (irel_done hI evtC_len nomem_ok (.inl rfl) HT.out))
      clear hst hI
      go_wp2_with fail
      go_ret
      exact HE.out
    · have dn : decide ((0 : Int) < (n : Int)) = true := decide_eq_true (by omega)
      have dn' : decide (0 < n) = true := decide_eq_true (by omega)
      cases oj with
      | true =>
        have HE := Lib.hid (irel_flat (irel_done hI evtC_len nomem_ok (.inr rfl) HT.out))
        clear hst hI
        go_wp2_with fail
        go_ret
        exact HE.out
      | false =>
        have HCall := Lib.hid (revtd_any g bb wr lj d false (by omega) hI.2.1)
        have hwn : IntKind.u64.wrap ((n : Int) - 1) = ((n - 1 : Nat) : Int) := by rw [IntKind.wrap_u64]; omega
        have HI := Lib.hid hI
        clear hst hI
        go_wp2_with fail
        refine HCall.out.mono ?_
        clear HCall
        rintro e W2 ⟨x, lk, ok2, rfl, hg2, hr2, hm2, st2⟩
        have hs2 := hg2.size
        obtain ⟨n, rfl⟩ : ∃ k, n = k + 1 := ⟨n - 1, by omega⟩
        have HN := Lib.hid (fun v' w' hrow hgr hat => irel_next (w' := w') HI.out hgl hbl nomem_ok uq_evt evtE_pos hg2 hr2 hm2 st2 (.cells (evtC x).toArray 129) v' hrow hgr hat)
        have HOwn := Lib.hid (irel_own HI.out hgl hg2 (.cells (evtC x).toArray 129))
        have hnews : ∀ j u, (evtC x)[j]? = some u → (W2.alloc (.cells (evtC x).toArray 129)).cell? ((⟨W2.heap.size, 0, none⟩ : Addr).add j) = some u := fun j u hj => by
          rw [Addr.add_lit, Nat.zero_add, heap_cell (heap_alloc_new W2 _)]
          rw [List.getElem?_toArray]; exact hj
        have HNews := Lib.hid hnews
        have hone : ∀ u ∈ evtC x, u.oneCell' = true := evtC_one x
        have HOneC := Lib.hid hone
        have hsz3 : W.heap.size ≤ (W2.alloc (.cells (evtC x).toArray 129)).heap.size := by rw [alloc_size]; omega
        have hlen3 : (evtC x).length = 1 * 8 := by rw [evtC_len]
        clear hg2 hr2 hm2 st2 hnews hone HI
        simp only [evtV]
        go_wp2_with (at_builtin; refine wpList_append_own_at _ rfl (.tmp 20) (.tmp 23) 45 rfl W.heap.size 129 i0 _ 8 112 Try.underlying45 hi0 hz0 hz1 hz2 rfl (by decide) (.slice oa xs.length oc) xs.length (elsV evtC xs) (by rfl) HOwn.out ⟨W2.heap.size, 0, none⟩ 1 1 (evtC x) (by rfl) hlen3 HNews.out HOneC.out (by unfold maxLen; omega) (by omega) hsz3 ?_; intro v4 w4 hrow4 hg4 _ hat4; have HR4 := Lib.hid hrow4; have HG4 := Lib.hid hg4; have HA4 := Lib.hid hat4; have hs4 := Nat.le_trans hsz3 hg4.size; clear hrow4 hg4 hat4)
        obtain ⟨oa2, oc2, rfl, hI2⟩ := HN.out v4 w4 HR4.out HG4.out HA4.out
        have HI2 := Lib.hid hI2
        clear hI2 HN HR4 HG4 HA4
        go_wp2_with fail
        go_roundw
        case rel => exact ⟨n, xs ++ [x], oa2, oc2, lk, ok2, rfl, by go_num, by omega, by omega, HI2⟩
        case measure => first | (simp [intOf]; done) | (simp [intOf]; omega)
theorem Try.info4_ : (Try.prog.info? 4).map (fun i => (i.zero, i.size, i.bytes)) = some (some (.bool false), 1, 1) := by kernel_rfl
set_option maxRecDepth 100000 in
set_option maxHeartbeats 4000000 in
theorem itru_any (g bb : Nat) (W : World) (l : List UInt8) (d : Nat) (odd : Bool) (hl : l.length ≤ 1000000000) (h : RAt W g bb l d odd) :
    Calls Try.prog 49 #[.pointer (some ⟨g, 0, none⟩), .func (.func 50) #[.pointer (some ⟨g, 0, none⟩)] #[]] W (RD g bb (fun t : LS Bool => t.xs) (listE boolE) (lok (fun _ => True)) nobad lsV (lsmem boolC 1 nomem) l d odd W) := by
  obtain ⟨i0, hi0, hz0, hz1, hz2⟩ := info_parts Try.info4_
  have hgl := h.lt
  have hbl := h.bbl
  have HC := Lib.hid (rnum_any g bb W l d odd hl h)
  clear h
  go_enter Try.func49, Try.ntmps49
  go_wp2_with fail
  refine HC.out.mono ?_
  clear HC
  rintro e W1 ⟨v, l1, o1, rfl, hg1, hr1, hv, st1⟩
  have HT := Lib.hid st1
  have hv64 : v < 18446744073709551616 := hv
  have hl1 := st1.len
  have HI0 : Hid (IRel g bb boolC 4 1 id boolE (fun _ => True) nobad nomem l1 d o1 v W v [] none 0 l1 o1 W1) := irel_start hg1 hr1
  have hWs := hg1.size
  clear hg1 hr1 st1
  simp only [numV]
  go_wp2_with fail
  go_loopw [5, 6] (fun ov nv wr => ∃ (n : Nat) (xs : List Bool) (oa : Option Addr) (oc : Nat) (lj : List UInt8) (oj : Bool), ov = .slice oa xs.length oc ∧ nv = .int .u64 n ∧ n ≤ v ∧ W.heap.size ≤ wr.heap.size ∧ Hid (IRel g bb boolC 4 1 id boolE (fun _ => True) nobad nomem l1 d o1 v W n xs oa oc lj oj wr)) (fun _ nv _ => (intOf nv).toNat)
  case atStart => exact ⟨v, [], none, 0, l1, o1, rfl, rfl, Nat.le_refl _, hWs, HI0⟩
  case round =>
    clear HI0
    obtain ⟨n, xs, oa, oc, lj, oj, rfl, rfl, hnv, hWw, hst⟩ := hrel
    have hI := hst.out
    have hbd := irel_bound hI
    obtain ⟨a, c, hh, _⟩ := id hI.2.1
    have c2 := heap_cell hh 2
    simp at c2
    clear hh
    rcases Nat.eq_zero_or_pos n with hn0 | hn0
    · subst hn0
      have HE := Lib.hid (irel_flat (irel_done hI boolC_len nomem_ok (.inl rfl) HT.out))
      clear hst hI
      go_wp2_with fail
      go_ret
      exact HE.out
    · have dn : decide ((0 : Int) < (n : Int)) = true := decide_eq_true (by omega)
      have dn' : decide (0 < n) = true := decide_eq_true (by omega)
      cases oj with
      | true =>
        have HE := Lib.hid (irel_flat (irel_done hI boolC_len nomem_ok (.inr rfl) HT.out))
        clear hst hI
        go_wp2_with fail
        go_ret
        exact HE.out
      | false =>
        have HCall := Lib.hid (rtru_any g bb wr lj d false (by omega) hI.2.1)
        have hwn : IntKind.u64.wrap ((n : Int) - 1) = ((n - 1 : Nat) : Int) := by rw [IntKind.wrap_u64]; omega
        have HI := Lib.hid hI
        clear hst hI
        go_wp2_with fail
        refine HCall.out.mono ?_
        clear HCall
        rintro e W2 ⟨x, lk, ok2, rfl, hg2, hr2, hm2, st2⟩
        have hs2 := hg2.size
        obtain ⟨n, rfl⟩ : ∃ k, n = k + 1 := ⟨n - 1, by omega⟩
        have HN := Lib.hid (fun v' w' hrow hgr hat => irel_next (w' := w') HI.out hgl hbl nomem_ok uq_bool boolE_pos hg2 hr2 hm2 st2 (.cells (boolC x).toArray 4) v' hrow hgr hat)
        have HOwn := Lib.hid (irel_own HI.out hgl hg2 (.cells (boolC x).toArray 4))
        have hnews : ∀ j u, (boolC x)[j]? = some u → (W2.alloc (.cells (boolC x).toArray 4)).cell? ((⟨W2.heap.size, 0, none⟩ : Addr).add j) = some u := fun j u hj => by
          rw [Addr.add_lit, Nat.zero_add, heap_cell (heap_alloc_new W2 _)]
          rw [List.getElem?_toArray]; exact hj
        have HNews := Lib.hid hnews
        have hone : ∀ u ∈ boolC x, u.oneCell' = true := boolC_one x
        have HOneC := Lib.hid hone
        have hsz3 : W.heap.size ≤ (W2.alloc (.cells (boolC x).toArray 4)).heap.size := by rw [alloc_size]; omega
        have hlen3 : (boolC x).length = 1 * 1 := by rw [boolC_len]
        clear hg2 hr2 hm2 st2 hnews hone HI
        simp only [boolV]
        go_wp2_with (at_builtin; refine wpList_append_own_at _ rfl (.tmp 20) (.tmp 23) 42 rfl W.heap.size 4 i0 _ 1 1 Try.underlying42 hi0 hz0 hz1 hz2 rfl (by decide) (.slice oa xs.length oc) xs.length (elsV boolC xs) (by rfl) HOwn.out ⟨W2.heap.size, 0, none⟩ 1 1 (boolC x) (by rfl) hlen3 HNews.out HOneC.out (by unfold maxLen; omega) (by omega) hsz3 ?_; intro v4 w4 hrow4 hg4 _ hat4; have HR4 := Lib.hid hrow4; have HG4 := Lib.hid hg4; have HA4 := Lib.hid hat4; have hs4 := Nat.le_trans hsz3 hg4.size; clear hrow4 hg4 hat4)
        obtain ⟨oa2, oc2, rfl, hI2⟩ := HN.out v4 w4 HR4.out HG4.out HA4.out
        have HI2 := Lib.hid hI2
        clear hI2 HN HR4 HG4 HA4
        go_wp2_with fail
        go_roundw
        case rel => exact ⟨n, xs ++ [x], oa2, oc2, lk, ok2, rfl, by go_num, by omega, by omega, HI2⟩
        case measure => first | (simp [intOf]; done) | (simp [intOf]; omega)
theorem Try.info3_ : (Try.prog.info? 3).map (fun i => (i.zero, i.size, i.bytes)) = some (some (.int .i64 0), 1, 8) := by kernel_rfl
set_option maxRecDepth 100000 in
set_option maxHeartbeats 4000000 in
theorem iint_any (g bb : Nat) (W : World) (l : List UInt8) (d : Nat) (odd : Bool) (hl : l.length ≤ 1000000000) (h : RAt W g bb l d odd) :
    Calls Try.prog 88 #[.pointer (some ⟨g, 0, none⟩), .func (.func 31) #[.pointer (some ⟨g, 0, none⟩)] #[]] W (RD g bb (fun t : LS Int => t.xs) (listE intE) (lok iok) nobad lsV (lsmem intC 1 intmem) l d odd W) := by
  obtain ⟨i0, hi0, hz0, hz1, hz2⟩ := info_parts Try.info3_
  have hgl := h.lt
  have hbl := h.bbl
  have HC := Lib.hid (rnum_any g bb W l d odd hl h)
  clear h
  go_enter Try.func88, Try.ntmps88
  go_wp2_with fail
  refine HC.out.mono ?_
  clear HC
  rintro e W1 ⟨v, l1, o1, rfl, hg1, hr1, hv, st1⟩
  have HT := Lib.hid st1
  have hv64 : v < 18446744073709551616 := hv
  have hl1 := st1.len
  have HI0 : Hid (IRel g bb intC 3 1 id intE iok nobad intmem l1 d o1 v W v [] none 0 l1 o1 W1) := irel_start hg1 hr1
  have hWs := hg1.size
  clear hg1 hr1 st1
  simp only [numV]
  go_wp2_with fail
  go_loopw [5, 6] (fun ov nv wr => ∃ (n : Nat) (xs : List Int) (oa : Option Addr) (oc : Nat) (lj : List UInt8) (oj : Bool), ov = .slice oa xs.length oc ∧ nv = .int .u64 n ∧ n ≤ v ∧ W.heap.size ≤ wr.heap.size ∧ Hid (IRel g bb intC 3 1 id intE iok nobad intmem l1 d o1 v W n xs oa oc lj oj wr)) (fun _ nv _ => (intOf nv).toNat)
  case atStart => exact ⟨v, [], none, 0, l1, o1, rfl, rfl, Nat.le_refl _, hWs, HI0⟩
  case round =>
    clear HI0
    obtain ⟨n, xs, oa, oc, lj, oj, rfl, rfl, hnv, hWw, hst⟩ := hrel
    have hI := hst.out
    have hbd := irel_bound hI
    obtain ⟨a, c, hh, _⟩ := id hI.2.1
    have c2 := heap_cell hh 2
    simp at c2
    clear hh
    rcases Nat.eq_zero_or_pos n with hn0 | hn0
    · subst hn0
      have HE := Lib.hid (irel_flat (irel_done hI intC_len intmem_ok (.inl rfl) HT.out))
      clear hst hI
      go_wp2_with fail
      go_ret
      exact HE.out
    · have dn : decide ((0 : Int) < (n : Int)) = true := decide_eq_true (by omega)
      have dn' : decide (0 < n) = true := decide_eq_true (by omega)
      cases oj with
      | true =>
        have HE := Lib.hid (irel_flat (irel_done hI intC_len intmem_ok (.inr rfl) HT.out))
        clear hst hI
        go_wp2_with fail
        go_ret
        exact HE.out
      | false =>
        have HCall := Lib.hid (rint_any g bb wr lj d false (by omega) hI.2.1)
        have hwn : IntKind.u64.wrap ((n : Int) - 1) = ((n - 1 : Nat) : Int) := by rw [IntKind.wrap_u64]; omega
        have HI := Lib.hid hI
        clear hst hI
        go_wp2_with fail
        refine HCall.out.mono ?_
        clear HCall
        rintro e W2 ⟨x, lk, ok2, rfl, hg2, hr2, hm2, st2⟩
        have hs2 := hg2.size
        obtain ⟨n, rfl⟩ : ∃ k, n = k + 1 := ⟨n - 1, by omega⟩
        have HN := Lib.hid (fun v' w' hrow hgr hat => irel_next (w' := w') HI.out hgl hbl intmem_ok uq_int intE_pos' hg2 hr2 hm2 st2 (.cells (intC x).toArray 3) v' hrow hgr hat)
        have HOwn := Lib.hid (irel_own HI.out hgl hg2 (.cells (intC x).toArray 3))
        have hnews : ∀ j u, (intC x)[j]? = some u → (W2.alloc (.cells (intC x).toArray 3)).cell? ((⟨W2.heap.size, 0, none⟩ : Addr).add j) = some u := fun j u hj => by
          rw [Addr.add_lit, Nat.zero_add, heap_cell (heap_alloc_new W2 _)]
          rw [List.getElem?_toArray]; exact hj
        have HNews := Lib.hid hnews
        have hone : ∀ u ∈ intC x, u.oneCell' = true := intC_one x
        have HOneC := Lib.hid hone
        have hsz3 : W.heap.size ≤ (W2.alloc (.cells (intC x).toArray 3)).heap.size := by rw [alloc_size]; omega
        have hlen3 : (intC x).length = 1 * 1 := by rw [intC_len]
        clear hg2 hr2 hm2 st2 hnews hone HI
        simp only [intV]
        go_wp2_with (at_builtin; refine wpList_append_own_at _ rfl (.tmp 20) (.tmp 23) 65 rfl W.heap.size 3 i0 _ 1 8 Try.underlying65 hi0 hz0 hz1 hz2 rfl (by decide) (.slice oa xs.length oc) xs.length (elsV intC xs) (by rfl) HOwn.out ⟨W2.heap.size, 0, none⟩ 1 1 (intC x) (by rfl) hlen3 HNews.out HOneC.out (by unfold maxLen; omega) (by omega) hsz3 ?_; intro v4 w4 hrow4 hg4 _ hat4; have HR4 := Lib.hid hrow4; have HG4 := Lib.hid hg4; have HA4 := Lib.hid hat4; have hs4 := Nat.le_trans hsz3 hg4.size; clear hrow4 hg4 hat4)
        obtain ⟨oa2, oc2, rfl, hI2⟩ := HN.out v4 w4 HR4.out HG4.out HA4.out
        have HI2 := Lib.hid hI2
        clear hI2 HN HR4 HG4 HA4
        go_wp2_with fail
        go_roundw
        case rel => exact ⟨n, xs ++ [x], oa2, oc2, lk, ok2, rfl, by go_num, by omega, by omega, HI2⟩
        case measure => first | (simp [intOf]; done) | (simp [intOf]; omega)
end Go.Proofs.Ytacjbgmnoiimbab
