/- Lists read: walked (printed by genWireRi.py). -/
import Derived.Test.YtacjbgmnoiimbabGreatRdF
namespace Go.Proofs.YtacjbgmnoiimbabGreat
set_option linter.unusedVariables false
set_option linter.unusedSimpArgs false
open Go.RowKit

theorem Tryz.info48_ : (Tryz.prog.info? 30).map (fun i => (i.zero, i.size, i.bytes)) = some (some (.agg #[.string ⟨#[]⟩, .string ⟨#[]⟩]), 2, 32) := by kernel_rfl
set_option maxRecDepth 100000 in
set_option maxHeartbeats 4000000 in
theorem iobj_any (g bb : Nat) (W : World) (l : List UInt8) (d : Nat) (odd : Bool) (hl : l.length ≤ 1000000000) (h : RAt W g bb l d odd) :
    Calls Tryz.prog 42 #[.pointer (some ⟨g, 0, none⟩), .func (.func 43) #[.pointer (some ⟨g, 0, none⟩)] #[]] W (RD g bb (fun t : LS Duo => t.xs) (listE duoE) (lok duook) nobad lsV (lsmem duoC 2 nomem) l d odd W) := by
  obtain ⟨i0, hi0, hz0, hz1, hz2⟩ := info_parts Tryz.info48_
  have hgl := h.lt
  have hbl := h.bbl
  have HC := Lib.hid (rnum_any g bb W l d odd hl h)
  clear h
  go_enter Tryz.func42, Tryz.ntmps42
  go_wp2_with fail
  refine HC.out.mono ?_
  clear HC
  rintro e W1 ⟨v, l1, o1, rfl, hg1, hr1, hv, st1⟩
  have HT := Lib.hid st1
  have hv64 : v < 18446744073709551616 := hv
  have hl1 := st1.len
  have HI0 : Hid (IRel g bb duoC 30 2 id duoE duook nobad nomem l1 d o1 v W v [] none 0 l1 o1 W1) := irel_start hg1 hr1
  have hWs := hg1.size
  clear hg1 hr1 st1
  simp only [numV]
  go_wp2_with fail
  go_loopw [5, 6] (fun ov nv wr => ∃ (n : Nat) (xs : List Duo) (oa : Option Addr) (oc : Nat) (lj : List UInt8) (oj : Bool), ov = .slice oa xs.length oc ∧ nv = .int .u64 n ∧ n ≤ v ∧ W.heap.size ≤ wr.heap.size ∧ Hid (IRel g bb duoC 30 2 id duoE duook nobad nomem l1 d o1 v W n xs oa oc lj oj wr)) (fun _ nv _ => (intOf nv).toNat)
  case atStart => exact ⟨v, [], none, 0, l1, o1, rfl, rfl, Nat.le_refl _, hWs, HI0⟩
  case round =>
    clear HI0
    obtain ⟨n, xs, oa, oc, lj, oj, rfl, rfl, hnv, hWw, hst⟩ := hrel
    have hI := hst.out
    have hbd := irel_bound hI
    obtain ⟨a, c, hh, _⟩ := id hI.2.1
    have c2 := heap_cell hh 2
    simp at c2
    clear hh
    rcases Nat.eq_zero_or_pos n with hn0 | hn0
    · subst hn0
      have HE := Lib.hid (irel_flat (irel_done hI duoC_len nomem_ok (.inl rfl) HT.out))
      clear hst hI
      go_wp2_with fail
      go_ret
      exact HE.out
    · have dn : decide ((0 : Int) < (n : Int)) = true := decide_eq_true (by omega)
      have dn' : decide (0 < n) = true := decide_eq_true (by omega)
      cases oj with
      | true =>
        have HE := Lib.hid (irel_flat (irel_done hI duoC_len nomem_ok (.inr rfl) HT.out))
        clear hst hI
        go_wp2_with fail
        go_ret
        exact HE.out
      | false =>
        have HCall := Lib.hid (robj_any g bb wr lj d false (by omega) hI.2.1)
        have hwn : IntKind.u64.wrap ((n : Int) - 1) = ((n - 1 : Nat) : Int) := by rw [IntKind.wrap_u64]; omega
        have HI := Lib.hid hI
        clear hst hI
        go_wp2_with fail
        refine HCall.out.mono ?_
        clear HCall
        rintro e W2 ⟨x, lk, ok2, rfl, hg2, hr2, hm2, st2⟩
        have hs2 := hg2.size
        obtain ⟨n, rfl⟩ : ∃ k, n = k + 1 := ⟨n - 1, by omega⟩
        have HN := Lib.hid (fun v' w' hrow hgr hat => irel_next (w' := w') HI.out hgl hbl nomem_ok uq_duo duoE_pos hg2 hr2 hm2 st2 (.cells (duoC x).toArray 30) v' hrow hgr hat)
        have HOwn := Lib.hid (irel_own HI.out hgl hg2 (.cells (duoC x).toArray 30))
        have hnews : ∀ j u, (duoC x)[j]? = some u → (W2.alloc (.cells (duoC x).toArray 30)).cell? ((⟨W2.heap.size, 0, none⟩ : Addr).add j) = some u := fun j u hj => by
          rw [Addr.add_lit, Nat.zero_add, heap_cell (heap_alloc_new W2 _)]
          rw [List.getElem?_toArray]; exact hj
        have HNews := Lib.hid hnews
        have hone : ∀ u ∈ duoC x, u.oneCell' = true := duoC_one x
        have HOneC := Lib.hid hone
        have hsz3 : W.heap.size ≤ (W2.alloc (.cells (duoC x).toArray 30)).heap.size := by rw [alloc_size]; omega
        have hlen3 : (duoC x).length = 1 * 2 := by rw [duoC_len]
        clear hg2 hr2 hm2 st2 hnews hone HI
        simp only [duoV]
        go_wp2_with (at_builtin; refine wpList_append_own_at _ rfl (.tmp 20) (.tmp 23) 26 rfl W.heap.size 30 i0 _ 2 32 Tryz.underlying26 hi0 hz0 hz1 hz2 rfl (by decide) (.slice oa xs.length oc) xs.length (elsV duoC xs) (by rfl) HOwn.out ⟨W2.heap.size, 0, none⟩ 1 1 (duoC x) (by rfl) hlen3 HNews.out HOneC.out (by unfold maxLen; omega) (by omega) hsz3 ?_; intro v4 w4 hrow4 hg4 _ hat4; have HR4 := Lib.hid hrow4; have HG4 := Lib.hid hg4; have HA4 := Lib.hid hat4; have hs4 := Nat.le_trans hsz3 hg4.size; clear hrow4 hg4 hat4)
        obtain ⟨oa2, oc2, rfl, hI2⟩ := HN.out v4 w4 HR4.out HG4.out HA4.out
        have HI2 := Lib.hid hI2
        clear hI2 HN HR4 HG4 HA4
        go_wp2_with fail
        go_roundw
        case rel => exact ⟨n, xs ++ [x], oa2, oc2, lk, ok2, rfl, by go_num, by omega, by omega, HI2⟩
        case measure => first | (simp [intOf]; done) | (simp [intOf]; omega)
theorem Tryz.info64_ : (Tryz.prog.info? 60).map (fun i => (i.zero, i.size, i.bytes)) = some (some (.agg #[.string ⟨#[]⟩, .string ⟨#[]⟩, .string ⟨#[]⟩]), 3, 48) := by kernel_rfl
set_option maxRecDepth 100000 in
set_option maxHeartbeats 4000000 in
theorem isub_any (g bb : Nat) (W : World) (l : List UInt8) (d : Nat) (odd : Bool) (hl : l.length ≤ 1000000000) (h : RAt W g bb l d odd) :
    Calls Tryz.prog 104 #[.pointer (some ⟨g, 0, none⟩), .func (.func 101) #[.pointer (some ⟨g, 0, none⟩)] #[]] W (RD g bb (fun t : LS Tri => t.xs) (listE triE) (lok triok) nobad lsV (lsmem triC 3 nomem) l d odd W) := by
  obtain ⟨i0, hi0, hz0, hz1, hz2⟩ := info_parts Tryz.info64_
  have hgl := h.lt
  have hbl := h.bbl
  have HC := Lib.hid (rnum_any g bb W l d odd hl h)
  clear h
  go_enter Tryz.func104, Tryz.ntmps104
  go_wp2_with fail
  refine HC.out.mono ?_
  clear HC
  rintro e W1 ⟨v, l1, o1, rfl, hg1, hr1, hv, st1⟩
  have HT := Lib.hid st1
  have hv64 : v < 18446744073709551616 := hv
  have hl1 := st1.len
  have HI0 : Hid (IRel g bb triC 60 3 id triE triok nobad nomem l1 d o1 v W v [] none 0 l1 o1 W1) := irel_start hg1 hr1
  have hWs := hg1.size
  clear hg1 hr1 st1
  simp only [numV]
  go_wp2_with fail
  go_loopw [5, 6] (fun ov nv wr => ∃ (n : Nat) (xs : List Tri) (oa : Option Addr) (oc : Nat) (lj : List UInt8) (oj : Bool), ov = .slice oa xs.length oc ∧ nv = .int .u64 n ∧ n ≤ v ∧ W.heap.size ≤ wr.heap.size ∧ Hid (IRel g bb triC 60 3 id triE triok nobad nomem l1 d o1 v W n xs oa oc lj oj wr)) (fun _ nv _ => (intOf nv).toNat)
  case atStart => exact ⟨v, [], none, 0, l1, o1, rfl, rfl, Nat.le_refl _, hWs, HI0⟩
  case round =>
    clear HI0
    obtain ⟨n, xs, oa, oc, lj, oj, rfl, rfl, hnv, hWw, hst⟩ := hrel
    have hI := hst.out
    have hbd := irel_bound hI
    obtain ⟨a, c, hh, _⟩ := id hI.2.1
    have c2 := heap_cell hh 2
    simp at c2
    clear hh
    rcases Nat.eq_zero_or_pos n with hn0 | hn0
    · subst hn0
      have HE := Lib.hid (irel_flat (irel_done hI triC_len nomem_ok (.inl rfl) HT.out))
      clear hst hI
      go_wp2_with fail
      go_ret
      exact HE.out
    · have dn : decide ((0 : Int) < (n : Int)) = true := decide_eq_true (by omega)
      have dn' : decide (0 < n) = true := decide_eq_true (by omega)
      cases oj with
      | true =>
        have HE := Lib.hid (irel_flat (irel_done hI triC_len nomem_ok (.inr rfl) HT.out))
        clear hst hI
        go_wp2_with fail
        go_ret
        exact HE.out
      | false =>
        have HCall := Lib.hid (rsubd_any g bb wr lj d false (by omega) hI.2.1)
        have hwn : IntKind.u64.wrap ((n : Int) - 1) = ((n - 1 : Nat) : Int) := by rw [IntKind.wrap_u64]; omega
        have HI := Lib.hid hI
        clear hst hI
        go_wp2_with fail
        refine HCall.out.mono ?_
        clear HCall
        rintro e W2 ⟨x, lk, ok2, rfl, hg2, hr2, hm2, st2⟩
        have hs2 := hg2.size
        obtain ⟨n, rfl⟩ : ∃ k, n = k + 1 := ⟨n - 1, by omega⟩
        have HN := Lib.hid (fun v' w' hrow hgr hat => irel_next (w' := w') HI.out hgl hbl nomem_ok uq_tri triE_pos hg2 hr2 hm2 st2 (.cells (triC x).toArray 60) v' hrow hgr hat)
        have HOwn := Lib.hid (irel_own HI.out hgl hg2 (.cells (triC x).toArray 60))
        have hnews : ∀ j u, (triC x)[j]? = some u → (W2.alloc (.cells (triC x).toArray 60)).cell? ((⟨W2.heap.size, 0, none⟩ : Addr).add j) = some u := fun j u hj => by
          rw [Addr.add_lit, Nat.zero_add, heap_cell (heap_alloc_new W2 _)]
          rw [List.getElem?_toArray]; exact hj
        have HNews := Lib.hid hnews
        have hone : ∀ u ∈ triC x, u.oneCell' = true := triC_one x
        have HOneC := Lib.hid hone
        have hsz3 : W.heap.size ≤ (W2.alloc (.cells (triC x).toArray 60)).heap.size := by rw [alloc_size]; omega
        have hlen3 : (triC x).length = 1 * 3 := by rw [triC_len]
        clear hg2 hr2 hm2 st2 hnews hone HI
        simp only [triV]
        go_wp2_with (at_builtin; refine wpList_append_own_at _ rfl (.tmp 20) (.tmp 23) 31 rfl W.heap.size 60 i0 _ 3 48 Tryz.underlying31 hi0 hz0 hz1 hz2 rfl (by decide) (.slice oa xs.length oc) xs.length (elsV triC xs) (by rfl) HOwn.out ⟨W2.heap.size, 0, none⟩ 1 1 (triC x) (by rfl) hlen3 HNews.out HOneC.out (by unfold maxLen; omega) (by omega) hsz3 ?_; intro v4 w4 hrow4 hg4 _ hat4; have HR4 := Lib.hid hrow4; have HG4 := Lib.hid hg4; have HA4 := Lib.hid hat4; have hs4 := Nat.le_trans hsz3 hg4.size; clear hrow4 hg4 hat4)
        obtain ⟨oa2, oc2, rfl, hI2⟩ := HN.out v4 w4 HR4.out HG4.out HA4.out
        have HI2 := Lib.hid hI2
        clear hI2 HN HR4 HG4 HA4
        go_wp2_with fail
        go_roundw
        case rel => exact ⟨n, xs ++ [x], oa2, oc2, lk, ok2, rfl, by go_num, by omega, by omega, HI2⟩
        case measure => first | (simp [intOf]; done) | (simp [intOf]; omega)
theorem Tryz.info71_ : (Tryz.prog.info? 62).map (fun i => (i.zero, i.size, i.bytes)) = some (some (.agg #[.string ⟨#[]⟩, .string ⟨#[]⟩, .string ⟨#[]⟩, .string ⟨#[]⟩, .string ⟨#[]⟩, .string ⟨#[]⟩]), 6, 96) := by kernel_rfl
set_option maxRecDepth 100000 in
set_option maxHeartbeats 4000000 in
theorem itup_any (g bb : Nat) (W : World) (l : List UInt8) (d : Nat) (odd : Bool) (hl : l.length ≤ 1000000000) (h : RAt W g bb l d odd) :
    Calls Tryz.prog 40 #[.pointer (some ⟨g, 0, none⟩), .func (.func 41) #[.pointer (some ⟨g, 0, none⟩)] #[]] W (RD g bb (fun t : LS Six => t.xs) (listE sixE) (lok sixok) nobad lsV (lsmem sixC 6 nomem) l d odd W) := by
  obtain ⟨i0, hi0, hz0, hz1, hz2⟩ := info_parts Tryz.info71_
  have hgl := h.lt
  have hbl := h.bbl
  have HC := Lib.hid (rnum_any g bb W l d odd hl h)
  clear h
  go_enter Tryz.func40, Tryz.ntmps40
  go_wp2_with fail
  refine HC.out.mono ?_
  clear HC
  rintro e W1 ⟨v, l1, o1, rfl, hg1, hr1, hv, st1⟩
  have HT := Lib.hid st1
  have hv64 : v < 18446744073709551616 := hv
  have hl1 := st1.len
  have HI0 : Hid (IRel g bb sixC 62 6 id sixE sixok nobad nomem l1 d o1 v W v [] none 0 l1 o1 W1) := irel_start hg1 hr1
  have hWs := hg1.size
  clear hg1 hr1 st1
  simp only [numV]
  go_wp2_with fail
  go_loopw [5, 6] (fun ov nv wr => ∃ (n : Nat) (xs : List Six) (oa : Option Addr) (oc : Nat) (lj : List UInt8) (oj : Bool), ov = .slice oa xs.length oc ∧ nv = .int .u64 n ∧ n ≤ v ∧ W.heap.size ≤ wr.heap.size ∧ Hid (IRel g bb sixC 62 6 id sixE sixok nobad nomem l1 d o1 v W n xs oa oc lj oj wr)) (fun _ nv _ => (intOf nv).toNat)
  case atStart => exact ⟨v, [], none, 0, l1, o1, rfl, rfl, Nat.le_refl _, hWs, HI0⟩
  case round =>
    clear HI0
    obtain ⟨n, xs, oa, oc, lj, oj, rfl, rfl, hnv, hWw, hst⟩ := hrel
    have hI := hst.out
    have hbd := irel_bound hI
    obtain ⟨a, c, hh, _⟩ := id hI.2.1
    have c2 := heap_cell hh 2
    simp at c2
    clear hh
    rcases Nat.eq_zero_or_pos n with hn0 | hn0
    · subst hn0
      have HE := Lib.hid (irel_flat (irel_done hI sixC_len nomem_ok (.inl rfl) HT.out))
      clear hst hI
      go_wp2_with fail
      go_ret
      exact HE.out
    · have dn : decide ((0 : Int) < (n : Int)) = true := decide_eq_true (by omega)
      have dn' : decide (0 < n) = true := decide_eq_true (by omega)
      cases oj with
      | true =>
        have HE := Lib.hid (irel_flat (irel_done hI sixC_len nomem_ok (.inr rfl) HT.out))
        clear hst hI
        go_wp2_with fail
        go_ret
        exact HE.out
      | false =>
        have HCall := Lib.hid (rtupd_any g bb wr lj d false (by omega) hI.2.1)
        have hwn : IntKind.u64.wrap ((n : Int) - 1) = ((n - 1 : Nat) : Int) := by rw [IntKind.wrap_u64]; omega
        have HI := Lib.hid hI
        clear hst hI
        go_wp2_with fail
        refine HCall.out.mono ?_
        clear HCall
        rintro e W2 ⟨x, lk, ok2, rfl, hg2, hr2, hm2, st2⟩
        have hs2 := hg2.size
        obtain ⟨n, rfl⟩ : ∃ k, n = k + 1 := ⟨n - 1, by omega⟩
        have HN := Lib.hid (fun v' w' hrow hgr hat => irel_next (w' := w') HI.out hgl hbl nomem_ok uq_six sixE_pos hg2 hr2 hm2 st2 (.cells (sixC x).toArray 62) v' hrow hgr hat)
        have HOwn := Lib.hid (irel_own HI.out hgl hg2 (.cells (sixC x).toArray 62))
        have hnews : ∀ j u, (sixC x)[j]? = some u → (W2.alloc (.cells (sixC x).toArray 62)).cell? ((⟨W2.heap.size, 0, none⟩ : Addr).add j) = some u := fun j u hj => by
          rw [Addr.add_lit, Nat.zero_add, heap_cell (heap_alloc_new W2 _)]
          rw [List.getElem?_toArray]; exact hj
        have HNews := Lib.hid hnews
        have hone : ∀ u ∈ sixC x, u.oneCell' = true := sixC_one x
        have HOneC := Lib.hid hone
        have hsz3 : W.heap.size ≤ (W2.alloc (.cells (sixC x).toArray 62)).heap.size := by rw [alloc_size]; omega
        have hlen3 : (sixC x).length = 1 * 6 := by rw [sixC_len]
        clear hg2 hr2 hm2 st2 hnews hone HI
        simp only [sixV]
        go_wp2_with (at_builtin; refine wpList_append_own_at _ rfl (.tmp 20) (.tmp 23) 25 rfl W.heap.size 62 i0 _ 6 96 Tryz.underlying25 hi0 hz0 hz1 hz2 rfl (by decide) (.slice oa xs.length oc) xs.length (elsV sixC xs) (by rfl) HOwn.out ⟨W2.heap.size, 0, none⟩ 1 1 (sixC x) (by rfl) hlen3 HNews.out HOneC.out (by unfold maxLen; omega) (by omega) hsz3 ?_; intro v4 w4 hrow4 hg4 _ hat4; have HR4 := Lib.hid hrow4; have HG4 := Lib.hid hg4; have HA4 := Lib.hid hat4; have hs4 := Nat.le_trans hsz3 hg4.size; clear hrow4 hg4 hat4)
        obtain ⟨oa2, oc2, rfl, hI2⟩ := HN.out v4 w4 HR4.out HG4.out HA4.out
        have HI2 := Lib.hid hI2
        clear hI2 HN HR4 HG4 HA4
        go_wp2_with fail
        go_roundw
        case rel => exact ⟨n, xs ++ [x], oa2, oc2, lk, ok2, rfl, by go_num, by omega, by omega, HI2⟩
        case measure => first | (simp [intOf]; done) | (simp [intOf]; omega)
theorem Tryz.info78_ : (Tryz.prog.info? 136).map (fun i => (i.zero, i.size, i.bytes)) = some (some (.agg #[.string ⟨#[]⟩, .string ⟨#[]⟩, .string ⟨#[]⟩, .string ⟨#[]⟩, .string ⟨#[]⟩, .string ⟨#[]⟩]), 6, 96) := by kernel_rfl
set_option maxRecDepth 100000 in
set_option maxHeartbeats 4000000 in
theorem iask_any (g bb : Nat) (W : World) (l : List UInt8) (d : Nat) (odd : Bool) (hl : l.length ≤ 1000000000) (h : RAt W g bb l d odd) :
    Calls Tryz.prog 78 #[.pointer (some ⟨g, 0, none⟩), .func (.func 79) #[.pointer (some ⟨g, 0, none⟩)] #[]] W (RD g bb (fun t : LS Six => t.xs) (listE sixE) (lok sixok) nobad lsV (lsmem sixC 6 nomem) l d odd W) := by
  obtain ⟨i0, hi0, hz0, hz1, hz2⟩ := info_parts Tryz.info78_
  have hgl := h.lt
  have hbl := h.bbl
  have HC := Lib.hid (rnum_any g bb W l d odd hl h)
  clear h
  go_enter Tryz.func78, Tryz.ntmps78
  go_wp2_with fail
  refine HC.out.mono ?_
  clear HC
  rintro e W1 ⟨v, l1, o1, rfl, hg1, hr1, hv, st1⟩
  have HT := Lib.hid st1
  have hv64 : v < 18446744073709551616 := hv
  have hl1 := st1.len
  have HI0 : Hid (IRel g bb sixC 136 6 id sixE sixok nobad nomem l1 d o1 v W v [] none 0 l1 o1 W1) := irel_start hg1 hr1
  have hWs := hg1.size
  clear hg1 hr1 st1
  simp only [numV]
  go_wp2_with fail
  go_loopw [5, 6] (fun ov nv wr => ∃ (n : Nat) (xs : List Six) (oa : Option Addr) (oc : Nat) (lj : List UInt8) (oj : Bool), ov = .slice oa xs.length oc ∧ nv = .int .u64 n ∧ n ≤ v ∧ W.heap.size ≤ wr.heap.size ∧ Hid (IRel g bb sixC 136 6 id sixE sixok nobad nomem l1 d o1 v W n xs oa oc lj oj wr)) (fun _ nv _ => (intOf nv).toNat)
  case atStart => exact ⟨v, [], none, 0, l1, o1, rfl, rfl, Nat.le_refl _, hWs, HI0⟩
  case round =>
    clear HI0
    obtain ⟨n, xs, oa, oc, lj, oj, rfl, rfl, hnv, hWw, hst⟩ := hrel
    have hI := hst.out
    have hbd := irel_bound hI
    obtain ⟨a, c, hh, _⟩ := id hI.2.1
    have c2 := heap_cell hh 2
    simp at c2
    clear hh
    rcases Nat.eq_zero_or_pos n with hn0 | hn0
    · subst hn0
      have HE := Lib.hid (irel_flat (irel_done hI sixC_len nomem_ok (.inl rfl) HT.out))
      clear hst hI
      go_wp2_with fail
      go_ret
      exact HE.out
    · have dn : decide ((0 : Int) < (n : Int)) = true := decide_eq_true (by omega)
      have dn' : decide (0 < n) = true := decide_eq_true (by omega)
      cases oj with
      | true =>
        have HE := Lib.hid (irel_flat (irel_done hI sixC_len nomem_ok (.inr rfl) HT.out))
        clear hst hI
        go_wp2_with fail
        go_ret
        exact HE.out
      | false =>
        have HCall := Lib.hid (raskd_any g bb wr lj d false (by omega) hI.2.1)
        have hwn : IntKind.u64.wrap ((n : Int) - 1) = ((n - 1 : Nat) : Int) := by rw [IntKind.wrap_u64]; omega
        have HI := Lib.hid hI
        clear hst hI
        go_wp2_with fail
        refine HCall.out.mono ?_
        clear HCall
        rintro e W2 ⟨x, lk, ok2, rfl, hg2, hr2, hm2, st2⟩
        have hs2 := hg2.size
        obtain ⟨n, rfl⟩ : ∃ k, n = k + 1 := ⟨n - 1, by omega⟩
        have HN := Lib.hid (fun v' w' hrow hgr hat => irel_next (w' := w') HI.out hgl hbl nomem_ok uq_six sixE_pos hg2 hr2 hm2 st2 (.cells (sixC x).toArray 136) v' hrow hgr hat)
        have HOwn := Lib.hid (irel_own HI.out hgl hg2 (.cells (sixC x).toArray 136))
        have hnews : ∀ j u, (sixC x)[j]? = some u → (W2.alloc (.cells (sixC x).toArray 136)).cell? ((⟨W2.heap.size, 0, none⟩ : Addr).add j) = some u := fun j u hj => by
          rw [Addr.add_lit, Nat.zero_add, heap_cell (heap_alloc_new W2 _)]
          rw [List.getElem?_toArray]; exact hj
        have HNews := Lib.hid hnews
        have hone : ∀ u ∈ sixC x, u.oneCell' = true := sixC_one x
        have HOneC := Lib.hid hone
        have hsz3 : W.heap.size ≤ (W2.alloc (.cells (sixC x).toArray 136)).heap.size := by rw [alloc_size]; omega
        have hlen3 : (sixC x).length = 1 * 6 := by rw [sixC_len]
        clear hg2 hr2 hm2 st2 hnews hone HI
        simp only [sixV]
        go_wp2_with (at_builtin; refine wpList_append_own_at _ rfl (.tmp 20) (.tmp 23) 51 rfl W.heap.size 136 i0 _ 6 96 Tryz.underlying51 hi0 hz0 hz1 hz2 rfl (by decide) (.slice oa xs.length oc) xs.length (elsV sixC xs) (by rfl) HOwn.out ⟨W2.heap.size, 0, none⟩ 1 1 (sixC x) (by rfl) hlen3 HNews.out HOneC.out (by unfold maxLen; omega) (by omega) hsz3 ?_; intro v4 w4 hrow4 hg4 _ hat4; have HR4 := Lib.hid hrow4; have HG4 := Lib.hid hg4; have HA4 := Lib.hid hat4; have hs4 := Nat.le_trans hsz3 hg4.size; clear hrow4 hg4 hat4)
        obtain ⟨oa2, oc2, rfl, hI2⟩ := HN.out v4 w4 HR4.out HG4.out HA4.out
        have HI2 := Lib.hid hI2
        clear hI2 HN HR4 HG4 HA4
        go_wp2_with fail
        go_roundw
        case rel => exact ⟨n, xs ++ [x], oa2, oc2, lk, ok2, rfl, by go_num, by omega, by omega, HI2⟩
        case measure => first | (simp [intOf]; done) | (simp [intOf]; omega)
theorem Tryz.info73_ : (Tryz.prog.info? 65).map (fun i => (i.zero, i.size, i.bytes)) = some (some (.agg #[.bool false, .string ⟨#[]⟩, .string ⟨#[]⟩, .string ⟨#[]⟩, .string ⟨#[]⟩, .string ⟨#[]⟩, .string ⟨#[]⟩]), 7, 104) := by kernel_rfl
set_option maxRecDepth 100000 in
set_option maxHeartbeats 4000000 in
theorem iwrt_any (g bb : Nat) (W : World) (l : List UInt8) (d : Nat) (odd : Bool) (hl : l.length ≤ 1000000000) (h : RAt W g bb l d odd) :
    Calls Tryz.prog 74 #[.pointer (some ⟨g, 0, none⟩), .func (.func 75) #[.pointer (some ⟨g, 0, none⟩)] #[]] W (RD g bb (fun t : LS Wrt => t.xs) (listE wrtE) (lok wrtok) nobad lsV (lsmem wrtC 7 nomem) l d odd W) := by
  obtain ⟨i0, hi0, hz0, hz1, hz2⟩ := info_parts Tryz.info73_
  have hgl := h.lt
  have hbl := h.bbl
  have HC := Lib.hid (rnum_any g bb W l d odd hl h)
  clear h
  go_enter Tryz.func74, Tryz.ntmps74
  go_wp2_with fail
  refine HC.out.mono ?_
  clear HC
  rintro e W1 ⟨v, l1, o1, rfl, hg1, hr1, hv, st1⟩
  have HT := Lib.hid st1
  have hv64 : v < 18446744073709551616 := hv
  have hl1 := st1.len
  have HI0 : Hid (IRel g bb wrtC 65 7 id wrtE wrtok nobad nomem l1 d o1 v W v [] none 0 l1 o1 W1) := irel_start hg1 hr1
  have hWs := hg1.size
  clear hg1 hr1 st1
  simp only [numV]
  go_wp2_with fail
  go_loopw [5, 6] (fun ov nv wr => ∃ (n : Nat) (xs : List Wrt) (oa : Option Addr) (oc : Nat) (lj : List UInt8) (oj : Bool), ov = .slice oa xs.length oc ∧ nv = .int .u64 n ∧ n ≤ v ∧ W.heap.size ≤ wr.heap.size ∧ Hid (IRel g bb wrtC 65 7 id wrtE wrtok nobad nomem l1 d o1 v W n xs oa oc lj oj wr)) (fun _ nv _ => (intOf nv).toNat)
  case atStart => exact ⟨v, [], none, 0, l1, o1, rfl, rfl, Nat.le_refl _, hWs, HI0⟩
  case round =>
    clear HI0
    obtain ⟨n, xs, oa, oc, lj, oj, rfl, rfl, hnv, hWw, hst⟩ := hrel
    have hI := hst.out
    have hbd := irel_bound hI
    obtain ⟨a, c, hh, _⟩ := id hI.2.1
    have c2 := heap_cell hh 2
    simp at c2
    clear hh
    rcases Nat.eq_zero_or_pos n with hn0 | hn0
    · subst hn0
      have HE := Lib.hid (irel_flat (irel_done hI wrtC_len nomem_ok (.inl rfl) HT.out))
      clear hst hI
      go_wp2_with fail
      go_ret
      exact HE.out
    · have dn : decide ((0 : Int) < (n : Int)) = true := decide_eq_true (by omega)
      have dn' : decide (0 < n) = true := decide_eq_true (by omega)
      cases oj with
      | true =>
        have HE := Lib.hid (irel_flat (irel_done hI wrtC_len nomem_ok (.inr rfl) HT.out))
        clear hst hI
        go_wp2_with fail
        go_ret
        exact HE.out
      | false =>
        have HCall := Lib.hid (rwrtd_any g bb wr lj d false (by omega) hI.2.1)
        have hwn : IntKind.u64.wrap ((n : Int) - 1) = ((n - 1 : Nat) : Int) := by rw [IntKind.wrap_u64]; omega
        have HI := Lib.hid hI
        clear hst hI
        go_wp2_with fail
        refine HCall.out.mono ?_
        clear HCall
        rintro e W2 ⟨x, lk, ok2, rfl, hg2, hr2, hm2, st2⟩
        have hs2 := hg2.size
        obtain ⟨n, rfl⟩ : ∃ k, n = k + 1 := ⟨n - 1, by omega⟩
        have HN := Lib.hid (fun v' w' hrow hgr hat => irel_next (w' := w') HI.out hgl hbl nomem_ok uq_wrt wrtE_pos hg2 hr2 hm2 st2 (.cells (wrtC x).toArray 65) v' hrow hgr hat)
        have HOwn := Lib.hid (irel_own HI.out hgl hg2 (.cells (wrtC x).toArray 65))
        have hnews : ∀ j u, (wrtC x)[j]? = some u → (W2.alloc (.cells (wrtC x).toArray 65)).cell? ((⟨W2.heap.size, 0, none⟩ : Addr).add j) = some u := fun j u hj => by
          rw [Addr.add_lit, Nat.zero_add, heap_cell (heap_alloc_new W2 _)]
          rw [List.getElem?_toArray]; exact hj
        have HNews := Lib.hid hnews
        have hone : ∀ u ∈ wrtC x, u.oneCell' = true := wrtC_one x
        have HOneC := Lib.hid hone
        have hsz3 : W.heap.size ≤ (W2.alloc (.cells (wrtC x).toArray 65)).heap.size := by rw [alloc_size]; omega
        have hlen3 : (wrtC x).length = 1 * 7 := by rw [wrtC_len]
        clear hg2 hr2 hm2 st2 hnews hone HI
        simp only [wrtV]
        go_wp2_with (at_builtin; refine wpList_append_own_at _ rfl (.tmp 20) (.tmp 23) 49 rfl W.heap.size 65 i0 _ 7 104 Tryz.underlying49 hi0 hz0 hz1 hz2 rfl (by decide) (.slice oa xs.length oc) xs.length (elsV wrtC xs) (by rfl) HOwn.out ⟨W2.heap.size, 0, none⟩ 1 1 (wrtC x) (by rfl) hlen3 HNews.out HOneC.out (by unfold maxLen; omega) (by omega) hsz3 ?_; intro v4 w4 hrow4 hg4 _ hat4; have HR4 := Lib.hid hrow4; have HG4 := Lib.hid hg4; have HA4 := Lib.hid hat4; have hs4 := Nat.le_trans hsz3 hg4.size; clear hrow4 hg4 hat4)
        obtain ⟨oa2, oc2, rfl, hI2⟩ := HN.out v4 w4 HR4.out HG4.out HA4.out
        have HI2 := Lib.hid hI2
        clear hI2 HN HR4 HG4 HA4
        go_wp2_with fail
        go_roundw
        case rel => exact ⟨n, xs ++ [x], oa2, oc2, lk, ok2, rfl, by go_num, by omega, by omega, HI2⟩
        case measure => first | (simp [intOf]; done) | (simp [intOf]; omega)
theorem Tryz.info129_ : (Tryz.prog.info? 67).map (fun i => (i.zero, i.size, i.bytes)) = some (some (.agg #[.int .u64 0, .bool false, .string ⟨#[]⟩, .string ⟨#[]⟩, .string ⟨#[]⟩, .string ⟨#[]⟩, .string ⟨#[]⟩, .string ⟨#[]⟩]), 8, 112) := by kernel_rfl
set_option maxRecDepth 100000 in
set_option maxHeartbeats 4000000 in
theorem ievt_any (g bb : Nat) (W : World) (l : List UInt8) (d : Nat) (odd : Bool) (hl : l.length ≤ 1000000000) (h : RAt W g bb l d odd) :
    Calls Tryz.prog 44 #[.pointer (some ⟨g, 0, none⟩), .func (.func 45) #[.pointer (some ⟨g, 0, none⟩)] #[]] W (RD g bb (fun t : LS Evt => t.xs) (listE evtE) (lok evtok) nobad lsV (lsmem evtC 8 nomem) l d odd W) := by
  obtain ⟨i0, hi0, hz0, hz1, hz2⟩ := info_parts Tryz.info129_
  have hgl := h.lt
  have hbl := h.bbl
  have HC := Lib.hid (rnum_any g bb W l d odd hl h)
  clear h
  go_enter Tryz.func44, Tryz.ntmps44
  go_wp2_with fail
  refine HC.out.mono ?_
  clear HC
  rintro e W1 ⟨v, l1, o1, rfl, hg1, hr1, hv, st1⟩
  have HT := Lib.hid st1
  have hv64 : v < 18446744073709551616 := hv
  have hl1 := st1.len
  have HI0 : Hid (IRel g bb evtC 67 8 id evtE evtok nobad nomem l1 d o1 v W v [] none 0 l1 o1 W1) := irel_start hg1 hr1
  have hWs := hg1.size
  clear hg1 hr1 st1
  simp only [numV]
  go_wp2_with fail
  go_loopw [5, 6] (fun ov nv wr => ∃ (n : Nat) (xs : List Evt) (oa : Option Addr) (oc : Nat) (lj : List UInt8) (oj : Bool), ov = .slice oa xs.length oc ∧ nv = .int .u64 n ∧ n ≤ v ∧ W.heap.size ≤ wr.heap.size ∧ Hid (IRel g bb evtC 67 8 id evtE evtok nobad nomem l1 d o1 v W n xs oa oc lj oj wr)) (fun _ nv _ => (intOf nv).toNat)
  case atStart => exact ⟨v, [], none, 0, l1, o1, rfl, rfl, Nat.le_refl _, hWs, HI0⟩
  case round =>
    clear HI0
    obtain ⟨n, xs, oa, oc, lj, oj, rfl, rfl, hnv, hWw, hst⟩ := hrel
    have hI := hst.out
    have hbd := irel_bound hI
    obtain ⟨a, c, hh, _⟩ := id hI.2.1
    have c2 := heap_cell hh 2
    simp at c2
    clear hh
    rcases Nat.eq_zero_or_pos n with hn0 | hn0
    · subst hn0
      have HE := Lib.hid (irel_flat (irel_done hI evtC_len nomem_ok (.inl rfl) HT.out))
      clear hst hI
      go_wp2_with fail
      go_ret
      exact HE.out
    · have dn : decide ((0 : Int) < (n : Int)) = true := decide_eq_true (by omega)
      have dn' : decide (0 < n) = true := decide_eq_true (by omega)
      cases oj with
      | true =>
        have HE := Lib.hid (irel_flat (irel_done hI evtC_len nomem_ok (.inr rfl) HT.out))
        clear hst hI
        go_wp2_with fail
        go_ret
        exact HE.out
      | false =>
        have HCall := Lib.hid (revtd_any g bb wr lj d false (by omega) hI.2.1)
        have hwn : IntKind.u64.wrap ((n : Int) - 1) = ((n - 1 : Nat) : Int) := by rw [IntKind.wrap_u64]; omega
        have HI := Lib.hid hI
        clear hst hI
        go_wp2_with fail
        refine HCall.out.mono ?_
        clear HCall
        rintro e W2 ⟨x, lk, ok2, rfl, hg2, hr2, hm2, st2⟩
        have hs2 := hg2.size
        obtain ⟨n, rfl⟩ : ∃ k, n = k + 1 := ⟨n - 1, by omega⟩
        have HN := Lib.hid (fun v' w' hrow hgr hat => irel_next (w' := w') HI.out hgl hbl nomem_ok uq_evt evtE_pos hg2 hr2 hm2 st2 (.cells (evtC x).toArray 67) v' hrow hgr hat)
        have HOwn := Lib.hid (irel_own HI.out hgl hg2 (.cells (evtC x).toArray 67))
        have hnews : ∀ j u, (evtC x)[j]? = some u → (W2.alloc (.cells (evtC x).toArray 67)).cell? ((⟨W2.heap.size, 0, none⟩ : Addr).add j) = some u := fun j u hj => by
          rw [Addr.add_lit, Nat.zero_add, heap_cell (heap_alloc_new W2 _)]
          rw [List.getElem?_toArray]; exact hj
        have HNews := Lib.hid hnews
        have hone : ∀ u ∈ evtC x, u.oneCell' = true := evtC_one x
        have HOneC := Lib.hid hone
        have hsz3 : W.heap.size ≤ (W2.alloc (.cells (evtC x).toArray 67)).heap.size := by rw [alloc_size]; omega
        have hlen3 : (evtC x).length = 1 * 8 := by rw [evtC_len]
        clear hg2 hr2 hm2 st2 hnews hone HI
        simp only [evtV]
        go_wp2_with (at_builtin; refine wpList_append_own_at _ rfl (.tmp 20) (.tmp 23) 27 rfl W.heap.size 67 i0 _ 8 112 Tryz.underlying27 hi0 hz0 hz1 hz2 rfl (by decide) (.slice oa xs.length oc) xs.length (elsV evtC xs) (by rfl) HOwn.out ⟨W2.heap.size, 0, none⟩ 1 1 (evtC x) (by rfl) hlen3 HNews.out HOneC.out (by unfold maxLen; omega) (by omega) hsz3 ?_; intro v4 w4 hrow4 hg4 _ hat4; have HR4 := Lib.hid hrow4; have HG4 := Lib.hid hg4; have HA4 := Lib.hid hat4; have hs4 := Nat.le_trans hsz3 hg4.size; clear hrow4 hg4 hat4)
        obtain ⟨oa2, oc2, rfl, hI2⟩ := HN.out v4 w4 HR4.out HG4.out HA4.out
        have HI2 := Lib.hid hI2
        clear hI2 HN HR4 HG4 HA4
        go_wp2_with fail
        go_roundw
        case rel => exact ⟨n, xs ++ [x], oa2, oc2, lk, ok2, rfl, by go_num, by omega, by omega, HI2⟩
        case measure => first | (simp [intOf]; done) | (simp [intOf]; omega)
theorem Tryz.info4_ : (Tryz.prog.info? 4).map (fun i => (i.zero, i.size, i.bytes)) = some (some (.bool false), 1, 1) := by kernel_rfl
set_option maxRecDepth 100000 in
set_option maxHeartbeats 4000000 in
theorem itru_any (g bb : Nat) (W : World) (l : List UInt8) (d : Nat) (odd : Bool) (hl : l.length ≤ 1000000000) (h : RAt W g bb l d odd) :
    Calls Tryz.prog 38 #[.pointer (some ⟨g, 0, none⟩), .func (.func 39) #[.pointer (some ⟨g, 0, none⟩)] #[]] W (RD g bb (fun t : LS Bool => t.xs) (listE boolE) (lok (fun _ => True)) nobad lsV (lsmem boolC 1 nomem) l d odd W) := by
  obtain ⟨i0, hi0, hz0, hz1, hz2⟩ := info_parts Tryz.info4_
  have hgl := h.lt
  have hbl := h.bbl
  have HC := Lib.hid (rnum_any g bb W l d odd hl h)
  clear h
  go_enter Tryz.func38, Tryz.ntmps38
  go_wp2_with fail
  refine HC.out.mono ?_
  clear HC
  rintro e W1 ⟨v, l1, o1, rfl, hg1, hr1, hv, st1⟩
  have HT := Lib.hid st1
  have hv64 : v < 18446744073709551616 := hv
  have hl1 := st1.len
  have HI0 : Hid (IRel g bb boolC 4 1 id boolE (fun _ => True) nobad nomem l1 d o1 v W v [] none 0 l1 o1 W1) := irel_start hg1 hr1
  have hWs := hg1.size
  clear hg1 hr1 st1
  simp only [numV]
  go_wp2_with fail
  go_loopw [5, 6] (fun ov nv wr => ∃ (n : Nat) (xs : List Bool) (oa : Option Addr) (oc : Nat) (lj : List UInt8) (oj : Bool), ov = .slice oa xs.length oc ∧ nv = .int .u64 n ∧ n ≤ v ∧ W.heap.size ≤ wr.heap.size ∧ Hid (IRel g bb boolC 4 1 id boolE (fun _ => True) nobad nomem l1 d o1 v W n xs oa oc lj oj wr)) (fun _ nv _ => (intOf nv).toNat)
  case atStart => exact ⟨v, [], none, 0, l1, o1, rfl, rfl, Nat.le_refl _, hWs, HI0⟩
  case round =>
    clear HI0
    obtain ⟨n, xs, oa, oc, lj, oj, rfl, rfl, hnv, hWw, hst⟩ := hrel
    have hI := hst.out
    have hbd := irel_bound hI
    obtain ⟨a, c, hh, _⟩ := id hI.2.1
    have c2 := heap_cell hh 2
    simp at c2
    clear hh
    rcases Nat.eq_zero_or_pos n with hn0 | hn0
    · subst hn0
      have HE := Lib.hid (irel_flat (irel_done hI boolC_len nomem_ok (.inl rfl) HT.out))
      clear hst hI
      go_wp2_with fail
      go_ret
      exact HE.out
    · have dn : decide ((0 : Int) < (n : Int)) = true := decide_eq_true (by omega)
      have dn' : decide (0 < n) = true := decide_eq_true (by omega)
      cases oj with
      | true =>
        have HE := Lib.hid (irel_flat (irel_done hI boolC_len nomem_ok (.inr rfl) HT.out))
        clear hst hI
        go_wp2_with fail
        go_ret
        exact HE.out
      | false =>
        have HCall := Lib.hid (rtru_any g bb wr lj d false (by omega) hI.2.1)
        have hwn : IntKind.u64.wrap ((n : Int) - 1) = ((n - 1 : Nat) : Int) := by rw [IntKind.wrap_u64]; omega
        have HI := Lib.hid hI
        clear hst hI
        go_wp2_with fail
        refine HCall.out.mono ?_
        clear HCall
        rintro e W2 ⟨x, lk, ok2, rfl, hg2, hr2, hm2, st2⟩
        have hs2 := hg2.size
        obtain ⟨n, rfl⟩ : ∃ k, n = k + 1 := ⟨n - 1, by omega⟩
        have HN := Lib.hid (fun v' w' hrow hgr hat => irel_next (w' := w') HI.out hgl hbl nomem_ok uq_bool boolE_pos hg2 hr2 hm2 st2 (.cells (boolC x).toArray 4) v' hrow hgr hat)
        have HOwn := Lib.hid (irel_own HI.out hgl hg2 (.cells (boolC x).toArray 4))
        have hnews : ∀ j u, (boolC x)[j]? = some u → (W2.alloc (.cells (boolC x).toArray 4)).cell? ((⟨W2.heap.size, 0, none⟩ : Addr).add j) = some u := fun j u hj => by
          rw [Addr.add_lit, Nat.zero_add, heap_cell (heap_alloc_new W2 _)]
          rw [List.getElem?_toArray]; exact hj
        have HNews := Lib.hid hnews
        have hone : ∀ u ∈ boolC x, u.oneCell' = true := boolC_one x
        have HOneC := Lib.hid hone
        have hsz3 : W.heap.size ≤ (W2.alloc (.cells (boolC x).toArray 4)).heap.size := by rw [alloc_size]; omega
        have hlen3 : (boolC x).length = 1 * 1 := by rw [boolC_len]
        clear hg2 hr2 hm2 st2 hnews hone HI
        simp only [boolV]
        go_wp2_with (at_builtin; refine wpList_append_own_at _ rfl (.tmp 20) (.tmp 23) 24 rfl W.heap.size 4 i0 _ 1 1 Tryz.underlying24 hi0 hz0 hz1 hz2 rfl (by decide) (.slice oa xs.length oc) xs.length (elsV boolC xs) (by rfl) HOwn.out ⟨W2.heap.size, 0, none⟩ 1 1 (boolC x) (by rfl) hlen3 HNews.out HOneC.out (by unfold maxLen; omega) (by omega) hsz3 ?_; intro v4 w4 hrow4 hg4 _ hat4; have HR4 := Lib.hid hrow4; have HG4 := Lib.hid hg4; have HA4 := Lib.hid hat4; have hs4 := Nat.le_trans hsz3 hg4.size; clear hrow4 hg4 hat4)
        obtain ⟨oa2, oc2, rfl, hI2⟩ := HN.out v4 w4 HR4.out HG4.out HA4.out
        have HI2 := Lib.hid hI2
        clear hI2 HN HR4 HG4 HA4
        go_wp2_with fail
        go_roundw
        case rel => exact ⟨n, xs ++ [x], oa2, oc2, lk, ok2, rfl, by go_num, by omega, by omega, HI2⟩
        case measure => first | (simp [intOf]; done) | (simp [intOf]; omega)
theorem Tryz.info3_ : (Tryz.prog.info? 3).map (fun i => (i.zero, i.size, i.bytes)) = some (some (.int .i64 0), 1, 8) := by kernel_rfl
set_option maxRecDepth 100000 in
set_option maxHeartbeats 4000000 in
theorem iint_any (g bb : Nat) (W : World) (l : List UInt8) (d : Nat) (odd : Bool) (hl : l.length ≤ 1000000000) (h : RAt W g bb l d odd) :
    Calls Tryz.prog 103 #[.pointer (some ⟨g, 0, none⟩), .func (.func 36) #[.pointer (some ⟨g, 0, none⟩)] #[]] W (RD g bb (fun t : LS Int => t.xs) (listE intE) (lok iok) nobad lsV (lsmem intC 1 intmem) l d odd W) := by
  obtain ⟨i0, hi0, hz0, hz1, hz2⟩ := info_parts Tryz.info3_
  have hgl := h.lt
  have hbl := h.bbl
  have HC := Lib.hid (rnum_any g bb W l d odd hl h)
  clear h
  go_enter Tryz.func103, Tryz.ntmps103
  go_wp2_with fail
  refine HC.out.mono ?_
  clear HC
  rintro e W1 ⟨v, l1, o1, rfl, hg1, hr1, hv, st1⟩
  have HT := Lib.hid st1
  have hv64 : v < 18446744073709551616 := hv
  have hl1 := st1.len
  have HI0 : Hid (IRel g bb intC 3 1 id intE iok nobad intmem l1 d o1 v W v [] none 0 l1 o1 W1) := irel_start hg1 hr1
  have hWs := hg1.size
  clear hg1 hr1 st1
  simp only [numV]
  go_wp2_with fail
  go_loopw [5, 6] (fun ov nv wr => ∃ (n : Nat) (xs : List Int) (oa : Option Addr) (oc : Nat) (lj : List UInt8) (oj : Bool), ov = .slice oa xs.length oc ∧ nv = .int .u64 n ∧ n ≤ v ∧ W.heap.size ≤ wr.heap.size ∧ Hid (IRel g bb intC 3 1 id intE iok nobad intmem l1 d o1 v W n xs oa oc lj oj wr)) (fun _ nv _ => (intOf nv).toNat)
  case atStart => exact ⟨v, [], none, 0, l1, o1, rfl, rfl, Nat.le_refl _, hWs, HI0⟩
  case round =>
    clear HI0
    obtain ⟨n, xs, oa, oc, lj, oj, rfl, rfl, hnv, hWw, hst⟩ := hrel
    have hI := hst.out
    have hbd := irel_bound hI
    obtain ⟨a, c, hh, _⟩ := id hI.2.1
    have c2 := heap_cell hh 2
    simp at c2
    clear hh
    rcases Nat.eq_zero_or_pos n with hn0 | hn0
    · subst hn0
      have HE := Lib.hid (irel_flat (irel_done hI intC_len intmem_ok (.inl rfl) HT.out))
      clear hst hI
      go_wp2_with fail
      go_ret
      exact HE.out
    · have dn : decide ((0 : Int) < (n : Int)) = true := decide_eq_true (by omega)
      have dn' : decide (0 < n) = true := decide_eq_true (by omega)
      cases oj with
      | true =>
        have HE := Lib.hid (irel_flat (irel_done hI intC_len intmem_ok (.inr rfl) HT.out))
        clear hst hI
        go_wp2_with fail
        go_ret
        exact HE.out
      | false =>
        have HCall := Lib.hid (rint_any g bb wr lj d false (by omega) hI.2.1)
        have hwn : IntKind.u64.wrap ((n : Int) - 1) = ((n - 1 : Nat) : Int) := by rw [IntKind.wrap_u64]; omega
        have HI := Lib.hid hI
        clear hst hI
        go_wp2_with fail
        refine HCall.out.mono ?_
        clear HCall
        rintro e W2 ⟨x, lk, ok2, rfl, hg2, hr2, hm2, st2⟩
        have hs2 := hg2.size
        obtain ⟨n, rfl⟩ : ∃ k, n = k + 1 := ⟨n - 1, by omega⟩
        have HN := Lib.hid (fun v' w' hrow hgr hat => irel_next (w' := w') HI.out hgl hbl intmem_ok uq_int intE_pos' hg2 hr2 hm2 st2 (.cells (intC x).toArray 3) v' hrow hgr hat)
        have HOwn := Lib.hid (irel_own HI.out hgl hg2 (.cells (intC x).toArray 3))
        have hnews : ∀ j u, (intC x)[j]? = some u → (W2.alloc (.cells (intC x).toArray 3)).cell? ((⟨W2.heap.size, 0, none⟩ : Addr).add j) = some u := fun j u hj => by
          rw [Addr.add_lit, Nat.zero_add, heap_cell (heap_alloc_new W2 _)]
          rw [List.getElem?_toArray]; exact hj
        have HNews := Lib.hid hnews
        have hone : ∀ u ∈ intC x, u.oneCell' = true := intC_one x
        have HOneC := Lib.hid hone
        have hsz3 : W.heap.size ≤ (W2.alloc (.cells (intC x).toArray 3)).heap.size := by rw [alloc_size]; omega
        have hlen3 : (intC x).length = 1 * 1 := by rw [intC_len]
        clear hg2 hr2 hm2 st2 hnews hone HI
        simp only [intV]
        go_wp2_with (at_builtin; refine wpList_append_own_at _ rfl (.tmp 20) (.tmp 23) 72 rfl W.heap.size 3 i0 _ 1 8 Tryz.underlying72 hi0 hz0 hz1 hz2 rfl (by decide) (.slice oa xs.length oc) xs.length (elsV intC xs) (by rfl) HOwn.out ⟨W2.heap.size, 0, none⟩ 1 1 (intC x) (by rfl) hlen3 HNews.out HOneC.out (by unfold maxLen; omega) (by omega) hsz3 ?_; intro v4 w4 hrow4 hg4 _ hat4; have HR4 := Lib.hid hrow4; have HG4 := Lib.hid hg4; have HA4 := Lib.hid hat4; have hs4 := Nat.le_trans hsz3 hg4.size; clear hrow4 hg4 hat4)
        obtain ⟨oa2, oc2, rfl, hI2⟩ := HN.out v4 w4 HR4.out HG4.out HA4.out
        have HI2 := Lib.hid hI2
        clear hI2 HN HR4 HG4 HA4
        go_wp2_with fail
        go_roundw
        case rel => exact ⟨n, xs ++ [x], oa2, oc2, lk, ok2, rfl, by go_num, by omega, by omega, HI2⟩
        case measure => first | (simp [intOf]; done) | (simp [intOf]; omega)
end Go.Proofs.YtacjbgmnoiimbabGreat
