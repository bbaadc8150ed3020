/- Lists read: walked (printed by genWireRi.py). -/
import Derived.Test.YtacjbgmnoiimbabGreatRdM
namespace Go.Proofs.YtacjbgmnoiimbabGreat
set_option linter.unusedVariables false
set_option linter.unusedSimpArgs false
open Go.RowKit

theorem Tryz.info67_ : (Tryz.prog.info? 74).map (fun i => (i.zero, i.size, i.bytes)) = some (some (.agg #[.string ⟨#[]⟩, .string ⟨#[]⟩, .string ⟨#[]⟩, .int .i64 0, .string ⟨#[]⟩, .string ⟨#[]⟩, .slice none 0 0, .string ⟨#[]⟩, .string ⟨#[]⟩, .string ⟨#[]⟩, .slice none 0 0]), 11, 184) := by kernel_rfl
set_option maxRecDepth 100000 in
set_option maxHeartbeats 4000000 in
theorem istep_any (g bb : Nat) (m : Nat) (W : World) (l : List UInt8) (d : Nat) (odd : Bool) (hdm : d + m = 64) (hl : l.length ≤ 1000000000) (h : RAt W g bb l d odd) :
    Calls Tryz.prog 46 #[.pointer (some ⟨g, 0, none⟩), .func (.func 47) #[.pointer (some ⟨g, 0, none⟩)] #[]] W (RD g bb (fun t : LS SE => t.xs.map SE.plain) (listE stepE) (lok stepok) (fun ys d => ∃ y ∈ ys, (fun x d => badR x.2.1 d) y d) lsV (lsmem seC 11 (semem m)) l d odd W) := by
  obtain ⟨i0, hi0, hz0, hz1, hz2⟩ := info_parts Tryz.info67_
  have hgl := h.lt
  have hbl := h.bbl
  have HC := Lib.hid (rnum_any g bb W l d odd hl h)
  clear h
  go_enter Tryz.func46, Tryz.ntmps46
  go_wp2_with fail
  refine HC.out.mono ?_
  clear HC
  rintro e W1 ⟨v, l1, o1, rfl, hg1, hr1, hv, st1⟩
  have HT := Lib.hid st1
  have hv64 : v < 18446744073709551616 := hv
  have hl1 := st1.len
  have HI0 : Hid (IRel g bb seC 74 11 SE.plain stepE stepok (fun x d => badR x.2.1 d) (semem m) l1 d o1 v W v [] none 0 l1 o1 W1) := irel_start hg1 hr1
  have hWs := hg1.size
  clear hg1 hr1 st1
  simp only [numV]
  go_wp2_with fail
  go_loopw [5, 6] (fun ov nv wr => ∃ (n : Nat) (xs : List SE) (oa : Option Addr) (oc : Nat) (lj : List UInt8) (oj : Bool), ov = .slice oa xs.length oc ∧ nv = .int .u64 n ∧ n ≤ v ∧ W.heap.size ≤ wr.heap.size ∧ Hid (IRel g bb seC 74 11 SE.plain stepE stepok (fun x d => badR x.2.1 d) (semem m) l1 d o1 v W n xs oa oc lj oj wr)) (fun _ nv _ => (intOf nv).toNat)
  case atStart => exact ⟨v, [], none, 0, l1, o1, rfl, rfl, Nat.le_refl _, hWs, HI0⟩
  case round =>
    clear HI0
    obtain ⟨n, xs, oa, oc, lj, oj, rfl, rfl, hnv, hWw, hst⟩ := hrel
    have hI := hst.out
    have hbd := irel_bound hI
    obtain ⟨a, c, hh, _⟩ := id hI.2.1
    have c2 := heap_cell hh 2
    simp at c2
    clear hh
    rcases Nat.eq_zero_or_pos n with hn0 | hn0
    · subst hn0
      have HE := Lib.hid (irel_done hI seC_len (semem_ok m) (.inl rfl) HT.out)
      clear hst hI
      go_wp2_with fail
      go_ret
      exact HE.out
    · have dn : decide ((0 : Int) < (n : Int)) = true := decide_eq_true (by omega)
      have dn' : decide (0 < n) = true := decide_eq_true (by omega)
      cases oj with
      | true =>
        have HE := Lib.hid (irel_done hI seC_len (semem_ok m) (.inr rfl) HT.out)
        clear hst hI
        go_wp2_with fail
        go_ret
        exact HE.out
      | false =>
        have HCall := Lib.hid (rstep_any g bb m wr lj d false hdm (by omega) hI.2.1)
        have hwn : IntKind.u64.wrap ((n : Int) - 1) = ((n - 1 : Nat) : Int) := by rw [IntKind.wrap_u64]; omega
        have HI := Lib.hid hI
        clear hst hI
        go_wp2_with fail
        refine HCall.out.mono ?_
        clear HCall
        rintro e W2 ⟨x, lk, ok2, rfl, hg2, hr2, hm2, st2⟩
        have hs2 := hg2.size
        obtain ⟨n, rfl⟩ : ∃ k, n = k + 1 := ⟨n - 1, by omega⟩
        have HN := Lib.hid (fun v' w' hrow hgr hat => irel_next (w' := w') HI.out hgl hbl (semem_ok m) uq_step stepE_pos hg2 hr2 hm2 st2 (.cells (seC x).toArray 74) v' hrow hgr hat)
        have HOwn := Lib.hid (irel_own HI.out hgl hg2 (.cells (seC x).toArray 74))
        have hnews : ∀ j u, (seC x)[j]? = some u → (W2.alloc (.cells (seC x).toArray 74)).cell? ((⟨W2.heap.size, 0, none⟩ : Addr).add j) = some u := fun j u hj => by
          rw [Addr.add_lit, Nat.zero_add, heap_cell (heap_alloc_new W2 _)]
          rw [List.getElem?_toArray]; exact hj
        have HNews := Lib.hid hnews
        have hone : ∀ u ∈ seC x, u.oneCell' = true := seC_one x
        have HOneC := Lib.hid hone
        have hsz3 : W.heap.size ≤ (W2.alloc (.cells (seC x).toArray 74)).heap.size := by rw [alloc_size]; omega
        have hlen3 : (seC x).length = 1 * 11 := by rw [seC_len]
        clear hg2 hr2 hm2 st2 hnews hone HI
        simp only [seV]
        go_wp2_with (at_builtin; refine wpList_append_own_at _ rfl (.tmp 20) (.tmp 23) 28 rfl W.heap.size 74 i0 _ 11 184 Tryz.underlying28 hi0 hz0 hz1 hz2 rfl (by decide) (.slice oa xs.length oc) xs.length (elsV seC xs) (by rfl) HOwn.out ⟨W2.heap.size, 0, none⟩ 1 1 (seC x) (by rfl) hlen3 HNews.out HOneC.out (by unfold maxLen; omega) (by omega) hsz3 ?_; intro v4 w4 hrow4 hg4 _ hat4; have HR4 := Lib.hid hrow4; have HG4 := Lib.hid hg4; have HA4 := Lib.hid hat4; have hs4 := Nat.le_trans hsz3 hg4.size; clear hrow4 hg4 hat4)
        obtain ⟨oa2, oc2, rfl, hI2⟩ := HN.out v4 w4 HR4.out HG4.out HA4.out
        have HI2 := Lib.hid hI2
        clear hI2 HN HR4 HG4 HA4
        go_wp2_with fail
        go_roundw
        case rel => exact ⟨n, xs ++ [x], oa2, oc2, lk, ok2, rfl, by go_num, by omega, by omega, HI2⟩
        case measure => first | (simp [intOf]; done) | (simp [intOf]; omega)
end Go.Proofs.YtacjbgmnoiimbabGreat
