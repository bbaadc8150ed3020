/- A request read: walked (printed by genWireRq.py). -/
import Derived.Test.YtacjbgmnoiimbabGreatRdO
import Derived.Test.YtacjbgmnoiimbabGreatRdI
namespace Go.Proofs.YtacjbgmnoiimbabGreat
set_option linter.unusedVariables false
set_option linter.unusedSimpArgs false
open Go.RowKit

theorem Stays.trans {S : Nat → Prop} {a b c : World} (h : Stays S a b) (k : Stays S b c) : Stays S a c := ⟨Nat.le_trans h.1 k.1, fun i hi hl => (k.2 i hi (Nat.lt_of_lt_of_le hl h.1)).trans (h.2 i hi hl)⟩
theorem stays_of {B g : Nat} {W W' : World} (h : W.grownBy W' (some g)) (hg : g < B) : Stays (fun b => B ≤ b) W W' := ⟨h.size, fun b hb hl => h.block b hl (fun e => by cases e; omega)⟩
theorem below_on {B g : Nat} {a w w' : World} (h : Below B a w) (hg : w.grownBy w' (some g)) (hB : B ≤ w.heap.size) (hBg : B ≤ g) : Below B a w' := h.grown hg hB (fun k hk => by cases hk; exact hBg)
theorem Tryz.info104_ : (Tryz.prog.info? 144).map (fun i => (i.zero, i.size, i.bytes)) = some (some (.pointer none), 1, 8) := by kernel_rfl
theorem index3 (p q r : Option Addr) (W : World) (j : Int) (hj : j = 0 ∨ j = 1 ∨ j = 2) : (Instr.index 145 (.agg #[.pointer p, .pointer q, .pointer r]) (.int .i64 j)).run Tryz.prog W = .ok (.pointer (if j = 0 then p else if j = 1 then q else r)) W := by
  obtain ⟨i0, hi, hz0, hz1, hz2⟩ := info_parts Tryz.info104_
  rcases hj with rfl | rfl | rfl <;> simp [Instr.index, run_underlying Tryz.underlying145, sizeOf, typeInfo, hi, hz1, asIntOf, part, isAgg, run_underlying Tryz.underlying144]
/-- a request where it lies -/
structure RQE where
  cl : ByteArray
  id : Nat
  kd : Int
  hw : Int
  tk : ByteArray
  n : Nat
  ty : ByteArray
  f1 : ByteArray
  f2 : ByteArray
  f3 : ByteArray
  ws : LS Wrt
  ps : LS Wrt
  ks : LS Six
  gs : LS ArgT
def RQE.plain (x : RQE) : RQ := (x.cl, x.id, x.kd, x.hw, x.tk, x.n, x.ty, (x.f1, x.f2, x.f3), x.ws.xs, x.ps.xs, x.ks.xs, x.gs.xs)
def rqV (x : RQE) : Value := .agg #[.string x.cl, .int .u64 (x.id : Int), .int .i64 x.kd, .int .i64 x.hw, .string x.tk, .int .u64 (x.n : Int), .string x.ty, .string x.f1, .string x.f2, .string x.f3, lsV x.ws, lsV x.ps, lsV x.ks, lsV x.gs]
def rqmem (S : Nat → Prop) (W : World) (x : RQE) : Prop := lsmem wrtC 7 nomem S W x.ws ∧ lsmem wrtC 7 nomem S W x.ps ∧ lsmem sixC 6 nomem S W x.ks ∧ lsmem argC 4 nomem S W x.gs
def rqZ : Value := .agg #[.string { data := #[] }, .int .u64 0, .int .i64 0, .int .i64 0, .string { data := #[] }, .int .u64 0, .string { data := #[] }, .string { data := #[] }, .string { data := #[] }, .string { data := #[] }, .slice none 0 0, .slice none 0 0, .slice none 0 0, .slice none 0 0]
/-- what reading a request does -/
def GReq (l : List UInt8) (W : World) (e : Ending) (W' : World) : Prop := Below W.heap.size W W' ∧
  ((∃ x : RQE, e = .returned (.tuple #[rqV x, .int .i64 0]) ∧ rqmem (fun b => W.heap.size ≤ b) W' x ∧ reqok x.plain ∧ l = [113, 49] ++ reqE x.plain) ∨ (e = .returned (.tuple #[rqZ, .int .i64 9]) ∧ ∀ q, reqok q → l ≠ [113, 49] ++ reqE q))
theorem rst_req {l l1 l2 l3 l4 l5 l6 l7 l8 l9 l10 l11 l12 : List UInt8} {d : Nat} {o o1 o2 o3 o4 o5 o6 o7 o8 o9 o10 o11 o12 : Bool} {x : RQE} (h1 : RSt txt tok nobad l d o x.cl l1 o1) (h2 : RSt uv (fun v => v < 18446744073709551616) nobad l1 d o1 x.id l2 o2) (h3 : RSt intE iok nobad l2 d o2 x.kd l3 o3) (h4 : RSt intE iok nobad l3 d o3 x.hw l4 o4)
    (h5 : RSt txt tok nobad l4 d o4 x.tk l5 o5) (h6 : RSt uv (fun v => v < 18446744073709551616) nobad l5 d o5 x.n l6 o6) (h7 : RSt txt tok nobad l6 d o6 x.ty l7 o7) (h8 : RSt triE triok nobad l7 d o7 (x.f1, x.f2, x.f3) l8 o8) (h9 : RSt (listE wrtE) (lok wrtok) nobad l8 d o8 x.ws.xs l9 o9) (h10 : RSt (listE wrtE) (lok wrtok) nobad l9 d o9 x.ps.xs l10 o10)
    (h11 : RSt (listE sixE) (lok sixok) nobad l10 d o10 x.ks.xs l11 o11) (h12 : RSt (listE argE) (lok argok) nobad l11 d o11 x.gs.xs l12 o12) : RSt reqE reqok nobad l d o x.plain l12 o12 :=
  h1.pairf (h2.pairf (h3.pairf (h4.pairf (h5.pairf (h6.pairf (h7.pairf (h8.pairf (h9.pairf (h10.pairf (h11.pairf h12 (uq_list uq_six)) (uq_list uq_wrt)) (uq_list uq_wrt)) uq_tri) uq_txt) uq_num) uq_txt) uq_int) uq_int) uq_num) uq_txt
/-- the filter's texts, behind j of them -/
def FSt (j : Nat) (fa fb fc : ByteArray) (l7 : List UInt8) (o7 : Bool) (l8 : List UInt8) (o8 : Bool) : Prop :=
  (j = 0 ∧ l8 = l7 ∧ o8 = o7) ∨ (j = 1 ∧ RSt txt tok nobad l7 0 o7 fa l8 o8) ∨ (j = 2 ∧ ∃ la oa, RSt txt tok nobad l7 0 o7 fa la oa ∧ RSt txt tok nobad la 0 oa fb l8 o8) ∨ (j = 3 ∧ RSt triE triok nobad l7 0 o7 (fa, fb, fc) l8 o8)
theorem FSt.len {j : Nat} {fa fb fc : ByteArray} {l7 : List UInt8} {o7 : Bool} {l8 : List UInt8} {o8 : Bool} (h : FSt j fa fb fc l7 o7 l8 o8) : l8.length ≤ l7.length := by
  rcases h with ⟨_, rfl, _⟩ | ⟨_, h⟩ | ⟨_, la, oa, h, k⟩ | ⟨_, h⟩
  · exact Nat.le_refl _
  · exact h.len
  · exact Nat.le_trans k.len h.len
  · exact h.len
theorem FSt.one {fa fb fc : ByteArray} {l7 : List UInt8} {o7 : Bool} {l8 l9 : List UInt8} {o8 o9 : Bool} {v : ByteArray} (h : FSt 0 fa fb fc l7 o7 l8 o8) (k : RSt txt tok nobad l8 0 o8 v l9 o9) : FSt 1 v fb fc l7 o7 l9 o9 := by
  rcases h with ⟨_, rfl, rfl⟩ | ⟨h, _⟩ | ⟨h, _⟩ | ⟨h, _⟩
  · exact .inr (.inl ⟨rfl, k⟩)
  · cases h
  · cases h
  · cases h
theorem FSt.two {fa fb fc : ByteArray} {l7 : List UInt8} {o7 : Bool} {l8 l9 : List UInt8} {o8 o9 : Bool} {v : ByteArray} (h : FSt 1 fa fb fc l7 o7 l8 o8) (k : RSt txt tok nobad l8 0 o8 v l9 o9) : FSt 2 fa v fc l7 o7 l9 o9 := by
  rcases h with ⟨h, _⟩ | ⟨_, h⟩ | ⟨h, _⟩ | ⟨h, _⟩
  · cases h
  · exact .inr (.inr (.inl ⟨rfl, _, _, h, k⟩))
  · cases h
  · cases h
theorem FSt.three {fa fb fc : ByteArray} {l7 : List UInt8} {o7 : Bool} {l8 l9 : List UInt8} {o8 o9 : Bool} {v : ByteArray} (h : FSt 2 fa fb fc l7 o7 l8 o8) (k : RSt txt tok nobad l8 0 o8 v l9 o9) : FSt 3 fa fb v l7 o7 l9 o9 := by
  rcases h with ⟨h, _⟩ | ⟨h, _⟩ | ⟨_, la, oa, h1, h2⟩ | ⟨h, _⟩
  · cases h
  · cases h
  · exact .inr (.inr (.inr ⟨rfl, h1.pairf (h2.pairf k uq_txt) uq_txt⟩))
  · cases h
theorem FSt.tri {fa fb fc : ByteArray} {l7 : List UInt8} {o7 : Bool} {l8 : List UInt8} {o8 : Bool} (h : FSt 3 fa fb fc l7 o7 l8 o8) : RSt triE triok nobad l7 0 o7 (fa, fb, fc) l8 o8 := by
  rcases h with ⟨h, _⟩ | ⟨h, _⟩ | ⟨h, _⟩ | ⟨_, h⟩
  · cases h
  · cases h
  · cases h
  · exact h
/-- all was read, and right -/
theorem req_yes {l r l' : List UInt8} {o o' : Bool} {q : RQ} (h : (o = false ∧ l = [113, 49] ++ r) ∨ (o = true ∧ ∀ q, l ≠ [113, 49] ++ q)) (st : RSt reqE reqok nobad r 0 o q l' o') (ha : (!o' && decide (l' = [])) = true) : reqok q ∧ l = [113, 49] ++ reqE q := by
  rw [Bool.and_eq_true, Bool.not_eq_true'] at ha
  obtain ⟨h1, h2⟩ := ha
  have h2 := of_decide_eq_true h2
  subst h2
  obtain ⟨a, _, c⟩ := st.2.2.1 h1
  rw [List.append_nil] at c
  rcases h with ⟨_, hl⟩ | ⟨ho, _⟩
  · exact ⟨a, by rw [hl, c]⟩
  · rw [st.2.1 ho] at h1; cases h1
theorem req_no {l r l' : List UInt8} {o o' : Bool} {q : RQ} (h : (o = false ∧ l = [113, 49] ++ r) ∨ (o = true ∧ ∀ q, l ≠ [113, 49] ++ q)) (st : RSt reqE reqok nobad r 0 o q l' o') (ha : (!o' && decide (l' = [])) = false) : ∀ p, reqok p → l ≠ [113, 49] ++ reqE p := by
  intro p hp hl
  rcases h with ⟨ho, hr⟩ | ⟨_, hn⟩
  · have hre : r = reqE p ++ [] := by
      rw [List.append_nil]
      exact List.append_cancel_left (hr.symm.trans hl)
    have ho' := st.2.2.2 ho p [] hp id hre
    obtain ⟨a, _, c⟩ := st.2.2.1 ho'
    obtain ⟨_, e⟩ := uq_req q p l' [] a hp (c.symm.trans hre)
    rw [ho', e] at ha
    cases ha
  · exact hn _ hl
set_option maxRecDepth 100000 in
set_option maxHeartbeats 8000000 in
theorem getreq_any (a : Option Addr) (c : Nat) (l : List UInt8) (W : World) (hl : l.length ≤ 100000000) (h : IsBytes W a l) :
    Calls Tryz.prog 12 #[.slice a l.length c] W (GReq l W) := by
  have HX0 := Lib.hid (heap_alloc_new W (.cells #[.string { data := #[] }, .int .u64 0, .int .i64 0, .int .i64 0, .string { data := #[] }, .int .u64 0, .string { data := #[] }, .string { data := #[] }, .string { data := #[] }, .string { data := #[] }, .slice none 0 0, .slice none 0 0, .slice none 0 0, .slice none 0 0] 54))
  have HB0 := Lib.hid ((Below.refl W.heap.size W).alloc (Nat.le_refl _) (.cells #[.string { data := #[] }, .int .u64 0, .int .i64 0, .int .i64 0, .string { data := #[] }, .int .u64 0, .string { data := #[] }, .string { data := #[] }, .string { data := #[] }, .string { data := #[] }, .slice none 0 0, .slice none 0 0, .slice none 0 0, .slice none 0 0] 54))
  have HC := Lib.hid (open_any a c l 113 49 (W.alloc (.cells #[.string { data := #[] }, .int .u64 0, .int .i64 0, .int .i64 0, .string { data := #[] }, .int .u64 0, .string { data := #[] }, .string { data := #[] }, .string { data := #[] }, .string { data := #[] }, .slice none 0 0, .slice none 0 0, .slice none 0 0, .slice none 0 0] 54)) hl (h.below HB0.out))
  clear h
  go_enter Tryz.func12, Tryz.ntmps12
  go_wp2_with fail
  refine HC.out.mono ?_
  clear HC
  generalize (W.alloc (.cells #[.string { data := #[] }, .int .u64 0, .int .i64 0, .int .i64 0, .string { data := #[] }, .int .u64 0, .string { data := #[] }, .string { data := #[] }, .string { data := #[] }, .string { data := #[] }, .slice none 0 0, .slice none 0 0, .slice none 0 0, .slice none 0 0] 54)) = W0 at *
  obtain ⟨x, hx⟩ : ∃ x, x = W.heap.size := ⟨_, rfl⟩
  rw [← hx] at HX0
  rw [← hx]
  have hxs : W.heap.size ≤ x := by omega
  have hx0 := heap_lt HX0.out
  have HEx := Lib.hid hx
  clear hx
  rintro e Wo ⟨g, bb, r, odd, rfl, hbo, hro, hgo, hbbo, hrl, hcase⟩
  have hxg : x ≠ g := by omega
  have hxb : x ≠ bb := by omega
  have hWg : W.heap.size ≤ g := by omega
  have HXo := Lib.hid ((hbo.block x hx0).trans HX0.out)
  have HBo := Lib.hid (HB0.out.trans (hbo.mono HB0.out.size))
  have HCase := Lib.hid hcase
  have HC := Lib.hid (rtxt_any g bb Wo r 0 odd (by omega) hro)
  clear hbo hro hcase
  go_wp2_with fail
  refine HC.out.mono ?_
  clear HC
  rintro e W1 ⟨cl, l1, o1, rfl, hg, hr, hm1, st1⟩
  have HX1 := Lib.hid (grown_block hg HXo.out hxg)
  have HB1 := Lib.hid (below_on HBo.out hg HBo.out.size hWg)
  have HT1 := Lib.hid st1
  have hl1 := st1.len
  obtain ⟨V, hV⟩ : ∃ V, V = W1.alloc (.cells #[.string cl, .int .u64 0, .int .i64 0, .int .i64 0, .string { data := #[] }, .int .u64 0, .string { data := #[] }, .string { data := #[] }, .string { data := #[] }, .string { data := #[] }, .slice none 0 0, .slice none 0 0, .slice none 0 0, .slice none 0 0] 54) := ⟨_, rfl⟩
  have HX1s : Hid (V.heap[x]? = some (.cells #[.string { data := #[] }, .int .u64 0, .int .i64 0, .int .i64 0, .string { data := #[] }, .int .u64 0, .string { data := #[] }, .string { data := #[] }, .string { data := #[] }, .string { data := #[] }, .slice none 0 0, .slice none 0 0, .slice none 0 0, .slice none 0 0] 54 (0, 0))) := by
    show V.heap[x]? = _
    rw [hV]; exact (((Below.refl W1.heap.size W1).alloc (Nat.le_refl _) (.cells #[.string cl, .int .u64 0, .int .i64 0, .int .i64 0, .string { data := #[] }, .int .u64 0, .string { data := #[] }, .string { data := #[] }, .string { data := #[] }, .string { data := #[] }, .slice none 0 0, .slice none 0 0, .slice none 0 0, .slice none 0 0] 54)).block x (heap_lt HX1.out)).trans HX1.out
  have HY1s : Hid (V.heap[W1.heap.size]? = some (.cells #[.string cl, .int .u64 0, .int .i64 0, .int .i64 0, .string { data := #[] }, .int .u64 0, .string { data := #[] }, .string { data := #[] }, .string { data := #[] }, .string { data := #[] }, .slice none 0 0, .slice none 0 0, .slice none 0 0, .slice none 0 0] 54 (0, 0))) := by
    show V.heap[W1.heap.size]? = _
    rw [hV]; exact heap_alloc_new W1 (.cells #[.string cl, .int .u64 0, .int .i64 0, .int .i64 0, .string { data := #[] }, .int .u64 0, .string { data := #[] }, .string { data := #[] }, .string { data := #[] }, .string { data := #[] }, .slice none 0 0, .slice none 0 0, .slice none 0 0, .slice none 0 0] 54)
  have hrV : RAt V g bb l1 0 o1 := by rw [hV]; exact hr.alloc _
  have HB1s : Hid (Below W.heap.size W V) := by
    show Below _ _ _
    rw [hV]; exact HB1.out.alloc HB1.out.size _
  have HC := Lib.hid (rnum_any g bb V l1 0 o1 (by omega) hrV)
  obtain ⟨y, hy⟩ : ∃ y, y = W1.heap.size := ⟨_, rfl⟩
  have hyx : y ≠ x := by
    have := heap_lt HX1.out
    omega
  have hyg : y ≠ g := by
    have := hr.lt
    omega
  have hyb : y ≠ bb := by
    have := hr.bbl
    omega
  have hyW : W.heap.size ≤ y := by
    have := HB1.out.size
    omega
  have HHy := Lib.hid hy
  have HV := Lib.hid hV
  have HgV := Lib.hid hrV.lt
  clear hg hr hrV hy hV hm1 st1
  simp only [txtV]
  go_wp2_with fail
  rw [← HV.out, ← HHy.out]
  rw [← HHy.out] at HY1s
  have HyV := Lib.hid (heap_lt HY1s.out)
  have HxV := Lib.hid (heap_lt HX1s.out)
  have HVs1 : Hid (V.heap.size ≤ V.heap.size) := Nat.le_refl _
  refine HC.out.mono ?_
  clear HC
  rintro e W2 ⟨id, l2, o2, rfl, hg, hr, hm2, st2⟩
  have HX2 := Lib.hid (grown_block hg HX1s.out hxg)
  have HY2 := Lib.hid (grown_block hg HY1s.out hyg)
  have HB2 := Lib.hid (below_on HB1s.out hg HB1s.out.size hWg)
  have HT2 := Lib.hid st2
  have hl2 := st2.len
  have hrs := hr
  have hgs0 := grown_cell W2 y 1 (.int .u64 (id : Int))
  have HX2s0 := Lib.hid (grown_block hgs0 HX2.out hyx.symm)
  have HY2s0 : Hid ((W2.setCell ⟨y, 1, none⟩ (.int .u64 (id : Int))).heap[y]? = some (.cells #[.string cl, .int .u64 (id : Int), .int .i64 0, .int .i64 0, .string { data := #[] }, .int .u64 0, .string { data := #[] }, .string { data := #[] }, .string { data := #[] }, .string { data := #[] }, .slice none 0 0, .slice none 0 0, .slice none 0 0, .slice none 0 0] 54 (0, 0))) := heap_setCell_same W2 y 1 _ 54 _ HY2.out
  have HB2s0 := Lib.hid (below_on HB2.out hgs0 HB2.out.size hyW)
  have hrs := hrs.other hgs0 hyg hyb
  have cy0 := heap_cell HY2.out 1
  simp at cy0
  have fy0 := frozen_of_row W2 y 1 _ _ HY2.out
  have HX2s := HX2s0
  have HY2s := HY2s0
  have HB2s := HB2s0
  have HVs2 : Hid (V.heap.size ≤ (W2.setCell ⟨y, 1, none⟩ (.int .u64 (id : Int))).heap.size) := Nat.le_trans HVs1.out (Nat.le_trans hg.size hgs0.size)
  have HC := Lib.hid (rint_any g bb _ l2 0 o2 (by omega) hrs)
  clear hg hr hrs st2 hm2 hgs0
  simp only [numV]
  go_wp2_with fail
  clear cy0 fy0
  refine HC.out.mono ?_
  clear HC
  rintro e W3 ⟨kd, l3, o3, rfl, hg, hr, hm3, st3⟩
  have HX3 := Lib.hid (grown_block hg HX2s.out hxg)
  have HY3 := Lib.hid (grown_block hg HY2s.out hyg)
  have HB3 := Lib.hid (below_on HB2s.out hg HB2s.out.size hWg)
  have HT3 := Lib.hid st3
  have hl3 := st3.len
  have hrs := hr
  have hgs0 := grown_cell W3 y 2 (.int .i64 kd)
  have HX3s0 := Lib.hid (grown_block hgs0 HX3.out hyx.symm)
  have HY3s0 : Hid ((W3.setCell ⟨y, 2, none⟩ (.int .i64 kd)).heap[y]? = some (.cells #[.string cl, .int .u64 (id : Int), .int .i64 kd, .int .i64 0, .string { data := #[] }, .int .u64 0, .string { data := #[] }, .string { data := #[] }, .string { data := #[] }, .string { data := #[] }, .slice none 0 0, .slice none 0 0, .slice none 0 0, .slice none 0 0] 54 (0, 0))) := heap_setCell_same W3 y 2 _ 54 _ HY3.out
  have HB3s0 := Lib.hid (below_on HB3.out hgs0 HB3.out.size hyW)
  have hrs := hrs.other hgs0 hyg hyb
  have cy0 := heap_cell HY3.out 2
  simp at cy0
  have fy0 := frozen_of_row W3 y 2 _ _ HY3.out
  have HX3s := HX3s0
  have HY3s := HY3s0
  have HB3s := HB3s0
  have HVs3 : Hid (V.heap.size ≤ (W3.setCell ⟨y, 2, none⟩ (.int .i64 kd)).heap.size) := Nat.le_trans HVs2.out (Nat.le_trans hg.size hgs0.size)
  have HC := Lib.hid (rint_any g bb _ l3 0 o3 (by omega) hrs)
  clear hg hr hrs st3 hm3 hgs0
  simp only [intV]
  go_wp2_with fail
  clear cy0 fy0
  refine HC.out.mono ?_
  clear HC
  rintro e W4 ⟨hw, l4, o4, rfl, hg, hr, hm4, st4⟩
  have HX4 := Lib.hid (grown_block hg HX3s.out hxg)
  have HY4 := Lib.hid (grown_block hg HY3s.out hyg)
  have HB4 := Lib.hid (below_on HB3s.out hg HB3s.out.size hWg)
  have HT4 := Lib.hid st4
  have hl4 := st4.len
  have hrs := hr
  have hgs0 := grown_cell W4 y 3 (.int .i64 hw)
  have HX4s0 := Lib.hid (grown_block hgs0 HX4.out hyx.symm)
  have HY4s0 : Hid ((W4.setCell ⟨y, 3, none⟩ (.int .i64 hw)).heap[y]? = some (.cells #[.string cl, .int .u64 (id : Int), .int .i64 kd, .int .i64 hw, .string { data := #[] }, .int .u64 0, .string { data := #[] }, .string { data := #[] }, .string { data := #[] }, .string { data := #[] }, .slice none 0 0, .slice none 0 0, .slice none 0 0, .slice none 0 0] 54 (0, 0))) := heap_setCell_same W4 y 3 _ 54 _ HY4.out
  have HB4s0 := Lib.hid (below_on HB4.out hgs0 HB4.out.size hyW)
  have hrs := hrs.other hgs0 hyg hyb
  have cy0 := heap_cell HY4.out 3
  simp at cy0
  have fy0 := frozen_of_row W4 y 3 _ _ HY4.out
  have HX4s := HX4s0
  have HY4s := HY4s0
  have HB4s := HB4s0
  have HVs4 : Hid (V.heap.size ≤ (W4.setCell ⟨y, 3, none⟩ (.int .i64 hw)).heap.size) := Nat.le_trans HVs3.out (Nat.le_trans hg.size hgs0.size)
  have HC := Lib.hid (rtxt_any g bb _ l4 0 o4 (by omega) hrs)
  clear hg hr hrs st4 hm4 hgs0
  simp only [intV]
  go_wp2_with fail
  clear cy0 fy0
  refine HC.out.mono ?_
  clear HC
  rintro e W5 ⟨tk, l5, o5, rfl, hg, hr, hm5, st5⟩
  have HX5 := Lib.hid (grown_block hg HX4s.out hxg)
  have HY5 := Lib.hid (grown_block hg HY4s.out hyg)
  have HB5 := Lib.hid (below_on HB4s.out hg HB4s.out.size hWg)
  have HT5 := Lib.hid st5
  have hl5 := st5.len
  have hrs := hr
  have hgs0 := grown_cell W5 y 4 (.string tk)
  have HX5s0 := Lib.hid (grown_block hgs0 HX5.out hyx.symm)
  have HY5s0 : Hid ((W5.setCell ⟨y, 4, none⟩ (.string tk)).heap[y]? = some (.cells #[.string cl, .int .u64 (id : Int), .int .i64 kd, .int .i64 hw, .string tk, .int .u64 0, .string { data := #[] }, .string { data := #[] }, .string { data := #[] }, .string { data := #[] }, .slice none 0 0, .slice none 0 0, .slice none 0 0, .slice none 0 0] 54 (0, 0))) := heap_setCell_same W5 y 4 _ 54 _ HY5.out
  have HB5s0 := Lib.hid (below_on HB5.out hgs0 HB5.out.size hyW)
  have hrs := hrs.other hgs0 hyg hyb
  have cy0 := heap_cell HY5.out 4
  simp at cy0
  have fy0 := frozen_of_row W5 y 4 _ _ HY5.out
  have HX5s := HX5s0
  have HY5s := HY5s0
  have HB5s := HB5s0
  have HVs5 : Hid (V.heap.size ≤ (W5.setCell ⟨y, 4, none⟩ (.string tk)).heap.size) := Nat.le_trans HVs4.out (Nat.le_trans hg.size hgs0.size)
  have HC := Lib.hid (rnum_any g bb _ l5 0 o5 (by omega) hrs)
  clear hg hr hrs st5 hm5 hgs0
  simp only [txtV]
  go_wp2_with fail
  clear cy0 fy0
  refine HC.out.mono ?_
  clear HC
  rintro e W6 ⟨n, l6, o6, rfl, hg, hr, hm6, st6⟩
  have HX6 := Lib.hid (grown_block hg HX5s.out hxg)
  have HY6 := Lib.hid (grown_block hg HY5s.out hyg)
  have HB6 := Lib.hid (below_on HB5s.out hg HB5s.out.size hWg)
  have HT6 := Lib.hid st6
  have hl6 := st6.len
  have hrs := hr
  have hgs0 := grown_cell W6 y 5 (.int .u64 (n : Int))
  have HX6s0 := Lib.hid (grown_block hgs0 HX6.out hyx.symm)
  have HY6s0 : Hid ((W6.setCell ⟨y, 5, none⟩ (.int .u64 (n : Int))).heap[y]? = some (.cells #[.string cl, .int .u64 (id : Int), .int .i64 kd, .int .i64 hw, .string tk, .int .u64 (n : Int), .string { data := #[] }, .string { data := #[] }, .string { data := #[] }, .string { data := #[] }, .slice none 0 0, .slice none 0 0, .slice none 0 0, .slice none 0 0] 54 (0, 0))) := heap_setCell_same W6 y 5 _ 54 _ HY6.out
  have HB6s0 := Lib.hid (below_on HB6.out hgs0 HB6.out.size hyW)
  have hrs := hrs.other hgs0 hyg hyb
  have cy0 := heap_cell HY6.out 5
  simp at cy0
  have fy0 := frozen_of_row W6 y 5 _ _ HY6.out
  have HX6s := HX6s0
  have HY6s := HY6s0
  have HB6s := HB6s0
  have HVs6 : Hid (V.heap.size ≤ (W6.setCell ⟨y, 5, none⟩ (.int .u64 (n : Int))).heap.size) := Nat.le_trans HVs5.out (Nat.le_trans hg.size hgs0.size)
  have HC := Lib.hid (rtxt_any g bb _ l6 0 o6 (by omega) hrs)
  clear hg hr hrs st6 hm6 hgs0
  simp only [numV]
  go_wp2_with fail
  clear cy0 fy0
  refine HC.out.mono ?_
  clear HC
  rintro e W7 ⟨ty, l7, o7, rfl, hg, hr, hm7, st7⟩
  have HX7 := Lib.hid (grown_block hg HX6s.out hxg)
  have HY7 := Lib.hid (grown_block hg HY6s.out hyg)
  have HB7 := Lib.hid (below_on HB6s.out hg HB6s.out.size hWg)
  have HT7 := Lib.hid st7
  have hl7 := st7.len
  have hrs := hr
  have hgs0 := grown_cell W7 y 6 (.string ty)
  have HX7s0 := Lib.hid (grown_block hgs0 HX7.out hyx.symm)
  have HY7s0 : Hid ((W7.setCell ⟨y, 6, none⟩ (.string ty)).heap[y]? = some (.cells #[.string cl, .int .u64 (id : Int), .int .i64 kd, .int .i64 hw, .string tk, .int .u64 (n : Int), .string ty, .string { data := #[] }, .string { data := #[] }, .string { data := #[] }, .slice none 0 0, .slice none 0 0, .slice none 0 0, .slice none 0 0] 54 (0, 0))) := heap_setCell_same W7 y 6 _ 54 _ HY7.out
  have HB7s0 := Lib.hid (below_on HB7.out hgs0 HB7.out.size hyW)
  have hrs := hrs.other hgs0 hyg hyb
  have cy0 := heap_cell HY7.out 6
  simp at cy0
  have fy0 := frozen_of_row W7 y 6 _ _ HY7.out
  have HX7s := HX7s0
  have HY7s := HY7s0
  have HB7s := HB7s0
  have HVs7 : Hid (V.heap.size ≤ (W7.setCell ⟨y, 6, none⟩ (.string ty)).heap.size) := Nat.le_trans HVs6.out (Nat.le_trans hg.size hgs0.size)
  have HR7 := Lib.hid hrs
  clear hg hr hrs st7 hm7 hgs0
  simp only [txtV]
  go_wp2_with fail
  have HL0 : Hid (FSt 0 { data := #[] } { data := #[] } { data := #[] } l7 o7 l7 o7) := .inl ⟨rfl, rfl, rfl⟩
  have hy14 : y < W7.heap.size := heap_lt HY7.out
  go_loopw [38] (fun iv wr => ∃ (j : Nat) (fa fb fc : ByteArray) (lj : List UInt8) (oj : Bool), iv = .int .i64 j ∧ j ≤ 3 ∧ Hid (wr.heap[x]? = some (.cells #[.string { data := #[] }, .int .u64 0, .int .i64 0, .int .i64 0, .string { data := #[] }, .int .u64 0, .string { data := #[] }, .string { data := #[] }, .string { data := #[] }, .string { data := #[] }, .slice none 0 0, .slice none 0 0, .slice none 0 0, .slice none 0 0] 54 (0, 0)) ∧ wr.heap[y]? = some (.cells #[.string cl, .int .u64 (id : Int), .int .i64 kd, .int .i64 hw, .string tk, .int .u64 (n : Int), .string ty, .string fa, .string fb, .string fc, .slice none 0 0, .slice none 0 0, .slice none 0 0, .slice none 0 0] 54 (0, 0)) ∧ Below W.heap.size W wr ∧ V.heap.size ≤ wr.heap.size ∧ RAt wr g bb lj 0 oj ∧ FSt j fa fb fc l7 o7 lj oj)) (fun iv _ => 3 - (intOf iv).toNat)
  case atStart => exact ⟨0, _, _, _, l7, o7, rfl, by omega, HX7s.out, HY7s.out, HB7s.out, HVs7.out, HR7.out, HL0.out⟩
  case round =>
    clear HL0 cy0 fy0 hy14
    obtain ⟨j, fa, fb, fc, lj, oj, rfl, hj, hst⟩ := hrel
    obtain ⟨hxr, hyr, hbr, hsr, hrr, hfr⟩ := hst.out
    have hlj := hfr.len
    have HXr := Lib.hid hxr
    have HYr := Lib.hid hyr
    have HBr := Lib.hid hbr
    have HFr := Lib.hid hfr
    have HSr := Lib.hid hsr
    clear hst hxr hyr hbr hfr hsr
    by_cases hj0 : j = 0
    · subst hj0
      have HC := Lib.hid (rtxt_any g bb wr lj 0 oj (by omega) hrr)
      have hix : ∀ W, (Instr.index 145 (.agg #[.pointer (some ⟨y, 7, none⟩), .pointer (some ⟨y, 8, none⟩), .pointer (some ⟨y, 9, none⟩)]) (.int .i64 0)).run Tryz.prog W = .ok (.pointer (some ⟨y, 7, none⟩)) W := fun W => index3 _ _ _ W 0 (by decide)
      clear hrr
      go_wp2_with fail
      refine HC.out.mono ?_
      clear HC
      rintro ee wn ⟨v, l8, o8, rfl, hgn, hrn, _, stn⟩
      have hxn := grown_block hgn HXr.out hxg
      have hyn := grown_block hgn HYr.out hyg
      have cyn := heap_cell hyn 7
      simp at cyn
      have fyn := frozen_of_row wn y 7 _ _ hyn
      have hgs := grown_cell wn y 7 (.string v)
      have HRN : Hid ((wn.setCell ⟨y, 7, none⟩ (.string v)).heap[x]? = some (.cells #[.string { data := #[] }, .int .u64 0, .int .i64 0, .int .i64 0, .string { data := #[] }, .int .u64 0, .string { data := #[] }, .string { data := #[] }, .string { data := #[] }, .string { data := #[] }, .slice none 0 0, .slice none 0 0, .slice none 0 0, .slice none 0 0] 54 (0, 0)) ∧ (wn.setCell ⟨y, 7, none⟩ (.string v)).heap[y]? = some (.cells #[.string cl, .int .u64 (id : Int), .int .i64 kd, .int .i64 hw, .string tk, .int .u64 (n : Int), .string ty, .string v, .string fb, .string fc, .slice none 0 0, .slice none 0 0, .slice none 0 0, .slice none 0 0] 54 (0, 0)) ∧ Below W.heap.size W (wn.setCell ⟨y, 7, none⟩ (.string v)) ∧ V.heap.size ≤ (wn.setCell ⟨y, 7, none⟩ (.string v)).heap.size ∧ RAt (wn.setCell ⟨y, 7, none⟩ (.string v)) g bb l8 0 o8 ∧ FSt 1 v fb fc l7 o7 l8 o8) :=
        ⟨grown_block hgs hxn hyx.symm, heap_setCell_same wn y 7 _ 54 _ hyn, below_on (below_on HBr.out hgn HBr.out.size hWg) hgs (below_on HBr.out hgn HBr.out.size hWg).size hyW, Nat.le_trans HSr.out (Nat.le_trans hgn.size hgs.size), hrn.other hgs hyg hyb, HFr.out.one stn⟩
      clear hxn hyn hgs hgn hrn stn
      simp only [txtV]
      go_wp2_with fail
      go_roundw
      case rel => exact ⟨1, v, fb, fc, l8, o8, by first | rfl | go_num, by omega, HRN⟩
      case measure => first | (simp [intOf]; done) | (simp [intOf]; omega)
    by_cases hj1 : j = 1
    · subst hj1
      have HC := Lib.hid (rtxt_any g bb wr lj 0 oj (by omega) hrr)
      have hix : ∀ W, (Instr.index 145 (.agg #[.pointer (some ⟨y, 7, none⟩), .pointer (some ⟨y, 8, none⟩), .pointer (some ⟨y, 9, none⟩)]) (.int .i64 1)).run Tryz.prog W = .ok (.pointer (some ⟨y, 8, none⟩)) W := fun W => index3 _ _ _ W 1 (by decide)
      clear hrr
      go_wp2_with fail
      refine HC.out.mono ?_
      clear HC
      rintro ee wn ⟨v, l8, o8, rfl, hgn, hrn, _, stn⟩
      have hxn := grown_block hgn HXr.out hxg
      have hyn := grown_block hgn HYr.out hyg
      have cyn := heap_cell hyn 8
      simp at cyn
      have fyn := frozen_of_row wn y 8 _ _ hyn
      have hgs := grown_cell wn y 8 (.string v)
      have HRN : Hid ((wn.setCell ⟨y, 8, none⟩ (.string v)).heap[x]? = some (.cells #[.string { data := #[] }, .int .u64 0, .int .i64 0, .int .i64 0, .string { data := #[] }, .int .u64 0, .string { data := #[] }, .string { data := #[] }, .string { data := #[] }, .string { data := #[] }, .slice none 0 0, .slice none 0 0, .slice none 0 0, .slice none 0 0] 54 (0, 0)) ∧ (wn.setCell ⟨y, 8, none⟩ (.string v)).heap[y]? = some (.cells #[.string cl, .int .u64 (id : Int), .int .i64 kd, .int .i64 hw, .string tk, .int .u64 (n : Int), .string ty, .string fa, .string v, .string fc, .slice none 0 0, .slice none 0 0, .slice none 0 0, .slice none 0 0] 54 (0, 0)) ∧ Below W.heap.size W (wn.setCell ⟨y, 8, none⟩ (.string v)) ∧ V.heap.size ≤ (wn.setCell ⟨y, 8, none⟩ (.string v)).heap.size ∧ RAt (wn.setCell ⟨y, 8, none⟩ (.string v)) g bb l8 0 o8 ∧ FSt 2 fa v fc l7 o7 l8 o8) :=
        ⟨grown_block hgs hxn hyx.symm, heap_setCell_same wn y 8 _ 54 _ hyn, below_on (below_on HBr.out hgn HBr.out.size hWg) hgs (below_on HBr.out hgn HBr.out.size hWg).size hyW, Nat.le_trans HSr.out (Nat.le_trans hgn.size hgs.size), hrn.other hgs hyg hyb, HFr.out.two stn⟩
      clear hxn hyn hgs hgn hrn stn
      simp only [txtV]
      go_wp2_with fail
      go_roundw
      case rel => exact ⟨2, fa, v, fc, l8, o8, by first | rfl | go_num, by omega, HRN⟩
      case measure => first | (simp [intOf]; done) | (simp [intOf]; omega)
    by_cases hj2 : j = 2
    · subst hj2
      have HC := Lib.hid (rtxt_any g bb wr lj 0 oj (by omega) hrr)
      have hix : ∀ W, (Instr.index 145 (.agg #[.pointer (some ⟨y, 7, none⟩), .pointer (some ⟨y, 8, none⟩), .pointer (some ⟨y, 9, none⟩)]) (.int .i64 2)).run Tryz.prog W = .ok (.pointer (some ⟨y, 9, none⟩)) W := fun W => index3 _ _ _ W 2 (by decide)
      clear hrr
      go_wp2_with fail
      refine HC.out.mono ?_
      clear HC
      rintro ee wn ⟨v, l8, o8, rfl, hgn, hrn, _, stn⟩
      have hxn := grown_block hgn HXr.out hxg
      have hyn := grown_block hgn HYr.out hyg
      have cyn := heap_cell hyn 9
      simp at cyn
      have fyn := frozen_of_row wn y 9 _ _ hyn
      have hgs := grown_cell wn y 9 (.string v)
      have HRN : Hid ((wn.setCell ⟨y, 9, none⟩ (.string v)).heap[x]? = some (.cells #[.string { data := #[] }, .int .u64 0, .int .i64 0, .int .i64 0, .string { data := #[] }, .int .u64 0, .string { data := #[] }, .string { data := #[] }, .string { data := #[] }, .string { data := #[] }, .slice none 0 0, .slice none 0 0, .slice none 0 0, .slice none 0 0] 54 (0, 0)) ∧ (wn.setCell ⟨y, 9, none⟩ (.string v)).heap[y]? = some (.cells #[.string cl, .int .u64 (id : Int), .int .i64 kd, .int .i64 hw, .string tk, .int .u64 (n : Int), .string ty, .string fa, .string fb, .string v, .slice none 0 0, .slice none 0 0, .slice none 0 0, .slice none 0 0] 54 (0, 0)) ∧ Below W.heap.size W (wn.setCell ⟨y, 9, none⟩ (.string v)) ∧ V.heap.size ≤ (wn.setCell ⟨y, 9, none⟩ (.string v)).heap.size ∧ RAt (wn.setCell ⟨y, 9, none⟩ (.string v)) g bb l8 0 o8 ∧ FSt 3 fa fb v l7 o7 l8 o8) :=
        ⟨grown_block hgs hxn hyx.symm, heap_setCell_same wn y 9 _ 54 _ hyn, below_on (below_on HBr.out hgn HBr.out.size hWg) hgs (below_on HBr.out hgn HBr.out.size hWg).size hyW, Nat.le_trans HSr.out (Nat.le_trans hgn.size hgs.size), hrn.other hgs hyg hyb, HFr.out.three stn⟩
      clear hxn hyn hgs hgn hrn stn
      simp only [txtV]
      go_wp2_with fail
      go_roundw
      case rel => exact ⟨3, fa, fb, v, l8, o8, by first | rfl | go_num, by omega, HRN⟩
      case measure => first | (simp [intOf]; done) | (simp [intOf]; omega)
    obtain rfl : j = 3 := by omega
    have HX8s := HXr
    have HVs8 : Hid (V.heap.size ≤ wr.heap.size) := HSr.out
    have HY8s := HYr
    have HB8s := HBr
    have HT8 : Hid (RSt triE triok nobad l7 0 o7 (fa, fb, fc) lj oj) := HFr.out.tri
    have hl8 := hlj
    have HC := Lib.hid (iwrt_any g bb wr lj 0 oj (by omega) hrr)
    clear hrr HFr
    go_wp2_with fail
    refine HC.out.mono ?_
    clear HC
    rintro e W9 ⟨ws, l9, o9, rfl, hg, hr, hm9, st9⟩
    have HX9 := Lib.hid (grown_block hg HX8s.out hxg)
    have HY9 := Lib.hid (grown_block hg HY8s.out hyg)
    have HB9 := Lib.hid (below_on HB8s.out hg HB8s.out.size hWg)
    have HT9 := Lib.hid st9
    have hl9 := st9.len
    have hrs := hr
    have hgs0 := grown_cell W9 y 10 (.slice ws.a ws.xs.length ws.c)
    have HX9s0 := Lib.hid (grown_block hgs0 HX9.out hyx.symm)
    have HY9s0 : Hid ((W9.setCell ⟨y, 10, none⟩ (.slice ws.a ws.xs.length ws.c)).heap[y]? = some (.cells #[.string cl, .int .u64 (id : Int), .int .i64 kd, .int .i64 hw, .string tk, .int .u64 (n : Int), .string ty, .string fa, .string fb, .string fc, .slice ws.a ws.xs.length ws.c, .slice none 0 0, .slice none 0 0, .slice none 0 0] 54 (0, 0))) := heap_setCell_same W9 y 10 _ 54 _ HY9.out
    have HB9s0 := Lib.hid (below_on HB9.out hgs0 HB9.out.size hyW)
    have hrs := hrs.other hgs0 hyg hyb
    have cy0 := heap_cell HY9.out 10
    simp at cy0
    have fy0 := frozen_of_row W9 y 10 _ _ HY9.out
    have HX9s := HX9s0
    have HY9s := HY9s0
    have HB9s := HB9s0
    have hst1 := stays_of hg HgV.out
    have hst2 := stays_of (grownBy_trans (grown_refl W9 y) hgs0) HyV.out
    have HM9 := Lib.hid ((lsmem_ok (cells := wrtC) (size := 7) nomem_ok).stays ((lsmem_ok (cells := wrtC) (size := 7) nomem_ok).weak (S' := fun b => V.heap.size ≤ b) (fun b hb => Nat.le_trans HVs8.out hb) hm9) hst2)
    have HVs9 : Hid (V.heap.size ≤ (W9.setCell ⟨y, 10, none⟩ (.slice ws.a ws.xs.length ws.c)).heap.size) := Nat.le_trans HVs8.out (Nat.le_trans hg.size (grownBy_trans (grown_refl W9 y) hgs0).size)
    have HC := Lib.hid (ipre_any g bb _ l9 0 o9 (by omega) hrs)
    clear hg hr hrs st9 hm9 hgs0 hst1 hst2
    simp only [lsV]
    go_wp2_with fail
    clear cy0 fy0
    refine HC.out.mono ?_
    clear HC
    rintro e W10 ⟨ps, l10, o10, rfl, hg, hr, hm10, st10⟩
    have HX10 := Lib.hid (grown_block hg HX9s.out hxg)
    have HY10 := Lib.hid (grown_block hg HY9s.out hyg)
    have HB10 := Lib.hid (below_on HB9s.out hg HB9s.out.size hWg)
    have HT10 := Lib.hid st10
    have hl10 := st10.len
    have hrs := hr
    have hgs0 := grown_cell W10 y 11 (.slice ps.a ps.xs.length ps.c)
    have HX10s0 := Lib.hid (grown_block hgs0 HX10.out hyx.symm)
    have HY10s0 : Hid ((W10.setCell ⟨y, 11, none⟩ (.slice ps.a ps.xs.length ps.c)).heap[y]? = some (.cells #[.string cl, .int .u64 (id : Int), .int .i64 kd, .int .i64 hw, .string tk, .int .u64 (n : Int), .string ty, .string fa, .string fb, .string fc, .slice ws.a ws.xs.length ws.c, .slice ps.a ps.xs.length ps.c, .slice none 0 0, .slice none 0 0] 54 (0, 0))) := heap_setCell_same W10 y 11 _ 54 _ HY10.out
    have HB10s0 := Lib.hid (below_on HB10.out hgs0 HB10.out.size hyW)
    have hrs := hrs.other hgs0 hyg hyb
    have cy0 := heap_cell HY10.out 11
    simp at cy0
    have fy0 := frozen_of_row W10 y 11 _ _ HY10.out
    have HX10s := HX10s0
    have HY10s := HY10s0
    have HB10s := HB10s0
    have hst1 := stays_of hg HgV.out
    have hst2 := stays_of (grownBy_trans (grown_refl W10 y) hgs0) HyV.out
    have HM9_10 := Lib.hid ((lsmem_ok (cells := wrtC) (size := 7) nomem_ok).stays ((lsmem_ok (cells := wrtC) (size := 7) nomem_ok).stays HM9.out hst1) hst2)
    have HM10 := Lib.hid ((lsmem_ok (cells := wrtC) (size := 7) nomem_ok).stays ((lsmem_ok (cells := wrtC) (size := 7) nomem_ok).weak (S' := fun b => V.heap.size ≤ b) (fun b hb => Nat.le_trans HVs9.out hb) hm10) hst2)
    have HVs10 : Hid (V.heap.size ≤ (W10.setCell ⟨y, 11, none⟩ (.slice ps.a ps.xs.length ps.c)).heap.size) := Nat.le_trans HVs9.out (Nat.le_trans hg.size (grownBy_trans (grown_refl W10 y) hgs0).size)
    have HC := Lib.hid (iask_any g bb _ l10 0 o10 (by omega) hrs)
    clear hg hr hrs st10 hm10 hgs0 hst1 hst2
    simp only [lsV]
    go_wp2_with fail
    clear cy0 fy0
    refine HC.out.mono ?_
    clear HC
    rintro e W11 ⟨ks, l11, o11, rfl, hg, hr, hm11, st11⟩
    have HX11 := Lib.hid (grown_block hg HX10s.out hxg)
    have HY11 := Lib.hid (grown_block hg HY10s.out hyg)
    have HB11 := Lib.hid (below_on HB10s.out hg HB10s.out.size hWg)
    have HT11 := Lib.hid st11
    have hl11 := st11.len
    have hrs := hr
    have hgs0 := grown_cell W11 y 12 (.slice ks.a ks.xs.length ks.c)
    have HX11s0 := Lib.hid (grown_block hgs0 HX11.out hyx.symm)
    have HY11s0 : Hid ((W11.setCell ⟨y, 12, none⟩ (.slice ks.a ks.xs.length ks.c)).heap[y]? = some (.cells #[.string cl, .int .u64 (id : Int), .int .i64 kd, .int .i64 hw, .string tk, .int .u64 (n : Int), .string ty, .string fa, .string fb, .string fc, .slice ws.a ws.xs.length ws.c, .slice ps.a ps.xs.length ps.c, .slice ks.a ks.xs.length ks.c, .slice none 0 0] 54 (0, 0))) := heap_setCell_same W11 y 12 _ 54 _ HY11.out
    have HB11s0 := Lib.hid (below_on HB11.out hgs0 HB11.out.size hyW)
    have hrs := hrs.other hgs0 hyg hyb
    have cy0 := heap_cell HY11.out 12
    simp at cy0
    have fy0 := frozen_of_row W11 y 12 _ _ HY11.out
    have HX11s := HX11s0
    have HY11s := HY11s0
    have HB11s := HB11s0
    have hst1 := stays_of hg HgV.out
    have hst2 := stays_of (grownBy_trans (grown_refl W11 y) hgs0) HyV.out
    have HM9_10_11 := Lib.hid ((lsmem_ok (cells := wrtC) (size := 7) nomem_ok).stays ((lsmem_ok (cells := wrtC) (size := 7) nomem_ok).stays HM9_10.out hst1) hst2)
    have HM10_11 := Lib.hid ((lsmem_ok (cells := wrtC) (size := 7) nomem_ok).stays ((lsmem_ok (cells := wrtC) (size := 7) nomem_ok).stays HM10.out hst1) hst2)
    have HM11 := Lib.hid ((lsmem_ok (cells := sixC) (size := 6) nomem_ok).stays ((lsmem_ok (cells := sixC) (size := 6) nomem_ok).weak (S' := fun b => V.heap.size ≤ b) (fun b hb => Nat.le_trans HVs10.out hb) hm11) hst2)
    have HVs11 : Hid (V.heap.size ≤ (W11.setCell ⟨y, 12, none⟩ (.slice ks.a ks.xs.length ks.c)).heap.size) := Nat.le_trans HVs10.out (Nat.le_trans hg.size (grownBy_trans (grown_refl W11 y) hgs0).size)
    have HC := Lib.hid (iarg_any g bb _ l11 0 o11 (by omega) hrs)
    clear hg hr hrs st11 hm11 hgs0 hst1 hst2
    simp only [lsV]
    go_wp2_with fail
    clear cy0 fy0
    refine HC.out.mono ?_
    clear HC
    rintro e W12 ⟨gs, l12, o12, rfl, hg, hr, hm12, st12⟩
    have HX12 := Lib.hid (grown_block hg HX11s.out hxg)
    have HY12 := Lib.hid (grown_block hg HY11s.out hyg)
    have HB12 := Lib.hid (below_on HB11s.out hg HB11s.out.size hWg)
    have HT12 := Lib.hid st12
    have hl12 := st12.len
    have hrs := hr
    have hgs0 := grown_cell W12 y 13 (.slice gs.a gs.xs.length gs.c)
    have HX12s0 := Lib.hid (grown_block hgs0 HX12.out hyx.symm)
    have HY12s0 : Hid ((W12.setCell ⟨y, 13, none⟩ (.slice gs.a gs.xs.length gs.c)).heap[y]? = some (.cells #[.string cl, .int .u64 (id : Int), .int .i64 kd, .int .i64 hw, .string tk, .int .u64 (n : Int), .string ty, .string fa, .string fb, .string fc, .slice ws.a ws.xs.length ws.c, .slice ps.a ps.xs.length ps.c, .slice ks.a ks.xs.length ks.c, .slice gs.a gs.xs.length gs.c] 54 (0, 0))) := heap_setCell_same W12 y 13 _ 54 _ HY12.out
    have HB12s0 := Lib.hid (below_on HB12.out hgs0 HB12.out.size hyW)
    have hrs := hrs.other hgs0 hyg hyb
    have cy0 := heap_cell HY12.out 13
    simp at cy0
    have fy0 := frozen_of_row W12 y 13 _ _ HY12.out
    have HX12s := HX12s0
    have HY12s := HY12s0
    have HB12s := HB12s0
    have hst1 := stays_of hg HgV.out
    have hst2 := stays_of (grownBy_trans (grown_refl W12 y) hgs0) HyV.out
    have HM9_10_11_12 := Lib.hid ((lsmem_ok (cells := wrtC) (size := 7) nomem_ok).stays ((lsmem_ok (cells := wrtC) (size := 7) nomem_ok).stays HM9_10_11.out hst1) hst2)
    have HM10_11_12 := Lib.hid ((lsmem_ok (cells := wrtC) (size := 7) nomem_ok).stays ((lsmem_ok (cells := wrtC) (size := 7) nomem_ok).stays HM10_11.out hst1) hst2)
    have HM11_12 := Lib.hid ((lsmem_ok (cells := sixC) (size := 6) nomem_ok).stays ((lsmem_ok (cells := sixC) (size := 6) nomem_ok).stays HM11.out hst1) hst2)
    have HM12 := Lib.hid ((lsmem_ok (cells := argC) (size := 4) nomem_ok).stays ((lsmem_ok (cells := argC) (size := 4) nomem_ok).weak (S' := fun b => V.heap.size ≤ b) (fun b hb => Nat.le_trans HVs11.out hb) hm12) hst2)
    have HVs12 : Hid (V.heap.size ≤ (W12.setCell ⟨y, 13, none⟩ (.slice gs.a gs.xs.length gs.c)).heap.size) := Nat.le_trans HVs11.out (Nat.le_trans hg.size (grownBy_trans (grown_refl W12 y) hgs0).size)
    have HCall := Lib.hid (rall_any g bb l12 0 o12 _ hrs)
    clear hg hr hrs st12 hm12 hgs0 hst1 hst2
    simp only [lsV]
    go_wp2_with fail
    clear cy0 fy0
    refine HCall.out.mono ?_
    clear HCall
    rintro e We ⟨rfl, hWe⟩
    have HEnd := Lib.hid hWe
    have HXe : Hid (We.heap[x]? = _) := (by rw [hWe]; exact HX12s.out : We.heap[x]? = some (.cells #[.string { data := #[] }, .int .u64 0, .int .i64 0, .int .i64 0, .string { data := #[] }, .int .u64 0, .string { data := #[] }, .string { data := #[] }, .string { data := #[] }, .string { data := #[] }, .slice none 0 0, .slice none 0 0, .slice none 0 0, .slice none 0 0] 54 (0, 0)))
    have HYe : Hid (We.heap[y]? = _) := (by rw [hWe]; exact HY12s.out : We.heap[y]? = some (.cells #[.string cl, .int .u64 (id : Int), .int .i64 kd, .int .i64 hw, .string tk, .int .u64 (n : Int), .string ty, .string fa, .string fb, .string fc, .slice ws.a ws.xs.length ws.c, .slice ps.a ps.xs.length ps.c, .slice ks.a ks.xs.length ks.c, .slice gs.a gs.xs.length gs.c] 54 (0, 0)))
    have HBe : Hid (Below W.heap.size W We) := (by rw [hWe]; exact HB12s.out : Below W.heap.size W We)
    rw [← hWe] at HM9_10_11_12
    rw [← hWe] at HM10_11_12
    rw [← hWe] at HM11_12
    rw [← hWe] at HM12
    have hres := rst_req (x := ⟨cl, id, kd, hw, tk, n, ty, fa, fb, fc, ws, ps, ks, gs⟩) HT1.out HT2.out HT3.out HT4.out HT5.out HT6.out HT7.out HT8.out HT9.out HT10.out HT11.out HT12.out
    clear hWe HEnd
    cases hq : (!o12 && decide (l12 = [])) with
    | true =>
      have HYes := Lib.hid (req_yes HCase.out hres hq)
      have h1c : (#[.string cl, .int .u64 (id : Int), .int .i64 kd, .int .i64 hw, .string tk, .int .u64 (n : Int), .string ty, .string fa, .string fb, .string fc, .slice ws.a ws.xs.length ws.c, .slice ps.a ps.xs.length ps.c, .slice ks.a ks.xs.length ks.c, .slice gs.a gs.xs.length gs.c] : Array Value).all (·.oneCell') = true := by simp [Value.oneCell']
      have cy0 := heap_cell HYe.out 0
      have cy1 := heap_cell HYe.out 1
      have cy2 := heap_cell HYe.out 2
      have cy3 := heap_cell HYe.out 3
      have cy4 := heap_cell HYe.out 4
      have cy5 := heap_cell HYe.out 5
      have cy6 := heap_cell HYe.out 6
      have cy7 := heap_cell HYe.out 7
      have cy8 := heap_cell HYe.out 8
      have cy9 := heap_cell HYe.out 9
      have cy10 := heap_cell HYe.out 10
      have cy11 := heap_cell HYe.out 11
      have cy12 := heap_cell HYe.out 12
      have cy13 := heap_cell HYe.out 13
      simp at cy0 cy1 cy2 cy3 cy4 cy5 cy6 cy7 cy8 cy9 cy10 cy11 cy12 cy13
      go_wp2_with (refine wpList_store_arr We rfl rfl 54 _ _ rfl x 54 _ #[.string cl, .int .u64 (id : Int), .int .i64 kd, .int .i64 hw, .string tk, .int .u64 (n : Int), .string ty, .string fa, .string fb, .string fc, .slice ws.a ws.xs.length ws.c, .slice ps.a ps.xs.length ps.c, .slice ks.a ks.xs.length ks.c, .slice gs.a gs.xs.length gs.c] (by rfl) (by rfl) HXe.out (by rfl) (by rfl) h1c ?_; intro w3 hrow3 hg3 hsz3; have HZ := Lib.hid hrow3; have HG3 := Lib.hid hg3; clear hrow3 hg3 hsz3)
      have z0 := heap_cell HZ.out 0
      have z1 := heap_cell HZ.out 1
      have z2 := heap_cell HZ.out 2
      have z3 := heap_cell HZ.out 3
      have z4 := heap_cell HZ.out 4
      have z5 := heap_cell HZ.out 5
      have z6 := heap_cell HZ.out 6
      have z7 := heap_cell HZ.out 7
      have z8 := heap_cell HZ.out 8
      have z9 := heap_cell HZ.out 9
      have z10 := heap_cell HZ.out 10
      have z11 := heap_cell HZ.out 11
      have z12 := heap_cell HZ.out 12
      have z13 := heap_cell HZ.out 13
      simp at z0 z1 z2 z3 z4 z5 z6 z7 z8 z9 z10 z11 z12 z13
      go_wp2_with fail
      have hst3 := stays_of HG3.out HxV.out
      exact bodyPost_ret (v := .tuple #[.agg #[.string cl, .int .u64 (id : Int), .int .i64 kd, .int .i64 hw, .string tk, .int .u64 (n : Int), .string ty, .string fa, .string fb, .string fc, .slice ws.a ws.xs.length ws.c, .slice ps.a ps.xs.length ps.c, .slice ks.a ks.xs.length ks.c, .slice gs.a gs.xs.length gs.c], .int .i64 0]) (by simp [results, Tryz.results12, go_sem, z0, z1, z2, z3, z4, z5, z6, z7, z8, z9, z10, z11, z12, z13]) rfl ⟨below_on HBe.out HG3.out HBe.out.size hxs, .inl ⟨⟨cl, id, kd, hw, tk, n, ty, fa, fb, fc, ws, ps, ks, gs⟩, rfl, ⟨(lsmem_ok (cells := wrtC) (size := 7) nomem_ok).stays ((lsmem_ok (cells := wrtC) (size := 7) nomem_ok).weak (fun b hb => hb) HM9_10_11_12.out) hst3 |> (lsmem_ok (cells := wrtC) (size := 7) nomem_ok).weak (fun b hb => Nat.le_trans HB1s.out.size hb), (lsmem_ok (cells := wrtC) (size := 7) nomem_ok).stays ((lsmem_ok (cells := wrtC) (size := 7) nomem_ok).weak (fun b hb => hb) HM10_11_12.out) hst3 |> (lsmem_ok (cells := wrtC) (size := 7) nomem_ok).weak (fun b hb => Nat.le_trans HB1s.out.size hb), (lsmem_ok (cells := sixC) (size := 6) nomem_ok).stays ((lsmem_ok (cells := sixC) (size := 6) nomem_ok).weak (fun b hb => hb) HM11_12.out) hst3 |> (lsmem_ok (cells := sixC) (size := 6) nomem_ok).weak (fun b hb => Nat.le_trans HB1s.out.size hb), (lsmem_ok (cells := argC) (size := 4) nomem_ok).stays ((lsmem_ok (cells := argC) (size := 4) nomem_ok).weak (fun b hb => hb) HM12.out) hst3 |> (lsmem_ok (cells := argC) (size := 4) nomem_ok).weak (fun b hb => Nat.le_trans HB1s.out.size hb)⟩, HYes.out⟩⟩
    | false =>
      have HNo := Lib.hid (req_no HCase.out hres hq)
      have h1c : (#[.string { data := #[] }, .int .u64 0, .int .i64 0, .int .i64 0, .string { data := #[] }, .int .u64 0, .string { data := #[] }, .string { data := #[] }, .string { data := #[] }, .string { data := #[] }, .slice none 0 0, .slice none 0 0, .slice none 0 0, .slice none 0 0] : Array Value).all (·.oneCell') = true := by simp [Value.oneCell']
      go_wp2_with (refine wpList_store_arr We rfl rfl 54 _ _ rfl x 54 _ #[.string { data := #[] }, .int .u64 0, .int .i64 0, .int .i64 0, .string { data := #[] }, .int .u64 0, .string { data := #[] }, .string { data := #[] }, .string { data := #[] }, .string { data := #[] }, .slice none 0 0, .slice none 0 0, .slice none 0 0, .slice none 0 0] (by rfl) (by rfl) HXe.out (by rfl) (by rfl) h1c ?_; intro w3 hrow3 hg3 hsz3; have HZ := Lib.hid hrow3; have HG3 := Lib.hid hg3; clear hrow3 hg3 hsz3)
      have z0 := heap_cell HZ.out 0
      have z1 := heap_cell HZ.out 1
      have z2 := heap_cell HZ.out 2
      have z3 := heap_cell HZ.out 3
      have z4 := heap_cell HZ.out 4
      have z5 := heap_cell HZ.out 5
      have z6 := heap_cell HZ.out 6
      have z7 := heap_cell HZ.out 7
      have z8 := heap_cell HZ.out 8
      have z9 := heap_cell HZ.out 9
      have z10 := heap_cell HZ.out 10
      have z11 := heap_cell HZ.out 11
      have z12 := heap_cell HZ.out 12
      have z13 := heap_cell HZ.out 13
      simp at z0 z1 z2 z3 z4 z5 z6 z7 z8 z9 z10 z11 z12 z13
      go_wp2_with fail
      exact bodyPost_ret (v := .tuple #[.agg #[.string { data := #[] }, .int .u64 0, .int .i64 0, .int .i64 0, .string { data := #[] }, .int .u64 0, .string { data := #[] }, .string { data := #[] }, .string { data := #[] }, .string { data := #[] }, .slice none 0 0, .slice none 0 0, .slice none 0 0, .slice none 0 0], .int .i64 9]) (by simp [results, Tryz.results12, go_sem, z0, z1, z2, z3, z4, z5, z6, z7, z8, z9, z10, z11, z12, z13]) rfl ⟨below_on HBe.out HG3.out HBe.out.size hxs, .inr ⟨rfl, HNo.out⟩⟩
end Go.Proofs.YtacjbgmnoiimbabGreat
