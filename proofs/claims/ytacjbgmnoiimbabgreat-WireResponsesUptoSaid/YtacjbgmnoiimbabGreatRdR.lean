/- A response read: walked (printed by genWireRq.py). -/
import Derived.Test.YtacjbgmnoiimbabGreatRdQ
namespace Go.Proofs.YtacjbgmnoiimbabGreat
set_option linter.unusedVariables false
set_option linter.unusedSimpArgs false
open Go.RowKit

/-- a response where it lies -/
structure RPE where
  id : Nat
  er : Int
  rv : Nat
  tk : ByteArray
  fs : LS Bool
  ts : LS Six
  os : LS Duo
  es : LS Evt
  ss : LS SE
  nd : NE
def RPE.plain (x : RPE) : RP := (x.id, x.er, x.rv, x.tk, x.fs.xs, x.ts.xs, x.os.xs, x.es.xs, x.ss.xs.map SE.plain, x.nd.plain)
def rpV (x : RPE) : Value := .agg #[.int .u64 (x.id : Int), .int .i64 x.er, .int .u64 (x.rv : Int), .string x.tk, lsV x.fs, lsV x.ts, lsV x.os, lsV x.es, lsV x.ss, .int .i64 x.nd.k, .string x.nd.t, .string x.nd.i, .string x.nd.r, .slice x.nd.sa x.nd.ss.length x.nd.sc, .slice x.nd.a x.nd.ps.length x.nd.c]
def rpmem (S : Nat → Prop) (W : World) (x : RPE) : Prop := lsmem boolC 1 nomem S W x.fs ∧ lsmem sixC 6 nomem S W x.ts ∧ lsmem duoC 2 nomem S W x.os ∧ lsmem evtC 8 nomem S W x.es ∧ lsmem seC 11 (semem 64) S W x.ss ∧ nemem 64 S W x.nd
def rpZ : Value := .agg #[.int .u64 0, .int .i64 0, .int .u64 0, .string { data := #[] }, .slice none 0 0, .slice none 0 0, .slice none 0 0, .slice none 0 0, .slice none 0 0, .int .i64 0, .string { data := #[] }, .string { data := #[] }, .string { data := #[] }, .slice none 0 0, .slice none 0 0]
/-- what reading a response does -/
def GResp (l : List UInt8) (W : World) (e : Ending) (W' : World) : Prop := Below W.heap.size W W' ∧
  ((∃ x : RPE, e = .returned (.tuple #[rpV x, .int .i64 0]) ∧ rpmem (fun b => W.heap.size ≤ b) W' x ∧ respok x.plain ∧ flatP x.plain ∧ l = [112, 49] ++ respE x.plain) ∨ (e = .returned (.tuple #[rpZ, .int .i64 9]) ∧ ∀ p, respok p → flatP p → l ≠ [112, 49] ++ respE p))
/-- too deep -/
def rpbad (p : RP) (d : Nat) : Prop := (∃ x ∈ p.2.2.2.2.2.2.2.2.1, badR x.2.1 d) ∨ badN p.2.2.2.2.2.2.2.2.2 d
theorem flat_iff (p : RP) : flatP p ↔ ¬ rpbad p 0 := by
  unfold flatP rpbad badR badN
  constructor
  · rintro ⟨h1, h2⟩ (⟨x, hx, h⟩ | h)
    · have := h1 x hx; omega
    · omega
  · intro h
    refine ⟨fun x hx => Nat.le_of_not_lt (fun hh => h (.inl ⟨x, hx, by omega⟩)), Nat.le_of_not_lt (fun hh => h (.inr (by omega)))⟩
theorem rst_resp {l l1 l2 l3 l4 l5 l6 l7 l8 l9 l10 : List UInt8} {d : Nat} {o o1 o2 o3 o4 o5 o6 o7 o8 o9 o10 : Bool} {x : RPE} (h1 : RSt uv (fun v => v < 18446744073709551616) nobad l d o x.id l1 o1) (h2 : RSt intE iok nobad l1 d o1 x.er l2 o2) (h3 : RSt uv (fun v => v < 18446744073709551616) nobad l2 d o2 x.rv l3 o3) (h4 : RSt txt tok nobad l3 d o3 x.tk l4 o4)
    (h5 : RSt (listE boolE) (lok (fun _ => True)) nobad l4 d o4 x.fs.xs l5 o5) (h6 : RSt (listE sixE) (lok sixok) nobad l5 d o5 x.ts.xs l6 o6) (h7 : RSt (listE duoE) (lok duook) nobad l6 d o6 x.os.xs l7 o7) (h8 : RSt (listE evtE) (lok evtok) nobad l7 d o7 x.es.xs l8 o8)
    (h9 : RSt (listE stepE) (lok stepok) (fun ys d => ∃ y ∈ ys, badR y.2.1 d) l8 d o8 (x.ss.xs.map SE.plain) l9 o9) (h10 : RSt encN okN badN l9 d o9 x.nd.plain l10 o10) : RSt respE respok rpbad l d o x.plain l10 o10 :=
  (h1.pair (h2.pair (h3.pair (h4.pair (h5.pair (h6.pair (h7.pair (h8.pair (h9.pair h10 (uq_list uq_step)) (uq_list uq_evt)) (uq_list uq_duo)) (uq_list uq_six)) (uq_list uq_bool)) uq_txt) uq_num) uq_int) uq_num).bads (fun t d => by
    unfold rpbad nobad
    simp only [false_or])
theorem resp_yes {l r l' : List UInt8} {o o' : Bool} {q : RP} (h : (o = false ∧ l = [112, 49] ++ r) ∨ (o = true ∧ ∀ q, l ≠ [112, 49] ++ q)) (st : RSt respE respok rpbad r 0 o q l' o') (ha : (!o' && decide (l' = [])) = true) : respok q ∧ flatP q ∧ l = [112, 49] ++ respE q := by
  rw [Bool.and_eq_true, Bool.not_eq_true'] at ha
  obtain ⟨h1, h2⟩ := ha
  have h2 := of_decide_eq_true h2
  subst h2
  obtain ⟨a, b, c⟩ := st.2.2.1 h1
  rw [List.append_nil] at c
  rcases h with ⟨_, hl⟩ | ⟨ho, _⟩
  · exact ⟨a, (flat_iff q).2 b, by rw [hl, c]⟩
  · rw [st.2.1 ho] at h1; cases h1
theorem resp_no {l r l' : List UInt8} {o o' : Bool} {q : RP} (h : (o = false ∧ l = [112, 49] ++ r) ∨ (o = true ∧ ∀ q, l ≠ [112, 49] ++ q)) (st : RSt respE respok rpbad r 0 o q l' o') (ha : (!o' && decide (l' = [])) = false) : ∀ p, respok p → flatP p → l ≠ [112, 49] ++ respE p := by
  intro p hp hf hl
  rcases h with ⟨ho, hr⟩ | ⟨_, hn⟩
  · have hre : r = respE p ++ [] := by
      rw [List.append_nil]
      exact List.append_cancel_left (hr.symm.trans hl)
    have ho' := st.2.2.2 ho p [] hp ((flat_iff p).1 hf) hre
    obtain ⟨a, _, c⟩ := st.2.2.1 ho'
    obtain ⟨_, e⟩ := uq_resp q p l' [] a hp (c.symm.trans hre)
    rw [ho', e] at ha
    cases ha
  · exact hn _ hl
set_option maxRecDepth 100000 in
set_option maxHeartbeats 8000000 in
theorem getresp_any (a : Option Addr) (c : Nat) (l : List UInt8) (W : World) (hl : l.length ≤ 100000000) (h : IsBytes W a l) :
    Calls Tryz.prog 8 #[.slice a l.length c] W (GResp l W) := by
  have HX0 := Lib.hid (heap_alloc_new W (.cells #[.int .u64 0, .int .i64 0, .int .u64 0, .string { data := #[] }, .slice none 0 0, .slice none 0 0, .slice none 0 0, .slice none 0 0, .slice none 0 0, .int .i64 0, .string { data := #[] }, .string { data := #[] }, .string { data := #[] }, .slice none 0 0, .slice none 0 0] 36))
  have HB0 := Lib.hid ((Below.refl W.heap.size W).alloc (Nat.le_refl _) (.cells #[.int .u64 0, .int .i64 0, .int .u64 0, .string { data := #[] }, .slice none 0 0, .slice none 0 0, .slice none 0 0, .slice none 0 0, .slice none 0 0, .int .i64 0, .string { data := #[] }, .string { data := #[] }, .string { data := #[] }, .slice none 0 0, .slice none 0 0] 36))
  have HC := Lib.hid (open_any a c l 112 49 (W.alloc (.cells #[.int .u64 0, .int .i64 0, .int .u64 0, .string { data := #[] }, .slice none 0 0, .slice none 0 0, .slice none 0 0, .slice none 0 0, .slice none 0 0, .int .i64 0, .string { data := #[] }, .string { data := #[] }, .string { data := #[] }, .slice none 0 0, .slice none 0 0] 36)) hl (h.below HB0.out))
  clear h
  go_enter Tryz.func8, Tryz.ntmps8
  go_wp2_with fail
  refine HC.out.mono ?_
  clear HC
  generalize (W.alloc (.cells #[.int .u64 0, .int .i64 0, .int .u64 0, .string { data := #[] }, .slice none 0 0, .slice none 0 0, .slice none 0 0, .slice none 0 0, .slice none 0 0, .int .i64 0, .string { data := #[] }, .string { data := #[] }, .string { data := #[] }, .slice none 0 0, .slice none 0 0] 36)) = W0 at *
  obtain ⟨x, hx⟩ : ∃ x, x = W.heap.size := ⟨_, rfl⟩
  rw [← hx] at HX0
  rw [← hx]
  have hxs : W.heap.size ≤ x := by omega
  have hx0 := heap_lt HX0.out
  have HEx := Lib.hid hx
  clear hx
  rintro e Wo ⟨g, bb, r, odd, rfl, hbo, hro, hgo, hbbo, hrl, hcase⟩
  have hxg : x ≠ g := by omega
  have hxb : x ≠ bb := by omega
  have hWg : W.heap.size ≤ g := by omega
  have HXo := Lib.hid ((hbo.block x hx0).trans HX0.out)
  have HBo := Lib.hid (HB0.out.trans (hbo.mono HB0.out.size))
  have HCase := Lib.hid hcase
  have HC := Lib.hid (rnum_any g bb Wo r 0 odd (by omega) hro)
  clear hbo hro hcase
  go_wp2_with fail
  refine HC.out.mono ?_
  clear HC
  rintro e W1 ⟨id, l1, o1, rfl, hg, hr, hm1, st1⟩
  have HX1 := Lib.hid (grown_block hg HXo.out hxg)
  have HB1 := Lib.hid (below_on HBo.out hg HBo.out.size hWg)
  have HT1 := Lib.hid st1
  have hl1 := st1.len
  obtain ⟨V, hV⟩ : ∃ V, V = W1.alloc (.cells #[.int .u64 (id : Int), .int .i64 0, .int .u64 0, .string { data := #[] }, .slice none 0 0, .slice none 0 0, .slice none 0 0, .slice none 0 0, .slice none 0 0, .int .i64 0, .string { data := #[] }, .string { data := #[] }, .string { data := #[] }, .slice none 0 0, .slice none 0 0] 36) := ⟨_, rfl⟩
  have HX1s : Hid (V.heap[x]? = some (.cells #[.int .u64 0, .int .i64 0, .int .u64 0, .string { data := #[] }, .slice none 0 0, .slice none 0 0, .slice none 0 0, .slice none 0 0, .slice none 0 0, .int .i64 0, .string { data := #[] }, .string { data := #[] }, .string { data := #[] }, .slice none 0 0, .slice none 0 0] 36 (0, 0))) := by
    show V.heap[x]? = _
    rw [hV]; exact (((Below.refl W1.heap.size W1).alloc (Nat.le_refl _) (.cells #[.int .u64 (id : Int), .int .i64 0, .int .u64 0, .string { data := #[] }, .slice none 0 0, .slice none 0 0, .slice none 0 0, .slice none 0 0, .slice none 0 0, .int .i64 0, .string { data := #[] }, .string { data := #[] }, .string { data := #[] }, .slice none 0 0, .slice none 0 0] 36)).block x (heap_lt HX1.out)).trans HX1.out
  have HY1s : Hid (V.heap[W1.heap.size]? = some (.cells #[.int .u64 (id : Int), .int .i64 0, .int .u64 0, .string { data := #[] }, .slice none 0 0, .slice none 0 0, .slice none 0 0, .slice none 0 0, .slice none 0 0, .int .i64 0, .string { data := #[] }, .string { data := #[] }, .string { data := #[] }, .slice none 0 0, .slice none 0 0] 36 (0, 0))) := by
    show V.heap[W1.heap.size]? = _
    rw [hV]; exact heap_alloc_new W1 (.cells #[.int .u64 (id : Int), .int .i64 0, .int .u64 0, .string { data := #[] }, .slice none 0 0, .slice none 0 0, .slice none 0 0, .slice none 0 0, .slice none 0 0, .int .i64 0, .string { data := #[] }, .string { data := #[] }, .string { data := #[] }, .slice none 0 0, .slice none 0 0] 36)
  have hrV : RAt V g bb l1 0 o1 := by rw [hV]; exact hr.alloc _
  have HB1s : Hid (Below W.heap.size W V) := by
    show Below _ _ _
    rw [hV]; exact HB1.out.alloc HB1.out.size _
  have HC := Lib.hid (rint_any g bb V l1 0 o1 (by omega) hrV)
  obtain ⟨y, hy⟩ : ∃ y, y = W1.heap.size := ⟨_, rfl⟩
  have hyx : y ≠ x := by
    have := heap_lt HX1.out
    omega
  have hyg : y ≠ g := by
    have := hr.lt
    omega
  have hyb : y ≠ bb := by
    have := hr.bbl
    omega
  have hyW : W.heap.size ≤ y := by
    have := HB1.out.size
    omega
  have HHy := Lib.hid hy
  have HV := Lib.hid hV
  have HgV := Lib.hid hrV.lt
  clear hg hr hrV hy hV hm1 st1
  simp only [numV]
  go_wp2_with fail
  rw [← HV.out, ← HHy.out]
  rw [← HHy.out] at HY1s
  have HyV := Lib.hid (heap_lt HY1s.out)
  have HxV := Lib.hid (heap_lt HX1s.out)
  have HVs1 : Hid (V.heap.size ≤ V.heap.size) := Nat.le_refl _
  refine HC.out.mono ?_
  clear HC
  rintro e W2 ⟨er, l2, o2, rfl, hg, hr, hm2, st2⟩
  have HX2 := Lib.hid (grown_block hg HX1s.out hxg)
  have HY2 := Lib.hid (grown_block hg HY1s.out hyg)
  have HB2 := Lib.hid (below_on HB1s.out hg HB1s.out.size hWg)
  have HT2 := Lib.hid st2
  have hl2 := st2.len
  have hrs := hr
  have hgs0 := grown_cell W2 y 1 (.int .i64 er)
  have HX2s0 := Lib.hid (grown_block hgs0 HX2.out hyx.symm)
  have HY2s0 : Hid ((W2.setCell ⟨y, 1, none⟩ (.int .i64 er)).heap[y]? = some (.cells #[.int .u64 (id : Int), .int .i64 er, .int .u64 0, .string { data := #[] }, .slice none 0 0, .slice none 0 0, .slice none 0 0, .slice none 0 0, .slice none 0 0, .int .i64 0, .string { data := #[] }, .string { data := #[] }, .string { data := #[] }, .slice none 0 0, .slice none 0 0] 36 (0, 0))) := heap_setCell_same W2 y 1 _ 36 _ HY2.out
  have HB2s0 := Lib.hid (below_on HB2.out hgs0 HB2.out.size hyW)
  have hrs := hrs.other hgs0 hyg hyb
  have cy0 := heap_cell HY2.out 1
  simp at cy0
  have fy0 := frozen_of_row W2 y 1 _ _ HY2.out
  have HX2s := HX2s0
  have HY2s := HY2s0
  have HB2s := HB2s0
  have HVs2 : Hid (V.heap.size ≤ (W2.setCell ⟨y, 1, none⟩ (.int .i64 er)).heap.size) := Nat.le_trans HVs1.out (Nat.le_trans hg.size (grownBy_trans (grown_refl W2 y) hgs0).size)
  have HC := Lib.hid (rnum_any g bb _ l2 0 o2 (by omega) hrs)
  clear hg hr hrs st2 hm2 hgs0
  simp only [intV]
  go_wp2_with fail
  clear cy0 fy0
  refine HC.out.mono ?_
  clear HC
  rintro e W3 ⟨rv, l3, o3, rfl, hg, hr, hm3, st3⟩
  have HX3 := Lib.hid (grown_block hg HX2s.out hxg)
  have HY3 := Lib.hid (grown_block hg HY2s.out hyg)
  have HB3 := Lib.hid (below_on HB2s.out hg HB2s.out.size hWg)
  have HT3 := Lib.hid st3
  have hl3 := st3.len
  have hrs := hr
  have hgs0 := grown_cell W3 y 2 (.int .u64 (rv : Int))
  have HX3s0 := Lib.hid (grown_block hgs0 HX3.out hyx.symm)
  have HY3s0 : Hid ((W3.setCell ⟨y, 2, none⟩ (.int .u64 (rv : Int))).heap[y]? = some (.cells #[.int .u64 (id : Int), .int .i64 er, .int .u64 (rv : Int), .string { data := #[] }, .slice none 0 0, .slice none 0 0, .slice none 0 0, .slice none 0 0, .slice none 0 0, .int .i64 0, .string { data := #[] }, .string { data := #[] }, .string { data := #[] }, .slice none 0 0, .slice none 0 0] 36 (0, 0))) := heap_setCell_same W3 y 2 _ 36 _ HY3.out
  have HB3s0 := Lib.hid (below_on HB3.out hgs0 HB3.out.size hyW)
  have hrs := hrs.other hgs0 hyg hyb
  have cy0 := heap_cell HY3.out 2
  simp at cy0
  have fy0 := frozen_of_row W3 y 2 _ _ HY3.out
  have HX3s := HX3s0
  have HY3s := HY3s0
  have HB3s := HB3s0
  have HVs3 : Hid (V.heap.size ≤ (W3.setCell ⟨y, 2, none⟩ (.int .u64 (rv : Int))).heap.size) := Nat.le_trans HVs2.out (Nat.le_trans hg.size (grownBy_trans (grown_refl W3 y) hgs0).size)
  have HC := Lib.hid (rtxt_any g bb _ l3 0 o3 (by omega) hrs)
  clear hg hr hrs st3 hm3 hgs0
  simp only [numV]
  go_wp2_with fail
  clear cy0 fy0
  refine HC.out.mono ?_
  clear HC
  rintro e W4 ⟨tk, l4, o4, rfl, hg, hr, hm4, st4⟩
  have HX4 := Lib.hid (grown_block hg HX3s.out hxg)
  have HY4 := Lib.hid (grown_block hg HY3s.out hyg)
  have HB4 := Lib.hid (below_on HB3s.out hg HB3s.out.size hWg)
  have HT4 := Lib.hid st4
  have hl4 := st4.len
  have hrs := hr
  have hgs0 := grown_cell W4 y 3 (.string tk)
  have HX4s0 := Lib.hid (grown_block hgs0 HX4.out hyx.symm)
  have HY4s0 : Hid ((W4.setCell ⟨y, 3, none⟩ (.string tk)).heap[y]? = some (.cells #[.int .u64 (id : Int), .int .i64 er, .int .u64 (rv : Int), .string tk, .slice none 0 0, .slice none 0 0, .slice none 0 0, .slice none 0 0, .slice none 0 0, .int .i64 0, .string { data := #[] }, .string { data := #[] }, .string { data := #[] }, .slice none 0 0, .slice none 0 0] 36 (0, 0))) := heap_setCell_same W4 y 3 _ 36 _ HY4.out
  have HB4s0 := Lib.hid (below_on HB4.out hgs0 HB4.out.size hyW)
  have hrs := hrs.other hgs0 hyg hyb
  have cy0 := heap_cell HY4.out 3
  simp at cy0
  have fy0 := frozen_of_row W4 y 3 _ _ HY4.out
  have HX4s := HX4s0
  have HY4s := HY4s0
  have HB4s := HB4s0
  have HVs4 : Hid (V.heap.size ≤ (W4.setCell ⟨y, 3, none⟩ (.string tk)).heap.size) := Nat.le_trans HVs3.out (Nat.le_trans hg.size (grownBy_trans (grown_refl W4 y) hgs0).size)
  have HC := Lib.hid (itru_any g bb _ l4 0 o4 (by omega) hrs)
  clear hg hr hrs st4 hm4 hgs0
  simp only [txtV]
  go_wp2_with fail
  clear cy0 fy0
  refine HC.out.mono ?_
  clear HC
  rintro e W5 ⟨fs, l5, o5, rfl, hg, hr, hm5, st5⟩
  have HX5 := Lib.hid (grown_block hg HX4s.out hxg)
  have HY5 := Lib.hid (grown_block hg HY4s.out hyg)
  have HB5 := Lib.hid (below_on HB4s.out hg HB4s.out.size hWg)
  have HT5 := Lib.hid st5
  have hl5 := st5.len
  have hrs := hr
  have hgs0 := grown_cell W5 y 4 (.slice fs.a fs.xs.length fs.c)
  have HX5s0 := Lib.hid (grown_block hgs0 HX5.out hyx.symm)
  have HY5s0 : Hid ((W5.setCell ⟨y, 4, none⟩ (.slice fs.a fs.xs.length fs.c)).heap[y]? = some (.cells #[.int .u64 (id : Int), .int .i64 er, .int .u64 (rv : Int), .string tk, .slice fs.a fs.xs.length fs.c, .slice none 0 0, .slice none 0 0, .slice none 0 0, .slice none 0 0, .int .i64 0, .string { data := #[] }, .string { data := #[] }, .string { data := #[] }, .slice none 0 0, .slice none 0 0] 36 (0, 0))) := heap_setCell_same W5 y 4 _ 36 _ HY5.out
  have HB5s0 := Lib.hid (below_on HB5.out hgs0 HB5.out.size hyW)
  have hrs := hrs.other hgs0 hyg hyb
  have cy0 := heap_cell HY5.out 4
  simp at cy0
  have fy0 := frozen_of_row W5 y 4 _ _ HY5.out
  have HX5s := HX5s0
  have HY5s := HY5s0
  have HB5s := HB5s0
  have hst1 := stays_of hg HgV.out
  have hst2 := stays_of (grownBy_trans (grown_refl W5 y) hgs0) HyV.out
  have HM5 := Lib.hid ((lsmem_ok (cells := boolC) (size := 1) nomem_ok).stays ((lsmem_ok (cells := boolC) (size := 1) nomem_ok).weak (S' := fun b => V.heap.size ≤ b) (fun b hb => Nat.le_trans HVs4.out hb) hm5) hst2)
  have HVs5 : Hid (V.heap.size ≤ (W5.setCell ⟨y, 4, none⟩ (.slice fs.a fs.xs.length fs.c)).heap.size) := Nat.le_trans HVs4.out (Nat.le_trans hg.size (grownBy_trans (grown_refl W5 y) hgs0).size)
  have HC := Lib.hid (itup_any g bb _ l5 0 o5 (by omega) hrs)
  clear hg hr hrs st5 hm5 hgs0 hst1 hst2
  simp only [lsV]
  go_wp2_with fail
  clear cy0 fy0
  refine HC.out.mono ?_
  clear HC
  rintro e W6 ⟨ts, l6, o6, rfl, hg, hr, hm6, st6⟩
  have HX6 := Lib.hid (grown_block hg HX5s.out hxg)
  have HY6 := Lib.hid (grown_block hg HY5s.out hyg)
  have HB6 := Lib.hid (below_on HB5s.out hg HB5s.out.size hWg)
  have HT6 := Lib.hid st6
  have hl6 := st6.len
  have hrs := hr
  have hgs0 := grown_cell W6 y 5 (.slice ts.a ts.xs.length ts.c)
  have HX6s0 := Lib.hid (grown_block hgs0 HX6.out hyx.symm)
  have HY6s0 : Hid ((W6.setCell ⟨y, 5, none⟩ (.slice ts.a ts.xs.length ts.c)).heap[y]? = some (.cells #[.int .u64 (id : Int), .int .i64 er, .int .u64 (rv : Int), .string tk, .slice fs.a fs.xs.length fs.c, .slice ts.a ts.xs.length ts.c, .slice none 0 0, .slice none 0 0, .slice none 0 0, .int .i64 0, .string { data := #[] }, .string { data := #[] }, .string { data := #[] }, .slice none 0 0, .slice none 0 0] 36 (0, 0))) := heap_setCell_same W6 y 5 _ 36 _ HY6.out
  have HB6s0 := Lib.hid (below_on HB6.out hgs0 HB6.out.size hyW)
  have hrs := hrs.other hgs0 hyg hyb
  have cy0 := heap_cell HY6.out 5
  simp at cy0
  have fy0 := frozen_of_row W6 y 5 _ _ HY6.out
  have HX6s := HX6s0
  have HY6s := HY6s0
  have HB6s := HB6s0
  have hst1 := stays_of hg HgV.out
  have hst2 := stays_of (grownBy_trans (grown_refl W6 y) hgs0) HyV.out
  have HM5_6 := Lib.hid ((lsmem_ok (cells := boolC) (size := 1) nomem_ok).stays ((lsmem_ok (cells := boolC) (size := 1) nomem_ok).stays HM5.out hst1) hst2)
  have HM6 := Lib.hid ((lsmem_ok (cells := sixC) (size := 6) nomem_ok).stays ((lsmem_ok (cells := sixC) (size := 6) nomem_ok).weak (S' := fun b => V.heap.size ≤ b) (fun b hb => Nat.le_trans HVs5.out hb) hm6) hst2)
  have HVs6 : Hid (V.heap.size ≤ (W6.setCell ⟨y, 5, none⟩ (.slice ts.a ts.xs.length ts.c)).heap.size) := Nat.le_trans HVs5.out (Nat.le_trans hg.size (grownBy_trans (grown_refl W6 y) hgs0).size)
  have HC := Lib.hid (iobj_any g bb _ l6 0 o6 (by omega) hrs)
  clear hg hr hrs st6 hm6 hgs0 hst1 hst2
  simp only [lsV]
  go_wp2_with fail
  clear cy0 fy0
  refine HC.out.mono ?_
  clear HC
  rintro e W7 ⟨os, l7, o7, rfl, hg, hr, hm7, st7⟩
  have HX7 := Lib.hid (grown_block hg HX6s.out hxg)
  have HY7 := Lib.hid (grown_block hg HY6s.out hyg)
  have HB7 := Lib.hid (below_on HB6s.out hg HB6s.out.size hWg)
  have HT7 := Lib.hid st7
  have hl7 := st7.len
  have hrs := hr
  have hgs0 := grown_cell W7 y 6 (.slice os.a os.xs.length os.c)
  have HX7s0 := Lib.hid (grown_block hgs0 HX7.out hyx.symm)
  have HY7s0 : Hid ((W7.setCell ⟨y, 6, none⟩ (.slice os.a os.xs.length os.c)).heap[y]? = some (.cells #[.int .u64 (id : Int), .int .i64 er, .int .u64 (rv : Int), .string tk, .slice fs.a fs.xs.length fs.c, .slice ts.a ts.xs.length ts.c, .slice os.a os.xs.length os.c, .slice none 0 0, .slice none 0 0, .int .i64 0, .string { data := #[] }, .string { data := #[] }, .string { data := #[] }, .slice none 0 0, .slice none 0 0] 36 (0, 0))) := heap_setCell_same W7 y 6 _ 36 _ HY7.out
  have HB7s0 := Lib.hid (below_on HB7.out hgs0 HB7.out.size hyW)
  have hrs := hrs.other hgs0 hyg hyb
  have cy0 := heap_cell HY7.out 6
  simp at cy0
  have fy0 := frozen_of_row W7 y 6 _ _ HY7.out
  have HX7s := HX7s0
  have HY7s := HY7s0
  have HB7s := HB7s0
  have hst1 := stays_of hg HgV.out
  have hst2 := stays_of (grownBy_trans (grown_refl W7 y) hgs0) HyV.out
  have HM5_6_7 := Lib.hid ((lsmem_ok (cells := boolC) (size := 1) nomem_ok).stays ((lsmem_ok (cells := boolC) (size := 1) nomem_ok).stays HM5_6.out hst1) hst2)
  have HM6_7 := Lib.hid ((lsmem_ok (cells := sixC) (size := 6) nomem_ok).stays ((lsmem_ok (cells := sixC) (size := 6) nomem_ok).stays HM6.out hst1) hst2)
  have HM7 := Lib.hid ((lsmem_ok (cells := duoC) (size := 2) nomem_ok).stays ((lsmem_ok (cells := duoC) (size := 2) nomem_ok).weak (S' := fun b => V.heap.size ≤ b) (fun b hb => Nat.le_trans HVs6.out hb) hm7) hst2)
  have HVs7 : Hid (V.heap.size ≤ (W7.setCell ⟨y, 6, none⟩ (.slice os.a os.xs.length os.c)).heap.size) := Nat.le_trans HVs6.out (Nat.le_trans hg.size (grownBy_trans (grown_refl W7 y) hgs0).size)
  have HC := Lib.hid (ievt_any g bb _ l7 0 o7 (by omega) hrs)
  clear hg hr hrs st7 hm7 hgs0 hst1 hst2
  simp only [lsV]
  go_wp2_with fail
  clear cy0 fy0
  refine HC.out.mono ?_
  clear HC
  rintro e W8 ⟨es, l8, o8, rfl, hg, hr, hm8, st8⟩
  have HX8 := Lib.hid (grown_block hg HX7s.out hxg)
  have HY8 := Lib.hid (grown_block hg HY7s.out hyg)
  have HB8 := Lib.hid (below_on HB7s.out hg HB7s.out.size hWg)
  have HT8 := Lib.hid st8
  have hl8 := st8.len
  have hrs := hr
  have hgs0 := grown_cell W8 y 7 (.slice es.a es.xs.length es.c)
  have HX8s0 := Lib.hid (grown_block hgs0 HX8.out hyx.symm)
  have HY8s0 : Hid ((W8.setCell ⟨y, 7, none⟩ (.slice es.a es.xs.length es.c)).heap[y]? = some (.cells #[.int .u64 (id : Int), .int .i64 er, .int .u64 (rv : Int), .string tk, .slice fs.a fs.xs.length fs.c, .slice ts.a ts.xs.length ts.c, .slice os.a os.xs.length os.c, .slice es.a es.xs.length es.c, .slice none 0 0, .int .i64 0, .string { data := #[] }, .string { data := #[] }, .string { data := #[] }, .slice none 0 0, .slice none 0 0] 36 (0, 0))) := heap_setCell_same W8 y 7 _ 36 _ HY8.out
  have HB8s0 := Lib.hid (below_on HB8.out hgs0 HB8.out.size hyW)
  have hrs := hrs.other hgs0 hyg hyb
  have cy0 := heap_cell HY8.out 7
  simp at cy0
  have fy0 := frozen_of_row W8 y 7 _ _ HY8.out
  have HX8s := HX8s0
  have HY8s := HY8s0
  have HB8s := HB8s0
  have hst1 := stays_of hg HgV.out
  have hst2 := stays_of (grownBy_trans (grown_refl W8 y) hgs0) HyV.out
  have HM5_6_7_8 := Lib.hid ((lsmem_ok (cells := boolC) (size := 1) nomem_ok).stays ((lsmem_ok (cells := boolC) (size := 1) nomem_ok).stays HM5_6_7.out hst1) hst2)
  have HM6_7_8 := Lib.hid ((lsmem_ok (cells := sixC) (size := 6) nomem_ok).stays ((lsmem_ok (cells := sixC) (size := 6) nomem_ok).stays HM6_7.out hst1) hst2)
  have HM7_8 := Lib.hid ((lsmem_ok (cells := duoC) (size := 2) nomem_ok).stays ((lsmem_ok (cells := duoC) (size := 2) nomem_ok).stays HM7.out hst1) hst2)
  have HM8 := Lib.hid ((lsmem_ok (cells := evtC) (size := 8) nomem_ok).stays ((lsmem_ok (cells := evtC) (size := 8) nomem_ok).weak (S' := fun b => V.heap.size ≤ b) (fun b hb => Nat.le_trans HVs7.out hb) hm8) hst2)
  have HVs8 : Hid (V.heap.size ≤ (W8.setCell ⟨y, 7, none⟩ (.slice es.a es.xs.length es.c)).heap.size) := Nat.le_trans HVs7.out (Nat.le_trans hg.size (grownBy_trans (grown_refl W8 y) hgs0).size)
  have HC := Lib.hid (istep_any g bb 64 _ l8 0 o8 rfl (by omega) hrs)
  clear hg hr hrs st8 hm8 hgs0 hst1 hst2
  simp only [lsV]
  go_wp2_with fail
  clear cy0 fy0
  refine HC.out.mono ?_
  clear HC
  rintro e W9 ⟨ss, l9, o9, rfl, hg, hr, hm9, st9⟩
  have HX9 := Lib.hid (grown_block hg HX8s.out hxg)
  have HY9 := Lib.hid (grown_block hg HY8s.out hyg)
  have HB9 := Lib.hid (below_on HB8s.out hg HB8s.out.size hWg)
  have HT9 := Lib.hid st9
  have hl9 := st9.len
  have hrs := hr
  have hgs0 := grown_cell W9 y 8 (.slice ss.a ss.xs.length ss.c)
  have HX9s0 := Lib.hid (grown_block hgs0 HX9.out hyx.symm)
  have HY9s0 : Hid ((W9.setCell ⟨y, 8, none⟩ (.slice ss.a ss.xs.length ss.c)).heap[y]? = some (.cells #[.int .u64 (id : Int), .int .i64 er, .int .u64 (rv : Int), .string tk, .slice fs.a fs.xs.length fs.c, .slice ts.a ts.xs.length ts.c, .slice os.a os.xs.length os.c, .slice es.a es.xs.length es.c, .slice ss.a ss.xs.length ss.c, .int .i64 0, .string { data := #[] }, .string { data := #[] }, .string { data := #[] }, .slice none 0 0, .slice none 0 0] 36 (0, 0))) := heap_setCell_same W9 y 8 _ 36 _ HY9.out
  have HB9s0 := Lib.hid (below_on HB9.out hgs0 HB9.out.size hyW)
  have hrs := hrs.other hgs0 hyg hyb
  have cy0 := heap_cell HY9.out 8
  simp at cy0
  have fy0 := frozen_of_row W9 y 8 _ _ HY9.out
  have HX9s := HX9s0
  have HY9s := HY9s0
  have HB9s := HB9s0
  have hst1 := stays_of hg HgV.out
  have hst2 := stays_of (grownBy_trans (grown_refl W9 y) hgs0) HyV.out
  have HM5_6_7_8_9 := Lib.hid ((lsmem_ok (cells := boolC) (size := 1) nomem_ok).stays ((lsmem_ok (cells := boolC) (size := 1) nomem_ok).stays HM5_6_7_8.out hst1) hst2)
  have HM6_7_8_9 := Lib.hid ((lsmem_ok (cells := sixC) (size := 6) nomem_ok).stays ((lsmem_ok (cells := sixC) (size := 6) nomem_ok).stays HM6_7_8.out hst1) hst2)
  have HM7_8_9 := Lib.hid ((lsmem_ok (cells := duoC) (size := 2) nomem_ok).stays ((lsmem_ok (cells := duoC) (size := 2) nomem_ok).stays HM7_8.out hst1) hst2)
  have HM8_9 := Lib.hid ((lsmem_ok (cells := evtC) (size := 8) nomem_ok).stays ((lsmem_ok (cells := evtC) (size := 8) nomem_ok).stays HM8.out hst1) hst2)
  have HM9 := Lib.hid ((lsmem_ok (cells := seC) (size := 11) (semem_ok 64)).stays ((lsmem_ok (cells := seC) (size := 11) (semem_ok 64)).weak (S' := fun b => V.heap.size ≤ b) (fun b hb => Nat.le_trans HVs8.out hb) hm9) hst2)
  have HVs9 : Hid (V.heap.size ≤ (W9.setCell ⟨y, 8, none⟩ (.slice ss.a ss.xs.length ss.c)).heap.size) := Nat.le_trans HVs8.out (Nat.le_trans hg.size (grownBy_trans (grown_refl W9 y) hgs0).size)
  have HC := Lib.hid (rnode_any g bb 64 _ l9 0 o9 rfl (by omega) hrs)
  clear hg hr hrs st9 hm9 hgs0 hst1 hst2
  simp only [lsV]
  go_wp2_with fail
  clear cy0 fy0
  refine HC.out.mono ?_
  clear HC
  rintro e W10 ⟨⟨nk, nt, ni, nr, nsa, nsc, nss, na, nc, nps⟩, l10, o10, rfl, hg, hr, hm10, st10⟩
  have HX10 := Lib.hid (grown_block hg HX9s.out hxg)
  have HY10 := Lib.hid (grown_block hg HY9s.out hyg)
  have HB10 := Lib.hid (below_on HB9s.out hg HB9s.out.size hWg)
  have HT10 := Lib.hid st10
  have hl10 := st10.len
  have hrs := hr
  have hgs0 := grown_cell W10 y 9 (.int .i64 nk)
  have HX10s0 := Lib.hid (grown_block hgs0 HX10.out hyx.symm)
  have HY10s0 : Hid ((W10.setCell ⟨y, 9, none⟩ (.int .i64 nk)).heap[y]? = some (.cells #[.int .u64 (id : Int), .int .i64 er, .int .u64 (rv : Int), .string tk, .slice fs.a fs.xs.length fs.c, .slice ts.a ts.xs.length ts.c, .slice os.a os.xs.length os.c, .slice es.a es.xs.length es.c, .slice ss.a ss.xs.length ss.c, .int .i64 nk, .string { data := #[] }, .string { data := #[] }, .string { data := #[] }, .slice none 0 0, .slice none 0 0] 36 (0, 0))) := heap_setCell_same W10 y 9 _ 36 _ HY10.out
  have HB10s0 := Lib.hid (below_on HB10.out hgs0 HB10.out.size hyW)
  have hrs := hrs.other hgs0 hyg hyb
  have cy0 := heap_cell HY10.out 9
  simp at cy0
  have fy0 := frozen_of_row W10 y 9 _ _ HY10.out
  have hgs1 := grown_cell (W10.setCell ⟨y, 9, none⟩ (.int .i64 nk)) y 10 (.string nt)
  have HX10s1 := Lib.hid (grown_block hgs1 HX10s0.out hyx.symm)
  have HY10s1 : Hid (((W10.setCell ⟨y, 9, none⟩ (.int .i64 nk)).setCell ⟨y, 10, none⟩ (.string nt)).heap[y]? = some (.cells #[.int .u64 (id : Int), .int .i64 er, .int .u64 (rv : Int), .string tk, .slice fs.a fs.xs.length fs.c, .slice ts.a ts.xs.length ts.c, .slice os.a os.xs.length os.c, .slice es.a es.xs.length es.c, .slice ss.a ss.xs.length ss.c, .int .i64 nk, .string nt, .string { data := #[] }, .string { data := #[] }, .slice none 0 0, .slice none 0 0] 36 (0, 0))) := heap_setCell_same (W10.setCell ⟨y, 9, none⟩ (.int .i64 nk)) y 10 _ 36 _ HY10s0.out
  have HB10s1 := Lib.hid (below_on HB10s0.out hgs1 HB10s0.out.size hyW)
  have hrs := hrs.other hgs1 hyg hyb
  have cy1 := heap_cell HY10.out 10
  simp at cy1
  have fy1 := frozen_of_row W10 y 10 _ _ HY10.out
  have hgs2 := grown_cell ((W10.setCell ⟨y, 9, none⟩ (.int .i64 nk)).setCell ⟨y, 10, none⟩ (.string nt)) y 11 (.string ni)
  have HX10s2 := Lib.hid (grown_block hgs2 HX10s1.out hyx.symm)
  have HY10s2 : Hid ((((W10.setCell ⟨y, 9, none⟩ (.int .i64 nk)).setCell ⟨y, 10, none⟩ (.string nt)).setCell ⟨y, 11, none⟩ (.string ni)).heap[y]? = some (.cells #[.int .u64 (id : Int), .int .i64 er, .int .u64 (rv : Int), .string tk, .slice fs.a fs.xs.length fs.c, .slice ts.a ts.xs.length ts.c, .slice os.a os.xs.length os.c, .slice es.a es.xs.length es.c, .slice ss.a ss.xs.length ss.c, .int .i64 nk, .string nt, .string ni, .string { data := #[] }, .slice none 0 0, .slice none 0 0] 36 (0, 0))) := heap_setCell_same ((W10.setCell ⟨y, 9, none⟩ (.int .i64 nk)).setCell ⟨y, 10, none⟩ (.string nt)) y 11 _ 36 _ HY10s1.out
  have HB10s2 := Lib.hid (below_on HB10s1.out hgs2 HB10s1.out.size hyW)
  have hrs := hrs.other hgs2 hyg hyb
  have cy2 := heap_cell HY10.out 11
  simp at cy2
  have fy2 := frozen_of_row W10 y 11 _ _ HY10.out
  have hgs3 := grown_cell (((W10.setCell ⟨y, 9, none⟩ (.int .i64 nk)).setCell ⟨y, 10, none⟩ (.string nt)).setCell ⟨y, 11, none⟩ (.string ni)) y 12 (.string nr)
  have HX10s3 := Lib.hid (grown_block hgs3 HX10s2.out hyx.symm)
  have HY10s3 : Hid (((((W10.setCell ⟨y, 9, none⟩ (.int .i64 nk)).setCell ⟨y, 10, none⟩ (.string nt)).setCell ⟨y, 11, none⟩ (.string ni)).setCell ⟨y, 12, none⟩ (.string nr)).heap[y]? = some (.cells #[.int .u64 (id : Int), .int .i64 er, .int .u64 (rv : Int), .string tk, .slice fs.a fs.xs.length fs.c, .slice ts.a ts.xs.length ts.c, .slice os.a os.xs.length os.c, .slice es.a es.xs.length es.c, .slice ss.a ss.xs.length ss.c, .int .i64 nk, .string nt, .string ni, .string nr, .slice none 0 0, .slice none 0 0] 36 (0, 0))) := heap_setCell_same (((W10.setCell ⟨y, 9, none⟩ (.int .i64 nk)).setCell ⟨y, 10, none⟩ (.string nt)).setCell ⟨y, 11, none⟩ (.string ni)) y 12 _ 36 _ HY10s2.out
  have HB10s3 := Lib.hid (below_on HB10s2.out hgs3 HB10s2.out.size hyW)
  have hrs := hrs.other hgs3 hyg hyb
  have cy3 := heap_cell HY10.out 12
  simp at cy3
  have fy3 := frozen_of_row W10 y 12 _ _ HY10.out
  have hgs4 := grown_cell ((((W10.setCell ⟨y, 9, none⟩ (.int .i64 nk)).setCell ⟨y, 10, none⟩ (.string nt)).setCell ⟨y, 11, none⟩ (.string ni)).setCell ⟨y, 12, none⟩ (.string nr)) y 13 (.slice nsa nss.length nsc)
  have HX10s4 := Lib.hid (grown_block hgs4 HX10s3.out hyx.symm)
  have HY10s4 : Hid ((((((W10.setCell ⟨y, 9, none⟩ (.int .i64 nk)).setCell ⟨y, 10, none⟩ (.string nt)).setCell ⟨y, 11, none⟩ (.string ni)).setCell ⟨y, 12, none⟩ (.string nr)).setCell ⟨y, 13, none⟩ (.slice nsa nss.length nsc)).heap[y]? = some (.cells #[.int .u64 (id : Int), .int .i64 er, .int .u64 (rv : Int), .string tk, .slice fs.a fs.xs.length fs.c, .slice ts.a ts.xs.length ts.c, .slice os.a os.xs.length os.c, .slice es.a es.xs.length es.c, .slice ss.a ss.xs.length ss.c, .int .i64 nk, .string nt, .string ni, .string nr, .slice nsa nss.length nsc, .slice none 0 0] 36 (0, 0))) := heap_setCell_same ((((W10.setCell ⟨y, 9, none⟩ (.int .i64 nk)).setCell ⟨y, 10, none⟩ (.string nt)).setCell ⟨y, 11, none⟩ (.string ni)).setCell ⟨y, 12, none⟩ (.string nr)) y 13 _ 36 _ HY10s3.out
  have HB10s4 := Lib.hid (below_on HB10s3.out hgs4 HB10s3.out.size hyW)
  have hrs := hrs.other hgs4 hyg hyb
  have cy4 := heap_cell HY10.out 13
  simp at cy4
  have fy4 := frozen_of_row W10 y 13 _ _ HY10.out
  have hgs5 := grown_cell (((((W10.setCell ⟨y, 9, none⟩ (.int .i64 nk)).setCell ⟨y, 10, none⟩ (.string nt)).setCell ⟨y, 11, none⟩ (.string ni)).setCell ⟨y, 12, none⟩ (.string nr)).setCell ⟨y, 13, none⟩ (.slice nsa nss.length nsc)) y 14 (.slice na nps.length nc)
  have HX10s5 := Lib.hid (grown_block hgs5 HX10s4.out hyx.symm)
  have HY10s5 : Hid (((((((W10.setCell ⟨y, 9, none⟩ (.int .i64 nk)).setCell ⟨y, 10, none⟩ (.string nt)).setCell ⟨y, 11, none⟩ (.string ni)).setCell ⟨y, 12, none⟩ (.string nr)).setCell ⟨y, 13, none⟩ (.slice nsa nss.length nsc)).setCell ⟨y, 14, none⟩ (.slice na nps.length nc)).heap[y]? = some (.cells #[.int .u64 (id : Int), .int .i64 er, .int .u64 (rv : Int), .string tk, .slice fs.a fs.xs.length fs.c, .slice ts.a ts.xs.length ts.c, .slice os.a os.xs.length os.c, .slice es.a es.xs.length es.c, .slice ss.a ss.xs.length ss.c, .int .i64 nk, .string nt, .string ni, .string nr, .slice nsa nss.length nsc, .slice na nps.length nc] 36 (0, 0))) := heap_setCell_same (((((W10.setCell ⟨y, 9, none⟩ (.int .i64 nk)).setCell ⟨y, 10, none⟩ (.string nt)).setCell ⟨y, 11, none⟩ (.string ni)).setCell ⟨y, 12, none⟩ (.string nr)).setCell ⟨y, 13, none⟩ (.slice nsa nss.length nsc)) y 14 _ 36 _ HY10s4.out
  have HB10s5 := Lib.hid (below_on HB10s4.out hgs5 HB10s4.out.size hyW)
  have hrs := hrs.other hgs5 hyg hyb
  have cy5 := heap_cell HY10.out 14
  simp at cy5
  have fy5 := frozen_of_row W10 y 14 _ _ HY10.out
  have HX10s := HX10s5
  have HY10s := HY10s5
  have HB10s := HB10s5
  have hst1 := stays_of hg HgV.out
  have hst2 := stays_of (grownBy_trans (grownBy_trans (grownBy_trans (grownBy_trans (grownBy_trans (grownBy_trans (grown_refl W10 y) hgs0) hgs1) hgs2) hgs3) hgs4) hgs5) HyV.out
  have HM5_6_7_8_9_10 := Lib.hid ((lsmem_ok (cells := boolC) (size := 1) nomem_ok).stays ((lsmem_ok (cells := boolC) (size := 1) nomem_ok).stays HM5_6_7_8_9.out hst1) hst2)
  have HM6_7_8_9_10 := Lib.hid ((lsmem_ok (cells := sixC) (size := 6) nomem_ok).stays ((lsmem_ok (cells := sixC) (size := 6) nomem_ok).stays HM6_7_8_9.out hst1) hst2)
  have HM7_8_9_10 := Lib.hid ((lsmem_ok (cells := duoC) (size := 2) nomem_ok).stays ((lsmem_ok (cells := duoC) (size := 2) nomem_ok).stays HM7_8_9.out hst1) hst2)
  have HM8_9_10 := Lib.hid ((lsmem_ok (cells := evtC) (size := 8) nomem_ok).stays ((lsmem_ok (cells := evtC) (size := 8) nomem_ok).stays HM8_9.out hst1) hst2)
  have HM9_10 := Lib.hid ((lsmem_ok (cells := seC) (size := 11) (semem_ok 64)).stays ((lsmem_ok (cells := seC) (size := 11) (semem_ok 64)).stays HM9.out hst1) hst2)
  have HM10 := Lib.hid ((nemem_ok 64).stays ((nemem_ok 64).weak (S' := fun b => V.heap.size ≤ b) (fun b hb => Nat.le_trans HVs9.out hb) hm10) hst2)
  have HVs10 : Hid (V.heap.size ≤ ((((((W10.setCell ⟨y, 9, none⟩ (.int .i64 nk)).setCell ⟨y, 10, none⟩ (.string nt)).setCell ⟨y, 11, none⟩ (.string ni)).setCell ⟨y, 12, none⟩ (.string nr)).setCell ⟨y, 13, none⟩ (.slice nsa nss.length nsc)).setCell ⟨y, 14, none⟩ (.slice na nps.length nc)).heap.size) := Nat.le_trans HVs9.out (Nat.le_trans hg.size (grownBy_trans (grownBy_trans (grownBy_trans (grownBy_trans (grownBy_trans (grownBy_trans (grown_refl W10 y) hgs0) hgs1) hgs2) hgs3) hgs4) hgs5).size)
  have HCall := Lib.hid (rall_any g bb l10 0 o10 _ hrs)
  clear hg hr hrs st10 hm10 hgs0 hgs1 hgs2 hgs3 hgs4 hgs5 hst1 hst2
  simp only [neV]
  go_wp2_with fail
  clear cy0 fy0 cy1 fy1 cy2 fy2 cy3 fy3 cy4 fy4 cy5 fy5
  refine HCall.out.mono ?_
  clear HCall
  rintro e We ⟨rfl, hWe⟩
  have HEnd := Lib.hid hWe
  have HXe : Hid (We.heap[x]? = _) := (by rw [hWe]; exact HX10s.out : We.heap[x]? = some (.cells #[.int .u64 0, .int .i64 0, .int .u64 0, .string { data := #[] }, .slice none 0 0, .slice none 0 0, .slice none 0 0, .slice none 0 0, .slice none 0 0, .int .i64 0, .string { data := #[] }, .string { data := #[] }, .string { data := #[] }, .slice none 0 0, .slice none 0 0] 36 (0, 0)))
  have HYe : Hid (We.heap[y]? = _) := (by rw [hWe]; exact HY10s.out : We.heap[y]? = some (.cells #[.int .u64 (id : Int), .int .i64 er, .int .u64 (rv : Int), .string tk, .slice fs.a fs.xs.length fs.c, .slice ts.a ts.xs.length ts.c, .slice os.a os.xs.length os.c, .slice es.a es.xs.length es.c, .slice ss.a ss.xs.length ss.c, .int .i64 nk, .string nt, .string ni, .string nr, .slice nsa nss.length nsc, .slice na nps.length nc] 36 (0, 0)))
  have HBe : Hid (Below W.heap.size W We) := (by rw [hWe]; exact HB10s.out : Below W.heap.size W We)
  rw [← hWe] at HM5_6_7_8_9_10
  rw [← hWe] at HM6_7_8_9_10
  rw [← hWe] at HM7_8_9_10
  rw [← hWe] at HM8_9_10
  rw [← hWe] at HM9_10
  rw [← hWe] at HM10
  have hres := rst_resp (x := ⟨id, er, rv, tk, fs, ts, os, es, ss, ⟨nk, nt, ni, nr, nsa, nsc, nss, na, nc, nps⟩⟩) HT1.out HT2.out HT3.out HT4.out HT5.out HT6.out HT7.out HT8.out HT9.out HT10.out
  clear hWe HEnd
  cases hq : (!o10 && decide (l10 = [])) with
  | true =>
    have HYes := Lib.hid (resp_yes HCase.out hres hq)
    have h1c : (#[.int .u64 (id : Int), .int .i64 er, .int .u64 (rv : Int), .string tk, .slice fs.a fs.xs.length fs.c, .slice ts.a ts.xs.length ts.c, .slice os.a os.xs.length os.c, .slice es.a es.xs.length es.c, .slice ss.a ss.xs.length ss.c, .int .i64 nk, .string nt, .string ni, .string nr, .slice nsa nss.length nsc, .slice na nps.length nc] : Array Value).all (·.oneCell') = true := by simp [Value.oneCell']
    have cy0 := heap_cell HYe.out 0
    have cy1 := heap_cell HYe.out 1
    have cy2 := heap_cell HYe.out 2
    have cy3 := heap_cell HYe.out 3
    have cy4 := heap_cell HYe.out 4
    have cy5 := heap_cell HYe.out 5
    have cy6 := heap_cell HYe.out 6
    have cy7 := heap_cell HYe.out 7
    have cy8 := heap_cell HYe.out 8
    have cy9 := heap_cell HYe.out 9
    have cy10 := heap_cell HYe.out 10
    have cy11 := heap_cell HYe.out 11
    have cy12 := heap_cell HYe.out 12
    have cy13 := heap_cell HYe.out 13
    have cy14 := heap_cell HYe.out 14
    simp at cy0 cy1 cy2 cy3 cy4 cy5 cy6 cy7 cy8 cy9 cy10 cy11 cy12 cy13 cy14
    go_wp2_with (refine wpList_store_arr We rfl rfl 36 _ _ rfl x 36 _ #[.int .u64 (id : Int), .int .i64 er, .int .u64 (rv : Int), .string tk, .slice fs.a fs.xs.length fs.c, .slice ts.a ts.xs.length ts.c, .slice os.a os.xs.length os.c, .slice es.a es.xs.length es.c, .slice ss.a ss.xs.length ss.c, .int .i64 nk, .string nt, .string ni, .string nr, .slice nsa nss.length nsc, .slice na nps.length nc] (by rfl) (by rfl) HXe.out (by rfl) (by rfl) h1c ?_; intro w3 hrow3 hg3 hsz3; have HZ := Lib.hid hrow3; have HG3 := Lib.hid hg3; clear hrow3 hg3 hsz3)
    have z0 := heap_cell HZ.out 0
    have z1 := heap_cell HZ.out 1
    have z2 := heap_cell HZ.out 2
    have z3 := heap_cell HZ.out 3
    have z4 := heap_cell HZ.out 4
    have z5 := heap_cell HZ.out 5
    have z6 := heap_cell HZ.out 6
    have z7 := heap_cell HZ.out 7
    have z8 := heap_cell HZ.out 8
    have z9 := heap_cell HZ.out 9
    have z10 := heap_cell HZ.out 10
    have z11 := heap_cell HZ.out 11
    have z12 := heap_cell HZ.out 12
    have z13 := heap_cell HZ.out 13
    have z14 := heap_cell HZ.out 14
    simp at z0 z1 z2 z3 z4 z5 z6 z7 z8 z9 z10 z11 z12 z13 z14
    go_wp2_with fail
    have hst3 := stays_of HG3.out HxV.out
    exact bodyPost_ret (v := .tuple #[.agg #[.int .u64 (id : Int), .int .i64 er, .int .u64 (rv : Int), .string tk, .slice fs.a fs.xs.length fs.c, .slice ts.a ts.xs.length ts.c, .slice os.a os.xs.length os.c, .slice es.a es.xs.length es.c, .slice ss.a ss.xs.length ss.c, .int .i64 nk, .string nt, .string ni, .string nr, .slice nsa nss.length nsc, .slice na nps.length nc], .int .i64 0]) (by simp [results, Tryz.results8, go_sem, z0, z1, z2, z3, z4, z5, z6, z7, z8, z9, z10, z11, z12, z13, z14]) rfl ⟨below_on HBe.out HG3.out HBe.out.size hxs, .inl ⟨⟨id, er, rv, tk, fs, ts, os, es, ss, ⟨nk, nt, ni, nr, nsa, nsc, nss, na, nc, nps⟩⟩, rfl, ⟨(lsmem_ok (cells := boolC) (size := 1) nomem_ok).stays ((lsmem_ok (cells := boolC) (size := 1) nomem_ok).weak (fun b hb => hb) HM5_6_7_8_9_10.out) hst3 |> (lsmem_ok (cells := boolC) (size := 1) nomem_ok).weak (fun b hb => Nat.le_trans HB1s.out.size hb), (lsmem_ok (cells := sixC) (size := 6) nomem_ok).stays ((lsmem_ok (cells := sixC) (size := 6) nomem_ok).weak (fun b hb => hb) HM6_7_8_9_10.out) hst3 |> (lsmem_ok (cells := sixC) (size := 6) nomem_ok).weak (fun b hb => Nat.le_trans HB1s.out.size hb), (lsmem_ok (cells := duoC) (size := 2) nomem_ok).stays ((lsmem_ok (cells := duoC) (size := 2) nomem_ok).weak (fun b hb => hb) HM7_8_9_10.out) hst3 |> (lsmem_ok (cells := duoC) (size := 2) nomem_ok).weak (fun b hb => Nat.le_trans HB1s.out.size hb), (lsmem_ok (cells := evtC) (size := 8) nomem_ok).stays ((lsmem_ok (cells := evtC) (size := 8) nomem_ok).weak (fun b hb => hb) HM8_9_10.out) hst3 |> (lsmem_ok (cells := evtC) (size := 8) nomem_ok).weak (fun b hb => Nat.le_trans HB1s.out.size hb), (lsmem_ok (cells := seC) (size := 11) (semem_ok 64)).stays ((lsmem_ok (cells := seC) (size := 11) (semem_ok 64)).weak (fun b hb => hb) HM9_10.out) hst3 |> (lsmem_ok (cells := seC) (size := 11) (semem_ok 64)).weak (fun b hb => Nat.le_trans HB1s.out.size hb), (nemem_ok 64).stays ((nemem_ok 64).weak (fun b hb => hb) HM10.out) hst3 |> (nemem_ok 64).weak (fun b hb => Nat.le_trans HB1s.out.size hb)⟩, HYes.out⟩⟩
  | false =>
    have HNo := Lib.hid (resp_no HCase.out hres hq)
    have h1c : (#[.int .u64 0, .int .i64 0, .int .u64 0, .string { data := #[] }, .slice none 0 0, .slice none 0 0, .slice none 0 0, .slice none 0 0, .slice none 0 0, .int .i64 0, .string { data := #[] }, .string { data := #[] }, .string { data := #[] }, .slice none 0 0, .slice none 0 0] : Array Value).all (·.oneCell') = true := by simp [Value.oneCell']
    go_wp2_with (refine wpList_store_arr We rfl rfl 36 _ _ rfl x 36 _ #[.int .u64 0, .int .i64 0, .int .u64 0, .string { data := #[] }, .slice none 0 0, .slice none 0 0, .slice none 0 0, .slice none 0 0, .slice none 0 0, .int .i64 0, .string { data := #[] }, .string { data := #[] }, .string { data := #[] }, .slice none 0 0, .slice none 0 0] (by rfl) (by rfl) HXe.out (by rfl) (by rfl) h1c ?_; intro w3 hrow3 hg3 hsz3; have HZ := Lib.hid hrow3; have HG3 := Lib.hid hg3; clear hrow3 hg3 hsz3)
    have z0 := heap_cell HZ.out 0
    have z1 := heap_cell HZ.out 1
    have z2 := heap_cell HZ.out 2
    have z3 := heap_cell HZ.out 3
    have z4 := heap_cell HZ.out 4
    have z5 := heap_cell HZ.out 5
    have z6 := heap_cell HZ.out 6
    have z7 := heap_cell HZ.out 7
    have z8 := heap_cell HZ.out 8
    have z9 := heap_cell HZ.out 9
    have z10 := heap_cell HZ.out 10
    have z11 := heap_cell HZ.out 11
    have z12 := heap_cell HZ.out 12
    have z13 := heap_cell HZ.out 13
    have z14 := heap_cell HZ.out 14
    simp at z0 z1 z2 z3 z4 z5 z6 z7 z8 z9 z10 z11 z12 z13 z14
    go_wp2_with fail
    exact bodyPost_ret (v := .tuple #[.agg #[.int .u64 0, .int .i64 0, .int .u64 0, .string { data := #[] }, .slice none 0 0, .slice none 0 0, .slice none 0 0, .slice none 0 0, .slice none 0 0, .int .i64 0, .string { data := #[] }, .string { data := #[] }, .string { data := #[] }, .slice none 0 0, .slice none 0 0], .int .i64 9]) (by simp [results, Tryz.results8, go_sem, z0, z1, z2, z3, z4, z5, z6, z7, z8, z9, z10, z11, z12, z13, z14]) rfl ⟨below_on HBe.out HG3.out HBe.out.size hxs, .inr ⟨rfl, HNo.out⟩⟩
end Go.Proofs.YtacjbgmnoiimbabGreat
