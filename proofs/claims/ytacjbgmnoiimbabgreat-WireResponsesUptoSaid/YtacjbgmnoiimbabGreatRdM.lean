/- A step read: walked (printed by genWireRm.py). -/
import Derived.Test.YtacjbgmnoiimbabGreatRdL
import Derived.Test.YtacjbgmnoiimbabGreatWrH
namespace Go.Proofs.YtacjbgmnoiimbabGreat
set_option linter.unusedVariables false
set_option linter.unusedSimpArgs false
open Go.RowKit

def seV (x : SE) : Value := .agg #[.string x.p.1, .string x.p.2.1, .string x.p.2.2, .int .i64 x.r.k, .string x.r.A, .string x.r.B, .slice x.r.a x.r.ps.length x.r.c, .string x.s.1, .string x.s.2.1, .string x.s.2.2, .slice x.ba x.bs.length x.bc]
/-- a step's lists -/
def semem (n : Nat) (S : Nat → Prop) (W : World) (x : SE) : Prop := remem n S W x.r ∧ lsmem intC 1 intmem S W ⟨x.ba, x.bc, x.bs⟩
theorem semem_ok (n : Nat) : MemOk (semem n) := ⟨fun h k => ⟨(remem_ok n).weak h k.1, (lsmem_ok intmem_ok).weak h k.2⟩, fun k => ⟨(remem_ok n).lt k.1, (lsmem_ok intmem_ok).lt k.2⟩, fun k hs => ⟨(remem_ok n).stays k.1 hs, (lsmem_ok intmem_ok).stays k.2 hs⟩⟩
theorem seC_len (x : SE) : (seC x).length = 11 := rfl
theorem seC_one (x : SE) : ∀ u ∈ seC x, u.oneCell' = true := by simp [seC, Value.oneCell']
theorem stepE_pos (x : PS) : 1 ≤ (stepE x).length := by
  unfold stepE
  rw [List.length_append]
  have := triE_pos x.1
  omega
theorem rst_step {l l1 l2 l3 l4 : List UInt8} {d : Nat} {o o1 o2 o3 o4 : Bool} {p : Tri} {r : PR} {s : Tri} {bs : List Int} (h1 : RSt triE triok nobad l d o p l1 o1) (h2 : RSt encR okR badR l1 d o1 r l2 o2) (h3 : RSt triE triok nobad l2 d o2 s l3 o3) (h4 : RSt (listE intE) (lok iok) nobad l3 d o3 bs l4 o4) :
    RSt stepE stepok (fun x d => badR x.2.1 d) l d o (p, r, s, bs) l4 o4 :=
  (h1.pair (h2.pair (h3.pair h4 uq_tri) uq_rule) uq_tri).bads (fun t d => ⟨fun h => .inr (.inl h), fun h => h.elim (fun h => h.elim) (fun h => h.elim id (fun h => h.elim (fun h => h.elim) (fun h => h.elim)))⟩)
theorem sestep {x m : Nat} {W V3 V5 A C : World} {p1 p2 p3 s1 s2 s3 : ByteArray} {r : RE} {ts : LS Int} (hr : remem m (fun b => V3.heap.size ≤ b ∧ b < V5.heap.size) A r) (hWV : W.heap.size ≤ V3.heap.size) (hxV : x < V3.heap.size) (hVV : V3.heap.size ≤ V5.heap.size) (ht : lsmem intC 1 intmem (fun b => V5.heap.size ≤ b) A ts) (hg3 : A.grownBy C (some x)) :
    semem m (fun b => W.heap.size ≤ b) C ⟨(p1, p2, p3), r, (s1, s2, s3), ts.a, ts.c, ts.xs⟩ := by
  have h1 := (remem_ok m).stays hr (W' := C) ⟨hg3.size, fun b hb hlt => hg3.block b hlt (fun e => by cases e; have := hb.1; omega)⟩
  have h2 := (lsmem_ok (cells := intC) (size := 1) intmem_ok).stays ht (W' := C) ⟨hg3.size, fun b hb hlt => hg3.block b hlt (fun e => by cases e; omega)⟩
  exact ⟨(remem_ok m).weak (fun b hb => Nat.le_trans hWV hb.1) h1, (lsmem_ok (cells := intC) (size := 1) intmem_ok).weak (fun b hb => by omega) h2⟩
set_option maxRecDepth 100000 in
set_option maxHeartbeats 4000000 in
theorem rstep_any (g bb m : Nat) (W : World) (l : List UInt8) (d : Nat) (odd : Bool) (hdm : d + m = 64) (hl : l.length ≤ 1000000000) (h : RAt W g bb l d odd) :
    Calls Tryz.prog 47 #[.pointer (some ⟨g, 0, none⟩)] W (RD g bb SE.plain stepE stepok (fun x d => badR x.2.1 d) seV (semem m) l d odd W) := by
  have hgl := h.lt
  have hbl := h.bbl
  have HX0 := Lib.hid (heap_alloc_new W (.cells #[.string { data := #[] }, .string { data := #[] }, .string { data := #[] }, .int .i64 0, .string { data := #[] }, .string { data := #[] }, .slice none 0 0, .string { data := #[] }, .string { data := #[] }, .string { data := #[] }, .slice none 0 0] 74))
  have HG0 : Hid (W.grownBy (W.alloc (.cells #[.string { data := #[] }, .string { data := #[] }, .string { data := #[] }, .int .i64 0, .string { data := #[] }, .string { data := #[] }, .slice none 0 0, .string { data := #[] }, .string { data := #[] }, .string { data := #[] }, .slice none 0 0] 74)) (some g)) := World.grownBy_alloc W _ _
  have HC := Lib.hid (rptd_any g bb _ l d odd hl (h.alloc (.cells #[.string { data := #[] }, .string { data := #[] }, .string { data := #[] }, .int .i64 0, .string { data := #[] }, .string { data := #[] }, .slice none 0 0, .string { data := #[] }, .string { data := #[] }, .string { data := #[] }, .slice none 0 0] 74)))
  clear h
  go_enter Tryz.func47, Tryz.ntmps47
  go_wp2_with fail
  refine HC.out.mono ?_
  clear HC
  generalize (W.alloc (.cells #[.string { data := #[] }, .string { data := #[] }, .string { data := #[] }, .int .i64 0, .string { data := #[] }, .string { data := #[] }, .slice none 0 0, .string { data := #[] }, .string { data := #[] }, .string { data := #[] }, .slice none 0 0] 74)) = W0 at *
  obtain ⟨x, hx⟩ : ∃ x, x = W.heap.size := ⟨_, rfl⟩
  rw [← hx] at HX0
  rw [← hx]
  have hxg : x ≠ g := by omega
  have hxb : x ≠ bb := by omega
  have hxs : W.heap.size ≤ x := by omega
  clear hx
  rintro e W1 ⟨⟨p1, p2, p3⟩, l1, o1, rfl, hg, hr, hm1, st1⟩
  have HX1 := Lib.hid (grown_block hg HX0.out hxg)
  have HG1 := Lib.hid (grownBy_trans HG0.out hg)
  have HT1 := Lib.hid st1
  have hl1 := st1.len
  obtain ⟨V, hV⟩ : ∃ V, V = W1.alloc (.cells #[.string p1, .string p2, .string p3, .int .i64 0, .string { data := #[] }, .string { data := #[] }, .slice none 0 0, .string { data := #[] }, .string { data := #[] }, .string { data := #[] }, .slice none 0 0] 74) := ⟨_, rfl⟩
  have HX1s : Hid (V.heap[x]? = some (.cells #[.string { data := #[] }, .string { data := #[] }, .string { data := #[] }, .int .i64 0, .string { data := #[] }, .string { data := #[] }, .slice none 0 0, .string { data := #[] }, .string { data := #[] }, .string { data := #[] }, .slice none 0 0] 74 (0, 0))) := by
    show V.heap[x]? = _
    rw [hV]; exact (((Below.refl W1.heap.size W1).alloc (Nat.le_refl _) (.cells #[.string p1, .string p2, .string p3, .int .i64 0, .string { data := #[] }, .string { data := #[] }, .slice none 0 0, .string { data := #[] }, .string { data := #[] }, .string { data := #[] }, .slice none 0 0] 74)).block x (heap_lt HX1.out)).trans HX1.out
  have HY1s : Hid (V.heap[W1.heap.size]? = some (.cells #[.string p1, .string p2, .string p3, .int .i64 0, .string { data := #[] }, .string { data := #[] }, .slice none 0 0, .string { data := #[] }, .string { data := #[] }, .string { data := #[] }, .slice none 0 0] 74 (0, 0))) := by
    show V.heap[W1.heap.size]? = _
    rw [hV]; exact heap_alloc_new W1 (.cells #[.string p1, .string p2, .string p3, .int .i64 0, .string { data := #[] }, .string { data := #[] }, .slice none 0 0, .string { data := #[] }, .string { data := #[] }, .string { data := #[] }, .slice none 0 0] 74)
  have hrV : RAt V g bb l1 d o1 := by rw [hV]; exact hr.alloc _
  have HG1s : Hid (W.grownBy V (some g)) := by
    show W.grownBy _ _
    rw [hV]; exact grownBy_trans HG1.out (World.grownBy_alloc W1 _ _)
  have HC := Lib.hid (rrule_any g bb m V l1 d o1 hdm (by omega) hrV)
  obtain ⟨y, hy⟩ : ∃ y, y = W1.heap.size := ⟨_, rfl⟩
  have hyx : y ≠ x := by
    have := heap_lt HX1.out
    omega
  have hyg : y ≠ g := by
    have := hr.lt
    omega
  have hyb : y ≠ bb := by
    have := hr.bbl
    omega
  have hyW : W.heap.size ≤ y := by
    have := HG1.out.size
    omega
  have HHy := Lib.hid hy
  have HV := Lib.hid hV
  clear hg hr hrV hy hV
  simp only [triV]
  go_wp2_with fail
  rw [← HV.out, ← HHy.out]
  rw [← HHy.out] at HY1s
  refine HC.out.mono ?_
  clear HC
  rintro e W2 ⟨⟨k2, A2, B2, a2, c2, ps2⟩, l2, o2, rfl, hg, hr, hm2, st2⟩
  have HX2 := Lib.hid (grown_block hg HX1s.out hxg)
  have HY2 := Lib.hid (grown_block hg HY1s.out hyg)
  have HG2 := Lib.hid (grownBy_trans HG1s.out hg)
  have HT2 := Lib.hid st2
  have hl2 := st2.len
  have hgt := hg
  have hrs := hr
  have hgs0 := grown_cell W2 y 3 (.int .i64 k2)
  have HX2s0 := Lib.hid (grown_block hgs0 HX2.out hyx.symm)
  have HY2s0 : Hid ((W2.setCell ⟨y, 3, none⟩ (.int .i64 k2)).heap[y]? = some (.cells #[.string p1, .string p2, .string p3, .int .i64 k2, .string { data := #[] }, .string { data := #[] }, .slice none 0 0, .string { data := #[] }, .string { data := #[] }, .string { data := #[] }, .slice none 0 0] 74 (0, 0))) := heap_setCell_same W2 y 3 _ 74 _ HY2.out
  have HG2s0 := Lib.hid (grown_own HG2.out hgs0 hyW)
  have hrs := hrs.other hgs0 hyg hyb
  have cy0 := heap_cell HY2.out 3
  simp at cy0
  have fy0 := frozen_of_row W2 y 3 _ _ HY2.out
  have hgs1 := grown_cell (W2.setCell ⟨y, 3, none⟩ (.int .i64 k2)) y 4 (.string A2)
  have HX2s1 := Lib.hid (grown_block hgs1 HX2s0.out hyx.symm)
  have HY2s1 : Hid (((W2.setCell ⟨y, 3, none⟩ (.int .i64 k2)).setCell ⟨y, 4, none⟩ (.string A2)).heap[y]? = some (.cells #[.string p1, .string p2, .string p3, .int .i64 k2, .string A2, .string { data := #[] }, .slice none 0 0, .string { data := #[] }, .string { data := #[] }, .string { data := #[] }, .slice none 0 0] 74 (0, 0))) := heap_setCell_same (W2.setCell ⟨y, 3, none⟩ (.int .i64 k2)) y 4 _ 74 _ HY2s0.out
  have HG2s1 := Lib.hid (grown_own HG2s0.out hgs1 hyW)
  have hrs := hrs.other hgs1 hyg hyb
  have cy1 := heap_cell HY2.out 4
  simp at cy1
  have fy1 := frozen_of_row W2 y 4 _ _ HY2.out
  have hgs2 := grown_cell ((W2.setCell ⟨y, 3, none⟩ (.int .i64 k2)).setCell ⟨y, 4, none⟩ (.string A2)) y 5 (.string B2)
  have HX2s2 := Lib.hid (grown_block hgs2 HX2s1.out hyx.symm)
  have HY2s2 : Hid ((((W2.setCell ⟨y, 3, none⟩ (.int .i64 k2)).setCell ⟨y, 4, none⟩ (.string A2)).setCell ⟨y, 5, none⟩ (.string B2)).heap[y]? = some (.cells #[.string p1, .string p2, .string p3, .int .i64 k2, .string A2, .string B2, .slice none 0 0, .string { data := #[] }, .string { data := #[] }, .string { data := #[] }, .slice none 0 0] 74 (0, 0))) := heap_setCell_same ((W2.setCell ⟨y, 3, none⟩ (.int .i64 k2)).setCell ⟨y, 4, none⟩ (.string A2)) y 5 _ 74 _ HY2s1.out
  have HG2s2 := Lib.hid (grown_own HG2s1.out hgs2 hyW)
  have hrs := hrs.other hgs2 hyg hyb
  have cy2 := heap_cell HY2.out 5
  simp at cy2
  have fy2 := frozen_of_row W2 y 5 _ _ HY2.out
  have hgs3 := grown_cell (((W2.setCell ⟨y, 3, none⟩ (.int .i64 k2)).setCell ⟨y, 4, none⟩ (.string A2)).setCell ⟨y, 5, none⟩ (.string B2)) y 6 (.slice a2 ps2.length c2)
  have HX2s3 := Lib.hid (grown_block hgs3 HX2s2.out hyx.symm)
  have HY2s3 : Hid (((((W2.setCell ⟨y, 3, none⟩ (.int .i64 k2)).setCell ⟨y, 4, none⟩ (.string A2)).setCell ⟨y, 5, none⟩ (.string B2)).setCell ⟨y, 6, none⟩ (.slice a2 ps2.length c2)).heap[y]? = some (.cells #[.string p1, .string p2, .string p3, .int .i64 k2, .string A2, .string B2, .slice a2 ps2.length c2, .string { data := #[] }, .string { data := #[] }, .string { data := #[] }, .slice none 0 0] 74 (0, 0))) := heap_setCell_same (((W2.setCell ⟨y, 3, none⟩ (.int .i64 k2)).setCell ⟨y, 4, none⟩ (.string A2)).setCell ⟨y, 5, none⟩ (.string B2)) y 6 _ 74 _ HY2s2.out
  have HG2s3 := Lib.hid (grown_own HG2s2.out hgs3 hyW)
  have hrs := hrs.other hgs3 hyg hyb
  have cy3 := heap_cell HY2.out 6
  simp at cy3
  have fy3 := frozen_of_row W2 y 6 _ _ HY2.out
  have HX2s := HX2s3
  have HY2s := HY2s3
  have HG2s := HG2s3
  have hM0 := (remem_ok m).stays ((remem_ok m).lt hm2) (W' := ((((W2.setCell ⟨y, 3, none⟩ (.int .i64 k2)).setCell ⟨y, 4, none⟩ (.string A2)).setCell ⟨y, 5, none⟩ (.string B2)).setCell ⟨y, 6, none⟩ (.slice a2 ps2.length c2))) ⟨(grownBy_trans (grownBy_trans (grownBy_trans (grownBy_trans (grown_refl W2 y) hgs0) hgs1) hgs2) hgs3).size, fun b hb hlt => (grownBy_trans (grownBy_trans (grownBy_trans (grownBy_trans (grown_refl W2 y) hgs0) hgs1) hgs2) hgs3).block b hlt (fun e => by cases e; exact absurd (heap_lt HY1s.out) (Nat.not_lt.2 hb.1))⟩
  have hM1 := (remem_ok m).lt ((remem_ok m).weak (S' := fun b => V.heap.size ≤ b) (fun b hb => hb.1) hM0)
  have HM2 := Lib.hid hM1
  have HV2 : Hid (V.heap.size ≤ ((((W2.setCell ⟨y, 3, none⟩ (.int .i64 k2)).setCell ⟨y, 4, none⟩ (.string A2)).setCell ⟨y, 5, none⟩ (.string B2)).setCell ⟨y, 6, none⟩ (.slice a2 ps2.length c2)).heap.size) := Nat.le_trans hg.size (grownBy_trans (grownBy_trans (grownBy_trans (grownBy_trans (grown_refl W2 y) hgs0) hgs1) hgs2) hgs3).size
  clear hM0 hM1
  have HC := Lib.hid (rsubd_any g bb _ l2 d o2 (by omega) hrs)
  clear hg hr hgt hrs st2 hm2 hgs0 hgs1 hgs2 hgs3
  simp only [reV]
  go_wp2_with fail
  clear cy0 fy0 cy1 fy1 cy2 fy2 cy3 fy3
  refine HC.out.mono ?_
  clear HC
  rintro e W3 ⟨⟨s1, s2, s3⟩, l3, o3, rfl, hg, hr, hm3, st3⟩
  have HX3 := Lib.hid (grown_block hg HX2s.out hxg)
  have HY3 := Lib.hid (grown_block hg HY2s.out hyg)
  have HG3 := Lib.hid (grownBy_trans HG2s.out hg)
  have HT3 := Lib.hid st3
  have hl3 := st3.len
  have hgt := hg
  have hrs := hr
  have hgs0 := grown_cell W3 y 7 (.string s1)
  have HX3s0 := Lib.hid (grown_block hgs0 HX3.out hyx.symm)
  have HY3s0 : Hid ((W3.setCell ⟨y, 7, none⟩ (.string s1)).heap[y]? = some (.cells #[.string p1, .string p2, .string p3, .int .i64 k2, .string A2, .string B2, .slice a2 ps2.length c2, .string s1, .string { data := #[] }, .string { data := #[] }, .slice none 0 0] 74 (0, 0))) := heap_setCell_same W3 y 7 _ 74 _ HY3.out
  have HG3s0 := Lib.hid (grown_own HG3.out hgs0 hyW)
  have hrs := hrs.other hgs0 hyg hyb
  have cy0 := heap_cell HY3.out 7
  simp at cy0
  have fy0 := frozen_of_row W3 y 7 _ _ HY3.out
  have hgs1 := grown_cell (W3.setCell ⟨y, 7, none⟩ (.string s1)) y 8 (.string s2)
  have HX3s1 := Lib.hid (grown_block hgs1 HX3s0.out hyx.symm)
  have HY3s1 : Hid (((W3.setCell ⟨y, 7, none⟩ (.string s1)).setCell ⟨y, 8, none⟩ (.string s2)).heap[y]? = some (.cells #[.string p1, .string p2, .string p3, .int .i64 k2, .string A2, .string B2, .slice a2 ps2.length c2, .string s1, .string s2, .string { data := #[] }, .slice none 0 0] 74 (0, 0))) := heap_setCell_same (W3.setCell ⟨y, 7, none⟩ (.string s1)) y 8 _ 74 _ HY3s0.out
  have HG3s1 := Lib.hid (grown_own HG3s0.out hgs1 hyW)
  have hrs := hrs.other hgs1 hyg hyb
  have cy1 := heap_cell HY3.out 8
  simp at cy1
  have fy1 := frozen_of_row W3 y 8 _ _ HY3.out
  have hgs2 := grown_cell ((W3.setCell ⟨y, 7, none⟩ (.string s1)).setCell ⟨y, 8, none⟩ (.string s2)) y 9 (.string s3)
  have HX3s2 := Lib.hid (grown_block hgs2 HX3s1.out hyx.symm)
  have HY3s2 : Hid ((((W3.setCell ⟨y, 7, none⟩ (.string s1)).setCell ⟨y, 8, none⟩ (.string s2)).setCell ⟨y, 9, none⟩ (.string s3)).heap[y]? = some (.cells #[.string p1, .string p2, .string p3, .int .i64 k2, .string A2, .string B2, .slice a2 ps2.length c2, .string s1, .string s2, .string s3, .slice none 0 0] 74 (0, 0))) := heap_setCell_same ((W3.setCell ⟨y, 7, none⟩ (.string s1)).setCell ⟨y, 8, none⟩ (.string s2)) y 9 _ 74 _ HY3s1.out
  have HG3s2 := Lib.hid (grown_own HG3s1.out hgs2 hyW)
  have hrs := hrs.other hgs2 hyg hyb
  have cy2 := heap_cell HY3.out 9
  simp at cy2
  have fy2 := frozen_of_row W3 y 9 _ _ HY3.out
  have HX3s := HX3s2
  have HY3s := HY3s2
  have HG3s := HG3s2
  have hyv := heap_lt HY1s.out
  have hM0 := (remem_ok m).stays HM2.out (W' := W3) ⟨hg.size, fun b hb hlt => hg.block b hlt (fun e => by cases e; exact absurd (Nat.lt_of_lt_of_le hgl HG1s.out.size) (Nat.not_lt.2 hb.1))⟩
  have hM1 := (remem_ok m).stays hM0 (W' := (((W3.setCell ⟨y, 7, none⟩ (.string s1)).setCell ⟨y, 8, none⟩ (.string s2)).setCell ⟨y, 9, none⟩ (.string s3))) ⟨(grownBy_trans (grownBy_trans (grownBy_trans (grown_refl W3 y) hgs0) hgs1) hgs2).size, fun b hb hlt => (grownBy_trans (grownBy_trans (grownBy_trans (grown_refl W3 y) hgs0) hgs1) hgs2).block b hlt (fun e => by cases e; exact absurd hyv (Nat.not_lt.2 hb.1))⟩
  have hM2 := (remem_ok m).lt ((remem_ok m).weak (S' := fun b => V.heap.size ≤ b) (fun b hb => hb.1) hM1)
  have HM3 := Lib.hid hM2
  have HVV : Hid (V.heap.size ≤ (((W3.setCell ⟨y, 7, none⟩ (.string s1)).setCell ⟨y, 8, none⟩ (.string s2)).setCell ⟨y, 9, none⟩ (.string s3)).heap.size) := Nat.le_trans HV2.out (Nat.le_trans hg.size (grownBy_trans (grownBy_trans (grownBy_trans (grown_refl W3 y) hgs0) hgs1) hgs2).size)
  clear hM0 hM1 hM2
  have HC := Lib.hid (iint_any g bb _ l3 d o3 (by omega) hrs)
  clear hg hr hgt hrs st3 hm3 hgs0 hgs1 hgs2
  simp only [triV]
  go_wp2_with fail
  clear cy0 fy0 cy1 fy1 cy2 fy2
  refine HC.out.mono ?_
  clear HC
  rintro e W4 ⟨ts, l4, o4, rfl, hg, hr, hm4, st4⟩
  have HX4 := Lib.hid (grown_block hg HX3s.out hxg)
  have HY4 := Lib.hid (grown_block hg HY3s.out hyg)
  have HG4 := Lib.hid (grownBy_trans HG3s.out hg)
  have HT4 := Lib.hid st4
  have hl4 := st4.len
  have hgt := hg
  have hrs := hr
  have hgs0 := grown_cell W4 y 10 (.slice ts.a ts.xs.length ts.c)
  have HX4s0 := Lib.hid (grown_block hgs0 HX4.out hyx.symm)
  have HY4s0 : Hid ((W4.setCell ⟨y, 10, none⟩ (.slice ts.a ts.xs.length ts.c)).heap[y]? = some (.cells #[.string p1, .string p2, .string p3, .int .i64 k2, .string A2, .string B2, .slice a2 ps2.length c2, .string s1, .string s2, .string s3, .slice ts.a ts.xs.length ts.c] 74 (0, 0))) := heap_setCell_same W4 y 10 _ 74 _ HY4.out
  have HG4s0 := Lib.hid (grown_own HG4.out hgs0 hyW)
  have hrs := hrs.other hgs0 hyg hyb
  have cy0 := heap_cell HY4.out 10
  simp at cy0
  have fy0 := frozen_of_row W4 y 10 _ _ HY4.out
  have HX4s := HX4s0
  have HY4s := HY4s0
  have HG4s := HG4s0
  have hM0 := (remem_ok m).stays HM3.out (W' := W4) ⟨hg.size, fun b hb hlt => hg.block b hlt (fun e => by cases e; exact absurd (Nat.lt_of_lt_of_le hgl HG1s.out.size) (Nat.not_lt.2 hb.1))⟩
  have hM1 := (remem_ok m).stays hM0 (W' := (W4.setCell ⟨y, 10, none⟩ (.slice ts.a ts.xs.length ts.c))) ⟨(grownBy_trans (grown_refl W4 y) hgs0).size, fun b hb hlt => (grownBy_trans (grown_refl W4 y) hgs0).block b hlt (fun e => by cases e; exact absurd hyv (Nat.not_lt.2 hb.1))⟩
  have hyv3 := heap_lt HY3s.out
  have hN0 := (lsmem_ok (cells := intC) (size := 1) intmem_ok).stays hm4 (W' := (W4.setCell ⟨y, 10, none⟩ (.slice ts.a ts.xs.length ts.c))) ⟨(grownBy_trans (grown_refl W4 y) hgs0).size, fun b hb hlt => (grownBy_trans (grown_refl W4 y) hgs0).block b hlt (fun e => by cases e; exact absurd hyv3 (Nat.not_lt.2 hb))⟩
  have HM4 := Lib.hid hM1
  have HN4 := Lib.hid hN0
  clear hM0 hM1 hN0
  have HRE := Lib.hid hrs
  have HGE := HG4s
  clear hg hr hgt hrs st4 hm4 hgs0
  simp only [lsV]
  have cz0 := heap_cell HY4.out 0
  have cz1 := heap_cell HY4.out 1
  have cz2 := heap_cell HY4.out 2
  have cz3 := heap_cell HY4.out 3
  have cz4 := heap_cell HY4.out 4
  have cz5 := heap_cell HY4.out 5
  have cz6 := heap_cell HY4.out 6
  have cz7 := heap_cell HY4.out 7
  have cz8 := heap_cell HY4.out 8
  have cz9 := heap_cell HY4.out 9
  simp at cz0 cz1 cz2 cz3 cz4 cz5 cz6 cz7 cz8 cz9
  have h1c : (#[.string p1, .string p2, .string p3, .int .i64 k2, .string A2, .string B2, .slice a2 ps2.length c2, .string s1, .string s2, .string s3, .slice ts.a ts.xs.length ts.c] : Array Value).all (·.oneCell') = true := by simp [Value.oneCell']
  go_wp2_with (refine wpList_store_arr (W4.setCell ⟨y, 10, none⟩ (.slice ts.a ts.xs.length ts.c)) rfl rfl 74 _ _ rfl x 74 _ #[.string p1, .string p2, .string p3, .int .i64 k2, .string A2, .string B2, .slice a2 ps2.length c2, .string s1, .string s2, .string s3, .slice ts.a ts.xs.length ts.c] (by rfl) (by rfl) HX4s.out (by rfl) (by rfl) h1c ?_; intro w3 hrow3 hg3 hsz3; have HZ := Lib.hid hrow3; have HG3e := Lib.hid hg3; clear hrow3 hg3 hsz3)
  have z0 := heap_cell HZ.out 0
  have z1 := heap_cell HZ.out 1
  have z2 := heap_cell HZ.out 2
  have z3 := heap_cell HZ.out 3
  have z4 := heap_cell HZ.out 4
  have z5 := heap_cell HZ.out 5
  have z6 := heap_cell HZ.out 6
  have z7 := heap_cell HZ.out 7
  have z8 := heap_cell HZ.out 8
  have z9 := heap_cell HZ.out 9
  have z10 := heap_cell HZ.out 10
  simp at z0 z1 z2 z3 z4 z5 z6 z7 z8 z9 z10
  go_wp2_with fail
  exact bodyPost_ret (v := .agg #[.string p1, .string p2, .string p3, .int .i64 k2, .string A2, .string B2, .slice a2 ps2.length c2, .string s1, .string s2, .string s3, .slice ts.a ts.xs.length ts.c]) (by simp [results, Tryz.results47, go_sem, z0, z1, z2, z3, z4, z5, z6, z7, z8, z9, z10]) rfl ⟨⟨(p1, p2, p3), ⟨k2, A2, B2, a2, c2, ps2⟩, (s1, s2, s3), ts.a, ts.c, ts.xs⟩, l4, o4, by simp [seV], grown_own HGE.out HG3e.out hxs, HRE.out.other HG3e.out hxg hxb, sestep HM4.out HG1s.out.size (heap_lt HX1s.out) HVV.out HN4.out HG3e.out, rst_step HT1.out HT2.out HT3.out HT4.out⟩
end Go.Proofs.YtacjbgmnoiimbabGreat
