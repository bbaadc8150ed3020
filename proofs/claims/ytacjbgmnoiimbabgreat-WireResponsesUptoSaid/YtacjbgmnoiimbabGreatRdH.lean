/- Parts read, field by field: walked (printed by genWireRh.py). -/
import Derived.Test.YtacjbgmnoiimbabGreatRdF
namespace Go.Proofs.YtacjbgmnoiimbabGreat
set_option linter.unusedVariables false
set_option linter.unusedSimpArgs false
open Go.RowKit

set_option maxRecDepth 100000 in
set_option maxHeartbeats 1000000 in
theorem rpre_any (g bb : Nat) (W : World) (l : List UInt8) (d : Nat) (odd : Bool) (hl : l.length ≤ 1000000000) (h : RAt W g bb l d odd) :
    Calls Tryz.prog 77 #[.pointer (some ⟨g, 0, none⟩)] W (RDf g bb wrtE wrtok wrtV l d odd W) := by
  have hgl := h.lt
  have hbl := h.bbl
  have HX0 := Lib.hid (heap_alloc_new W (.cells #[.bool false, .string { data := #[] }, .string { data := #[] }, .string { data := #[] }, .string { data := #[] }, .string { data := #[] }, .string { data := #[] }] 132))
  have HG0 : Hid (W.grownBy (W.alloc (.cells #[.bool false, .string { data := #[] }, .string { data := #[] }, .string { data := #[] }, .string { data := #[] }, .string { data := #[] }, .string { data := #[] }] 132)) (some g)) := World.grownBy_alloc W _ _
  have HC := Lib.hid (rwrtd_any g bb _ l d odd hl (h.alloc (.cells #[.bool false, .string { data := #[] }, .string { data := #[] }, .string { data := #[] }, .string { data := #[] }, .string { data := #[] }, .string { data := #[] }] 132)))
  clear h
  go_enter Tryz.func77, Tryz.ntmps77
  go_wp2_with fail
  refine HC.out.mono ?_
  clear HC
  generalize (W.alloc (.cells #[.bool false, .string { data := #[] }, .string { data := #[] }, .string { data := #[] }, .string { data := #[] }, .string { data := #[] }, .string { data := #[] }] 132)) = W0 at *
  obtain ⟨x, hx⟩ : ∃ x, x = W.heap.size := ⟨_, rfl⟩
  rw [← hx] at HX0
  rw [← hx]
  have hxg : x ≠ g := by omega
  have hxb : x ≠ bb := by omega
  have hxs : W.heap.size ≤ x := by omega
  clear hx
  rintro e W1 ⟨⟨v0, ⟨v1, v2, v3⟩, v4, v5, v6⟩, l1, o1, rfl, hg, hr, hm1, st1⟩
  have HX1 := Lib.hid (grown_block hg HX0.out hxg)
  have HG1 := Lib.hid (grownBy_trans HG0.out hg)
  have HT1 := Lib.hid st1
  have hl1 := st1.len
  clear st1 hm1
  have HXV : Hid ((W1.alloc (.cells #[.bool v0, .string v1, .string v2, .string v3, .string v4, .string v5, .string v6] 65)).heap[x]? = some (.cells #[.bool false, .string { data := #[] }, .string { data := #[] }, .string { data := #[] }, .string { data := #[] }, .string { data := #[] }, .string { data := #[] }] 132 (0, 0))) := ((Below.refl W1.heap.size W1).alloc (Nat.le_refl _) (.cells #[.bool v0, .string v1, .string v2, .string v3, .string v4, .string v5, .string v6] 65)).block x (heap_lt HX1.out) |>.trans HX1.out
  have HRE := Lib.hid (hr.alloc (.cells #[.bool v0, .string v1, .string v2, .string v3, .string v4, .string v5, .string v6] 65))
  have HGE : Hid (W.grownBy (W1.alloc (.cells #[.bool v0, .string v1, .string v2, .string v3, .string v4, .string v5, .string v6] 65)) (some g)) := grownBy_trans HG1.out (World.grownBy_alloc W1 _ _)
  clear hg hr
  simp only [wrtV]
  have h1c : (#[.bool v0, .string v1, .string v2, .string v3, .string v4, .string v5, .string v6] : Array Value).all (·.oneCell') = true := by simp [Value.oneCell']
  go_wp2_with (refine wpList_store_arr (W1.alloc (.cells #[.bool v0, .string v1, .string v2, .string v3, .string v4, .string v5, .string v6] 65)) rfl rfl 132 _ _ rfl x 132 _ #[.bool v0, .string v1, .string v2, .string v3, .string v4, .string v5, .string v6] (by rfl) (by rfl) HXV.out (by rfl) (by rfl) h1c ?_; intro w3 hrow3 hg3 hsz3; have HY := Lib.hid hrow3; have HG3 := Lib.hid hg3; clear hrow3 hg3 hsz3)
  have q0 := heap_cell HY.out 0
  have q1 := heap_cell HY.out 1
  have q2 := heap_cell HY.out 2
  have q3 := heap_cell HY.out 3
  have q4 := heap_cell HY.out 4
  have q5 := heap_cell HY.out 5
  have q6 := heap_cell HY.out 6
  simp at q0 q1 q2 q3 q4 q5 q6
  go_wp2_with fail
  exact bodyPost_ret (v := .agg #[.bool v0, .string v1, .string v2, .string v3, .string v4, .string v5, .string v6]) (by simp [results, Tryz.results77, go_sem, q0, q1, q2, q3, q4, q5, q6]) rfl ⟨(v0, (v1, v2, v3), v4, v5, v6), l1, o1, rfl, grown_own HGE.out HG3.out hxs, HRE.out.other HG3.out hxg hxb, trivial, HT1.out⟩
set_option maxRecDepth 100000 in
set_option maxHeartbeats 1000000 in
theorem rarg_any (g bb : Nat) (W : World) (l : List UInt8) (d : Nat) (odd : Bool) (hl : l.length ≤ 1000000000) (h : RAt W g bb l d odd) :
    Calls Tryz.prog 81 #[.pointer (some ⟨g, 0, none⟩)] W (RDf g bb argE argok argV l d odd W) := by
  have hgl := h.lt
  have hbl := h.bbl
  have HX0 := Lib.hid (heap_alloc_new W (.cells #[.string { data := #[] }, .int .i64 0, .int .i64 0, .string { data := #[] }] 142))
  have HG0 : Hid (W.grownBy (W.alloc (.cells #[.string { data := #[] }, .int .i64 0, .int .i64 0, .string { data := #[] }] 142)) (some g)) := World.grownBy_alloc W _ _
  have HC := Lib.hid (rtxt_any g bb _ l d odd hl (h.alloc (.cells #[.string { data := #[] }, .int .i64 0, .int .i64 0, .string { data := #[] }] 142)))
  clear h
  go_enter Tryz.func81, Tryz.ntmps81
  go_wp2_with fail
  refine HC.out.mono ?_
  clear HC
  generalize (W.alloc (.cells #[.string { data := #[] }, .int .i64 0, .int .i64 0, .string { data := #[] }] 142)) = W0 at *
  obtain ⟨x, hx⟩ : ∃ x, x = W.heap.size := ⟨_, rfl⟩
  rw [← hx] at HX0
  rw [← hx]
  have hxg : x ≠ g := by omega
  have hxb : x ≠ bb := by omega
  have hxs : W.heap.size ≤ x := by omega
  clear hx
  rintro e W1 ⟨v1, l1, o1, rfl, hg, hr, hm1, st1⟩
  have HX1 := Lib.hid (grown_block hg HX0.out hxg)
  have HG1 := Lib.hid (grownBy_trans HG0.out hg)
  have HT1 := Lib.hid st1
  have hl1 := st1.len
  clear st1 hm1
  obtain ⟨V, hV⟩ : ∃ V, V = W1.alloc (.cells #[.string v1, .int .i64 0, .int .i64 0, .string { data := #[] }] 142) := ⟨_, rfl⟩
  have HX1s : Hid (V.heap[x]? = some (.cells #[.string { data := #[] }, .int .i64 0, .int .i64 0, .string { data := #[] }] 142 (0, 0))) := by
    show V.heap[x]? = _
    rw [hV]; exact (((Below.refl W1.heap.size W1).alloc (Nat.le_refl _) (.cells #[.string v1, .int .i64 0, .int .i64 0, .string { data := #[] }] 142)).block x (heap_lt HX1.out)).trans HX1.out
  have HY1s : Hid (V.heap[W1.heap.size]? = some (.cells #[.string v1, .int .i64 0, .int .i64 0, .string { data := #[] }] 142 (0, 0))) := by
    show V.heap[W1.heap.size]? = _
    rw [hV]; exact heap_alloc_new W1 (.cells #[.string v1, .int .i64 0, .int .i64 0, .string { data := #[] }] 142)
  have hrV : RAt V g bb l1 d o1 := by rw [hV]; exact hr.alloc _
  have HG1s : Hid (W.grownBy V (some g)) := by
    show W.grownBy _ _
    rw [hV]; exact grownBy_trans HG1.out (World.grownBy_alloc W1 _ _)
  have HC := Lib.hid (rint_any g bb V l1 d o1 (by omega) hrV)
  obtain ⟨y, hy⟩ : ∃ y, y = W1.heap.size := ⟨_, rfl⟩
  have hyx : y ≠ x := by
    have := heap_lt HX1.out
    omega
  have hyg : y ≠ g := by
    have := hr.lt
    omega
  have hyb : y ≠ bb := by
    have := hr.bbl
    omega
  have hyW : W.heap.size ≤ y := by
    have := HG1.out.size
    omega
  have HHy := Lib.hid hy
  have HV := Lib.hid hV
  clear hg hr hrV hy hV
  simp only [txtV]
  go_wp2_with fail
  rw [← HV.out, ← HHy.out]
  rw [← HHy.out] at HY1s
  refine HC.out.mono ?_
  clear HC
  rintro e W2 ⟨n1, l2, o2, rfl, hg, hr, hm2, st2⟩
  have HX2 := Lib.hid (grown_block hg HX1s.out hxg)
  have HY2 := Lib.hid (grown_block hg HY1s.out hyg)
  have HG2 := Lib.hid (grownBy_trans HG1s.out hg)
  have HT2 := Lib.hid st2
  have hl2 := st2.len
  have hgs := grown_cell W2 y 1 (.int .i64 n1)
  have HX2s := Lib.hid (grown_block hgs HX2.out hyx.symm)
  have HY2s : Hid ((W2.setCell ⟨y, 1, none⟩ (.int .i64 n1)).heap[y]? = some (.cells #[.string v1, .int .i64 n1, .int .i64 0, .string { data := #[] }] 142 (0, 0))) := heap_setCell_same W2 y 1 _ 142 _ HY2.out
  have HG2s := Lib.hid (grown_own HG2.out hgs hyW)
  have hrs := hr.other hgs hyg hyb
  have cy := heap_cell HY2.out 1
  simp at cy
  have fy := frozen_of_row W2 y 1 _ _ HY2.out
  have HC := Lib.hid (rwh_any g bb _ l2 d o2 (by omega) hrs)
  clear hg hr hrs hgs st2 hm2
  simp only [intV]
  go_wp2_with fail
  clear cy fy
  refine HC.out.mono ?_
  clear HC
  rintro e W3 ⟨m1, l3, o3, rfl, hg, hr, hm3, st3⟩
  have HX3 := Lib.hid (grown_block hg HX2s.out hxg)
  have HY3 := Lib.hid (grown_block hg HY2s.out hyg)
  have HG3 := Lib.hid (grownBy_trans HG2s.out hg)
  have HT3 := Lib.hid st3
  have hl3 := st3.len
  have hgs := grown_cell W3 y 2 (.int .i64 m1)
  have HX3s := Lib.hid (grown_block hgs HX3.out hyx.symm)
  have HY3s : Hid ((W3.setCell ⟨y, 2, none⟩ (.int .i64 m1)).heap[y]? = some (.cells #[.string v1, .int .i64 n1, .int .i64 m1, .string { data := #[] }] 142 (0, 0))) := heap_setCell_same W3 y 2 _ 142 _ HY3.out
  have HG3s := Lib.hid (grown_own HG3.out hgs hyW)
  have hrs := hr.other hgs hyg hyb
  have cy := heap_cell HY3.out 2
  simp at cy
  have fy := frozen_of_row W3 y 2 _ _ HY3.out
  have HC := Lib.hid (rtxt_any g bb _ l3 d o3 (by omega) hrs)
  clear hg hr hrs hgs st3 hm3
  simp only [intV]
  go_wp2_with fail
  clear cy fy
  refine HC.out.mono ?_
  clear HC
  rintro e W4 ⟨s1, l4, o4, rfl, hg, hr, hm4, st4⟩
  have HX4 := Lib.hid (grown_block hg HX3s.out hxg)
  have HY4 := Lib.hid (grown_block hg HY3s.out hyg)
  have HG4 := Lib.hid (grownBy_trans HG3s.out hg)
  have HT4 := Lib.hid st4
  have hl4 := st4.len
  have hgs := grown_cell W4 y 3 (.string s1)
  have HX4s := Lib.hid (grown_block hgs HX4.out hyx.symm)
  have HY4s : Hid ((W4.setCell ⟨y, 3, none⟩ (.string s1)).heap[y]? = some (.cells #[.string v1, .int .i64 n1, .int .i64 m1, .string s1] 142 (0, 0))) := heap_setCell_same W4 y 3 _ 142 _ HY4.out
  have HG4s := Lib.hid (grown_own HG4.out hgs hyW)
  have hrs := hr.other hgs hyg hyb
  have cy := heap_cell HY4.out 3
  simp at cy
  have fy := frozen_of_row W4 y 3 _ _ HY4.out
  have HRE := Lib.hid hrs
  have HGE := HG4s
  clear hg hr hrs hgs st4 hm4
  simp only [txtV]
  have h1c : (#[.string v1, .int .i64 n1, .int .i64 m1, .string s1] : Array Value).all (·.oneCell') = true := by simp [Value.oneCell']
  have cy0 := heap_cell HY4.out 0
  have cy1 := heap_cell HY4.out 1
  have cy2 := heap_cell HY4.out 2
  simp at cy0 cy1 cy2
  go_wp2_with (refine wpList_store_arr (W4.setCell ⟨y, 3, none⟩ (.string s1)) rfl rfl 142 _ _ rfl x 142 _ #[.string v1, .int .i64 n1, .int .i64 m1, .string s1] (by rfl) (by rfl) HX4s.out (by rfl) (by rfl) h1c ?_; intro w3 hrow3 hg3 hsz3; have HY := Lib.hid hrow3; have HG3 := Lib.hid hg3; clear hrow3 hg3 hsz3)
  have q0 := heap_cell HY.out 0
  have q1 := heap_cell HY.out 1
  have q2 := heap_cell HY.out 2
  have q3 := heap_cell HY.out 3
  simp at q0 q1 q2 q3
  go_wp2_with fail
  exact bodyPost_ret (v := .agg #[.string v1, .int .i64 n1, .int .i64 m1, .string s1]) (by simp [results, Tryz.results81, go_sem, q0, q1, q2, q3]) rfl ⟨(v1, n1, m1, s1), l4, o4, rfl, grown_own HGE.out HG3.out hxs, HRE.out.other HG3.out hxg hxb, trivial, HT1.out.pairf (HT2.out.pairf (HT3.out.pairf HT4.out uq_int) uq_int) uq_txt⟩
end Go.Proofs.YtacjbgmnoiimbabGreat
