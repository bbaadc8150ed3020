/- Parts written: walked (printed by genWireW.py). -/
import Derived.Test.YtacjbgmnoiimbabGreatWrA
namespace Go.Proofs.YtacjbgmnoiimbabGreat
set_option linter.unusedVariables false
set_option linter.unusedSimpArgs false
open Go.RowKit

theorem txt_len (s : ByteArray) : (txt s).length = (uv s.size).length + s.size := by
  rw [txt_eq, List.length_append, Array.length_toList]; rfl
theorem wtxt_any (g : Nat) (s : ByteArray) (l : List UInt8) (d : Nat) (odd : Bool) (W : World) (h : SAt 78 W g l d odd) (hl : l.length + (txt s).length ≤ 1000000000) :
    Calls Tryz.prog 19 #[.pointer (some ⟨g, 0, none⟩), .string s] W (WD g l d odd (txt s) (fun _ => False) W) :=
  wtext_any g s l d odd W h (by have := txt_len s; omega) hl

set_option maxRecDepth 100000 in
theorem wobj_any (g : Nat) (a b : ByteArray) (l : List UInt8) (d : Nat) (odd : Bool) (W : World) (h : SAt 78 W g l d odd) (hl : l.length + (duoE (a, b)).length ≤ 1000000000) :
    Calls Tryz.prog 25 #[.pointer (some ⟨g, 0, none⟩), .agg #[.string a, .string b]] W (WD g l d odd (duoE (a, b)) (fun _ => False) W) := by
  have hL := hl
  simp only [sixE, triE, duoE, wrtE, argE, evtE, List.length_append] at hL
  have HB0 := Lib.hid ((Below.refl W.heap.size W).alloc (Nat.le_refl _) (.cells #[.string a, .string b] 30))
  have HX0 := Lib.hid (heap_alloc_new W (.cells #[.string a, .string b] 30))
  have HS0 := Lib.hid (h.below HB0.out)
  have hgx := h.lt
  have HG0 : Hid (W.grownBy (W.alloc (.cells #[.string a, .string b] 30)) (some g)) := World.grownBy_alloc W _ _
  clear h
  go_enter Tryz.func25, Tryz.ntmps25
  go_upto_region 1 with (fail)
  generalize (W.alloc (.cells #[.string a, .string b] 30)) = W0 at *
  generalize W.heap.size = x at *
  have hxg : x ≠ g := by omega
  have p0 := heap_cell HX0.out 0
  have p1 := heap_cell HX0.out 1
  simp at p0 p1
  have HC := Lib.hid (wtxt_any g a l d odd W0 HS0.out (by (try simp only [sixE, triE, duoE, wrtE, argE, evtE, List.length_append]); omega))
  go_wp2_with fail
  refine HC.out.mono ?_
  clear HC
  rintro e W1 ⟨rfl, hg, l1, d1, o1, hs, st⟩
  have HX1 := Lib.hid (grown_block hg HX0.out hxg)
  have HG1 := Lib.hid (grownBy_trans HG0.out hg)
  have HS1 := Lib.hid hs
  have HT1 := Lib.hid st
  have hz1 := st.1
  try simp only [sixE, triE, duoE, wrtE, argE, evtE, List.length_append] at hz1
  clear hg hs st p0 p1
  have p0 := heap_cell HX1.out 0
  have p1 := heap_cell HX1.out 1
  simp at p0 p1
  have HC := Lib.hid (wtxt_any g b l1 d1 o1 W1 HS1.out (by (try simp only [sixE, triE, duoE, wrtE, argE, evtE, List.length_append]); omega))
  go_wp2_with fail
  refine HC.out.mono ?_
  clear HC
  rintro e W2 ⟨rfl, hg, l2, d2, o2, hs, st⟩
  have HX2 := Lib.hid (grown_block hg HX1.out hxg)
  have HG2 := Lib.hid (grownBy_trans HG1.out hg)
  have HS2 := Lib.hid hs
  have HT2 := Lib.hid st
  have hz2 := st.1
  try simp only [sixE, triE, duoE, wrtE, argE, evtE, List.length_append] at hz2
  clear hg hs st p0 p1
  go_wp2_with fail
  go_end0
  exact ⟨rfl, HG2.out, l2, d2, o2, HS2.out, (HT1.out.trans HT2.out).to (by simp only [sixE, triE, duoE, wrtE, argE, evtE, List.append_assoc]) (fun d => by simp)⟩
set_option maxRecDepth 100000 in
theorem wsub_any (g : Nat) (a b c : ByteArray) (l : List UInt8) (d : Nat) (odd : Bool) (W : World) (h : SAt 78 W g l d odd) (hl : l.length + (triE (a, b, c)).length ≤ 1000000000) :
    Calls Tryz.prog 87 #[.pointer (some ⟨g, 0, none⟩), .agg #[.string a, .string b, .string c]] W (WD g l d odd (triE (a, b, c)) (fun _ => False) W) := by
  have hL := hl
  simp only [sixE, triE, duoE, wrtE, argE, evtE, List.length_append] at hL
  have HB0 := Lib.hid ((Below.refl W.heap.size W).alloc (Nat.le_refl _) (.cells #[.string a, .string b, .string c] 60))
  have HX0 := Lib.hid (heap_alloc_new W (.cells #[.string a, .string b, .string c] 60))
  have HS0 := Lib.hid (h.below HB0.out)
  have hgx := h.lt
  have HG0 : Hid (W.grownBy (W.alloc (.cells #[.string a, .string b, .string c] 60)) (some g)) := World.grownBy_alloc W _ _
  clear h
  go_enter Tryz.func87, Tryz.ntmps87
  go_upto_region 1 with (fail)
  generalize (W.alloc (.cells #[.string a, .string b, .string c] 60)) = W0 at *
  generalize W.heap.size = x at *
  have hxg : x ≠ g := by omega
  have p0 := heap_cell HX0.out 0
  have p1 := heap_cell HX0.out 1
  have p2 := heap_cell HX0.out 2
  simp at p0 p1 p2
  have HC := Lib.hid (wobj_any g a b l d odd W0 HS0.out (by (try simp only [sixE, triE, duoE, wrtE, argE, evtE, List.length_append]); omega))
  go_wp2_with fail
  refine HC.out.mono ?_
  clear HC
  rintro e W1 ⟨rfl, hg, l1, d1, o1, hs, st⟩
  have HX1 := Lib.hid (grown_block hg HX0.out hxg)
  have HG1 := Lib.hid (grownBy_trans HG0.out hg)
  have HS1 := Lib.hid hs
  have HT1 := Lib.hid st
  have hz1 := st.1
  try simp only [sixE, triE, duoE, wrtE, argE, evtE, List.length_append] at hz1
  clear hg hs st p0 p1 p2
  have p0 := heap_cell HX1.out 0
  have p1 := heap_cell HX1.out 1
  have p2 := heap_cell HX1.out 2
  simp at p0 p1 p2
  have HC := Lib.hid (wtxt_any g c l1 d1 o1 W1 HS1.out (by (try simp only [sixE, triE, duoE, wrtE, argE, evtE, List.length_append]); omega))
  go_wp2_with fail
  refine HC.out.mono ?_
  clear HC
  rintro e W2 ⟨rfl, hg, l2, d2, o2, hs, st⟩
  have HX2 := Lib.hid (grown_block hg HX1.out hxg)
  have HG2 := Lib.hid (grownBy_trans HG1.out hg)
  have HS2 := Lib.hid hs
  have HT2 := Lib.hid st
  have hz2 := st.1
  try simp only [sixE, triE, duoE, wrtE, argE, evtE, List.length_append] at hz2
  clear hg hs st p0 p1 p2
  go_wp2_with fail
  go_end0
  exact ⟨rfl, HG2.out, l2, d2, o2, HS2.out, (HT1.out.trans HT2.out).to (by simp only [sixE, triE, duoE, wrtE, argE, evtE, List.append_assoc]) (fun d => by simp)⟩
set_option maxRecDepth 100000 in
theorem wpoint_any (g : Nat) (a b c : ByteArray) (l : List UInt8) (d : Nat) (odd : Bool) (W : World) (h : SAt 78 W g l d odd) (hl : l.length + (triE (a, b, c)).length ≤ 1000000000) :
    Calls Tryz.prog 88 #[.pointer (some ⟨g, 0, none⟩), .agg #[.string a, .string b, .string c]] W (WD g l d odd (triE (a, b, c)) (fun _ => False) W) := by
  have hL := hl
  simp only [sixE, triE, duoE, wrtE, argE, evtE, List.length_append] at hL
  have HB0 := Lib.hid ((Below.refl W.heap.size W).alloc (Nat.le_refl _) (.cells #[.string a, .string b, .string c] 68))
  have HX0 := Lib.hid (heap_alloc_new W (.cells #[.string a, .string b, .string c] 68))
  have HS0 := Lib.hid (h.below HB0.out)
  have hgx := h.lt
  have HG0 : Hid (W.grownBy (W.alloc (.cells #[.string a, .string b, .string c] 68)) (some g)) := World.grownBy_alloc W _ _
  clear h
  go_enter Tryz.func88, Tryz.ntmps88
  go_upto_region 1 with (fail)
  generalize (W.alloc (.cells #[.string a, .string b, .string c] 68)) = W0 at *
  generalize W.heap.size = x at *
  have hxg : x ≠ g := by omega
  have p0 := heap_cell HX0.out 0
  have p1 := heap_cell HX0.out 1
  have p2 := heap_cell HX0.out 2
  simp at p0 p1 p2
  have HC := Lib.hid (wsub_any g a b c l d odd W0 HS0.out (by (try simp only [sixE, triE, duoE, wrtE, argE, evtE, List.length_append]); omega))
  go_wp2_with fail
  refine HC.out.mono ?_
  clear HC
  rintro e W1 ⟨rfl, hg, l1, d1, o1, hs, st⟩
  have HX1 := Lib.hid (grown_block hg HX0.out hxg)
  have HG1 := Lib.hid (grownBy_trans HG0.out hg)
  have HS1 := Lib.hid hs
  have HT1 := Lib.hid st
  have hz1 := st.1
  try simp only [sixE, triE, duoE, wrtE, argE, evtE, List.length_append] at hz1
  clear hg hs st p0 p1 p2
  go_wp2_with fail
  go_end0
  exact ⟨rfl, HG1.out, l1, d1, o1, HS1.out, HT1.out.to (by simp only [sixE, triE, duoE, wrtE, argE, evtE, List.append_assoc]) (fun d => by simp)⟩
set_option maxRecDepth 100000 in
theorem wtuple_any (g : Nat) (a b c dd e f : ByteArray) (l : List UInt8) (d : Nat) (odd : Bool) (W : World) (h : SAt 78 W g l d odd) (hl : l.length + (sixE ((a, b, c), (dd, e, f))).length ≤ 1000000000) :
    Calls Tryz.prog 23 #[.pointer (some ⟨g, 0, none⟩), .agg #[.string a, .string b, .string c, .string dd, .string e, .string f]] W (WD g l d odd (sixE ((a, b, c), (dd, e, f))) (fun _ => False) W) := by
  have hL := hl
  simp only [sixE, triE, duoE, wrtE, argE, evtE, List.length_append] at hL
  have HB0 := Lib.hid ((Below.refl W.heap.size W).alloc (Nat.le_refl _) (.cells #[.string a, .string b, .string c, .string dd, .string e, .string f] 62))
  have HX0 := Lib.hid (heap_alloc_new W (.cells #[.string a, .string b, .string c, .string dd, .string e, .string f] 62))
  have HS0 := Lib.hid (h.below HB0.out)
  have hgx := h.lt
  have HG0 : Hid (W.grownBy (W.alloc (.cells #[.string a, .string b, .string c, .string dd, .string e, .string f] 62)) (some g)) := World.grownBy_alloc W _ _
  clear h
  go_enter Tryz.func23, Tryz.ntmps23
  go_upto_region 1 with (fail)
  generalize (W.alloc (.cells #[.string a, .string b, .string c, .string dd, .string e, .string f] 62)) = W0 at *
  generalize W.heap.size = x at *
  have hxg : x ≠ g := by omega
  have p0 := heap_cell HX0.out 0
  have p1 := heap_cell HX0.out 1
  have p2 := heap_cell HX0.out 2
  have p3 := heap_cell HX0.out 3
  have p4 := heap_cell HX0.out 4
  have p5 := heap_cell HX0.out 5
  simp at p0 p1 p2 p3 p4 p5
  have HC := Lib.hid (wobj_any g a b l d odd W0 HS0.out (by (try simp only [sixE, triE, duoE, wrtE, argE, evtE, List.length_append]); omega))
  go_wp2_with fail
  refine HC.out.mono ?_
  clear HC
  rintro e W1 ⟨rfl, hg, l1, d1, o1, hs, st⟩
  have HX1 := Lib.hid (grown_block hg HX0.out hxg)
  have HG1 := Lib.hid (grownBy_trans HG0.out hg)
  have HS1 := Lib.hid hs
  have HT1 := Lib.hid st
  have hz1 := st.1
  try simp only [sixE, triE, duoE, wrtE, argE, evtE, List.length_append] at hz1
  clear hg hs st p0 p1 p2 p3 p4 p5
  have p0 := heap_cell HX1.out 0
  have p1 := heap_cell HX1.out 1
  have p2 := heap_cell HX1.out 2
  have p3 := heap_cell HX1.out 3
  have p4 := heap_cell HX1.out 4
  have p5 := heap_cell HX1.out 5
  simp at p0 p1 p2 p3 p4 p5
  have HC := Lib.hid (wtxt_any g c l1 d1 o1 W1 HS1.out (by (try simp only [sixE, triE, duoE, wrtE, argE, evtE, List.length_append]); omega))
  go_wp2_with fail
  refine HC.out.mono ?_
  clear HC
  rintro e W2 ⟨rfl, hg, l2, d2, o2, hs, st⟩
  have HX2 := Lib.hid (grown_block hg HX1.out hxg)
  have HG2 := Lib.hid (grownBy_trans HG1.out hg)
  have HS2 := Lib.hid hs
  have HT2 := Lib.hid st
  have hz2 := st.1
  try simp only [sixE, triE, duoE, wrtE, argE, evtE, List.length_append] at hz2
  clear hg hs st p0 p1 p2 p3 p4 p5
  have p0 := heap_cell HX2.out 0
  have p1 := heap_cell HX2.out 1
  have p2 := heap_cell HX2.out 2
  have p3 := heap_cell HX2.out 3
  have p4 := heap_cell HX2.out 4
  have p5 := heap_cell HX2.out 5
  simp at p0 p1 p2 p3 p4 p5
  have HC := Lib.hid (wsub_any g dd e f l2 d2 o2 W2 HS2.out (by (try simp only [sixE, triE, duoE, wrtE, argE, evtE, List.length_append]); omega))
  go_wp2_with fail
  refine HC.out.mono ?_
  clear HC
  rintro e W3 ⟨rfl, hg, l3, d3, o3, hs, st⟩
  have HX3 := Lib.hid (grown_block hg HX2.out hxg)
  have HG3 := Lib.hid (grownBy_trans HG2.out hg)
  have HS3 := Lib.hid hs
  have HT3 := Lib.hid st
  have hz3 := st.1
  try simp only [sixE, triE, duoE, wrtE, argE, evtE, List.length_append] at hz3
  clear hg hs st p0 p1 p2 p3 p4 p5
  go_wp2_with fail
  go_end0
  exact ⟨rfl, HG3.out, l3, d3, o3, HS3.out, (HT1.out.trans (HT2.out.trans HT3.out)).to (by simp only [sixE, triE, duoE, wrtE, argE, evtE, List.append_assoc]) (fun d => by simp)⟩
set_option maxRecDepth 100000 in
theorem wwrite_any (g : Nat) (q : Bool) (a b c dd e f : ByteArray) (l : List UInt8) (d : Nat) (odd : Bool) (W : World) (h : SAt 78 W g l d odd) (hl : l.length + (wrtE (q, ((a, b, c), (dd, e, f)))).length ≤ 1000000000) :
    Calls Tryz.prog 67 #[.pointer (some ⟨g, 0, none⟩), .agg #[.bool q, .string a, .string b, .string c, .string dd, .string e, .string f]] W (WD g l d odd (wrtE (q, ((a, b, c), (dd, e, f)))) (fun _ => False) W) := by
  have hL := hl
  simp only [sixE, triE, duoE, wrtE, argE, evtE, List.length_append] at hL
  have HB0 := Lib.hid ((Below.refl W.heap.size W).alloc (Nat.le_refl _) (.cells #[.bool q, .string a, .string b, .string c, .string dd, .string e, .string f] 65))
  have HX0 := Lib.hid (heap_alloc_new W (.cells #[.bool q, .string a, .string b, .string c, .string dd, .string e, .string f] 65))
  have HS0 := Lib.hid (h.below HB0.out)
  have hgx := h.lt
  have HG0 : Hid (W.grownBy (W.alloc (.cells #[.bool q, .string a, .string b, .string c, .string dd, .string e, .string f] 65)) (some g)) := World.grownBy_alloc W _ _
  clear h
  go_enter Tryz.func67, Tryz.ntmps67
  go_upto_region 1 with (fail)
  generalize (W.alloc (.cells #[.bool q, .string a, .string b, .string c, .string dd, .string e, .string f] 65)) = W0 at *
  generalize W.heap.size = x at *
  have hxg : x ≠ g := by omega
  have p0 := heap_cell HX0.out 0
  have p1 := heap_cell HX0.out 1
  have p2 := heap_cell HX0.out 2
  have p3 := heap_cell HX0.out 3
  have p4 := heap_cell HX0.out 4
  have p5 := heap_cell HX0.out 5
  have p6 := heap_cell HX0.out 6
  simp at p0 p1 p2 p3 p4 p5 p6
  have HC := Lib.hid (wtruth_any g q l d odd W0 HS0.out (by (try simp only [sixE, triE, duoE, wrtE, argE, evtE, List.length_append]); omega))
  go_wp2_with fail
  refine HC.out.mono ?_
  clear HC
  rintro e W1 ⟨rfl, hg, l1, d1, o1, hs, st⟩
  have HX1 := Lib.hid (grown_block hg HX0.out hxg)
  have HG1 := Lib.hid (grownBy_trans HG0.out hg)
  have HS1 := Lib.hid hs
  have HT1 := Lib.hid st
  have hz1 := st.1
  try simp only [sixE, triE, duoE, wrtE, argE, evtE, List.length_append] at hz1
  clear hg hs st p0 p1 p2 p3 p4 p5 p6
  have p0 := heap_cell HX1.out 0
  have p1 := heap_cell HX1.out 1
  have p2 := heap_cell HX1.out 2
  have p3 := heap_cell HX1.out 3
  have p4 := heap_cell HX1.out 4
  have p5 := heap_cell HX1.out 5
  have p6 := heap_cell HX1.out 6
  simp at p0 p1 p2 p3 p4 p5 p6
  have HC := Lib.hid (wtuple_any g a b c dd e f l1 d1 o1 W1 HS1.out (by (try simp only [sixE, triE, duoE, wrtE, argE, evtE, List.length_append]); omega))
  go_wp2_with fail
  refine HC.out.mono ?_
  clear HC
  rintro e W2 ⟨rfl, hg, l2, d2, o2, hs, st⟩
  have HX2 := Lib.hid (grown_block hg HX1.out hxg)
  have HG2 := Lib.hid (grownBy_trans HG1.out hg)
  have HS2 := Lib.hid hs
  have HT2 := Lib.hid st
  have hz2 := st.1
  try simp only [sixE, triE, duoE, wrtE, argE, evtE, List.length_append] at hz2
  clear hg hs st p0 p1 p2 p3 p4 p5 p6
  go_wp2_with fail
  go_end0
  exact ⟨rfl, HG2.out, l2, d2, o2, HS2.out, (HT1.out.trans HT2.out).to (by simp only [sixE, triE, duoE, wrtE, argE, evtE, List.append_assoc]) (fun d => by simp)⟩
set_option maxRecDepth 100000 in
theorem wpre_any (g : Nat) (q : Bool) (a b c dd e f : ByteArray) (l : List UInt8) (d : Nat) (odd : Bool) (W : World) (h : SAt 78 W g l d odd) (hl : l.length + (wrtE (q, ((a, b, c), (dd, e, f)))).length ≤ 1000000000) :
    Calls Tryz.prog 69 #[.pointer (some ⟨g, 0, none⟩), .agg #[.bool q, .string a, .string b, .string c, .string dd, .string e, .string f]] W (WD g l d odd (wrtE (q, ((a, b, c), (dd, e, f)))) (fun _ => False) W) := by
  have hL := hl
  simp only [sixE, triE, duoE, wrtE, argE, evtE, List.length_append] at hL
  have HB0 := Lib.hid ((Below.refl W.heap.size W).alloc (Nat.le_refl _) (.cells #[.bool q, .string a, .string b, .string c, .string dd, .string e, .string f] 132))
  have HX0 := Lib.hid (heap_alloc_new W (.cells #[.bool q, .string a, .string b, .string c, .string dd, .string e, .string f] 132))
  have HS0 := Lib.hid (h.below HB0.out)
  have hgx := h.lt
  have HG0 : Hid (W.grownBy (W.alloc (.cells #[.bool q, .string a, .string b, .string c, .string dd, .string e, .string f] 132)) (some g)) := World.grownBy_alloc W _ _
  clear h
  go_enter Tryz.func69, Tryz.ntmps69
  go_upto_region 1 with (fail)
  generalize (W.alloc (.cells #[.bool q, .string a, .string b, .string c, .string dd, .string e, .string f] 132)) = W0 at *
  generalize W.heap.size = x at *
  have hxg : x ≠ g := by omega
  have p0 := heap_cell HX0.out 0
  have p1 := heap_cell HX0.out 1
  have p2 := heap_cell HX0.out 2
  have p3 := heap_cell HX0.out 3
  have p4 := heap_cell HX0.out 4
  have p5 := heap_cell HX0.out 5
  have p6 := heap_cell HX0.out 6
  simp at p0 p1 p2 p3 p4 p5 p6
  have HC := Lib.hid (wtruth_any g q l d odd W0 HS0.out (by (try simp only [sixE, triE, duoE, wrtE, argE, evtE, List.length_append]); omega))
  go_wp2_with fail
  refine HC.out.mono ?_
  clear HC
  rintro e W1 ⟨rfl, hg, l1, d1, o1, hs, st⟩
  have HX1 := Lib.hid (grown_block hg HX0.out hxg)
  have HG1 := Lib.hid (grownBy_trans HG0.out hg)
  have HS1 := Lib.hid hs
  have HT1 := Lib.hid st
  have hz1 := st.1
  try simp only [sixE, triE, duoE, wrtE, argE, evtE, List.length_append] at hz1
  clear hg hs st p0 p1 p2 p3 p4 p5 p6
  have p0 := heap_cell HX1.out 0
  have p1 := heap_cell HX1.out 1
  have p2 := heap_cell HX1.out 2
  have p3 := heap_cell HX1.out 3
  have p4 := heap_cell HX1.out 4
  have p5 := heap_cell HX1.out 5
  have p6 := heap_cell HX1.out 6
  simp at p0 p1 p2 p3 p4 p5 p6
  have HC := Lib.hid (wtuple_any g a b c dd e f l1 d1 o1 W1 HS1.out (by (try simp only [sixE, triE, duoE, wrtE, argE, evtE, List.length_append]); omega))
  go_wp2_with fail
  refine HC.out.mono ?_
  clear HC
  rintro e W2 ⟨rfl, hg, l2, d2, o2, hs, st⟩
  have HX2 := Lib.hid (grown_block hg HX1.out hxg)
  have HG2 := Lib.hid (grownBy_trans HG1.out hg)
  have HS2 := Lib.hid hs
  have HT2 := Lib.hid st
  have hz2 := st.1
  try simp only [sixE, triE, duoE, wrtE, argE, evtE, List.length_append] at hz2
  clear hg hs st p0 p1 p2 p3 p4 p5 p6
  go_wp2_with fail
  go_end0
  exact ⟨rfl, HG2.out, l2, d2, o2, HS2.out, (HT1.out.trans HT2.out).to (by simp only [sixE, triE, duoE, wrtE, argE, evtE, List.append_assoc]) (fun d => by simp)⟩
set_option maxRecDepth 100000 in
theorem wask_any (g : Nat) (a b c dd e f : ByteArray) (l : List UInt8) (d : Nat) (odd : Bool) (W : World) (h : SAt 78 W g l d odd) (hl : l.length + (sixE ((a, b, c), (dd, e, f))).length ≤ 1000000000) :
    Calls Tryz.prog 71 #[.pointer (some ⟨g, 0, none⟩), .agg #[.string a, .string b, .string c, .string dd, .string e, .string f]] W (WD g l d odd (sixE ((a, b, c), (dd, e, f))) (fun _ => False) W) := by
  have hL := hl
  simp only [sixE, triE, duoE, wrtE, argE, evtE, List.length_append] at hL
  have HB0 := Lib.hid ((Below.refl W.heap.size W).alloc (Nat.le_refl _) (.cells #[.string a, .string b, .string c, .string dd, .string e, .string f] 136))
  have HX0 := Lib.hid (heap_alloc_new W (.cells #[.string a, .string b, .string c, .string dd, .string e, .string f] 136))
  have HS0 := Lib.hid (h.below HB0.out)
  have hgx := h.lt
  have HG0 : Hid (W.grownBy (W.alloc (.cells #[.string a, .string b, .string c, .string dd, .string e, .string f] 136)) (some g)) := World.grownBy_alloc W _ _
  clear h
  go_enter Tryz.func71, Tryz.ntmps71
  go_upto_region 1 with (fail)
  generalize (W.alloc (.cells #[.string a, .string b, .string c, .string dd, .string e, .string f] 136)) = W0 at *
  generalize W.heap.size = x at *
  have hxg : x ≠ g := by omega
  have p0 := heap_cell HX0.out 0
  have p1 := heap_cell HX0.out 1
  have p2 := heap_cell HX0.out 2
  have p3 := heap_cell HX0.out 3
  have p4 := heap_cell HX0.out 4
  have p5 := heap_cell HX0.out 5
  simp at p0 p1 p2 p3 p4 p5
  have HC := Lib.hid (wpoint_any g a b c l d odd W0 HS0.out (by (try simp only [sixE, triE, duoE, wrtE, argE, evtE, List.length_append]); omega))
  go_wp2_with fail
  refine HC.out.mono ?_
  clear HC
  rintro e W1 ⟨rfl, hg, l1, d1, o1, hs, st⟩
  have HX1 := Lib.hid (grown_block hg HX0.out hxg)
  have HG1 := Lib.hid (grownBy_trans HG0.out hg)
  have HS1 := Lib.hid hs
  have HT1 := Lib.hid st
  have hz1 := st.1
  try simp only [sixE, triE, duoE, wrtE, argE, evtE, List.length_append] at hz1
  clear hg hs st p0 p1 p2 p3 p4 p5
  have p0 := heap_cell HX1.out 0
  have p1 := heap_cell HX1.out 1
  have p2 := heap_cell HX1.out 2
  have p3 := heap_cell HX1.out 3
  have p4 := heap_cell HX1.out 4
  have p5 := heap_cell HX1.out 5
  simp at p0 p1 p2 p3 p4 p5
  have HC := Lib.hid (wsub_any g dd e f l1 d1 o1 W1 HS1.out (by (try simp only [sixE, triE, duoE, wrtE, argE, evtE, List.length_append]); omega))
  go_wp2_with fail
  refine HC.out.mono ?_
  clear HC
  rintro e W2 ⟨rfl, hg, l2, d2, o2, hs, st⟩
  have HX2 := Lib.hid (grown_block hg HX1.out hxg)
  have HG2 := Lib.hid (grownBy_trans HG1.out hg)
  have HS2 := Lib.hid hs
  have HT2 := Lib.hid st
  have hz2 := st.1
  try simp only [sixE, triE, duoE, wrtE, argE, evtE, List.length_append] at hz2
  clear hg hs st p0 p1 p2 p3 p4 p5
  go_wp2_with fail
  go_end0
  exact ⟨rfl, HG2.out, l2, d2, o2, HS2.out, (HT1.out.trans HT2.out).to (by simp only [sixE, triE, duoE, wrtE, argE, evtE, List.append_assoc]) (fun d => by simp)⟩
set_option maxRecDepth 100000 in
theorem warg_any (g : Nat) (a : ByteArray) (n k : Int) (b : ByteArray) (l : List UInt8) (d : Nat) (odd : Bool) (W : World) (h : SAt 78 W g l d odd) (hn : iok n) (hk : iok k) (hl : l.length + (argE (a, n, k, b)).length ≤ 1000000000) :
    Calls Tryz.prog 73 #[.pointer (some ⟨g, 0, none⟩), .agg #[.string a, .int .i64 n, .int .i64 k, .string b]] W (WD g l d odd (argE (a, n, k, b)) (fun _ => False) W) := by
  have hL := hl
  simp only [sixE, triE, duoE, wrtE, argE, evtE, List.length_append] at hL
  have HB0 := Lib.hid ((Below.refl W.heap.size W).alloc (Nat.le_refl _) (.cells #[.string a, .int .i64 n, .int .i64 k, .string b] 142))
  have HX0 := Lib.hid (heap_alloc_new W (.cells #[.string a, .int .i64 n, .int .i64 k, .string b] 142))
  have HS0 := Lib.hid (h.below HB0.out)
  have hgx := h.lt
  have HG0 : Hid (W.grownBy (W.alloc (.cells #[.string a, .int .i64 n, .int .i64 k, .string b] 142)) (some g)) := World.grownBy_alloc W _ _
  clear h
  go_enter Tryz.func73, Tryz.ntmps73
  go_upto_region 1 with (fail)
  generalize (W.alloc (.cells #[.string a, .int .i64 n, .int .i64 k, .string b] 142)) = W0 at *
  generalize W.heap.size = x at *
  have hxg : x ≠ g := by omega
  have p0 := heap_cell HX0.out 0
  have p1 := heap_cell HX0.out 1
  have p2 := heap_cell HX0.out 2
  have p3 := heap_cell HX0.out 3
  simp at p0 p1 p2 p3
  have HC := Lib.hid (wtxt_any g a l d odd W0 HS0.out (by (try simp only [sixE, triE, duoE, wrtE, argE, evtE, List.length_append]); omega))
  go_wp2_with fail
  refine HC.out.mono ?_
  clear HC
  rintro e W1 ⟨rfl, hg, l1, d1, o1, hs, st⟩
  have HX1 := Lib.hid (grown_block hg HX0.out hxg)
  have HG1 := Lib.hid (grownBy_trans HG0.out hg)
  have HS1 := Lib.hid hs
  have HT1 := Lib.hid st
  have hz1 := st.1
  try simp only [sixE, triE, duoE, wrtE, argE, evtE, List.length_append] at hz1
  clear hg hs st p0 p1 p2 p3
  have p0 := heap_cell HX1.out 0
  have p1 := heap_cell HX1.out 1
  have p2 := heap_cell HX1.out 2
  have p3 := heap_cell HX1.out 3
  simp at p0 p1 p2 p3
  have HC := Lib.hid (wint_any g n l1 d1 o1 W1 HS1.out hn (by (try simp only [sixE, triE, duoE, wrtE, argE, evtE, List.length_append]); omega))
  go_wp2_with fail
  refine HC.out.mono ?_
  clear HC
  rintro e W2 ⟨rfl, hg, l2, d2, o2, hs, st⟩
  have HX2 := Lib.hid (grown_block hg HX1.out hxg)
  have HG2 := Lib.hid (grownBy_trans HG1.out hg)
  have HS2 := Lib.hid hs
  have HT2 := Lib.hid st
  have hz2 := st.1
  try simp only [sixE, triE, duoE, wrtE, argE, evtE, List.length_append] at hz2
  clear hg hs st p0 p1 p2 p3
  have p0 := heap_cell HX2.out 0
  have p1 := heap_cell HX2.out 1
  have p2 := heap_cell HX2.out 2
  have p3 := heap_cell HX2.out 3
  simp at p0 p1 p2 p3
  have HC := Lib.hid (wwhole_any g k l2 d2 o2 W2 HS2.out hk (by (try simp only [sixE, triE, duoE, wrtE, argE, evtE, List.length_append]); omega))
  go_wp2_with fail
  refine HC.out.mono ?_
  clear HC
  rintro e W3 ⟨rfl, hg, l3, d3, o3, hs, st⟩
  have HX3 := Lib.hid (grown_block hg HX2.out hxg)
  have HG3 := Lib.hid (grownBy_trans HG2.out hg)
  have HS3 := Lib.hid hs
  have HT3 := Lib.hid st
  have hz3 := st.1
  try simp only [sixE, triE, duoE, wrtE, argE, evtE, List.length_append] at hz3
  clear hg hs st p0 p1 p2 p3
  have p0 := heap_cell HX3.out 0
  have p1 := heap_cell HX3.out 1
  have p2 := heap_cell HX3.out 2
  have p3 := heap_cell HX3.out 3
  simp at p0 p1 p2 p3
  have HC := Lib.hid (wtxt_any g b l3 d3 o3 W3 HS3.out (by (try simp only [sixE, triE, duoE, wrtE, argE, evtE, List.length_append]); omega))
  go_wp2_with fail
  refine HC.out.mono ?_
  clear HC
  rintro e W4 ⟨rfl, hg, l4, d4, o4, hs, st⟩
  have HX4 := Lib.hid (grown_block hg HX3.out hxg)
  have HG4 := Lib.hid (grownBy_trans HG3.out hg)
  have HS4 := Lib.hid hs
  have HT4 := Lib.hid st
  have hz4 := st.1
  try simp only [sixE, triE, duoE, wrtE, argE, evtE, List.length_append] at hz4
  clear hg hs st p0 p1 p2 p3
  go_wp2_with fail
  go_end0
  exact ⟨rfl, HG4.out, l4, d4, o4, HS4.out, (HT1.out.trans (HT2.out.trans (HT3.out.trans HT4.out))).to (by simp only [sixE, triE, duoE, wrtE, argE, evtE, List.append_assoc]) (fun d => by simp)⟩
set_option maxRecDepth 100000 in
theorem wevent_any (g : Nat) (v : Nat) (q : Bool) (a b c dd e f : ByteArray) (l : List UInt8) (d : Nat) (odd : Bool) (W : World) (h : SAt 78 W g l d odd) (hv : v < 18446744073709551616) (hl : l.length + (evtE (v, (q, ((a, b, c), (dd, e, f))))).length ≤ 1000000000) :
    Calls Tryz.prog 27 #[.pointer (some ⟨g, 0, none⟩), .agg #[.int .u64 v, .bool q, .string a, .string b, .string c, .string dd, .string e, .string f]] W (WD g l d odd (evtE (v, (q, ((a, b, c), (dd, e, f))))) (fun _ => False) W) := by
  have hL := hl
  simp only [sixE, triE, duoE, wrtE, argE, evtE, List.length_append] at hL
  have HB0 := Lib.hid ((Below.refl W.heap.size W).alloc (Nat.le_refl _) (.cells #[.int .u64 v, .bool q, .string a, .string b, .string c, .string dd, .string e, .string f] 67))
  have HX0 := Lib.hid (heap_alloc_new W (.cells #[.int .u64 v, .bool q, .string a, .string b, .string c, .string dd, .string e, .string f] 67))
  have HS0 := Lib.hid (h.below HB0.out)
  have hgx := h.lt
  have HG0 : Hid (W.grownBy (W.alloc (.cells #[.int .u64 v, .bool q, .string a, .string b, .string c, .string dd, .string e, .string f] 67)) (some g)) := World.grownBy_alloc W _ _
  clear h
  go_enter Tryz.func27, Tryz.ntmps27
  go_upto_region 1 with (fail)
  generalize (W.alloc (.cells #[.int .u64 v, .bool q, .string a, .string b, .string c, .string dd, .string e, .string f] 67)) = W0 at *
  generalize W.heap.size = x at *
  have hxg : x ≠ g := by omega
  have p0 := heap_cell HX0.out 0
  have p1 := heap_cell HX0.out 1
  have p2 := heap_cell HX0.out 2
  have p3 := heap_cell HX0.out 3
  have p4 := heap_cell HX0.out 4
  have p5 := heap_cell HX0.out 5
  have p6 := heap_cell HX0.out 6
  have p7 := heap_cell HX0.out 7
  simp at p0 p1 p2 p3 p4 p5 p6 p7
  have HC := Lib.hid (wnum_any g v l d odd W0 HS0.out hv (by (try simp only [sixE, triE, duoE, wrtE, argE, evtE, List.length_append]); omega))
  go_wp2_with fail
  refine HC.out.mono ?_
  clear HC
  rintro e W1 ⟨rfl, hg, l1, d1, o1, hs, st⟩
  have HX1 := Lib.hid (grown_block hg HX0.out hxg)
  have HG1 := Lib.hid (grownBy_trans HG0.out hg)
  have HS1 := Lib.hid hs
  have HT1 := Lib.hid st
  have hz1 := st.1
  try simp only [sixE, triE, duoE, wrtE, argE, evtE, List.length_append] at hz1
  clear hg hs st p0 p1 p2 p3 p4 p5 p6 p7
  have p0 := heap_cell HX1.out 0
  have p1 := heap_cell HX1.out 1
  have p2 := heap_cell HX1.out 2
  have p3 := heap_cell HX1.out 3
  have p4 := heap_cell HX1.out 4
  have p5 := heap_cell HX1.out 5
  have p6 := heap_cell HX1.out 6
  have p7 := heap_cell HX1.out 7
  simp at p0 p1 p2 p3 p4 p5 p6 p7
  have HC := Lib.hid (wwrite_any g q a b c dd e f l1 d1 o1 W1 HS1.out (by (try simp only [sixE, triE, duoE, wrtE, argE, evtE, List.length_append]); omega))
  go_wp2_with fail
  refine HC.out.mono ?_
  clear HC
  rintro e W2 ⟨rfl, hg, l2, d2, o2, hs, st⟩
  have HX2 := Lib.hid (grown_block hg HX1.out hxg)
  have HG2 := Lib.hid (grownBy_trans HG1.out hg)
  have HS2 := Lib.hid hs
  have HT2 := Lib.hid st
  have hz2 := st.1
  try simp only [sixE, triE, duoE, wrtE, argE, evtE, List.length_append] at hz2
  clear hg hs st p0 p1 p2 p3 p4 p5 p6 p7
  go_wp2_with fail
  go_end0
  exact ⟨rfl, HG2.out, l2, d2, o2, HS2.out, (HT1.out.trans HT2.out).to (by simp only [sixE, triE, duoE, wrtE, argE, evtE, List.append_assoc]) (fun d => by simp)⟩
end Go.Proofs.YtacjbgmnoiimbabGreat
