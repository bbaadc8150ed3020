/- A request written: walked (printed by genWireP.py). -/
import Derived.Test.YtacjbgmnoiimbabGreatWrH
namespace Go.Proofs.YtacjbgmnoiimbabGreat
set_option linter.unusedVariables false
set_option linter.unusedSimpArgs false
open Go.RowKit

set_option maxRecDepth 100000 in
set_option maxHeartbeats 4000000 in
theorem putreq_any (cl : ByteArray) (id : Nat) (kd hw : Int) (tk : ByteArray) (n : Nat) (ty f1 f2 f3 : ByteArray) (wa : Option Addr) (wc : Nat) (ws : List Wrt) (pa : Option Addr) (pc : Nat) (ps : List Wrt) (aa : Option Addr) (ac : Nat) (ks : List Six) (ga : Option Addr) (gc : Nat) (gs : List ArgT) (W : World) (hid : id < 18446744073709551616) (hkd : iok kd) (hhw : iok hw) (hn : n < 18446744073709551616) (hws : IsEls wrtC 7 W wa ws) (hps : IsEls wrtC 7 W pa ps) (hks : IsEls sixC 6 W aa ks) (hgs : IsEls argC 4 W ga gs) (hgk : ∀ x ∈ gs, iok x.2.1 ∧ iok x.2.2.1) (hlw : ws.length ≤ 1000 ∧ ps.length ≤ 1000 ∧ ks.length ≤ 1000 ∧ gs.length ≤ 1000) (hl : ([113, 49] ++ (reqE (cl, id, kd, hw, tk, n, ty, (f1, f2, f3), ws, ps, ks, gs))).length ≤ 100000000) :
    Calls Tryz.prog 11 #[.agg #[.string cl, .int .u64 id, .int .i64 kd, .int .i64 hw, .string tk, .int .u64 n, .string ty, .string f1, .string f2, .string f3, .slice wa ws.length wc, .slice pa ps.length pc, .slice aa ks.length ac, .slice ga gs.length gc]] W (PutDoes ([113, 49] ++ (reqE (cl, id, kd, hw, tk, n, ty, (f1, f2, f3), ws, ps, ks, gs))) (False) W) := by
  have hL := hl
  simp only [reqE, triE, respE, ← seE_list, List.length_append] at hL
  have h2l : ([113, 49] : List UInt8).length = 2 := rfl
  rw [h2l] at hL
  have Hws := Lib.hid hws
  have Hps := Lib.hid hps
  have Has := Lib.hid hks
  have Hgs := Lib.hid hgs
  have Hgk := Lib.hid hgk
  clear hws hps hks hgs hgk
  have e1 := alloc_size W (.cells #[.string cl, .int .u64 id, .int .i64 kd, .int .i64 hw, .string tk, .int .u64 n, .string ty, .string f1, .string f2, .string f3, .slice wa ws.length wc, .slice pa ps.length pc, .slice aa ks.length ac, .slice ga gs.length gc] 54)
  have hSt := st_new (W.alloc (.cells #[.string cl, .int .u64 id, .int .i64 kd, .int .i64 hw, .string tk, .int .u64 n, .string ty, .string f1, .string f2, .string f3, .slice wa ws.length wc, .slice pa ps.length pc, .slice aa ks.length ac, .slice ga gs.length gc] 54)) (.cells #[.int .u8 113, .int .u8 49] 5 (2, 3)) [113, 49] rfl (two_bytes (W.alloc (.cells #[.string cl, .int .u64 id, .int .i64 kd, .int .i64 hw, .string tk, .int .u64 n, .string ty, .string f1, .string f2, .string f3, .slice wa ws.length wc, .slice pa ps.length pc, .slice aa ks.length ac, .slice ga gs.length gc] 54)) 113 49)
  have hcv := Lib.run_convert_bytes_const (P := Tryz.prog) (W.alloc (.cells #[.string cl, .int .u64 id, .int .i64 kd, .int .i64 hw, .string tk, .int .u64 n, .string ty, .string f1, .string f2, .string f3, .slice wa ws.length wc, .slice pa ps.length pc, .slice aa ks.length ac, .slice ga gs.length gc] 54)) 39 5 #[.int .u8 113, .int .u8 49] 2 2 Tryz.underlying39 Tryz.underlying5
  rw [e1] at hcv
  have hcs : (#[.int .u8 113, .int .u8 49] : Array Value).size = 2 := rfl
  rw [hcs] at hcv
  clear hcs
  rw [e1] at hSt
  have HS0 := Lib.hid hSt
  have hb0 := (Below.refl W.heap.size W).alloc (Nat.le_refl _) (.cells #[.string cl, .int .u64 id, .int .i64 kd, .int .i64 hw, .string tk, .int .u64 n, .string ty, .string f1, .string f2, .string f3, .slice wa ws.length wc, .slice pa ps.length pc, .slice aa ks.length ac, .slice ga gs.length gc] 54)
  have hb1 := hb0.alloc hb0.size (.cells #[.int .u8 113, .int .u8 49] 5 (2, 3))
  have HB0 := Lib.hid (hb1.alloc hb1.size (.cells #[.slice (some ⟨W.heap.size + 1, 0, none⟩) 2 2, .int .i64 0, .bool false] 78))
  have hx1 := heap_alloc_new W (.cells #[.string cl, .int .u64 id, .int .i64 kd, .int .i64 hw, .string tk, .int .u64 n, .string ty, .string f1, .string f2, .string f3, .slice wa ws.length wc, .slice pa ps.length pc, .slice aa ks.length ac, .slice ga gs.length gc] 54)
  have hlt1 : W.heap.size < (W.alloc (.cells #[.string cl, .int .u64 id, .int .i64 kd, .int .i64 hw, .string tk, .int .u64 n, .string ty, .string f1, .string f2, .string f3, .slice wa ws.length wc, .slice pa ps.length pc, .slice aa ks.length ac, .slice ga gs.length gc] 54)).heap.size := by rw [alloc_size]; omega
  have hlt2 : W.heap.size < ((W.alloc (.cells #[.string cl, .int .u64 id, .int .i64 kd, .int .i64 hw, .string tk, .int .u64 n, .string ty, .string f1, .string f2, .string f3, .slice wa ws.length wc, .slice pa ps.length pc, .slice aa ks.length ac, .slice ga gs.length gc] 54)).alloc (.cells #[.int .u8 113, .int .u8 49] 5 (2, 3))).heap.size := by rw [alloc_size, alloc_size]; omega
  have HX0 := Lib.hid ((((Below.refl ((W.alloc (.cells #[.string cl, .int .u64 id, .int .i64 kd, .int .i64 hw, .string tk, .int .u64 n, .string ty, .string f1, .string f2, .string f3, .slice wa ws.length wc, .slice pa ps.length pc, .slice aa ks.length ac, .slice ga gs.length gc] 54)).alloc (.cells #[.int .u8 113, .int .u8 49] 5 (2, 3))).heap.size ((W.alloc (.cells #[.string cl, .int .u64 id, .int .i64 kd, .int .i64 hw, .string tk, .int .u64 n, .string ty, .string f1, .string f2, .string f3, .slice wa ws.length wc, .slice pa ps.length pc, .slice aa ks.length ac, .slice ga gs.length gc] 54)).alloc (.cells #[.int .u8 113, .int .u8 49] 5 (2, 3)))).alloc (Nat.le_refl _) (.cells #[.slice (some ⟨W.heap.size + 1, 0, none⟩) 2 2, .int .i64 0, .bool false] 78)).block _ hlt2).trans ((((Below.refl (W.alloc (.cells #[.string cl, .int .u64 id, .int .i64 kd, .int .i64 hw, .string tk, .int .u64 n, .string ty, .string f1, .string f2, .string f3, .slice wa ws.length wc, .slice pa ps.length pc, .slice aa ks.length ac, .slice ga gs.length gc] 54)).heap.size (W.alloc (.cells #[.string cl, .int .u64 id, .int .i64 kd, .int .i64 hw, .string tk, .int .u64 n, .string ty, .string f1, .string f2, .string f3, .slice wa ws.length wc, .slice pa ps.length pc, .slice aa ks.length ac, .slice ga gs.length gc] 54))).alloc (Nat.le_refl _) (.cells #[.int .u8 113, .int .u8 49] 5 (2, 3))).block _ hlt1).trans hx1))
  clear hSt hb0 hb1 hx1 hlt1 hlt2 e1
  go_enter Tryz.func11, Tryz.ntmps11
  go_upto_region 2 with (fail)
  clear hcv
  generalize (((W.alloc (.cells #[.string cl, .int .u64 id, .int .i64 kd, .int .i64 hw, .string tk, .int .u64 n, .string ty, .string f1, .string f2, .string f3, .slice wa ws.length wc, .slice pa ps.length pc, .slice aa ks.length ac, .slice ga gs.length gc] 54)).alloc (.cells #[.int .u8 113, .int .u8 49] 5 (2, 3))).alloc (.cells #[.slice (some ⟨W.heap.size + 1, 0, none⟩) 2 2, .int .i64 0, .bool false] 78)) = W0 at *
  obtain ⟨x, hx⟩ : ∃ x, x = W.heap.size := ⟨_, rfl⟩
  obtain ⟨g, hg0⟩ : ∃ g, g = W.heap.size + 1 + 1 := ⟨_, rfl⟩
  have hxg : x ≠ g := by omega
  have hWg : W.heap.size ≤ g := by omega
  have hWs : W.heap.size ≤ W0.heap.size := HB0.out.size
  rw [← hg0] at HS0
  rw [← hx] at HX0
  have HEx := Lib.hid hx
  have HEg := Lib.hid hg0
  rw [← hg0, ← hx]
  clear hx hg0
  have HG0 : Hid (W0.grownBy W0 (some g)) := grown_refl W0 g
  have q0 := heap_cell HX0.out 0
  have q1 := heap_cell HX0.out 1
  have q2 := heap_cell HX0.out 2
  have q3 := heap_cell HX0.out 3
  have q4 := heap_cell HX0.out 4
  have q5 := heap_cell HX0.out 5
  have q6 := heap_cell HX0.out 6
  have q7 := heap_cell HX0.out 7
  have q8 := heap_cell HX0.out 8
  have q9 := heap_cell HX0.out 9
  have q10 := heap_cell HX0.out 10
  have q11 := heap_cell HX0.out 11
  have q12 := heap_cell HX0.out 12
  have q13 := heap_cell HX0.out 13
  simp at q0 q1 q2 q3 q4 q5 q6 q7 q8 q9 q10 q11 q12 q13
  have HC := Lib.hid (wtxt_any g cl ([113, 49] : List UInt8) 0 false W0 HS0.out (by omega))
  go_wp2_with fail
  refine HC.out.mono ?_
  clear HC
  rintro ee W1 ⟨rfl, hg, l1, d1, o1, hs, st⟩
  have HX1 := Lib.hid (grown_block hg HX0.out hxg)
  have HG1 := Lib.hid (grownBy_trans HG0.out hg)
  have HS1 := Lib.hid hs
  have HT1 := Lib.hid st
  have hz1 := st.1
  have hy1 := st.2.1
  clear hg hs st q0 q1 q2 q3 q4 q5 q6 q7 q8 q9 q10 q11 q12 q13
  have q0 := heap_cell HX1.out 0
  have q1 := heap_cell HX1.out 1
  have q2 := heap_cell HX1.out 2
  have q3 := heap_cell HX1.out 3
  have q4 := heap_cell HX1.out 4
  have q5 := heap_cell HX1.out 5
  have q6 := heap_cell HX1.out 6
  have q7 := heap_cell HX1.out 7
  have q8 := heap_cell HX1.out 8
  have q9 := heap_cell HX1.out 9
  have q10 := heap_cell HX1.out 10
  have q11 := heap_cell HX1.out 11
  have q12 := heap_cell HX1.out 12
  have q13 := heap_cell HX1.out 13
  simp at q0 q1 q2 q3 q4 q5 q6 q7 q8 q9 q10 q11 q12 q13
  have HC := Lib.hid (wnum_any g id l1 d1 o1 W1 HS1.out hid (by omega))
  go_wp2_with fail
  refine HC.out.mono ?_
  clear HC
  rintro ee W2 ⟨rfl, hg, l2, d2, o2, hs, st⟩
  have HX2 := Lib.hid (grown_block hg HX1.out hxg)
  have HG2 := Lib.hid (grownBy_trans HG1.out hg)
  have HS2 := Lib.hid hs
  have HT2 := Lib.hid st
  have hz2 := st.1
  have hy2 := st.2.1
  clear hg hs st q0 q1 q2 q3 q4 q5 q6 q7 q8 q9 q10 q11 q12 q13
  have q0 := heap_cell HX2.out 0
  have q1 := heap_cell HX2.out 1
  have q2 := heap_cell HX2.out 2
  have q3 := heap_cell HX2.out 3
  have q4 := heap_cell HX2.out 4
  have q5 := heap_cell HX2.out 5
  have q6 := heap_cell HX2.out 6
  have q7 := heap_cell HX2.out 7
  have q8 := heap_cell HX2.out 8
  have q9 := heap_cell HX2.out 9
  have q10 := heap_cell HX2.out 10
  have q11 := heap_cell HX2.out 11
  have q12 := heap_cell HX2.out 12
  have q13 := heap_cell HX2.out 13
  simp at q0 q1 q2 q3 q4 q5 q6 q7 q8 q9 q10 q11 q12 q13
  have HC := Lib.hid (wint_any g kd l2 d2 o2 W2 HS2.out hkd (by omega))
  go_wp2_with fail
  refine HC.out.mono ?_
  clear HC
  rintro ee W3 ⟨rfl, hg, l3, d3, o3, hs, st⟩
  have HX3 := Lib.hid (grown_block hg HX2.out hxg)
  have HG3 := Lib.hid (grownBy_trans HG2.out hg)
  have HS3 := Lib.hid hs
  have HT3 := Lib.hid st
  have hz3 := st.1
  have hy3 := st.2.1
  clear hg hs st q0 q1 q2 q3 q4 q5 q6 q7 q8 q9 q10 q11 q12 q13
  have q0 := heap_cell HX3.out 0
  have q1 := heap_cell HX3.out 1
  have q2 := heap_cell HX3.out 2
  have q3 := heap_cell HX3.out 3
  have q4 := heap_cell HX3.out 4
  have q5 := heap_cell HX3.out 5
  have q6 := heap_cell HX3.out 6
  have q7 := heap_cell HX3.out 7
  have q8 := heap_cell HX3.out 8
  have q9 := heap_cell HX3.out 9
  have q10 := heap_cell HX3.out 10
  have q11 := heap_cell HX3.out 11
  have q12 := heap_cell HX3.out 12
  have q13 := heap_cell HX3.out 13
  simp at q0 q1 q2 q3 q4 q5 q6 q7 q8 q9 q10 q11 q12 q13
  have HC := Lib.hid (wint_any g hw l3 d3 o3 W3 HS3.out hhw (by omega))
  go_wp2_with fail
  refine HC.out.mono ?_
  clear HC
  rintro ee W4 ⟨rfl, hg, l4, d4, o4, hs, st⟩
  have HX4 := Lib.hid (grown_block hg HX3.out hxg)
  have HG4 := Lib.hid (grownBy_trans HG3.out hg)
  have HS4 := Lib.hid hs
  have HT4 := Lib.hid st
  have hz4 := st.1
  have hy4 := st.2.1
  clear hg hs st q0 q1 q2 q3 q4 q5 q6 q7 q8 q9 q10 q11 q12 q13
  have q0 := heap_cell HX4.out 0
  have q1 := heap_cell HX4.out 1
  have q2 := heap_cell HX4.out 2
  have q3 := heap_cell HX4.out 3
  have q4 := heap_cell HX4.out 4
  have q5 := heap_cell HX4.out 5
  have q6 := heap_cell HX4.out 6
  have q7 := heap_cell HX4.out 7
  have q8 := heap_cell HX4.out 8
  have q9 := heap_cell HX4.out 9
  have q10 := heap_cell HX4.out 10
  have q11 := heap_cell HX4.out 11
  have q12 := heap_cell HX4.out 12
  have q13 := heap_cell HX4.out 13
  simp at q0 q1 q2 q3 q4 q5 q6 q7 q8 q9 q10 q11 q12 q13
  have HC := Lib.hid (wtxt_any g tk l4 d4 o4 W4 HS4.out (by omega))
  go_wp2_with fail
  refine HC.out.mono ?_
  clear HC
  rintro ee W5 ⟨rfl, hg, l5, d5, o5, hs, st⟩
  have HX5 := Lib.hid (grown_block hg HX4.out hxg)
  have HG5 := Lib.hid (grownBy_trans HG4.out hg)
  have HS5 := Lib.hid hs
  have HT5 := Lib.hid st
  have hz5 := st.1
  have hy5 := st.2.1
  clear hg hs st q0 q1 q2 q3 q4 q5 q6 q7 q8 q9 q10 q11 q12 q13
  have q0 := heap_cell HX5.out 0
  have q1 := heap_cell HX5.out 1
  have q2 := heap_cell HX5.out 2
  have q3 := heap_cell HX5.out 3
  have q4 := heap_cell HX5.out 4
  have q5 := heap_cell HX5.out 5
  have q6 := heap_cell HX5.out 6
  have q7 := heap_cell HX5.out 7
  have q8 := heap_cell HX5.out 8
  have q9 := heap_cell HX5.out 9
  have q10 := heap_cell HX5.out 10
  have q11 := heap_cell HX5.out 11
  have q12 := heap_cell HX5.out 12
  have q13 := heap_cell HX5.out 13
  simp at q0 q1 q2 q3 q4 q5 q6 q7 q8 q9 q10 q11 q12 q13
  have HC := Lib.hid (wnum_any g n l5 d5 o5 W5 HS5.out hn (by omega))
  go_wp2_with fail
  refine HC.out.mono ?_
  clear HC
  rintro ee W6 ⟨rfl, hg, l6, d6, o6, hs, st⟩
  have HX6 := Lib.hid (grown_block hg HX5.out hxg)
  have HG6 := Lib.hid (grownBy_trans HG5.out hg)
  have HS6 := Lib.hid hs
  have HT6 := Lib.hid st
  have hz6 := st.1
  have hy6 := st.2.1
  clear hg hs st q0 q1 q2 q3 q4 q5 q6 q7 q8 q9 q10 q11 q12 q13
  have q0 := heap_cell HX6.out 0
  have q1 := heap_cell HX6.out 1
  have q2 := heap_cell HX6.out 2
  have q3 := heap_cell HX6.out 3
  have q4 := heap_cell HX6.out 4
  have q5 := heap_cell HX6.out 5
  have q6 := heap_cell HX6.out 6
  have q7 := heap_cell HX6.out 7
  have q8 := heap_cell HX6.out 8
  have q9 := heap_cell HX6.out 9
  have q10 := heap_cell HX6.out 10
  have q11 := heap_cell HX6.out 11
  have q12 := heap_cell HX6.out 12
  have q13 := heap_cell HX6.out 13
  simp at q0 q1 q2 q3 q4 q5 q6 q7 q8 q9 q10 q11 q12 q13
  have HC := Lib.hid (wtxt_any g ty l6 d6 o6 W6 HS6.out (by omega))
  go_wp2_with fail
  refine HC.out.mono ?_
  clear HC
  rintro ee W7 ⟨rfl, hg, l7, d7, o7, hs, st⟩
  have HX7 := Lib.hid (grown_block hg HX6.out hxg)
  have HG7 := Lib.hid (grownBy_trans HG6.out hg)
  have HS7 := Lib.hid hs
  have HT7 := Lib.hid st
  have hz7 := st.1
  have hy7 := st.2.1
  clear hg hs st q0 q1 q2 q3 q4 q5 q6 q7 q8 q9 q10 q11 q12 q13
  have q0 := heap_cell HX7.out 0
  have q1 := heap_cell HX7.out 1
  have q2 := heap_cell HX7.out 2
  have q3 := heap_cell HX7.out 3
  have q4 := heap_cell HX7.out 4
  have q5 := heap_cell HX7.out 5
  have q6 := heap_cell HX7.out 6
  have q7 := heap_cell HX7.out 7
  have q8 := heap_cell HX7.out 8
  have q9 := heap_cell HX7.out 9
  have q10 := heap_cell HX7.out 10
  have q11 := heap_cell HX7.out 11
  have q12 := heap_cell HX7.out 12
  have q13 := heap_cell HX7.out 13
  simp at q0 q1 q2 q3 q4 q5 q6 q7 q8 q9 q10 q11 q12 q13
  have i0 : ∀ w : World, (Instr.index 127 (.agg #[.string f1, .string f2, .string f3]) (.int .i64 0)).run Tryz.prog w = .ok (.string f1) w := fun _ => by kernel_rfl
  have i1 : ∀ w : World, (Instr.index 127 (.agg #[.string f1, .string f2, .string f3]) (.int .i64 1)).run Tryz.prog w = .ok (.string f2) w := fun _ => by kernel_rfl
  have i2 : ∀ w : World, (Instr.index 127 (.agg #[.string f1, .string f2, .string f3]) (.int .i64 2)).run Tryz.prog w = .ok (.string f3) w := fun _ => by kernel_rfl
  have HT0l : Hid (Stp l7 d7 o7 (bodyE txt (([f1, f2, f3] : List ByteArray).take 0)) (fun _ => False) l7 d7 o7) := Stp.nil _ _ _
  have hFL : (bodyE txt ([f1, f2, f3] : List ByteArray)).length = (txt f1).length + ((txt f2).length + (txt f3).length) := by simp [bodyE]
  go_wp2_with fail
  go_loopw [49] (fun iv wr => ∃ (j : Nat) (l1 : List UInt8) (d1 : Nat) (o1 : Bool), iv = .int .i64 j ∧ j ≤ 3 ∧ Hid (W0.grownBy wr (some g) ∧ SAt 78 wr g l1 d1 o1 ∧ Stp l7 d7 o7 (bodyE txt (([f1, f2, f3] : List ByteArray).take j)) (fun _ => False) l1 d1 o1)) (fun iv _ => 3 - (intOf iv).toNat)
  case atStart => exact ⟨0, _, _, _, rfl, by omega, HG7.out, HS7.out, HT0l.out⟩
  case round =>
    clear HT0l q0 q1 q2 q3 q4 q5 q6 q7 q8 q9 q10 q11 q12 q13
    obtain ⟨j, l1, d1, o1, rfl, hj, hst⟩ := hrel
    obtain ⟨hgr, hsr, htr⟩ := hst.out
    have hlen1 := htr.1
    have hble := body_le txt ([f1, f2, f3] : List ByteArray) j
    clear hst
    by_cases hj0 : j = 0
    · subst hj0
      have hbt := body_take txt ([f1, f2, f3] : List ByteArray) 0 (by show 0 < 3; omega)
      have hble2 := body_le txt ([f1, f2, f3] : List ByteArray) 1
      rw [hbt, List.length_append] at hble2
      have hgd : ([f1, f2, f3] : List ByteArray).getD 0 default = f1 := rfl
      rw [hgd] at hbt hble2
      have HC := Lib.hid (wtxt_any g f1 l1 d1 o1 wr hsr (by omega))
      have HGr := Lib.hid hgr
      have HTr := Lib.hid htr
      have HBt := Lib.hid hbt
      clear hgr hsr htr hbt hble2 hgd
      go_wp2_with fail
      refine HC.out.mono ?_
      clear HC
      rintro ee wn ⟨rfl, hgn, l2, d2, o2, hsn, stn⟩
      have HRN : Hid (W0.grownBy wn (some g) ∧ SAt 78 wn g l2 d2 o2 ∧ Stp l7 d7 o7 (bodyE txt (([f1, f2, f3] : List ByteArray).take 1)) (fun _ => False) l2 d2 o2) := ⟨grownBy_trans HGr.out hgn, hsn, (HTr.out.trans stn).to (by rw [HBt.out]) (fun d => by simp)⟩
      clear hgn hsn stn
      go_wp2_with fail
      go_roundw
      case rel => exact ⟨1, l2, d2, o2, by first | rfl | go_num, by omega, HRN⟩
      case measure => first | (simp [intOf]; done) | (simp [intOf]; omega)
    by_cases hj1 : j = 1
    · subst hj1
      have hbt := body_take txt ([f1, f2, f3] : List ByteArray) 1 (by show 1 < 3; omega)
      have hble2 := body_le txt ([f1, f2, f3] : List ByteArray) 2
      rw [hbt, List.length_append] at hble2
      have hgd : ([f1, f2, f3] : List ByteArray).getD 1 default = f2 := rfl
      rw [hgd] at hbt hble2
      have HC := Lib.hid (wtxt_any g f2 l1 d1 o1 wr hsr (by omega))
      have HGr := Lib.hid hgr
      have HTr := Lib.hid htr
      have HBt := Lib.hid hbt
      clear hgr hsr htr hbt hble2 hgd
      go_wp2_with fail
      refine HC.out.mono ?_
      clear HC
      rintro ee wn ⟨rfl, hgn, l2, d2, o2, hsn, stn⟩
      have HRN : Hid (W0.grownBy wn (some g) ∧ SAt 78 wn g l2 d2 o2 ∧ Stp l7 d7 o7 (bodyE txt (([f1, f2, f3] : List ByteArray).take 2)) (fun _ => False) l2 d2 o2) := ⟨grownBy_trans HGr.out hgn, hsn, (HTr.out.trans stn).to (by rw [HBt.out]) (fun d => by simp)⟩
      clear hgn hsn stn
      go_wp2_with fail
      go_roundw
      case rel => exact ⟨2, l2, d2, o2, by first | rfl | go_num, by omega, HRN⟩
      case measure => first | (simp [intOf]; done) | (simp [intOf]; omega)
    by_cases hj2 : j = 2
    · subst hj2
      have hbt := body_take txt ([f1, f2, f3] : List ByteArray) 2 (by show 2 < 3; omega)
      have hble2 := body_le txt ([f1, f2, f3] : List ByteArray) 3
      rw [hbt, List.length_append] at hble2
      have hgd : ([f1, f2, f3] : List ByteArray).getD 2 default = f3 := rfl
      rw [hgd] at hbt hble2
      have HC := Lib.hid (wtxt_any g f3 l1 d1 o1 wr hsr (by omega))
      have HGr := Lib.hid hgr
      have HTr := Lib.hid htr
      have HBt := Lib.hid hbt
      clear hgr hsr htr hbt hble2 hgd
      go_wp2_with fail
      refine HC.out.mono ?_
      clear HC
      rintro ee wn ⟨rfl, hgn, l2, d2, o2, hsn, stn⟩
      have HRN : Hid (W0.grownBy wn (some g) ∧ SAt 78 wn g l2 d2 o2 ∧ Stp l7 d7 o7 (bodyE txt (([f1, f2, f3] : List ByteArray).take 3)) (fun _ => False) l2 d2 o2) := ⟨grownBy_trans HGr.out hgn, hsn, (HTr.out.trans stn).to (by rw [HBt.out]) (fun d => by simp)⟩
      clear hgn hsn stn
      go_wp2_with fail
      go_roundw
      case rel => exact ⟨3, l2, d2, o2, by first | rfl | go_num, by omega, HRN⟩
      case measure => first | (simp [intOf]; done) | (simp [intOf]; omega)
    obtain rfl : j = 3 := by omega
    clear hj0 hj1 hj2
    have HS8 := Lib.hid hsr
    have HG8 := Lib.hid hgr
    have HT8 : Hid (Stp l7 d7 o7 (txt f1 ++ (txt f2 ++ txt f3)) (fun _ => False) l1 d1 o1) := htr.to (by simp [bodyE]) (fun _ => Iff.rfl)
    have HX8 := Lib.hid (grown_block hgr HX0.out hxg)
    have hz8 := HT8.out.1
    have hy8 := HT8.out.2.1
    simp only [List.length_append] at hz8 hy8
    clear hgr hsr htr hlen1 hble
    obtain ⟨W8, hW8⟩ : ∃ W8, W8 = wr := ⟨_, rfl⟩
    rw [← hW8] at HS8 HG8 HX8 ⊢
    clear hW8
    obtain ⟨l8, hl8⟩ : ∃ l8, l8 = l1 := ⟨_, rfl⟩
    obtain ⟨d8, hd8⟩ : ∃ d8, d8 = d1 := ⟨_, rfl⟩
    obtain ⟨o8, ho8⟩ : ∃ o8, o8 = o1 := ⟨_, rfl⟩
    rw [← hl8, ← hd8, ← ho8] at HS8 HT8
    rw [← hl8] at hz8
    rw [← hd8] at hy8
    clear hl8 hd8 ho8
    have q0 := heap_cell HX8.out 0
    have q1 := heap_cell HX8.out 1
    have q2 := heap_cell HX8.out 2
    have q3 := heap_cell HX8.out 3
    have q4 := heap_cell HX8.out 4
    have q5 := heap_cell HX8.out 5
    have q6 := heap_cell HX8.out 6
    have q7 := heap_cell HX8.out 7
    have q8 := heap_cell HX8.out 8
    have q9 := heap_cell HX8.out 9
    have q10 := heap_cell HX8.out 10
    have q11 := heap_cell HX8.out 11
    have q12 := heap_cell HX8.out 12
    have q13 := heap_cell HX8.out 13
    simp at q0 q1 q2 q3 q4 q5 q6 q7 q8 q9 q10 q11 q12 q13
    have HC := Lib.hid (lwrite_any g wa wc ws l8 d8 o8 W8 HS8.out ((Hws.out.below HB0.out).grown (els_ne Hws.out hWg) HG8.out) (els_ne Hws.out hWg) (by omega) (by omega))
    go_wp2_with fail
    refine HC.out.mono ?_
    clear HC
    rintro ee W9 ⟨rfl, hg, l9, d9, o9, hs, st⟩
    have HX9 := Lib.hid (grown_block hg HX8.out hxg)
    have HG9 := Lib.hid (grownBy_trans HG8.out hg)
    have HS9 := Lib.hid hs
    have HT9 := Lib.hid st
    have hz9 := st.1
    have hy9 := st.2.1
    clear hg hs st q0 q1 q2 q3 q4 q5 q6 q7 q8 q9 q10 q11 q12 q13
    have q0 := heap_cell HX9.out 0
    have q1 := heap_cell HX9.out 1
    have q2 := heap_cell HX9.out 2
    have q3 := heap_cell HX9.out 3
    have q4 := heap_cell HX9.out 4
    have q5 := heap_cell HX9.out 5
    have q6 := heap_cell HX9.out 6
    have q7 := heap_cell HX9.out 7
    have q8 := heap_cell HX9.out 8
    have q9 := heap_cell HX9.out 9
    have q10 := heap_cell HX9.out 10
    have q11 := heap_cell HX9.out 11
    have q12 := heap_cell HX9.out 12
    have q13 := heap_cell HX9.out 13
    simp at q0 q1 q2 q3 q4 q5 q6 q7 q8 q9 q10 q11 q12 q13
    have HC := Lib.hid (lpre_any g pa pc ps l9 d9 o9 W9 HS9.out ((Hps.out.below HB0.out).grown (els_ne Hps.out hWg) HG9.out) (els_ne Hps.out hWg) (by omega) (by omega))
    go_wp2_with fail
    refine HC.out.mono ?_
    clear HC
    rintro ee W10 ⟨rfl, hg, l10, d10, o10, hs, st⟩
    have HX10 := Lib.hid (grown_block hg HX9.out hxg)
    have HG10 := Lib.hid (grownBy_trans HG9.out hg)
    have HS10 := Lib.hid hs
    have HT10 := Lib.hid st
    have hz10 := st.1
    have hy10 := st.2.1
    clear hg hs st q0 q1 q2 q3 q4 q5 q6 q7 q8 q9 q10 q11 q12 q13
    have q0 := heap_cell HX10.out 0
    have q1 := heap_cell HX10.out 1
    have q2 := heap_cell HX10.out 2
    have q3 := heap_cell HX10.out 3
    have q4 := heap_cell HX10.out 4
    have q5 := heap_cell HX10.out 5
    have q6 := heap_cell HX10.out 6
    have q7 := heap_cell HX10.out 7
    have q8 := heap_cell HX10.out 8
    have q9 := heap_cell HX10.out 9
    have q10 := heap_cell HX10.out 10
    have q11 := heap_cell HX10.out 11
    have q12 := heap_cell HX10.out 12
    have q13 := heap_cell HX10.out 13
    simp at q0 q1 q2 q3 q4 q5 q6 q7 q8 q9 q10 q11 q12 q13
    have HC := Lib.hid (lask_any g aa ac ks l10 d10 o10 W10 HS10.out ((Has.out.below HB0.out).grown (els_ne Has.out hWg) HG10.out) (els_ne Has.out hWg) (by omega) (by omega))
    go_wp2_with fail
    refine HC.out.mono ?_
    clear HC
    rintro ee W11 ⟨rfl, hg, l11, d11, o11, hs, st⟩
    have HX11 := Lib.hid (grown_block hg HX10.out hxg)
    have HG11 := Lib.hid (grownBy_trans HG10.out hg)
    have HS11 := Lib.hid hs
    have HT11 := Lib.hid st
    have hz11 := st.1
    have hy11 := st.2.1
    clear hg hs st q0 q1 q2 q3 q4 q5 q6 q7 q8 q9 q10 q11 q12 q13
    have q0 := heap_cell HX11.out 0
    have q1 := heap_cell HX11.out 1
    have q2 := heap_cell HX11.out 2
    have q3 := heap_cell HX11.out 3
    have q4 := heap_cell HX11.out 4
    have q5 := heap_cell HX11.out 5
    have q6 := heap_cell HX11.out 6
    have q7 := heap_cell HX11.out 7
    have q8 := heap_cell HX11.out 8
    have q9 := heap_cell HX11.out 9
    have q10 := heap_cell HX11.out 10
    have q11 := heap_cell HX11.out 11
    have q12 := heap_cell HX11.out 12
    have q13 := heap_cell HX11.out 13
    simp at q0 q1 q2 q3 q4 q5 q6 q7 q8 q9 q10 q11 q12 q13
    have HC := Lib.hid (larg_any g ga gc gs l11 d11 o11 W11 HS11.out ((Hgs.out.below HB0.out).grown (els_ne Hgs.out hWg) HG11.out) (els_ne Hgs.out hWg) Hgk.out (by omega) (by omega))
    go_wp2_with fail
    refine HC.out.mono ?_
    clear HC
    rintro ee W12 ⟨rfl, hg, l12, d12, o12, hs, st⟩
    have HX12 := Lib.hid (grown_block hg HX11.out hxg)
    have HG12 := Lib.hid (grownBy_trans HG11.out hg)
    have HS12 := Lib.hid hs
    have HT12 := Lib.hid st
    have hz12 := st.1
    have hy12 := st.2.1
    clear hg hs st q0 q1 q2 q3 q4 q5 q6 q7 q8 q9 q10 q11 q12 q13
    have HC := Lib.hid (wdone_any g l12 d12 o12 W12 HS12.out)
    go_wp2_with fail
    refine HC.out.mono ?_
    clear HC
    rintro ee We ⟨rfl, hodd, hev⟩
    have HFin : Hid (∀ ee, (o12 = true → ee = .returned (.tuple #[.slice none 0 0, .int .i64 10])) → (o12 = false → ∃ a c, ee = .returned (.tuple #[.slice a l12.length c, .int .i64 0]) ∧ l12.length ≤ c ∧ IsBytes We a l12) → PutDoes ([113, 49] ++ (reqE (cl, id, kd, hw, tk, n, ty, (f1, f2, f3), ws, ps, ks, gs))) (False) W ee We) := fun ee q1 q2 => put_end (bad := fun _ => False) ((HT1.out.trans (HT2.out.trans (HT3.out.trans (HT4.out.trans (HT5.out.trans (HT6.out.trans (HT7.out.trans (HT8.out.trans (HT9.out.trans (HT10.out.trans (HT11.out.trans HT12.out))))))))))).to (by simp only [reqE, triE, respE, ← seE_list, List.append_assoc]) (fun d => by simp)) (HB0.out.trans (below_grown HG12.out hWg hWs)) q1 q2
    cases o12 with
    | true =>
      rw [hodd rfl]
      have HF := Lib.hid (HFin.out _ (fun _ => rfl) (fun h => by cases h))
      clear HFin hodd hev
      go_wp2_with fail
      go_ret2
      exact HF.out
    | false =>
      obtain ⟨ra, rc, hee, hrc, hrb⟩ := hev rfl
      rw [hee]
      have HF := Lib.hid (HFin.out _ (fun h => by cases h) (fun _ => ⟨ra, rc, rfl, hrc, hrb⟩))
      clear hee hrc hrb
      clear HFin hodd hev
      go_wp2_with fail
      go_ret2
      exact HF.out
end Go.Proofs.YtacjbgmnoiimbabGreat
