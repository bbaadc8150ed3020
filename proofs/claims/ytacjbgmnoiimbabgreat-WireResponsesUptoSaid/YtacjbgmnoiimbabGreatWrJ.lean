/- A response written: walked (printed by genWireP.py). -/
import Derived.Test.YtacjbgmnoiimbabGreatWrH
namespace Go.Proofs.YtacjbgmnoiimbabGreat
set_option linter.unusedVariables false
set_option linter.unusedSimpArgs false
open Go.RowKit

theorem flat_bad {xs : List SE} {nd : PN} : ((∃ x ∈ xs, seB x 0) ∨ badN nd 0) ↔ ¬ ((∀ x ∈ xs.map SE.plain, depR x.2.1 ≤ 64) ∧ depN nd ≤ 64) := by
  unfold seB badR badN
  constructor
  · rintro (⟨x, hx, h⟩ | h)
    · rintro ⟨k, _⟩
      have := k _ (List.mem_map_of_mem hx)
      have e : depR (SE.plain x).2.1 = depR x.r.plain := rfl
      omega
    · rintro ⟨_, k⟩; omega
  · intro h
    refine Classical.byContradiction fun hno => h ⟨fun x hx => ?_, ?_⟩
    · obtain ⟨y, hy, rfl⟩ := List.mem_map.1 hx
      refine Classical.byContradiction fun hn => hno (.inl ⟨y, hy, ?_⟩)
      have e : depR (SE.plain y).2.1 = depR y.r.plain := rfl
      omega
    · refine Classical.byContradiction fun hn => hno (.inr ?_)
      omega
set_option maxRecDepth 100000 in
set_option maxHeartbeats 4000000 in
theorem putresp_any (n : Nat) (id : Nat) (er : Int) (rv : Nat) (tk : ByteArray) (fa : Option Addr) (fc : Nat) (fs : List Bool) (ta : Option Addr) (tc : Nat) (ts : List Six) (oa : Option Addr) (oc : Nat) (os : List Duo) (ea : Option Addr) (ec : Nat) (es : List Evt) (sa : Option Addr) (sc : Nat) (ss : List SE) (nk : Int) (nt ni nr : ByteArray) (nsa : Option Addr) (nsc : Nat) (nss : List Tri) (na : Option Addr) (nc : Nat) (nps : List PN) (W : World) (hid : id < 18446744073709551616) (her : iok er) (hrv : rv < 18446744073709551616) (hfs : IsEls boolC 1 W fa fs) (hts : IsEls sixC 6 W ta ts) (hos : IsEls duoC 2 W oa os) (hes : IsEls evtC 8 W ea es) (hek : ∀ x ∈ es, x.1 < 18446744073709551616) (hss : IsEls seC 11 W sa ss) (hsm : SMem (· < W.heap.size) n W ss) (hso : ∀ x ∈ ss, stepok x.plain) (hns : IsEls triC 3 W nsa nss) (hnm : NMem (· < W.heap.size) n W na nps) (hno : okN (.mk nk (nt, ni) nr nss nps)) (hlw : fs.length ≤ 1000 ∧ ts.length ≤ 1000 ∧ os.length ≤ 1000 ∧ es.length ≤ 1000 ∧ nss.length ≤ 1000000) (hl : ([112, 49] ++ (respE (id, er, rv, tk, fs, ts, os, es, ss.map SE.plain, .mk nk (nt, ni) nr nss nps))).length ≤ 100000000) :
    Calls Tryz.prog 6 #[.agg #[.int .u64 id, .int .i64 er, .int .u64 rv, .string tk, .slice fa fs.length fc, .slice ta ts.length tc, .slice oa os.length oc, .slice ea es.length ec, .slice sa ss.length sc, .int .i64 nk, .string nt, .string ni, .string nr, .slice nsa nss.length nsc, .slice na nps.length nc]] W (PutDoes ([112, 49] ++ (respE (id, er, rv, tk, fs, ts, os, es, ss.map SE.plain, .mk nk (nt, ni) nr nss nps))) ((∃ x ∈ ss, seB x 0) ∨ badN (.mk nk (nt, ni) nr nss nps) 0) W) := by
  have hL := hl
  simp only [reqE, triE, respE, ← seE_list, List.length_append] at hL
  have h2l : ([112, 49] : List UInt8).length = 2 := rfl
  rw [h2l] at hL
  have Hfs := Lib.hid hfs
  have Hts := Lib.hid hts
  have Hos := Lib.hid hos
  have Hes := Lib.hid hes
  have Hek := Lib.hid hek
  have Hss := Lib.hid hss
  have Hsm := Lib.hid hsm
  have Hso := Lib.hid hso
  have Hns := Lib.hid hns
  have Hnm := Lib.hid hnm
  have Hno := Lib.hid hno
  clear hfs hts hos hes hek hss hsm hso hns hnm hno
  have e1 := alloc_size W (.cells #[.int .u64 id, .int .i64 er, .int .u64 rv, .string tk, .slice fa fs.length fc, .slice ta ts.length tc, .slice oa os.length oc, .slice ea es.length ec, .slice sa ss.length sc, .int .i64 nk, .string nt, .string ni, .string nr, .slice nsa nss.length nsc, .slice na nps.length nc] 36)
  have hSt := st_new (W.alloc (.cells #[.int .u64 id, .int .i64 er, .int .u64 rv, .string tk, .slice fa fs.length fc, .slice ta ts.length tc, .slice oa os.length oc, .slice ea es.length ec, .slice sa ss.length sc, .int .i64 nk, .string nt, .string ni, .string nr, .slice nsa nss.length nsc, .slice na nps.length nc] 36)) (.cells #[.int .u8 112, .int .u8 49] 5 (2, 3)) [112, 49] rfl (two_bytes (W.alloc (.cells #[.int .u64 id, .int .i64 er, .int .u64 rv, .string tk, .slice fa fs.length fc, .slice ta ts.length tc, .slice oa os.length oc, .slice ea es.length ec, .slice sa ss.length sc, .int .i64 nk, .string nt, .string ni, .string nr, .slice nsa nss.length nsc, .slice na nps.length nc] 36)) 112 49)
  have hcv := Lib.run_convert_bytes_const (P := Tryz.prog) (W.alloc (.cells #[.int .u64 id, .int .i64 er, .int .u64 rv, .string tk, .slice fa fs.length fc, .slice ta ts.length tc, .slice oa os.length oc, .slice ea es.length ec, .slice sa ss.length sc, .int .i64 nk, .string nt, .string ni, .string nr, .slice nsa nss.length nsc, .slice na nps.length nc] 36)) 39 5 #[.int .u8 112, .int .u8 49] 2 2 Tryz.underlying39 Tryz.underlying5
  rw [e1] at hcv
  have hcs : (#[.int .u8 112, .int .u8 49] : Array Value).size = 2 := rfl
  rw [hcs] at hcv
  clear hcs
  rw [e1] at hSt
  have HS0 := Lib.hid hSt
  have hb0 := (Below.refl W.heap.size W).alloc (Nat.le_refl _) (.cells #[.int .u64 id, .int .i64 er, .int .u64 rv, .string tk, .slice fa fs.length fc, .slice ta ts.length tc, .slice oa os.length oc, .slice ea es.length ec, .slice sa ss.length sc, .int .i64 nk, .string nt, .string ni, .string nr, .slice nsa nss.length nsc, .slice na nps.length nc] 36)
  have hb1 := hb0.alloc hb0.size (.cells #[.int .u8 112, .int .u8 49] 5 (2, 3))
  have HB0 := Lib.hid (hb1.alloc hb1.size (.cells #[.slice (some ⟨W.heap.size + 1, 0, none⟩) 2 2, .int .i64 0, .bool false] 78))
  have hx1 := heap_alloc_new W (.cells #[.int .u64 id, .int .i64 er, .int .u64 rv, .string tk, .slice fa fs.length fc, .slice ta ts.length tc, .slice oa os.length oc, .slice ea es.length ec, .slice sa ss.length sc, .int .i64 nk, .string nt, .string ni, .string nr, .slice nsa nss.length nsc, .slice na nps.length nc] 36)
  have hlt1 : W.heap.size < (W.alloc (.cells #[.int .u64 id, .int .i64 er, .int .u64 rv, .string tk, .slice fa fs.length fc, .slice ta ts.length tc, .slice oa os.length oc, .slice ea es.length ec, .slice sa ss.length sc, .int .i64 nk, .string nt, .string ni, .string nr, .slice nsa nss.length nsc, .slice na nps.length nc] 36)).heap.size := by rw [alloc_size]; omega
  have hlt2 : W.heap.size < ((W.alloc (.cells #[.int .u64 id, .int .i64 er, .int .u64 rv, .string tk, .slice fa fs.length fc, .slice ta ts.length tc, .slice oa os.length oc, .slice ea es.length ec, .slice sa ss.length sc, .int .i64 nk, .string nt, .string ni, .string nr, .slice nsa nss.length nsc, .slice na nps.length nc] 36)).alloc (.cells #[.int .u8 112, .int .u8 49] 5 (2, 3))).heap.size := by rw [alloc_size, alloc_size]; omega
  have HX0 := Lib.hid ((((Below.refl ((W.alloc (.cells #[.int .u64 id, .int .i64 er, .int .u64 rv, .string tk, .slice fa fs.length fc, .slice ta ts.length tc, .slice oa os.length oc, .slice ea es.length ec, .slice sa ss.length sc, .int .i64 nk, .string nt, .string ni, .string nr, .slice nsa nss.length nsc, .slice na nps.length nc] 36)).alloc (.cells #[.int .u8 112, .int .u8 49] 5 (2, 3))).heap.size ((W.alloc (.cells #[.int .u64 id, .int .i64 er, .int .u64 rv, .string tk, .slice fa fs.length fc, .slice ta ts.length tc, .slice oa os.length oc, .slice ea es.length ec, .slice sa ss.length sc, .int .i64 nk, .string nt, .string ni, .string nr, .slice nsa nss.length nsc, .slice na nps.length nc] 36)).alloc (.cells #[.int .u8 112, .int .u8 49] 5 (2, 3)))).alloc (Nat.le_refl _) (.cells #[.slice (some ⟨W.heap.size + 1, 0, none⟩) 2 2, .int .i64 0, .bool false] 78)).block _ hlt2).trans ((((Below.refl (W.alloc (.cells #[.int .u64 id, .int .i64 er, .int .u64 rv, .string tk, .slice fa fs.length fc, .slice ta ts.length tc, .slice oa os.length oc, .slice ea es.length ec, .slice sa ss.length sc, .int .i64 nk, .string nt, .string ni, .string nr, .slice nsa nss.length nsc, .slice na nps.length nc] 36)).heap.size (W.alloc (.cells #[.int .u64 id, .int .i64 er, .int .u64 rv, .string tk, .slice fa fs.length fc, .slice ta ts.length tc, .slice oa os.length oc, .slice ea es.length ec, .slice sa ss.length sc, .int .i64 nk, .string nt, .string ni, .string nr, .slice nsa nss.length nsc, .slice na nps.length nc] 36))).alloc (Nat.le_refl _) (.cells #[.int .u8 112, .int .u8 49] 5 (2, 3))).block _ hlt1).trans hx1))
  clear hSt hb0 hb1 hx1 hlt1 hlt2 e1
  go_enter Tryz.func6, Tryz.ntmps6
  go_upto_region 2 with (fail)
  clear hcv
  generalize (((W.alloc (.cells #[.int .u64 id, .int .i64 er, .int .u64 rv, .string tk, .slice fa fs.length fc, .slice ta ts.length tc, .slice oa os.length oc, .slice ea es.length ec, .slice sa ss.length sc, .int .i64 nk, .string nt, .string ni, .string nr, .slice nsa nss.length nsc, .slice na nps.length nc] 36)).alloc (.cells #[.int .u8 112, .int .u8 49] 5 (2, 3))).alloc (.cells #[.slice (some ⟨W.heap.size + 1, 0, none⟩) 2 2, .int .i64 0, .bool false] 78)) = W0 at *
  obtain ⟨x, hx⟩ : ∃ x, x = W.heap.size := ⟨_, rfl⟩
  obtain ⟨g, hg0⟩ : ∃ g, g = W.heap.size + 1 + 1 := ⟨_, rfl⟩
  have hxg : x ≠ g := by omega
  have hWg : W.heap.size ≤ g := by omega
  have hWs : W.heap.size ≤ W0.heap.size := HB0.out.size
  rw [← hg0] at HS0
  rw [← hx] at HX0
  have HEx := Lib.hid hx
  have HEg := Lib.hid hg0
  rw [← hg0, ← hx]
  clear hx hg0
  have HG0 : Hid (W0.grownBy W0 (some g)) := grown_refl W0 g
  have q0 := heap_cell HX0.out 0
  have q1 := heap_cell HX0.out 1
  have q2 := heap_cell HX0.out 2
  have q3 := heap_cell HX0.out 3
  have q4 := heap_cell HX0.out 4
  have q5 := heap_cell HX0.out 5
  have q6 := heap_cell HX0.out 6
  have q7 := heap_cell HX0.out 7
  have q8 := heap_cell HX0.out 8
  have q9 := heap_cell HX0.out 9
  have q10 := heap_cell HX0.out 10
  have q11 := heap_cell HX0.out 11
  have q12 := heap_cell HX0.out 12
  have q13 := heap_cell HX0.out 13
  have q14 := heap_cell HX0.out 14
  simp at q0 q1 q2 q3 q4 q5 q6 q7 q8 q9 q10 q11 q12 q13 q14
  have HC := Lib.hid (wnum_any g id ([112, 49] : List UInt8) 0 false W0 HS0.out hid (by omega))
  go_wp2_with fail
  refine HC.out.mono ?_
  clear HC
  rintro ee W1 ⟨rfl, hg, l1, d1, o1, hs, st⟩
  have HX1 := Lib.hid (grown_block hg HX0.out hxg)
  have HG1 := Lib.hid (grownBy_trans HG0.out hg)
  have HS1 := Lib.hid hs
  have HT1 := Lib.hid st
  have hz1 := st.1
  have hy1 := st.2.1
  clear hg hs st q0 q1 q2 q3 q4 q5 q6 q7 q8 q9 q10 q11 q12 q13 q14
  have q0 := heap_cell HX1.out 0
  have q1 := heap_cell HX1.out 1
  have q2 := heap_cell HX1.out 2
  have q3 := heap_cell HX1.out 3
  have q4 := heap_cell HX1.out 4
  have q5 := heap_cell HX1.out 5
  have q6 := heap_cell HX1.out 6
  have q7 := heap_cell HX1.out 7
  have q8 := heap_cell HX1.out 8
  have q9 := heap_cell HX1.out 9
  have q10 := heap_cell HX1.out 10
  have q11 := heap_cell HX1.out 11
  have q12 := heap_cell HX1.out 12
  have q13 := heap_cell HX1.out 13
  have q14 := heap_cell HX1.out 14
  simp at q0 q1 q2 q3 q4 q5 q6 q7 q8 q9 q10 q11 q12 q13 q14
  have HC := Lib.hid (wint_any g er l1 d1 o1 W1 HS1.out her (by omega))
  go_wp2_with fail
  refine HC.out.mono ?_
  clear HC
  rintro ee W2 ⟨rfl, hg, l2, d2, o2, hs, st⟩
  have HX2 := Lib.hid (grown_block hg HX1.out hxg)
  have HG2 := Lib.hid (grownBy_trans HG1.out hg)
  have HS2 := Lib.hid hs
  have HT2 := Lib.hid st
  have hz2 := st.1
  have hy2 := st.2.1
  clear hg hs st q0 q1 q2 q3 q4 q5 q6 q7 q8 q9 q10 q11 q12 q13 q14
  have q0 := heap_cell HX2.out 0
  have q1 := heap_cell HX2.out 1
  have q2 := heap_cell HX2.out 2
  have q3 := heap_cell HX2.out 3
  have q4 := heap_cell HX2.out 4
  have q5 := heap_cell HX2.out 5
  have q6 := heap_cell HX2.out 6
  have q7 := heap_cell HX2.out 7
  have q8 := heap_cell HX2.out 8
  have q9 := heap_cell HX2.out 9
  have q10 := heap_cell HX2.out 10
  have q11 := heap_cell HX2.out 11
  have q12 := heap_cell HX2.out 12
  have q13 := heap_cell HX2.out 13
  have q14 := heap_cell HX2.out 14
  simp at q0 q1 q2 q3 q4 q5 q6 q7 q8 q9 q10 q11 q12 q13 q14
  have HC := Lib.hid (wnum_any g rv l2 d2 o2 W2 HS2.out hrv (by omega))
  go_wp2_with fail
  refine HC.out.mono ?_
  clear HC
  rintro ee W3 ⟨rfl, hg, l3, d3, o3, hs, st⟩
  have HX3 := Lib.hid (grown_block hg HX2.out hxg)
  have HG3 := Lib.hid (grownBy_trans HG2.out hg)
  have HS3 := Lib.hid hs
  have HT3 := Lib.hid st
  have hz3 := st.1
  have hy3 := st.2.1
  clear hg hs st q0 q1 q2 q3 q4 q5 q6 q7 q8 q9 q10 q11 q12 q13 q14
  have q0 := heap_cell HX3.out 0
  have q1 := heap_cell HX3.out 1
  have q2 := heap_cell HX3.out 2
  have q3 := heap_cell HX3.out 3
  have q4 := heap_cell HX3.out 4
  have q5 := heap_cell HX3.out 5
  have q6 := heap_cell HX3.out 6
  have q7 := heap_cell HX3.out 7
  have q8 := heap_cell HX3.out 8
  have q9 := heap_cell HX3.out 9
  have q10 := heap_cell HX3.out 10
  have q11 := heap_cell HX3.out 11
  have q12 := heap_cell HX3.out 12
  have q13 := heap_cell HX3.out 13
  have q14 := heap_cell HX3.out 14
  simp at q0 q1 q2 q3 q4 q5 q6 q7 q8 q9 q10 q11 q12 q13 q14
  have HC := Lib.hid (wtxt_any g tk l3 d3 o3 W3 HS3.out (by omega))
  go_wp2_with fail
  refine HC.out.mono ?_
  clear HC
  rintro ee W4 ⟨rfl, hg, l4, d4, o4, hs, st⟩
  have HX4 := Lib.hid (grown_block hg HX3.out hxg)
  have HG4 := Lib.hid (grownBy_trans HG3.out hg)
  have HS4 := Lib.hid hs
  have HT4 := Lib.hid st
  have hz4 := st.1
  have hy4 := st.2.1
  clear hg hs st q0 q1 q2 q3 q4 q5 q6 q7 q8 q9 q10 q11 q12 q13 q14
  have q0 := heap_cell HX4.out 0
  have q1 := heap_cell HX4.out 1
  have q2 := heap_cell HX4.out 2
  have q3 := heap_cell HX4.out 3
  have q4 := heap_cell HX4.out 4
  have q5 := heap_cell HX4.out 5
  have q6 := heap_cell HX4.out 6
  have q7 := heap_cell HX4.out 7
  have q8 := heap_cell HX4.out 8
  have q9 := heap_cell HX4.out 9
  have q10 := heap_cell HX4.out 10
  have q11 := heap_cell HX4.out 11
  have q12 := heap_cell HX4.out 12
  have q13 := heap_cell HX4.out 13
  have q14 := heap_cell HX4.out 14
  simp at q0 q1 q2 q3 q4 q5 q6 q7 q8 q9 q10 q11 q12 q13 q14
  have HC := Lib.hid (lbool_any g fa fc fs l4 d4 o4 W4 HS4.out ((Hfs.out.below HB0.out).grown (els_ne Hfs.out hWg) HG4.out) (els_ne Hfs.out hWg) (by omega) (by omega))
  go_wp2_with fail
  refine HC.out.mono ?_
  clear HC
  rintro ee W5 ⟨rfl, hg, l5, d5, o5, hs, st⟩
  have HX5 := Lib.hid (grown_block hg HX4.out hxg)
  have HG5 := Lib.hid (grownBy_trans HG4.out hg)
  have HS5 := Lib.hid hs
  have HT5 := Lib.hid st
  have hz5 := st.1
  have hy5 := st.2.1
  clear hg hs st q0 q1 q2 q3 q4 q5 q6 q7 q8 q9 q10 q11 q12 q13 q14
  have q0 := heap_cell HX5.out 0
  have q1 := heap_cell HX5.out 1
  have q2 := heap_cell HX5.out 2
  have q3 := heap_cell HX5.out 3
  have q4 := heap_cell HX5.out 4
  have q5 := heap_cell HX5.out 5
  have q6 := heap_cell HX5.out 6
  have q7 := heap_cell HX5.out 7
  have q8 := heap_cell HX5.out 8
  have q9 := heap_cell HX5.out 9
  have q10 := heap_cell HX5.out 10
  have q11 := heap_cell HX5.out 11
  have q12 := heap_cell HX5.out 12
  have q13 := heap_cell HX5.out 13
  have q14 := heap_cell HX5.out 14
  simp at q0 q1 q2 q3 q4 q5 q6 q7 q8 q9 q10 q11 q12 q13 q14
  have HC := Lib.hid (ltuple_any g ta tc ts l5 d5 o5 W5 HS5.out ((Hts.out.below HB0.out).grown (els_ne Hts.out hWg) HG5.out) (els_ne Hts.out hWg) (by omega) (by omega))
  go_wp2_with fail
  refine HC.out.mono ?_
  clear HC
  rintro ee W6 ⟨rfl, hg, l6, d6, o6, hs, st⟩
  have HX6 := Lib.hid (grown_block hg HX5.out hxg)
  have HG6 := Lib.hid (grownBy_trans HG5.out hg)
  have HS6 := Lib.hid hs
  have HT6 := Lib.hid st
  have hz6 := st.1
  have hy6 := st.2.1
  clear hg hs st q0 q1 q2 q3 q4 q5 q6 q7 q8 q9 q10 q11 q12 q13 q14
  have q0 := heap_cell HX6.out 0
  have q1 := heap_cell HX6.out 1
  have q2 := heap_cell HX6.out 2
  have q3 := heap_cell HX6.out 3
  have q4 := heap_cell HX6.out 4
  have q5 := heap_cell HX6.out 5
  have q6 := heap_cell HX6.out 6
  have q7 := heap_cell HX6.out 7
  have q8 := heap_cell HX6.out 8
  have q9 := heap_cell HX6.out 9
  have q10 := heap_cell HX6.out 10
  have q11 := heap_cell HX6.out 11
  have q12 := heap_cell HX6.out 12
  have q13 := heap_cell HX6.out 13
  have q14 := heap_cell HX6.out 14
  simp at q0 q1 q2 q3 q4 q5 q6 q7 q8 q9 q10 q11 q12 q13 q14
  have HC := Lib.hid (lobj_any g oa oc os l6 d6 o6 W6 HS6.out ((Hos.out.below HB0.out).grown (els_ne Hos.out hWg) HG6.out) (els_ne Hos.out hWg) (by omega) (by omega))
  go_wp2_with fail
  refine HC.out.mono ?_
  clear HC
  rintro ee W7 ⟨rfl, hg, l7, d7, o7, hs, st⟩
  have HX7 := Lib.hid (grown_block hg HX6.out hxg)
  have HG7 := Lib.hid (grownBy_trans HG6.out hg)
  have HS7 := Lib.hid hs
  have HT7 := Lib.hid st
  have hz7 := st.1
  have hy7 := st.2.1
  clear hg hs st q0 q1 q2 q3 q4 q5 q6 q7 q8 q9 q10 q11 q12 q13 q14
  have q0 := heap_cell HX7.out 0
  have q1 := heap_cell HX7.out 1
  have q2 := heap_cell HX7.out 2
  have q3 := heap_cell HX7.out 3
  have q4 := heap_cell HX7.out 4
  have q5 := heap_cell HX7.out 5
  have q6 := heap_cell HX7.out 6
  have q7 := heap_cell HX7.out 7
  have q8 := heap_cell HX7.out 8
  have q9 := heap_cell HX7.out 9
  have q10 := heap_cell HX7.out 10
  have q11 := heap_cell HX7.out 11
  have q12 := heap_cell HX7.out 12
  have q13 := heap_cell HX7.out 13
  have q14 := heap_cell HX7.out 14
  simp at q0 q1 q2 q3 q4 q5 q6 q7 q8 q9 q10 q11 q12 q13 q14
  have HC := Lib.hid (levent_any g ea ec es l7 d7 o7 W7 HS7.out ((Hes.out.below HB0.out).grown (els_ne Hes.out hWg) HG7.out) (els_ne Hes.out hWg) Hek.out (by omega) (by omega))
  go_wp2_with fail
  refine HC.out.mono ?_
  clear HC
  rintro ee W8 ⟨rfl, hg, l8, d8, o8, hs, st⟩
  have HX8 := Lib.hid (grown_block hg HX7.out hxg)
  have HG8 := Lib.hid (grownBy_trans HG7.out hg)
  have HS8 := Lib.hid hs
  have HT8 := Lib.hid st
  have hz8 := st.1
  have hy8 := st.2.1
  clear hg hs st q0 q1 q2 q3 q4 q5 q6 q7 q8 q9 q10 q11 q12 q13 q14
  have q0 := heap_cell HX8.out 0
  have q1 := heap_cell HX8.out 1
  have q2 := heap_cell HX8.out 2
  have q3 := heap_cell HX8.out 3
  have q4 := heap_cell HX8.out 4
  have q5 := heap_cell HX8.out 5
  have q6 := heap_cell HX8.out 6
  have q7 := heap_cell HX8.out 7
  have q8 := heap_cell HX8.out 8
  have q9 := heap_cell HX8.out 9
  have q10 := heap_cell HX8.out 10
  have q11 := heap_cell HX8.out 11
  have q12 := heap_cell HX8.out 12
  have q13 := heap_cell HX8.out 13
  have q14 := heap_cell HX8.out 14
  simp at q0 q1 q2 q3 q4 q5 q6 q7 q8 q9 q10 q11 q12 q13 q14
  have HC := Lib.hid (lsteps_ok g n sa sc ss l8 d8 o8 W8 HS8.out ((Hss.out.below HB0.out).grown (els_ne Hss.out hWg) HG8.out) (els_ne Hss.out hWg) (((Hsm.out.stays (Stays.below HB0.out)).weak (fun b (hb : b < W.heap.size) => (by omega : b ≠ g))).stays (Stays.grown HG8.out)) Hso.out (by omega) (by omega))
  go_wp2_with fail
  refine HC.out.mono ?_
  clear HC
  rintro ee W9 ⟨rfl, hg, l9, d9, o9, hs, st⟩
  have HX9 := Lib.hid (grown_block hg HX8.out hxg)
  have HG9 := Lib.hid (grownBy_trans HG8.out hg)
  have HS9 := Lib.hid hs
  have HT9 := Lib.hid st
  have hz9 := st.1
  have hy9 := st.2.1
  clear hg hs st q0 q1 q2 q3 q4 q5 q6 q7 q8 q9 q10 q11 q12 q13 q14
  have q0 := heap_cell HX9.out 0
  have q1 := heap_cell HX9.out 1
  have q2 := heap_cell HX9.out 2
  have q3 := heap_cell HX9.out 3
  have q4 := heap_cell HX9.out 4
  have q5 := heap_cell HX9.out 5
  have q6 := heap_cell HX9.out 6
  have q7 := heap_cell HX9.out 7
  have q8 := heap_cell HX9.out 8
  have q9 := heap_cell HX9.out 9
  have q10 := heap_cell HX9.out 10
  have q11 := heap_cell HX9.out 11
  have q12 := heap_cell HX9.out 12
  have q13 := heap_cell HX9.out 13
  have q14 := heap_cell HX9.out 14
  simp at q0 q1 q2 q3 q4 q5 q6 q7 q8 q9 q10 q11 q12 q13 q14
  have HC := Lib.hid (wnode_any g nk nt ni nr nsa nsc nss na nc nps l9 d9 o9 W9 HS9.out ((okN_eq _ _ _ _ _).1 Hno.out).1 (by omega) (by omega) ((Hns.out.below HB0.out).grown (els_ne Hns.out hWg) HG9.out) (els_ne Hns.out hWg) (by omega) (nlist_ok g n _ na nc nps (((Hnm.out.stays (Stays.below HB0.out)).weak (fun b (hb : b < W.heap.size) => (by omega : b ≠ g))).stays (Stays.grown HG9.out)) ((okN_eq _ _ _ _ _).1 Hno.out).2.2.2.2.2))
  go_wp2_with fail
  refine HC.out.mono ?_
  clear HC
  rintro ee W10 ⟨rfl, hg, l10, d10, o10, hs, st⟩
  have HX10 := Lib.hid (grown_block hg HX9.out hxg)
  have HG10 := Lib.hid (grownBy_trans HG9.out hg)
  have HS10 := Lib.hid hs
  have HT10 := Lib.hid st
  have hz10 := st.1
  have hy10 := st.2.1
  clear hg hs st q0 q1 q2 q3 q4 q5 q6 q7 q8 q9 q10 q11 q12 q13 q14
  have HC := Lib.hid (wdone_any g l10 d10 o10 W10 HS10.out)
  go_wp2_with fail
  refine HC.out.mono ?_
  clear HC
  rintro ee We ⟨rfl, hodd, hev⟩
  have HFin : Hid (∀ ee, (o10 = true → ee = .returned (.tuple #[.slice none 0 0, .int .i64 10])) → (o10 = false → ∃ a c, ee = .returned (.tuple #[.slice a l10.length c, .int .i64 0]) ∧ l10.length ≤ c ∧ IsBytes We a l10) → PutDoes ([112, 49] ++ (respE (id, er, rv, tk, fs, ts, os, es, ss.map SE.plain, .mk nk (nt, ni) nr nss nps))) ((∃ x ∈ ss, seB x 0) ∨ badN (.mk nk (nt, ni) nr nss nps) 0) W ee We) := fun ee q1 q2 => put_end (bad := fun d => (∃ x ∈ ss, seB x d) ∨ badN (.mk nk (nt, ni) nr nss nps) d) ((HT1.out.trans (HT2.out.trans (HT3.out.trans (HT4.out.trans (HT5.out.trans (HT6.out.trans (HT7.out.trans (HT8.out.trans (HT9.out.trans HT10.out))))))))).to (by simp only [reqE, triE, respE, ← seE_list, List.append_assoc]) (fun d => by simp)) (HB0.out.trans (below_grown HG10.out hWg hWs)) q1 q2
  cases o10 with
  | true =>
    rw [hodd rfl]
    have HF := Lib.hid (HFin.out _ (fun _ => rfl) (fun h => by cases h))
    clear HFin hodd hev
    go_wp2_with fail
    go_ret2
    exact HF.out
  | false =>
    obtain ⟨ra, rc, hee, hrc, hrb⟩ := hev rfl
    rw [hee]
    have HF := Lib.hid (HFin.out _ (fun h => by cases h) (fun _ => ⟨ra, rc, rfl, hrc, hrb⟩))
    clear hee hrc hrb
    clear HFin hodd hev
    go_wp2_with fail
    go_ret2
    exact HF.out
end Go.Proofs.YtacjbgmnoiimbabGreat
