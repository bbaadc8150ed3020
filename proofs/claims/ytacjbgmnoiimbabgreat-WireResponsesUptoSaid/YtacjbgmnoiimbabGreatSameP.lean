/- Equal responses are told equal: walked (printed by genGreatSameP.py). -/
import Derived.Test.YtacjbgmnoiimbabGreatSameR
namespace Go.Proofs.YtacjbgmnoiimbabGreat
set_option linter.unusedVariables false
set_option linter.unusedSimpArgs false
open Go.RowKit

set_option maxRecDepth 100000 in
set_option maxHeartbeats 16000000 in
theorem samep_any (n m : Nat) (S T : Nat → Prop) (id : Nat) (er : Int) (rv : Nat) (tk : ByteArray) (fxa : Option Addr) (fxc : Nat) (fya : Option Addr) (fyc : Nat) (fs : List Bool) (txa : Option Addr) (txc : Nat) (tya : Option Addr) (tyc : Nat) (ts : List Six) (oxa : Option Addr) (oxc : Nat) (oya : Option Addr) (oyc : Nat) (os : List Duo) (exa : Option Addr) (exc : Nat) (eya : Option Addr) (eyc : Nat) (es : List Evt) (sxa : Option Addr) (sxc : Nat) (sya : Option Addr) (syc : Nat) (ss tt : List SE) (nk : Int) (nt ni nr : ByteArray) (nsxa : Option Addr) (nsxc : Nat) (nsya : Option Addr) (nsyc : Nat) (nss : List Tri) (nxa : Option Addr) (nxc : Nat) (nya : Option Addr) (nyc : Nat) (nps : List PN) (W : World) (hf1 : IsEls boolC 1 W fxa fs) (hf2 : IsEls boolC 1 W fya fs) (ht1 : IsEls sixC 6 W txa ts) (ht2 : IsEls sixC 6 W tya ts) (ho1 : IsEls duoC 2 W oxa os) (ho2 : IsEls duoC 2 W oya os) (he1 : IsEls evtC 8 W exa es) (he2 : IsEls evtC 8 W eya es)
    (hs1 : IsEls seC 11 W sxa ss) (hs2 : IsEls seC 11 W sya tt) (hm1 : ∀ x ∈ ss, semem n S W x) (hm2 : ∀ x ∈ tt, semem m T W x) (hpl : ss.map SE.plain = tt.map SE.plain) (hn1 : nemem n S W ⟨nk, nt, ni, nr, nsxa, nsxc, nss, nxa, nxc, nps⟩) (hn2 : nemem m T W ⟨nk, nt, ni, nr, nsya, nsyc, nss, nya, nyc, nps⟩)
    (hlf : fs.length ≤ 1000000000) (hlt : ts.length ≤ 1000000000) (hlo : os.length ≤ 1000000000) (hle : es.length ≤ 1000000000) (hls : ss.length ≤ 1000000000) (hlr : ∀ x ∈ ss, (encR x.r.plain).length ≤ 1000000000 ∧ x.bs.length ≤ 1000000000) (hln : (encN (NE.plain ⟨nk, nt, ni, nr, nsxa, nsxc, nss, nxa, nxc, nps⟩)).length ≤ 1000000000) :
    Calls Tryz.prog 10 #[.agg #[.int .u64 (id : Int), .int .i64 er, .int .u64 (rv : Int), .string tk, .slice fxa fs.length fxc, .slice txa ts.length txc, .slice oxa os.length oxc, .slice exa es.length exc, .slice sxa ss.length sxc, .int .i64 nk, .string nt, .string ni, .string nr, .slice nsxa nss.length nsxc, .slice nxa nps.length nxc], .agg #[.int .u64 (id : Int), .int .i64 er, .int .u64 (rv : Int), .string tk, .slice fya fs.length fyc, .slice tya ts.length tyc, .slice oya os.length oyc, .slice eya es.length eyc, .slice sya tt.length syc, .int .i64 nk, .string nt, .string ni, .string nr, .slice nsya nss.length nsyc, .slice nya nps.length nyc]] W (TrueIs W) := by
  have htt : tt.length = ss.length := by
    have := congrArg List.length hpl
    rw [List.length_map, List.length_map] at this
    exact this.symm
  rw [htt]
  have HB0 := Lib.hid (((Below.refl W.heap.size W).alloc (Nat.le_refl _) (.cells #[.int .u64 (id : Int), .int .i64 er, .int .u64 (rv : Int), .string tk, .slice fxa fs.length fxc, .slice txa ts.length txc, .slice oxa os.length oxc, .slice exa es.length exc, .slice sxa ss.length sxc, .int .i64 nk, .string nt, .string ni, .string nr, .slice nsxa nss.length nsxc, .slice nxa nps.length nxc] 36)).alloc (by simp) (.cells #[.int .u64 (id : Int), .int .i64 er, .int .u64 (rv : Int), .string tk, .slice fya fs.length fyc, .slice tya ts.length tyc, .slice oya os.length oyc, .slice eya es.length eyc, .slice sya ss.length syc, .int .i64 nk, .string nt, .string ni, .string nr, .slice nsya nss.length nsyc, .slice nya nps.length nyc] 36))
  have htw := two_new W (.cells #[.int .u64 (id : Int), .int .i64 er, .int .u64 (rv : Int), .string tk, .slice fxa fs.length fxc, .slice txa ts.length txc, .slice oxa os.length oxc, .slice exa es.length exc, .slice sxa ss.length sxc, .int .i64 nk, .string nt, .string ni, .string nr, .slice nsxa nss.length nsxc, .slice nxa nps.length nxc] 36) (.cells #[.int .u64 (id : Int), .int .i64 er, .int .u64 (rv : Int), .string tk, .slice fya fs.length fyc, .slice tya ts.length tyc, .slice oya os.length oyc, .slice eya es.length eyc, .slice sya ss.length syc, .int .i64 nk, .string nt, .string ni, .string nr, .slice nsya nss.length nsyc, .slice nya nps.length nyc] 36)
  have HX0 := Lib.hid htw.1
  have HY0 := Lib.hid htw.2
  have Hf1 := Lib.hid hf1
  have Hf2 := Lib.hid hf2
  have Ht1 := Lib.hid ht1
  have Ht2 := Lib.hid ht2
  have Ho1 := Lib.hid ho1
  have Ho2 := Lib.hid ho2
  have He1 := Lib.hid he1
  have He2 := Lib.hid he2
  have Hs1 := Lib.hid hs1
  have Hs2 := Lib.hid hs2
  have Hm1 := Lib.hid hm1
  have Hm2 := Lib.hid hm2
  have Hpl := Lib.hid hpl
  have Hn1 := Lib.hid hn1
  have Hn2 := Lib.hid hn2
  have Hlr := Lib.hid hlr
  have Hln := Lib.hid hln
  have HTt := Lib.hid htt
  clear htt htw hf1 hf2 ht1 ht2 ho1 ho2 he1 he2 hs1 hs2 hm1 hm2 hpl hn1 hn2 hlr hln
  have hAA := bs_ne tk
  have hkk : (er != er) = false := by simp
  have hii : ((id : Int) != (id : Int)) = false := by simp
  have hrr : ((rv : Int) != (rv : Int)) = false := by simp
  have hnn : ((ss.length : Int) != (ss.length : Int)) = false := by simp
  go_enter Tryz.func10, Tryz.ntmps10
  go_upto_region 1 with (fail)
  generalize ((W.alloc (.cells #[.int .u64 (id : Int), .int .i64 er, .int .u64 (rv : Int), .string tk, .slice fxa fs.length fxc, .slice txa ts.length txc, .slice oxa os.length oxc, .slice exa es.length exc, .slice sxa ss.length sxc, .int .i64 nk, .string nt, .string ni, .string nr, .slice nsxa nss.length nsxc, .slice nxa nps.length nxc] 36)).alloc (.cells #[.int .u64 (id : Int), .int .i64 er, .int .u64 (rv : Int), .string tk, .slice fya fs.length fyc, .slice tya ts.length tyc, .slice oya os.length oyc, .slice eya es.length eyc, .slice sya ss.length syc, .int .i64 nk, .string nt, .string ni, .string nr, .slice nsya nss.length nsyc, .slice nya nps.length nyc] 36)) = W0 at *
  obtain ⟨x, hx⟩ : ∃ x, x = W.heap.size := ⟨_, rfl⟩
  rw [← hx] at HX0 HY0
  rw [← hx]
  have HXx := Lib.hid hx
  clear hx
  have q0 := heap_cell HX0.out 0
  have r0 := heap_cell HY0.out 0
  have q1 := heap_cell HX0.out 1
  have r1 := heap_cell HY0.out 1
  have q2 := heap_cell HX0.out 2
  have r2 := heap_cell HY0.out 2
  have q3 := heap_cell HX0.out 3
  have r3 := heap_cell HY0.out 3
  have q4 := heap_cell HX0.out 4
  have r4 := heap_cell HY0.out 4
  have q5 := heap_cell HX0.out 5
  have r5 := heap_cell HY0.out 5
  have q6 := heap_cell HX0.out 6
  have r6 := heap_cell HY0.out 6
  have q7 := heap_cell HX0.out 7
  have r7 := heap_cell HY0.out 7
  have q8 := heap_cell HX0.out 8
  have r8 := heap_cell HY0.out 8
  simp at q0 r0 q1 r1 q2 r2 q3 r3 q4 r4 q5 r5 q6 r6 q7 r7 q8 r8
  go_wp2_with fail
  clear q0 r0 q1 r1 q2 r2 q3 r3 q4 r4 q5 r5 q6 r6 q7 r7 q8 r8
  refine (samebool_any fxa fya fxc fyc fs _ hlf (Hf1.out.below HB0.out) (Hf2.out.below HB0.out)).mono ?_
  rintro ee W1 ⟨rfl, hb1⟩
  have HB1 := Lib.hid (HB0.out.trans (hb1.mono HB0.out.size))
  have HX1 := Lib.hid ((hb1.block _ (heap_lt HX0.out)).trans HX0.out)
  have HY1 := Lib.hid ((hb1.block _ (heap_lt HY0.out)).trans HY0.out)
  clear hb1 HX0 HY0
  have q5 := heap_cell HX1.out 5
  have r5 := heap_cell HY1.out 5
  have q6 := heap_cell HX1.out 6
  have r6 := heap_cell HY1.out 6
  have q7 := heap_cell HX1.out 7
  have r7 := heap_cell HY1.out 7
  have q8 := heap_cell HX1.out 8
  have r8 := heap_cell HY1.out 8
  simp at q5 r5 q6 r6 q7 r7 q8 r8
  go_wp2_with fail
  clear q5 r5 q6 r6 q7 r7 q8 r8
  refine (sametup_any txa tya txc tyc ts _ hlt (Ht1.out.below HB1.out) (Ht2.out.below HB1.out)).mono ?_
  rintro ee W2 ⟨rfl, hb2⟩
  have HB2 := Lib.hid (HB1.out.trans (hb2.mono HB1.out.size))
  have HX2 := Lib.hid ((hb2.block _ (heap_lt HX1.out)).trans HX1.out)
  have HY2 := Lib.hid ((hb2.block _ (heap_lt HY1.out)).trans HY1.out)
  clear hb2 HX1 HY1
  have q6 := heap_cell HX2.out 6
  have r6 := heap_cell HY2.out 6
  have q7 := heap_cell HX2.out 7
  have r7 := heap_cell HY2.out 7
  have q8 := heap_cell HX2.out 8
  have r8 := heap_cell HY2.out 8
  simp at q6 r6 q7 r7 q8 r8
  go_wp2_with fail
  clear q6 r6 q7 r7 q8 r8
  refine (sameobj_any oxa oya oxc oyc os _ hlo (Ho1.out.below HB2.out) (Ho2.out.below HB2.out)).mono ?_
  rintro ee W3 ⟨rfl, hb3⟩
  have HB3 := Lib.hid (HB2.out.trans (hb3.mono HB2.out.size))
  have HX3 := Lib.hid ((hb3.block _ (heap_lt HX2.out)).trans HX2.out)
  have HY3 := Lib.hid ((hb3.block _ (heap_lt HY2.out)).trans HY2.out)
  clear hb3 HX2 HY2
  have q7 := heap_cell HX3.out 7
  have r7 := heap_cell HY3.out 7
  have q8 := heap_cell HX3.out 8
  have r8 := heap_cell HY3.out 8
  simp at q7 r7 q8 r8
  go_wp2_with fail
  clear q7 r7 q8 r8
  refine (sameevt_any exa eya exc eyc es _ hle (He1.out.below HB3.out) (He2.out.below HB3.out)).mono ?_
  rintro ee W4 ⟨rfl, hb4⟩
  have HB4 := Lib.hid (HB3.out.trans (hb4.mono HB3.out.size))
  have HX4 := Lib.hid ((hb4.block _ (heap_lt HX3.out)).trans HX3.out)
  have HY4 := Lib.hid ((hb4.block _ (heap_lt HY3.out)).trans HY3.out)
  clear hb4 HX3 HY3
  have q8 := heap_cell HX4.out 8
  have r8 := heap_cell HY4.out 8
  have q9 := heap_cell HX4.out 9
  have r9 := heap_cell HY4.out 9
  have q10 := heap_cell HX4.out 10
  have r10 := heap_cell HY4.out 10
  have q11 := heap_cell HX4.out 11
  have r11 := heap_cell HY4.out 11
  have q12 := heap_cell HX4.out 12
  have r12 := heap_cell HY4.out 12
  have q13 := heap_cell HX4.out 13
  have r13 := heap_cell HY4.out 13
  have q14 := heap_cell HX4.out 14
  have r14 := heap_cell HY4.out 14
  simp at q8 r8 q9 r9 q10 r10 q11 r11 q12 r12 q13 r13 q14 r14
  go_wp2_with fail
  clear q8 r8 q9 r9 q10 r10 q11 r11 q12 r12 q13 r13 q14 r14
  refine (samenode_any n m S T _ ⟨nk, nt, ni, nr, nsxa, nsxc, nss, nxa, nxc, nps⟩ ⟨nk, nt, ni, nr, nsya, nsyc, nss, nya, nyc, nps⟩ (Hn1.out.2.2.2.2.stays (Stays.below HB4.out)) (Hn2.out.2.2.2.2.stays (Stays.below HB4.out)) rfl Hln.out (Hn1.out.2.2.1.below HB4.out) (Hn2.out.2.2.1.below HB4.out)).mono ?_
  rintro ee W5 ⟨rfl, hb5⟩
  have HB5 := Lib.hid (HB4.out.trans (hb5.mono HB4.out.size))
  have HX5 := Lib.hid ((hb5.block _ (heap_lt HX4.out)).trans HX4.out)
  have HY5 := Lib.hid ((hb5.block _ (heap_lt HY4.out)).trans HY4.out)
  clear hb5 HX4 HY4
  clear hAA hkk hii hrr hnn
  have q8 := heap_cell HX5.out 8
  have r8 := heap_cell HY5.out 8
  simp at q8 r8
  go_wp2_with fail
  clear q8 r8
  go_loopw [87] (fun iv wr => ∃ j : Nat, iv = .int .i64 j ∧ j ≤ ss.length ∧ Hid (Below W.heap.size W wr ∧ wr.heap[x]? = some (.cells #[.int .u64 (id : Int), .int .i64 er, .int .u64 (rv : Int), .string tk, .slice fxa fs.length fxc, .slice txa ts.length txc, .slice oxa os.length oxc, .slice exa es.length exc, .slice sxa ss.length sxc, .int .i64 nk, .string nt, .string ni, .string nr, .slice nsxa nss.length nsxc, .slice nxa nps.length nxc] 36 (0, 0)) ∧ wr.heap[x + 1]? = some (.cells #[.int .u64 (id : Int), .int .i64 er, .int .u64 (rv : Int), .string tk, .slice fya fs.length fyc, .slice tya ts.length tyc, .slice oya os.length oyc, .slice eya es.length eyc, .slice sya ss.length syc, .int .i64 nk, .string nt, .string ni, .string nr, .slice nsya nss.length nsyc, .slice nya nps.length nyc] 36 (0, 0)))) (fun iv _ => ss.length - (intOf iv).toNat)
  case atStart => exact ⟨0, rfl, Nat.zero_le _, HB5.out, HX5.out, HY5.out⟩
  case round =>
    clear HB0 HB1 HB2 HB3 HB4 HB5 HX5 HY5
    obtain ⟨j, rfl, hj, hst⟩ := hrel
    obtain ⟨hbel, hbx, hby⟩ := hst.out
    have HBl := Lib.hid hbel
    have HXl := Lib.hid hbx
    have HYl := Lib.hid hby
    clear hst hbx hby
    by_cases hjl : j < ss.length
    · have dj : decide ((j : Int) < (ss.length : Int)) = true := decide_eq_true (by omega)
      have dj2 : decide (j < ss.length) = true := decide_eq_true (by omega)
      have hij : (j : Int) < (ss.length : Int) := by omega
      have hjx := hjl
      have hjy : j < tt.length := by rw [HTt.out]; exact hjl
      obtain ⟨b, off, rfl, hb, hc⟩ := (Hs1.out.below hbel) (by omega)
      obtain ⟨b2, off2, rfl, hb2, hc2⟩ := (Hs2.out.below hbel) (by omega)
      have cx0 := hc j hjx 0 (by omega)
      have ce0 := hc2 j hjy 0 (by omega)
      have cx1 := hc j hjx 1 (by omega)
      have ce1 := hc2 j hjy 1 (by omega)
      have cx2 := hc j hjx 2 (by omega)
      have ce2 := hc2 j hjy 2 (by omega)
      have cx3 := hc j hjx 3 (by omega)
      have ce3 := hc2 j hjy 3 (by omega)
      have cx4 := hc j hjx 4 (by omega)
      have ce4 := hc2 j hjy 4 (by omega)
      have cx5 := hc j hjx 5 (by omega)
      have ce5 := hc2 j hjy 5 (by omega)
      have cx6 := hc j hjx 6 (by omega)
      have ce6 := hc2 j hjy 6 (by omega)
      have cx7 := hc j hjx 7 (by omega)
      have ce7 := hc2 j hjy 7 (by omega)
      have cx8 := hc j hjx 8 (by omega)
      have ce8 := hc2 j hjy 8 (by omega)
      have cx9 := hc j hjx 9 (by omega)
      have ce9 := hc2 j hjy 9 (by omega)
      have cx10 := hc j hjx 10 (by omega)
      have ce10 := hc2 j hjy 10 (by omega)
      have hpe : (ss.getD j default).plain = (tt.getD j default).plain := by
        have := congrArg (fun l => l[j]?) Hpl.out
        simp only [List.getElem?_map, List.getElem?_eq_getElem hjx, List.getElem?_eq_getElem hjy, Option.map_some, Option.some.injEq] at this
        rw [List.getD_eq_getElem?_getD, List.getElem?_eq_getElem hjx, List.getD_eq_getElem?_getD, List.getElem?_eq_getElem hjy]
        exact this
      have hmx := Hm1.out _ (getD_mem hjx)
      have hmy := Hm2.out _ (getD_mem hjy)
      have hlx := Hlr.out _ (getD_mem hjx)
      clear hc hc2 hjx hjy
      generalize ss.getD j default = y at *
      generalize tt.getD j default = z at *
      obtain ⟨⟨ya, yb, yc⟩, ⟨yk, yA, yB, yra, yrc, yps⟩, ⟨yd, ye, yf⟩, yba, ybc, ybs⟩ := y
      obtain ⟨⟨za, zb, zc⟩, ⟨zk, zA, zB, zra, zrc, zps⟩, ⟨zd, ze, zf⟩, zba, zbc, zbs⟩ := z
      simp only [SE.plain, RE.plain, Prod.mk.injEq, PR.mk.injEq] at hpe
      obtain ⟨⟨rfl, rfl, rfl⟩, ⟨rfl, rfl, rfl, rfl⟩, ⟨rfl, rfl, rfl⟩, rfl⟩ := hpe
      simp [seC] at cx0 ce0 cx1 ce1 cx2 ce2 cx3 ce3 cx4 ce4 cx5 ce5 cx6 ce6 cx7 ce7 cx8 ce8 cx9 ce9 cx10 ce10
      have HMx := Lib.hid hmx
      have HMy := Lib.hid hmy
      have HLx := Lib.hid hlx
      clear hmx hmy hlx
      have hbs : ybs.length ≤ 1000000000 := HLx.out.2
      have hYs := (Below.refl wr.heap.size wr).alloc (Nat.le_refl _) (.cells #[.string ya, .string yb, .string yc, .int .i64 yk, .string yA, .string yB, .slice yra yps.length yrc, .string yd, .string ye, .string yf, .slice yba ybs.length ybc] 74)
      have hZs := hYs.alloc hYs.size (.cells #[.string ya, .string yb, .string yc, .int .i64 yk, .string yA, .string yB, .slice zra yps.length zrc, .string yd, .string ye, .string yf, .slice zba ybs.length zbc] 74)
      have htw := two_new wr (.cells #[.string ya, .string yb, .string yc, .int .i64 yk, .string yA, .string yB, .slice yra yps.length yrc, .string yd, .string ye, .string yf, .slice yba ybs.length ybc] 74) (.cells #[.string ya, .string yb, .string yc, .int .i64 yk, .string yA, .string yB, .slice zra yps.length zrc, .string yd, .string ye, .string yf, .slice zba ybs.length zbc] 74)
      have HYY := Lib.hid htw.1
      have HZZ := Lib.hid htw.2
      have HBa := Lib.hid (HBl.out.trans (hZs.mono HBl.out.size))
      have HXa := Lib.hid ((hZs.block _ (heap_lt HXl.out)).trans HXl.out)
      have HYa := Lib.hid ((hZs.block _ (heap_lt HYl.out)).trans HYl.out)
      have qx := heap_cell HXl.out 8
      have qy := heap_cell HYl.out 8
      have hxlt := heap_lt HXl.out
      have hylt := heap_lt HYl.out
      have ceA : ∀ i, (wr.alloc (.cells #[.string ya, .string yb, .string yc, .int .i64 yk, .string yA, .string yB, .slice yra yps.length yrc, .string yd, .string ye, .string yf, .slice yba ybs.length ybc] 74)).cell? ⟨b2, off2 + j * 11 + i, none⟩ = wr.cell? ⟨b2, off2 + j * 11 + i, none⟩ := fun i => hYs.cell hb2
      have hyA : ∀ i, (wr.alloc (.cells #[.string ya, .string yb, .string yc, .int .i64 yk, .string yA, .string yB, .slice yra yps.length yrc, .string yd, .string ye, .string yf, .slice yba ybs.length ybc] 74)).cell? ⟨x + 1, i, none⟩ = wr.cell? ⟨x + 1, i, none⟩ := fun i => hYs.cell hylt
      simp at qx qy
      clear hYs hZs htw hbel
      go_upto_region 7 with (fail)
      generalize ((wr.alloc (.cells #[.string ya, .string yb, .string yc, .int .i64 yk, .string yA, .string yB, .slice yra yps.length yrc, .string yd, .string ye, .string yf, .slice yba ybs.length ybc] 74)).alloc (.cells #[.string ya, .string yb, .string yc, .int .i64 yk, .string yA, .string yB, .slice zra yps.length zrc, .string yd, .string ye, .string yf, .slice zba ybs.length zbc] 74)) = wa at *
      clear qx qy ceA hyA hxlt hylt cx0 ce0 cx1 ce1 cx2 ce2 cx3 ce3 cx4 ce4 cx5 ce5 cx6 ce6 cx7 ce7 cx8 ce8 cx9 ce9 cx10 ce10
      generalize wr.heap.size = u at *
      have k0 := heap_cell HYY.out 0
      have l0 := heap_cell HZZ.out 0
      have k1 := heap_cell HYY.out 1
      have l1 := heap_cell HZZ.out 1
      have k2 := heap_cell HYY.out 2
      have l2 := heap_cell HZZ.out 2
      have k3 := heap_cell HYY.out 3
      have l3 := heap_cell HZZ.out 3
      have k4 := heap_cell HYY.out 4
      have l4 := heap_cell HZZ.out 4
      have k5 := heap_cell HYY.out 5
      have l5 := heap_cell HZZ.out 5
      have k6 := heap_cell HYY.out 6
      have l6 := heap_cell HZZ.out 6
      have k7 := heap_cell HYY.out 7
      have l7 := heap_cell HZZ.out 7
      have k8 := heap_cell HYY.out 8
      have l8 := heap_cell HZZ.out 8
      have k9 := heap_cell HYY.out 9
      have l9 := heap_cell HZZ.out 9
      have k10 := heap_cell HYY.out 10
      have l10 := heap_cell HZZ.out 10
      simp at k0 l0 k1 l1 k2 l2 k3 l3 k4 l4 k5 l5 k6 l6 k7 l7 k8 l8 k9 l9 k10 l10
      have hcmp := fun W0 => neqPt ya yb yc W0
      have hcms := fun W0 => neqSub yd ye yf W0
      have hnn : ((ybs.length : Int) != (ybs.length : Int)) = false := by simp
      go_wp2_with fail
      clear k0 l0 k1 l1 k2 l2 k3 l3 k4 l4 k5 l5 k6 l6 k7 l7 k8 l8 k9 l9 k10 l10
      refine (samerule_any n m S T _ ⟨yk, yA, yB, yra, yrc, yps⟩ ⟨yk, yA, yB, zra, zrc, yps⟩ (HMx.out.1.2.stays (Stays.below HBa.out)) (HMy.out.1.2.stays (Stays.below HBa.out)) rfl HLx.out.1).mono ?_
      rintro ee W7 ⟨rfl, hb7⟩
      have HB7 := Lib.hid (HBa.out.trans (hb7.mono HBa.out.size))
      have HX7 := Lib.hid ((hb7.block _ (heap_lt HXa.out)).trans HXa.out)
      have HY7 := Lib.hid ((hb7.block _ (heap_lt HYa.out)).trans HYa.out)
      have HU7 := Lib.hid ((hb7.block _ (heap_lt HYY.out)).trans HYY.out)
      have HV7 := Lib.hid ((hb7.block _ (heap_lt HZZ.out)).trans HZZ.out)
      clear hb7 HBa HXa HYa HYY HZZ
      have k7 := heap_cell HU7.out 7
      have l7 := heap_cell HV7.out 7
      have k8 := heap_cell HU7.out 8
      have l8 := heap_cell HV7.out 8
      have k9 := heap_cell HU7.out 9
      have l9 := heap_cell HV7.out 9
      have k10 := heap_cell HU7.out 10
      have l10 := heap_cell HV7.out 10
      simp at k7 l7 k8 l8 k9 l9 k10 l10
      go_wp2_with fail
      clear hcmp hcms hnn k7 l7 k8 l8 k9 l9 k10 l10
      have k10 := heap_cell HU7.out 10
      have l10 := heap_cell HV7.out 10
      simp at k10 l10
      have HI1 := Lib.hid (HMx.out.2.2.1.below HB7.out)
      have HI2 := Lib.hid (HMy.out.2.2.1.below HB7.out)
      go_loopw [129] (fun iv w8 => ∃ k : Nat, k ≤ ybs.length ∧ iv = .int .i64 k ∧ ∃ n, w8 = W7.drewN n) (fun iv _ => ybs.length - (intOf iv).toNat)
      case atStart => exact ⟨0, Nat.zero_le _, rfl, 0, rfl⟩
      case round =>
        obtain ⟨k, hkl, rfl, n, rfl⟩ := hrel
        by_cases hlt : k < ybs.length
        · obtain ⟨b3, off3, hba, hb3, hc⟩ := HI1.out (by exact Nat.lt_of_le_of_lt (Nat.zero_le _) hlt)
          obtain ⟨b4, off4, hbb, hb4, hc2⟩ := HI2.out (by exact Nat.lt_of_le_of_lt (Nat.zero_le _) hlt)
          simp only at hba hbb
          subst hba
          subst hbb
          have i0 := hc k hlt 0 (by omega)
          have i1 := hc2 k hlt 0 (by omega)
          have hdk : decide ((k : Int) < (ybs.length : Int)) = true := by simp; omega
          have hi1 : (k : Int) < (ybs.length : Int) := by omega
          clear hc hc2
          simp only at i0 i1
          generalize ybs.getD k default = v at *
          simp [intC] at i0 i1
          have hvv : (v != v) = false := by simp
          go_wp2_with fail
          go_quiet (fail)
          go_wp2_with fail
          go_roundw
          case rel => exact ⟨k + 1, by omega, by go_num, _, rfl⟩
          case measure => first | (simp [intOf]; done) | (simp [intOf]; omega)
        · obtain rfl : k = ybs.length := by omega
          have hdk : decide ((ybs.length : Int) < (ybs.length : Int)) = false := by simp
          clear k10 l10
          go_wp2_with fail
          go_roundw
          case rel => exact ⟨j + 1, by go_num, by omega, Below.drewN HB7.out _, HX7.out, HY7.out⟩
          case measure => first | (simp [intOf]; done) | (simp [intOf]; omega)
    · obtain rfl : j = ss.length := by omega
      have dj : decide ((ss.length : Int) < (ss.length : Int)) = false := by simp
      have dj2 : decide (ss.length < ss.length) = false := by simp
      clear hbel hjl
      go_wp2_with fail
      go_ret
      exact ⟨rfl, HBl.out⟩
end Go.Proofs.YtacjbgmnoiimbabGreat
