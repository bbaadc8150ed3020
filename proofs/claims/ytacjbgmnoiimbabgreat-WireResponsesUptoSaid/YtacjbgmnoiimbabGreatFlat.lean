/- What is flat, what is small: walked (printed by genGreatFlat.py). -/
import Derived.Test.YtacjbgmnoiimbabGreatRec
namespace Go.Proofs.YtacjbgmnoiimbabGreat
set_option linter.unusedVariables false
set_option linter.unusedSimpArgs false
open Go.RowKit

def FlatIs (P : Prop) (W : World) (e : Ending) (W' : World) : Prop := ∃ b : Bool, e = .returned (.bool b) ∧ (b = true ↔ P) ∧ Below W.heap.size W W'
set_option maxRecDepth 100000 in
set_option maxHeartbeats 8000000 in
theorem flat_any (n : Nat) (S : Nat → Prop) (id : Nat) (er : Int) (rv : Nat) (tk : ByteArray) (fa : Option Addr) (fc : Nat) (fs : List Bool) (ta : Option Addr) (tc : Nat) (ts : List Six) (oba : Option Addr) (obc : Nat) (os : List Duo) (ea : Option Addr) (ec : Nat) (es : List Evt) (sa : Option Addr) (sc : Nat) (ss : List SE) (nk : Int) (nt ni nr : ByteArray) (nsa : Option Addr) (nsc : Nat) (nss : List Tri) (na : Option Addr) (nc : Nat) (nps : List PN) (W : World) (hss : IsEls seC 11 W sa ss) (hsm : ∀ x ∈ ss, semem n S W x) (hsl : ∀ x ∈ ss, (encR x.r.plain).length ≤ 100000000) (hln : ss.length ≤ 1000000000) (hnm : NMem S n W na nps) (hnl : (encN (NE.plain ⟨nk, nt, ni, nr, nsa, nsc, nss, na, nc, nps⟩)).length ≤ 100000000) :
    Calls Tryz.prog 7 #[.agg #[.int .u64 (id : Int), .int .i64 er, .int .u64 (rv : Int), .string tk, .slice fa fs.length fc, .slice ta ts.length tc, .slice oba os.length obc, .slice ea es.length ec, .slice sa ss.length sc, .int .i64 nk, .string nt, .string ni, .string nr, .slice nsa nss.length nsc, .slice na nps.length nc]] W (FlatIs ((∀ x ∈ ss, depR x.r.plain ≤ 64) ∧ depN (NE.plain ⟨nk, nt, ni, nr, nsa, nsc, nss, na, nc, nps⟩) ≤ 64) W) := by
  have HB0 := Lib.hid ((Below.refl W.heap.size W).alloc (Nat.le_refl _) (.cells #[.int .u64 (id : Int), .int .i64 er, .int .u64 (rv : Int), .string tk, .slice fa fs.length fc, .slice ta ts.length tc, .slice oba os.length obc, .slice ea es.length ec, .slice sa ss.length sc, .int .i64 nk, .string nt, .string ni, .string nr, .slice nsa nss.length nsc, .slice na nps.length nc] 36))
  have HX0 := Lib.hid (heap_alloc_new W (.cells #[.int .u64 (id : Int), .int .i64 er, .int .u64 (rv : Int), .string tk, .slice fa fs.length fc, .slice ta ts.length tc, .slice oba os.length obc, .slice ea es.length ec, .slice sa ss.length sc, .int .i64 nk, .string nt, .string ni, .string nr, .slice nsa nss.length nsc, .slice na nps.length nc] 36))
  have HSs := Lib.hid hss
  have HSm := Lib.hid hsm
  have HSl := Lib.hid hsl
  have HNm := Lib.hid hnm
  have HNl := Lib.hid hnl
  clear hss hsm hsl hnm hnl
  go_enter Tryz.func7, Tryz.ntmps7
  go_upto_region 1 with (fail)
  generalize (W.alloc (.cells #[.int .u64 (id : Int), .int .i64 er, .int .u64 (rv : Int), .string tk, .slice fa fs.length fc, .slice ta ts.length tc, .slice oba os.length obc, .slice ea es.length ec, .slice sa ss.length sc, .int .i64 nk, .string nt, .string ni, .string nr, .slice nsa nss.length nsc, .slice na nps.length nc] 36)) = W0 at *
  obtain ⟨x, hx⟩ : ∃ x, x = W.heap.size := ⟨_, rfl⟩
  rw [← hx] at HX0
  rw [← hx]
  have HXx := Lib.hid hx
  clear hx
  have q8 := heap_cell HX0.out 8
  simp at q8
  go_wp2_with fail
  go_loopw [8] (fun iv wr => ∃ j : Nat, iv = .int .i64 j ∧ j ≤ ss.length ∧ Hid (Below W.heap.size W wr ∧ wr.heap[x]? = some (.cells #[.int .u64 (id : Int), .int .i64 er, .int .u64 (rv : Int), .string tk, .slice fa fs.length fc, .slice ta ts.length tc, .slice oba os.length obc, .slice ea es.length ec, .slice sa ss.length sc, .int .i64 nk, .string nt, .string ni, .string nr, .slice nsa nss.length nsc, .slice na nps.length nc] 36 (0, 0)) ∧ ∀ k, k < j → depR (ss.getD k default).r.plain ≤ 64)) (fun iv _ => ss.length - (intOf iv).toNat)
  case atStart => exact ⟨0, rfl, Nat.zero_le _, HB0.out, HX0.out, fun k hk => absurd hk (Nat.not_lt_zero _)⟩
  case round =>
    clear HB0 HX0 q8
    obtain ⟨j, rfl, hj, hst⟩ := hrel
    obtain ⟨hbel, hbox, hall⟩ := hst.out
    have HBl := Lib.hid hbel
    have HXl := Lib.hid hbox
    have HAl := Lib.hid hall
    clear hst hall
    by_cases hjl : j < ss.length
    · have dj : decide ((j : Int) < (ss.length : Int)) = true := decide_eq_true (by omega)
      have dj2 : decide (j < ss.length) = true := decide_eq_true (by omega)
      have hij : (j : Int) < (ss.length : Int) := by omega
      obtain ⟨b, off, rfl, hb, hc⟩ := (HSs.out.below hbel) (by omega)
      have c0 := hc j hjl 0 (by omega)
      have c1 := hc j hjl 1 (by omega)
      have c2 := hc j hjl 2 (by omega)
      have c3 := hc j hjl 3 (by omega)
      have c4 := hc j hjl 4 (by omega)
      have c5 := hc j hjl 5 (by omega)
      have c6 := hc j hjl 6 (by omega)
      have c7 := hc j hjl 7 (by omega)
      have c8 := hc j hjl 8 (by omega)
      have c9 := hc j hjl 9 (by omega)
      have c10 := hc j hjl 10 (by omega)
      have hm := HSm.out _ (getD_mem hjl)
      have hl := HSl.out _ (getD_mem hjl)
      obtain ⟨dd, hdd⟩ : ∃ dd, dd = depR (ss.getD j default).r.plain := ⟨_, rfl⟩
      have HN := Lib.hid (fun (hp : dd ≤ 64) => (fun k hk => by
        by_cases hkj : k < j
        · exact HAl.out k hkj
        · obtain rfl : k = j := by omega
          rw [← hdd]
          exact hp : ∀ k, k < j + 1 → depR (ss.getD k default).r.plain ≤ 64))
      have HO := Lib.hid (fun (hp : ¬ dd ≤ 64) => (fun h => hp (by rw [hdd]; exact h.1 _ (getD_mem hjl)) : ¬ ((∀ x ∈ ss, depR x.r.plain ≤ 64) ∧ depN (NE.plain ⟨nk, nt, ni, nr, nsa, nsc, nss, na, nc, nps⟩) ≤ 64)))
      clear hc hbel hbox
      generalize ss.getD j default = y at *
      obtain ⟨⟨ya, yb, yc⟩, ⟨yk, yA, yB, yra, yrc, yps⟩, ⟨yd, ye, yf⟩, yba, ybc, ybs⟩ := y
      simp [seC] at c0 c1 c2 c3 c4 c5 c6 c7 c8 c9 c10
      have hB1 := (Below.refl wr.heap.size wr).alloc (Nat.le_refl _) (.cells #[.string ya, .string yb, .string yc, .int .i64 yk, .string yA, .string yB, .slice yra yps.length yrc, .string yd, .string ye, .string yf, .slice yba ybs.length ybc] 74)
      have HBa := Lib.hid (HBl.out.trans (hB1.mono HBl.out.size))
      have HXa := Lib.hid ((hB1.block _ (heap_lt HXl.out)).trans HXl.out)
      have HC := Lib.hid (depth_any n S (wr.alloc (.cells #[.string ya, .string yb, .string yc, .int .i64 yk, .string yA, .string yB, .slice yra yps.length yrc, .string yd, .string ye, .string yf, .slice yba ybs.length ybc] 74)) ⟨yk, yA, yB, yra, yrc, yps⟩ (hm.1.2.stays (Stays.below HBa.out)) (Nat.le_trans hl (by decide)))
      rw [show depR (RE.plain ⟨yk, yA, yB, yra, yrc, yps⟩) = dd from hdd.symm] at HC
      clear hm hl hB1 hdd
      go_wp2_with fail
      refine HC.out.mono ?_
      clear HC
      rintro ee W1 ⟨rfl, hb1⟩
      have HB1 := Lib.hid (HBa.out.trans (hb1.mono HBa.out.size))
      have HX1 := Lib.hid ((hb1.block _ (heap_lt HXa.out)).trans HXa.out)
      clear hb1
      by_cases h64 : dd ≤ 64
      · have d64 : decide ((64 : Int) < (dd : Int)) = false := decide_eq_false (by omega)
        have d65 : decide (64 < dd) = false := decide_eq_false (by omega)
        have HNn := Lib.hid (HN.out h64)
        go_wp2_with fail
        go_roundw
        case rel => exact ⟨j + 1, by go_num, by omega, HB1.out, HX1.out, HNn.out⟩
        case measure => first | (simp [intOf]; done) | (simp [intOf]; omega)
      · have d64 : decide ((64 : Int) < (dd : Int)) = true := decide_eq_true (by omega)
        have d65 : decide (64 < dd) = true := decide_eq_true (by omega)
        have HNo := Lib.hid (HO.out h64)
        go_wp2_with fail
        go_ret
        exact ⟨false, rfl, ⟨(fun h => by cases h), fun h => absurd h HNo.out⟩, HB1.out⟩
    · obtain rfl : j = ss.length := by omega
      have dj : decide ((ss.length : Int) < (ss.length : Int)) = false := by simp
      have dj2 : decide (ss.length < ss.length) = false := by simp
      have HAll : Hid (∀ x ∈ ss, depR x.r.plain ≤ 64) := (all_of (P := fun x : SE => depR x.r.plain ≤ 64) HAl.out : ∀ x ∈ ss, depR x.r.plain ≤ 64)
      have HC := Lib.hid (deep_any n S wr ⟨nk, nt, ni, nr, nsa, nsc, nss, na, nc, nps⟩ (HNm.out.stays (Stays.below hbel)) (Nat.le_trans HNl.out (by decide)))
      obtain ⟨dd, hdd⟩ : ∃ dd, dd = depN (NE.plain ⟨nk, nt, ni, nr, nsa, nsc, nss, na, nc, nps⟩) := ⟨_, rfl⟩
      rw [← hdd] at HC
      have HDd := Lib.hid hdd
      clear hdd hjl HAl hbel
      have p9 := heap_cell hbox 9
      have p10 := heap_cell hbox 10
      have p11 := heap_cell hbox 11
      have p12 := heap_cell hbox 12
      have p13 := heap_cell hbox 13
      have p14 := heap_cell hbox 14
      simp at p9 p10 p11 p12 p13 p14
      clear hbox
      go_wp2_with fail
      refine HC.out.mono ?_
      clear HC
      rintro ee W1 ⟨rfl, hb1⟩
      have HB1 := Lib.hid (HBl.out.trans (hb1.mono HBl.out.size))
      clear hb1
      by_cases h64 : dd ≤ 64
      · have d64 : decide ((dd : Int) ≤ (64 : Int)) = true := decide_eq_true (by omega)
        have d65 : decide (dd ≤ 64) = true := decide_eq_true h64
        go_wp2_with fail
        go_ret
        exact ⟨true, by first | rfl | simp, ⟨fun _ => ⟨HAll.out, by rw [← HDd.out]; exact h64⟩, fun _ => rfl⟩, HB1.out⟩
      · have d64 : decide ((dd : Int) ≤ (64 : Int)) = false := decide_eq_false (by omega)
        have d65 : decide (dd ≤ 64) = false := decide_eq_false h64
        go_wp2_with fail
        go_ret
        exact ⟨false, by first | rfl | simp, ⟨(fun h => by cases h), fun h => absurd (by rw [HDd.out]; exact h.2) h64⟩, HB1.out⟩
def SmallIs (P : Prop) (W : World) (e : Ending) (W' : World) : Prop := ∃ b : Bool, e = .returned (.bool b) ∧ (b = true → P) ∧ Below W.heap.size W W'
set_option maxRecDepth 100000 in
set_option maxHeartbeats 16000000 in
theorem smallr_any (n : Nat) (S : Nat → Prop) (id : Nat) (er : Int) (rv : Nat) (tk : ByteArray) (fa : Option Addr) (fc : Nat) (fs : List Bool) (ta : Option Addr) (tc : Nat) (ts : List Six) (oba : Option Addr) (obc : Nat) (os : List Duo) (ea : Option Addr) (ec : Nat) (es : List Evt) (sa : Option Addr) (sc : Nat) (ss : List SE) (nk : Int) (nt ni nr : ByteArray) (nsa : Option Addr) (nsc : Nat) (nss : List Tri) (na : Option Addr) (nc : Nat) (nps : List PN) (W : World) (hts : IsEls sixC 6 W ta ts) (hos : IsEls duoC 2 W oba os) (hes : IsEls evtC 8 W ea es) (hss : IsEls seC 11 W sa ss) (hsm : ∀ x ∈ ss, semem n S W x) (hsl : ∀ x ∈ ss, (encR x.r.plain).length ≤ 100000000) (hnm : NMem S n W na nps) (hnl : (encN (NE.plain ⟨nk, nt, ni, nr, nsa, nsc, nss, na, nc, nps⟩)).length ≤ 100000000)
    (hlf : fs.length ≤ 100000000) (hlt : ts.length ≤ 100000000) (hlo : os.length ≤ 100000000) (hle : es.length ≤ 100000000) (hls : ss.length ≤ 100000000) (htk : tk.size ≤ 100000000) (hbt : ∀ x ∈ ts, sixB x) (hbo : ∀ x ∈ os, x.1.size ≤ 100000000 ∧ x.2.size ≤ 100000000) (hbe : ∀ x ∈ es, sixB x.2.2) (hbs : ∀ x ∈ ss, sixB (x.p, x.s) ∧ x.bs.length ≤ 100000000) :
    Calls Tryz.prog 5 #[.agg #[.int .u64 (id : Int), .int .i64 er, .int .u64 (rv : Int), .string tk, .slice fa fs.length fc, .slice ta ts.length tc, .slice oba os.length obc, .slice ea es.length ec, .slice sa ss.length sc, .int .i64 nk, .string nt, .string ni, .string nr, .slice nsa nss.length nsc, .slice na nps.length nc]] W (SmallIs (fs.length ≤ 100 ∧ ts.length + os.length + es.length + ss.length ≤ 40 ∧ nss.length ≤ 200) W) := by
  have HTs := Lib.hid hts
  have HOs := Lib.hid hos
  have HEs := Lib.hid hes
  have HSs := Lib.hid hss
  have HSm := Lib.hid hsm
  have HSl := Lib.hid hsl
  have HBt := Lib.hid hbt
  have HBo := Lib.hid hbo
  have HBe := Lib.hid hbe
  have HBs := Lib.hid hbs
  have hB0 := (Below.refl W.heap.size W).alloc (Nat.le_refl _) (.cells #[.int .u64 (id : Int), .int .i64 er, .int .u64 (rv : Int), .string tk, .slice fa fs.length fc, .slice ta ts.length tc, .slice oba os.length obc, .slice ea es.length ec, .slice sa ss.length sc, .int .i64 nk, .string nt, .string ni, .string nr, .slice nsa nss.length nsc, .slice na nps.length nc] 36)
  have HB0 := Lib.hid hB0
  have HX0 := Lib.hid (heap_alloc_new W (.cells #[.int .u64 (id : Int), .int .i64 er, .int .u64 (rv : Int), .string tk, .slice fa fs.length fc, .slice ta ts.length tc, .slice oba os.length obc, .slice ea es.length ec, .slice sa ss.length sc, .int .i64 nk, .string nt, .string ni, .string nr, .slice nsa nss.length nsc, .slice na nps.length nc] 36))
  have HC := Lib.hid (fewn_any n S (W.alloc (.cells #[.int .u64 (id : Int), .int .i64 er, .int .u64 (rv : Int), .string tk, .slice fa fs.length fc, .slice ta ts.length tc, .slice oba os.length obc, .slice ea es.length ec, .slice sa ss.length sc, .int .i64 nk, .string nt, .string ni, .string nr, .slice nsa nss.length nsc, .slice na nps.length nc] 36)) ⟨nk, nt, ni, nr, nsa, nsc, nss, na, nc, nps⟩ 200 (hnm.stays (Stays.below hB0)) hnl (by decide) (by decide))
  clear hts hos hes hss hsm hsl hnm hnl hbt hbo hbe hbs hB0
  by_cases h100 : 100 < fs.length
  · have d60 : decide ((100 : Int) < (fs.length : Int)) = true := decide_eq_true (by omega)
    have d61 : decide (100 < fs.length) = true := decide_eq_true h100
    clear HC
    go_enter Tryz.func5, Tryz.ntmps5
    go_wp2_with fail
    go_ret
    exact ⟨false, rfl, (fun h => by cases h), HB0.out⟩
  have d60 : decide ((100 : Int) < (fs.length : Int)) = false := decide_eq_false (by omega)
  have d61 : decide (100 < fs.length) = false := decide_eq_false h100
  by_cases h40 : 40 < ts.length + os.length + es.length + ss.length
  · have d40 : decide ((40 : Int) < (ts.length : Int) + (os.length : Int) + (es.length : Int) + (ss.length : Int)) = true := decide_eq_true (by omega)
    have d41 : decide (40 < ts.length + os.length + es.length + ss.length) = true := decide_eq_true h40
    clear HC
    go_enter Tryz.func5, Tryz.ntmps5
    go_wp2_with fail
    go_ret
    exact ⟨false, rfl, (fun h => by cases h), HB0.out⟩
  have d40 : decide ((40 : Int) < (ts.length : Int) + (os.length : Int) + (es.length : Int) + (ss.length : Int)) = false := decide_eq_false (by omega)
  have d41 : decide (40 < ts.length + os.length + es.length + ss.length) = false := decide_eq_false h40
  by_cases h300 : 300 < tk.size
  · have d300 : decide ((300 : Int) < (tk.size : Int)) = true := decide_eq_true (by omega)
    have d301 : decide (300 < tk.size) = true := decide_eq_true h300
    clear HC
    go_enter Tryz.func5, Tryz.ntmps5
    go_wp2_with fail
    go_ret
    exact ⟨false, rfl, (fun h => by cases h), HB0.out⟩
  have d300 : decide ((300 : Int) < (tk.size : Int)) = false := decide_eq_false (by omega)
  have d301 : decide (300 < tk.size) = false := decide_eq_false h300
  have HSum0 : Hid (fs.length ≤ 100 ∧ ts.length + os.length + es.length + ss.length ≤ 40) := ⟨by omega, by omega⟩
  go_enter Tryz.func5, Tryz.ntmps5
  go_upto_region 1 with (fail)
  generalize (W.alloc (.cells #[.int .u64 (id : Int), .int .i64 er, .int .u64 (rv : Int), .string tk, .slice fa fs.length fc, .slice ta ts.length tc, .slice oba os.length obc, .slice ea es.length ec, .slice sa ss.length sc, .int .i64 nk, .string nt, .string ni, .string nr, .slice nsa nss.length nsc, .slice na nps.length nc] 36)) = W0 at *
  obtain ⟨x, hx⟩ : ∃ x, x = W.heap.size := ⟨_, rfl⟩
  rw [← hx] at HX0
  rw [← hx]
  have HXx := Lib.hid hx
  clear hx
  have q0 := heap_cell HX0.out 0
  have q1 := heap_cell HX0.out 1
  have q2 := heap_cell HX0.out 2
  have q3 := heap_cell HX0.out 3
  have q4 := heap_cell HX0.out 4
  have q5 := heap_cell HX0.out 5
  have q6 := heap_cell HX0.out 6
  have q7 := heap_cell HX0.out 7
  have q8 := heap_cell HX0.out 8
  have q9 := heap_cell HX0.out 9
  have q10 := heap_cell HX0.out 10
  have q11 := heap_cell HX0.out 11
  have q12 := heap_cell HX0.out 12
  have q13 := heap_cell HX0.out 13
  have q14 := heap_cell HX0.out 14
  simp at q0 q1 q2 q3 q4 q5 q6 q7 q8 q9 q10 q11 q12 q13 q14
  go_wp2_with fail
  clear q0 q1 q2 q3 q4 q5 q6 q7 q8 q9 q10 q11 q12 q13 q14 d60 d61 d40 d41 d300 d301
  refine HC.out.mono ?_
  clear HC
  rintro ee W1 ⟨r, rfl, hr0, hr1, hb1⟩
  have HB1 := Lib.hid (HB0.out.trans (hb1.mono HB0.out.size))
  have HX1 := Lib.hid ((hb1.block _ (heap_lt HX0.out)).trans HX0.out)
  clear hb1 HB0 HX0
  by_cases hr : r < 0
  · have dr : decide (r < 0) = true := decide_eq_true hr
    go_wp2_with fail
    go_ret
    exact ⟨false, rfl, (fun h => by cases h), HB1.out⟩
  have dr : decide (r < 0) = false := decide_eq_false hr
  have HSum : Hid (fs.length ≤ 100 ∧ ts.length + os.length + es.length + ss.length ≤ 40 ∧ nss.length ≤ 200) := ⟨HSum0.out.1, HSum0.out.2, by omega⟩
  go_upto_region 3 with (fail)
  clear dr hr hr0 hr1 HSum0
  have qq := heap_cell HX1.out 5
  simp at qq
  go_wp2_with fail
  go_loopw [49] (fun iv wr => ∃ j : Nat, iv = .int .i64 j ∧ j ≤ ts.length ∧ Hid (Below W.heap.size W wr ∧ wr.heap[x]? = some (.cells #[.int .u64 (id : Int), .int .i64 er, .int .u64 (rv : Int), .string tk, .slice fa fs.length fc, .slice ta ts.length tc, .slice oba os.length obc, .slice ea es.length ec, .slice sa ss.length sc, .int .i64 nk, .string nt, .string ni, .string nr, .slice nsa nss.length nsc, .slice na nps.length nc] 36 (0, 0)))) (fun iv _ => ts.length - (intOf iv).toNat)
  case atStart => exact ⟨0, rfl, Nat.zero_le _, HB1.out, HX1.out⟩
  case round =>
    clear HB1 HX1 qq
    obtain ⟨j0, rfl, hj0, hst⟩ := hrel
    obtain ⟨hbel, hbox⟩ := hst.out
    have HBl := Lib.hid hbel
    have HXl := Lib.hid hbox
    clear hst
    by_cases hjl : j0 < ts.length
    · have dj : decide ((j0 : Int) < (ts.length : Int)) = true := decide_eq_true (by omega)
      have dj2 : decide (j0 < ts.length) = true := decide_eq_true (by omega)
      have hij : (j0 : Int) < (ts.length : Int) := by omega
      obtain ⟨b0, off0, rfl, hb, hc⟩ := (HTs.out.below hbel) (by omega)
      have c0 := hc j0 hjl 0 (by omega)
      have c1 := hc j0 hjl 1 (by omega)
      have c2 := hc j0 hjl 2 (by omega)
      have c3 := hc j0 hjl 3 (by omega)
      have c4 := hc j0 hjl 4 (by omega)
      have c5 := hc j0 hjl 5 (by omega)
      have hbn := HBt.out _ (getD_mem hjl)
      clear hc hbel hbox
      generalize ts.getD j0 default = y at *
      obtain ⟨⟨ya, yb, yc⟩, yd, ye, yf⟩ := y
      simp [sixC, triC] at c0 c1 c2 c3 c4 c5
      have hB1 := (Below.refl wr.heap.size wr).alloc (Nat.le_refl _) (.cells #[.string ya, .string yb, .string yc, .string yd, .string ye, .string yf] 62)
      have HBa := Lib.hid (HBl.out.trans (hB1.mono HBl.out.size))
      have HXa := Lib.hid ((hB1.block _ (heap_lt HXl.out)).trans HXl.out)
      clear hB1
      have HC := Lib.hid (short_any ya yb yc yd ye yf (wr.alloc (.cells #[.string ya, .string yb, .string yc, .string yd, .string ye, .string yf] 62)) hbn)
      clear hbn hjl
      go_wp2_with fail
      refine HC.out.mono ?_
      clear HC
      rintro ee W1 ⟨bo, rfl, hbo, hb1⟩
      have HB1 := Lib.hid (HBa.out.trans (hb1.mono HBa.out.size))
      have HX1 := Lib.hid ((hb1.block _ (heap_lt HXa.out)).trans HXa.out)
      clear hb1 hbo
      cases bo with
      | false =>
        go_wp2_with fail
        go_ret
        exact ⟨false, rfl, (fun h => by cases h), HB1.out⟩
      | true =>
        go_wp2_with fail
        go_roundw
        case rel => exact ⟨j0 + 1, by go_num, by omega, HB1.out, HX1.out⟩
        case measure => first | (simp [intOf]; done) | (simp [intOf]; omega)
    · obtain rfl : j0 = ts.length := by omega
      have dj : decide ((ts.length : Int) < (ts.length : Int)) = false := by simp
      have dj2 : decide (ts.length < ts.length) = false := by simp
      have HBe0 := Lib.hid hbel
      have HXe0 := Lib.hid hbox
      clear HBl HXl hbel hbox hjl
      have qq := heap_cell HXe0.out 6
      simp at qq
      go_wp2_with fail
      go_loopw [60] (fun iv wr => ∃ j : Nat, iv = .int .i64 j ∧ j ≤ os.length ∧ Hid (Below W.heap.size W wr ∧ wr.heap[x]? = some (.cells #[.int .u64 (id : Int), .int .i64 er, .int .u64 (rv : Int), .string tk, .slice fa fs.length fc, .slice ta ts.length tc, .slice oba os.length obc, .slice ea es.length ec, .slice sa ss.length sc, .int .i64 nk, .string nt, .string ni, .string nr, .slice nsa nss.length nsc, .slice na nps.length nc] 36 (0, 0)))) (fun iv _ => os.length - (intOf iv).toNat)
      case atStart => exact ⟨0, rfl, Nat.zero_le _, HBe0.out, HXe0.out⟩
      case round =>
        clear HBe0 HXe0 qq
        obtain ⟨j1, rfl, hj1, hst⟩ := hrel
        obtain ⟨hbel, hbox⟩ := hst.out
        have HBl := Lib.hid hbel
        have HXl := Lib.hid hbox
        clear hst
        by_cases hjl : j1 < os.length
        · have dj : decide ((j1 : Int) < (os.length : Int)) = true := decide_eq_true (by omega)
          have dj2 : decide (j1 < os.length) = true := decide_eq_true (by omega)
          have hij : (j1 : Int) < (os.length : Int) := by omega
          obtain ⟨b1, off1, rfl, hb, hc⟩ := (HOs.out.below hbel) (by omega)
          have c0 := hc j1 hjl 0 (by omega)
          have c1 := hc j1 hjl 1 (by omega)
          have hbn := HBo.out _ (getD_mem hjl)
          clear hc hbel hbox
          generalize os.getD j1 default = y at *
          obtain ⟨ya, yb⟩ := y
          simp [duoC] at c0 c1
          have hB1 := (Below.refl wr.heap.size wr).alloc (Nat.le_refl _) (.cells #[.string ya, .string yb] 30)
          have HBa := Lib.hid (HBl.out.trans (hB1.mono HBl.out.size))
          have HXa := Lib.hid ((hB1.block _ (heap_lt HXl.out)).trans HXl.out)
          clear hB1
          have hq1 := hbn.1
          have hq2 := hbn.2
          simp only at hq1 hq2
          clear hjl hbn
          by_cases h300 : 300 < ya.size + yb.size
          · have d300 : decide ((300 : Int) < (ya.size : Int) + (yb.size : Int)) = true := decide_eq_true (by omega)
            have d301 : decide (300 < ya.size + yb.size) = true := decide_eq_true h300
            go_wp2_with fail
            go_ret
            exact ⟨false, rfl, (fun h => by cases h), HBa.out⟩
          · have d300 : decide ((300 : Int) < (ya.size : Int) + (yb.size : Int)) = false := decide_eq_false (by omega)
            have d301 : decide (300 < ya.size + yb.size) = false := decide_eq_false h300
            go_wp2_with fail
            go_roundw
            case rel => exact ⟨j1 + 1, by go_num, by omega, HBa.out, HXa.out⟩
            case measure => first | (simp [intOf]; done) | (simp [intOf]; omega)
        · obtain rfl : j1 = os.length := by omega
          have dj : decide ((os.length : Int) < (os.length : Int)) = false := by simp
          have dj2 : decide (os.length < os.length) = false := by simp
          have HBe1 := Lib.hid hbel
          have HXe1 := Lib.hid hbox
          clear HBl HXl hbel hbox hjl
          have qq := heap_cell HXe1.out 7
          simp at qq
          go_wp2_with fail
          go_loopw [76] (fun iv wr => ∃ j : Nat, iv = .int .i64 j ∧ j ≤ es.length ∧ Hid (Below W.heap.size W wr ∧ wr.heap[x]? = some (.cells #[.int .u64 (id : Int), .int .i64 er, .int .u64 (rv : Int), .string tk, .slice fa fs.length fc, .slice ta ts.length tc, .slice oba os.length obc, .slice ea es.length ec, .slice sa ss.length sc, .int .i64 nk, .string nt, .string ni, .string nr, .slice nsa nss.length nsc, .slice na nps.length nc] 36 (0, 0)))) (fun iv _ => es.length - (intOf iv).toNat)
          case atStart => exact ⟨0, rfl, Nat.zero_le _, HBe1.out, HXe1.out⟩
          case round =>
            clear HBe1 HXe1 qq
            obtain ⟨j2, rfl, hj2, hst⟩ := hrel
            obtain ⟨hbel, hbox⟩ := hst.out
            have HBl := Lib.hid hbel
            have HXl := Lib.hid hbox
            clear hst
            by_cases hjl : j2 < es.length
            · have dj : decide ((j2 : Int) < (es.length : Int)) = true := decide_eq_true (by omega)
              have dj2 : decide (j2 < es.length) = true := decide_eq_true (by omega)
              have hij : (j2 : Int) < (es.length : Int) := by omega
              obtain ⟨b2, off2, rfl, hb, hc⟩ := (HEs.out.below hbel) (by omega)
              have c0 := hc j2 hjl 0 (by omega)
              have c1 := hc j2 hjl 1 (by omega)
              have c2 := hc j2 hjl 2 (by omega)
              have c3 := hc j2 hjl 3 (by omega)
              have c4 := hc j2 hjl 4 (by omega)
              have c5 := hc j2 hjl 5 (by omega)
              have c6 := hc j2 hjl 6 (by omega)
              have c7 := hc j2 hjl 7 (by omega)
              have hbn := HBe.out _ (getD_mem hjl)
              clear hc hbel hbox
              generalize es.getD j2 default = y at *
              obtain ⟨yn, yz, ⟨ya, yb, yc⟩, yd, ye, yf⟩ := y
              simp [evtC, wrtC, sixC, triC] at c0 c1 c2 c3 c4 c5 c6 c7
              have hB1 := (Below.refl wr.heap.size wr).alloc (Nat.le_refl _) (.cells #[.int .u64 (yn : Int), .bool yz, .string ya, .string yb, .string yc, .string yd, .string ye, .string yf] 67)
              have HBa := Lib.hid (HBl.out.trans (hB1.mono HBl.out.size))
              have HXa := Lib.hid ((hB1.block _ (heap_lt HXl.out)).trans HXl.out)
              clear hB1
              have HC := Lib.hid (short_any ya yb yc yd ye yf (wr.alloc (.cells #[.int .u64 (yn : Int), .bool yz, .string ya, .string yb, .string yc, .string yd, .string ye, .string yf] 67)) hbn)
              clear hbn hjl
              go_wp2_with fail
              refine HC.out.mono ?_
              clear HC
              rintro ee W1 ⟨bo, rfl, hbo, hb1⟩
              have HB1 := Lib.hid (HBa.out.trans (hb1.mono HBa.out.size))
              have HX1 := Lib.hid ((hb1.block _ (heap_lt HXa.out)).trans HXa.out)
              clear hb1 hbo
              cases bo with
              | false =>
                go_wp2_with fail
                go_ret
                exact ⟨false, rfl, (fun h => by cases h), HB1.out⟩
              | true =>
                go_wp2_with fail
                go_roundw
                case rel => exact ⟨j2 + 1, by go_num, by omega, HB1.out, HX1.out⟩
                case measure => first | (simp [intOf]; done) | (simp [intOf]; omega)
            · obtain rfl : j2 = es.length := by omega
              have dj : decide ((es.length : Int) < (es.length : Int)) = false := by simp
              have dj2 : decide (es.length < es.length) = false := by simp
              have HBe2 := Lib.hid hbel
              have HXe2 := Lib.hid hbox
              clear HBl HXl hbel hbox hjl
              have qq := heap_cell HXe2.out 8
              simp at qq
              go_wp2_with fail
              go_loopw [9, 89] (fun lv iv wr => ∃ (j : Nat) (lf : Int), lv = .int .i64 lf ∧ iv = .int .i64 j ∧ j ≤ ss.length ∧ 0 ≤ lf ∧ lf ≤ 200 ∧ Hid (Below W.heap.size W wr ∧ wr.heap[x]? = some (.cells #[.int .u64 (id : Int), .int .i64 er, .int .u64 (rv : Int), .string tk, .slice fa fs.length fc, .slice ta ts.length tc, .slice oba os.length obc, .slice ea es.length ec, .slice sa ss.length sc, .int .i64 nk, .string nt, .string ni, .string nr, .slice nsa nss.length nsc, .slice na nps.length nc] 36 (0, 0)))) (fun _ iv _ => ss.length - (intOf iv).toNat)
              case atStart => exact ⟨0, 200, rfl, rfl, Nat.zero_le _, by decide, by decide, HBe2.out, HXe2.out⟩
              case round =>
                clear HBe2 HXe2 qq
                obtain ⟨j3, lf, rfl, rfl, hj3, hl0, hl1, hst⟩ := hrel
                obtain ⟨hbel, hbox⟩ := hst.out
                have HBl := Lib.hid hbel
                have HXl := Lib.hid hbox
                clear hst
                by_cases hjl : j3 < ss.length
                · have dj : decide ((j3 : Int) < (ss.length : Int)) = true := decide_eq_true (by omega)
                  have dj2 : decide (j3 < ss.length) = true := decide_eq_true (by omega)
                  have hij : (j3 : Int) < (ss.length : Int) := by omega
                  obtain ⟨b3, off3, rfl, hb, hc⟩ := (HSs.out.below hbel) (by omega)
                  have c0 := hc j3 hjl 0 (by omega)
                  have c1 := hc j3 hjl 1 (by omega)
                  have c2 := hc j3 hjl 2 (by omega)
                  have c3 := hc j3 hjl 3 (by omega)
                  have c4 := hc j3 hjl 4 (by omega)
                  have c5 := hc j3 hjl 5 (by omega)
                  have c6 := hc j3 hjl 6 (by omega)
                  have c7 := hc j3 hjl 7 (by omega)
                  have c8 := hc j3 hjl 8 (by omega)
                  have c9 := hc j3 hjl 9 (by omega)
                  have c10 := hc j3 hjl 10 (by omega)
                  have hbn := HBs.out _ (getD_mem hjl)
                  have hm := HSm.out _ (getD_mem hjl)
                  have hl := HSl.out _ (getD_mem hjl)
                  clear hc hbel hbox
                  generalize ss.getD j3 default = y at *
                  obtain ⟨⟨ya, yb, yc⟩, ⟨yk, yA, yB, yra, yrc, yps⟩, ⟨yd, ye, yf⟩, yba, ybc, ybs⟩ := y
                  simp [seC] at c0 c1 c2 c3 c4 c5 c6 c7 c8 c9 c10
                  have hB1 := (Below.refl wr.heap.size wr).alloc (Nat.le_refl _) (.cells #[.string ya, .string yb, .string yc, .int .i64 yk, .string yA, .string yB, .slice yra yps.length yrc, .string yd, .string ye, .string yf, .slice yba ybs.length ybc] 74)
                  have HBa := Lib.hid (HBl.out.trans (hB1.mono HBl.out.size))
                  have HXa := Lib.hid ((hB1.block _ (heap_lt HXl.out)).trans HXl.out)
                  clear hB1
                  have HYa := Lib.hid (heap_alloc_new wr (.cells #[.string ya, .string yb, .string yc, .int .i64 yk, .string yA, .string yB, .slice yra yps.length yrc, .string yd, .string ye, .string yf, .slice yba ybs.length ybc] 74))
                  have HSix := Lib.hid hbn.1
                  have hlb := hbn.2
                  simp only at hlb
                  have HRm := Lib.hid (show RMem S n _ yra yps from hm.1.2.stays (Stays.below HBa.out))
                  have HRl := Lib.hid (show (encR (RE.plain ⟨yk, yA, yB, yra, yrc, yps⟩)).length ≤ 100000000 from hl)
                  clear hm hl hbn hjl
                  go_upto_region 25 with (fail)
                  generalize wr.alloc (.cells #[.string ya, .string yb, .string yc, .int .i64 yk, .string yA, .string yB, .slice yra yps.length yrc, .string yd, .string ye, .string yf, .slice yba ybs.length ybc] 74) = wa at *
                  generalize wr.heap.size = y0 at *
                  obtain ⟨V, hV⟩ : ∃ V, V = wa.drew := ⟨_, rfl⟩
                  have HBV : Hid (Below W.heap.size W V) := (by rw [hV]; exact HBa.out.drew : Below W.heap.size W V)
                  have HXV : Hid (V.heap[x]? = some (.cells #[.int .u64 (id : Int), .int .i64 er, .int .u64 (rv : Int), .string tk, .slice fa fs.length fc, .slice ta ts.length tc, .slice oba os.length obc, .slice ea es.length ec, .slice (some ⟨b3, off3, none⟩) ss.length sc, .int .i64 nk, .string nt, .string ni, .string nr, .slice nsa nss.length nsc, .slice na nps.length nc] 36 (0, 0))) := (by rw [hV]; exact HXa.out : V.heap[x]? = some (.cells #[.int .u64 (id : Int), .int .i64 er, .int .u64 (rv : Int), .string tk, .slice fa fs.length fc, .slice ta ts.length tc, .slice oba os.length obc, .slice ea es.length ec, .slice (some ⟨b3, off3, none⟩) ss.length sc, .int .i64 nk, .string nt, .string ni, .string nr, .slice nsa nss.length nsc, .slice na nps.length nc] 36 (0, 0)))
                  have HYV : Hid (V.heap[y0]? = some (.cells #[.string ya, .string yb, .string yc, .int .i64 yk, .string yA, .string yB, .slice yra yps.length yrc, .string yd, .string ye, .string yf, .slice yba ybs.length ybc] 74 (0, 0))) := (by rw [hV]; exact HYa.out : V.heap[y0]? = some (.cells #[.string ya, .string yb, .string yc, .int .i64 yk, .string yA, .string yB, .slice yra yps.length yrc, .string yd, .string ye, .string yf, .slice yba ybs.length ybc] 74 (0, 0)))
                  have HRV : Hid (RMem S n V yra yps) := (by rw [hV]; exact HRm.out.stays (Stays.below (Below.refl _ _).drew) : RMem S n V yra yps)
                  have hS0 : V.cell? ⟨y0, 3, none⟩ = some (.int .i64 yk) ∧ V.cell? ⟨y0, 4, none⟩ = some (.string yA) ∧ V.cell? ⟨y0, 5, none⟩ = some (.string yB) ∧ V.cell? ⟨y0, 6, none⟩ = some (.slice yra yps.length yrc) ∧ V.cell? ⟨y0, 10, none⟩ = some (.slice yba ybs.length ybc) := ⟨heap_cell HYV.out 3, heap_cell HYV.out 4, heap_cell HYV.out 5, heap_cell HYV.out 6, heap_cell HYV.out 10⟩
                  go_wp2_with fail
                  try refine wp_region_noPanic ?_
                  refine wp_region_held_drew (S := fun w' => w'.cell? ⟨y0, 3, none⟩ = some (.int .i64 yk) ∧ w'.cell? ⟨y0, 4, none⟩ = some (.string yA) ∧ w'.cell? ⟨y0, 5, none⟩ = some (.string yB) ∧ w'.cell? ⟨y0, 6, none⟩ = some (.slice yra yps.length yrc) ∧ w'.cell? ⟨y0, 10, none⟩ = some (.slice yba ybs.length ybc)) (by kernel_rfl) (by rw [← hV]; exact hS0) (fun hHeld => ?_)
                  rw [← hV] at hHeld ⊢
                  clear hV hS0 HBa HXa HYa HRm
                  refine take_at 0 93 (v := ?_) rfl rfl (by kernel_rfl) (by kernel_rfl) (by kernel_rfl) (fun _ _ _ h => h) (Or.inl ⟨by rfl, ?_⟩) hHeld ?_
                  rotate_left
                  · (intro w hSw; (try dsimp only at hSw); go_simp; try with_reducible rfl)
                  try simp only [List.setIfInBounds_toArray, List.set_cons_zero, List.set_cons_succ]
                  refine take_at 1 94 (v := ?_) rfl rfl (by kernel_rfl) (by kernel_rfl) (by kernel_rfl) (fun _ _ _ h => h) (Or.inl ⟨by rfl, ?_⟩) hHeld ?_
                  rotate_left
                  · (intro w hSw; (try dsimp only at hSw); go_simp; try with_reducible rfl)
                  try simp only [List.setIfInBounds_toArray, List.set_cons_zero, List.set_cons_succ]
                  refine take_at 2 95 (v := ?_) rfl rfl (by kernel_rfl) (by kernel_rfl) (by kernel_rfl) (fun _ _ _ h => h) (Or.inl ⟨by rfl, ?_⟩) hHeld ?_
                  rotate_left
                  · (intro w hSw; (try dsimp only at hSw); go_simp; try with_reducible rfl)
                  try simp only [List.setIfInBounds_toArray, List.set_cons_zero, List.set_cons_succ]
                  refine take_at 4 97 (v := ?_) rfl rfl (by kernel_rfl) (by kernel_rfl) (by kernel_rfl) (fun _ _ _ h => h) (Or.inl ⟨by rfl, ?_⟩) hHeld ?_
                  rotate_left
                  · (intro w hSw; (try dsimp only at hSw); go_simp; try with_reducible rfl)
                  try simp only [List.setIfInBounds_toArray, List.set_cons_zero, List.set_cons_succ]
                  refine take_at 5 98 (v := ?_) rfl rfl (by kernel_rfl) (by kernel_rfl) (by kernel_rfl) (fun _ _ _ h => h) (Or.inl ⟨by rfl, ?_⟩) hHeld ?_
                  rotate_left
                  · (intro w hSw; (try dsimp only at hSw); go_simp; try with_reducible rfl)
                  try simp only [List.setIfInBounds_toArray, List.set_cons_zero, List.set_cons_succ]
                  refine take_at 6 99 (v := ?_) rfl rfl (by kernel_rfl) (by kernel_rfl) (by kernel_rfl) (fun _ _ _ h => h) (Or.inl ⟨by rfl, ?_⟩) hHeld ?_
                  rotate_left
                  · (intro w hSw; (try dsimp only at hSw); go_simp; try with_reducible rfl)
                  try simp only [List.setIfInBounds_toArray, List.set_cons_zero, List.set_cons_succ]
                  refine only_at 3 96 (by kernel_rfl) rfl rfl (by rfl) (fun K hK => ?_)
                  go_simp
                  refine (small_any n S _ ⟨yk, yA, yB, yra, yrc, yps⟩ lf HRV.out HRl.out hl0 hl1).mono ?_
                  rintro ee W1 ⟨r, rfl, hr0, hr1, hb1⟩
                  have HB1 := Lib.hid (HBV.out.trans (hb1.mono HBV.out.size))
                  have HX1 := Lib.hid ((hb1.block _ (heap_lt HXV.out)).trans HXV.out)
                  have HY1 := Lib.hid ((hb1.block _ (heap_lt HYV.out)).trans HYV.out)
                  clear hb1
                  go_wp2_with fail
                  refine hK.out _ _ (⟨heap_cell HY1.out 3, heap_cell HY1.out 4, heap_cell HY1.out 5, heap_cell HY1.out 6, heap_cell HY1.out 10⟩) (fun hHeld2 => ?_)
                  clear hK K hHeld
                  have hHeld := hHeld2
                  clear hHeld2
                  try simp only [Act.put, List.setIfInBounds_toArray, List.set_cons_zero, List.set_cons_succ]
                  refine take_at 7 100 (v := ?_) rfl rfl (by kernel_rfl) (by kernel_rfl) (by kernel_rfl) (fun _ _ _ h => h) (Or.inl ⟨by rfl, ?_⟩) hHeld ?_
                  rotate_left
                  · (intro w hSw; (try dsimp only at hSw); go_simp; try with_reducible rfl)
                  try simp only [List.setIfInBounds_toArray, List.set_cons_zero, List.set_cons_succ]
                  refine take_at 8 9 (v := ?_) rfl rfl (by kernel_rfl) (by kernel_rfl) (by kernel_rfl) (fun _ _ _ h => h) (Or.inl ⟨by rfl, ?_⟩) hHeld ?_
                  rotate_left
                  · (intro w hSw; (try dsimp only at hSw); go_simp; try with_reducible rfl)
                  try simp only [List.setIfInBounds_toArray, List.set_cons_zero, List.set_cons_succ]
                  refine wpAnyH_done (by kernel_rfl) ?_ _
                  try refine NoPanic.normal ?_
                  by_cases hneg : r - (ybs.length : Int) < 0
                  · have dn : decide (r - (ybs.length : Int) < 0) = true := decide_eq_true hneg
                    have dn2 : decide (r < (ybs.length : Int)) = true := decide_eq_true (by omega)
                    go_wp2_with fail
                    go_ret
                    exact ⟨false, rfl, (fun h => by cases h), HB1.out⟩
                  have dn : decide (r - (ybs.length : Int) < 0) = false := decide_eq_false hneg
                  have dn2 : decide (r < (ybs.length : Int)) = false := decide_eq_false (by omega)
                  have q0 := heap_cell HY1.out 0
                  have q1 := heap_cell HY1.out 1
                  have q2 := heap_cell HY1.out 2
                  have q7 := heap_cell HY1.out 7
                  have q8 := heap_cell HY1.out 8
                  have q9 := heap_cell HY1.out 9
                  simp at q0 q1 q2 q7 q8 q9
                  have HC := Lib.hid (short_any ya yb yc yd ye yf W1 HSix.out)
                  go_wp2_with fail
                  clear q0 q1 q2 q7 q8 q9
                  refine HC.out.mono ?_
                  clear HC
                  rintro ee W2 ⟨bo, rfl, hbo, hb2⟩
                  have HB2 := Lib.hid (HB1.out.trans (hb2.mono HB1.out.size))
                  have HX2 := Lib.hid ((hb2.block _ (heap_lt HX1.out)).trans HX1.out)
                  clear hb2 hbo
                  cases bo with
                  | false =>
                    go_wp2_with fail
                    go_ret
                    exact ⟨false, rfl, (fun h => by cases h), HB2.out⟩
                  | true =>
                    go_wp2_with fail
                    go_roundw
                    case rel => exact ⟨j3 + 1, r - (ybs.length : Int), rfl, by go_num, by omega, by omega, by omega, HB2.out, HX2.out⟩
                    case measure => first | (simp [intOf]; done) | (simp [intOf]; omega)
                · obtain rfl : j3 = ss.length := by omega
                  have dj : decide ((ss.length : Int) < (ss.length : Int)) = false := by simp
                  have dj2 : decide (ss.length < ss.length) = false := by simp
                  have HBe3 := Lib.hid hbel
                  have HXe3 := Lib.hid hbox
                  clear HBl HXl hbel hbox hjl
                  go_wp2_with fail
                  go_ret
                  exact ⟨true, rfl, fun _ => HSum.out, HBe3.out⟩
end Go.Proofs.YtacjbgmnoiimbabGreat
