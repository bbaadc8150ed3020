/- Is a request short?: walked (printed by genWireFw.py). -/
import Derived.Test.YtacjbgmnoiimbabRfC
import Derived.Test.YtacjbgmnoiimbabRdQ
namespace Go.Proofs.Ytacjbgmnoiimbab
set_option linter.unusedVariables false
set_option linter.unusedSimpArgs false
open Go.RowKit

set_option maxRecDepth 100000 in
theorem parts_any (a b c d e f : ByteArray) (W : World) :
    Calls Try.prog 73 #[.agg #[.string a, .string b, .string c, .string d, .string e, .string f]] W fun ee W' => ∃ g, ee = .returned (.slice (some ⟨g, 0, none⟩) 6 6) ∧ Below W.heap.size W W' ∧ IsStrs W' (some ⟨g, 0, none⟩) [a, b, c, d, e, f] := by
  have hb1 := (Below.refl W.heap.size W).alloc (Nat.le_refl _) (.cells #[.string a, .string b, .string c, .string d, .string e, .string f] 71)
  have HB := Lib.hid (hb1.alloc hb1.size (.cells #[.string a, .string b, .string c, .string d, .string e, .string f] 9))
  have hst := strs_new (W.alloc (.cells #[.string a, .string b, .string c, .string d, .string e, .string f] 71)) [a, b, c, d, e, f]
  rw [alloc_size] at hst
  have HT : Hid (IsStrs ((W.alloc (.cells #[.string a, .string b, .string c, .string d, .string e, .string f] 71)).alloc (.cells #[.string a, .string b, .string c, .string d, .string e, .string f] 9)) (some ⟨W.heap.size + 1, 0, none⟩) [a, b, c, d, e, f]) := hst
  clear hst hb1
  go_enter Try.func73, Try.ntmps73
  go_wp2_with fail
  go_ret
  exact ⟨_, rfl, HB.out, HT.out⟩
/-- a tuple's parts are short -/
def shortP (t : Six) : Prop := t.1.1.size ≤ 100 ∧ t.1.2.1.size ≤ 100 ∧ t.1.2.2.size ≤ 100 ∧ t.2.1.size ≤ 100 ∧ t.2.2.1.size ≤ 100 ∧ t.2.2.2.size ≤ 100
def ShortIs (t : Six) (W : World) (e : Ending) (W' : World) : Prop := ∃ b, e = .returned (.bool b) ∧ (b = true → shortP t) ∧ Below W.heap.size W W'
set_option maxRecDepth 100000 in
set_option maxHeartbeats 1000000 in
theorem short_any (a b c d e f : ByteArray) (W : World) (hl : a.size ≤ 140737488351232 ∧ b.size ≤ 140737488351232 ∧ c.size ≤ 140737488351232 ∧ d.size ≤ 140737488351232 ∧ e.size ≤ 140737488351232 ∧ f.size ≤ 140737488351232) :
    Calls Try.prog 15 #[.agg #[.string a, .string b, .string c, .string d, .string e, .string f]] W (ShortIs ((a, b, c), d, e, f) W) := by
  have HB := Lib.hid ((Below.refl W.heap.size W).alloc (Nat.le_refl _) (.cells #[.string a, .string b, .string c, .string d, .string e, .string f] 71))
  have HC := Lib.hid (parts_any a b c d e f (W.alloc (.cells #[.string a, .string b, .string c, .string d, .string e, .string f] 71)))
  go_enter Try.func15, Try.ntmps15
  go_wp2_with fail
  refine HC.out.mono ?_
  clear HC
  rintro ee W1 ⟨g, rfl, hb, hst⟩
  have HB1 := Lib.hid (HB.out.trans (hb.mono HB.out.size))
  have HS := Lib.hid hst
  have HA0 : Hid (∀ k, k < 0 → (([a, b, c, d, e, f] : List ByteArray).getD k ByteArray.empty).size ≤ 100) := fun k hk => by omega
  clear hb hst
  go_wp2_with fail
  go_loopw [8] (fun iv wr => ∃ j : Nat, iv = .int .i64 j ∧ j ≤ 6 ∧ Hid (wr = W1 ∧ ∀ k, k < j → (([a, b, c, d, e, f] : List ByteArray).getD k ByteArray.empty).size ≤ 100)) (fun iv _ => 6 - (intOf iv).toNat)
  case atStart => exact ⟨0, rfl, Nat.zero_le _, rfl, HA0.out⟩
  case round =>
    clear HA0
    obtain ⟨j, rfl, hj, hst⟩ := hrel
    obtain ⟨rfl, hall⟩ := hst.out
    have HA := Lib.hid hall
    clear hst hall
    by_cases hjl : j < 6
    · have dj : decide ((j : Int) < 6) = true := decide_eq_true (by omega)
      have dj2 : decide (j < 6) = true := decide_eq_true (by omega)
      have hij : (j : Int) < 6 := by omega
      obtain ⟨b0, off, hab, hbb, hc⟩ := HS.out (by show 0 < 6; omega)
      cases hab
      have cj := hc j hjl
      rw [Nat.zero_add] at cj
      have hsz : (([a, b, c, d, e, f] : List ByteArray).getD j ByteArray.empty).size ≤ 140737488351232 := by
        match j, hjl with
        | 0, _ => exact hl.1
        | 1, _ => exact hl.2.1
        | 2, _ => exact hl.2.2.1
        | 3, _ => exact hl.2.2.2.1
        | 4, _ => exact hl.2.2.2.2.1
        | 5, _ => exact hl.2.2.2.2.2
      clear hc
      by_cases h100 : 100 < (([a, b, c, d, e, f] : List ByteArray).getD j ByteArray.empty).size
      · have d100 : decide ((100 : Int) < ((([a, b, c, d, e, f] : List ByteArray).getD j ByteArray.empty).size : Int)) = true := decide_eq_true (by omega)
        have d101 : decide (100 < (([a, b, c, d, e, f] : List ByteArray).getD j ByteArray.empty).size) = true := decide_eq_true h100
        generalize ([a, b, c, d, e, f] : List ByteArray).getD j ByteArray.empty = s at *
        go_wp2_with fail
        go_ret
        exact ⟨false, rfl, (fun h => by cases h), HB1.out⟩
      · have d100 : decide ((100 : Int) < ((([a, b, c, d, e, f] : List ByteArray).getD j ByteArray.empty).size : Int)) = false := decide_eq_false (by omega)
        have d101 : decide (100 < (([a, b, c, d, e, f] : List ByteArray).getD j ByteArray.empty).size) = false := decide_eq_false h100
        have HN : Hid (∀ k, k < j + 1 → (([a, b, c, d, e, f] : List ByteArray).getD k ByteArray.empty).size ≤ 100) := fun k hk => by
          by_cases hkj : k < j
          · exact HA.out k hkj
          · obtain rfl : k = j := by omega
            omega
        generalize hs : ([a, b, c, d, e, f] : List ByteArray).getD j ByteArray.empty = s at *
        have HSs := Lib.hid hs
        clear hs
        go_wp2_with fail
        go_roundw
        case rel => exact ⟨j + 1, by go_num, by omega, by first | exact ⟨rfl, HN.out⟩ | exact ⟨trivial, HN.out⟩⟩
        case measure => first | (simp [intOf]; done) | (simp [intOf]; omega)
    · obtain rfl : j = 6 := by omega
      have HE : Hid (shortP ((a, b, c), d, e, f)) := ⟨HA.out 0 (by omega), HA.out 1 (by omega), HA.out 2 (by omega), HA.out 3 (by omega), HA.out 4 (by omega), HA.out 5 (by omega)⟩
      go_wp2_with fail
      go_ret
      exact ⟨true, rfl, fun _ => HE.out, HB1.out⟩
/-- a request is short -/
def fewP (q : RQ) : Prop := q.2.2.2.2.2.2.2.2.1.length + q.2.2.2.2.2.2.2.2.2.1.length + q.2.2.2.2.2.2.2.2.2.2.1.length + q.2.2.2.2.2.2.2.2.2.2.2.length ≤ 60 ∧
  q.1.size + q.2.2.2.2.1.size + q.2.2.2.2.2.2.1.size + q.2.2.2.2.2.2.2.1.1.size + q.2.2.2.2.2.2.2.1.2.1.size + q.2.2.2.2.2.2.2.1.2.2.size ≤ 600 ∧
  (∀ x ∈ q.2.2.2.2.2.2.2.2.1, shortP x.2) ∧ (∀ x ∈ q.2.2.2.2.2.2.2.2.2.1, shortP x.2) ∧ (∀ x ∈ q.2.2.2.2.2.2.2.2.2.2.1, shortP x) ∧ (∀ x ∈ q.2.2.2.2.2.2.2.2.2.2.2, x.1.size + x.2.2.2.size ≤ 300)
def FewIs (q : RQ) (W : World) (e : Ending) (W' : World) : Prop := ∃ b, e = .returned (.bool b) ∧ (b = true → fewP q) ∧ Below W.heap.size W W'
def sixB (t : Six) : Prop := t.1.1.size ≤ 140737488351232 ∧ t.1.2.1.size ≤ 140737488351232 ∧ t.1.2.2.size ≤ 140737488351232 ∧ t.2.1.size ≤ 140737488351232 ∧ t.2.2.1.size ≤ 140737488351232 ∧ t.2.2.2.size ≤ 140737488351232
theorem all_of {T : Type} [Inhabited T] {P : T → Prop} {xs : List T} (h : ∀ k, k < xs.length → P (xs.getD k default)) : ∀ x ∈ xs, P x := fun x hx => by
  obtain ⟨k, hk, rfl⟩ := List.mem_iff_getElem.1 hx
  have := h k hk
  rwa [List.getD_eq_getElem?_getD, List.getElem?_eq_getElem hk, Option.getD_some] at this
set_option maxRecDepth 100000 in
set_option maxHeartbeats 8000000 in
theorem few_any (cl : ByteArray) (id : Nat) (kd hw : Int) (tk : ByteArray) (n : Nat) (ty f1 f2 f3 : ByteArray) (wa : Option Addr) (wq : Nat) (ws : List Wrt) (pa : Option Addr) (pc : Nat) (ps : List Wrt) (aa : Option Addr) (ac : Nat) (ks : List Six) (ga : Option Addr) (gc : Nat) (gs : List ArgT) (W : World) (hws : IsEls wrtC 7 W wa ws) (hps : IsEls wrtC 7 W pa ps) (hks : IsEls sixC 6 W aa ks) (hgs : IsEls argC 4 W ga gs)
    (hlw : ws.length ≤ 140737488351232) (hlp : ps.length ≤ 140737488351232) (hlk : ks.length ≤ 140737488351232) (hlg : gs.length ≤ 140737488351232) (hcl : cl.size ≤ 140737488351232) (htk : tk.size ≤ 140737488351232) (hty : ty.size ≤ 140737488351232) (hf1 : f1.size ≤ 140737488351232) (hf2 : f2.size ≤ 140737488351232) (hf3 : f3.size ≤ 140737488351232)
    (hbw : ∀ x ∈ ws, sixB x.2) (hbp : ∀ x ∈ ps, sixB x.2) (hbk : ∀ x ∈ ks, sixB x) (hbg : ∀ x ∈ gs, x.1.size ≤ 140737488351232 ∧ x.2.2.2.size ≤ 140737488351232) :
    Calls Try.prog 7 #[.agg #[.string cl, .int .u64 (id : Int), .int .i64 kd, .int .i64 hw, .string tk, .int .u64 (n : Int), .string ty, .string f1, .string f2, .string f3, .slice wa ws.length wq, .slice pa ps.length pc, .slice aa ks.length ac, .slice ga gs.length gc]] W (FewIs (cl, id, kd, hw, tk, n, ty, (f1, f2, f3), ws, ps, ks, gs) W) := by
  have HWs := Lib.hid hws
  have HPs := Lib.hid hps
  have HKs := Lib.hid hks
  have HGs := Lib.hid hgs
  have HBw := Lib.hid hbw
  have HBp := Lib.hid hbp
  have HBk := Lib.hid hbk
  have HBg := Lib.hid hbg
  have hB0 := (Below.refl W.heap.size W).alloc (Nat.le_refl _) (.cells #[.string cl, .int .u64 (id : Int), .int .i64 kd, .int .i64 hw, .string tk, .int .u64 (n : Int), .string ty, .string f1, .string f2, .string f3, .slice wa ws.length wq, .slice pa ps.length pc, .slice aa ks.length ac, .slice ga gs.length gc] 30)
  have HB0 := Lib.hid hB0
  have HX0 := Lib.hid (heap_alloc_new W (.cells #[.string cl, .int .u64 (id : Int), .int .i64 kd, .int .i64 hw, .string tk, .int .u64 (n : Int), .string ty, .string f1, .string f2, .string f3, .slice wa ws.length wq, .slice pa ps.length pc, .slice aa ks.length ac, .slice ga gs.length gc] 30))
  clear hws hps hks hgs hbw hbp hbk hbg hB0
  by_cases h60 : 60 < ws.length + ps.length + ks.length + gs.length
  · have d60 : decide ((60 : Int) < (ws.length : Int) + (ps.length : Int) + (ks.length : Int) + (gs.length : Int)) = true := decide_eq_true (by omega)
    have d61 : decide (60 < ws.length + ps.length + ks.length + gs.length) = true := decide_eq_true h60
    go_enter Try.func7, Try.ntmps7
    go_wp2_with fail
    go_ret
    exact ⟨false, rfl, (fun h => by cases h), HB0.out⟩
  · have d60 : decide ((60 : Int) < (ws.length : Int) + (ps.length : Int) + (ks.length : Int) + (gs.length : Int)) = false := decide_eq_false (by omega)
    have d61 : decide (60 < ws.length + ps.length + ks.length + gs.length) = false := decide_eq_false h60
    by_cases h600 : 600 < cl.size + tk.size + ty.size + f1.size + f2.size + f3.size
    · have d600 : decide ((600 : Int) < (cl.size : Int) + (tk.size : Int) + (ty.size : Int) + (f1.size : Int) + (f2.size : Int) + (f3.size : Int)) = true := decide_eq_true (by omega)
      have d601 : decide (600 < cl.size + tk.size + ty.size + f1.size + f2.size + f3.size) = true := decide_eq_true h600
      go_enter Try.func7, Try.ntmps7
      go_wp2_with fail
      go_ret
      exact ⟨false, rfl, (fun h => by cases h), HB0.out⟩
    · have d600 : decide ((600 : Int) < (cl.size : Int) + (tk.size : Int) + (ty.size : Int) + (f1.size : Int) + (f2.size : Int) + (f3.size : Int)) = false := decide_eq_false (by omega)
      have d601 : decide (600 < cl.size + tk.size + ty.size + f1.size + f2.size + f3.size) = false := decide_eq_false h600
      have HSum : Hid (ws.length + ps.length + ks.length + gs.length ≤ 60 ∧ cl.size + tk.size + ty.size + f1.size + f2.size + f3.size ≤ 600) := ⟨by omega, by omega⟩
      go_enter Try.func7, Try.ntmps7
      go_upto_region 3 with (fail)
      generalize (W.alloc (.cells #[.string cl, .int .u64 (id : Int), .int .i64 kd, .int .i64 hw, .string tk, .int .u64 (n : Int), .string ty, .string f1, .string f2, .string f3, .slice wa ws.length wq, .slice pa ps.length pc, .slice aa ks.length ac, .slice ga gs.length gc] 30)) = W0 at *
      obtain ⟨x, hx⟩ : ∃ x, x = W.heap.size := ⟨_, rfl⟩
      rw [← hx] at HX0
      rw [← hx]
      have HEx := Lib.hid hx
      clear hx d60 d61 d600 d601 h60 h600 hcl htk hty hf1 hf2 hf3
      have qq := heap_cell HX0.out 10
      simp at qq
      have HA0 : Hid (∀ k, k < 0 → (fun x : Wrt => shortP x.2) (ws.getD k default)) := fun k hk => by omega
      go_wp2_with fail
      go_loopw [59] (fun iv wr => ∃ j : Nat, iv = .int .i64 j ∧ j ≤ ws.length ∧ Hid (Below W.heap.size W wr ∧ wr.heap[x]? = some (.cells #[.string cl, .int .u64 (id : Int), .int .i64 kd, .int .i64 hw, .string tk, .int .u64 (n : Int), .string ty, .string f1, .string f2, .string f3, .slice wa ws.length wq, .slice pa ps.length pc, .slice aa ks.length ac, .slice ga gs.length gc] 30 (0, 0)) ∧ ∀ k, k < j → (fun x : Wrt => shortP x.2) (ws.getD k default))) (fun iv _ => ws.length - (intOf iv).toNat)
      case atStart => exact ⟨0, rfl, Nat.zero_le _, HB0.out, HX0.out, HA0.out⟩
      case round =>
        clear HA0 HB0 HX0 qq
        obtain ⟨j0, rfl, hj0, hst⟩ := hrel
        obtain ⟨hbel, hbox, hall⟩ := hst.out
        have HBl := Lib.hid hbel
        have HXl := Lib.hid hbox
        have HAl := Lib.hid hall
        clear hst hall
        by_cases hjl : j0 < ws.length
        · have dj : decide ((j0 : Int) < (ws.length : Int)) = true := decide_eq_true (by omega)
          have dj2 : decide (j0 < ws.length) = true := decide_eq_true (by omega)
          have hij : (j0 : Int) < (ws.length : Int) := by omega
          obtain ⟨b0, off0, rfl, hb, hc⟩ := (HWs.out.below hbel) (by omega)
          have c0 := hc j0 hjl 0 (by omega)
          have c1 := hc j0 hjl 1 (by omega)
          have c2 := hc j0 hjl 2 (by omega)
          have c3 := hc j0 hjl 3 (by omega)
          have c4 := hc j0 hjl 4 (by omega)
          have c5 := hc j0 hjl 5 (by omega)
          have c6 := hc j0 hjl 6 (by omega)
          have hbn := HBw.out _ (getD_mem hjl)
          have HN := Lib.hid (fun (hp : (fun x : Wrt => shortP x.2) (ws.getD j0 default)) => (fun k hk => by
            by_cases hkj : k < j0
            · exact HAl.out k hkj
            · obtain rfl : k = j0 := by omega
              exact hp : ∀ k, k < j0 + 1 → (fun x : Wrt => shortP x.2) (ws.getD k default)))
          clear hc hbel hbox
          generalize ws.getD j0 default = y at *
          obtain ⟨yz, ⟨ya, yb, yc⟩, yd, ye, yf⟩ := y
          simp [wrtC, sixC, triC] at c0 c1 c2 c3 c4 c5 c6
          have hB1 := (Below.refl wr.heap.size wr).alloc (Nat.le_refl _) (.cells #[.bool yz, .string ya, .string yb, .string yc, .string yd, .string ye, .string yf] 73)
          have HBa := Lib.hid (HBl.out.trans (hB1.mono HBl.out.size))
          have HXa := Lib.hid ((hB1.block _ (heap_lt HXl.out)).trans HXl.out)
          clear hB1
          have HC := Lib.hid (short_any ya yb yc yd ye yf (wr.alloc (.cells #[.bool yz, .string ya, .string yb, .string yc, .string yd, .string ye, .string yf] 73)) hbn)
          clear hbn hjl
          go_wp2_with fail
          refine HC.out.mono ?_
          clear HC
          rintro ee W1 ⟨bo, rfl, hbo, hb1⟩
          have HB1 := Lib.hid (HBa.out.trans (hb1.mono HBa.out.size))
          have HX1 := Lib.hid ((hb1.block _ (heap_lt HXa.out)).trans HXa.out)
          have HBo := Lib.hid hbo
          clear hb1 hbo
          cases bo with
          | false =>
            go_wp2_with fail
            go_ret
            exact ⟨false, rfl, (fun h => by cases h), HB1.out⟩
          | true =>
            have HNn := Lib.hid (HN.out (HBo.out rfl))
            go_wp2_with fail
            go_roundw
            case rel => exact ⟨j0 + 1, by go_num, by omega, HB1.out, HX1.out, HNn.out⟩
            case measure => first | (simp [intOf]; done) | (simp [intOf]; omega)
        · obtain rfl : j0 = ws.length := by omega
          have dj : decide ((ws.length : Int) < (ws.length : Int)) = false := by simp
          have HAll0 : Hid (∀ x ∈ ws, shortP x.2) := (all_of HAl.out : ∀ x ∈ ws, shortP x.2)
          have HBe0 := Lib.hid hbel
          have HXe0 := Lib.hid hbox
          clear HBl HXl HAl hbel hbox hjl
          have qq := heap_cell HXe0.out 11
          simp at qq
          have HA1 : Hid (∀ k, k < 0 → (fun x : Wrt => shortP x.2) (ps.getD k default)) := fun k hk => by omega
          go_wp2_with fail
          go_loopw [71] (fun iv wr => ∃ j : Nat, iv = .int .i64 j ∧ j ≤ ps.length ∧ Hid (Below W.heap.size W wr ∧ wr.heap[x]? = some (.cells #[.string cl, .int .u64 (id : Int), .int .i64 kd, .int .i64 hw, .string tk, .int .u64 (n : Int), .string ty, .string f1, .string f2, .string f3, .slice wa ws.length wq, .slice pa ps.length pc, .slice aa ks.length ac, .slice ga gs.length gc] 30 (0, 0)) ∧ ∀ k, k < j → (fun x : Wrt => shortP x.2) (ps.getD k default))) (fun iv _ => ps.length - (intOf iv).toNat)
          case atStart => exact ⟨0, rfl, Nat.zero_le _, HBe0.out, HXe0.out, HA1.out⟩
          case round =>
            clear HA1 HBe0 HXe0 qq
            obtain ⟨j1, rfl, hj1, hst⟩ := hrel
            obtain ⟨hbel, hbox, hall⟩ := hst.out
            have HBl := Lib.hid hbel
            have HXl := Lib.hid hbox
            have HAl := Lib.hid hall
            clear hst hall
            by_cases hjl : j1 < ps.length
            · have dj : decide ((j1 : Int) < (ps.length : Int)) = true := decide_eq_true (by omega)
              have dj2 : decide (j1 < ps.length) = true := decide_eq_true (by omega)
              have hij : (j1 : Int) < (ps.length : Int) := by omega
              obtain ⟨b1, off1, rfl, hb, hc⟩ := (HPs.out.below hbel) (by omega)
              have c0 := hc j1 hjl 0 (by omega)
              have c1 := hc j1 hjl 1 (by omega)
              have c2 := hc j1 hjl 2 (by omega)
              have c3 := hc j1 hjl 3 (by omega)
              have c4 := hc j1 hjl 4 (by omega)
              have c5 := hc j1 hjl 5 (by omega)
              have c6 := hc j1 hjl 6 (by omega)
              have hbn := HBp.out _ (getD_mem hjl)
              have HN := Lib.hid (fun (hp : (fun x : Wrt => shortP x.2) (ps.getD j1 default)) => (fun k hk => by
                by_cases hkj : k < j1
                · exact HAl.out k hkj
                · obtain rfl : k = j1 := by omega
                  exact hp : ∀ k, k < j1 + 1 → (fun x : Wrt => shortP x.2) (ps.getD k default)))
              clear hc hbel hbox
              generalize ps.getD j1 default = y at *
              obtain ⟨yz, ⟨ya, yb, yc⟩, yd, ye, yf⟩ := y
              simp [wrtC, sixC, triC] at c0 c1 c2 c3 c4 c5 c6
              have hB1 := (Below.refl wr.heap.size wr).alloc (Nat.le_refl _) (.cells #[.bool yz, .string ya, .string yb, .string yc, .string yd, .string ye, .string yf] 76)
              have HBa := Lib.hid (HBl.out.trans (hB1.mono HBl.out.size))
              have HXa := Lib.hid ((hB1.block _ (heap_lt HXl.out)).trans HXl.out)
              clear hB1
              have HC := Lib.hid (short_any ya yb yc yd ye yf (wr.alloc (.cells #[.bool yz, .string ya, .string yb, .string yc, .string yd, .string ye, .string yf] 76)) hbn)
              clear hbn hjl
              go_wp2_with fail
              refine HC.out.mono ?_
              clear HC
              rintro ee W1 ⟨bo, rfl, hbo, hb1⟩
              have HB1 := Lib.hid (HBa.out.trans (hb1.mono HBa.out.size))
              have HX1 := Lib.hid ((hb1.block _ (heap_lt HXa.out)).trans HXa.out)
              have HBo := Lib.hid hbo
              clear hb1 hbo
              cases bo with
              | false =>
                go_wp2_with fail
                go_ret
                exact ⟨false, rfl, (fun h => by cases h), HB1.out⟩
              | true =>
                have HNn := Lib.hid (HN.out (HBo.out rfl))
                go_wp2_with fail
                go_roundw
                case rel => exact ⟨j1 + 1, by go_num, by omega, HB1.out, HX1.out, HNn.out⟩
                case measure => first | (simp [intOf]; done) | (simp [intOf]; omega)
            · obtain rfl : j1 = ps.length := by omega
              have dj : decide ((ps.length : Int) < (ps.length : Int)) = false := by simp
              have HAll1 : Hid (∀ x ∈ ps, shortP x.2) := (all_of HAl.out : ∀ x ∈ ps, shortP x.2)
              have HBe1 := Lib.hid hbel
              have HXe1 := Lib.hid hbox
              clear HBl HXl HAl hbel hbox hjl
              have qq := heap_cell HXe1.out 12
              simp at qq
              have HA2 : Hid (∀ k, k < 0 → (fun x : Six => shortP x) (ks.getD k default)) := fun k hk => by omega
              go_wp2_with fail
              go_loopw [83] (fun iv wr => ∃ j : Nat, iv = .int .i64 j ∧ j ≤ ks.length ∧ Hid (Below W.heap.size W wr ∧ wr.heap[x]? = some (.cells #[.string cl, .int .u64 (id : Int), .int .i64 kd, .int .i64 hw, .string tk, .int .u64 (n : Int), .string ty, .string f1, .string f2, .string f3, .slice wa ws.length wq, .slice pa ps.length pc, .slice aa ks.length ac, .slice ga gs.length gc] 30 (0, 0)) ∧ ∀ k, k < j → (fun x : Six => shortP x) (ks.getD k default))) (fun iv _ => ks.length - (intOf iv).toNat)
              case atStart => exact ⟨0, rfl, Nat.zero_le _, HBe1.out, HXe1.out, HA2.out⟩
              case round =>
                clear HA2 HBe1 HXe1 qq
                obtain ⟨j2, rfl, hj2, hst⟩ := hrel
                obtain ⟨hbel, hbox, hall⟩ := hst.out
                have HBl := Lib.hid hbel
                have HXl := Lib.hid hbox
                have HAl := Lib.hid hall
                clear hst hall
                by_cases hjl : j2 < ks.length
                · have dj : decide ((j2 : Int) < (ks.length : Int)) = true := decide_eq_true (by omega)
                  have dj2 : decide (j2 < ks.length) = true := decide_eq_true (by omega)
                  have hij : (j2 : Int) < (ks.length : Int) := by omega
                  obtain ⟨b2, off2, rfl, hb, hc⟩ := (HKs.out.below hbel) (by omega)
                  have c0 := hc j2 hjl 0 (by omega)
                  have c1 := hc j2 hjl 1 (by omega)
                  have c2 := hc j2 hjl 2 (by omega)
                  have c3 := hc j2 hjl 3 (by omega)
                  have c4 := hc j2 hjl 4 (by omega)
                  have c5 := hc j2 hjl 5 (by omega)
                  have hbn := HBk.out _ (getD_mem hjl)
                  have HN := Lib.hid (fun (hp : (fun x : Six => shortP x) (ks.getD j2 default)) => (fun k hk => by
                    by_cases hkj : k < j2
                    · exact HAl.out k hkj
                    · obtain rfl : k = j2 := by omega
                      exact hp : ∀ k, k < j2 + 1 → (fun x : Six => shortP x) (ks.getD k default)))
                  clear hc hbel hbox
                  generalize ks.getD j2 default = y at *
                  obtain ⟨⟨ya, yb, yc⟩, yd, ye, yf⟩ := y
                  simp [sixC, triC] at c0 c1 c2 c3 c4 c5
                  have hB1 := (Below.refl wr.heap.size wr).alloc (Nat.le_refl _) (.cells #[.string ya, .string yb, .string yc, .string yd, .string ye, .string yf] 78)
                  have HBa := Lib.hid (HBl.out.trans (hB1.mono HBl.out.size))
                  have HXa := Lib.hid ((hB1.block _ (heap_lt HXl.out)).trans HXl.out)
                  clear hB1
                  have HC := Lib.hid (short_any ya yb yc yd ye yf (wr.alloc (.cells #[.string ya, .string yb, .string yc, .string yd, .string ye, .string yf] 78)) hbn)
                  clear hbn hjl
                  go_wp2_with fail
                  refine HC.out.mono ?_
                  clear HC
                  rintro ee W1 ⟨bo, rfl, hbo, hb1⟩
                  have HB1 := Lib.hid (HBa.out.trans (hb1.mono HBa.out.size))
                  have HX1 := Lib.hid ((hb1.block _ (heap_lt HXa.out)).trans HXa.out)
                  have HBo := Lib.hid hbo
                  clear hb1 hbo
                  cases bo with
                  | false =>
                    go_wp2_with fail
                    go_ret
                    exact ⟨false, rfl, (fun h => by cases h), HB1.out⟩
                  | true =>
                    have HNn := Lib.hid (HN.out (HBo.out rfl))
                    go_wp2_with fail
                    go_roundw
                    case rel => exact ⟨j2 + 1, by go_num, by omega, HB1.out, HX1.out, HNn.out⟩
                    case measure => first | (simp [intOf]; done) | (simp [intOf]; omega)
                · obtain rfl : j2 = ks.length := by omega
                  have dj : decide ((ks.length : Int) < (ks.length : Int)) = false := by simp
                  have HAll2 : Hid (∀ x ∈ ks, shortP x) := (all_of HAl.out : ∀ x ∈ ks, shortP x)
                  have HBe2 := Lib.hid hbel
                  have HXe2 := Lib.hid hbox
                  clear HBl HXl HAl hbel hbox hjl
                  have qq := heap_cell HXe2.out 13
                  simp at qq
                  have HA3 : Hid (∀ k, k < 0 → (fun x : ArgT => x.1.size + x.2.2.2.size ≤ 300) (gs.getD k default)) := fun k hk => by omega
                  go_wp2_with fail
                  go_loopw [102] (fun iv wr => ∃ j : Nat, iv = .int .i64 j ∧ j ≤ gs.length ∧ Hid (Below W.heap.size W wr ∧ wr.heap[x]? = some (.cells #[.string cl, .int .u64 (id : Int), .int .i64 kd, .int .i64 hw, .string tk, .int .u64 (n : Int), .string ty, .string f1, .string f2, .string f3, .slice wa ws.length wq, .slice pa ps.length pc, .slice aa ks.length ac, .slice ga gs.length gc] 30 (0, 0)) ∧ ∀ k, k < j → (fun x : ArgT => x.1.size + x.2.2.2.size ≤ 300) (gs.getD k default))) (fun iv _ => gs.length - (intOf iv).toNat)
                  case atStart => exact ⟨0, rfl, Nat.zero_le _, HBe2.out, HXe2.out, HA3.out⟩
                  case round =>
                    clear HA3 HBe2 HXe2 qq
                    obtain ⟨j3, rfl, hj3, hst⟩ := hrel
                    obtain ⟨hbel, hbox, hall⟩ := hst.out
                    have HBl := Lib.hid hbel
                    have HXl := Lib.hid hbox
                    have HAl := Lib.hid hall
                    clear hst hall
                    by_cases hjl : j3 < gs.length
                    · have dj : decide ((j3 : Int) < (gs.length : Int)) = true := decide_eq_true (by omega)
                      have dj2 : decide (j3 < gs.length) = true := decide_eq_true (by omega)
                      have hij : (j3 : Int) < (gs.length : Int) := by omega
                      obtain ⟨b3, off3, rfl, hb, hc⟩ := (HGs.out.below hbel) (by omega)
                      have c0 := hc j3 hjl 0 (by omega)
                      have c1 := hc j3 hjl 1 (by omega)
                      have c2 := hc j3 hjl 2 (by omega)
                      have c3 := hc j3 hjl 3 (by omega)
                      have hbn := HBg.out _ (getD_mem hjl)
                      have HN := Lib.hid (fun (hp : (fun x : ArgT => x.1.size + x.2.2.2.size ≤ 300) (gs.getD j3 default)) => (fun k hk => by
                        by_cases hkj : k < j3
                        · exact HAl.out k hkj
                        · obtain rfl : k = j3 := by omega
                          exact hp : ∀ k, k < j3 + 1 → (fun x : ArgT => x.1.size + x.2.2.2.size ≤ 300) (gs.getD k default)))
                      clear hc hbel hbox
                      generalize gs.getD j3 default = y at *
                      obtain ⟨ya, ym, yn, yb⟩ := y
                      simp [argC] at c0 c1 c2 c3
                      have hB1 := (Below.refl wr.heap.size wr).alloc (Nat.le_refl _) (.cells #[.string ya, .int .i64 ym, .int .i64 yn, .string yb] 82)
                      have HBa := Lib.hid (HBl.out.trans (hB1.mono HBl.out.size))
                      have HXa := Lib.hid ((hB1.block _ (heap_lt HXl.out)).trans HXl.out)
                      clear hB1
                      by_cases h300 : 300 < ya.size + yb.size
                      · have d300 : decide ((300 : Int) < (ya.size : Int) + (yb.size : Int)) = true := decide_eq_true (by omega)
                        have d301 : decide (300 < ya.size + yb.size) = true := decide_eq_true h300
                        have hq1 := hbn.1
                        have hq2 := hbn.2
                        simp only at hq1 hq2
                        clear hjl
                        go_wp2_with fail
                        go_ret
                        exact ⟨false, rfl, (fun h => by cases h), HBa.out⟩
                      · have d300 : decide ((300 : Int) < (ya.size : Int) + (yb.size : Int)) = false := decide_eq_false (by omega)
                        have d301 : decide (300 < ya.size + yb.size) = false := decide_eq_false h300
                        have HNn := Lib.hid (HN.out (Nat.le_of_not_lt h300))
                        have hq1 := hbn.1
                        have hq2 := hbn.2
                        simp only at hq1 hq2
                        clear hjl
                        go_wp2_with fail
                        go_roundw
                        case rel => exact ⟨j3 + 1, by go_num, by omega, HBa.out, HXa.out, HNn.out⟩
                        case measure => first | (simp [intOf]; done) | (simp [intOf]; omega)
                    · obtain rfl : j3 = gs.length := by omega
                      have dj : decide ((gs.length : Int) < (gs.length : Int)) = false := by simp
                      have HAll3 : Hid (∀ x ∈ gs, x.1.size + x.2.2.2.size ≤ 300) := (all_of HAl.out : ∀ x ∈ gs, x.1.size + x.2.2.2.size ≤ 300)
                      have HBe3 := Lib.hid hbel
                      have HXe3 := Lib.hid hbox
                      clear HBl HXl HAl hbel hbox hjl
                      go_wp2_with fail
                      go_ret
                      exact ⟨true, rfl, fun _ => ⟨HSum.out.1, HSum.out.2, HAll0.out, HAll1.out, HAll2.out, HAll3.out⟩, HBe3.out⟩
end Go.Proofs.Ytacjbgmnoiimbab
