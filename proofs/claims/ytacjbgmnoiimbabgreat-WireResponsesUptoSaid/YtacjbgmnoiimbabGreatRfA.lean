/- The document's small encoders: walked. -/
import Derived.Test.YtacjbgmnoiimbabGreatWrH
namespace Go.Proofs.YtacjbgmnoiimbabGreat
set_option linter.unusedVariables false
set_option linter.unusedSimpArgs false
open Go.RowKit

/-- what the document's encoders do: a new row -/
def RF (l en : List UInt8) (W : World) (e : Ending) (W' : World) : Prop := ∃ v', e = .returned v' ∧ W'.ownsRow W.heap.size 5 1 v' (l ++ en).length (bytesV (l ++ en)) ∧ Below W.heap.size W W'
theorem RF.to {l en en2 : List UInt8} {W W' : World} {e : Ending} (h : RF l en W e W') (he : en = en2) : RF l en2 W e W' := by subst he; exact h
theorem rmany_any (a : Option Addr) (cap : Nat) (l : List UInt8) (n : Nat) (W : World) (hl : l.length ≤ 1000000000) (hn : n ≤ 1000000000) (h : IsBytes W a l) :
    Calls Tryz.prog 53 #[.slice a l.length cap, .int .i64 n] W (RF l (uv n) W) := by
  have HC := Lib.hid (refput_any a cap l n W hl (by omega) h)
  have hw : IntKind.u64.wrap (n : Int) = (n : Int) := by rw [IntKind.wrap_u64]; omega
  clear h
  go_enter Tryz.func53, Tryz.ntmps53
  go_wp2_with fail
  refine HC.out.mono ?_
  clear HC
  rintro e W1 ⟨v', rfl, h1, h2⟩
  have HE : Hid (RF l (uv n) W (.returned v') W1) := ⟨v', rfl, h1, h2⟩
  clear h1 h2
  go_wp2_with fail
  go_ret
  exact HE.out
theorem rwhole_any (a : Option Addr) (cap : Nat) (l : List UInt8) (n : Int) (W : World) (hl : l.length ≤ 1000000000) (hn : iok n) (h : IsBytes W a l) :
    Calls Tryz.prog 50 #[.slice a l.length cap, .int .i64 n] W (RF l (intE n) W) := by
  have HC := Lib.hid (refput_any a cap l (zig n) W hl (zig_lt hn) h)
  have HN := Lib.hid hn
  unfold iok at hn
  clear h
  by_cases h0 : n < 0
  · have d0 : decide (n < 0) = true := decide_eq_true h0
    have hz : zig n = 2 * (-(n + 1)).toNat + 1 := by unfold zig; rw [if_pos h0]
    have e0 : IntKind.i64.wrap (n + 1) = n + 1 := by rw [IntKind.wrap_i64]; omega
    have e1 : IntKind.u64.wrap (-(n + 1)) = ((-(n + 1)).toNat : Int) := by rw [IntKind.wrap_u64]; omega
    have e2 : ((zig n : Nat) : Int) = 2 * ((-(n + 1)).toNat : Int) + 1 := by rw [hz]; omega
    have HZ := Lib.hid e2
    generalize hm : (-(n + 1)).toNat = m at *
    have hml : m < 9223372036854775808 := by omega
    have HM : Hid (-(n + 1) = (m : Int)) := by
      show _ = _
      omega
    have e3 : IntKind.i64.wrap (-(n + 1)) = (m : Int) := by rw [HM.out, IntKind.wrap_i64]; omega
    have e4 : -(n + 1) = (m : Int) := HM.out
    have e5 : IntKind.u64.wrap (m : Int) = (m : Int) := by rw [IntKind.wrap_u64]; omega
    have e6 : IntKind.u64.wrap (2 * (m : Int)) = 2 * (m : Int) := by rw [IntKind.wrap_u64]; omega
    have e7 : IntKind.u64.wrap (2 * (m : Int) + 1) = 2 * (m : Int) + 1 := by rw [IntKind.wrap_u64]; omega
    clear hm e2 hz e1
    go_enter Tryz.func50, Tryz.ntmps50
    go_wp2_with fail
    rw [← HZ.out]
    refine HC.out.mono ?_
    clear HC
    rintro e W1 ⟨v', rfl, h1, h2⟩
    have HE : Hid (RF l (intE n) W (.returned v') W1) := ⟨v', rfl, h1, h2⟩
    clear h1 h2
    go_wp2_with fail
    go_ret
    exact HE.out
  · have d0 : decide (n < 0) = false := decide_eq_false h0
    obtain ⟨m, hm⟩ : ∃ m : Nat, n = (m : Int) := ⟨n.toNat, by omega⟩
    subst hm
    have hz : zig (m : Int) = 2 * m := by unfold zig; rw [if_neg h0]; omega
    have HZ : Hid (((zig (m : Int) : Nat) : Int) = 2 * (m : Int)) := by
      show _ = _
      rw [hz]; omega
    have hml : m < 9223372036854775808 := by omega
    have e5 : IntKind.u64.wrap (m : Int) = (m : Int) := by rw [IntKind.wrap_u64]; omega
    have e6 : IntKind.u64.wrap (2 * (m : Int)) = 2 * (m : Int) := by rw [IntKind.wrap_u64]; omega
    clear hz
    go_enter Tryz.func50, Tryz.ntmps50
    go_wp2_with fail
    rw [← HZ.out]
    refine HC.out.mono ?_
    clear HC
    rintro e W1 ⟨v', rfl, h1, h2⟩
    have HE : Hid (RF l (intE (m : Int)) W (.returned v') W1) := ⟨v', rfl, h1, h2⟩
    clear h1 h2
    go_wp2_with fail
    go_ret
    exact HE.out
/-- a row of bytes of one's own -/
def Own5 (B : Nat) (W : World) (v : Value) (l : List UInt8) : Prop := W.ownsRow B 5 1 v l.length (bytesV l)
theorem bytes_one (W : World) (c : UInt8) : (W.alloc (.cells #[.int .u8 (c.toNat : Int)] 5)).cell? ⟨W.heap.size, 0, none⟩ = some (.int .u8 (c.toNat : Int)) := heap_cell (heap_alloc_new W _) 0
set_option maxRecDepth 100000 in
theorem rtruth_any (B : Nat) (v : Value) (l : List UInt8) (b : Bool) (W : World) (hl : l.length ≤ 1000000000) (h : Own5 B W v l) (hB : B ≤ W.heap.size) :
    Calls Tryz.prog 54 #[v, .bool b] W fun e W' => ∃ v', e = .returned v' ∧ Own5 B W' v' (l ++ boolE b) ∧ Below B W W' := by
  obtain ⟨i5, hi5, z0, z1, z2⟩ := info_parts Tryz.info5
  have HR := Lib.hid h
  clear h
  obtain ⟨a, n, c, rfl⟩ := row_slice HR.out
  have hn := row_len' HR.out
  subst hn
  cases b with
  | true =>
    have HRx : Hid ((W.alloc (.cells #[.int .u8 1] 5)).ownsRow B 5 1 (.slice a l.length c) l.length (bytesV l)) := HR.out.alloc _
    have HBx := Lib.hid ((Below.refl B W).alloc hB (.cells #[.int .u8 1] 5))
    have e1 : bytesV (l ++ [1]) = bytesV l ++ [.int .u8 1] := bytesV_append l [1]
    go_enter Tryz.func54, Tryz.ntmps54
    go_wp2_with (at_builtin; refine wpList_append_one W rfl (.tmp 6) (.tmp 7) 39 rfl B 5 i5 _ 1 Tryz.underlying39 hi5 z0 z1 z2 rfl (.slice a l.length c) l.length (bytesV l) (by rfl) HR.out (.int .u8 1) 1 (by rfl) rfl (by omega) (by omega) hB ?_; intro v6 w6 hrow6 hg6 hnn; have HB6 := Lib.hid (Below.own (Below.refl B W) HR.out (Nat.le_refl _) hB hg6); have HR6 := Lib.hid hrow6; clear hrow6 hg6 hnn)
    go_ret
    exact ⟨_, rfl, by
      unfold Own5
      rw [boolE_eq, List.length_append]
      show w6.ownsRow B 5 1 _ (l.length + 1) (bytesV (l ++ [1]))
      rw [e1]; exact HR6.out, HB6.out⟩
  | false =>
    have HRx : Hid ((W.alloc (.cells #[.int .u8 0] 5)).ownsRow B 5 1 (.slice a l.length c) l.length (bytesV l)) := HR.out.alloc _
    have HBx := Lib.hid ((Below.refl B W).alloc hB (.cells #[.int .u8 0] 5))
    have e1 : bytesV (l ++ [0]) = bytesV l ++ [.int .u8 0] := bytesV_append l [0]
    go_enter Tryz.func54, Tryz.ntmps54
    go_wp2_with (at_builtin; refine wpList_append_one W rfl (.tmp 9) (.tmp 10) 39 rfl B 5 i5 _ 1 Tryz.underlying39 hi5 z0 z1 z2 rfl (.slice a l.length c) l.length (bytesV l) (by rfl) HR.out (.int .u8 0) 1 (by rfl) rfl (by omega) (by omega) hB ?_; intro v6 w6 hrow6 hg6 hnn; have HB6 := Lib.hid (Below.own (Below.refl B W) HR.out (Nat.le_refl _) hB hg6); have HR6 := Lib.hid hrow6; clear hrow6 hg6 hnn)
    go_ret
    exact ⟨_, rfl, by
      unfold Own5
      rw [boolE_eq, List.length_append]
      show w6.ownsRow B 5 1 _ (l.length + 1) (bytesV (l ++ [0]))
      rw [e1]; exact HR6.out, HB6.out⟩
def TxRel (a : Option Addr) (cap : Nat) (l : List UInt8) (xs : List ByteArray) (W : World) (j : Nat) (v : Value) (wr : World) : Prop := Below W.heap.size W wr ∧ ((j = 0 ∧ v = .slice a l.length cap) ∨ wr.ownsRow W.heap.size 5 1 v (l ++ bodyE txt (xs.take j)).length (bytesV (l ++ bodyE txt (xs.take j))))
theorem row_lower {w : World} {base : Nat} {e : TypeId} {size : Nat} {v : Value} {n : Nat} {xs : List Value} (h : w.ownsRow base e size v n xs) {b : Nat} (hb : b ≤ base) : w.ownsRow b e size v n xs := by
  refine ⟨h.1, ?_⟩
  rcases h.2 with e | ⟨g, cap, cur, h1, h2, h3⟩
  · exact .inl e
  · exact .inr ⟨g, cap, cur, h1, by omega, h3⟩
set_option maxRecDepth 100000 in
set_option maxHeartbeats 1000000 in
theorem rtexts_any (a : Option Addr) (cap : Nat) (l : List UInt8) (sa : Option Addr) (sc : Nat) (xs : List ByteArray) (W : World) (hl : l.length + (bodyE txt xs).length ≤ 1000000000) (h0 : 0 < xs.length) (hn : xs.length ≤ 1000000) (h : IsBytes W a l) (hx : IsStrs W sa xs) :
    Calls Tryz.prog 52 #[.slice a l.length cap, .slice sa xs.length sc] W (RF l (bodyE txt xs) W) := by
  have H := Lib.hid h
  have HX := Lib.hid hx
  have HR0 : Hid (TxRel a cap l xs W 0 (.slice a l.length cap) W) := ⟨Below.refl _ _, .inl ⟨rfl, rfl⟩⟩
  clear h hx
  go_enter Tryz.func52, Tryz.ntmps52
  go_wp2_with fail
  go_loopw [0, 9] (fun ov iv wr => ∃ (j : Nat) (oa : Option Addr) (on oc : Nat), ov = .slice oa on oc ∧ iv = .int .i64 j ∧ j ≤ xs.length ∧ Hid (TxRel a cap l xs W j (.slice oa on oc) wr)) (fun _ iv _ => xs.length - (intOf iv).toNat)
  case atStart => exact ⟨0, a, l.length, cap, rfl, rfl, Nat.zero_le _, HR0⟩
  case round =>
    clear HR0
    obtain ⟨j, oa, on, oc, rfl, rfl, hj, hst⟩ := hrel
    obtain ⟨hB, hcase⟩ := hst.out
    by_cases hjl : j < xs.length
    · have dj : decide ((j : Int) < (xs.length : Int)) = true := decide_eq_true (by omega)
      have hij : (j : Int) < (xs.length : Int) := by omega
      obtain ⟨b, off, rfl, hb, hc⟩ := (HX.out.below hB) (by omega)
      have c0 := hc j hjl
      have hbt := body_take txt xs j hjl
      have hble := body_le txt xs (j + 1)
      rw [hbt, List.length_append] at hble
      have hstate : ∃ lc : List UInt8, on = lc.length ∧ lc = l ++ bodyE txt (xs.take j) ∧ IsBytes wr oa lc := by
        rcases hcase with ⟨rfl, e⟩ | hr
        · cases e
          exact ⟨l, rfl, by rw [List.take_zero]; simp [bodyE], H.out.below hB⟩
        · have := row_len' hr
          exact ⟨_, this, rfl, row_bytes' hr⟩
      obtain ⟨lc, hon, hlc, hbl⟩ := hstate
      subst hon
      have hlcl : lc.length = l.length + (bodyE txt (xs.take j)).length := by rw [hlc, List.length_append]
      have hdef : xs.getD j default = xs.getD j ByteArray.empty := rfl
      rw [hdef] at hbt hble
      have htl := txt_len (xs.getD j ByteArray.empty)
      have HC := Lib.hid (refputtext_any oa oc lc (xs.getD j ByteArray.empty) wr (by omega) (by omega) hbl)
      have HB := Lib.hid hB
      have HBt := Lib.hid hbt
      have HLc := Lib.hid hlc
      clear hst hcase hbl hc hb hbt hlc hB hdef hlcl hble htl
      generalize xs.getD j ByteArray.empty = s at *
      go_wp2_with fail
      refine HC.out.mono ?_
      clear HC
      rintro e w1 ⟨v', rfl, hr, hb1⟩
      obtain ⟨a1, n1, c1, rfl⟩ := row_slice hr
      have HRN : Hid (TxRel a cap l xs W (j + 1) (.slice a1 n1 c1) w1) := ⟨HB.out.trans (hb1.mono HB.out.size), .inr (by
        rw [HBt.out, ← List.append_assoc, ← HLc.out]
        exact row_lower hr HB.out.size)⟩
      clear hr hb1
      go_wp2_with fail
      go_roundw
      case rel => exact ⟨j + 1, a1, n1, c1, rfl, by go_num, by omega, HRN⟩
      case measure => simp [intOf]; omega
    · obtain rfl : j = xs.length := by omega
      have dj : decide ((xs.length : Int) < (xs.length : Int)) = false := by simp
      have HE : Hid (RF l (bodyE txt xs) W (.returned (.slice oa on oc)) wr) := by
        rcases hcase with ⟨e, _⟩ | hr
        · omega
        · rw [List.take_length] at hr
          exact ⟨_, rfl, hr, hB⟩
      clear hst hcase hB
      go_wp2_with fail
      go_ret
      exact HE.out
end Go.Proofs.YtacjbgmnoiimbabGreat
