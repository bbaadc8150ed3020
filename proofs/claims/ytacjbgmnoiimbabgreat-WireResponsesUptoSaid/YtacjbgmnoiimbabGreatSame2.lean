/- Equal lists are told equal: walked (printed by genGreatSame.py). -/
import Derived.Test.YtacjbgmnoiimbabGreatRdR
namespace Go.Proofs.YtacjbgmnoiimbabGreat
set_option linter.unusedVariables false
set_option linter.unusedSimpArgs false
open Go.RowKit

theorem eqS (d : Nat) (x : ByteArray) (w : World) : (Op.equalIn (d + 1) 9 (.string x) (.string x)).run Tryz.prog w = .ok true w := by
  rw [Op.equalIn]
  simp [run_underlying Tryz.underlying9]
  cases x with | mk a =>
  show (a == a) = true
  simp
theorem eqI (d : Nat) (x : Int) (w : World) : (Op.equalIn (d + 1) 22 (.int .u64 x) (.int .u64 x)).run Tryz.prog w = .ok true w := by
  rw [Op.equalIn]
  simp [run_underlying Tryz.underlying22]
theorem eqB (d : Nat) (x : Bool) (w : World) : (Op.equalIn (d + 1) 4 (.bool x) (.bool x)).run Tryz.prog w = .ok true w := by
  rw [Op.equalIn]
  simp [run_underlying Tryz.underlying4]
set_option maxRecDepth 100000 in
theorem eqObj (d : Nat) (a b : ByteArray) (w : World) : (Op.equalIn (d + 2) 30 (.agg #[.string a, .string b]) (.agg #[.string a, .string b])).run Tryz.prog w = .ok true w := by
  rw [Op.equalIn]
  simp [run_underlying Tryz.underlying30, part, go_sem, eqS d]
set_option maxRecDepth 100000 in
theorem eqSub (d : Nat) (a b c : ByteArray) (w : World) : (Op.equalIn (d + 3) 60 (.agg #[.string a, .string b, .string c]) (.agg #[.string a, .string b, .string c])).run Tryz.prog w = .ok true w := by
  rw [Op.equalIn]
  simp [run_underlying Tryz.underlying60, part, go_sem, eqObj d, eqS (d + 1)]
set_option maxRecDepth 100000 in
theorem eqPt (d : Nat) (a b c : ByteArray) (w : World) : (Op.equalIn (d + 3) 68 (.agg #[.string a, .string b, .string c]) (.agg #[.string a, .string b, .string c])).run Tryz.prog w = .ok true w := by
  rw [Op.equalIn]
  simp [run_underlying Tryz.underlying68, part, go_sem, eqObj d, eqS (d + 1)]
set_option maxRecDepth 100000 in
theorem eqTup (d : Nat) (a b c e f g : ByteArray) (w : World) : (Op.equalIn (d + 4) 62 (.agg #[.string a, .string b, .string c, .string e, .string f, .string g]) (.agg #[.string a, .string b, .string c, .string e, .string f, .string g])).run Tryz.prog w = .ok true w := by
  rw [Op.equalIn]
  simp [run_underlying Tryz.underlying62, part, go_sem, eqSub d, eqObj (d + 1), eqS (d + 2)]
set_option maxRecDepth 100000 in
theorem eqWr (d : Nat) (z : Bool) (a b c e f g : ByteArray) (w : World) : (Op.equalIn (d + 5) 65 (.agg #[.bool z, .string a, .string b, .string c, .string e, .string f, .string g]) (.agg #[.bool z, .string a, .string b, .string c, .string e, .string f, .string g])).run Tryz.prog w = .ok true w := by
  rw [Op.equalIn]
  simp [run_underlying Tryz.underlying65, part, go_sem, eqTup d, eqB (d + 3)]
set_option maxRecDepth 100000 in
theorem eqEv (d : Nat) (n : Nat) (z : Bool) (a b c e f g : ByteArray) (w : World) : (Op.equalIn (d + 6) 67 (.agg #[.int .u64 (n : Int), .bool z, .string a, .string b, .string c, .string e, .string f, .string g]) (.agg #[.int .u64 (n : Int), .bool z, .string a, .string b, .string c, .string e, .string f, .string g])).run Tryz.prog w = .ok true w := by
  rw [Op.equalIn]
  simp [run_underlying Tryz.underlying67, part, go_sem, eqWr d, eqI (d + 4)]
theorem neqObj (a b : ByteArray) (w : World) : (binOp .neq 30 (.agg #[.string a, .string b]) (.agg #[.string a, .string b])).run Tryz.prog w = .ok (.bool false) w := by
  simp only [binOp]
  simp [Op.equal, Op.maxDepth, eqObj 9998]
theorem neqSub (a b c : ByteArray) (w : World) : (binOp .neq 60 (.agg #[.string a, .string b, .string c]) (.agg #[.string a, .string b, .string c])).run Tryz.prog w = .ok (.bool false) w := by
  simp only [binOp]
  simp [Op.equal, Op.maxDepth, eqSub 9997]
theorem neqPt (a b c : ByteArray) (w : World) : (binOp .neq 68 (.agg #[.string a, .string b, .string c]) (.agg #[.string a, .string b, .string c])).run Tryz.prog w = .ok (.bool false) w := by
  simp only [binOp]
  simp [Op.equal, Op.maxDepth, eqPt 9997]
theorem neqTup (a b c e f g : ByteArray) (w : World) : (binOp .neq 62 (.agg #[.string a, .string b, .string c, .string e, .string f, .string g]) (.agg #[.string a, .string b, .string c, .string e, .string f, .string g])).run Tryz.prog w = .ok (.bool false) w := by
  simp only [binOp]
  simp [Op.equal, Op.maxDepth, eqTup 9996]
theorem neqEv (n : Nat) (z : Bool) (a b c e f g : ByteArray) (w : World) : (binOp .neq 67 (.agg #[.int .u64 (n : Int), .bool z, .string a, .string b, .string c, .string e, .string f, .string g]) (.agg #[.int .u64 (n : Int), .bool z, .string a, .string b, .string c, .string e, .string f, .string g])).run Tryz.prog w = .ok (.bool false) w := by
  simp only [binOp]
  simp [Op.equal, Op.maxDepth, eqEv 9994]
def TrueIs (W : World) (e : Ending) (W' : World) : Prop := e = .returned (.bool true) ∧ Below W.heap.size W W'
set_option maxRecDepth 100000 in
set_option maxHeartbeats 1000000 in
theorem samebool_any (a1 a2 : Option Addr) (c1 c2 : Nat) (xs : List Bool) (W : World) (hl : xs.length ≤ 1000000000) (h1 : IsEls boolC 1 W a1 xs) (h2 : IsEls boolC 1 W a2 xs) :
    Calls Tryz.prog 60 #[.slice a1 xs.length c1, .slice a2 xs.length c2] W (TrueIs W) := by
  have hn : ((xs.length : Int) != (xs.length : Int)) = false := by simp
  have H1 := Lib.hid h1
  have H2 := Lib.hid h2
  clear h1 h2
  go_enter Tryz.func60, Tryz.ntmps60
  go_wp2_with fail
  go_loopw [13] (fun i wr => ∃ k : Nat, k ≤ xs.length ∧ i = .int .i64 k ∧ ∃ n, wr = W.drewN n) (fun i _ => xs.length - (intOf i).toNat)
  case atStart => exact ⟨0, Nat.zero_le _, rfl, 0, rfl⟩
  case round =>
    obtain ⟨k, hkl, rfl, n, rfl⟩ := hrel
    by_cases hlt : k < xs.length
    · obtain ⟨b, off, rfl, hb, hc⟩ := H1.out (by omega)
      obtain ⟨b2, off2, rfl, hb2, hc2⟩ := H2.out (by omega)
      have c0 := hc k hlt 0 (by omega)
      have e0 := hc2 k hlt 0 (by omega)
      have hdk : decide ((k : Int) < (xs.length : Int)) = true := by simp; omega
      have hi1 : (k : Int) < (xs.length : Int) := by omega
      clear hc hc2 hn
      generalize xs.getD k default = y at *
      obtain ⟨yz, hyz⟩ : ∃ yz, yz = y := ⟨_, rfl⟩
      rw [← hyz] at c0 e0
      clear hyz
      simp [boolC] at c0 e0
      have hcmp := fun W0 => (show (binOp .neq 4 (.bool yz) (.bool yz)).run Tryz.prog W0 = .ok (.bool false) W0 from by simp [binOp, Op.equal, Op.maxDepth, eqB 9999])
      go_wp2_with fail
      go_quiet (fail)
      go_wp2_with fail
      go_roundw
      case rel => exact ⟨k + 1, by omega, by go_num, _, rfl⟩
      case measure => first | (simp [intOf]; done) | (simp [intOf]; omega)
    · obtain rfl : k = xs.length := by omega
      have hdk : decide ((xs.length : Int) < (xs.length : Int)) = false := by simp
      clear hn
      go_wp2_with fail
      go_ret
      exact ⟨rfl, Below.drewN (Below.refl _ _) _⟩
set_option maxRecDepth 100000 in
set_option maxHeartbeats 1000000 in
theorem sametup_any (a1 a2 : Option Addr) (c1 c2 : Nat) (xs : List Six) (W : World) (hl : xs.length ≤ 1000000000) (h1 : IsEls sixC 6 W a1 xs) (h2 : IsEls sixC 6 W a2 xs) :
    Calls Tryz.prog 61 #[.slice a1 xs.length c1, .slice a2 xs.length c2] W (TrueIs W) := by
  have hn : ((xs.length : Int) != (xs.length : Int)) = false := by simp
  have H1 := Lib.hid h1
  have H2 := Lib.hid h2
  clear h1 h2
  go_enter Tryz.func61, Tryz.ntmps61
  go_wp2_with fail
  go_loopw [13] (fun i wr => ∃ k : Nat, k ≤ xs.length ∧ i = .int .i64 k ∧ ∃ n, wr = W.drewN n) (fun i _ => xs.length - (intOf i).toNat)
  case atStart => exact ⟨0, Nat.zero_le _, rfl, 0, rfl⟩
  case round =>
    obtain ⟨k, hkl, rfl, n, rfl⟩ := hrel
    by_cases hlt : k < xs.length
    · obtain ⟨b, off, rfl, hb, hc⟩ := H1.out (by omega)
      obtain ⟨b2, off2, rfl, hb2, hc2⟩ := H2.out (by omega)
      have c0 := hc k hlt 0 (by omega)
      have e0 := hc2 k hlt 0 (by omega)
      have c1 := hc k hlt 1 (by omega)
      have e1 := hc2 k hlt 1 (by omega)
      have c2 := hc k hlt 2 (by omega)
      have e2 := hc2 k hlt 2 (by omega)
      have c3 := hc k hlt 3 (by omega)
      have e3 := hc2 k hlt 3 (by omega)
      have c4 := hc k hlt 4 (by omega)
      have e4 := hc2 k hlt 4 (by omega)
      have c5 := hc k hlt 5 (by omega)
      have e5 := hc2 k hlt 5 (by omega)
      have hdk : decide ((k : Int) < (xs.length : Int)) = true := by simp; omega
      have hi1 : (k : Int) < (xs.length : Int) := by omega
      clear hc hc2 hn
      generalize xs.getD k default = y at *
      obtain ⟨⟨ya, yb, yc⟩, yd, ye, yf⟩ := y
      simp [sixC, triC] at c0 e0 c1 e1 c2 e2 c3 e3 c4 e4 c5 e5
      have hcmp := fun W0 => neqTup ya yb yc yd ye yf W0
      go_wp2_with fail
      go_quiet (fail)
      go_wp2_with fail
      go_roundw
      case rel => exact ⟨k + 1, by omega, by go_num, _, rfl⟩
      case measure => first | (simp [intOf]; done) | (simp [intOf]; omega)
    · obtain rfl : k = xs.length := by omega
      have hdk : decide ((xs.length : Int) < (xs.length : Int)) = false := by simp
      clear hn
      go_wp2_with fail
      go_ret
      exact ⟨rfl, Below.drewN (Below.refl _ _) _⟩
set_option maxRecDepth 100000 in
set_option maxHeartbeats 1000000 in
theorem sameobj_any (a1 a2 : Option Addr) (c1 c2 : Nat) (xs : List Duo) (W : World) (hl : xs.length ≤ 1000000000) (h1 : IsEls duoC 2 W a1 xs) (h2 : IsEls duoC 2 W a2 xs) :
    Calls Tryz.prog 62 #[.slice a1 xs.length c1, .slice a2 xs.length c2] W (TrueIs W) := by
  have hn : ((xs.length : Int) != (xs.length : Int)) = false := by simp
  have H1 := Lib.hid h1
  have H2 := Lib.hid h2
  clear h1 h2
  go_enter Tryz.func62, Tryz.ntmps62
  go_wp2_with fail
  go_loopw [13] (fun i wr => ∃ k : Nat, k ≤ xs.length ∧ i = .int .i64 k ∧ ∃ n, wr = W.drewN n) (fun i _ => xs.length - (intOf i).toNat)
  case atStart => exact ⟨0, Nat.zero_le _, rfl, 0, rfl⟩
  case round =>
    obtain ⟨k, hkl, rfl, n, rfl⟩ := hrel
    by_cases hlt : k < xs.length
    · obtain ⟨b, off, rfl, hb, hc⟩ := H1.out (by omega)
      obtain ⟨b2, off2, rfl, hb2, hc2⟩ := H2.out (by omega)
      have c0 := hc k hlt 0 (by omega)
      have e0 := hc2 k hlt 0 (by omega)
      have c1 := hc k hlt 1 (by omega)
      have e1 := hc2 k hlt 1 (by omega)
      have hdk : decide ((k : Int) < (xs.length : Int)) = true := by simp; omega
      have hi1 : (k : Int) < (xs.length : Int) := by omega
      clear hc hc2 hn
      generalize xs.getD k default = y at *
      obtain ⟨ya, yb⟩ := y
      simp [duoC] at c0 e0 c1 e1
      have hcmp := fun W0 => neqObj ya yb W0
      go_wp2_with fail
      go_quiet (fail)
      go_wp2_with fail
      go_roundw
      case rel => exact ⟨k + 1, by omega, by go_num, _, rfl⟩
      case measure => first | (simp [intOf]; done) | (simp [intOf]; omega)
    · obtain rfl : k = xs.length := by omega
      have hdk : decide ((xs.length : Int) < (xs.length : Int)) = false := by simp
      clear hn
      go_wp2_with fail
      go_ret
      exact ⟨rfl, Below.drewN (Below.refl _ _) _⟩
set_option maxRecDepth 100000 in
set_option maxHeartbeats 1000000 in
theorem sameevt_any (a1 a2 : Option Addr) (c1 c2 : Nat) (xs : List Evt) (W : World) (hl : xs.length ≤ 1000000000) (h1 : IsEls evtC 8 W a1 xs) (h2 : IsEls evtC 8 W a2 xs) :
    Calls Tryz.prog 63 #[.slice a1 xs.length c1, .slice a2 xs.length c2] W (TrueIs W) := by
  have hn : ((xs.length : Int) != (xs.length : Int)) = false := by simp
  have H1 := Lib.hid h1
  have H2 := Lib.hid h2
  clear h1 h2
  go_enter Tryz.func63, Tryz.ntmps63
  go_wp2_with fail
  go_loopw [13] (fun i wr => ∃ k : Nat, k ≤ xs.length ∧ i = .int .i64 k ∧ ∃ n, wr = W.drewN n) (fun i _ => xs.length - (intOf i).toNat)
  case atStart => exact ⟨0, Nat.zero_le _, rfl, 0, rfl⟩
  case round =>
    obtain ⟨k, hkl, rfl, n, rfl⟩ := hrel
    by_cases hlt : k < xs.length
    · obtain ⟨b, off, rfl, hb, hc⟩ := H1.out (by omega)
      obtain ⟨b2, off2, rfl, hb2, hc2⟩ := H2.out (by omega)
      have c0 := hc k hlt 0 (by omega)
      have e0 := hc2 k hlt 0 (by omega)
      have c1 := hc k hlt 1 (by omega)
      have e1 := hc2 k hlt 1 (by omega)
      have c2 := hc k hlt 2 (by omega)
      have e2 := hc2 k hlt 2 (by omega)
      have c3 := hc k hlt 3 (by omega)
      have e3 := hc2 k hlt 3 (by omega)
      have c4 := hc k hlt 4 (by omega)
      have e4 := hc2 k hlt 4 (by omega)
      have c5 := hc k hlt 5 (by omega)
      have e5 := hc2 k hlt 5 (by omega)
      have c6 := hc k hlt 6 (by omega)
      have e6 := hc2 k hlt 6 (by omega)
      have c7 := hc k hlt 7 (by omega)
      have e7 := hc2 k hlt 7 (by omega)
      have hdk : decide ((k : Int) < (xs.length : Int)) = true := by simp; omega
      have hi1 : (k : Int) < (xs.length : Int) := by omega
      clear hc hc2 hn
      generalize xs.getD k default = y at *
      obtain ⟨yn, yz, ⟨ya, yb, yc⟩, yd, ye, yf⟩ := y
      simp [evtC, sixC, triC, wrtC] at c0 e0 c1 e1 c2 e2 c3 e3 c4 e4 c5 e5 c6 e6 c7 e7
      have hcmp := fun W0 => neqEv yn yz ya yb yc yd ye yf W0
      go_wp2_with fail
      go_quiet (fail)
      go_wp2_with fail
      go_roundw
      case rel => exact ⟨k + 1, by omega, by go_num, _, rfl⟩
      case measure => first | (simp [intOf]; done) | (simp [intOf]; omega)
    · obtain rfl : k = xs.length := by omega
      have hdk : decide ((xs.length : Int) < (xs.length : Int)) = false := by simp
      clear hn
      go_wp2_with fail
      go_ret
      exact ⟨rfl, Below.drewN (Below.refl _ _) _⟩
set_option maxRecDepth 100000 in
set_option maxHeartbeats 1000000 in
theorem samesub_any (a1 a2 : Option Addr) (c1 c2 : Nat) (xs : List Tri) (W : World) (hl : xs.length ≤ 1000000000) (h1 : IsEls triC 3 W a1 xs) (h2 : IsEls triC 3 W a2 xs) :
    Calls Tryz.prog 109 #[.slice a1 xs.length c1, .slice a2 xs.length c2] W (TrueIs W) := by
  have hn : ((xs.length : Int) != (xs.length : Int)) = false := by simp
  have H1 := Lib.hid h1
  have H2 := Lib.hid h2
  clear h1 h2
  go_enter Tryz.func109, Tryz.ntmps109
  go_wp2_with fail
  go_loopw [13] (fun i wr => ∃ k : Nat, k ≤ xs.length ∧ i = .int .i64 k ∧ ∃ n, wr = W.drewN n) (fun i _ => xs.length - (intOf i).toNat)
  case atStart => exact ⟨0, Nat.zero_le _, rfl, 0, rfl⟩
  case round =>
    obtain ⟨k, hkl, rfl, n, rfl⟩ := hrel
    by_cases hlt : k < xs.length
    · obtain ⟨b, off, rfl, hb, hc⟩ := H1.out (by omega)
      obtain ⟨b2, off2, rfl, hb2, hc2⟩ := H2.out (by omega)
      have c0 := hc k hlt 0 (by omega)
      have e0 := hc2 k hlt 0 (by omega)
      have c1 := hc k hlt 1 (by omega)
      have e1 := hc2 k hlt 1 (by omega)
      have c2 := hc k hlt 2 (by omega)
      have e2 := hc2 k hlt 2 (by omega)
      have hdk : decide ((k : Int) < (xs.length : Int)) = true := by simp; omega
      have hi1 : (k : Int) < (xs.length : Int) := by omega
      clear hc hc2 hn
      generalize xs.getD k default = y at *
      obtain ⟨ya, yb, yc⟩ := y
      simp [triC] at c0 e0 c1 e1 c2 e2
      have hcmp := fun W0 => neqSub ya yb yc W0
      go_wp2_with fail
      go_quiet (fail)
      go_wp2_with fail
      go_roundw
      case rel => exact ⟨k + 1, by omega, by go_num, _, rfl⟩
      case measure => first | (simp [intOf]; done) | (simp [intOf]; omega)
    · obtain rfl : k = xs.length := by omega
      have hdk : decide ((xs.length : Int) < (xs.length : Int)) = false := by simp
      clear hn
      go_wp2_with fail
      go_ret
      exact ⟨rfl, Below.drewN (Below.refl _ _) _⟩
end Go.Proofs.YtacjbgmnoiimbabGreat
