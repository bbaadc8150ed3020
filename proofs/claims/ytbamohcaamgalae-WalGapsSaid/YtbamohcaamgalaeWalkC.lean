/- Numbers as four bytes, and back; a copy of bytes. -/
import Derived.Test.YtbamohcaamgalaeWalkB
namespace Go.Proofs.Ytbamohcaamgalae
set_option linter.unusedVariables false
set_option linter.unusedSimpArgs false
open Go.RowKit

theorem cells4 {w : World} {b off : Nat} {l : List UInt8} (h4 : 4 ≤ l.length) (hc : ∀ k, k < l.length → w.cell? ⟨b, off + k, none⟩ = some (.int .u8 ((l.getD k 0).toNat : Int))) :
    w.cell? ⟨b, off, none⟩ = some (.int .u8 ((l.getD 0 0).toNat : Int)) ∧ w.cell? ⟨b, off + 1, none⟩ = some (.int .u8 ((l.getD 1 0).toNat : Int)) ∧ w.cell? ⟨b, off + 2, none⟩ = some (.int .u8 ((l.getD 2 0).toNat : Int)) ∧ w.cell? ⟨b, off + 3, none⟩ = some (.int .u8 ((l.getD 3 0).toNat : Int)) :=
  ⟨hc 0 (by omega), hc 1 (by omega), hc 2 (by omega), hc 3 (by omega)⟩

theorem ret_u64 {a b : Int} (h : a = b) : Ending.returned (.int .u64 a) = .returned (.int .u64 b) := by rw [h]
theorem or_join (i x y : Nat) (hx : x % 2 ^ i = 0) (hy : y < 2 ^ i) (hX : x < 4294967296) (hY : y < 4294967296) : bits BinOp.or IntKind.u32 (x : Int) (y : Int) = ((x + y : Nat) : Int) := by
  rw [u32_or_nat x y hX hY, nat_join i x y hx hy]
theorem or4_int (a b c d : Nat) (ha : a < 2 ^ 8) (hb : b < 2 ^ 8) (hc : c < 2 ^ 8) (hd : d < 2 ^ 8) :
    bits BinOp.or IntKind.u32 (bits BinOp.or IntKind.u32 (bits BinOp.or IntKind.u32 ((a : Int) * 16777216) ((b : Int) * 65536)) ((c : Int) * 256)) (d : Int) = ((((a * 256 + b) * 256 + c) * 256 + d : Nat) : Int) := by
  have h1 := or_join 24 (a * 16777216) (b * 65536) (by omega) (by omega) (by omega) (by omega)
  have h2 := or_join 16 (a * 16777216 + b * 65536) (c * 256) (by omega) (by omega) (by omega) (by omega)
  have h3 := or_join 8 (a * 16777216 + b * 65536 + c * 256) d (by omega) (by omega) (by omega) (by omega)
  rw [Int.natCast_mul, Int.natCast_mul] at h1
  rw [Int.natCast_mul] at h2
  have e1 : bits BinOp.or IntKind.u32 ((a : Int) * 16777216) ((b : Int) * 65536) = ((a * 16777216 + b * 65536 : Nat) : Int) := h1
  rw [e1]
  have e2 : bits BinOp.or IntKind.u32 ((a * 16777216 + b * 65536 : Nat) : Int) ((c : Int) * 256) = ((a * 16777216 + b * 65536 + c * 256 : Nat) : Int) := h2
  rw [e2, h3]
  omega
theorem row_slice {w : World} {base : Nat} {e : TypeId} {size : Nat} {v : Value} {n : Nat} {xs : List Value} (h : w.ownsRow base e size v n xs) : ∃ a m c, v = .slice a m c := by
  rcases h.2 with ⟨h0, _⟩ | ⟨g, cap, cur, hv, _⟩
  · exact ⟨_, _, _, h0⟩
  · exact ⟨_, _, _, hv⟩
set_option maxHeartbeats 1000000 in
theorem fget_any (a : Option Addr) (cap n : Nat) (l : List UInt8) (w : World) (hn : l.length = n) (h4 : 4 ≤ n) (hl : n ≤ 1000000) (h : IsBytes w a l) :
    Calls Try.prog 42 #[.slice a n cap] w fun e w' => e = .returned (.int .u32 (num l : Int)) ∧ ∃ k, w' = w.drewN k := by
  obtain ⟨b, off, rfl, hb, hc⟩ := h (by omega)
  obtain ⟨c0, c1, c2, c3⟩ := cells4 (by omega) hc
  have HN : Hid (num l = (((l.getD 0 0).toNat * 256 + (l.getD 1 0).toNat) * 256 + (l.getD 2 0).toNat) * 256 + (l.getD 3 0).toNat) := rfl
  generalize l.getD 0 0 = x0 at *
  generalize l.getD 1 0 = x1 at *
  generalize l.getD 2 0 = x2 at *
  generalize l.getD 3 0 = x3 at *
  have u0 := x0.toNat_lt
  have u1 := x1.toNat_lt
  have u2 := x2.toNat_lt
  have u3 := x3.toNat_lt
  clear hc hn h
  go_enter Try.func42, Try.ntmps42
  go_wp2_with fail
  go_quiet (fail)
  go_wp2_with fail
  go_ret
  exact ⟨ret_u32 (by rw [HN.out]; exact or4_int _ _ _ _ u0 u1 u2 u3), _, rfl⟩

set_option maxHeartbeats 1000000 in
theorem number_any (a : Option Addr) (cap n : Nat) (l : List UInt8) (w : World) (hn : l.length = n) (h4 : 4 ≤ n) (hl : n ≤ 1000000) (h : IsBytes w a l) :
    Calls Try.prog 44 #[.slice a n cap] w fun e w' => e = .returned (.int .u64 (num l : Int)) ∧ ∃ k, w' = w.drewN k := by
  obtain ⟨b, off, rfl, hb, hc⟩ := h (by omega)
  obtain ⟨c0, c1, c2, c3⟩ := cells4 (by omega) hc
  have HN : Hid (num l = (((l.getD 0 0).toNat * 256 + (l.getD 1 0).toNat) * 256 + (l.getD 2 0).toNat) * 256 + (l.getD 3 0).toNat) := rfl
  generalize l.getD 0 0 = x0 at *
  generalize l.getD 1 0 = x1 at *
  generalize l.getD 2 0 = x2 at *
  generalize l.getD 3 0 = x3 at *
  have u0 := x0.toNat_lt
  have u1 := x1.toNat_lt
  have u2 := x2.toNat_lt
  have u3 := x3.toNat_lt
  clear hc hn h
  go_enter Try.func44, Try.ntmps44
  go_wp2_with fail
  go_quiet (fail)
  go_wp2_with fail
  go_ret
  exact ⟨ret_u64 (by rw [HN.out]; omega), _, rfl⟩

theorem four_cells (u : Nat) (x1 x2 x3 x4 : Int) (h1 : x1 = ((u / 16777216 % 256 : Nat) : Int)) (h2 : x2 = ((u / 65536 % 256 : Nat) : Int)) (h3 : x3 = ((u / 256 % 256 : Nat) : Int)) (h4 : x4 = ((u % 256 : Nat) : Int)) :
    [Value.int .u8 x1, .int .u8 x2, .int .u8 x3, .int .u8 x4] = bytesV (four u) := by
  subst h1 h2 h3 h4
  simp only [four, bytesV, List.map_cons, List.map_nil, UInt8.toNat_ofNat']
set_option maxHeartbeats 1000000 in
theorem fput_any (base : Nat) (v : Value) (n : Nat) (l : List UInt8) (u : Nat) (x : Int) (w : World) (hx : x = u) (hu : u < 4294967296) (hown : w.ownsRow base 5 1 v n (bytesV l)) (hn : n ≤ 1000000) (hbase : base ≤ w.heap.size) :
    Calls Try.prog 37 #[v, .int .u32 x] w fun e w' => ∃ v', e = .returned v' ∧ w'.ownsRow base 5 1 v' (n + 4) (bytesV (l ++ four u)) ∧ w.grownBy w' v.ownBlock := by
  subst hx
  obtain ⟨i0, hi, hz0, hz1, hz2⟩ := info_parts Try.info5
  obtain ⟨a, m, c, rfl⟩ := row_slice hown
  go_enter Try.func37, Try.ntmps37
  go_wp2_with (at_builtin; refine wpList_append_four _ rfl _ _ 28 rfl base 5 i0 (.int .u8 0) Try.underlying28 hi hz0 hz1 hz2 rfl _ n _ rfl hown _ _ _ _ 4 rfl (by omega) hbase ?_; intro v' w1 hown1 hg1)
  go_ret
  refine ⟨_, rfl, ?_, hg1⟩
  rw [bytesV_append]
  rw [four_cells u] at hown1 <;> first | exact hown1 | omega

set_option maxHeartbeats 1000000 in
theorem four_any (u : Nat) (x : Int) (w : World) (hx : x = u) (hu : u < 4294967296) :
    Calls Try.prog 24 #[.int .u32 x] w fun e w' => ∃ v', e = .returned v' ∧ w'.ownsRow w.heap.size 5 1 v' 4 (bytesV (four u)) ∧ Below w.heap.size w w' := by
  subst hx
  go_enter Try.func24, Try.ntmps24
  go_wp2_with fail
  go_ret
  refine ⟨_, rfl, ?_, (Below.refl _ _).alloc (Nat.le_refl _) _⟩
  refine ⟨rfl, .inr ⟨w.heap.size, 4, _, rfl, Nat.le_refl _, heap_alloc_new w _, Nat.le_refl _, by decide, rfl, ?_⟩⟩
  show [Value.int .u8 _, .int .u8 _, .int .u8 _, .int .u8 _] = _
  rw [four_cells u] <;> omega

/-- a copy of bytes that aren't nil: new, and the call's own -/
theorem clone_any_ (b off cap n : Nat) (l : List UInt8) (w : World) (hn : l.length = n) (hl : n ≤ 1000000) (h : IsBytes w (some ⟨b, off, none⟩) l) :
    Calls Try.prog 43 #[.slice (some ⟨b, off, none⟩) n cap] w fun e w' => ∃ v', e = .returned v' ∧ w'.ownsRow w.heap.size 5 1 v' n (bytesV l) ∧ Below w.heap.size w w' := by
  have HN := Lib.hid hn
  obtain ⟨i0, hi, hz0, hz1, hz2⟩ := info_parts Try.info5
  have H := Lib.hid h
  clear hn h
  have hnew := World.ownsRow_lit (e := 5) (size := 1) (base := w.heap.size) w #[] 0 (Nat.le_refl _) (by decide) rfl
  have hB := (Below.refl w.heap.size w).alloc (Nat.le_refl _) (.cells #[] 5)
  have hnil := Lib.run_eql_slice_nil (P := Try.prog)
  go_enter Try.func43, Try.ntmps43
  go_wp2_with (at_builtin; refine wpList_append_bytes _ rfl _ _ 28 rfl w.heap.size 5 i0 (.int .u8 0) Try.underlying28 hi hz0 hz1 hz2 rfl _ 0 _ rfl hnew _ n cap l rfl HN.out (H.out.below hB) (by omega) hB.size ?_; intro v' w1 hown1 hg1 _)
  go_ret
  rw [Nat.zero_add] at hown1
  exact ⟨_, rfl, hown1, Below.own hB hnew (Nat.le_refl _) hB.size hg1⟩

theorem sum_at (a : Option Addr) (cap n : Nat) (l : List UInt8) (w : World) (hn : l.length = n) (hl : n ≤ 1000000) (h : IsBytes w a l) :
    Calls Try.prog 38 #[.slice a n cap] w fun e w' => e = .returned (.int .u32 (sum l : Int)) ∧ Below w.heap.size w w' := by
  subst hn; exact sum_any a cap l w hl h
theorem refsum_at (a : Option Addr) (cap n : Nat) (l : List UInt8) (w : World) (hn : l.length = n) (hl : n ≤ 1000000) (h : IsBytes w a l) :
    Calls Try.prog 25 #[.slice a n cap] w fun e w' => e = .returned (.int .u32 (sum l : Int)) ∧ w' = w := by
  subst hn; exact refsum_any a cap l w hl h
set_option maxHeartbeats 1000000 in
theorem seal_any (a : Option Addr) (cap n : Nat) (l : List UInt8) (w : World) (hn : l.length = n) (hl : n ≤ 1000000) (h : IsBytes w a l) :
    Calls Try.prog 23 #[.slice a n cap] w fun e w' => ∃ v', e = .returned v' ∧ w'.ownsRow w.heap.size 5 1 v' (8 + n) (bytesV (seal_ l)) ∧ Below w.heap.size w w' := by
  have HN := Lib.hid hn
  obtain ⟨i0, hi, hz0, hz1, hz2⟩ := info_parts Try.info5
  have H := Lib.hid h
  have HS := Lib.hid (sum_lt l)
  clear hn h
  have h0 := World.ownsRow_nil w w.heap.size 5 1
  go_enter Try.func23, Try.ntmps23
  go_wp2_with fail
  refine (fput_any w.heap.size _ 0 [] n _ _ (by omega) (by omega) h0 (by omega) (Nat.le_refl _)).mono ?_
  rintro e w1 ⟨v1, rfl, hown1, hg1⟩
  have hB1 := Below.none (Below.refl w.heap.size w) (Nat.le_refl _) hg1
  obtain ⟨a1, m1, c1, rfl⟩ := row_slice hown1
  go_wp2_with fail
  refine (sum_at a cap n l _ HN.out (by omega) (H.out.below hB1)).mono ?_
  rintro e w2 ⟨rfl, hb2⟩
  have hown2 := Below.row hb2 hown1
  have hB2 := hB1.trans (hb2.mono hB1.size)
  go_wp2_with fail
  refine (fput_any w.heap.size _ 4 _ (sum l) _ _ rfl HS.out hown2 (by omega) hB2.size).mono ?_
  rintro e w3 ⟨v3, rfl, hown3, hg3⟩
  have hB3 := Below.own hB2 hown2 (Nat.le_refl _) hB2.size hg3
  obtain ⟨a3, m3, c3, rfl⟩ := row_slice hown3
  go_wp2_with (at_builtin; refine wpList_append_bytes _ rfl _ _ 28 rfl w.heap.size 5 i0 (.int .u8 0) Try.underlying28 hi hz0 hz1 hz2 rfl _ 8 _ rfl hown3 _ n cap l rfl HN.out (H.out.below hB3) (by omega) hB3.size ?_; intro v' w4 hown4 hg4 _)
  go_ret
  refine ⟨_, rfl, ?_, Below.own hB3 hown3 (Nat.le_refl _) hB3.size hg4⟩
  rw [← bytesV_append] at hown4
  rw [seal_, HN.out]
  exact hown4
end Go.Proofs.Ytbamohcaamgalae
