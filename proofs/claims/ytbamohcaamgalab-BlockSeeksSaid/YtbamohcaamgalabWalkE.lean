/- Texts written and read; four bytes; walked, both ways. -/
import Derived.Test.YtbamohcaamgalabWalkD
namespace Go.Proofs.Ytbamohcaamgalab
set_option linter.unusedVariables false
set_option linter.unusedSimpArgs false
open Go.RowKit

theorem row_slice {w : World} {base : Nat} {e : TypeId} {size : Nat} {v : Value} {n : Nat} {xs : List Value} (h : w.ownsRow base e size v n xs) : ∃ a m c, v = .slice a m c := by
  rcases h.2 with ⟨h0, _⟩ | ⟨g, cap, cur, hv, _⟩
  · exact ⟨_, _, _, h0⟩
  · exact ⟨_, _, _, hv⟩
theorem row_len' {w : World} {base : Nat} {e : TypeId} {size n m c : Nat} {a : Option Addr} {xs : List Value} (h : w.ownsRow base e size (.slice a m c) n xs) : m = n := by
  rcases h.2 with ⟨h0, h1⟩ | ⟨g, cap, cur, hv, _⟩
  · cases h0; omega
  · cases hv; rfl
theorem row_bytes' {w : World} {base : Nat} {n m c : Nat} {a : Option Addr} {l : List UInt8} (h : w.ownsRow base 5 1 (.slice a m c) n (bytesV l)) : IsBytes w a l := by
  intro h0
  rcases h.2 with ⟨hv, h1⟩ | ⟨g, cap, cur, hv, _⟩
  · have := h.1; rw [length_bytesV] at this; omega
  · cases hv
    exact isBytes_row h h0
theorem row_cap {w : World} {base : Nat} {e : TypeId} {n m c : Nat} {a : Option Addr} {xs : List Value} (h : w.ownsRow base e 1 (.slice a m c) n xs) : n ≤ c := by
  rcases h.2 with ⟨hv, h0⟩ | ⟨g, cap, cur, hv, _, _, hc, _⟩
  · omega
  · cases hv; exact hc
theorem strCells_bytes (s : ByteArray) : Lib.strCells s = bytesV s.data.toList := by
  unfold Lib.strCells bytesV
  simp
theorem size_data (s : ByteArray) : s.data.toList.length = s.size := by simp
set_option maxRecDepth 100000 in
set_option maxHeartbeats 1000000 in
theorem puttext_any (a : Option Addr) (cap : Nat) (l : List UInt8) (s : ByteArray) (w : World) (hl : l.length ≤ 1000000000) (hc : l.length ≤ cap) (hs : s.size ≤ 1000000000) (h : IsBytes w a l) :
    Calls Try.prog 21 #[.slice a l.length cap, .string s] w fun e w' => ∃ v', e = .returned v' ∧ w'.ownsRow w.heap.size 5 1 v' (l ++ textE s.data.toList).length (bytesV (l ++ textE s.data.toList)) ∧ Below w.heap.size w w' := by
  obtain ⟨i0, hi, hz0, hz1, hz2⟩ := info_parts Try.info5
  have H := Lib.hid h
  have hlen := uv_len64 s.size (by omega)
  clear h
  go_enter Try.func21, Try.ntmps21
  go_wp2_with fail
  refine (put_any a cap l s.size _ hl hc (by omega) H.out).mono ?_
  rintro e w1 ⟨v1, rfl, hown, hb1⟩
  have hL : (l ++ uv s.size).length = l.length + (uv s.size).length := List.length_append
  go_wp2_with (at_builtin; refine Lib.wpList_append_own_string _ rfl _ _ 26 9 rfl w.heap.size 5 i0 Try.underlying26 Try.underlying9 hi hz0 hz1 hz2 _ _ _ rfl hown s rfl (by unfold maxLen; omega) (by omega) hb1.size ?_; intro v2 w2 hown2 hg2 _)
  go_ret
  refine ⟨_, rfl, ?_, Below.own hb1 hown (Nat.le_refl _) hb1.size hg2⟩
  rw [strCells_bytes, ← bytesV_append] at hown2
  have e : l ++ textE s.data.toList = l ++ uv s.size ++ s.data.toList := by rw [textE, size_data, List.append_assoc]
  have e2 : (l ++ uv s.size ++ s.data.toList).length = (l ++ uv s.size).length + s.size := by rw [List.length_append, size_data]
  rw [e, e2]
  exact hown2
set_option maxRecDepth 100000 in
set_option maxHeartbeats 1000000 in
theorem refputtext_any (a : Option Addr) (cap : Nat) (l : List UInt8) (s : ByteArray) (w : World) (hl : l.length ≤ 1000000000) (hs : s.size ≤ 1000000000) (h : IsBytes w a l) :
    Calls Try.prog 28 #[.slice a l.length cap, .string s] w fun e w' => ∃ v', e = .returned v' ∧ w'.ownsRow w.heap.size 5 1 v' (l ++ textE s.data.toList).length (bytesV (l ++ textE s.data.toList)) ∧ Below w.heap.size w w' := by
  obtain ⟨i0, hi, hz0, hz1, hz2⟩ := info_parts Try.info5
  have H := Lib.hid h
  have hlen := uv_len64 s.size (by omega)
  clear h
  go_enter Try.func28, Try.ntmps28
  go_wp2_with fail
  refine (refput_any a cap l s.size _ hl (by omega) H.out).mono ?_
  rintro e w1 ⟨v1, rfl, hown, hb1⟩
  have hL : (l ++ uv s.size).length = l.length + (uv s.size).length := List.length_append
  go_wp2_with (at_builtin; refine Lib.wpList_append_own_string _ rfl _ _ 26 9 rfl w.heap.size 5 i0 Try.underlying26 Try.underlying9 hi hz0 hz1 hz2 _ _ _ rfl hown s rfl (by unfold maxLen; omega) (by omega) hb1.size ?_; intro v2 w2 hown2 hg2 _)
  go_ret
  refine ⟨_, rfl, ?_, Below.own hb1 hown (Nat.le_refl _) hb1.size hg2⟩
  rw [strCells_bytes, ← bytesV_append] at hown2
  have e : l ++ textE s.data.toList = l ++ uv s.size ++ s.data.toList := by rw [textE, size_data, List.append_assoc]
  have e2 : (l ++ uv s.size ++ s.data.toList).length = (l ++ uv s.size).length + s.size := by rw [List.length_append, size_data]
  rw [e, e2]
  exact hown2
/-- what reading a text at the head of l answers -/
def GetTextIs (l : List UInt8) (w : World) (e : Ending) (w' : World) : Prop := e = .returned (.tuple #[.string ⟨(gotT l).toArray⟩, .int .i64 (usedT l : Nat), .int .i64 (textN l : Nat)]) ∧ w' = w
theorem getTextIs_bad {l : List UInt8} {w : World} {k : Nat} (h : textN l = k) (hk : k ≠ 0) : GetTextIs l w (.returned (.tuple #[.string { data := #[] }, .int .i64 0, .int .i64 (k : Int)])) w := by
  refine ⟨?_, rfl⟩
  rw [gotT, usedT, if_neg (by omega), if_neg (by omega), h]; rfl
theorem getTextIs_good {l : List UInt8} {w : World} (h : textN l = 0) : GetTextIs l w (.returned (.tuple #[.string ⟨((l.take (getN l + getV l)).drop (getN l)).toArray⟩, .int .i64 ((getN l : Int) + (getV l : Int)), .int .i64 0])) w := by
  refine ⟨?_, rfl⟩
  rw [gotT, usedT, if_pos h, if_pos h, h, List.drop_take, Nat.add_sub_cancel_left]; rfl
set_option maxRecDepth 100000 in
set_option maxHeartbeats 1000000 in
theorem gettext_any (a : Option Addr) (cap : Nat) (l : List UInt8) (w : World) (hl : l.length ≤ 1000000000) (hc : l.length ≤ cap) (h : IsBytes w a l) :
    Calls Try.prog 35 #[.slice a l.length cap] w (GetTextIs l w) := by
  obtain ⟨i0, hi, hz0, hz1, hz2⟩ := info_parts Try.info5
  have HK := Lib.hid (get_any a cap l w hl h)
  have H := Lib.hid h
  have hle := getN_le l
  clear h
  go_enter Try.func35, Try.ntmps35
  go_wp2_with fail
  refine HK.out.mono ?_
  rintro e w1 ⟨rfl, rfl⟩
  by_cases hE : getE l = 0
  · by_cases hS : l.length - getN l < getV l
    · have HT := Lib.hid (show textN l = 7 from by rw [textN, if_pos hE, if_pos hS])
      have hv := getV_lt l
      rw [hE]
      generalize getV l = V at *
      generalize getN l = N at *
      clear hE
      go_wp2_with fail
      go_ret3
      exact getTextIs_bad HT.out (by decide)
    · have ht : textN l = 0 := by rw [textN, if_pos hE, if_neg hS]
      have HG := Lib.hid (getTextIs_good (w := w1) ht)
      have hcb := cutA_bytes H.out (lo := getN l) (hi := getN l + getV l) (by omega) hc
      have hlen : ((l.take (getN l + getV l)).drop (getN l)).length = getV l := by rw [List.length_drop, List.length_take]; omega
      have HCB := Lib.hid hcb
      have HLen := Lib.hid hlen
      rw [hE]
      generalize (l.take (getN l + getV l)).drop (getN l) = T at *
      generalize getV l = V at *
      generalize getN l = N at *
      have hcv := run_string_of_bytes (P := Try.prog) w1 26 9 5 (cutA a cap N) V (cap - N) T HLen.out Try.underlying26 Try.underlying5 Try.underlying9 HCB.out
      clear hE ht hcb hlen
      go_wp2_with (refine wpList_slice_lh _ rfl _ _ _ 26 rfl 5 i0 Try.underlying26 hi hz1 a l.length cap N (N + V) rfl .i64 .i64 _ _ rfl rfl rfl (by omega) (by omega) (by omega) ?_; intro a' ha'; subst ha')
      go_ret3
      exact HG.out
  · have HT := Lib.hid (show textN l = getE l from by rw [textN, if_neg hE])
    have HNZ := Lib.hid hE
    generalize getV l = V at *
    generalize getN l = N at *
    generalize hEE : getE l = E at *
    have b1 : ((E : Int) == 0) = false := by rw [beq_eq_false_iff_ne]; omega
    have b2 : ((E : Int) != 0) = true := by rw [bne_iff_ne]; omega
    clear hE hEE
    go_wp2_with fail
    go_ret3
    exact getTextIs_bad HT.out HNZ.out
set_option maxRecDepth 100000 in
set_option maxHeartbeats 1000000 in
theorem refgettext_any (a : Option Addr) (cap : Nat) (l : List UInt8) (w : World) (hl : l.length ≤ 1000000000) (hc : l.length ≤ cap) (h : IsBytes w a l) :
    Calls Try.prog 32 #[.slice a l.length cap] w (GetTextIs l w) := by
  obtain ⟨i0, hi, hz0, hz1, hz2⟩ := info_parts Try.info5
  have HK := Lib.hid (refget_any a cap l w hl h)
  have H := Lib.hid h
  have hle := getN_le l
  clear h
  go_enter Try.func32, Try.ntmps32
  go_wp2_with fail
  refine HK.out.mono ?_
  rintro e w1 ⟨rfl, rfl⟩
  by_cases hE : getE l = 0
  · by_cases hS : l.length - getN l < getV l
    · have HT := Lib.hid (show textN l = 7 from by rw [textN, if_pos hE, if_pos hS])
      have hv := getV_lt l
      rw [hE]
      generalize getV l = V at *
      generalize getN l = N at *
      clear hE
      go_wp2_with fail
      go_ret3
      exact getTextIs_bad HT.out (by decide)
    · have ht : textN l = 0 := by rw [textN, if_pos hE, if_neg hS]
      have HG := Lib.hid (getTextIs_good (w := w1) ht)
      have hcb := cutA_bytes H.out (lo := getN l) (hi := getN l + getV l) (by omega) hc
      have hlen : ((l.take (getN l + getV l)).drop (getN l)).length = getV l := by rw [List.length_drop, List.length_take]; omega
      have HCB := Lib.hid hcb
      have HLen := Lib.hid hlen
      rw [hE]
      generalize (l.take (getN l + getV l)).drop (getN l) = T at *
      generalize getV l = V at *
      generalize getN l = N at *
      have hcv := run_string_of_bytes (P := Try.prog) w1 26 9 5 (cutA a cap N) V (cap - N) T HLen.out Try.underlying26 Try.underlying5 Try.underlying9 HCB.out
      clear hE ht hcb hlen
      go_wp2_with (refine wpList_slice_lh _ rfl _ _ _ 26 rfl 5 i0 Try.underlying26 hi hz1 a l.length cap N (N + V) rfl .i64 .i64 _ _ rfl rfl rfl (by omega) (by omega) (by omega) ?_; intro a' ha'; subst ha')
      go_ret3
      exact HG.out
  · have HT := Lib.hid (show textN l = getE l from by rw [textN, if_neg hE])
    have HNZ := Lib.hid hE
    generalize getV l = V at *
    generalize getN l = N at *
    generalize hEE : getE l = E at *
    have b1 : ((E : Int) == 0) = false := by rw [beq_eq_false_iff_ne]; omega
    have b2 : ((E : Int) != 0) = true := by rw [bne_iff_ne]; omega
    clear hE hEE
    go_wp2_with fail
    go_ret3
    exact getTextIs_bad HT.out HNZ.out

theorem cells4 {w : World} {b off : Nat} {l : List UInt8} (h4 : 4 ≤ l.length) (hc : ∀ k, k < l.length → w.cell? ⟨b, off + k, none⟩ = some (.int .u8 ((l.getD k 0).toNat : Int))) :
    w.cell? ⟨b, off, none⟩ = some (.int .u8 ((l.getD 0 0).toNat : Int)) ∧ w.cell? ⟨b, off + 1, none⟩ = some (.int .u8 ((l.getD 1 0).toNat : Int)) ∧ w.cell? ⟨b, off + 2, none⟩ = some (.int .u8 ((l.getD 2 0).toNat : Int)) ∧ w.cell? ⟨b, off + 3, none⟩ = some (.int .u8 ((l.getD 3 0).toNat : Int)) :=
  ⟨hc 0 (by omega), hc 1 (by omega), hc 2 (by omega), hc 3 (by omega)⟩
theorem i64_or (a b : Nat) (ha : a < 9223372036854775808) (hb : b < 9223372036854775808) : bits BinOp.or IntKind.i64 (a : Int) (b : Int) = ((a ||| b : Nat) : Int) := by
  have hx : a ||| b < 2 ^ 63 := Nat.or_lt_two_pow (by omega) (by omega)
  have e : ∀ a : Nat, a < 9223372036854775808 → (BitVec.ofInt 64 (a : Int)).toNat = a := fun a ha => by
    rw [BitVec.ofInt_natCast, BitVec.toNat_ofNat]; exact Nat.mod_eq_of_lt (by omega)
  show IntKind.i64.wrap ((BitVec.ofInt 64 (a : Int) ||| BitVec.ofInt 64 (b : Int)).toNat : Int) = _
  rw [BitVec.toNat_or, e a ha, e b hb, IntKind.wrap_i64]
  omega
theorem nat_join (i x y : Nat) (hx : x % 2 ^ i = 0) (hy : y < 2 ^ i) : x ||| y = x + y := by
  have h := Nat.two_pow_add_eq_or_of_lt (i := i) hy (x / 2 ^ i)
  have e : 2 ^ i * (x / 2 ^ i) = x := by have := Nat.div_add_mod x (2 ^ i); omega
  rw [e] at h
  exact h.symm
theorem or_join (i x y : Nat) (hx : x % 2 ^ i = 0) (hy : y < 2 ^ i) (hX : x < 4294967296) (hY : y < 4294967296) : bits BinOp.or IntKind.i64 (x : Int) (y : Int) = ((x + y : Nat) : Int) := by
  rw [i64_or x y (by omega) (by omega), nat_join i x y hx hy]
theorem or4_int (a b c d : Nat) (ha : a < 2 ^ 8) (hb : b < 2 ^ 8) (hc : c < 2 ^ 8) (hd : d < 2 ^ 8) :
    bits BinOp.or IntKind.i64 (bits BinOp.or IntKind.i64 (bits BinOp.or IntKind.i64 ((a : Int) * 16777216) ((b : Int) * 65536)) ((c : Int) * 256)) (d : Int) = ((((a * 256 + b) * 256 + c) * 256 + d : Nat) : Int) := by
  have h1 := or_join 24 (a * 16777216) (b * 65536) (by omega) (by omega) (by omega) (by omega)
  have h2 := or_join 16 (a * 16777216 + b * 65536) (c * 256) (by omega) (by omega) (by omega) (by omega)
  have h3 := or_join 8 (a * 16777216 + b * 65536 + c * 256) d (by omega) (by omega) (by omega) (by omega)
  rw [Int.natCast_mul, Int.natCast_mul] at h1
  rw [Int.natCast_mul] at h2
  have e1 : bits BinOp.or IntKind.i64 ((a : Int) * 16777216) ((b : Int) * 65536) = ((a * 16777216 + b * 65536 : Nat) : Int) := h1
  rw [e1]
  have e2 : bits BinOp.or IntKind.i64 ((a * 16777216 + b * 65536 : Nat) : Int) ((c : Int) * 256) = ((a * 16777216 + b * 65536 + c * 256 : Nat) : Int) := h2
  rw [e2, h3]
  omega
set_option maxHeartbeats 1000000 in
theorem get4_any (a : Option Addr) (cap n : Nat) (l : List UInt8) (w : World) (hn : l.length = n) (h4 : 4 ≤ n) (hl : n ≤ 1000000000) (h : IsBytes w a l) :
    Calls Try.prog 25 #[.slice a n cap] w fun e w' => e = .returned (.int .i64 (num l : Int)) ∧ ∃ k, w' = w.drewN k := by
  obtain ⟨b, off, rfl, hb, hc⟩ := h (by omega)
  obtain ⟨c0, c1, c2, c3⟩ := cells4 (by omega) hc
  have HN : Hid (num l = (((l.getD 0 0).toNat * 256 + (l.getD 1 0).toNat) * 256 + (l.getD 2 0).toNat) * 256 + (l.getD 3 0).toNat) := rfl
  generalize l.getD 0 0 = x0 at *
  generalize l.getD 1 0 = x1 at *
  generalize l.getD 2 0 = x2 at *
  generalize l.getD 3 0 = x3 at *
  have u0 := x0.toNat_lt
  have u1 := x1.toNat_lt
  have u2 := x2.toNat_lt
  have u3 := x3.toNat_lt
  clear hc hn h
  go_enter Try.func25, Try.ntmps25
  go_wp2_with fail
  go_quiet (fail)
  go_wp2_with fail
  go_ret
  exact ⟨ret_i64 (by rw [HN.out]; exact or4_int _ _ _ _ u0 u1 u2 u3), _, rfl⟩
set_option maxHeartbeats 1000000 in
theorem number_any (a : Option Addr) (cap n : Nat) (l : List UInt8) (w : World) (hn : l.length = n) (h4 : 4 ≤ n) (hl : n ≤ 1000000000) (h : IsBytes w a l) :
    Calls Try.prog 33 #[.slice a n cap] w fun e w' => e = .returned (.int .i64 (num l : Int)) ∧ ∃ k, w' = w.drewN k := by
  obtain ⟨b, off, rfl, hb, hc⟩ := h (by omega)
  obtain ⟨c0, c1, c2, c3⟩ := cells4 (by omega) hc
  have HN : Hid (num l = (((l.getD 0 0).toNat * 256 + (l.getD 1 0).toNat) * 256 + (l.getD 2 0).toNat) * 256 + (l.getD 3 0).toNat) := rfl
  generalize l.getD 0 0 = x0 at *
  generalize l.getD 1 0 = x1 at *
  generalize l.getD 2 0 = x2 at *
  generalize l.getD 3 0 = x3 at *
  have u0 := x0.toNat_lt
  have u1 := x1.toNat_lt
  have u2 := x2.toNat_lt
  have u3 := x3.toNat_lt
  clear hc hn h
  go_enter Try.func33, Try.ntmps33
  go_wp2_with fail
  go_quiet (fail)
  go_wp2_with fail
  go_ret
  exact ⟨ret_i64 (by rw [HN.out]; omega), _, rfl⟩
theorem four_cells (u : Nat) (x1 x2 x3 x4 : Int) (h1 : x1 = ((u / 16777216 % 256 : Nat) : Int)) (h2 : x2 = ((u / 65536 % 256 : Nat) : Int)) (h3 : x3 = ((u / 256 % 256 : Nat) : Int)) (h4 : x4 = ((u % 256 : Nat) : Int)) :
    [Value.int .u8 x1, .int .u8 x2, .int .u8 x3, .int .u8 x4] = bytesV (four u) := by
  subst h1 h2 h3 h4
  simp only [four, bytesV, List.map_cons, List.map_nil, UInt8.toNat_ofNat']
set_option maxHeartbeats 1000000 in
theorem put4_any (base : Nat) (v : Value) (n : Nat) (l : List UInt8) (u : Nat) (x : Int) (w : World) (hx : x = u) (hu : u < 4294967296) (hown : w.ownsRow base 5 1 v n (bytesV l)) (hn : n ≤ 1000000000) (hbase : base ≤ w.heap.size) :
    Calls Try.prog 23 #[v, .int .i64 x] w fun e w' => ∃ v', e = .returned v' ∧ w'.ownsRow base 5 1 v' (n + 4) (bytesV (l ++ four u)) ∧ w.grownBy w' v.ownBlock := by
  subst hx
  obtain ⟨i0, hi, hz0, hz1, hz2⟩ := info_parts Try.info5
  obtain ⟨a, m, c, rfl⟩ := row_slice hown
  go_enter Try.func23, Try.ntmps23
  go_wp2_with (at_builtin; refine wpList_append_four _ rfl _ _ 26 rfl base 5 i0 (.int .u8 0) Try.underlying26 hi hz0 hz1 hz2 rfl _ n _ rfl hown _ _ _ _ 4 rfl (by omega) hbase ?_; intro v' w1 hown1 hg1)
  go_ret
  refine ⟨_, rfl, ?_, hg1⟩
  rw [bytesV_append]
  rw [four_cells u] at hown1 <;> first | exact hown1 | omega
set_option maxHeartbeats 1000000 in
theorem four_any (u : Nat) (x : Int) (w : World) (hx : x = u) (hu : u < 4294967296) :
    Calls Try.prog 27 #[.int .i64 x] w fun e w' => ∃ v', e = .returned v' ∧ w'.ownsRow w.heap.size 5 1 v' 4 (bytesV (four u)) ∧ Below w.heap.size w w' := by
  subst hx
  go_enter Try.func27, Try.ntmps27
  go_wp2_with fail
  go_ret
  refine ⟨_, rfl, ?_, (Below.refl _ _).alloc (Nat.le_refl _) _⟩
  refine ⟨rfl, .inr ⟨w.heap.size, 4, _, rfl, Nat.le_refl _, heap_alloc_new w _, Nat.le_refl _, by decide, rfl, ?_⟩⟩
  show [Value.int .u8 _, .int .u8 _, .int .u8 _, .int .u8 _] = _
  rw [four_cells u] <;> omega
end Go.Proofs.Ytbamohcaamgalab
