/- Texts written and read; four bytes; walked, both ways. -/
import Derived.Test.YtacjbgmnoiimbabWalkB
namespace Go.Proofs.Ytacjbgmnoiimbab
set_option linter.unusedVariables false
set_option linter.unusedSimpArgs false
open Go.RowKit

theorem row_slice {w : World} {base : Nat} {e : TypeId} {size : Nat} {v : Value} {n : Nat} {xs : List Value} (h : w.ownsRow base e size v n xs) : ∃ a m c, v = .slice a m c := by
  rcases h.2 with ⟨h0, _⟩ | ⟨g, cap, cur, hv, _⟩
  · exact ⟨_, _, _, h0⟩
  · exact ⟨_, _, _, hv⟩
theorem row_len' {w : World} {base : Nat} {e : TypeId} {size n m c : Nat} {a : Option Addr} {xs : List Value} (h : w.ownsRow base e size (.slice a m c) n xs) : m = n := by
  rcases h.2 with ⟨h0, h1⟩ | ⟨g, cap, cur, hv, _⟩
  · cases h0; omega
  · cases hv; rfl
theorem row_bytes' {w : World} {base : Nat} {n m c : Nat} {a : Option Addr} {l : List UInt8} (h : w.ownsRow base 5 1 (.slice a m c) n (bytesV l)) : IsBytes w a l := by
  intro h0
  rcases h.2 with ⟨hv, h1⟩ | ⟨g, cap, cur, hv, _⟩
  · have := h.1; rw [length_bytesV] at this; omega
  · cases hv
    exact isBytes_row h h0
theorem row_cap {w : World} {base : Nat} {e : TypeId} {n m c : Nat} {a : Option Addr} {xs : List Value} (h : w.ownsRow base e 1 (.slice a m c) n xs) : n ≤ c := by
  rcases h.2 with ⟨hv, h0⟩ | ⟨g, cap, cur, hv, _, _, hc, _⟩
  · omega
  · cases hv; exact hc
theorem strCells_bytes (s : ByteArray) : Lib.strCells s = bytesV s.data.toList := by
  unfold Lib.strCells bytesV
  simp
theorem size_data (s : ByteArray) : s.data.toList.length = s.size := by simp
set_option maxRecDepth 100000 in
set_option maxHeartbeats 1000000 in
theorem puttext_any (a : Option Addr) (cap : Nat) (l : List UInt8) (s : ByteArray) (w : World) (hl : l.length ≤ 1000000000) (hc : l.length ≤ cap) (hs : s.size ≤ 1000000000) (h : IsBytes w a l) :
    Calls Try.prog 74 #[.slice a l.length cap, .string s] w fun e w' => ∃ v', e = .returned v' ∧ w'.ownsRow w.heap.size 5 1 v' (l ++ textE s.data.toList).length (bytesV (l ++ textE s.data.toList)) ∧ Below w.heap.size w w' := by
  obtain ⟨i0, hi, hz0, hz1, hz2⟩ := info_parts Try.info5
  have H := Lib.hid h
  have hlen := uv_len64 s.size (by omega)
  clear h
  go_enter Try.func74, Try.ntmps74
  go_wp2_with fail
  refine (put_any a cap l s.size _ hl hc (by omega) H.out).mono ?_
  rintro e w1 ⟨v1, rfl, hown, hb1⟩
  have hL : (l ++ uv s.size).length = l.length + (uv s.size).length := List.length_append
  go_wp2_with (at_builtin; refine Lib.wpList_append_own_string _ rfl _ _ 33 9 rfl w.heap.size 5 i0 Try.underlying33 Try.underlying9 hi hz0 hz1 hz2 _ _ _ rfl hown s rfl (by unfold maxLen; omega) (by omega) hb1.size ?_; intro v2 w2 hown2 hg2 _)
  go_ret
  refine ⟨_, rfl, ?_, Below.own hb1 hown (Nat.le_refl _) hb1.size hg2⟩
  rw [strCells_bytes, ← bytesV_append] at hown2
  have e : l ++ textE s.data.toList = l ++ uv s.size ++ s.data.toList := by rw [textE, size_data, List.append_assoc]
  have e2 : (l ++ uv s.size ++ s.data.toList).length = (l ++ uv s.size).length + s.size := by rw [List.length_append, size_data]
  rw [e, e2]
  exact hown2
set_option maxRecDepth 100000 in
set_option maxHeartbeats 1000000 in
theorem refputtext_any (a : Option Addr) (cap : Nat) (l : List UInt8) (s : ByteArray) (w : World) (hl : l.length ≤ 1000000000) (hs : s.size ≤ 1000000000) (h : IsBytes w a l) :
    Calls Try.prog 86 #[.slice a l.length cap, .string s] w fun e w' => ∃ v', e = .returned v' ∧ w'.ownsRow w.heap.size 5 1 v' (l ++ textE s.data.toList).length (bytesV (l ++ textE s.data.toList)) ∧ Below w.heap.size w w' := by
  obtain ⟨i0, hi, hz0, hz1, hz2⟩ := info_parts Try.info5
  have H := Lib.hid h
  have hlen := uv_len64 s.size (by omega)
  clear h
  go_enter Try.func86, Try.ntmps86
  go_wp2_with fail
  refine (refput_any a cap l s.size _ hl (by omega) H.out).mono ?_
  rintro e w1 ⟨v1, rfl, hown, hb1⟩
  have hL : (l ++ uv s.size).length = l.length + (uv s.size).length := List.length_append
  go_wp2_with (at_builtin; refine Lib.wpList_append_own_string _ rfl _ _ 33 9 rfl w.heap.size 5 i0 Try.underlying33 Try.underlying9 hi hz0 hz1 hz2 _ _ _ rfl hown s rfl (by unfold maxLen; omega) (by omega) hb1.size ?_; intro v2 w2 hown2 hg2 _)
  go_ret
  refine ⟨_, rfl, ?_, Below.own hb1 hown (Nat.le_refl _) hb1.size hg2⟩
  rw [strCells_bytes, ← bytesV_append] at hown2
  have e : l ++ textE s.data.toList = l ++ uv s.size ++ s.data.toList := by rw [textE, size_data, List.append_assoc]
  have e2 : (l ++ uv s.size ++ s.data.toList).length = (l ++ uv s.size).length + s.size := by rw [List.length_append, size_data]
  rw [e, e2]
  exact hown2
/-- what reading a text at the head of l answers -/
def GetTextIs (l : List UInt8) (w : World) (e : Ending) (w' : World) : Prop := e = .returned (.tuple #[.string ⟨(gotT l).toArray⟩, .int .i64 (usedT l : Nat), .int .i64 (textN l : Nat)]) ∧ w' = w
theorem getTextIs_bad {l : List UInt8} {w : World} {k : Nat} (h : textN l = k) (hk : k ≠ 0) : GetTextIs l w (.returned (.tuple #[.string { data := #[] }, .int .i64 0, .int .i64 (k : Int)])) w := by
  refine ⟨?_, rfl⟩
  rw [gotT, usedT, if_neg (by omega), if_neg (by omega), h]; rfl
theorem getTextIs_good {l : List UInt8} {w : World} (h : textN l = 0) : GetTextIs l w (.returned (.tuple #[.string ⟨((l.take (getN l + getV l)).drop (getN l)).toArray⟩, .int .i64 ((getN l : Int) + (getV l : Int)), .int .i64 0])) w := by
  refine ⟨?_, rfl⟩
  rw [gotT, usedT, if_pos h, if_pos h, h, List.drop_take, Nat.add_sub_cancel_left]; rfl
set_option maxRecDepth 100000 in
set_option maxHeartbeats 1000000 in
theorem gettext_any (a : Option Addr) (cap : Nat) (l : List UInt8) (w : World) (hl : l.length ≤ 1000000000) (hc : l.length ≤ cap) (h : IsBytes w a l) :
    Calls Try.prog 80 #[.slice a l.length cap] w (GetTextIs l w) := by
  obtain ⟨i0, hi, hz0, hz1, hz2⟩ := info_parts Try.info5
  have HK := Lib.hid (get_any a cap l w hl h)
  have H := Lib.hid h
  have hle := getN_le l
  clear h
  go_enter Try.func80, Try.ntmps80
  go_wp2_with fail
  refine HK.out.mono ?_
  rintro e w1 ⟨rfl, rfl⟩
  by_cases hE : getE l = 0
  · by_cases hS : l.length - getN l < getV l
    · have HT := Lib.hid (show textN l = 7 from by rw [textN, if_pos hE, if_pos hS])
      have hv := getV_lt l
      rw [hE]
      generalize getV l = V at *
      generalize getN l = N at *
      clear hE
      go_wp2_with fail
      go_ret3
      exact getTextIs_bad HT.out (by decide)
    · have ht : textN l = 0 := by rw [textN, if_pos hE, if_neg hS]
      have HG := Lib.hid (getTextIs_good (w := w1) ht)
      have hcb := cutA_bytes H.out (lo := getN l) (hi := getN l + getV l) (by omega) hc
      have hlen : ((l.take (getN l + getV l)).drop (getN l)).length = getV l := by rw [List.length_drop, List.length_take]; omega
      have HCB := Lib.hid hcb
      have HLen := Lib.hid hlen
      rw [hE]
      generalize (l.take (getN l + getV l)).drop (getN l) = T at *
      generalize getV l = V at *
      generalize getN l = N at *
      have hcv := run_string_of_bytes (P := Try.prog) w1 33 9 5 (cutA a cap N) V (cap - N) T HLen.out Try.underlying33 Try.underlying5 Try.underlying9 HCB.out
      clear hE ht hcb hlen
      go_wp2_with (refine wpList_slice_lh _ rfl _ _ _ 33 rfl 5 i0 Try.underlying33 hi hz1 a l.length cap N (N + V) rfl .i64 .i64 _ _ rfl rfl rfl (by omega) (by omega) (by omega) ?_; intro a' ha'; subst ha')
      go_ret3
      exact HG.out
  · have HT := Lib.hid (show textN l = getE l from by rw [textN, if_neg hE])
    have HNZ := Lib.hid hE
    generalize getV l = V at *
    generalize getN l = N at *
    generalize hEE : getE l = E at *
    have b1 : ((E : Int) == 0) = false := by rw [beq_eq_false_iff_ne]; omega
    have b2 : ((E : Int) != 0) = true := by rw [bne_iff_ne]; omega
    clear hE hEE
    go_wp2_with fail
    go_ret3
    exact getTextIs_bad HT.out HNZ.out
end Go.Proofs.Ytacjbgmnoiimbab
