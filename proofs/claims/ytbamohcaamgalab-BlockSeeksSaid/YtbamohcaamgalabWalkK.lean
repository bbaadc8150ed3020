/- A block opened; a key read from it: walked. -/
import Derived.Test.YtbamohcaamgalabWalkJ
namespace Go.Proofs.Ytbamohcaamgalab
set_option linter.unusedVariables false
set_option linter.unusedSimpArgs false
open Go.RowKit

theorem bytes_conv_eq (a b : List UInt8) (h : a = b) : (ByteArray.toList ⟨a.toArray⟩ == ByteArray.toList ⟨b.toArray⟩) = true := by subst h; simp
theorem bytes_conv_ne (a b : List UInt8) (h : ¬ a = b) : (ByteArray.toList ⟨a.toArray⟩ == ByteArray.toList ⟨b.toArray⟩) = false := by
  rw [beq_eq_false_iff_ne, ByteArray.toList_eq, ByteArray.toList_eq]
  simpa using h
set_option maxHeartbeats 1000000 in
theorem equal_any (a a2 : Option Addr) (n n2 cap cap2 : Nat) (l l2 : List UInt8) (w : World) (hn : l.length = n) (hn2 : l2.length = n2) (h : IsBytes w a l) (h2 : IsBytes w a2 l2) :
    Calls Try.prog 30 #[.slice a n cap, .slice a2 n2 cap2] w fun e w' => e = .returned (.bool (decide (l = l2))) ∧ w' = w := by
  have hc1 := run_string_of_bytes (P := Try.prog) w 26 9 5 a n cap l hn Try.underlying26 Try.underlying5 Try.underlying9 h
  have hc2 := run_string_of_bytes (P := Try.prog) w 26 9 5 a2 n2 cap2 l2 hn2 Try.underlying26 Try.underlying5 Try.underlying9 h2
  clear h h2
  by_cases e : l = l2
  · have he := bytes_conv_eq l l2 e
    have HR := Lib.hid (decide_eq_true e)
    clear e
    generalize ({ data := l.toArray } : ByteArray) = x at *
    generalize ({ data := l2.toArray } : ByteArray) = y at *
    go_enter Try.func30, Try.ntmps30
    go_wp2_with fail
    go_ret
    exact ⟨ret_bool HR.out.symm, rfl⟩
  · have he := bytes_conv_ne l l2 e
    have HR := Lib.hid (decide_eq_false e)
    clear e
    generalize ({ data := l.toArray } : ByteArray) = x at *
    generalize ({ data := l2.toArray } : ByteArray) = y at *
    go_enter Try.func30, Try.ntmps30
    go_wp2_with fail
    go_ret
    exact ⟨ret_bool HR.out.symm, rfl⟩
set_option maxHeartbeats 1000000 in
theorem refends_any (a : Option Addr) (cap : Nat) (l : List UInt8) (w : World) (hl : l.length ≤ 1000000000) (h : IsBytes w a l) (hc : l.length ≤ cap) :
    Calls Try.prog 19 #[.slice a l.length cap] w fun e w' => ∃ n : Int, e = .returned (.int .i64 n) ∧ (endsOk l → n = keysEnd l) ∧ (¬ endsOk l → n < 0) ∧ ∃ k, w' = w.drewN k := by
  obtain ⟨i0, hi, hz0, hz1, hz2⟩ := info_parts Try.info5
  by_cases h4 : l.length < 4
  · have hd : decide ((l.length : Int) < 4) = true := decide_eq_true (by omega)
    go_enter Try.func19, Try.ntmps19
    go_wp2_with fail
    go_ret
    exact ⟨-1, rfl, fun h => absurd h.1 (by omega), fun _ => by omega, 0, rfl⟩
  · have hd : decide ((l.length : Int) < 4) = false := decide_eq_false (by omega)
    have hcb := cutA_bytes h (lo := l.length - 4) (hi := l.length) (Nat.le_refl _) hc
    rw [List.take_length] at hcb
    have hG := Lib.hid (fun w' (hb : IsBytes w' (cutA a cap (l.length - 4)) (l.drop (l.length - 4))) => number_any (cutA a cap (l.length - 4)) (cap - (l.length - 4)) (l.length - (l.length - 4)) (l.drop (l.length - 4)) w' (by rw [List.length_drop]) (by omega) (by omega) hb)
    have HCB := Lib.hid hcb
    have hnum := num_lt (l.drop (l.length - 4))
    have HR1 : Hid (endsOk l → (l.length : Int) - 4 - 4 * (num (l.drop (l.length - 4)) : Int) = keysEnd l) := by
      intro h; unfold endsOk at h; unfold keysEnd; omega
    have HR2 : Hid (¬ endsOk l → (l.length : Int) - 4 - 4 * (num (l.drop (l.length - 4)) : Int) < 0) := by
      intro h; unfold endsOk at h; omega
    generalize num (l.drop (l.length - 4)) = N at *
    have hs : ((l.length : Int) - 4) = ((l.length - 4 : Nat) : Int) := by omega
    have hm4 : l.length - 4 ≤ l.length := by omega
    generalize l.length - 4 = m at *
    have HSm := Lib.hid hs
    clear h hcb hs
    go_enter Try.func19, Try.ntmps19
    go_wp2_with (refine wpList_slice_l _ rfl _ _ 26 rfl 5 i0 Try.underlying26 hi hz1 a l.length cap m rfl .i64 _ rfl HSm.out (by omega) ?_; intro a' ha'; subst ha')
    refine (hG.out _ HCB.out).mono ?_
    rintro e w1 ⟨rfl, k, rfl⟩
    go_wp2_with fail
    go_ret
    exact ⟨_, rfl, HR1.out, HR2.out, k, rfl⟩
set_option maxHeartbeats 1000000 in
theorem open_any (a : Option Addr) (cap : Nat) (l : List UInt8) (w : World) (hl : l.length ≤ 1000000000) (hc : l.length ≤ cap) (h : IsBytes w a l) :
    Calls Try.prog 24 #[.slice a l.length cap] w fun e w' => Below w.heap.size w w' ∧
      ((endsOk l ∧ e = .returned (.tuple #[.agg #[.slice (cutA a cap 0) (keysEnd l) cap, .int .i64 0, .string ⟨#[]⟩], .slice (cutA a cap (keysEnd l)) (l.length - 4 - keysEnd l) (cap - keysEnd l), .bool true])) ∨
       (¬ endsOk l ∧ e = .returned (.tuple #[.agg #[.slice none 0 0, .int .i64 0, .string ⟨#[]⟩], .slice none 0 0, .bool false]))) := by
  obtain ⟨i0, hi, hz0, hz1, hz2⟩ := info_parts Try.info5
  by_cases h4 : l.length < 4
  · have hd : decide ((l.length : Int) < 4) = true := decide_eq_true (by omega)
    go_enter Try.func24, Try.ntmps24
    go_wp2_with fail
    exact bodyPost_ret (v := .tuple #[.agg #[.slice none 0 0, .int .i64 0, .string ⟨#[]⟩], .slice none 0 0, .bool false]) (by simp [results, Try.results24, go_sem]) rfl ⟨(Below.refl _ _).alloc (Nat.le_refl _) _, .inr ⟨fun h => absurd h.1 (by omega), rfl⟩⟩
  · have hd : decide ((l.length : Int) < 4) = false := decide_eq_false (by omega)
    have hcb := cutA_bytes h (lo := l.length - 4) (hi := l.length) (Nat.le_refl _) hc
    rw [List.take_length] at hcb
    have hG := Lib.hid (fun w' (hb : IsBytes w' (cutA a cap (l.length - 4)) (l.drop (l.length - 4))) => get4_any (cutA a cap (l.length - 4)) (cap - (l.length - 4)) (l.length - (l.length - 4)) (l.drop (l.length - 4)) w' (by rw [List.length_drop]) (by omega) (by omega) hb)
    have hB1 := (Below.refl w.heap.size w).alloc (Nat.le_refl _) (.cells #[.slice none 0 0, .int .i64 0, .string { data := #[] }] 50)
    have HCB := Lib.hid (hcb.below hB1)
    have hnum := num_lt (l.drop (l.length - 4))
    by_cases hend : endsOk l
    · have hE1 : (l.length : Int) - 4 - 4 * (num (l.drop (l.length - 4)) : Int) = keysEnd l := by
        have hend := hend
        unfold endsOk at hend; unfold keysEnd; omega
      have hE2 : keysEnd l + 4 ≤ l.length := by
        have hend := hend
        unfold endsOk at hend; unfold keysEnd; omega
      have hd0 : decide ((keysEnd l : Int) < 0) = false := decide_eq_false (by omega)
      have HOK := Lib.hid hend
      generalize num (l.drop (l.length - 4)) = N at *
      generalize keysEnd l = E at *
      have hs : ((l.length : Int) - 4) = ((l.length - 4 : Nat) : Int) := by omega
      have hm4 : l.length - 4 ≤ l.length := by omega
      have hEm : E ≤ l.length - 4 := by omega
      generalize l.length - 4 = m at *
      have HSm := Lib.hid hs
      have hE1' : (m : Int) - 4 * (N : Int) = (E : Int) := by omega
      have hs1 : ∀ W, (Instr.slice 26 (.slice a l.length cap) none (some (.int .i64 (E : Int))) none).run Try.prog W = .ok (.slice (cutA a cap 0) E cap) W := fun W => run_slice_h1 (P := Try.prog) W 26 5 i0 Try.underlying26 hi hz1 a l.length cap E .i64 (by omega)
      have hs2 : ∀ W, (Instr.slice 26 (.slice a l.length cap) (some (.int .i64 (E : Int))) (some (.int .i64 (m : Int))) none).run Try.prog W = .ok (.slice (cutA a cap E) (m - E) (cap - E)) W := fun W => run_slice_lh1 (P := Try.prog) W 26 5 i0 Try.underlying26 hi hz1 a l.length cap E m .i64 .i64 (by omega) (by omega)
      have HS1 := Lib.hid hs1
      have HS2 := Lib.hid hs2
      clear h hcb hs hend hs1 hs2
      go_enter Try.func24, Try.ntmps24
      go_wp2_with (refine wpList_slice_l _ rfl _ _ 26 rfl 5 i0 Try.underlying26 hi hz1 a l.length cap m rfl .i64 _ rfl HSm.out (by omega) ?_; intro a' ha'; subst ha')
      refine (hG.out _ HCB.out).mono ?_
      rintro e w1 ⟨rfl, k, rfl⟩
      have hs := HSm.out
      go_wp2_with fail
      have hs1 := HS1.out
      have hs2 := HS2.out
      go_region
      go_wp2_with fail
      exact bodyPost_ret (v := .tuple #[.agg #[.slice (cutA a cap 0) E cap, .int .i64 0, .string ⟨#[]⟩], .slice (cutA a cap E) (m - E) (cap - E), .bool true]) (by simp [results, Try.results24, go_sem]) rfl
        ⟨(((Below.drewN hB1 _).setCell (Nat.le_refl _) _).setCell (Nat.le_refl _) _).setCell (Nat.le_refl _) _, .inl ⟨HOK.out, rfl⟩⟩
    · have hE1 : (l.length : Int) - 4 - 4 * (num (l.drop (l.length - 4)) : Int) < 0 := by
        have hend := hend
        unfold endsOk at hend; omega
      have HOK := Lib.hid hend
      generalize num (l.drop (l.length - 4)) = N at *
      have hs : ((l.length : Int) - 4) = ((l.length - 4 : Nat) : Int) := by omega
      have hm4 : l.length - 4 ≤ l.length := by omega
      generalize l.length - 4 = m at *
      have HSm := Lib.hid hs
      have hd2 : decide ((m : Int) - 4 * (N : Int) < 0) = true := decide_eq_true (by omega)
      clear h hcb hs hend
      go_enter Try.func24, Try.ntmps24
      go_wp2_with (refine wpList_slice_l _ rfl _ _ 26 rfl 5 i0 Try.underlying26 hi hz1 a l.length cap m rfl .i64 _ rfl HSm.out (by omega) ?_; intro a' ha'; subst ha')
      refine (hG.out _ HCB.out).mono ?_
      rintro e w1 ⟨rfl, k, rfl⟩
      have hs := HSm.out
      go_wp2_with fail
      exact bodyPost_ret (v := .tuple #[.agg #[.slice none 0 0, .int .i64 0, .string ⟨#[]⟩], .slice none 0 0, .bool false]) (by simp [results, Try.results24, go_sem]) rfl
        ⟨by first | exact Below.drewN hB1 _ | exact (((Below.drewN hB1 _).setCell (Nat.le_refl _) _).setCell (Nat.le_refl _) _).setCell (Nat.le_refl _) _, .inr ⟨HOK.out, rfl⟩⟩
end Go.Proofs.Ytbamohcaamgalab
