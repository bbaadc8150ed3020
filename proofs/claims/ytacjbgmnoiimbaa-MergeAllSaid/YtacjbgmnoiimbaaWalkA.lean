/- Rows of texts held against each other, sought in, put into; few; sorted: walked. -/
import Derived.Test.YtacjbgmnoiimbaaOrd
namespace Go.Proofs.Ytacjbgmnoiimbaa
set_option linter.unusedVariables false
set_option linter.unusedSimpArgs false
open Go.RowKit

theorem bytes_ext {a b : ByteArray} (h : a.data.toList = b.data.toList) : a = b := by
  cases a; cases b
  simp only [ByteArray.mk.injEq]
  exact Array.toList_inj.1 h
theorem text_eq_yes (a b : ByteArray) (h : a = b) : (a.toList == b.toList) = true := by subst h; simp
theorem text_eq_no (a b : ByteArray) (h : ¬ a = b) : (a.toList == b.toList) = false := by
  rw [beq_eq_false_iff_ne, ByteArray.toList_eq, ByteArray.toList_eq]
  exact fun e => h (bytes_ext e)
theorem strs_ext (a b : List ByteArray) (hl : a.length = b.length) (h : ∀ j, j < a.length → a.getD j ByteArray.empty = b.getD j ByteArray.empty) : a = b := by
  refine List.ext_getElem hl (fun i h1 h2 => ?_)
  have := h i h1
  simp only [List.getD_eq_getElem?_getD, List.getElem?_eq_getElem h1, List.getElem?_eq_getElem h2, Option.getD_some] at this
  exact this
set_option maxRecDepth 100000 in
set_option maxHeartbeats 1000000 in
theorem same_any (a a2 : Option Addr) (cap cap2 : Nat) (l l2 : List ByteArray) (w : World) (hl : l.length ≤ 1000000000) (hl2 : l2.length ≤ 1000000000) (h : IsStrs w a l) (h2 : IsStrs w a2 l2) :
    Calls Try.prog 11 #[.slice a l.length cap, .slice a2 l2.length cap2] w fun e w' => e = .returned (.bool (decide (l = l2))) ∧ ∃ n, w' = w.drewN n := by
  have H := Lib.hid h
  have H2 := Lib.hid h2
  clear h h2
  by_cases hlen : l.length = l2.length
  · have hn : ((l.length : Int) != (l2.length : Int)) = false := by rw [hlen]; simp
    have HLen := Lib.hid hlen
    clear hlen
    go_enter Try.func11, Try.ntmps11
    go_wp2_with fail
    go_loopw [13] (fun i wr => ∃ k : Nat, k ≤ l.length ∧ i = .int .i64 k ∧ Hid (∀ j, j < k → l.getD j ByteArray.empty = l2.getD j ByteArray.empty) ∧ ∃ n, wr = w.drewN n) (fun i _ => l.length - (intOf i).toNat)
    case atStart => exact ⟨0, Nat.zero_le _, rfl, Lib.hid (fun j hj => by omega), 0, rfl⟩
    case round =>
      obtain ⟨k, hkl, rfl, HE, n, rfl⟩ := hrel
      by_cases hlt : k < l.length
      · have hbd := Below.drewN (Below.refl w.heap.size w) n
        obtain ⟨b, off, rfl, hb, hc⟩ := H.out (by omega)
        obtain ⟨b2, off2, rfl, hb2, hc2⟩ := H2.out (by rw [← HLen.out]; omega)
        have c1 := hc k hlt
        have c2 := hc2 k (by rw [← HLen.out]; omega)
        have hdk : decide ((k : Int) < (l.length : Int)) = true := by simp; omega
        have hk2 : k < l2.length := by rw [← HLen.out]; exact hlt
        have hi1 : (k : Int) < (l.length : Int) := by omega
        have hi2 : (k : Int) < (l2.length : Int) := by omega
        generalize hx : l.getD k ByteArray.empty = x at *
        generalize hy : l2.getD k ByteArray.empty = y at *
        have HX := Lib.hid hx
        have HY := Lib.hid hy
        clear hc hc2 hx hy
        by_cases hxy : x = y
        · have he := text_eq_yes x y hxy
          have HXY := Lib.hid hxy
          clear hxy
          go_wp2_with fail
          go_quiet (fail)
          go_wp2_with fail
          go_roundw
          case rel =>
            refine ⟨k + 1, by omega, by go_num, ?_, _, rfl⟩
            intro j hj
            by_cases e : j = k
            · rw [e, HX.out, HY.out, HXY.out]
            · exact HE.out j (by omega)
          case measure => simp [intOf]; omega
        · have he := text_eq_no x y hxy
          have HR : Hid (decide (l = l2) = false) := by
            refine decide_eq_false (fun e => hxy ?_)
            rw [← HX.out, ← HY.out, e]
          clear hxy
          go_wp2_with fail
          go_quiet (fail)
          go_wp2_with fail
          go_ret
          exact ⟨ret_bool HR.out.symm, n + nq, (by simp)⟩
      · obtain rfl : k = l.length := by omega
        have HR : Hid (decide (l = l2) = true) := decide_eq_true (strs_ext l l2 HLen.out HE.out)
        go_wp2_with fail
        go_ret
        exact ⟨ret_bool HR.out.symm, n, rfl⟩
  · have hn : ((l.length : Int) != (l2.length : Int)) = true := by rw [bne_iff_ne]; omega
    have HR : Hid (decide (l = l2) = false) := decide_eq_false (fun e => hlen (by rw [e]))
    clear hlen
    go_enter Try.func11, Try.ntmps11
    go_wp2_with fail
    go_ret
    exact ⟨ret_bool HR.out.symm, 0, rfl⟩
end Go.Proofs.Ytacjbgmnoiimbaa
