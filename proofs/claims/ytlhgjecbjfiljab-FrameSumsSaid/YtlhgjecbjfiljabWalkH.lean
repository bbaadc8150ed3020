/- Whether rows of bytes are the same. -/
import Derived.Test.YtlhgjecbjfiljabWalkG
namespace Go.Proofs.Ytlhgjecbjfiljab
set_option linter.unusedVariables false
set_option linter.unusedSimpArgs false
open Go.RowKit

/-- a slice of slices of bytes, and what they hold -/
def IsRows (w : World) (a : Option Addr) (ls : List (List UInt8)) : Prop :=
  0 < ls.length → ∃ b off, a = some ⟨b, off, none⟩ ∧ b < w.heap.size ∧ ∀ k, k < ls.length → ∃ ak ck, w.cell? ⟨b, off + k, none⟩ = some (.slice ak (ls.getD k []).length ck) ∧ IsBytes w ak (ls.getD k [])
theorem IsRows.below {w w' : World} {a : Option Addr} {ls : List (List UInt8)} (h : IsRows w a ls) (hb : Below w.heap.size w w') : IsRows w' a ls := by
  intro h0
  obtain ⟨b, off, ha, hbw, hc⟩ := h h0
  refine ⟨b, off, ha, Nat.lt_of_lt_of_le hbw hb.size, fun k hk => ?_⟩
  obtain ⟨ak, ck, h1, h2⟩ := hc k hk
  exact ⟨ak, ck, (hb.cell (p := ⟨b, off + k, none⟩) hbw).trans h1, h2.below hb⟩
theorem sameList_ne {la lb : List (List UInt8)} (k : Nat) (h : la.getD k [] ≠ lb.getD k []) : la ≠ lb := fun e => h (by rw [e])

set_option maxHeartbeats 2000000 in
theorem same_any (a b : Option Addr) (ca cb na nb : Nat) (la lb : List (List UInt8)) (w : World) (hna : la.length = na) (hnb : lb.length = nb) (hl : na ≤ 1000000) (hl2 : nb ≤ 1000000) (ha : IsRows w a la) (hb : IsRows w b lb) :
    Calls Try.prog 16 #[.slice a na ca, .slice b nb cb] w fun e w' => e = .returned (.bool (decide (la = lb))) ∧ ∃ k, w' = w.drewN k := by
  have HNA := Lib.hid hna
  have HNB := Lib.hid hnb
  have HA := Lib.hid ha
  have HB := Lib.hid hb
  by_cases hne : na = nb
  · subst hne
    clear ha hb hna hnb
    go_enter Try.func16, Try.ntmps16
    go_wp2_with fail
    go_loopw [13] (fun i wr => ∃ k m : Nat, k ≤ na ∧ i = .int .i64 k ∧ wr = w.drewN m ∧ Hid (∀ j, j < k → la.getD j [] = lb.getD j [])) (fun i _ => na - (intOf i).toNat)
    case atStart => exact ⟨0, 0, Nat.zero_le _, rfl, rfl, fun j hj => by cases hj⟩
    case round =>
      obtain ⟨k, m, hk, rfl, rfl, hall⟩ := hrel
      by_cases hlt : k < na
      · obtain ⟨b1, o1, rfl, hb1, hc1⟩ := HA.out (by have := HNA.out; omega)
        obtain ⟨b2, o2, rfl, hb2, hc2⟩ := HB.out (by have := HNB.out; omega)
        obtain ⟨x1, c1, hx1, hy1⟩ := hc1 k (by have := HNA.out; omega)
        obtain ⟨x2, c2, hx2, hy2⟩ := hc2 k (by have := HNB.out; omega)
        have hcv1 := fun n => run_string_of_bytes (P := Try.prog) (w.drewN n) 22 9 5 x1 _ c1 _ rfl Try.underlying22 Try.underlying5 Try.underlying9 (by exact hy1)
        have hcv2 := fun n => run_string_of_bytes (P := Try.prog) (w.drewN n) 22 9 5 x2 _ c2 _ rfl Try.underlying22 Try.underlying5 Try.underlying9 (by exact hy2)
        have HL : Hid (∀ p q, la.getD k [] = p → lb.getD k [] = q → la.getD k [] = p) := fun p q h _ => h
        clear hc1 hc2 hy1 hy2
        generalize hp : la.getD k [] = p at *
        generalize hq : lb.getD k [] = q at *
        have HP := Lib.hid hp
        have HQ := Lib.hid hq
        clear hp hq HL
        go_wp2_with fail
        go_quiet (fail)
        go_wp2_with fail
        · have hne : p ≠ q := by have h : (!p == q) = true := by assumption
                                 simpa using h
          have HF : Hid (decide (la = lb) = false) := by have : decide (la = lb) = false := decide_eq_false (fun e => hne (by rw [← HP.out, ← HQ.out, e]))
                                                         exact this
          go_ret
          exact ⟨ret_bool HF.out.symm, _, World.drewN_drewN _ _ _⟩
        · have heq : p = q := by have h : (!p == q) = false := by assumption
                                 simpa using h
          go_roundw
          case rel =>
            refine ⟨k + 1, _, by omega, by go_num, rfl, fun j hj => ?_⟩
            by_cases hjk : j < k
            · exact hall.out j hjk
            · obtain rfl : j = k := by omega
              rw [HP.out, HQ.out, heq]
          case measure => simp [intOf]; omega
      · obtain rfl : k = na := by omega
        have HF : Hid (decide (la = lb) = true) := by
          have : decide (la = lb) = true := by
            apply decide_eq_true
            apply List.ext_getElem?
            intro j
            by_cases hj : j < la.length
            · have hj2 : j < lb.length := by have := HNA.out; have := HNB.out; omega
              have := hall.out j (by have := HNA.out; omega)
              rw [List.getD_eq_getElem?_getD, List.getD_eq_getElem?_getD, List.getElem?_eq_getElem hj, List.getElem?_eq_getElem hj2] at this
              rw [List.getElem?_eq_getElem hj, List.getElem?_eq_getElem hj2]
              simpa using this
            · rw [List.getElem?_eq_none (by omega), List.getElem?_eq_none (by have := HNA.out; have := HNB.out; omega)]
          exact this
        go_wp2_with fail
        go_ret
        exact ⟨ret_bool HF.out.symm, _, rfl⟩
  · have HF : Hid (decide (la = lb) = false) := by
      have : decide (la = lb) = false := decide_eq_false (fun e => hne (by rw [← hna, ← hnb, e]))
      exact this
    have hb2 : ((na : Int) != (nb : Int)) = true := by simp; omega
    clear ha hb hna hnb
    go_enter Try.func16, Try.ntmps16
    go_wp2_with fail
    go_ret
    exact ⟨ret_bool HF.out.symm, 0, rfl⟩
end Go.Proofs.Ytlhgjecbjfiljab
