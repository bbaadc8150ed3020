/- Whether the keys are few and short. -/
import Derived.Test.YtlhgjecbjfiljaaWalkC
namespace Go.Proofs.Ytlhgjecbjfiljaa
open Go.RowKit

/-- v is a slice of texts, and they are l. -/
def IsStrs (w : World) (a : Option Addr) (l : List ByteArray) : Prop :=
  0 < l.length → ∃ b off, a = some ⟨b, off, none⟩ ∧ b < w.heap.size ∧ ∀ k, k < l.length → w.cell? ⟨b, off + k, none⟩ = some (.string (l.getD k ByteArray.empty))
def fewB (l : List ByteArray) : Bool := l.all (fun s => decide (s.size ≤ 300)) && decide (l.length ≤ 200)
theorem all_take (l : List ByteArray) (p : ByteArray → Bool) (k : Nat) (h : k < l.length) (ha : (l.take k).all p = true) : (l.take (k + 1)).all p = p (l.getD k ByteArray.empty) := by
  rw [List.take_succ_eq_append_getElem h, List.all_append, ha]
  simp [List.getD, h]

theorem ret_bool {a b : Bool} (h : a = b) : Ending.returned (.bool a) = .returned (.bool b) := by rw [h]
theorem fewB_long (l : List ByteArray) (k : Nat) (h : k < l.length) (hs : 300 < (l.getD k ByteArray.empty).size) : fewB l = false := by
  have : l.all (fun s => decide (s.size ≤ 300)) = false := by
    rw [List.all_eq_false]
    refine ⟨l.getD k ByteArray.empty, ?_, by rw [decide_eq_true_iff]; exact Nat.not_le.2 hs⟩
    simp only [List.getD, h, List.getElem?_eq_getElem, Option.getD_some, List.getElem_mem]
  simp [fewB, this]
set_option maxHeartbeats 400000 in
theorem few_any (a : Option Addr) (cap : Nat) (l : List ByteArray) (w : World) (hl : l.length ≤ 9223372036854775807) (h : IsStrs w a l) :
    Calls Try.prog 8 #[.slice a l.length cap] w fun e w' => e = .returned (.bool (fewB l)) ∧ w' = w := by
  have H := Lib.hid h
  clear h
  go_enter Try.func8, Try.ntmps8
  go_wp2
  go_loop [4, 7] (fun _ i => ∃ k : Nat, k ≤ l.length ∧ i = .int .i64 k ∧ Hid ((l.take k).all (fun s => decide (s.size ≤ 300)) = true)) (fun _ i => l.length - (intOf i).toNat)
  case atStart => exact ⟨0, Nat.zero_le _, rfl, rfl⟩
  case round =>
    obtain ⟨k, hk, rfl, hall⟩ := hrel
    by_cases hlt : k < l.length
    · obtain ⟨b, off, rfl, hb, hc⟩ := H.out (by omega)
      have hck := hc k hlt
      generalize hs : l.getD k ByteArray.empty = s at hck
      have HS := Lib.hid hs
      clear hs hc
      have ht := all_take l (fun s => decide (s.size ≤ 300)) k hlt hall.out
      rw [HS.out] at ht
      have HT := Lib.hid ht
      clear ht
      by_cases hsz : s.size ≤ 300
      · go_wp2
        go_round
        case rel => exact ⟨k + 1, by omega, by go_num, Lib.hid (by rw [HT.out]; simpa using hsz)⟩
        case measure => simp [intOf]; omega
      · go_wp2
        go_ret
        exact ⟨ret_bool (by rw [fewB_long l k hlt (by rw [HS.out]; omega)]), rfl⟩
    · obtain rfl : k = l.length := by omega
      have hall' := hall.out
      rw [List.take_length] at hall'
      have HF : Hid (fewB l = decide ((l.length : Int) ≤ 200)) := by
        have : fewB l = decide ((l.length : Int) ≤ 200) := by rw [fewB, hall', Bool.true_and]; exact decide_eq_decide.2 (by omega)
        exact this
      clear hall'
      go_wp2
      go_ret
      exact ⟨ret_bool HF.out.symm, rfl⟩
end Go.Proofs.Ytlhgjecbjfiljaa
