/- May a commit be: walked, both ways. -/
import Derived.Test.YtbamohcaamgalaeWalkJ
namespace Go.Proofs.Ytbamohcaamgalae
set_option linter.unusedVariables false
set_option linter.unusedSimpArgs false
open Go.RowKit

def comV (rev : Nat) (a : Option Addr) (n cap : Nat) : Value := .agg #[.int .u64 (rev : Int), .slice a n cap]
def BoolIs (p : Prop) (w : World) (e : Ending) (w' : World) : Prop := (∃ r : Bool, e = .returned (.bool r) ∧ (r = true ↔ p)) ∧ Below w.heap.size w w'
set_option maxHeartbeats 1000000 in
theorem right_any (rev : Nat) (a : Option Addr) (cap : Nat) (es : List Ent) (w : World) (hl : es.length ≤ 9223372036854775807) (hr : rev < 18446744073709551616) (he : ∀ i, EntOk (es.getD i default)) (h : IsEnts w a es) :
    Calls Try.prog 20 #[comV rev a es.length cap] w (BoolIs (Right rev es) w) := by
  unfold comV
  have hB := (Below.refl w.heap.size w).alloc (Nat.le_refl _) (.cells #[.int .u64 (rev : Int), .slice a es.length cap] 25)
  have hg : (w.alloc (.cells #[.int .u64 (rev : Int), .slice a es.length cap] 25)).cell? ⟨w.heap.size, 0, none⟩ = some (.int .u64 (rev : Int)) := by
    rw [cell_of_row _ _ 0 _ _ _ (heap_alloc_new w _)]; rfl
  have HC := Lib.hid (containsfunc_any a cap es w.heap.size rev _ hl hr he (h.below hB) hg)
  clear h he hg
  by_cases h0 : 0 < rev
  · have d0 : decide (0 < (rev : Int)) = true := decide_eq_true (by omega)
    by_cases h1 : 0 < es.length
    · have d1 : decide (0 < (es.length : Int)) = true := decide_eq_true (by omega)
      by_cases h2 : es.length ≤ 256
      · have d2 : decide ((es.length : Int) ≤ 256) = true := decide_eq_true (by omega)
        have d2' : decide (es.length ≤ 256) = true := decide_eq_true (by omega)
        go_enter Try.func20, Try.ntmps20
        go_wp2_with fail
        refine HC.out.mono ?_
        rintro e w1 ⟨⟨r, rfl, hr1⟩, hb1⟩
        have HB := Lib.hid (hB.trans (hb1.mono hB.size))
        have HR : Hid ((!r) = true ↔ Right rev es) := by
          show _ ↔ _
          unfold Right
          cases r with
          | true =>
            obtain ⟨i, hi, ho⟩ := hr1.1 rfl
            exact ⟨fun h => (by cases h), fun h => absurd ho (h.2.2.2 i hi)⟩
          | false =>
            refine ⟨fun _ => ⟨h0, h1, h2, fun i hi ho => ?_⟩, fun _ => rfl⟩
            have := hr1.2 ⟨i, hi, ho⟩
            cases this
        clear hr1 hb1
        go_wp2_with fail
        go_ret
        exact ⟨⟨!r, rfl, HR.out⟩, HB.out⟩
      · have d2 : decide ((es.length : Int) ≤ 256) = false := decide_eq_false (by omega)
        have d2' : decide (es.length ≤ 256) = false := decide_eq_false (by omega)
        have HN : Hid (¬ Right rev es) := fun h => h2 h.2.2.1
        go_enter Try.func20, Try.ntmps20
        go_wp2_with fail
        go_ret
        exact ⟨⟨false, rfl, (fun h => by cases h), fun h => absurd h HN.out⟩, hB⟩
    · have h1' : es.length = 0 := by omega
      have HN : Hid (¬ Right rev es) := fun h => h1 h.2.1
      rw [h1'] at hB ⊢
      go_enter Try.func20, Try.ntmps20
      go_wp2_with fail
      go_ret
      exact ⟨⟨false, rfl, (fun h => by cases h), fun h => absurd h HN.out⟩, hB⟩
  · obtain rfl : rev = 0 := by omega
    have HN : Hid (¬ Right 0 es) := fun h => h0 h.1
    go_enter Try.func20, Try.ntmps20
    go_wp2_with fail
    go_ret
    exact ⟨⟨false, rfl, (fun h => by cases h), fun h => absurd h HN.out⟩, hB⟩
set_option maxRecDepth 100000 in
set_option maxHeartbeats 1000000 in
theorem refright_any (rev : Nat) (a : Option Addr) (cap : Nat) (es : List Ent) (w : World) (hl : es.length ≤ 9223372036854775807) (hr : rev < 18446744073709551616) (he : ∀ i, EntOk (es.getD i default)) (h : IsEnts w a es) :
    Calls Try.prog 10 #[comV rev a es.length cap] w (BoolIs (Right rev es) w) := by
  unfold comV
  have hB := (Below.refl w.heap.size w).alloc (Nat.le_refl _) (.cells #[.int .u64 (rev : Int), .slice a es.length cap] 25)
  have hg : (w.alloc (.cells #[.int .u64 (rev : Int), .slice a es.length cap] 25)).cell? ⟨w.heap.size, 0, none⟩ = some (.int .u64 (rev : Int)) := by
    rw [cell_of_row _ _ 0 _ _ _ (heap_alloc_new w _)]; rfl
  have H := Lib.hid h
  have HE := Lib.hid he
  have HG := Lib.hid hg
  clear h he hg
  by_cases h1 : 0 < es.length
  · have d1 : decide ((es.length : Int) < 1) = false := decide_eq_false (by omega)
    by_cases h2 : es.length ≤ 256
    · have d2 : decide (256 < (es.length : Int)) = false := decide_eq_false (by omega)
      have d2' : decide (256 < es.length) = false := decide_eq_false (by omega)
      by_cases h0 : 0 < rev
      · have d0 : decide ((rev : Int) < 1) = false := decide_eq_false (by omega)
        go_enter Try.func10, Try.ntmps10
        go_wp2_with fail
        go_loopw [23] (fun i wr => ∃ k : Nat, k ≤ es.length ∧ i = .int .i64 k ∧ Hid (∀ j, j < k → ¬ Odd rev (es.getD j default)) ∧ Below (w.heap.size + 1) (w.alloc (.cells #[.int .u64 (rev : Int), .slice a es.length cap] 25)) wr) (fun i _ => es.length - (intOf i).toNat)
        case atStart => exact ⟨0, Nat.zero_le _, rfl, Lib.hid (fun j hj => by omega), Below.refl _ _⟩
        case round =>
          obtain ⟨k, hkl, rfl, HO, hb⟩ := hrel
          have hBr := hB.trans (hb.mono (by omega))
          have hg := (hb.cell (p := ⟨w.heap.size, 0, none⟩) (by simp)).trans HG.out
          have hwl : w.heap.size < wr.heap.size := by have := hb.size; simp at this; omega
          have hne1 : ¬ w.heap.size = wr.heap.size := by omega
          have hne2 : ¬ wr.heap.size = w.heap.size := by omega
          by_cases hlt : k < es.length
          · obtain ⟨b, off, rfl, hbb, hc⟩ := (H.out.below hBr) (by omega)
            obtain ⟨c0, c1, c2⟩ := hc k hlt
            have hdk : decide ((k : Int) < (es.length : Int)) = true := by simp; omega
            have hok := HE.out k
            obtain ⟨x, hx⟩ : ∃ x, es.getD k default = x := ⟨_, rfl⟩
            rw [hx] at c0 c1 c2 hok
            have HX := Lib.hid hx
            obtain ⟨xk, xr, xd⟩ := x
            simp only at c0 c1 c2
            clear hc hx
            by_cases hrr : xr = rev
            · subst hrr
              by_cases hks : xk.size ≤ 65536
              · have dk : decide (65536 < (xk.size : Int)) = false := decide_eq_false (by omega)
                have dk' : decide (65536 < xk.size) = false := decide_eq_false (by omega)
                have HN : Hid (¬ Odd xr (es.getD k default)) := by
                  intro h
                  rw [HX.out] at h
                  rcases h with h | h
                  · exact h rfl
                  · simp only at h; omega
                go_wp2_with fail
                go_roundw
                case rel =>
                  refine ⟨k + 1, by omega, by go_num, ?_, hb.alloc (by have := hb.size; simp at this; omega) _⟩
                  intro j hj
                  by_cases e : j = k
                  · rw [e]; exact HN.out
                  · exact HO.out j (by omega)
                case measure => simp [intOf]; omega
              · have dk : decide (65536 < (xk.size : Int)) = true := decide_eq_true (by omega)
                have dk' : decide (65536 < xk.size) = true := decide_eq_true (by omega)
                have HN : Hid (¬ Right xr es) := by
                  intro h
                  refine h.2.2.2 k hlt ?_
                  rw [HX.out]
                  exact .inr (by simp only; omega)
                go_wp2_with fail
                go_ret
                exact ⟨⟨false, rfl, (fun h => by cases h), fun h => absurd h HN.out⟩, hBr.alloc hBr.size _⟩
            · have hne : ((xr : Int) != (rev : Int)) = true := by rw [bne_iff_ne]; omega
              have HN : Hid (¬ Right rev es) := by
                intro h
                refine h.2.2.2 k hlt ?_
                rw [HX.out]
                exact .inl hrr
              clear hrr
              go_wp2_with fail
              go_ret
              exact ⟨⟨false, rfl, (fun h => by cases h), fun h => absurd h HN.out⟩, hBr.alloc hBr.size _⟩
          · obtain rfl : k = es.length := by omega
            have hdk : decide ((es.length : Int) < (es.length : Int)) = false := by simp
            have HY : Hid (Right rev es) := ⟨h0, h1, h2, HO.out⟩
            go_wp2_with fail
            go_ret
            exact ⟨⟨true, rfl, fun _ => HY.out, fun _ => rfl⟩, hBr⟩
      · obtain rfl : rev = 0 := by omega
        have HN : Hid (¬ Right 0 es) := fun h => h0 h.1
        go_enter Try.func10, Try.ntmps10
        go_wp2_with fail
        go_ret
        exact ⟨⟨false, rfl, (fun h => by cases h), fun h => absurd h HN.out⟩, hB⟩
    · have d2 : decide (256 < (es.length : Int)) = true := decide_eq_true (by omega)
      have d2' : decide (256 < es.length) = true := decide_eq_true (by omega)
      have HN : Hid (¬ Right rev es) := fun h => h2 h.2.2.1
      go_enter Try.func10, Try.ntmps10
      go_wp2_with fail
      go_ret
      exact ⟨⟨false, rfl, (fun h => by cases h), fun h => absurd h HN.out⟩, hB⟩
  · have h1' : es.length = 0 := by omega
    have HN : Hid (¬ Right rev es) := fun h => h1 h.2.1
    rw [h1'] at hB ⊢
    go_enter Try.func10, Try.ntmps10
    go_wp2_with fail
    go_ret
    exact ⟨⟨false, rfl, (fun h => by cases h), fun h => absurd h HN.out⟩, hB⟩
end Go.Proofs.Ytbamohcaamgalae
