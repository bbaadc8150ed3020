/- Reading one frame: the reference. -/
import Derived.Test.YtbamohcaamgalaeWalkD
namespace Go.Proofs.Ytbamohcaamgalae
set_option linter.unusedVariables false
set_option linter.unusedSimpArgs false
open Go.RowKit

/-- what the reference's 'Next' gives -/
def RefNextIs (a0 : Option Addr) (l : List UInt8) (w : World) (e : Ending) (w' : World) : Prop :=
  (∃ k, w' = w.drewN k) ∧ (nextE l = 0 → ∃ b o c, e = .returned (.tuple #[.slice (some ⟨b, o, none⟩) (num l) c, .int .i64 ((8 + num l : Nat) : Int), .int .i64 0]) ∧ IsBytes w (some ⟨b, o, none⟩) (payload l) ∧ num l ≤ c ∧ ∃ off, a0 = some ⟨b, off, none⟩) ∧
    (nextE l ≠ 0 → e = .returned (.tuple #[.slice none 0 0, .int .i64 0, .int .i64 (nextE l : Int)]))

set_option maxHeartbeats 2000000 in
theorem refnext_any (a : Option Addr) (cap n : Nat) (l : List UInt8) (w : World) (hn : l.length = n) (hcap : n ≤ cap) (hl : n ≤ 1000000) (h : IsBytes w a l) :
    Calls Try.prog 34 #[.slice a n cap] w (RefNextIs a l w) := by
  have HN := Lib.hid hn
  obtain ⟨i0, hi, hz0, hz1, hz2⟩ := info_parts Try.info5
  by_cases h8 : n < 8
  · have HE := Lib.hid (nextE_short l (Or.inl (by omega)))
    clear hn h
    go_enter Try.func34, Try.ntmps34
    go_wp2_with fail
    go_ret3
    exact ⟨⟨0, rfl⟩, fun h0 => absurd h0 (by rw [HE.out]; decide), fun _ => by rw [HE.out]; rfl⟩
  · have hnum := num_lt l
    by_cases hs : n - 8 < num l
    · have HE := Lib.hid (nextE_short l (Or.inr (by omega)))
      have HNM := Lib.hid (rfl : num l = num l)
      obtain ⟨m, hm⟩ : ∃ m, m = num l := ⟨_, rfl⟩
      rw [← hm] at hs hnum
      have HM := Lib.hid hm
      have H := Lib.hid h
      clear hn h hm
      go_enter Try.func34, Try.ntmps34
      go_wp2_with (go_at_call 44; refine (number_any a cap n l _ HN.out (by omega) hl (by exact H.out)).mono ?_; rintro e w1 ⟨rfl, k, rfl⟩; rw [← HM.out])
      go_ret3
      exact ⟨⟨_, rfl⟩, fun h0 => absurd h0 (by rw [HE.out]; decide), fun _ => by rw [HE.out]; rfl⟩
    · have HP : Hid (payload l = (l.take (8 + num l)).drop 8) := rfl
      have HE : Hid (nextE l = if sum (payload l) = num (l.drop 4) then 0 else 8) := by have : nextE l = if sum (payload l) = num (l.drop 4) then 0 else 8 := by rw [nextE, if_neg (by omega)]
                                                                                        exact this
      have HPL : Hid ((payload l).length = num l) := by have : (payload l).length = num l := by rw [payload, List.length_drop, List.length_take]; omega
                                                        exact this
      have hs2 := sum_lt (payload l)
      have hs3 := num_lt (l.drop 4)
      obtain ⟨m, hm⟩ : ∃ m, m = num l := ⟨_, rfl⟩
      rw [← hm] at hs hnum HP HPL
      have HM := Lib.hid hm
      have H := Lib.hid h
      obtain ⟨b, off, rfl, hb, hc⟩ := h (by omega)
      have h4 := cutA_bytes (cap := cap) (lo := 4) (hi := n) H.out (by omega) (by omega)
      rw [List.take_of_length_le (by omega)] at h4
      have hcut4 : cutA (some ⟨b, off, none⟩) cap 4 = some ⟨b, off + 4, none⟩ := by unfold cutA; rw [if_neg (by omega)]; simp [Addr.add_lit]
      rw [hcut4] at h4
      have H4 := Lib.hid h4
      have hcap4 : ¬ cap = 4 := by omega
      have HL4 : Hid ((l.drop 4).length = n - 4) := by have : (l.drop 4).length = n - 4 := by rw [List.length_drop]; omega
                                                       exact this
      obtain ⟨p, hp⟩ : ∃ p, p = payload l := ⟨_, rfl⟩
      rw [← hp] at HE HPL hs2 HP
      have HPP := Lib.hid hp
      obtain ⟨q, hq⟩ : ∃ q, q = num (l.drop 4) := ⟨_, rfl⟩
      rw [← hq] at HE hs3
      have HQ := Lib.hid hq
      clear hn hm hc h4 hcut4 hp hq
      have HP0 : Hid (p = (l.take (8 + num l)).drop 8) := HPP.out
      generalize hS : sum p = S at *
      have HS := Lib.hid hS
      clear hS
      obtain ⟨o5, ho5⟩ := cutA_some b off cap 8
      have h5 := cutA_bytes (cap := cap) (lo := 8) (hi := 8 + m) H.out (by have := HN.out; omega) (by have := HN.out; omega)
      rw [ho5, HM.out, ← HP0.out] at h5
      have H5 := Lib.hid h5
      have HO5 := Lib.hid ho5
      clear h5 ho5
      by_cases heq : S = q
      case' pos =>
        have hne : ((S : Int) != (q : Int)) = false := by simp; omega
        have HE2 : Hid (nextE l = 0) := by rw [HE.out, if_pos heq]; rfl
      case' neg =>
        have hne : ((S : Int) != (q : Int)) = true := by simp; omega
        have HE2 : Hid (nextE l = 8) := by rw [HE.out, if_neg heq]; rfl
      all_goals
        have hwS : IntKind.u64.wrap (S : Int) = (S : Int) := IntWalk.u64_in _ (by omega)
        clear heq HE
        go_enter Try.func34, Try.ntmps34
        go_wp2_with (first
          | (go_at_call 44; refine (number_any (some ⟨b, off, none⟩) cap n l _ HN.out (by omega) hl (by exact H.out)).mono ?_; rintro e w1 ⟨rfl, k, rfl⟩; rw [← HM.out])
          | (refine wpList_slice_lh _ rfl (.tmp 22) _ (.tmp 24) 28 rfl 5 i0 Try.underlying28 hi hz1 _ n cap 8 (8 + m) rfl _ _ _ _ rfl rfl rfl (by omega) (by omega) (by omega) ?_; intro a5 ha5; have ha6 := ha5.trans HO5.out; clear ha5; subst ha6))
        go_region_with (first
          | (go_at_call 25; refine (refsum_at (some ⟨b, o5, none⟩) _ m p _ HPL.out (by omega) (by exact H5.out)).mono ?_; rintro e w3 ⟨rfl, rfl⟩; rw [HS.out])
          | (go_at_call 44; refine (number_any (some ⟨b, off + 4, none⟩) _ (n - 4) (l.drop 4) _ HL4.out (by omega) (by omega) (by exact H4.out)).mono ?_; rintro e w4 ⟨rfl, k4, rfl⟩; rw [← HQ.out]))
      all_goals
        go_wp2_with fail
        go_ret3
        have hE := HE2.out
        by_cases hz : nextE l = 0
        · first
          | (exfalso; omega)
          | (refine ⟨⟨_, rfl⟩, fun _ => ⟨b, o5, cap - 8, ?_, ?_, ?_, off, rfl⟩, fun h0 => absurd hz h0⟩
             · rw [← HM.out]; rfl
             · rw [← HPP.out]; exact H5.out
             · rw [← HM.out]; omega)
        · first
          | (exfalso; omega)
          | (refine ⟨⟨_, rfl⟩, fun h0 => absurd h0 hz, fun _ => ?_⟩
             rw [hE]; rfl)
end Go.Proofs.Ytbamohcaamgalae
