/- The frame by the reference; reading one frame. -/
import Derived.Test.YtbamohcaamgalaeWalkC
namespace Go.Proofs.Ytbamohcaamgalae
set_option linter.unusedVariables false
set_option linter.unusedSimpArgs false
open Go.RowKit

set_option maxHeartbeats 1000000 in
theorem refseal_any (a : Option Addr) (cap n : Nat) (l : List UInt8) (w : World) (hn : l.length = n) (hl : n ≤ 1000000) (h : IsBytes w a l) :
    Calls Try.prog 11 #[.slice a n cap] w fun e w' => ∃ v', e = .returned v' ∧ w'.ownsRow w.heap.size 5 1 v' (8 + n) (bytesV (seal_ l)) ∧ Below w.heap.size w w' := by
  have HN := Lib.hid hn
  obtain ⟨i0, hi, hz0, hz1, hz2⟩ := info_parts Try.info5
  have H := Lib.hid h
  have HS := Lib.hid (sum_lt l)
  clear hn h
  go_enter Try.func11, Try.ntmps11
  go_wp2_with fail
  refine (four_any n _ _ (by omega) (by omega)).mono ?_
  rintro e w1 ⟨v1, rfl, hown1, hB1⟩
  obtain ⟨a1, m1, c1, rfl⟩ := row_slice hown1
  go_wp2_with fail
  refine (refsum_at a cap n l _ HN.out (by omega) (H.out.below hB1)).mono ?_
  rintro e w2 ⟨rfl, rfl⟩
  go_wp2_with fail
  refine (four_any (sum l) _ _ rfl HS.out).mono ?_
  rintro e w3 ⟨v3, rfl, hown3, hb3⟩
  have hown2 := Below.row hb3 hown1
  have hB3 := hB1.trans (hb3.mono hB1.size)
  obtain ⟨g3, c3, rfl, hg31, hg32, hg33⟩ := row_shape hown3 (by omega)
  have hbs := isBytes_row hown3
  go_wp2_with (first
    | (at_builtin; refine wpList_append_bytes w3 rfl _ _ 28 rfl w.heap.size 5 i0 (.int .u8 0) Try.underlying28 hi hz0 hz1 hz2 rfl _ 4 _ rfl hown2 _ 4 c3 (four (sum l)) rfl rfl hbs (by omega) hB3.size ?_; intro v4 w4 hown4 hg4 _; have hB4 := Below.own hB3 hown2 (Nat.le_refl _) hB3.size hg4; obtain ⟨a4, m4, c4, rfl⟩ := row_slice hown4)
    | (at_builtin; refine wpList_append_bytes w4 rfl _ _ 28 rfl w.heap.size 5 i0 (.int .u8 0) Try.underlying28 hi hz0 hz1 hz2 rfl _ 8 _ rfl hown4 _ n cap l rfl HN.out (H.out.below hB4) (by omega) hB4.size ?_; intro v5 w5 hown5 hg5 _))
  go_ret
  refine ⟨_, rfl, ?_, Below.own hB4 hown4 (Nat.le_refl _) hB4.size hg5⟩
  rw [← bytesV_append, ← bytesV_append] at hown5
  rw [seal_, HN.out]
  exact hown5

theorem own_base {w : World} {base b : Nat} {e : TypeId} {size n : Nat} {v : Value} {xs : List Value} (h : w.ownsRow base e size v n xs) (hb : b ≤ base) : w.ownsRow b e size v n xs := by
  refine ⟨h.1, ?_⟩
  rcases h.2 with h0 | ⟨g', cap', cur, hv, hg, r⟩
  · exact .inl h0
  · exact .inr ⟨g', cap', cur, hv, Nat.le_trans hb hg, r⟩
/-- what 'Next' gives -/
def NextIs (l : List UInt8) (w : World) (e : Ending) (w' : World) : Prop :=
  Below w.heap.size w w' ∧ ∃ v : Value, (nextE l = 0 → e = .returned (.tuple #[v, .int .i64 ((8 + num l : Nat) : Int), .int .i64 0]) ∧ w'.ownsRow w.heap.size 5 1 v (num l) (bytesV (payload l))) ∧
    (nextE l ≠ 0 → e = .returned (.tuple #[.slice none 0 0, .int .i64 0, .int .i64 (nextE l : Int)]))
theorem nextE_short (l : List UInt8) (h : l.length < 8 ∨ l.length - 8 < num l) : nextE l = 7 := by rw [nextE, if_pos h]
theorem num_lt (l : List UInt8) : num l < 4294967296 := by
  have h0 := (l.getD 0 0).toNat_lt
  have h1 := (l.getD 1 0).toNat_lt
  have h2 := (l.getD 2 0).toNat_lt
  have h3 := (l.getD 3 0).toNat_lt
  unfold num
  omega

set_option maxHeartbeats 2000000 in
theorem next_any (a : Option Addr) (cap n : Nat) (l : List UInt8) (w : World) (hn : l.length = n) (hcap : n ≤ cap) (hl : n ≤ 1000000) (h : IsBytes w a l) :
    Calls Try.prog 33 #[.slice a n cap] w (NextIs l w) := by
  have HN := Lib.hid hn
  obtain ⟨i0, hi, hz0, hz1, hz2⟩ := info_parts Try.info5
  by_cases h8 : n < 8
  · have HE := Lib.hid (nextE_short l (Or.inl (by omega)))
    clear hn h
    go_enter Try.func33, Try.ntmps33
    go_wp2_with fail
    go_ret3
    exact ⟨Below.refl _ _, .slice none 0 0, fun h0 => absurd h0 (by rw [HE.out]; decide), fun _ => by rw [HE.out]; rfl⟩
  · have hnum := num_lt l
    by_cases hs : n - 8 < num l
    · have HE := Lib.hid (nextE_short l (Or.inr (by omega)))
      have HNM := Lib.hid (rfl : num l = num l)
      obtain ⟨m, hm⟩ : ∃ m, m = num l := ⟨_, rfl⟩
      rw [← hm] at hs hnum
      have HM := Lib.hid hm
      have H := Lib.hid h
      clear hn h hm
      go_enter Try.func33, Try.ntmps33
      go_wp2_with (go_at_call 42; refine (fget_any a cap n l _ HN.out (by omega) hl (by exact H.out)).mono ?_; rintro e w1 ⟨rfl, k, rfl⟩; rw [← HM.out])
      go_ret3
      exact ⟨Below.drewN (Below.refl _ _) _, .slice none 0 0, fun h0 => absurd h0 (by rw [HE.out]; decide), fun _ => by rw [HE.out]; rfl⟩
    · have HP : Hid (payload l = (l.take (8 + num l)).drop 8) := rfl
      have HE : Hid (nextE l = if sum (payload l) = num (l.drop 4) then 0 else 8) := by have : nextE l = if sum (payload l) = num (l.drop 4) then 0 else 8 := by rw [nextE, if_neg (by omega)]
                                                                                        exact this
      have HPL : Hid ((payload l).length = num l) := by have : (payload l).length = num l := by rw [payload, List.length_drop, List.length_take]; omega
                                                        exact this
      have hs2 := sum_lt (payload l)
      have hs3 := num_lt (l.drop 4)
      obtain ⟨m, hm⟩ : ∃ m, m = num l := ⟨_, rfl⟩
      rw [← hm] at hs hnum HP HPL
      have HM := Lib.hid hm
      have H := Lib.hid h
      obtain ⟨b, off, rfl, hb, hc⟩ := h (by omega)
      have h4 := cutA_bytes (cap := cap) (lo := 4) (hi := n) H.out (by omega) (by omega)
      rw [List.take_of_length_le (by omega)] at h4
      have hcut4 : cutA (some ⟨b, off, none⟩) cap 4 = some ⟨b, off + 4, none⟩ := by unfold cutA; rw [if_neg (by omega)]; simp [Addr.add_lit]
      rw [hcut4] at h4
      have H4 := Lib.hid h4
      have hcap4 : ¬ cap = 4 := by omega
      have HL4 : Hid ((l.drop 4).length = n - 4) := by have : (l.drop 4).length = n - 4 := by rw [List.length_drop]; omega
                                                       exact this
      obtain ⟨p, hp⟩ : ∃ p, p = payload l := ⟨_, rfl⟩
      rw [← hp] at HE HPL hs2 HP
      have HPP := Lib.hid hp
      obtain ⟨q, hq⟩ : ∃ q, q = num (l.drop 4) := ⟨_, rfl⟩
      rw [← hq] at HE hs3
      have HQ := Lib.hid hq
      clear hn hm hc h4 hcut4 hp hq
      have HP0 : Hid (p = (l.take (8 + num l)).drop 8) := HPP.out
      generalize hS : sum p = S at *
      have HS := Lib.hid hS
      clear hS
      obtain ⟨o5, ho5⟩ := cutA_some b off cap 8
      have h5 := cutA_bytes (cap := cap) (lo := 8) (hi := 8 + m) H.out (by have := HN.out; omega) (by have := HN.out; omega)
      rw [ho5, HM.out, ← HP0.out] at h5
      have H5 := Lib.hid h5
      have HO5 := Lib.hid ho5
      clear h5 ho5
      by_cases heq : S = q
      case' pos =>
        have hne : ((S : Int) != (q : Int)) = false := by simp; omega
        have HE2 : Hid (nextE l = 0) := by rw [HE.out, if_pos heq]; rfl
      case' neg =>
        have hne : ((S : Int) != (q : Int)) = true := by simp; omega
        have HE2 : Hid (nextE l = 8) := by rw [HE.out, if_neg heq]; rfl
      all_goals
        clear heq HE
        go_enter Try.func33, Try.ntmps33
        go_wp2_with (first
          | (go_at_call 42; refine (fget_any (some ⟨b, off, none⟩) cap n l _ HN.out (by omega) hl (by exact H.out)).mono ?_; rintro e w1 ⟨rfl, k, rfl⟩; rw [← HM.out])
          | (refine wpList_slice_lh _ rfl (.tmp 19) _ (.tmp 23) 28 rfl 5 i0 Try.underlying28 hi hz1 _ n cap 8 (8 + m) rfl _ _ _ _ rfl rfl rfl (by omega) (by omega) (by omega) ?_; intro a5 ha5; have ha6 := ha5.trans HO5.out; clear ha5; subst ha6))
        go_region_with (first
          | (go_at_call 38; refine (sum_at (some ⟨b, o5, none⟩) _ m p _ HPL.out (by omega) (by exact H5.out)).mono ?_; rintro e w3 ⟨rfl, hb3⟩; rw [HS.out])
          | (go_at_call 42; refine (fget_any (some ⟨b, off + 4, none⟩) _ (n - 4) (l.drop 4) _ HL4.out (by omega) (by omega) (by exact IsBytes.below (by exact H4.out) hb3)).mono ?_; rintro e w4 ⟨rfl, k4, rfl⟩; rw [← HQ.out]))
      all_goals
        have hB4 : Below w.heap.size w w3 := (Below.drewN (Below.refl _ _) _).trans hb3
        have H53 := Lib.hid (IsBytes.below H5.out hB4)
        go_wp2_with (go_at_call 43; refine (clone_any_ b o5 _ m p _ HPL.out (by omega) (by exact H53.out)).mono ?_; rintro e w5 ⟨v5, rfl, hown5, hb5⟩)
        go_ret3
      · exact ⟨Below.drewN hB4 _, .slice none 0 0, (fun h0 => absurd h0 (by rw [HE2.out]; decide)), (fun _ => by rw [HE2.out]; rfl)⟩
      · exact ⟨Below.drewN hB4 _, .slice none 0 0, (fun h0 => absurd h0 (by rw [HE2.out]; decide)), (fun _ => by rw [HE2.out]; rfl)⟩
      all_goals
        have hB5 := Below.drewN hB4 k4
        have hB6 := hB5.trans (hb5.mono hB5.size)
        refine ⟨hB6, v5, fun _ => ⟨?_, ?_⟩, fun h0 => ?_⟩
        · rw [← HM.out]; rfl
        · rw [← HM.out, ← HPP.out]; exact own_base hown5 hB5.size
        · exact absurd HE2.out h0
end Go.Proofs.Ytbamohcaamgalae
