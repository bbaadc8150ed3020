/- fixed; CacheNil: walked. -/
import Derived.Test.YtacjbgmnoiimbacWalkF
namespace Go.Proofs.Ytacjbgmnoiimbac
set_option linter.unusedVariables false
set_option linter.unusedSimpArgs false
open Go.RowKit

def kAB : List ByteArray := [{ data := #[97, 98] }]
def kC : List ByteArray := [{ data := #[99] }]
theorem one_strs (w : World) (s : ByteArray) : IsStrs (w.alloc (.cells #[.string s] 9)) (some ⟨w.heap.size, 0, none⟩) [s] := by
  intro _
  refine ⟨w.heap.size, 0, rfl, by simp, fun k hk => ?_⟩
  have hk0 : k = 0 := by simpa using hk
  subst hk0
  exact heap_cell (heap_alloc_new w _) 0
theorem without_nil {f b : Int} {its1 : List It} (h : Without f b [] its1) : its1 = [] := by
  rcases h with ⟨i, hi, _⟩ | ⟨_, rfl⟩
  · exact absurd hi (Nat.not_lt_zero _)
  · rfl
set_option maxRecDepth 100000 in
set_option maxHeartbeats 4000000 in
theorem fixed_any (w : World) : Calls Try.prog 6 #[] w fun e w' => e = .returned (.bool true) ∧ Below w.heap.size w w' := by
  have HN := Lib.hid (new_any 4 w)
  go_enter Try.func6, Try.ntmps6
  go_wp2_with fail
  refine HN.out.mono ?_
  clear HN
  rintro e w1 ⟨g, bm, rb, rfl, hg, hbm, hrb, hca, hb1⟩
  have hm4 : max (4 : Int) 0 = 4 := by decide
  rw [hm4] at hca
  have hA1 := hb1.alloc hb1.size (.cells #[.string { data := #[97, 98] }] 9)
  have hown : OwnC w.heap.size (w1.alloc (.cells #[.string { data := #[97, 98] }] 9)) g bm rb 4 (total [] : Int) [] := ⟨hca.below ((Below.refl _ _).alloc (Nat.le_refl _) _), hg, hbm, hrb, fun i hi => absurd hi (Nat.not_lt_zero _)⟩
  have HP := Lib.hid (put_any w.heap.size g bm rb 4 [] _ hown hA1.size (by decide) 1 1 (some ⟨w1.heap.size, 0, none⟩) 1 kAB (by decide) (fun i => by
    cases i with
    | zero => decide
    | succ i => simp [kAB]) (by decide) (by decide) (one_strs w1 _))
  have hkl : kAB.length = 1 := rfl
  rw [hkl] at HP
  clear hca hm4 hown hkl
  go_wp2_with fail
  refine HP.out.mono ?_
  clear HP
  rintro e w2 ⟨rfl, its1, xb, a', kc', hwo, hxb, hown2, hb2, _⟩
  have hi1 := without_nil hwo
  subst hi1
  have he1 : evict 4 ([] ++ [(⟨xb, 1, 1, a', kc', kAB⟩ : It)]) = [⟨xb, 1, 1, a', kc', kAB⟩] := by
    rw [List.nil_append, evict, if_neg (show ¬ (4 : Int) < ((total [(⟨xb, 1, 1, a', kc', kAB⟩ : It)] : Nat) : Int) from by show ¬ (4 : Int) < ((3 : Nat) : Int); decide)]
  rw [he1] at hown2
  have hB2 := hA1.trans hb2
  have hA2 := hB2.alloc hB2.size (.cells #[.string { data := #[99] }] 9)
  have hown2' : OwnC w.heap.size (w2.alloc (.cells #[.string { data := #[99] }] 9)) g bm rb 4 (total [(⟨xb, 1, 1, a', kc', kAB⟩ : It)] : Int) [⟨xb, 1, 1, a', kc', kAB⟩] := ⟨hown2.1.below ((Below.refl _ _).alloc (Nat.le_refl _) _), hown2.2⟩
  have HP := Lib.hid (put_any w.heap.size g bm rb 4 _ _ hown2' hA2.size (by decide) 1 2 (some ⟨w2.heap.size, 0, none⟩) 1 kC (by decide) (fun i => by
    cases i with
    | zero => decide
    | succ i => simp [kC]) (by decide) (show (3 : Nat) ≤ 1000000000 from by decide) (one_strs w2 _))
  have hkl : kC.length = 1 := rfl
  rw [hkl] at HP
  clear hown2 he1 hb2 hown2' hkl hwo
  go_wp2_with fail
  refine HP.out.mono ?_
  clear HP
  rintro e w3 ⟨rfl, its1, yb, a2, kc2, hwo, hyb, hown3, hb3, _⟩
  have hi1 : its1 = [(⟨xb, 1, 1, a', kc', kAB⟩ : It)] := by
    rcases hwo with ⟨i, hi, h1, h2, _⟩ | ⟨_, h⟩
    · have hi0 : i = 0 := by simpa using hi
      subst hi0
      have h2' : (1 : Int) = 2 := h2
      exact absurd h2' (by decide)
    · exact h
  subst hi1
  have he2 : evict 4 ([(⟨xb, 1, 1, a', kc', kAB⟩ : It)] ++ [(⟨yb, 1, 2, a2, kc2, kC⟩ : It)]) = [⟨yb, 1, 2, a2, kc2, kC⟩] := by
    show evict 4 [(⟨xb, 1, 1, a', kc', kAB⟩ : It), ⟨yb, 1, 2, a2, kc2, kC⟩] = _
    rw [evict, if_pos (show (4 : Int) < ((total [(⟨xb, 1, 1, a', kc', kAB⟩ : It), ⟨yb, 1, 2, a2, kc2, kC⟩] : Nat) : Int) from by show (4 : Int) < ((5 : Nat) : Int); decide), evict, if_neg (show ¬ (4 : Int) < ((total [(⟨yb, 1, 2, a2, kc2, kC⟩ : It)] : Nat) : Int) from by show ¬ (4 : Int) < ((2 : Nat) : Int); decide)]
  rw [he2] at hown3
  have hB3 := hA2.trans hb3
  have HG := Lib.hid (get_any w.heap.size g bm rb 4 _ w3 hown3 hB3.size 1 1 (fun x hx => by
    simp only [List.mem_cons, List.not_mem_nil, or_false] at hx
    subst hx
    show (1 : Nat) ≤ 1000
    decide))
  clear he2 hb3 hown3 hwo
  go_wp2_with fail
  refine HG.out.mono ?_
  clear HG
  rintro e w4 ⟨hgn, _⟩
  obtain ⟨rfl, hown4, hb4⟩ := hgn (fun i hi ⟨h1, h2⟩ => by
    have hi0 : i = 0 := by simpa using hi
    subst hi0
    have h2' : (2 : Int) = 1 := h2
    exact absurd h2' (by decide))
  have hB4 := hB3.trans (hb4.mono hB3.size)
  have HG := Lib.hid (get_any w.heap.size g bm rb 4 _ w4 hown4 hB4.size 1 2 (fun x hx => by
    simp only [List.mem_cons, List.not_mem_nil, or_false] at hx
    subst hx
    show (1 : Nat) ≤ 1000
    decide))
  clear hgn hown4 hb4
  go_wp2_with fail
  refine HG.out.mono ?_
  clear HG
  rintro e w5 ⟨_, hgy⟩
  obtain ⟨a5, c5, rfl, _, hown5, hb5, _⟩ := hgy 0 (by simp) rfl rfl
  have hB5 := hB4.trans hb5
  have HL := Lib.hid (len_any g bm rb 4 _ _ w5 hown5.1)
  have HU := Lib.hid (used_any g bm rb 4 _ _ w5 hown5.1)
  have e1 : (([(⟨yb, 1, 2, a2, kc2, kC⟩ : It)].getD 0 default).keys.length) = 1 := rfl
  have e2 : ((([(⟨yb, 1, 2, a2, kc2, kC⟩ : It)].eraseIdx 0 ++ [[(⟨yb, 1, 2, a2, kc2, kC⟩ : It)].getD 0 default]).length : Nat) : Int) = 1 := rfl
  have e3 : ((total [(⟨yb, 1, 2, a2, kc2, kC⟩ : It)] : Nat) : Int) = 2 := rfl
  rw [e1]
  rw [e2] at HL
  rw [e3] at HU
  clear hgy hown5 hb5 e1 e2 e3
  go_wp2_with fail
  refine HL.out.mono ?_
  rintro e w6 ⟨rfl, rfl⟩
  go_wp2_with fail
  refine HU.out.mono ?_
  rintro e w7 ⟨rfl, rfl⟩
  go_wp2_with fail
  go_ret
  exact ⟨rfl, hB5⟩
set_option maxRecDepth 100000 in
set_option maxHeartbeats 4000000 in
theorem lawNil (f b : Int) (w : World) : Calls Try.prog 5 #[.int .i64 f, .int .i64 b] w fun e w' => e = .returned (.bool true) ∧ Below w.heap.size w w' := by
  have HF := Lib.hid (fixed_any w)
  go_enter Try.func5, Try.ntmps5
  go_wp2_with fail
  refine HF.out.mono ?_
  clear HF
  rintro e w1 ⟨rfl, hB⟩
  go_wp2_with fail
  refine (put_nil f b _ w1).mono ?_
  rintro e w2 ⟨rfl, rfl⟩
  go_wp2_with fail
  refine (drop_nil f w2).mono ?_
  rintro e w3 ⟨rfl, rfl⟩
  go_wp2_with fail
  refine (get_nil f b w3).mono ?_
  rintro e w4 ⟨rfl, rfl⟩
  go_wp2_with fail
  refine (len_nil w4).mono ?_
  rintro e w5 ⟨rfl, rfl⟩
  go_wp2_with fail
  refine (used_nil w5).mono ?_
  rintro e w6 ⟨rfl, rfl⟩
  go_wp2_with fail
  go_ret
  exact ⟨rfl, hB⟩
end Go.Proofs.Ytacjbgmnoiimbac
