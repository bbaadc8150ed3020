/- Clone, New, Len, Used: walked. -/
import Derived.Test.YtacjbgmnoiimbacWalkC
import Derived.Test.YtacjbgmnoiimbacVals
namespace Go.Proofs.Ytacjbgmnoiimbac
set_option linter.unusedVariables false
set_option linter.unusedSimpArgs false
open Go.RowKit

theorem row_empty (w : World) (B : Nat) (e : TypeId) (size : Nat) (h : B ≤ w.heap.size) : (w.alloc (.cells #[] e)).ownsRow B e size (.slice (some ⟨w.heap.size, 0, none⟩) 0 0) 0 [] :=
  ⟨by simp, .inr ⟨w.heap.size, 0, #[], rfl, h, heap_alloc_new w _, Nat.le_refl _, by unfold maxLen; omega, by simp, by simp⟩⟩
theorem row_keys {w : World} {B m c : Nat} {a : Option Addr} {l : List ByteArray} {n : Nat} (h : w.ownsRow B 9 1 (.slice a m c) n (strsV l)) : KeysAt w a l := by
  intro h0
  have hl := h.1
  rw [length_strsV, Nat.mul_one] at hl
  rcases h.2 with ⟨hv, h1⟩ | ⟨g, cap, cur, hv, _, hg, _, _, _, htake⟩
  · omega
  · cases hv
    refine ⟨g, 0, cur, rfl, hg, fun k hk => ?_⟩
    have hc := strsV_get l k hk
    rw [← htake, List.getElem?_take, if_pos (by omega)] at hc
    rw [Nat.zero_add, ← Array.getElem?_toList]
    exact hc
set_option maxRecDepth 100000 in
set_option maxHeartbeats 1000000 in
theorem clone_any (a : Option Addr) (cap : Nat) (l : List ByteArray) (w : World) (hl : l.length ≤ 1000000) (hc : l.length ≤ cap) (h : IsStrs w a l) :
    Calls Try.prog 20 #[.slice a l.length cap] w fun e w' => ∃ a' cap', e = .returned (.slice a' l.length cap') ∧ w'.ownsRow w.heap.size 9 1 (.slice a' l.length cap') l.length (strsV l) ∧ Below w.heap.size w w' := by
  obtain ⟨i9, hi9, hz0, hz1, hz2⟩ := info_parts Try.info9
  have H := Lib.hid h
  clear h
  have hnil := Lib.run_eql_slice_nil (P := Try.prog)
  cases a with
  | none =>
    have hl0 : l = [] := by
      cases l with
      | nil => rfl
      | cons c r => obtain ⟨b, off, h0, _⟩ := H.out (by simp); cases h0
    subst hl0
    go_enter Try.func20, Try.ntmps20
    go_wp2_with fail
    go_ret
    exact ⟨none, 0, rfl, World.ownsRow_nil _ _ _ _, Below.refl _ _⟩
  | some ad =>
    have HE := Lib.hid (row_empty w w.heap.size 9 1 (Nat.le_refl _))
    have HB := Lib.hid (isStrs_vals (H.out.below ((Below.refl _ _).alloc (Nat.le_refl _) (.cells #[] 9))))
    have HBA := Lib.hid ((Below.refl w.heap.size w).alloc (Nat.le_refl _) (.cells #[] 9))
    have HL : Hid ((strsV l).length = l.length * 1) := by show _ = _; rw [length_strsV, Nat.mul_one]
    go_enter Try.func20, Try.ntmps20
    go_wp2_with (at_builtin; refine wpList_append_vals _ rfl (.tmp 5) (.tmp 6) 28 rfl w.heap.size 9 i9 _ 1 16 Try.underlying28 hi9 hz0 hz1 hz2 rfl (by decide) (.slice (some ⟨w.heap.size, 0, none⟩) 0 0) 0 [] (by rfl) HE.out (some ad) l.length cap (strsV l) (by rfl) HL.out HB.out (strsV_one l) (by unfold maxLen; omega) (by omega) HBA.out.size ?_; intro v4 w4 hrow4 hg4; have hB4 := Below.own HBA.out HE.out (Nat.le_refl _) HBA.out.size hg4; obtain ⟨a4, m4, c4, rfl⟩ := row_slice hrow4; rw [Nat.zero_add, List.nil_append] at hrow4; have HR4 := Lib.hid hrow4; clear hrow4 hg4)
    go_ret
    have hm := row_len' HR4.out
    subst hm
    exact ⟨a4, c4, rfl, HR4.out, hB4⟩
theorem len_nil (w : World) : Calls Try.prog 18 #[.pointer none] w fun e w' => e = .returned (.int .i64 0) ∧ w' = w := by
  go_enter Try.func18, Try.ntmps18
  go_wp2_with fail
  go_ret
  first | trivial | exact ⟨rfl, rfl⟩
theorem used_nil (w : World) : Calls Try.prog 10 #[.pointer none] w fun e w' => e = .returned (.int .i64 0) ∧ w' = w := by
  go_enter Try.func10, Try.ntmps10
  go_wp2_with fail
  go_ret
  first | trivial | exact ⟨rfl, rfl⟩
theorem used_any (g bm rb : Nat) (room used : Int) (its : List It) (w : World) (h : Ca w g bm rb room used its) : Calls Try.prog 10 #[.pointer (some ⟨g, 0, none⟩)] w fun e w' => e = .returned (.int .i64 used) ∧ w' = w := by
  have c := heap_cell h.head 1
  simp at c
  clear h
  go_enter Try.func10, Try.ntmps10
  go_wp2_with fail
  go_ret
  first | trivial | exact ⟨rfl, rfl⟩
set_option maxRecDepth 100000 in
theorem len_any (g bm rb : Nat) (room used : Int) (its : List It) (w : World) (h : Ca w g bm rb room used its) : Calls Try.prog 18 #[.pointer (some ⟨g, 0, none⟩)] w fun e w' => e = .returned (.int .i64 (its.length : Int)) ∧ w' = w := by
  have c := heap_cell h.head 2
  simp at c
  obtain ⟨L, ⟨es, clock, hm, hes⟩, hL⟩ := h.map
  have hsz : es.size = its.length := by
    have h1 := congrArg List.length hes
    have h2 := hL.length_eq
    simp only [List.length_map] at h1 h2
    rw [← h2, ← h1]; simp
  have HSZ := Lib.hid hsz
  have hln : ∀ t, (Builtin.len_ #[50] t #[.map (some bm)]).run Try.prog w = .ok (.int .i64 (its.length : Int)) w := fun t => by
    simp [Builtin.len_, Builtin.lenOf, run_underlying Try.underlying50, run_getObj_m hm, hsz]
    rfl
  clear h hes hL hsz
  go_enter Try.func18, Try.ntmps18
  go_wp2_with fail
  go_ret
  first | trivial | exact ⟨rfl, rfl⟩
set_option maxRecDepth 100000 in
set_option maxHeartbeats 1000000 in
theorem new_any (room : Int) (w : World) : Calls Try.prog 8 #[.int .i64 room] w fun e w' => ∃ g bm rb, e = .returned (.pointer (some ⟨g, 0, none⟩)) ∧ w.heap.size ≤ g ∧ w.heap.size ≤ bm ∧ w.heap.size ≤ rb ∧ Ca w' g bm rb (max room 0) 0 [] ∧ Below w.heap.size w w' := by
  go_enter Try.func8, Try.ntmps8
  have hmm := @run_makeMap Try.prog
  go_wp2_with fail
  go_ret
  have s1 : (w.alloc (.cells #[.int .i64 0, .int .i64 0, .slice none 0 0, .int .i64 0, .pointer (some ⟨w.heap.size, 0, none⟩), .pointer (some ⟨w.heap.size, 0, none⟩)] 49)).heap.size = w.heap.size + 1 := by simp
  have s2 : ((w.alloc (.cells #[.int .i64 0, .int .i64 0, .slice none 0 0, .int .i64 0, .pointer (some ⟨w.heap.size, 0, none⟩), .pointer (some ⟨w.heap.size, 0, none⟩)] 49)).alloc (.map #[] 0)).heap.size = w.heap.size + 1 + 1 := by simp
  have r0 := heap_alloc_new w (.cells #[.int .i64 0, .int .i64 0, .slice none 0 0, .int .i64 0, .pointer (some ⟨w.heap.size, 0, none⟩), .pointer (some ⟨w.heap.size, 0, none⟩)] 49)
  have b0 := (Below.refl w.heap.size w).alloc (Nat.le_refl _) (.cells #[.int .i64 0, .int .i64 0, .slice none 0 0, .int .i64 0, .pointer (some ⟨w.heap.size, 0, none⟩), .pointer (some ⟨w.heap.size, 0, none⟩)] 49)
  generalize (w.alloc (.cells #[.int .i64 0, .int .i64 0, .slice none 0 0, .int .i64 0, .pointer (some ⟨w.heap.size, 0, none⟩), .pointer (some ⟨w.heap.size, 0, none⟩)] 49)) = A1 at *
  have m0 := heap_alloc_new A1 (.map #[] 0)
  have r1 := (Below.heap_alloc A1 (.map #[] 0) _ (heap_lt r0)).trans r0
  have b1 := b0.alloc b0.size (.map #[] 0)
  rw [s1] at m0
  generalize (A1.alloc (.map #[] 0)) = A2 at *
  have c0 := heap_alloc_new A2 (.cells #[.int .i64 (max room 0), .int .i64 0, .map (some (w.heap.size + 1)), .pointer (some ⟨w.heap.size, 0, none⟩)] 52)
  have r2 := (Below.heap_alloc A2 (.cells #[.int .i64 (max room 0), .int .i64 0, .map (some (w.heap.size + 1)), .pointer (some ⟨w.heap.size, 0, none⟩)] 52) _ (heap_lt r1)).trans r1
  have m1 := (Below.heap_alloc A2 (.cells #[.int .i64 (max room 0), .int .i64 0, .map (some (w.heap.size + 1)), .pointer (some ⟨w.heap.size, 0, none⟩)] 52) _ (heap_lt m0)).trans m0
  have b2 := b1.alloc b1.size (.cells #[.int .i64 (max room 0), .int .i64 0, .map (some (w.heap.size + 1)), .pointer (some ⟨w.heap.size, 0, none⟩)] 52)
  rw [s2] at c0
  generalize (A2.alloc (.cells #[.int .i64 (max room 0), .int .i64 0, .map (some (w.heap.size + 1)), .pointer (some ⟨w.heap.size, 0, none⟩)] 52)) = A3 at *
  refine ⟨w.heap.size + 1 + 1, w.heap.size + 1, w.heap.size, rfl, by omega, by omega, Nat.le_refl _, ⟨c0, ⟨[], ⟨#[], 0, m1, rfl⟩, List.Perm.refl _⟩, ⟨_, r2, rfl⟩, fun i hi => absurd hi (Nat.not_lt_zero _), fun i hi => ?_, ⟨fun i hi => absurd hi (Nat.not_lt_zero _), fun i j hi => absurd hi (Nat.not_lt_zero _)⟩, fun i j hi => absurd hi (Nat.not_lt_zero _)⟩, b2⟩
  have hi0 : i = 0 := Nat.le_zero.1 hi
  subst hi0
  exact ⟨heap_cell r2 5, heap_cell r2 4⟩
theorem put_nil (f b : Int) (v : Value) (w : World) : Calls Try.prog 9 #[.pointer none, .int .i64 f, .int .i64 b, v] w fun e w' => e = .returned (.tuple #[]) ∧ w' = w := by
  go_enter Try.func9, Try.ntmps9
  go_wp2_with fail
  exact bodyPost_ret (v := .tuple #[]) (by simp [results, Try.results9, go_sem]) rfl ⟨rfl, rfl⟩
theorem drop_nil (f : Int) (w : World) : Calls Try.prog 16 #[.pointer none, .int .i64 f] w fun e w' => e = .returned (.tuple #[]) ∧ w' = w := by
  go_enter Try.func16, Try.ntmps16
  go_wp2_with fail
  exact bodyPost_ret (v := .tuple #[]) (by simp [results, Try.results16, go_sem]) rfl ⟨rfl, rfl⟩
theorem get_nil (f b : Int) (w : World) : Calls Try.prog 11 #[.pointer none, .int .i64 f, .int .i64 b] w fun e w' => e = .returned (.tuple #[.slice none 0 0, .bool false]) ∧ w' = w := by
  go_enter Try.func11, Try.ntmps11
  go_wp2_with fail
  go_ret2
  first | trivial | exact ⟨rfl, rfl⟩
end Go.Proofs.Ytacjbgmnoiimbac
