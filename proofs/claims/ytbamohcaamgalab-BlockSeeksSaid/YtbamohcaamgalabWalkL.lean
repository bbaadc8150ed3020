/- A key read from a block: walked. -/
import Derived.Test.YtbamohcaamgalabWalkK
namespace Go.Proofs.Ytbamohcaamgalab
set_option linter.unusedVariables false
set_option linter.unusedSimpArgs false
open Go.RowKit

/-- the cursor's cells -/
def Cursor (w : World) (g : Nat) (a : Option Addr) (n cap at' : Nat) (key : ByteArray) : Prop :=
  w.heap[g]? = some (.cells #[.slice a n cap, .int .i64 (at' : Int), .string key] 50 (0, 0))
theorem cursor_cells {w : World} {g : Nat} {a : Option Addr} {n cap at' : Nat} {key : ByteArray} (h : Cursor w g a n cap at' key) :
    w.cell? ⟨g, 0, none⟩ = some (.slice a n cap) ∧ w.cell? ⟨g, 1, none⟩ = some (.int .i64 (at' : Int)) ∧ w.cell? ⟨g, 2, none⟩ = some (.string key) ∧
    w.frozen? ⟨g, 1, none⟩ = false ∧ w.frozen? ⟨g, 2, none⟩ = false ∧ g < w.heap.size := by
  unfold Cursor at h
  refine ⟨?_, ?_, ?_, ?_, ?_, (Array.getElem?_eq_some_iff.1 h).1⟩
  · rw [cell_of_row w g 0 _ _ _ h]; rfl
  · rw [cell_of_row w g 1 _ _ _ h]; rfl
  · rw [cell_of_row w g 2 _ _ _ h]; rfl
  · simp [World.frozen?, h]
  · simp [World.frozen?, h]
theorem cursor_set {w : World} {g : Nat} {a : Option Addr} {n cap at' : Nat} {key : ByteArray} (h : Cursor w g a n cap at' key) (at2 : Nat) (x : Int) (hx : x = (at2 : Int)) (key2 : ByteArray) :
    Cursor ((w.setCell ⟨g, 2, none⟩ (.string key2)).setCell ⟨g, 1, none⟩ (.int .i64 x)) g a n cap at2 key2 := by
  subst hx
  unfold Cursor at h ⊢
  have h1 := heap_setCell_same w g 2 _ 50 (.string key2) h
  exact heap_setCell_same _ g 1 _ 50 _ h1
theorem grown_set (w : World) (g : Nat) (k : Nat) (x y : Value) : w.grownBy (((w.drewN k).setCell ⟨g, 2, none⟩ x).setCell ⟨g, 1, none⟩ y) (some g) :=
  ⟨rfl, rfl, rfl, by simp, fun i hi hr => by
    have hne : i ≠ g := fun e => hr (by rw [e])
    rw [heap_setCell_other _ _ _ _ hne, heap_setCell_other _ _ _ _ hne]; rfl⟩
theorem gotT_len (l : List UInt8) : (gotT l).length ≤ l.length := by
  unfold gotT
  split
  · rw [List.length_take, List.length_drop]; omega
  · simp
theorem get_quiet (a : Option Addr) (cap n : Nat) (l : List UInt8) (w : World) (hn : l.length = n) (hl : n ≤ 1000000000) (h : IsBytes w a l) (k : Nat) :
    Calls Try.prog 34 #[.slice a n cap] (w.drewN k) fun e w' => e = .returned (.tuple #[.int .u64 (getV l : Nat), .int .i64 (getN l : Nat), .int .i64 (getE l : Nat)]) ∧ w' = w.drewN k := by
  subst hn; exact get_any a cap l (w.drewN k) hl h
theorem gettext_quiet (a : Option Addr) (cap n : Nat) (l : List UInt8) (w : World) (hn : l.length = n) (hl : n ≤ 1000000000) (hc : n ≤ cap) (h : IsBytes w a l) (k : Nat) :
    Calls Try.prog 35 #[.slice a n cap] (w.drewN k) fun e w' => e = .returned (.tuple #[.string ⟨(gotT l).toArray⟩, .int .i64 (usedT l : Nat), .int .i64 (textN l : Nat)]) ∧ w' = w.drewN k := by
  subst hn; exact gettext_any a cap l (w.drewN k) hl hc h
/-- what reading a key answers -/
def NextIs (l : List UInt8) (a : Option Addr) (n cap at' : Nat) (key : ByteArray) (g : Nat) (w : World) (e : Ending) (w' : World) : Prop :=
  w.grownBy w' (some g) ∧ ((nextOk (l.drop at') key.data.toList = false ∧ e = .returned (.bool false)) ∨
  (nextOk (l.drop at') key.data.toList = true ∧ e = .returned (.bool true) ∧ ∃ key' : ByteArray, key'.data.toList = nextKey (l.drop at') key.data.toList ∧ Cursor w' g a n cap (at' + nextUsed (l.drop at')) key'))
set_option maxRecDepth 100000 in
set_option maxHeartbeats 1000000 in
theorem next_any (g : Nat) (a : Option Addr) (cap at' : Nat) (l : List UInt8) (key : ByteArray) (w : World) (hl : l.length ≤ 1000000000) (hc : l.length ≤ cap) (hat : at' ≤ l.length) (hk : key.size ≤ 1000000000) (h : IsBytes w a l) (hcur : Cursor w g a l.length cap at' key) :
    Calls Try.prog 26 #[.pointer (some ⟨g, 0, none⟩)] w (NextIs l a l.length cap at' key g w) := by
  obtain ⟨i0, hi, hz0, hz1, hz2⟩ := info_parts Try.info5
  have HCur := Lib.hid hcur
  obtain ⟨c0, c1, c2, f1, f2, hg⟩ := cursor_cells hcur
  clear hcur
  have hcb := cutA_bytes h (lo := at') (hi := l.length) (Nat.le_refl _) hc
  rw [List.take_length] at hcb
  have hDl : (l.drop at').length = l.length - at' := List.length_drop
  have hle := getN_le (l.drop at')
  have hcb2 := cutA_bytes h (lo := at' + getN (l.drop at')) (hi := l.length) (Nat.le_refl _) hc
  rw [List.take_length, ← List.drop_drop] at hcb2
  have hnx := nextUsed_le (l.drop at')
  have hGT := gotT_len ((l.drop at').drop (getN (l.drop at')))
  rw [List.length_drop, hDl] at hGT
  have hUT := usedT_le ((l.drop at').drop (getN (l.drop at')))
  rw [List.length_drop, hDl] at hUT
  have HNO : Hid (nextOk (l.drop at') key.data.toList = (getE (l.drop at') == 0 && decide (getV (l.drop at') ≤ key.size) && textN ((l.drop at').drop (getN (l.drop at'))) == 0)) := by
    show _ = _
    rw [nextOk, size_data]
  have HNK : Hid (nextKey (l.drop at') key.data.toList = key.data.toList.take (getV (l.drop at')) ++ gotT ((l.drop at').drop (getN (l.drop at')))) := rfl
  have HNU : Hid (nextUsed (l.drop at') = getN (l.drop at') + usedT ((l.drop at').drop (getN (l.drop at')))) := rfl
  have hV := getV_lt (l.drop at')
  have HGet := Lib.hid (get_quiet (cutA a cap at') (cap - at') (l.length - at') (l.drop at') w hDl (by omega) hcb)
  have HGetT := Lib.hid (gettext_quiet (cutA a cap (at' + getN (l.drop at'))) (cap - (at' + getN (l.drop at'))) (l.length - (at' + getN (l.drop at'))) ((l.drop at').drop (getN (l.drop at'))) w (by rw [List.length_drop, hDl]; omega) (by omega) (by omega) hcb2)
  have hs1 : ∀ W, (Instr.slice 26 (.slice a l.length cap) (some (.int .i64 (at' : Int))) none none).run Try.prog W = .ok (.slice (cutA a cap at') (l.length - at') (cap - at')) W := fun W => run_slice_l1 (P := Try.prog) W 26 5 i0 Try.underlying26 hi hz1 a l.length cap at' .i64 hat
  have hs2 : ∀ W, (Instr.slice 26 (.slice a l.length cap) (some (.int .i64 ((at' : Int) + (getN (l.drop at') : Int)))) none none).run Try.prog W = .ok (.slice (cutA a cap (at' + getN (l.drop at'))) (l.length - (at' + getN (l.drop at'))) (cap - (at' + getN (l.drop at')))) W := fun W => by
    have := run_slice_l1 (P := Try.prog) W 26 5 i0 Try.underlying26 hi hz1 a l.length cap (at' + getN (l.drop at')) .i64 (by omega)
    rwa [Int.natCast_add] at this
  have hb1 : (at' : Int) ≤ (l.length : Int) := by omega
  have hb2 : (at' : Int) + (getN (l.drop at') : Int) ≤ (l.length : Int) := by omega
  have HS2 := Lib.hid hs2
  unfold NextIs
  generalize nextOk (l.drop at') key.data.toList = OK at *
  generalize nextKey (l.drop at') key.data.toList = NK at *
  generalize nextUsed (l.drop at') = NU at *
  generalize gotT ((l.drop at').drop (getN (l.drop at'))) = GT at *
  generalize usedT ((l.drop at').drop (getN (l.drop at'))) = UT at *
  generalize textN ((l.drop at').drop (getN (l.drop at'))) = TN at *
  generalize getV (l.drop at') = V at *
  generalize getE (l.drop at') = E at *
  generalize getN (l.drop at') = N at *
  generalize cutA a cap at' = A1 at *
  generalize cutA a cap (at' + N) = A2 at *
  clear hcb hcb2 hs2
  by_cases hE : E = 0
  · have HE := Lib.hid hE
    have be : ((E : Int) != 0) = false := by rw [hE]; rfl
    clear hE
    by_cases hVk : V ≤ key.size
    · have hwk : IntKind.u64.wrap (key.size : Int) = (key.size : Int) := IntWalk.u64_in _ (by omega)
      have bv : decide (key.size < V) = false := decide_eq_false (by omega)
      have hwr : IntKind.i64.wrap ((at' : Int) + (N : Int)) = (at' : Int) + (N : Int) := by rw [IntKind.wrap_i64]; omega
      have hs2 := HS2.out
      have HVk := Lib.hid hVk
      by_cases hT : TN = 0
      · have bt : ((TN : Int) != 0) = false := by rw [hT]; rfl
        have HOK : Hid (OK = true) := by show OK = true; rw [HNO.out, HE.out, hT]; simp [hVk]
        have hsk : ∀ W, (Instr.slice 9 (.string key) none (some (.int .u64 (V : Int))) none).run Try.prog W = .ok (.string (key.extract 0 V)) W := fun W => by
          rw [run_slice_string_to_if _ _ _ _ _ Try.underlying9, if_pos ⟨by omega, by omega⟩, Int.toNat_natCast]
        have HKE : Hid ((key.extract 0 V ++ ⟨GT.toArray⟩ : ByteArray).data.toList = NK) := by
          show _ = _
          rw [HNK.out]
          simp
        have hcat : ¬ (9223372036854775807 < V + GT.length) := by omega
        clear hT
        go_enter Try.func26, Try.ntmps26
        go_wp2_with fail
        go_quiet ((go_at_call 34; exact Calls.quiet_of_same (HGet.out _)))
        go_wp2_with fail
        go_quiet ((go_at_call 35; refine (HGetT.out _).mono ?_; rintro e w' ⟨rfl, rfl⟩; exact ⟨rfl, _, rfl⟩))
        go_wp2_with fail
        go_ret
        refine ⟨grown_set w g _ _ _, .inr ⟨HOK.out, rfl, _, HKE.out, cursor_set (w := w.drewN _) (by exact HCur.out) _ _ ?_ _⟩⟩
        rw [HNU.out]
        omega
      · have bt : ((TN : Int) != 0) = true := by rw [bne_iff_ne]; omega
        have HOK : Hid (OK = false) := by show OK = false; rw [HNO.out]; simp [hT]
        clear hT
        go_enter Try.func26, Try.ntmps26
        go_wp2_with fail
        go_quiet ((go_at_call 34; exact Calls.quiet_of_same (HGet.out _)))
        go_wp2_with fail
        go_quiet ((go_at_call 35; refine (HGetT.out _).mono ?_; rintro e w' ⟨rfl, rfl⟩; exact ⟨rfl, _, rfl⟩))
        go_wp2_with fail
        go_ret
        exact ⟨⟨rfl, rfl, rfl, Nat.le_refl _, fun _ _ _ => rfl⟩, .inl ⟨HOK.out, rfl⟩⟩
    · have hwk : IntKind.u64.wrap (key.size : Int) = (key.size : Int) := IntWalk.u64_in _ (by omega)
      have bv : decide (key.size < V) = true := decide_eq_true (by omega)
      have HOK : Hid (OK = false) := by show OK = false; rw [HNO.out]; simp [hVk]
      clear hVk
      go_enter Try.func26, Try.ntmps26
      go_wp2_with fail
      go_quiet ((go_at_call 34; exact Calls.quiet_of_same (HGet.out _)))
      go_wp2_with fail
      go_ret
      exact ⟨⟨rfl, rfl, rfl, Nat.le_refl _, fun _ _ _ => rfl⟩, .inl ⟨HOK.out, rfl⟩⟩
  · have HOK : Hid (OK = false) := by show OK = false; rw [HNO.out]; simp [hE]
    have be : ((E : Int) != 0) = true := by rw [bne_iff_ne]; omega
    clear hE
    go_enter Try.func26, Try.ntmps26
    go_wp2_with fail
    go_quiet ((go_at_call 34; exact Calls.quiet_of_same (HGet.out _)))
    go_wp2_with fail
    go_ret
    exact ⟨⟨rfl, rfl, rfl, Nat.le_refl _, fun _ _ _ => rfl⟩, .inl ⟨HOK.out, rfl⟩⟩
end Go.Proofs.Ytbamohcaamgalab
