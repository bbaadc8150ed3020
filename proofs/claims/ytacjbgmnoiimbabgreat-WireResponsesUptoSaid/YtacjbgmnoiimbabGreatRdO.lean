/- A reader opened; was all read: walked. -/
import Derived.Test.YtacjbgmnoiimbabGreatRdN
import Derived.Laws.IdiomStrings
namespace Go.Proofs.YtacjbgmnoiimbabGreat
set_option linter.unusedVariables false
set_option linter.unusedSimpArgs false
open Go.RowKit

theorem rall_any (g bb : Nat) (l : List UInt8) (d : Nat) (odd : Bool) (W : World) (h : RAt W g bb l d odd) :
    Calls Tryz.prog 49 #[.pointer (some ⟨g, 0, none⟩)] W fun e W' => e = .returned (.bool (!odd && decide (l = []))) ∧ W' = W := by
  obtain ⟨a, c, hh, _⟩ := id h
  have c0 := heap_cell hh 0
  have c2 := heap_cell hh 2
  simp at c0 c2
  clear h hh
  cases odd with
  | true =>
    go_enter Tryz.func49, Tryz.ntmps49
    go_wp2_with fail
    go_ret
    exact ⟨rfl, rfl⟩
  | false =>
    have hb : ((l.length : Int) == 0) = decide (l = []) := by
      cases l with
      | nil => rfl
      | cons x r =>
        rw [decide_eq_false (by simp), beq_eq_false_iff_ne, List.length_cons]; omega
    have HB := Lib.hid hb
    generalize hq : ((l.length : Int) == 0) = q at *
    clear hb
    go_enter Tryz.func49, Tryz.ntmps49
    go_wp2_with fail
    go_ret
    exact ⟨by rw [← HB.out]; rfl, rfl⟩
/-- does a text begin with two signs? -/
def beg2 (s : ByteArray) (x y : UInt8) : Bool := decide (2 ≤ s.size) && decide (s.extract 0 2 = ⟨#[x, y]⟩)
theorem str_eq (a b : ByteArray) : (ByteArray.toList a == ByteArray.toList b) = decide (a = b) := by
  by_cases h : a = b
  · subst h; simp
  · rw [decide_eq_false h, beq_eq_false_iff_ne, ByteArray.toList_eq, ByteArray.toList_eq]
    intro hh
    apply h
    cases a; cases b
    simp only [ByteArray.mk.injEq]
    exact Array.toList_inj.1 hh
theorem hasp_any (s : ByteArray) (x y : UInt8) (W : World) (hs : s.size ≤ 1000000000) :
    Calls Tryz.prog 115 #[.string s, .string ⟨#[x, y]⟩] W fun e W' => e = .returned (.bool (beg2 s x y)) ∧ W' = W := by
  have hsz : (ByteArray.mk #[x, y]).size = 2 := rfl
  by_cases h2 : 2 ≤ s.size
  · have hd : decide ((2 : Int) ≤ (s.size : Int)) = true := decide_eq_true (by omega)
    have hsk : ∀ W, (Instr.slice 9 (.string s) none (some (.int .i64 2)) none).run Tryz.prog W = .ok (.string (s.extract 0 2)) W := fun W => by
      rw [run_slice_string_to_if _ _ _ _ _ Tryz.underlying9, if_pos ⟨by omega, by omega⟩]; rfl
    have he := str_eq (s.extract 0 2) ⟨#[x, y]⟩
    have HR : Hid (beg2 s x y = decide (s.extract 0 2 = ⟨#[x, y]⟩)) := by
      show _ = _
      unfold beg2
      rw [decide_eq_true h2, Bool.true_and]
    generalize decide (s.extract 0 2 = ⟨#[x, y]⟩) = q at *
    generalize (s.extract 0 2) = T at *
    generalize (ByteArray.mk #[x, y]) = B at *
    go_enter Tryz.func115, Tryz.ntmps115
    go_wp2_with fail
    go_ret
    rw [HR.out]
    exact ⟨rfl, rfl⟩
  · have hd : decide ((2 : Int) ≤ (s.size : Int)) = false := decide_eq_false (by omega)
    have HR : Hid (beg2 s x y = false) := by
      show _ = _
      unfold beg2
      rw [decide_eq_false h2, Bool.false_and]
    generalize (ByteArray.mk #[x, y]) = B at *
    go_enter Tryz.func115, Tryz.ntmps115
    go_wp2_with fail
    go_ret
    rw [HR.out]
    exact ⟨rfl, rfl⟩
/-- what is left behind two signs -/
def rest2 (s : ByteArray) (x y : UInt8) : ByteArray := if beg2 s x y then s.extract 2 s.size else s
theorem cutp_any (s : ByteArray) (x y : UInt8) (W : World) (hs : s.size ≤ 1000000000) :
    Calls Tryz.prog 112 #[.string s, .string ⟨#[x, y]⟩] W fun e W' => e = .returned (.tuple #[.string (rest2 s x y), .bool (beg2 s x y)]) ∧ W' = W := by
  have hsz : (ByteArray.mk #[x, y]).size = 2 := rfl
  have HC := Lib.hid (hasp_any s x y W hs)
  cases hb : beg2 s x y with
  | true =>
    have h2 : 2 ≤ s.size := by
      unfold beg2 at hb
      rw [Bool.and_eq_true] at hb
      exact of_decide_eq_true hb.1
    have hsk : ∀ W, (Instr.slice 9 (.string s) (some (.int .i64 2)) none none).run Tryz.prog W = .ok (.string (s.extract 2 s.size)) W := fun W => by
      rw [run_slice_string_from_if _ _ _ _ _ Tryz.underlying9, if_pos ⟨by omega, by omega⟩]; rfl
    have HR : Hid (rest2 s x y = s.extract 2 s.size) := by
      show _ = _
      unfold rest2
      rw [hb]; rfl
    rw [hb] at HC
    generalize (ByteArray.mk #[x, y]) = B at *
    generalize (s.extract 2 s.size) = T at *
    go_enter Tryz.func112, Tryz.ntmps112
    go_wp2_with fail
    refine HC.out.mono ?_
    clear HC
    rintro e W1 ⟨rfl, rfl⟩
    go_wp2_with fail
    go_ret2
    rw [HR.out]
    exact ⟨rfl, rfl⟩
  | false =>
    have HR : Hid (rest2 s x y = s) := by
      show _ = _
      unfold rest2
      rw [hb]; rfl
    rw [hb] at HC
    generalize (ByteArray.mk #[x, y]) = B at *
    go_enter Tryz.func112, Tryz.ntmps112
    go_wp2_with fail
    refine HC.out.mono ?_
    clear HC
    rintro e W1 ⟨rfl, rfl⟩
    go_wp2_with fail
    go_ret2
    rw [HR.out]
    exact ⟨rfl, rfl⟩
theorem cutpre_any (s : ByteArray) (x y : UInt8) (W : World) (hs : s.size ≤ 1000000000) :
    Calls Tryz.prog 95 #[.string s, .string ⟨#[x, y]⟩] W fun e W' => e = .returned (.tuple #[.string (rest2 s x y), .bool (beg2 s x y)]) ∧ W' = W := by
  have HC := Lib.hid (cutp_any s x y W hs)
  generalize rest2 s x y = R at *
  generalize beg2 s x y = q at *
  generalize (ByteArray.mk #[x, y]) = B at *
  go_enter Tryz.func95, Tryz.ntmps95
  go_wp2_with fail
  refine HC.out.mono ?_
  clear HC
  rintro e W1 ⟨rfl, rfl⟩
  go_wp2_with fail
  go_ret2
  exact ⟨rfl, rfl⟩
theorem beg2_iff (l : List UInt8) (x y : UInt8) : beg2 ⟨l.toArray⟩ x y = true ↔ ∃ r, l = [x, y] ++ r := by
  have hsz : (ByteArray.mk l.toArray).size = l.length := List.size_toArray
  have hex : (ByteArray.mk l.toArray).extract 0 2 = ⟨(l.take 2).toArray⟩ := by
    apply ByteArray.ext
    rw [ByteArray.data_extract]
    simp
  unfold beg2
  rw [hsz, hex, Bool.and_eq_true, decide_eq_true_iff, decide_eq_true_iff]
  constructor
  · rintro ⟨h1, h2⟩
    refine ⟨l.drop 2, ?_⟩
    have : (l.take 2) = [x, y] := by
      have := congrArg (fun b : ByteArray => b.data.toList) h2
      simpa using this
    rw [← this, List.take_append_drop]
  · rintro ⟨r, rfl⟩
    exact ⟨by simp, rfl⟩
theorem rest2_of (r : List UInt8) (x y : UInt8) : rest2 ⟨([x, y] ++ r).toArray⟩ x y = ⟨r.toArray⟩ := by
  unfold rest2
  rw [if_pos ((beg2_iff _ x y).2 ⟨r, rfl⟩)]
  apply ByteArray.ext
  rw [ByteArray.data_extract]
  have hsz : (ByteArray.mk ([x, y] ++ r).toArray).size = r.length + 2 := by
    show ([x, y] ++ r).toArray.size = _
    simp
  rw [hsz]
  simp
theorem rat_new (W : World) (r : List UInt8) (cap : Nat) (m : Nat × Nat) (odd : Bool) : RAt (((W.alloc (.cells (bytesRow ⟨r.toArray⟩ cap) 5 m)).alloc (.cells #[.slice (some ⟨W.heap.size, 0, none⟩) r.length (max cap r.length), .int .i64 0, .bool odd] 168)).drew) (W.heap.size + 1) W.heap.size r 0 odd := by
  have e := alloc_size W (.cells (bytesRow ⟨r.toArray⟩ cap) 5 m)
  have h1 := heap_alloc_new (W.alloc (.cells (bytesRow ⟨r.toArray⟩ cap) 5 m)) (.cells #[.slice (some ⟨W.heap.size, 0, none⟩) r.length (max cap r.length), .int .i64 0, .bool odd] 168)
  rw [e] at h1
  have h2 := (Below.heap_alloc (W.alloc (.cells (bytesRow ⟨r.toArray⟩ cap) 5 m)) (.cells #[.slice (some ⟨W.heap.size, 0, none⟩) r.length (max cap r.length), .int .i64 0, .bool odd] 168) W.heap.size (by rw [e]; omega)).trans (heap_alloc_new W (.cells (bytesRow ⟨r.toArray⟩ cap) 5 m))
  refine ⟨some ⟨W.heap.size, 0, none⟩, max cap r.length, h1, by omega, fun h0 => ⟨W.heap.size, 0, rfl, ?_, fun k hk => ?_⟩, fun _ => ⟨0, rfl⟩, by omega, ?_⟩
  · show W.heap.size < ((W.alloc _).alloc _).heap.size
    rw [alloc_size, alloc_size]; omega
  · rw [Nat.zero_add]
    show World.cell? ((W.alloc _).alloc _) _ = _
    rw [cell_of_row _ _ _ _ _ _ h2]
    unfold bytesRow
    rw [Array.getElem?_append_left (by simpa using hk)]
    simp [List.getD, hk]
  · show W.heap.size < ((W.alloc _).alloc _).heap.size
    rw [alloc_size, alloc_size]; omega
/-- what opening does -/
def OpenIs (l : List UInt8) (x y : UInt8) (W : World) (e : Ending) (W' : World) : Prop :=
  ∃ g bb r odd, e = .returned (.pointer (some ⟨g, 0, none⟩)) ∧ Below W.heap.size W W' ∧ RAt W' g bb r 0 odd ∧ W.heap.size ≤ g ∧ W.heap.size ≤ bb ∧ r.length ≤ l.length ∧ ((odd = false ∧ l = [x, y] ++ r) ∨ (odd = true ∧ ∀ q, l ≠ [x, y] ++ q))
set_option maxRecDepth 100000 in
theorem open_any (a : Option Addr) (c : Nat) (l : List UInt8) (x y : UInt8) (W : World) (hl : l.length ≤ 100000000) (h : IsBytes W a l) :
    Calls Tryz.prog 34 #[.slice a l.length c, .string ⟨#[x, y]⟩] W (OpenIs l x y W) := by
  have hc1 := run_string_of_bytes (P := Tryz.prog) W 39 9 5 a l.length c l rfl Tryz.underlying39 Tryz.underlying5 Tryz.underlying9 h
  have hsz : (ByteArray.mk l.toArray).size = l.length := List.size_toArray
  have HC := Lib.hid (cutpre_any ⟨l.toArray⟩ x y W (by omega))
  obtain ⟨r, hr, hrl, hcase⟩ : ∃ r : List UInt8, rest2 ⟨l.toArray⟩ x y = ⟨r.toArray⟩ ∧ r.length ≤ l.length ∧ ((beg2 ⟨l.toArray⟩ x y = true ∧ l = [x, y] ++ r) ∨ (beg2 ⟨l.toArray⟩ x y = false ∧ ∀ q, l ≠ [x, y] ++ q)) := by
    cases hb : beg2 ⟨l.toArray⟩ x y with
    | true =>
      obtain ⟨r, rfl⟩ := (beg2_iff l x y).1 hb
      exact ⟨r, rest2_of r x y, by simp; omega, .inl ⟨rfl, rfl⟩⟩
    | false =>
      refine ⟨l, ?_, Nat.le_refl _, .inr ⟨rfl, fun q hq => ?_⟩⟩
      · unfold rest2; rw [hb]; rfl
      · have := (beg2_iff l x y).2 ⟨q, hq⟩
        rw [hb] at this; cases this
  have hcv := run_bytes_of_string (P := Tryz.prog) W 9 39 5 ⟨r.toArray⟩ Tryz.underlying9 Tryz.underlying39 Tryz.underlying5
  have hrs : (ByteArray.mk r.toArray).size = r.length := List.size_toArray
  have hcap : r.length ≤ grownCap W r.length 0 5 := grownCap_ge W r.length 0 5
  have hNew := rat_new W r (grownCap W r.length 0 5) ((bytesRow ⟨r.toArray⟩ (grownCap W r.length 0 5)).size, (bytesRow ⟨r.toArray⟩ (grownCap W r.length 0 5)).size + 1) (!(beg2 ⟨l.toArray⟩ x y))
  rw [Nat.max_eq_left hcap] at hNew
  rw [hrs] at hcv
  have HN := Lib.hid hNew
  have HCase := Lib.hid hcase
  have HL := Lib.hid hrl
  rw [hr] at HC
  clear h hNew hcase hsz hrs hr hcap hrl
  generalize grownCap W r.length 0 5 = cap at *
  generalize (bytesRow ⟨r.toArray⟩ cap) = row at *
  generalize beg2 ⟨l.toArray⟩ x y = q at *
  generalize (ByteArray.mk #[x, y]) = B at *
  generalize (ByteArray.mk l.toArray) = S at *
  generalize (ByteArray.mk r.toArray) = R at *
  go_enter Tryz.func34, Tryz.ntmps34
  go_wp2_with fail
  refine HC.out.mono ?_
  clear HC
  rintro e W1 ⟨rfl, rfl⟩
  go_wp2_with fail
  go_ret
  have hB := ((Below.refl W1.heap.size W1).alloc (Nat.le_refl _) (.cells row 5 (row.size, row.size + 1)))
  exact ⟨_, _, r, _, rfl, (hB.alloc hB.size _).drew, HN.out, by omega, Nat.le_refl _, HL.out, HCase.out.elim (fun h => .inl ⟨by rw [h.1]; rfl, h.2⟩) (fun h => .inr ⟨by rw [h.1]; rfl, h.2⟩)⟩
end Go.Proofs.YtacjbgmnoiimbabGreat
