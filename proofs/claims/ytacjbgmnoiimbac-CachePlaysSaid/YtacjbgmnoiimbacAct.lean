/- What is done with a cache, in memory; few: walked. -/
import Derived.Test.YtacjbgmnoiimbacLawa
namespace Go.Proofs.Ytacjbgmnoiimbac
set_option linter.unusedVariables false
set_option linter.unusedSimpArgs false
open Go.RowKit

structure AA where
  kind : Nat
  file : Int
  blk : Int
  a : Option Addr
  kc : Nat
  keys : List ByteArray
instance : Inhabited AA := ⟨⟨0, 0, 0, none, 0, []⟩⟩
def ActOk (w : World) (x : AA) : Prop := x.kind < 256 ∧ x.keys.length ≤ x.kc ∧ x.keys.length ≤ 9223372036854775807 ∧ (∀ i, (x.keys.getD i ByteArray.empty).size ≤ 9223372036854775807) ∧ IsStrs w x.a x.keys
def IsActs (w : World) (a : Option Addr) (l : List AA) : Prop :=
  0 < l.length → ∃ b off, a = some ⟨b, off, none⟩ ∧ b < w.heap.size ∧ ∀ k, k < l.length → w.cell? ⟨b, off + k * 4, none⟩ = some (.int .u8 ((l.getD k default).kind : Int)) ∧ w.cell? ⟨b, off + k * 4 + 1, none⟩ = some (.int .i64 (l.getD k default).file) ∧ w.cell? ⟨b, off + k * 4 + 2, none⟩ = some (.int .i64 (l.getD k default).blk) ∧ w.cell? ⟨b, off + k * 4 + 3, none⟩ = some (.slice (l.getD k default).a (l.getD k default).keys.length (l.getD k default).kc) ∧ ActOk w (l.getD k default)
theorem ActOk.below {w w' : World} {x : AA} (h : ActOk w x) (hb : Below w.heap.size w w') : ActOk w' x := ⟨h.1, h.2.1, h.2.2.1, h.2.2.2.1, h.2.2.2.2.below hb⟩
theorem IsActs.below {w w' : World} {a : Option Addr} {l : List AA} (h : IsActs w a l) (hb : Below w.heap.size w w') : IsActs w' a l := by
  intro h0
  obtain ⟨b, off, ha, hbw, hc⟩ := h h0
  refine ⟨b, off, ha, Nat.lt_of_lt_of_le hbw hb.size, fun k hk => ?_⟩
  obtain ⟨c0, c1, c2, c3, c4⟩ := hc k hk
  exact ⟨(hb.cell (p := ⟨b, off + k * 4, none⟩) hbw).trans c0, (hb.cell (p := ⟨b, off + k * 4 + 1, none⟩) hbw).trans c1, (hb.cell (p := ⟨b, off + k * 4 + 2, none⟩) hbw).trans c2, (hb.cell (p := ⟨b, off + k * 4 + 3, none⟩) hbw).trans c3, c4.below hb⟩
def Short (x : AA) : Prop := x.keys.length ≤ 20 ∧ ∀ i, (x.keys.getD i ByteArray.empty).size ≤ 100
def FewIs (l : List AA) (w : World) (e : Ending) (w' : World) : Prop := (∃ r : Bool, e = .returned (.bool r) ∧ (r = true → l.length ≤ 150 ∧ ∀ k, k < l.length → Short (l.getD k default))) ∧ Below w.heap.size w w'
set_option maxRecDepth 100000 in
set_option maxHeartbeats 4000000 in
theorem few_any (a : Option Addr) (cap : Nat) (l : List AA) (w : World) (hl : l.length ≤ 9223372036854775807) (h : IsActs w a l) :
    Calls Try.prog 7 #[.slice a l.length cap] w (FewIs l w) := by
  have H := Lib.hid h
  clear h
  go_enter Try.func7, Try.ntmps7
  go_wp2_with fail
  have hrel0 : Hid (∀ k, k < 0 → Short (l.getD k default)) := fun k hk => absurd hk (Nat.not_lt_zero _)
  go_loopw [9] (fun i wr => ∃ j : Nat, i = .int .i64 j ∧ j ≤ l.length ∧ Hid (∀ k, k < j → Short (l.getD k default)) ∧ Below w.heap.size w wr) (fun i _ => l.length - (intOf i).toNat)
  case atStart => exact ⟨0, rfl, Nat.zero_le _, hrel0, Below.refl _ _⟩
  case round =>
    clear hrel0
    obtain ⟨j, rfl, hj, HS, hB⟩ := hrel
    by_cases hjl : j < l.length
    · have dj : decide ((j : Int) < (l.length : Int)) = true := decide_eq_true (by omega)
      have hij : (j : Int) < (l.length : Int) := by omega
      obtain ⟨b, off, rfl, hbb, hc⟩ := (H.out.below hB) (by omega)
      obtain ⟨c0, c1, c2, c3, _, hkc, hkl, hks, hst⟩ := hc j hjl
      have hDone : Short (l.getD j default) → ∀ k, k < j + 1 → Short (l.getD k default) := fun hs k hk => by
        by_cases e : k = j
        · rw [e]; exact hs
        · exact HS.out k (by omega)
      generalize hx : l.getD j default = x at *
      have HX := Lib.hid hx
      have HDone : Hid (Short x → ∀ k, k < j + 1 → Short (l.getD k default)) := hDone
      clear hx hc hDone
      obtain ⟨xk, xf, xb, xa, xkc, keys⟩ := x
      simp only at c0 c1 c2 c3 hkc hkl hks hst
      have hA := hB.alloc hB.size (.cells #[.int .u8 (xk : Int), .int .i64 xf, .int .i64 xb, .slice xa keys.length xkc] 30)
      have hx0 := heap_alloc_new wr (.cells #[.int .u8 (xk : Int), .int .i64 xf, .int .i64 xb, .slice xa keys.length xkc] 30)
      have hstA := hst.below ((Below.refl _ _).alloc (Nat.le_refl _) (.cells #[.int .u8 (xk : Int), .int .i64 xf, .int .i64 xb, .slice xa keys.length xkc] 30))
      have HSt := Lib.hid hstA
      have HK := Lib.hid hks
      have p3 := heap_cell hx0 3
      simp at p3
      clear hst hstA hB hks
      by_cases h20 : 20 < keys.length
      · have d20 : decide (20 < (keys.length : Int)) = true := decide_eq_true (by omega)
        have d20' : decide (20 < keys.length) = true := decide_eq_true h20
        clear h20
        go_wp2_with fail
        go_ret
        exact ⟨⟨false, rfl, fun h => by cases h⟩, hA⟩
      · have d20 : decide (20 < (keys.length : Int)) = false := decide_eq_false (by omega)
        have d20' : decide (20 < keys.length) = false := decide_eq_false h20
        have H20 : Hid (keys.length ≤ 20) := by show _ ≤ _; omega
        go_wp2_with fail
        have hr1 : Hid (∀ k, k < 0 → (keys.getD k ByteArray.empty).size ≤ 100) := fun k hk => absurd hk (Nat.not_lt_zero _)
        clear hx0
        generalize (wr.alloc (.cells #[.int .u8 (xk : Int), .int .i64 xf, .int .i64 xb, .slice xa keys.length xkc] 30)) = wA at *
        go_loopw [20] (fun i wx => ∃ q : Nat, i = .int .i64 q ∧ q ≤ keys.length ∧ Hid (∀ k, k < q → (keys.getD k ByteArray.empty).size ≤ 100) ∧ wx = wA) (fun i _ => keys.length - (intOf i).toNat)
        case atStart => exact ⟨0, rfl, Nat.zero_le _, hr1, rfl⟩
        case round =>
          clear hr1
          obtain ⟨q, rfl, hq, HQ, rfl⟩ := hrel
          by_cases hqk : q < keys.length
          · have dq : decide ((q : Int) < (keys.length : Int)) = true := decide_eq_true (by omega)
            have hiq : (q : Int) < (keys.length : Int) := by omega
            obtain ⟨kb, ko, rfl, _, hkc⟩ := HSt.out (by omega)
            have ck := hkc q hqk
            have hsz := HK.out q
            have hNx : (keys.getD q ByteArray.empty).size ≤ 100 → ∀ k, k < q + 1 → (keys.getD k ByteArray.empty).size ≤ 100 := fun hs k hk => by
              by_cases e : k = q
              · rw [e]; exact hs
              · exact HQ.out k (by omega)
            have HNx := Lib.hid hNx
            generalize hky : keys.getD q ByteArray.empty = key at *
            clear hkc hNx hky
            by_cases h100 : 100 < key.size
            · have d1 : decide (100 < (key.size : Int)) = true := decide_eq_true (by omega)
              have d1' : decide (100 < key.size) = true := decide_eq_true h100
              clear h100
              go_wp2_with fail
              go_ret
              exact ⟨⟨false, rfl, fun h => by cases h⟩, hA⟩
            · have d1 : decide (100 < (key.size : Int)) = false := decide_eq_false (by omega)
              have d1' : decide (100 < key.size) = false := decide_eq_false h100
              have HN2 : Hid (∀ k, k < q + 1 → (keys.getD k ByteArray.empty).size ≤ 100) := HNx.out (by omega)
              clear h100
              go_wp2_with fail
              go_roundw
              case rel => exact ⟨q + 1, by go_num, by omega, HN2, trivial⟩
              case measure => simp [intOf]; omega
          · obtain rfl : q = keys.length := by omega
            have dq : decide ((keys.length : Int) < (keys.length : Int)) = false := by simp
            have hall : ∀ i, (keys.getD i ByteArray.empty).size ≤ 100 := fun i => by
              by_cases hi : i < keys.length
              · exact HQ.out i hi
              · rw [List.getD_eq_getElem?_getD, List.getElem?_eq_none (by omega)]; exact Nat.zero_le _
            have HN2 : Hid (∀ k, k < j + 1 → Short (l.getD k default)) := HDone.out ⟨H20.out, hall⟩
            clear hall
            go_wp2_with fail
            go_roundw
            case rel => exact ⟨j + 1, by go_num, by omega, HN2, hA⟩
            case measure => simp [intOf]; omega
    · obtain rfl : j = l.length := by omega
      have dj : decide ((l.length : Int) < (l.length : Int)) = false := by simp
      by_cases h150 : l.length ≤ 150
      · have d1 : decide ((l.length : Int) ≤ 150) = true := decide_eq_true (by omega)
        have d1' : decide (l.length ≤ 150) = true := decide_eq_true h150
        have H150 := Lib.hid h150
        clear h150
        go_wp2_with fail
        go_ret
        exact ⟨⟨true, rfl, fun _ => ⟨H150.out, HS.out⟩⟩, hB⟩
      · have d1 : decide ((l.length : Int) ≤ 150) = false := decide_eq_false (by omega)
        have d1' : decide (l.length ≤ 150) = false := decide_eq_false h150
        clear h150
        go_wp2_with fail
        go_ret
        exact ⟨⟨false, rfl, fun h => by cases h⟩, hB⟩
end Go.Proofs.Ytacjbgmnoiimbac
