/- A row sorted; what the document fixes: walked. -/
import Derived.Test.YtbamohcaamgalabWalkO
namespace Go.Proofs.Ytbamohcaamgalab
set_option linter.unusedVariables false
set_option linter.unusedSimpArgs false
open Go.RowKit

theorem row_cap1 {w : World} {base : Nat} {e : TypeId} {size n m c : Nat} {a : Option Addr} {xs : List Value} (h : w.ownsRow base e size (.slice a m c) n xs) : n ≤ c := by
  rcases h.2 with ⟨hv, h0⟩ | ⟨g, cap, cur, hv, _, _, hc, _⟩
  · omega
  · cases hv; exact hc
theorem mem_getD {l : List ByteArray} {i : Nat} (h : i < l.length) : l.getD i ByteArray.empty ∈ l := by
  rw [List.getD_eq_getElem?_getD, List.getElem?_eq_getElem h]; exact List.getElem_mem h
theorem putAt_mem {L : List ByteArray} {key : ByteArray} {i : Nat} {s : ByteArray} (h : s ∈ putAt L key i) : s ∈ L ∨ s = key := by
  unfold putAt at h
  simp only [List.append_assoc, List.mem_append, List.mem_cons, List.not_mem_nil, or_false] at h
  rcases h with h | h | h
  · exact .inl (List.mem_of_mem_take h)
  · exact .inr h
  · exact .inl (List.mem_of_mem_drop h)
theorem keysOf_ne {L : List ByteArray} {key : ByteArray} {i : Nat} (h : i < (keysOf L).length → L.getD i ByteArray.empty ≠ key) : i < (keysOf L).length → (keysOf L).getD i [] ≠ key.data.toList := by
  intro hi e
  rw [keysOf_at] at e
  exact h hi (bytes_ext e)
def SortRel (l : List ByteArray) (w : World) (k : Nat) (L : List ByteArray) (out : Value) (wr : World) : Prop :=
  wr.ownsRow w.heap.size 9 1 out L.length (strsV L) ∧ Rises (keysOf L) ∧ L.length ≤ k ∧ (∀ s ∈ L, s ∈ l) ∧ Below w.heap.size w wr
set_option maxRecDepth 100000 in
set_option maxHeartbeats 1000000 in
theorem sorted_any (a : Option Addr) (cap : Nat) (l : List ByteArray) (w : World) (hl : l.length ≤ 100000) (h : IsStrs w a l) :
    Calls Try.prog 9 #[.slice a l.length cap] w fun e w' => ∃ v L, e = .returned v ∧ w'.ownsRow w.heap.size 9 1 v L.length (strsV L) ∧ Rises (keysOf L) ∧ L.length ≤ l.length ∧ (∀ s ∈ L, s ∈ l) ∧ Below w.heap.size w w' := by
  have H := Lib.hid h
  clear h
  go_enter Try.func9, Try.ntmps9
  go_wp2_with fail
  go_loopw [3, 8] (fun out i wr => ∃ (k : Nat) (L : List ByteArray), k ≤ l.length ∧ i = .int .i64 k ∧ Hid (SortRel l w k L out wr)) (fun _ i _ => l.length - (intOf i).toNat)
  case atStart => exact ⟨0, [], Nat.zero_le _, rfl, World.ownsRow_nil _ _ _ _, (fun i hi => by cases hi), Nat.le_refl _, (fun s hs => by cases hs), Below.refl _ _⟩
  case round =>
    obtain ⟨k, L, hkl, rfl, hrel⟩ := hrel
    obtain ⟨hout, hris, hLk, hmem, hB⟩ := hrel.out
    clear hrel
    have HRis := Lib.hid hris
    have HMem := Lib.hid hmem
    clear hris hmem
    obtain ⟨ao, mo, co, rfl⟩ := row_slice hout
    have hmo := row_len' hout
    subst hmo
    by_cases hlt : k < l.length
    · obtain ⟨b, off, rfl, hb, hc⟩ := (H.out.below hB) (by omega)
      have c1 := hc k hlt
      have hdk : decide ((k : Int) < (l.length : Int)) = true := by simp; omega
      have HKm := Lib.hid (mem_getD hlt)
      generalize hx : l.getD k ByteArray.empty = x at *
      have HPut := Lib.hid (refput_row ao co L x _ (by omega) (row_cap1 hout) (row_strs hout))
      clear hc hx
      go_wp2_with fail
      refine HPut.out.mono ?_
      clear HPut
      rintro e w3 ⟨i, hF, ⟨hi, hxi, rfl, rfl⟩ | ⟨hne, v, rfl, hown, hB3⟩⟩
      · go_wp2_with fail
        go_roundw
        case rel => exact ⟨k + 1, L, by omega, by go_num, hout, HRis.out, by omega, HMem.out, hB⟩
        case measure => simp [intOf]; omega
      · have hB4 := hB.trans (hB3.mono hB.size)
        have hrow := row_lower hown hB.size
        have hi : i ≤ L.length := by have := hF.1; rwa [length_keysOf] at this
        have HR2 : Hid (Rises (keysOf (putAt L x i))) := by
          show Rises _
          rw [keysOf_putAt]
          exact rises_laid HRis.out hF (keysOf_ne (by rw [length_keysOf]; exact hne))
        have hlp := length_putAt L x i hi
        have HM2 : Hid (∀ s ∈ putAt L x i, s ∈ l) := by
          intro s hs
          rcases putAt_mem hs with h | h
          · exact HMem.out s h
          · rw [h]; exact HKm.out
        clear hout hown hF hne
        go_wp2_with fail
        go_roundw
        case rel => exact ⟨k + 1, putAt L x i, by omega, by go_num, by rw [hlp]; exact hrow, HR2.out, by omega, HM2.out, hB4⟩
        case measure => simp [intOf]; omega
    · obtain rfl : k = l.length := by omega
      have hdk : decide ((l.length : Int) < (l.length : Int)) = false := by simp
      go_wp2_with fail
      go_ret
      exact ⟨_, L, rfl, hout, HRis.out, hLk, HMem.out, hB⟩
/-! ### what the document fixes -/
def kAb : ByteArray := { data := #[97, 98] }
def kAbc : ByteArray := { data := #[97, 98, 99] }
theorem fix_block : blockOf (keysOf [kAb, kAbc]) = [0, 2, 97, 98, 2, 1, 99, 0, 0, 0, 0, 0, 0, 0, 1] := by decide +kernel
theorem fix_rises : Rises (keysOf [kAb, kAbc]) := by
  intro i hi
  have : i = 0 := by simp [keysOf] at hi; omega
  subst this
  decide
theorem fix_falls : ¬ Rises (keysOf [{ data := #[98] }, { data := #[97] }]) := by
  intro h
  have := h 0 (by decide)
  revert this
  decide
theorem two_strs (w : World) (x y : ByteArray) : IsStrs (w.alloc (.cells #[.string x, .string y] 9)) (some ⟨w.heap.size, 0, none⟩) [x, y] := by
  intro _
  refine ⟨w.heap.size, 0, rfl, by simp, fun k hk => ?_⟩
  match k, hk with
  | 0, _ => simp
  | 1, _ => simp
theorem two_sizes (x y : ByteArray) (h1 : x.size ≤ 3000) (h2 : y.size ≤ 3000) (i : Nat) : ([x, y].getD i ByteArray.empty).size ≤ 3000 := by
  match i with
  | 0 => exact h1
  | 1 => exact h2
  | i + 2 => simp
set_option maxRecDepth 100000 in
set_option maxHeartbeats 2000000 in
theorem fixed_any (w : World) : Calls Try.prog 7 #[] w fun e w' => e = .returned (.bool true) ∧ Below w.heap.size w w' := by
  have hB0 : Below w.heap.size w w := Below.refl _ _
  have hs1 := two_strs w kAb kAbc
  have HB1 := Lib.hid (build_any (some ⟨w.heap.size, 0, none⟩) 2 [kAb, kAbc] _ (by decide) (two_sizes _ _ (by decide) (by decide)) hs1)
  have hA1 := hB0.alloc (Nat.le_refl _) (.cells #[.string kAb, .string kAbc] 9)
  clear hs1
  go_enter Try.func7, Try.ntmps7
  go_wp2_with fail
  refine HB1.out.mono ?_
  clear HB1
  rintro e w1 ⟨hyes, _, hb1⟩
  obtain ⟨v1, rfl, hown1⟩ := hyes fix_rises
  rw [fix_block] at hown1
  have hB1 := hA1.trans (hb1.mono hA1.size)
  clear hyes hA1 hb1
  have hs2 := two_strs w1 { data := #[98] } { data := #[97] }
  have HB2 := Lib.hid (build_any (some ⟨w1.heap.size, 0, none⟩) 2 [{ data := #[98] }, { data := #[97] }] _ (by decide) (two_sizes _ _ (by decide) (by decide)) hs2)
  have hA2 := hB1.alloc hB1.size (.cells #[.string { data := #[98] }, .string { data := #[97] }] 9)
  have hr2 := (Below.refl w1.heap.size w1).alloc (Nat.le_refl _) (.cells #[.string { data := #[98] }, .string { data := #[97] }] 9)
  clear hs2
  go_wp2_with fail
  refine HB2.out.mono ?_
  clear HB2
  rintro e w2 ⟨_, hno, hb2⟩
  have := hno fix_falls
  subst this
  have hB2 := hA2.trans (hb2.mono hA2.size)
  have hown2 := Below.row (hr2.trans (hb2.mono hr2.size)) hown1
  clear hno hA2 hb2 hr2 hown1
  obtain ⟨a1, m1, c1, rfl⟩ := row_slice hown2
  have hm1 := row_len' hown2
  subst hm1
  have hib := row_bytes' hown2
  have hcap := row_cap1 hown2
  have HSk := Lib.hid (seek_any a1 c1 [0, 2, 97, 98, 2, 1, 99, 0, 0, 0, 0, 0, 0, 0, 1] { data := #[97, 98, 97] } w2 (by decide) hcap hib)
  have HIB := Lib.hid hib
  clear hib hown2
  go_wp2_with fail
  refine HSk.out.mono ?_
  clear HSk
  rintro e w3 ⟨hb3, x, ok, g, rfl, _, _, hk⟩
  have hB3 := hB2.trans (hb3.mono hB2.size)
  obtain ⟨rfl, i, hF, hok, hx⟩ := hk (keysOf [kAb, kAbc]) ⟨fix_rises, fix_block.symm, by decide, fun i => by rw [keysOf_at, size_data]; exact two_sizes _ _ (by decide) (by decide) i⟩
  have hF1 : First (keysOf [kAb, kAbc]) (· < [97, 98, 97]) 1 := by
    refine ⟨by decide, fun j hj => ?_, fun _ => ?_⟩
    · have : j = 0 := by omega
      subst this
      decide
    · decide
  have hi : i = 1 := first_one hF hF1
  subst hi
  have hok2 : ok = true := by rw [hok]; decide
  have hx2 : x = kAbc := by
    refine bytes_ext ?_
    rw [hx]; decide
  subst hok2 hx2
  have hib3 := HIB.out.below hb3
  have hcv := run_string_of_bytes (P := Try.prog) w3 26 9 5 a1 15 c1 [0, 2, 97, 98, 2, 1, 99, 0, 0, 0, 0, 0, 0, 0, 1] rfl Try.underlying26 Try.underlying5 Try.underlying9 hib3
  have hk3 : (kAbc.toList == ([97, 98, 99] : List UInt8)) = true := by rw [ByteArray.toList_eq]; decide
  clear hF hF1 hok hx hk hb3 hib3
  go_wp2_with fail
  go_ret
  exact ⟨rfl, hB3⟩
end Go.Proofs.Ytbamohcaamgalab
