/- The table of a sum. -/
import Derived.Test.YtbamohcaamgalaeRows
import Derived.Test.YtbamohcaamgalaeKitb
import Derived.Test.YtbamohcaamgalaePlain
namespace Go.Proofs.Ytbamohcaamgalae
set_option linter.unusedVariables false
set_option linter.unusedSimpArgs false
open Go.RowKit

theorem Try.info73 : (Try.prog.info? 73).map (fun i => (i.zero.map (·.cells.size), i.size)) = some (some 256, 256) := by kernel_rfl
theorem Try.info5 : (Try.prog.info? 5).map (fun i => (i.zero, i.size, i.bytes)) = some (some (.int .u8 0), 1, 1) := by kernel_rfl
theorem info43_parts : ∃ i z, Try.prog.info? 73 = some i ∧ i.zero = some z ∧ z.cells.size = 256 ∧ i.size = 256 := by
  obtain ⟨i, hi, hzz⟩ := Option.map_eq_some_iff.1 Try.info73
  simp only [Prod.mk.injEq] at hzz
  obtain ⟨z, hz, hs⟩ := Option.map_eq_some_iff.1 hzz.1
  exact ⟨i, z, hi, hz, hs, hzz.2⟩
/-- the table's row, of which the first n places are filled -/
def Table (w : World) (g n : Nat) : Prop := ∃ cur : Array Value, w.heap[g]? = some (.cells cur 73 (0, 0)) ∧ cur.size = 256 ∧ ∀ j, j < n → cur[j]? = some (.int .u32 (crcSteps 8 j : Int))

theorem and_one (s : Nat) : s &&& 1 = s % 2 := Nat.and_two_pow_sub_one_eq_mod s 1
theorem poly_and (x : Nat) (hx : x = 0 ∨ x = 4294967295) : 3988292384 &&& x = if x = 0 then 0 else 3988292384 := by
  rcases hx with rfl | rfl
  · decide
  · decide
theorem step_int (s : Nat) (hs : s < 4294967296) :
    bits BinOp.xor IntKind.u32 ((s : Int) / 2) (bits BinOp.and IntKind.u32 3988292384 (-bits BinOp.and IntKind.u32 (s : Int) 1 % 4294967296)) = (crcStep s : Int) := by
  have h1 := u32_and_nat s 1 hs (by decide)
  rw [and_one] at h1
  have h1' : bits BinOp.and IntKind.u32 (s : Int) 1 = ((s % 2 : Nat) : Int) := h1
  rw [h1']
  rcases Nat.mod_two_eq_zero_or_one s with h | h
  · have e2 : (-((s % 2 : Nat) : Int) % 4294967296) = ((0 : Nat) : Int) := by rw [h]; rfl
    have h2 := u32_and_nat 3988292384 0 (by decide) (by decide)
    rw [e2]
    have h2' : bits BinOp.and IntKind.u32 3988292384 ((0 : Nat) : Int) = ((0 : Nat) : Int) := h2
    rw [h2']
    have h3 := u32_xor_nat (s / 2) 0 (by omega) (by decide)
    have h3' : bits BinOp.xor IntKind.u32 ((s : Int) / 2) ((0 : Nat) : Int) = ((s / 2 ^^^ 0 : Nat) : Int) := h3
    rw [h3', crcStep, if_neg (by omega)]
  · have e2 : (-((s % 2 : Nat) : Int) % 4294967296) = ((4294967295 : Nat) : Int) := by rw [h]; rfl
    have h2 := u32_and_nat 3988292384 4294967295 (by decide) (by decide)
    rw [poly_and 4294967295 (Or.inr rfl)] at h2
    rw [e2]
    have h2' : bits BinOp.and IntKind.u32 3988292384 ((4294967295 : Nat) : Int) = ((3988292384 : Nat) : Int) := h2
    rw [h2']
    have h3 := u32_xor_nat (s / 2) 3988292384 (by omega) (by decide)
    have h3' : bits BinOp.xor IntKind.u32 ((s : Int) / 2) ((3988292384 : Nat) : Int) = ((s / 2 ^^^ 3988292384 : Nat) : Int) := h3
    rw [h3', crcStep, if_pos h]
set_option maxRecDepth 100000 in
set_option maxHeartbeats 1000000 in
theorem table_any (w : World) : Calls Try.prog 46 #[] w fun e w' => ∃ T : Array Value, e = .returned (.agg T) ∧ T.size = 256 ∧ (∀ j, j < 256 → T[j]? = some (.int .u32 (crcSteps 8 j : Int))) ∧ Below w.heap.size w w' := by
  obtain ⟨i0, z0, hi, hz, hzs, his⟩ := info43_parts
  go_enter Try.func46, Try.ntmps46
  go_wp2_with (first
    | (refine wpList_alloc_row w rfl 73 rfl i0 z0 hi hz ?_; intro w1 hh1 hg1 hs1)
    | (refine wpList_alloc_row w1 rfl 73 rfl i0 z0 hi hz ?_; intro w2 hh2 hg2 hs2))
  obtain ⟨g, hg⟩ : ∃ g, g = w.heap.size + 1 := ⟨_, rfl⟩
  obtain ⟨r, hr⟩ : ∃ r, r = w.heap.size := ⟨_, rfl⟩
  rw [hs1, ← hg] at hh2
  have hh3 := (hg2.block w.heap.size (by omega) (by simp)).trans hh1
  rw [← hg, ← hr]
  rw [← hr] at hh3
  have hB : Below w.heap.size w w2 := Below.none (Below.none (Below.refl _ _) (Nat.le_refl _) hg1) hg1.size hg2
  have hrg : r ≠ g := by omega
  have hwg : w.heap.size ≤ g := by omega
  have hwr : w.heap.size ≤ r := by omega
  clear hh1 hg1 hg2 hs1 hs2 hg hr
  go_loopw [4] (fun i wr => ∃ k : Nat, k ≤ 256 ∧ i = .int .i64 k ∧ Hid (Table wr g k) ∧ Hid (wr.heap[r]? = some (.cells z0.cells 73 (0, 0))) ∧ Below w.heap.size w wr) (fun i _ => 256 - (intOf i).toNat)
  case atStart => exact ⟨0, by omega, rfl, ⟨z0.cells, hh2, hzs, fun j hj => by omega⟩, hh3, hB⟩
  case round =>
    obtain ⟨k, hk, rfl, hT, hR, hbel⟩ := hrel
    by_cases hlt : k < 256
    · go_wp2_with fail
      go_loop [3, 9] (fun s i => ∃ m : Nat, m ≤ 8 ∧ i = .int .i64 m ∧ s = .int .u32 (crcSteps m k : Int)) (fun _ i => 8 - (intOf i).toNat)
      case atStart => exact ⟨0, by omega, rfl, rfl⟩
      case round =>
        obtain ⟨m, hm, rfl, rfl⟩ := hrel
        have hs := crcSteps_lt m k (by omega)
        have HS := Lib.hid (crcSteps_snoc m k)
        generalize hs8 : crcSteps m k = s at *
        have HS8 := Lib.hid hs8
        clear hs8
        by_cases hlt2 : m < 8
        · have HI := Lib.hid (step_int s hs)
          go_wp2_with fail
          go_round
          case rel => exact ⟨m + 1, by omega, by go_num, by rw [HI.out, HS.out]⟩
          case measure => simp [intOf]; omega
        · obtain rfl : m = 8 := by omega
          have HK := Lib.hid hT.out
          obtain ⟨cur, hcur, hsz, hpre⟩ := hT.out
          obtain ⟨u0, hu0⟩ : ∃ u0, cur[k]? = some u0 := ⟨cur[k]'(by omega), by simp [show k < cur.size by omega]⟩
          have hck : wr.cell? ⟨g, k, none⟩ = some u0 := (cell_of_row wr g k cur 73 (0, 0) hcur).trans hu0
          have hfk : wr.frozen? ⟨g, k, none⟩ = false := frozen_of_row wr g k cur 73 hcur
          have HCur := Lib.hid hcur
          have HS := Lib.hid hsz
          have HP := Lib.hid hpre
          clear hcur hsz hpre hu0
          go_wp2_with fail
          go_roundw
          case rel =>
            refine ⟨k + 1, by omega, by go_num, ⟨cur.setIfInBounds k (.int .u32 s), heap_setCell_same wr g k cur 73 _ HCur.out, by simpa using HS.out, ?_⟩, (heap_setCell_other wr ⟨g, k, none⟩ r _ hrg).trans hR.out, hbel.setCell hwg _⟩
            intro j hj
            have hsz := HS.out
            by_cases hjk : j = k
            · subst hjk
              simp [show j < cur.size by omega, HS8.out]
            · rw [Array.getElem?_setIfInBounds_ne (by omega)]
              exact HP.out j (by omega)
          case measure => simp [intOf]; omega
    · obtain rfl : k = 256 := by omega
      obtain ⟨cur, hcur, hsz, hpre⟩ := hT.out
      have hsz' : (Try.prog.info? 73).map (·.size) = some cur.size := by rw [hsz, hi, Option.map_some, his]
      have hone : cur.all (·.oneCell') = true := by
        rw [Array.all_eq_true]
        intro j hj
        have := hpre j (by omega)
        rw [Array.getElem?_eq_getElem hj] at this
        rw [Option.some.inj this]
        rfl
      have HC := Lib.hid hcur
      have HS' := Lib.hid hsz'
      have HO := Lib.hid hone
      have HZ : Hid (z0.cells.size = cur.size) := by rw [hsz]; exact hzs
      have HSZ := Lib.hid hsz
      have HP := Lib.hid hpre
      clear hcur hsz' hone hsz hpre
      go_wp2_with (first
        | (refine wpList_load_row rfl 73 _ rfl g rfl 73 cur (0, 0) _ HC.out Try.underlying73 (by kernel_rfl) HS'.out ?_)
        | (refine wpList_store_arr wr rfl rfl 73 _ _ rfl r 73 z0.cells cur rfl rfl hR.out HS'.out HZ.out HO.out ?_; intro w5 hh5 hg5 hs5))
      refine bodyPost_ret (v := .agg cur) (results_cell_row rfl _ _ r 73 cur (0, 0) _ rfl hh5 Try.underlying73 (by kernel_rfl) HS'.out) rfl ⟨cur, rfl, HSZ.out, HP.out, ?_⟩
      exact hbel.grown hg5 hbel.size (fun k hk => by cases hk; exact hwr)
end Go.Proofs.Ytbamohcaamgalae
