/- A token's sixteen bytes, walked. -/
import Derived.Test.YtbamohcaamgalacWalkC
namespace Go.Proofs.Ytbamohcaamgalac
set_option linter.unusedVariables false
set_option linter.unusedSimpArgs false
open Go.RowKit

theorem sum_at (a : Option Addr) (cap n : Nat) (l : List UInt8) (w : World) (hn : l.length = n) (hl : n ≤ 1000000) (h : IsBytes w a l) :
    Calls Try.prog 21 #[.slice a n cap] w fun e w' => e = .returned (.int .u32 (sum l : Int)) ∧ Below w.heap.size w w' := by
  subst hn; exact sum_any a cap l w hl h
theorem refsum_at (a : Option Addr) (cap n : Nat) (l : List UInt8) (w : World) (hn : l.length = n) (hl : n ≤ 1000000) (h : IsBytes w a l) :
    Calls Try.prog 20 #[.slice a n cap] w fun e w' => e = .returned (.int .u32 (sum l : Int)) ∧ w' = w := by
  subst hn; exact refsum_any a cap l w hl h
theorem Try.info40 : (Try.prog.info? 40).map (fun i => (i.zero.map (·.cells.size), i.size)) = some (some 16, 16) := by kernel_rfl
theorem info40_parts : ∃ i z, Try.prog.info? 40 = some i ∧ i.zero = some z ∧ z.cells.size = 16 ∧ i.size = 16 := by
  obtain ⟨i, hi, hzz⟩ := Option.map_eq_some_iff.1 Try.info40
  simp only [Prod.mk.injEq] at hzz
  obtain ⟨z, hz, hs⟩ := Option.map_eq_some_iff.1 hzz.1
  exact ⟨i, z, hi, hz, hs, hzz.2⟩
/-- a token's row, of which the first n places are filled -/
def RawAt (w : World) (g n : Nat) (l : List UInt8) : Prop := ∃ cur : Array Value, w.heap[g]? = some (.cells cur 40 (0, 0)) ∧ cur.size = 16 ∧ ∀ j, j < n → cur[j]? = some (.int .u8 ((l.getD j 0).toNat : Int))
theorem RawAt.store {w : World} {g n : Nat} {l : List UInt8} (h : RawAt w g n l) (hn : n < 16) {z : Int} (hz : z = ((l.getD n 0).toNat : Int)) : RawAt (w.setCell ⟨g, n, none⟩ (.int .u8 z)) g (n + 1) l := by
  obtain ⟨cur, hcur, hsz, hpre⟩ := h
  refine ⟨cur.setIfInBounds n (.int .u8 z), heap_setCell_same w g n cur 40 _ hcur, by simpa using hsz, ?_⟩
  intro j hj
  by_cases hjk : j = n
  · subst hjk
    simp [show j < cur.size by omega, hz]
  · rw [Array.getElem?_setIfInBounds_ne (by omega)]
    exact hpre j (by omega)
theorem RawAt.cell {w : World} {g n : Nat} {l : List UInt8} (h : RawAt w g n l) (k : Nat) (hk : k < 16) : ∃ u, w.cell? ⟨g, k, none⟩ = some u := by
  obtain ⟨cur, hcur, hsz, hpre⟩ := h
  exact ⟨cur[k]'(by omega), (cell_of_row w g k cur 40 (0, 0) hcur).trans (by simp [show k < cur.size by omega])⟩
theorem RawAt.frozen {w : World} {g n : Nat} {l : List UInt8} (h : RawAt w g n l) (k : Nat) : w.frozen? ⟨g, k, none⟩ = false := by
  obtain ⟨cur, hcur, hsz, hpre⟩ := h
  exact frozen_of_row w g k cur 40 hcur
theorem four_at (v k : Nat) (h : k < 4) : ((four v).getD k 0).toNat = v / 2 ^ (24 - 8 * k) % 256 := by
  match k, h with
  | 0, _ => exact toNat_ofNat8 _
  | 1, _ => exact toNat_ofNat8 _
  | 2, _ => exact toNat_ofNat8 _
  | 3, _ => exact (toNat_ofNat8 _).trans (by simp)
theorem eight_at (v k : Nat) (h : k < 8) : ((eight v).getD k 0).toNat = v / 2 ^ (56 - 8 * k) % 256 := by
  match k, h with
  | 0, _ => exact toNat_ofNat8 _
  | 1, _ => exact toNat_ofNat8 _
  | 2, _ => exact toNat_ofNat8 _
  | 3, _ => exact toNat_ofNat8 _
  | 4, _ => exact toNat_ofNat8 _
  | 5, _ => exact toNat_ofNat8 _
  | 6, _ => exact toNat_ofNat8 _
  | 7, _ => exact (toNat_ofNat8 _).trans (by simp)
theorem made_at1 (id rev k : Nat) (h : k < 4) : ((made id rev).getD k 0).toNat = id / 2 ^ (24 - 8 * k) % 256 := by
  rw [← four_at id k h]
  match k, h with
  | 0, _ => rfl
  | 1, _ => rfl
  | 2, _ => rfl
  | 3, _ => rfl
theorem made_at2 (id rev k : Nat) (h : k < 8) : ((made id rev).getD (4 + k) 0).toNat = rev / 2 ^ (56 - 8 * k) % 256 := by
  rw [← eight_at rev k h]
  match k, h with
  | 0, _ => rfl
  | 1, _ => rfl
  | 2, _ => rfl
  | 3, _ => rfl
  | 4, _ => rfl
  | 5, _ => rfl
  | 6, _ => rfl
  | 7, _ => rfl
theorem made_at3 (id rev k : Nat) (h : k < 4) : ((made id rev).getD (12 + k) 0).toNat = sum (head12 id rev) / 2 ^ (24 - 8 * k) % 256 := by
  rw [← four_at _ k h]
  match k, h with
  | 0, _ => rfl
  | 1, _ => rfl
  | 2, _ => rfl
  | 3, _ => rfl
theorem made_take (id rev : Nat) : (made id rev).take 12 = head12 id rev := rfl
set_option maxRecDepth 100000 in
set_option maxHeartbeats 1000000 in
theorem made_any (id rev : Nat) (w : World) (hid : id < 4294967296) (hrev : rev < 18446744073709551616) :
    Calls Try.prog 16 #[.int .u32 id, .int .u64 rev] w fun e w' => e = .returned (.agg (bytesV (made id rev)).toArray) ∧ Below w.heap.size w w' := by
  obtain ⟨i0, z0, hi, hz, hzs, his⟩ := info40_parts
  go_enter Try.func16, Try.ntmps16
  go_wp2_with (first
    | (refine wpList_alloc_row w rfl 40 rfl i0 z0 hi hz ?_; intro w1 hh1 hg1 hs1)
    | (refine wpList_alloc_row w1 rfl 40 rfl i0 z0 hi hz ?_; intro w2 hh2 hg2 hs2))
  obtain ⟨g, hg⟩ : ∃ g, g = w.heap.size + 1 := ⟨_, rfl⟩
  obtain ⟨r, hr⟩ : ∃ r, r = w.heap.size := ⟨_, rfl⟩
  rw [hs1, ← hg] at hh2
  have hh3 := (hg2.block w.heap.size (by omega) (by simp)).trans hh1
  rw [← hg, ← hr]
  rw [← hr] at hh3
  have hB : Below w.heap.size w w2 := Below.none (Below.none (Below.refl _ _) (Nat.le_refl _) hg1) hg1.size hg2
  have hrg : r ≠ g := by omega
  have hwg : w.heap.size ≤ g := by omega
  have hwr : w.heap.size ≤ r := by omega
  clear hh1 hg1 hg2 hs1 hs2 hg hr
  go_loopw [10] (fun i wr => ∃ k : Nat, k ≤ 4 ∧ i = .int .i64 k ∧ Hid (RawAt wr g k (made id rev)) ∧ Hid (wr.heap[r]? = some (.cells z0.cells 40 (0, 0))) ∧ Below w.heap.size w wr) (fun i _ => 4 - (intOf i).toNat)
  case atStart => exact ⟨0, by omega, rfl, ⟨z0.cells, hh2, hzs, fun j hj => by omega⟩, hh3, hB⟩
  case round =>
    obtain ⟨k, hk, rfl, hT, hR, hbel⟩ := hrel
    by_cases hlt : k < 4
    · obtain ⟨u0, hck⟩ := hT.out.cell k (by omega)
      have hfk := hT.out.frozen k
      go_wp2_with fail
      go_roundw
      case rel =>
        refine ⟨k + 1, by omega, by go_num, hT.out.store (by omega) ?_, (heap_setCell_other wr ⟨g, k, none⟩ r _ hrg).trans hR.out, hbel.setCell hwg _⟩
        rw [made_at1 id rev k hlt]; simp
      case measure => simp [intOf]; omega
    · obtain rfl : k = 4 := by omega
      clear hh2 hh3 hB
      go_wp2_with fail
      go_loopw [23] (fun i wr => ∃ k : Nat, k ≤ 8 ∧ i = .int .i64 k ∧ Hid (RawAt wr g (4 + k) (made id rev)) ∧ Hid (wr.heap[r]? = some (.cells z0.cells 40 (0, 0))) ∧ Below w.heap.size w wr) (fun i _ => 8 - (intOf i).toNat)
      case atStart => exact ⟨0, by omega, rfl, hT, hR, hbel⟩
      case round =>
        clear hT hR hbel
        obtain ⟨k, hk, rfl, hT, hR, hbel⟩ := hrel
        by_cases hlt : k < 8
        · obtain ⟨u0, hck⟩ := hT.out.cell (4 + k) (by omega)
          have hfk := hT.out.frozen (4 + k)
          go_wp2_with fail
          go_roundw
          case rel =>
            refine ⟨k + 1, by omega, by go_num, hT.out.store (by omega) ?_, (heap_setCell_other wr ⟨g, 4 + k, none⟩ r _ hrg).trans hR.out, hbel.setCell hwg _⟩
            rw [made_at2 id rev k hlt]; simp
          case measure => simp [intOf]; omega
        · obtain rfl : k = 8 := by omega
          have hbs : IsBytes wr (some ⟨g, 0, none⟩) (head12 id rev) := by
            intro _
            refine ⟨g, 0, rfl, ?_, ?_⟩
            · obtain ⟨cur, hcur, _⟩ := hT.out
              exact (Array.getElem?_eq_some_iff.1 hcur).1
            · intro j hj
              obtain ⟨cur, hcur, hsz, hpre⟩ := hT.out
              have hj' : j < 12 := hj
              rw [Nat.zero_add, cell_of_row wr g j cur 40 (0, 0) hcur, hpre j (by omega), ← made_take, List.getD_eq_getElem?_getD, List.getD_eq_getElem?_getD, List.getElem?_take, if_pos hj']
          have hs := sum_lt (head12 id rev)
          have hat := made_at3 id rev
          have HB := Lib.hid hbs
          have HA := Lib.hid hat
          clear hat hbs
          go_wp2_with fail
          refine (sum_at _ 16 12 (head12 id rev) _ rfl (by decide) HB.out).mono ?_
          rintro e w3 ⟨rfl, hb3⟩
          generalize sum (head12 id rev) = S at *
          have hgl : g < wr.heap.size := by
            obtain ⟨cur, hcur, _⟩ := hT.out
            exact (Array.getElem?_eq_some_iff.1 hcur).1
          have hrl : r < wr.heap.size := (Array.getElem?_eq_some_iff.1 hR.out).1
          have hT3 : Hid (RawAt w3 g 12 (made id rev)) := by
            obtain ⟨cur, hcur, hr⟩ := hT.out
            exact ⟨cur, (hb3.block g hgl).trans hcur, hr⟩
          have hR3 : Hid (w3.heap[r]? = some (.cells z0.cells 40 (0, 0))) := (hb3.block r hrl).trans hR.out
          have hB3 := hbel.trans (hb3.mono hbel.size)
          clear hT hR hgl hrl hb3 hbel HB
          go_wp2_with fail
          go_loopw [39] (fun i wr => ∃ k : Nat, k ≤ 4 ∧ i = .int .i64 k ∧ Hid (RawAt wr g (12 + k) (made id rev)) ∧ Hid (wr.heap[r]? = some (.cells z0.cells 40 (0, 0))) ∧ Below w.heap.size w wr) (fun i _ => 4 - (intOf i).toNat)
          case atStart => exact ⟨0, by omega, rfl, hT3, hR3, hB3⟩
          case round =>
            clear hT3 hR3 hB3
            obtain ⟨k, hk, rfl, hT, hR, hbel⟩ := hrel
            by_cases hlt : k < 4
            · obtain ⟨u0, hck⟩ := hT.out.cell (12 + k) (by omega)
              have hfk := hT.out.frozen (12 + k)
              go_wp2_with fail
              go_roundw
              case rel =>
                refine ⟨k + 1, by omega, by go_num, hT.out.store (by omega) ?_, (heap_setCell_other wr ⟨g, 12 + k, none⟩ r _ hrg).trans hR.out, hbel.setCell hwg _⟩
                rw [HA.out k hlt]; simp
              case measure => simp [intOf]; omega
            · obtain rfl : k = 4 := by omega
              obtain ⟨cur, hcur, hsz, hpre⟩ := hT.out
              have hcur' : cur = (bytesV (made id rev)).toArray := by
                apply Array.ext'
                apply List.ext_getElem?
                intro j
                by_cases hj : j < 16
                · have := hpre j (by omega)
                  simp only [Array.getElem?_toList, this]
                  rw [bytesV_get _ _ (by rw [length_made]; exact hj)]
                · rw [List.getElem?_eq_none (by simp; omega), List.getElem?_eq_none (by simp [length_bytesV, length_made]; omega)]
              subst hcur'
              generalize hC : (bytesV (made id rev)).toArray = C at *
              have hsz' : (Try.prog.info? 40).map (·.size) = some C.size := by rw [hsz, hi, Option.map_some, his]
              have hone : C.all (·.oneCell') = true := by
                rw [← hC, Array.all_eq_true']
                intro x hx
                exact bytesV_one _ x (by simpa using hx)
              have HC := Lib.hid hcur
              have HS' := Lib.hid hsz'
              have HO := Lib.hid hone
              have HZ : Hid (z0.cells.size = C.size) := by rw [hsz]; exact hzs
              have HCq := Lib.hid hC
              clear hcur hsz' hone hsz hpre hC
              go_wp2_with (first
                | (refine wpList_load_row rfl 40 _ rfl g rfl 40 C (0, 0) _ HC.out Try.underlying40 (by kernel_rfl) HS'.out ?_)
                | (refine wpList_store_arr wr rfl rfl 40 _ _ rfl r 40 z0.cells C rfl rfl hR.out HS'.out HZ.out HO.out ?_; intro w5 hh5 hg5 hs5))
              refine bodyPost_ret (v := .agg C) (results_cell_row rfl _ _ r 40 C (0, 0) _ rfl hh5 Try.underlying40 (by kernel_rfl) HS'.out) rfl ⟨by rw [HCq.out], ?_⟩
              exact hbel.grown hg5 hbel.size (fun k hk => by cases hk; exact hwr)
end Go.Proofs.Ytbamohcaamgalac
