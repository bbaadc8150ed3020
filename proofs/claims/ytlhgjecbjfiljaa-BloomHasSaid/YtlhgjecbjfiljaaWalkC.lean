/- The reference's places of a key. -/
import Derived.Test.YtlhgjecbjfiljaaWalkB
namespace Go.Proofs.Ytlhgjecbjfiljaa
open Go.RowKit

theorem Try.info25 : (Try.prog.info? 25).map (fun i => (i.zero, i.size, i.bytes)) = some (some (.int .u64 0), 1, 8) := by kernel_rfl
theorem Try.info5 : (Try.prog.info? 5).map (fun i => (i.zero, i.size, i.bytes)) = some (some (.int .u8 0), 1, 1) := by kernel_rfl

def places (h size k : Nat) : List Value := (List.range k).map fun i => Value.int .u64 (place h size i : Int)
theorem places_succ (h size k : Nat) : places h size (k + 1) = places h size k ++ [.int .u64 (place h size k : Int)] := by simp [places, List.range_succ]
theorem length_places (h size k : Nat) : (places h size k).length = k := by simp [places]
theorem iy_bd (i y : Nat) (hi : i ≤ 30) (hy : y ≤ 4294967296) : 0 ≤ (i : Int) * (y : Int) ∧ (i : Int) * (y : Int) ≤ 1000000000000 := by
  have : i * y ≤ 30 * 4294967296 := Nat.mul_le_mul hi hy
  rw [← Int.natCast_mul]; omega
theorem place_int (h size i y : Nat) (hy : y = h / 4294967296 ||| 1) : ((h : Int) % 4294967296 + (i : Int) * (y : Int)) % (size : Int) = (place h size i : Int) := by
  subst hy
  rw [place, Int.natCast_emod, Int.natCast_add, Int.natCast_emod, Int.natCast_mul]
  rfl

set_option maxHeartbeats 1000000 in
theorem places_any (s : ByteArray) (k size : Nat) (w : World) (hs : s.size ≤ 300) (hk : k ≤ 30) (h0 : 0 < size) (h1 : size ≤ 1000000) :
    Calls Try.prog 19 #[.string s, .int .i64 k, .int .u64 size] w fun e w' => ∃ v, e = .returned v ∧ w'.ownsRow w.heap.size 25 1 v k (places (hash s.data.toList) size k) ∧ Below w.heap.size w w' := by
  have hl := hash_lt s.data.toList
  have ho := or_one (hash s.data.toList / 4294967296)
  have hp := fun i y hy => place_int (hash s.data.toList) size i y hy
  have hsu := places_succ (hash s.data.toList) size
  generalize hx : hash s.data.toList = x at *
  obtain ⟨y, hy⟩ : ∃ y, y = x / 4294967296 ||| 1 := ⟨_, rfl⟩
  rw [← hy] at ho
  have HX := Lib.hid hx
  have HP := Lib.hid hp
  have HY := Lib.hid hy
  have HU := Lib.hid hsu
  have hy2 : y ≤ 4294967296 := by split at ho <;> omega
  have HO := Lib.hid ho
  clear hx hp hy hsu ho
  obtain ⟨i0, hi, hz0, hz1, hz2⟩ := info_parts Try.info25
  have hzs : ((size : Int) == 0) = false := by simp; omega
  by_cases hpar : x / 4294967296 % 2 = 0
  case' pos =>
    have HE : Hid ((x : Int) / 4294967296 + 1 = (y : Int)) := by have := HO.out; rw [if_pos hpar] at this; exact (by omega : (x : Int) / 4294967296 + 1 = (y : Int))
    have hb : ((x : Int) / 4294967296 % 2 == 0) = true := by simp; omega
  case' neg =>
    have HE : Hid ((x : Int) / 4294967296 = (y : Int)) := by have := HO.out; rw [if_neg hpar] at this; exact (by omega : (x : Int) / 4294967296 = (y : Int))
    have hb : ((x : Int) / 4294967296 % 2 == 0) = false := by simp; omega
  all_goals
    clear hpar HO
    go_enter Try.func19, Try.ntmps19
    go_wp2_with (go_at_call 10; refine (refhash_any _ _ hs).mono ?_; rintro e w' ⟨rfl, rfl⟩; rw [HX.out])
    rw [HE.out]
    clear HE hb
    go_loopw [10, 11] (fun o i wr => ∃ j : Nat, j ≤ k ∧ i = .int .i64 j ∧ wr.ownsRow w'.heap.size 25 1 o j (places x size j) ∧ Below w'.heap.size w' wr) (fun _ i _ => k - (intOf i).toNat)
    case atStart => exact ⟨0, Nat.zero_le _, rfl, World.ownsRow_nil _ _ _ _, Below.refl _ _⟩
    case round =>
      obtain ⟨j, hj, rfl, hown, hbel⟩ := hrel
      obtain ⟨m1, m2⟩ := iy_bd j y (by omega) hy2
      have HPj := Lib.hid (HP.out j y HY.out)
      by_cases hlt : j < k
      · go_wp2_with (at_builtin; rw [HPj.out]; refine wpList_append_one _ rfl _ _ 40 rfl w'.heap.size 25 i0 (.int .u64 0) 8 Try.underlying40 hi hz0 hz1 hz2 rfl _ _ _ rfl hown _ 1 rfl rfl (by omega) (by omega) hbel.size ?_; intro v' w1 hown1 hgrow1 _; have hbel1 := Below.own hbel hown (Nat.le_refl _) hbel.size hgrow1)
        go_roundw
        case rel => exact ⟨j + 1, by omega, by go_num, by rw [HU.out]; exact hown1, hbel1⟩
        case measure => simp [intOf]; omega
      · go_wp2
        go_ret
        obtain rfl : j = k := by omega
        exact ⟨_, rfl, hown, hbel⟩
end Go.Proofs.Ytlhgjecbjfiljaa
