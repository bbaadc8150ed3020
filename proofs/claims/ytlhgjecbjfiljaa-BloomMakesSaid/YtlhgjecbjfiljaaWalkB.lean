/- A key's places, one by one. -/
import Derived.Test.YtlhgjecbjfiljaaWalkA
namespace Go.Proofs.Ytlhgjecbjfiljaa
open Go.RowKit

theorem and7 (x : Nat) : x &&& 7 = x % 8 := Nat.and_two_pow_sub_one_eq_mod x 3
theorem and7_int (x y : Nat) (hy : 0 < y) (hb : y ≤ 1000000) : bits BinOp.and IntKind.u64 ((x : Int) % (y : Int)) 7 = (x : Int) % (y : Int) % 8 := by
  have h : x % y < y := Nat.mod_lt _ hy
  have := u64_and_nat (x % y) 7 (by omega) (by omega)
  rw [and7] at this
  rw [show ((x : Int) % (y : Int)) = ((x % y : Nat) : Int) by omega]
  exact this
theorem ret_pair {a b : Int} {c d : Int} (h : a = b) (h' : c = d) : Ending.returned (.tuple #[.int .i64 a, .int .u8 c]) = .returned (.tuple #[.int .i64 b, .int .u8 d]) := by rw [h, h']
theorem pow_small (n : Nat) : (2 : Int) ^ (n % 8) % 256 = ((2 ^ (n % 8) : Nat) : Int) := by
  have h : n % 8 < 8 := Nat.mod_lt _ (by omega)
  generalize n % 8 = m at *
  match m, h with
  | 0, _ => rfl
  | 1, _ => rfl
  | 2, _ => rfl
  | 3, _ => rfl
  | 4, _ => rfl
  | 5, _ => rfl
  | 6, _ => rfl
  | 7, _ => rfl
set_option maxHeartbeats 400000 in
theorem next_walk (g at_ st sz : Nat) (w : World) (h0 : w.cell? ⟨g, 0, none⟩ = some (.int .u64 at_)) (h1 : w.cell? ⟨g, 1, none⟩ = some (.int .u64 st)) (h2 : w.cell? ⟨g, 2, none⟩ = some (.int .u64 sz))
    (hf : w.frozen? ⟨g, 0, none⟩ = false) (b0 : 0 < sz) (b1 : sz ≤ 1000000) (b2 : at_ ≤ 1000000000000) (b3 : st ≤ 1000000000000) :
    Calls Try.prog 18 #[.pointer (some ⟨g, 0, none⟩)] w fun e w' => e = .returned (.tuple #[.int .i64 ((at_ % sz / 8 : Nat) : Int), .int .u8 ((2 ^ (at_ % sz % 8) : Nat) : Int)]) ∧
      ∃ n, w' = (w.drewN n).setCell ⟨g, 0, none⟩ (.int .u64 ((at_ + st : Nat) : Int)) := by
  have h7 := and7_int at_ sz b0 b1
  have m1 : 0 ≤ (at_ : Int) % sz := by omega
  have m2 : (at_ : Int) % sz < 1000000 := by
    have h : at_ % sz < sz := Nat.mod_lt _ b0
    omega
  have hz : ((sz : Int) == 0) = false := by simp; omega
  go_enter Try.func18, Try.ntmps18
  go_wp2
  go_quiet (fail)
  go_wp2
  go_region
  go_wp2
  go_ret2
  exact ⟨ret_pair (by omega) (pow_small _), _, rfl⟩

/-- The block of a probe: where it is, its step, how many bits there are. -/
def Probe (w : World) (g a s n : Nat) : Prop := w.heap[g]? = some (.cells #[.int .u64 (a : Int), .int .u64 (s : Int), .int .u64 (n : Int)] 35 (0, 0))
theorem Probe.cells {w : World} {g a s n : Nat} (h : Probe w g a s n) : w.cell? ⟨g, 0, none⟩ = some (.int .u64 a) ∧ w.cell? ⟨g, 1, none⟩ = some (.int .u64 s) ∧ w.cell? ⟨g, 2, none⟩ = some (.int .u64 n) ∧ w.frozen? ⟨g, 0, none⟩ = false := by
  unfold Probe at h
  simp [World.cell?, World.frozen?, h]
theorem Probe.next {w w' : World} {g a s n : Nat} (h : Probe w g a s n) (hw : ∃ n, w' = (w.drewN n).setCell ⟨g, 0, none⟩ (.int .u64 ((a + s : Nat) : Int))) : Probe w' g (a + s) s n ∧ w.grownBy w' (some g) := by
  obtain ⟨m, rfl⟩ := hw
  refine ⟨heap_setCell_same (w.drewN m) g 0 _ 35 _ h, rfl, rfl, rfl, by simp [World.setCell], fun k _ hk => heap_setCell_other (w.drewN m) ⟨g, 0, none⟩ k _ (fun e => hk (by simp [e]))⟩
theorem next_any (g a s n p : Nat) (w : World) (hp : Probe w g a s n) (hq : a % n = p) (b0 : 0 < n) (b1 : n ≤ 1000000) (b2 : a ≤ 1000000000000) (b3 : s ≤ 1000000000000) :
    Calls Try.prog 18 #[.pointer (some ⟨g, 0, none⟩)] w fun e w' => e = .returned (.tuple #[.int .i64 ((p / 8 : Nat) : Int), .int .u8 ((2 ^ (p % 8) : Nat) : Int)]) ∧
      Probe w' g (a + s) s n ∧ w.grownBy w' (some g) := by
  subst hq
  exact (next_walk g a s n w hp.cells.1 hp.cells.2.1 hp.cells.2.2.1 hp.cells.2.2.2 b0 b1 b2 b3).mono fun e w' ⟨he, hw⟩ => ⟨he, hp.next hw⟩

theorem ret_i64 {a b : Int} (h : a = b) : Ending.returned (.int .i64 a) = .returned (.int .i64 b) := by rw [h]
set_option maxHeartbeats 400000 in
theorem many_any (b : Int) (w : World) (h0 : 1 ≤ b) (h1 : b ≤ 40) :
    Calls Try.prog 17 #[.int .i64 b] w fun e w' => e = .returned (.int .i64 (many b : Int)) ∧ w' = w := by
  go_enter Try.func17, Try.ntmps17
  go_wp2
  all_goals
    go_ret
    exact ⟨ret_i64 (by unfold many; omega), rfl⟩
set_option maxHeartbeats 400000 in
theorem refmany_any (b : Int) (w : World) (h0 : 1 ≤ b) (h1 : b ≤ 40) :
    Calls Try.prog 20 #[.int .i64 b] w fun e w' => e = .returned (.int .i64 (many b : Int)) ∧ w' = w := by
  go_enter Try.func20, Try.ntmps20
  go_wp2
  all_goals
    go_ret
    exact ⟨ret_i64 (by unfold many; omega), rfl⟩
theorem mask_int (h : Nat) (hh : h < 18446744073709551616) : bits BinOp.and IntKind.u64 (h : Int) 4294967295 = ((h % 4294967296 : Nat) : Int) := by
  have := u64_and_nat h 4294967295 hh (by decide)
  rw [show h &&& 4294967295 = h % 4294967296 from Nat.and_two_pow_sub_one_eq_mod h 32] at this
  exact this
theorem orone_int (h : Nat) (hh : h < 18446744073709551616) : bits BinOp.or IntKind.u64 ((h : Int) / 4294967296) 1 = ((h / 4294967296 ||| 1 : Nat) : Int) := by
  have := u64_or_nat (h / 4294967296) 1 (by omega) (by decide)
  exact this
set_option maxHeartbeats 400000 in
theorem start_any (s : ByteArray) (b : Int) (w : World) (hs : s.size ≤ 300) (h0 : 0 ≤ b) (h1 : b ≤ 1000000) :
    Calls Try.prog 16 #[.string s, .int .i64 b] w fun e w' => e = .returned (.agg #[.int .u64 ((hash s.data.toList % 4294967296 : Nat) : Int), .int .u64 ((hash s.data.toList / 4294967296 ||| 1 : Nat) : Int), .int .u64 b]) ∧ Below w.heap.size w w' := by
  have e1 := mask_int (hash s.data.toList) (hash_lt _)
  have e2 := orone_int (hash s.data.toList) (hash_lt _)
  generalize hx : hash s.data.toList = x at *
  have HX := Lib.hid hx
  clear hx
  go_enter Try.func16, Try.ntmps16
  go_wp2_with (go_at_call 9; refine (hash_any _ _ hs).mono ?_; rintro e w' ⟨rfl, rfl⟩; rw [HX.out])
  exact bodyPost_ret (v := .agg #[.int .u64 ((x % 4294967296 : Nat) : Int), .int .u64 ((x / 4294967296 ||| 1 : Nat) : Int), .int .u64 b]) (by simp [results, Try.results16, go_sem]) rfl ⟨rfl, (Below.refl _ _).alloc (Nat.le_refl _) _⟩
end Go.Proofs.Ytlhgjecbjfiljaa
