/- Depths and sizes of rules and nodes: walked (printed by genGreatRec.py). -/
import Derived.Test.YtacjbgmnoiimbabGreatFix
import Derived.Test.YtacjbgmnoiimbabGreatFew
namespace Go.Proofs.YtacjbgmnoiimbabGreat
set_option linter.unusedVariables false
set_option linter.unusedSimpArgs false
open Go.RowKit

theorem depRs_snoc (xs : List PR) (x : PR) : depRs (xs ++ [x]) = max (depRs xs) (depR x) := by
  induction xs with
  | nil => simp only [List.nil_append, depRs]; omega
  | cons y r ih => rw [List.cons_append, depRs, depRs, ih]; omega
theorem depNs_snoc (xs : List PN) (x : PN) : depNs (xs ++ [x]) = max (depNs xs) (depN x) := by
  induction xs with
  | nil => simp only [List.nil_append, depNs]; omega
  | cons y r ih => rw [List.cons_append, depNs, depNs, ih]; omega
theorem map_take_snoc {T U : Type} [Inhabited T] (f : T → U) (xs : List T) (j : Nat) (h : j < xs.length) : (xs.take (j + 1)).map f = (xs.take j).map f ++ [f (xs.getD j default)] := by
  rw [List.take_succ_eq_append_getElem h, List.map_append, List.getD_eq_getElem?_getD, List.getElem?_eq_getElem h]
  rfl
mutual
theorem depR_len : ∀ x : PR, depR x ≤ (encR x).length
  | .mk k A B ps => by
    rw [depR, encR]
    have := depRs_len ps
    have := intE_pos k
    simp only [List.length_append]
    omega
theorem depRs_len : ∀ xs : List PR, depRs xs ≤ (encRs xs).length
  | [] => by rw [depRs]; exact Nat.zero_le _
  | x :: r => by
    rw [depRs, encRs, List.length_append]
    have := depR_len x
    have := depRs_len r
    omega
end
mutual
theorem depN_len : ∀ x : PN, depN x ≤ (encN x).length
  | .mk k o t ss ps => by
    rw [depN, encN]
    have := depNs_len ps
    have := intE_pos k
    simp only [List.length_append]
    omega
theorem depNs_len : ∀ xs : List PN, depNs xs ≤ (encNs xs).length
  | [] => by rw [depNs]; exact Nat.zero_le _
  | x :: r => by
    rw [depNs, encNs, List.length_append]
    have := depN_len x
    have := depNs_len r
    omega
end
def DepIs (n : Nat) (W : World) (e : Ending) (W' : World) : Prop := e = .returned (.int .i64 (n : Int)) ∧ Below W.heap.size W W'
def SmIs (hi : Int) (W : World) (e : Ending) (W' : World) : Prop := ∃ r : Int, e = .returned (.int .i64 r) ∧ -1000000000 ≤ r ∧ r ≤ hi ∧ Below W.heap.size W W'
theorem part_len_encR : ∀ (ps : List PR) (y : PR), y ∈ ps → (encR y).length ≤ (encRs ps).length
  | [], y, h => by cases h
  | x :: r, y, h => by
    rw [encRs, List.length_append]
    rcases List.mem_cons.1 h with rfl | h
    · omega
    · have := part_len_encR r y h
      omega
theorem count_len_encR : ∀ (ps : List PR), ps.length ≤ (encRs ps).length
  | [] => Nat.zero_le _
  | x :: r => by
    rw [encRs, List.length_append, List.length_cons]
    have := count_len_encR r
    have := encR_pos x
    omega
theorem parts_len_encR (x : RE) : x.ps.length ≤ (encRs x.ps).length ∧ (encRs x.ps).length ≤ (encR x.plain).length := by
  refine ⟨count_len_encR _, ?_⟩
  show _ ≤ (encR (.mk x.k x.A x.B x.ps)).length
  rw [encR]
  simp only [List.length_append]
  omega
theorem part_len_encN : ∀ (ps : List PN) (y : PN), y ∈ ps → (encN y).length ≤ (encNs ps).length
  | [], y, h => by cases h
  | x :: r, y, h => by
    rw [encNs, List.length_append]
    rcases List.mem_cons.1 h with rfl | h
    · omega
    · have := part_len_encN r y h
      omega
theorem count_len_encN : ∀ (ps : List PN), ps.length ≤ (encNs ps).length
  | [] => Nat.zero_le _
  | x :: r => by
    rw [encNs, List.length_append, List.length_cons]
    have := count_len_encN r
    have := encN_pos x
    omega
theorem parts_len_encN (x : NE) : x.ps.length ≤ (encNs x.ps).length ∧ (encNs x.ps).length ≤ (encN x.plain).length := by
  refine ⟨count_len_encN _, ?_⟩
  show _ ≤ (encN (.mk x.k (x.t, x.i) x.r x.ss x.ps)).length
  rw [encN]
  simp only [List.length_append]
  omega
theorem own_len_encR (x : RE) : x.A.size ≤ (encR x.plain).length ∧ x.B.size ≤ (encR x.plain).length := by
  have h1 := txt_len x.A
  have h2 := txt_len x.B
  have e : (encR x.plain).length = (encR (.mk x.k x.A x.B x.ps)).length := rfl
  rw [e, encR]
  simp only [List.length_append]
  omega
theorem own_len_encN (x : NE) : x.ss.length ≤ (encN x.plain).length := by
  have h1 := list_ge (en := triE) triE_pos x.ss
  have e : (encN x.plain).length = (encN (.mk x.k (x.t, x.i) x.r x.ss x.ps)).length := rfl
  rw [e, encN]
  simp only [List.length_append]
  omega
set_option maxRecDepth 100000 in
set_option maxHeartbeats 4000000 in
theorem depth_step (k : Int) (A B : ByteArray) (a : Option Addr) (c : Nat) (ps : List PR) (xs : List RE) (W : World) (hx : IsEls reC 4 W a xs) (hxs : xs.length = ps.length) (hone : ∀ y ∈ xs, ∀ w, Below W.heap.size W w → Calls Tryz.prog 32 #[.agg #[.int .i64 y.k, .string y.A, .string y.B, .slice y.a y.ps.length y.c]] w (DepIs (depR y.plain) w)) (hn : ps.length ≤ 1000000000) (hdl : depRs (xs.map RE.plain) ≤ 1000000000) :
    Calls Tryz.prog 32 #[.agg #[.int .i64 k, .string A, .string B, .slice a ps.length c]] W (DepIs (depRs (xs.map RE.plain) + 1) W) := by
  have HB0 := Lib.hid ((Below.refl W.heap.size W).alloc (Nat.le_refl _) (.cells #[.int .i64 k, .string A, .string B, .slice a ps.length c] 71))
  have HX0 := Lib.hid (heap_alloc_new W (.cells #[.int .i64 k, .string A, .string B, .slice a ps.length c] 71))
  have HEl := Lib.hid hx
  have HOne := Lib.hid hone
  have HNx := Lib.hid hxs
  clear hx hone hxs
  have HDl := Lib.hid hdl
  clear hdl
  go_enter Tryz.func32, Tryz.ntmps32
  go_upto_region 1 with (fail)
  generalize (W.alloc (.cells #[.int .i64 k, .string A, .string B, .slice a ps.length c] 71)) = W0 at *
  obtain ⟨x, hx⟩ : ∃ x, x = W.heap.size := ⟨_, rfl⟩
  rw [← hx] at HX0
  rw [← hx]
  have HXx := Lib.hid hx
  clear hx
  have q0 := heap_cell HX0.out 0
  have q1 := heap_cell HX0.out 1
  have q2 := heap_cell HX0.out 2
  have q3 := heap_cell HX0.out 3
  simp at q0 q1 q2 q3
  go_wp2_with fail
  go_loopw [3, 9] (fun dv iv wr => ∃ (j m : Nat), dv = .int .i64 m ∧ iv = .int .i64 j ∧ j ≤ ps.length ∧ m ≤ 1000000000 ∧ Hid (m = depRs ((xs.take j).map RE.plain) ∧ Below W.heap.size W wr)) (fun _ iv _ => ps.length - (intOf iv).toNat)
  case atStart => exact ⟨0, 0, rfl, rfl, Nat.zero_le _, Nat.zero_le _, by rw [List.take_zero]; exact depRs.eq_1.symm, HB0.out⟩
  case round =>
    clear HB0 HX0 q0 q1 q2 q3
    obtain ⟨j, m, rfl, rfl, hj, hm, hst⟩ := hrel
    obtain ⟨hmj, hbel⟩ := hst.out
    have hnx := HNx.out
    by_cases hjl : j < xs.length
    · have dj : decide ((j : Int) < (ps.length : Int)) = true := decide_eq_true (by omega)
      have dj2 : decide (j < ps.length) = true := decide_eq_true (by omega)
      have hij : (j : Int) < (ps.length : Int) := by omega
      have hmem := getD_mem hjl
      have hmt := map_take_snoc RE.plain xs j hjl
      have hle : depRs ((xs.take (j + 1)).map RE.plain) ≤ 1000000000 := by
        refine Nat.le_trans (depRs_le.2 fun z hz => ?_) HDl.out
        obtain ⟨z0, hz0, rfl⟩ := List.mem_map.1 hz
        exact depRs_le.1 (Nat.le_refl _) _ (List.mem_map_of_mem (List.mem_of_mem_take hz0))
      rw [hmt, depRs_snoc, ← hmj] at hle
      have HMt := Lib.hid (show max m (depR (xs.getD j default).plain) = depRs ((xs.take (j + 1)).map RE.plain) by rw [hmt, depRs_snoc, ← hmj])
      obtain ⟨b, off, rfl, hb, hc⟩ := (HEl.out.below hbel) (by omega)
      have c0 := hc j hjl 0 (by omega)
      have c1 := hc j hjl 1 (by omega)
      have c2 := hc j hjl 2 (by omega)
      have c3 := hc j hjl 3 (by omega)
      have HBelj := Lib.hid hbel
      clear hst hc hmt hmj hnx
      generalize xs.getD j default = y at *
      obtain ⟨yk, yA, yB, ya, yc, yps⟩ := y
      simp [reC] at c0 c1 c2 c3
      have hB1 := (Below.refl wr.heap.size wr).alloc (Nat.le_refl _) (.cells #[.int .i64 yk, .string yA, .string yB, .slice ya yps.length yc] 71)
      have HB1 := Lib.hid (hbel.trans (hB1.mono hbel.size))
      have HC := Lib.hid (HOne.out _ hmem _ HB1.out)
      clear hmem hbel hB1
      generalize hdy : depR (RE.plain ⟨yk, yA, yB, ya, yc, yps⟩) = dy at *
      have hmx : max (m : Int) (dy : Int) = ((max m dy : Nat) : Int) := by omega
      clear hdy
      go_wp2_with fail
      refine HC.out.mono ?_
      clear HC
      rintro e w1 ⟨rfl, hb1⟩
      have HB2 := Lib.hid (HB1.out.trans (hb1.mono HB1.out.size))
      clear hb1
      go_wp2_with fail
      all_goals
        go_roundw
        case rel => exact ⟨j + 1, max m dy, by first | rfl | go_num | (simp; omega), by go_num, by omega, by omega, HMt.out, HB2.out⟩
        case measure => first | (simp [intOf]; done) | (simp [intOf]; omega)
    · obtain rfl : j = ps.length := by omega
      have dj : decide ((ps.length : Int) < (ps.length : Int)) = false := by simp
      have dj2 : decide (ps.length < ps.length) = false := by simp
      have HE := Lib.hid (show m = depRs (xs.map RE.plain) from by rw [hmj, ← hnx, List.take_length])
      clear hmj hnx hst hjl
      go_wp2_with fail
      go_ret
      rw [← HE.out]
      exact ⟨by first | rfl | go_num, hbel⟩
theorem depth_any : ∀ (n : Nat) (S : Nat → Prop) (W : World) (x : RE), RMem S n W x.a x.ps → (encR x.plain).length ≤ 1000000000 →
    Calls Tryz.prog 32 #[.agg #[.int .i64 x.k, .string x.A, .string x.B, .slice x.a x.ps.length x.c]] W (DepIs (depR x.plain) W) := by
  intro n
  induction n with
  | zero =>
    intro S W x hm hl
    have hnil : x.ps = [] := List.eq_nil_of_length_eq_zero hm
    have e : depR x.plain = depRs (([] : List RE).map RE.plain) + 1 := by
      show depR (.mk x.k x.A x.B x.ps) = _
      rw [depR_eq, hnil]; rfl
    rw [e]
    exact depth_step x.k x.A x.B x.a x.c x.ps [] W (fun h => absurd h (Nat.lt_irrefl 0)) (by rw [hnil]; rfl) (fun y hy => by cases hy) (by rw [hnil]; exact Nat.zero_le _) (by show depRs [] ≤ _; rw [depRs]; exact Nat.zero_le _)
  | succ n ih =>
    intro S W x hm hl
    obtain ⟨xs, h1, h2, h3, h4⟩ := hm
    have hlen : xs.length = x.ps.length := by rw [← h1, List.length_map]
    have e : depR x.plain = depRs (xs.map RE.plain) + 1 := by
      show depR (.mk x.k x.A x.B x.ps) = _
      rw [depR_eq, h1]
    have hps := parts_len_encR x
    rw [e]
    refine depth_step x.k x.A x.B x.a x.c x.ps xs W h2 hlen (fun y hy w hbw => ?_) (by omega) (by rw [h1]; have := depRs_len x.ps; omega)
    refine ih S w y ((h4 y hy).2.stays (Stays.below hbw)) ?_
    have := part_len_encR x.ps y.plain (by rw [← h1]; exact List.mem_map_of_mem hy)
    omega
set_option maxRecDepth 100000 in
set_option maxHeartbeats 4000000 in
theorem deep_step (k : Int) (t i r : ByteArray) (sa : Option Addr) (sc : Nat) (ss : List Tri) (a : Option Addr) (c : Nat) (ps : List PN) (xs : List NE) (W : World) (hx : IsEls neC 6 W a xs) (hxs : xs.length = ps.length) (hone : ∀ y ∈ xs, ∀ w, Below W.heap.size W w → Calls Tryz.prog 33 #[.agg #[.int .i64 y.k, .string y.t, .string y.i, .string y.r, .slice y.sa y.ss.length y.sc, .slice y.a y.ps.length y.c]] w (DepIs (depN y.plain) w)) (hn : ps.length ≤ 1000000000) (hdl : depNs (xs.map NE.plain) ≤ 1000000000) :
    Calls Tryz.prog 33 #[.agg #[.int .i64 k, .string t, .string i, .string r, .slice sa ss.length sc, .slice a ps.length c]] W (DepIs (depNs (xs.map NE.plain) + 1) W) := by
  have HB0 := Lib.hid ((Below.refl W.heap.size W).alloc (Nat.le_refl _) (.cells #[.int .i64 k, .string t, .string i, .string r, .slice sa ss.length sc, .slice a ps.length c] 34))
  have HX0 := Lib.hid (heap_alloc_new W (.cells #[.int .i64 k, .string t, .string i, .string r, .slice sa ss.length sc, .slice a ps.length c] 34))
  have HEl := Lib.hid hx
  have HOne := Lib.hid hone
  have HNx := Lib.hid hxs
  clear hx hone hxs
  have HDl := Lib.hid hdl
  clear hdl
  go_enter Tryz.func33, Tryz.ntmps33
  go_upto_region 1 with (fail)
  generalize (W.alloc (.cells #[.int .i64 k, .string t, .string i, .string r, .slice sa ss.length sc, .slice a ps.length c] 34)) = W0 at *
  obtain ⟨x, hx⟩ : ∃ x, x = W.heap.size := ⟨_, rfl⟩
  rw [← hx] at HX0
  rw [← hx]
  have HXx := Lib.hid hx
  clear hx
  have q0 := heap_cell HX0.out 0
  have q1 := heap_cell HX0.out 1
  have q2 := heap_cell HX0.out 2
  have q3 := heap_cell HX0.out 3
  have q4 := heap_cell HX0.out 4
  have q5 := heap_cell HX0.out 5
  simp at q0 q1 q2 q3 q4 q5
  go_wp2_with fail
  go_loopw [3, 9] (fun dv iv wr => ∃ (j m : Nat), dv = .int .i64 m ∧ iv = .int .i64 j ∧ j ≤ ps.length ∧ m ≤ 1000000000 ∧ Hid (m = depNs ((xs.take j).map NE.plain) ∧ Below W.heap.size W wr)) (fun _ iv _ => ps.length - (intOf iv).toNat)
  case atStart => exact ⟨0, 0, rfl, rfl, Nat.zero_le _, Nat.zero_le _, by rw [List.take_zero]; exact depNs.eq_1.symm, HB0.out⟩
  case round =>
    clear HB0 HX0 q0 q1 q2 q3 q4 q5
    obtain ⟨j, m, rfl, rfl, hj, hm, hst⟩ := hrel
    obtain ⟨hmj, hbel⟩ := hst.out
    have hnx := HNx.out
    by_cases hjl : j < xs.length
    · have dj : decide ((j : Int) < (ps.length : Int)) = true := decide_eq_true (by omega)
      have dj2 : decide (j < ps.length) = true := decide_eq_true (by omega)
      have hij : (j : Int) < (ps.length : Int) := by omega
      have hmem := getD_mem hjl
      have hmt := map_take_snoc NE.plain xs j hjl
      have hle : depNs ((xs.take (j + 1)).map NE.plain) ≤ 1000000000 := by
        refine Nat.le_trans (depNs_le.2 fun z hz => ?_) HDl.out
        obtain ⟨z0, hz0, rfl⟩ := List.mem_map.1 hz
        exact depNs_le.1 (Nat.le_refl _) _ (List.mem_map_of_mem (List.mem_of_mem_take hz0))
      rw [hmt, depNs_snoc, ← hmj] at hle
      have HMt := Lib.hid (show max m (depN (xs.getD j default).plain) = depNs ((xs.take (j + 1)).map NE.plain) by rw [hmt, depNs_snoc, ← hmj])
      obtain ⟨b, off, rfl, hb, hc⟩ := (HEl.out.below hbel) (by omega)
      have c0 := hc j hjl 0 (by omega)
      have c1 := hc j hjl 1 (by omega)
      have c2 := hc j hjl 2 (by omega)
      have c3 := hc j hjl 3 (by omega)
      have c4 := hc j hjl 4 (by omega)
      have c5 := hc j hjl 5 (by omega)
      have HBelj := Lib.hid hbel
      clear hst hc hmt hmj hnx
      generalize xs.getD j default = y at *
      obtain ⟨yk, yt, yi, yr, ysa, ysc, yss, ya, yc, yps⟩ := y
      simp [neC] at c0 c1 c2 c3 c4 c5
      have hB1 := (Below.refl wr.heap.size wr).alloc (Nat.le_refl _) (.cells #[.int .i64 yk, .string yt, .string yi, .string yr, .slice ysa yss.length ysc, .slice ya yps.length yc] 34)
      have HB1 := Lib.hid (hbel.trans (hB1.mono hbel.size))
      have HC := Lib.hid (HOne.out _ hmem _ HB1.out)
      clear hmem hbel hB1
      generalize hdy : depN (NE.plain ⟨yk, yt, yi, yr, ysa, ysc, yss, ya, yc, yps⟩) = dy at *
      have hmx : max (m : Int) (dy : Int) = ((max m dy : Nat) : Int) := by omega
      clear hdy
      go_wp2_with fail
      refine HC.out.mono ?_
      clear HC
      rintro e w1 ⟨rfl, hb1⟩
      have HB2 := Lib.hid (HB1.out.trans (hb1.mono HB1.out.size))
      clear hb1
      go_wp2_with fail
      all_goals
        go_roundw
        case rel => exact ⟨j + 1, max m dy, by first | rfl | go_num | (simp; omega), by go_num, by omega, by omega, HMt.out, HB2.out⟩
        case measure => first | (simp [intOf]; done) | (simp [intOf]; omega)
    · obtain rfl : j = ps.length := by omega
      have dj : decide ((ps.length : Int) < (ps.length : Int)) = false := by simp
      have dj2 : decide (ps.length < ps.length) = false := by simp
      have HE := Lib.hid (show m = depNs (xs.map NE.plain) from by rw [hmj, ← hnx, List.take_length])
      clear hmj hnx hst hjl
      go_wp2_with fail
      go_ret
      rw [← HE.out]
      exact ⟨by first | rfl | go_num, hbel⟩
theorem deep_any : ∀ (n : Nat) (S : Nat → Prop) (W : World) (x : NE), NMem S n W x.a x.ps → (encN x.plain).length ≤ 1000000000 →
    Calls Tryz.prog 33 #[.agg #[.int .i64 x.k, .string x.t, .string x.i, .string x.r, .slice x.sa x.ss.length x.sc, .slice x.a x.ps.length x.c]] W (DepIs (depN x.plain) W) := by
  intro n
  induction n with
  | zero =>
    intro S W x hm hl
    have hnil : x.ps = [] := List.eq_nil_of_length_eq_zero hm
    have e : depN x.plain = depNs (([] : List NE).map NE.plain) + 1 := by
      show depN (.mk x.k (x.t, x.i) x.r x.ss x.ps) = _
      rw [depN_eq, hnil]; rfl
    rw [e]
    exact deep_step x.k x.t x.i x.r x.sa x.sc x.ss x.a x.c x.ps [] W (fun h => absurd h (Nat.lt_irrefl 0)) (by rw [hnil]; rfl) (fun y hy => by cases hy) (by rw [hnil]; exact Nat.zero_le _) (by show depNs [] ≤ _; rw [depNs]; exact Nat.zero_le _)
  | succ n ih =>
    intro S W x hm hl
    obtain ⟨xs, h1, h2, h3, h4⟩ := hm
    have hlen : xs.length = x.ps.length := by rw [← h1, List.length_map]
    have e : depN x.plain = depNs (xs.map NE.plain) + 1 := by
      show depN (.mk x.k (x.t, x.i) x.r x.ss x.ps) = _
      rw [depN_eq, h1]
    have hps := parts_len_encN x
    rw [e]
    refine deep_step x.k x.t x.i x.r x.sa x.sc x.ss x.a x.c x.ps xs W h2 hlen (fun y hy w hbw => ?_) (by omega) (by rw [h1]; have := depNs_len x.ps; omega)
    refine ih S w y ((h4 y hy).2.2.2.2.stays (Stays.below hbw)) ?_
    have := part_len_encN x.ps y.plain (by rw [← h1]; exact List.mem_map_of_mem hy)
    omega
set_option maxRecDepth 100000 in
set_option maxHeartbeats 4000000 in
theorem small_step (k : Int) (A B : ByteArray) (a : Option Addr) (c : Nat) (ps : List PR) (xs : List RE) (W : World) (l : Int) (hx : IsEls reC 4 W a xs) (hxs : xs.length = ps.length) (hone : ∀ y ∈ xs, ∀ w (l : Int), Below W.heap.size W w → 0 ≤ l → l ≤ 200 → Calls Tryz.prog 16 #[.agg #[.int .i64 y.k, .string y.A, .string y.B, .slice y.a y.ps.length y.c], .int .i64 l] w (SmIs (l - 1) w)) (hn : ps.length ≤ 1000000000) (hA : A.size ≤ 100000000) (hB : B.size ≤ 100000000) (hl0 : 0 ≤ l) (hl1 : l ≤ 200) :
    Calls Tryz.prog 16 #[.agg #[.int .i64 k, .string A, .string B, .slice a ps.length c], .int .i64 l] W (SmIs (l - 1) W) := by
  have HB0 := Lib.hid ((Below.refl W.heap.size W).alloc (Nat.le_refl _) (.cells #[.int .i64 k, .string A, .string B, .slice a ps.length c] 71))
  have HX0 := Lib.hid (heap_alloc_new W (.cells #[.int .i64 k, .string A, .string B, .slice a ps.length c] 71))
  have HEl := Lib.hid hx
  have HOne := Lib.hid hone
  have HNx := Lib.hid hxs
  clear hx hone hxs
  go_enter Tryz.func16, Tryz.ntmps16
  go_upto_region 1 with (fail)
  generalize (W.alloc (.cells #[.int .i64 k, .string A, .string B, .slice a ps.length c] 71)) = W0 at *
  obtain ⟨x, hx⟩ : ∃ x, x = W.heap.size := ⟨_, rfl⟩
  rw [← hx] at HX0
  rw [← hx]
  have HXx := Lib.hid hx
  clear hx
  have q0 := heap_cell HX0.out 0
  have q1 := heap_cell HX0.out 1
  have q2 := heap_cell HX0.out 2
  have q3 := heap_cell HX0.out 3
  simp at q0 q1 q2 q3
  go_wp2_with fail
  go_loopw [1, 22] (fun lv iv wr => ∃ (j : Nat) (s : Int), lv = .int .i64 s ∧ iv = .int .i64 j ∧ j ≤ ps.length ∧ -1000000000 ≤ s ∧ s ≤ 200 ∧ Hid (s ≤ (l - 1) ∧ Below W.heap.size W wr)) (fun _ iv _ => ps.length - (intOf iv).toNat)
  case atStart => exact ⟨0, _, rfl, rfl, Nat.zero_le _, by omega, by omega, by omega, HB0.out⟩
  case round =>
    clear HB0 HX0 q0 q1 q2 q3
    obtain ⟨j, s, rfl, rfl, hj, hs0, hs1, hst⟩ := hrel
    obtain ⟨hsl, hbel⟩ := hst.out
    have hnx := HNx.out
    by_cases hjl : j < xs.length
    · have dj : decide ((j : Int) < (ps.length : Int)) = true := decide_eq_true (by omega)
      have dj2 : decide (j < ps.length) = true := decide_eq_true (by omega)
      have hij : (j : Int) < (ps.length : Int) := by omega
      have hmem := getD_mem hjl
      obtain ⟨b, off, rfl, hb, hc⟩ := (HEl.out.below hbel) (by omega)
      have c0 := hc j hjl 0 (by omega)
      have c1 := hc j hjl 1 (by omega)
      have c2 := hc j hjl 2 (by omega)
      have c3 := hc j hjl 3 (by omega)
      have HBelj := Lib.hid hbel
      have HSl := Lib.hid hsl
      clear hst hc hnx hsl
      generalize xs.getD j default = y at *
      obtain ⟨yk, yA, yB, ya, yc, yps⟩ := y
      simp [reC] at c0 c1 c2 c3
      have hB1 := (Below.refl wr.heap.size wr).alloc (Nat.le_refl _) (.cells #[.int .i64 yk, .string yA, .string yB, .slice ya yps.length yc] 71)
      have HB1 := Lib.hid (hbel.trans (hB1.mono hbel.size))
      clear hbel hB1
      by_cases hneg : s < 0
      · have dn : decide (s < 0) = true := decide_eq_true hneg
        have HE : Hid (SmIs (l - 1) W (.returned (.int .i64 s)) (wr.alloc (.cells #[.int .i64 yk, .string yA, .string yB, .slice ya yps.length yc] 71))) := ⟨s, rfl, hs0, HSl.out, HB1.out⟩
        clear hmem
        go_wp2_with fail
        go_ret
        exact HE.out
      have dn : decide (s < 0) = false := decide_eq_false hneg
      have hs2 : 0 ≤ s := Int.not_lt.1 hneg
      have HC := Lib.hid (HOne.out _ hmem _ s HB1.out (by omega) hs1)
      clear hmem
      go_wp2_with fail
      refine HC.out.mono ?_
      clear HC
      rintro e w1 ⟨s2, rfl, hs3, hs4, hb1⟩
      have HB2 := Lib.hid (HB1.out.trans (hb1.mono HB1.out.size))
      have hsl2 := HSl.out
      have HS2 := Lib.hid (show s2 ≤ (l - 1) from by omega)
      clear hsl2
      have hs5 : s2 ≤ 200 := by omega
      clear hb1 hs4
      go_wp2_with fail
      go_roundw
      case rel => exact ⟨j + 1, s2, rfl, by go_num, by omega, hs3, hs5, HS2.out, HB2.out⟩
      case measure => first | (simp [intOf]; done) | (simp [intOf]; omega)
    · obtain rfl : j = ps.length := by omega
      have dj : decide ((ps.length : Int) < (ps.length : Int)) = false := by simp
      have dj2 : decide (ps.length < ps.length) = false := by simp
      have HE : Hid (SmIs (l - 1) W (.returned (.int .i64 s)) wr) := ⟨s, rfl, hs0, hsl, hbel⟩
      clear hnx hst hjl hsl hbel
      go_wp2_with fail
      go_ret
      exact HE.out
theorem small_any : ∀ (n : Nat) (S : Nat → Prop) (W : World) (x : RE) (l : Int), RMem S n W x.a x.ps → (encR x.plain).length ≤ 100000000 → 0 ≤ l → l ≤ 200 →
    Calls Tryz.prog 16 #[.agg #[.int .i64 x.k, .string x.A, .string x.B, .slice x.a x.ps.length x.c], .int .i64 l] W (SmIs (l - 1) W) := by
  intro n
  induction n with
  | zero =>
    intro S W x l hm hl h0 h1
    have hnil : x.ps = [] := List.eq_nil_of_length_eq_zero hm
    have hown := own_len_encR x
    exact small_step x.k x.A x.B x.a x.c x.ps [] W l (fun h => absurd h (Nat.lt_irrefl 0)) (by rw [hnil]; rfl) (fun y hy => by cases hy) (by rw [hnil]; exact Nat.zero_le _) (by omega) (by omega) h0 h1
  | succ n ih =>
    intro S W x l hm hl h0 hl1
    obtain ⟨xs, h1, h2, h3, h4⟩ := hm
    have hlen : xs.length = x.ps.length := by rw [← h1, List.length_map]
    have hps := parts_len_encR x
    have hown := own_len_encR x
    refine small_step x.k x.A x.B x.a x.c x.ps xs W l h2 hlen (fun y hy w l2 hbw h02 h12 => ?_) (by omega) (by omega) (by omega) h0 hl1
    refine ih S w y l2 ((h4 y hy).2.stays (Stays.below hbw)) ?_ h02 h12
    have := part_len_encR x.ps y.plain (by rw [← h1]; exact List.mem_map_of_mem hy)
    omega
set_option maxRecDepth 100000 in
set_option maxHeartbeats 4000000 in
theorem fewn_step (k : Int) (t i r : ByteArray) (sa : Option Addr) (sc : Nat) (ss : List Tri) (a : Option Addr) (c : Nat) (ps : List PN) (xs : List NE) (W : World) (l : Int) (hx : IsEls neC 6 W a xs) (hxs : xs.length = ps.length) (hone : ∀ y ∈ xs, ∀ w (l : Int), Below W.heap.size W w → 0 ≤ l → l ≤ 200 → Calls Tryz.prog 14 #[.agg #[.int .i64 y.k, .string y.t, .string y.i, .string y.r, .slice y.sa y.ss.length y.sc, .slice y.a y.ps.length y.c], .int .i64 l] w (SmIs (l - 1 - (y.ss.length : Int)) w)) (hn : ps.length ≤ 1000000000) (hs : ss.length ≤ 100000000) (hl0 : 0 ≤ l) (hl1 : l ≤ 200) :
    Calls Tryz.prog 14 #[.agg #[.int .i64 k, .string t, .string i, .string r, .slice sa ss.length sc, .slice a ps.length c], .int .i64 l] W (SmIs (l - 1 - (ss.length : Int)) W) := by
  have HB0 := Lib.hid ((Below.refl W.heap.size W).alloc (Nat.le_refl _) (.cells #[.int .i64 k, .string t, .string i, .string r, .slice sa ss.length sc, .slice a ps.length c] 34))
  have HX0 := Lib.hid (heap_alloc_new W (.cells #[.int .i64 k, .string t, .string i, .string r, .slice sa ss.length sc, .slice a ps.length c] 34))
  have HEl := Lib.hid hx
  have HOne := Lib.hid hone
  have HNx := Lib.hid hxs
  clear hx hone hxs
  go_enter Tryz.func14, Tryz.ntmps14
  go_upto_region 1 with (fail)
  generalize (W.alloc (.cells #[.int .i64 k, .string t, .string i, .string r, .slice sa ss.length sc, .slice a ps.length c] 34)) = W0 at *
  obtain ⟨x, hx⟩ : ∃ x, x = W.heap.size := ⟨_, rfl⟩
  rw [← hx] at HX0
  rw [← hx]
  have HXx := Lib.hid hx
  clear hx
  have q0 := heap_cell HX0.out 0
  have q1 := heap_cell HX0.out 1
  have q2 := heap_cell HX0.out 2
  have q3 := heap_cell HX0.out 3
  have q4 := heap_cell HX0.out 4
  have q5 := heap_cell HX0.out 5
  simp at q0 q1 q2 q3 q4 q5
  go_wp2_with fail
  go_loopw [1, 16] (fun lv iv wr => ∃ (j : Nat) (s : Int), lv = .int .i64 s ∧ iv = .int .i64 j ∧ j ≤ ps.length ∧ -1000000000 ≤ s ∧ s ≤ 200 ∧ Hid (s ≤ (l - 1 - (ss.length : Int)) ∧ Below W.heap.size W wr)) (fun _ iv _ => ps.length - (intOf iv).toNat)
  case atStart => exact ⟨0, _, rfl, rfl, Nat.zero_le _, by omega, by omega, by omega, HB0.out⟩
  case round =>
    clear HB0 HX0 q0 q1 q2 q3 q4 q5
    obtain ⟨j, s, rfl, rfl, hj, hs0, hs1, hst⟩ := hrel
    obtain ⟨hsl, hbel⟩ := hst.out
    have hnx := HNx.out
    by_cases hjl : j < xs.length
    · have dj : decide ((j : Int) < (ps.length : Int)) = true := decide_eq_true (by omega)
      have dj2 : decide (j < ps.length) = true := decide_eq_true (by omega)
      have hij : (j : Int) < (ps.length : Int) := by omega
      have hmem := getD_mem hjl
      obtain ⟨b, off, rfl, hb, hc⟩ := (HEl.out.below hbel) (by omega)
      have c0 := hc j hjl 0 (by omega)
      have c1 := hc j hjl 1 (by omega)
      have c2 := hc j hjl 2 (by omega)
      have c3 := hc j hjl 3 (by omega)
      have c4 := hc j hjl 4 (by omega)
      have c5 := hc j hjl 5 (by omega)
      have HBelj := Lib.hid hbel
      have HSl := Lib.hid hsl
      clear hst hc hnx hsl
      generalize xs.getD j default = y at *
      obtain ⟨yk, yt, yi, yr, ysa, ysc, yss, ya, yc, yps⟩ := y
      simp [neC] at c0 c1 c2 c3 c4 c5
      have hB1 := (Below.refl wr.heap.size wr).alloc (Nat.le_refl _) (.cells #[.int .i64 yk, .string yt, .string yi, .string yr, .slice ysa yss.length ysc, .slice ya yps.length yc] 34)
      have HB1 := Lib.hid (hbel.trans (hB1.mono hbel.size))
      clear hbel hB1
      by_cases hneg : s < 0
      · have dn : decide (s < 0) = true := decide_eq_true hneg
        have HE : Hid (SmIs (l - 1 - (ss.length : Int)) W (.returned (.int .i64 s)) (wr.alloc (.cells #[.int .i64 yk, .string yt, .string yi, .string yr, .slice ysa yss.length ysc, .slice ya yps.length yc] 34))) := ⟨s, rfl, hs0, HSl.out, HB1.out⟩
        clear hmem
        go_wp2_with fail
        go_ret
        exact HE.out
      have dn : decide (s < 0) = false := decide_eq_false hneg
      have hs2 : 0 ≤ s := Int.not_lt.1 hneg
      have HC := Lib.hid (HOne.out _ hmem _ s HB1.out (by omega) hs1)
      clear hmem
      go_wp2_with fail
      refine HC.out.mono ?_
      clear HC
      rintro e w1 ⟨s2, rfl, hs3, hs4, hb1⟩
      have HB2 := Lib.hid (HB1.out.trans (hb1.mono HB1.out.size))
      have hsl2 := HSl.out
      have HS2 := Lib.hid (show s2 ≤ (l - 1 - (ss.length : Int)) from by omega)
      clear hsl2
      have hs5 : s2 ≤ 200 := by omega
      clear hb1 hs4
      go_wp2_with fail
      go_roundw
      case rel => exact ⟨j + 1, s2, rfl, by go_num, by omega, hs3, hs5, HS2.out, HB2.out⟩
      case measure => first | (simp [intOf]; done) | (simp [intOf]; omega)
    · obtain rfl : j = ps.length := by omega
      have dj : decide ((ps.length : Int) < (ps.length : Int)) = false := by simp
      have dj2 : decide (ps.length < ps.length) = false := by simp
      have HE : Hid (SmIs (l - 1 - (ss.length : Int)) W (.returned (.int .i64 s)) wr) := ⟨s, rfl, hs0, hsl, hbel⟩
      clear hnx hst hjl hsl hbel
      go_wp2_with fail
      go_ret
      exact HE.out
theorem fewn_any : ∀ (n : Nat) (S : Nat → Prop) (W : World) (x : NE) (l : Int), NMem S n W x.a x.ps → (encN x.plain).length ≤ 100000000 → 0 ≤ l → l ≤ 200 →
    Calls Tryz.prog 14 #[.agg #[.int .i64 x.k, .string x.t, .string x.i, .string x.r, .slice x.sa x.ss.length x.sc, .slice x.a x.ps.length x.c], .int .i64 l] W (SmIs (l - 1 - (x.ss.length : Int)) W) := by
  intro n
  induction n with
  | zero =>
    intro S W x l hm hl h0 h1
    have hnil : x.ps = [] := List.eq_nil_of_length_eq_zero hm
    have hown := own_len_encN x
    exact fewn_step x.k x.t x.i x.r x.sa x.sc x.ss x.a x.c x.ps [] W l (fun h => absurd h (Nat.lt_irrefl 0)) (by rw [hnil]; rfl) (fun y hy => by cases hy) (by rw [hnil]; exact Nat.zero_le _) (by omega) h0 h1
  | succ n ih =>
    intro S W x l hm hl h0 hl1
    obtain ⟨xs, h1, h2, h3, h4⟩ := hm
    have hlen : xs.length = x.ps.length := by rw [← h1, List.length_map]
    have hps := parts_len_encN x
    have hown := own_len_encN x
    refine fewn_step x.k x.t x.i x.r x.sa x.sc x.ss x.a x.c x.ps xs W l h2 hlen (fun y hy w l2 hbw h02 h12 => ?_) (by omega) (by omega) h0 hl1
    refine ih S w y l2 ((h4 y hy).2.2.2.2.stays (Stays.below hbw)) ?_ h02 h12
    have := part_len_encN x.ps y.plain (by rw [← h1]; exact List.mem_map_of_mem hy)
    omega
end Go.Proofs.YtacjbgmnoiimbabGreat
