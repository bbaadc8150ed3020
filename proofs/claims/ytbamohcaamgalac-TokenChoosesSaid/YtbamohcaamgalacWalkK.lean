/- Which revision is chosen, both ways; the fixed calls. -/
import Derived.Test.YtbamohcaamgalacWalkJ
namespace Go.Proofs.Ytbamohcaamgalac
set_option linter.unusedVariables false
set_option linter.unusedSimpArgs false
open Go.RowKit

def choice (id E I R : Nat) (how : Int) (floor head : Nat) : Nat × Nat :=
  if how = 1 then (head, 0) else if how ≠ 2 ∧ how ≠ 3 then (0, 1) else if E ≠ 0 then (0, E) else if I ≠ id then (0, 1)
  else if how = 2 then (if R ≤ head then (head, 0) else (0, 12)) else if floor ≤ R ∧ R ≤ head then (R, 0) else (0, 12)
def ChIs (id : Nat) (l : List UInt8) (how : Int) (floor head : Nat) (w : World) (e : Ending) (w' : World) : Prop :=
  e = .returned (.tuple #[.int .u64 ((choice id (readE l) (rid l) (rrev l) how floor head).1 : Nat), .int .i64 ((choice id (readE l) (rid l) (rrev l) how floor head).2 : Nat)]) ∧ Below w.heap.size w w'
theorem chIs_of {id : Nat} {l : List UInt8} {how : Int} {floor head a b : Nat} {w w' : World} (h : choice id (readE l) (rid l) (rrev l) how floor head = (a, b)) (hb : Below w.heap.size w w') :
    ChIs id l how floor head w (.returned (.tuple #[.int .u64 (a : Int), .int .i64 (b : Int)])) w' := by
  unfold ChIs; rw [h]; exact ⟨rfl, hb⟩
set_option maxRecDepth 100000 in
set_option maxHeartbeats 2000000 in
theorem choose_latest (id : Nat) (s : ByteArray) (floor head : Nat) (w : World) (hs : s.size ≤ 9223372036854775807) :
    Calls Try.prog 12 #[.int .u32 id, .string s, .int .i64 1, .int .u64 floor, .int .u64 head] w (ChIs id s.data.toList 1 floor head w) := by
  go_enter Try.func12, Try.ntmps12
  go_wp2_with fail
  go_ret2
  exact chIs_of (by simp [choice]) (Below.refl _ _)
set_option maxRecDepth 100000 in
set_option maxHeartbeats 2000000 in
theorem choose_other (id : Nat) (s : ByteArray) (how : Int) (floor head : Nat) (w : World) (hs : s.size ≤ 9223372036854775807) (h1 : how ≠ 1) (h2 : how ≠ 2) (h3 : how ≠ 3) :
    Calls Try.prog 12 #[.int .u32 id, .string s, .int .i64 how, .int .u64 floor, .int .u64 head] w (ChIs id s.data.toList how floor head w) := by
  have HC : Hid (choice id (readE s.data.toList) (rid s.data.toList) (rrev s.data.toList) how floor head = (0, 1)) := by
    show choice _ _ _ _ _ _ _ = _
    rw [choice, if_neg h1, if_pos ⟨h2, h3⟩]
  have b1 : (how == 1) = false := by simpa using h1
  have b2 : (how == 2) = false := by simpa using h2
  have b3 : (how == 3) = false := by simpa using h3
  have c1 : (how != 1) = true := by simpa using h1
  have c2 : (how != 2) = true := by simpa using h2
  have c3 : (how != 3) = true := by simpa using h3
  clear h1 h2 h3
  go_enter Try.func12, Try.ntmps12
  go_wp2_with fail
  go_ret2
  exact chIs_of HC.out (Below.refl _ _)
set_option maxRecDepth 100000 in
set_option maxHeartbeats 2000000 in
theorem choose_read2 (id : Nat) (s : ByteArray) (floor head : Nat) (w : World) (hs : s.size ≤ 9223372036854775807) :
    Calls Try.prog 12 #[.int .u32 id, .string s, .int .i64 2, .int .u64 floor, .int .u64 head] w (ChIs id s.data.toList 2 floor head w) := by
  obtain ⟨l, hl⟩ : ∃ l, l = s.data.toList := ⟨_, rfl⟩
  have HK := Lib.hid (fun W => read_any s W hs)
  rw [← hl] at HK ⊢
  clear hl hs
  go_enter Try.func12, Try.ntmps12
  go_wp2_with fail
  refine (HK.out _).mono ?_
  rintro e w1 ⟨rfl, hb1⟩
  by_cases hE : readE l = 0
  · by_cases hI : rid l = id
    · by_cases hR : rrev l ≤ head
      · have HC : Hid (ChIs id l 2 floor head w (.returned (.tuple #[.int .u64 ((head : Nat) : Int), .int .i64 ((0 : Nat) : Int)])) w1) := chIs_of (by simp [choice, hE, hI, hR]) hb1
        rw [hE, hI]
        generalize rrev l = R at *
        clear hE hI
        go_wp2_with fail
        go_ret2
        exact HC.out
      · have HC : Hid (ChIs id l 2 floor head w (.returned (.tuple #[.int .u64 ((0 : Nat) : Int), .int .i64 ((12 : Nat) : Int)])) w1) := chIs_of (by simp [choice, hE, hI, hR]) hb1
        rw [hE, hI]
        generalize rrev l = R at *
        clear hE hI
        go_wp2_with fail
        go_ret2
        exact HC.out
    · have HC : Hid (ChIs id l 2 floor head w (.returned (.tuple #[.int .u64 ((0 : Nat) : Int), .int .i64 ((1 : Nat) : Int)])) w1) := chIs_of (by simp [choice, hE, hI]) hb1
      rw [hE]
      generalize rid l = I at *
      have b1 : ((I : Int) == (id : Int)) = false := by simp; omega
      have b2 : ((I : Int) != (id : Int)) = true := by simp; omega
      clear hE hI
      go_wp2_with fail
      go_ret2
      exact HC.out
  · have HC : Hid (ChIs id l 2 floor head w (.returned (.tuple #[.int .u64 ((0 : Nat) : Int), .int .i64 ((readE l : Nat) : Int)])) w1) := chIs_of (by simp [choice, hE]) hb1
    generalize readE l = E at *
    have b1 : ((E : Int) == 0) = false := by simp; omega
    have b2 : ((E : Int) != 0) = true := by simp; omega
    clear hE
    go_wp2_with fail
    go_ret2
    exact HC.out
set_option maxRecDepth 100000 in
set_option maxHeartbeats 2000000 in
theorem choose_read3 (id : Nat) (s : ByteArray) (floor head : Nat) (w : World) (hs : s.size ≤ 9223372036854775807) :
    Calls Try.prog 12 #[.int .u32 id, .string s, .int .i64 3, .int .u64 floor, .int .u64 head] w (ChIs id s.data.toList 3 floor head w) := by
  obtain ⟨l, hl⟩ : ∃ l, l = s.data.toList := ⟨_, rfl⟩
  have HK := Lib.hid (fun W => read_any s W hs)
  rw [← hl] at HK ⊢
  clear hl hs
  go_enter Try.func12, Try.ntmps12
  go_wp2_with fail
  refine (HK.out _).mono ?_
  rintro e w1 ⟨rfl, hb1⟩
  by_cases hE : readE l = 0
  · by_cases hI : rid l = id
    · by_cases hR : rrev l ≤ head
      · by_cases hF : floor ≤ rrev l
        · have HC : Hid (ChIs id l 3 floor head w (.returned (.tuple #[.int .u64 ((rrev l : Nat) : Int), .int .i64 ((0 : Nat) : Int)])) w1) := chIs_of (by simp [choice, hE, hI, hR, hF]) hb1
          rw [hE, hI]
          generalize rrev l = R at *
          have d1 : decide ((R : Int) < (floor : Int)) = false := by simp; omega
          have d2 : decide ((floor : Int) ≤ (R : Int)) = true := by simp; omega
          have d3 : decide ((R : Int) ≤ (head : Int)) = true := by simp; omega
          clear hE hI
          go_wp2_with fail
          go_ret2
          exact HC.out
        · have HC : Hid (ChIs id l 3 floor head w (.returned (.tuple #[.int .u64 ((0 : Nat) : Int), .int .i64 ((12 : Nat) : Int)])) w1) := chIs_of (by simp [choice, hE, hI, hR, hF]) hb1
          rw [hE, hI]
          generalize rrev l = R at *
          have d1 : decide ((R : Int) < (floor : Int)) = true := by simp; omega
          have d2 : decide ((floor : Int) ≤ (R : Int)) = false := by simp; omega
          clear hE hI
          go_wp2_with fail
          go_ret2
          exact HC.out
      · have HC : Hid (ChIs id l 3 floor head w (.returned (.tuple #[.int .u64 ((0 : Nat) : Int), .int .i64 ((12 : Nat) : Int)])) w1) := chIs_of (by simp [choice, hE, hI, hR]) hb1
        rw [hE, hI]
        generalize rrev l = R at *
        have d3 : decide ((R : Int) ≤ (head : Int)) = false := by simp; omega
        clear hE hI
        by_cases hF : floor ≤ R
        · have d2 : decide ((floor : Int) ≤ (R : Int)) = true := by simp; omega
          go_wp2_with fail
          go_ret2
          exact HC.out
        · have d2 : decide ((floor : Int) ≤ (R : Int)) = false := by simp; omega
          go_wp2_with fail
          go_ret2
          exact HC.out
    · have HC : Hid (ChIs id l 3 floor head w (.returned (.tuple #[.int .u64 ((0 : Nat) : Int), .int .i64 ((1 : Nat) : Int)])) w1) := chIs_of (by simp [choice, hE, hI]) hb1
      rw [hE]
      generalize rid l = I at *
      have b1 : ((I : Int) == (id : Int)) = false := by simp; omega
      have b2 : ((I : Int) != (id : Int)) = true := by simp; omega
      clear hE hI
      go_wp2_with fail
      go_ret2
      exact HC.out
  · have HC : Hid (ChIs id l 3 floor head w (.returned (.tuple #[.int .u64 ((0 : Nat) : Int), .int .i64 ((readE l : Nat) : Int)])) w1) := chIs_of (by simp [choice, hE]) hb1
    generalize readE l = E at *
    have b1 : ((E : Int) == 0) = false := by simp; omega
    have b2 : ((E : Int) != 0) = true := by simp; omega
    clear hE
    go_wp2_with fail
    go_ret2
    exact HC.out
theorem choose_any (id : Nat) (s : ByteArray) (how : Int) (floor head : Nat) (w : World) (hs : s.size ≤ 9223372036854775807) :
    Calls Try.prog 12 #[.int .u32 id, .string s, .int .i64 how, .int .u64 floor, .int .u64 head] w (ChIs id s.data.toList how floor head w) := by
  by_cases h1 : how = 1
  · subst h1; exact choose_latest id s floor head w hs
  · by_cases h2 : how = 2
    · subst h2; exact choose_read2 id s floor head w hs
    · by_cases h3 : how = 3
      · subst h3; exact choose_read3 id s floor head w hs
      · exact choose_other id s how floor head w hs h1 h2 h3
set_option maxRecDepth 100000 in
set_option maxHeartbeats 2000000 in
theorem refchoose_latest (id : Nat) (s : ByteArray) (floor head : Nat) (w : World) (hs : s.size ≤ 9223372036854775807) :
    Calls Try.prog 13 #[.int .u32 id, .string s, .int .i64 1, .int .u64 floor, .int .u64 head] w (ChIs id s.data.toList 1 floor head w) := by
  go_enter Try.func13, Try.ntmps13
  go_wp2_with fail
  go_ret2
  exact chIs_of (by simp [choice]) (Below.refl _ _)
set_option maxRecDepth 100000 in
set_option maxHeartbeats 2000000 in
theorem refchoose_other (id : Nat) (s : ByteArray) (how : Int) (floor head : Nat) (w : World) (hs : s.size ≤ 9223372036854775807) (h1 : how ≠ 1) (h2 : how ≠ 2) (h3 : how ≠ 3) :
    Calls Try.prog 13 #[.int .u32 id, .string s, .int .i64 how, .int .u64 floor, .int .u64 head] w (ChIs id s.data.toList how floor head w) := by
  have HC : Hid (choice id (readE s.data.toList) (rid s.data.toList) (rrev s.data.toList) how floor head = (0, 1)) := by
    show choice _ _ _ _ _ _ _ = _
    rw [choice, if_neg h1, if_pos ⟨h2, h3⟩]
  have b1 : (how == 1) = false := by simpa using h1
  have b2 : (how == 2) = false := by simpa using h2
  have b3 : (how == 3) = false := by simpa using h3
  have c1 : (how != 1) = true := by simpa using h1
  have c2 : (how != 2) = true := by simpa using h2
  have c3 : (how != 3) = true := by simpa using h3
  clear h1 h2 h3
  go_enter Try.func13, Try.ntmps13
  go_wp2_with fail
  go_ret2
  exact chIs_of HC.out (Below.refl _ _)
set_option maxRecDepth 100000 in
set_option maxHeartbeats 2000000 in
theorem refchoose_read2 (id : Nat) (s : ByteArray) (floor head : Nat) (w : World) (hs : s.size ≤ 9223372036854775807) :
    Calls Try.prog 13 #[.int .u32 id, .string s, .int .i64 2, .int .u64 floor, .int .u64 head] w (ChIs id s.data.toList 2 floor head w) := by
  obtain ⟨l, hl⟩ : ∃ l, l = s.data.toList := ⟨_, rfl⟩
  have HK := Lib.hid (fun W => refread_any s W hs)
  rw [← hl] at HK ⊢
  clear hl hs
  go_enter Try.func13, Try.ntmps13
  go_wp2_with fail
  refine (HK.out _).mono ?_
  rintro e w1 ⟨rfl, hb1⟩
  by_cases hE : readE l = 0
  · by_cases hI : rid l = id
    · by_cases hR : rrev l ≤ head
      · have HC : Hid (ChIs id l 2 floor head w (.returned (.tuple #[.int .u64 ((head : Nat) : Int), .int .i64 ((0 : Nat) : Int)])) w1) := chIs_of (by simp [choice, hE, hI, hR]) hb1
        rw [hE, hI]
        generalize rrev l = R at *
        clear hE hI
        go_wp2_with fail
        go_ret2
        exact HC.out
      · have HC : Hid (ChIs id l 2 floor head w (.returned (.tuple #[.int .u64 ((0 : Nat) : Int), .int .i64 ((12 : Nat) : Int)])) w1) := chIs_of (by simp [choice, hE, hI, hR]) hb1
        rw [hE, hI]
        generalize rrev l = R at *
        clear hE hI
        go_wp2_with fail
        go_ret2
        exact HC.out
    · have HC : Hid (ChIs id l 2 floor head w (.returned (.tuple #[.int .u64 ((0 : Nat) : Int), .int .i64 ((1 : Nat) : Int)])) w1) := chIs_of (by simp [choice, hE, hI]) hb1
      rw [hE]
      generalize rid l = I at *
      have b1 : ((I : Int) == (id : Int)) = false := by simp; omega
      have b2 : ((I : Int) != (id : Int)) = true := by simp; omega
      clear hE hI
      go_wp2_with fail
      go_ret2
      exact HC.out
  · have HC : Hid (ChIs id l 2 floor head w (.returned (.tuple #[.int .u64 ((0 : Nat) : Int), .int .i64 ((readE l : Nat) : Int)])) w1) := chIs_of (by simp [choice, hE]) hb1
    generalize readE l = E at *
    have b1 : ((E : Int) == 0) = false := by simp; omega
    have b2 : ((E : Int) != 0) = true := by simp; omega
    clear hE
    go_wp2_with fail
    go_ret2
    exact HC.out
set_option maxRecDepth 100000 in
set_option maxHeartbeats 2000000 in
theorem refchoose_read3 (id : Nat) (s : ByteArray) (floor head : Nat) (w : World) (hs : s.size ≤ 9223372036854775807) :
    Calls Try.prog 13 #[.int .u32 id, .string s, .int .i64 3, .int .u64 floor, .int .u64 head] w (ChIs id s.data.toList 3 floor head w) := by
  obtain ⟨l, hl⟩ : ∃ l, l = s.data.toList := ⟨_, rfl⟩
  have HK := Lib.hid (fun W => refread_any s W hs)
  rw [← hl] at HK ⊢
  clear hl hs
  go_enter Try.func13, Try.ntmps13
  go_wp2_with fail
  refine (HK.out _).mono ?_
  rintro e w1 ⟨rfl, hb1⟩
  by_cases hE : readE l = 0
  · by_cases hI : rid l = id
    · by_cases hR : rrev l ≤ head
      · by_cases hF : floor ≤ rrev l
        · have HC : Hid (ChIs id l 3 floor head w (.returned (.tuple #[.int .u64 ((rrev l : Nat) : Int), .int .i64 ((0 : Nat) : Int)])) w1) := chIs_of (by simp [choice, hE, hI, hR, hF]) hb1
          rw [hE, hI]
          generalize rrev l = R at *
          have d1 : decide ((R : Int) < (floor : Int)) = false := by simp; omega
          have d2 : decide ((floor : Int) ≤ (R : Int)) = true := by simp; omega
          have d3 : decide ((R : Int) ≤ (head : Int)) = true := by simp; omega
          clear hE hI
          go_wp2_with fail
          go_ret2
          exact HC.out
        · have HC : Hid (ChIs id l 3 floor head w (.returned (.tuple #[.int .u64 ((0 : Nat) : Int), .int .i64 ((12 : Nat) : Int)])) w1) := chIs_of (by simp [choice, hE, hI, hR, hF]) hb1
          rw [hE, hI]
          generalize rrev l = R at *
          have d1 : decide ((R : Int) < (floor : Int)) = true := by simp; omega
          have d2 : decide ((floor : Int) ≤ (R : Int)) = false := by simp; omega
          clear hE hI
          go_wp2_with fail
          go_ret2
          exact HC.out
      · have HC : Hid (ChIs id l 3 floor head w (.returned (.tuple #[.int .u64 ((0 : Nat) : Int), .int .i64 ((12 : Nat) : Int)])) w1) := chIs_of (by simp [choice, hE, hI, hR]) hb1
        rw [hE, hI]
        generalize rrev l = R at *
        have d3 : decide ((R : Int) ≤ (head : Int)) = false := by simp; omega
        clear hE hI
        by_cases hF : floor ≤ R
        · have d2 : decide ((floor : Int) ≤ (R : Int)) = true := by simp; omega
          go_wp2_with fail
          go_ret2
          exact HC.out
        · have d2 : decide ((floor : Int) ≤ (R : Int)) = false := by simp; omega
          go_wp2_with fail
          go_ret2
          exact HC.out
    · have HC : Hid (ChIs id l 3 floor head w (.returned (.tuple #[.int .u64 ((0 : Nat) : Int), .int .i64 ((1 : Nat) : Int)])) w1) := chIs_of (by simp [choice, hE, hI]) hb1
      rw [hE]
      generalize rid l = I at *
      have b1 : ((I : Int) == (id : Int)) = false := by simp; omega
      have b2 : ((I : Int) != (id : Int)) = true := by simp; omega
      clear hE hI
      go_wp2_with fail
      go_ret2
      exact HC.out
  · have HC : Hid (ChIs id l 3 floor head w (.returned (.tuple #[.int .u64 ((0 : Nat) : Int), .int .i64 ((readE l : Nat) : Int)])) w1) := chIs_of (by simp [choice, hE]) hb1
    generalize readE l = E at *
    have b1 : ((E : Int) == 0) = false := by simp; omega
    have b2 : ((E : Int) != 0) = true := by simp; omega
    clear hE
    go_wp2_with fail
    go_ret2
    exact HC.out
theorem refchoose_any (id : Nat) (s : ByteArray) (how : Int) (floor head : Nat) (w : World) (hs : s.size ≤ 9223372036854775807) :
    Calls Try.prog 13 #[.int .u32 id, .string s, .int .i64 how, .int .u64 floor, .int .u64 head] w (ChIs id s.data.toList how floor head w) := by
  by_cases h1 : how = 1
  · subst h1; exact refchoose_latest id s floor head w hs
  · by_cases h2 : how = 2
    · subst h2; exact refchoose_read2 id s floor head w hs
    · by_cases h3 : how = 3
      · subst h3; exact refchoose_read3 id s floor head w hs
      · exact refchoose_other id s how floor head w hs h1 h2 h3
end Go.Proofs.Ytbamohcaamgalac
