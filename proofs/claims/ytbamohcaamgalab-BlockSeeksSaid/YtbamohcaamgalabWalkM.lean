/- A block's keys read: walked. -/
import Derived.Test.YtbamohcaamgalabWalkL
namespace Go.Proofs.Ytbamohcaamgalab
set_option linter.unusedVariables false
set_option linter.unusedSimpArgs false
open Go.RowKit

theorem parse_bound (d : Nat) : ∀ (l : List UInt8) (key : Text) (ks : List Text), l.length ≤ d → parse l key = some ks → ks.length ≤ l.length ∧ ∀ i, (ks.getD i []).length ≤ key.length + l.length := by
  induction d with
  | zero =>
    intro l key ks hl h
    obtain rfl : l = [] := List.length_eq_zero_iff.1 (by omega)
    rw [parse_nil] at h
    cases h
    exact ⟨Nat.le_refl _, fun i => by simp⟩
  | succ d ih =>
    intro l key ks hl h
    by_cases h0 : l = []
    · subst h0
      rw [parse_nil] at h
      cases h
      exact ⟨Nat.le_refl _, fun i => by simp⟩
    · have hpos : 0 < l.length := List.length_pos_iff.2 h0
      cases hn : nextOk l key with
      | false => rw [parse_bad l key hpos hn] at h; cases h
      | true =>
        rw [parse_good l key hpos hn] at h
        cases hp : parse (l.drop (nextUsed l)) (nextKey l key) with
        | none => rw [hp] at h; cases h
        | some r =>
          rw [hp] at h
          cases h
          have h1 := nextUsed_pos l key hn
          have h2 := nextUsed_le l
          have h3 := nextKey_len l key
          obtain ⟨g1, g2⟩ := ih _ _ _ (by rw [List.length_drop]; omega) hp
          rw [List.length_drop] at g1 g2
          refine ⟨by rw [List.length_cons]; omega, fun i => ?_⟩
          cases i with
          | zero => rw [List.getD_cons_zero]; omega
          | succ i => rw [List.getD_cons_succ]; have := g2 i; omega
/-- what reading a block's keys answers -/
def KeysIs (l : List UInt8) (w : World) (e : Ending) (w' : World) : Prop :=
  Below w.heap.size w w' ∧ (∀ ks, Reads l ks → ∃ v K, keysOf K = ks ∧ e = .returned (.tuple #[v, .int .i64 0]) ∧ w'.ownsRow w.heap.size 9 1 v K.length (strsV K)) ∧
    ((∀ ks, ¬ Reads l ks) → e = .returned (.tuple #[.slice none 0 0, .int .i64 9]))
theorem cursor_new (w : World) (a : Option Addr) (n cap : Nat) :
    Cursor (w.alloc (.cells #[.slice a n cap, .int .i64 0, .string { data := #[] }] 50)) w.heap.size a n cap 0 { data := #[] } := heap_alloc_new w _
theorem cursor_row {w : World} {g B n m cap at' : Nat} {a : Option Addr} {key : ByteArray} {v : Value} {xs : List Value} (h : Cursor w g a n cap at' key) (hown : w.ownsRow B 9 1 v m xs) : v.ownBlock = none ∨ v.ownBlock ≠ some g := by
  rcases hown.2 with ⟨rfl, _⟩ | ⟨g', cap', cur, rfl, _, hg, _⟩
  · exact .inl rfl
  · right
    intro e
    simp only [Value.ownBlock, Option.some.injEq] at e
    subst e
    unfold Cursor at h
    rw [hg] at h
    cases h
theorem cursor_kept {w w' : World} {g B n m cap at' : Nat} {a : Option Addr} {key : ByteArray} {v : Value} {xs : List Value} (h : Cursor w g a n cap at' key) (hown : w.ownsRow B 9 1 v m xs) (hg : w.grownBy w' v.ownBlock) : Cursor w' g a n cap at' key := by
  have hne := cursor_row h hown
  have hs := (cursor_cells h).2.2.2.2.2
  unfold Cursor at h ⊢
  rw [hg.block g hs ?_]
  · exact h
  · rcases hne with e | e
    · rw [e]; intro e2; cases e2
    · exact fun e2 => e e2.symm
/-- behind some keys -/
def KeysRel (L : List UInt8) (w : World) (g : Nat) (a : Option Addr) (cap at' : Nat) (key : ByteArray) (acc : List ByteArray) (out : Value) (wr : World) : Prop :=
  Cursor wr g a L.length cap at' key ∧ at' ≤ L.length ∧ key.size ≤ at' ∧ acc.length ≤ at' ∧ wr.ownsRow w.heap.size 9 1 out acc.length (strsV acc) ∧ (parse (L.drop at') key.data.toList).map (keysOf acc ++ ·) = parse L [] ∧ Below w.heap.size w wr
def atOf (w : World) (g : Nat) : Nat := match w.cell? ⟨g, 1, none⟩ with
  | some v => (intOf v).toNat
  | none => 0
theorem atOf_cursor {w : World} {g : Nat} {a : Option Addr} {n cap at' : Nat} {key : ByteArray} (h : Cursor w g a n cap at' key) : atOf w g = at' := by
  unfold atOf
  rw [(cursor_cells h).2.1]
  simp [intOf]
set_option maxRecDepth 100000 in
set_option maxHeartbeats 1000000 in
theorem keys_any (a : Option Addr) (cap : Nat) (l : List UInt8) (w : World) (hl : l.length ≤ 1000000) (hc : l.length ≤ cap) (hp : ∀ ks, parse (keysPart l) [] = some ks → ks.length ≤ 3000 ∧ ∀ i, (ks.getD i []).length ≤ 3000) (h : IsBytes w a l) :
    Calls Try.prog 16 #[.slice a l.length cap] w (KeysIs l w) := by
  obtain ⟨i9, hi, hz0, hz1, hz2⟩ := info_parts Try.info9
  have HOpen := Lib.hid (open_any a cap l w (by omega) hc h)
  have H := Lib.hid h
  have HP := Lib.hid hp
  have hL0 := cutA_bytes (lo := 0) (hi := keysEnd l) h (by unfold keysEnd; omega) hc
  rw [List.drop_zero] at hL0
  have HL0 : Hid (IsBytes w (cutA a cap 0) (keysPart l)) := hL0
  clear hL0
  clear h hp
  go_enter Try.func16, Try.ntmps16
  go_wp2_with fail
  refine HOpen.out.mono ?_
  clear HOpen
  rintro e w1 ⟨hB1, ⟨hend, rfl⟩ | ⟨hend, rfl⟩⟩
  · have hE : (keysPart l).length = keysEnd l := length_keysPart l hend
    have hEl : keysEnd l ≤ l.length := by unfold keysEnd; omega
    have HL : Hid (IsBytes w (cutA a cap 0) (keysPart l)) := HL0.out
    have HEnd := Lib.hid hend
    have HR : Hid (∀ ks, Reads l ks → parse (keysPart l) [] = some ks) := fun ks h => h.2.1
    have HR2 : Hid (∀ ks, parse (keysPart l) [] = some ks → Rises ks → blockOf ks = l → Reads l ks) := fun ks h1 h2 h3 => ⟨hend, h1, h2, h3⟩
    clear hend HL0
    rw [← hE] at *
    generalize keysPart l = L at *
    generalize cutA a cap 0 = A0 at *
    have hcur := cursor_new w1 A0 L.length cap
    have hBc := hB1.alloc hB1.size (.cells #[.slice A0 L.length cap, .int .i64 0, .string { data := #[] }] 50)
    have hg : w.heap.size ≤ w1.heap.size := hB1.size
    go_wp2_with fail
    go_loopw [7] (fun out wr => ∃ (at' : Nat) (key : ByteArray) (acc : List ByteArray), Hid (KeysRel L w w1.heap.size A0 cap at' key acc out wr)) (fun _ wr => L.length - atOf wr w1.heap.size)
    case atStart =>
      refine ⟨0, { data := #[] }, [], hcur, Nat.zero_le _, Nat.le_refl _, Nat.le_refl _, World.ownsRow_nil _ _ _ _, ?_, hBc⟩
      rw [List.drop_zero]
      cases parse L [] <;> rfl
    case round =>
      clear hcur hBc
      obtain ⟨at', key, acc, hrel⟩ := hrel
      obtain ⟨hcur, hat, hkey, hacc, hout, hpar, hB⟩ := hrel.out
      obtain ⟨c0, c1, c2, _, _, hgl⟩ := cursor_cells hcur
      clear hrel
      generalize w1.heap.size = g at *
      have HPar := Lib.hid hpar
      clear hpar
      by_cases hlt : at' < L.length
      · have hdl : decide ((at' : Int) < (L.length : Int)) = true := decide_eq_true (by omega)
        have HNext := Lib.hid (next_any g A0 cap at' L key wr (by omega) (by omega) hat (by omega) (HL.out.below hB) hcur)
        have hatm := atOf_cursor hcur
        have hpos : 0 < (L.drop at').length := by rw [List.length_drop]; omega
        go_wp2_with fail
        refine HNext.out.mono ?_
        rintro e w3 ⟨hg3, ⟨hno, rfl⟩ | ⟨hyes, rfl, key', hk', hcur3⟩⟩
        · have HNone : Hid (parse L [] = none) := by
            show _ = _
            rw [← HPar.out, parse_bad _ _ hpos hno]; rfl
          have hB3 := hB.grown hg3 hB.size (fun k e => by cases e; exact hg)
          clear HNext hcur hout
          go_wp2_with fail
          go_ret2
          refine ⟨hB3, fun ks hk => ?_, fun _ => rfl⟩
          have := HR.out ks hk
          rw [HNone.out] at this
          cases this
        · have hle := nextUsed_le (L.drop at')
          have hup := nextUsed_pos _ _ hyes
          have hkl := nextKey_len (L.drop at') key.data.toList
          rw [List.length_drop] at hle
          rw [← hk', size_data, size_data] at hkl
          have HPar2 : Hid ((parse (L.drop (at' + nextUsed (L.drop at'))) key'.data.toList).map (keysOf (acc ++ [key']) ++ ·) = parse L []) := by
            show _ = _
            rw [← HPar.out, parse_good _ _ hpos hyes, ← List.drop_drop, ← hk']
            cases parse ((L.drop at').drop (nextUsed (L.drop at'))) key'.data.toList with
            | none => rfl
            | some r => simp [keysOf]
          have hB3 := hB.grown hg3 hB.size (fun k e => by cases e; exact hg)
          have hout3 := hout.kept hg3 (cursor_row hcur hout)
          obtain ⟨_, c31, c32, _, _, hgl3⟩ := cursor_cells hcur3
          have HC3 := Lib.hid hcur3
          generalize nextUsed (L.drop at') = NU at *
          clear HNext hcur hout hyes hk' hpos
          go_wp2_with (at_builtin; refine wpList_append_one w3 rfl _ _ 22 rfl w.heap.size 9 i9 _ 16 Try.underlying22 hi hz0 hz1 hz2 rfl _ acc.length _ (by rfl) hout3 _ 1 rfl rfl (by omega) (by omega) hB3.size ?_; intro v4 w4 hout4 hg4 _)
          have hB4 := Below.own hB3 hout3 (Nat.le_refl _) hB3.size hg4
          have hcur4 := cursor_kept HC3.out hout3 hg4
          have hatm4 := atOf_cursor hcur4
          go_roundw
          case rel =>
            refine ⟨at' + NU, key', acc ++ [key'], hcur4, by omega, by omega, by rw [List.length_append]; simp; omega, ?_, HPar2.out, hB4⟩
            rw [strsV_append, List.length_append]
            exact hout4
          case measure => rw [hatm4, hatm]; omega
      · obtain rfl : at' = L.length := by omega
        have hdl : decide ((L.length : Int) < (L.length : Int)) = false := by simp
        have hpe : parse L [] = some (keysOf acc) := by
          rw [← HPar.out, List.drop_length, parse_nil]; simp
        obtain ⟨hb1, hb2⟩ := HP.out _ hpe
        have hb3 : ∀ i, (acc.getD i ByteArray.empty).size ≤ 3000 := fun i => by
          have := hb2 i
          rwa [keysOf_at, size_data] at this
        rw [length_keysOf] at hb1
        obtain ⟨ao, mo, co, rfl⟩ := row_slice hout
        have hmo := row_len' hout
        subst hmo
        have hstrs := row_strs hout
        have HBuild := Lib.hid (build_any ao co acc wr hb1 hb3 hstrs)
        have HPE := Lib.hid hpe
        have HL3 := Lib.hid (H.out.below hB)
        clear hpe hb1 hb2 hb3 hstrs hcur
        go_wp2_with fail
        refine HBuild.out.mono ?_
        clear HBuild
        rintro e w3 ⟨hyes, hno, hB3⟩
        have hB4 := hB.trans (hB3.mono hB.size)
        have hout3 := Below.row hB3 hout
        have HL4 := Lib.hid (HL3.out.below hB3)
        have HNoK : Hid (∀ ks, Reads l ks → ks = keysOf acc) := by
          intro ks hk
          have := HR.out ks hk
          rw [HPE.out] at this
          exact (Option.some.inj this).symm
        by_cases hris : Rises (keysOf acc)
        · obtain ⟨v3, rfl, hown3⟩ := hyes hris
          obtain ⟨a3, m3, c3, rfl⟩ := row_slice hown3
          have hm3 := row_len' hown3
          subst hm3
          have HB3 := Lib.hid (row_bytes' hown3)
          clear hyes hno hown3 hout hB3
          have HEq := Lib.hid (equal_any a3 a (blockOf (keysOf acc)).length l.length c3 cap (blockOf (keysOf acc)) l w3 rfl rfl HB3.out HL4.out)
          by_cases heq : blockOf (keysOf acc) = l
          · have hde : decide (blockOf (keysOf acc) = l) = true := decide_eq_true heq
            have HRd : Hid (Reads l (keysOf acc)) := HR2.out _ HPE.out hris heq
            clear heq hris
            generalize (blockOf (keysOf acc)).length = BL at *
            generalize decide (blockOf (keysOf acc) = l) = BD at *
            subst hde
            go_wp2_with fail
            refine HEq.out.mono ?_
            rintro e w5 ⟨rfl, rfl⟩
            go_wp2_with fail
            go_ret2
            exact ⟨hB4, fun ks hk => ⟨_, acc, (HNoK.out ks hk).symm, rfl, hout3⟩, fun hn => absurd HRd.out (hn _)⟩
          · have hde : decide (blockOf (keysOf acc) = l) = false := decide_eq_false heq
            have HRd : Hid (∀ ks, ¬ Reads l ks) := by
              intro ks hk
              have e := HNoK.out ks hk
              subst e
              exact heq hk.2.2.2
            clear heq hris
            generalize (blockOf (keysOf acc)).length = BL at *
            generalize decide (blockOf (keysOf acc) = l) = BD at *
            subst hde
            go_wp2_with fail
            refine HEq.out.mono ?_
            rintro e w5 ⟨rfl, rfl⟩
            go_wp2_with fail
            go_ret2
            exact ⟨hB4, fun ks hk => absurd hk (HRd.out ks), fun hn => rfl⟩
        · have := hno hris
          subst this
          have HRd : Hid (∀ ks, ¬ Reads l ks) := by
            intro ks hk
            have e := HNoK.out ks hk
            subst e
            exact hris hk.2.2.1
          clear hyes hno hris hout
          go_wp2_with fail
          go_ret2
          exact ⟨hB4, fun ks hk => absurd hk (HRd.out ks), fun hn => rfl⟩
  · have HNR : Hid (∀ ks, ¬ Reads l ks) := fun ks h => hend h.1
    clear hend
    go_wp2_with fail
    go_ret2
    exact ⟨hB1.alloc hB1.size _, fun ks h => absurd h (HNR.out ks), fun _ => rfl⟩
end Go.Proofs.Ytbamohcaamgalab
