/- A block sought in: walked. -/
import Derived.Test.YtbamohcaamgalabWalkN
namespace Go.Proofs.Ytbamohcaamgalab
set_option linter.unusedVariables false
set_option linter.unusedSimpArgs false
open Go.RowKit

def Blk (l : List UInt8) (ks : List Text) : Prop := Rises ks ∧ l = blockOf ks ∧ ks.length ≤ 3000 ∧ ∀ i, (ks.getD i []).length ≤ 3000
theorem pos_lt (ks : List Text) (i n : Nat) (h : i < n) : pos ks i < pos ks n := by
  have h1 := pos_mono ks (i + 1) n h
  have h2 := ent_pos ks i
  rw [pos_succ] at h1
  omega
theorem blk_pos {l : List UInt8} {ks : List Text} (h : Blk l ks) : pos ks ks.length ≤ 10000000 := by
  have := pos_le ks 3000 (by omega) h.2.2.2 ks.length
  have := h.2.2.1
  have : ks.length * (3000 + 20) ≤ 3000 * (3000 + 20) := Nat.mul_le_mul_right _ h.2.2.1
  omega
theorem blk_ok {l : List UInt8} {ks : List Text} (h : Blk l ks) : endsOk l ∧ (keysPart l).length = pos ks ks.length ∧ keysPart l = body ks ks.length ∧ placesPart l = ends ks (wholes ks.length) := by
  obtain ⟨_, rfl, hn, _⟩ := h
  obtain ⟨h1, h2, h3⟩ := block_ok ks (by omega)
  exact ⟨h1, by rw [h3]; rfl, h3, block_places ks (by omega)⟩
theorem blk_place {l : List UInt8} {ks : List Text} (h : Blk l ks) (m : Nat) (hm : m < (placesPart l).length / 4) : num ((placesPart l).drop (4 * m)) = pos ks (16 * m) ∧ 16 * m < ks.length := by
  obtain ⟨_, _, _, hp⟩ := blk_ok h
  rw [hp, length_ends] at hm
  have hmw : m < wholes ks.length := by omega
  rw [hp]
  exact ⟨place_at ks m hmw (by have := blk_pos h; omega), by unfold wholes at hmw; omega⟩
theorem blk_next {l : List UInt8} {ks : List Text} (h : Blk l ks) (i : Nat) (key : Text) (hi : i < ks.length) (hk : i % 16 = 0 ∨ key = ks.getD (i - 1) []) :
    nextOk ((keysPart l).drop (pos ks i)) key = true ∧ nextKey ((keysPart l).drop (pos ks i)) key = ks.getD i [] ∧ pos ks i + nextUsed ((keysPart l).drop (pos ks i)) = pos ks (i + 1) ∧ pos ks i < (keysPart l).length := by
  obtain ⟨_, hl, hb, _⟩ := blk_ok h
  have hlt := pos_lt ks i ks.length hi
  rw [hl, hb]
  have hb2 := body_next ks i ks.length hi
  obtain ⟨h1, h2, h3⟩ := next_ent ks i key ((body ks ks.length).drop (pos ks (i + 1))) (by have := h.2.2.2 i; omega) hk
  rw [← hb2] at h1 h2 h3
  exact ⟨h1, h2, by rw [h3, pos_succ], hlt⟩
/-- what seeking in a block answers -/
def SeekB (l : List UInt8) (key : ByteArray) (w : World) (e : Ending) (w' : World) : Prop :=
  Below w.heap.size w w' ∧ ∃ (x : ByteArray) (ok : Bool) (g : Nat), e = .returned (.tuple #[.string x, .bool ok, .int .i64 (g : Int)]) ∧ (g = 0 ∨ g = 9) ∧ (g = 0 → endsOk l) ∧
    (∀ ks, Blk l ks → g = 0 ∧ ∃ i, First ks (· < key.data.toList) i ∧ ok = decide (i < ks.length) ∧ x.data.toList = if i < ks.length then ks.getD i [] else [])
theorem seekB_bad {l : List UInt8} {key : ByteArray} {w w' : World} (hB : Below w.heap.size w w') (h : ∀ ks, ¬ Blk l ks) : SeekB l key w (.returned (.tuple #[.string { data := #[] }, .bool false, .int .i64 9])) w' :=
  ⟨hB, { data := #[] }, false, 9, rfl, .inr rfl, (fun h => by cases h), fun ks hk => absurd hk (h ks)⟩
theorem mid_walk (lo hi : Nat) (h : lo + hi < 4294967296) : ((lo + hi : Nat) : Int) / 2 = (((lo + hi) / 2 : Nat) : Int) := by omega
set_option maxRecDepth 100000 in
set_option maxHeartbeats 1000000 in
theorem seek_any (a : Option Addr) (cap : Nat) (l : List UInt8) (key : ByteArray) (w : World) (hl : l.length ≤ 1000000000) (hc : l.length ≤ cap) (h : IsBytes w a l) :
    Calls Try.prog 11 #[.slice a l.length cap, .string key] w (SeekB l key w) := by
  obtain ⟨i5, hi5, hy0, hy1, hy2⟩ := info_parts Try.info5
  have HOpen := Lib.hid (open_any a cap l w (by omega) hc h)
  have H := Lib.hid h
  have hL0 := cutA_bytes (lo := 0) (hi := keysEnd l) h (by unfold keysEnd; omega) hc
  rw [List.drop_zero] at hL0
  have HL0 : Hid (IsBytes w (cutA a cap 0) (keysPart l)) := hL0
  have hP0 := cutA_bytes (lo := keysEnd l) (hi := l.length - 4) h (by omega) hc
  have HP0 : Hid (IsBytes w (cutA a cap (keysEnd l)) (placesPart l)) := hP0
  have hPl : (placesPart l).length = l.length - 4 - keysEnd l := by unfold placesPart; rw [List.length_drop, List.length_take]; omega
  clear h hL0 hP0
  go_enter Try.func11, Try.ntmps11
  go_wp2_with fail
  refine HOpen.out.mono ?_
  clear HOpen
  rintro e w1 ⟨hB1, ⟨hend, rfl⟩ | ⟨hend, rfl⟩⟩
  · have hE : (keysPart l).length = keysEnd l := length_keysPart l hend
    have hEl : keysEnd l ≤ l.length := by unfold keysEnd; omega
    have HEnd := Lib.hid hend
    have HPlace : Hid (∀ ks, Blk l ks → ∀ m, m < (placesPart l).length / 4 → num ((placesPart l).drop (4 * m)) = pos ks (16 * m) ∧ 16 * m < ks.length) := fun ks hk m hm => blk_place hk m hm
    have HNx : Hid (∀ ks, Blk l ks → ∀ i key, i < ks.length → (i % 16 = 0 ∨ key = ks.getD (i - 1) []) → nextOk ((keysPart l).drop (pos ks i)) key = true ∧ nextKey ((keysPart l).drop (pos ks i)) key = ks.getD i [] ∧ pos ks i + nextUsed ((keysPart l).drop (pos ks i)) = pos ks (i + 1) ∧ pos ks i < (keysPart l).length) := fun ks hk i key hi h => blk_next hk i key hi h
    have HLe : Hid (∀ ks, Blk l ks → (keysPart l).length = pos ks ks.length) := fun ks hk => (blk_ok hk).2.1
    have hsl : ∀ W m, 4 * m ≤ (placesPart l).length → (Instr.slice 26 (.slice (cutA a cap (keysEnd l)) (placesPart l).length (cap - keysEnd l)) (some (.int .i64 (4 * (m : Int)))) none none).run Try.prog W = .ok (.slice (cutA (cutA a cap (keysEnd l)) (cap - keysEnd l) (4 * m)) ((placesPart l).length - 4 * m) (cap - keysEnd l - 4 * m)) W := fun W m hm => by
      have := run_slice_l1 (P := Try.prog) W 26 5 i5 Try.underlying26 hi5 hy1 (cutA a cap (keysEnd l)) (placesPart l).length (cap - keysEnd l) (4 * m) .i64 hm
      rwa [Int.natCast_mul] at this
    have HSl := Lib.hid hsl
    have hPcap : (placesPart l).length ≤ cap - keysEnd l := by rw [hPl]; omega
    have HPc : Hid (∀ W m, IsBytes W (cutA a cap (keysEnd l)) (placesPart l) → IsBytes W (cutA (cutA a cap (keysEnd l)) (cap - keysEnd l) (4 * m)) ((placesPart l).drop (4 * m))) := fun W m hW => by
      have := cutA_bytes (lo := 4 * m) (hi := (placesPart l).length) hW (Nat.le_refl _) hPcap
      rwa [List.take_length] at this
    have hPmax : (placesPart l).length ≤ 1000000000 := by rw [hPl]; omega
    have hEmax : (keysPart l).length ≤ 1000000000 := by omega
    have hEcap : (keysPart l).length ≤ cap := by omega
    clear hend hsl
    rw [← hPl]
    have HP1 : Hid (IsBytes w (cutA a cap (keysPart l).length) (placesPart l)) := by
      show IsBytes _ _ _
      rw [hE]; exact HP0.out
    clear HP0
    rw [← hE] at *
    clear hE hPl
    generalize cutA a cap (keysPart l).length = AP at *
    generalize cap - (keysPart l).length = capP at *
    generalize placesPart l = PP at *
    generalize keysPart l = L at *
    generalize cutA a cap 0 = A0 at *
    have hcur := cursor_new w1 A0 L.length cap
    have hBc := hB1.alloc hB1.size (.cells #[.slice A0 L.length cap, .int .i64 0, .string { data := #[] }] 50)
    have hg : w.heap.size ≤ w1.heap.size := hB1.size
    go_wp2_with fail
    go_loopw [10, 11] (fun lo hi wr => ∃ (m n : Nat), m ≤ n ∧ n ≤ PP.length / 4 ∧ lo = .int .i64 m ∧ hi = .int .i64 n ∧ Hid (Cursor wr w1.heap.size A0 L.length cap 0 { data := #[] } ∧ Below w.heap.size w wr ∧ (0 < m → ∀ ks, Blk l ks → ks.getD (16 * (m - 1)) [] < key.data.toList))) (fun lo hi _ => (intOf hi).toNat - (intOf lo).toNat)
    case atStart =>
      refine ⟨0, PP.length / 4, Nat.zero_le _, Nat.le_refl _, rfl, by go_num, hcur, hBc, fun h => by cases h⟩
    case round =>
      clear hcur hBc
      obtain ⟨m, n, hmn, hn, rfl, rfl, hrel⟩ := hrel
      obtain ⟨hcur, hB, hlow⟩ := hrel.out
      have HLow := Lib.hid hlow
      clear hrel hlow
      generalize w1.heap.size = g at *
      obtain ⟨c0, c1, c2, _, _, hgl⟩ := cursor_cells hcur
      by_cases hlt : m < n
      · have hdl : decide ((m : Int) < (n : Int)) = true := decide_eq_true (by omega)
        obtain ⟨q, hq⟩ : ∃ q, q = (m + n) / 2 := ⟨_, rfl⟩
        have hmid : ((m : Int) + (n : Int)) / 2 = (q : Int) := by omega
        have hq1 : 4 * q + 4 ≤ PP.length := by omega
        have hs1 := fun W => HSl.out W q (by omega)
        have hqm : m ≤ q := by omega
        have hqn : q < n := by omega
        have HPq := Lib.hid (fun (ks : List Text) (hk : Blk l ks) => HPlace.out ks hk q (by omega))
        have hb4 := HPc.out _ q (HP1.out.below (hB.alloc hB.size (.cells #[.slice A0 L.length cap, .int .i64 0, .string { data := #[] }] 50)))
        have HGet := Lib.hid (get4_any (cutA AP capP (4 * q)) (capP - 4 * q) (PP.length - 4 * q) (PP.drop (4 * q)) _ List.length_drop (by omega) (by omega) hb4)
        have hnum := num_lt (PP.drop (4 * q))
        clear hb4 hq
        generalize num (PP.drop (4 * q)) = V at *
        generalize cutA AP capP (4 * q) = AQ at *
        go_wp2_with fail
        refine HGet.out.mono ?_
        rintro e w3 ⟨rfl, k, rfl⟩
        clear HGet
        by_cases hV : V < L.length
        · have hdv : decide ((L.length : Int) ≤ (V : Int)) = false := decide_eq_false (by omega)
          have hdv2 : decide (L.length ≤ V) = false := decide_eq_false (by omega)
          have hal := heap_alloc_new wr (.cells #[.slice A0 L.length cap, .int .i64 0, .string { data := #[] }] 50)
          have hcn : Cursor (((wr.alloc (.cells #[.slice A0 L.length cap, .int .i64 0, .string { data := #[] }] 50)).drewN k).setCell ⟨wr.heap.size, 1, none⟩ (.int .i64 (V : Int))) wr.heap.size A0 L.length cap V { data := #[] } := by
            have hal2 : ((wr.alloc (.cells #[.slice A0 L.length cap, .int .i64 0, .string { data := #[] }] 50)).drewN k).heap[wr.heap.size]? = some (.cells #[.slice A0 L.length cap, .int .i64 0, .string { data := #[] }] 50) := hal
            exact heap_setCell_same _ wr.heap.size 1 _ 50 (.int .i64 (V : Int)) hal2
          have hBr : Below wr.heap.size wr (((wr.alloc (.cells #[.slice A0 L.length cap, .int .i64 0, .string { data := #[] }] 50)).drewN k).setCell ⟨wr.heap.size, 1, none⟩ (.int .i64 (V : Int))) :=
            (Below.drewN ((Below.refl wr.heap.size wr).alloc (Nat.le_refl _) _) k).setCell (Nat.le_refl _) _
          have hBn := hB.trans (hBr.mono hB.size)
          have hcg : Cursor (((wr.alloc (.cells #[.slice A0 L.length cap, .int .i64 0, .string { data := #[] }] 50)).drewN k).setCell ⟨wr.heap.size, 1, none⟩ (.int .i64 (V : Int))) g A0 L.length cap 0 { data := #[] } :=
            (hBr.block g hgl).trans hcur
          have hgn : w.heap.size ≤ wr.heap.size := hB.size
          have hne : g ≠ wr.heap.size := by omega
          have hgw := hBn.size
          have HNext := Lib.hid (next_any wr.heap.size A0 cap V L { data := #[] } _ (by omega) (by omega) (by omega) (by decide) (HL0.out.below hBn) hcn)
          have HBn := Lib.hid hBn
          have HCg := Lib.hid hcg
          have HCur := Lib.hid hcur
          clear hal hcn hBr hBn hcg hcur c0 c1 c2
          go_wp2_with fail
          refine HNext.out.mono ?_
          clear HNext
          rintro e w4 ⟨hg4, ⟨hno, rfl⟩ | ⟨hyes, rfl, key', hk', hcur4⟩⟩
          · have HNR : Hid (∀ ks, ¬ Blk l ks) := by
              intro ks hk
              obtain ⟨e1, e2⟩ := HPq.out ks hk
              have := (HNx.out ks hk (16 * q) [] e2 (Or.inl (by omega))).1
              rw [← e1] at this
              have e3 : ({ data := #[] } : ByteArray).data.toList = ([] : Text) := rfl
              rw [e3, this] at hno
              cases hno
            have hB4 := HBn.out.grown hg4 HBn.out.size (fun k e => by cases e; exact hgn)
            clear hno
            go_wp2_with fail
            go_ret3
            exact seekB_bad hB4 HNR.out
          · have hB4 := HBn.out.grown hg4 HBn.out.size (fun k e => by cases e; exact hgn)
            have hcg4 : Cursor w4 g A0 L.length cap 0 { data := #[] } := by
              have hlt := (cursor_cells HCg.out).2.2.2.2.2
              exact (hg4.block g hlt (fun e => hne (Option.some.inj e))).trans HCg.out
            have HK' : Hid (∀ ks, Blk l ks → ks.getD (16 * q) [] = key'.data.toList) := by
              intro ks hk
              obtain ⟨e1, e2⟩ := HPq.out ks hk
              have := (HNx.out ks hk (16 * q) [] e2 (Or.inl (by omega))).2.1
              rw [← e1] at this
              rw [hk', ← this]
            obtain ⟨_, _, c42, _, _, _⟩ := cursor_cells hcur4
            have HC4 := Lib.hid hcg4
            have HB4 := Lib.hid hB4
            clear hyes hk' hcg4 hB4 hg4 hcur4
            have hlw := less_walk key' key
            by_cases hless : key'.data.toList < key.data.toList
            · rw [decide_eq_true hless] at hlw
              have HLs := Lib.hid hless
              clear hless
              go_wp2_with fail
              go_roundw
              case rel =>
                refine ⟨q + 1, n, by omega, hn, by go_num, rfl, HC4.out, HB4.out, fun _ ks hk => ?_⟩
                rw [Nat.add_sub_cancel, HK'.out ks hk]
                exact HLs.out
              case measure => first | (simp [intOf]; done) | (simp [intOf]; omega)
            · rw [decide_eq_false hless] at hlw
              clear hless
              go_wp2_with fail
              go_roundw
              case rel => exact ⟨m, q, hqm, by omega, rfl, by go_num, HC4.out, HB4.out, HLow.out⟩
              case measure => first | (simp [intOf]; done) | (simp [intOf]; omega)
        · have hdv : decide ((L.length : Int) ≤ (V : Int)) = true := decide_eq_true (by omega)
          have hdv2 : decide (L.length ≤ V) = true := decide_eq_true (by omega)
          have HNR : Hid (∀ ks, ¬ Blk l ks) := by
            intro ks hk
            obtain ⟨e1, e2⟩ := HPq.out ks hk
            have := (HNx.out ks hk (16 * q) [] e2 (Or.inl (by omega))).2.2.2
            omega
          go_wp2_with fail
          go_ret3
          exact seekB_bad ((Below.drewN (hB.alloc hB.size _) k).setCell hB.size _) HNR.out
      · obtain rfl : m = n := by omega
        have hdl : decide ((m : Int) < (m : Int)) = false := by simp
        go_upto_if 59 with (fail)
        go_cut [10] (fun x wc => ∃ V : Nat, Cursor wc g A0 L.length cap V { data := #[] } ∧ Hid (Below w.heap.size w wc ∧ ∀ ks, Blk l ks → ∃ i, i ≤ ks.length ∧ V = pos ks i ∧ i % 16 = 0 ∧ ∀ j, j < i → ks.getD j [] < key.data.toList))
        case first =>
          by_cases hm0 : 0 < m
          · have hd0 : decide (0 < (m : Int)) = true := decide_eq_true (by omega)
            obtain ⟨q, rfl⟩ : ∃ q, m = q + 1 := ⟨m - 1, by omega⟩
            have hm1 : (((q + 1 : Nat) : Int) - 1) = (q : Int) := by omega
            have hq1 : 4 * q + 4 ≤ PP.length := by omega
            have hs1 := fun W => HSl.out W q (by omega)
            have HPq := Lib.hid (fun (ks : List Text) (hk : Blk l ks) => HPlace.out ks hk q (by omega))
            have hb4 := HPc.out _ q (HP1.out.below hB)
            have HGet := Lib.hid (get4_any (cutA AP capP (4 * q)) (capP - 4 * q) (PP.length - 4 * q) (PP.drop (4 * q)) _ List.length_drop (by omega) (by omega) hb4)
            clear hb4
            generalize num (PP.drop (4 * q)) = V at *
            generalize cutA AP capP (4 * q) = AQ at *
            go_wp2_with fail
            refine HGet.out.mono ?_
            rintro e w3 ⟨rfl, k, rfl⟩
            clear HGet
            have hcz : Cursor ((wr.drewN k).setCell ⟨g, 1, none⟩ (.int .i64 (V : Int))) g A0 L.length cap V { data := #[] } := by
              have hcur2 : (wr.drewN k).heap[g]? = some (.cells #[.slice A0 L.length cap, .int .i64 0, .string { data := #[] }] 50 (0, 0)) := hcur
              exact heap_setCell_same _ g 1 _ 50 (.int .i64 (V : Int)) hcur2
            have hBz := (Below.drewN hB k).setCell (p := ⟨g, 1, none⟩) hg (.int .i64 (V : Int))
            go_wp2_with fail
            go_meet
            case rel =>
              refine ⟨V, hcz, hBz, fun ks hk => ?_⟩
              obtain ⟨e1, e2⟩ := HPq.out ks hk
              refine ⟨16 * q, by omega, e1, by omega, fun j hj => ?_⟩
              have h1 := HLow.out (by omega) ks hk
              rw [Nat.add_sub_cancel] at h1
              exact text_trans (rises_lt hk.1 j (16 * q) hj e2) h1
          · obtain rfl : m = 0 := by omega
            go_wp2_with fail
            go_meet
            case rel => exact ⟨0, hcur, hB, fun ks hk => ⟨0, Nat.zero_le _, rfl, rfl, fun j hj => by omega⟩⟩
        case rest =>
          obtain ⟨V, hcz, hst⟩ := hcut
          obtain ⟨hBz, hblk⟩ := hst.out
          have HBlk := Lib.hid hblk
          clear hblk hst hcur hB HLow c0 c1 c2
          go_wp2_with fail
          go_loopw [] (fun wr => ∃ (at' : Nat) (kc : ByteArray), Cursor wr g A0 L.length cap at' kc ∧ kc.size ≤ at' ∧ Hid (Below w.heap.size w wr ∧ ∀ ks, Blk l ks → ∃ i, i ≤ ks.length ∧ at' = pos ks i ∧ (i % 16 = 0 ∨ kc.data.toList = ks.getD (i - 1) []) ∧ ∀ j, j < i → ks.getD j [] < key.data.toList)) (fun wr => L.length - atOf wr g)
          case atStart =>
            refine ⟨V, { data := #[] }, hcz, Nat.zero_le _, hBz, fun ks hk => ?_⟩
            obtain ⟨i, h1, h2, h3, h4⟩ := HBlk.out ks hk
            exact ⟨i, h1, h2, Or.inl h3, h4⟩
          case round =>
            clear hcz hBz HBlk
            obtain ⟨at', kc, hcur, hkc, hrel⟩ := hrel
            obtain ⟨hB, hblk⟩ := hrel.out
            have HBlk := Lib.hid hblk
            clear hblk hrel
            obtain ⟨c0, c1, c2, _, _, hgl⟩ := cursor_cells hcur
            by_cases hlt : at' < L.length
            · have hdl : decide ((at' : Int) < (L.length : Int)) = true := decide_eq_true (by omega)
              have hdl2 : decide (at' < L.length) = true := decide_eq_true hlt
              have HNext := Lib.hid (next_any g A0 cap at' L kc _ (by omega) (by omega) (by omega) (by omega) (HL0.out.below hB) hcur)
              have hatm := atOf_cursor hcur
              go_wp2_with fail
              refine HNext.out.mono ?_
              clear HNext
              rintro e w4 ⟨hg4, ⟨hno, rfl⟩ | ⟨hyes, rfl, key', hk', hcur4⟩⟩
              · have HNR : Hid (∀ ks, ¬ Blk l ks) := by
                  intro ks hk
                  obtain ⟨i, e0, e1, e2, _⟩ := HBlk.out ks hk
                  have hi : i < ks.length := by
                    rcases Nat.lt_or_ge i ks.length with h | h
                    · exact h
                    · have e3 : i = ks.length := by omega
                      have := HLe.out ks hk
                      rw [e3] at e1; omega
                  have := (HNx.out ks hk i kc.data.toList hi e2).1
                  rw [← e1, hno] at this
                  cases this
                have hB4 := hB.grown hg4 hB.size (fun k e => by cases e; exact hg)
                clear hno hcur c0 c1 c2
                go_wp2_with fail
                go_ret3
                exact seekB_bad hB4 HNR.out
              · have hB4 := hB.grown hg4 hB.size (fun k e => by cases e; exact hg)
                have hnp := nextUsed_pos _ _ hyes
                have hkl := nextKey_len (L.drop at') kc.data.toList
                rw [← hk', size_data, size_data] at hkl
                have HK' : Hid (∀ ks, Blk l ks → ∃ i, i < ks.length ∧ ks.getD i [] = key'.data.toList ∧ at' + nextUsed (L.drop at') = pos ks (i + 1) ∧ ∀ j, j < i → ks.getD j [] < key.data.toList) := by
                  intro ks hk
                  obtain ⟨i, e0, e1, e2, e4⟩ := HBlk.out ks hk
                  have hi : i < ks.length := by
                    rcases Nat.lt_or_ge i ks.length with h | h
                    · exact h
                    · have e3 : i = ks.length := by omega
                      have := HLe.out ks hk
                      rw [e3] at e1; omega
                  obtain ⟨_, q2, q3, _⟩ := HNx.out ks hk i kc.data.toList hi e2
                  rw [← e1] at q2 q3
                  exact ⟨i, hi, by rw [hk', q2], q3, e4⟩
                obtain ⟨_, _, c42, _, _, _⟩ := cursor_cells hcur4
                have hatm4 := atOf_cursor hcur4
                have HC4 := Lib.hid hcur4
                have HB4 := Lib.hid hB4
                generalize nextUsed (L.drop at') = NU at *
                clear hyes hk' hB4 hg4 hcur4 hcur c0 c1 c2
                have hlw := less_walk key' key
                by_cases hless : key'.data.toList < key.data.toList
                · obtain ⟨lw1, lw2, lw3⟩ := less_yes key key' hless
                  have HLs := Lib.hid hless
                  clear hless hlw
                  go_wp2_with fail
                  go_roundw
                  case rel =>
                    refine ⟨at' + NU, key', HC4.out, by omega, HB4.out, fun ks hk => ?_⟩
                    obtain ⟨i, e1, e2, e3, e4⟩ := HK'.out ks hk
                    refine ⟨i + 1, by omega, e3, Or.inr (by rw [Nat.add_sub_cancel, e2]), fun j hj => ?_⟩
                    by_cases e : j = i
                    · rw [e, e2]; exact HLs.out
                    · exact e4 j (by omega)
                  case measure => rw [hatm4, hatm]; omega
                · obtain ⟨lw1, lw2⟩ := less_no key key' hless
                  rw [decide_eq_false hless] at hlw
                  have HNl := Lib.hid hless
                  clear hless
                  go_wp2_with fail
                  go_ret3
                  refine ⟨HB4.out, key', true, 0, rfl, .inl rfl, fun _ => HEnd.out, fun ks hk => ⟨rfl, ?_⟩⟩
                  obtain ⟨i, e1, e2, e3, e4⟩ := HK'.out ks hk
                  refine ⟨i, ⟨by omega, e4, fun _ => by rw [e2]; exact HNl.out⟩, (decide_eq_true e1).symm, by rw [if_pos e1, e2]⟩
            · have hdl : decide ((at' : Int) < (L.length : Int)) = false := decide_eq_false (by omega)
              have hdl2 : decide (at' < L.length) = false := decide_eq_false hlt
              have HK' : Hid (∀ ks, Blk l ks → First ks (· < key.data.toList) ks.length) := by
                intro ks hk
                obtain ⟨i, e0, e1, e2, e4⟩ := HBlk.out ks hk
                have hi : i = ks.length := by
                  rcases Nat.lt_or_ge i ks.length with h | h
                  · have := pos_lt ks i ks.length h
                    have := HLe.out ks hk
                    omega
                  · omega
                exact ⟨Nat.le_refl _, fun j hj => e4 j (by omega), fun h => by omega⟩
              go_wp2_with fail
              go_ret3
              refine ⟨hB, { data := #[] }, false, 0, rfl, .inl rfl, fun _ => HEnd.out, fun ks hk => ⟨rfl, ks.length, HK'.out ks hk, (decide_eq_false (by omega)).symm, ?_⟩⟩
              rw [if_neg (by omega)]
  · have HNR : Hid (∀ ks, ¬ Blk l ks) := fun ks h => hend (blk_ok h).1
    clear hend
    go_wp2_with fail
    go_ret3
    exact seekB_bad (hB1.alloc hB1.size _) HNR.out
end Go.Proofs.Ytbamohcaamgalab
