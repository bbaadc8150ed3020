/- The last node ahead of a key, at each height: walked. -/
import Derived.Test.YtbamohcaamgalaaTow
namespace Go.Proofs.Ytbamohcaamgalaa
set_option linter.unusedVariables false
set_option linter.unusedSimpArgs false
open Go.RowKit

def blkOf : Value → Nat
  | .pointer (some a) => a.block
  | _ => 0
open Classical in
noncomputable def posOf (g : Nat) (ns : List Nd) (b : Nat) : Nat := if h : ∃ i, i ≤ ns.length ∧ posB g ns i = b then h.choose else 0
theorem posOf_pos {g : Nat} {ns : List Nd} (h : Apart g ns) (i : Nat) (hi : i ≤ ns.length) : posOf g ns (posB g ns i) = i := by
  have hx : ∃ j, j ≤ ns.length ∧ posB g ns j = posB g ns i := ⟨i, hi, rfl⟩
  unfold posOf
  rw [dif_pos hx]
  exact h.pos hx.choose_spec.1 hi hx.choose_spec.2
theorem linked_next {W : World} {g : Nat} {ns : List Nd} (h : Linked W g ns) (i hh : Nat) (hi : i ≤ ns.length) (h8 : hh < 8) (hti : hh < htAt ns i) : ∃ v, W.cell? ⟨posB g ns i, 1 + hh, none⟩ = some v ∧ NextIs W ns i hh v := by
  rcases h i hh hi h8 hti with ⟨hc, hall⟩ | ⟨j, h1, h2, h3, h4, hc⟩
  · exact ⟨_, hc, .inl ⟨rfl, hall⟩⟩
  · exact ⟨_, hc, .inr ⟨j, h1, h2, h3, h4, rfl⟩⟩
theorem keysN_at (ns : List Nd) (j : Nat) (h : j < ns.length) : (keysOf (keysN ns)).getD j [] = (ns.getD j default).key.data.toList := by
  simp [keysOf, keysN, List.getD_eq_getElem?_getD, List.getElem?_map, List.getElem?_eq_getElem h]
theorem length_keysN (ns : List Nd) : (keysOf (keysN ns)).length = ns.length := by simp [keysOf, keysN]
/-- in a row that rises what is ahead of a key is the row's beginning -/
theorem ahead_iff {ks : List Text} (hr : Rises ks) (after : Bool) (key : Text) (m : Nat) (h : First ks (Ahead after key) m) (j : Nat) (hj : j < ks.length) : Ahead after key (ks.getD j []) ↔ j < m := by
  constructor
  · intro ha
    rcases Nat.lt_or_ge j m with c | c
    · exact c
    · exfalso
      have hm : m < ks.length := by omega
      have hnot := h.2.2 hm
      by_cases e : m = j
      · subst e; exact hnot ha
      · have hlt := rises_lt hr m j (by omega) hj
        apply hnot
        unfold Ahead at ha ⊢
        cases after with
        | true =>
          simp only [if_true] at ha ⊢
          intro hk
          exact ha (text_trans hk hlt)
        | false =>
          simp only [if_false, Bool.false_eq_true] at ha ⊢
          exact text_trans hlt ha
  · intro hlt; exact h.2.1 j hlt
/-- what 'path' answers -/
def PathIs (g : Nat) (ns : List Nd) (m : Nat) (w : World) (e : Ending) (w' : World) : Prop :=
  (∃ cs : Array Value, e = .returned (.agg cs) ∧ cs.size = 8 ∧ ∀ h, h < 8 → ∃ pb, cs[h]? = some (.pointer (some ⟨pb, 0, none⟩)) ∧ IsLast g ns m h pb) ∧ Below w.heap.size w w'
theorem Try.size43 : (Try.prog.info? 43).map (·.size) = some 8 := by kernel_rfl
def PRel (g : Nat) (ns : List Nd) (m : Nat) (w : World) (k i : Nat) (wr : World) : Prop :=
  i ≤ m ∧ k ≤ htAt ns i ∧ Below w.heap.size w wr ∧ (∃ pcs : Array Value, wr.heap[w.heap.size + 1]? = some (.cells pcs 43 (0, 0)) ∧ pcs.size = 8 ∧ ∀ h, k ≤ h → h < 8 → ∃ pb, pcs[h]? = some (.pointer (some ⟨pb, 0, none⟩)) ∧ IsLast g ns m h pb) ∧
  wr.heap[w.heap.size]? = some (.cells #[.pointer none, .pointer none, .pointer none, .pointer none, .pointer none, .pointer none, .pointer none, .pointer none] 43 (0, 0))
set_option maxRecDepth 100000 in
set_option maxHeartbeats 2000000 in
theorem path_less (g : Nat) (ns : List Nd) (m : Nat) (key : ByteArray) (w : World) (h : Tw w g ns) (hm : First (keysOf (keysN ns)) (Ahead false key.data.toList) m) :
    Calls Try.prog 22 #[.pointer (some ⟨g, 0, none⟩), .string key, .func (.func 23) #[] #[]] w (PathIs g ns m w) := by
  have HT := Lib.hid h
  have HM := Lib.hid hm
  have hmn : m ≤ ns.length := by have := hm.1; rwa [length_keysN] at this
  have HMN := Lib.hid hmn
  clear h hm hmn
  have hA1 := (Below.refl w.heap.size w).alloc (Nat.le_refl _) (.cells #[.pointer none, .pointer none, .pointer none, .pointer none, .pointer none, .pointer none, .pointer none, .pointer none] 43)
  have hx1 := heap_alloc_new w (.cells #[.pointer none, .pointer none, .pointer none, .pointer none, .pointer none, .pointer none, .pointer none, .pointer none] 43)
  have hA2 := hA1.alloc hA1.size (.cells #[.pointer none, .pointer none, .pointer none, .pointer none, .pointer none, .pointer none, .pointer none, .pointer none] 43)
  have hx2 := heap_alloc_new (w.alloc (.cells #[.pointer none, .pointer none, .pointer none, .pointer none, .pointer none, .pointer none, .pointer none, .pointer none] 43)) (.cells #[.pointer none, .pointer none, .pointer none, .pointer none, .pointer none, .pointer none, .pointer none, .pointer none] 43)
  have hx3 := (Below.heap_alloc (w.alloc (.cells #[.pointer none, .pointer none, .pointer none, .pointer none, .pointer none, .pointer none, .pointer none, .pointer none] 43)) (.cells #[.pointer none, .pointer none, .pointer none, .pointer none, .pointer none, .pointer none, .pointer none, .pointer none] 43) _ (heap_lt hx1)).trans hx1
  have hsz : (w.alloc (.cells #[.pointer none, .pointer none, .pointer none, .pointer none, .pointer none, .pointer none, .pointer none, .pointer none] 43)).heap.size = w.heap.size + 1 := by simp
  rw [hsz] at hx2
  have hrel0 : Hid (PRel g ns m w 8 0 ((w.alloc (.cells #[.pointer none, .pointer none, .pointer none, .pointer none, .pointer none, .pointer none, .pointer none, .pointer none] 43)).alloc (.cells #[.pointer none, .pointer none, .pointer none, .pointer none, .pointer none, .pointer none, .pointer none, .pointer none] 43))) :=
    ⟨Nat.zero_le _, Nat.le_refl _, hA2, ⟨_, hx2, rfl, fun h h1 h2 => absurd h1 (by omega)⟩, hx3⟩
  clear hA1 hx1 hA2 hx2 hx3 hsz
  go_enter Try.func22, Try.ntmps22
  go_wp2_with fail
  go_loopw [8, 9] (fun at' hv wr => ∃ (k i : Nat) (z : Int), at' = .pointer (some ⟨posB g ns i, 0, none⟩) ∧ hv = .int .i64 z ∧ z = (k : Int) - 1 ∧ k ≤ 8 ∧ Hid (PRel g ns m w k i wr)) (fun _ hv _ => (intOf hv + 1).toNat)
  case atStart => exact ⟨8, 0, 7, rfl, rfl, by omega, Nat.le_refl _, hrel0⟩
  case round =>
    clear hrel0
    obtain ⟨k, i, z, rfl, rfl, hz, hk8, hst⟩ := hrel
    cases k with
    | zero =>
      have dz : decide ((0 : Int) ≤ z) = false := decide_eq_false (by omega)
      obtain ⟨_, _, hB, ⟨pcs, hp, hps, hall⟩, hres⟩ := hst.out
      obtain ⟨l⟩ := pcs
      have hsz : l.length = 8 := by simpa using hps
      match l, hsz with
      | [c0, c1, c2, c3, c4, c5, c6, c7], _ =>
        have HALL := Lib.hid hall
        have p0 := heap_cell hp 0
        have p1 := heap_cell hp 1
        have p2 := heap_cell hp 2
        have p3 := heap_cell hp 3
        have p4 := heap_cell hp 4
        have p5 := heap_cell hp 5
        have p6 := heap_cell hp 6
        have p7 := heap_cell hp 7
        simp at p0 p1 p2 p3 p4 p5 p6 p7
        have HRS := Lib.hid hres
        have HB := Lib.hid hB
        clear hst hall hps hp hres hB
        obtain ⟨q0, e0, L0⟩ := HALL.out 0 (by omega) (by omega)
        obtain ⟨q1, e1, L1⟩ := HALL.out 1 (by omega) (by omega)
        obtain ⟨q2, e2, L2⟩ := HALL.out 2 (by omega) (by omega)
        obtain ⟨q3, e3, L3⟩ := HALL.out 3 (by omega) (by omega)
        obtain ⟨q4, e4, L4⟩ := HALL.out 4 (by omega) (by omega)
        obtain ⟨q5, e5, L5⟩ := HALL.out 5 (by omega) (by omega)
        obtain ⟨q6, e6, L6⟩ := HALL.out 6 (by omega) (by omega)
        obtain ⟨q7, e7, L7⟩ := HALL.out 7 (by omega) (by omega)
        have j0 : c0 = .pointer (some ⟨q0, 0, none⟩) := by simpa using e0
        have j1 : c1 = .pointer (some ⟨q1, 0, none⟩) := by simpa using e1
        have j2 : c2 = .pointer (some ⟨q2, 0, none⟩) := by simpa using e2
        have j3 : c3 = .pointer (some ⟨q3, 0, none⟩) := by simpa using e3
        have j4 : c4 = .pointer (some ⟨q4, 0, none⟩) := by simpa using e4
        have j5 : c5 = .pointer (some ⟨q5, 0, none⟩) := by simpa using e5
        have j6 : c6 = .pointer (some ⟨q6, 0, none⟩) := by simpa using e6
        have j7 : c7 = .pointer (some ⟨q7, 0, none⟩) := by simpa using e7
        subst j0 j1 j2 j3 j4 j5 j6 j7
        clear e0 e1 e2 e3 e4 e5 e6 e7 HALL
        have HL : Hid (∀ h, h < 8 → ∃ pb, (#[Value.pointer (some ⟨q0, 0, none⟩), .pointer (some ⟨q1, 0, none⟩), .pointer (some ⟨q2, 0, none⟩), .pointer (some ⟨q3, 0, none⟩), .pointer (some ⟨q4, 0, none⟩), .pointer (some ⟨q5, 0, none⟩), .pointer (some ⟨q6, 0, none⟩), .pointer (some ⟨q7, 0, none⟩)] : Array Value)[h]? = some (.pointer (some ⟨pb, 0, none⟩)) ∧ IsLast g ns m h pb) := by
          intro h h8
          rcases (show h = 0 ∨ h = 1 ∨ h = 2 ∨ h = 3 ∨ h = 4 ∨ h = 5 ∨ h = 6 ∨ h = 7 by omega) with rfl | rfl | rfl | rfl | rfl | rfl | rfl | rfl
          · exact ⟨q0, rfl, L0⟩
          · exact ⟨q1, rfl, L1⟩
          · exact ⟨q2, rfl, L2⟩
          · exact ⟨q3, rfl, L3⟩
          · exact ⟨q4, rfl, L4⟩
          · exact ⟨q5, rfl, L5⟩
          · exact ⟨q6, rfl, L6⟩
          · exact ⟨q7, rfl, L7⟩
        clear L0 L1 L2 L3 L4 L5 L6 L7
        have HO : Hid ((#[Value.pointer (some ⟨q0, 0, none⟩), .pointer (some ⟨q1, 0, none⟩), .pointer (some ⟨q2, 0, none⟩), .pointer (some ⟨q3, 0, none⟩), .pointer (some ⟨q4, 0, none⟩), .pointer (some ⟨q5, 0, none⟩), .pointer (some ⟨q6, 0, none⟩), .pointer (some ⟨q7, 0, none⟩)] : Array Value).all (·.oneCell') = true) := by
          show (#[Value.pointer (some ⟨q0, 0, none⟩), .pointer (some ⟨q1, 0, none⟩), .pointer (some ⟨q2, 0, none⟩), .pointer (some ⟨q3, 0, none⟩), .pointer (some ⟨q4, 0, none⟩), .pointer (some ⟨q5, 0, none⟩), .pointer (some ⟨q6, 0, none⟩), .pointer (some ⟨q7, 0, none⟩)] : Array Value).all (·.oneCell') = true
          simp [Value.oneCell']
        go_wp2_with (refine wpList_store_arr _ rfl rfl 43 (.tmp 6) (.tmp 45) rfl w.heap.size 43 _ #[Value.pointer (some ⟨q0, 0, none⟩), .pointer (some ⟨q1, 0, none⟩), .pointer (some ⟨q2, 0, none⟩), .pointer (some ⟨q3, 0, none⟩), .pointer (some ⟨q4, 0, none⟩), .pointer (some ⟨q5, 0, none⟩), .pointer (some ⟨q6, 0, none⟩), .pointer (some ⟨q7, 0, none⟩)] rfl rfl HRS.out Try.size43 rfl HO.out ?_; intro w5 h5 g5 s5)
        have r0 := heap_cell h5 0
        have r1 := heap_cell h5 1
        have r2 := heap_cell h5 2
        have r3 := heap_cell h5 3
        have r4 := heap_cell h5 4
        have r5 := heap_cell h5 5
        have r6 := heap_cell h5 6
        have r7 := heap_cell h5 7
        simp at r0 r1 r2 r3 r4 r5 r6 r7
        refine bodyPost_ret (v := .agg #[Value.pointer (some ⟨q0, 0, none⟩), .pointer (some ⟨q1, 0, none⟩), .pointer (some ⟨q2, 0, none⟩), .pointer (some ⟨q3, 0, none⟩), .pointer (some ⟨q4, 0, none⟩), .pointer (some ⟨q5, 0, none⟩), .pointer (some ⟨q6, 0, none⟩), .pointer (some ⟨q7, 0, none⟩)]) (by simp [results, Try.results22, go_sem, r0, r1, r2, r3, r4, r5, r6, r7]) rfl ⟨⟨_, rfl, rfl, HL.out⟩, HB.out.grown g5 HB.out.size (fun k hk => by cases hk; exact Nat.le_refl _)⟩
    | succ h =>
      obtain rfl : z = (h : Int) := by omega
      obtain ⟨him, hht, hB, hpb, hres⟩ := hst.out
      have HPB := Lib.hid hpb
      have HRS := Lib.hid hres
      have HT2 := Lib.hid (HT.out.below hB)
      have hmn := HMN.out
      clear hst hpb hres
      obtain ⟨v, hv, hnx⟩ := linked_next HT2.out.linked i h (by omega) (by omega) (by omega)
      have HNX := Lib.hid hnx
      have HHT : Hid (h < htAt ns i) := by show _ < _; omega
      clear hnx hht hmn hz
      have hin0 : (0 : Int) ≤ (h : Int) := by omega
      have hin8 : (h : Int) < 8 := by omega
      go_upto_region 7 with (fail)
      have HHM : Hid (i ≤ m) := him
      have HH8 : Hid (h < 8) := by show _ < _; omega
      have HHK : Hid (h + 1 ≤ 8) := hk8
      have hrel1 : Hid (h < htAt ns i ∧ i ≤ m ∧ NextIs wr ns i h v) := ⟨HHT.out, HHM.out, HNX.out⟩
      clear hv him hk8
      go_loopw [8, 10] (fun at' nv wx => ∃ i : Nat, at' = .pointer (some ⟨posB g ns i, 0, none⟩) ∧ Hid (h < htAt ns i ∧ i ≤ m ∧ NextIs wr ns i h nv) ∧ wx = wr) (fun at' _ _ => ns.length - posOf g ns (blkOf at'))
      case atStart => exact ⟨i, rfl, hrel1, rfl⟩
      case round =>
        clear hrel1 HNX HHT HHM
        obtain ⟨i2, rfl, hst, rfl⟩ := hrel
        obtain ⟨hti, him, hnx⟩ := hst.out
        clear hst
        rcases hnx with ⟨rfl, hall⟩ | ⟨j, hij, hjl, hjh, hjk, rfl⟩
        · have HLast : Hid (IsLast g ns m h (posB g ns i2)) := ⟨i2, him, rfl, hti, fun k h1 h2 => hall k h1 (by have := HMN.out; omega)⟩
          have HTI := Lib.hid hti
          clear hall hti
          obtain ⟨pcs, hp, hps, hall2⟩ := HPB.out
          obtain ⟨px, hpx⟩ : ∃ x, pcs[h]? = some x := ⟨_, Array.getElem?_eq_getElem (by have := HH8.out; omega)⟩
          have pc := (heap_cell hp h).trans hpx
          have pf := frozen_of_row _ (w.heap.size + 1) h _ _ hp
          have HP := Lib.hid hp
          have HPS := Lib.hid hps
          have HA2 := Lib.hid hall2
          have HIM := Lib.hid him
          have h8 := HH8.out
          clear hpx hp hps hall2 him
          go_wp2_with fail
          go_roundw
          case rel =>
            refine ⟨h, i2, (h : Int) - 1, rfl, by go_num, rfl, by omega, ⟨HIM.out, Nat.le_of_lt HTI.out, hB.setCell (p := ⟨w.heap.size + 1, h, none⟩) (by simp only; omega) _, ⟨_, heap_setCell_same _ (w.heap.size + 1) h pcs 43 _ HP.out, by rw [Array.size_setIfInBounds]; exact HPS.out, ?_⟩, ?_⟩⟩
            · intro h' h1 h2
              by_cases e : h' = h
              · subst e
                exact ⟨posB g ns i2, by rw [Array.getElem?_setIfInBounds_self_of_lt (by have := HPS.out; omega)], HLast.out⟩
              · rw [Array.getElem?_setIfInBounds_ne (fun x => e x.symm)]
                exact HA2.out h' (by omega) h2
            · rw [heap_setCell_other _ _ _ _ (by simp only; omega)]; exact HRS.out
          case measure => simp [intOf]
        · obtain ⟨⟨ncs, hnc, hns⟩, hkc, hht1, hht8⟩ := HT2.out.node j hjl
          have HIff := Lib.hid (ahead_iff HT2.out.rises false key.data.toList m HM.out j (by rw [length_keysN]; exact hjl))
          have hka := keysN_at ns j hjl
          have HKA := Lib.hid hka
          clear hka hnc hns
          by_cases hjm : j < m
          · have hAh : Hid ((ns.getD j default).key.data.toList < key.data.toList) := by
              have := HIff.out.2 hjm
              rw [HKA.out] at this
              exact this
            obtain ⟨v2, hv2, hnx2⟩ := linked_next HT2.out.linked (j + 1) h (by omega) HH8.out (by unfold htAt; rw [if_neg (by omega), Nat.add_sub_cancel]; exact hjh)
            have hpe : posB g ns (j + 1) = (ns.getD j default).b := by unfold posB; rw [if_neg (by omega), Nat.add_sub_cancel]
            have hL := less_any (ns.getD j default).key key
            have dA : decide ((ns.getD j default).key.data.toList < key.data.toList) = true := decide_eq_true hAh.out
            rw [dA] at hL
            have HLs := Lib.hid hL
            have HNX2 : Hid (h < htAt ns (j + 1) ∧ j + 1 ≤ m ∧ NextIs wr ns (j + 1) h v2) := ⟨by unfold htAt; rw [if_neg (by omega), Nat.add_sub_cancel]; exact hjh, hjm, hnx2⟩
            rw [hpe] at hv2
            have HPE := Lib.hid hpe
            have HMeas : Hid (ns.length - posOf g ns (posB g ns (j + 1)) < ns.length - posOf g ns (posB g ns i2)) := by
              show _ < _
              rw [posOf_pos HT2.out.apart _ (by omega), posOf_pos HT2.out.apart _ (by omega)]
              omega
            have h8 := HH8.out
            generalize (ns.getD j default).key = kj at *
            generalize (ns.getD j default).b = bj at *
            clear hL dA hjk hjh hpe hnx2 hht1 hht8 hti him
            go_wp2_with fail
            refine (HLs.out _).mono ?_
            rintro e w5 ⟨rfl, rfl⟩
            go_wp2_with fail
            go_roundw
            case rel => exact ⟨j + 1, by rw [HPE.out], HNX2, trivial⟩
            case measure => simp only [blkOf]; rw [← HPE.out]; exact HMeas.out
          · have hAh : Hid (¬ (ns.getD j default).key.data.toList < key.data.toList) := by
              intro hc
              apply hjm
              apply HIff.out.1
              rw [HKA.out]; exact hc
            have hL := less_any (ns.getD j default).key key
            have dA : decide ((ns.getD j default).key.data.toList < key.data.toList) = false := decide_eq_false hAh.out
            rw [dA] at hL
            have HLs := Lib.hid hL
            have HLast : Hid (IsLast g ns m h (posB g ns i2)) := ⟨i2, him, rfl, hti, fun k h1 h2 => hjk k h1 (by omega)⟩
            have HTI := Lib.hid hti
            generalize (ns.getD j default).key = kj at *
            generalize (ns.getD j default).b = bj at *
            clear hL dA hjk hjh hht1 hht8 hti hjm
            obtain ⟨pcs, hp, hps, hall2⟩ := HPB.out
            obtain ⟨px, hpx⟩ : ∃ x, pcs[h]? = some x := ⟨_, Array.getElem?_eq_getElem (by have := HH8.out; omega)⟩
            have pc := (heap_cell hp h).trans hpx
            have pf := frozen_of_row _ (w.heap.size + 1) h _ _ hp
            have HP := Lib.hid hp
            have HPS := Lib.hid hps
            have HA2 := Lib.hid hall2
            have HIM := Lib.hid him
            have h8 := HH8.out
            clear hpx hp hps hall2 him
            go_wp2_with fail
            refine (HLs.out _).mono ?_
            rintro e w5 ⟨rfl, rfl⟩
            go_wp2_with fail
            go_roundw
            case rel =>
              refine ⟨h, i2, (h : Int) - 1, rfl, by go_num, rfl, by omega, ⟨HIM.out, Nat.le_of_lt HTI.out, hB.setCell (p := ⟨w.heap.size + 1, h, none⟩) (by simp only; omega) _, ⟨_, heap_setCell_same _ (w.heap.size + 1) h pcs 43 _ HP.out, by rw [Array.size_setIfInBounds]; exact HPS.out, ?_⟩, ?_⟩⟩
              · intro h' h1 h2
                by_cases e : h' = h
                · subst e
                  exact ⟨posB g ns i2, by rw [Array.getElem?_setIfInBounds_self_of_lt (by have := HPS.out; omega)], HLast.out⟩
                · rw [Array.getElem?_setIfInBounds_ne (fun x => e x.symm)]
                  exact HA2.out h' (by omega) h2
              · rw [heap_setCell_other _ _ _ _ (by simp only; omega)]; exact HRS.out
            case measure => simp [intOf]
set_option maxRecDepth 100000 in
set_option maxHeartbeats 2000000 in
theorem path_most (g : Nat) (ns : List Nd) (m : Nat) (key : ByteArray) (w : World) (h : Tw w g ns) (hm : First (keysOf (keysN ns)) (Ahead true key.data.toList) m) :
    Calls Try.prog 22 #[.pointer (some ⟨g, 0, none⟩), .string key, .func (.func 26) #[] #[]] w (PathIs g ns m w) := by
  have HT := Lib.hid h
  have HM := Lib.hid hm
  have hmn : m ≤ ns.length := by have := hm.1; rwa [length_keysN] at this
  have HMN := Lib.hid hmn
  clear h hm hmn
  have hA1 := (Below.refl w.heap.size w).alloc (Nat.le_refl _) (.cells #[.pointer none, .pointer none, .pointer none, .pointer none, .pointer none, .pointer none, .pointer none, .pointer none] 43)
  have hx1 := heap_alloc_new w (.cells #[.pointer none, .pointer none, .pointer none, .pointer none, .pointer none, .pointer none, .pointer none, .pointer none] 43)
  have hA2 := hA1.alloc hA1.size (.cells #[.pointer none, .pointer none, .pointer none, .pointer none, .pointer none, .pointer none, .pointer none, .pointer none] 43)
  have hx2 := heap_alloc_new (w.alloc (.cells #[.pointer none, .pointer none, .pointer none, .pointer none, .pointer none, .pointer none, .pointer none, .pointer none] 43)) (.cells #[.pointer none, .pointer none, .pointer none, .pointer none, .pointer none, .pointer none, .pointer none, .pointer none] 43)
  have hx3 := (Below.heap_alloc (w.alloc (.cells #[.pointer none, .pointer none, .pointer none, .pointer none, .pointer none, .pointer none, .pointer none, .pointer none] 43)) (.cells #[.pointer none, .pointer none, .pointer none, .pointer none, .pointer none, .pointer none, .pointer none, .pointer none] 43) _ (heap_lt hx1)).trans hx1
  have hsz : (w.alloc (.cells #[.pointer none, .pointer none, .pointer none, .pointer none, .pointer none, .pointer none, .pointer none, .pointer none] 43)).heap.size = w.heap.size + 1 := by simp
  rw [hsz] at hx2
  have hrel0 : Hid (PRel g ns m w 8 0 ((w.alloc (.cells #[.pointer none, .pointer none, .pointer none, .pointer none, .pointer none, .pointer none, .pointer none, .pointer none] 43)).alloc (.cells #[.pointer none, .pointer none, .pointer none, .pointer none, .pointer none, .pointer none, .pointer none, .pointer none] 43))) :=
    ⟨Nat.zero_le _, Nat.le_refl _, hA2, ⟨_, hx2, rfl, fun h h1 h2 => absurd h1 (by omega)⟩, hx3⟩
  clear hA1 hx1 hA2 hx2 hx3 hsz
  go_enter Try.func22, Try.ntmps22
  go_wp2_with fail
  go_loopw [8, 9] (fun at' hv wr => ∃ (k i : Nat) (z : Int), at' = .pointer (some ⟨posB g ns i, 0, none⟩) ∧ hv = .int .i64 z ∧ z = (k : Int) - 1 ∧ k ≤ 8 ∧ Hid (PRel g ns m w k i wr)) (fun _ hv _ => (intOf hv + 1).toNat)
  case atStart => exact ⟨8, 0, 7, rfl, rfl, by omega, Nat.le_refl _, hrel0⟩
  case round =>
    clear hrel0
    obtain ⟨k, i, z, rfl, rfl, hz, hk8, hst⟩ := hrel
    cases k with
    | zero =>
      have dz : decide ((0 : Int) ≤ z) = false := decide_eq_false (by omega)
      obtain ⟨_, _, hB, ⟨pcs, hp, hps, hall⟩, hres⟩ := hst.out
      obtain ⟨l⟩ := pcs
      have hsz : l.length = 8 := by simpa using hps
      match l, hsz with
      | [c0, c1, c2, c3, c4, c5, c6, c7], _ =>
        have HALL := Lib.hid hall
        have p0 := heap_cell hp 0
        have p1 := heap_cell hp 1
        have p2 := heap_cell hp 2
        have p3 := heap_cell hp 3
        have p4 := heap_cell hp 4
        have p5 := heap_cell hp 5
        have p6 := heap_cell hp 6
        have p7 := heap_cell hp 7
        simp at p0 p1 p2 p3 p4 p5 p6 p7
        have HRS := Lib.hid hres
        have HB := Lib.hid hB
        clear hst hall hps hp hres hB
        obtain ⟨q0, e0, L0⟩ := HALL.out 0 (by omega) (by omega)
        obtain ⟨q1, e1, L1⟩ := HALL.out 1 (by omega) (by omega)
        obtain ⟨q2, e2, L2⟩ := HALL.out 2 (by omega) (by omega)
        obtain ⟨q3, e3, L3⟩ := HALL.out 3 (by omega) (by omega)
        obtain ⟨q4, e4, L4⟩ := HALL.out 4 (by omega) (by omega)
        obtain ⟨q5, e5, L5⟩ := HALL.out 5 (by omega) (by omega)
        obtain ⟨q6, e6, L6⟩ := HALL.out 6 (by omega) (by omega)
        obtain ⟨q7, e7, L7⟩ := HALL.out 7 (by omega) (by omega)
        have j0 : c0 = .pointer (some ⟨q0, 0, none⟩) := by simpa using e0
        have j1 : c1 = .pointer (some ⟨q1, 0, none⟩) := by simpa using e1
        have j2 : c2 = .pointer (some ⟨q2, 0, none⟩) := by simpa using e2
        have j3 : c3 = .pointer (some ⟨q3, 0, none⟩) := by simpa using e3
        have j4 : c4 = .pointer (some ⟨q4, 0, none⟩) := by simpa using e4
        have j5 : c5 = .pointer (some ⟨q5, 0, none⟩) := by simpa using e5
        have j6 : c6 = .pointer (some ⟨q6, 0, none⟩) := by simpa using e6
        have j7 : c7 = .pointer (some ⟨q7, 0, none⟩) := by simpa using e7
        subst j0 j1 j2 j3 j4 j5 j6 j7
        clear e0 e1 e2 e3 e4 e5 e6 e7 HALL
        have HL : Hid (∀ h, h < 8 → ∃ pb, (#[Value.pointer (some ⟨q0, 0, none⟩), .pointer (some ⟨q1, 0, none⟩), .pointer (some ⟨q2, 0, none⟩), .pointer (some ⟨q3, 0, none⟩), .pointer (some ⟨q4, 0, none⟩), .pointer (some ⟨q5, 0, none⟩), .pointer (some ⟨q6, 0, none⟩), .pointer (some ⟨q7, 0, none⟩)] : Array Value)[h]? = some (.pointer (some ⟨pb, 0, none⟩)) ∧ IsLast g ns m h pb) := by
          intro h h8
          rcases (show h = 0 ∨ h = 1 ∨ h = 2 ∨ h = 3 ∨ h = 4 ∨ h = 5 ∨ h = 6 ∨ h = 7 by omega) with rfl | rfl | rfl | rfl | rfl | rfl | rfl | rfl
          · exact ⟨q0, rfl, L0⟩
          · exact ⟨q1, rfl, L1⟩
          · exact ⟨q2, rfl, L2⟩
          · exact ⟨q3, rfl, L3⟩
          · exact ⟨q4, rfl, L4⟩
          · exact ⟨q5, rfl, L5⟩
          · exact ⟨q6, rfl, L6⟩
          · exact ⟨q7, rfl, L7⟩
        clear L0 L1 L2 L3 L4 L5 L6 L7
        have HO : Hid ((#[Value.pointer (some ⟨q0, 0, none⟩), .pointer (some ⟨q1, 0, none⟩), .pointer (some ⟨q2, 0, none⟩), .pointer (some ⟨q3, 0, none⟩), .pointer (some ⟨q4, 0, none⟩), .pointer (some ⟨q5, 0, none⟩), .pointer (some ⟨q6, 0, none⟩), .pointer (some ⟨q7, 0, none⟩)] : Array Value).all (·.oneCell') = true) := by
          show (#[Value.pointer (some ⟨q0, 0, none⟩), .pointer (some ⟨q1, 0, none⟩), .pointer (some ⟨q2, 0, none⟩), .pointer (some ⟨q3, 0, none⟩), .pointer (some ⟨q4, 0, none⟩), .pointer (some ⟨q5, 0, none⟩), .pointer (some ⟨q6, 0, none⟩), .pointer (some ⟨q7, 0, none⟩)] : Array Value).all (·.oneCell') = true
          simp [Value.oneCell']
        go_wp2_with (refine wpList_store_arr _ rfl rfl 43 (.tmp 6) (.tmp 45) rfl w.heap.size 43 _ #[Value.pointer (some ⟨q0, 0, none⟩), .pointer (some ⟨q1, 0, none⟩), .pointer (some ⟨q2, 0, none⟩), .pointer (some ⟨q3, 0, none⟩), .pointer (some ⟨q4, 0, none⟩), .pointer (some ⟨q5, 0, none⟩), .pointer (some ⟨q6, 0, none⟩), .pointer (some ⟨q7, 0, none⟩)] rfl rfl HRS.out Try.size43 rfl HO.out ?_; intro w5 h5 g5 s5)
        have r0 := heap_cell h5 0
        have r1 := heap_cell h5 1
        have r2 := heap_cell h5 2
        have r3 := heap_cell h5 3
        have r4 := heap_cell h5 4
        have r5 := heap_cell h5 5
        have r6 := heap_cell h5 6
        have r7 := heap_cell h5 7
        simp at r0 r1 r2 r3 r4 r5 r6 r7
        refine bodyPost_ret (v := .agg #[Value.pointer (some ⟨q0, 0, none⟩), .pointer (some ⟨q1, 0, none⟩), .pointer (some ⟨q2, 0, none⟩), .pointer (some ⟨q3, 0, none⟩), .pointer (some ⟨q4, 0, none⟩), .pointer (some ⟨q5, 0, none⟩), .pointer (some ⟨q6, 0, none⟩), .pointer (some ⟨q7, 0, none⟩)]) (by simp [results, Try.results22, go_sem, r0, r1, r2, r3, r4, r5, r6, r7]) rfl ⟨⟨_, rfl, rfl, HL.out⟩, HB.out.grown g5 HB.out.size (fun k hk => by cases hk; exact Nat.le_refl _)⟩
    | succ h =>
      obtain rfl : z = (h : Int) := by omega
      obtain ⟨him, hht, hB, hpb, hres⟩ := hst.out
      have HPB := Lib.hid hpb
      have HRS := Lib.hid hres
      have HT2 := Lib.hid (HT.out.below hB)
      have hmn := HMN.out
      clear hst hpb hres
      obtain ⟨v, hv, hnx⟩ := linked_next HT2.out.linked i h (by omega) (by omega) (by omega)
      have HNX := Lib.hid hnx
      have HHT : Hid (h < htAt ns i) := by show _ < _; omega
      clear hnx hht hmn hz
      have hin0 : (0 : Int) ≤ (h : Int) := by omega
      have hin8 : (h : Int) < 8 := by omega
      go_upto_region 7 with (fail)
      have HHM : Hid (i ≤ m) := him
      have HH8 : Hid (h < 8) := by show _ < _; omega
      have HHK : Hid (h + 1 ≤ 8) := hk8
      have hrel1 : Hid (h < htAt ns i ∧ i ≤ m ∧ NextIs wr ns i h v) := ⟨HHT.out, HHM.out, HNX.out⟩
      clear hv him hk8
      go_loopw [8, 10] (fun at' nv wx => ∃ i : Nat, at' = .pointer (some ⟨posB g ns i, 0, none⟩) ∧ Hid (h < htAt ns i ∧ i ≤ m ∧ NextIs wr ns i h nv) ∧ wx = wr) (fun at' _ _ => ns.length - posOf g ns (blkOf at'))
      case atStart => exact ⟨i, rfl, hrel1, rfl⟩
      case round =>
        clear hrel1 HNX HHT HHM
        obtain ⟨i2, rfl, hst, rfl⟩ := hrel
        obtain ⟨hti, him, hnx⟩ := hst.out
        clear hst
        rcases hnx with ⟨rfl, hall⟩ | ⟨j, hij, hjl, hjh, hjk, rfl⟩
        · have HLast : Hid (IsLast g ns m h (posB g ns i2)) := ⟨i2, him, rfl, hti, fun k h1 h2 => hall k h1 (by have := HMN.out; omega)⟩
          have HTI := Lib.hid hti
          clear hall hti
          obtain ⟨pcs, hp, hps, hall2⟩ := HPB.out
          obtain ⟨px, hpx⟩ : ∃ x, pcs[h]? = some x := ⟨_, Array.getElem?_eq_getElem (by have := HH8.out; omega)⟩
          have pc := (heap_cell hp h).trans hpx
          have pf := frozen_of_row _ (w.heap.size + 1) h _ _ hp
          have HP := Lib.hid hp
          have HPS := Lib.hid hps
          have HA2 := Lib.hid hall2
          have HIM := Lib.hid him
          have h8 := HH8.out
          clear hpx hp hps hall2 him
          go_wp2_with fail
          go_roundw
          case rel =>
            refine ⟨h, i2, (h : Int) - 1, rfl, by go_num, rfl, by omega, ⟨HIM.out, Nat.le_of_lt HTI.out, hB.setCell (p := ⟨w.heap.size + 1, h, none⟩) (by simp only; omega) _, ⟨_, heap_setCell_same _ (w.heap.size + 1) h pcs 43 _ HP.out, by rw [Array.size_setIfInBounds]; exact HPS.out, ?_⟩, ?_⟩⟩
            · intro h' h1 h2
              by_cases e : h' = h
              · subst e
                exact ⟨posB g ns i2, by rw [Array.getElem?_setIfInBounds_self_of_lt (by have := HPS.out; omega)], HLast.out⟩
              · rw [Array.getElem?_setIfInBounds_ne (fun x => e x.symm)]
                exact HA2.out h' (by omega) h2
            · rw [heap_setCell_other _ _ _ _ (by simp only; omega)]; exact HRS.out
          case measure => simp [intOf]
        · obtain ⟨⟨ncs, hnc, hns⟩, hkc, hht1, hht8⟩ := HT2.out.node j hjl
          have HIff := Lib.hid (ahead_iff HT2.out.rises true key.data.toList m HM.out j (by rw [length_keysN]; exact hjl))
          have hka := keysN_at ns j hjl
          have HKA := Lib.hid hka
          clear hka hnc hns
          by_cases hjm : j < m
          · have hAh : Hid (¬ key.data.toList < (ns.getD j default).key.data.toList) := by
              have := HIff.out.2 hjm
              rw [HKA.out] at this
              exact this
            obtain ⟨v2, hv2, hnx2⟩ := linked_next HT2.out.linked (j + 1) h (by omega) HH8.out (by unfold htAt; rw [if_neg (by omega), Nat.add_sub_cancel]; exact hjh)
            have hpe : posB g ns (j + 1) = (ns.getD j default).b := by unfold posB; rw [if_neg (by omega), Nat.add_sub_cancel]
            have hL := most_any (ns.getD j default).key key
            have dA : decide (¬ key.data.toList < (ns.getD j default).key.data.toList) = true := decide_eq_true hAh.out
            rw [dA] at hL
            have HLs := Lib.hid hL
            have HNX2 : Hid (h < htAt ns (j + 1) ∧ j + 1 ≤ m ∧ NextIs wr ns (j + 1) h v2) := ⟨by unfold htAt; rw [if_neg (by omega), Nat.add_sub_cancel]; exact hjh, hjm, hnx2⟩
            rw [hpe] at hv2
            have HPE := Lib.hid hpe
            have HMeas : Hid (ns.length - posOf g ns (posB g ns (j + 1)) < ns.length - posOf g ns (posB g ns i2)) := by
              show _ < _
              rw [posOf_pos HT2.out.apart _ (by omega), posOf_pos HT2.out.apart _ (by omega)]
              omega
            have h8 := HH8.out
            generalize (ns.getD j default).key = kj at *
            generalize (ns.getD j default).b = bj at *
            clear hL dA hjk hjh hpe hnx2 hht1 hht8 hti him
            go_wp2_with fail
            refine (HLs.out _).mono ?_
            rintro e w5 ⟨rfl, rfl⟩
            go_wp2_with fail
            go_roundw
            case rel => exact ⟨j + 1, by rw [HPE.out], HNX2, trivial⟩
            case measure => simp only [blkOf]; rw [← HPE.out]; exact HMeas.out
          · have hAh : Hid (¬ (¬ key.data.toList < (ns.getD j default).key.data.toList)) := by
              intro hc
              apply hjm
              apply HIff.out.1
              rw [HKA.out]; exact hc
            have hL := most_any (ns.getD j default).key key
            have dA : decide (¬ key.data.toList < (ns.getD j default).key.data.toList) = false := decide_eq_false hAh.out
            rw [dA] at hL
            have HLs := Lib.hid hL
            have HLast : Hid (IsLast g ns m h (posB g ns i2)) := ⟨i2, him, rfl, hti, fun k h1 h2 => hjk k h1 (by omega)⟩
            have HTI := Lib.hid hti
            generalize (ns.getD j default).key = kj at *
            generalize (ns.getD j default).b = bj at *
            clear hL dA hjk hjh hht1 hht8 hti hjm
            obtain ⟨pcs, hp, hps, hall2⟩ := HPB.out
            obtain ⟨px, hpx⟩ : ∃ x, pcs[h]? = some x := ⟨_, Array.getElem?_eq_getElem (by have := HH8.out; omega)⟩
            have pc := (heap_cell hp h).trans hpx
            have pf := frozen_of_row _ (w.heap.size + 1) h _ _ hp
            have HP := Lib.hid hp
            have HPS := Lib.hid hps
            have HA2 := Lib.hid hall2
            have HIM := Lib.hid him
            have h8 := HH8.out
            clear hpx hp hps hall2 him
            go_wp2_with fail
            refine (HLs.out _).mono ?_
            rintro e w5 ⟨rfl, rfl⟩
            go_wp2_with fail
            go_roundw
            case rel =>
              refine ⟨h, i2, (h : Int) - 1, rfl, by go_num, rfl, by omega, ⟨HIM.out, Nat.le_of_lt HTI.out, hB.setCell (p := ⟨w.heap.size + 1, h, none⟩) (by simp only; omega) _, ⟨_, heap_setCell_same _ (w.heap.size + 1) h pcs 43 _ HP.out, by rw [Array.size_setIfInBounds]; exact HPS.out, ?_⟩, ?_⟩⟩
              · intro h' h1 h2
                by_cases e : h' = h
                · subst e
                  exact ⟨posB g ns i2, by rw [Array.getElem?_setIfInBounds_self_of_lt (by have := HPS.out; omega)], HLast.out⟩
                · rw [Array.getElem?_setIfInBounds_ne (fun x => e x.symm)]
                  exact HA2.out h' (by omega) h2
              · rw [heap_setCell_other _ _ _ _ (by simp only; omega)]; exact HRS.out
            case measure => simp [intOf]
end Go.Proofs.Ytbamohcaamgalaa
