/- Put: walked. -/
import Derived.Test.YtbamohcaamgalaaPlainb
namespace Go.Proofs.Ytbamohcaamgalaa
set_option linter.unusedVariables false
set_option linter.unusedSimpArgs false
open Go.RowKit

/-- nothing but the list's own blocks turned -/
def Turned (g : Nat) (ns : List Nd) (w w' : World) : Prop := w'.os = w.os ∧ w'.tape = w.tape ∧ w'.output = w.output ∧ w.heap.size ≤ w'.heap.size ∧ ∀ k, k < w.heap.size → k ≠ g → (∀ i, i < ns.length → k ≠ (ns.getD i default).b) → w'.heap[k]? = w.heap[k]?
theorem Turned.of {g : Nat} {ns : List Nd} {w w' : World} (h : Below w.heap.size w w') : Turned g ns w w' := ⟨h.os, h.tape, h.output, h.size, fun k hk _ _ => h.block k hk⟩
theorem Turned.trans {g : Nat} {ns : List Nd} {a b c : World} (h : Turned g ns a b) (k : Turned g ns b c) : Turned g ns a c :=
  ⟨k.1.trans h.1, k.2.1.trans h.2.1, k.2.2.1.trans h.2.2.1, Nat.le_trans h.2.2.2.1 k.2.2.2.1, fun i hi h1 h2 => (k.2.2.2.2 i (Nat.lt_of_lt_of_le hi h.2.2.2.1) h1 h2).trans (h.2.2.2.2 i hi h1 h2)⟩
/-- a store to a block of the list's own, or to one that is new -/
theorem Turned.set {g : Nat} {ns : List Nd} {a b : World} (h : Turned g ns a b) (k o : Nat) (x : Value) (hk : k = g ∨ (∃ i, i < ns.length ∧ k = (ns.getD i default).b) ∨ a.heap.size ≤ k) : Turned g ns a (b.setCell ⟨k, o, none⟩ x) :=
  ⟨h.1, h.2.1, h.2.2.1, by simpa using h.2.2.2.1, fun i hi h1 h2 => (heap_setCell_other b ⟨k, o, none⟩ i x (by
    rintro rfl
    rcases hk with rfl | ⟨j, hj, hje⟩ | hk
    · exact h1 rfl
    · exact h2 j hj hje
    · have : i < a.heap.size := hi
      omega)).trans (h.2.2.2.2 i hi h1 h2)⟩
theorem Turned.below {g : Nat} {ns : List Nd} {w w' : World} {B : Nat} (h : Turned g ns w w') (hg : B ≤ g) (hn : ∀ i, i < ns.length → B ≤ (ns.getD i default).b) (hB : B ≤ w.heap.size) : Below B w w' :=
  ⟨h.1, h.2.1, h.2.2.1, h.2.2.2.1, fun k hk => h.2.2.2.2 k (by omega) (by omega) (fun i hi => by have := hn i hi; omega)⟩
theorem Tw.blkLt {W : World} {g : Nat} {ns : List Nd} (h : Tw W g ns) (i : Nat) (hi : i < ns.length) : (ns.getD i default).b < W.heap.size := by
  obtain ⟨⟨cs, h1, _⟩, _⟩ := h.node i hi; exact heap_lt h1
theorem Tw.gLt {W : World} {g : Nat} {ns : List Nd} (h : Tw W g ns) : g < W.heap.size := by obtain ⟨cs, h1, _⟩ := h.head; exact heap_lt h1
/-- what 'Put' does -/
def PutDoes (g : Nat) (ns : List Nd) (key : ByteArray) (m : Nat) (w : World) (e : Ending) (w' : World) : Prop :=
  (m < ns.length ∧ (keysN ns).getD m ByteArray.empty = key → e = .returned (.bool false) ∧ Tw w' g ns ∧ Below w.heap.size w w') ∧
  (¬ (m < ns.length ∧ (keysN ns).getD m ByteArray.empty = key) → ∃ nb H, e = .returned (.bool true) ∧ w.heap.size ≤ nb ∧ Tw w' g (ins ns m ⟨nb, key, H⟩) ∧ Turned g ns w w')
theorem put_nil (key : ByteArray) (w : World) : Calls Try.prog 10 #[.pointer none, .string key] w fun e w' => e = .returned (.bool false) ∧ w' = w := by
  go_enter Try.func10, Try.ntmps10
  go_wp2_with fail
  go_ret
  first | trivial | exact ⟨rfl, rfl⟩
/-- the new node ahead of its first round -/
theorem Tw.toI {W W' : World} {g m nb : Nat} {ns : List Nd} {key : ByteArray} (T : Tw W g ns) (hm : m ≤ ns.length) (hb : Below W.heap.size W W') (hn : ∃ cs : Array Value, W'.heap[nb]? = some (.cells cs 45 (0, 0)) ∧ cs.size = 9) (hk : W'.cell? ⟨nb, 0, none⟩ = some (.string key)) : TwI W' g ns m nb key 0 := by
  have T' := T.below hb
  refine ⟨T'.head, T'.draws, T'.count, T'.size, T'.node, ⟨hn, hk⟩, link_new hm T'.linked (fun i h _ _ => rfl)⟩
set_option maxRecDepth 100000 in
set_option maxHeartbeats 4000000 in
theorem put_any (g : Nat) (ns : List Nd) (key : ByteArray) (w : World) (h : Tw w g ns) (hl : ns.length ≤ 1000000) (hs : sizeN ns ≤ 1000000000) (hks : key.size ≤ 1000000000) (m : Nat) (hm : First (keysOf (keysN ns)) (Ahead false key.data.toList) m) :
    Calls Try.prog 10 #[.pointer (some ⟨g, 0, none⟩), .string key] w (PutDoes g ns key m w) := by
  have HP := Lib.hid (path_less g ns m key w h hm)
  have HT := Lib.hid h
  have HM := Lib.hid hm
  have hmn : m ≤ ns.length := by have := hm.1; rwa [length_keysN] at this
  have HMN := Lib.hid hmn
  clear h hm hmn
  go_enter Try.func10, Try.ntmps10
  go_wp2_with fail
  refine HP.out.mono ?_
  clear HP
  intro e w2 hp
  obtain ⟨q, rfl, hq, hb⟩ := pathIs_cells hp
  have hq0 := last_zero HT.out HMN.out (hq 0 (by omega))
  have HQ := Lib.hid hq
  have HT2 := Lib.hid (HT.out.below hb)
  have HB2 := Lib.hid hb
  have HB3 := Lib.hid (hb.alloc hb.size (.cells #[.pointer (some ⟨q 0, 0, none⟩), .pointer (some ⟨q 1, 0, none⟩), .pointer (some ⟨q 2, 0, none⟩), .pointer (some ⟨q 3, 0, none⟩), .pointer (some ⟨q 4, 0, none⟩), .pointer (some ⟨q 5, 0, none⟩), .pointer (some ⟨q 6, 0, none⟩), .pointer (some ⟨q 7, 0, none⟩)] 43))
  have HT3 := Lib.hid (HT2.out.below ((Below.refl _ _).alloc (Nat.le_refl _) (.cells #[.pointer (some ⟨q 0, 0, none⟩), .pointer (some ⟨q 1, 0, none⟩), .pointer (some ⟨q 2, 0, none⟩), .pointer (some ⟨q 3, 0, none⟩), .pointer (some ⟨q 4, 0, none⟩), .pointer (some ⟨q 5, 0, none⟩), .pointer (some ⟨q 6, 0, none⟩), .pointer (some ⟨q 7, 0, none⟩)] 43)))
  have HXP := Lib.hid (heap_alloc_new w2 (.cells #[.pointer (some ⟨q 0, 0, none⟩), .pointer (some ⟨q 1, 0, none⟩), .pointer (some ⟨q 2, 0, none⟩), .pointer (some ⟨q 3, 0, none⟩), .pointer (some ⟨q 4, 0, none⟩), .pointer (some ⟨q 5, 0, none⟩), .pointer (some ⟨q 6, 0, none⟩), .pointer (some ⟨q 7, 0, none⟩)] 43))
  have HGP : Hid (w.heap.size ≤ w2.heap.size) := hb.size
  obtain ⟨n1, n2⟩ := next_zero HT3.out HMN.out
  rw [← hq0] at n1 n2
  clear hp hq hq0 hb
  by_cases hyes : m < ns.length ∧ (keysN ns).getD m ByteArray.empty = key
  · have c1 := n1 hyes.1
    obtain ⟨_, ck, _⟩ := HT3.out.node m hyes.1
    have hkk : (keysN ns).getD m ByteArray.empty = (ns.getD m default).key := by simp [keysN, List.getD_eq_getElem?_getD, List.getElem?_map, List.getElem?_eq_getElem hyes.1]
    have he := text_eq_yes _ _ (hkk.symm.trans hyes.2)
    have HY := Lib.hid hyes
    generalize (ns.getD m default).key = kk at *
    generalize (ns.getD m default).b = bb at *
    clear n1 n2 hyes hkk
    go_wp2_with fail
    go_ret
    exact ⟨fun _ => ⟨rfl, HT3.out, HB3.out⟩, fun hn => absurd HY.out hn⟩
  · have HNo := Lib.hid hyes
    by_cases hlt : m < ns.length
    · have c1 := n1 hlt
      obtain ⟨_, ck, _⟩ := HT3.out.node m hlt
      have hkk : (keysN ns).getD m ByteArray.empty = (ns.getD m default).key := by simp [keysN, List.getD_eq_getElem?_getD, List.getElem?_map, List.getElem?_eq_getElem hlt]
      have he := text_eq_no _ _ (fun e => hyes ⟨hlt, hkk.trans e⟩)
      clear n1 n2 hyes hkk hlt
      generalize (ns.getD m default).key = kk at *
      generalize (ns.getD m default).b = bb at *
      have HB4 := Lib.hid (HB3.out.alloc HB3.out.size (.cells #[.string key, .pointer none, .pointer none, .pointer none, .pointer none, .pointer none, .pointer none, .pointer none, .pointer none] 45))
      have HT4 := Lib.hid (HT3.out.below ((Below.refl _ _).alloc (Nat.le_refl _) (.cells #[.string key, .pointer none, .pointer none, .pointer none, .pointer none, .pointer none, .pointer none, .pointer none, .pointer none] 45)))
      have hsz : (w2.alloc (.cells #[.pointer (some ⟨q 0, 0, none⟩), .pointer (some ⟨q 1, 0, none⟩), .pointer (some ⟨q 2, 0, none⟩), .pointer (some ⟨q 3, 0, none⟩), .pointer (some ⟨q 4, 0, none⟩), .pointer (some ⟨q 5, 0, none⟩), .pointer (some ⟨q 6, 0, none⟩), .pointer (some ⟨q 7, 0, none⟩)] 43)).heap.size = w2.heap.size + 1 := by simp
      have hxn := heap_alloc_new (w2.alloc (.cells #[.pointer (some ⟨q 0, 0, none⟩), .pointer (some ⟨q 1, 0, none⟩), .pointer (some ⟨q 2, 0, none⟩), .pointer (some ⟨q 3, 0, none⟩), .pointer (some ⟨q 4, 0, none⟩), .pointer (some ⟨q 5, 0, none⟩), .pointer (some ⟨q 6, 0, none⟩), .pointer (some ⟨q 7, 0, none⟩)] 43)) (.cells #[.string key, .pointer none, .pointer none, .pointer none, .pointer none, .pointer none, .pointer none, .pointer none, .pointer none] 45)
      rw [hsz] at hxn
      have HXN := Lib.hid hxn
      have HXP4 := Lib.hid ((Below.heap_alloc (w2.alloc (.cells #[.pointer (some ⟨q 0, 0, none⟩), .pointer (some ⟨q 1, 0, none⟩), .pointer (some ⟨q 2, 0, none⟩), .pointer (some ⟨q 3, 0, none⟩), .pointer (some ⟨q 4, 0, none⟩), .pointer (some ⟨q 5, 0, none⟩), .pointer (some ⟨q 6, 0, none⟩), .pointer (some ⟨q 7, 0, none⟩)] 43)) (.cells #[.string key, .pointer none, .pointer none, .pointer none, .pointer none, .pointer none, .pointer none, .pointer none, .pointer none] 45) _ (heap_lt HXP.out)).trans HXP.out)
      clear hsz hxn
      go_upto_region 8 with (fail)
      generalize ((w2.alloc (.cells #[.pointer (some ⟨q 0, 0, none⟩), .pointer (some ⟨q 1, 0, none⟩), .pointer (some ⟨q 2, 0, none⟩), .pointer (some ⟨q 3, 0, none⟩), .pointer (some ⟨q 4, 0, none⟩), .pointer (some ⟨q 5, 0, none⟩), .pointer (some ⟨q 6, 0, none⟩), .pointer (some ⟨q 7, 0, none⟩)] 43)).alloc (.cells #[.string key, .pointer none, .pointer none, .pointer none, .pointer none, .pointer none, .pointer none, .pointer none, .pointer none] 45)) = W4 at *
      clear HXP HT3 HB3 HT2 HB2
      generalize w2.heap.size = gp at *
      have hgl := HT.out.gLt
      have hgp := HGP.out
      have HHt := Lib.hid (height_any g ns W4 HT4.out)
      go_wp2_with fail
      refine HHt.out.mono ?_
      clear HHt
      rintro e w5 ⟨⟨H, rfl, hH0, hH8⟩, hT5, hg5, hs5⟩
      have hxp5 := (hg5.block gp (heap_lt HXP4.out) (by simp; omega)).trans HXP4.out
      have hxn5 := (hg5.block (gp + 1) (heap_lt HXN.out) (by simp; omega)).trans HXN.out
      have HTI : Hid (TwI w5 g ns m (gp + 1) key 0) := hT5.toI HMN.out (Below.refl _ _) ⟨_, hxn5, rfl⟩ ((heap_cell hxn5 0).trans rfl)
      have HTU : Hid (Turned g ns w w5) := ⟨hg5.os.trans HB4.out.os, hg5.tape.trans HB4.out.tape, hg5.output.trans HB4.out.output, Nat.le_trans HB4.out.size hg5.size, fun k hk h1 h2 => (hg5.block k (Nat.lt_of_lt_of_le hk HB4.out.size) (by simp; omega)).trans (HB4.out.block k hk)⟩
      have HXP5 := Lib.hid hxp5
      have HnbF : Hid (gp + 1 ≠ g ∧ ∀ i, i < ns.length → (ns.getD i default).b ≠ gp + 1) := ⟨by omega, fun i hi => by have := HT.out.blkLt i hi; omega⟩
      clear hT5 hg5 hs5 hxp5 hxn5 HXN HXP4 HT4 HB4 c1
      go_wp2_with fail
      have hrel0 : Hid (TwI w5 g ns m (gp + 1) key 0 ∧ w5.heap[gp]? = some (.cells #[.pointer (some ⟨q 0, 0, none⟩), .pointer (some ⟨q 1, 0, none⟩), .pointer (some ⟨q 2, 0, none⟩), .pointer (some ⟨q 3, 0, none⟩), .pointer (some ⟨q 4, 0, none⟩), .pointer (some ⟨q 5, 0, none⟩), .pointer (some ⟨q 6, 0, none⟩), .pointer (some ⟨q 7, 0, none⟩)] 43 (0, 0)) ∧ Turned g ns w w5) := ⟨HTI.out, HXP5.out, HTU.out⟩
      clear HTI HXP5 HTU
      go_loopw [35] (fun i wr => ∃ h : Nat, i = .int .i64 h ∧ h ≤ H ∧ Hid (TwI wr g ns m (gp + 1) key h ∧ wr.heap[gp]? = some (.cells #[.pointer (some ⟨q 0, 0, none⟩), .pointer (some ⟨q 1, 0, none⟩), .pointer (some ⟨q 2, 0, none⟩), .pointer (some ⟨q 3, 0, none⟩), .pointer (some ⟨q 4, 0, none⟩), .pointer (some ⟨q 5, 0, none⟩), .pointer (some ⟨q 6, 0, none⟩), .pointer (some ⟨q 7, 0, none⟩)] 43 (0, 0)) ∧ Turned g ns w wr)) (fun i _ => H - (intOf i).toNat)
      case atStart => exact ⟨0, rfl, Nat.zero_le _, hrel0⟩
      case round =>
        clear hrel0
        obtain ⟨h, rfl, hhH, hst⟩ := hrel
        obtain ⟨hTI, hxp, hTU⟩ := hst.out
        have HTI := Lib.hid hTI
        have HXP := Lib.hid hxp
        have HTU := Lib.hid hTU
        clear hst
        by_cases hlt2 : h < H
        · have h8 : h < 8 := by omega
          have dh : decide ((h : Int) < (H : Int)) = true := decide_eq_true (by omega)
          have hin8 : (h : Int) < 8 := by omega
          have cp : wr.cell? ⟨gp, h, none⟩ = some (.pointer (some ⟨q h, 0, none⟩)) := by
            rw [heap_cell hxp h]
            rcases (show h = 0 ∨ h = 1 ∨ h = 2 ∨ h = 3 ∨ h = 4 ∨ h = 5 ∨ h = 6 ∨ h = 7 by omega) with rfl | rfl | rfl | rfl | rfl | rfl | rfl | rfl <;> rfl
          have hIL := HQ.out h h8
          obtain ⟨v, hv, hnx⟩ := last_next HMN.out h8 hIL hTI.linked
          obtain ⟨ov, hov⟩ : ∃ o, v = .pointer o := by
            rcases hnx with ⟨e, _⟩ | ⟨j, _, _, _, _, e⟩
            · exact ⟨_, e⟩
            · exact ⟨_, e⟩
          subst hov
          obtain ⟨⟨ncs, hn1, hn2⟩, _⟩ := hTI.new
          obtain ⟨nx, hnc⟩ := row_cell_some hn1 (1 + h) (by omega)
          have fn := frozen_of_row wr (gp + 1) (1 + h) ncs 45 hn1
          have fp : wr.frozen? ⟨q h, 1 + h, none⟩ = false := by
            obtain ⟨i, hi1, hi2, _⟩ := hIL
            obtain ⟨pcs, pt, hp1, _⟩ := hTI.posHeap i (by have := HMN.out; omega)
            rw [← hi2] at hp1
            exact frozen_of_row wr (q h) (1 + h) pcs pt hp1
          have hqn : ¬ q h = gp + 1 := by
            obtain ⟨i, hi1, hi2, _⟩ := hIL
            rw [hi2]
            unfold posB
            by_cases h0 : i = 0
            · rw [if_pos h0]; omega
            · rw [if_neg h0]; exact HnbF.out.2 _ (by have := HMN.out; omega)
          have hqn2 : ¬ gp + 1 = q h := fun e => hqn e.symm
          have hqK : q h = g ∨ (∃ i, i < ns.length ∧ q h = (ns.getD i default).b) ∨ w.heap.size ≤ q h := by
            obtain ⟨i, hi1, hi2, _⟩ := hIL
            rw [hi2]
            unfold posB
            by_cases h0 : i = 0
            · rw [if_pos h0]; exact .inl rfl
            · rw [if_neg h0]; exact .inr (.inl ⟨i - 1, by have := HMN.out; omega, rfl⟩)
          have hqp : gp ≠ q h := by
            intro e
            rcases hqK with c | ⟨j, hj, c⟩ | c
            · omega
            · have := HT.out.blkLt j hj; omega
            · obtain ⟨i, hi1, hi2, _⟩ := hIL
              unfold posB at hi2
              by_cases h0 : i = 0
              · rw [if_pos h0] at hi2; omega
              · rw [if_neg h0] at hi2
                have := HT.out.blkLt (i - 1) (by have := HMN.out; omega)
                omega
          have HIL := Lib.hid hIL
          have HNX := Lib.hid hnx
          have HQK := Lib.hid hqK
          have HQP := Lib.hid hqp
          clear hTI hTU hxp hIL hnx hqK hn1 hqp
          generalize q h = pb at *
          go_wp2_with fail
          go_region
          go_wp2
          go_roundw
          case rel =>
            refine ⟨h + 1, by go_num, by omega, ⟨(HTI.out.step HMN.out h8 HT.out.apart HnbF.out.1 HnbF.out.2 HIL.out HNX.out).drew, ?_, ?_⟩⟩
            · exact (heap_setCell_other _ ⟨pb, 1 + h, none⟩ gp _ HQP.out).trans ((heap_setCell_other _ ⟨gp + 1, 1 + h, none⟩ gp _ (by simp only; omega)).trans HXP.out)
            · exact (HTU.out.set (gp + 1) (1 + h) _ (.inr (.inr (by omega)))).set pb (1 + h) _ HQK.out
          case measure => simp [intOf]; omega
        · obtain rfl : h = H := by omega
          have dh : decide ((h : Int) < (h : Int)) = false := by simp
          have c10 := hTI.count
          have c11 := hTI.size
          obtain ⟨hcs, hh1, hh2⟩ := hTI.head
          have f10 := frozen_of_row wr g 10 hcs 47 hh1
          have f11 := frozen_of_row wr g 11 hcs 47 hh1
          have hw1 : IntKind.i64.wrap ((ns.length : Int) + 1) = ((ns.length + 1 : Nat) : Int) := by rw [IntKind.wrap_i64]; omega
          have hw2 : IntKind.i64.wrap ((sizeN ns : Int) + (key.size : Int)) = ((sizeN ns + key.size : Nat) : Int) := by rw [IntKind.wrap_i64]; omega
          have HFin := Lib.hid (TwI.finish hTI HMN.out hH0 hH8 HT.out.apart HnbF.out.1 HnbF.out.2 HT.out.rises HM.out HNo.out)
          have HTF := Lib.hid ((hTU.set g 10 (.int .i64 ((ns.length + 1 : Nat) : Int)) (.inl rfl)).set g 11 (.int .i64 ((sizeN ns + key.size : Nat) : Int)) (.inl rfl))
          clear hTI hTU hxp hh1 HTI HTU HXP
          go_wp2_with fail
          go_ret
          exact ⟨fun hy => absurd hy HNo.out, fun _ => ⟨gp + 1, h, rfl, by omega, HFin.out, HTF.out⟩⟩
    · have c1 := n2 hlt
      clear n1 n2 hyes hlt
      have HB4 := Lib.hid (HB3.out.alloc HB3.out.size (.cells #[.string key, .pointer none, .pointer none, .pointer none, .pointer none, .pointer none, .pointer none, .pointer none, .pointer none] 45))
      have HT4 := Lib.hid (HT3.out.below ((Below.refl _ _).alloc (Nat.le_refl _) (.cells #[.string key, .pointer none, .pointer none, .pointer none, .pointer none, .pointer none, .pointer none, .pointer none, .pointer none] 45)))
      have hsz : (w2.alloc (.cells #[.pointer (some ⟨q 0, 0, none⟩), .pointer (some ⟨q 1, 0, none⟩), .pointer (some ⟨q 2, 0, none⟩), .pointer (some ⟨q 3, 0, none⟩), .pointer (some ⟨q 4, 0, none⟩), .pointer (some ⟨q 5, 0, none⟩), .pointer (some ⟨q 6, 0, none⟩), .pointer (some ⟨q 7, 0, none⟩)] 43)).heap.size = w2.heap.size + 1 := by simp
      have hxn := heap_alloc_new (w2.alloc (.cells #[.pointer (some ⟨q 0, 0, none⟩), .pointer (some ⟨q 1, 0, none⟩), .pointer (some ⟨q 2, 0, none⟩), .pointer (some ⟨q 3, 0, none⟩), .pointer (some ⟨q 4, 0, none⟩), .pointer (some ⟨q 5, 0, none⟩), .pointer (some ⟨q 6, 0, none⟩), .pointer (some ⟨q 7, 0, none⟩)] 43)) (.cells #[.string key, .pointer none, .pointer none, .pointer none, .pointer none, .pointer none, .pointer none, .pointer none, .pointer none] 45)
      rw [hsz] at hxn
      have HXN := Lib.hid hxn
      have HXP4 := Lib.hid ((Below.heap_alloc (w2.alloc (.cells #[.pointer (some ⟨q 0, 0, none⟩), .pointer (some ⟨q 1, 0, none⟩), .pointer (some ⟨q 2, 0, none⟩), .pointer (some ⟨q 3, 0, none⟩), .pointer (some ⟨q 4, 0, none⟩), .pointer (some ⟨q 5, 0, none⟩), .pointer (some ⟨q 6, 0, none⟩), .pointer (some ⟨q 7, 0, none⟩)] 43)) (.cells #[.string key, .pointer none, .pointer none, .pointer none, .pointer none, .pointer none, .pointer none, .pointer none, .pointer none] 45) _ (heap_lt HXP.out)).trans HXP.out)
      clear hsz hxn
      go_upto_region 8 with (fail)
      generalize ((w2.alloc (.cells #[.pointer (some ⟨q 0, 0, none⟩), .pointer (some ⟨q 1, 0, none⟩), .pointer (some ⟨q 2, 0, none⟩), .pointer (some ⟨q 3, 0, none⟩), .pointer (some ⟨q 4, 0, none⟩), .pointer (some ⟨q 5, 0, none⟩), .pointer (some ⟨q 6, 0, none⟩), .pointer (some ⟨q 7, 0, none⟩)] 43)).alloc (.cells #[.string key, .pointer none, .pointer none, .pointer none, .pointer none, .pointer none, .pointer none, .pointer none, .pointer none] 45)) = W4 at *
      clear HXP HT3 HB3 HT2 HB2
      generalize w2.heap.size = gp at *
      have hgl := HT.out.gLt
      have hgp := HGP.out
      have HHt := Lib.hid (height_any g ns W4 HT4.out)
      go_wp2_with fail
      refine HHt.out.mono ?_
      clear HHt
      rintro e w5 ⟨⟨H, rfl, hH0, hH8⟩, hT5, hg5, hs5⟩
      have hxp5 := (hg5.block gp (heap_lt HXP4.out) (by simp; omega)).trans HXP4.out
      have hxn5 := (hg5.block (gp + 1) (heap_lt HXN.out) (by simp; omega)).trans HXN.out
      have HTI : Hid (TwI w5 g ns m (gp + 1) key 0) := hT5.toI HMN.out (Below.refl _ _) ⟨_, hxn5, rfl⟩ ((heap_cell hxn5 0).trans rfl)
      have HTU : Hid (Turned g ns w w5) := ⟨hg5.os.trans HB4.out.os, hg5.tape.trans HB4.out.tape, hg5.output.trans HB4.out.output, Nat.le_trans HB4.out.size hg5.size, fun k hk h1 h2 => (hg5.block k (Nat.lt_of_lt_of_le hk HB4.out.size) (by simp; omega)).trans (HB4.out.block k hk)⟩
      have HXP5 := Lib.hid hxp5
      have HnbF : Hid (gp + 1 ≠ g ∧ ∀ i, i < ns.length → (ns.getD i default).b ≠ gp + 1) := ⟨by omega, fun i hi => by have := HT.out.blkLt i hi; omega⟩
      clear hT5 hg5 hs5 hxp5 hxn5 HXN HXP4 HT4 HB4 c1
      go_wp2_with fail
      have hrel0 : Hid (TwI w5 g ns m (gp + 1) key 0 ∧ w5.heap[gp]? = some (.cells #[.pointer (some ⟨q 0, 0, none⟩), .pointer (some ⟨q 1, 0, none⟩), .pointer (some ⟨q 2, 0, none⟩), .pointer (some ⟨q 3, 0, none⟩), .pointer (some ⟨q 4, 0, none⟩), .pointer (some ⟨q 5, 0, none⟩), .pointer (some ⟨q 6, 0, none⟩), .pointer (some ⟨q 7, 0, none⟩)] 43 (0, 0)) ∧ Turned g ns w w5) := ⟨HTI.out, HXP5.out, HTU.out⟩
      clear HTI HXP5 HTU
      go_loopw [35] (fun i wr => ∃ h : Nat, i = .int .i64 h ∧ h ≤ H ∧ Hid (TwI wr g ns m (gp + 1) key h ∧ wr.heap[gp]? = some (.cells #[.pointer (some ⟨q 0, 0, none⟩), .pointer (some ⟨q 1, 0, none⟩), .pointer (some ⟨q 2, 0, none⟩), .pointer (some ⟨q 3, 0, none⟩), .pointer (some ⟨q 4, 0, none⟩), .pointer (some ⟨q 5, 0, none⟩), .pointer (some ⟨q 6, 0, none⟩), .pointer (some ⟨q 7, 0, none⟩)] 43 (0, 0)) ∧ Turned g ns w wr)) (fun i _ => H - (intOf i).toNat)
      case atStart => exact ⟨0, rfl, Nat.zero_le _, hrel0⟩
      case round =>
        clear hrel0
        obtain ⟨h, rfl, hhH, hst⟩ := hrel
        obtain ⟨hTI, hxp, hTU⟩ := hst.out
        have HTI := Lib.hid hTI
        have HXP := Lib.hid hxp
        have HTU := Lib.hid hTU
        clear hst
        by_cases hlt2 : h < H
        · have h8 : h < 8 := by omega
          have dh : decide ((h : Int) < (H : Int)) = true := decide_eq_true (by omega)
          have hin8 : (h : Int) < 8 := by omega
          have cp : wr.cell? ⟨gp, h, none⟩ = some (.pointer (some ⟨q h, 0, none⟩)) := by
            rw [heap_cell hxp h]
            rcases (show h = 0 ∨ h = 1 ∨ h = 2 ∨ h = 3 ∨ h = 4 ∨ h = 5 ∨ h = 6 ∨ h = 7 by omega) with rfl | rfl | rfl | rfl | rfl | rfl | rfl | rfl <;> rfl
          have hIL := HQ.out h h8
          obtain ⟨v, hv, hnx⟩ := last_next HMN.out h8 hIL hTI.linked
          obtain ⟨ov, hov⟩ : ∃ o, v = .pointer o := by
            rcases hnx with ⟨e, _⟩ | ⟨j, _, _, _, _, e⟩
            · exact ⟨_, e⟩
            · exact ⟨_, e⟩
          subst hov
          obtain ⟨⟨ncs, hn1, hn2⟩, _⟩ := hTI.new
          obtain ⟨nx, hnc⟩ := row_cell_some hn1 (1 + h) (by omega)
          have fn := frozen_of_row wr (gp + 1) (1 + h) ncs 45 hn1
          have fp : wr.frozen? ⟨q h, 1 + h, none⟩ = false := by
            obtain ⟨i, hi1, hi2, _⟩ := hIL
            obtain ⟨pcs, pt, hp1, _⟩ := hTI.posHeap i (by have := HMN.out; omega)
            rw [← hi2] at hp1
            exact frozen_of_row wr (q h) (1 + h) pcs pt hp1
          have hqn : ¬ q h = gp + 1 := by
            obtain ⟨i, hi1, hi2, _⟩ := hIL
            rw [hi2]
            unfold posB
            by_cases h0 : i = 0
            · rw [if_pos h0]; omega
            · rw [if_neg h0]; exact HnbF.out.2 _ (by have := HMN.out; omega)
          have hqn2 : ¬ gp + 1 = q h := fun e => hqn e.symm
          have hqK : q h = g ∨ (∃ i, i < ns.length ∧ q h = (ns.getD i default).b) ∨ w.heap.size ≤ q h := by
            obtain ⟨i, hi1, hi2, _⟩ := hIL
            rw [hi2]
            unfold posB
            by_cases h0 : i = 0
            · rw [if_pos h0]; exact .inl rfl
            · rw [if_neg h0]; exact .inr (.inl ⟨i - 1, by have := HMN.out; omega, rfl⟩)
          have hqp : gp ≠ q h := by
            intro e
            rcases hqK with c | ⟨j, hj, c⟩ | c
            · omega
            · have := HT.out.blkLt j hj; omega
            · obtain ⟨i, hi1, hi2, _⟩ := hIL
              unfold posB at hi2
              by_cases h0 : i = 0
              · rw [if_pos h0] at hi2; omega
              · rw [if_neg h0] at hi2
                have := HT.out.blkLt (i - 1) (by have := HMN.out; omega)
                omega
          have HIL := Lib.hid hIL
          have HNX := Lib.hid hnx
          have HQK := Lib.hid hqK
          have HQP := Lib.hid hqp
          clear hTI hTU hxp hIL hnx hqK hn1 hqp
          generalize q h = pb at *
          go_wp2_with fail
          go_region
          go_wp2
          go_roundw
          case rel =>
            refine ⟨h + 1, by go_num, by omega, ⟨(HTI.out.step HMN.out h8 HT.out.apart HnbF.out.1 HnbF.out.2 HIL.out HNX.out).drew, ?_, ?_⟩⟩
            · exact (heap_setCell_other _ ⟨pb, 1 + h, none⟩ gp _ HQP.out).trans ((heap_setCell_other _ ⟨gp + 1, 1 + h, none⟩ gp _ (by simp only; omega)).trans HXP.out)
            · exact (HTU.out.set (gp + 1) (1 + h) _ (.inr (.inr (by omega)))).set pb (1 + h) _ HQK.out
          case measure => simp [intOf]; omega
        · obtain rfl : h = H := by omega
          have dh : decide ((h : Int) < (h : Int)) = false := by simp
          have c10 := hTI.count
          have c11 := hTI.size
          obtain ⟨hcs, hh1, hh2⟩ := hTI.head
          have f10 := frozen_of_row wr g 10 hcs 47 hh1
          have f11 := frozen_of_row wr g 11 hcs 47 hh1
          have hw1 : IntKind.i64.wrap ((ns.length : Int) + 1) = ((ns.length + 1 : Nat) : Int) := by rw [IntKind.wrap_i64]; omega
          have hw2 : IntKind.i64.wrap ((sizeN ns : Int) + (key.size : Int)) = ((sizeN ns + key.size : Nat) : Int) := by rw [IntKind.wrap_i64]; omega
          have HFin := Lib.hid (TwI.finish hTI HMN.out hH0 hH8 HT.out.apart HnbF.out.1 HnbF.out.2 HT.out.rises HM.out HNo.out)
          have HTF := Lib.hid ((hTU.set g 10 (.int .i64 ((ns.length + 1 : Nat) : Int)) (.inl rfl)).set g 11 (.int .i64 ((sizeN ns + key.size : Nat) : Int)) (.inl rfl))
          clear hTI hTU hxp hh1 HTI HTU HXP
          go_wp2_with fail
          go_ret
          exact ⟨fun hy => absurd hy HNo.out, fun _ => ⟨gp + 1, h, rfl, by omega, HFin.out, HTF.out⟩⟩
end Go.Proofs.Ytbamohcaamgalaa
