/- The laws of the filters of keys, walked. -/
import Derived.Test.YtlhgjecbjfiljaaWalkI
import Derived.Test.YtlhgjecbjfiljaaPlain
namespace Go.Proofs.Ytlhgjecbjfiljaa
open Go.RowKit

theorem IsBytes.below {w w' : World} {a : Option Addr} {l : List UInt8} (h : IsBytes w a l) (hb : Below w.heap.size w w') : IsBytes w' a l := by
  intro h0
  obtain ⟨b, off, ha, hbw, hc⟩ := h h0
  exact ⟨b, off, ha, Nat.lt_of_lt_of_le hbw hb.size, fun k hk => (hb.cell (p := ⟨b, off + k, none⟩) hbw).trans (hc k hk)⟩
theorem IsStrs.below {w w' : World} {a : Option Addr} {l : List ByteArray} (h : IsStrs w a l) (hb : Below w.heap.size w w') : IsStrs w' a l := by
  intro h0
  obtain ⟨b, off, ha, hbw, hc⟩ := h h0
  exact ⟨b, off, ha, Nat.lt_of_lt_of_le hbw hb.size, fun k hk => (hb.cell (p := ⟨b, off + k, none⟩) hbw).trans (hc k hk)⟩

set_option maxHeartbeats 1000000 in
theorem lawMay (a : Option Addr) (cap : Nat) (l : List UInt8) (s : ByteArray) (w : World) (hl : l.length ≤ 9223372036854775807) (hs : s.size ≤ 9223372036854775807) (h : IsBytes w a l) :
    Calls Try.prog 4 #[.slice a l.length cap, .string s] w fun e w' => e = .returned (.bool true) ∧ Below w.heap.size w w' := by
  have H := Lib.hid h
  clear h
  by_cases h1 : 3000 < l.length
  · go_enter Try.func4, Try.ntmps4
    go_wp2_with (go_at_call 7; refine (fixed_any _).mono ?_; rintro e w1 ⟨rfl, hb1⟩)
    go_ret
    exact ⟨rfl, hb1⟩
  · by_cases h2 : 300 < s.size
    · go_enter Try.func4, Try.ntmps4
      go_wp2_with (go_at_call 7; refine (fixed_any _).mono ?_; rintro e w1 ⟨rfl, hb1⟩)
      go_ret
      exact ⟨rfl, hb1⟩
    · go_enter Try.func4, Try.ntmps4
      go_wp2_with (go_at_call 7; refine (fixed_any _).mono ?_; rintro e w1 ⟨rfl, hb1⟩)
      refine (may_any a cap l s _ (by omega) (by omega) (H.out.below hb1)).mono ?_
      rintro e w2 ⟨rfl, hb2⟩
      go_wp2_with fail
      refine (refmay_any a cap l s _ (by omega) (by omega) ((H.out.below hb1).below hb2)).mono ?_
      rintro e w3 ⟨rfl, hb3⟩
      go_wp2_with fail
      go_ret
      exact ⟨ret_bool (by simp), hb1.trans ((hb2.mono hb1.size).trans (hb3.mono (Nat.le_trans hb1.size hb2.size)))⟩

theorem filter_len (keys : List (List UInt8)) (b : Int) (hk : keys.length ≤ 200) : 9 ≤ (filter keys b).length ∧ (filter keys b).length ≤ 3000 := by
  have hc := clamp_bd b
  obtain ⟨s1, s2⟩ := size_int keys.length (clamp b) hk hc.1 hc.2
  have e : (filter keys b).length = bytesFor keys.length (clamp b) + 1 := by simp [filter, length_setKeys]
  rw [e]
  unfold bytesFor
  omega
theorem getD_mem (l : List ByteArray) (k : Nat) (h : k < l.length) : l.getD k ByteArray.empty ∈ l := by
  simp only [List.getD, h, List.getElem?_eq_getElem, Option.getD_some, List.getElem_mem]
theorem few_len (l : List ByteArray) (hf : fewB l = true) : l.length ≤ 200 := by simp [fewB] at hf; exact hf.2
set_option maxHeartbeats 1000000 in
theorem lawHas (a : Option Addr) (cap : Nat) (keys : List ByteArray) (b : Int) (w : World) (hl : keys.length ≤ 9223372036854775807) (h : IsStrs w a keys) :
    Calls Try.prog 5 #[.slice a keys.length cap, .int .i64 b] w fun e w' => e = .returned (.bool true) ∧ Below w.heap.size w w' := by
  have H := Lib.hid h
  clear h
  by_cases hf : fewB keys = true
  · have HF := Lib.hid hf
    go_enter Try.func5, Try.ntmps5
    go_wp2_with fail
    refine (fixed_any _).mono ?_
    rintro e w1 ⟨rfl, hb1⟩
    go_wp2_with fail
    refine (few_any a cap keys _ hl (H.out.below hb1)).mono ?_
    rintro e w2 ⟨rfl, rfl⟩
    rw [HF.out]
    go_wp2_with fail
    refine (make_any a cap keys b _ HF.out (H.out.below hb1)).mono ?_
    rintro e w3 ⟨v, rfl, hown, hb3⟩
    have hfl := filter_len (keys.map (·.data.toList)) b (by rw [List.length_map]; exact few_len keys HF.out)
    obtain ⟨g, cp, rfl, hg1, hg2, hg3⟩ := row_shape hown (by omega)
    have hB := Lib.hid (isBytes_row hown)
    have hk3 := Lib.hid ((H.out.below hb1).below hb3)
    have hfm := Lib.hid (fun x hx => filter_may (keys.map (·.data.toList)) b x hx)
    clear hown
    generalize filter (keys.map (·.data.toList)) b = f at *
    have hB0 := hb1.trans (hb3.mono hb1.size)
    go_wp2_with fail
    go_loopw [18] (fun i wr => ∃ k : Nat, k ≤ keys.length ∧ i = .int .i64 k ∧ Below w3.heap.size w3 wr) (fun i _ => keys.length - (intOf i).toNat)
    case atStart => exact ⟨0, Nat.zero_le _, rfl, Below.refl _ _⟩
    case round =>
      obtain ⟨k, hk, rfl, hbel⟩ := hrel
      by_cases hlt : k < keys.length
      · obtain ⟨b1, off, rfl, hbb, hcs⟩ := (hk3.out.below hbel) (by omega)
        have hck := hcs k hlt
        have hs300 := few_size keys k hlt HF.out
        have hmem : Hid (may f (keys.getD k ByteArray.empty).data.toList = true) := hfm.out _ (List.mem_map.2 ⟨_, getD_mem keys k hlt, rfl⟩)
        generalize keys.getD k ByteArray.empty = s at *
        clear hcs
        go_wp2_with (go_at_call 13; refine (may_any (some ⟨g, 0, none⟩) cp f s _ (by omega) hs300 (hB.out.below hbel)).mono ?_; rintro e w4 ⟨rfl, hb4⟩; rw [hmem.out])
        go_roundw
        case rel => exact ⟨k + 1, by omega, by go_num, hbel.trans (hb4.mono hbel.size)⟩
        case measure => simp [intOf]; omega
      · go_wp2
        go_ret
        exact ⟨rfl, hB0.trans (hbel.mono hB0.size)⟩
  · have HF : Hid (fewB keys = false) := by have : fewB keys = false := by simpa using hf
                                            exact this
    go_enter Try.func5, Try.ntmps5
    go_wp2_with fail
    refine (fixed_any _).mono ?_
    rintro e w1 ⟨rfl, hb1⟩
    go_wp2_with fail
    refine (few_any a cap keys _ hl (H.out.below hb1)).mono ?_
    rintro e w2 ⟨rfl, rfl⟩
    rw [HF.out]
    go_wp2_with fail
    go_ret
    exact ⟨rfl, hb1⟩

theorem may_at (a : Option Addr) (cap : Nat) (l : List UInt8) (n : Nat) (s : ByteArray) (w : World) (hn : l.length = n) (hl : n ≤ 3000) (hs : s.size ≤ 300) (h : IsBytes w a l) :
    Calls Try.prog 13 #[.slice a n cap, .string s] w fun e w' => e = .returned (.bool (may l s.data.toList)) ∧ Below w.heap.size w w' := by
  subst hn
  exact may_any a cap l s w hl hs h
set_option maxHeartbeats 4000000 in
theorem lawMore (a : Option Addr) (cap : Nat) (keys : List ByteArray) (b : Int) (a2 : Option Addr) (cap2 : Nat) (more : List UInt8) (ask : ByteArray) (w : World)
    (hl : keys.length ≤ 9223372036854775807) (hl2 : more.length ≤ 9223372036854775807) (hl3 : ask.size ≤ 9223372036854775807) (h : IsStrs w a keys) (h2 : IsBytes w a2 more) :
    Calls Try.prog 6 #[.slice a keys.length cap, .int .i64 b, .slice a2 more.length cap2, .string ask] w fun e w' => e = .returned (.bool true) ∧ Below w.heap.size w w' := by
  have H := Lib.hid h
  have H2 := Lib.hid h2
  clear h h2
  by_cases hf : fewB keys = true ∧ ask.size ≤ 300 ∧ more.length ≤ 3000
  · obtain ⟨hf, hask, hmore⟩ := hf
    have HF := Lib.hid hf
    clear hf
    go_enter Try.func6, Try.ntmps6
    go_wp2_with fail
    refine (fixed_any _).mono ?_
    rintro e w1 ⟨rfl, hb1⟩
    go_wp2_with fail
    refine (few_any a cap keys _ hl (H.out.below hb1)).mono ?_
    rintro e w2 ⟨rfl, rfl⟩
    rw [HF.out]
    go_wp2_with fail
    refine (make_any a cap keys b _ HF.out (H.out.below hb1)).mono ?_
    rintro e w3 ⟨v, rfl, hown, hb3⟩
    have hfl := filter_len (keys.map (·.data.toList)) b (by rw [List.length_map]; exact few_len keys HF.out)
    obtain ⟨g, cp, rfl, hg1, hg2, hg3⟩ := row_shape hown (by omega)
    generalize filter (keys.map (·.data.toList)) b = f at *
    have hB0 := hb1.trans (hb3.mono hb1.size)
    go_wp2_with fail
    refine (may_any (some ⟨g, 0, none⟩) cp f ask _ (by omega) hask (isBytes_row hown)).mono ?_
    rintro e w4 ⟨rfl, hb4⟩
    have hown4 := Below.row hb4 hown
    have hB4 := hB0.trans (hb4.mono hB0.size)
    have h24 := H2.out.below hB4
    have H4 := Lib.hid h24
    have hwg := Nat.le_trans hb1.size hg1
    clear h24 hb4 hown hb1 hb3
    go_wp2_with fail
    go_loopw [11] (fun i wr => ∃ k : Nat, k ≤ more.length ∧ k < f.length ∧ i = .int .i64 k ∧ wr.ownsRow w.heap.size 5 1 (.slice (some ⟨g, 0, none⟩) f.length cp) f.length (bytesV (orN f more k)) ∧ Below w.heap.size w wr) (fun i _ => f.length - (intOf i).toNat)
    case atStart => exact ⟨0, Nat.zero_le _, by omega, rfl, row_base hown4 hwg, hB4⟩
    case round =>
      obtain ⟨k, hk1, hk2, rfl, hown, hbel⟩ := hrel
      have hlo := length_orN f more k
      by_cases hgo : k < more.length ∧ k + 1 < f.length
      · obtain ⟨hgo1, hgo2⟩ := hgo
        obtain ⟨b2, off, rfl, hbb, hcs⟩ := H2.out (by omega)
        have hck := (hbel.cell (p := ⟨b2, off + k, none⟩) hbb).trans (hcs k hgo1)
        have hcg := (hown.cellAt k (by omega)).trans (bytesV_get (orN f more k) k (by omega))
        have hfg := hown.frozenAt k
        have hset := bytesV_set (orN f more k) k ((orN f more k).getD k 0 ||| more.getD k 0)
        rw [show (orN f more k).set k ((orN f more k).getD k 0 ||| more.getD k 0) = orN f more (k + 1) from rfl] at hset
        have hor := u8_or_nat ((orN f more k).getD k 0).toNat (more.getD k 0).toNat (by have := ((orN f more k).getD k 0).toNat_lt; omega) (by have := (more.getD k 0).toNat_lt; omega)
        rw [← UInt8.toNat_or] at hor
        generalize (orN f more k).getD k 0 = x at *
        generalize more.getD k 0 = y at *
        have HS := Lib.hid hset
        have HO := Lib.hid hor
        have hgb : g < wr.heap.size := (hown.lt g rfl).2
        have hne : b2 ≠ g := by omega
        clear hset hor hcs hlo
        go_wp2_with fail
        go_region
        go_wp2
        go_roundw
        case rel =>
          rw [HO.out]
          refine ⟨k + 1, by omega, by omega, by go_num, ?_, (hbel.setCell (p := ⟨g, k, none⟩) hwg _).drew⟩
          have := (hown.stored k (.int .u8 ((x ||| y).toNat : Int))).1
          rw [HS.out] at this
          exact this
        case measure => simp [intOf]; omega
      · have hB := Lib.hid (isBytes_row hown)
        have HK := Lib.hid hk2
        by_cases hm1 : k < more.length
        case' pos => have hm2 : ¬ k + 1 < f.length := fun h => hgo ⟨hm1, h⟩
        all_goals
          clear hown hlo
          go_wp2_with fail
          · rename_i hmay
            refine (may_at (some ⟨g, 0, none⟩) cp (orN f more k) f.length ask _ (length_orN f more k) (by omega) hask hB.out).mono ?_
            rintro e w5 ⟨rfl, hb5⟩
            rw [orN_may f more ask.data.toList k HK.out (by assumption)]
            go_wp2_with fail
            go_ret
            exact ⟨rfl, hbel.trans (hb5.mono hbel.size)⟩
          · go_ret
            exact ⟨rfl, hbel⟩
  · have hlaw : ∀ bf, fewB keys = bf → bf = false ∨ 300 < ask.size ∨ 3000 < more.length := by
      intro bf hb
      cases bf
      · exact .inl rfl
      · right
        rcases Nat.lt_or_ge 300 ask.size with h | h
        · exact .inl h
        · exact .inr (Nat.lt_of_not_le fun h3 => hf ⟨hb, h, h3⟩)
    obtain ⟨bf, hbf⟩ : ∃ bf, fewB keys = bf := ⟨_, rfl⟩
    have hc := hlaw bf hbf
    have HF := Lib.hid hbf
    clear hf hlaw hbf
    by_cases h300 : 300 < ask.size
    case' neg => by_cases h3000 : 3000 < more.length
    all_goals
      cases bf
    all_goals
      first
      | (exfalso; rcases hc with h | h | h <;> first | (cases h; done) | omega)
      | (clear hc
         go_enter Try.func6, Try.ntmps6
         go_wp2_with fail
         refine (fixed_any _).mono ?_
         rintro e w1 ⟨rfl, hb1⟩
         go_wp2_with fail
         refine (few_any a cap keys _ hl (H.out.below hb1)).mono ?_
         rintro e w2 ⟨rfl, rfl⟩
         rw [HF.out]
         go_wp2_with fail
         go_ret
         exact ⟨rfl, hb1⟩)
end Go.Proofs.Ytlhgjecbjfiljaa
