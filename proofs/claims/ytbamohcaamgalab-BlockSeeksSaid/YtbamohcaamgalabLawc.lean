/- BlockSeeks: the law walked. -/
import Derived.Test.YtbamohcaamgalabLawb
namespace Go.Proofs.Ytbamohcaamgalab
set_option linter.unusedVariables false
set_option linter.unusedSimpArgs false
open Go.RowKit

theorem wpList_append_vals {P : Program} (w : World) {ops : Array Oper} {rest : List Oper} {o : Oper} {A : Act} {Q : Exit → Act → World → Prop} (hgd : o.guard = none) (s x : Operand) (t : TypeId)
    (ho : o.op = .call { callee := .builtin .append, args := #[s, x], argTypes := #[t, t] })
    (base : Nat) (e : TypeId) (i : TypeInfo) (z : Value) (size bytes : Nat) (ht : P.underlying t = some (.slice e)) (hi : P.info? e = some i) (hz : i.zero = some z) (hsize : i.size = size) (hby : i.bytes = bytes) (hzs : z.cells.size = size) (hsz : 0 < size)
    (v : Value) (n : Nat) (xs : List Value) (hs : A.eval s = v) (hown : w.ownsRow base e size v n xs) (ad : Option Addr) (m c : Nat) (news : List Value) (hx : A.eval x = .slice ad m c) (hm : news.length = m * size) (hb : IsVals w ad news) (h1 : ∀ u ∈ news, u.oneCell' = true)
    (hbd : n + m ≤ maxLen) (hbytes : (n + m) * bytes ≤ 140737488355328) (hbase : base ≤ w.heap.size)
    (h : ∀ v' w', w'.ownsRow base e size v' (n + m) (xs ++ news) → w.grownBy w' v.ownBlock → wpList P ops Q rest (A.put o.dst v') w') : wpList P ops Q (o :: rest) A w :=
  wpList_plain hgd fun K hK => wp_append_vals w s x t ho base e i z size bytes ht hi hz hsize hby hzs hsz v n xs hs hown ad m c news hx hm hb h1 hbd hbytes hbase (fun v' w' g1 g2 => hK _ _ (h v' w' g1 g2))
theorem build_blk {L : List ByteArray} (h1 : L.length ≤ 200) (h2 : ∀ i, (L.getD i ByteArray.empty).size ≤ 300) (hr : Rises (keysOf L)) : Blk (blockOf (keysOf L)) (keysOf L) :=
  ⟨hr, rfl, by rw [length_keysOf]; omega, fun i => by rw [keysOf_at, size_data]; have := h2 i; omega⟩
set_option maxRecDepth 100000 in
set_option maxHeartbeats 2000000 in
theorem lawSeeks (a : Option Addr) (cap : Nat) (l : List ByteArray) (a2 : Option Addr) (cap2 : Nat) (l2 : List ByteArray) (w : World) (hl : l.length ≤ 9223372036854775807) (hs : ∀ s ∈ l, s.size ≤ 9223372036854775807) (h : IsStrs w a l)
    (hl2 : l2.length ≤ 9223372036854775807) (hs2 : ∀ s ∈ l2, s.size ≤ 9223372036854775807) (h2 : IsStrs w a2 l2) :
    Calls Try.prog 3 #[.slice a l.length cap, .slice a2 l2.length cap2] w fun e w' => e = .returned (.bool true) ∧ Below w.heap.size w w' := by
  obtain ⟨i9, hi, hz0, hz1, hz2⟩ := info_parts Try.info9
  have HF := Lib.hid (fixed_any w)
  have H := Lib.hid h
  have H2 := Lib.hid h2
  have HS := Lib.hid hs
  have HS2 := Lib.hid hs2
  clear h hs h2 hs2
  go_enter Try.func3, Try.ntmps3
  go_wp2_with fail
  refine HF.out.mono ?_
  clear HF
  rintro e w1 ⟨rfl, hB1⟩
  have HFew := Lib.hid (few_any a cap l w1 hl HS.out (H.out.below hB1))
  go_wp2_with fail
  refine HFew.out.mono ?_
  clear HFew
  rintro e w2 ⟨⟨r, rfl, hr⟩, rfl⟩
  cases r with
  | false =>
    go_wp2_with fail
    go_ret
    exact ⟨rfl, hB1⟩
  | true =>
    obtain ⟨hln, hsz⟩ := hr rfl
    have HSz := Lib.hid hsz
    clear hr hsz
    have HFew2 := Lib.hid (few_any a2 cap2 l2 w2 hl2 HS2.out (H2.out.below hB1))
    go_wp2_with fail
    refine HFew2.out.mono ?_
    clear HFew2
    rintro e w3 ⟨⟨r, rfl, hr⟩, rfl⟩
    cases r with
    | false =>
      go_wp2_with fail
      go_ret
      exact ⟨rfl, hB1⟩
    | true =>
      obtain ⟨hln2, hsz2⟩ := hr rfl
      clear hr
      have HSort := Lib.hid (sorted_any a cap l w3 (by omega) (H.out.below hB1))
      go_wp2_with fail
      refine HSort.out.mono ?_
      clear HSort
      rintro e w4 ⟨v, L, rfl, hrow, hris, hLl, hmem, hb4⟩
      have hB4 := hB1.trans (hb4.mono hB1.size)
      obtain ⟨a4, m4, c4, rfl⟩ := row_slice hrow
      have hm4 := row_len' hrow
      subst hm4
      have hst := row_strs hrow
      have hLs : ∀ i, (L.getD i ByteArray.empty).size ≤ 300 := fun i => sizes_getD (fun s hs => sizes_mem HSz.out s (hmem s hs)) i
      have HBlk := Lib.hid (build_blk (by omega) hLs hris)
      have HBu := Lib.hid (build_any a4 c4 L w4 (by omega) (fun i => by have := hLs i; omega) hst)
      have HSt := Lib.hid hst
      have HRis := Lib.hid hris
      have hbl := block_len (by omega) hLs
      clear hrow hst hris hmem hLs hsz2 hb4
      go_wp2_with fail
      refine HBu.out.mono ?_
      clear HBu
      rintro e w5 ⟨hy5, _, hb5⟩
      obtain ⟨v5, rfl, hrow5⟩ := hy5 HRis.out
      have hB5 := hB4.trans (hb5.mono hB4.size)
      have hst5 := HSt.out.below hb5
      obtain ⟨a5, m5, c5, rfl⟩ := row_slice hrow5
      have hm5 := row_len' hrow5
      subst hm5
      have hby5 := row_bytes' hrow5
      have hcap5 := row_cap1 hrow5
      clear hy5 hb5 hrow5
      have hnew := World.ownsRow_lit (e := 9) (size := 1) (base := w5.heap.size) w5 #[] 0 (Nat.le_refl _) (by decide) rfl
      have hBx := (Below.refl w5.heap.size w5).alloc (Nat.le_refl _) (.cells #[] 9)
      have HV2 := Lib.hid (isStrs_vals ((H2.out.below hB5).below hBx))
      have HV4 := Lib.hid ((isStrs_vals hst5).below hBx)
      have HSt5 := Lib.hid hst5
      have HBy5 := Lib.hid hby5
      have h0 : w5.heap.size ≤ (w5.alloc (.cells #[] 9)).heap.size := by simp
      have hsz5 : (w5.alloc (.cells #[] 9)).heap.size = w5.heap.size + 1 := by simp
      clear hst5 hby5
      have HX2 := Lib.hid (length_strsV l2)
      have HX4 := Lib.hid (length_strsV L)
      have hl4 : L.length ≤ 200 := by omega
      obtain ⟨N, hN⟩ : ∃ N, 0 + l2.length + L.length = N := ⟨_, rfl⟩
      have hN4 : N ≤ 400 := by omega
      have HN := Lib.hid hN
      clear hN
      go_wp2_with (first
        | (at_builtin; refine wpList_append_vals (w5.alloc (.cells #[] 9)) rfl _ (.tmp 34) 22 rfl w5.heap.size 9 i9 _ 1 16 Try.underlying22 hi hz0 hz1 hz2 rfl (by decide) _ 0 _ rfl hnew a2 l2.length cap2 (strsV l2) rfl (by rw [HX2.out, Nat.mul_one]) HV2.out (strsV_one _) (by unfold maxLen; omega) (by omega) h0 ?_; intro v6 w6 hrow6 hg6; have hB6 := Below.own hBx hnew (Nat.le_refl _) h0 hg6)
        | (at_builtin; refine wpList_append_vals w6 rfl _ (.tmp 36) 22 rfl w5.heap.size 9 i9 _ 1 16 Try.underlying22 hi hz0 hz1 hz2 rfl (by decide) _ (0 + l2.length) _ rfl hrow6 a4 L.length c4 (strsV L) rfl (by rw [HX4.out, Nat.mul_one]) (HSt5.out.below hB6 |> isStrs_vals) (strsV_one _) (by unfold maxLen; omega) (by omega) hB6.size ?_; intro v7 w7 hrow7 hg7; have hB7 := Below.own hB6 hrow6 (Nat.le_refl _) hB6.size hg7; rw [HN.out] at hrow7; obtain ⟨a7, m7, c7, rfl⟩ := row_slice hrow7; have hm7 := (row_len' hrow7).symm; subst hm7))
      have hB8 := hB5.trans (hB7.mono hB5.size)
      have HBy7 := Lib.hid (HBy5.out.below hB7)
      have HSt7 := Lib.hid (HSt5.out.below hB7)
      have HVal : Hid (∀ j, j < N → ∃ x : ByteArray, ((#[] : Array Value).toList ++ strsV l2 ++ strsV L)[j]? = some (.string x)) := by
        intro j hj
        have e : ((#[] : Array Value).toList ++ strsV l2 ++ strsV L) = strsV (l2 ++ L) := by rw [strsV_append]; rfl
        rw [e]
        have := HN.out
        exact ⟨_, strsV_get _ j (by rw [List.length_append]; omega)⟩
      clear hnew hBx HV2 HV4 h0 hsz5 hB6 hrow6 hg6 hg7 hB7 HX2 HX4
      generalize ((#[] : Array Value).toList ++ strsV l2 ++ strsV L) = XS at *
      go_wp2_with fail
      go_loopw [39] (fun i wr => ∃ j : Nat, j ≤ N ∧ i = .int .i64 j ∧ Below w7.heap.size w7 wr) (fun i _ => N - (intOf i).toNat)
      case atStart => exact ⟨0, Nat.zero_le _, rfl, Below.refl _ _⟩
      case round =>
        obtain ⟨j, hj, rfl, hb⟩ := hrel
        have hrow8 := Below.row hb hrow7
        have hB9 := hB8.trans (hb.mono hB8.size)
        by_cases hlt : j < N
        · obtain ⟨g, off, rfl, hcell⟩ := row_cells hrow8 (by omega)
          obtain ⟨x, hx⟩ := HVal.out j hlt
          have c1 := (hcell j hlt).trans hx
          have hdj : decide ((j : Int) < (N : Int)) = true := decide_eq_true (by omega)
          have HSeek := Lib.hid (seek_any a5 c5 (blockOf (keysOf L)) x _ (by omega) hcap5 (HBy7.out.below hb))
          clear hcell hx hrow8
          generalize hBL : (blockOf (keysOf L)).length = BL at *
          go_wp2_with fail
          refine HSeek.out.mono ?_
          clear HSeek
          rintro e w8 ⟨hb8, y, ok, gg, rfl, _, _, hblk⟩
          obtain ⟨rfl, q, hF, hok, hy⟩ := hblk _ HBlk.out
          have hb9 := hb.trans (hb8.mono hb.size)
          have HRS := Lib.hid (refseek_any a4 c4 L x false w8 (by omega) (HSt7.out.below hb9))
          have HF2 := Lib.hid hF
          have HOk := Lib.hid hok
          have HY := Lib.hid hy
          clear hblk hF hok hy hb8
          go_wp2_with fail
          refine HRS.out.mono ?_
          clear HRS
          rintro e w9 ⟨⟨q2, hF2, rfl⟩, rfl⟩
          have hq : q2 = q := first_one (p := (· < x.data.toList)) hF2 HF2.out
          have hok2 : ok = decide (q2 < L.length) := by rw [HOk.out, length_keysOf, hq]
          have hy2 : y = (if q2 < L.length then L.getD q2 ByteArray.empty else ByteArray.empty) := by
            refine bytes_ext ?_
            rw [HY.out, length_keysOf, hq, keysOf_at]
            split <;> rfl
          have he := text_eq_yes y _ hy2
          clear hF2 HF2 HOk HY hq
          generalize (if q2 < L.length then L.getD q2 ByteArray.empty else ByteArray.empty) = z at *
          generalize decide (q2 < L.length) = okk at *
          subst hok2
          have hbb : (ok != ok) = false := by cases ok <;> rfl
          have he2 : (y.toList != z.toList) = false := by rw [hy2]; simp
          clear hy2
          go_wp2_with fail
          go_roundw
          case rel => exact ⟨j + 1, by omega, by go_num, hb9⟩
          case measure => simp [intOf]; omega
        · obtain rfl : j = N := by omega
          have hdj : decide ((j : Int) < (j : Int)) = false := by simp
          go_wp2_with fail
          go_ret
          exact ⟨rfl, hB9⟩
end Go.Proofs.Ytbamohcaamgalab
