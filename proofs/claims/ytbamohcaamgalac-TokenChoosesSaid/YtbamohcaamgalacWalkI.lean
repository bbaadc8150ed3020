/- What a token tells, walked. -/
import Derived.Test.YtbamohcaamgalacWalkH
import Derived.Deep.RegionHeld3
namespace Go.Proofs.Ytbamohcaamgalac
set_option linter.unusedVariables false
set_option linter.unusedSimpArgs false
open Go.RowKit

def rid (s : List UInt8) : Nat := if readE s = 0 then gotId s else 0
def rrev (s : List UInt8) : Nat := if readE s = 0 then gotRev s else 0
def ReadIs (s : List UInt8) (w : World) (e : Ending) (w' : World) : Prop := e = .returned (.tuple #[.int .u32 (rid s : Nat), .int .u64 (rrev s : Nat), .int .i64 (readE s : Nat)]) ∧ Below w.heap.size w w'
theorem read_none (s : List UInt8) (h : readE s = 9) (w w' : World) (hb : Below w.heap.size w w') : ReadIs s w (.returned (.tuple #[.int .u32 0, .int .u64 0, .int .i64 9])) w' := by
  refine ⟨?_, hb⟩
  rw [rid, rrev, h]; rfl
theorem readE_len (s : List UInt8) (h : s.length ≠ 26) : readE s = 9 := by rw [readE, if_neg (fun hh => h hh.1)]
theorem readE_sign (s : List UInt8) (i : Nat) (hi : i < s.length) (h : isSign (s.getD i 0) = false) : readE s = 9 := by
  rw [readE, if_neg]
  rintro ⟨_, h2, _⟩
  rw [List.all_eq_true] at h2
  have := h2 (s.getD i 0) (by rw [List.getD_eq_getElem?_getD, List.getElem?_eq_getElem hi]; exact List.getElem_mem hi)
  rw [h] at this
  cases this
theorem readE_tail (s : List UInt8) (h : numS s % 4 ≠ 0) : readE s = 9 := by rw [readE, if_neg (fun hh => h hh.2.2)]
theorem all_signs (s : List UInt8) (h : ∀ k, k < s.length → isSign (s.getD k 0) = true) : s.all isSign = true := by
  rw [List.all_eq_true]
  intro c hc
  obtain ⟨k, hk, rfl⟩ := List.mem_iff_getElem.1 hc
  have := h k hk
  rw [List.getD_eq_getElem?_getD, List.getElem?_eq_getElem hk] at this
  exact this
theorem or_small5 (a c : Nat) (hc : c < 32) (ha : a < 128) : bits BinOp.or IntKind.u64 ((a : Int) * 32) (c : Int) = ((a * 32 + c : Nat) : Int) := by
  have h := u64_or_nat (a * 32) c (by omega) (by omega)
  have e : a * 32 ||| c = a * 32 + c := by
    have := Nat.two_pow_add_eq_or_of_lt (i := 5) (b := c) (by omega) a
    rw [Nat.mul_comm a 32]; exact this.symm
  rw [e] at h
  rw [← h]; simp
theorem byte_int (R m V : Nat) (h : R / 2 ^ m % 256 = V) : ((R : Int) / 2 ^ m) % 256 = (V : Int) := by
  rw [← h]; simp
theorem numB_take (l : List UInt8) (j : Nat) (h : j < l.length) : numB (l.take (j + 1)) = numB (l.take j) * 256 + (l.getD j 0).toNat := by
  rw [take_snoc8 l j h, numB_snoc]
theorem numB_take_lt (l : List UInt8) (j n : Nat) (h : j ≤ n) : numB (l.take j) < 2 ^ (8 * n) :=
  Nat.lt_of_lt_of_le (numB_lt _) (Nat.pow_le_pow_right (by decide) (by have := List.length_take_le j l; omega))
def idn (O : List UInt8) (j : Nat) : Nat := numB ((O.take 4).take j)
def revn (O : List UInt8) (j : Nat) : Nat := numB (((O.drop 4).take 8).take (j - 4))
theorem idn_step (O : List UInt8) (hO : O.length = 16) (j : Nat) (h : j < 4) : idn O (j + 1) = idn O j * 256 + (O.getD j 0).toNat := by
  rw [idn, idn, numB_take _ j (by rw [List.length_take]; omega)]
  congr 2
  rw [List.getD_eq_getElem?_getD, List.getElem?_take, if_pos h, ← List.getD_eq_getElem?_getD]
theorem idn_stay (O : List UInt8) (j : Nat) (h : 4 ≤ j) : idn O j = numB (O.take 4) := by
  rw [idn, List.take_of_length_le (by have := List.length_take_le 4 O; omega)]
theorem idn_lt (O : List UInt8) (j : Nat) (h : j ≤ 3) : idn O j < 16777216 := numB_take_lt _ _ 3 h
theorem revn_step (O : List UInt8) (hO : O.length = 16) (j : Nat) (h : j < 12) (h4 : 4 ≤ j) : revn O (j + 1) = revn O j * 256 + (O.getD j 0).toNat := by
  rw [revn, revn, show j + 1 - 4 = j - 4 + 1 by omega, numB_take _ (j - 4) (by rw [List.length_take, List.length_drop]; omega)]
  congr 2
  rw [List.getD_eq_getElem?_getD, List.getElem?_take, if_pos (by omega), List.getElem?_drop, show 4 + (j - 4) = j by omega, ← List.getD_eq_getElem?_getD]
theorem revn_zero (O : List UInt8) (j : Nat) (h : j ≤ 4) : revn O j = 0 := by
  rw [revn, show j - 4 = 0 by omega]; rfl
theorem revn_end (O : List UInt8) (hO : O.length = 16) : revn O 12 = numB ((O.drop 4).take 8) := by
  rw [revn, List.take_of_length_le (by rw [List.length_take]; omega)]
theorem revn_lt (O : List UInt8) (j : Nat) (h : j ≤ 11) : revn O j < 72057594037927936 := numB_take_lt _ _ 7 (by omega)
theorem or32 (a c : Nat) (hc : c < 256) (ha : a < 16777216) : bits BinOp.or IntKind.u32 ((a : Int) * 256) (c : Int) = ((a * 256 + c : Nat) : Int) := by
  have h := u32_or_nat (a * 256) c (by omega) (by omega)
  have e : a * 256 ||| c = a * 256 + c := by
    have := Nat.two_pow_add_eq_or_of_lt (i := 8) (b := c) (by omega) a
    rw [Nat.mul_comm a 256]; exact this.symm
  rw [e] at h
  rw [← h]; simp
theorem or64 (a c : Nat) (hc : c < 256) (ha : a < 72057594037927936) : bits BinOp.or IntKind.u64 ((a : Int) * 256) (c : Int) = ((a * 256 + c : Nat) : Int) := by
  have h := u64_or_nat (a * 256) c (by omega) (by omega)
  have e : a * 256 ||| c = a * 256 + c := by
    have := Nat.two_pow_add_eq_or_of_lt (i := 8) (b := c) (by omega) a
    rw [Nat.mul_comm a 256]; exact this.symm
  rw [e] at h
  rw [← h]; simp
theorem row_cap {w : World} {base : Nat} {e : TypeId} {n m c : Nat} {a : Option Addr} {xs : List Value} (h : w.ownsRow base e 1 (.slice a m c) n xs) : n ≤ c := by
  rcases h.2 with ⟨hv, h0⟩ | ⟨g, cap, cur, hv, _, _, hc, _⟩
  · omega
  · cases hv; exact hc
theorem run_arr (g c : Nat) (w : World) : (Instr.arrayAt 40 (.slice (some ⟨g, 0, none⟩) 16 c)).run Try.prog w = .ok (.pointer (some ⟨g, 0, none⟩)) w := by
  simp [Instr.arrayAt, run_underlying Try.underlying40]
section
variable {P : Program} {ops : Array Oper} {Q : Exit → Act → World → Prop} {md : Region.Mode} {S : World → Prop}
/-- an operation is taken first, and its slot is named -/
theorem take_at (i d : Nat) {oi : Oper} {v : Value} {fuel : Nat} {listed : Array Bool} {tmps : Array Value} {ds : List Deferred} {w : World} (hi : ops[i]? = some oi) (hd : oi.dst = some d)
    (hs : Region.noSelect ops = true) (hf : Region.free md ops listed i = true) (hr : (Region.ready md ops listed).contains i = true)
    (hQ : ∀ c a w, Q (.panic c) (a.put oi.dst v) w → Q (.panic c) a w) (hy : YieldsIf P ops S oi v ⟨tmps, ds⟩) (hS : S w)
    (h : wpAnyH P md ops Q S fuel (listed.setIfInBounds i true) ⟨tmps.setIfInBounds d v, ds⟩ w) : wpAnyH P md ops Q S (fuel + 1) listed ⟨tmps, ds⟩ w :=
  wpAnyH_take hi hs hf hr hQ hy hS (by rw [hd]; exact h)
/-- one operation alone may come up, and its slot is named -/
theorem only_at (i d : Nat) {o : Oper} {fuel : Nat} {listed : Array Bool} {a : Act} {w : World} (hr : Region.ready md ops listed = [i]) (ho : ops[i]? = some o) (hd : o.dst = some d) (hw : Region.wanted o (yielded ops a.tmps) = true)
    (h : ∀ K' : Act → World → Prop, Shut (∀ a w, S w → (S w → wpAnyH P md ops Q S fuel (listed.setIfInBounds i true) a w) → K' a w) → Oper.wp P { o with dst := some d } a w K' Q) : wpAnyH P md ops Q S (fuel + 1) listed a w := by
  refine wpAnyH_ready hr (by simp) (AllReadyH.cons ho (fun K' hK => ?_) AllReadyH.nil)
  rw [if_pos hw]
  have e : ({ o with dst := some d } : Oper) = o := by cases o; simp_all
  have := h K' hK
  rwa [e] at this
end
theorem below_step {w5 w6 w7 : World} (h : Below w5.heap.size w5 w6) (k : Below w6.heap.size w6 w7) : Below w5.heap.size w5 w7 := h.trans (k.mono h.size)
set_option maxRecDepth 100000 in
set_option maxHeartbeats 4000000 in
theorem read_any (s : ByteArray) (w : World) (hs : s.size ≤ 9223372036854775807) :
    Calls Try.prog 9 #[.string s] w (ReadIs s.data.toList w) := by
  have hsl : s.data.toList.length = s.size := by simp
  by_cases h26 : s.size = 26
  · have H26 := Lib.hid h26
    have hb26 : ((s.size : Int) == 26) = true := by simp [h26]
    have hn26 : ((s.size : Int) != 26) = false := by simp [h26]
    obtain ⟨i0, hi, hz0, hz1, hz2⟩ := info_parts Try.info5
    have hnil := World.ownsRow_nil w w.heap.size 5 1
    have HSL := Lib.hid hsl
    obtain ⟨l, hl⟩ : ∃ l, l = s.data.toList := ⟨_, rfl⟩
    rw [← hl]
    have HL := Lib.hid hl
    have hs26 : s.size ≤ 26 := by omega
    have hs26' : 26 ≤ s.size := by omega
    have hll : l.length = 26 := by rw [hl, hsl, h26]
    have HLL := Lib.hid hll
    have hdig : ∀ i, i < 26 → val (l.getD i 0) = digit (numS l) i := by
      intro i hi
      rw [digit_at l i (by omega), hll]; rfl
    have HD := Lib.hid hdig
    clear hsl hl h26 hll hdig
    go_enter Try.func9, Try.ntmps9
    go_wp2_with fail
    go_loopw [5, 6, 7, 19] (fun out bits n i wr => ∃ k q m : Nat, k ≤ 26 ∧ 5 * k = 8 * q + m ∧ m < 8 ∧ i = .int .i64 k ∧ bits = .int .u64 (left (numS l) k m : Nat) ∧ n = .int .i64 m ∧ wr.ownsRow w.heap.size 5 1 out q (bytesV ((outB (numS l)).take q)) ∧ Hid (∀ j, j < k → isSign (l.getD j 0) = true) ∧ Below w.heap.size w wr) (fun _ _ _ i _ => 26 - (intOf i).toNat)
    case atStart => exact ⟨0, 0, 0, by omega, by omega, by omega, rfl, by simp [left, Nat.mod_one], rfl, hnil, (fun j hj => by omega), Below.refl _ _⟩
    case round =>
      clear hnil
      obtain ⟨k, q, m, hk, hkq, hm, rfl, rfl, rfl, hown, hsg, hB⟩ := hrel
      by_cases hlt : k < 26
      · have hix := fun W => run_str W s k (by omega)
        rw [← HL.out] at hix
        have hlm : left (numS l) k m < 128 := Nat.lt_of_lt_of_le (left_lt _ _ _) (pow_le12 m 7 (by omega))
        have HM := Lib.hid (left_more (numS l) k m hlt)
        have HDk := Lib.hid (HD.out k hlt)
        have hv := val_lt (l.getD k 0)
        have HOR := Lib.hid (or_small5 (left (numS l) k m) (val (l.getD k 0)) hv hlm)
        cases hc : isSign (l.getD k 0) with
        | false =>
          have HE := Lib.hid (readE_sign l k (by have := HLL.out; omega) hc)
          have HC := Lib.hid hc
          clear hc
          generalize l.getD k 0 = c at *
          go_wp2_with fail
          refine (sign_no c _ HC.out).mono ?_
          rintro e w' ⟨rfl, rfl⟩
          go_wp2_with fail
          go_ret3
          exact read_none _ HE.out _ _ hB
        | true =>
          have HC := Lib.hid hc
          clear hc
          have HSG : Hid (∀ j, j < k + 1 → isSign (l.getD j 0) = true) := by
            intro j hj
            by_cases hjk : j < k
            · exact hsg.out j hjk
            · obtain rfl : j = k := by omega
              exact HC.out
          generalize l.getD k 0 = c at *
          generalize hV : val c = V at *
          have HV := Lib.hid hV
          clear hV
          have hN : left (numS l) (k + 1) (m + 5) < 4096 := Nat.lt_of_lt_of_le (left_lt _ _ _) (pow_le12 _ 12 (by omega))
          have hor : bits BinOp.or IntKind.u64 ((left (numS l) k m : Int) * 32) (V : Int) = (left (numS l) (k + 1) (m + 5) : Int) := by
            rw [HOR.out, ← HM.out, HDk.out]
          clear HM HDk HOR
          generalize hR : left (numS l) k m = R at *
          clear hR
          by_cases h3 : 3 ≤ m
          · obtain ⟨m', hm'⟩ : ∃ m', m' = m - 3 := ⟨_, rfl⟩
            have hn8 : (m : Int) + 5 - 8 = (m' : Int) := by omega
            obtain ⟨hw1, hw2⟩ := pow_wrap m' (by omega)
            have e5 : m + 5 = m' + 8 := by omega
            rw [e5] at hor hN
            have hby := byte_int _ m' _ (left_byte (numS l) (k + 1) m' q (by omega) (by omega))
            have hls := less_int _ m' _ (by omega) (by omega) (left_less (numS l) (k + 1) m')
            have HT := Lib.hid (out_take (numS l) q (by omega))
            generalize hB8 : numS l / 2 ^ (122 - 8 * q) % 256 = B8 at *
            have hB256 : B8 < 256 := by rw [← hB8]; exact Nat.mod_lt _ (by decide)
            clear hB8
            generalize left (numS l) (k + 1) (m' + 8) = N at *
            generalize hN' : left (numS l) (k + 1) m' = N' at *
            have HN' := Lib.hid hN'
            have hm5 : m' ≤ 4 := by omega
            have hkm : 5 * (k + 1) = 8 * (q + 1) + m' := by omega
            have HN8 := Lib.hid hn8
            clear hN' hm' e5
            go_wp2_with fail
            refine (sign_yes c _ HC.out).mono ?_
            rintro e w' ⟨rfl, rfl⟩
            rw [HV.out]
            go_wp2_with (at_builtin; refine wpList_append_one _ rfl _ _ 33 rfl w.heap.size 5 i0 (.int .u8 0) 1 Try.underlying33 hi hz0 hz1 hz2 rfl _ _ _ rfl hown _ 1 rfl rfl (by omega) (by omega) hB.size ?_; intro v' w3 hown3 hgrow3 _; have hB3 := Below.own hB hown (Nat.le_refl _) hB.size hgrow3)
            go_roundw
            case rel =>
              refine ⟨k + 1, q + 1, m', by omega, hkm, by omega, by go_num, by rw [HN'.out], rfl, ?_, HSG, hB3⟩
              have e : bytesV ((outB (numS l)).take (q + 1)) = bytesV ((outB (numS l)).take q) ++ [.int .u8 (B8 : Int)] := by
                rw [HT.out, bytesV_append]
                have : (UInt8.ofNat B8).toNat = B8 := by rw [toNat_ofNat8]; omega
                simp [bytesV, this]
              rw [e]; exact hown3
            case measure => simp [intOf]; omega
          · generalize hN' : left (numS l) (k + 1) (m + 5) = N' at *
            have HN' := Lib.hid hN'
            clear hN'
            go_wp2_with fail
            refine (sign_yes c _ HC.out).mono ?_
            rintro e w' ⟨rfl, rfl⟩
            rw [HV.out]
            go_wp2_with fail
            go_roundw
            case rel => exact ⟨k + 1, q, m + 5, by omega, by omega, by omega, by go_num, by rw [HN'.out], by go_num, hown, HSG, hB⟩
            case measure => simp [intOf]; omega
      · obtain rfl : k = 26 := by omega
        obtain rfl : m = 2 := by omega
        obtain rfl : q = 16 := by omega
        have hlast := left_last (numS l)
        have hsall := all_signs l (fun k hk => hsg.out k (by rw [HLL.out] at hk; exact hk))
        have HAll := Lib.hid hsall
        clear hsall hsg
        have hR4 : left (numS l) 26 2 < 4 := left_lt _ _ 2
        by_cases h0 : numS l % 4 = 0
        · have hRz : left (numS l) 26 2 = 0 := by omega
          rw [hRz]
          have hO := length_outB (numS l)
          rw [List.take_of_length_le (by omega)] at hown
          have hgi : gotId l = numB ((outB (numS l)).take 4) := rfl
          have hgr : gotRev l = numB (((outB (numS l)).drop 4).take 8) := rfl
          have hE : readE l = if made (gotId l) (gotRev l) = outB (numS l) then 0 else 8 := by rw [readE, if_pos ⟨HLL.out, HAll.out, h0⟩]
          have HE := Lib.hid hE
          have HGI := Lib.hid hgi
          have HGR := Lib.hid hgr
          clear hlast hR4 hRz h0 hE hgi hgr HD
          generalize outB (numS l) = O at *
          obtain ⟨g, c, rfl, hg1, hg2, hc16⟩ := row_shape hown (by omega)
          have hcut : cutA (some ⟨g, 0, none⟩) c 0 = some ⟨g, 0, none⟩ := by unfold cutA; split <;> simp [Addr.add_lit]
          have HCut := Lib.hid hcut
          have HO := Lib.hid hO
          clear hO hcut
          go_wp2_with (refine wpList_slice_h _ rfl _ _ 33 rfl 5 i0 Try.underlying33 hi hz1 _ 16 c 12 rfl _ _ rfl rfl (by omega) ?_; intro a' ha'; have ha2 := ha'.trans HCut.out; clear ha'; subst ha2)
          clear hkq hm hk hlt H26 HSL HL HLL hs26 hs26' hb26 hn26 hi hz0 hz1 hz2
          go_loop [10, 11, 59] (fun id rev i => ∃ j : Nat, j ≤ 12 ∧ i = .int .i64 j ∧ id = .int .u32 (idn O j : Nat) ∧ rev = .int .u64 (revn O j : Nat)) (fun _ _ i => 12 - (intOf i).toNat)
          case atStart => exact ⟨0, by omega, rfl, rfl, rfl⟩
          case round =>
            obtain ⟨j, hj, rfl, rfl, rfl⟩ := hrel
            by_cases hlt : j < 12
            · have hcj := (hown.cellAt j (by omega)).trans (bytesV_get O j (by have := HO.out; omega))
              have hdj : decide ((j : Int) < 12) = true := by simp; omega
              by_cases h4 : j < 4
              · have hI := idn_lt O j (by omega)
                have HS := Lib.hid (idn_step O HO.out j h4)
                have HZ := Lib.hid ((revn_zero O (j + 1) (by omega)).trans (revn_zero O j (by omega)).symm)
                have HC := Lib.hid (or32 (idn O j) (O.getD j 0).toNat (O.getD j 0).toNat_lt hI)
                generalize O.getD j 0 = d at *
                have hd := d.toNat_lt
                generalize idn O j = I at *
                generalize revn O j = R at *
                go_wp2_with fail
                go_round
                case rel => exact ⟨j + 1, by omega, by go_num, by rw [HS.out, HC.out], by rw [HZ.out]⟩
                case measure => simp [intOf]; omega
              · have hR := revn_lt O j (by omega)
                have HS := Lib.hid (revn_step O HO.out j hlt (by omega))
                have HZ := Lib.hid ((idn_stay O (j + 1) (by omega)).trans (idn_stay O j (by omega)).symm)
                have HC := Lib.hid (or64 (revn O j) (O.getD j 0).toNat (O.getD j 0).toNat_lt hR)
                generalize O.getD j 0 = d at *
                have hd := d.toNat_lt
                generalize idn O j = I at *
                generalize revn O j = R at *
                go_wp2_with fail
                go_round
                case rel => exact ⟨j + 1, by omega, by go_num, by rw [HZ.out], by rw [HS.out, HC.out]⟩
                case measure => simp [intOf]; omega
            · obtain rfl : j = 12 := by omega
              have e1 : idn O 12 = gotId l := (idn_stay O 12 (by omega)).trans HGI.out.symm
              have e2 : revn O 12 = gotRev l := (revn_end O HO.out).trans HGR.out.symm
              rw [e1, e2]
              have hI : gotId l < 4294967296 := by rw [HGI.out]; exact numB_take_lt O 4 4 (by omega)
              have hR : gotRev l < 18446744073709551616 := by rw [HGR.out]; exact numB_take_lt _ 8 8 (by omega)
              clear e1 e2
              generalize hIl : gotId l = I at *
              generalize hRl : gotRev l = R at *
              have HIl := Lib.hid hIl
              have HRl := Lib.hid hRl
              clear hIl hRl
              have hrg : wr.rangeAt g 0 (bytesV O) := by
                intro j v hv
                have hj : j < O.length := by have := (List.getElem?_eq_some_iff.1 hv).1; rwa [length_bytesV] at this
                rw [Nat.zero_add]
                exact (hown.cellAt j (by have := HO.out; omega)).trans hv
              have hu40 := Try.underlying40
              have harr := fun w => run_arr g c w
              have hneq := fun w => eq_raw (made I R) O (length_made _ _) HO.out w
              have hbl : (bytesV O).length = 16 := by rw [length_bytesV]; exact HO.out
              have hi40 : (Try.prog.info? 40).map (·.size) = some (bytesV O).length := by
                obtain ⟨i0, z0, hi, hz, hzs, his⟩ := info40_parts
                rw [hbl, hi, Option.map_some, his]
              have HM := Lib.hid (fun w => made_any I R w hI hR)
              have HMO : Hid (∀ b, b = decide (made I R = O) → b = decide (made I R = O)) := fun b h => h
              have hd0 : Below wr.heap.size wr wr.drew := (Below.refl wr.heap.size wr).drew
              have hgw : g < wr.heap.size := hg2
              have KP : ∀ w', Below wr.heap.size wr w' → Below wr.heap.size wr w' ∧ w'.rangeAt g 0 (bytesV O) := fun w' hb => ⟨hb, fun j v hv => (hb.cell (p := ⟨g, 0 + j, none⟩) hgw).trans (hrg j v hv)⟩
              have KH := Lib.hid KP
              have HHr := Lib.hid hrg
              clear KP hown hrg
              generalize bytesV O = BO at *
              generalize (bytesV (made I R)).toArray = BM at *
              generalize hD : decide (made I R = O) = D at *
              have HDD := Lib.hid hD
              clear hD HMO
              go_upto_region 27 with (fail)
              go_cut [83] (fun x wc => x = .bool (!D) ∧ Below wr.heap.size wr wc)
              case first =>
                refine wp_region_noPanic ?_
                refine wp_region_held_drew (S := (fun w' => Below wr.heap.size wr w' ∧ w'.rangeAt g 0 BO)) (by kernel_rfl) (KH.out _ hd0) (fun hHeld => ?_)
                refine take_at 0 77 (v := ?_) rfl rfl (by kernel_rfl) (by kernel_rfl) (by kernel_rfl) (fun _ _ _ h => h) (Or.inl ⟨by rfl, ?_⟩) hHeld ?_
                rotate_left
                · (intro w hSw; (try dsimp only at hSw); go_simp; try with_reducible rfl)
                try simp only [List.setIfInBounds_toArray, List.set_cons_zero, List.set_cons_succ]
                refine take_at 1 78 (v := ?_) rfl rfl (by kernel_rfl) (by kernel_rfl) (by kernel_rfl) (fun _ _ _ h => h) (Or.inl ⟨by rfl, ?_⟩) hHeld ?_
                rotate_left
                · (intro w hSw; (try dsimp only at hSw); go_simp; try with_reducible rfl)
                try simp only [List.setIfInBounds_toArray, List.set_cons_zero, List.set_cons_succ]
                refine take_at 3 80 (v := ?_) rfl rfl (by kernel_rfl) (by kernel_rfl) (by kernel_rfl) (fun _ _ _ h => h) (Or.inl ⟨by rfl, ?_⟩) hHeld ?_
                rotate_left
                · (intro w hSw; (try dsimp only at hSw); go_simp; try with_reducible rfl)
                try simp only [List.setIfInBounds_toArray, List.set_cons_zero, List.set_cons_succ]
                refine take_at 4 81 (v := ?_) rfl rfl (by kernel_rfl) (by kernel_rfl) (by kernel_rfl) (fun _ _ _ h => h) (Or.inl ⟨by rfl, ?_⟩) hHeld ?_
                rotate_left
                · (intro w hSw; (try dsimp only at hSw); go_simp; try with_reducible rfl)
                try simp only [List.setIfInBounds_toArray, List.set_cons_zero, List.set_cons_succ]
                refine take_at 5 82 (v := .agg BO.toArray) rfl rfl (by kernel_rfl) (by kernel_rfl) (by kernel_rfl) (fun _ _ _ h => h) (yieldsIf_load_mid (by rfl) 40 (.tmp 81) rfl g 0 rfl BO _ (fun w h => h.2) hu40 rfl hi40) hHeld ?_
                try simp only [List.setIfInBounds_toArray, List.set_cons_zero, List.set_cons_succ]
                refine only_at 2 79 (by kernel_rfl) rfl rfl (by rfl) (fun K hK => ?_)
                go_simp
                refine (HM.out _).mono ?_
                rintro e w6 ⟨rfl, hb6⟩
                have hb6' : Below wr.heap.size wr w6 := below_step (by assumption) hb6
                go_wp2_with fail
                refine hK.out _ _ (KH.out _ (by assumption)) (fun hHeld2 => ?_)
                clear hK K hHeld
                have hHeld := hHeld2
                clear hHeld2
                try simp only [Act.put, List.setIfInBounds_toArray, List.set_cons_zero, List.set_cons_succ]
                refine take_at 6 83 (v := ?_) rfl rfl (by kernel_rfl) (by kernel_rfl) (by kernel_rfl) (fun _ _ _ h => h) (Or.inl ⟨by rfl, ?_⟩) hHeld ?_
                rotate_left
                · (intro w hSw; (try dsimp only at hSw); go_simp; try with_reducible rfl)
                try simp only [List.setIfInBounds_toArray, List.set_cons_zero, List.set_cons_succ]
                refine wpAnyH_done (by kernel_rfl) ?_ _
                refine NoPanic.normal ?_
                go_wp2_with fail
                go_meet
                case rel => exact ⟨rfl, by assumption⟩
              case rest =>
                obtain ⟨rfl, hbc⟩ := hcut
                have hBc := hB.trans (hbc.mono hB.size)
                cases D with
                | true =>
                  have h0 : readE l = 0 := by rw [HE.out, if_pos (of_decide_eq_true HDD.out)]
                  have HR : Hid (ReadIs l w (.returned (.tuple #[.int .u32 I, .int .u64 R, .int .i64 0])) wc) := ⟨by rw [rid, rrev, if_pos h0, if_pos h0, h0, HIl.out, HRl.out]; rfl, hBc⟩
                  clear h0
                  go_wp2_with fail
                  go_ret3
                  exact HR.out
                | false =>
                  have h8 : readE l = 8 := by rw [HE.out, if_neg (of_decide_eq_false HDD.out)]
                  have HR : Hid (ReadIs l w (.returned (.tuple #[.int .u32 0, .int .u64 0, .int .i64 8])) wc) := ⟨by rw [rid, rrev, if_neg (by omega), if_neg (by omega), h8]; rfl, hBc⟩
                  clear h8
                  go_wp2_with fail
                  go_ret3
                  exact HR.out
        · have hRn : left (numS l) 26 2 ≠ 0 := by omega
          have HE := Lib.hid (readE_tail l h0)
          clear hlast h0
          generalize left (numS l) 26 2 = R at *
          have hb1 : ((R : Int) == 0) = false := by simp; omega
          have hb2 : ((R : Int) != 0) = true := by simp; omega
          clear hRn
          go_wp2_with fail
          go_ret3
          exact read_none _ HE.out _ _ hB
  · have hE := readE_len s.data.toList (by rw [hsl]; exact h26)
    have HE := Lib.hid hE
    have hb26 : ((s.size : Int) == 26) = false := by simp; omega
    have hn26 : ((s.size : Int) != 26) = true := by simp; omega
    clear hE hsl h26
    go_enter Try.func9, Try.ntmps9
    go_wp2_with fail
    go_ret3
    exact read_none _ HE.out _ _ (Below.refl _ _)
end Go.Proofs.Ytbamohcaamgalac
