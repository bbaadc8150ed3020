/- A block built, walked. -/
import Derived.Test.YtbamohcaamgalabWalkE
import Derived.Test.YtbamohcaamgalabPlainc
import Derived.Deep.RegionHeld3
import Derived.Sort.Walk0
import Derived.Lib.IndexBytes
namespace Go.Proofs.Ytbamohcaamgalab
set_option linter.unusedVariables false
set_option linter.unusedSimpArgs false
open Go.RowKit

theorem Try.info3 : (Try.prog.info? 3).map (fun i => (i.zero, i.size, i.bytes)) = some (some (.int .i64 0), 1, 8) := by kernel_rfl
theorem own_ne {w : World} {B B' : Nat} {e e' : TypeId} {size size' : Nat} {v v' : Value} {n n' : Nat} {xs xs' : List Value} (h : w.ownsRow B e size v n xs) (h' : w.ownsRow B' e' size' v' n' xs') (hne : e ≠ e') : v'.ownBlock = none ∨ v'.ownBlock ≠ v.ownBlock := by
  rcases h'.2 with ⟨rfl, _⟩ | ⟨g', cap', cur', rfl, _, hg', _⟩
  · exact .inl rfl
  · right
    intro he
    rcases h.2 with ⟨rfl, _⟩ | ⟨g, cap, cur, rfl, _, hg, _⟩
    · cases he
    · simp only [Value.ownBlock, Option.some.injEq] at he
      subst he
      rw [hg'] at hg
      simp only [Option.some.injEq, Obj.cells.injEq] at hg
      exact hne hg.2.1.symm
theorem below_step {w5 w6 w7 : World} (h : Below w5.heap.size w5 w6) (k : Below w6.heap.size w6 w7) : Below w5.heap.size w5 w7 := h.trans (k.mono h.size)
section
variable {P : Program} {ops : Array Oper} {Q : Exit → Act → World → Prop} {md : Region.Mode} {S : World → Prop}
/-- an operation is taken first, and its slot is named -/
theorem take_at (i d : Nat) {oi : Oper} {v : Value} {fuel : Nat} {listed : Array Bool} {tmps : Array Value} {ds : List Deferred} {w : World} (hi : ops[i]? = some oi) (hd : oi.dst = some d)
    (hs : Region.noSelect ops = true) (hf : Region.free md ops listed i = true) (hr : (Region.ready md ops listed).contains i = true)
    (hQ : ∀ c a w, Q (.panic c) (a.put oi.dst v) w → Q (.panic c) a w) (hy : YieldsIf P ops S oi v ⟨tmps, ds⟩) (hS : S w)
    (h : wpAnyH P md ops Q S fuel (listed.setIfInBounds i true) ⟨tmps.setIfInBounds d v, ds⟩ w) : wpAnyH P md ops Q S (fuel + 1) listed ⟨tmps, ds⟩ w :=
  wpAnyH_take hi hs hf hr hQ hy hS (by rw [hd]; exact h)
/-- one operation alone may come up, and its slot is named -/
theorem only_at (i d : Nat) {o : Oper} {fuel : Nat} {listed : Array Bool} {a : Act} {w : World} (hr : Region.ready md ops listed = [i]) (ho : ops[i]? = some o) (hd : o.dst = some d) (hw : Region.wanted o (yielded ops a.tmps) = true)
    (h : ∀ K' : Act → World → Prop, Shut (∀ a w, S w → (S w → wpAnyH P md ops Q S fuel (listed.setIfInBounds i true) a w) → K' a w) → Oper.wp P { o with dst := some d } a w K' Q) : wpAnyH P md ops Q S (fuel + 1) listed a w := by
  refine wpAnyH_ready hr (by simp) (AllReadyH.cons ho (fun K' hK => ?_) AllReadyH.nil)
  rw [if_pos hw]
  have e : ({ o with dst := some d } : Oper) = o := by cases o; simp_all
  have := h K' hK
  rwa [e] at this
end
theorem puttext_at (a : Option Addr) (cap n : Nat) (l : List UInt8) (s : ByteArray) (w : World) (hn : l.length = n) (hl : n ≤ 1000000000) (hc : n ≤ cap) (hs : s.size ≤ 1000000000) (h : IsBytes w a l) :
    Calls Try.prog 21 #[.slice a n cap, .string s] w fun e w' => ∃ v', e = .returned v' ∧ w'.ownsRow w.heap.size 5 1 v' (l ++ textE s.data.toList).length (bytesV (l ++ textE s.data.toList)) ∧ Below w.heap.size w w' := by
  subst hn; exact puttext_any a cap l s w hl hc hs h
theorem refputtext_at (a : Option Addr) (cap n : Nat) (l : List UInt8) (s : ByteArray) (w : World) (hn : l.length = n) (hl : n ≤ 1000000000) (hs : s.size ≤ 1000000000) (h : IsBytes w a l) :
    Calls Try.prog 28 #[.slice a n cap, .string s] w fun e w' => ∃ v', e = .returned v' ∧ w'.ownsRow w.heap.size 5 1 v' (l ++ textE s.data.toList).length (bytesV (l ++ textE s.data.toList)) ∧ Below w.heap.size w w' := by
  subst hn; exact refputtext_any a cap l s w hl hs h
/-- the bytes of texts -/
def keysOf (l : List ByteArray) : List Text := l.map (·.data.toList)
theorem keysOf_at (l : List ByteArray) (i : Nat) : (keysOf l).getD i [] = (l.getD i ByteArray.empty).data.toList := by
  unfold keysOf
  rw [List.getD_eq_getElem?_getD, List.getElem?_map, List.getD_eq_getElem?_getD]
  cases l[i]? <;> rfl
theorem length_keysOf (l : List ByteArray) : (keysOf l).length = l.length := by simp [keysOf]
/-- texts held against each other as the walk spells it -/
theorem less_yes (a b : ByteArray) (h : b.data.toList < a.data.toList) : Op.bytesLess a.toList b.toList = false ∧ (a.toList == b.toList) = false ∧ Op.bytesLess b.toList a.toList = true := by
  rw [ByteArray.toList_eq, ByteArray.toList_eq, bytesLess_eq, bytesLess_eq]
  refine ⟨decide_eq_false (List.lt_asymm h), ?_, decide_eq_true h⟩
  rw [beq_eq_false_iff_ne]
  intro e
  rw [e] at h
  exact List.lt_irrefl _ h
theorem less_no (a b : ByteArray) (h : ¬ b.data.toList < a.data.toList) : (Op.bytesLess a.toList b.toList || a.toList == b.toList) = true ∧ Op.bytesLess b.toList a.toList = false := by
  rw [ByteArray.toList_eq, ByteArray.toList_eq, bytesLess_eq, bytesLess_eq]
  refine ⟨?_, decide_eq_false h⟩
  by_cases e : a.data.toList = b.data.toList
  · rw [e]; simp
  · have : a.data.toList < b.data.toList := by
      rcases text_tri a.data.toList b.data.toList with h1 | h1 | h1
      · exact h1
      · exact absurd h1 e
      · exact absurd h1 h
    rw [decide_eq_true this]; rfl
/-- how long a block can be -/
theorem ent_le (ks : List Text) (M i : Nat) (hM : M ≤ 100000) (hk : (ks.getD i []).length ≤ M) : (ent ks i).length ≤ M + 20 := by
  have hs := share_le ks i
  have h1 := uv_len64 (share ks i) (by omega)
  have h2 := uv_len64 ((ks.getD i []).drop (share ks i)).length (by rw [List.length_drop]; omega)
  rw [ent, List.length_append, textE, List.length_append]
  rw [List.length_drop] at h2 ⊢
  omega
theorem pos_le (ks : List Text) (M : Nat) (hM : M ≤ 100000) (hk : ∀ i, (ks.getD i []).length ≤ M) (n : Nat) : pos ks n ≤ n * (M + 20) := by
  induction n with
  | zero => simp [pos, body]
  | succ n ih =>
    rw [pos_succ, Nat.succ_mul]
    have := ent_le ks M n hM (hk n)
    omega
def placesV (ks : List Text) (n : Nat) : List Value := (List.range (wholes n)).map fun m => .int .i64 (pos ks (16 * m) : Nat)
theorem wholes_succ (k : Nat) : wholes (k + 1) = if k % 16 = 0 then wholes k + 1 else wholes k := by
  unfold wholes; split <;> omega
theorem wholes_at (k : Nat) (h : k % 16 = 0) : 16 * wholes k = k := by unfold wholes; omega
theorem placesV_yes (ks : List Text) (k : Nat) (h : k % 16 = 0) : placesV ks (k + 1) = placesV ks k ++ [.int .i64 (pos ks k : Nat)] := by
  rw [placesV, wholes_succ, if_pos h, List.range_succ, List.map_append, List.map_singleton, wholes_at k h]; rfl
theorem placesV_no (ks : List Text) (k : Nat) (h : ¬ k % 16 = 0) : placesV ks (k + 1) = placesV ks k := by
  rw [placesV, wholes_succ, if_neg h]; rfl
/-- what a row reads as -/
theorem row_cells {w : World} {base : Nat} {e : TypeId} {n m c : Nat} {a : Option Addr} {xs : List Value} (h : w.ownsRow base e 1 (.slice a m c) n xs) (h0 : 0 < n) : ∃ g off, a = some ⟨g, off, none⟩ ∧ ∀ j, j < n → w.cell? ⟨g, off + j, none⟩ = xs[j]? := by
  rcases h.2 with ⟨hv, h1⟩ | ⟨g, cap, cur, hv, _⟩
  · omega
  · cases hv
    refine ⟨g, 0, rfl, fun j hj => ?_⟩
    rw [Nat.zero_add]
    exact h.cellAt j (by omega)
theorem placesV_get (ks : List Text) (n j : Nat) (h : j < wholes n) : (placesV ks n)[j]? = some (.int .i64 (pos ks (16 * j) : Nat)) := by
  simp [placesV, h]
theorem run_cut_from (w : World) (s : ByteArray) (n : Nat) (h : n ≤ s.size) : (Instr.slice 9 (.string s) (some (.int .i64 (n : Int))) none none).run Try.prog w = .ok (.string (s.extract n s.size)) w := by
  rw [run_slice_string_from_if _ _ _ _ _ Try.underlying9, if_pos ⟨by omega, by omega⟩, Int.toNat_natCast]
theorem extract_data (s : ByteArray) (n : Nat) : (s.extract n s.size).data.toList = s.data.toList.drop n := Lib.extract_to_end s n
/-- what building a block of keys answers -/
def BuildIs (K : List Text) (w : World) (e : Ending) (w' : World) : Prop :=
  (Rises K → ∃ v, e = .returned (.tuple #[v, .int .i64 0]) ∧ w'.ownsRow w.heap.size 5 1 v (blockOf K).length (bytesV (blockOf K))) ∧ (¬ Rises K → e = .returned (.tuple #[.slice none 0 0, .int .i64 11])) ∧ Below w.heap.size w w'
/-- behind k keys -/
def BuildRel (K : List Text) (l : List ByteArray) (w : World) (k : Nat) (out places last : Value) (wr : World) : Prop :=
  wr.ownsRow w.heap.size 5 1 out (body K k).length (bytesV (body K k)) ∧ wr.ownsRow w.heap.size 3 1 places (wholes k) (placesV K k) ∧ (∃ s : ByteArray, last = .string s ∧ (0 < k → s = l.getD (k - 1) ByteArray.empty)) ∧ (∀ i, i + 1 < k → K.getD i [] < K.getD (i + 1) []) ∧ Below w.heap.size w wr
set_option maxRecDepth 100000 in
set_option maxHeartbeats 1000000 in
theorem build_any (a : Option Addr) (cap : Nat) (l : List ByteArray) (w : World) (hl : l.length ≤ 3000) (hk : ∀ i, (l.getD i ByteArray.empty).size ≤ 3000) (h : IsStrs w a l) :
    Calls Try.prog 10 #[.slice a l.length cap] w (BuildIs (keysOf l) w) := by
  obtain ⟨i0, hi, hz0, hz1, hz2⟩ := info_parts Try.info5
  obtain ⟨i3, hi3, hy0, hy1, hy2⟩ := info_parts Try.info3
  have H := Lib.hid h
  obtain ⟨K, hK⟩ : ∃ K, K = keysOf l := ⟨_, rfl⟩
  have hKat : ∀ i, K.getD i [] = (l.getD i ByteArray.empty).data.toList := fun i => by rw [hK]; exact keysOf_at l i
  have hKl : K.length = l.length := by rw [hK]; exact length_keysOf l
  have hks : ∀ i, (K.getD i []).length ≤ 3000 := fun i => by rw [hKat i, size_data]; exact hk i
  have hpos : ∀ n, pos K n ≤ n * 3020 := fun n => pos_le K 3000 (by omega) hks n
  have h0 : BuildRel K l w 0 (.slice none 0 0) (.slice none 0 0) (.string { data := #[] }) w :=
    ⟨World.ownsRow_nil _ _ _ _, World.ownsRow_nil _ _ _ _, ⟨_, rfl, fun h => by cases h⟩, (fun i hi => by omega), Below.refl _ _⟩
  rw [← hK]
  have HKat := Lib.hid hKat
  have HKl := Lib.hid hKl
  have HPos := Lib.hid hpos
  have HKs := Lib.hid hk
  have HK := Lib.hid hK
  clear h hKat hKl hks hpos hk hK
  go_enter Try.func10, Try.ntmps10
  go_wp2_with fail
  go_loopw [4, 5, 6, 14] (fun out places last i wr => ∃ k : Nat, k ≤ l.length ∧ i = .int .i64 k ∧ Hid (BuildRel K l w k out places last wr)) (fun _ _ _ i _ => l.length - (intOf i).toNat)
  case atStart => exact ⟨0, Nat.zero_le _, rfl, h0⟩
  case round =>
    clear h0
    obtain ⟨k, hkl, rfl, hrel⟩ := hrel
    obtain ⟨hout, hplaces, ⟨s, rfl, hs⟩, hris, hB⟩ := hrel.out
    have HRis := Lib.hid hris
    have HS := Lib.hid hs
    clear hrel hris hs
    by_cases hlt : k < l.length
    · obtain ⟨b, off, rfl, hb, hc⟩ := (H.out.below hB) (by omega)
      have hck := hc k hlt
      have hdk : decide ((k : Int) < (l.length : Int)) = true := by simp; omega
      have hcs := HKs.out k
      have HKk := Lib.hid (HKat.out k)
      generalize hcc : l.getD k ByteArray.empty = c at *
      have HCC := Lib.hid hcc
      clear hc hcc
      by_cases hord : 0 < k ∧ ¬ s.data.toList < c.data.toList
      · obtain ⟨hk0, hno⟩ := hord
        have hd0 : decide (0 < (k : Int)) = true := decide_eq_true (by omega)
        obtain ⟨hle, _⟩ := less_no c s hno
        have HNR : Hid (¬ Rises K) := by
          intro hr
          have := hr (k - 1) (by rw [HKl.out]; omega)
          rw [show k - 1 + 1 = k by omega, HKat.out (k - 1), HKk.out, ← HS.out hk0] at this
          exact hno this
        clear hno
        go_wp2_with fail
        go_ret2
        exact ⟨fun hr => absurd hr HNR.out, fun _ => rfl, hB⟩
      · obtain ⟨ao, mo, co, rfl⟩ := row_slice hout
        have hmo := row_len' hout
        subst hmo
        obtain ⟨ap, mp, cp, rfl⟩ := row_slice hplaces
        have hmp := row_len' hplaces
        subst hmp
        by_cases hk0 : 0 < k
        · have hlt2 : s.data.toList < c.data.toList := by
            rcases Classical.em (s.data.toList < c.data.toList) with h | h
            · exact h
            · exact absurd ⟨hk0, h⟩ hord
          obtain ⟨hl1, hl2, _⟩ := less_yes c s hlt2
          have HL := Lib.hid hlt2
          have hd0 : decide (0 < (k : Int)) = true := decide_eq_true (by omega)
          have HRis2 : Hid (∀ i, i + 1 < k + 1 → K.getD i [] < K.getD (i + 1) []) := by
            intro i hi
            by_cases hik : i + 1 < k
            · exact HRis.out i hik
            · obtain rfl : i = k - 1 := by omega
              rw [show k - 1 + 1 = k by omega, HKat.out (k - 1), HKk.out, ← HS.out hk0]
              exact HL.out
          clear hlt2 hord
          by_cases h16 : k % 16 = 0
          · have hm1 : (((k : Int) % 16) == 0) = true := by rw [beq_iff_eq]; omega
            have HN : Hid (share K k = 0) := by show share K k = 0; rw [share, if_pos h16]
            have HPV := Lib.hid (placesV_yes K k h16)
            have HWS : Hid (wholes (k + 1) = wholes k + 1) := by show wholes (k + 1) = _; rw [wholes_succ, if_pos h16]
            clear h16
            have hwk : wholes k ≤ 3000 := by unfold wholes; omega
            go_upto_region 13 with (at_builtin; refine wpList_append_one wr rfl _ _ 44 rfl w.heap.size 3 i3 (.int .i64 0) 8 Try.underlying44 hi3 hy0 hy1 hy2 rfl _ _ _ (by rfl) hplaces _ 1 rfl rfl (by omega) (by omega) hB.size ?_; intro v3 w3 hpl3 hg3 _; have hB3 := Below.own hB hplaces (Nat.le_refl _) hB.size hg3; have hout3 := hout.kept hg3 (own_ne hplaces hout (by decide)))
            have HPL2 : Hid (∀ W', Below w3.heap.size w3 W' → W'.ownsRow w.heap.size 3 1 v3 (wholes (k + 1)) (placesV K (k + 1))) := by
              intro W' hW
              rw [HWS.out, HPV.out]
              exact Below.row hW hpl3
            have hob := row_bytes' hout3
            have hoc := row_cap hout3
            have HOB := Lib.hid hob
            have HTX := Lib.hid (extract_data c 0)
            have hxs : (c.extract 0 c.size).size ≤ 3000 := by rw [← size_data, extract_data, List.length_drop, size_data]; omega
            have hcutr : ∀ W, (Instr.slice 9 (.string c) (some (.int .i64 0)) none none).run Try.prog W = .ok (.string (c.extract 0 c.size)) W := fun W => run_cut_from W c 0 (Nat.zero_le _)
            have HEnt : Hid (body K (k + 1) = body K k ++ uv 0 ++ textE (c.data.toList.drop 0)) := by
              show body K (k + 1) = _
              rw [body_succ, ent, HKk.out, HN.out, List.append_assoc]
            have hpl : (body K k).length ≤ 10000000 := by have := HPos.out k; unfold pos at this; omega
            have huv := uv_len64 0 (by omega)
            have hd0 : Below w3.heap.size w3 w3.drew := (Below.refl w3.heap.size w3).drew
            have HBW := Lib.hid hB3
            clear hob hout3
            generalize c.extract 0 c.size = x at *
            generalize hEK : body K (k + 1) = EK at *
            generalize hBK : body K k = BK at *
            have HEK := Lib.hid hEK
            have HBK := Lib.hid hBK
            have huup := uv_pos 0
            have huv0 := Lib.hid (fun W a c h1 h2 h3 h4 => put_any a c BK 0 W h1 h2 h3 h4)
            generalize huu : uv 0 = UU at *
            clear hEK hBK huu
            go_upto_region 13 with (fail)
            go_cut [4] (fun v wc => wc.ownsRow w.heap.size 5 1 v EK.length (bytesV EK) ∧ Below w3.heap.size w3 wc)
            case first =>
              refine wp_region_noPanic ?_
              refine wp_region_held_drew (S := (fun w' => Below w3.heap.size w3 w')) (by kernel_rfl) hd0 (fun hHeld => ?_)
              refine take_at 0 39 (v := ?_) rfl rfl (by kernel_rfl) (by kernel_rfl) (by kernel_rfl) (fun _ _ _ h => h) (Or.inl ⟨by rfl, ?_⟩) hHeld ?_
              rotate_left
              · (intro w hSw; (try dsimp only at hSw); go_simp; try with_reducible rfl)
              try simp only [List.setIfInBounds_toArray, List.set_cons_zero, List.set_cons_succ]
              refine take_at 1 40 (v := ?_) rfl rfl (by kernel_rfl) (by kernel_rfl) (by kernel_rfl) (fun _ _ _ h => h) (Or.inl ⟨by rfl, ?_⟩) hHeld ?_
              rotate_left
              · (intro w hSw; (try dsimp only at hSw); go_simp; try with_reducible rfl)
              try simp only [List.setIfInBounds_toArray, List.set_cons_zero, List.set_cons_succ]
              refine take_at 2 41 (v := ?_) rfl rfl (by kernel_rfl) (by kernel_rfl) (by kernel_rfl) (fun _ _ _ h => h) (Or.inl ⟨by rfl, ?_⟩) hHeld ?_
              rotate_left
              · (intro w hSw; (try dsimp only at hSw); go_simp; try with_reducible rfl)
              try simp only [List.setIfInBounds_toArray, List.set_cons_zero, List.set_cons_succ]
              refine take_at 4 43 (v := ?_) rfl rfl (by kernel_rfl) (by kernel_rfl) (by kernel_rfl) (fun _ _ _ h => h) (Or.inl ⟨by rfl, ?_⟩) hHeld ?_
              rotate_left
              · (intro w hSw; (try dsimp only at hSw); go_simp; try with_reducible rfl)
              try simp only [List.setIfInBounds_toArray, List.set_cons_zero, List.set_cons_succ]
              refine take_at 5 44 (v := ?_) rfl rfl (by kernel_rfl) (by kernel_rfl) (by kernel_rfl) (fun _ _ _ h => h) (Or.inl ⟨by rfl, ?_⟩) hHeld ?_
              rotate_left
              · (intro w hSw; (try dsimp only at hSw); go_simp; try with_reducible rfl)
              try simp only [List.setIfInBounds_toArray, List.set_cons_zero, List.set_cons_succ]
              refine take_at 6 45 (v := ?_) rfl rfl (by kernel_rfl) (by kernel_rfl) (by kernel_rfl) (fun _ _ _ h => h) (Or.inl ⟨by rfl, ?_⟩) hHeld ?_
              rotate_left
              · (intro w hSw; (try dsimp only at hSw); go_simp; try with_reducible rfl)
              try simp only [List.setIfInBounds_toArray, List.set_cons_zero, List.set_cons_succ]
              refine only_at 3 42 (by kernel_rfl) rfl rfl (by rfl) (fun K hK => ?_)
              go_simp
              try rw [hwn]
              refine (huv0.out _ ao co (by omega) hoc (by omega) (HOB.out.below (by assumption))).mono ?_
              rintro e w6 ⟨v6, rfl, hown6, hb6⟩
              have hb6' : Below w3.heap.size w3 w6 := below_step (by assumption) hb6
              obtain ⟨a6, m6, c6, rfl⟩ := row_slice hown6
              have hm6 := row_len' hown6
              have hc6 := row_cap hown6
              have HB6 := Lib.hid (row_bytes' hown6)
              have hl6 : m6 ≤ 100000000 := by rw [hm6, List.length_append]; omega
              have hc6' : m6 ≤ c6 := by rw [hm6]; exact hc6
              have HM6 := Lib.hid hm6
              clear hown6 hm6 hc6
              go_wp2_with fail
              refine hK.out _ _ (by assumption) (fun hHeld2 => ?_)
              clear hK K hHeld
              have hHeld := hHeld2
              clear hHeld2
              try simp only [Act.put, List.setIfInBounds_toArray, List.set_cons_zero, List.set_cons_succ]
              refine only_at 7 46 (by kernel_rfl) rfl rfl (by rfl) (fun K hK => ?_)
              go_simp
              refine (puttext_at a6 c6 m6 (BK ++ UU) x _ HM6.out.symm (by omega) hc6' (by omega) HB6.out).mono ?_
              rintro e w7 ⟨v7, rfl, hown7, hb7⟩
              have hb7' : Below w3.heap.size w3 w7 := below_step (by assumption) hb7
              go_wp2_with fail
              refine hK.out _ _ (by assumption) (fun hHeld2 => ?_)
              clear hK K hHeld
              have hHeld := hHeld2
              clear hHeld2
              try simp only [Act.put, List.setIfInBounds_toArray, List.set_cons_zero, List.set_cons_succ]
              refine take_at 8 4 (v := ?_) rfl rfl (by kernel_rfl) (by kernel_rfl) (by kernel_rfl) (fun _ _ _ h => h) (Or.inl ⟨by rfl, ?_⟩) hHeld ?_
              rotate_left
              · (intro w hSw; (try dsimp only at hSw); go_simp; try with_reducible rfl)
              try simp only [List.setIfInBounds_toArray, List.set_cons_zero, List.set_cons_succ]
              refine wpAnyH_done (by kernel_rfl) ?_ _
              refine NoPanic.normal ?_
              go_wp2_with fail
              go_meet
              case rel =>
                refine ⟨?_, by assumption⟩
                have e : BK ++ UU ++ textE x.data.toList = EK := by rw [HTX.out]; exact HEnt.out.symm
                have hpos7 : 0 < EK.length := by rw [← e, List.length_append, List.length_append]; omega
                rw [e] at hown7
                obtain ⟨g7, cp7, rfl, hg71, _, _⟩ := row_shape hown7 hpos7
                exact row_base hown7 (Nat.le_trans HBW.out.size (Nat.le_trans (Below.size (by assumption)) hg71))
            case rest =>
              obtain ⟨hout5, hbc⟩ := hcut
              have HOut5 := Lib.hid hout5
              have HBC := Lib.hid hbc
              clear hout5
              go_wp2_with fail
              go_roundw
              case rel =>
                refine ⟨k + 1, by omega, by go_num, ?_⟩
                refine ⟨by rw [HEK.out]; exact HOut5.out, ?_, ⟨c, rfl, fun _ => by rw [Nat.add_sub_cancel]; exact HCC.out.symm⟩, HRis2.out, HBW.out.trans (HBC.out.mono HBW.out.size)⟩
                exact HPL2.out _ HBC.out
              case measure => simp [intOf]; omega
          · have hm1 : (((k : Int) % 16) == 0) = false := by rw [beq_eq_false_iff_ne]; omega
            have hss : s.size ≤ 3000 := by rw [HS.out hk0]; exact HKs.out (k - 1)
            have hn0 : share K k = common s.data.toList c.data.toList := by rw [share, if_neg h16, HKat.out (k - 1), HKk.out, ← HS.out hk0]
            have hcl := (common_le s.data.toList c.data.toList).2
            rw [size_data] at hcl
            have HN := Lib.hid hn0
            have HPV := Lib.hid (placesV_no K k h16)
            have HWS : Hid (wholes (k + 1) = wholes k) := by show wholes (k + 1) = _; rw [wholes_succ, if_neg h16]
            clear h16 hn0
            go_wp2_with fail
            refine (common_any s c _ (by omega) (by omega)).mono ?_
            rintro e w2 ⟨rfl, d, rfl⟩
            generalize common s.data.toList c.data.toList = n at *
            have hwn : IntKind.u64.wrap (n : Int) = (n : Int) := IntWalk.u64_in (n : Int) (by omega)
            have hbd := Below.drewN (Below.refl wr.heap.size wr) d
            have hB3 : Below w.heap.size w (wr.drewN d) := Below.drewN hB d
            have hout3 := Below.row hbd hout
            have hpl3 := Below.row hbd hplaces
            clear hbd hout hplaces hB
            generalize wr.drewN d = w3 at *
            have HPL2 : Hid (∀ W', Below w3.heap.size w3 W' → W'.ownsRow w.heap.size 3 1 (.slice ap (wholes k) cp) (wholes (k + 1)) (placesV K (k + 1))) := by
              intro W' hW
              rw [HWS.out, HPV.out]
              exact Below.row hW hpl3
            clear hpl3
            have hob := row_bytes' hout3
            have hoc := row_cap hout3
            have HOB := Lib.hid hob
            have HTX := Lib.hid (extract_data c n)
            have hxs : (c.extract n c.size).size ≤ 3000 := by rw [← size_data, extract_data, List.length_drop, size_data]; omega
            have hcutr := fun W => run_cut_from W c n (by omega)
            have HEnt : Hid (body K (k + 1) = body K k ++ uv n ++ textE (c.data.toList.drop n)) := by
              show body K (k + 1) = _
              rw [body_succ, ent, HKk.out, HN.out, List.append_assoc]
            have hpl : (body K k).length ≤ 10000000 := by have := HPos.out k; unfold pos at this; omega
            have huv := uv_len64 n (by omega)
            have hd0 : Below w3.heap.size w3 w3.drew := (Below.refl w3.heap.size w3).drew
            have HBW := Lib.hid hB3
            clear hob hout3
            generalize c.extract n c.size = x at *
            generalize hEK : body K (k + 1) = EK at *
            generalize hBK : body K k = BK at *
            have HEK := Lib.hid hEK
            have HBK := Lib.hid hBK
            have huup := uv_pos n
            have huv0 := Lib.hid (fun W a c h1 h2 h3 h4 => put_any a c BK n W h1 h2 h3 h4)
            generalize huu : uv n = UU at *
            clear hEK hBK huu
            go_upto_region 13 with (fail)
            go_cut [4] (fun v wc => wc.ownsRow w.heap.size 5 1 v EK.length (bytesV EK) ∧ Below w3.heap.size w3 wc)
            case first =>
              refine wp_region_noPanic ?_
              refine wp_region_held_drew (S := (fun w' => Below w3.heap.size w3 w')) (by kernel_rfl) hd0 (fun hHeld => ?_)
              refine take_at 0 39 (v := ?_) rfl rfl (by kernel_rfl) (by kernel_rfl) (by kernel_rfl) (fun _ _ _ h => h) (Or.inl ⟨by rfl, ?_⟩) hHeld ?_
              rotate_left
              · (intro w hSw; (try dsimp only at hSw); go_simp; try with_reducible rfl)
              try simp only [List.setIfInBounds_toArray, List.set_cons_zero, List.set_cons_succ]
              refine take_at 1 40 (v := ?_) rfl rfl (by kernel_rfl) (by kernel_rfl) (by kernel_rfl) (fun _ _ _ h => h) (Or.inl ⟨by rfl, ?_⟩) hHeld ?_
              rotate_left
              · (intro w hSw; (try dsimp only at hSw); go_simp; try with_reducible rfl)
              try simp only [List.setIfInBounds_toArray, List.set_cons_zero, List.set_cons_succ]
              refine take_at 2 41 (v := ?_) rfl rfl (by kernel_rfl) (by kernel_rfl) (by kernel_rfl) (fun _ _ _ h => h) (Or.inl ⟨by rfl, ?_⟩) hHeld ?_
              rotate_left
              · (intro w hSw; (try dsimp only at hSw); go_simp; try with_reducible rfl)
              try simp only [List.setIfInBounds_toArray, List.set_cons_zero, List.set_cons_succ]
              refine take_at 4 43 (v := ?_) rfl rfl (by kernel_rfl) (by kernel_rfl) (by kernel_rfl) (fun _ _ _ h => h) (Or.inl ⟨by rfl, ?_⟩) hHeld ?_
              rotate_left
              · (intro w hSw; (try dsimp only at hSw); go_simp; try with_reducible rfl)
              try simp only [List.setIfInBounds_toArray, List.set_cons_zero, List.set_cons_succ]
              refine take_at 5 44 (v := ?_) rfl rfl (by kernel_rfl) (by kernel_rfl) (by kernel_rfl) (fun _ _ _ h => h) (Or.inl ⟨by rfl, ?_⟩) hHeld ?_
              rotate_left
              · (intro w hSw; (try dsimp only at hSw); go_simp; try with_reducible rfl)
              try simp only [List.setIfInBounds_toArray, List.set_cons_zero, List.set_cons_succ]
              refine take_at 6 45 (v := ?_) rfl rfl (by kernel_rfl) (by kernel_rfl) (by kernel_rfl) (fun _ _ _ h => h) (Or.inl ⟨by rfl, ?_⟩) hHeld ?_
              rotate_left
              · (intro w hSw; (try dsimp only at hSw); go_simp; try with_reducible rfl)
              try simp only [List.setIfInBounds_toArray, List.set_cons_zero, List.set_cons_succ]
              refine only_at 3 42 (by kernel_rfl) rfl rfl (by rfl) (fun K hK => ?_)
              go_simp
              try rw [hwn]
              refine (huv0.out _ ao co (by omega) hoc (by omega) (HOB.out.below (by assumption))).mono ?_
              rintro e w6 ⟨v6, rfl, hown6, hb6⟩
              have hb6' : Below w3.heap.size w3 w6 := below_step (by assumption) hb6
              obtain ⟨a6, m6, c6, rfl⟩ := row_slice hown6
              have hm6 := row_len' hown6
              have hc6 := row_cap hown6
              have HB6 := Lib.hid (row_bytes' hown6)
              have hl6 : m6 ≤ 100000000 := by rw [hm6, List.length_append]; omega
              have hc6' : m6 ≤ c6 := by rw [hm6]; exact hc6
              have HM6 := Lib.hid hm6
              clear hown6 hm6 hc6
              go_wp2_with fail
              refine hK.out _ _ (by assumption) (fun hHeld2 => ?_)
              clear hK K hHeld
              have hHeld := hHeld2
              clear hHeld2
              try simp only [Act.put, List.setIfInBounds_toArray, List.set_cons_zero, List.set_cons_succ]
              refine only_at 7 46 (by kernel_rfl) rfl rfl (by rfl) (fun K hK => ?_)
              go_simp
              refine (puttext_at a6 c6 m6 (BK ++ UU) x _ HM6.out.symm (by omega) hc6' (by omega) HB6.out).mono ?_
              rintro e w7 ⟨v7, rfl, hown7, hb7⟩
              have hb7' : Below w3.heap.size w3 w7 := below_step (by assumption) hb7
              go_wp2_with fail
              refine hK.out _ _ (by assumption) (fun hHeld2 => ?_)
              clear hK K hHeld
              have hHeld := hHeld2
              clear hHeld2
              try simp only [Act.put, List.setIfInBounds_toArray, List.set_cons_zero, List.set_cons_succ]
              refine take_at 8 4 (v := ?_) rfl rfl (by kernel_rfl) (by kernel_rfl) (by kernel_rfl) (fun _ _ _ h => h) (Or.inl ⟨by rfl, ?_⟩) hHeld ?_
              rotate_left
              · (intro w hSw; (try dsimp only at hSw); go_simp; try with_reducible rfl)
              try simp only [List.setIfInBounds_toArray, List.set_cons_zero, List.set_cons_succ]
              refine wpAnyH_done (by kernel_rfl) ?_ _
              refine NoPanic.normal ?_
              go_wp2_with fail
              go_meet
              case rel =>
                refine ⟨?_, by assumption⟩
                have e : BK ++ UU ++ textE x.data.toList = EK := by rw [HTX.out]; exact HEnt.out.symm
                have hpos7 : 0 < EK.length := by rw [← e, List.length_append, List.length_append]; omega
                rw [e] at hown7
                obtain ⟨g7, cp7, rfl, hg71, _, _⟩ := row_shape hown7 hpos7
                exact row_base hown7 (Nat.le_trans HBW.out.size (Nat.le_trans (Below.size (by assumption)) hg71))
            case rest =>
              obtain ⟨hout5, hbc⟩ := hcut
              have HOut5 := Lib.hid hout5
              have HBC := Lib.hid hbc
              clear hout5
              go_wp2_with fail
              go_roundw
              case rel =>
                refine ⟨k + 1, by omega, by go_num, ?_⟩
                refine ⟨by rw [HEK.out]; exact HOut5.out, ?_, ⟨c, rfl, fun _ => by rw [Nat.add_sub_cancel]; exact HCC.out.symm⟩, HRis2.out, HBW.out.trans (HBC.out.mono HBW.out.size)⟩
                exact HPL2.out _ HBC.out
              case measure => simp [intOf]; omega
        · obtain rfl : k = 0 := by omega
          rw [Nat.add_zero] at hck
          have hdk0 : decide ((0 : Int) < (l.length : Int)) = true := decide_eq_true (by omega)
          have HN : Hid (share K 0 = 0) := rfl
          have HPV := Lib.hid (placesV_yes K 0 rfl)
          have HWS : Hid (wholes (0 + 1) = wholes 0 + 1) := rfl
          have HRis2 : Hid (∀ i, i + 1 < 0 + 1 → K.getD i [] < K.getD (i + 1) []) := fun i hi => by omega
          have hwk : wholes 0 ≤ 3000 := by decide
          clear hord hdk
          generalize hw0 : wholes 0 = W0 at *
          go_upto_region 13 with (at_builtin; refine wpList_append_one wr rfl _ _ 44 rfl w.heap.size 3 i3 (.int .i64 0) 8 Try.underlying44 hi3 hy0 hy1 hy2 rfl _ _ _ (by rfl) hplaces _ 1 rfl rfl (by omega) (by omega) hB.size ?_; intro v3 w3 hpl3 hg3 _; have hB3 := Below.own hB hplaces (Nat.le_refl _) hB.size hg3; have hout3 := hout.kept hg3 (own_ne hplaces hout (by decide)))
          have HPL2 : Hid (∀ W', Below w3.heap.size w3 W' → W'.ownsRow w.heap.size 3 1 v3 (wholes (0 + 1)) (placesV K (0 + 1))) := by
            intro W' hW
            rw [HWS.out, HPV.out]
            exact Below.row hW hpl3
          clear hw0
          have hob := row_bytes' hout3
          have hoc := row_cap hout3
          have HOB := Lib.hid hob
          have HTX := Lib.hid (extract_data c 0)
          have hxs : (c.extract 0 c.size).size ≤ 3000 := by rw [← size_data, extract_data, List.length_drop, size_data]; omega
          have hcutr : ∀ W, (Instr.slice 9 (.string c) (some (.int .i64 0)) none none).run Try.prog W = .ok (.string (c.extract 0 c.size)) W := fun W => run_cut_from W c 0 (Nat.zero_le _)
          have HEnt : Hid (body K (0 + 1) = body K 0 ++ uv 0 ++ textE (c.data.toList.drop 0)) := by
            show body K (0 + 1) = _
            rw [body_succ, ent, HKk.out, HN.out, List.append_assoc]
          have hpl : (body K 0).length ≤ 10000000 := by have := HPos.out 0; unfold pos at this; omega
          have huv := uv_len64 0 (by omega)
          have hd0 : Below w3.heap.size w3 w3.drew := (Below.refl w3.heap.size w3).drew
          have HBW := Lib.hid hB3
          clear hob hout3
          generalize c.extract 0 c.size = x at *
          generalize hEK : body K (0 + 1) = EK at *
          generalize hBK : body K 0 = BK at *
          have HEK := Lib.hid hEK
          have HBK := Lib.hid hBK
          have huup := uv_pos 0
          have huv0 := Lib.hid (fun W a c h1 h2 h3 h4 => put_any a c BK 0 W h1 h2 h3 h4)
          generalize huu : uv 0 = UU at *
          clear hEK hBK huu
          go_upto_region 13 with (fail)
          go_cut [4] (fun v wc => wc.ownsRow w.heap.size 5 1 v EK.length (bytesV EK) ∧ Below w3.heap.size w3 wc)
          case first =>
            refine wp_region_noPanic ?_
            refine wp_region_held_drew (S := (fun w' => Below w3.heap.size w3 w')) (by kernel_rfl) hd0 (fun hHeld => ?_)
            refine take_at 0 39 (v := ?_) rfl rfl (by kernel_rfl) (by kernel_rfl) (by kernel_rfl) (fun _ _ _ h => h) (Or.inl ⟨by rfl, ?_⟩) hHeld ?_
            rotate_left
            · (intro w hSw; (try dsimp only at hSw); go_simp; try with_reducible rfl)
            try simp only [List.setIfInBounds_toArray, List.set_cons_zero, List.set_cons_succ]
            refine take_at 1 40 (v := ?_) rfl rfl (by kernel_rfl) (by kernel_rfl) (by kernel_rfl) (fun _ _ _ h => h) (Or.inl ⟨by rfl, ?_⟩) hHeld ?_
            rotate_left
            · (intro w hSw; (try dsimp only at hSw); go_simp; try with_reducible rfl)
            try simp only [List.setIfInBounds_toArray, List.set_cons_zero, List.set_cons_succ]
            refine take_at 2 41 (v := ?_) rfl rfl (by kernel_rfl) (by kernel_rfl) (by kernel_rfl) (fun _ _ _ h => h) (Or.inl ⟨by rfl, ?_⟩) hHeld ?_
            rotate_left
            · (intro w hSw; (try dsimp only at hSw); go_simp; try with_reducible rfl)
            try simp only [List.setIfInBounds_toArray, List.set_cons_zero, List.set_cons_succ]
            refine take_at 4 43 (v := ?_) rfl rfl (by kernel_rfl) (by kernel_rfl) (by kernel_rfl) (fun _ _ _ h => h) (Or.inl ⟨by rfl, ?_⟩) hHeld ?_
            rotate_left
            · (intro w hSw; (try dsimp only at hSw); go_simp; try with_reducible rfl)
            try simp only [List.setIfInBounds_toArray, List.set_cons_zero, List.set_cons_succ]
            refine take_at 5 44 (v := ?_) rfl rfl (by kernel_rfl) (by kernel_rfl) (by kernel_rfl) (fun _ _ _ h => h) (Or.inl ⟨by rfl, ?_⟩) hHeld ?_
            rotate_left
            · (intro w hSw; (try dsimp only at hSw); go_simp; try with_reducible rfl)
            try simp only [List.setIfInBounds_toArray, List.set_cons_zero, List.set_cons_succ]
            refine take_at 6 45 (v := ?_) rfl rfl (by kernel_rfl) (by kernel_rfl) (by kernel_rfl) (fun _ _ _ h => h) (Or.inl ⟨by rfl, ?_⟩) hHeld ?_
            rotate_left
            · (intro w hSw; (try dsimp only at hSw); go_simp; try with_reducible rfl)
            try simp only [List.setIfInBounds_toArray, List.set_cons_zero, List.set_cons_succ]
            refine only_at 3 42 (by kernel_rfl) rfl rfl (by rfl) (fun K hK => ?_)
            go_simp
            try rw [hwn]
            refine (huv0.out _ ao co (by omega) hoc (by omega) (HOB.out.below (by assumption))).mono ?_
            rintro e w6 ⟨v6, rfl, hown6, hb6⟩
            have hb6' : Below w3.heap.size w3 w6 := below_step (by assumption) hb6
            obtain ⟨a6, m6, c6, rfl⟩ := row_slice hown6
            have hm6 := row_len' hown6
            have hc6 := row_cap hown6
            have HB6 := Lib.hid (row_bytes' hown6)
            have hl6 : m6 ≤ 100000000 := by rw [hm6, List.length_append]; omega
            have hc6' : m6 ≤ c6 := by rw [hm6]; exact hc6
            have HM6 := Lib.hid hm6
            clear hown6 hm6 hc6
            go_wp2_with fail
            refine hK.out _ _ (by assumption) (fun hHeld2 => ?_)
            clear hK K hHeld
            have hHeld := hHeld2
            clear hHeld2
            try simp only [Act.put, List.setIfInBounds_toArray, List.set_cons_zero, List.set_cons_succ]
            refine only_at 7 46 (by kernel_rfl) rfl rfl (by rfl) (fun K hK => ?_)
            go_simp
            refine (puttext_at a6 c6 m6 (BK ++ UU) x _ HM6.out.symm (by omega) hc6' (by omega) HB6.out).mono ?_
            rintro e w7 ⟨v7, rfl, hown7, hb7⟩
            have hb7' : Below w3.heap.size w3 w7 := below_step (by assumption) hb7
            go_wp2_with fail
            refine hK.out _ _ (by assumption) (fun hHeld2 => ?_)
            clear hK K hHeld
            have hHeld := hHeld2
            clear hHeld2
            try simp only [Act.put, List.setIfInBounds_toArray, List.set_cons_zero, List.set_cons_succ]
            refine take_at 8 4 (v := ?_) rfl rfl (by kernel_rfl) (by kernel_rfl) (by kernel_rfl) (fun _ _ _ h => h) (Or.inl ⟨by rfl, ?_⟩) hHeld ?_
            rotate_left
            · (intro w hSw; (try dsimp only at hSw); go_simp; try with_reducible rfl)
            try simp only [List.setIfInBounds_toArray, List.set_cons_zero, List.set_cons_succ]
            refine wpAnyH_done (by kernel_rfl) ?_ _
            refine NoPanic.normal ?_
            go_wp2_with fail
            go_meet
            case rel =>
              refine ⟨?_, by assumption⟩
              have e : BK ++ UU ++ textE x.data.toList = EK := by rw [HTX.out]; exact HEnt.out.symm
              have hpos7 : 0 < EK.length := by rw [← e, List.length_append, List.length_append]; omega
              rw [e] at hown7
              obtain ⟨g7, cp7, rfl, hg71, _, _⟩ := row_shape hown7 hpos7
              exact row_base hown7 (Nat.le_trans HBW.out.size (Nat.le_trans (Below.size (by assumption)) hg71))
          case rest =>
            obtain ⟨hout5, hbc⟩ := hcut
            have HOut5 := Lib.hid hout5
            have HBC := Lib.hid hbc
            clear hout5
            go_wp2_with fail
            go_roundw
            case rel =>
              refine ⟨0 + 1, by omega, by go_num, ?_⟩
              refine ⟨by rw [HEK.out]; exact HOut5.out, ?_, ⟨c, rfl, fun _ => by rw [Nat.add_sub_cancel]; exact HCC.out.symm⟩, HRis2.out, HBW.out.trans (HBC.out.mono HBW.out.size)⟩
              exact HPL2.out _ HBC.out
            case measure => simp [intOf]; omega
    · obtain rfl : k = l.length := by omega
      have hdk : decide ((l.length : Int) < (l.length : Int)) = false := by simp
      have HRS : Hid (Rises K) := by
        intro i hi
        rw [HKl.out] at hi
        exact HRis.out i hi
      have HBK : Hid (blockOf K = body K l.length ++ ends K (wholes l.length) ++ four (wholes l.length)) := by
        show blockOf K = _
        rw [blockOf, HKl.out]
      obtain ⟨ap, mp, cp, rfl⟩ := row_slice hplaces
      have hmp := row_len' hplaces
      subst hmp
      have hpN := HPos.out
      have hPmono := pos_mono K
      have HPM := Lib.hid hPmono
      have HPV : Hid (∀ j, j < wholes l.length → (placesV K l.length)[j]? = some (.int .i64 (pos K (16 * j) : Nat))) := fun j hj => placesV_get K _ j hj
      have hwl : wholes l.length ≤ 3000 := by unfold wholes; omega
      have HP16 : Hid (∀ j, j < wholes l.length → pos K (16 * j) ≤ 10000000) := by
        intro j hj
        have h1 := HPM.out (16 * j) l.length (by unfold wholes at hj; omega)
        have h2 := HPos.out l.length
        omega
      have hLen : (body K l.length).length ≤ 10000000 := by
        have h2 := HPos.out l.length
        unfold pos at h2
        omega
      clear hpN hPmono HPM HS HRis HKs HKl HKat H hlt
      clear hkl
      generalize wholes l.length = W at *
      generalize body K l.length = BK at *
      generalize placesV K l.length = PV at *
      generalize l.length = N at *
      go_wp2_with fail
      go_loopw [4, 51] (fun out i wr2 => ∃ j : Nat, j ≤ W ∧ i = .int .i64 j ∧ wr2.ownsRow w.heap.size 5 1 out (BK.length + 4 * j) (bytesV (BK ++ ends K j)) ∧ wr2.ownsRow w.heap.size 3 1 (.slice ap W cp) W PV ∧ Hid (Below w.heap.size w wr2)) (fun _ i _ => W - (intOf i).toNat)
      case atStart => exact ⟨0, Nat.zero_le _, rfl, by rw [Nat.mul_zero, Nat.add_zero]; exact (by simpa [ends] using hout), hplaces, hB⟩
      case round =>
        clear hout hplaces hB
        obtain ⟨j, hjW, rfl, hout, hplaces, HB⟩ := hrel
        obtain ⟨ao, mo, co, rfl⟩ := row_slice hout
        have hmo := row_len' hout
        subst hmo
        by_cases hj : j < W
        · obtain ⟨g, off, rfl, hcell⟩ := row_cells hplaces (by omega)
          have hcj := (hcell j hj).trans (HPV.out j hj)
          have h16 := HP16.out j hj
          generalize hpp : pos K (16 * j) = p at *
          have HPP := Lib.hid hpp
          clear hcell hpp
          have hdj : decide ((j : Int) < (W : Int)) = true := decide_eq_true (by omega)
          have HCall := Lib.hid (put4_any w.heap.size _ _ (BK ++ ends K j) p (p : Int) _ rfl (by omega) hout (by omega) HB.out.size)
          go_wp2_with fail
          refine HCall.out.mono ?_
          rintro e w3 ⟨v3, rfl, hown3, hg3⟩
          have hpl3 := hplaces.kept hg3 (own_ne hout hplaces (by decide))
          have HB3 := Lib.hid (Below.own HB.out hout (Nat.le_refl _) HB.out.size hg3)
          clear HCall hg3 hplaces hout HB
          go_wp2_with fail
          go_roundw
          case rel =>
            refine ⟨j + 1, by omega, by go_num, ?_, hpl3, HB3⟩
            rw [ends_succ, HPP.out, ← List.append_assoc]
            exact hown3
          case measure => simp [intOf]; omega
        · obtain rfl : j = W := by omega
          have HCall := Lib.hid (put4_any w.heap.size _ _ (BK ++ ends K j) j (j : Int) _ rfl (by omega) hout (by omega) HB.out.size)
          have hdj : decide ((j : Int) < (j : Int)) = false := by simp
          go_wp2_with fail
          refine HCall.out.mono ?_
          rintro e w3 ⟨v3, rfl, hown3, hg3⟩
          have HB3 := Lib.hid (Below.own HB.out hout (Nat.le_refl _) HB.out.size hg3)
          clear HCall hg3 hplaces hout HB
          go_wp2_with fail
          go_ret2
          refine ⟨fun _ => ⟨v3, rfl, ?_⟩, fun h => absurd HRS.out h, HB3.out⟩
          rw [HBK.out]
          have e : (BK ++ ends K j ++ four j).length = BK.length + 4 * j + 4 := by rw [List.length_append, List.length_append, length_ends, length_four]
          rw [e]
          exact hown3
end Go.Proofs.Ytbamohcaamgalab
