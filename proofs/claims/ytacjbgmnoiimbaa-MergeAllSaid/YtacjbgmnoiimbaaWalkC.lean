/- A text put into a row, as the document does; a row sorted: walked. -/
import Derived.Test.YtacjbgmnoiimbaaWalkA
import Derived.Deep.AppendLies
namespace Go.Proofs.Ytacjbgmnoiimbaa
set_option linter.unusedVariables false
set_option linter.unusedSimpArgs false
open Go.RowKit

/-- cells read from an address on -/
def IsVals (w : World) (a : Option Addr) (xs : List Value) : Prop :=
  0 < xs.length → ∃ b off, a = some ⟨b, off, none⟩ ∧ b < w.heap.size ∧ ∀ k, k < xs.length → w.cell? ⟨b, off + k, none⟩ = xs[k]?
theorem IsVals.below {w w' : World} {a : Option Addr} {l : List Value} (h : IsVals w a l) (hb : Below w.heap.size w w') : IsVals w' a l := by
  intro h0
  obtain ⟨b, off, ha, hbw, hc⟩ := h h0
  exact ⟨b, off, ha, Nat.lt_of_lt_of_le hbw hb.size, fun k hk => (hb.cell (p := ⟨b, off + k, none⟩) hbw).trans (hc k hk)⟩
def strsV (l : List ByteArray) : List Value := l.map .string
theorem length_strsV (l : List ByteArray) : (strsV l).length = l.length := by simp [strsV]
theorem strsV_append (l r : List ByteArray) : strsV (l ++ r) = strsV l ++ strsV r := by simp [strsV]
theorem strsV_get (l : List ByteArray) (i : Nat) (h : i < l.length) : (strsV l)[i]? = some (.string (l.getD i ByteArray.empty)) := by simp [strsV, h]
theorem strsV_one (l : List ByteArray) : ∀ u ∈ strsV l, u.oneCell' = true := by
  intro u hu
  obtain ⟨_, _, rfl⟩ := List.mem_map.1 hu
  rfl
theorem isStrs_vals {w : World} {a : Option Addr} {l : List ByteArray} (h : IsStrs w a l) : IsVals w a (strsV l) := by
  intro h0
  rw [length_strsV] at h0
  obtain ⟨b, off, ha, hb, hc⟩ := h h0
  refine ⟨b, off, ha, hb, fun k hk => ?_⟩
  rw [length_strsV] at hk
  rw [strsV_get l k hk]
  exact hc k hk
theorem vals_isStrs {w : World} {a : Option Addr} {l : List ByteArray} (h : IsVals w a (strsV l)) : IsStrs w a l := by
  intro h0
  obtain ⟨b, off, ha, hb, hc⟩ := h (by rw [length_strsV]; exact h0)
  refine ⟨b, off, ha, hb, fun k hk => ?_⟩
  rw [hc k (by rw [length_strsV]; exact hk)]
  exact strsV_get l k hk
theorem row_vals {w : World} {base : Nat} {e : TypeId} {size n m c : Nat} {a : Option Addr} {xs : List Value} (h : w.ownsRow base e size (.slice a m c) n xs) : IsVals w a xs := by
  intro h0
  have hl := h.1
  rcases h.2 with ⟨hv, h1⟩ | ⟨g, cap, cur, hv, _⟩
  · subst h1; omega
  · cases hv
    refine ⟨g, 0, rfl, (h.lt g rfl).2, fun k hk => ?_⟩
    rw [Nat.zero_add]
    exact h.cellAt k (by omega)
theorem row_strs {w : World} {base : Nat} {n m c : Nat} {a : Option Addr} {l : List ByteArray} (h : w.ownsRow base 9 1 (.slice a m c) n (strsV l)) : IsStrs w a l := vals_isStrs (row_vals h)
theorem cutA_vals {w : World} {a : Option Addr} {l : List Value} {cap lo hi : Nat} (h : IsVals w a l) (hl : hi ≤ l.length) (hc : l.length ≤ cap) : IsVals w (cutA a cap lo) ((l.take hi).drop lo) := by
  intro h0
  have hlen : ((l.take hi).drop lo).length = hi - lo := by rw [List.length_drop, List.length_take]; omega
  obtain ⟨b, off, rfl, hb, hcell⟩ := h (by omega)
  refine ⟨b, off + lo, ?_, hb, ?_⟩
  · unfold cutA
    rw [if_neg (by omega)]
    simp [Addr.add_lit]
  · intro k hk
    have := hcell (lo + k) (by omega)
    rw [Nat.add_assoc, this]
    rw [List.getElem?_drop, List.getElem?_take, if_pos (by omega)]
section
variable {P : Program} (w : World) {o : Oper} {A : Act} {K : Act → World → Prop} {Q : Exit → Act → World → Prop}
/-- 'append(out, x...)': out nil or the call's own, x nil, empty or not -/
theorem wp_append_vals (s x : Operand) (t : TypeId) (ho : o.op = .call { callee := .builtin .append, args := #[s, x], argTypes := #[t, t] })
    (base : Nat) (e : TypeId) (i : TypeInfo) (z : Value) (size bytes : Nat) (ht : P.underlying t = some (.slice e)) (hi : P.info? e = some i) (hz : i.zero = some z) (hsize : i.size = size) (hby : i.bytes = bytes) (hzs : z.cells.size = size) (hsz : 0 < size)
    (v : Value) (n : Nat) (xs : List Value) (hs : A.eval s = v) (hown : w.ownsRow base e size v n xs) (ad : Option Addr) (m c : Nat) (news : List Value) (hx : A.eval x = .slice ad m c) (hm : news.length = m * size) (hb : IsVals w ad news) (h1 : ∀ u ∈ news, u.oneCell' = true)
    (hbd : n + m ≤ maxLen) (hbytes : (n + m) * bytes ≤ 140737488355328) (hbase : base ≤ w.heap.size)
    (h : ∀ v' w', w'.ownsRow base e size v' (n + m) (xs ++ news) → w.grownBy w' v.ownBlock → K (A.put o.dst v') w') : o.wp P A w K Q := by
  cases ad with
  | some ad =>
    have hnews : ∀ j u, news[j]? = some u → w.cell? (ad.add j) = some u := by
      intro j u hj
      have hjl : j < news.length := (List.getElem?_eq_some_iff.1 hj).1
      obtain ⟨b, off, hab, _, hc⟩ := hb (by omega)
      cases hab
      rw [Addr.add_lit, hc j hjl, hj]
    obtain ⟨v', w', hr, h2, h3, _, _⟩ := run_append_own_at (P := P) w base t o.type e i z size bytes ht hi hz hsize hby hzs hsz v n xs hown ad m c news hm hnews h1 hbd hbytes hbase
    unfold Oper.wp execOp
    simp only [ho, resolve, invoke, builtin, Sem.run_bind, Sem.run_pure, Result.andThen_ok, List.map_toArray, List.map_cons, List.map_nil, hs, hx]
    rw [hr]
    exact h v' w' h2 h3
  | none =>
    have hl : news = [] := by
      cases news with
      | nil => rfl
      | cons c r => obtain ⟨b, off, h0, _⟩ := hb (by simp); cases h0
    subst hl
    have hm0 : m = 0 := by
      rcases Nat.eq_zero_or_pos m with h0 | h0
      · exact h0
      · have := Nat.mul_pos h0 hsz
        simp at hm; omega
    subst hm0
    have hr : (Builtin.append_ #[t, t] o.type #[v, .slice none 0 c]).run P w = .ok v w := by
      rcases hown.2 with ⟨rfl, rfl⟩ | ⟨g, cap, cur, rfl, _, _, hnc, _⟩
      · simp [Builtin.append_, run_underlying ht, sizeOf, typeInfo, hi, Builtin.lenOf, Builtin.firstCells]
      · simp [Builtin.append_, run_underlying ht, sizeOf, typeInfo, hi, Builtin.lenOf, Builtin.firstCells, hnc, storeCells]
    unfold Oper.wp execOp
    simp only [ho, resolve, invoke, builtin, Sem.run_bind, Sem.run_pure, Result.andThen_ok, List.map_toArray, List.map_cons, List.map_nil, hs, hx]
    rw [hr]
    exact h v w (by simpa using hown) (World.grownBy.refl _ _)
end
section
variable {P : Program} {ops : Array Oper} {Q : Exit → Act → World → Prop} {md : Region.Mode} {S : World → Prop}
/-- either of two operations may come up -/
theorem two_at (i j di dj : Nat) {oi oj : Oper} {fuel : Nat} {listed : Array Bool} {a : Act} {w : World} (hr : Region.ready md ops listed = [i, j]) (hoi : ops[i]? = some oi) (hdi : oi.dst = some di) (hwi : Region.wanted oi (yielded ops a.tmps) = true)
    (hoj : ops[j]? = some oj) (hdj : oj.dst = some dj) (hwj : Region.wanted oj (yielded ops a.tmps) = true)
    (h1 : ∀ K' : Act → World → Prop, Shut (∀ a w, S w → (S w → wpAnyH P md ops Q S fuel (listed.setIfInBounds i true) a w) → K' a w) → Oper.wp P { oi with dst := some di } a w K' Q)
    (h2 : ∀ K' : Act → World → Prop, Shut (∀ a w, S w → (S w → wpAnyH P md ops Q S fuel (listed.setIfInBounds j true) a w) → K' a w) → Oper.wp P { oj with dst := some dj } a w K' Q) : wpAnyH P md ops Q S (fuel + 1) listed a w := by
  refine wpAnyH_ready hr (by simp) (AllReadyH.cons hoi (fun K' hK => ?_) (AllReadyH.cons hoj (fun K' hK => ?_) AllReadyH.nil))
  · rw [if_pos hwi]
    have e : ({ oi with dst := some di } : Oper) = oi := by cases oi; simp_all
    have := h1 K' hK
    rwa [e] at this
  · rw [if_pos hwj]
    have e : ({ oj with dst := some dj } : Oper) = oj := by cases oj; simp_all
    have := h2 K' hK
    rwa [e] at this
end
theorem Try.info9 : (Try.prog.info? 9).map (fun i => (i.zero, i.size, i.bytes)) = some (some (.string ⟨#[]⟩), 1, 16) := by kernel_rfl
def putAt (l : List ByteArray) (key : ByteArray) (i : Nat) : List ByteArray := l.take i ++ [key] ++ l.drop i
theorem length_putAt (l : List ByteArray) (key : ByteArray) (i : Nat) (h : i ≤ l.length) : (putAt l key i).length = l.length + 1 := by
  unfold putAt; simp; omega
theorem keysOf_putAt (l : List ByteArray) (key : ByteArray) (i : Nat) : keysOf (putAt l key i) = laid (keysOf l) key.data.toList i := by
  unfold putAt laid keysOf; simp
/-- what putting a key into a row answers -/
def PutIs (v0 : Value) (l : List ByteArray) (key : ByteArray) (w : World) (e : Ending) (w' : World) : Prop :=
  ∃ i, First (keysOf l) (· < key.data.toList) i ∧ ((i < l.length ∧ l.getD i ByteArray.empty = key ∧ e = .returned (.tuple #[v0, .bool false]) ∧ w' = w) ∨
    ((i < l.length → l.getD i ByteArray.empty ≠ key) ∧ ∃ v, e = .returned (.tuple #[v, .bool true]) ∧ w'.ownsRow w.heap.size 9 1 v (l.length + 1) (strsV (putAt l key i)) ∧ Below w.heap.size w w'))
theorem less_walk (a b : ByteArray) : Op.bytesLess a.toList b.toList = decide (a.data.toList < b.data.toList) := by
  rw [ByteArray.toList_eq, ByteArray.toList_eq, bytesLess_eq]
set_option maxRecDepth 100000 in
set_option maxHeartbeats 1000000 in
theorem refput_row (a : Option Addr) (cap : Nat) (l : List ByteArray) (key : ByteArray) (w : World) (hl : l.length ≤ 1000000) (hcap : l.length ≤ cap) (h : IsStrs w a l) :
    Calls Try.prog 16 #[.slice a l.length cap, .string key] w (PutIs (.slice a l.length cap) l key w) := by
  obtain ⟨i9, hi, hz0, hz1, hz2⟩ := info_parts Try.info9
  have H := Lib.hid h
  clear h
  go_enter Try.func16, Try.ntmps16
  go_wp2_with fail
  go_loopw [6] (fun i wr => ∃ k : Nat, k ≤ l.length ∧ i = .int .i64 k ∧ Hid (∀ j, j < k → (keysOf l).getD j [] < key.data.toList) ∧ wr = w) (fun i _ => l.length - (intOf i).toNat)
  case atStart => exact ⟨0, Nat.zero_le _, rfl, Lib.hid (fun j hj => by omega), rfl⟩
  case round =>
    obtain ⟨k, hkl, rfl, HE, rfl⟩ := hrel
    by_cases hlt : k < l.length ∧ l.getD k ByteArray.empty ≠ key ∧ (l.getD k ByteArray.empty).data.toList < key.data.toList
    · obtain ⟨hlt, hne, hless⟩ := hlt
      obtain ⟨b, off, rfl, hb, hc⟩ := H.out (by omega)
      have c1 := hc k hlt
      have hdk : decide ((k : Int) < (l.length : Int)) = true := by simp; omega
      have HA : Hid ((keysOf l).getD k [] < key.data.toList) := by
        show _ < _
        rw [keysOf_at]; exact hless
      have hw := less_walk (l.getD k ByteArray.empty) key
      rw [decide_eq_true hless] at hw
      generalize hx : l.getD k ByteArray.empty = x at *
      clear hc hx hne hless
      go_wp2_with fail
      go_roundw
      case rel =>
        refine ⟨k + 1, by omega, by go_num, ?_, by first | rfl | trivial⟩
        intro j hj
        by_cases e : j = k
        · rw [e]; exact HA.out
        · exact HE.out j (by omega)
      case measure => simp [intOf]; omega
    · by_cases hkey : k < l.length ∧ l.getD k ByteArray.empty = key
      · obtain ⟨hkl2, hkey⟩ := hkey
        obtain ⟨b, off, rfl, hb, hc⟩ := H.out (by omega)
        have c1 := hc k hkl2
        rw [hkey] at c1
        have hdk : decide ((k : Int) < (l.length : Int)) = true := by simp; omega
        have hw := less_walk key key
        rw [decide_eq_false (List.lt_irrefl _)] at hw
        have he := text_eq_yes key key rfl
        have HR : Hid (PutIs (.slice (some ⟨b, off, none⟩) l.length cap) l key wr (.returned (.tuple #[.slice (some ⟨b, off, none⟩) l.length cap, .bool false])) wr) := by
          refine ⟨k, ⟨by rw [length_keysOf]; omega, HE.out, fun _ => ?_⟩, .inl ⟨hkl2, hkey, rfl, rfl⟩⟩
          rw [keysOf_at, hkey]; exact List.lt_irrefl _
        clear hc hlt hkey
        go_wp2_with fail
        go_ret2
        exact HR.out
      · have HF : Hid (First (keysOf l) (· < key.data.toList) k ∧ (k < l.length → l.getD k ByteArray.empty ≠ key)) := by
          refine ⟨⟨by rw [length_keysOf]; omega, HE.out, fun hk => ?_⟩, fun hk e => hkey ⟨hk, e⟩⟩
          rw [length_keysOf] at hk
          rw [keysOf_at]
          exact fun g => hlt ⟨hk, fun e => hkey ⟨hk, e⟩, g⟩
        have HFin : Hid (∀ v W', W'.ownsRow wr.heap.size 9 1 v (0 + k + 1 + (l.length - k)) ([] ++ strsV (l.take k) ++ [.string key] ++ strsV (l.drop k)) → Below wr.heap.size wr W' → PutIs (.slice a l.length cap) l key wr (.returned (.tuple #[v, .bool true])) W') := by
          intro v W' hr hB
          refine ⟨k, HF.out.1, .inr ⟨HF.out.2, v, rfl, ?_, hB⟩⟩
          have e1 : 0 + k + 1 + (l.length - k) = l.length + 1 := by omega
          have e2 : ([] ++ strsV (l.take k) ++ [.string key] ++ strsV (l.drop k)) = strsV (putAt l key k) := by
            rw [putAt, strsV_append, strsV_append, List.nil_append]; rfl
          rw [e1, e2] at hr
          exact hr
        have HV := Lib.hid (isStrs_vals H.out)
        have h1 := Lib.hid (cutA_vals (lo := 0) (hi := k) HV.out (by rw [length_strsV]; omega) (by rw [length_strsV]; omega))
        have h2 := Lib.hid (cutA_vals (lo := k) (hi := l.length) HV.out (by rw [length_strsV]; omega) (by rw [length_strsV]; omega))
        have hs1 : ∀ W, (Instr.slice 26 (.slice a l.length cap) none (some (.int .i64 (k : Int))) none).run Try.prog W = .ok (.slice (cutA a cap 0) k cap) W := fun W => run_slice_h1 (P := Try.prog) W 26 9 i9 Try.underlying26 hi hz1 a l.length cap k .i64 (by omega)
        have hs2 : ∀ W, (Instr.slice 26 (.slice a l.length cap) (some (.int .i64 (k : Int))) none none).run Try.prog W = .ok (.slice (cutA a cap k) (l.length - k) (cap - k)) W := fun W => run_slice_l1 (P := Try.prog) W 26 9 i9 Try.underlying26 hi hz1 a l.length cap k .i64 hkl
        have HS1 := Lib.hid hs1
        have HS2 := Lib.hid hs2
        clear hs1 hs2
        by_cases hkl3 : k < l.length
        · obtain ⟨b, off, hab, hb, hc⟩ := H.out (by omega)
          have c1 := hc k hkl3
          have hdk : decide ((k : Int) < (l.length : Int)) = true := by simp; omega
          have hno : ¬ (l.getD k ByteArray.empty).data.toList < key.data.toList := fun g => hlt ⟨hkl3, fun e => hkey ⟨hkl3, e⟩, g⟩
          have hw := less_walk (l.getD k ByteArray.empty) key
          rw [decide_eq_false hno] at hw
          have he := text_eq_no _ _ (fun e => hkey ⟨hkl3, e⟩)
          generalize hx : l.getD k ByteArray.empty = x at *
          clear hc hx hlt hkey hno
          subst hab
          go_wp2_with fail
          have hs1 := HS1.out
          have hs2 := HS2.out
          have HH1 : Hid (IsVals wr (cutA (some ⟨b, off, none⟩) cap 0) (strsV (l.take k))) := by
            have := h1.out
            rw [List.drop_zero] at this
            unfold strsV at this ⊢
            rwa [List.map_take]
          have HH2 : Hid (IsVals wr (cutA (some ⟨b, off, none⟩) cap k) (strsV (l.drop k))) := by
            have := h2.out
            rw [List.take_of_length_le (by rw [length_strsV]; omega)] at this
            unfold strsV at this ⊢
            rwa [List.map_drop]
          clear h1 h2
          generalize hll : l.length = n at *
          have HLL := Lib.hid hll
          have hA : (strsV (l.take k)).length = k * 1 := by rw [length_strsV, List.length_take, hll]; omega
          have hC : (strsV (l.drop k)).length = (n - k) * 1 := by rw [length_strsV, List.length_drop, hll]; omega
          have HA1 := Lib.hid hA
          have HC1 := Lib.hid hC
          generalize hcc0 : cutA (some ⟨b, off, none⟩) cap 0 = A0 at *
          generalize hcck : cutA (some ⟨b, off, none⟩) cap k = AK at *
          have HO1 := Lib.hid (strsV_one (l.take k))
          have HO2 := Lib.hid (strsV_one (l.drop k))
          generalize strsV (l.take k) = X1 at *
          generalize strsV (l.drop k) = X2 at *
          clear hll hA hC hcc0 hcck
          have hd0 : Below wr.heap.size wr wr.drew := (Below.refl wr.heap.size wr).drew
          refine wp_region_held_drew (S := (fun w' => Below wr.heap.size wr w')) (by kernel_rfl) hd0 (fun hHeld => ?_)
          clear hd0
          generalize wr.drew = W0 at *
          refine take_at 1 35 (v := ?_) rfl rfl (by kernel_rfl) (by kernel_rfl) (by kernel_rfl) (fun _ _ _ h => h) (Or.inl ⟨by rfl, ?_⟩) hHeld ?_
          rotate_left
          · (intro w hSw; (try dsimp only at hSw); go_simp; try with_reducible rfl)
          try simp only [List.setIfInBounds_toArray, List.set_cons_zero, List.set_cons_succ]
          refine take_at 2 36 (v := ?_) rfl rfl (by kernel_rfl) (by kernel_rfl) (by kernel_rfl) (fun _ _ _ h => h) (Or.inl ⟨by rfl, ?_⟩) hHeld ?_
          rotate_left
          · (intro w hSw; (try dsimp only at hSw); go_simp; try with_reducible rfl)
          try simp only [List.setIfInBounds_toArray, List.set_cons_zero, List.set_cons_succ]
          refine take_at 3 37 (v := ?_) rfl rfl (by kernel_rfl) (by kernel_rfl) (by kernel_rfl) (fun _ _ _ h => h) (Or.inl ⟨by rfl, ?_⟩) hHeld ?_
          rotate_left
          · (intro w hSw; (try dsimp only at hSw); go_simp; try with_reducible rfl)
          try simp only [List.setIfInBounds_toArray, List.set_cons_zero, List.set_cons_succ]
          refine take_at 5 39 (v := ?_) rfl rfl (by kernel_rfl) (by kernel_rfl) (by kernel_rfl) (fun _ _ _ h => h) (Or.inl ⟨by rfl, ?_⟩) hHeld ?_
          rotate_left
          · (intro w hSw; (try dsimp only at hSw); go_simp; try with_reducible rfl)
          try simp only [List.setIfInBounds_toArray, List.set_cons_zero, List.set_cons_succ]
          refine take_at 8 42 (v := ?_) rfl rfl (by kernel_rfl) (by kernel_rfl) (by kernel_rfl) (fun _ _ _ h => h) (Or.inl ⟨by rfl, ?_⟩) hHeld ?_
          rotate_left
          · (intro w hSw; (try dsimp only at hSw); go_simp; try with_reducible rfl)
          try simp only [List.setIfInBounds_toArray, List.set_cons_zero, List.set_cons_succ]
          refine take_at 9 43 (v := ?_) rfl rfl (by kernel_rfl) (by kernel_rfl) (by kernel_rfl) (fun _ _ _ h => h) (Or.inl ⟨by rfl, ?_⟩) hHeld ?_
          rotate_left
          · (intro w hSw; (try dsimp only at hSw); go_simp; try with_reducible rfl)
          try simp only [List.setIfInBounds_toArray, List.set_cons_zero, List.set_cons_succ]
          refine take_at 10 44 (v := ?_) rfl rfl (by kernel_rfl) (by kernel_rfl) (by kernel_rfl) (fun _ _ _ h => h) (Or.inl ⟨by rfl, ?_⟩) hHeld ?_
          rotate_left
          · (intro w hSw; (try dsimp only at hSw); go_simp; try with_reducible rfl)
          try simp only [List.setIfInBounds_toArray, List.set_cons_zero, List.set_cons_succ]
          refine two_at 0 6 34 40 (by kernel_rfl) rfl rfl (by rfl) rfl rfl (by rfl) (fun K hK => ?_) (fun K hK => ?_)
          · go_simp
            have hown34 := World.ownsRow_lit (e := 9) (size := 1) (base := wr.heap.size) W0 #[] 0 (Below.size hHeld) (by decide) rfl
            have hsz34 : (W0.alloc (.cells #[] 9)).heap.size = W0.heap.size + 1 := by simp
            have hBW1 := Below.alloc hHeld (Below.size hHeld) (.cells #[] 9)
            refine hK.out _ _ hBW1 (fun hHeld2 => ?_)
            clear hK K hHeld
            have hHeld := hHeld2
            clear hHeld2
            try simp only [Act.put, List.setIfInBounds_toArray, List.set_cons_zero, List.set_cons_succ]
            generalize W0.alloc (.cells #[] 9) = W1 at *
            generalize hg34 : W0.heap.size = g34 at *
            have HSZ34 := Lib.hid hsz34
            clear hsz34 hg34
            refine two_at 4 6 38 40 (by kernel_rfl) rfl rfl (by rfl) rfl rfl (by rfl) (fun K hK => ?_) (fun K hK => ?_)
            · refine wp_append_vals _ (.tmp 34) (.tmp 37) 26 rfl wr.heap.size 9 i9 _ 1 16 Try.underlying26 hi hz0 hz1 hz2 rfl (by decide) _ 0 _ rfl hown34 _ k cap _ rfl HA1.out (HH1.out.below hHeld) HO1.out (by unfold maxLen; omega) (by omega) (Below.size hHeld) ?_
              intro v38 W2 hown38 hg38
              have hBW2 := Below.own hHeld hown34 (Nat.le_refl _) (Below.size hHeld) hg38
              clear hown34 hg38
              refine hK.out _ _ hBW2 (fun hHeld2 => ?_)
              clear hK K hHeld
              have hHeld := hHeld2
              clear hHeld2
              try simp only [Act.put, List.setIfInBounds_toArray, List.set_cons_zero, List.set_cons_succ]
              refine only_at 6 40 (by kernel_rfl) rfl rfl (by rfl) (fun K hK => ?_)
              go_simp
              have hown40 := World.ownsRow_lit (e := 9) (size := 1) (base := wr.heap.size) W2 #[.string key] 1 (Below.size hHeld) (by decide) rfl
              have hsz40 : (W2.alloc (.cells #[.string key] 9)).heap.size = W2.heap.size + 1 := by simp
              have hBW3 := Below.alloc hHeld (Below.size hHeld) (.cells #[.string key] 9)
              have hown38' := hown38.alloc (.cells #[.string key] 9)
              clear hown38
              have hown38 := hown38'
              clear hown38'
              refine hK.out _ _ hBW3 (fun hHeld2 => ?_)
              clear hK K hHeld
              have hHeld := hHeld2
              clear hHeld2
              try simp only [Act.put, List.setIfInBounds_toArray, List.set_cons_zero, List.set_cons_succ]
              generalize W2.alloc (.cells #[.string key] 9) = W3 at *
              generalize hg40 : W2.heap.size = g40 at *
              have HSZ40 := Lib.hid hsz40
              clear hsz40 hg40
              refine only_at 7 41 (by kernel_rfl) rfl rfl (by rfl) (fun K hK => ?_)
              refine wp_append_vals _ (.tmp 38) (.tmp 40) 26 rfl wr.heap.size 9 i9 _ 1 16 Try.underlying26 hi hz0 hz1 hz2 rfl (by decide) _ (0 + k) _ rfl hown38 _ 1 _ _ rfl rfl (row_vals hown40) (strsV_one [key]) (by unfold maxLen; omega) (by omega) (Below.size hHeld) ?_
              intro v41 W5 hown41 hg41
              have hB5 := Below.own hHeld hown38 (Nat.le_refl _) (Below.size hHeld) hg41
              clear hown38 hg41 hown40
              refine hK.out _ _ hB5 (fun hHeld2 => ?_)
              clear hK K hHeld
              have hHeld := hHeld2
              clear hHeld2
              try simp only [Act.put, List.setIfInBounds_toArray, List.set_cons_zero, List.set_cons_succ]
              refine only_at 11 45 (by kernel_rfl) rfl rfl (by rfl) (fun K hK => ?_)
              refine wp_append_vals _ (.tmp 41) (.tmp 44) 26 rfl wr.heap.size 9 i9 _ 1 16 Try.underlying26 hi hz0 hz1 hz2 rfl (by decide) _ (0 + k + 1) _ rfl hown41 _ (n - k) _ _ rfl HC1.out (HH2.out.below hHeld) HO2.out (by unfold maxLen; omega) (by omega) (Below.size hHeld) ?_
              intro v45 W6 hown45 hg45
              have hB6 := Below.own hHeld hown41 (Nat.le_refl _) (Below.size hHeld) hg45
              clear hown41 hg45
              refine hK.out _ _ hB6 (fun hHeld2 => ?_)
              clear hK K hHeld
              have hHeld := hHeld2
              clear hHeld2
              try simp only [Act.put, List.setIfInBounds_toArray, List.set_cons_zero, List.set_cons_succ]
              refine take_at 12 4 (v := ?_) rfl rfl (by kernel_rfl) (by kernel_rfl) (by kernel_rfl) (fun _ _ _ h => h) (Or.inl ⟨by rfl, ?_⟩) hHeld ?_
              rotate_left
              · (intro w hSw; (try dsimp only at hSw); go_simp; try with_reducible rfl)
              try simp only [List.setIfInBounds_toArray, List.set_cons_zero, List.set_cons_succ]
              refine take_at 13 5 (v := ?_) rfl rfl (by kernel_rfl) (by kernel_rfl) (by kernel_rfl) (fun _ _ _ h => h) (Or.inl ⟨by rfl, ?_⟩) hHeld ?_
              rotate_left
              · (intro w hSw; (try dsimp only at hSw); go_simp; try with_reducible rfl)
              try simp only [List.setIfInBounds_toArray, List.set_cons_zero, List.set_cons_succ]
              refine wpAnyH_done (by kernel_rfl) ?_ _
              go_wp2_with fail
              go_ret2
              exact HFin.out v45 _ hown45 hHeld
            · go_simp
              have hown40 := World.ownsRow_lit (e := 9) (size := 1) (base := wr.heap.size) W1 #[.string key] 1 (Below.size hHeld) (by decide) rfl
              have hsz40 : (W1.alloc (.cells #[.string key] 9)).heap.size = W1.heap.size + 1 := by simp
              have hBW2 := Below.alloc hHeld (Below.size hHeld) (.cells #[.string key] 9)
              have hown34' := hown34.alloc (.cells #[.string key] 9)
              clear hown34
              have hown34 := hown34'
              clear hown34'
              refine hK.out _ _ hBW2 (fun hHeld2 => ?_)
              clear hK K hHeld
              have hHeld := hHeld2
              clear hHeld2
              try simp only [Act.put, List.setIfInBounds_toArray, List.set_cons_zero, List.set_cons_succ]
              generalize W1.alloc (.cells #[.string key] 9) = W2 at *
              generalize hg40 : W1.heap.size = g40 at *
              have HSZ40 := Lib.hid hsz40
              clear hsz40 hg40
              refine only_at 4 38 (by kernel_rfl) rfl rfl (by rfl) (fun K hK => ?_)
              refine wp_append_vals _ (.tmp 34) (.tmp 37) 26 rfl wr.heap.size 9 i9 _ 1 16 Try.underlying26 hi hz0 hz1 hz2 rfl (by decide) _ 0 _ rfl hown34 _ k cap _ rfl HA1.out (HH1.out.below hHeld) HO1.out (by unfold maxLen; omega) (by omega) (Below.size hHeld) ?_
              intro v38 W3 hown38 hg38
              have hBW3 := Below.own hHeld hown34 (Nat.le_refl _) (Below.size hHeld) hg38
              have hown40' := hown40.kept hg38 (Or.inr (by intro e; have e2 : (some g40 : Option Nat) = some g34 := e; have h1 := HSZ34.out; have h2 := HSZ40.out; simp only [Option.some.injEq] at e2; omega))
              clear hown40
              have hown40 := hown40'
              clear hown40'
              clear hown34 hg38
              refine hK.out _ _ hBW3 (fun hHeld2 => ?_)
              clear hK K hHeld
              have hHeld := hHeld2
              clear hHeld2
              try simp only [Act.put, List.setIfInBounds_toArray, List.set_cons_zero, List.set_cons_succ]
              refine only_at 7 41 (by kernel_rfl) rfl rfl (by rfl) (fun K hK => ?_)
              refine wp_append_vals _ (.tmp 38) (.tmp 40) 26 rfl wr.heap.size 9 i9 _ 1 16 Try.underlying26 hi hz0 hz1 hz2 rfl (by decide) _ (0 + k) _ rfl hown38 _ 1 _ _ rfl rfl (row_vals hown40) (strsV_one [key]) (by unfold maxLen; omega) (by omega) (Below.size hHeld) ?_
              intro v41 W5 hown41 hg41
              have hB5 := Below.own hHeld hown38 (Nat.le_refl _) (Below.size hHeld) hg41
              clear hown38 hg41 hown40
              refine hK.out _ _ hB5 (fun hHeld2 => ?_)
              clear hK K hHeld
              have hHeld := hHeld2
              clear hHeld2
              try simp only [Act.put, List.setIfInBounds_toArray, List.set_cons_zero, List.set_cons_succ]
              refine only_at 11 45 (by kernel_rfl) rfl rfl (by rfl) (fun K hK => ?_)
              refine wp_append_vals _ (.tmp 41) (.tmp 44) 26 rfl wr.heap.size 9 i9 _ 1 16 Try.underlying26 hi hz0 hz1 hz2 rfl (by decide) _ (0 + k + 1) _ rfl hown41 _ (n - k) _ _ rfl HC1.out (HH2.out.below hHeld) HO2.out (by unfold maxLen; omega) (by omega) (Below.size hHeld) ?_
              intro v45 W6 hown45 hg45
              have hB6 := Below.own hHeld hown41 (Nat.le_refl _) (Below.size hHeld) hg45
              clear hown41 hg45
              refine hK.out _ _ hB6 (fun hHeld2 => ?_)
              clear hK K hHeld
              have hHeld := hHeld2
              clear hHeld2
              try simp only [Act.put, List.setIfInBounds_toArray, List.set_cons_zero, List.set_cons_succ]
              refine take_at 12 4 (v := ?_) rfl rfl (by kernel_rfl) (by kernel_rfl) (by kernel_rfl) (fun _ _ _ h => h) (Or.inl ⟨by rfl, ?_⟩) hHeld ?_
              rotate_left
              · (intro w hSw; (try dsimp only at hSw); go_simp; try with_reducible rfl)
              try simp only [List.setIfInBounds_toArray, List.set_cons_zero, List.set_cons_succ]
              refine take_at 13 5 (v := ?_) rfl rfl (by kernel_rfl) (by kernel_rfl) (by kernel_rfl) (fun _ _ _ h => h) (Or.inl ⟨by rfl, ?_⟩) hHeld ?_
              rotate_left
              · (intro w hSw; (try dsimp only at hSw); go_simp; try with_reducible rfl)
              try simp only [List.setIfInBounds_toArray, List.set_cons_zero, List.set_cons_succ]
              refine wpAnyH_done (by kernel_rfl) ?_ _
              go_wp2_with fail
              go_ret2
              exact HFin.out v45 _ hown45 hHeld
          · go_simp
            have hown40 := World.ownsRow_lit (e := 9) (size := 1) (base := wr.heap.size) W0 #[.string key] 1 (Below.size hHeld) (by decide) rfl
            have hsz40 : (W0.alloc (.cells #[.string key] 9)).heap.size = W0.heap.size + 1 := by simp
            have hBW1 := Below.alloc hHeld (Below.size hHeld) (.cells #[.string key] 9)
            refine hK.out _ _ hBW1 (fun hHeld2 => ?_)
            clear hK K hHeld
            have hHeld := hHeld2
            clear hHeld2
            try simp only [Act.put, List.setIfInBounds_toArray, List.set_cons_zero, List.set_cons_succ]
            generalize W0.alloc (.cells #[.string key] 9) = W1 at *
            generalize hg40 : W0.heap.size = g40 at *
            have HSZ40 := Lib.hid hsz40
            clear hsz40 hg40
            refine only_at 0 34 (by kernel_rfl) rfl rfl (by rfl) (fun K hK => ?_)
            go_simp
            have hown34 := World.ownsRow_lit (e := 9) (size := 1) (base := wr.heap.size) W1 #[] 0 (Below.size hHeld) (by decide) rfl
            have hsz34 : (W1.alloc (.cells #[] 9)).heap.size = W1.heap.size + 1 := by simp
            have hBW2 := Below.alloc hHeld (Below.size hHeld) (.cells #[] 9)
            have hown40' := hown40.alloc (.cells #[] 9)
            clear hown40
            have hown40 := hown40'
            clear hown40'
            refine hK.out _ _ hBW2 (fun hHeld2 => ?_)
            clear hK K hHeld
            have hHeld := hHeld2
            clear hHeld2
            try simp only [Act.put, List.setIfInBounds_toArray, List.set_cons_zero, List.set_cons_succ]
            generalize W1.alloc (.cells #[] 9) = W2 at *
            generalize hg34 : W1.heap.size = g34 at *
            have HSZ34 := Lib.hid hsz34
            clear hsz34 hg34
            refine only_at 4 38 (by kernel_rfl) rfl rfl (by rfl) (fun K hK => ?_)
            refine wp_append_vals _ (.tmp 34) (.tmp 37) 26 rfl wr.heap.size 9 i9 _ 1 16 Try.underlying26 hi hz0 hz1 hz2 rfl (by decide) _ 0 _ rfl hown34 _ k cap _ rfl HA1.out (HH1.out.below hHeld) HO1.out (by unfold maxLen; omega) (by omega) (Below.size hHeld) ?_
            intro v38 W3 hown38 hg38
            have hBW3 := Below.own hHeld hown34 (Nat.le_refl _) (Below.size hHeld) hg38
            have hown40' := hown40.kept hg38 (Or.inr (by intro e; have e2 : (some g40 : Option Nat) = some g34 := e; have h1 := HSZ34.out; have h2 := HSZ40.out; simp only [Option.some.injEq] at e2; omega))
            clear hown40
            have hown40 := hown40'
            clear hown40'
            clear hown34 hg38
            refine hK.out _ _ hBW3 (fun hHeld2 => ?_)
            clear hK K hHeld
            have hHeld := hHeld2
            clear hHeld2
            try simp only [Act.put, List.setIfInBounds_toArray, List.set_cons_zero, List.set_cons_succ]
            refine only_at 7 41 (by kernel_rfl) rfl rfl (by rfl) (fun K hK => ?_)
            refine wp_append_vals _ (.tmp 38) (.tmp 40) 26 rfl wr.heap.size 9 i9 _ 1 16 Try.underlying26 hi hz0 hz1 hz2 rfl (by decide) _ (0 + k) _ rfl hown38 _ 1 _ _ rfl rfl (row_vals hown40) (strsV_one [key]) (by unfold maxLen; omega) (by omega) (Below.size hHeld) ?_
            intro v41 W5 hown41 hg41
            have hB5 := Below.own hHeld hown38 (Nat.le_refl _) (Below.size hHeld) hg41
            clear hown38 hg41 hown40
            refine hK.out _ _ hB5 (fun hHeld2 => ?_)
            clear hK K hHeld
            have hHeld := hHeld2
            clear hHeld2
            try simp only [Act.put, List.setIfInBounds_toArray, List.set_cons_zero, List.set_cons_succ]
            refine only_at 11 45 (by kernel_rfl) rfl rfl (by rfl) (fun K hK => ?_)
            refine wp_append_vals _ (.tmp 41) (.tmp 44) 26 rfl wr.heap.size 9 i9 _ 1 16 Try.underlying26 hi hz0 hz1 hz2 rfl (by decide) _ (0 + k + 1) _ rfl hown41 _ (n - k) _ _ rfl HC1.out (HH2.out.below hHeld) HO2.out (by unfold maxLen; omega) (by omega) (Below.size hHeld) ?_
            intro v45 W6 hown45 hg45
            have hB6 := Below.own hHeld hown41 (Nat.le_refl _) (Below.size hHeld) hg45
            clear hown41 hg45
            refine hK.out _ _ hB6 (fun hHeld2 => ?_)
            clear hK K hHeld
            have hHeld := hHeld2
            clear hHeld2
            try simp only [Act.put, List.setIfInBounds_toArray, List.set_cons_zero, List.set_cons_succ]
            refine take_at 12 4 (v := ?_) rfl rfl (by kernel_rfl) (by kernel_rfl) (by kernel_rfl) (fun _ _ _ h => h) (Or.inl ⟨by rfl, ?_⟩) hHeld ?_
            rotate_left
            · (intro w hSw; (try dsimp only at hSw); go_simp; try with_reducible rfl)
            try simp only [List.setIfInBounds_toArray, List.set_cons_zero, List.set_cons_succ]
            refine take_at 13 5 (v := ?_) rfl rfl (by kernel_rfl) (by kernel_rfl) (by kernel_rfl) (fun _ _ _ h => h) (Or.inl ⟨by rfl, ?_⟩) hHeld ?_
            rotate_left
            · (intro w hSw; (try dsimp only at hSw); go_simp; try with_reducible rfl)
            try simp only [List.setIfInBounds_toArray, List.set_cons_zero, List.set_cons_succ]
            refine wpAnyH_done (by kernel_rfl) ?_ _
            go_wp2_with fail
            go_ret2
            exact HFin.out v45 _ hown45 hHeld
        · have hdk : decide ((k : Int) < (l.length : Int)) = false := by simp; omega
          clear hlt hkey
          go_wp2_with fail
          have hs1 := HS1.out
          have hs2 := HS2.out
          have HH1 : Hid (IsVals wr (cutA a cap 0) (strsV (l.take k))) := by
            have := h1.out
            rw [List.drop_zero] at this
            unfold strsV at this ⊢
            rwa [List.map_take]
          have HH2 : Hid (IsVals wr (cutA a cap k) (strsV (l.drop k))) := by
            have := h2.out
            rw [List.take_of_length_le (by rw [length_strsV]; omega)] at this
            unfold strsV at this ⊢
            rwa [List.map_drop]
          clear h1 h2
          generalize hll : l.length = n at *
          have HLL := Lib.hid hll
          have hA : (strsV (l.take k)).length = k * 1 := by rw [length_strsV, List.length_take, hll]; omega
          have hC : (strsV (l.drop k)).length = (n - k) * 1 := by rw [length_strsV, List.length_drop, hll]; omega
          have HA1 := Lib.hid hA
          have HC1 := Lib.hid hC
          generalize hcc0 : cutA a cap 0 = A0 at *
          generalize hcck : cutA a cap k = AK at *
          have HO1 := Lib.hid (strsV_one (l.take k))
          have HO2 := Lib.hid (strsV_one (l.drop k))
          generalize strsV (l.take k) = X1 at *
          generalize strsV (l.drop k) = X2 at *
          clear hll hA hC hcc0 hcck
          have hd0 : Below wr.heap.size wr wr.drew := (Below.refl wr.heap.size wr).drew
          refine wp_region_held_drew (S := (fun w' => Below wr.heap.size wr w')) (by kernel_rfl) hd0 (fun hHeld => ?_)
          clear hd0
          generalize wr.drew = W0 at *
          refine take_at 1 35 (v := ?_) rfl rfl (by kernel_rfl) (by kernel_rfl) (by kernel_rfl) (fun _ _ _ h => h) (Or.inl ⟨by rfl, ?_⟩) hHeld ?_
          rotate_left
          · (intro w hSw; (try dsimp only at hSw); go_simp; try with_reducible rfl)
          try simp only [List.setIfInBounds_toArray, List.set_cons_zero, List.set_cons_succ]
          refine take_at 2 36 (v := ?_) rfl rfl (by kernel_rfl) (by kernel_rfl) (by kernel_rfl) (fun _ _ _ h => h) (Or.inl ⟨by rfl, ?_⟩) hHeld ?_
          rotate_left
          · (intro w hSw; (try dsimp only at hSw); go_simp; try with_reducible rfl)
          try simp only [List.setIfInBounds_toArray, List.set_cons_zero, List.set_cons_succ]
          refine take_at 3 37 (v := ?_) rfl rfl (by kernel_rfl) (by kernel_rfl) (by kernel_rfl) (fun _ _ _ h => h) (Or.inl ⟨by rfl, ?_⟩) hHeld ?_
          rotate_left
          · (intro w hSw; (try dsimp only at hSw); go_simp; try with_reducible rfl)
          try simp only [List.setIfInBounds_toArray, List.set_cons_zero, List.set_cons_succ]
          refine take_at 5 39 (v := ?_) rfl rfl (by kernel_rfl) (by kernel_rfl) (by kernel_rfl) (fun _ _ _ h => h) (Or.inl ⟨by rfl, ?_⟩) hHeld ?_
          rotate_left
          · (intro w hSw; (try dsimp only at hSw); go_simp; try with_reducible rfl)
          try simp only [List.setIfInBounds_toArray, List.set_cons_zero, List.set_cons_succ]
          refine take_at 8 42 (v := ?_) rfl rfl (by kernel_rfl) (by kernel_rfl) (by kernel_rfl) (fun _ _ _ h => h) (Or.inl ⟨by rfl, ?_⟩) hHeld ?_
          rotate_left
          · (intro w hSw; (try dsimp only at hSw); go_simp; try with_reducible rfl)
          try simp only [List.setIfInBounds_toArray, List.set_cons_zero, List.set_cons_succ]
          refine take_at 9 43 (v := ?_) rfl rfl (by kernel_rfl) (by kernel_rfl) (by kernel_rfl) (fun _ _ _ h => h) (Or.inl ⟨by rfl, ?_⟩) hHeld ?_
          rotate_left
          · (intro w hSw; (try dsimp only at hSw); go_simp; try with_reducible rfl)
          try simp only [List.setIfInBounds_toArray, List.set_cons_zero, List.set_cons_succ]
          refine take_at 10 44 (v := ?_) rfl rfl (by kernel_rfl) (by kernel_rfl) (by kernel_rfl) (fun _ _ _ h => h) (Or.inl ⟨by rfl, ?_⟩) hHeld ?_
          rotate_left
          · (intro w hSw; (try dsimp only at hSw); go_simp; try with_reducible rfl)
          try simp only [List.setIfInBounds_toArray, List.set_cons_zero, List.set_cons_succ]
          refine two_at 0 6 34 40 (by kernel_rfl) rfl rfl (by rfl) rfl rfl (by rfl) (fun K hK => ?_) (fun K hK => ?_)
          · go_simp
            have hown34 := World.ownsRow_lit (e := 9) (size := 1) (base := wr.heap.size) W0 #[] 0 (Below.size hHeld) (by decide) rfl
            have hsz34 : (W0.alloc (.cells #[] 9)).heap.size = W0.heap.size + 1 := by simp
            have hBW1 := Below.alloc hHeld (Below.size hHeld) (.cells #[] 9)
            refine hK.out _ _ hBW1 (fun hHeld2 => ?_)
            clear hK K hHeld
            have hHeld := hHeld2
            clear hHeld2
            try simp only [Act.put, List.setIfInBounds_toArray, List.set_cons_zero, List.set_cons_succ]
            generalize W0.alloc (.cells #[] 9) = W1 at *
            generalize hg34 : W0.heap.size = g34 at *
            have HSZ34 := Lib.hid hsz34
            clear hsz34 hg34
            refine two_at 4 6 38 40 (by kernel_rfl) rfl rfl (by rfl) rfl rfl (by rfl) (fun K hK => ?_) (fun K hK => ?_)
            · refine wp_append_vals _ (.tmp 34) (.tmp 37) 26 rfl wr.heap.size 9 i9 _ 1 16 Try.underlying26 hi hz0 hz1 hz2 rfl (by decide) _ 0 _ rfl hown34 _ k cap _ rfl HA1.out (HH1.out.below hHeld) HO1.out (by unfold maxLen; omega) (by omega) (Below.size hHeld) ?_
              intro v38 W2 hown38 hg38
              have hBW2 := Below.own hHeld hown34 (Nat.le_refl _) (Below.size hHeld) hg38
              clear hown34 hg38
              refine hK.out _ _ hBW2 (fun hHeld2 => ?_)
              clear hK K hHeld
              have hHeld := hHeld2
              clear hHeld2
              try simp only [Act.put, List.setIfInBounds_toArray, List.set_cons_zero, List.set_cons_succ]
              refine only_at 6 40 (by kernel_rfl) rfl rfl (by rfl) (fun K hK => ?_)
              go_simp
              have hown40 := World.ownsRow_lit (e := 9) (size := 1) (base := wr.heap.size) W2 #[.string key] 1 (Below.size hHeld) (by decide) rfl
              have hsz40 : (W2.alloc (.cells #[.string key] 9)).heap.size = W2.heap.size + 1 := by simp
              have hBW3 := Below.alloc hHeld (Below.size hHeld) (.cells #[.string key] 9)
              have hown38' := hown38.alloc (.cells #[.string key] 9)
              clear hown38
              have hown38 := hown38'
              clear hown38'
              refine hK.out _ _ hBW3 (fun hHeld2 => ?_)
              clear hK K hHeld
              have hHeld := hHeld2
              clear hHeld2
              try simp only [Act.put, List.setIfInBounds_toArray, List.set_cons_zero, List.set_cons_succ]
              generalize W2.alloc (.cells #[.string key] 9) = W3 at *
              generalize hg40 : W2.heap.size = g40 at *
              have HSZ40 := Lib.hid hsz40
              clear hsz40 hg40
              refine only_at 7 41 (by kernel_rfl) rfl rfl (by rfl) (fun K hK => ?_)
              refine wp_append_vals _ (.tmp 38) (.tmp 40) 26 rfl wr.heap.size 9 i9 _ 1 16 Try.underlying26 hi hz0 hz1 hz2 rfl (by decide) _ (0 + k) _ rfl hown38 _ 1 _ _ rfl rfl (row_vals hown40) (strsV_one [key]) (by unfold maxLen; omega) (by omega) (Below.size hHeld) ?_
              intro v41 W5 hown41 hg41
              have hB5 := Below.own hHeld hown38 (Nat.le_refl _) (Below.size hHeld) hg41
              clear hown38 hg41 hown40
              refine hK.out _ _ hB5 (fun hHeld2 => ?_)
              clear hK K hHeld
              have hHeld := hHeld2
              clear hHeld2
              try simp only [Act.put, List.setIfInBounds_toArray, List.set_cons_zero, List.set_cons_succ]
              refine only_at 11 45 (by kernel_rfl) rfl rfl (by rfl) (fun K hK => ?_)
              refine wp_append_vals _ (.tmp 41) (.tmp 44) 26 rfl wr.heap.size 9 i9 _ 1 16 Try.underlying26 hi hz0 hz1 hz2 rfl (by decide) _ (0 + k + 1) _ rfl hown41 _ (n - k) _ _ rfl HC1.out (HH2.out.below hHeld) HO2.out (by unfold maxLen; omega) (by omega) (Below.size hHeld) ?_
              intro v45 W6 hown45 hg45
              have hB6 := Below.own hHeld hown41 (Nat.le_refl _) (Below.size hHeld) hg45
              clear hown41 hg45
              refine hK.out _ _ hB6 (fun hHeld2 => ?_)
              clear hK K hHeld
              have hHeld := hHeld2
              clear hHeld2
              try simp only [Act.put, List.setIfInBounds_toArray, List.set_cons_zero, List.set_cons_succ]
              refine take_at 12 4 (v := ?_) rfl rfl (by kernel_rfl) (by kernel_rfl) (by kernel_rfl) (fun _ _ _ h => h) (Or.inl ⟨by rfl, ?_⟩) hHeld ?_
              rotate_left
              · (intro w hSw; (try dsimp only at hSw); go_simp; try with_reducible rfl)
              try simp only [List.setIfInBounds_toArray, List.set_cons_zero, List.set_cons_succ]
              refine take_at 13 5 (v := ?_) rfl rfl (by kernel_rfl) (by kernel_rfl) (by kernel_rfl) (fun _ _ _ h => h) (Or.inl ⟨by rfl, ?_⟩) hHeld ?_
              rotate_left
              · (intro w hSw; (try dsimp only at hSw); go_simp; try with_reducible rfl)
              try simp only [List.setIfInBounds_toArray, List.set_cons_zero, List.set_cons_succ]
              refine wpAnyH_done (by kernel_rfl) ?_ _
              go_wp2_with fail
              go_ret2
              exact HFin.out v45 _ hown45 hHeld
            · go_simp
              have hown40 := World.ownsRow_lit (e := 9) (size := 1) (base := wr.heap.size) W1 #[.string key] 1 (Below.size hHeld) (by decide) rfl
              have hsz40 : (W1.alloc (.cells #[.string key] 9)).heap.size = W1.heap.size + 1 := by simp
              have hBW2 := Below.alloc hHeld (Below.size hHeld) (.cells #[.string key] 9)
              have hown34' := hown34.alloc (.cells #[.string key] 9)
              clear hown34
              have hown34 := hown34'
              clear hown34'
              refine hK.out _ _ hBW2 (fun hHeld2 => ?_)
              clear hK K hHeld
              have hHeld := hHeld2
              clear hHeld2
              try simp only [Act.put, List.setIfInBounds_toArray, List.set_cons_zero, List.set_cons_succ]
              generalize W1.alloc (.cells #[.string key] 9) = W2 at *
              generalize hg40 : W1.heap.size = g40 at *
              have HSZ40 := Lib.hid hsz40
              clear hsz40 hg40
              refine only_at 4 38 (by kernel_rfl) rfl rfl (by rfl) (fun K hK => ?_)
              refine wp_append_vals _ (.tmp 34) (.tmp 37) 26 rfl wr.heap.size 9 i9 _ 1 16 Try.underlying26 hi hz0 hz1 hz2 rfl (by decide) _ 0 _ rfl hown34 _ k cap _ rfl HA1.out (HH1.out.below hHeld) HO1.out (by unfold maxLen; omega) (by omega) (Below.size hHeld) ?_
              intro v38 W3 hown38 hg38
              have hBW3 := Below.own hHeld hown34 (Nat.le_refl _) (Below.size hHeld) hg38
              have hown40' := hown40.kept hg38 (Or.inr (by intro e; have e2 : (some g40 : Option Nat) = some g34 := e; have h1 := HSZ34.out; have h2 := HSZ40.out; simp only [Option.some.injEq] at e2; omega))
              clear hown40
              have hown40 := hown40'
              clear hown40'
              clear hown34 hg38
              refine hK.out _ _ hBW3 (fun hHeld2 => ?_)
              clear hK K hHeld
              have hHeld := hHeld2
              clear hHeld2
              try simp only [Act.put, List.setIfInBounds_toArray, List.set_cons_zero, List.set_cons_succ]
              refine only_at 7 41 (by kernel_rfl) rfl rfl (by rfl) (fun K hK => ?_)
              refine wp_append_vals _ (.tmp 38) (.tmp 40) 26 rfl wr.heap.size 9 i9 _ 1 16 Try.underlying26 hi hz0 hz1 hz2 rfl (by decide) _ (0 + k) _ rfl hown38 _ 1 _ _ rfl rfl (row_vals hown40) (strsV_one [key]) (by unfold maxLen; omega) (by omega) (Below.size hHeld) ?_
              intro v41 W5 hown41 hg41
              have hB5 := Below.own hHeld hown38 (Nat.le_refl _) (Below.size hHeld) hg41
              clear hown38 hg41 hown40
              refine hK.out _ _ hB5 (fun hHeld2 => ?_)
              clear hK K hHeld
              have hHeld := hHeld2
              clear hHeld2
              try simp only [Act.put, List.setIfInBounds_toArray, List.set_cons_zero, List.set_cons_succ]
              refine only_at 11 45 (by kernel_rfl) rfl rfl (by rfl) (fun K hK => ?_)
              refine wp_append_vals _ (.tmp 41) (.tmp 44) 26 rfl wr.heap.size 9 i9 _ 1 16 Try.underlying26 hi hz0 hz1 hz2 rfl (by decide) _ (0 + k + 1) _ rfl hown41 _ (n - k) _ _ rfl HC1.out (HH2.out.below hHeld) HO2.out (by unfold maxLen; omega) (by omega) (Below.size hHeld) ?_
              intro v45 W6 hown45 hg45
              have hB6 := Below.own hHeld hown41 (Nat.le_refl _) (Below.size hHeld) hg45
              clear hown41 hg45
              refine hK.out _ _ hB6 (fun hHeld2 => ?_)
              clear hK K hHeld
              have hHeld := hHeld2
              clear hHeld2
              try simp only [Act.put, List.setIfInBounds_toArray, List.set_cons_zero, List.set_cons_succ]
              refine take_at 12 4 (v := ?_) rfl rfl (by kernel_rfl) (by kernel_rfl) (by kernel_rfl) (fun _ _ _ h => h) (Or.inl ⟨by rfl, ?_⟩) hHeld ?_
              rotate_left
              · (intro w hSw; (try dsimp only at hSw); go_simp; try with_reducible rfl)
              try simp only [List.setIfInBounds_toArray, List.set_cons_zero, List.set_cons_succ]
              refine take_at 13 5 (v := ?_) rfl rfl (by kernel_rfl) (by kernel_rfl) (by kernel_rfl) (fun _ _ _ h => h) (Or.inl ⟨by rfl, ?_⟩) hHeld ?_
              rotate_left
              · (intro w hSw; (try dsimp only at hSw); go_simp; try with_reducible rfl)
              try simp only [List.setIfInBounds_toArray, List.set_cons_zero, List.set_cons_succ]
              refine wpAnyH_done (by kernel_rfl) ?_ _
              go_wp2_with fail
              go_ret2
              exact HFin.out v45 _ hown45 hHeld
          · go_simp
            have hown40 := World.ownsRow_lit (e := 9) (size := 1) (base := wr.heap.size) W0 #[.string key] 1 (Below.size hHeld) (by decide) rfl
            have hsz40 : (W0.alloc (.cells #[.string key] 9)).heap.size = W0.heap.size + 1 := by simp
            have hBW1 := Below.alloc hHeld (Below.size hHeld) (.cells #[.string key] 9)
            refine hK.out _ _ hBW1 (fun hHeld2 => ?_)
            clear hK K hHeld
            have hHeld := hHeld2
            clear hHeld2
            try simp only [Act.put, List.setIfInBounds_toArray, List.set_cons_zero, List.set_cons_succ]
            generalize W0.alloc (.cells #[.string key] 9) = W1 at *
            generalize hg40 : W0.heap.size = g40 at *
            have HSZ40 := Lib.hid hsz40
            clear hsz40 hg40
            refine only_at 0 34 (by kernel_rfl) rfl rfl (by rfl) (fun K hK => ?_)
            go_simp
            have hown34 := World.ownsRow_lit (e := 9) (size := 1) (base := wr.heap.size) W1 #[] 0 (Below.size hHeld) (by decide) rfl
            have hsz34 : (W1.alloc (.cells #[] 9)).heap.size = W1.heap.size + 1 := by simp
            have hBW2 := Below.alloc hHeld (Below.size hHeld) (.cells #[] 9)
            have hown40' := hown40.alloc (.cells #[] 9)
            clear hown40
            have hown40 := hown40'
            clear hown40'
            refine hK.out _ _ hBW2 (fun hHeld2 => ?_)
            clear hK K hHeld
            have hHeld := hHeld2
            clear hHeld2
            try simp only [Act.put, List.setIfInBounds_toArray, List.set_cons_zero, List.set_cons_succ]
            generalize W1.alloc (.cells #[] 9) = W2 at *
            generalize hg34 : W1.heap.size = g34 at *
            have HSZ34 := Lib.hid hsz34
            clear hsz34 hg34
            refine only_at 4 38 (by kernel_rfl) rfl rfl (by rfl) (fun K hK => ?_)
            refine wp_append_vals _ (.tmp 34) (.tmp 37) 26 rfl wr.heap.size 9 i9 _ 1 16 Try.underlying26 hi hz0 hz1 hz2 rfl (by decide) _ 0 _ rfl hown34 _ k cap _ rfl HA1.out (HH1.out.below hHeld) HO1.out (by unfold maxLen; omega) (by omega) (Below.size hHeld) ?_
            intro v38 W3 hown38 hg38
            have hBW3 := Below.own hHeld hown34 (Nat.le_refl _) (Below.size hHeld) hg38
            have hown40' := hown40.kept hg38 (Or.inr (by intro e; have e2 : (some g40 : Option Nat) = some g34 := e; have h1 := HSZ34.out; have h2 := HSZ40.out; simp only [Option.some.injEq] at e2; omega))
            clear hown40
            have hown40 := hown40'
            clear hown40'
            clear hown34 hg38
            refine hK.out _ _ hBW3 (fun hHeld2 => ?_)
            clear hK K hHeld
            have hHeld := hHeld2
            clear hHeld2
            try simp only [Act.put, List.setIfInBounds_toArray, List.set_cons_zero, List.set_cons_succ]
            refine only_at 7 41 (by kernel_rfl) rfl rfl (by rfl) (fun K hK => ?_)
            refine wp_append_vals _ (.tmp 38) (.tmp 40) 26 rfl wr.heap.size 9 i9 _ 1 16 Try.underlying26 hi hz0 hz1 hz2 rfl (by decide) _ (0 + k) _ rfl hown38 _ 1 _ _ rfl rfl (row_vals hown40) (strsV_one [key]) (by unfold maxLen; omega) (by omega) (Below.size hHeld) ?_
            intro v41 W5 hown41 hg41
            have hB5 := Below.own hHeld hown38 (Nat.le_refl _) (Below.size hHeld) hg41
            clear hown38 hg41 hown40
            refine hK.out _ _ hB5 (fun hHeld2 => ?_)
            clear hK K hHeld
            have hHeld := hHeld2
            clear hHeld2
            try simp only [Act.put, List.setIfInBounds_toArray, List.set_cons_zero, List.set_cons_succ]
            refine only_at 11 45 (by kernel_rfl) rfl rfl (by rfl) (fun K hK => ?_)
            refine wp_append_vals _ (.tmp 41) (.tmp 44) 26 rfl wr.heap.size 9 i9 _ 1 16 Try.underlying26 hi hz0 hz1 hz2 rfl (by decide) _ (0 + k + 1) _ rfl hown41 _ (n - k) _ _ rfl HC1.out (HH2.out.below hHeld) HO2.out (by unfold maxLen; omega) (by omega) (Below.size hHeld) ?_
            intro v45 W6 hown45 hg45
            have hB6 := Below.own hHeld hown41 (Nat.le_refl _) (Below.size hHeld) hg45
            clear hown41 hg45
            refine hK.out _ _ hB6 (fun hHeld2 => ?_)
            clear hK K hHeld
            have hHeld := hHeld2
            clear hHeld2
            try simp only [Act.put, List.setIfInBounds_toArray, List.set_cons_zero, List.set_cons_succ]
            refine take_at 12 4 (v := ?_) rfl rfl (by kernel_rfl) (by kernel_rfl) (by kernel_rfl) (fun _ _ _ h => h) (Or.inl ⟨by rfl, ?_⟩) hHeld ?_
            rotate_left
            · (intro w hSw; (try dsimp only at hSw); go_simp; try with_reducible rfl)
            try simp only [List.setIfInBounds_toArray, List.set_cons_zero, List.set_cons_succ]
            refine take_at 13 5 (v := ?_) rfl rfl (by kernel_rfl) (by kernel_rfl) (by kernel_rfl) (fun _ _ _ h => h) (Or.inl ⟨by rfl, ?_⟩) hHeld ?_
            rotate_left
            · (intro w hSw; (try dsimp only at hSw); go_simp; try with_reducible rfl)
            try simp only [List.setIfInBounds_toArray, List.set_cons_zero, List.set_cons_succ]
            refine wpAnyH_done (by kernel_rfl) ?_ _
            go_wp2_with fail
            go_ret2
            exact HFin.out v45 _ hown45 hHeld
end Go.Proofs.Ytacjbgmnoiimbaa
