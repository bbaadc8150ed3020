/- All: walked. -/
import Derived.Test.YtacjbgmnoiimbaaWalkK
namespace Go.Proofs.Ytacjbgmnoiimbaa
set_option linter.unusedVariables false
set_option linter.unusedSimpArgs false
open Go.RowKit

theorem row9_block {W : World} {B : Nat} {v : Value} {n : Nat} {xs : List Value} (h : W.ownsRow B 9 1 v n xs) {k : Nat} (hk : v.ownBlock = some k) : B ≤ k ∧ ∃ cur, W.heap[k]? = some (.cells cur 9 (0, 0)) := by
  rcases h.2 with ⟨h1, h2⟩ | ⟨g, cap, cur, h1, h2, h3, _⟩
  · rw [h1] at hk; cases hk
  · rw [h1] at hk; cases hk; exact ⟨h2, cur, h3⟩
/-- the pile stays where a row of texts of its own grows -/
theorem PileAt.grown9 {B N : Nat} {W W' : World} {m : Nat} {v v9 : Value} {rs : List RR} {n : Nat} {xs : List Value} (h : PileAt B W m v rs) (hown : W.ownsRow N 9 1 v9 n xs) (hg : W.grownBy W' v9.ownBlock) (hN : ∀ x ∈ rs, ∀ p, x.a = some p → p.block < N) : PileAt B W' m v rs := by
  have hne : ∀ (k : Nat) (cs : Array Value) (t : TypeId), t ≠ 9 → W.heap[k]? = some (.cells cs t (0, 0)) → W'.heap[k]? = some (.cells cs t (0, 0)) := fun k cs t ht hk => by
    rw [hg.block k (heap_lt hk) (fun e => by
      obtain ⟨_, cur, hc⟩ := row9_block hown e.symm
      rw [hk] at hc
      have := Option.some.inj hc
      simp only [Obj.cells.injEq] at this
      exact ht this.2.1)]
    exact hk
  refine ⟨hne m _ 44 (by decide) h.1, h.2.1, ?_, fun x hx => ⟨(h.2.2.2 x hx).1, fun h0 => ?_⟩⟩
  · rcases h.2.2.1 with e | ⟨g, cap, cs, e, h1, h2, h3, h4⟩
    · exact .inl e
    · exact .inr ⟨g, cap, cs, e, h1, hne g _ 26 (by decide) h2, h3, h4⟩
  · obtain ⟨b, off, cs, ha, hb, hc⟩ := (h.2.2.2 x hx).2 h0
    refine ⟨b, off, cs, ha, ?_, hc⟩
    have hlt := hN x hx _ ha
    rw [hg.block b (heap_lt hb) (fun e => by
      obtain ⟨h1, _⟩ := row9_block hown e.symm
      have hlt' : b < N := hlt
      omega)]
    exact hb
theorem rises_snoc {ks : List Text} {k : Text} (h : Rises ks) (hk : ∀ x ∈ ks, x < k) : Rises (ks ++ [k]) := fun i hi => by
  rw [List.length_append, List.length_singleton] at hi
  have e1 : (ks ++ [k]).getD i [] = ks.getD i [] := by
    rw [List.getD_eq_getElem?_getD, List.getD_eq_getElem?_getD, List.getElem?_append_left (by omega)]
  rw [e1]
  by_cases e : i + 1 = ks.length
  · have e2 : (ks ++ [k]).getD (i + 1) [] = k := by
      rw [List.getD_eq_getElem?_getD, List.getElem?_append_right (by omega), e, Nat.sub_self]; rfl
    rw [e2]
    refine hk _ ?_
    rw [List.getD_eq_getElem?_getD, List.getElem?_eq_getElem (by omega)]; exact List.getElem_mem _
  · have e2 : (ks ++ [k]).getD (i + 1) [] = ks.getD (i + 1) [] := by
      rw [List.getD_eq_getElem?_getD, List.getD_eq_getElem?_getD, List.getElem?_append_left (by omega)]
    rw [e2]; exact h i (by omega)
theorem keysOf_snoc (l : List ByteArray) (k : ByteArray) : keysOf (l ++ [k]) = keysOf l ++ [k.data.toList] := by unfold keysOf; rw [List.map_append]; rfl
/-- ahead of a call of Next -/
def AMid (L : List RR) (w : World) (N m : Nat) (outv : Value) (out : List ByteArray) (v : Value) (rs : List RR) (wr : World) : Prop :=
  PileAt w.heap.size wr m v rs ∧ GoodP rs ∧ (∀ x ∈ rs, ∀ p, x.a = some p → p.block < N) ∧ wr.ownsRow N 9 1 outv out.length (strsV out) ∧ Rises (keysOf out) ∧ Below w.heap.size w wr ∧ w.heap.size ≤ N ∧ N ≤ wr.heap.size ∧ rs.length ≤ L.length ∧
  (∀ x ∈ keysOf out, ∀ y, HasK rs y → x < y) ∧ (∀ x, (x ∈ keysOf out ∨ HasK rs x) ↔ HasK L x) ∧ out.length + tot rs ≤ tot L
/-- behind one -/
def ARel (L : List RR) (w : World) (N m : Nat) (ok : Bool) (key : ByteArray) (outv : Value) (wr : World) : Prop := ∃ out v rs,
  PileAt w.heap.size wr m v rs ∧ GoodP rs ∧ (∀ x ∈ rs, ∀ p, x.a = some p → p.block < N) ∧ wr.ownsRow N 9 1 outv out.length (strsV out) ∧ Rises (keysOf out) ∧ Below w.heap.size w wr ∧ w.heap.size ≤ N ∧ N ≤ wr.heap.size ∧ rs.length ≤ L.length ∧
  (ok = true → (∀ x ∈ keysOf out, x < key.data.toList) ∧ (∀ x, HasK rs x → key.data.toList < x) ∧ (∀ x, (x ∈ keysOf out ∨ x = key.data.toList ∨ HasK rs x) ↔ HasK L x) ∧ out.length + 1 + tot rs ≤ tot L) ∧
  (ok = false → (∀ x, x ∈ keysOf out ↔ HasK L x) ∧ out.length ≤ tot L)
theorem row9_keep {W W' : World} {B : Nat} {v : Value} {n : Nat} {xs : List Value} (h : W.ownsRow B 9 1 v n xs) (hk : KeepM W W') : W'.ownsRow B 9 1 v n xs := by
  refine ⟨h.1, ?_⟩
  rcases h.2 with e | ⟨g, cap, cur, h1, h2, h3, h4⟩
  · exact .inl e
  · exact .inr ⟨g, cap, cur, h1, h2, hk g _ 9 (by decide) (by decide) h3, h4⟩
theorem after_next {L : List RR} {w wr w' : World} {N m : Nat} {outv : Value} {out : List ByteArray} {v : Value} {rs : List RR} {e : Ending} (h : AMid L w N m outv out v rs wr) (hn : NextIs w.heap.size m rs wr e w') :
    ∃ ok key, e = .returned (.tuple #[.string key, .bool ok]) ∧ ARel L w N m ok key outv w' ∧ totAt w' m + (if ok then 1 else 0) ≤ totAt wr m := by
  obtain ⟨h1, h2, h3, h4, h5, h6, h7, h8, h9, h10, h11, h12⟩ := h
  by_cases h0 : rs.length = 0
  · obtain ⟨rfl, rfl⟩ := hn.1 h0
    have hnil := List.eq_nil_of_length_eq_zero h0
    subst hnil
    refine ⟨false, _, rfl, ⟨out, v, [], h1, h2, h3, h4, h5, h6, h7, h8, h9, (fun h => by cases h), fun _ => ⟨fun x => ?_, by omega⟩⟩, Nat.le_refl _⟩
    rw [← h11]
    constructor
    · exact fun h => .inl h
    · rintro (h | ⟨y, hy, _⟩)
      · exact h
      · cases hy
  · obtain ⟨key, v', rs', rfl, k1, k2, k3, k4, k5, k6, k7, k8, k9, k10⟩ := hn.2 (by omega)
    refine ⟨true, key, rfl, ⟨out, v', rs', k1, k2, fun x hx p hp => ?_, row9_keep h4 k10, h5, h6.trans k9, h7, Nat.le_trans h8 k9.size, by omega, fun _ => ⟨fun x hx => h10 x hx _ k5, fun x hx => ?_, fun x => ?_, by omega⟩, fun h => by cases h⟩, ?_⟩
    · obtain ⟨y, hy, e⟩ := k8 x hx
      obtain ⟨q, hq, e2⟩ := e p hp
      rw [e2]; exact h3 y hy q hq
    · obtain ⟨a1, a2⟩ := (k7 x).1 hx
      rcases text_tri key.data.toList x with c | c | c
      · exact c
      · exact absurd c.symm a2
      · exact absurd c (k6 x a1)
    · rw [← h11]
      constructor
      · rintro (h | h | h)
        · exact .inl h
        · subst h; exact .inr k5
        · exact .inr ((k7 x).1 h).1
      · rintro (h | h)
        · exact .inl h
        · by_cases e : x = key.data.toList
          · exact .inr (.inl e)
          · exact .inr (.inr ((k7 x).2 ⟨h, e⟩))
    · rw [totAt_pile k1, totAt_pile h1]; exact k4
/-- behind the laying in of a key -/
theorem amid_next {L : List RR} {w wr wx w6 : World} {N m : Nat} {key : ByteArray} {outv v6 : Value} {out : List ByteArray} {v : Value} {rs : List RR} (h1 : PileAt w.heap.size wr m v rs) (h2 : GoodP rs) (h3 : ∀ x ∈ rs, ∀ p, x.a = some p → p.block < N) (h5 : Rises (keysOf out)) (h6 : Below w.heap.size w wr) (h7 : w.heap.size ≤ N) (h8 : N ≤ wr.heap.size) (h9 : rs.length ≤ L.length)
    (h10 : (∀ x ∈ keysOf out, x < key.data.toList) ∧ (∀ x, HasK rs x → key.data.toList < x) ∧ (∀ x, (x ∈ keysOf out ∨ x = key.data.toList ∨ HasK rs x) ↔ HasK L x) ∧ out.length + 1 + tot rs ≤ tot L)
    (hbx : Below wr.heap.size wr wx) (hrow : wx.ownsRow N 9 1 outv out.length (strsV out)) (hg : wx.grownBy w6 outv.ownBlock) (hrow6 : w6.ownsRow N 9 1 v6 (out.length + 1) (strsV out ++ [.string key])) :
    AMid L w N m v6 (out ++ [key]) v rs w6 := by
  obtain ⟨a1, a2, a3, a4⟩ := h10
  have hl : (out ++ [key]).length = out.length + 1 := by simp
  have hb6 : Below w.heap.size w w6 := Below.own (h6.trans (hbx.mono h6.size)) hrow h7 (h6.trans (hbx.mono h6.size)).size hg
  refine ⟨(h1.below hbx).grown9 hrow hg h3, h2, h3, by rw [hl, strsV_append]; exact hrow6, by rw [keysOf_snoc]; exact rises_snoc h5 a1, hb6, h7, Nat.le_trans h8 (Nat.le_trans hbx.size hg.size), h9, fun x hx y hy => ?_, fun x => ?_, by omega⟩
  · rw [keysOf_snoc] at hx
    rcases List.mem_append.1 hx with hx | hx
    · exact text_trans (a1 x hx) (a2 y hy)
    · simp only [List.mem_cons, List.not_mem_nil, or_false] at hx
      subst hx; exact a2 y hy
  · rw [← a3, keysOf_snoc]
    simp only [List.mem_append, List.mem_cons, List.not_mem_nil, or_false]
    constructor
    · rintro ((h | h) | h)
      · exact .inl h
      · exact .inr (.inl h)
      · exact .inr (.inr h)
    · rintro (h | h | h)
      · exact .inl (.inl h)
      · exact .inl (.inr h)
      · exact .inr h
theorem wpList_append_vals {P : Program} (w : World) {ops : Array Oper} {rest : List Oper} {o : Oper} {A : Act} {Q : Exit → Act → World → Prop} (hgd : o.guard = none) (s x : Operand) (t : TypeId)
    (ho : o.op = .call { callee := .builtin .append, args := #[s, x], argTypes := #[t, t] })
    (base : Nat) (e : TypeId) (i : TypeInfo) (z : Value) (size bytes : Nat) (ht : P.underlying t = some (.slice e)) (hi : P.info? e = some i) (hz : i.zero = some z) (hsize : i.size = size) (hby : i.bytes = bytes) (hzs : z.cells.size = size) (hsz : 0 < size)
    (v : Value) (n : Nat) (xs : List Value) (hs : A.eval s = v) (hown : w.ownsRow base e size v n xs) (ad : Option Addr) (m c : Nat) (news : List Value) (hx : A.eval x = .slice ad m c) (hm : news.length = m * size) (hb : IsVals w ad news) (h1 : ∀ u ∈ news, u.oneCell' = true)
    (hbd : n + m ≤ maxLen) (hbytes : (n + m) * bytes ≤ 140737488355328) (hbase : base ≤ w.heap.size)
    (h : ∀ v' w', w'.ownsRow base e size v' (n + m) (xs ++ news) → w.grownBy w' v.ownBlock → wpList P ops Q rest (A.put o.dst v') w') : wpList P ops Q (o :: rest) A w :=
  wpList_plain hgd fun K hK => wp_append_vals w s x t ho base e i z size bytes ht hi hz hsize hby hzs hsz v n xs hs hown ad m c news hx hm hb h1 hbd hbytes hbase (fun v' w' g1 g2 => hK _ _ (h v' w' g1 g2))
def AllIs (L : List RR) (w : World) (e : Ending) (w' : World) : Prop :=
  ((∃ i, i < L.length ∧ ¬ RisesK (at_ L i).keys) → e = .returned (.tuple #[.slice none 0 0, .int .i64 11]) ∧ Below w.heap.size w w') ∧
  ((∀ i, i < L.length → RisesK (at_ L i).keys) → ∃ out v, e = .returned (.tuple #[v, .int .i64 0]) ∧ w'.ownsRow w.heap.size 9 1 v out.length (strsV out) ∧ Rises (keysOf out) ∧ (∀ k, k ∈ keysOf out ↔ HasK L k) ∧ out.length ≤ tot L ∧ Below w.heap.size w w')
set_option maxRecDepth 100000 in
set_option maxHeartbeats 2000000 in
theorem all_any (a : Option Addr) (cap : Nat) (L : List RR) (w : World) (hL : L.length ≤ 10000) (hsz : ∀ i, i < L.length → (at_ L i).keys.length ≤ 10000) (htot : tot L ≤ 1000000) (h : IsRows w a L) :
    Calls Try.prog 10 #[.slice a L.length cap] w (AllIs L w) := by
  obtain ⟨i9, hi9, z90, z91, z92⟩ := info_parts Try.info9
  have HNew := Lib.hid (new_any a cap L w hL hsz h)
  clear h hsz
  go_enter Try.func10, Try.ntmps10
  go_wp2_with fail
  refine HNew.out.mono ?_
  clear HNew
  rintro e w1 ⟨hbad, hgood⟩
  by_cases hall : ∀ i, i < L.length → RisesK (at_ L i).keys
  · obtain ⟨m, v, rs, rfl, hp, hg, hb, hlen, htt, hK⟩ := hgood hall
    have hfl : (full L).length ≤ L.length := List.length_filter_le _ _
    have hmid : AMid L w w1.heap.size m (.slice none 0 0) [] v rs w1 := ⟨hp, hg, fun x hx p hpx => by
      obtain ⟨b, off, cs, ha, hb2, _⟩ := (hp.2.2.2 x hx).2 (hg.1 x hx).1
      rw [ha] at hpx
      cases hpx
      exact heap_lt hb2, World.ownsRow_nil _ _ _ _, (fun i hi => by simp [keysOf] at hi), hb, hb.size, Nat.le_refl _, by omega, (fun x hx => by cases hx), (fun x => by
        constructor
        · rintro (h | h)
          · cases h
          · exact (hK x).1 h
        · exact fun h => .inr ((hK x).2 h)), by rw [htt]; simp⟩
    have HNx := Lib.hid (next_any w.heap.size m v rs w1 hp hg (by omega))
    have HMid := Lib.hid hmid
    have HAll := Lib.hid hall
    clear hp hg hb hlen htt hK hmid hbad hgood hall hfl
    go_wp2_with fail
    refine HNx.out.mono ?_
    clear HNx
    intro e w2 hn
    obtain ⟨ok, key, rfl, har, _⟩ := after_next HMid.out hn
    have HR0 := Lib.hid har
    clear hn har
    go_wp2_with fail
    go_loopw [6, 7, 8] (fun ov kv bv wr => ∃ (key : ByteArray) (ok : Bool) (oa : Option Addr) (on oc : Nat), ov = .slice oa on oc ∧ kv = .string key ∧ bv = .bool ok ∧ Hid (ARel L w w1.heap.size m ok key (.slice oa on oc) wr)) (fun _ _ bv wr => totAt wr m + (match bv with | .bool true => 1 | _ => 0))
    case atStart => exact ⟨key, ok, none, 0, 0, rfl, rfl, rfl, HR0⟩
    case round =>
      clear HR0 HMid
      obtain ⟨key, ok, oa, on, oc, rfl, rfl, rfl, hst⟩ := hrel
      obtain ⟨out, v, rs, h1, h2, h3, h4, h5, h6, h7, h8, h9, h10, h11⟩ := hst.out
      cases ok with
      | false =>
        obtain ⟨k1, k2⟩ := h11 rfl
        have HE : Hid (AllIs L w (.returned (.tuple #[.slice oa on oc, .int .i64 0])) wr) := ⟨fun ⟨i, hi, hn⟩ => absurd (HAll.out i hi) hn, fun _ => ⟨out, _, rfl, row_lower h4 h7, h5, k1, k2, h6⟩⟩
        clear hst h1 h2 h3 h4 h5 h6 h7 h8 h9 h10 h11 k1 k2
        go_wp2_with fail
        go_ret2
        exact HE.out
      | true =>
        have hon := row_len' h4
        subst hon
        have ha10 := h10 rfl
        have hol : out.length ≤ 1000000 := by have := ha10.2.2.2; omega
        have hbx : Below wr.heap.size wr (wr.alloc (.cells #[.string key] 9)) := (Below.refl _ _).alloc (Nat.le_refl _) _
        have HRowX := Lib.hid (h4.alloc (.cells #[.string key] 9))
        have HAm := Lib.hid (fun w6 v6 => amid_next (L := L) (w := w) (wr := wr) (wx := (wr.alloc (.cells #[.string key] 9))) (w6 := w6) (N := w1.heap.size) (m := m) (key := key) (outv := .slice oa out.length oc) (v6 := v6) (out := out) (v := v) (rs := rs) h1 h2 h3 h5 h6 h7 h8 h9 ha10 hbx)
        have HVC : Hid (IsVals (wr.alloc (.cells #[.string key] 9)) (some ⟨wr.heap.size, 0, none⟩) [.string key]) := fun _ => ⟨wr.heap.size, 0, rfl, by simp, fun k hk => by rw [Nat.zero_add, heap_cell (heap_alloc_new wr _)]; simp⟩
        have HTA := Lib.hid (totAt_pile h1)
        have hszx : w1.heap.size ≤ (wr.alloc (.cells #[.string key] 9)).heap.size := Nat.le_trans h8 hbx.size
        clear hst h1 h2 h3 h4 h5 h6 h7 h8 h9 h10 h11 ha10 hbx
        go_upto_region 7 with (at_builtin; refine wpList_append_vals _ rfl (.tmp 28) (.tmp 30) 26 rfl w1.heap.size 9 i9 _ 1 16 Try.underlying26 hi9 z90 z91 z92 rfl (by decide) (.slice oa out.length oc) out.length (strsV out) (by rfl) HRowX.out (some ⟨wr.heap.size, 0, none⟩) 1 1 [.string key] (by rfl) rfl HVC.out (fun u hu => by simp only [List.mem_cons, List.not_mem_nil, or_false] at hu; subst hu; rfl) (by unfold maxLen; omega) (by omega) hszx ?_; intro v6 w6 hrow6 hg6; have HMid := Lib.hid (HAm.out w6 v6 HRowX.out hg6 hrow6); obtain ⟨a6, m6, c6, rfl⟩ := row_slice hrow6; clear hrow6 hg6)
        have HNx := Lib.hid (next_any w.heap.size m v rs w6 HMid.out.1 HMid.out.2.1 (by have := HMid.out.2.2.2.2.2.2.2.2.1; omega))
        have HTB := Lib.hid (totAt_pile HMid.out.1)
        clear HAm HRowX HVC hszx
        go_wp2_with fail
        refine HNx.out.mono ?_
        clear HNx
        intro e w7 hn
        obtain ⟨ok2, key2, rfl, har, hme⟩ := after_next HMid.out hn
        have HRN := Lib.hid har
        have HME := Lib.hid hme
        clear hn har hme
        go_wp2_with fail
        go_roundw
        case rel => exact ⟨key2, ok2, a6, m6, c6, rfl, rfl, rfl, HRN⟩
        case measure =>
          have a1 := HME.out
          rw [HTB.out] at a1
          cases ok2 with
          | true =>
            rw [if_pos rfl] at a1
            show totAt w7 m + 1 < totAt _ m + 1
            rw [HTA.out]; omega
          | false =>
            rw [if_neg (by simp)] at a1
            show totAt w7 m + 0 < totAt _ m + 1
            rw [HTA.out]; omega
  · have hex : ∃ i, i < L.length ∧ ¬ RisesK (at_ L i).keys := by
      refine Classical.byContradiction fun hno => hall fun i hi => Classical.byContradiction fun hn => hno ⟨i, hi, hn⟩
    obtain ⟨rfl, hb⟩ := hbad hex
    have HE : Hid (AllIs L w (.returned (.tuple #[.slice none 0 0, .int .i64 11])) w1) := ⟨fun _ => ⟨rfl, hb⟩, fun h => absurd h hall⟩
    clear hbad hgood hall hb hex
    go_wp2_with fail
    go_ret2
    exact HE.out
end Go.Proofs.Ytacjbgmnoiimbaa
