/- What reading does: plain. -/
import Derived.Test.YtacjbgmnoiimbabGreatCod
namespace Go.Proofs.YtacjbgmnoiimbabGreat
set_option linter.unusedVariables false
set_option linter.unusedSimpArgs false

/-! ### what is read was written so -/
theorem uv_zero : uv 0 = [0] := by rw [uv_small (by decide)]; rfl
theorem uv_low7 (l : List UInt8) : ∀ m, more l = m → m < l.length → ((l.getD m 0).toNat = 0 → m = 0) → uv (low7 (l.take (m + 1))) = l.take (m + 1) := by
  induction l with
  | nil => intro m _ h _; cases h
  | cons c r ih =>
    intro m hm hl h0
    have hc256 := c.toNat_lt
    by_cases hc : c.toNat < 128
    · rw [more, if_pos hc] at hm
      subst hm
      have e : low7 ((c :: r).take (0 + 1)) = c.toNat := by
        simp only [Nat.zero_add, List.take_succ_cons, List.take_zero, low7]
        omega
      rw [e, uv_small hc]
      simp
    · rw [more, if_neg hc] at hm
      obtain ⟨k, rfl⟩ : ∃ k, m = k + 1 := ⟨more r, hm.symm⟩
      have hk : more r = k := by omega
      have hl' : k < r.length := by simpa using hl
      have hz : (r.getD k 0).toNat ≠ 0 := by
        intro h
        have := h0 (by simpa using h)
        omega
      have hi := ih k hk hl' (fun h => absurd h hz)
      have hq : low7 (r.take (k + 1)) ≠ 0 := by
        intro h
        rw [h, uv_zero] at hi
        have hlen := congrArg List.length hi
        rw [List.length_take] at hlen
        simp at hlen
        obtain rfl : k = 0 := by omega
        cases r with
        | nil => cases hl'
        | cons d s =>
          simp at hi
          rw [← hi] at hz
          exact hz rfl
      rw [List.take_succ_cons, low7, uv_big (by omega)]
      have e1 : (c.toNat % 128 + 128 * low7 (r.take (k + 1))) % 128 + 128 = c.toNat := by omega
      have e2 : (c.toNat % 128 + 128 * low7 (r.take (k + 1))) / 128 = low7 (r.take (k + 1)) := by omega
      rw [e1, e2, hi]
      congr 1
      exact UInt8.ofNat_toNat
theorem get_conv (l : List UInt8) (h : getE l = 0) : l = uv (getV l) ++ l.drop (getN l) := by
  obtain ⟨h1, h2, h3, h4⟩ := getE_ok l h
  have e : uv (getV l) = l.take (more l + 1) := by
    rw [getV, if_pos h]
    refine uv_low7 l _ rfl h2 (fun h0 => ?_)
    rcases Nat.eq_zero_or_pos (more l) with hm | hm
    · exact hm
    · exact absurd ⟨h0, hm⟩ h3
  rw [e, getN, if_pos h, List.take_append_drop]
theorem text_conv (l : List UInt8) (h : textN l = 0) : l = txt ⟨(gotT l).toArray⟩ ++ l.drop (usedT l) ∧ tok ⟨(gotT l).toArray⟩ := by
  have hE : getE l = 0 := by
    unfold textN at h
    split at h
    · assumption
    · rename_i h1; exact absurd h h1
  have hv : getV l ≤ l.length - getN l := by
    unfold textN at h
    rw [if_pos hE] at h
    split at h
    · cases h
    · omega
  have hg := get_conv l hE
  have hlen : (gotT l).length = getV l := by
    rw [gotT, if_pos h, List.length_take, List.length_drop]; omega
  have hsz : (ByteArray.mk (gotT l).toArray).size = getV l := by
    rw [← hlen]; exact List.size_toArray
  refine ⟨?_, by unfold tok; rw [hsz]; exact getV_lt l⟩
  rw [txt_eq, hsz, usedT, if_pos h, List.append_assoc]
  have e : (ByteArray.mk (gotT l).toArray).data.toList = (l.drop (getN l)).take (getV l) := by
    rw [← show gotT l = (l.drop (getN l)).take (getV l) from by rw [gotT, if_pos h]]
  rw [e, ← List.drop_drop, List.take_append_drop]
  exact hg
theorem num_head (v : Nat) (hv : v < 18446744073709551616) (l r : List UInt8) (h : l = uv v ++ r) : getE l = 0 := by
  subst h; exact (get_uv v hv r).1
theorem txt_head (s : ByteArray) (hs : tok s) (l r : List UInt8) (h : l = txt s ++ r) : textN l = 0 := by
  subst h
  have := (text_of s.data.toList (by rw [Array.length_toList]; exact hs) r).1
  exact this
/-- a whole number from its code -/
def zag (v : Nat) : Int := if v % 2 = 0 then (v / 2 : Nat) else -((v / 2 : Nat) : Int) - 1
theorem zig_zag (v : Nat) : zig (zag v) = v := by
  unfold zig zag
  split <;> split <;> omega
theorem zag_zig (n : Int) : zag (zig n) = n := zig_inj (by rw [zig_zag])
theorem zag_ok (v : Nat) : iok (zag v) ↔ v < 18446744073709551616 := by
  unfold iok zag
  split <;> omega
/-! ### what reading does to the state -/
def RSt {T : Type} (en : T → List UInt8) (ok : T → Prop) (bad : T → Nat → Prop) (l : List UInt8) (d : Nat) (odd : Bool) (x : T) (l' : List UInt8) (odd' : Bool) : Prop :=
  l'.length ≤ l.length ∧ (odd = true → odd' = true) ∧ (odd' = false → ok x ∧ ¬ bad x d ∧ l = en x ++ l') ∧ (odd = false → ∀ y r, ok y → ¬ bad y d → l = en y ++ r → odd' = false)
def nobad {T : Type} : T → Nat → Prop := fun _ _ => False
theorem RSt.map {T U : Type} {en : T → List UInt8} {ok : T → Prop} {bad : T → Nat → Prop} {en' : U → List UInt8} {ok' : U → Prop} {bad' : U → Nat → Prop} {l : List UInt8} {d : Nat} {odd : Bool} {x : T} {l' : List UInt8} {odd' : Bool}
    (h : RSt en ok bad l d odd x l' odd') (f : T → U) (hf : ∀ u, ∃ t, f t = u) (he : ∀ t, en' (f t) = en t) (hok : ∀ t, ok' (f t) ↔ ok t) (hb : ∀ t d, bad' (f t) d ↔ bad t d) : RSt en' ok' bad' l d odd (f x) l' odd' := by
  obtain ⟨h1, h2, h3, h4⟩ := h
  refine ⟨h1, h2, fun ho => ?_, fun ho y r hy hby hl => ?_⟩
  · obtain ⟨a, b, c⟩ := h3 ho
    exact ⟨(hok x).2 a, fun hh => b ((hb x d).1 hh), by rw [he]; exact c⟩
  · obtain ⟨t, rfl⟩ := hf y
    exact h4 ho t r ((hok t).1 hy) (fun hh => hby ((hb t d).2 hh)) (by rw [hl, he])
theorem RSt.bads {T : Type} {en : T → List UInt8} {ok : T → Prop} {bad bad' : T → Nat → Prop} {l : List UInt8} {d : Nat} {odd : Bool} {x : T} {l' : List UInt8} {odd' : Bool}
    (h : RSt en ok bad l d odd x l' odd') (hb : ∀ t d, bad' t d ↔ bad t d) : RSt en ok bad' l d odd x l' odd' := h.map id (fun u => ⟨u, rfl⟩) (fun _ => rfl) (fun _ => Iff.rfl) hb
theorem RSt.pair {T U : Type} {e1 : T → List UInt8} {o1 : T → Prop} {b1 : T → Nat → Prop} {e2 : U → List UInt8} {o2 : U → Prop} {b2 : U → Nat → Prop} {l l1 l2 : List UInt8} {d : Nat} {o oa ob : Bool} {x : T} {y : U}
    (h : RSt e1 o1 b1 l d o x l1 oa) (k : RSt e2 o2 b2 l1 d oa y l2 ob) (hu : Uq e1 o1) : RSt (fun p : T × U => e1 p.1 ++ e2 p.2) (fun p => o1 p.1 ∧ o2 p.2) (fun p d => b1 p.1 d ∨ b2 p.2 d) l d o (x, y) l2 ob := by
  obtain ⟨h1, h2, h3, h4⟩ := h
  obtain ⟨k1, k2, k3, k4⟩ := k
  have hoa : ob = false → oa = false := fun ho => by
    cases oa with
    | false => rfl
    | true => rw [k2 rfl] at ho; cases ho
  refine ⟨by omega, fun ho => k2 (h2 ho), fun ho => ?_, fun ho y' r hy hb hl => ?_⟩
  · obtain ⟨a1, a2, a3⟩ := h3 (hoa ho)
    obtain ⟨c1, c2, c3⟩ := k3 ho
    exact ⟨⟨a1, c1⟩, (fun hh => hh.elim a2 c2), by rw [a3, c3, List.append_assoc]⟩
  · obtain ⟨y1, y2⟩ := y'
    rw [List.append_assoc] at hl
    have q := h4 ho y1 (e2 y2 ++ r) hy.1 (fun hh => hb (.inl hh)) hl
    obtain ⟨a1, a2, a3⟩ := h3 q
    obtain ⟨_, e⟩ := hu x y1 l1 (e2 y2 ++ r) a1 hy.1 (a3.symm.trans hl)
    exact k4 q y2 r hy.2 (fun hh => hb (.inr hh)) e
theorem nobad_or {T U : Type} : ∀ (t : T × U) (d : Nat), nobad t d ↔ (nobad t.1 d ∨ nobad t.2 d) := fun t d => ⟨fun h => h.elim, fun h => h.elim id id⟩
theorem RSt.pairf {T U : Type} {e1 : T → List UInt8} {o1 : T → Prop} {e2 : U → List UInt8} {o2 : U → Prop} {l l1 l2 : List UInt8} {d : Nat} {o oa ob : Bool} {x : T} {y : U}
    (h : RSt e1 o1 nobad l d o x l1 oa) (k : RSt e2 o2 nobad l1 d oa y l2 ob) (hu : Uq e1 o1) : RSt (fun p : T × U => e1 p.1 ++ e2 p.2) (fun p => o1 p.1 ∧ o2 p.2) nobad l d o (x, y) l2 ob := (h.pair k hu).bads nobad_or
theorem RSt.len {T : Type} {en : T → List UInt8} {ok : T → Prop} {bad : T → Nat → Prop} {l : List UInt8} {d : Nat} {odd : Bool} {x : T} {l' : List UInt8} {odd' : Bool} (h : RSt en ok bad l d odd x l' odd') : l'.length ≤ l.length := h.1
theorem RSt.odd {T : Type} {en : T → List UInt8} {ok : T → Prop} {bad : T → Nat → Prop} {l : List UInt8} {d : Nat} {odd : Bool} {x : T} {l' : List UInt8} {odd' : Bool} (h : RSt en ok bad l d odd x l' odd') (h1 : odd' = false) : odd = false := by
  cases odd with
  | false => rfl
  | true => rw [h.2.1 rfl] at h1; cases h1
/-! ### numbers, texts -/
def stepL (odd : Bool) (e n : Nat) (l : List UInt8) : List UInt8 := if odd = false ∧ e = 0 then l.drop n else l
def stepO (odd : Bool) (e : Nat) : Bool := odd || e != 0
theorem stepO_false {odd : Bool} {e : Nat} (h : stepO odd e = false) : odd = false ∧ e = 0 := by
  unfold stepO at h
  cases odd with
  | true => simp at h
  | false => simp at h; exact ⟨rfl, h⟩
theorem rst_num (l : List UInt8) (d : Nat) (odd : Bool) : RSt uv (fun v => v < 18446744073709551616) nobad l d odd (getV l) (stepL odd (getE l) (getN l) l) (stepO odd (getE l)) := by
  refine ⟨?_, fun ho => by subst ho; rfl, fun ho => ?_, fun ho y r hy _ hl => ?_⟩
  · unfold stepL
    split
    · rw [List.length_drop]; omega
    · exact Nat.le_refl _
  · obtain ⟨h1, h2⟩ := stepO_false ho
    rw [stepL, if_pos ⟨h1, h2⟩]
    exact ⟨getV_lt l, id, get_conv l h2⟩
  · subst ho
    rw [num_head y hy l r hl]; rfl
theorem rst_txt (l : List UInt8) (d : Nat) (odd : Bool) : RSt txt tok nobad l d odd ⟨(gotT l).toArray⟩ (stepL odd (textN l) (usedT l) l) (stepO odd (textN l)) := by
  refine ⟨?_, fun ho => by subst ho; rfl, fun ho => ?_, fun ho y r hy _ hl => ?_⟩
  · unfold stepL
    split
    · rw [List.length_drop]; omega
    · exact Nat.le_refl _
  · obtain ⟨h1, h2⟩ := stepO_false ho
    rw [stepL, if_pos ⟨h1, h2⟩]
    obtain ⟨a, b⟩ := text_conv l h2
    exact ⟨b, id, a⟩
  · subst ho
    rw [txt_head y hy l r hl]; rfl
theorem rst_int {l l' : List UInt8} {d : Nat} {odd odd' : Bool} {v : Nat} (h : RSt uv (fun v => v < 18446744073709551616) nobad l d odd v l' odd') : RSt intE iok nobad l d odd (zag v) l' odd' :=
  h.map zag (fun n => ⟨zig n, zag_zig n⟩) (fun v => by unfold intE; rw [zig_zag]) zag_ok (fun _ _ => Iff.rfl)
theorem rst_bool {l l' : List UInt8} {d : Nat} {odd odd' : Bool} {v : Nat} (h : RSt uv (fun v => v < 18446744073709551616) nobad l d odd v l' odd') : RSt boolE (fun _ => True) nobad l d odd (v == 1) l' (odd' || decide (1 < v)) := by
  obtain ⟨h1, h2, h3, h4⟩ := h
  refine ⟨h1, fun ho => by rw [h2 ho]; rfl, fun ho => ?_, fun ho y r hy hb hl => ?_⟩
  · rw [Bool.or_eq_false_iff] at ho
    have hv : ¬ 1 < v := of_decide_eq_false ho.2
    obtain ⟨_, _, a3⟩ := h3 ho.1
    refine ⟨trivial, id, ?_⟩
    have e : boolE (v == 1) = uv v := by
      unfold boolE
      rcases (show v = 0 ∨ v = 1 by omega) with rfl | rfl <;> rfl
    rw [e]; exact a3
  · have hy' : (if y = true then 1 else 0 : Nat) < 18446744073709551616 := by split <;> omega
    have q := h4 ho (if y then 1 else 0) r hy' id hl
    obtain ⟨a1, _, a3⟩ := h3 q
    have hl' : l = uv (if y = true then 1 else 0) ++ r := hl
    obtain ⟨e, _⟩ := uq_num v _ l' r a1 hy' (a3.symm.trans hl')
    rw [Bool.or_eq_false_iff]
    refine ⟨q, decide_eq_false ?_⟩
    split at e <;> omega
/-! ### lists -/
/-- behind k items of v -/
def LSt {T : Type} (en : T → List UInt8) (ok : T → Prop) (bad : T → Nat → Prop) (l1 : List UInt8) (d : Nat) (o1 : Bool) (v n : Nat) (xs : List T) (lj : List UInt8) (oj : Bool) : Prop :=
  lj.length ≤ l1.length ∧ xs.length ≤ l1.length + 1 ∧ (oj = false → xs.length + lj.length ≤ l1.length) ∧ (o1 = true → oj = true) ∧
    (oj = false → xs.length + n = v ∧ (∀ x ∈ xs, ok x ∧ ¬ bad x d) ∧ l1 = bodyE en xs ++ lj) ∧ (o1 = false → ∀ ys r, ys.length = v → (∀ y ∈ ys, ok y ∧ ¬ bad y d) → l1 = bodyE en ys ++ r → oj = false)
theorem LSt.start {T : Type} (en : T → List UInt8) (ok : T → Prop) (bad : T → Nat → Prop) (l1 : List UInt8) (d : Nat) (o1 : Bool) (v : Nat) : LSt en ok bad l1 d o1 v v [] l1 o1 :=
  ⟨Nat.le_refl _, Nat.zero_le _, fun _ => by simp, id, fun _ => ⟨by simp, (fun x hx => by cases hx), rfl⟩, fun ho _ _ _ _ _ => ho⟩
theorem LSt.next {T : Type} {en : T → List UInt8} {ok : T → Prop} {bad : T → Nat → Prop} {l1 : List UInt8} {d : Nat} {o1 : Bool} {v n : Nat} {xs : List T} {lj : List UInt8} (h : LSt en ok bad l1 d o1 v (n + 1) xs lj false) (hu : Uq en ok) (hp : ∀ x, 1 ≤ (en x).length)
    {x : T} {lk : List UInt8} {ok' : Bool} (k : RSt en ok bad lj d false x lk ok') : LSt en ok bad l1 d o1 v n (xs ++ [x]) lk ok' := by
  obtain ⟨h1, h2, h3, h4, h5, h6⟩ := h
  obtain ⟨k1, k2, k3, k4⟩ := k
  obtain ⟨g1, g2, g3⟩ := h5 rfl
  have g4 := h3 rfl
  have hl1 : (xs ++ [x]).length = xs.length + 1 := by simp
  refine ⟨by omega, by omega, fun ho => ?_, (fun ho => by cases h4 ho), fun ho => ?_, fun ho ys r hy hok hl => ?_⟩
  · obtain ⟨_, _, a3⟩ := k3 ho
    have := congrArg List.length a3
    rw [List.length_append] at this
    have := hp x
    omega
  · obtain ⟨a1, a2, a3⟩ := k3 ho
    refine ⟨by omega, fun y hy => ?_, ?_⟩
    · rcases List.mem_append.1 hy with hy | hy
      · exact g2 y hy
      · rw [List.mem_singleton] at hy
        subst hy; exact ⟨a1, a2⟩
    · rw [body_append, g3, a3]
      show _ = bodyE en xs ++ (en x ++ []) ++ lk
      rw [List.append_nil, List.append_assoc]
  · have hlt : xs.length < ys.length := by omega
    have e0 : ys = ys.take xs.length ++ ys[xs.length] :: ys.drop (xs.length + 1) := by
      rw [← List.drop_eq_getElem_cons hlt, List.take_append_drop]
    have e1 : l1 = bodyE en (ys.take xs.length) ++ (en ys[xs.length] ++ (bodyE en (ys.drop (xs.length + 1)) ++ r)) := by
      rw [hl]
      conv => lhs; rw [e0]
      rw [body_append, body_cons]
      simp only [List.append_assoc]
    obtain ⟨_, e2⟩ := uq_body hu xs (ys.take xs.length) lj _ (by rw [List.length_take]; omega) (fun z hz => (g2 z hz).1) (fun z hz => (hok z (List.mem_of_mem_take hz)).1) (g3.symm.trans e1)
    have hm := hok ys[xs.length] (List.getElem_mem hlt)
    exact k4 rfl ys[xs.length] _ hm.1 hm.2 e2
theorem LSt.done {T : Type} {en : T → List UInt8} {ok : T → Prop} {bad : T → Nat → Prop} {l l1 : List UInt8} {d : Nat} {o o1 : Bool} {v n : Nat} {xs : List T} {lj : List UInt8} {oj : Bool} (h : LSt en ok bad l1 d o1 v n xs lj oj) (hn : n = 0 ∨ oj = true) (k : RSt uv (fun v => v < 18446744073709551616) nobad l d o v l1 o1) :
    RSt (listE en) (lok ok) (fun ys d => ∃ y ∈ ys, bad y d) l d o xs lj oj := by
  obtain ⟨h1, h2, h3, h4, h5, h6⟩ := h
  obtain ⟨k1, k2, k3, k4⟩ := k
  have hoo : oj = false → o1 = false := fun ho => by
    cases o1 with
    | false => rfl
    | true => rw [h4 rfl] at ho; cases ho
  refine ⟨by omega, fun ho => h4 (k2 ho), fun ho => ?_, fun ho ys r hy hb hl => ?_⟩
  · obtain ⟨g1, g2, g3⟩ := h5 ho
    have hn0 : n = 0 := hn.elim id (fun h => by rw [h] at ho; cases ho)
    obtain ⟨a1, _, a3⟩ := k3 (hoo ho)
    have hv : xs.length = v := by omega
    refine ⟨⟨by omega, fun x hx => (g2 x hx).1⟩, fun ⟨x, hx, hh⟩ => (g2 x hx).2 hh, ?_⟩
    rw [a3, g3]
    unfold listE
    rw [hv, List.append_assoc]
  · have hl' : l = uv ys.length ++ (bodyE en ys ++ r) := by
      rw [hl]
      unfold listE
      rw [List.append_assoc]
    have q := k4 ho ys.length _ hy.1 id hl'
    obtain ⟨a1, _, a3⟩ := k3 q
    obtain ⟨e1, e2⟩ := uq_num v ys.length l1 _ a1 hy.1 (a3.symm.trans hl')
    exact h6 q ys r e1.symm (fun y hym => ⟨hy.2 y hym, fun hh => hb ⟨y, hym, hh⟩⟩) e2
theorem RSt.flatl {T : Type} {en : T → List UInt8} {ok : T → Prop} {l l' : List UInt8} {d : Nat} {o o' : Bool} {xs : List T} (h : RSt (listE en) (lok ok) (fun ys d => ∃ y ∈ ys, nobad y d) l d o xs l' o') : RSt (listE en) (lok ok) nobad l d o xs l' o' :=
  h.bads (fun t d => ⟨fun h => h.elim, fun ⟨_, _, h⟩ => h⟩)
/-! ### rules, nodes, steps -/
theorem rst_rule {l l1 l2 l3 l4 : List UInt8} {d : Nat} {o o1 o2 o3 o4 : Bool} {k : Int} {A B : ByteArray} {ps : List PR} (h1 : RSt intE iok nobad l d o k l1 o1) (h2 : RSt txt tok nobad l1 d o1 A l2 o2) (h3 : RSt txt tok nobad l2 d o2 B l3 o3)
    (h4 : RSt (listE encR) (lok okR) (fun ps d => 64 ≤ d ∨ ∃ x ∈ ps, badR x (d + 1)) l3 d o3 ps l4 o4) : RSt encR okR badR l d o (.mk k A B ps) l4 o4 :=
  (h1.pair (h2.pair (h3.pair h4 uq_txt) uq_txt) uq_int).map (fun t => PR.mk t.1 t.2.1 t.2.2.1 t.2.2.2) (fun ⟨k, A, B, ps⟩ => ⟨(k, A, B, ps), rfl⟩) (fun ⟨k, A, B, ps⟩ => encR_eq k A B ps)
    (fun ⟨k, A, B, ps⟩ => by
      rw [okR_eq, okRs_iff]; exact Iff.rfl) (fun ⟨k, A, B, ps⟩ d => by
      rw [badR_parts]
      constructor
      · exact fun h => .inr (.inr (.inr h))
      · rintro (h | h | h | h)
        · exact h.elim
        · exact h.elim
        · exact h.elim
        · exact h)
theorem rst_node {l l1 l2 l3 l4 l5 : List UInt8} {d : Nat} {o o1 o2 o3 o4 o5 : Bool} {k : Int} {ob : Duo} {t : ByteArray} {ss : List Tri} {ps : List PN} (h1 : RSt intE iok nobad l d o k l1 o1) (h2 : RSt duoE duook nobad l1 d o1 ob l2 o2) (h3 : RSt txt tok nobad l2 d o2 t l3 o3)
    (h5 : RSt (listE triE) (lok triok) nobad l3 d o3 ss l4 o4) (h4 : RSt (listE encN) (lok okN) (fun ps d => 64 ≤ d ∨ ∃ x ∈ ps, badN x (d + 1)) l4 d o4 ps l5 o5) : RSt encN okN badN l d o (.mk k ob t ss ps) l5 o5 :=
  (h1.pair (h2.pair (h3.pair (h5.pair h4 (uq_list uq_tri)) uq_txt) uq_duo) uq_int).map (fun t => PN.mk t.1 t.2.1 t.2.2.1 t.2.2.2.1 t.2.2.2.2) (fun ⟨k, ob, t, ss, ps⟩ => ⟨(k, ob, t, ss, ps), rfl⟩) (fun ⟨k, ob, t, ss, ps⟩ => encN_eq k ob t ss ps)
    (fun ⟨k, ob, t, ss, ps⟩ => by
      rw [okN_eq, okNs_iff]; exact Iff.rfl) (fun ⟨k, ob, t, ss, ps⟩ d => by
      rw [badN_parts]
      constructor
      · exact fun h => .inr (.inr (.inr (.inr h)))
      · rintro (h | h | h | h | h)
        · exact h.elim
        · exact h.elim
        · exact h.elim
        · exact h.elim
        · exact h)
/-- nested: read one deeper, or refused -/
theorem rst_deep {T : Type} {en : T → List UInt8} {ok : T → Prop} {bad : T → Nat → Prop} {l l' : List UInt8} {d : Nat} {o o' : Bool} {xs : List T} (hd : d < 64) (h : RSt (listE en) (lok ok) (fun ys d => ∃ y ∈ ys, bad y d) l (d + 1) o xs l' o') :
    RSt (listE en) (lok ok) (fun ps d => 64 ≤ d ∨ ∃ x ∈ ps, bad x (d + 1)) l d o xs l' o' := by
  obtain ⟨h1, h2, h3, h4⟩ := h
  refine ⟨h1, h2, fun ho => ?_, fun ho y r hy hb hl => h4 ho y r hy (fun hh => hb (.inr hh)) hl⟩
  obtain ⟨a, b, c⟩ := h3 ho
  exact ⟨a, (fun hh => hh.elim (fun h => by omega) b), c⟩
theorem rst_refused {T : Type} {en : T → List UInt8} {ok : T → Prop} {bad : T → Nat → Prop} {l : List UInt8} {d : Nat} {o : Bool} (xs : List T) (hd : 64 ≤ d) : RSt (listE en) (lok ok) (fun ps d => 64 ≤ d ∨ ∃ x ∈ ps, bad x (d + 1)) l d o xs l true :=
  ⟨Nat.le_refl _, fun _ => rfl, (fun h => by cases h), fun _ y r _ hb _ => absurd (.inl hd) hb⟩
theorem rst_skip {T : Type} {en : T → List UInt8} {ok : T → Prop} {bad : T → Nat → Prop} {l : List UInt8} {d : Nat} (x : T) : RSt en ok bad l d true x l true :=
  ⟨Nat.le_refl _, fun _ => rfl, (fun h => by cases h), fun h => by cases h⟩
end Go.Proofs.YtacjbgmnoiimbabGreat
