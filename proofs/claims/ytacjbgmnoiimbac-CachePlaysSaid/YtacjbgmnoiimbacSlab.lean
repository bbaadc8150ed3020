/- A row of items that grows behind and loses before; what stays of a cache. -/
import Derived.Test.YtacjbgmnoiimbacView
namespace Go.Proofs.Ytacjbgmnoiimbac
set_option linter.unusedVariables false
set_option linter.unusedSimpArgs false
open Go.RowKit

def itemsV (l : List It) : List Value := l.flatMap fun x => [.int .i64 x.file, .int .i64 x.blk, .slice x.a x.keys.length x.kc]
theorem itemsV_append (a b : List It) : itemsV (a ++ b) = itemsV a ++ itemsV b := by simp [itemsV]
theorem length_itemsV (l : List It) : (itemsV l).length = l.length * 3 := by
  induction l with
  | nil => rfl
  | cons x r ih =>
    have e : itemsV (x :: r) = [.int .i64 x.file, .int .i64 x.blk, .slice x.a x.keys.length x.kc] ++ itemsV r := rfl
    rw [e, List.length_append, ih]; simp; omega
theorem itemsV_one (l : List It) : ∀ u ∈ itemsV l, u.oneCell' = true := by
  intro u hu
  unfold itemsV at hu
  rw [List.mem_flatMap] at hu
  obtain ⟨x, _, hx⟩ := hu
  simp only [List.mem_cons, List.not_mem_nil, or_false] at hx
  rcases hx with rfl | rfl | rfl <;> rfl
theorem itemsV_get (l : List It) : ∀ k, k < l.length → (itemsV l)[k * 3]? = some (.int .i64 (l.getD k default).file) ∧ (itemsV l)[k * 3 + 1]? = some (.int .i64 (l.getD k default).blk) ∧ (itemsV l)[k * 3 + 2]? = some (.slice (l.getD k default).a (l.getD k default).keys.length (l.getD k default).kc) := by
  induction l with
  | nil => intro k hk; cases hk
  | cons x r ih =>
    intro k hk
    have e : itemsV (x :: r) = .int .i64 x.file :: .int .i64 x.blk :: .slice x.a x.keys.length x.kc :: itemsV r := rfl
    cases k with
    | zero => rw [e]; exact ⟨rfl, rfl, rfl⟩
    | succ k =>
      obtain ⟨h1, h2, h3⟩ := ih k (by simpa using hk)
      rw [e, List.getD_cons_succ]
      have e1 : (k + 1) * 3 = k * 3 + 1 + 1 + 1 := by omega
      rw [e1]
      simp only [List.getElem?_cons_succ]
      exact ⟨h1, h2, h3⟩
theorem itemsV_take (l : List It) (k : Nat) : (itemsV l).take (k * 3) = itemsV (l.take k) := by
  induction l generalizing k with
  | nil => simp [itemsV]
  | cons x r ih =>
    have e : itemsV (x :: r) = .int .i64 x.file :: .int .i64 x.blk :: .slice x.a x.keys.length x.kc :: itemsV r := rfl
    cases k with
    | zero => simp [itemsV]
    | succ k =>
      rw [e, show (k + 1) * 3 = k * 3 + 1 + 1 + 1 by omega, List.take_succ_cons, List.take_succ_cons, List.take_succ_cons, ih k, List.take_succ_cons]
      rfl
theorem itemsV_drop (l : List It) (k : Nat) : (itemsV l).drop (k * 3) = itemsV (l.drop k) := by
  induction l generalizing k with
  | nil => simp [itemsV]
  | cons x r ih =>
    have e : itemsV (x :: r) = .int .i64 x.file :: .int .i64 x.blk :: .slice x.a x.keys.length x.kc :: itemsV r := rfl
    cases k with
    | zero => simp
    | succ k =>
      rw [e, show (k + 1) * 3 = k * 3 + 1 + 1 + 1 by omega, List.drop_succ_cons, List.drop_succ_cons, List.drop_succ_cons, ih k, List.drop_succ_cons]
/-- a slice, anywhere in a row from B on -/
def Slab (w : World) (B : Nat) (e : TypeId) (size : Nat) (v : Value) (n : Nat) (xs : List Value) : Prop :=
  xs.length = n * size ∧ ((v = .slice none 0 0 ∧ n = 0) ∨ ∃ g off cap cur, v = .slice (some ⟨g, off, none⟩) n cap ∧ B ≤ g ∧ w.heap[g]? = some (.cells cur e (0, 0)) ∧ n ≤ cap ∧ cap ≤ maxLen ∧ off + cap * size ≤ cur.size ∧ (cur.toList.drop off).take (n * size) = xs)
theorem slab_nil (w : World) (B : Nat) (e : TypeId) (size : Nat) : Slab w B e size (.slice none 0 0) 0 [] := ⟨by simp, .inl ⟨rfl, rfl⟩⟩
theorem slab_row {w : World} {B B' : Nat} {e : TypeId} {size : Nat} {v : Value} {n : Nat} {xs : List Value} (h : w.ownsRow B' e size v n xs) (hB : B ≤ B') : Slab w B e size v n xs := by
  refine ⟨h.1, h.2.imp id fun ⟨g, cap, cur, h1, h2, h3, h4, h5, h6, h7⟩ => ⟨g, 0, cap, cur, h1, Nat.le_trans hB h2, h3, h4, h5, by omega, by rw [List.drop_zero]; exact h7⟩⟩
theorem Slab.same {w w' : World} {B : Nat} {e : TypeId} {size : Nat} {v : Value} {n : Nat} {xs : List Value} (h : Slab w B e size v n xs) (hs : ∀ g cur, v.ownBlock = some g → w.heap[g]? = some (.cells cur e (0, 0)) → w'.heap[g]? = w.heap[g]?) : Slab w' B e size v n xs := by
  refine ⟨h.1, h.2.imp id fun ⟨g, off, cap, cur, h1, h2, h3, h4⟩ => ⟨g, off, cap, cur, h1, h2, ?_, h4⟩⟩
  exact (hs g cur (by rw [h1]; rfl) h3).trans h3
theorem Slab.below {w w' : World} {B : Nat} {e : TypeId} {size : Nat} {v : Value} {n : Nat} {xs : List Value} (h : Slab w B e size v n xs) (hb : Below w.heap.size w w') : Slab w' B e size v n xs :=
  h.same fun g cur _ hg => hb.block g (heap_lt hg)
theorem Slab.lt {w : World} {B : Nat} {e : TypeId} {size : Nat} {v : Value} {n : Nat} {xs : List Value} (h : Slab w B e size v n xs) {k : Nat} (hk : v.ownBlock = some k) : B ≤ k ∧ ∃ cur, w.heap[k]? = some (.cells cur e (0, 0)) := by
  rcases h.2 with ⟨h1, _⟩ | ⟨g, off, cap, cur, h1, h2, h3, _⟩
  · rw [h1] at hk; cases hk
  · rw [h1] at hk
    cases hk
    exact ⟨h2, cur, h3⟩
theorem Slab.vals {w : World} {B : Nat} {e : TypeId} {size : Nat} {a : Option Addr} {m c : Nat} {n : Nat} {xs : List Value} (h : Slab w B e size (.slice a m c) n xs) : IsVals w a xs := by
  intro h0
  have hl := h.1
  rcases h.2 with ⟨h1, h2⟩ | ⟨g, off, cap, cur, h1, h2, h3, h4, h5, h6, h7⟩
  · subst h2; omega
  · cases h1
    refine ⟨g, off, rfl, heap_lt h3, fun k hk => ?_⟩
    rw [heap_cell h3, ← h7, List.getElem?_take, if_pos (by omega), List.getElem?_drop, Array.getElem?_toList]
theorem Slab.len {w : World} {B : Nat} {e : TypeId} {size : Nat} {a : Option Addr} {m c : Nat} {n : Nat} {xs : List Value} (h : Slab w B e size (.slice a m c) n xs) : m = n ∧ n ≤ c ∧ c ≤ maxLen := by
  rcases h.2 with ⟨h1, h2⟩ | ⟨g, off, cap, cur, h1, h2, h3, h4, h5, _⟩
  · cases h1; subst h2; exact ⟨rfl, Nat.le_refl _, by unfold maxLen; omega⟩
  · cases h1; exact ⟨rfl, h4, h5⟩
theorem Slab.slice {w : World} {B : Nat} {e : TypeId} {size : Nat} {v : Value} {n : Nat} {xs : List Value} (h : Slab w B e size v n xs) : ∃ a c, v = .slice a n c := by
  rcases h.2 with ⟨h1, h2⟩ | ⟨g, off, cap, cur, h1, _⟩
  · subst h2; exact ⟨_, _, h1⟩
  · exact ⟨_, _, h1⟩
/-- a cut of elements of some cells each -/
def cutS (a : Option Addr) (cap lo size : Nat) : Option Addr := if cap = lo then a else a.map (·.add (lo * size))
theorem Slab.drop {w : World} {B : Nat} {e : TypeId} {size : Nat} {a : Option Addr} {c : Nat} {n : Nat} {xs : List Value} (h : Slab w B e size (.slice a n c) n xs) (k : Nat) (hk : k ≤ n) : Slab w B e size (.slice (cutS a c k size) (n - k) (c - k)) (n - k) (xs.drop (k * size)) := by
  have hl : (xs.drop (k * size)).length = (n - k) * size := by rw [List.length_drop, h.1, Nat.sub_mul]
  refine ⟨hl, ?_⟩
  rcases h.2 with ⟨h1, h2⟩ | ⟨g, off, cap, cur, h1, h2, h3, h4, h5, h6, h7⟩
  · cases h1
    obtain rfl : k = 0 := by omega
    exact .inl ⟨rfl, rfl⟩
  · cases h1
    refine .inr ⟨g, if c = k then off else off + k * size, c - k, cur, ?_, h2, h3, by omega, by omega, ?_, ?_⟩
    · unfold cutS
      split
      · rfl
      · simp [Addr.add_lit]
    · split
      · next e0 => subst e0; rw [Nat.sub_self, Nat.zero_mul]; omega
      · have e1 : c * size = k * size + (c - k) * size := by rw [← Nat.add_mul]; congr 1; omega
        omega
    · split
      · next e0 =>
        obtain rfl : c = k := e0
        obtain rfl : n = c := by omega
        rw [Nat.sub_self, Nat.zero_mul, List.take_zero, List.drop_eq_nil_of_le (by rw [h.1]; exact Nat.le_refl _)]
      · rw [← h7, List.drop_take, List.drop_drop]
        congr 1
        rw [Nat.sub_mul]
section
variable {P : Program}
theorem run_append_slab {w : World} (base : Nat) (t ty e : TypeId) (i : TypeInfo) (z : Value) (size bytes : Nat) (ht : P.underlying t = some (.slice e)) (hi : P.info? e = some i) (hz : i.zero = some z) (hsize : i.size = size) (hby : i.bytes = bytes) (hzs : z.cells.size = size) (hsz : 0 < size)
    (v : Value) (n : Nat) (xs : List Value) (hown : Slab w base e size v n xs) (a : Addr) (m c : Nat) (news : List Value) (hl : news.length = m * size) (hnews : ∀ j u, news[j]? = some u → w.cell? (a.add j) = some u) (h1 : ∀ u ∈ news, u.oneCell' = true)
    (h63 : n + m ≤ maxLen) (hbytes : (n + m) * bytes ≤ 140737488355328) (hbase : base ≤ w.heap.size) :
    ∃ v' w', (Builtin.append_ #[t, t] ty #[v, .slice (some a) m c]).run P w = .ok v' w' ∧ Slab w' base e size v' (n + m) (xs ++ news) ∧ w.grownBy w' v.ownBlock := by
  rcases hown.2 with ⟨hv, hn⟩ | ⟨g, off, cap, cur, hv, hbg, hg, hnc, hcm, hfit, htake⟩
  · subst hv hn
    have hxs : xs = [] := List.eq_nil_of_length_eq_zero (by simpa using hown.1)
    subst hxs
    obtain ⟨v', w', hr, r1, r2, _⟩ := run_append_own (P := P) w base t ty e i z size bytes ht hi hz hsize hby hzs hsz (.slice none 0 0) 0 [] (World.ownsRow_nil w _ e size) a m c news hl hnews h1 h63 hbytes hbase
    exact ⟨v', w', hr, slab_row r1 (Nat.le_refl _), r2⟩
  · subst hv
    have hxl := hown.1
    by_cases hroom : n + m ≤ cap
    · subst hsize
      have hfm : (n + m) * i.size ≤ cap * i.size := Nat.mul_le_mul_right _ hroom
      rw [Nat.add_mul] at hfm
      have hf := run_firstCells_some (P := P) w i.size m a m c news hl hnews
      have hst := run_storeCells_at P g (off + n * i.size) e news 0 cur w hg (by omega) h1
      simp only [Nat.add_zero] at hst
      refine ⟨.slice (some ⟨g, off, none⟩) (n + m) cap, w.setRow g (cur.toList.take (off + n * i.size) ++ news ++ cur.toList.drop (off + n * i.size + news.length)).toArray, ?_, ?_, ⟨rfl, rfl, rfl, by simp, fun k _ hk => setRow_other w g k _ (fun e => hk (by simp [Value.ownBlock, e]))⟩⟩
      · simp [Builtin.append_, run_underlying ht, sizeOf, typeInfo, hi, Builtin.lenOf, hroom, hf, Addr.add_lit, hst]
      · have hc1 : (cur.toList.take (off + n * i.size)).length = off + n * i.size := by rw [List.length_take, Array.length_toList]; omega
        refine ⟨by rw [List.length_append, hxl, hl, Nat.add_mul], .inr ⟨g, off, cap, _, rfl, hbg, setRow_heap w g cur _ e _ hg, hroom, hcm, ?_, ?_⟩⟩
        · simp only [List.size_toArray, List.length_append, hc1, List.length_drop, Array.length_toList]
          omega
        · have hd : ((cur.toList.take (off + n * i.size) ++ news ++ cur.toList.drop (off + n * i.size + news.length)).toArray.toList.drop off) = (xs ++ news) ++ cur.toList.drop (off + n * i.size + news.length) := by
            show (cur.toList.take (off + n * i.size) ++ news ++ cur.toList.drop (off + n * i.size + news.length)).drop off = _
            rw [List.append_assoc, List.drop_append_of_le_length (by rw [hc1]; omega), List.drop_take, show off + n * i.size - off = n * i.size by omega, htake, List.append_assoc]
          rw [hd]
          exact List.take_left' (by rw [List.length_append, hxl, hl, Nat.add_mul])
    · have holds : ∀ j u, xs[j]? = some u → w.cell? ((⟨g, off, none⟩ : Addr).add j) = some u := by
        intro j u hj
        have hjl : j < n * size := by rw [← hxl]; exact (List.getElem?_eq_some_iff.1 hj).1
        rw [Addr.add_lit, heap_cell hg]
        rw [← htake, List.getElem?_take, if_pos hjl, List.getElem?_drop, Array.getElem?_toList] at hj
        exact hj
      obtain ⟨v', w', hr, r1, r2⟩ := run_append_arg_grows (P := P) w t ty e i z size bytes ht hi hz hsize hby hzs hsz ⟨g, off, none⟩ n cap xs hxl holds a m c news hl hnews (by omega) h63 hbytes
      exact ⟨v', w', hr, slab_row r1 hbase, ⟨r2.os, r2.tape, r2.output, r2.size, fun k hk _ => r2.block k hk (by simp)⟩⟩
/-- 'append(s, x...)' -/
theorem wp_append_slab {w : World} {o : Oper} {A : Act} {K : Act → World → Prop} {Q : Exit → Act → World → Prop} (s x : Operand) (t : TypeId) (ho : o.op = .call { callee := .builtin .append, args := #[s, x], argTypes := #[t, t] })
    (base : Nat) (e : TypeId) (i : TypeInfo) (z : Value) (size bytes : Nat) (ht : P.underlying t = some (.slice e)) (hi : P.info? e = some i) (hz : i.zero = some z) (hsize : i.size = size) (hby : i.bytes = bytes) (hzs : z.cells.size = size) (hsz : 0 < size)
    (v : Value) (n : Nat) (xs : List Value) (hs : A.eval s = v) (hown : Slab w base e size v n xs) (ad : Addr) (m c : Nat) (news : List Value) (hx : A.eval x = .slice (some ad) m c) (hm : news.length = m * size) (hb : ∀ j u, news[j]? = some u → w.cell? (ad.add j) = some u) (h1 : ∀ u ∈ news, u.oneCell' = true)
    (hbd : n + m ≤ maxLen) (hbytes : (n + m) * bytes ≤ 140737488355328) (hbase : base ≤ w.heap.size)
    (h : ∀ v' w', Slab w' base e size v' (n + m) (xs ++ news) → w.grownBy w' v.ownBlock → K (A.put o.dst v') w') : o.wp P A w K Q := by
  obtain ⟨v', w', hr, h2, h3⟩ := run_append_slab (P := P) base t o.type e i z size bytes ht hi hz hsize hby hzs hsz v n xs hown ad m c news hm hb h1 hbd hbytes hbase
  unfold Oper.wp execOp
  simp only [ho, resolve, invoke, builtin, Sem.run_bind, Sem.run_pure, Result.andThen_ok, List.map_toArray, List.map_cons, List.map_nil, hs, hx]
  rw [hr]
  exact h v' w' h2 h3
theorem wpList_append_slab {w : World} {ops : Array Oper} {rest : List Oper} {o : Oper} {A : Act} {Q : Exit → Act → World → Prop} (hgd : o.guard = none) (s x : Operand) (t : TypeId) (ho : o.op = .call { callee := .builtin .append, args := #[s, x], argTypes := #[t, t] })
    (base : Nat) (e : TypeId) (i : TypeInfo) (z : Value) (size bytes : Nat) (ht : P.underlying t = some (.slice e)) (hi : P.info? e = some i) (hz : i.zero = some z) (hsize : i.size = size) (hby : i.bytes = bytes) (hzs : z.cells.size = size) (hsz : 0 < size)
    (v : Value) (n : Nat) (xs : List Value) (hs : A.eval s = v) (hown : Slab w base e size v n xs) (ad : Addr) (m c : Nat) (news : List Value) (hx : A.eval x = .slice (some ad) m c) (hm : news.length = m * size) (hb : ∀ j u, news[j]? = some u → w.cell? (ad.add j) = some u) (h1 : ∀ u ∈ news, u.oneCell' = true)
    (hbd : n + m ≤ maxLen) (hbytes : (n + m) * bytes ≤ 140737488355328) (hbase : base ≤ w.heap.size)
    (h : ∀ v' w', Slab w' base e size v' (n + m) (xs ++ news) → w.grownBy w' v.ownBlock → wpList P ops Q rest (A.put o.dst v') w') : wpList P ops Q (o :: rest) A w :=
  wpList_plain hgd fun K hK => wp_append_slab s x t ho base e i z size bytes ht hi hz hsize hby hzs hsz v n xs hs hown ad m c news hx hm hb h1 hbd hbytes hbase (fun v' w' g1 g2 => hK _ _ (h v' w' g1 g2))
theorem step_append_slab {w : World} {ops : Array Oper} {o : Oper} {A : Act} {K : Act → World → Prop} {Q : Exit → Act → World → Prop} {E : Prop} (hgd : o.guard = none) (s x : Operand) (t : TypeId) (ho : o.op = .call { callee := .builtin .append, args := #[s, x], argTypes := #[t, t] })
    (base : Nat) (e : TypeId) (i : TypeInfo) (z : Value) (size bytes : Nat) (ht : P.underlying t = some (.slice e)) (hi : P.info? e = some i) (hz : i.zero = some z) (hsize : i.size = size) (hby : i.bytes = bytes) (hzs : z.cells.size = size) (hsz : 0 < size)
    (v : Value) (n : Nat) (xs : List Value) (hs : A.eval s = v) (hown : Slab w base e size v n xs) (ad : Addr) (m c : Nat) (news : List Value) (hx : A.eval x = .slice (some ad) m c) (hm : news.length = m * size) (hb : ∀ j u, news[j]? = some u → w.cell? (ad.add j) = some u) (h1 : ∀ u ∈ news, u.oneCell' = true)
    (hbd : n + m ≤ maxLen) (hbytes : (n + m) * bytes ≤ 140737488355328) (hbase : base ≤ w.heap.size)
    (h : ∀ v' w', Slab w' base e size v' (n + m) (xs ++ news) → w.grownBy w' v.ownBlock → K (A.put o.dst v') w') : if Region.wanted o (yielded ops A.tmps) = true then Oper.wp P o A w K Q else E := by
  have hw : Region.wanted o (yielded ops A.tmps) = true := by simp [Region.wanted, hgd]
  rw [if_pos hw]
  exact wp_append_slab s x t ho base e i z size bytes ht hi hz hsize hby hzs hsz v n xs hs hown ad m c news hx hm hb h1 hbd hbytes hbase h
theorem step_append_vals {w : World} {ops : Array Oper} {o : Oper} {A : Act} {K : Act → World → Prop} {Q : Exit → Act → World → Prop} {E : Prop} (hgd : o.guard = none) (s x : Operand) (t : TypeId)
    (ho : o.op = .call { callee := .builtin .append, args := #[s, x], argTypes := #[t, t] })
    (base : Nat) (e : TypeId) (i : TypeInfo) (z : Value) (size bytes : Nat) (ht : P.underlying t = some (.slice e)) (hi : P.info? e = some i) (hz : i.zero = some z) (hsize : i.size = size) (hby : i.bytes = bytes) (hzs : z.cells.size = size) (hsz : 0 < size)
    (v : Value) (n : Nat) (xs : List Value) (hs : A.eval s = v) (hown : w.ownsRow base e size v n xs) (ad : Option Addr) (m c : Nat) (news : List Value) (hx : A.eval x = .slice ad m c) (hm : news.length = m * size) (hb : IsVals w ad news) (h1 : ∀ u ∈ news, u.oneCell' = true)
    (hbd : n + m ≤ maxLen) (hbytes : (n + m) * bytes ≤ 140737488355328) (hbase : base ≤ w.heap.size)
    (h : ∀ v' w', w'.ownsRow base e size v' (n + m) (xs ++ news) → w.grownBy w' v.ownBlock → K (A.put o.dst v') w') : if Region.wanted o (yielded ops A.tmps) = true then Oper.wp P o A w K Q else E := by
  have hw : Region.wanted o (yielded ops A.tmps) = true := by simp [Region.wanted, hgd]
  rw [if_pos hw]
  exact wp_append_vals w s x t ho base e i z size bytes ht hi hz hsize hby hzs hsz v n xs hs hown ad m c news hx hm hb h1 hbd hbytes hbase h
theorem run_slice_lS (w : World) (T e : TypeId) (i : TypeInfo) (size : Nat) (ht : P.underlying T = some (.slice e)) (hi : P.info? e = some i) (hz : i.size = size) (a : Option Addr) (len cap L : Nat) (kl : IntKind) (h1 : L ≤ len) :
    (Instr.slice T (.slice a len cap) (some (.int kl (L : Int))) none none).run P w = .ok (.slice (cutS a cap L size) (len - L) (cap - L)) w := by
  simp [Instr.slice, run_underlying ht, Instr.sliceBounds, run_sliceBound, cutS, sizeOf, typeInfo, hi, hz, h1]
theorem run_slice_hS (w : World) (T e : TypeId) (i : TypeInfo) (size : Nat) (ht : P.underlying T = some (.slice e)) (hi : P.info? e = some i) (hz : i.size = size) (a : Option Addr) (len cap H : Nat) (kh : IntKind) (h2 : H ≤ cap) :
    (Instr.slice T (.slice a len cap) none (some (.int kh (H : Int))) none).run P w = .ok (.slice (cutS a cap 0 size) H cap) w := by
  simp [Instr.slice, run_underlying ht, Instr.sliceBounds, run_sliceBound, cutS, sizeOf, typeInfo, hi, hz, h2]
end
theorem Try.info57 : (Try.prog.info? 57).map (fun i => (i.zero, i.size, i.bytes)) = some (some (.agg #[.int .i64 0, .int .i64 0, .slice none 0 0]), 3, 40) := by kernel_rfl
theorem cutS_vals {w : World} {a : Option Addr} {xs : List Value} {cap lo hi size : Nat} (h : IsVals w a xs) (hl : hi * size ≤ xs.length) (hc : xs.length ≤ cap * size) (hlo : lo ≤ cap) : IsVals w (cutS a cap lo size) ((xs.take (hi * size)).drop (lo * size)) := by
  intro h0
  have hlen : ((xs.take (hi * size)).drop (lo * size)).length = hi * size - lo * size := by rw [List.length_drop, List.length_take]; omega
  obtain ⟨b, off, rfl, hb, hcell⟩ := h (by omega)
  refine ⟨b, off + lo * size, ?_, hb, ?_⟩
  · unfold cutS
    rw [if_neg (by intro e; subst e; omega)]
    simp [Addr.add_lit]
  · intro k hk
    have := hcell (lo * size + k) (by omega)
    rw [Nat.add_assoc, this]
    rw [List.getElem?_drop, List.getElem?_take, if_pos (by omega)]
end Go.Proofs.Ytacjbgmnoiimbac
