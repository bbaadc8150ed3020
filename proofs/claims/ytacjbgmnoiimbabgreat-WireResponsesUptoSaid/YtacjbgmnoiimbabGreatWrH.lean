/- Requests and responses written: walked (printed by genWireP.py). -/
import Derived.Test.YtacjbgmnoiimbabGreatWrG
import Derived.Lib.SlBytesConst
namespace Go.Proofs.YtacjbgmnoiimbabGreat
set_option linter.unusedVariables false
set_option linter.unusedSimpArgs false
open Go.RowKit

/-- steps in memory, with what they hold -/
def SMem (S : Nat → Prop) (n : Nat) (W : World) (xs : List SE) : Prop := ∀ x ∈ xs, x.r.ps.length ≤ x.r.c ∧ RMem S n W x.r.a x.r.ps ∧ x.bs.length ≤ x.bc ∧ IsEls intC 1 W x.ba x.bs ∧ (0 < x.bs.length → ∀ p, x.ba = some p → S p.block)
theorem SMem.stays {S : Nat → Prop} {n : Nat} {W W' : World} {xs : List SE} (h : SMem S n W xs) (hk : Stays S W W') : SMem S n W' xs := fun x hx => by
  obtain ⟨h1, h2, h3, h4, h5⟩ := h x hx
  exact ⟨h1, h2.stays hk, h3, h4.stays h5 hk, h5⟩
theorem SMem.weak {S S' : Nat → Prop} (hS : ∀ b, S b → S' b) {n : Nat} {W : World} {xs : List SE} (h : SMem S n W xs) : SMem S' n W xs := fun x hx => by
  obtain ⟨h1, h2, h3, h4, h5⟩ := h x hx
  exact ⟨h1, h2.weak hS, h3, h4, fun h0 p hp => hS _ (h5 h0 p hp)⟩
theorem seE_list (xs : List SE) : listE seE xs = listE stepE (xs.map SE.plain) := by
  rw [← list_map]; rfl
theorem intE_pos (n : Int) : 1 ≤ (intE n).length := uv_pos _
theorem seE_pos (x : SE) : 1 ≤ (seE x).length := by
  show 1 ≤ (stepE _).length
  have := triE_pos x.p
  unfold stepE
  rw [List.length_append]
  show 1 ≤ (triE x.p).length + _
  omega
theorem lsteps_ok (g n : Nat) (a : Option Addr) (c : Nat) (xs : List SE) (l : List UInt8) (d : Nat) (odd : Bool) (W : World) (h : SAt 78 W g l d odd) (hx : IsEls seC 11 W a xs) (hne : 0 < xs.length → ∀ p, a = some p → p.block ≠ g) (hm : SMem (· ≠ g) n W xs) (hok : ∀ x ∈ xs, stepok x.plain) (hl : l.length + (listE seE xs).length ≤ 1000000000) (hd : d + 2 * (listE seE xs).length ≤ 2000000000) :
    Calls Tryz.prog 28 #[.pointer (some ⟨g, 0, none⟩), .slice a xs.length c, .func (.func 29) #[.pointer (some ⟨g, 0, none⟩)] #[]] W (WD g l d odd (listE seE xs) (fun d => ∃ x ∈ xs, seB x d) W) := by
  have hge := list_ge seE_pos xs
  refine lstep_any g a c xs l d odd W h hx hne hd (fun x hxm l2 d2 o2 W2 b1 b2 b3 b4 => ?_) hl (by omega)
  obtain ⟨m1, m2, m3, m4, m5⟩ := hm x hxm
  obtain ⟨k1, k2, k3, k4⟩ := hok x hxm
  have hr : okR x.r.plain := k2
  have hr' := (okR_eq _ _ _ _).1 hr
  have hbl : x.bs.length ≤ 1000000000 := by
    have e1 := list_ge intE_pos x.bs
    have e2 : (seE x).length = (triE x.p ++ (encR x.r.plain ++ (triE x.s ++ listE intE x.bs))).length := rfl
    simp only [List.length_append] at e2
    omega
  exact wstep_any g x.p.1 x.p.2.1 x.p.2.2 x.r.k x.r.A x.r.B x.r.a x.r.c x.r.ps x.s.1 x.s.2.1 x.s.2.2 x.ba x.bc x.bs l2 d2 o2 W2 b1 hr'.1 b3 b4 (m4.grown m5 b2) m5 hbl k4.2 ((rlist_ok g n W x.r.a x.r.c x.r.ps m2 hr'.2.2.2.2).grown b2)
set_option maxRecDepth 100000 in
theorem wdone_any (g : Nat) (l : List UInt8) (d : Nat) (odd : Bool) (W : World) (h : SAt 78 W g l d odd) :
    Calls Tryz.prog 31 #[.pointer (some ⟨g, 0, none⟩)] W fun e W' => W' = W ∧ (odd = true → e = .returned (.tuple #[.slice none 0 0, .int .i64 10])) ∧ (odd = false → ∃ a c, e = .returned (.tuple #[.slice a l.length c, .int .i64 0]) ∧ l.length ≤ c ∧ IsBytes W a l) := by
  obtain ⟨a, c, h1, h2, h3, h4⟩ := h
  have p0 := heap_cell h1 0
  have p2 := heap_cell h1 2
  simp at p0 p2
  have H3 := Lib.hid h3
  have H2 := Lib.hid h2
  clear h1 h3 h4 h2
  cases odd with
  | true =>
    go_enter Tryz.func31, Tryz.ntmps31
    go_wp2_with fail
    go_ret2
    exact ⟨rfl, fun _ => rfl, fun h => by cases h⟩
  | false =>
    go_enter Tryz.func31, Tryz.ntmps31
    go_wp2_with fail
    go_ret2
    exact ⟨rfl, (fun h => by cases h), fun _ => ⟨a, c, rfl, H2.out, H3.out⟩⟩
/-- a request -/
abbrev RQ := ByteArray × Nat × Int × Int × ByteArray × Nat × ByteArray × Tri × List Wrt × List Wrt × List Six × List ArgT
def reqE (q : RQ) : List UInt8 := txt q.1 ++ (uv q.2.1 ++ (intE q.2.2.1 ++ (intE q.2.2.2.1 ++ (txt q.2.2.2.2.1 ++ (uv q.2.2.2.2.2.1 ++ (txt q.2.2.2.2.2.2.1 ++ (triE q.2.2.2.2.2.2.2.1 ++ (listE wrtE q.2.2.2.2.2.2.2.2.1 ++ (listE wrtE q.2.2.2.2.2.2.2.2.2.1 ++ (listE sixE q.2.2.2.2.2.2.2.2.2.2.1 ++ listE argE q.2.2.2.2.2.2.2.2.2.2.2))))))))))
def nok (v : Nat) : Prop := v < 18446744073709551616
def reqok (q : RQ) : Prop := tok q.1 ∧ nok q.2.1 ∧ iok q.2.2.1 ∧ iok q.2.2.2.1 ∧ tok q.2.2.2.2.1 ∧ nok q.2.2.2.2.2.1 ∧ tok q.2.2.2.2.2.2.1 ∧ triok q.2.2.2.2.2.2.2.1 ∧ lok wrtok q.2.2.2.2.2.2.2.2.1 ∧ lok wrtok q.2.2.2.2.2.2.2.2.2.1 ∧ lok sixok q.2.2.2.2.2.2.2.2.2.2.1 ∧ lok argok q.2.2.2.2.2.2.2.2.2.2.2
theorem uq_req : Uq reqE reqok := uq_pair uq_txt (uq_pair uq_num (uq_pair uq_int (uq_pair uq_int (uq_pair uq_txt (uq_pair uq_num (uq_pair uq_txt (uq_pair uq_tri (uq_pair (uq_list uq_wrt) (uq_pair (uq_list uq_wrt) (uq_pair (uq_list uq_six) (uq_list uq_arg)))))))))))
/-- a response -/
abbrev RP := Nat × Int × Nat × ByteArray × List Bool × List Six × List Duo × List Evt × List PS × PN
def respE (p : RP) : List UInt8 := uv p.1 ++ (intE p.2.1 ++ (uv p.2.2.1 ++ (txt p.2.2.2.1 ++ (listE boolE p.2.2.2.2.1 ++ (listE sixE p.2.2.2.2.2.1 ++ (listE duoE p.2.2.2.2.2.2.1 ++ (listE evtE p.2.2.2.2.2.2.2.1 ++ (listE stepE p.2.2.2.2.2.2.2.2.1 ++ encN p.2.2.2.2.2.2.2.2.2))))))))
def respok (p : RP) : Prop := nok p.1 ∧ iok p.2.1 ∧ nok p.2.2.1 ∧ tok p.2.2.2.1 ∧ lok (fun _ => True) p.2.2.2.2.1 ∧ lok sixok p.2.2.2.2.2.1 ∧ lok duook p.2.2.2.2.2.2.1 ∧ lok evtok p.2.2.2.2.2.2.2.1 ∧ lok stepok p.2.2.2.2.2.2.2.2.1 ∧ okN p.2.2.2.2.2.2.2.2.2
theorem uq_resp : Uq respE respok := uq_pair uq_num (uq_pair uq_int (uq_pair uq_num (uq_pair uq_txt (uq_pair (uq_list uq_bool) (uq_pair (uq_list uq_six) (uq_pair (uq_list uq_duo) (uq_pair (uq_list uq_evt) (uq_pair (uq_list uq_step) uq_node))))))))
/-- does nothing stand too deep? -/
def flatP (p : RP) : Prop := (∀ x ∈ p.2.2.2.2.2.2.2.2.1, depR x.2.1 ≤ 64) ∧ depN p.2.2.2.2.2.2.2.2.2 ≤ 64
/-- what is put -/
def PutDoes (en : List UInt8) (bad : Prop) (W : World) (e : Ending) (W' : World) : Prop :=
  (¬ bad → ∃ a c, e = .returned (.tuple #[.slice a en.length c, .int .i64 0]) ∧ en.length ≤ c ∧ IsBytes W' a en) ∧ (bad → e = .returned (.tuple #[.slice none 0 0, .int .i64 10])) ∧ Below W.heap.size W W'
theorem put_end {hd en : List UInt8} {bad : Nat → Prop} {W W1 : World} {l : List UInt8} {d : Nat} {odd : Bool} {e : Ending} (hst : Stp hd 0 false en bad l d odd) (hb : Below W.heap.size W W1) (h1 : odd = true → e = .returned (.tuple #[.slice none 0 0, .int .i64 10])) (h2 : odd = false → ∃ a c, e = .returned (.tuple #[.slice a l.length c, .int .i64 0]) ∧ l.length ≤ c ∧ IsBytes W1 a l) : PutDoes (hd ++ en) (bad 0) W e W1 := by
  obtain ⟨_, _, _, t4, t5⟩ := hst
  refine ⟨fun hn => ?_, fun hbad => h1 (t5 rfl hbad), hb⟩
  obtain ⟨u1, _, u3⟩ := t4 rfl hn
  subst u3
  exact h2 u1
theorem below_grown {B : Nat} {W W1 : World} {g : Nat} (hg : W.grownBy W1 (some g)) (hB : B ≤ g) (hs : B ≤ W.heap.size) : Below B W W1 := ⟨hg.os, hg.tape, hg.output, hg.size, fun k hk => hg.block k (by omega) (fun e => by cases e; omega)⟩
theorem st_new (W : World) (o : Obj) (l : List UInt8) (hl : l.length = 2) (h : IsBytes (W.alloc o) (some ⟨W.heap.size, 0, none⟩) l) : SAt 78 ((W.alloc o).alloc (.cells #[.slice (some ⟨W.heap.size, 0, none⟩) 2 2, .int .i64 0, .bool false] 78)) (W.heap.size + 1) l 0 false := by
  have e := alloc_size W o
  have hx := heap_alloc_new (W.alloc o) (.cells #[.slice (some ⟨W.heap.size, 0, none⟩) 2 2, .int .i64 0, .bool false] 78)
  rw [e] at hx
  refine ⟨some ⟨W.heap.size, 0, none⟩, 2, by rw [hl]; exact hx, by omega, h.below ((Below.refl _ _).alloc (Nat.le_refl _) _), fun p hp => ?_⟩
  cases hp
  show W.heap.size ≠ W.heap.size + 1
  omega
theorem two_bytes (W : World) (x y : UInt8) : IsBytes (W.alloc (.cells #[.int .u8 (x.toNat : Int), .int .u8 (y.toNat : Int)] 5 (2, 3))) (some ⟨W.heap.size, 0, none⟩) [x, y] := fun _ => ⟨W.heap.size, 0, rfl, by simp, fun k hk => by
  rw [Nat.zero_add, cell_of_row _ _ _ _ _ _ (heap_alloc_new W _)]
  match k, hk with
  | 0, _ => rfl
  | 1, _ => rfl⟩
theorem els_ne {T : Type} [Inhabited T] {cells : T → List Value} {size : Nat} {W : World} {a : Option Addr} {xs : List T} {g : Nat} (h : IsEls cells size W a xs) (hg : W.heap.size ≤ g) : 0 < xs.length → ∀ p, a = some p → p.block ≠ g := fun h0 p hp => by
  obtain ⟨b, off, ha, hb, _⟩ := h h0
  rw [ha] at hp
  cases hp
  show b ≠ g
  omega
end Go.Proofs.YtacjbgmnoiimbabGreat
