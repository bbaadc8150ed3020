/- What is written: plain; each begins no other. -/
import Derived.Test.YtacjbgmnoiimbabCodb
namespace Go.Proofs.Ytacjbgmnoiimbab
set_option linter.unusedVariables false
set_option linter.unusedSimpArgs false

/-- of what is written as en, one begins no other -/
def Uq {T : Type} (en : T → List UInt8) (ok : T → Prop) : Prop := ∀ x y r s, ok x → ok y → en x ++ r = en y ++ s → x = y ∧ r = s
theorem uq_num : Uq uv (fun v => v < 18446744073709551616) := fun x y r s hx hy h => by
  obtain ⟨_, h2, h3⟩ := get_uv x hx r
  obtain ⟨_, k2, k3⟩ := get_uv y hy s
  rw [h] at h2 h3
  have e : x = y := h3.symm.trans k3
  subst e
  exact ⟨rfl, List.append_cancel_left h⟩
theorem uq_pair {T U : Type} {e1 : T → List UInt8} {o1 : T → Prop} {e2 : U → List UInt8} {o2 : U → Prop} (h1 : Uq e1 o1) (h2 : Uq e2 o2) : Uq (fun p : T × U => e1 p.1 ++ e2 p.2) (fun p => o1 p.1 ∧ o2 p.2) := fun ⟨x1, x2⟩ ⟨y1, y2⟩ r s ⟨a1, a2⟩ ⟨b1, b2⟩ h => by
  simp only [List.append_assoc] at h
  obtain ⟨e, h'⟩ := h1 x1 y1 _ _ a1 b1 h
  obtain ⟨e', h''⟩ := h2 x2 y2 _ _ a2 b2 h'
  exact ⟨by rw [e, e'], h''⟩
theorem uq_map {T U : Type} {e1 : T → List UInt8} {o1 : T → Prop} (h1 : Uq e1 o1) (f : U → T) (hf : ∀ x y, f x = f y → x = y) : Uq (fun u => e1 (f u)) (fun u => o1 (f u)) := fun x y r s a b h => by
  obtain ⟨e, h'⟩ := h1 _ _ _ _ a b h
  exact ⟨hf _ _ e, h'⟩
/-- a text -/
def txt (s : ByteArray) : List UInt8 := textE s.data.toList
def tok (s : ByteArray) : Prop := s.size < 18446744073709551616
theorem txt_eq (s : ByteArray) : txt s = uv s.size ++ s.data.toList := rfl
theorem uq_txt : Uq txt tok := fun x y r s hx hy h => by
  rw [txt_eq, txt_eq, List.append_assoc, List.append_assoc] at h
  obtain ⟨e, h'⟩ := uq_num _ _ _ _ hx hy h
  have hl : x.data.toList.length = y.data.toList.length := by
    rw [Array.length_toList, Array.length_toList]; exact e
  obtain ⟨e2, h''⟩ := List.append_inj h' hl
  refine ⟨?_, h''⟩
  cases x; cases y
  simp only [ByteArray.mk.injEq]
  exact Array.toList_inj.1 e2
/-- a whole number -/
def zig (n : Int) : Nat := if n < 0 then 2 * (-(n + 1)).toNat + 1 else 2 * n.toNat
def intE (n : Int) : List UInt8 := uv (zig n)
def iok (n : Int) : Prop := -9223372036854775808 ≤ n ∧ n < 9223372036854775808
theorem zig_lt {n : Int} (h : iok n) : zig n < 18446744073709551616 := by
  unfold iok at h
  unfold zig
  split <;> omega
theorem zig_inj {n m : Int} (h : zig n = zig m) : n = m := by
  unfold zig at h
  split at h <;> split at h <;> omega
theorem uq_int : Uq intE iok := fun x y r s hx hy h => by
  obtain ⟨e, h'⟩ := uq_num _ _ _ _ (zig_lt hx) (zig_lt hy) h
  exact ⟨zig_inj e, h'⟩
/-- yes or no -/
def boolE (b : Bool) : List UInt8 := uv (if b then 1 else 0)
theorem uq_bool : Uq boolE (fun _ => True) := fun x y r s _ _ h => by
  obtain ⟨e, h'⟩ := uq_num _ _ _ _ (by split <;> omega) (by split <;> omega) h
  refine ⟨?_, h'⟩
  cases x <;> cases y <;> first | rfl | (simp at e)
theorem boolE_eq (b : Bool) : boolE b = [if b then 1 else 0] := by
  unfold boolE
  rw [uv_small (by split <;> omega)]
  cases b <;> rfl
/-- a list -/
def bodyE {T : Type} (en : T → List UInt8) (xs : List T) : List UInt8 := xs.flatMap en
def listE {T : Type} (en : T → List UInt8) (xs : List T) : List UInt8 := uv xs.length ++ bodyE en xs
def lok {T : Type} (ok : T → Prop) (xs : List T) : Prop := xs.length < 18446744073709551616 ∧ ∀ x ∈ xs, ok x
theorem body_cons {T : Type} (en : T → List UInt8) (x : T) (xs : List T) : bodyE en (x :: xs) = en x ++ bodyE en xs := rfl
theorem body_append {T : Type} (en : T → List UInt8) (xs ys : List T) : bodyE en (xs ++ ys) = bodyE en xs ++ bodyE en ys := List.flatMap_append
theorem uq_body {T : Type} {en : T → List UInt8} {ok : T → Prop} (h : Uq en ok) : ∀ (xs ys : List T) (r s : List UInt8), xs.length = ys.length → (∀ x ∈ xs, ok x) → (∀ y ∈ ys, ok y) → bodyE en xs ++ r = bodyE en ys ++ s → xs = ys ∧ r = s
  | [], [], r, s, _, _, _, e => ⟨rfl, e⟩
  | [], y :: ys, _, _, hl, _, _, _ => by cases hl
  | x :: xs, [], _, _, hl, _, _, _ => by cases hl
  | x :: xs, y :: ys, r, s, hl, hx, hy, e => by
    rw [body_cons, body_cons, List.append_assoc, List.append_assoc] at e
    obtain ⟨e1, e'⟩ := h x y _ _ (hx _ List.mem_cons_self) (hy _ List.mem_cons_self) e
    obtain ⟨e2, e''⟩ := uq_body h xs ys r s (by simpa using hl) (fun z hz => hx z (List.mem_cons_of_mem _ hz)) (fun z hz => hy z (List.mem_cons_of_mem _ hz)) e'
    exact ⟨by rw [e1, e2], e''⟩
theorem uq_list {T : Type} {en : T → List UInt8} {ok : T → Prop} (h : Uq en ok) : Uq (listE en) (lok ok) := fun x y r s hx hy e => by
  unfold listE at e
  rw [List.append_assoc, List.append_assoc] at e
  obtain ⟨e1, e'⟩ := uq_num _ _ _ _ hx.1 hy.1 e
  exact uq_body h x y r s e1 hx.2 hy.2 e'
/-! ### the parts of requests -/
abbrev Tri := ByteArray × ByteArray × ByteArray
def triE (t : Tri) : List UInt8 := txt t.1 ++ (txt t.2.1 ++ txt t.2.2)
def triok (t : Tri) : Prop := tok t.1 ∧ tok t.2.1 ∧ tok t.2.2
theorem uq_tri : Uq triE triok := uq_pair uq_txt (uq_pair uq_txt uq_txt)
abbrev Duo := ByteArray × ByteArray
def duoE (t : Duo) : List UInt8 := txt t.1 ++ txt t.2
def duook (t : Duo) : Prop := tok t.1 ∧ tok t.2
theorem uq_duo : Uq duoE duook := uq_pair uq_txt uq_txt
abbrev Six := Tri × Tri
def sixE (t : Six) : List UInt8 := triE t.1 ++ triE t.2
def sixok (t : Six) : Prop := triok t.1 ∧ triok t.2
theorem uq_six : Uq sixE sixok := uq_pair uq_tri uq_tri
abbrev Wrt := Bool × Six
def wrtE (t : Wrt) : List UInt8 := boolE t.1 ++ sixE t.2
def wrtok (t : Wrt) : Prop := True ∧ sixok t.2
theorem uq_wrt : Uq wrtE wrtok := uq_pair uq_bool uq_six
abbrev ArgT := ByteArray × Int × Int × ByteArray
def argE (t : ArgT) : List UInt8 := txt t.1 ++ (intE t.2.1 ++ (intE t.2.2.1 ++ txt t.2.2.2))
def argok (t : ArgT) : Prop := tok t.1 ∧ iok t.2.1 ∧ iok t.2.2.1 ∧ tok t.2.2.2
theorem uq_arg : Uq argE argok := uq_pair uq_txt (uq_pair uq_int (uq_pair uq_int uq_txt))
abbrev Evt := Nat × Wrt
def evtE (t : Evt) : List UInt8 := uv t.1 ++ wrtE t.2
def evtok (t : Evt) : Prop := t.1 < 18446744073709551616 ∧ wrtok t.2
theorem uq_evt : Uq evtE evtok := uq_pair uq_num uq_wrt
end Go.Proofs.Ytacjbgmnoiimbab
