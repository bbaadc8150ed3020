/- Lists read: small laws. -/
import Derived.Test.YtacjbgmnoiimbabGreatRdE
import Derived.Test.YtacjbgmnoiimbabGreatWrF
namespace Go.Proofs.YtacjbgmnoiimbabGreat
set_option linter.unusedVariables false
set_option linter.unusedSimpArgs false
open Go.RowKit

theorem duoC_len (x : Duo) : (duoC x).length = 2 := rfl
theorem triC_len (x : Tri) : (triC x).length = 3 := rfl
theorem sixC_len (x : Six) : (sixC x).length = 6 := rfl
theorem wrtC_len (x : Wrt) : (wrtC x).length = 7 := rfl
theorem argC_len (x : ArgT) : (argC x).length = 4 := rfl
theorem evtC_len (x : Evt) : (evtC x).length = 8 := rfl
theorem boolC_len (x : Bool) : (boolC x).length = 1 := rfl
theorem intC_len (x : Int) : (intC x).length = 1 := rfl
theorem reC_len (x : RE) : (reC x).length = 4 := rfl
theorem neC_len (x : NE) : (neC x).length = 6 := rfl
theorem duoC_one (x : Duo) : ∀ u ∈ duoC x, u.oneCell' = true := by simp [duoC, Value.oneCell']
theorem triC_one (x : Tri) : ∀ u ∈ triC x, u.oneCell' = true := by simp [triC, Value.oneCell']
theorem sixC_one (x : Six) : ∀ u ∈ sixC x, u.oneCell' = true := by simp [sixC, triC, Value.oneCell']
theorem wrtC_one (x : Wrt) : ∀ u ∈ wrtC x, u.oneCell' = true := by simp [wrtC, sixC, triC, Value.oneCell']
theorem argC_one (x : ArgT) : ∀ u ∈ argC x, u.oneCell' = true := by simp [argC, Value.oneCell']
theorem evtC_one (x : Evt) : ∀ u ∈ evtC x, u.oneCell' = true := by simp [evtC, wrtC, sixC, triC, Value.oneCell']
theorem boolC_one (x : Bool) : ∀ u ∈ boolC x, u.oneCell' = true := by simp [boolC, Value.oneCell']
theorem intC_one (x : Int) : ∀ u ∈ intC x, u.oneCell' = true := by simp [intC, Value.oneCell']
theorem reC_one (x : RE) : ∀ u ∈ reC x, u.oneCell' = true := by simp [reC, Value.oneCell']
theorem neC_one (x : NE) : ∀ u ∈ neC x, u.oneCell' = true := by simp [neC, Value.oneCell']
theorem txt_pos (s : ByteArray) : 1 ≤ (txt s).length := by
  rw [txt_len]
  have := uv_pos s.size
  omega
theorem duoE_pos (x : Duo) : 1 ≤ (duoE x).length := by
  unfold duoE
  rw [List.length_append]
  have := txt_pos x.1
  omega
theorem sixE_pos (x : Six) : 1 ≤ (sixE x).length := by
  unfold sixE
  rw [List.length_append]
  have := triE_pos x.1
  omega
theorem boolE_pos (x : Bool) : 1 ≤ (boolE x).length := by rw [boolE_eq]; simp
theorem wrtE_pos (x : Wrt) : 1 ≤ (wrtE x).length := by
  unfold wrtE
  rw [List.length_append]
  have := boolE_pos x.1
  omega
theorem argE_pos (x : ArgT) : 1 ≤ (argE x).length := by
  unfold argE
  rw [List.length_append]
  have := txt_pos x.1
  omega
theorem evtE_pos (x : Evt) : 1 ≤ (evtE x).length := by
  unfold evtE
  rw [List.length_append]
  have := uv_pos x.1
  omega
theorem intE_pos' (x : Int) : 1 ≤ (intE x).length := uv_pos _
theorem irel_flat {T : Type} [Inhabited T] {g bb : Nat} {cells : T → List Value} {size : Nat} {en : T → List UInt8} {ok : T → Prop} {mem : (Nat → Prop) → World → T → Prop} {l : List UInt8} {d : Nat} {odd : Bool} {W wr : World} {e : Ending}
    (h : RD g bb (fun t : LS T => t.xs.map id) (listE en) (lok ok) (fun ys d => ∃ y ∈ ys, nobad y d) lsV (lsmem cells size mem) l d odd W e wr) : RD g bb (fun t : LS T => t.xs) (listE en) (lok ok) nobad lsV (lsmem cells size mem) l d odd W e wr := by
  obtain ⟨x, l', o', h1, h2, h3, h4, h5⟩ := h
  refine ⟨x, l', o', h1, h2, h3, h4, ?_⟩
  have := h5.flatl
  simp only [List.map_id] at this
  exact this
end Go.Proofs.YtacjbgmnoiimbabGreat
