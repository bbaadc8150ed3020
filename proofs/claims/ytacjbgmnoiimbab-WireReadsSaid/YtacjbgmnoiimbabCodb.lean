/- Texts written and read: the plain laws. -/
import Derived.Test.YtacjbgmnoiimbabCod
namespace Go.Proofs.Ytacjbgmnoiimbab
set_option linter.unusedVariables false
set_option linter.unusedSimpArgs false

abbrev Text := List UInt8
def textE (s : Text) : List UInt8 := uv s.length ++ s
/-! ### reading a key -/
def textN (l : List UInt8) : Nat := if getE l = 0 then (if l.length - getN l < getV l then 7 else 0) else getE l
/-- a text, and how many bytes it takes -/
def gotT (l : List UInt8) : Text := if textN l = 0 then (l.drop (getN l)).take (getV l) else []
def usedT (l : List UInt8) : Nat := if textN l = 0 then getN l + getV l else 0
theorem text_of (s : Text) (h : s.length < 18446744073709551616) (r : List UInt8) : textN (textE s ++ r) = 0 ∧ gotT (textE s ++ r) = s ∧ usedT (textE s ++ r) = (textE s).length := by
  obtain ⟨h1, h2, h3⟩ := get_uv s.length h (s ++ r)
  have e : textE s ++ r = uv s.length ++ (s ++ r) := by rw [textE, List.append_assoc]
  have h0 : textN (textE s ++ r) = 0 := by
    rw [e, textN, if_pos h1, h2, h3, if_neg]
    rw [List.length_append, List.length_append]; omega
  refine ⟨h0, ?_, ?_⟩
  · rw [gotT, if_pos h0, e, h2, h3, List.drop_left, List.take_left]
  · rw [usedT, if_pos h0, e, h2, h3, textE, List.length_append]
theorem usedT_le (l : List UInt8) : usedT l ≤ l.length := by
  unfold usedT
  split
  · rename_i h
    unfold textN at h
    split at h
    · have := getN_le l
      split at h
      · cases h
      · omega
    · rename_i h1
      exact absurd h h1
  · exact Nat.zero_le _
theorem getN_pos (l : List UInt8) (h : getE l = 0) : 0 < getN l := by rw [getN, if_pos h]; omega
end Go.Proofs.Ytacjbgmnoiimbab
