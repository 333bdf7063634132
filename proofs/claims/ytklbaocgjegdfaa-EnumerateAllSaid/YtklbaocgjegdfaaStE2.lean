/- The walk of Encode. -/
import Derived.Test.YtklbaocgjegdfaaStE1
import Derived.Test.YtklbaocgjegdfaaStW5
namespace Go.Proofs.Ytklbaocgjegdfaa
open Go.RowKit

def encOne (p : Decl × List Int) : List UInt8 := (if p.1.kind = 3 then bytesOf p.2.length 2 else []) ++ bytesL p.2
def encRows (D : List Decl) (L : List (List Int)) : List UInt8 := (D.zip L).flatMap encOne
def encB (D : List Decl) (s : St) : List UInt8 := encRows D s.cells ++ (bytesOf s.inp.length 2 ++ (bytesL s.inp ++ (bytesOf s.out.length 2 ++ bytesL s.out)))

theorem fits_parts {D : List Decl} {s : St} (h : fitsB D s = true) : D.length ≤ 32 ∧ s.cells.length = D.length ∧ s.inp.length ≤ 4096 ∧ s.out.length ≤ 4096 ∧ (∀ d ∈ D, validD d = true) ∧ (∀ p ∈ D.zip s.cells, fitD p.1 p.2.length = true) := by
  unfold fitsB validB fitAll at h
  simp only [Bool.and_eq_true, decide_eq_true_eq] at h
  obtain ⟨⟨⟨⟨⟨h1, h2⟩, h3⟩, h4⟩, h5⟩, h6⟩ := h
  exact ⟨h1, h3, h4, h5, List.all_eq_true.1 h2, List.all_eq_true.1 h6⟩
theorem fit_len {d : Decl} {n : Nat} (hv : validD d = true) (h : fitD d n = true) : n ≤ 1000 := by
  obtain ⟨nm, kd, ln⟩ := d
  simp [validD] at hv
  unfold fitD fixedZ at h
  simp only at h
  split at h
  · simpa using h
  · split at h
    · have : (n : Int) = 1 := by simpa using h
      omega
    · have : (n : Int) = ln := by simpa using h
      omega
theorem encRows_take {D : List Decl} {L : List (List Int)} {k : Nat} {p : Decl × List Int} (h : (D.zip L)[k]? = some p) : ((D.zip L).take (k + 1)).flatMap encOne = ((D.zip L).take k).flatMap encOne ++ encOne p := by
  have hk : k < (D.zip L).length := by
    rcases Nat.lt_or_ge k (D.zip L).length with hh | hh
    · exact hh
    · rw [List.getElem?_eq_none hh] at h; cases h
  have e : (D.zip L)[k] = p := by rw [List.getElem?_eq_getElem hk] at h; exact Option.some.inj h
  rw [List.take_succ_eq_append_getElem hk, e, List.flatMap_append]
  simp

end Go.Proofs.Ytklbaocgjegdfaa
