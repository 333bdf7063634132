/- The walk of 'number' (distribute$2). -/
import Derived.Test.YtklbaocgjegdfaaEnI
namespace Go.Proofs.Ytklbaocgjegdfaa
open Go.RowKit Go.Shelf

section
variable {l : Nat} {h : Int} {B : List Bd} {x : Fix} (J : List St → (Nat → Prop) → World → Prop) (Jx : List St → World → Prop) (L : List St)

def ListPost (l : Nat) (h : Int) (B : List Bd) (x : Fix) (c : Nat) (pre res : List St) (vs : Nat → Value) (P : Nat → List Int) (e : Ending) (W' : World) : Prop :=
  (e = .returned (.bool true) ∧ ∃ O' vs' P', J (pre ++ res) O' W' ∧ Inv l h B x O' W' c vs' P' ∧ ∀ j, j < c → vs' j = vs j ∧ P' j = P j) ∨ (e = .returned (.bool false) ∧ ∃ k, Jx (L.take (k + 1)) W')
def listRes (h : Int) (B : List Bd) (c : Nat) (P : Nat → List Int) (left : Int) : List St := (listsP h (B.drop c) left).map fun xs => mkSt ((List.range c).map P ++ xs)
def ListOK (l : Nat) (h : Int) (B : List Bd) (x : Fix) (c : Nat) : Prop :=
  ∀ (left : Int) (pre tail : List St) (W : World) (O : Nat → Prop) (vs : Nat → Value) (P : Nat → List Int), 0 ≤ left → left ≤ 1099511627776 → Inv l h B x O W c vs P → L = pre ++ listRes h B c P left ++ tail → J pre O W →
    Calls Try.prog 52 #[.int .i64 c, .int .i64 left, .pointer (some ⟨x.bs, 0, none⟩), .pointer (some ⟨x.by_, 0, none⟩), .pointer (some ⟨x.bl, 0, none⟩), .pointer (some ⟨x.br, 0, none⟩), .pointer (some ⟨x.bh, 0, none⟩), .pointer (some ⟨x.bn, 0, none⟩)] W
      (ListPost J Jx L l h B x c pre (listRes h B c P left) vs P)

def NumPost (l : Nat) (h : Int) (B : List Bd) (x : Fix) (c i : Nat) (pre res : List St) (vs : Nat → Value) (P : Nat → List Int) (e : Ending) (W' : World) : Prop :=
  (e = .returned (.bool true) ∧ ∃ O' vs' P', J (pre ++ res) O' W' ∧ Inv l h B x O' W' (c + 1) vs' P' ∧ (∀ j, j < c → vs' j = vs j ∧ P' j = P j) ∧ vs' c = vs c ∧ (P' c).length = (P c).length ∧ (P' c).take i = (P c).take i) ∨
  (e = .returned (.bool false) ∧ ∃ k, Jx (L.take (k + 1)) W')
/-- what comes of the numbers y behind the first i of list c -/
def numOne (h : Int) (B : List Bd) (c i : Nat) (P : Nat → List Int) (y : List Int × Int) : List St := (listsP h (B.drop (c + 1)) y.2).map fun xs => mkSt ((List.range c).map P ++ ((P c).take i ++ y.1) :: xs)
def numRes (h : Int) (B : List Bd) (c i m : Nat) (P : Nat → List Int) (left : Int) : List St := (numsP h (rwP h (B.drop (c + 1))) m left).flatMap (numOne h B c i P)

theorem numOne_congr {h : Int} {B : List Bd} {c i : Nat} {P P' : Nat → List Int} (hP : ∀ j, j < c → P' j = P j) (hc : (P' c).take i = (P c).take i) (y : List Int × Int) : numOne h B c i P' y = numOne h B c i P y := by
  unfold numOne
  rw [hc, List.map_congr_left (f := P') (g := P) (l := List.range c) (fun j hj => hP j (List.mem_range.1 hj))]
theorem numRes_zero {h : Int} {B : List Bd} {c i : Nat} {P : Nat → List Int} {left : Int} (hi : i = (P c).length) : numRes h B c i 0 P left = listRes h B (c + 1) P left := by
  unfold numRes numOne listRes
  simp only [numsP, List.flatMap_cons, List.flatMap_nil, List.append_nil]
  apply List.map_congr_left
  intro xs _
  rw [hi, List.take_length, List.range_succ, List.map_append]
  simp
/-- one choice of the next number -/
def numStep (h : Int) (B : List Bd) (c i m : Nat) (P : Nat → List Int) (left least : Int) (k : Nat) : List St :=
  (numsP h (rwP h (B.drop (c + 1))) m (left - 1 - least - k)).flatMap fun y => numOne h B c i P (unrankP (least + k) :: y.1, y.2)
theorem numRes_succ {h : Int} {B : List Bd} {c i m : Nat} {P : Nat → List Int} {left least most : Int} (hl : least = max 0 (left - 1 - m * h - (rwP h (B.drop (c + 1))).hi)) (hm : most = min (h - 1) (left - 1 - m - (rwP h (B.drop (c + 1))).lo)) :
    numRes h B c i (m + 1) P left = (List.range (most - least + 1).toNat).flatMap (numStep h B c i m P left least) := by
  unfold numRes numStep
  simp only [numsP]
  rw [← hl, ← hm, List.flatMap_assoc]
  congr 1
  funext k
  rw [List.flatMap_map]
/-- that choice is what 'number' gives when it is set -/
theorem numStep_set {h : Int} {B : List Bd} {c i m : Nat} {P P' : Nat → List Int} {left least : Int} {k : Nat} (hP : ∀ j, j < c → P' j = P j) (hc : (P' c).take i = (P c).take i) (hi : i < (P' c).length) {P2 : Nat → List Int}
    (h2 : P2 = fun j => if j = c then (P' c).set i (unrankP (least + k)) else P' j) : numRes h B c (i + 1) m P2 (left - 1 - least - k) = numStep h B c i m P left least k := by
  unfold numRes numStep
  congr 1
  funext y
  unfold numOne
  congr 1
  funext xs
  have e1 : (List.range c).map P2 = (List.range c).map P := List.map_congr_left fun j hj => by
    have := List.mem_range.1 hj
    rw [h2]
    simp only
    rw [if_neg (by omega), hP j this]
  have e2 : (P2 c).take (i + 1) = (P c).take i ++ [unrankP (least + k)] := by
    rw [h2]
    simp only [if_pos]
    rw [← hc, List.take_add_one, List.getElem?_set_self (by simpa using hi), List.take_set_of_le (Nat.le_refl _)]
    rfl
  rw [e1, e2]
  simp
end
end Go.Proofs.Ytklbaocgjegdfaa
