/- All in plain words: what it hands over, in its order. -/
import Derived.Test.YtklbaocgjegdfaaEnW1
namespace Go.Proofs.Ytklbaocgjegdfaa
open Go.RowKit

structure Bd where
  lo : Int
  hi : Int
deriving DecidableEq

/-- the weights that the lists can have -/
def rwP (h : Int) : List Bd → Bd
  | [] => ⟨0, 0⟩
  | b :: l => ⟨(rwP h l).lo + b.lo, (rwP h l).hi + b.hi * h⟩
/-- the next m numbers of a list; what weight is left then -/
def numsP (h : Int) (R : Bd) : Nat → Int → List (List Int × Int)
  | 0, left => [([], left)]
  | m + 1, left =>
    let least := max 0 (left - 1 - m * h - R.hi)
    let most := min (h - 1) (left - 1 - m - R.lo)
    (List.range (most - least + 1).toNat).flatMap fun (i : Nat) => (numsP h R m (left - 1 - least - i)).map fun x => (unrankP (least + i) :: x.1, x.2)
/-- the lists of one weight -/
def listsP (h : Int) : List Bd → Int → List (List (List Int))
  | [], _ => [[]]
  | b :: l, left =>
    let least := max b.lo ((left - (rwP h l).hi + h - 1).tdiv h)
    let most := min b.hi (left - (rwP h l).lo)
    (List.range (most - least + 1).toNat).flatMap fun (i : Nat) => (numsP h (rwP h l) (least + i).toNat left).flatMap fun x => (listsP h l x.2).map (x.1 :: ·)
def allP (h : Int) (l : List Bd) : List (List (List Int)) :=
  (List.range ((rwP h l).hi - (rwP h l).lo + 1).toNat).flatMap fun (i : Nat) => listsP h l ((rwP h l).lo + i)
/-- the state that the lists are -/
def mkSt (xs : List (List Int)) : St := ⟨xs.dropLast, xs.getLastD [], []⟩

theorem all_awake : allP 3 [⟨1, 1⟩, ⟨0, 0⟩] = [[[0], []], [[1], []], [[-1], []]] := by decide +kernel

theorem numsP_len {h : Int} {R : Bd} : ∀ {m : Nat} {left : Int} {x : List Int × Int}, x ∈ numsP h R m left → x.1.length = m := by
  intro m
  induction m with
  | zero => intro left x hx; simp only [numsP, List.mem_singleton] at hx; rw [hx]; rfl
  | succ m ih =>
    intro left x hx
    simp only [numsP, List.mem_flatMap, List.mem_map] at hx
    obtain ⟨i, _, y, hy, rfl⟩ := hx
    simp only [List.length_cons, ih hy]
theorem listsP_len {h : Int} : ∀ {l : List Bd} {left : Int} {x : List (List Int)}, x ∈ listsP h l left → x.length = l.length := by
  intro l
  induction l with
  | nil => intro left x hx; simp only [listsP, List.mem_singleton] at hx; rw [hx]; rfl
  | cons b l ih =>
    intro left x hx
    simp only [listsP, List.mem_flatMap, List.mem_map] at hx
    obtain ⟨i, _, y, _, z, hz, rfl⟩ := hx
    simp only [List.length_cons, ih hz]
end Go.Proofs.Ytklbaocgjegdfaa
