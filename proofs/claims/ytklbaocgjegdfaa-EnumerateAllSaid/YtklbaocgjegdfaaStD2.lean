/- Walks: components, elements. -/
import Derived.Test.YtklbaocgjegdfaaStD1
import Derived.Test.YtklbaocgjegdfaaStW5
namespace Go.Proofs.Ytklbaocgjegdfaa
open Go.RowKit Go.Lib Go.Sort

theorem intInfo : (Try.prog.info? 3).map (fun i => (i.zero, i.size, i.bytes)) = some (some (.int .i64 0), 1, 8) := by kernel_rfl

theorem own_form {w : World} {base : Nat} {e : TypeId} {size : Nat} {v : Value} {n : Nat} {xs : List Value} (h : w.ownsRow base e size v n xs) : ∃ a c, v = .slice a n c := by
  rcases h.2 with ⟨rfl, rfl⟩ | ⟨g, cap, cur, rfl, _⟩
  · exact ⟨_, _, rfl⟩
  · exact ⟨_, _, rfl⟩

theorem own_own_ne {w : World} {base base' : Nat} {e e' : TypeId} {size size' n n' : Nat} {v v' : Value} {xs xs' : List Value} (h : w.ownsRow base e size v n xs) (h' : w.ownsRow base' e' size' v' n' xs') (hne : e ≠ e') :
    v.ownBlock = none ∨ v.ownBlock ≠ v'.ownBlock := by
  rcases h.2 with ⟨rfl, _⟩ | ⟨g, cap, cur, rfl, _, hh, _⟩
  · exact .inl rfl
  · rcases h'.2 with ⟨rfl, _⟩ | ⟨g', cap', cur', rfl, _, hh', _⟩
    · exact .inr (by simp [Value.ownBlock])
    · refine .inr (fun he => hne ?_)
      have : g = g' := by simpa [Value.ownBlock] using he
      subst this
      rw [hh] at hh'
      injection hh' with h1
      injection h1

def compsL (n : Nat) : List Int := (List.range n).map (fun i : Nat => (i : Int))
def comps (n : Nat) : List Int := compsL n ++ [-1, -2]

theorem compsL_take {n k : Nat} (h : k < n) : (compsL n).take (k + 1) = (compsL n).take k ++ [(k : Int)] := by
  rw [List.take_add_one]
  congr 1
  simp [compsL, h]

end Go.Proofs.Ytklbaocgjegdfaa
