/- A region that draws its order and makes memory, in a round's frame: walked as outside a round, loads first. -/
import Derived.Test.YtklbaocgjegdfaaEnRq
import Derived.Deep.RegionHeld3
namespace Go.Proofs.Ytklbaocgjegdfaa
open Go.RowKit Go.Shelf

/-- Q where the code goes on, and nothing else -/
def NormalOnly (Q : Exit → Act → World → Prop) : Exit → Act → World → Prop
  | .normal, a, w => Q .normal a w
  | _, _, _ => False
theorem normalOnly_out (Q : Exit → Act → World → Prop) : ¬ LetsOut (NormalOnly Q) := fun ⟨_, _, h⟩ => h

section
variable {P : Program} {l n : Nat}
theorem opIn_of_wp {o : Oper} {a : Act} {K K' : Act → World → Prop} {Q : Exit → Act → World → Prop} {w : World} (hd : plainOp o = true) (h : ∀ a w', K a w' → K' a w') (hh : o.wp P a w K (NormalOnly Q)) : o.wpIn (Fence.wide.inRound l) n P a w K' Q := by
  unfold Oper.wp at hh
  unfold Oper.wpIn
  refine ⟨fun _ _ => trivial, ?_⟩
  rw [show o.semAt (Fence.wide.inRound l).round a.eval = execOp a.eval o from Oper.semAt_some l _ _ (plainOp_ne hd)]
  generalize (execOp a.eval o).run P w = r at *
  cases r with
  | ok x w' =>
    cases x <;> simp only [Oper.upon] at hh <;> simp only [Oper.uponIn]
    case value u => exact h _ _ hh
    case skip => exact h _ _ hh
    case defer d => exact h _ _ hh
    case enter f args =>
      refine ⟨(fun hx => by cases hx), ?_⟩
      have hc' : Calls P f args w' fun e w'' => match e, w'' with
        | .returned v, w'' => K' (a.put o.dst v) w''
        | .panicked chain, w'' => Q (.panic chain) a w''
        | .outgrown, _ => LetsOut Q := hh.mono fun e w'' he => by
          cases e with
          | returned v => exact h _ _ he
          | panicked c => exact (he : False).elim
          | outgrown => exact (normalOnly_out Q he).elim
      exact CallsIn.inRound l (callsIn_wide.2 hc')
    case row r args =>
      exact ⟨(fun hx => by cases hx), fun c cs _ => by
        obtain ⟨v, w2, hk, hs⟩ := hh c cs
        exact ⟨v, w2, h _ _ hk, stepsIn_wide.2 hs⟩⟩
  | halt x w' => cases x <;> simp only [Oper.upon, NormalOnly] at hh
theorem opIn_of_op {ops : Array Oper} (hd : ∀ (j : Nat) o, ops[j]? = some o → plainOp o = true) {i : Nat} {a : Act} {K K' : Act → World → Prop} {Q : Exit → Act → World → Prop} {w : World} (h : ∀ a w', K a w' → K' a w') (hh : wpOp P ops (NormalOnly Q) i K a w) : wpOpIn (Fence.wide.inRound l) n P ops Q i K' a w := by
  unfold wpOp at hh
  unfold wpOpIn
  split
  · rename_i ho; simp only [ho] at hh; exact h _ _ hh
  · rename_i o ho
    simp only [ho] at hh
    split
    · rename_i hw
      simp only [hw, if_true] at hh
      rcases hh with hh | ⟨-, hh⟩
      · exact opIn_of_wp (hd _ _ ho) h hh
      · exact (normalOnly_out Q hh).elim
    · rename_i hw; simp only [hw] at hh; exact ⟨fun _ _ => trivial, h _ _ hh⟩
theorem anyIn_of_held {ops : Array Oper} {md : Region.Mode} {S : World → Prop} (hd : ∀ (j : Nat) o, ops[j]? = some o → plainOp o = true) {Q : Exit → Act → World → Prop} : ∀ (fuel : Nat) (listed : Array Bool) (a : Act) (w : World),
    wpAnyH P md ops (NormalOnly Q) S fuel listed a w → wpAnyIn (Fence.wide.inRound l) n P md ops Q fuel listed a w
  | 0, _, _, _, h => h
  | fuel + 1, _, _, _, h => ⟨h.1, fun i hi => opIn_of_op hd (fun a' w' hw' => anyIn_of_held hd fuel _ a' w' hw'.2) (h.2 i hi)⟩
theorem round_held {id : Nat} {Q : Exit → Act → World → Prop} {a : Act} {w : World} {L : List Oper} (S : World → Prop) (hm : P.follows .mixedOrders = true) (hd : L.all plainOp = true) (hS : S w.drew)
    (h : S w.drew → wpAnyH P .any L.toArray (NormalOnly Q) S L.toArray.size (Array.replicate L.toArray.size false) a w.drew) : (Code.region id L.toArray true).wpIn (Fence.wide.inRound l) n P Q a w :=
  wpIn_region_any hm (anyIn_of_held (fun j o ho => List.all_eq_true.1 hd o (List.mem_of_getElem? (by simpa using ho))) _ _ _ _ (h hS))
end
end Go.Proofs.Ytklbaocgjegdfaa
