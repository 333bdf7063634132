/- The walk of Apply: its words. -/
import Derived.Test.YtpbbiidfahaamaaStV5
import Derived.Test.YtpbbiidfahaamaaStN1
namespace Go.Proofs.Ytpbbiidfahaamaa
open Go.RowKit

theorem wpList_put_seq {w : World} {ops : Array Oper} {rest : List Oper} {o : Oper} {a : Act} {Q : Exit → Act → World → Prop} (hgd : o.guard = none) (mo x v : Operand) (hop : o.op = Op.mapUpdate 76 mo x v)
    (bm m : Nat) (g : Int → Option Nat) (hm : a.eval mo = .map (some bm)) (h : MapAt w bm m g) (hmm : m < 1000000) (c : Int) (hc : I64 c) (hx : a.eval x = .int .i64 c) (b : Nat) (hv : a.eval v = .pointer (some ⟨b, 0, none⟩))
    (hK : ∀ w', MapAt w' bm (m + 1) (fun y => if y = c then some b else g y) → Touch (fun j => j = bm) w w' → wpList Try.prog ops Q rest (a.put o.dst undef) w') : wpList Try.prog ops Q (o :: rest) a w := by
  refine wpList_plain hgd fun K' hK' => ?_
  obtain ⟨w', hrun, r1, r2⟩ := h.put c hc b hmm
  unfold Oper.wp
  simp [execOp, hop, hm, hx, hv, hrun, Result.andThen]
  exact hK' _ _ (hK w' r1 r2)

theorem wpList_look_seq {w : World} {ops : Array Oper} {rest : List Oper} {o : Oper} {a : Act} {Q : Exit → Act → World → Prop} (hgd : o.guard = none) (mo x : Operand) (ok : Bool) (hop : o.op = Op.lookup 76 mo x ok)
    (bm m : Nat) (g : Int → Option Nat) (hm : a.eval mo = .map (some bm)) (h : MapAt w bm m g) (c : Int) (hc : I64 c) (hx : a.eval x = .int .i64 c) (u : Value)
    (hu : (g c = none ∧ u = if ok then .tuple #[.pointer none, .bool false] else .pointer none) ∨ ∃ b, g c = some b ∧ u = if ok then .tuple #[.pointer (some ⟨b, 0, none⟩), .bool true] else .pointer (some ⟨b, 0, none⟩))
    (hK : wpList Try.prog ops Q rest (a.put o.dst u) w) : wpList Try.prog ops Q (o :: rest) a w := by
  refine wpList_plain hgd fun K' hK' => ?_
  have hrun : (Instr.lookup 76 (.map (some bm)) (.int .i64 c) ok).run Try.prog w = .ok u w := by
    rcases h.look ok c hc with ⟨h1, h2⟩ | ⟨b, h1, h2⟩
    · rcases hu with ⟨_, rfl⟩ | ⟨b, h3, _⟩
      · exact h2
      · rw [h1] at h3; cases h3
    · rcases hu with ⟨h3, _⟩ | ⟨b', h3, rfl⟩
      · rw [h1] at h3; cases h3
      · rw [h1] at h3
        injection h3 with h3
        subst h3
        exact h2
  unfold Oper.wp
  simp [execOp, hop, hm, hx, hrun, Result.andThen]
  exact hK' _ _ hK

def gOf (L : List Int) (bs : Int → Nat) : Int → Option Nat := fun x => if x ∈ L then some (bs x) else none

theorem comps_nodup (n : Nat) : (comps n).Nodup := by
  unfold comps compsL
  rw [List.nodup_append]
  refine ⟨?_, by decide, ?_⟩
  · rw [List.Nodup, List.pairwise_map]
    exact List.Pairwise.imp (fun h e => h (by omega)) List.nodup_range
  · intro a ha b hb
    rw [List.mem_map] at ha
    obtain ⟨i, _, rfl⟩ := ha
    simp only [List.mem_cons, List.not_mem_nil, or_false] at hb
    omega

theorem take_mem {α : Type} {L : List α} {k : Nat} {c : α} (h : L[k]? = some c) (x : α) : x ∈ L.take (k + 1) ↔ x = c ∨ x ∈ L.take k := by
  rw [List.take_add_one, h, List.mem_append]
  simp [or_comm]
theorem take_not_mem {α : Type} {L : List α} (hn : L.Nodup) {k : Nat} {c : α} (h : L[k]? = some c) : c ∉ L.take k := by
  intro hm
  obtain ⟨i, hi, he⟩ := List.mem_iff_getElem.1 hm
  rw [List.length_take] at hi
  rw [List.getElem_take] at he
  have hk : k < L.length := (List.getElem?_eq_some_iff.1 h).1
  have h2 : L[k] = c := (List.getElem?_eq_some_iff.1 h).2
  exact List.pairwise_iff_getElem.1 hn i k (by omega) hk (by omega) (he.trans h2.symm)

theorem gOf_take {L : List Int} {k : Nat} {c : Int} (h : L[k]? = some c) (bs : Int → Nat) (b : Nat) :
    (fun y => if y = c then some b else gOf (L.take k) bs y) = gOf (L.take (k + 1)) (updN bs c b) := by
  funext y
  unfold gOf updN
  by_cases e : y = c
  · subst e
    rw [if_pos rfl, if_pos ((take_mem h y).2 (.inl rfl)), if_pos rfl]
  · rw [if_neg e, if_neg e]
    by_cases hm : y ∈ L.take k
    · rw [if_pos hm, if_pos ((take_mem h y).2 (.inr hm))]
    · rw [if_neg hm, if_neg (fun hh => ((take_mem h y).1 hh).elim e hm)]

theorem dm_take {L : List Int} {k : Nat} {c : Int} (h : L[k]? = some c) : (fun x => x = c ∨ x ∈ L.take k) = (fun x => x ∈ L.take (k + 1)) := by
  funext x
  exact propext (take_mem h x).symm

theorem MapAt.below {w w' : World} {bm m B : Nat} {g : Int → Option Nat} (h : MapAt w bm m g) (hb : Below B w w') (hB : bm < B) : MapAt w' bm m g :=
  h.touch (S := fun j => B ≤ j) ⟨hb.os, hb.tape, hb.output, hb.size, fun j _ hn => hb.block j (by omega)⟩ (by omega)
theorem Blk.below {w w' : World} {g B : Nat} {t : TypeId} {cs : Array Value} (h : Blk w g t cs) (hb : Below B w w') (hB : g < B) : Blk w' g t cs := (hb.block g hB).trans h
theorem Touch.low {S : Nat → Prop} {a b : World} (h : Touch S a b) {B : Nat} (hS : ∀ j, S j → B ≤ j) (hB : B ≤ a.heap.size) : Below B a b :=
  ⟨h.os, h.tape, h.output, h.size, fun j hj => h.block j (by omega) (fun hs => by have := hS j hs; omega)⟩
end Go.Proofs.Ytpbbiidfahaamaa
