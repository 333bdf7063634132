/- A map from components to sequences, and its plain words. -/
import Derived.Test.YtpbbiidfahaamaaStV3
import Derived.Maps.Own
import Derived.Maps.OwnOps
import Derived.Maps.Views
namespace Go.Proofs.Ytpbbiidfahaamaa
open Go.RowKit

abbrev DB := DataW Unit
/-- how a pointer reads: as its block's number -/
def ptrR : Value → Option (DB × List MemPlace)
  | .pointer (some ⟨b, 0, none⟩) => some (.lit (.int .i64 b), [])
  | .pointer none => some (.lit (.int .i64 (-1)), [])
  | _ => none

theorem keyedInt : Maps.Keyed Try.prog 3 := Maps.int_keyed Try.underlying3
theorem zeroP (w : World) : (zeroValue 77).run Try.prog w = .ok (.pointer none) w := by kernel_rfl

/-- block bm is a map that leads from the keys of g to the blocks of g -/
def MapAt (w : World) (bm m : Nat) (g : Int → Option Nat) : Prop :=
  ∃ D : DB, w.ownsMap Try.prog 3 ptrR bm m D ∧ Maps.IsMap D ∧ ∀ (x : Int) (z : DB), D.atKey (.int .i64 x) z = match g x with | some b => .lit (.int .i64 b) | none => z

theorem MapAt.made (w : World) : MapAt (w.alloc (.map #[] 0)) w.heap.size 0 (fun _ => none) :=
  ⟨.map [], World.ownsMap_made w _ _ _, Maps.isMap_empty, fun x z => by simp [DataW.atKey]⟩
theorem MapAt.lt {w : World} {bm m : Nat} {g : Int → Option Nat} (h : MapAt w bm m g) : bm < w.heap.size := by
  obtain ⟨D, h1, _⟩ := h
  exact h1.lt
theorem MapAt.touch {S : Nat → Prop} {w w' : World} {bm m : Nat} {g : Int → Option Nat} (h : MapAt w bm m g) (ht : Touch S w w') (hn : ¬ S bm) : MapAt w' bm m g := by
  obtain ⟨D, ⟨es, clock, hb, F, hs, hD⟩, h2, h3⟩ := h
  exact ⟨D, ⟨es, clock, (ht.block bm (Array.getElem?_eq_some_iff.1 hb).1 hn).trans hb, F, hs, hD⟩, h2, h3⟩
theorem MapAt.ne_blk {w : World} {bm m b : Nat} {t : TypeId} {cs : Array Value} {g : Int → Option Nat} (h : MapAt w bm m g) (hb : Blk w b t cs) : bm ≠ b := by
  rintro rfl
  obtain ⟨D, ⟨es, clock, hh, _⟩, _⟩ := h
  unfold Blk at hb
  rw [hh] at hb
  injection hb with hb
  cases hb
theorem MapAt.ne_own {w : World} {bm m : Nat} {g : Int → Option Nat} (h : MapAt w bm m g) {B : Nat} {e : TypeId} {size n : Nat} {v : Value} {xs : List Value} (ho : w.ownsRow B e size v n xs) : v.ownBlock ≠ some bm := by
  intro he
  rcases ho.2 with ⟨rfl, _⟩ | ⟨g', cap, cur, rfl, _, hh, _⟩
  · cases he
  · obtain ⟨D, ⟨es, clock, hh', _⟩, _⟩ := h
    have : g' = bm := by simpa [Value.ownBlock] using he
    subst this
    rw [hh'] at hh
    injection hh with hh
    cases hh

theorem MapAt.look {w : World} {bm m : Nat} {g : Int → Option Nat} (h : MapAt w bm m g) (c : Bool) (x : Int) (hx : I64 x) :
    (g x = none ∧ (Instr.lookup 76 (.map (some bm)) (.int .i64 x) c).run Try.prog w = .ok (if c then .tuple #[.pointer none, .bool false] else .pointer none) w) ∨
    ∃ b, g x = some b ∧ (Instr.lookup 76 (.map (some bm)) (.int .i64 x) c).run Try.prog w = .ok (if c then .tuple #[.pointer (some ⟨b, 0, none⟩), .bool true] else .pointer (some ⟨b, 0, none⟩)) w := by
  obtain ⟨D, ⟨es, clock, hb, F, _, rfl⟩, _, hat⟩ := h
  have hkey : keyOf Try.prog 3 (.int .i64 x) = some (.int .i64 x) := Maps.keyOf_int_mk Try.underlying3 (by
    unfold I64 at hx
    simpa [Lit.wf, IntKind.min, IntKind.max, IntKind.signed, IntKind.bits] using hx)
  rcases Maps.fit_look c keyedInt Try.underlying76 (zeroP w) hb F hkey with ⟨hrun, _, hz⟩ | ⟨e0, y, _, _, hrun, hR, hz, _⟩
  · left
    refine ⟨?_, hrun⟩
    have h1 := hat x (.lit (.bool true))
    rw [hz] at h1
    cases hg : g x with
    | none => rfl
    | some b => rw [hg] at h1; simp at h1
  · right
    have h1 := hat x (.lit (.bool true))
    have h2 := hat x (.lit (.bool false))
    rw [hz] at h1 h2
    cases hg : g x with
    | none =>
      rw [hg] at h1 h2
      simp only at h1 h2
      rw [h1] at h2
      simp at h2
    | some b =>
      rw [hg] at h1
      simp only at h1
      refine ⟨b, rfl, ?_⟩
      have hv : e0.val = .pointer (some ⟨b, 0, none⟩) := by
        generalize e0.val = u at *
        obtain ⟨d, ps⟩ := y
        simp only at h1
        subst h1
        unfold ptrR at hR
        split at hR
        · simp at hR
          simp
        · simp at hR
        · cases hR
      rw [hrun, hv]

theorem MapAt.put {w : World} {bm m : Nat} {g : Int → Option Nat} (h : MapAt w bm m g) (x : Int) (hx : I64 x) (b : Nat) (hm : m < 1000000) :
    ∃ w', (Instr.mapUpdate 76 (.map (some bm)) (.int .i64 x) (.pointer (some ⟨b, 0, none⟩))).run Try.prog w = .ok () w' ∧ MapAt w' bm (m + 1) (fun y => if y = x then some b else g y) ∧ Touch (fun j => j = bm) w w' := by
  obtain ⟨D, hown, hD, hat⟩ := h
  have hkey : keyOf Try.prog 3 (.int .i64 x) = some (.int .i64 x) := Maps.keyOf_int_mk Try.underlying3 (by
    unfold I64 at hx
    simpa [Lit.wf, IntKind.min, IntKind.max, IntKind.signed, IntKind.bits] using hx)
  obtain ⟨w', hrun, r1, r2⟩ := hown.update keyedInt Try.underlying76 (by unfold maxLen; omega) hkey (show ptrR (.pointer (some ⟨b, 0, none⟩)) = some (.lit (.int .i64 b), []) from rfl)
  refine ⟨w', hrun, ⟨_, r1, hD.put _ _, fun y z => ?_⟩, ⟨r2.os, r2.tape, r2.output, r2.size, fun j hj hn => r2.block j hj (fun e => hn (by simpa using e))⟩⟩
  by_cases e : y = x
  · subst e
    rw [Maps.atKey_put_same hD (k := .int .i64 y) trivial]
    simp
  · rw [Maps.atKey_put_other (by simpa using e), hat]
    simp [e]

end Go.Proofs.Ytpbbiidfahaamaa
