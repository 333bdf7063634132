/- A range over an iterator that keeps cells of its own: the iterator's word; the caller's law. -/
import Derived.RangeFuncBox
import Derived.RangeFuncNested
import Derived.RangeFuncBound
import Derived.RangeFuncCalls
import Derived.RangeFuncLeaves
import Derived.Shelf.Abstract
import Derived.Shelf.RegionOpen
import Derived.OwnWalkIn
import Derived.TacticsInMore
import Derived.LoopNIn
import Derived.LoopIn
import Derived.Test.YtklbaocgjegdfaaStC1
namespace Go.Proofs.Ytklbaocgjegdfaa
open Go.RowKit Go.Shelf

/-- everything but the blocks of S stands -/
structure Touch (S : Nat → Prop) (w w' : World) : Prop where
  os : w'.os = w.os
  tape : w'.tape = w.tape
  output : w'.output = w.output
  size : w.heap.size ≤ w'.heap.size
  block : ∀ j, j < w.heap.size → ¬ S j → w'.heap[j]? = w.heap[j]?

theorem Touch.refl (S : Nat → Prop) (w : World) : Touch S w w := ⟨rfl, rfl, rfl, Nat.le_refl _, fun _ _ _ => rfl⟩
theorem Touch.trans {S T : Nat → Prop} {a b c : World} (h : Touch S a b) (h2 : Touch T b c) (hT : ∀ j, j < a.heap.size → T j → S j) : Touch S a c :=
  ⟨h2.os.trans h.os, h2.tape.trans h.tape, h2.output.trans h.output, Nat.le_trans h.size h2.size, fun j hj hn => (h2.block j (Nat.lt_of_lt_of_le hj h.size) (fun t => hn (hT j hj t))).trans (h.block j hj hn)⟩
theorem Touch.of_below {S : Nat → Prop} {a b : World} (h : Below a.heap.size a b) : Touch S a b := ⟨h.os, h.tape, h.output, h.size, fun j hj _ => h.block j hj⟩
theorem Touch.of_set (a : World) (g i : Nat) (u : Value) : Touch (fun j => j = g) a (a.setCell ⟨g, i, none⟩ u) :=
  ⟨rfl, rfl, rfl, by simp [World.setCell], fun j _ hn => Below.heap_setCell a ⟨g, i, none⟩ u j (fun e => hn e)⟩
theorem Touch.mono {S T : Nat → Prop} {a b : World} (h : Touch S a b) (hT : ∀ j, S j → T j) : Touch T a b := ⟨h.os, h.tape, h.output, h.size, fun j hj hn => h.block j hj (fun hs => hn (hT j hs))⟩

/-- what the iterator's owner may do to its own blocks, and to new ones -/
def Grows (O O' : Nat → Prop) (A B : World) : Prop := Touch O A B ∧ ∀ b, O' b → O b ∨ A.heap.size ≤ b ∧ b < B.heap.size
def Bides {σ : Type} (J : List σ → (Nat → Prop) → World → Prop) : Prop := ∀ pre O O' A B, J pre O A → Grows O O' A B → J pre O' B
/-- a round leaves the iterator's blocks alone -/
def Leaves (O : Nat → Prop) (A B : World) : Prop := A.heap.size ≤ B.heap.size ∧ ∀ b, O b → B.heap[b]? = A.heap[b]?
theorem Leaves.refl (O : Nat → Prop) (A : World) : Leaves O A A := ⟨Nat.le_refl _, fun _ _ => rfl⟩
theorem Leaves.trans {O : Nat → Prop} {A B C : World} (h : Leaves O A B) (k : Leaves O B C) : Leaves O A C := ⟨Nat.le_trans h.1 k.1, fun b hb => (k.2 b hb).trans (h.2 b hb)⟩
theorem Leaves.putObj {O : Nat → Prop} {A : World} {l : Nat} {o' : Obj} (hl : ¬ O l) : Leaves O A (A.putObj l o') :=
  ⟨(grownBy_putObj' A l o').size, fun _ hb => World.putObj_heap_other (fun e => hl (e ▸ hb))⟩

/-- THE ITERATOR's WORD: it hands over all of L, one after the other, each as a value v with 'Arg v x'; or it stops where a round has said so -/
def SeqMem {σ : Type} (F : Fence) (n : Nat) (P : Program) (g : Nat) (lb : Array Value) (Arg : Value → σ → (Nat → Prop) → World → World → Prop) (L : List σ) (O0 : Nat → Prop) (w : World) : Prop :=
  ∀ (l : Nat) (J : List σ → (Nat → Prop) → World → Prop) (Jx : List σ → World → Prop) (W : World), Below w.heap.size w W → Bides J →
    (∀ pre v x O A W1, J pre O A → Below A.heap.size A W1 → Arg v x O A W1 → L[pre.length]? = some x → YieldAt F (n - 1) P l #[v] W1 fun e W' =>
      (e = .returned (.bool true) ∧ J (pre ++ [x]) O W' ∧ Leaves O W1 W') ∨ (e = .returned (.bool false) ∧ Jx (pre ++ [x]) W')) →
    J [] O0 W →
    CallsIn F n P g (#[.func (.yield l) #[] #[]] ++ lb) W fun e W' => (∃ v, e = .returned v) ∧ ((∃ O, J L O W') ∨ (∃ k, Jx (L.take (k + 1)) W'))

/-- how a round's body may be left -/
def memPost {σ : Type} (B : Nat) (I : List σ → (Nat → Prop) → World → Prop) (Ix : Code → List σ → World → Prop) (O : Nat → Prop) (xs : List σ) (W : World) : Exit → Act → World → Prop
  | .normal, _, W' => KeepsFrom B W W' ∧ Leaves O W W' ∧ I xs O W'
  | .ret, _, W' => KeepsFrom B W W' ∧ Ix .ret xs W'
  | .exit id, _, W' => KeepsFrom B W W' ∧ Ix (.exit id) xs W'
  | .goto t, _, W' => KeepsFrom B W W' ∧ Ix (.goto t) xs W'
  | .panic _, _, _ => False
  | .outgrown, _, _ => False

theorem room_of_none {F : Fence} (hd : F.depth = none) (k : Nat) : F.room k := fun d h => by rw [hd] at h; cases h
/-- where no depth is asked the figures are all one -/
theorem roundIn_depth {F : Fence} (hd : F.depth = none) {m m' : Nat} {P : Program} {l : Nat} {f : FuncId} {tmps : Array Value} {assign body : Code} {w : World} {R : Ending → World → Prop}
    (h : RoundIn F m P l f tmps assign body w R) : RoundIn F m' P l f tmps assign body w R := ⟨h.1, fun c cs _ => h.2 c cs (room_of_none hd _)⟩
theorem yieldAt_depth {F : Fence} (hd : F.depth = none) {m : Nat} (m' : Nat) {P : Program} {l : Nat} {args : Array Value} {W : World} {R : Ending → World → Prop} (h : YieldAt F m P l args W R) : YieldAt F m' P l args W R := by
  obtain ⟨fn, tmps, assign, body, hy, hR⟩ := h
  exact ⟨fn, tmps, assign, body, hy, roundIn_depth hd hR⟩

variable {F : Fence} {n : Nat} {P : Program}

theorem range_mem {σ : Type} {g : Operand} {p : Tmp} {assign body : Code} {Q : Exit → Act → World → Prop} {a : Act} {w : World}
    (hro : F.round = none) (h1 : 1 ≤ n) {gf : Nat} {lb : Array Value} (hg : a.eval g = .func (.func gf) #[] lb) (hFg : F.fn gf) (eg : ∀ args w, (callFunc gf args).run P w = .ok (.enter gf args) w)
    {Arg : Value → σ → (Nat → Prop) → World → World → Prop} {L : List σ} {O0 : Nat → Prop} {w0 : World} (hseq : SeqMem F (n - 1) P gf lb Arg L O0 w0) (hb0 : Below w0.heap.size w0 w) (hO0 : ∀ b, O0 b → b < w.heap.size)
    (I : List σ → (Nat → Prop) → World → Prop) (Ix : Code → List σ → World → Prop) (hI : ∀ O, OwnFrom w.heap.size (fun s W => I s O W)) (hIx : ∀ c, OwnFrom w.heap.size (Ix c)) (hB : Bides I)
    (h0 : I [] O0 w)
    (Ax : Value → σ → (Nat → Prop) → Act → World → Prop) (hAx : ∀ v x O a', OwnFrom w.heap.size (fun (_ : Unit) W => Ax v x O a' W))
    (hassign : ∀ (l : Nat) (pre : List σ) (v : Value) (x : σ) (O : Nat → Prop) (A W : World) (K : Act → World → Prop), I pre O A → Below A.heap.size A W → Arg v x O A W → I pre O W → (∀ a' W', KeepsFrom w.heap.size W W' → Leaves O W W' → I pre O W' → Ax v x O a' W' → K a' W') →
      assign.wpIn (F.inRound l) (n - 1 - 1) P (Exit.then K (fun _ _ _ => False)) { tmps := ((#[p] : Array Tmp).zip #[v]).foldl (fun t (p, v) => t.setIfInBounds p v) a.tmps, defers := [] } W)
    (hbody : ∀ (l : Nat) (pre : List σ) (v : Value) (x : σ) (O : Nat → Prop) (a' : Act) (W : World), w.heap.size ≤ l → (∃ r, W.heap[l]? = some (.loop r)) → I pre O W → Ax v x O a' W → L[pre.length]? = some x → body.wpIn (F.inRound l) (n - 1 - 1) P (memPost w.heap.size I Ix O (pre ++ [x]) W) a' W)
    (hdone : ∀ (D : Nat) (O : Nat → Prop) (W : World), w.heap.size ≤ D → I L O W → W.heap[D]? = some (.deferred (some [])) → Q .normal { a with defers := { target := .collected D, args := #[] } :: a.defers } W)
    (hstop : ∀ (D : Nat) (c : Code) (k : Nat) (W : World), w.heap.size ≤ D → Ix c (L.take (k + 1)) W → W.heap[D]? = some (.deferred (some [])) → c.wpIn F n P Q { a with defers := { target := .collected D, args := #[] } :: a.defers } W) :
    (Code.rangeFunc g #[p] assign body).wpIn F n P Q a w := by
  refine wpIn_rangeFunc ?_
  intro fn hfn
  rw [hro]
  obtain ⟨rec, hrec⟩ : ∃ rec : LoopState → Option Code → Loop, rec = fun st pe => { state := st, pending := pe, fn, tmps := a.tmps, params := #[p], assign, body, defers := w.heap.size } := ⟨_, rfl⟩
  obtain ⟨W1, hW1⟩ : ∃ W1, (w.alloc (.deferred (some []))).alloc (.loop (rec .ready none)) = W1 := ⟨_, rfl⟩
  have hL1 : W1.heap[w.heap.size + 1]? = some (.loop (rec .ready none)) := by
    rw [← hW1]
    have := World.alloc_heap_new (w.alloc (.deferred (some []))) (.loop (rec .ready none))
    rwa [World.size_alloc] at this
  have hK1 : W1.heap[w.heap.size]? = some (.deferred (some [])) := by
    rw [← hW1]
    exact (Below.heap_alloc _ _ _ (by simp)).trans (World.alloc_heap_new w _)
  have hI1 : I [] O0 W1 := by rw [← hW1]; exact (hI O0).alloc _ ((hI O0).alloc _ h0)
  have hs1 : Below w0.heap.size w0 W1 := by
    rw [← hW1]
    exact hb0.trans ((((Below.refl _ w).alloc (Nat.le_refl _) _).alloc (by simp) _).mono hb0.size)
  refine ⟨w.heap.size + 1, [{ target := .collected w.heap.size, args := #[] }], W1, { target := .fn (.func gf) lb, args := #[.func (.yield (w.heap.size + 1)) #[] #[]] }, W1, gf,
    #[.func (.yield (w.heap.size + 1)) #[] #[]] ++ lb, W1, ?_, ?_, ?_, ?_, fun _ => h1, ?_⟩
  · rw [← hW1, hrec]; exact run_enterLoop_outer _ _ _ _ _
  · simp only [resolve, hg]
    simp [go_sem]
  · intro f' hf'; simp [Target.leads] at hf'; subst hf'; exact hFg
  · simp [invoke, go_sem, eg]
  · obtain ⟨J, hJ⟩ : ∃ J : List σ → (Nat → Prop) → World → Prop, J = fun pre O W => I pre O W ∧ W.heap[w.heap.size + 1]? = some (.loop (rec .ready none)) ∧ W.heap[w.heap.size]? = some (.deferred (some [])) ∧ ¬ O (w.heap.size + 1) ∧ ¬ O w.heap.size := ⟨_, rfl⟩
    have hBJ : Bides J := by
      rw [hJ]
      rintro pre O O' A B ⟨hi, hl, hk, hn1, hn2⟩ hgr
      have hlA : w.heap.size + 1 < A.heap.size := (Array.getElem?_eq_some_iff.1 hl).1
      refine ⟨hB _ _ _ _ _ hi hgr, (hgr.1.block _ hlA hn1).trans hl, (hgr.1.block _ (by omega) hn2).trans hk, fun h => ?_, fun h => ?_⟩
      · rcases hgr.2 _ h with h | h
        · exact hn1 h
        · omega
      · rcases hgr.2 _ h with h | h
        · exact hn2 h
        · omega
    refine (hseq (w.heap.size + 1) J
      (fun pre W => ∃ c, Ix c pre W ∧ W.heap[w.heap.size + 1]? = some (.loop (rec .done (some c))) ∧ W.heap[w.heap.size]? = some (.deferred (some [])))
      W1 hs1 hBJ ?_ (by rw [hJ]; exact ⟨hI1, hL1, hK1, fun h => by have := hO0 _ h; omega, fun h => by have := hO0 _ h; omega⟩)).mono ?_
    · intro pre v x O A W hJA hbA harg hlen
      have hJW := hBJ pre O O A W hJA ⟨Touch.of_below hbA, fun _ hb => .inl hb⟩
      rw [hJ] at hJA hJW ⊢
      have hiA := hJA.1
      obtain ⟨hi, hl, hk, hn1, hn2⟩ := hJW
      clear hJA
      have hy := run_yield (P := P) (args := #[v]) hl (by rw [hrec]; rfl)
      rw [hrec] at hy
      refine ⟨fn, _, assign, body, hy, roundIn_of_wpIn hfn (hassign _ pre v x O A W _ hiA hbA harg hi ?_)⟩
      clear hy
      intro a' Wa hkf hlv hia hax
      have hl2 := hkf.same _ _ (by omega) hl rfl
      have hk2 := hkf.same _ _ (Nat.le_refl _) hk rfl
      have hlt : w.heap.size + 1 < Wa.heap.size := (Array.getElem?_eq_some_iff.1 hl2).1
      refine ⟨_, run_beginRound hl2 (by rw [hrec]), ?_⟩
      have hl3 : (Wa.putObj (w.heap.size + 1) (.loop { rec .ready none with state := .busy })).heap[w.heap.size + 1]? = some (.loop { rec .ready none with state := .busy }) := World.putObj_heap_same hlt
      have hk3 : (Wa.putObj (w.heap.size + 1) (.loop { rec .ready none with state := .busy })).heap[w.heap.size]? = some (.deferred (some [])) := (World.putObj_heap_other (by omega)).trans hk2
      refine wpIn_mono (hbody _ pre v x O a' _ (by omega) ⟨_, hl3⟩ ((hI O).putObj _ hia (by omega) hl2 rfl) ((hAx v x O a').putObj (s := ()) _ hax (by omega) hl2 rfl) hlen) ?_
      have fin : ∀ (jump : Option Code) (W3 : World), KeepsFrom w.heap.size (Wa.putObj (w.heap.size + 1) (.loop { rec .ready none with state := .busy })) W3 →
          (Instr.endRound (w.heap.size + 1) jump).run P W3 = .ok (.bool jump.isNone) (W3.putObj (w.heap.size + 1) (.loop (rec (if jump.isNone then .ready else .done) jump))) ∧
          W3.heap[w.heap.size + 1]? = some (.loop { rec .ready none with state := .busy }) ∧
          (W3.putObj (w.heap.size + 1) (.loop (rec (if jump.isNone then .ready else .done) jump))).heap[w.heap.size + 1]? = some (.loop (rec (if jump.isNone then .ready else .done) jump)) ∧
          (W3.putObj (w.heap.size + 1) (.loop (rec (if jump.isNone then .ready else .done) jump))).heap[w.heap.size]? = some (.deferred (some [])) := fun jump W3 hkp => by
        have hl4 := hkp.same _ _ (by omega) hl3 rfl
        have := run_endRound (P := P) jump hl4
        rw [hrec] at this ⊢
        exact ⟨this, by rw [hrec] at hl4; exact hl4, World.putObj_heap_same (Array.getElem?_eq_some_iff.1 hl4).1, (World.putObj_heap_other (by omega)).trans (hkp.same _ _ (Nat.le_refl _) hk3 rfl)⟩
      rintro e a3 W3 hp
      cases e with
      | normal =>
        obtain ⟨hkp, hlp, hip⟩ := hp
        obtain ⟨hr, h3, h4, h5⟩ := fin none W3 hkp
        exact ⟨_, _, hr, .inl ⟨rfl, ⟨(hI O).putObj _ hip (by omega) h3 rfl, h4, h5, hn1, hn2⟩, hlv.trans ((Leaves.putObj hn1).trans (hlp.trans (Leaves.putObj hn1)))⟩⟩
      | ret =>
        obtain ⟨hkp, hip⟩ := hp
        obtain ⟨hr, h3, h4, h5⟩ := fin (some .ret) W3 hkp
        exact ⟨_, _, hr, .inr ⟨rfl, .ret, (hIx _).putObj _ hip (by omega) h3 rfl, h4, h5⟩⟩
      | exit id =>
        obtain ⟨hkp, hip⟩ := hp
        obtain ⟨hr, h3, h4, h5⟩ := fin (some (.exit id)) W3 hkp
        exact ⟨_, _, hr, .inr ⟨rfl, .exit id, (hIx _).putObj _ hip (by omega) h3 rfl, h4, h5⟩⟩
      | goto t =>
        obtain ⟨hkp, hip⟩ := hp
        obtain ⟨hr, h3, h4, h5⟩ := fin (some (.goto t)) W3 hkp
        exact ⟨_, _, hr, .inr ⟨rfl, .goto t, (hIx _).putObj _ hip (by omega) h3 rfl, h4, h5⟩⟩
      | panic ch => exact hp.elim
      | outgrown => exact hp.elim
    · rw [hJ]
      rintro e W2 ⟨⟨v, rfl⟩, (⟨O, hi, hl, hk, _, _⟩ | ⟨k, c, hi, hl, hk⟩)⟩
      · exact ⟨none, _, by have := run_endLoop (P := P) hl (by rw [hrec]; simp); rw [hrec] at this; exact this, hdone _ O _ (Nat.le_refl _) ((hI O).putObj _ hi (by omega) hl rfl) ((World.putObj_heap_other (by omega)).trans hk)⟩
      · exact ⟨some c, _, by have := run_endLoop (P := P) hl (by rw [hrec]; simp); rw [hrec] at this; exact this, hstop _ c k _ (Nat.le_refl _) ((hIx c).putObj _ hi (by omega) hl rfl) ((World.putObj_heap_other (by omega)).trans hk)⟩
end Go.Proofs.Ytklbaocgjegdfaa
