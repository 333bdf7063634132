/- Apply in plain words; the sequences of all components in memory. -/
import Derived.Test.YtpbbiidfahaamaaStV4
namespace Go.Proofs.Ytpbbiidfahaamaa
open Go.RowKit

def seq0 (s : St) (c : Int) : Sq := ⟨((part s c).length : Nat), part s c⟩
def upd (F : Int → Sq) (c : Int) (q : Sq) : Int → Sq := fun x => if x = c then q else F x
def stepP (n : Nat) (F : Int → Sq) (c : Chg) : Nat × (Int → Sq) :=
  if c.cell ∈ comps n then ((chgP c (F c.cell)).1, upd F c.cell (chgP c (F c.cell)).2) else (2, F)
def runL (n : Nat) (F : Int → Sq) : List Chg → Nat × (Int → Sq)
  | [] => (0, F)
  | c :: r => if (stepP n F c).1 = 0 then runL n (stepP n F c).2 r else stepP n F c
def outC (F : Int → Sq) (c : Int) : List Int := (sqOut (F c)).getD []
def okC (F : Int → Sq) (c : Int) : Bool := (sqOut (F c)).isSome
def st0 : St := ⟨[], [], []⟩
def finP (n : Nat) (F : Int → Sq) : Nat × St :=
  if (comps n).all (okC F) = true then (0, ⟨(compsL n).map (outC F), (outC F (-1)).reverse, outC F (-2)⟩) else (20, st0)
def applyP (s : St) (C : List Chg) : Nat × St :=
  if (runL s.cells.length (seq0 s) C).1 = 0 then finP s.cells.length (runL s.cells.length (seq0 s) C).2 else ((runL s.cells.length (seq0 s) C).1, st0)

theorem runL_append (n : Nat) (F : Int → Sq) (A B : List Chg) : runL n F (A ++ B) = if (runL n F A).1 = 0 then runL n (runL n F A).2 B else runL n F A := by
  induction A generalizing F with
  | nil => simp [runL]
  | cons c A ih =>
    by_cases h : (stepP n F c).1 = 0
    · simp [runL, h, ih]
    · simp [runL, h]

theorem run_next {n : Nat} {F0 F : Int → Sq} {C : List Chg} {j : Nat} {x : Chg} (h : runL n F0 (C.take j) = (0, F)) (hx : C[j]? = some x) (h0 : (stepP n F x).1 = 0) : runL n F0 (C.take (j + 1)) = (0, (stepP n F x).2) := by
  rw [List.take_add_one, hx, runL_append, h]
  simp only [if_pos, Option.toList, runL, h0]
theorem run_fail {n : Nat} {F0 F : Int → Sq} {C : List Chg} {j : Nat} {x : Chg} (h : runL n F0 (C.take j) = (0, F)) (hx : C[j]? = some x) (h0 : (stepP n F x).1 ≠ 0) : (runL n F0 C).1 = (stepP n F x).1 := by
  have e : C = C.take j ++ (x :: C.drop (j + 1)) := by
    have hj : j < C.length := (List.getElem?_eq_some_iff.1 hx).1
    have h2 : C[j] = x := (List.getElem?_eq_some_iff.1 hx).2
    rw [← h2, List.getElem_cons_drop, List.take_append_drop]
  rw [e, runL_append, h]
  simp [runL, h0]

structure Good (q : Sq) : Prop where
  lo : 0 ≤ q.len
  hi : q.len ≤ 4096
  els : q.els.length ≤ 4096
  i64 : ∀ x ∈ q.els, I64 x

theorem pad_i64 {n : Nat} {l : List Int} (h : ∀ x ∈ l, I64 x) : ∀ x ∈ pad n l, I64 x := by
  intro x hx
  unfold pad at hx
  rcases List.mem_append.1 hx with h1 | h1
  · exact h x h1
  · rw [(List.mem_replicate.1 h1).2]; simp [I64]

theorem Good.chg {q : Sq} (h : Good q) {c : Chg} (hc : c.Fits) : Good (chgP c q).2 := by
  unfold chgP
  split
  · exact h
  · split
    · split
      · exact h
      · split
        · exact h
        · rename_i h1 h2 h3 h4
          exact ⟨by simp only; omega, by simp only; omega, h.els, h.i64⟩
    · split
      · exact h
      · rename_i h1 h2 h3
        refine ⟨h.lo, h.hi, ?_, ?_⟩
        · simp only [List.length_set]
          rw [pad_len]
          have := h.els
          omega
        · intro x hx
          simp only at hx
          rcases List.mem_or_eq_of_mem_set hx with h4 | h4
          · exact pad_i64 h.i64 x h4
          · rw [h4]; exact hc.2.2.2

theorem Good.step {n : Nat} {F : Int → Sq} (h : ∀ c, Good (F c)) {c : Chg} (hc : c.Fits) : ∀ x, Good ((stepP n F c).2 x) := by
  intro x
  unfold stepP
  split
  · simp only [upd]
    split
    · exact (h _).chg hc
    · exact h x
  · exact h x

theorem Good.run {n : Nat} (C : List Chg) : ∀ {F : Int → Sq}, (∀ c, Good (F c)) → (∀ c ∈ C, c.Fits) → ∀ x, Good ((runL n F C).2 x) := by
  induction C with
  | nil => intro F h _ x; exact h x
  | cons c C ih =>
    intro F h hC x
    simp only [runL]
    split
    · exact ih (Good.step h (hC c (by simp))) (fun d hd => hC d (by simp [hd])) x
    · exact Good.step h (hC c (by simp)) x

def Big (s : St) : Prop := s.cells.length ≤ 40 ∧ (∀ c, (part s c).length ≤ 4096) ∧ InSt s
theorem Good.seq0 {s : St} (h : Big s) (c : Int) : Good (seq0 s c) :=
  ⟨by simp [Go.Proofs.Ytpbbiidfahaamaa.seq0], by have := h.2.1 c; simp only [Go.Proofs.Ytpbbiidfahaamaa.seq0]; omega, h.2.1 c, part_i64 h.2.2 c⟩

/-! in memory -/
def Apart (b : Nat) (v : Value) (b' : Nat) (v' : Value) : Prop := ¬ SqB b v b' ∧ ∀ j, v'.ownBlock = some j → ¬ SqB b v j

structure SeqsAt (B : Nat) (w : World) (Dm : Int → Prop) (bs : Int → Nat) (vs : Int → Value) (F : Int → Sq) : Prop where
  at_ : ∀ c, Dm c → SeqAt B w (bs c) (vs c) (F c)
  apart : ∀ c c', Dm c → Dm c' → c ≠ c' → Apart (bs c) (vs c) (bs c') (vs c')

theorem SeqAt.lt {B : Nat} {w : World} {b : Nat} {v : Value} {q : Sq} (h : SeqAt B w b v q) : ∀ j, SqB b v j → B ≤ j ∧ j < w.heap.size := by
  rintro j (rfl | hj)
  · exact ⟨h.low, h.blk.lt⟩
  · exact h.els.lt j hj

theorem SeqsAt.next {B : Nat} {w w' : World} {Dm : Int → Prop} {bs : Int → Nat} {vs : Int → Value} {F : Int → Sq} (h : SeqsAt B w Dm bs vs F) (hb : Below w.heap.size w w') : SeqsAt B w' Dm bs vs F :=
  ⟨fun c hc => (h.at_ c hc).next hb, h.apart⟩

theorem SeqsAt.touch {S : Nat → Prop} {B : Nat} {w w' : World} {Dm : Int → Prop} {bs : Int → Nat} {vs : Int → Value} {F : Int → Sq} (h : SeqsAt B w Dm bs vs F) (ht : Touch S w w') (hS : ∀ c, Dm c → ∀ j, SqB (bs c) (vs c) j → ¬ S j) : SeqsAt B w' Dm bs vs F :=
  ⟨fun c hc => (h.at_ c hc).touch ht (hS c hc _ (.inl rfl)) (fun j hj => hS c hc j (.inr hj)), h.apart⟩

def updN {α : Type} (f : Int → α) (c : Int) (x : α) : Int → α := fun y => if y = c then x else f y

theorem SeqsAt.change {B : Nat} {w w' : World} {Dm : Int → Prop} {bs : Int → Nat} {vs : Int → Value} {F : Int → Sq} (h : SeqsAt B w Dm bs vs F) (c : Int) (hc : Dm c) {v' : Value} {q : Sq}
    (hq : SeqAt B w' (bs c) v' q) (ht : Touch (SqB (bs c) (vs c)) w w') (hv : ∀ j, v'.ownBlock = some j → (vs c).ownBlock = some j ∨ w.heap.size ≤ j) : SeqsAt B w' Dm bs (updN vs c v') (upd F c q) := by
  refine ⟨fun x hx => ?_, fun x y hx hy hne => ?_⟩
  · by_cases e : x = c
    · subst e
      simpa [updN, upd] using hq
    · have := h.apart c x hc hx (fun e' => e e'.symm)
      have hh := (h.at_ x hx).touch ht this.1 this.2
      simpa [updN, upd, e] using hh
  · by_cases e : x = c
    · subst e
      have hyc : y ≠ x := fun e => hne e.symm
      have ha := h.apart x y hx hy hne
      have hlt := (h.at_ y hy).lt
      simp only [updN, if_pos, if_neg hyc]
      refine ⟨?_, fun j hj => ?_⟩
      · rintro (e1 | e1)
        · exact ha.1 (.inl e1)
        · rcases hv _ e1 with e2 | e2
          · exact ha.1 (.inr e2)
          · have := (hlt _ (.inl rfl)).2
            omega
      · rintro (e1 | e1)
        · exact ha.2 j hj (.inl e1)
        · rcases hv _ e1 with e2 | e2
          · exact ha.2 j hj (.inr e2)
          · have := (hlt _ (.inr hj)).2
            omega
    · by_cases e' : y = c
      · subst e'
        have ha := h.apart x y hx hy hne
        have hlt := (h.at_ x hx).lt
        simp only [updN, if_pos, if_neg e]
        refine ⟨ha.1, fun j hj => ?_⟩
        rcases hv j hj with e2 | e2
        · exact ha.2 j e2
        · intro e3
          have := (hlt _ e3).2
          omega
      · have ha := h.apart x y hx hy hne
        simpa [updN, e, e'] using ha

theorem SeqsAt.add {B : Nat} {w w' : World} {Dm : Int → Prop} {bs : Int → Nat} {vs : Int → Value} {F : Int → Sq} (h : SeqsAt B w Dm bs vs F) (hb : Below w.heap.size w w') (c : Int) (hc : ¬ Dm c) {b : Nat} {v : Value}
    (hB : B ≤ w.heap.size) (hq : SeqAt w.heap.size w' b v (F c)) : SeqsAt B w' (fun x => x = c ∨ Dm x) (updN bs c b) (updN vs c v) F := by
  have h' := h.next hb
  have hlt := hq.lt
  refine ⟨fun x hx => ?_, fun x y hx hy hne => ?_⟩
  · rcases hx with rfl | hx
    · simp only [updN, if_pos]
      exact ⟨Nat.le_trans hB hq.low, hq.blk, own_mono hq.els hB⟩
    · have e : x ≠ c := fun e => hc (e ▸ hx)
      simpa [updN, e] using h'.at_ x hx
  · rcases hx with rfl | hx <;> rcases hy with rfl | hy
    · exact absurd rfl hne
    · have e : y ≠ x := fun e => hne e.symm
      simp only [updN, if_pos, if_neg e]
      have hly := (h.at_ y hy).lt
      refine ⟨fun h1 => ?_, fun j hj h1 => ?_⟩
      · have := (hlt _ h1).1
        have := (hly _ (.inl rfl)).2
        omega
      · have := (hlt _ h1).1
        have := (hly _ (.inr hj)).2
        omega
    · have e : x ≠ y := hne
      simp only [updN, if_pos, if_neg e]
      have hlx := (h.at_ x hx).lt
      refine ⟨fun h1 => ?_, fun j hj h1 => ?_⟩
      · have := (hlt _ (.inl rfl)).1
        have := (hlx _ h1).2
        omega
      · have := (hlt _ (.inr hj)).1
        have := (hlx _ h1).2
        omega
    · have e1 : x ≠ c := fun e => hc (e ▸ hx)
      have e2 : y ≠ c := fun e => hc (e ▸ hy)
      simpa [updN, e1, e2] using h.apart x y hx hy hne

end Go.Proofs.Ytpbbiidfahaamaa
