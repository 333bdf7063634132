/- The memory of distribute: its boxes, the row of lists, the lists. -/
import Derived.Test.YtklbaocgjegdfaaEnP
import Derived.Test.YtklbaocgjegdfaaEnR
namespace Go.Proofs.Ytklbaocgjegdfaa
open Go.RowKit Go.Shelf

/-- an array out of a function -/
def arr (M : Nat) (f : Nat → Value) : Array Value := ((List.range M).map f).toArray
theorem arr_get {M j : Nat} (f : Nat → Value) (h : j < M) : (arr M f)[j]? = some (f j) := by simp [arr, h]
theorem arr_set {M k : Nat} (f : Nat → Value) (v : Value) : (arr M f).setIfInBounds k v = arr M (fun j => if j = k then v else f j) := by
  apply Array.ext
  · simp [arr]
  · intro i h1 h2
    have hi : i < M := by simpa [arr] using h2
    rw [Array.getElem_setIfInBounds (by simpa [arr] using hi)]
    simp only [arr, List.getElem_toArray, List.getElem_map, List.getElem_range]
    by_cases e : k = i
    · rw [if_pos e, if_pos e.symm]
    · rw [if_neg e, if_neg (fun h => e h.symm)]
theorem arr_rep (M : Nat) (v : Value) : Array.replicate M v = arr M (fun _ => v) := by
  apply Array.ext
  · simp [arr]
  · intro i h1 h2
    simp [arr]
theorem arr_congr {M : Nat} {f g : Nat → Value} (h : ∀ j, j < M → f j = g j) : arr M f = arr M g := by
  unfold arr
  rw [List.map_congr_left (fun j hj => h j (List.mem_range.1 hj))]

/-- bounds in a row -/
def bdV (l : List Bd) : List Value := l.flatMap fun b => [.int .i64 b.lo, .int .i64 b.hi]
theorem bdV_get {l : List Bd} {i : Nat} {b : Bd} (h : l[i]? = some b) : (bdV l)[i * 2]? = some (.int .i64 b.lo) ∧ (bdV l)[i * 2 + 1]? = some (.int .i64 b.hi) := by
  induction l generalizing i with
  | nil => simp at h
  | cons a l ih =>
    cases i with
    | zero =>
      simp only [List.getElem?_cons_zero, Option.some.injEq] at h
      subst h
      simp [bdV]
    | succ i =>
      rw [List.getElem?_cons_succ] at h
      have := ih h
      have e1 : (i + 1) * 2 = i * 2 + 1 + 1 := by omega
      rw [e1]
      simp only [bdV, List.flatMap_cons, List.cons_append, List.nil_append, List.getElem?_cons_succ]
      exact this
/-- the weights from each list on -/
def restL (h : Int) (l : List Bd) : List Bd := (List.range (l.length + 1)).map fun i => rwP h (l.drop i)
theorem restL_get {h : Int} {l : List Bd} {i : Nat} (hi : i ≤ l.length) : (restL h l)[i]? = some (rwP h (l.drop i)) := by
  unfold restL
  rw [List.getElem?_map, List.getElem?_range (by omega)]
  rfl

/-- where all lies: the boxes of lists, yield, l, rest, heaviest, list, number; the rows of lists, l, rest -/
structure Fix where
  bs : Nat
  by_ : Nat
  bl : Nat
  br : Nat
  bh : Nat
  bi : Nat
  bn : Nat
  Ls : Nat
  Ll : Nat
  Lr : Nat
  be : Nat
  cl : Nat
  cr : Nat

def ptr (b : Nat) : Value := .pointer (some ⟨b, 0, none⟩)
def Fix.fx (x : Fix) (b : Nat) : Prop := b = x.bs ∨ b = x.by_ ∨ b = x.bl ∨ b = x.br ∨ b = x.bh ∨ b = x.bi ∨ b = x.bn ∨ b = x.Ll ∨ b = x.Lr ∨ b = x.be
def Fix.listF (x : Fix) : Value := .func (.func 52) #[] #[ptr x.bs, ptr x.by_, ptr x.bl, ptr x.br, ptr x.bh, ptr x.bn]
def Fix.numF (x : Fix) : Value := .func (.func 53) #[] #[ptr x.bs, ptr x.bi, ptr x.bh, ptr x.br, ptr x.bn]

/-- the boxes and the rows of bounds -/
structure FixAt (l : Nat) (h : Int) (B : List Bd) (x : Fix) (W : World) : Prop where
  s : Blk W x.bs 32 #[.slice (some ⟨x.Ls, 0, none⟩) B.length B.length]
  y : Blk W x.by_ 39 #[.func (.yield l) #[] #[]]
  lv : Blk W x.bl 57 #[.slice (some ⟨x.Ll, 0, none⟩) B.length x.cl]
  e : Blk W x.be 57 #[.slice (some ⟨x.Ll, 0, none⟩) B.length x.cl]
  r : Blk W x.br 57 #[.slice (some ⟨x.Lr, 0, none⟩) (B.length + 1) x.cr]
  hv : Blk W x.bh 3 #[.int .i64 h]
  i : Blk W x.bi 38 #[x.listF]
  n : Blk W x.bn 79 #[x.numF]
  ll : ∀ i b, B[i]? = some b → W.cell? ⟨x.Ll, i * 2, none⟩ = some (.int .i64 b.lo) ∧ W.cell? ⟨x.Ll, i * 2 + 1, none⟩ = some (.int .i64 b.hi)
  lr : ∀ i, i ≤ B.length → W.cell? ⟨x.Lr, i * 2, none⟩ = some (.int .i64 (rwP h (B.drop i)).lo) ∧ W.cell? ⟨x.Lr, i * 2 + 1, none⟩ = some (.int .i64 (rwP h (B.drop i)).hi)

theorem FixAt.keep {l : Nat} {h : Int} {B : List Bd} {x : Fix} {W W' : World} (hf : FixAt l h B x W) (hk : ∀ b, x.fx b → W'.heap[b]? = W.heap[b]?) : FixAt l h B x W' where
  s := (hk _ (by simp [Fix.fx])).trans hf.s
  y := (hk _ (by simp [Fix.fx])).trans hf.y
  lv := (hk _ (by simp [Fix.fx])).trans hf.lv
  e := (hk _ (by simp [Fix.fx])).trans hf.e
  r := (hk _ (by simp [Fix.fx])).trans hf.r
  hv := (hk _ (by simp [Fix.fx])).trans hf.hv
  i := (hk _ (by simp [Fix.fx])).trans hf.i
  n := (hk _ (by simp [Fix.fx])).trans hf.n
  ll i b hb := by
    have hc : ∀ o, W'.cell? ⟨x.Ll, o, none⟩ = W.cell? ⟨x.Ll, o, none⟩ := fun o => World.cell?_of_block (w := W) (hk _ (by simp [Fix.fx]))
    rw [hc, hc]
    exact hf.ll i b hb
  lr i hi := by
    have hc : ∀ o, W'.cell? ⟨x.Lr, o, none⟩ = W.cell? ⟨x.Lr, o, none⟩ := fun o => World.cell?_of_block (w := W) (hk _ (by simp [Fix.fx]))
    rw [hc, hc]
    exact hf.lr i hi

/-- the m lists that have been begun: their numbers; each in a block of the iterator's own -/
structure Lists (x : Fix) (O : Nat → Prop) (W : World) (n m : Nat) (vs : Nat → Value) (P : Nat → List Int) : Prop where
  blk : Blk W x.Ls 33 (arr n vs)
  own : O x.Ls
  out : ¬ x.fx x.Ls
  row : ∀ j, j < m → ∃ g c, vs j = .slice (some ⟨g, 0, none⟩) (P j).length c ∧ IntsNew 0 W (vs j) (P j) ∧ O g ∧ ¬ x.fx g ∧ g ≠ x.Ls
  apart : ∀ i j, i < m → j < m → i ≠ j → (vs i).ownBlock ≠ (vs j).ownBlock
  i64 : ∀ j, j < m → ∀ y ∈ P j, I64 y
  len : ∀ j, j < m → (P j).length ≤ 1000

/-- all of it -/
structure Inv (l : Nat) (h : Int) (B : List Bd) (x : Fix) (O : Nat → Prop) (W : World) (m : Nat) (vs : Nat → Value) (P : Nat → List Int) : Prop where
  fix : FixAt l h B x W
  own : ∀ b, x.fx b → O b
  lists : Lists x O W B.length m vs P
  old : ∀ b, O b → b < W.heap.size

theorem IntsNew.keep {W W' : World} {v : Value} {P : List Int} (h : IntsNew 0 W v P) (hk : ∀ b, v.ownBlock = some b → W'.heap[b]? = W.heap[b]?) : IntsNew 0 W' v P := by
  refine ⟨h.1, ?_⟩
  rcases h.2 with h0 | ⟨g, cap, cur, rfl, hg, hh, r⟩
  · exact .inl h0
  · exact .inr ⟨g, cap, cur, rfl, hg, (hk g rfl).trans hh, r⟩
theorem Lists.keep {x : Fix} {O : Nat → Prop} {W W' : World} {n m : Nat} {vs : Nat → Value} {P : Nat → List Int} (h : Lists x O W n m vs P) (hk : ∀ b, O b → W'.heap[b]? = W.heap[b]?) : Lists x O W' n m vs P :=
  ⟨(hk _ h.own).trans h.blk, h.own, h.out, fun j hj => by
    obtain ⟨g, c, e, hn, ho, hf, hl⟩ := h.row j hj
    exact ⟨g, c, e, hn.keep (fun b hb => by
      rw [e] at hb
      have : g = b := by simpa [Value.ownBlock] using hb
      exact hk b (this ▸ ho)), ho, hf, hl⟩, h.apart, h.i64, h.len⟩
theorem Inv.leaves {l : Nat} {h : Int} {B : List Bd} {x : Fix} {O : Nat → Prop} {W W' : World} {m : Nat} {vs : Nat → Value} {P : Nat → List Int} (hi : Inv l h B x O W m vs P) (hk : Leaves O W W') : Inv l h B x O W' m vs P :=
  ⟨hi.fix.keep (fun b hb => hk.2 b (hi.own b hb)), hi.own, hi.lists.keep hk.2, fun b hb => Nat.lt_of_lt_of_le (hi.old b hb) hk.1⟩
theorem Inv.fewer {l : Nat} {h : Int} {B : List Bd} {x : Fix} {O : Nat → Prop} {W : World} {m m' : Nat} {vs : Nat → Value} {P : Nat → List Int} (hi : Inv l h B x O W m vs P) (hm : m' ≤ m) : Inv l h B x O W m' vs P :=
  ⟨hi.fix, hi.own, ⟨hi.lists.blk, hi.lists.own, hi.lists.out, fun j hj => hi.lists.row j (by omega), fun i j h1 h2 => hi.lists.apart i j (by omega) (by omega), fun j hj => hi.lists.i64 j (by omega), fun j hj => hi.lists.len j (by omega)⟩, hi.old⟩
theorem ints_set {w : World} {B g n cap : Nat} {l : List Int} (h : IntsNew B w (.slice (some ⟨g, 0, none⟩) n cap) l) (j : Nat) (x : Int) : IntsNew B (w.setCell ⟨g, j, none⟩ (.int .i64 x)) (.slice (some ⟨g, 0, none⟩) n cap) (l.set j x) := by
  have hn : n = l.length := by
    rcases h.2 with ⟨h0, _⟩ | ⟨g', cap', cur, he, _⟩
    · cases h0
    · injection he
  subst hn
  have := (World.ownsRow.stored h j (.int .i64 x)).1
  unfold IntsNew
  rw [List.length_set]
  have hs : intsV (l.set j x) = (intsV l).set j (.int .i64 x) := by simp [intsV, List.map_set]
  rw [hs]
  exact this
theorem ints_get {B g np c : Nat} {w : World} {P : List Int} (h : IntsNew B w (.slice (some ⟨g, 0, none⟩) np c) P) (hn : P.length = np) {e : Nat} (he : e < P.length) : w.cell? ⟨g, e, none⟩ = some (.int .i64 (P.getD e 0)) := by
  subst hn
  have := h.cellAt e (by omega)
  rw [this, List.getD_eq_getElem?_getD, List.getElem?_eq_getElem he]
  simp [intsV, he]
/-- a number is set in list j -/
theorem Inv.set {l : Nat} {h : Int} {B : List Bd} {x : Fix} {O : Nat → Prop} {W : World} {m : Nat} {vs : Nat → Value} {P : Nat → List Int} (hi : Inv l h B x O W m vs P) {j g c : Nat} (hj : j < m) (hv : vs j = .slice (some ⟨g, 0, none⟩) (P j).length c) (i : Nat) {y : Int} (hy : I64 y) :
    Inv l h B x O (W.setCell ⟨g, i, none⟩ (.int .i64 y)) m vs (fun t => if t = j then (P j).set i y else P t) := by
  obtain ⟨g', c', e, hn, ho, hf, hl⟩ := hi.lists.row j hj
  have hg : g' = g := by
    rw [hv] at e
    injection e with e1
    injection e1 with e1
    injection e1 with e1
    exact e1.symm
  subst hg
  have hk : ∀ b, b ≠ g' → (W.setCell ⟨g', i, none⟩ (.int .i64 y)).heap[b]? = W.heap[b]? := fun b hb => Below.heap_setCell W ⟨g', i, none⟩ _ b hb
  refine ⟨hi.fix.keep (fun b hb => hk b (fun e => hf (e ▸ hb))), hi.own, ⟨(hk _ (fun e => hl e.symm)).trans hi.lists.blk, hi.lists.own, hi.lists.out, fun t ht => ?_, hi.lists.apart, fun t ht z hz => ?_, fun t ht => ?_⟩, fun b hb => by simpa [World.setCell] using hi.old b hb⟩
  · by_cases e2 : t = j
    · subst e2
      simp only [if_pos]
      rw [hv] at hn ⊢
      exact ⟨g', c, by rw [List.length_set], ints_set hn i y, ho, hf, hl⟩
    · simp only [if_neg e2]
      obtain ⟨g2, c2, e3, hn2, ho2, hf2, hl2⟩ := hi.lists.row t ht
      refine ⟨g2, c2, e3, hn2.keep (fun b hb => hk b (fun e4 => ?_)), ho2, hf2, hl2⟩
      exact hi.lists.apart t j ht hj e2 (by rw [hb, hv, e4]; rfl)
  · by_cases e2 : t = j
    · simp only [if_pos e2] at hz
      rcases List.mem_or_eq_of_mem_set hz with h1 | h1
      · exact hi.lists.i64 j hj z h1
      · rw [h1]; exact hy
    · simp only [if_neg e2] at hz
      exact hi.lists.i64 t ht z hz
  · by_cases e2 : t = j
    · simp only [if_pos e2]
      rw [List.length_set]
      exact hi.lists.len j hj
    · simp only [if_neg e2]
      exact hi.lists.len t ht
/-- the state that all lists are -/
theorem Inv.st {l : Nat} {h : Int} {B : List Bd} {x : Fix} {O : Nat → Prop} {W : World} {vs : Nat → Value} {P : Nat → List Int} {n : Nat} (hi : Inv l h B x O W (n + 1) vs P) (hn : B.length = n + 1) (hm : n ≤ 1000) :
    StAt W (.agg #[.slice (some ⟨x.Ls, 0, none⟩) n (n + 1), vs n, .slice none 0 0]) (mkSt ((List.range (n + 1)).map P)) ∧ Sized (mkSt ((List.range (n + 1)).map P)) ∧ (mkSt ((List.range (n + 1)).map P)).cells.length ≤ 1000000 := by
  have hin : ∀ j, j < n + 1 → IntsAt W (vs j) (P j) := fun j hj => by
    obtain ⟨g, c, e, hnw, _⟩ := hi.lists.row j hj
    exact IntsAt.of_own hnw (hi.lists.i64 j hj)
  have e1 : (mkSt ((List.range (n + 1)).map P)) = ⟨(List.range n).map P, P n, []⟩ := by
    unfold mkSt
    rw [List.range_succ, List.map_append]
    simp
  rw [e1]
  refine ⟨⟨_, _, _, rfl, ?_, hin n (by omega), ⟨⟨none, 0, rfl, Nat.le_refl _, by unfold maxLen; omega, fun h => absurd h (Nat.lt_irrefl 0)⟩, by simp⟩⟩, ⟨by have := hi.lists.len n (by omega); show (P n).length ≤ _; omega, by simp, fun r hr => ?_⟩, by simp; omega⟩
  · have hl : ((List.range n).map P).length = n := by simp
    unfold RowsAt
    simp only [hl]
    refine ⟨_, n + 1, rfl, by omega, by unfold maxLen; omega, fun _ => ⟨x.Ls, 0, rfl, hi.lists.blk.lt, fun i r hr => ?_⟩⟩
    have hi' : i < n := by
      rcases Nat.lt_or_ge i n with hh | hh
      · exact hh
      · rw [List.getElem?_eq_none (by rw [hl]; exact hh)] at hr; cases hr
    have hr' : r = P i := by
      simp only [List.getElem?_map, List.getElem?_range hi', Option.map_some] at hr
      injection hr with hr
      exact hr.symm
    refine ⟨vs i, ?_, by rw [hr']; exact hin i (by omega)⟩
    rw [Nat.zero_add, hi.lists.blk.cell i, hn, arr_get _ (by omega)]
  · simp only [List.mem_map, List.mem_range] at hr
    obtain ⟨j, hj, rfl⟩ := hr
    have := hi.lists.len j (by omega)
    omega
end Go.Proofs.Ytklbaocgjegdfaa
