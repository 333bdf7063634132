/- States in new memory: rows of rows of the call's own. -/
import Derived.Test.YtklbaocgjegdfaaStR1
import Derived.Laws.MakeOwn
namespace Go.Proofs.Ytklbaocgjegdfaa
open Go.RowKit

theorem rowInfo : (Try.prog.info? 33).map (fun i => (i.zero, i.size, i.bytes)) = some (some (.slice none 0 0), 1, 24) := by kernel_rfl

theorem make_ints (m : Nat) (hm : m ≤ 1000000) (W : World) :
    (Instr.makeSlice 33 (.int .i64 (m : Int)) (.int .i64 (m : Int))).run Try.prog W = .ok (.slice (some ⟨W.heap.size, 0, none⟩) m m) (W.alloc (.cells (Array.replicate m (Value.int .i64 0)) 3)) := by
  obtain ⟨i0, hi, hz0, hz1, hz2⟩ := info_parts intInfo
  have h := run_make (P := Try.prog) W 33 3 i0 (.int .i64 0) Try.underlying33 hi hz0 .i64 .i64 m m (by omega) (Int.le_refl _) (by rw [hz2]; omega) (by omega)
  simp only [Int.toNat_natCast] at h
  rw [h, hz1, Nat.mul_one]
  have e : madeCells (Value.cells (.int .i64 0)) m = Array.replicate m (Value.int .i64 0) := by
    apply Array.toList_inj.1
    rw [Array.toList_replicate]
    exact toList_madeCells_one _ _
  rw [e]

/-- everything of a but block g stands -/
theorem gr_refl (a : World) (g : Nat) : a.grownBy a (some g) := World.grownBy.refl _ _
theorem gr_below {a b c : World} {g : Nat} (h : a.grownBy b (some g)) (hb : Below b.heap.size b c) : a.grownBy c (some g) :=
  ⟨hb.os.trans h.os, hb.tape.trans h.tape, hb.output.trans h.output, Nat.le_trans h.size hb.size, fun i hi hn => (hb.block i (Nat.lt_of_lt_of_le hi h.size)).trans (h.block i hi hn)⟩
theorem gr_grown {a b c : World} {g : Nat} {row : Option Nat} (h : a.grownBy b (some g)) (hg : b.grownBy c row) (hr : ∀ j, row = some j → j = g ∨ a.heap.size ≤ j) : a.grownBy c (some g) :=
  ⟨hg.os.trans h.os, hg.tape.trans h.tape, hg.output.trans h.output, Nat.le_trans h.size hg.size, fun i hi hn => (hg.block i (Nat.lt_of_lt_of_le hi h.size) (fun e => by
    rcases hr i e.symm with rfl | hh
    · exact hn rfl
    · omega)).trans (h.block i hi hn)⟩
theorem gr_alloc {a b : World} {g : Nat} (h : a.grownBy b (some g)) (o : Obj) : a.grownBy (b.alloc o) (some g) := gr_below h (below_alloc b o)
theorem gr_set {a b : World} {g : Nat} (h : a.grownBy b (some g)) (i : Nat) (u : Value) : a.grownBy (b.setCell ⟨g, i, none⟩ u) (some g) :=
  ⟨h.os, h.tape, h.output, by simpa [World.setCell] using h.size, fun j hj hn => (Below.heap_setCell b ⟨g, i, none⟩ u j (fun e => hn (by rw [e]))).trans (h.block j hj hn)⟩
theorem gr_drewN {a b : World} {g : Nat} (h : a.grownBy b (some g)) (n : Nat) : a.grownBy (b.drewN n) (some g) := ⟨h.os, h.tape, h.output, h.size, h.block⟩

/-- a block known whole -/
def Blk (w : World) (g : Nat) (t : TypeId) (cs : Array Value) : Prop := w.heap[g]? = some (.cells cs t (0, 0))
theorem Blk.lt {w : World} {g : Nat} {t : TypeId} {cs : Array Value} (h : Blk w g t cs) : g < w.heap.size := (Array.getElem?_eq_some_iff.1 h).1
theorem Blk.cell {w : World} {g : Nat} {t : TypeId} {cs : Array Value} (h : Blk w g t cs) (i : Nat) : w.cell? ⟨g, i, none⟩ = cs[i]? := cell_of_row w g i cs t (0, 0) h
theorem Blk.free {w : World} {g : Nat} {t : TypeId} {cs : Array Value} (h : Blk w g t cs) (i : Nat) : w.frozen? ⟨g, i, none⟩ = false := by
  unfold Blk at h
  simp [World.frozen?, h]
theorem Blk.next {w w' : World} {g : Nat} {t : TypeId} {cs : Array Value} (h : Blk w g t cs) (hb : Below w.heap.size w w') : Blk w' g t cs := (hb.block g h.lt).trans h
theorem Blk.grown {w w' : World} {g : Nat} {t : TypeId} {cs : Array Value} {row : Option Nat} (h : Blk w g t cs) (hb : w.grownBy w' row) (hn : some g ≠ row) : Blk w' g t cs := (hb.block g h.lt hn).trans h
theorem Blk.set {w : World} {g : Nat} {t : TypeId} {cs : Array Value} (h : Blk w g t cs) (i : Nat) (u : Value) : Blk (w.setCell ⟨g, i, none⟩ u) g t (cs.setIfInBounds i u) := by
  unfold Blk at h ⊢
  simp [World.setCell, Array.getElem?_modify, h]
theorem Blk.new (w : World) (t : TypeId) (cs : Array Value) : Blk (w.alloc (.cells cs t)) w.heap.size t cs := heap_alloc_new w _
theorem Blk.own_ne {w : World} {g : Nat} {t : TypeId} {cs : Array Value} (h : Blk w g t cs) {base : Nat} {e : TypeId} {size n : Nat} {v : Value} {xs : List Value} (hv : w.ownsRow base e size v n xs) (hne : e ≠ t) : some g ≠ v.ownBlock := by
  rcases hv.2 with ⟨rfl, _⟩ | ⟨g', cap, cur, rfl, _, hh, _⟩
  · simp [Value.ownBlock]
  · intro he
    have : g = g' := by simpa [Value.ownBlock] using he
    subst this
    unfold Blk at h
    rw [h] at hh
    injection hh with h1
    injection h1 with _ h2
    exact hne h2.symm

def IntsNew (B : Nat) (w : World) (u : Value) (l : List Int) : Prop := w.ownsRow B 3 1 u l.length (intsV l)
def RowsNew (B : Nat) (w : World) (c : Value) (vs : List Value) (L : List (List Int)) : Prop :=
  w.ownsRow B 33 1 c L.length vs ∧ ∀ (i : Nat) (l : List Int), L[i]? = some l → ∃ u, vs[i]? = some u ∧ IntsNew B w u l

theorem RowsNew.nil (B : Nat) (w : World) : RowsNew B w (.slice none 0 0) [] [] := ⟨World.ownsRow_nil _ _ _ _, by simp⟩
theorem RowsNew.next {B : Nat} {w w' : World} {c : Value} {vs : List Value} {L : List (List Int)} (h : RowsNew B w c vs L) (hb : Below w.heap.size w w') : RowsNew B w' c vs L :=
  ⟨own_below h.1 hb, fun i l hl => by
    obtain ⟨u, h1, h2⟩ := h.2 i l hl
    exact ⟨u, h1, own_below h2 hb⟩⟩
theorem IntsNew.next {B : Nat} {w w' : World} {u : Value} {l : List Int} (h : IntsNew B w u l) (hb : Below w.heap.size w w') : IntsNew B w' u l := own_below h hb
theorem own_far {w : World} {base : Nat} {e : TypeId} {size n : Nat} {v : Value} {xs : List Value} (h : w.ownsRow base e size v n xs) {g : Nat} (hg : g < base) (i : Nat) (u : Value) : (w.setCell ⟨g, i, none⟩ u).ownsRow base e size v n xs :=
  ownsRow_setCell_below h (a := ⟨g, i, none⟩) hg u
theorem IntsNew.far {B : Nat} {w : World} {u : Value} {l : List Int} (h : IntsNew B w u l) {g : Nat} (hg : g < B) (i : Nat) (x : Value) : IntsNew B (w.setCell ⟨g, i, none⟩ x) u l := own_far h hg i x
theorem RowsNew.far {B : Nat} {w : World} {c : Value} {vs : List Value} {L : List (List Int)} (h : RowsNew B w c vs L) {g : Nat} (hg : g < B) (i : Nat) (x : Value) : RowsNew B (w.setCell ⟨g, i, none⟩ x) c vs L :=
  ⟨own_far h.1 hg i x, fun j l hl => by
    obtain ⟨u, h1, h2⟩ := h.2 j l hl
    exact ⟨u, h1, h2.far hg i x⟩⟩
theorem RowsNew.len {B : Nat} {w : World} {c : Value} {vs : List Value} {L : List (List Int)} (h : RowsNew B w c vs L) : vs.length = L.length := by simpa using h.1.1
theorem RowsNew.snoc {B : Nat} {w w' : World} {c c' u : Value} {vs : List Value} {L : List (List Int)} {l : List Int} (h : RowsNew B w c vs L) (hu : IntsNew B w u l)
    (hown : w'.ownsRow B 33 1 c' (L.length + 1) (vs ++ [u])) (hg : w.grownBy w' c.ownBlock) : RowsNew B w' c' (vs ++ [u]) (L ++ [l]) := by
  refine ⟨by rw [List.length_append]; exact hown, fun i l' hl => ?_⟩
  have hlen := h.len
  rcases Nat.lt_or_ge i L.length with hi | hi
  · rw [List.getElem?_append_left hi] at hl
    obtain ⟨u', h1, h2⟩ := h.2 i l' hl
    exact ⟨u', by rw [List.getElem?_append_left (by omega)]; exact h1, h2.kept hg (own_own_ne h2 h.1 (by decide))⟩
  · rw [List.getElem?_append_right hi] at hl
    have : i - L.length = 0 := by
      rcases Nat.eq_zero_or_pos (i - L.length) with h0 | h0
      · exact h0
      · rw [List.getElem?_eq_none (by simp; omega)] at hl; cases hl
    rw [this] at hl
    simp only [List.getElem?_cons_zero, Option.some.injEq] at hl
    subst hl
    exact ⟨u, by rw [List.getElem?_append_right (by omega), show i - vs.length = 0 by omega]; rfl, hu.kept hg (own_own_ne hu h.1 (by decide))⟩

theorem RowsNew.rows {B : Nat} {w : World} {c : Value} {vs : List Value} {L : List (List Int)} (h : RowsNew B w c vs L) (hi : ∀ l ∈ L, ∀ y ∈ l, I64 y) : RowsAt w c L := by
  rcases h.1.2 with ⟨rfl, h0⟩ | ⟨g, cap, cur, rfl, _, hg, hn, hm, hc, ht⟩
  · rw [List.eq_nil_of_length_eq_zero h0]
    exact ⟨none, 0, rfl, Nat.le_refl _, by unfold maxLen; omega, fun h => absurd h (by decide)⟩
  · refine ⟨_, cap, rfl, hn, hm, fun hp => ⟨g, 0, rfl, (Array.getElem?_eq_some_iff.1 hg).1, fun i l hl => ?_⟩⟩
    obtain ⟨u, h1, h2⟩ := h.2 i l hl
    have hi' : i < L.length := by
      rcases Nat.lt_or_ge i L.length with hh | hh
      · exact hh
      · rw [List.getElem?_eq_none hh] at hl; cases hl
    refine ⟨u, by rw [Nat.zero_add, h.1.cellAt i (by omega), h1], IntsAt.of_own h2 (hi l (List.mem_of_getElem? hl))⟩

/-- blocks from B on stand -/
structure Above (B : Nat) (w w' : World) : Prop where
  size : w.heap.size ≤ w'.heap.size
  block : ∀ b, B ≤ b → b < w.heap.size → w'.heap[b]? = w.heap[b]?
theorem Above.own {B : Nat} {w w' : World} {e : TypeId} {size n : Nat} {v : Value} {xs : List Value} (hab : Above B w w') (h : w.ownsRow B e size v n xs) : w'.ownsRow B e size v n xs := by
  refine ⟨h.1, ?_⟩
  rcases h.2 with hn | ⟨g, cap, cur, rfl, hb, hg, r⟩
  · exact .inl hn
  · exact .inr ⟨g, cap, cur, rfl, hb, (hab.block g hb (Array.getElem?_eq_some_iff.1 hg).1).trans hg, r⟩

/-- a state in memory from B on -/
def StNew (B : Nat) (w : World) (v : Value) (s : St) : Prop :=
  ∃ c i o vs, v = .agg #[c, i, o] ∧ RowsNew B w c vs s.cells ∧ IntsNew B w i s.inp ∧ IntsNew B w o s.out
theorem StNew.at_ {B : Nat} {w : World} {v : Value} {s : St} (h : StNew B w v s) (hi : InSt s) : StAt w v s := by
  obtain ⟨c, i, o, vs, rfl, h1, h2, h3⟩ := h
  exact ⟨c, i, o, rfl, h1.rows hi.1, IntsAt.of_own h2 hi.2.1, IntsAt.of_own h3 hi.2.2⟩
theorem StNew.above {B : Nat} {w w' : World} {v : Value} {s : St} (h : StNew B w v s) (hab : Above B w w') : StNew B w' v s := by
  obtain ⟨c, i, o, vs, rfl, h1, h2, h3⟩ := h
  refine ⟨c, i, o, vs, rfl, ⟨hab.own h1.1, fun j l hl => ?_⟩, hab.own h2, hab.own h3⟩
  obtain ⟨u, a, b⟩ := h1.2 j l hl
  exact ⟨u, a, hab.own b⟩
theorem StNew.next {B : Nat} {w w' : World} {v : Value} {s : St} (h : StNew B w v s) (hb : Below w.heap.size w w') : StNew B w' v s :=
  h.above ⟨hb.size, fun b _ hlt => hb.block b hlt⟩
theorem own_mono {w : World} {base base' : Nat} {e : TypeId} {size n : Nat} {v : Value} {xs : List Value} (h : w.ownsRow base e size v n xs) (hb : base' ≤ base) : w.ownsRow base' e size v n xs := by
  refine ⟨h.1, ?_⟩
  rcases h.2 with hn | ⟨g, cap, cur, rfl, hg, r⟩
  · exact .inl hn
  · exact .inr ⟨g, cap, cur, rfl, Nat.le_trans hb hg, r⟩
theorem StNew.mono {B B' : Nat} {w : World} {v : Value} {s : St} (h : StNew B w v s) (hb : B' ≤ B) : StNew B' w v s := by
  obtain ⟨c, i, o, vs, rfl, h1, h2, h3⟩ := h
  refine ⟨c, i, o, vs, rfl, ⟨own_mono h1.1 hb, fun j l hl => ?_⟩, own_mono h2 hb, own_mono h3 hb⟩
  obtain ⟨u, a, b⟩ := h1.2 j l hl
  exact ⟨u, a, own_mono b hb⟩

theorem st0_new (B : Nat) (w : World) : StNew B w (.agg #[.slice none 0 0, .slice none 0 0, .slice none 0 0]) ⟨[], [], []⟩ :=
  ⟨_, _, _, _, rfl, RowsNew.nil _ _, World.ownsRow_nil _ _ _ _, World.ownsRow_nil _ _ _ _⟩

end Go.Proofs.Ytklbaocgjegdfaa
