/- What the statements on values are given, opened: trees, variables, numbers. -/
import Derived.Test.YtlpmoklcdocmmaaRows
import Derived.Test.YtlpmoklcdocmmaaEvP
import Derived.WalkKit
import Derived.ProofKit
import Derived.Below
import Derived.Deep.Slices
import Derived.Lib.SmallJoins
import Derived.Laws.OwnMore
import Derived.Lib.Hide
namespace Go.Proofs.Ytlpmoklcdocmmaa
open Go.RowKit Go.ChangeShapes Go.WideShapes Go.Deep

def I64 (x : Int) : Prop := -9223372036854775808 ≤ x ∧ x ≤ 9223372036854775807

/-- the value is a slice of n elements; where there is one, it lies at ⟨g, o⟩ -/
def SliceAt (w : World) (v : Value) (n : Nat) (Q : Nat → Nat → Prop) : Prop :=
  ∃ a c, v = .slice a n c ∧ n ≤ c ∧ c ≤ maxLen ∧ (0 < n → ∃ g o, a = some ⟨g, o, none⟩ ∧ g < w.heap.size ∧ Q g o)

def IntsAt (w : World) (v : Value) (l : List Int) : Prop :=
  SliceAt w v l.length (fun g o => ∀ i x, l[i]? = some x → w.cell? ⟨g, o + i, none⟩ = some (.int .i64 x)) ∧ ∀ x ∈ l, I64 x

def EnvAt (w : World) (v : Value) (l : Env) : Prop :=
  SliceAt w v l.length (fun g o => ∀ i c, l[i]? = some c → w.cell? ⟨g, o + i * 2, none⟩ = some (.string c.1) ∧ ∃ u, w.cell? ⟨g, o + i * 2 + 1, none⟩ = some u ∧ IntsAt w u c.2) ∧ ∀ c ∈ l, c.1.size ≤ maxLen

mutual
def NodeAt (w : World) (v : Value) : T → Prop
  | .mk k n s ks => ∃ u, v = .agg #[.int .u8 k, .int .i64 n, .string s, u] ∧ (0 ≤ k ∧ k ≤ 255) ∧ I64 n ∧ s.size ≤ maxLen ∧
      ∃ a c, u = .slice a ks.length c ∧ ks.length ≤ c ∧ c ≤ maxLen ∧ (0 < ks.length → ∃ g o, a = some ⟨g, o, none⟩ ∧ g < w.heap.size ∧ NodesAt w g o ks)
def NodesAt (w : World) (g o : Nat) : List T → Prop
  | [] => True
  | t :: ts => (∃ c0 c1 c2 c3, w.cell? ⟨g, o, none⟩ = some c0 ∧ w.cell? ⟨g, o + 1, none⟩ = some c1 ∧ w.cell? ⟨g, o + 2, none⟩ = some c2 ∧ w.cell? ⟨g, o + 3, none⟩ = some c3 ∧ NodeAt w (.agg #[c0, c1, c2, c3]) t) ∧
      NodesAt w g (o + 4) ts
end

def KidsAt (w : World) (u : Value) (ks : List T) : Prop := SliceAt w u ks.length (fun g o => NodesAt w g o ks)

theorem NodeAt.mk_iff {w : World} {v : Value} {k n : Int} {s : ByteArray} {ks : List T} :
    NodeAt w v (.mk k n s ks) ↔ ∃ u, v = .agg #[.int .u8 k, .int .i64 n, .string s, u] ∧ (0 ≤ k ∧ k ≤ 255) ∧ I64 n ∧ s.size ≤ maxLen ∧ KidsAt w u ks := by
  rw [NodeAt]; rfl

theorem NodesAt.get {w : World} {g : Nat} : ∀ {ks : List T} {o : Nat}, NodesAt w g o ks → ∀ (i : Nat) (t : T), ks[i]? = some t →
    ∃ c0 c1 c2 c3, w.cell? ⟨g, o + i * 4, none⟩ = some c0 ∧ w.cell? ⟨g, o + i * 4 + 1, none⟩ = some c1 ∧ w.cell? ⟨g, o + i * 4 + 2, none⟩ = some c2 ∧ w.cell? ⟨g, o + i * 4 + 3, none⟩ = some c3 ∧ NodeAt w (.agg #[c0, c1, c2, c3]) t
  | t :: ts, o, h, 0, t', e => by
    rw [NodesAt] at h
    simp at e; subst e
    simpa using h.1
  | t :: ts, o, h, i + 1, t', e => by
    rw [NodesAt] at h
    simp at e
    have := NodesAt.get h.2 i t' e
    rw [show o + 4 + i * 4 = o + (i + 1) * 4 by omega] at this
    exact this
theorem NodesAt.of {w : World} {g : Nat} : ∀ {ks : List T} {o : Nat}, (∀ (i : Nat) (t : T), ks[i]? = some t →
    ∃ c0 c1 c2 c3, w.cell? ⟨g, o + i * 4, none⟩ = some c0 ∧ w.cell? ⟨g, o + i * 4 + 1, none⟩ = some c1 ∧ w.cell? ⟨g, o + i * 4 + 2, none⟩ = some c2 ∧ w.cell? ⟨g, o + i * 4 + 3, none⟩ = some c3 ∧ NodeAt w (.agg #[c0, c1, c2, c3]) t) → NodesAt w g o ks
  | [], o, _ => by rw [NodesAt]; trivial
  | t :: ts, o, h => by
    rw [NodesAt]
    refine ⟨by simpa using h 0 t rfl, NodesAt.of fun i t' e => ?_⟩
    have := h (i + 1) t' (by simpa using e)
    rw [show o + (i + 1) * 4 = o + 4 + i * 4 by omega] at this
    exact this

theorem NodeAt.form {w : World} {c0 c1 c2 c3 : Value} {t : T} (h : NodeAt w (.agg #[c0, c1, c2, c3]) t) : ∃ kd nm s a n c, c0 = .int .u8 kd ∧ c1 = .int .i64 nm ∧ c2 = .string s ∧ c3 = .slice a n c := by
  cases t with
  | mk k n s ks =>
    obtain ⟨u, e, _, _, _, a, c, rfl, _⟩ := NodeAt.mk_iff.1 h
    simp at e
    obtain ⟨rfl, rfl, rfl, rfl⟩ := e
    exact ⟨_, _, _, _, _, _, rfl, rfl, rfl, rfl⟩
theorem NodesAt.getF {w : World} {g o : Nat} {ks : List T} (h : NodesAt w g o ks) (i : Nat) (t : T) (e : ks[i]? = some t) :
    ∃ kd nm s a n c, w.cell? ⟨g, o + i * 4, none⟩ = some (.int .u8 kd) ∧ w.cell? ⟨g, o + i * 4 + 1, none⟩ = some (.int .i64 nm) ∧ w.cell? ⟨g, o + i * 4 + 2, none⟩ = some (.string s) ∧ w.cell? ⟨g, o + i * 4 + 3, none⟩ = some (.slice a n c) ∧
      NodeAt w (.agg #[.int .u8 kd, .int .i64 nm, .string s, .slice a n c]) t := by
  obtain ⟨c0, c1, c2, c3, h0, h1, h2, h3, h4⟩ := h.get i t e
  obtain ⟨kd, nm, s, a, n, c, rfl, rfl, rfl, rfl⟩ := h4.form
  exact ⟨kd, nm, s, a, n, c, h0, h1, h2, h3, h4⟩

/-! they stand while older memory stands -/
theorem SliceAt.mono {w w' : World} {v : Value} {n : Nat} {Q Q' : Nat → Nat → Prop} (h : SliceAt w v n Q) (hs : w.heap.size ≤ w'.heap.size) (hq : ∀ g o, g < w.heap.size → Q g o → Q' g o) : SliceAt w' v n Q' := by
  obtain ⟨a, c, rfl, h1, h2, h3⟩ := h
  refine ⟨a, c, rfl, h1, h2, fun hn => ?_⟩
  obtain ⟨g, o, rfl, hg, hc⟩ := h3 hn
  exact ⟨g, o, rfl, Nat.lt_of_lt_of_le hg hs, hq g o hg hc⟩
theorem cell_below {w w' : World} {B : Nat} (hb : Below B w w') {g j : Nat} {u : Value} (hg : g < B) (h : w.cell? ⟨g, j, none⟩ = some u) : w'.cell? ⟨g, j, none⟩ = some u :=
  (hb.cell (p := ⟨g, j, none⟩) hg).trans h
theorem IntsAt.below {w w' : World} {v : Value} {l : List Int} (h : IntsAt w v l) {B : Nat} (hb : Below B w w') (hB : w.heap.size ≤ B) : IntsAt w' v l :=
  ⟨h.1.mono hb.size (fun _ _ hg hq i x hx => cell_below hb (by omega) (hq i x hx)), h.2⟩
theorem EnvAt.below {w w' : World} {v : Value} {l : Env} (h : EnvAt w v l) {B : Nat} (hb : Below B w w') (hB : w.heap.size ≤ B) : EnvAt w' v l :=
  ⟨h.1.mono hb.size (fun _ _ hg hq i c hc => by
    obtain ⟨h1, u, h2, h3⟩ := hq i c hc
    exact ⟨cell_below hb (by omega) h1, u, cell_below hb (by omega) h2, h3.below hb hB⟩), h.2⟩
mutual
theorem NodeAt.below {w w' : World} {B : Nat} (hb : Below B w w') (hB : w.heap.size ≤ B) {v : Value} : ∀ {t : T}, NodeAt w v t → NodeAt w' v t
  | .mk k n s ks => fun h => by
    rw [NodeAt] at h ⊢
    obtain ⟨u, h1, h2, h3, h4, a, c, h5, h6, h7, h8⟩ := h
    refine ⟨u, h1, h2, h3, h4, a, c, h5, h6, h7, fun hp => ?_⟩
    obtain ⟨g, o, r1, r2, r3⟩ := h8 hp
    exact ⟨g, o, r1, Nat.lt_of_lt_of_le r2 hb.size, NodesAt.below hb hB r2 r3⟩
theorem NodesAt.below {w w' : World} {B : Nat} (hb : Below B w w') (hB : w.heap.size ≤ B) {g o : Nat} (hg : g < w.heap.size) : ∀ {ks : List T}, NodesAt w g o ks → NodesAt w' g o ks
  | [] => fun _ => by rw [NodesAt]; trivial
  | t :: ts => fun h => by
    rw [NodesAt] at h ⊢
    obtain ⟨⟨c0, c1, c2, c3, k0, k1, k2, k3, k4⟩, h2⟩ := h
    exact ⟨⟨c0, c1, c2, c3, cell_below hb (by omega) k0, cell_below hb (by omega) k1, cell_below hb (by omega) k2, cell_below hb (by omega) k3, NodeAt.below hb hB k4⟩, NodesAt.below hb hB hg h2⟩
end
theorem KidsAt.below {w w' : World} {u : Value} {ks : List T} (h : KidsAt w u ks) {B : Nat} (hb : Below B w w') (hB : w.heap.size ≤ B) : KidsAt w' u ks :=
  SliceAt.mono h hb.size (fun _ _ hg hq => NodesAt.below hb hB hg hq)

/-! opened -/
theorem list_of {α : Type} (n : Nat) (p : Nat → α → Prop) (h : ∀ i, i < n → ∃ x, p i x) : ∃ l : List α, l.length = n ∧ ∀ i x, l[i]? = some x → p i x := by
  induction n with
  | zero => exact ⟨[], rfl, fun i x hx => by simp at hx⟩
  | succ n ih =>
    obtain ⟨l, hl, hp⟩ := ih (fun i hi => h i (by omega))
    obtain ⟨x, hx⟩ := h n (by omega)
    refine ⟨l ++ [x], by simp [hl], fun i y hy => ?_⟩
    rcases Nat.lt_or_ge i n with hi | hi
    · rw [List.getElem?_append_left (by omega)] at hy
      exact hp i y hy
    · rw [List.getElem?_append_right (by omega)] at hy
      have : i - l.length = 0 := by
        rcases Nat.eq_zero_or_pos (i - l.length) with h0 | h0
        · exact h0
        · rw [List.getElem?_eq_none (by simp; omega)] at hy; cases hy
      rw [this] at hy
      simp only [List.getElem?_cons_zero, Option.some.injEq] at hy
      subst hy
      have : i = n := by omega
      subst this
      exact hx

theorem i64_of {x : Int} (h : (Lit.int .i64 x).wf = true) : I64 x := by
  simpa [Lit.wf, IntKind.min, IntKind.max, IntKind.signed, IntKind.bits, I64] using h
theorem u8_of {x : Int} (h : (Lit.int .u8 x).wf = true) : 0 ≤ x ∧ x ≤ 255 := by
  simpa [Lit.wf, IntKind.min, IntKind.max, IntKind.signed, IntKind.bits] using h

theorem cellsInt : Try.prog.cellsOf 3 = 1 := by kernel_rfl
theorem cellsU8 : Try.prog.cellsOf 5 = 1 := by kernel_rfl
theorem cellsStr : Try.prog.cellsOf 9 = 1 := by kernel_rfl
theorem cellsInts : Try.prog.cellsOf 26 = 1 := by kernel_rfl
theorem cellsNode : Try.prog.cellsOf 24 = 4 := by kernel_rfl
theorem cellsNodes : Try.prog.cellsOf 22 = 1 := by kernel_rfl
theorem cellsCell : Try.prog.cellsOf 32 = 2 := by kernel_rfl

section
variable {H : Type} {enc : TypeId × Value → H} {w : World} {sp : Nat → Bool} {held : Bool} {base : Nat}

theorem open_slice_lt {P : Program} {t e : TypeId} {fuel : Nat} {cs : List Value} {x : DataW H × List MemPlace} (ht : P.underlying t = some (.slice e)) (h : DataW.trod enc P w base sp held fuel t cs = some x) :
    cs = [.slice none 0 0] ∨ ∃ (a : Addr) (len cap n : Nat), fuel = n + 1 ∧ cs = [.slice (some a) len cap] ∧ len ≤ cap ∧ cap ≤ maxLen ∧
      ∀ i, i < len → ∃ cs' y, w.cells? base (a.add (i * P.cellsOf e)) (P.cellsOf e) = some cs' ∧ DataW.trod enc P w base sp held n e cs' = some y := by
  rcases DataW.trod_slice ht h with ⟨h0, _⟩ | ⟨a, len, cap, elems, rest, n, hf, hcs, _, _, hl, hm, hlen, hel, _⟩
  · exact .inl h0
  · refine .inr ⟨a, len, cap, n, hf, hcs, hl, hm, fun i hi => ?_⟩
    have := hel i hi
    rw [List.getElem?_eq_getElem (by omega)] at this
    obtain ⟨cs', h1, h2⟩ := Option.bind_eq_some_iff.1 this
    exact ⟨cs', _, h1, h2⟩

theorem ints_open {fuel : Nat} {v : Value} {x : DataW H × List MemPlace} (h : DataW.trod enc Try.prog w base sp held fuel 26 [v] = some x) : ∃ l, IntsAt w v l := by
  rcases open_ints Try.underlying26 Try.underlying3 cellsInt h with ⟨hcs, _⟩ | ⟨a, len, cap, zs, hcs, _, hl, hm, hz, _, hcell, hwz⟩
  · simp at hcs
    exact ⟨[], ⟨none, 0, hcs, Nat.le_refl _, by unfold maxLen; omega, fun h => absurd h (by decide)⟩, by simp⟩
  · simp at hcs
    have hlz : len ≤ zs.length := by rw [hz]; split <;> omega
    have hlen : (zs.take len).length = len := by rw [List.length_take]; omega
    refine ⟨zs.take len, ⟨some a, cap, by rw [hlen]; exact hcs, by omega, hm, fun hp => ?_⟩, fun y hy => i64_of (hwz y (List.mem_of_mem_take hy))⟩
    obtain ⟨b, off, spot⟩ := a
    have k0 := hcell 0 (by omega)
    have hspot : spot = none := by simpa [Addr.add] using World.cell?_spot k0
    subst hspot
    have hb : b < w.heap.size := by simpa [Addr.add] using World.block_lt_of_cell? w _ k0
    refine ⟨b, off, rfl, hb, fun i y hy => ?_⟩
    rw [List.getElem?_take] at hy
    split at hy
    · have := hcell i (by omega)
      rw [Go.WideShapes.add_plain] at this
      rw [this, List.getD_eq_getElem?_getD, hy]
      rfl
    · cases hy

theorem env_open {fuel : Nat} {v : Value} {x : DataW H × List MemPlace} (h : DataW.trod enc Try.prog w base sp held fuel 25 [v] = some x) : ∃ l, EnvAt w v l := by
  rcases open_slice_lt Try.underlying25 h with hcs | ⟨a, len, cap, n, _, hcs, hl, hm, hi⟩
  · simp at hcs
    exact ⟨[], ⟨none, 0, hcs, Nat.le_refl _, by unfold maxLen; omega, fun h => absurd h (by decide)⟩, by simp⟩
  · simp at hcs
    obtain ⟨L, hL, hp⟩ := list_of len (fun i (c : ByteArray × List Int) => (w.cell? (a.add (i * 2)) = some (.string c.1) ∧ ∃ u, w.cell? (a.add (i * 2 + 1)) = some u ∧ IntsAt w u c.2) ∧ c.1.size ≤ maxLen) (fun i hil => by
      obtain ⟨cs', y, hc, ht'⟩ := hi i (by omega)
      rw [cellsCell] at hc
      obtain ⟨_, hcl, hat⟩ := World.cells?_some hc
      obtain ⟨xs, n', _, _, _, hxl, hff⟩ := DataW.trod_struct Try.underlying32 ht'
      match cs', hcl, xs, hxl with
      | [c0, c1], _, [x0, x1], _ =>
        have g0 : DataW.trod enc Try.prog w base sp held n' 9 (([c0, c1].drop 0).take (Try.prog.cellsOf 9)) = some x0 := hff 0 _ rfl
        have g1 : DataW.trod enc Try.prog w base sp held n' 26 (([c0, c1].drop 1).take (Try.prog.cellsOf 26)) = some x1 := hff 1 _ rfl
        rw [cellsStr] at g0; rw [cellsInts] at g1
        obtain ⟨tx, e0, _, wt⟩ := DataW.trod_string Try.underlying9 g0
        obtain ⟨l, hl1⟩ := ints_open g1
        simp at e0
        subst e0
        have k0 := hat 0 (by omega)
        have k1 := hat 1 (by omega)
        rw [Go.Deep.add_add] at k0 k1
        exact ⟨⟨tx, l⟩, ⟨k0, c1, k1, hl1⟩, wt⟩)
    refine ⟨L, ⟨some a, cap, by rw [hL]; exact hcs, by omega, hm, fun hp0 => ?_⟩, fun d hd => ?_⟩
    · obtain ⟨b, off, spot⟩ := a
      obtain ⟨d0, hd0⟩ : ∃ d, L[0]? = some d := ⟨_, List.getElem?_eq_getElem hp0⟩
      have k0 := (hp 0 d0 hd0).1.1
      have hspot : spot = none := by simpa [Addr.add] using World.cell?_spot k0
      subst hspot
      have hb : b < w.heap.size := by simpa [Addr.add] using World.block_lt_of_cell? w _ k0
      refine ⟨b, off, rfl, hb, fun i d hd => ?_⟩
      have h1 := (hp i d hd).1
      simp only [Go.WideShapes.add_plain] at h1
      exact h1
    · obtain ⟨i, hi⟩ := List.getElem?_of_mem hd
      exact (hp i d hi).2

theorem node_open : ∀ (fuel : Nat) (cs : List Value) (x : DataW H × List MemPlace), DataW.trod enc Try.prog w base sp held fuel 24 cs = some x → ∃ c0 c1 c2 c3 t, cs = [c0, c1, c2, c3] ∧ NodeAt w (.agg #[c0, c1, c2, c3]) t := by
  intro fuel
  induction fuel using Nat.strongRecOn with
  | _ fuel ih =>
    intro cs x h
    obtain ⟨xs, n', hfu, _, hcl, hxl, hff⟩ := DataW.trod_struct Try.underlying24 h
    rw [cellsNode] at hcl
    match cs, hcl, xs, hxl with
    | [c0, c1, c2, c3], _, [x0, x1, x2, x3], _ =>
      have g0 : DataW.trod enc Try.prog w base sp held n' 5 (([c0, c1, c2, c3].drop 0).take (Try.prog.cellsOf 5)) = some x0 := hff 0 _ rfl
      have g1 : DataW.trod enc Try.prog w base sp held n' 3 (([c0, c1, c2, c3].drop 1).take (Try.prog.cellsOf 3)) = some x1 := hff 1 _ rfl
      have g2 : DataW.trod enc Try.prog w base sp held n' 9 (([c0, c1, c2, c3].drop 2).take (Try.prog.cellsOf 9)) = some x2 := hff 2 _ rfl
      have g3 : DataW.trod enc Try.prog w base sp held n' 22 (([c0, c1, c2, c3].drop 3).take (Try.prog.cellsOf 22)) = some x3 := hff 3 _ rfl
      rw [cellsU8] at g0; rw [cellsInt] at g1; rw [cellsStr] at g2; rw [cellsNodes] at g3
      obtain ⟨kd, e0, _, wk⟩ := DataW.trod_int Try.underlying5 g0
      obtain ⟨nm, e1, _, wn⟩ := DataW.trod_int Try.underlying3 g1
      obtain ⟨tx, e2, _, wt⟩ := DataW.trod_string Try.underlying9 g2
      simp at e0 e1 e2
      subst e0 e1 e2
      suffices hk : ∃ ks, KidsAt w c3 ks by
        obtain ⟨ks, hk⟩ := hk
        exact ⟨_, _, _, _, .mk kd nm tx ks, rfl, NodeAt.mk_iff.2 ⟨c3, rfl, u8_of wk, i64_of wn, wt, hk⟩⟩
      have g3' : DataW.trod enc Try.prog w base sp held n' 22 [c3] = some x3 := g3
      rcases open_slice_lt Try.underlying22 g3' with hcs | ⟨a, len, cap, m, hm', hcs, hl, hm, hi⟩
      · simp at hcs
        exact ⟨[], none, 0, hcs, Nat.le_refl _, by unfold maxLen; omega, fun h => absurd h (by decide)⟩
      · simp at hcs
        obtain ⟨L, hL, hp⟩ := list_of len (fun i (t : T) => ∃ c0 c1 c2 c3, w.cell? (a.add (i * 4)) = some c0 ∧ w.cell? (a.add (i * 4 + 1)) = some c1 ∧ w.cell? (a.add (i * 4 + 2)) = some c2 ∧ w.cell? (a.add (i * 4 + 3)) = some c3 ∧ NodeAt w (.agg #[c0, c1, c2, c3]) t) (fun i hil => by
          obtain ⟨cs', y, hc, ht'⟩ := hi i (by omega)
          rw [cellsNode] at hc
          obtain ⟨_, _, hat⟩ := World.cells?_some hc
          obtain ⟨d0, d1, d2, d3, t, rfl, ht⟩ := ih m (by omega) cs' y ht'
          have k0 := hat 0 (by omega)
          have k1 := hat 1 (by omega)
          have k2 := hat 2 (by omega)
          have k3 := hat 3 (by omega)
          rw [Go.Deep.add_add] at k0 k1 k2 k3
          exact ⟨t, d0, d1, d2, d3, k0, k1, k2, k3, ht⟩)
        refine ⟨L, some a, cap, by rw [hL]; exact hcs, by omega, hm, fun hp0 => ?_⟩
        obtain ⟨b, off, spot⟩ := a
        obtain ⟨d0, hd0⟩ : ∃ d, L[0]? = some d := ⟨_, List.getElem?_eq_getElem hp0⟩
        obtain ⟨_, _, _, _, k0, _⟩ := hp 0 d0 hd0
        have hspot : spot = none := by simpa [Addr.add] using World.cell?_spot k0
        subst hspot
        have hb : b < w.heap.size := by simpa [Addr.add] using World.block_lt_of_cell? w _ k0
        refine ⟨b, off, rfl, hb, NodesAt.of fun i t ht => ?_⟩
        have h1 := hp i t ht
        simp only [Go.WideShapes.add_plain] at h1
        simpa [Nat.add_assoc] using h1

theorem node_top {r : Reach} {b0 : Nat} {v : Value} {d : DataW H} {p : List MemPlace} (hv : Value.okWide Try.prog w r b0 24 v) (h : DataW.Trod enc Try.prog w base sp held 24 v d p) : ∃ t, NodeAt w v t := by
  obtain ⟨cs, rfl, hsz⟩ := okWide_struct Try.underlying24 hv
  obtain ⟨fuel, hf⟩ := h
  have hf' : DataW.trod enc Try.prog w base sp held fuel 24 cs.toList = some (d, p) := by simpa [Value.cells] using hf
  obtain ⟨c0, c1, c2, c3, t, he, ht⟩ := node_open fuel _ _ hf'
  have : cs = #[c0, c1, c2, c3] := by rw [← Array.toList_inj, he]
  rw [this]
  exact ⟨t, ht⟩

theorem one_cell {t e : TypeId} {r : Reach} {b0 : Nat} {v : Value} {d : DataW H} {p : List MemPlace} (ht : Try.prog.underlying t = some (.slice e)) (hv : Value.okWide Try.prog w r b0 t v) (h : DataW.Trod enc Try.prog w base sp held t v d p) :
    ∃ fuel, DataW.trod enc Try.prog w base sp held fuel t [v] = some (d, p) := by
  obtain ⟨a0, len, cap, rfl⟩ := okWide_slice ht hv
  obtain ⟨fuel, hf⟩ := h
  exact ⟨fuel, by simpa [Value.cells] using hf⟩
end

theorem ints_top {H : Type} {enc : TypeId × Value → H} {w : World} {sp : Nat → Bool} {held : Bool} {base : Nat} {r : Reach} {b0 : Nat} {v : Value} {d : DataW H} {p : List MemPlace} (hv : Value.okWide Try.prog w r b0 26 v) (h : DataW.Trod enc Try.prog w base sp held 26 v d p) : ∃ l, IntsAt w v l := by
  obtain ⟨fuel, hf⟩ := one_cell Try.underlying26 hv h
  exact ints_open hf
theorem env_top {H : Type} {enc : TypeId × Value → H} {w : World} {sp : Nat → Bool} {held : Bool} {base : Nat} {r : Reach} {b0 : Nat} {v : Value} {d : DataW H} {p : List MemPlace} (hv : Value.okWide Try.prog w r b0 25 v) (h : DataW.Trod enc Try.prog w base sp held 25 v d p) : ∃ l, EnvAt w v l := by
  obtain ⟨fuel, hf⟩ := one_cell Try.underlying25 hv h
  exact env_open hf

end Go.Proofs.Ytlpmoklcdocmmaa
