/- Trees in memory whose blocks are known by a predicate. -/
import Derived.Test.YtlpmoklcdocmmaaEvF1
namespace Go.Proofs.Ytlpmoklcdocmmaa
open Go.RowKit

mutual
def NodeP (P : Nat → Prop) (w : World) (v : Value) : T → Prop
  | .mk k n s ks => ∃ u, v = .agg #[.int .u8 k, .int .i64 n, .string s, u] ∧ (0 ≤ k ∧ k ≤ 255) ∧ I64 n ∧ s.size ≤ maxLen ∧
      ∃ a c, u = .slice a ks.length c ∧ ks.length ≤ c ∧ c ≤ maxLen ∧ (0 < ks.length → ∃ g o, a = some ⟨g, o, none⟩ ∧ P g ∧ NodesP P w g o ks)
def NodesP (P : Nat → Prop) (w : World) (g o : Nat) : List T → Prop
  | [] => True
  | t :: ts => (∃ c0 c1 c2 c3, w.cell? ⟨g, o, none⟩ = some c0 ∧ w.cell? ⟨g, o + 1, none⟩ = some c1 ∧ w.cell? ⟨g, o + 2, none⟩ = some c2 ∧ w.cell? ⟨g, o + 3, none⟩ = some c3 ∧ NodeP P w (.agg #[c0, c1, c2, c3]) t) ∧
      NodesP P w g (o + 4) ts
end
def KidsP (P : Nat → Prop) (w : World) (u : Value) (ks : List T) : Prop := ∃ a c, u = .slice a ks.length c ∧ ks.length ≤ c ∧ c ≤ maxLen ∧ (0 < ks.length → ∃ g o, a = some ⟨g, o, none⟩ ∧ P g ∧ NodesP P w g o ks)
theorem NodeP.mk_iff {P : Nat → Prop} {w : World} {v : Value} {k n : Int} {s : ByteArray} {ks : List T} :
    NodeP P w v (.mk k n s ks) ↔ ∃ u, v = .agg #[.int .u8 k, .int .i64 n, .string s, u] ∧ (0 ≤ k ∧ k ≤ 255) ∧ I64 n ∧ s.size ≤ maxLen ∧ KidsP P w u ks := by
  rw [NodeP]; rfl
theorem NodesP.of {P : Nat → Prop} {w : World} {g : Nat} : ∀ {ks : List T} {o : Nat}, (∀ (i : Nat) (t : T), ks[i]? = some t →
    ∃ c0 c1 c2 c3, w.cell? ⟨g, o + i * 4, none⟩ = some c0 ∧ w.cell? ⟨g, o + i * 4 + 1, none⟩ = some c1 ∧ w.cell? ⟨g, o + i * 4 + 2, none⟩ = some c2 ∧ w.cell? ⟨g, o + i * 4 + 3, none⟩ = some c3 ∧ NodeP P w (.agg #[c0, c1, c2, c3]) t) → NodesP P w g o ks
  | [], o, _ => by rw [NodesP]; trivial
  | t :: ts, o, h => by
    rw [NodesP]
    refine ⟨by simpa using h 0 t rfl, NodesP.of fun i t' e => ?_⟩
    have := h (i + 1) t' (by simpa using e)
    rw [show o + (i + 1) * 4 = o + 4 + i * 4 by omega] at this
    exact this
mutual
theorem NodeP.frame {P P' : Nat → Prop} {w w' : World} (hc : ∀ g j u, P g → w.cell? ⟨g, j, none⟩ = some u → w'.cell? ⟨g, j, none⟩ = some u) (hp : ∀ g, P g → P' g) {v : Value} : ∀ {t : T}, NodeP P w v t → NodeP P' w' v t
  | .mk k n s ks => fun h => by
    rw [NodeP] at h ⊢
    obtain ⟨u, h1, h2, h3, h4, a, c, h5, h6, h7, h8⟩ := h
    refine ⟨u, h1, h2, h3, h4, a, c, h5, h6, h7, fun hpos => ?_⟩
    obtain ⟨g, o, r1, r2, r3⟩ := h8 hpos
    exact ⟨g, o, r1, hp g r2, NodesP.frame hc hp r2 r3⟩
theorem NodesP.frame {P P' : Nat → Prop} {w w' : World} (hc : ∀ g j u, P g → w.cell? ⟨g, j, none⟩ = some u → w'.cell? ⟨g, j, none⟩ = some u) (hp : ∀ g, P g → P' g) {g o : Nat} (hg : P g) : ∀ {ks : List T}, NodesP P w g o ks → NodesP P' w' g o ks
  | [] => fun _ => by rw [NodesP]; trivial
  | t :: ts => fun h => by
    rw [NodesP] at h ⊢
    obtain ⟨⟨c0, c1, c2, c3, k0, k1, k2, k3, k4⟩, h2⟩ := h
    exact ⟨⟨c0, c1, c2, c3, hc _ _ _ hg k0, hc _ _ _ hg k1, hc _ _ _ hg k2, hc _ _ _ hg k3, NodeP.frame hc hp k4⟩, NodesP.frame hc hp hg h2⟩
end
mutual
theorem NodeP.at_ {P : Nat → Prop} {w : World} (hp : ∀ g, P g → g < w.heap.size) {v : Value} : ∀ {t : T}, NodeP P w v t → NodeAt w v t
  | .mk k n s ks => fun h => by
    rw [NodeP] at h; rw [NodeAt]
    obtain ⟨u, h1, h2, h3, h4, a, c, h5, h6, h7, h8⟩ := h
    refine ⟨u, h1, h2, h3, h4, a, c, h5, h6, h7, fun hpos => ?_⟩
    obtain ⟨g, o, r1, r2, r3⟩ := h8 hpos
    exact ⟨g, o, r1, hp g r2, NodesP.at_ hp r3⟩
theorem NodesP.at_ {P : Nat → Prop} {w : World} (hp : ∀ g, P g → g < w.heap.size) {g o : Nat} : ∀ {ks : List T}, NodesP P w g o ks → NodesAt w g o ks
  | [] => fun _ => by rw [NodesAt]; trivial
  | t :: ts => fun h => by
    rw [NodesP] at h; rw [NodesAt]
    obtain ⟨⟨c0, c1, c2, c3, k0, k1, k2, k3, k4⟩, h2⟩ := h
    exact ⟨⟨c0, c1, c2, c3, k0, k1, k2, k3, NodeP.at_ hp k4⟩, NodesP.at_ hp h2⟩
end
mutual
theorem NodeAt.toP {w : World} {v : Value} : ∀ {t : T}, NodeAt w v t → NodeP (· < w.heap.size) w v t
  | .mk k n s ks => fun h => by
    rw [NodeAt] at h; rw [NodeP]
    obtain ⟨u, h1, h2, h3, h4, a, c, h5, h6, h7, h8⟩ := h
    refine ⟨u, h1, h2, h3, h4, a, c, h5, h6, h7, fun hpos => ?_⟩
    obtain ⟨g, o, r1, r2, r3⟩ := h8 hpos
    exact ⟨g, o, r1, r2, NodesAt.toP r3⟩
theorem NodesAt.toP {w : World} {g o : Nat} : ∀ {ks : List T}, NodesAt w g o ks → NodesP (· < w.heap.size) w g o ks
  | [] => fun _ => by rw [NodesP]; trivial
  | t :: ts => fun h => by
    rw [NodesAt] at h; rw [NodesP]
    obtain ⟨⟨c0, c1, c2, c3, k0, k1, k2, k3, k4⟩, h2⟩ := h
    exact ⟨⟨c0, c1, c2, c3, k0, k1, k2, k3, NodeAt.toP k4⟩, NodesAt.toP h2⟩
end

/-- old blocks, or blocks of nodes from E on -/
def PB (B E : Nat) (w : World) (g : Nat) : Prop := g < B ∨ E ≤ g ∧ ∃ cs, Blk w g 24 cs
theorem PB.lt {B E : Nat} {w : World} {g : Nat} (h : PB B E w g) (hB : B ≤ w.heap.size) : g < w.heap.size := by
  rcases h with h | ⟨_, cs, h⟩
  · omega
  · exact h.lt
/-- what it stands on has not turned -/
theorem NodeP.far {B E E' : Nat} {w w' : World} {v : Value} {t : T} (h : NodeP (PB B E w) w v t) (hE : E' ≤ E) (hw : ∀ g, PB B E w g → w'.heap[g]? = w.heap[g]?) : NodeP (PB B E' w') w' v t :=
  h.frame (fun g j u hp hu => by rw [World.cell?_of_block (a := ⟨g, j, none⟩) (hw g hp)]; exact hu) (fun g hp => by
    rcases hp with hp | ⟨h1, cs, hp⟩
    · exact .inl hp
    · exact .inr ⟨Nat.le_trans hE h1, cs, (hw g (.inr ⟨h1, cs, hp⟩)).trans hp⟩)
theorem NodeP.next {B E E' : Nat} {w w' : World} {v : Value} {t : T} (h : NodeP (PB B E w) w v t) (hB : B ≤ w.heap.size) (hE : E' ≤ E) (hb : Below w.heap.size w w') : NodeP (PB B E' w') w' v t :=
  h.far hE (fun g hg => hb.block g (hg.lt hB))
/-- a row of another type turned -/
theorem NodeP.grown {B E : Nat} {w w' : World} {v : Value} {t : T} (h : NodeP (PB B E w) w v t) (hB : B ≤ w.heap.size) {row : Option Nat} (hg : w.grownBy w' row) (hr : ∀ g, row = some g → B ≤ g ∧ ∀ cs, ¬ Blk w g 24 cs) : NodeP (PB B E w') w' v t :=
  h.far (Nat.le_refl _) (fun g hp => hg.block g (hp.lt hB) (fun e => by
    obtain ⟨h1, h2⟩ := hr g e.symm
    rcases hp with hp | ⟨_, cs, hp⟩
    · omega
    · exact h2 cs hp))
theorem NodeP.form {P : Nat → Prop} {w : World} {v : Value} {t : T} (h : NodeP P w v t) : ∃ kd nm s a n c, v = .agg #[.int .u8 kd, .int .i64 nm, .string s, .slice a n c] := by
  obtain ⟨k, n, s, ks⟩ := t
  obtain ⟨u, rfl, _, _, _, a, c, rfl, _⟩ := NodeP.mk_iff.1 h
  exact ⟨_, _, _, _, _, _, rfl⟩

theorem kidsP_none (P : Nat → Prop) (w : World) : KidsP P w (.slice none 0 0) [] := ⟨none, 0, rfl, Nat.le_refl _, by unfold maxLen; omega, fun h => absurd h (by decide)⟩
theorem leaf_p (P : Nat → Prop) (w : World) (k n : Int) (s : ByteArray) (hk : 0 ≤ k ∧ k ≤ 255) (hn : I64 n) (hs : s.size ≤ maxLen) : NodeP P w (.agg #[.int .u8 k, .int .i64 n, .string s, .slice none 0 0]) (.mk k n s []) :=
  NodeP.mk_iff.2 ⟨_, rfl, hk, hn, hs, kidsP_none P w⟩
theorem natp (P : Nat → Prop) (w : World) (n : Int) (h : I64 n) : NodeP P w (.agg #[.int .u8 1, .int .i64 n, .string ⟨#[]⟩, .slice none 0 0]) (tN n) := leaf_p P w 1 n _ (by decide) h (by decide)
theorem kids1_p {P : Nat → Prop} {w : World} {g : Nat} {kd nm : Int} {s : ByteArray} {a : Option Addr} {n c : Nat} {t : T} (hb : Blk w g 24 #[.int .u8 kd, .int .i64 nm, .string s, .slice a n c]) (hP : P g) (h : NodeP P w (.agg #[.int .u8 kd, .int .i64 nm, .string s, .slice a n c]) t) :
    KidsP P w (.slice (some ⟨g, 0, none⟩) 1 1) [t] := by
  refine ⟨_, 1, rfl, Nat.le_refl _, by unfold maxLen; omega, fun _ => ⟨g, 0, rfl, hP, NodesP.of fun i t' ht => ?_⟩⟩
  match i, ht with
  | 0, ht =>
    simp at ht; subst ht
    exact ⟨_, _, _, _, hb.cell 0, hb.cell 1, hb.cell 2, hb.cell 3, h⟩
theorem kids2_p {P : Nat → Prop} {w : World} {g : Nat} {kd nm : Int} {s : ByteArray} {a : Option Addr} {n c : Nat} {t : T} {kd2 nm2 : Int} {s2 : ByteArray} {a2 : Option Addr} {n2 c2 : Nat} {t2 : T}
    (hb : Blk w g 24 #[.int .u8 kd, .int .i64 nm, .string s, .slice a n c, .int .u8 kd2, .int .i64 nm2, .string s2, .slice a2 n2 c2]) (hP : P g) (h : NodeP P w (.agg #[.int .u8 kd, .int .i64 nm, .string s, .slice a n c]) t) (h2 : NodeP P w (.agg #[.int .u8 kd2, .int .i64 nm2, .string s2, .slice a2 n2 c2]) t2) :
    KidsP P w (.slice (some ⟨g, 0, none⟩) 2 2) [t, t2] := by
  refine ⟨_, 2, rfl, Nat.le_refl _, by unfold maxLen; omega, fun _ => ⟨g, 0, rfl, hP, NodesP.of fun i t' ht => ?_⟩⟩
  match i, ht with
  | 0, ht =>
    simp at ht; subst ht
    exact ⟨_, _, _, _, hb.cell 0, hb.cell 1, hb.cell 2, hb.cell 3, h⟩
  | 1, ht =>
    simp at ht; subst ht
    exact ⟨_, _, _, _, hb.cell 4, hb.cell 5, hb.cell 6, hb.cell 7, h2⟩
end Go.Proofs.Ytlpmoklcdocmmaa
