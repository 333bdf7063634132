/- Machines and images in memory. -/
import Derived.Test.YtichiccohmeecaaDoorWhP8
import Derived.Test.YtichiccohmeecaaDoorMem
import Derived.Test.YtichiccohmeecaaDoorShelf
import Derived.Deep.Slices
import Derived.Deep.QuietTactic
import Derived.BigQuiet
import Derived.Deep.RegionHeld3
import Derived.IntWalk
namespace Go.Proofs.YtichiccohmeecaaDoor
open Go.RowKit

/-! rows known by a function -/
def arr (M : Nat) (f : Nat → Value) : Array Value := ((List.range M).map f).toArray
theorem arr_get {M j : Nat} (f : Nat → Value) (h : j < M) : (arr M f)[j]? = some (f j) := by simp [arr, h]
theorem arr_set {M k : Nat} (f : Nat → Value) (v : Value) : (arr M f).setIfInBounds k v = arr M (fun j => if j = k then v else f j) := by
  apply Array.ext
  · simp [arr]
  · intro i h1 h2
    have hi : i < M := by simpa [arr] using h2
    rw [Array.getElem_setIfInBounds (by simpa [arr] using hi)]
    simp only [arr, List.getElem_toArray, List.getElem_map, List.getElem_range]
    by_cases e : k = i
    · rw [if_pos e, if_pos e.symm]
    · rw [if_neg e, if_neg (fun h => e h.symm)]
theorem arr_congr {M : Nat} {f f' : Nat → Value} (h : ∀ j, j < M → f j = f' j) : arr M f = arr M f' := by
  unfold arr
  congr 1
  apply List.map_congr_left
  intro j hj
  exact h j (by simpa using hj)

/-! what stands but the blocks of S -/
structure Touch (S : Nat → Prop) (w w' : World) : Prop where
  os : w'.os = w.os
  tape : w'.tape = w.tape
  output : w'.output = w.output
  size : w.heap.size ≤ w'.heap.size
  block : ∀ j, j < w.heap.size → ¬ S j → w'.heap[j]? = w.heap[j]?
theorem Touch.refl (S : Nat → Prop) (w : World) : Touch S w w := ⟨rfl, rfl, rfl, Nat.le_refl _, fun _ _ _ => rfl⟩
theorem Touch.trans {S T : Nat → Prop} {a b c : World} (h : Touch S a b) (h2 : Touch T b c) (hT : ∀ j, j < a.heap.size → T j → S j) : Touch S a c :=
  ⟨h2.os.trans h.os, h2.tape.trans h.tape, h2.output.trans h.output, Nat.le_trans h.size h2.size, fun j hj hn => (h2.block j (Nat.lt_of_lt_of_le hj h.size) (fun t => hn (hT j hj t))).trans (h.block j hj hn)⟩
theorem Touch.of_below {S : Nat → Prop} {a b : World} (h : Below a.heap.size a b) : Touch S a b := ⟨h.os, h.tape, h.output, h.size, fun j hj _ => h.block j hj⟩
theorem Touch.of_set {S : Nat → Prop} {a b : World} (h : Touch S a b) {g : Nat} (hg : S g ∨ a.heap.size ≤ g) (i : Nat) (u : Value) : Touch S a (b.setCell ⟨g, i, none⟩ u) :=
  ⟨h.os, h.tape, h.output, by simpa [World.setCell] using h.size, fun j hj hn => (Below.heap_setCell b ⟨g, i, none⟩ u j (fun e => by
    have e : j = g := e
    subst e
    rcases hg with h | h
    · exact hn h
    · omega)).trans (h.block j hj hn)⟩
theorem Touch.alloc {S : Nat → Prop} {a b : World} (h : Touch S a b) (o : Obj) : Touch S a (b.alloc o) := h.trans (Touch.of_below (S := S) (below_alloc b o)) (fun _ _ h => h)
theorem Touch.below {S : Nat → Prop} {a b c : World} (h : Touch S a b) (hb : Below b.heap.size b c) : Touch S a c := h.trans (Touch.of_below (S := S) hb) (fun _ _ h => h)
theorem Touch.drew {S : Nat → Prop} {a b : World} (h : Touch S a b) : Touch S a b.drew := ⟨h.os, h.tape, h.output, h.size, h.block⟩
theorem Touch.drewN {S : Nat → Prop} {a b : World} (h : Touch S a b) (n : Nat) : Touch S a (b.drewN n) := ⟨h.os, h.tape, h.output, h.size, h.block⟩
theorem Touch.to_below {S : Nat → Prop} {W a b : World} {B : Nat} (h : Touch S a b) (hb : Below B W a) (hB : B ≤ W.heap.size) (hS : ∀ j, S j → B ≤ j) : Below B W b :=
  ⟨h.os.trans hb.os, h.tape.trans hb.tape, h.output.trans hb.output, Nat.le_trans hb.size h.size, fun j hj => (h.block j (by have := hb.size; omega) (fun t => by have := hS j t; omega)).trans (hb.block j hj)⟩
theorem Touch.grown {S : Nat → Prop} {a b c : World} {row : Option Nat} (h : Touch S a b) (hg : b.grownBy c row) (hr : ∀ j, row = some j → S j ∨ a.heap.size ≤ j) : Touch S a c :=
  ⟨hg.os.trans h.os, hg.tape.trans h.tape, hg.output.trans h.output, Nat.le_trans h.size hg.size, fun j hj hn => (hg.block j (Nat.lt_of_lt_of_le hj h.size) (fun e => by
    rcases hr j e.symm with h | h
    · exact hn h
    · omega)).trans (h.block j hj hn)⟩

/-- the blocks of P stand -/
def Keep (P : Nat → Prop) (w w' : World) : Prop := w.heap.size ≤ w'.heap.size ∧ ∀ j, j < w.heap.size → P j → w'.heap[j]? = w.heap[j]?
theorem Keep.of_touch {S P : Nat → Prop} {w w' : World} (h : Touch S w w') (hP : ∀ j, P j → ¬ S j) : Keep P w w' := ⟨h.size, fun j hj hp => h.block j hj (hP j hp)⟩
theorem Keep.of_below {P : Nat → Prop} {w w' : World} (h : Below w.heap.size w w') : Keep P w w' := ⟨h.size, fun j hj _ => h.block j hj⟩
theorem Keep.mono {P Q : Nat → Prop} {w w' : World} (h : Keep P w w') (hq : ∀ j, Q j → P j) : Keep Q w w' := ⟨h.1, fun j hj hp => h.2 j hj (hq j hp)⟩
theorem Keep.cell {P : Nat → Prop} {w w' : World} (h : Keep P w w') {g i : Nat} {u : Value} (hp : P g) (hc : w.cell? ⟨g, i, none⟩ = some u) : w'.cell? ⟨g, i, none⟩ = some u := by
  have hlt : g < w.heap.size := World.block_lt_of_cell? w _ hc
  have e := h.2 g hlt hp
  unfold World.cell? at hc ⊢
  dsimp only at hc ⊢
  rw [e]
  exact hc
theorem Keep.blk {P : Nat → Prop} {w w' : World} (h : Keep P w w') {g : Nat} {t : TypeId} {cs : Array Value} (hp : P g) (hb : Blk w g t cs) : Blk w' g t cs := (h.2 g hb.lt hp).trans hb
theorem Keep.own {P : Nat → Prop} {w w' : World} (h : Keep P w w') {base : Nat} {e : TypeId} {size n : Nat} {v : Value} {xs : List Value} (ho : w.ownsRow base e size v n xs) (hp : ∀ j, v.ownBlock = some j → P j) : w'.ownsRow base e size v n xs := by
  refine ⟨ho.1, ?_⟩
  rcases ho.2 with h0 | ⟨g, cap, cur, rfl, hg, hh, r⟩
  · exact .inl h0
  · exact .inr ⟨g, cap, cur, rfl, hg, (h.2 g (Array.getElem?_eq_some_iff.1 hh).1 (hp g rfl)).trans hh, r⟩

/-- a slice of n elements; where there is one, it lies at ⟨g, o⟩ in a block of P -/
def SliceIn (P : Nat → Prop) (w : World) (v : Value) (n : Nat) (Q : Nat → Nat → Prop) : Prop :=
  ∃ a c, v = .slice a n c ∧ n ≤ c ∧ c ≤ maxLen ∧ (0 < n → ∃ g o, a = some ⟨g, o, none⟩ ∧ g < w.heap.size ∧ P g ∧ Q g o)
theorem SliceIn.keep {P P' : Nat → Prop} {w w' : World} {v : Value} {n : Nat} {Q Q' : Nat → Nat → Prop} (h : SliceIn P w v n Q) (hs : w.heap.size ≤ w'.heap.size) (hp : ∀ g, P g → P' g) (hq : ∀ g o, P g → Q g o → Q' g o) : SliceIn P' w' v n Q' := by
  obtain ⟨a, c, rfl, h1, h2, h3⟩ := h
  refine ⟨a, c, rfl, h1, h2, fun hn => ?_⟩
  obtain ⟨g, o, rfl, hg, hp', hc⟩ := h3 hn
  exact ⟨g, o, rfl, Nat.lt_of_lt_of_le hg hs, hp g hp', hq g o hp' hc⟩

/-- a nil slice has no room -/
def NilOK (v : Value) : Prop := ∀ n c, v = .slice none n c → c = 0
def IntsIn (P : Nat → Prop) (w : World) (v : Value) (l : List Int) : Prop :=
  SliceIn P w v l.length (fun g o => ∀ i x, l[i]? = some x → w.cell? ⟨g, o + i, none⟩ = some (.int .i64 x)) ∧ NilOK v
def RowsIn (P : Nat → Prop) (w : World) (v : Value) (L : List (List Int)) : Prop :=
  SliceIn P w v L.length (fun g o => ∀ i l, L[i]? = some l → ∃ u, w.cell? ⟨g, o + i, none⟩ = some u ∧ IntsIn P w u l)
def ActsIn (P : Nat → Prop) (w : World) (v : Value) (l : List (Int × Bool)) : Prop :=
  SliceIn P w v l.length (fun g o => ∀ i x, l[i]? = some x → w.cell? ⟨g, o + i * 2, none⟩ = some (.int .i64 x.1) ∧ w.cell? ⟨g, o + i * 2 + 1, none⟩ = some (.bool x.2)) ∧ NilOK v
def CodeIn (P : Nat → Prop) (w : World) (v : Value) (C : List Ins) : Prop :=
  SliceIn P w v C.length (fun g o => ∀ i x, C[i]? = some x → w.cell? ⟨g, o + i * 5, none⟩ = some (.int .u8 x.op) ∧ w.cell? ⟨g, o + i * 5 + 1, none⟩ = some (.int .i64 x.a) ∧
    w.cell? ⟨g, o + i * 5 + 2, none⟩ = some (.int .i64 x.b) ∧ w.cell? ⟨g, o + i * 5 + 3, none⟩ = some (.int .i64 x.c) ∧ w.cell? ⟨g, o + i * 5 + 4, none⟩ = some (.int .i64 x.d))

theorem IntsIn.keep {P P' : Nat → Prop} {w w' : World} {v : Value} {l : List Int} (h : IntsIn P w v l) (hk : Keep P w w') (hp : ∀ g, P g → P' g) : IntsIn P' w' v l :=
  ⟨SliceIn.keep h.1 hk.1 hp (fun _ _ hg hq i x hx => hk.cell hg (hq i x hx)), h.2⟩
theorem RowsIn.keep {P P' : Nat → Prop} {w w' : World} {v : Value} {l : List (List Int)} (h : RowsIn P w v l) (hk : Keep P w w') (hp : ∀ g, P g → P' g) : RowsIn P' w' v l :=
  SliceIn.keep h hk.1 hp (fun _ _ hg hq i x hx => by
    obtain ⟨u, h1, h2⟩ := hq i x hx
    exact ⟨u, hk.cell hg h1, h2.keep hk hp⟩)
theorem ActsIn.keep {P P' : Nat → Prop} {w w' : World} {v : Value} {l : List (Int × Bool)} (h : ActsIn P w v l) (hk : Keep P w w') (hp : ∀ g, P g → P' g) : ActsIn P' w' v l :=
  ⟨SliceIn.keep h.1 hk.1 hp (fun _ _ hg hq i x hx => ⟨hk.cell hg (hq i x hx).1, hk.cell hg (hq i x hx).2⟩), h.2⟩
theorem CodeIn.keep {P P' : Nat → Prop} {w w' : World} {v : Value} {l : List Ins} (h : CodeIn P w v l) (hk : Keep P w w') (hp : ∀ g, P g → P' g) : CodeIn P' w' v l :=
  SliceIn.keep h hk.1 hp (fun _ _ hg hq i x hx => by
    obtain ⟨a, b, c, d, e⟩ := hq i x hx
    exact ⟨hk.cell hg a, hk.cell hg b, hk.cell hg c, hk.cell hg d, hk.cell hg e⟩)
theorem CodeIn.below {P : Nat → Prop} {w w' : World} {v : Value} {l : List Ins} (h : CodeIn P w v l) (hb : Below w.heap.size w w') : CodeIn P w' v l := h.keep (Keep.of_below hb) (fun _ h => h)

/-! the machine's cells -/
structure MV where
  vM : Value
  vS : Value
  vC : Value
  vI : Value
  vO : Value
  us : List Value
def mf (m : Mach) (V : MV) (j : Nat) : Value :=
  match j with
  | 0 => .int .i64 m.pc
  | 1 => .int .i64 m.dir
  | 18 => V.vM
  | 19 => V.vS
  | 20 => V.vC
  | 21 => .int .i64 m.fp
  | 22 => .int .i64 m.sb
  | 23 => V.vI
  | 24 => V.vO
  | j => .int .i64 (m.R (j - 2))
def mcs (m : Mach) (V : MV) : Array Value := arr 25 (mf m V)
def insV (i : Ins) : Value := .agg #[.int .u8 i.op, .int .i64 i.a, .int .i64 i.b, .int .i64 i.c, .int .i64 i.d]
def imV (vc : Value) (im : Im) : Value := .agg #[vc, .int .i64 im.mem, .int .i64 im.stacks]
def machV (m : Mach) (V : MV) : Value :=
  .agg #[.int .i64 m.pc, .int .i64 m.dir, .agg #[.int .i64 (m.R 0), .int .i64 (m.R 1), .int .i64 (m.R 2), .int .i64 (m.R 3), .int .i64 (m.R 4), .int .i64 (m.R 5), .int .i64 (m.R 6), .int .i64 (m.R 7),
    .int .i64 (m.R 8), .int .i64 (m.R 9), .int .i64 (m.R 10), .int .i64 (m.R 11), .int .i64 (m.R 12), .int .i64 (m.R 13), .int .i64 (m.R 14), .int .i64 (m.R 15)], V.vM, V.vS, V.vC, .int .i64 m.fp, .int .i64 m.sb, V.vI, V.vO]

theorem mf_reg (m : Mach) (V : MV) {a : Nat} (h : a < 16) : mf m V (2 + a) = .int .i64 (m.R a) := by
  have : a = 0 ∨ a = 1 ∨ a = 2 ∨ a = 3 ∨ a = 4 ∨ a = 5 ∨ a = 6 ∨ a = 7 ∨ a = 8 ∨ a = 9 ∨ a = 10 ∨ a = 11 ∨ a = 12 ∨ a = 13 ∨ a = 14 ∨ a = 15 := by omega
  rcases this with rfl | rfl | rfl | rfl | rfl | rfl | rfl | rfl | rfl | rfl | rfl | rfl | rfl | rfl | rfl | rfl <;> rfl
theorem mcs_get (m : Mach) (V : MV) {j : Nat} (h : j < 25) : (mcs m V)[j]? = some (mf m V j) := arr_get _ h
theorem mcs_set {m m' : Mach} {V V' : MV} {k : Nat} {u : Value} (h : ∀ j, j < 25 → mf m' V' j = if j = k then u else mf m V j) : (mcs m V).setIfInBounds k u = mcs m' V' := by
  unfold mcs
  rw [arr_set]
  exact arr_congr (fun j hj => (h j hj).symm)
theorem mcs_reg (m : Mach) (V : MV) {a : Nat} (h : a < 16) (x : Int) : (mcs m V).setIfInBounds (2 + a) (.int .i64 x) = mcs { m with R := upd m.R a x } V := by
  refine mcs_set (fun j hj => ?_)
  have : j = 0 ∨ j = 1 ∨ (∃ b, b < 16 ∧ j = 2 + b) ∨ j = 18 ∨ j = 19 ∨ j = 20 ∨ j = 21 ∨ j = 22 ∨ j = 23 ∨ j = 24 := by
    by_cases h1 : j < 2
    · omega
    · by_cases h2 : j < 18
      · exact .inr (.inr (.inl ⟨j - 2, by omega, by omega⟩))
      · omega
  rcases this with rfl | rfl | ⟨b, hb, rfl⟩ | rfl | rfl | rfl | rfl | rfl | rfl | rfl
  · rw [if_neg (by omega)]; rfl
  · rw [if_neg (by omega)]; rfl
  · rw [mf_reg _ _ hb, mf_reg _ _ hb]
    show Value.int .i64 (upd m.R a x b) = _
    by_cases e : b = a
    · subst e; rw [upd_self, if_pos rfl]
    · rw [upd_ne _ _ e, if_neg (by omega)]
  all_goals (rw [if_neg (by omega)]; rfl)
theorem mcs_at (m m' : Mach) (V V' : MV) (k : Nat) (u : Value) (hk : k < 2 ∨ 18 ≤ k) (hR : m'.R = m.R) (h : ∀ j, (j < 2 ∨ 18 ≤ j) → j < 25 → mf m' V' j = if j = k then u else mf m V j) : (mcs m V).setIfInBounds k u = mcs m' V' := by
  refine mcs_set (fun j hj => ?_)
  by_cases hj2 : j < 2 ∨ 18 ≤ j
  · exact h j hj2 hj
  · obtain ⟨b, hb, rfl⟩ : ∃ b, b < 16 ∧ j = 2 + b := ⟨j - 2, by omega, by omega⟩
    rw [mf_reg _ _ hb, mf_reg _ _ hb, hR, if_neg (by omega)]
theorem cell9 {P : Nat → Prop} (h0 : P 0) (h1 : P 1) (h18 : P 18) (h19 : P 19) (h20 : P 20) (h21 : P 21) (h22 : P 22) (h23 : P 23) (h24 : P 24) : ∀ j, (j < 2 ∨ 18 ≤ j) → j < 25 → P j := fun j h1 h2 => by
  have : j = 0 ∨ j = 1 ∨ j = 18 ∨ j = 19 ∨ j = 20 ∨ j = 21 ∨ j = 22 ∨ j = 23 ∨ j = 24 := by omega
  rcases this with rfl | rfl | rfl | rfl | rfl | rfl | rfl | rfl | rfl <;> assumption
theorem mcs_pc (m : Mach) (V : MV) (x : Int) : (mcs m V).setIfInBounds 0 (.int .i64 x) = mcs { m with pc := x } V :=
  mcs_at _ _ _ _ _ _ (by omega) rfl (cell9 rfl rfl rfl rfl rfl rfl rfl rfl rfl)
theorem mcs_dir (m : Mach) (V : MV) (x : Int) : (mcs m V).setIfInBounds 1 (.int .i64 x) = mcs { m with dir := x } V :=
  mcs_at _ _ _ _ _ _ (by omega) rfl (cell9 rfl rfl rfl rfl rfl rfl rfl rfl rfl)
theorem mcs_fp (m : Mach) (V : MV) (x : Int) : (mcs m V).setIfInBounds 21 (.int .i64 x) = mcs { m with fp := x } V :=
  mcs_at _ _ _ _ _ _ (by omega) rfl (cell9 rfl rfl rfl rfl rfl rfl rfl rfl rfl)
theorem mcs_sb (m : Mach) (V : MV) (x : Int) : (mcs m V).setIfInBounds 22 (.int .i64 x) = mcs { m with sb := x } V :=
  mcs_at _ _ _ _ _ _ (by omega) rfl (cell9 rfl rfl rfl rfl rfl rfl rfl rfl rfl)
theorem mcs_calls (m : Mach) (V : MV) (u : Value) (l : List (Int × Bool)) : (mcs m V).setIfInBounds 20 u = mcs { m with calls := l } { V with vC := u } :=
  mcs_at _ _ _ _ _ _ (by omega) rfl (cell9 rfl rfl rfl rfl rfl rfl rfl rfl rfl)
theorem mcs_inp (m : Mach) (V : MV) (u : Value) (l : List Int) : (mcs m V).setIfInBounds 23 u = mcs { m with inp := l } { V with vI := u } :=
  mcs_at _ _ _ _ _ _ (by omega) rfl (cell9 rfl rfl rfl rfl rfl rfl rfl rfl rfl)
theorem mcs_out (m : Mach) (V : MV) (u : Value) (l : List Int) : (mcs m V).setIfInBounds 24 u = mcs { m with out := l } { V with vO := u } :=
  mcs_at _ _ _ _ _ _ (by omega) rfl (cell9 rfl rfl rfl rfl rfl rfl rfl rfl rfl)

/-! a machine to be read -/
structure RowsR (P : Nat → Prop) (w : World) (m : Mach) (V : MV) : Prop where
  mem : IntsIn P w V.vM m.M
  stk : RowsIn P w V.vS m.S
  acts : ActsIn P w V.vC m.calls
  inp : IntsIn P w V.vI m.inp
  out : IntsIn P w V.vO m.out
structure MachR (P : Nat → Prop) (w : World) (g : Nat) (m : Mach) (V : MV) : Prop where
  blk : Blk w g 30 (mcs m V)
  rows : RowsR P w m V
theorem RowsR.keep {P P' : Nat → Prop} {w w' : World} {m : Mach} {V : MV} (h : RowsR P w m V) (hk : Keep P w w') (hp : ∀ g, P g → P' g) : RowsR P' w' m V :=
  ⟨h.mem.keep hk hp, h.stk.keep hk hp, h.acts.keep hk hp, h.inp.keep hk hp, h.out.keep hk hp⟩
theorem RowsR.below {P : Nat → Prop} {w w' : World} {m : Mach} {V : MV} (h : RowsR P w m V) (hb : Below w.heap.size w w') : RowsR P w' m V := h.keep (Keep.of_below hb) (fun _ h => h)
theorem MachR.below {P : Nat → Prop} {w w' : World} {g : Nat} {m : Mach} {V : MV} (h : MachR P w g m V) (hb : Below w.heap.size w w') : MachR P w' g m V := ⟨h.blk.next hb, h.rows.below hb⟩
theorem MachR.cell {P : Nat → Prop} {w : World} {g : Nat} {m : Mach} {V : MV} (h : MachR P w g m V) {j : Nat} (hj : j < 25) : w.cell? ⟨g, j, none⟩ = some (mf m V j) := (h.blk.cell j).trans (mcs_get m V hj)

/-! a machine of the call's own -/
def RO (F : Nat → Prop) (g : Nat) (V : MV) (h : Nat) : Prop := F h ∧ h ≠ g ∧ some h ≠ V.vM.ownBlock ∧ some h ≠ V.vS.ownBlock
def intsV (l : List Int) : List Value := l.map (Value.int .i64)
structure MachW (F : Nat → Prop) (w : World) (g : Nat) (m : Mach) (V : MV) : Prop where
  own : F g
  blk : Blk w g 30 (mcs m V)
  mem : w.ownsRow 0 3 1 V.vM m.M.length (intsV m.M)
  memF : ∀ j, V.vM.ownBlock = some j → F j
  stk : w.ownsRow 0 26 1 V.vS m.S.length V.us
  stkF : ∀ j, V.vS.ownBlock = some j → F j
  rows : ∀ (k : Nat) (l : List Int), m.S[k]? = some l → ∃ u, V.us[k]? = some u ∧ IntsIn (RO F g V) w u l
  acts : ActsIn (RO F g V) w V.vC m.calls
  inp : IntsIn (RO F g V) w V.vI m.inp
  out : IntsIn (RO F g V) w V.vO m.out
def grow (F : Nat → Prop) (w w' : World) (j : Nat) : Prop := F j ∨ (w.heap.size ≤ j ∧ j < w'.heap.size)
theorem MachW.cell {F : Nat → Prop} {w : World} {g : Nat} {m : Mach} {V : MV} (h : MachW F w g m V) {j : Nat} (hj : j < 25) : w.cell? ⟨g, j, none⟩ = some (mf m V j) := (h.blk.cell j).trans (mcs_get m V hj)
theorem RO.mono {F F' : Nat → Prop} {g : Nat} {V : MV} (hp : ∀ h, F h → F' h) (h : Nat) (hr : RO F g V h) : RO F' g V h := ⟨hp h hr.1, hr.2⟩
theorem MachW.keep {F F' : Nat → Prop} {w w' : World} {g : Nat} {m : Mach} {V : MV} (h : MachW F w g m V) (hk : Keep F w w') (hp : ∀ j, F j → F' j) : MachW F' w' g m V :=
  have hr : Keep (RO F g V) w w' := hk.mono (fun _ h => h.1)
  ⟨hp g h.own, hk.blk h.own h.blk, hk.own h.mem h.memF, fun j hj => hp j (h.memF j hj), hk.own h.stk h.stkF, fun j hj => hp j (h.stkF j hj), fun k l hl => by
    obtain ⟨u, h1, h2⟩ := h.rows k l hl
    exact ⟨u, h1, h2.keep hr (RO.mono hp)⟩, h.acts.keep hr (RO.mono hp), h.inp.keep hr (RO.mono hp), h.out.keep hr (RO.mono hp)⟩
theorem MachW.below {F : Nat → Prop} {w w' : World} {g : Nat} {m : Mach} {V : MV} (h : MachW F w g m V) (hb : Below w.heap.size w w') : MachW F w' g m V := h.keep (Keep.of_below hb) (fun _ h => h)
theorem MachW.mono {F F' : Nat → Prop} {w : World} {g : Nat} {m : Mach} {V : MV} (h : MachW F w g m V) (hp : ∀ j, F j → F' j) : MachW F' w g m V := h.keep (w' := w) ⟨Nat.le_refl _, fun _ _ _ => rfl⟩ hp

theorem own_nil {w : World} {base : Nat} {e : TypeId} {size n : Nat} {v : Value} {xs : List Value} (h : w.ownsRow base e size v n xs) : NilOK v := fun k c hv => by
  rcases h.2 with ⟨h0, _⟩ | ⟨g, cap, cur, h0, _⟩
  · rw [h0] at hv; injection hv with _ _ h3; exact h3.symm
  · rw [h0] at hv; injection hv with h1; cases h1
theorem own_ints {w : World} {base : Nat} {v : Value} {l : List Int} {P : Nat → Prop} (h : w.ownsRow base 3 1 v l.length (intsV l)) (hp : ∀ j, v.ownBlock = some j → P j) : IntsIn P w v l := by
  refine ⟨?_, own_nil h⟩
  rcases h.2 with ⟨rfl, h0⟩ | ⟨g, cap, cur, rfl, _, hg, hn, hm, hc, ht⟩
  · exact ⟨none, 0, by rw [h0], by omega, by unfold maxLen; omega, fun h => by omega⟩
  · refine ⟨_, cap, rfl, hn, hm, fun hp0 => ⟨g, 0, rfl, (Array.getElem?_eq_some_iff.1 hg).1, hp g rfl, fun i x hx => ?_⟩⟩
    have hi : i < l.length := (List.getElem?_eq_some_iff.1 hx).1
    have := h.cellAt i (by omega)
    rw [Nat.zero_add, this]
    simp [intsV, hx]
theorem MachW.toR {F : Nat → Prop} {w : World} {g : Nat} {m : Mach} {V : MV} (h : MachW F w g m V) : MachR F w g m V := by
  have hf : ∀ j, RO F g V j → F j := fun _ h => h.1
  have hk : Keep (RO F g V) w w := ⟨Nat.le_refl _, fun _ _ _ => rfl⟩
  refine ⟨h.blk, own_ints h.mem h.memF, ?_, h.acts.keep hk hf, h.inp.keep hk hf, h.out.keep hk hf⟩
  rcases h.stk.2 with ⟨hv, h0⟩ | ⟨gs, cap, cur, hv, _, hg, hn, hm, hc, ht⟩
  · exact ⟨none, 0, by rw [hv, h0], by omega, by unfold maxLen; omega, fun h => by omega⟩
  · refine ⟨_, cap, hv, hn, hm, fun hp0 => ⟨gs, 0, rfl, (Array.getElem?_eq_some_iff.1 hg).1, h.stkF gs (by rw [hv]; rfl), fun i x hx => ?_⟩⟩
    obtain ⟨u, h1, h2⟩ := h.rows i x hx
    have hi : i < m.S.length := (List.getElem?_eq_some_iff.1 hx).1
    have ho := h.stk
    rw [hv] at ho
    have := ho.cellAt i (by omega)
    exact ⟨u, by rw [Nat.zero_add, this, h1], h2.keep hk hf⟩

/-- the table of the instruction set -/
def TabAt (w : World) : Prop := ∀ i, i < 35 → w.cell? ⟨0, i * 2 + 1, none⟩ = some (.int .i64 (opsL.getD i 0 : Nat))
theorem TabAt.keep {P : Nat → Prop} {w w' : World} (h : TabAt w) (hk : Keep P w w') (h0 : P 0) : TabAt w' := fun i hi => hk.cell h0 (h i hi)
theorem TabAt.below {w w' : World} (h : TabAt w) (hb : Below w.heap.size w w') : TabAt w' := h.keep (P := fun _ => True) (Keep.of_below hb) trivial

theorem get_lt {α : Type} {l : List α} {k n : Nat} (hn : n = l.length) (h : k < n) : ∃ x, l[k]? = some x := ⟨_, List.getElem?_eq_getElem (by omega)⟩
theorem ret_int {k : IntKind} {a b : Int} (h : a = b) : Ending.returned (.int k a) = .returned (.int k b) := by rw [h]
theorem ret_bool {a b : Bool} (h : a = b) : Ending.returned (.bool a) = .returned (.bool b) := by rw [h]

end Go.Proofs.YtichiccohmeecaaDoor
