/- The walk of transfer. -/
import Derived.Test.YtichiccohmeecaaDoorWhC4
namespace Go.Proofs.YtichiccohmeecaaDoor
open Go.RowKit

/-- numbers that read, appended to a row of the call's own: one step -/
theorem run_append_in {P : Nat → Prop} (w : World) (ty : TypeId) (base : Nat) (v : Value) (n : Nat) (xs : List Value) (hown : w.ownsRow base 3 1 v n xs) (u : Value) (l : List Int) (hu : IntsIn P w u l) (hn : n + l.length ≤ 1099511627776) (hbase : base ≤ w.heap.size) :
    ∃ v' w', (Builtin.append_ #[26, 26] ty #[v, u]).run Tryd.prog w = .ok v' w' ∧ w'.ownsRow base 3 1 v' (n + l.length) (xs ++ intsV l) ∧ w.grownBy w' v.ownBlock := by
  obtain ⟨i0, hi, hz0, hz1, hz2⟩ := info_parts intInfo
  obtain ⟨⟨a, c, rfl, _, _, hq⟩, _⟩ := id hu
  cases a with
  | none =>
    have h0 : l.length = 0 := by
      rcases Nat.eq_zero_or_pos l.length with h | h
      · exact h
      · obtain ⟨g, o, e, _⟩ := hq h
        cases e
    have hl : l = [] := List.eq_nil_of_length_eq_zero h0
    subst hl
    refine ⟨v, w, ?_, by simpa [intsV] using hown, World.grownBy.refl _ _⟩
    rcases hown.2 with ⟨rfl, rfl⟩ | ⟨g, cap, cur, rfl, _, _, hnc, _⟩
    · simp [Builtin.append_, run_underlying (P := Tryd.prog) Tryd.underlying26, sizeOf, typeInfo, hi, Builtin.lenOf, Builtin.firstCells]
    · simp [Builtin.append_, run_underlying (P := Tryd.prog) Tryd.underlying26, sizeOf, typeInfo, hi, Builtin.lenOf, Builtin.firstCells, hnc, storeCells]
  | some ad =>
    obtain ⟨v', w', h1, h2, h3, _⟩ := run_append_own (P := Tryd.prog) w base 26 ty 3 i0 (.int .i64 0) 1 8 Tryd.underlying26 hi hz0 hz1 hz2 rfl (by decide) v n xs hown ad l.length c (intsV l) (by simp [intsV]) (hu.olds ad rfl) (by
      intro x hx
      simp only [intsV, List.mem_map] at hx
      obtain ⟨y, _, rfl⟩ := hx
      rfl) (by unfold maxLen; omega) (by omega) hbase
    exact ⟨v', w', h1, h2, h3⟩
theorem step_append_in {P : Nat → Prop} (w : World) {ops : Array Oper} {o : Oper} {a : Act} {K : Act → World → Prop} {Q : Exit → Act → World → Prop} {E : Prop} (hgd : o.guard = none) (s x : Operand)
    (ho : o.op = .call { callee := .builtin .append, args := #[s, x], argTypes := #[26, 26] })
    (base : Nat) (v : Value) (n : Nat) (xs : List Value) (hs : a.eval s = v) (hown : w.ownsRow base 3 1 v n xs) (u : Value) (l : List Int) (hx : a.eval x = u) (hu : IntsIn P w u l) (hn : n + l.length ≤ 1099511627776) (hbase : base ≤ w.heap.size)
    (h : ∀ v' w', w'.ownsRow base 3 1 v' (n + l.length) (xs ++ intsV l) → w.grownBy w' v.ownBlock → K (a.put o.dst v') w') :
    if Region.wanted o (yielded ops a.tmps) = true then Oper.wp Tryd.prog o a w K Q else E := by
  have hw : Region.wanted o (yielded ops a.tmps) = true := by simp [Region.wanted, hgd]
  rw [if_pos hw]
  obtain ⟨v', w', hrun, h2, h3⟩ := run_append_in w o.type base v n xs hown u l hu hn hbase
  unfold Oper.wp execOp
  simp only [ho, resolve, invoke, builtin, Sem.run_bind, Sem.run_pure, Result.andThen_ok, List.map_toArray, List.map_cons, List.map_nil, hs, hx, hrun]
  exact h v' w' h2 h3

theorem IntsIn.tail {P : Nat → Prop} {w : World} {hh oo n c : Nat} {l : List Int} (h : IntsIn P w (.slice (some ⟨hh, oo, none⟩) n c) l) (hn : 0 < n) {ad : Addr} (ha : n = 1 ∨ ad = ⟨hh, oo + 1, none⟩) : IntsIn P w (.slice (some ad) (n - 1) (c - 1)) (l.drop 1) := by
  obtain ⟨⟨a', c', he, h1, h2, h3⟩, h4⟩ := h
  injection he with e1 e2 e3
  subst e1 e2 e3
  have hl : (l.drop 1).length = l.length - 1 := by rw [List.length_drop]
  refine ⟨⟨some ad, c - 1, by rw [hl], by omega, by omega, fun hp => ?_⟩, fun n' c' hv => by injection hv with e1; cases e1⟩
  rcases ha with ha | rfl
  · omega
  obtain ⟨g, o, e, q1, q2, q3⟩ := h3 (by omega)
  injection e with e
  injection e with e1 e2
  subst e1 e2
  refine ⟨hh, oo + 1, rfl, q1, q2, fun i x hx => ?_⟩
  rw [List.getElem?_drop] at hx
  have := q3 (1 + i) x hx
  rw [show oo + 1 + i = oo + (1 + i) by omega]
  exact this

theorem MachW.input {F : Nat → Prop} {w : World} {g : Nat} {m : Mach} {V : MV} (h : MachW F w g m V) (u : Value) (l : List Int) (hu : IntsIn (RO F g V) w u l) : MachW F (w.setCell ⟨g, 23, none⟩ u) g { m with inp := l } { V with vI := u } :=
  h.put (vC := V.vC) (vI := u) (vO := V.vO) (mcs_inp m V u l) rfl rfl h.acts hu h.out
theorem MachW.output {F : Nat → Prop} {w : World} {g : Nat} {m : Mach} {V : MV} (h : MachW F w g m V) (u : Value) (l : List Int) (hu : IntsIn (RO F g V) w u l) : MachW F (w.setCell ⟨g, 24, none⟩ u) g { m with out := l } { V with vO := u } :=
  h.put (vC := V.vC) (vI := V.vI) (vO := u) (mcs_out m V u l) rfl rfl h.acts h.inp hu

/-- a row made meanwhile lies apart from the machine's own blocks -/
theorem own_fresh {F : Nat → Prop} {w W w' : World} {g B n : Nat} {m : Mach} {V : MV} {e : TypeId} {s : Nat} {v' : Value} {xs : List Value} (hM : MachW F W g m V) (hw : w.heap.size ≤ W.heap.size) (hown : w'.ownsRow B e s v' n xs) (hB : W.heap.size ≤ B) :
    ∀ j, v'.ownBlock = some j → RO (grow F w w') g V j := fun j hj => by
  rcases hown.2 with ⟨h0, _⟩ | ⟨h, cap, cur, h0, hge, hh, _⟩
  · rw [h0] at hj; cases hj
  · rw [h0] at hj
    have hj : h = j := by injection hj
    subst hj
    have hl := (Array.getElem?_eq_some_iff.1 hh).1
    have k1 : ∀ y, V.vM.ownBlock = some y → y < W.heap.size := fun y hy => by
      rcases hM.mem.2 with ⟨z, _⟩ | ⟨q, _, _, z, _, hq, _⟩
      · rw [z] at hy; cases hy
      · rw [z] at hy; injection hy with hy; subst hy; exact (Array.getElem?_eq_some_iff.1 hq).1
    have k2 : ∀ y, V.vS.ownBlock = some y → y < W.heap.size := fun y hy => by
      rcases hM.stk.2 with ⟨z, _⟩ | ⟨q, _, _, z, _, hq, _⟩
      · rw [z] at hy; cases hy
      · rw [z] at hy; injection hy with hy; subst hy; exact (Array.getElem?_eq_some_iff.1 hq).1
    have hgl := hM.blk.lt
    refine ⟨.inr ⟨by omega, hl⟩, by omega, fun e => ?_, fun e => ?_⟩
    · have := k1 h e.symm; omega
    · have := k2 h e.symm; omega
theorem in_done {F : Nat → Prop} {w W w' : World} {g a B : Nat} {m : Mach} {V : MV} {l : List Int} {v' : Value} (hM : MachW F W g m V) (hT : Touch F w W) (hb : Below W.heap.size W w')
    (hown : w'.ownsRow B 3 1 v' l.length (intsV l)) (hB : W.heap.size ≤ B) (ha : a < 16) {e : Ending} (he : e = .returned (.int .i64 0)) :
    ExecR F w g (0, { { m with R := upd m.R a 0 } with inp := l }) e ((w'.setCell ⟨g, 23, none⟩ v').setCell ⟨g, 2 + a, none⟩ (.int .i64 0)) := by
  have h1 : MachW (grow F w w') w' g m V := (hM.below hb).mono (fun _ h => .inl h)
  have h2 := (h1.input v' l (own_ints hown (own_fresh hM hT.size hown hB))).reg ha 0
  refine ⟨_, he, ((hT.below hb).of_set (.inl hM.own) _ _).of_set (.inl hM.own) _ _, h2.mono (fun j hj => ?_)⟩
  simpa [grow, World.setCell] using hj
theorem out_done {F : Nat → Prop} {w W w' : World} {g a B : Nat} {m : Mach} {V : MV} {l : List Int} {v' : Value} (hM : MachW F W g m V) (hT : Touch F w W) (hb : Below W.heap.size W w')
    (hown : w'.ownsRow B 3 1 v' l.length (intsV l)) (hB : W.heap.size ≤ B) (ha : a < 16) {e : Ending} (he : e = .returned (.int .i64 0)) :
    ExecR F w g (0, { { m with R := upd m.R a 0 } with out := l }) e ((w'.setCell ⟨g, 24, none⟩ v').setCell ⟨g, 2 + a, none⟩ (.int .i64 0)) := by
  have h1 : MachW (grow F w w') w' g m V := (hM.below hb).mono (fun _ h => .inl h)
  have h2 := (h1.output v' l (own_ints hown (own_fresh hM hT.size hown hB))).reg ha 0
  refine ⟨_, he, ((hT.below hb).of_set (.inl hM.own) _ _).of_set (.inl hM.own) _ _, h2.mono (fun j hj => ?_)⟩
  simpa [grow, World.setCell] using hj
theorem own_one (W : World) (u : Value) : (W.drew.alloc (.cells #[u] 3)).ownsRow W.heap.size 3 1 (.slice (some ⟨W.heap.size, 0, none⟩) 1 1) 1 [u] :=
  ⟨by simp, .inr ⟨W.heap.size, 1, #[u], rfl, Nat.le_refl _, heap_alloc_new W.drew _, Nat.le_refl _, by decide, rfl, rfl⟩⟩
theorem grown_fresh {W w' : World} {o : Obj} {r : Option Nat} (h : (W.drew.alloc o).grownBy w' r) (hr : ∀ j, r = some j → W.heap.size ≤ j) : Below W.heap.size W w' := by
  have h1 := drew_alloc W o
  refine ⟨h.os.trans h1.os, h.tape.trans h1.tape, h.output.trans h1.output, Nat.le_trans h1.size h.size, fun j hj => ?_⟩
  have hs : W.heap.size ≤ (W.drew.alloc o).heap.size := h1.size
  exact (h.block j (by omega) (fun e => by have := hr j e.symm; omega)).trans (h1.block j hj)

end Go.Proofs.YtichiccohmeecaaDoor