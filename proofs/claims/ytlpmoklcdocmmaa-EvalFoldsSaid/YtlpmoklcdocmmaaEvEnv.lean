/- The walk of the law EvalMentioned. -/
import Derived.Test.YtlpmoklcdocmmaaEvG
namespace Go.Proofs.Ytlpmoklcdocmmaa
open Go.RowKit

theorem cellInfo : (Try.prog.info? 32).map (fun i => (i.zero, i.size, i.bytes)) = some (some (.agg #[.string ⟨#[]⟩, .slice none 0 0]), 2, 40) := by kernel_rfl

theorem run_append_of_none {P : Program} (w : World) (base : Nat) (t ty e : TypeId) (i : TypeInfo) (size : Nat) (ht : P.underlying t = some (.slice e)) (hi : P.info? e = some i)
    (v : Value) (n : Nat) (xs : List Value) (hown : w.ownsRow base e size v n xs) (c : Nat) : (Builtin.append_ #[t, t] ty #[v, .slice none 0 c]).run P w = .ok v w := by
  rcases hown.2 with ⟨rfl, rfl⟩ | ⟨g, cap, cur, rfl, _, _, hnc, _⟩
  · simp [Builtin.append_, run_underlying ht, sizeOf, typeInfo, hi, Builtin.lenOf, Builtin.firstCells]
  · simp [Builtin.append_, run_underlying ht, sizeOf, typeInfo, hi, Builtin.lenOf, Builtin.firstCells, hnc, storeCells]

/-- the cells of variables that came in -/
def Flat (w : World) (l : Env) (news : List Value) : Prop :=
  news.length = l.length * 2 ∧ ∀ (i : Nat) (c : ByteArray × List Int), l[i]? = some c → news[i * 2]? = some (.string c.1) ∧ ∃ u, news[i * 2 + 1]? = some u ∧ IntsAt w u c.2

theorem flat_of {w W : World} {g o : Nat} : ∀ (l : Env) (k : Nat), (∀ i c, l[i]? = some c → w.cell? ⟨g, o + (k + i) * 2, none⟩ = some (.string c.1) ∧ ∃ u, w.cell? ⟨g, o + (k + i) * 2 + 1, none⟩ = some u ∧ IntsAt W u c.2) →
    ∃ news, Flat W l news ∧ (∀ j u, news[j]? = some u → w.cell? ⟨g, o + k * 2 + j, none⟩ = some u) ∧ ∀ u ∈ news, u.oneCell' = true
  | [], k, _ => ⟨[], ⟨rfl, fun i c h => by simp at h⟩, fun j u h => by simp at h, by simp⟩
  | c :: l, k, h => by
    obtain ⟨news, ⟨hl, hf⟩, hc, h1⟩ := flat_of l (k + 1) (fun i c' hi => by
      have := h (i + 1) c' (by simpa using hi)
      rw [show k + (i + 1) = k + 1 + i by omega] at this
      exact this)
    obtain ⟨k0, u, k1, hi⟩ := h 0 c rfl
    rw [Nat.add_zero] at k0 k1
    obtain ⟨⟨ua, uc, hu, -⟩, -⟩ := id hi
    refine ⟨.string c.1 :: u :: news, ⟨by simp only [List.length_cons]; omega, fun i c' hc' => ?_⟩, fun j v hj => ?_, ?_⟩
    · match i, hc' with
      | 0, hc' =>
        simp at hc'; subst hc'
        exact ⟨rfl, u, rfl, hi⟩
      | i + 1, hc' =>
        obtain ⟨a1, u', a2, a3⟩ := hf i c' (by simpa using hc')
        refine ⟨?_, u', ?_, a3⟩
        · rw [show (i + 1) * 2 = i * 2 + 1 + 1 by omega]; simpa using a1
        · rw [show (i + 1) * 2 + 1 = i * 2 + 1 + 1 + 1 by omega]; simpa using a2
    · match j, hj with
      | 0, hj => simp at hj; subst hj; simpa using k0
      | 1, hj => simp at hj; subst hj; simpa using k1
      | j + 2, hj =>
        have := hc j v (by simpa using hj)
        rw [show o + (k + 1) * 2 + j = o + k * 2 + (j + 2) by omega] at this
        exact this
    · intro v hv
      simp only [List.mem_cons] at hv
      rcases hv with rfl | rfl | hv
      · rfl
      · rw [hu]; rfl
      · exact h1 v hv

theorem run_append_env (W w : World) (hbW : Below W.heap.size W w) (ty : TypeId) (base : Nat) (v : Value) (n : Nat) (xs : List Value) (hown : w.ownsRow base 32 2 v n xs) (u : Value) (l : Env) (hu : EnvAt W u l) (hn : n + l.length ≤ 1000000) (hbase : base ≤ w.heap.size) :
    ∃ v' w' news, (Builtin.append_ #[25, 25] ty #[v, u]).run Try.prog w = .ok v' w' ∧ Flat W l news ∧ w'.ownsRow base 32 2 v' (n + l.length) (xs ++ news) ∧ w.grownBy w' v.ownBlock := by
  obtain ⟨i0, hi, hz0, hz1, hz2⟩ := info_parts cellInfo
  obtain ⟨⟨a, c, rfl, _, _, hq⟩, _⟩ := hu
  have hx := hown.1
  cases a with
  | none =>
    have h0 : l.length = 0 := by
      rcases Nat.eq_zero_or_pos l.length with h | h
      · exact h
      · obtain ⟨g, o, e, _⟩ := hq h
        cases e
    have hl : l = [] := List.eq_nil_of_length_eq_zero h0
    subst hl
    exact ⟨v, w, [], run_append_of_none w base _ ty _ i0 2 Try.underlying25 hi v n xs hown c, ⟨rfl, fun i c h => by simp at h⟩, by simpa using hown, World.grownBy.refl _ _⟩
  | some ad =>
    have hnews : ∃ news, Flat W l news ∧ (∀ j u, news[j]? = some u → w.cell? (ad.add j) = some u) ∧ ∀ u ∈ news, u.oneCell' = true := by
      rcases Nat.eq_zero_or_pos l.length with h0 | h0
      · have hl : l = [] := List.eq_nil_of_length_eq_zero h0
        subst hl
        exact ⟨[], ⟨rfl, fun i c h => by simp at h⟩, fun j u h => by simp at h, by simp⟩
      · obtain ⟨g, o, e, hg, hc⟩ := hq h0
        obtain rfl := Option.some.inj e
        obtain ⟨news, h1, h2, h3⟩ := flat_of (w := w) (W := W) (g := g) (o := o) l 0 (fun i c hi => by
          obtain ⟨k0, u, k1, k2⟩ := hc i c hi
          rw [Nat.zero_add]
          exact ⟨cell_below hbW hg k0, u, cell_below hbW hg k1, k2⟩)
        refine ⟨news, h1, fun j u hj => ?_, h3⟩
        have := h2 j u hj
        rw [Go.WideShapes.add_plain]
        simpa using this
    obtain ⟨news, hf, hc, h1⟩ := hnews
    obtain ⟨v', w', r1, r2, r3, _⟩ := run_append_own (P := Try.prog) w base 25 ty 32 i0 (.agg #[.string ⟨#[]⟩, .slice none 0 0]) 2 40 Try.underlying25 hi hz0 hz1 hz2 rfl (by decide) v n xs hown ad l.length c news hf.1 hc h1 (by unfold maxLen; omega) (by omega) hbase
    exact ⟨v', w', news, r1, hf, r2, r3⟩

theorem wpList_append_env {W w : World} (hbW : Below W.heap.size W w) {ops : Array Oper} {rest : List Oper} {o : Oper} {a : Act} {Q : Exit → Act → World → Prop} (hgd : o.guard = none) (s x : Operand)
    (ho : o.op = .call { callee := .builtin .append, args := #[s, x], argTypes := #[25, 25] })
    (base : Nat) (v : Value) (n : Nat) (xs : List Value) (hs : a.eval s = v) (hown : w.ownsRow base 32 2 v n xs) (u : Value) (l : Env) (hx : a.eval x = u) (hu : EnvAt W u l) (hn : n + l.length ≤ 1000000) (hbase : base ≤ w.heap.size)
    (h : ∀ v' w' news, Flat W l news → w'.ownsRow base 32 2 v' (n + l.length) (xs ++ news) → w.grownBy w' v.ownBlock → wpList Try.prog ops Q rest (a.put o.dst v') w') : wpList Try.prog ops Q (o :: rest) a w :=
  wpList_plain hgd fun _ hK => by
    obtain ⟨v', w', news, hrun, h1, h2, h3⟩ := run_append_env W w hbW o.type base v n xs hown u l hu hn hbase
    unfold Oper.wp execOp
    simp only [ho, resolve, invoke, builtin, Sem.run_bind, Sem.run_pure, Result.andThen_ok, List.map_toArray, List.map_cons, List.map_nil, hs, hx, hrun]
    exact hK _ _ (h v' w' news h1 h2 h3)

/-- one variable ahead of those that came in -/
theorem env_cons {w w' : World} {base : Nat} {v' : Value} {x : ByteArray} {yl : List Int} {u : Value} {l : Env} {news : List Value} (h : w'.ownsRow base 32 2 v' (1 + l.length) ([.string x, u] ++ news)) (hf : Flat w l news) (hx : x.size ≤ maxLen) (hu : IntsAt w' u yl) (hl : ∀ c ∈ l, c.1.size ≤ maxLen)
    (hiw : ∀ (u : Value) (c : List Int), IntsAt w u c → u ∈ news → IntsAt w' u c) : EnvAt w' v' ((x, yl) :: l) := by
  rcases h.2 with ⟨_, h0⟩ | ⟨g, cap, cur, rfl, _, hg, hn, hm, hc, ht⟩
  · omega
  · refine ⟨⟨_, cap, by rw [List.length_cons, Nat.add_comm], by rw [List.length_cons]; omega, hm, fun hp => ⟨g, 0, rfl, (Array.getElem?_eq_some_iff.1 hg).1, fun i c hi => ?_⟩⟩, fun c hc => ?_⟩
    · have hlen : i < 1 + l.length := by
        have := (List.getElem?_eq_some_iff.1 hi).1
        rw [List.length_cons] at this; omega
      rw [Nat.zero_add, h.cellAt (i * 2) (by omega), h.cellAt (i * 2 + 1) (by omega)]
      match i, hi with
      | 0, hi => simp at hi; subst hi; exact ⟨rfl, u, rfl, hu⟩
      | i + 1, hi =>
        obtain ⟨a1, u', a2, a3⟩ := hf.2 i c (by simpa using hi)
        refine ⟨?_, u', ?_, hiw u' c.2 a3 (List.mem_of_getElem? a2)⟩
        · rw [show (i + 1) * 2 = i * 2 + 1 + 1 by omega]; simpa using a1
        · rw [show (i + 1) * 2 + 1 = i * 2 + 1 + 1 + 1 by omega]; simpa using a2
    · rcases List.mem_cons.1 hc with rfl | hc
      · exact hx
      · exact hl c hc
end Go.Proofs.Ytlpmoklcdocmmaa
