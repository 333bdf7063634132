/- Append onto a row of the call's own: where the row lies then; what a loop's own objects leave alone. -/
import Derived.Test.YtklbaocgjegdfaaEnRh
namespace Go.Proofs.Ytklbaocgjegdfaa
open Go.RowKit Go.Shelf

theorem run_append_own2 {P : Program} (w : World) (base : Nat) (t ty e : TypeId) (i : TypeInfo) (z : Value) (size bytes : Nat) (ht : P.underlying t = some (.slice e)) (hi : P.info? e = some i) (hz : i.zero = some z)
    (hsize : i.size = size) (hby : i.bytes = bytes) (hzs : z.cells.size = size) (hsz : 0 < size) (v : Value) (n : Nat) (xs : List Value) (hown : w.ownsRow base e size v n xs)
    (a : Addr) (m c : Nat) (news : List Value) (hl : news.length = m * size) (hnews : ∀ j u, news[j]? = some u → w.cell? (a.add j) = some u) (h1 : ∀ u ∈ news, u.oneCell' = true)
    (hm : 0 < m) (h63 : n + m ≤ maxLen) (hbytes : (n + m) * bytes ≤ 140737488355328) (hbase : base ≤ w.heap.size) :
    ∃ v' w', (Builtin.append_ #[t, t] ty #[v, .slice (some a) m c]).run P w = .ok v' w' ∧ w'.ownsRow base e size v' (n + m) (xs ++ news) ∧ w.grownBy w' v.ownBlock ∧ (v'.ownBlock = v.ownBlock ∨ v'.ownBlock = some w.heap.size) := by
  obtain ⟨v', w', hr, h2, h3, -⟩ := run_append_own (P := P) w base t ty e i z size bytes ht hi hz hsize hby hzs hsz v n xs hown a m c news hl hnews h1 h63 hbytes hbase
  refine ⟨v', w', hr, h2, h3, ?_⟩
  have hsmall : n + m ≤ 9223372036854775807 := by simp only [maxLen] at h63; omega
  subst hsize
  subst hby
  rcases hown.2 with ⟨rfl, rfl⟩ | ⟨g, cap, cur, rfl, hbg, hg, hnc, hcm, hcs, htake⟩
  · have hq := run_append_nil (P := P) w t ty e i z ht hi hz a m c news hl hnews hm (by omega) (by have hb := hbytes; simp only [Nat.zero_add] at hb; omega)
    rw [hq] at hr
    injection hr with e1
    exact .inr (by rw [← e1]; rfl)
  · by_cases hroom : n + m ≤ cap
    · have hfit : n * i.size + news.length ≤ cur.size := by rw [hl, hcs, ← Nat.add_mul]; exact Nat.mul_le_mul_right _ hroom
      have hq := run_append_room (P := P) w t ty e i ht hi g n cap cur hg a m c news hl hnews h1 hroom hfit
      rw [hq] at hr
      injection hr with e1
      exact .inl (by rw [← e1]; rfl)
    · have holds := hown.cells (g := g) rfl
      have hq := run_append_grow (P := P) w t ty e i z ht hi hz ⟨g, 0, none⟩ n cap xs hown.1 holds a m c news hl hnews (by omega) (by omega) (growslice_fits (by omega) hbytes)
      rw [hq] at hr
      injection hr with e1
      exact .inr (by rw [← e1]; rfl)

/-- the same as one step of a region that draws -/
theorem step_append_own2 {P : Program} (w : World) {ops : Array Oper} {o : Oper} {a : Act} {K : Act → World → Prop} {Q : Exit → Act → World → Prop} {E : Prop} (hgd : o.guard = none) (s x : Operand) (t : TypeId)
    (ho : o.op = .call { callee := .builtin .append, args := #[s, x], argTypes := #[t, t] })
    (base : Nat) (e : TypeId) (i : TypeInfo) (z : Value) (size bytes : Nat) (ht : P.underlying t = some (.slice e)) (hi : P.info? e = some i) (hz : i.zero = some z)
    (hsize : i.size = size) (hby : i.bytes = bytes) (hzs : z.cells.size = size) (hsz : 0 < size)
    (v : Value) (n : Nat) (xs : List Value) (hs : a.eval s = v) (hown : w.ownsRow base e size v n xs)
    (A : Addr) (m c : Nat) (news : List Value) (hx : a.eval x = .slice (some A) m c) (hl : news.length = m * size) (hnews : ∀ j u, news[j]? = some u → w.cell? (A.add j) = some u) (h1 : ∀ u ∈ news, u.oneCell' = true)
    (hm : 0 < m) (h63 : n + m ≤ maxLen) (hbytes : (n + m) * bytes ≤ 140737488355328) (hbase : base ≤ w.heap.size)
    (h : ∀ v' w', w'.ownsRow base e size v' (n + m) (xs ++ news) → w.grownBy w' v.ownBlock → (v'.ownBlock = v.ownBlock ∨ v'.ownBlock = some w.heap.size) → K (a.put o.dst v') w') :
    if Region.wanted o (yielded ops a.tmps) = true then Oper.wp P o a w K Q else E := by
  have hw : Region.wanted o (yielded ops a.tmps) = true := by simp [Region.wanted, hgd]
  rw [if_pos hw]
  obtain ⟨v', w', hrun, h2, h3, h4⟩ := run_append_own2 (P := P) w base t o.type e i z size bytes ht hi hz hsize hby hzs hsz v n xs hown A m c news hl hnews h1 hm h63 hbytes hbase
  unfold Oper.wp execOp
  simp only [ho, resolve, invoke, builtin, Sem.run_bind, Sem.run_pure, Result.andThen_ok, List.map_toArray, List.map_cons, List.map_nil, hs, hx, hrun]
  exact h v' w' h2 h3 h4

theorem own_get {w : World} {base : Nat} {e : TypeId} {a : Option Addr} {n c : Nat} {xs : List Value} (h : w.ownsRow base e 1 (.slice a n c) n xs) (hn : 0 < n) :
    ∃ g, a = some ⟨g, 0, none⟩ ∧ base ≤ g ∧ g < w.heap.size ∧ ∀ i x, xs[i]? = some x → w.cell? ⟨g, i, none⟩ = some x := by
  rcases h.2 with ⟨_, h0⟩ | ⟨g, cap, cur, he, hb, hg, _⟩
  · omega
  · injection he with e1 e2 e3
    subst e1
    refine ⟨g, rfl, hb, (Array.getElem?_eq_some_iff.1 hg).1, fun i x hx => ?_⟩
    have := World.ownsRow.cells h (g := g) rfl i x hx
    rwa [Go.WideShapes.add_plain, Nat.zero_add] at this

/-! what a loop's own objects leave alone -/
def NoCells (B : Nat) (A : World) (row : Option Nat) : Prop := ∀ r, row = some r → B ≤ r ∧ ∃ o : Obj, A.heap[r]? = some o ∧ o.isCells = false
theorem Blk.ne_row {A : World} {B b : Nat} {t : TypeId} {cs : Array Value} {row : Option Nat} (h : Blk A b t cs) (hr : NoCells B A row) : some b ≠ row := by
  intro he
  obtain ⟨_, o, ho, hc⟩ := hr b he.symm
  unfold Blk at h
  rw [h] at ho
  injection ho with ho
  subst ho
  cases hc
theorem Blk.row {A A' : World} {B b : Nat} {t : TypeId} {cs : Array Value} {row : Option Nat} (h : Blk A b t cs) (hg : A.grownBy A' row) (hr : NoCells B A row) : Blk A' b t cs := h.grown hg (h.ne_row hr)
theorem own_ne_row {A : World} {B base : Nat} {e : TypeId} {size n : Nat} {v : Value} {xs : List Value} {row : Option Nat} (h : A.ownsRow base e size v n xs) (hr : NoCells B A row) : v.ownBlock = none ∨ v.ownBlock ≠ row := by
  rcases h.2 with ⟨rfl, _⟩ | ⟨g, cap, cur, rfl, _, hh, _⟩
  · exact .inl rfl
  · exact .inr (Blk.ne_row (b := g) hh hr)
theorem own_row' {A A' : World} {B base : Nat} {e : TypeId} {size n : Nat} {v : Value} {xs : List Value} {row : Option Nat} (h : A.ownsRow base e size v n xs) (hg : A.grownBy A' row) (hr : NoCells B A row) : A'.ownsRow base e size v n xs := h.kept hg (own_ne_row h hr)
theorem below_row {w A A' : World} {B c : Nat} {row : Option Nat} (h : Below c w A) (hc : c ≤ B) (hg : A.grownBy A' row) (hr : NoCells B A row) (hcs : c ≤ A.heap.size) : Below c w A' :=
  h.grown hg hcs (fun k e => Nat.le_trans hc (hr k e).1)
theorem own_touch {A A' : World} {O : Nat → Prop} {base : Nat} {e : TypeId} {size n : Nat} {v : Value} {xs : List Value} (h : A.ownsRow base e size v n xs) (ht : Touch O A A') (hO : ∀ j, O j → v.ownBlock ≠ some j) : A'.ownsRow base e size v n xs := by
  refine ⟨h.1, ?_⟩
  rcases h.2 with hn | ⟨g, cap, cur, rfl, hb, hg, r⟩
  · exact .inl hn
  · exact .inr ⟨g, cap, cur, rfl, hb, (ht.block g (Array.getElem?_eq_some_iff.1 hg).1 (fun ho => hO g ho rfl)).trans hg, r⟩
theorem Blk.touch {A A' : World} {O : Nat → Prop} {b : Nat} {t : TypeId} {cs : Array Value} (h : Blk A b t cs) (ht : Touch O A A') (hO : ¬ O b) : Blk A' b t cs := (ht.block b h.lt hO).trans h
theorem keeps_gr {A A' : World} {g : Nat} {t : TypeId} {cs : Array Value} (hg : A.grownBy A' (some g)) (h : Blk A g t cs) (B : Nat) : KeepsFrom B A A' :=
  (KeepsOthers.of_grownBy hg (fun j o hj ho => by
    cases hj
    unfold Blk at h
    rw [h] at ho
    injection ho with ho
    subst ho
    rfl)).from B
theorem keeps_own {A A' : World} {base : Nat} {e : TypeId} {size n : Nat} {v : Value} {xs : List Value} (h : A.ownsRow base e size v n xs) (hg : A.grownBy A' v.ownBlock) (B : Nat) : KeepsFrom B A A' :=
  (KeepsOthers.of_grownBy hg (fun j o hj ho => by
    rcases h.2 with ⟨rfl, _⟩ | ⟨g, cap, cur, rfl, _, hh, _⟩
    · cases hj
    · cases hj
      rw [hh] at ho
      injection ho with ho
      subst ho
      rfl)).from B
theorem keeps_below {A A' : World} (h : Below A.heap.size A A') (B : Nat) : KeepsFrom B A A' :=
  (KeepsOthers.of_grownBy (row := none) ⟨h.os, h.tape, h.output, h.size, fun k hk _ => h.block k hk⟩ (fun j o hj _ => by cases hj)).from B
theorem keeps_set (A : World) (b i : Nat) (u : Value) (B : Nat) : KeepsFrom B A (A.setCell ⟨b, i, none⟩ u) := (KeepsOthers.setCell A _ u).from B
theorem leaves_gr {A A' : World} {O : Nat → Prop} {row : Option Nat} (hg : A.grownBy A' row) (hO : ∀ j, O j → j < A.heap.size ∧ some j ≠ row) : Leaves O A A' := ⟨hg.size, fun b hb => hg.block b (hO b hb).1 (hO b hb).2⟩
theorem leaves_set (A : World) {O : Nat → Prop} {g : Nat} (i : Nat) (u : Value) (hO : ¬ O g) : Leaves O A (A.setCell ⟨g, i, none⟩ u) := ⟨by simp [World.setCell], fun b hb => Below.heap_setCell A ⟨g, i, none⟩ u b (fun e => hO (by have e' : b = g := e; exact e' ▸ hb))⟩
end Go.Proofs.Ytklbaocgjegdfaa
