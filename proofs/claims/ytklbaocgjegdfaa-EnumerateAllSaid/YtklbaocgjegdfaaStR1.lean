/- Walks of the reference's at, Part; plain. -/
import Derived.Test.YtklbaocgjegdfaaStL0
import Derived.Deep.RegionLaw
namespace Go.Proofs.Ytklbaocgjegdfaa
open Go.RowKit

/-- append onto a row of the call's own, as one step of a region that draws -/
theorem step_append_own {P : Program} (w : World) {ops : Array Oper} {o : Oper} {a : Act} {K : Act → World → Prop} {Q : Exit → Act → World → Prop} {E : Prop} (hgd : o.guard = none) (s x : Operand) (t : TypeId)
    (ho : o.op = .call { callee := .builtin .append, args := #[s, x], argTypes := #[t, t] })
    (base : Nat) (e : TypeId) (i : TypeInfo) (z : Value) (size bytes : Nat) (ht : P.underlying t = some (.slice e)) (hi : P.info? e = some i) (hz : i.zero = some z)
    (hsize : i.size = size) (hby : i.bytes = bytes) (hzs : z.cells.size = size) (hsz : 0 < size)
    (v : Value) (n : Nat) (xs : List Value) (hs : a.eval s = v) (hown : w.ownsRow base e size v n xs)
    (A : Addr) (m c : Nat) (news : List Value) (hx : a.eval x = .slice (some A) m c) (hl : news.length = m * size) (hnews : ∀ j u, news[j]? = some u → w.cell? (A.add j) = some u) (h1 : ∀ u ∈ news, u.oneCell' = true)
    (h63 : n + m ≤ maxLen) (hbytes : (n + m) * bytes ≤ 140737488355328) (hbase : base ≤ w.heap.size)
    (h : ∀ v' w', w'.ownsRow base e size v' (n + m) (xs ++ news) → w.grownBy w' v.ownBlock → K (a.put o.dst v') w') :
    if Region.wanted o (yielded ops a.tmps) = true then Oper.wp P o a w K Q else E := by
  have hw : Region.wanted o (yielded ops a.tmps) = true := by simp [Region.wanted, hgd]
  rw [if_pos hw]
  obtain ⟨v', w', hrun, h2, h3, _⟩ := run_append_own (P := P) w base t o.type e i z size bytes ht hi hz hsize hby hzs hsz v n xs hown A m c news hl hnews h1 h63 hbytes hbase
  unfold Oper.wp execOp
  simp only [ho, resolve, invoke, builtin, Sem.run_bind, Sem.run_pure, Result.andThen_ok, List.map_toArray, List.map_cons, List.map_nil, hs, hx, hrun]
  exact h v' w' h2 h3

/-- numbers that lie below a base, or in a row of ints of the call's own -/
def PartAt (base : Nat) (w : World) (u : Value) (l : List Int) : Prop :=
  (∃ W0 : World, W0.heap.size ≤ base ∧ Below base W0 w ∧ IntsAt W0 u l) ∨ ((∃ B, w.ownsRow B 3 1 u l.length (intsV l)) ∧ ∀ x ∈ l, I64 x)

theorem PartAt.ints {base : Nat} {w : World} {u : Value} {l : List Int} (h : PartAt base w u l) : IntsAt w u l := by
  rcases h with ⟨W0, h1, h2, h3⟩ | ⟨⟨B, h1⟩, h2⟩
  · exact h3.below h2 h1
  · exact IntsAt.of_own h1 h2
theorem PartAt.next {base : Nat} {w w' : World} {u : Value} {l : List Int} (h : PartAt base w u l) (hB : base ≤ w.heap.size) (hb : Below w.heap.size w w') : PartAt base w' u l := by
  rcases h with ⟨W0, h1, h2, h3⟩ | ⟨⟨B, h1⟩, h2⟩
  · exact .inl ⟨W0, h1, h2.trans (hb.mono hB), h3⟩
  · exact .inr ⟨⟨B, own_below h1 hb⟩, h2⟩
theorem PartAt.grown {base : Nat} {w w' : World} {u v : Value} {l : List Int} {e : TypeId} {size n : Nat} {xs : List Value} (h : PartAt base w u l) (hB : base ≤ w.heap.size) (hv : w.ownsRow base e size v n xs) (hne : 3 ≠ e) (hg : w.grownBy w' v.ownBlock) : PartAt base w' u l := by
  rcases h with ⟨W0, h1, h2, h3⟩ | ⟨⟨B, h1⟩, h2⟩
  · exact .inl ⟨W0, h1, h2.grown hg hB (fun j hj => (hv.lt j hj).1), h3⟩
  · exact .inr ⟨⟨B, h1.kept hg (own_own_ne h1 hv hne)⟩, h2⟩

theorem rev_take {l : List Int} {k : Nat} (h : k < l.length) : l.reverse.take (k + 1) = l.reverse.take k ++ [l[l.length - 1 - k]] := by
  rw [List.take_add_one]
  congr 1
  rw [List.getElem?_reverse h, List.getElem?_eq_getElem (by omega)]
  rfl

end Go.Proofs.Ytklbaocgjegdfaa
