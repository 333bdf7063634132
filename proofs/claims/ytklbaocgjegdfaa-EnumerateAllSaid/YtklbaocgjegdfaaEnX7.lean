/- The walk of the reference's Compare: the walk. -/
import Derived.Test.YtklbaocgjegdfaaEnX6
namespace Go.Proofs.Ytklbaocgjegdfaa
open Go.RowKit

theorem wpList_append_own2 {P : Program} {w : World} {ops : Array Oper} {rest : List Oper} {o : Oper} {a : Act} {Q : Exit → Act → World → Prop} (hgd : o.guard = none) (s x : Operand) (t : TypeId)
    (ho : o.op = .call { callee := .builtin .append, args := #[s, x], argTypes := #[t, t] })
    (base : Nat) (e : TypeId) (i : TypeInfo) (z : Value) (size bytes : Nat) (ht : P.underlying t = some (.slice e)) (hi : P.info? e = some i) (hz : i.zero = some z)
    (hsize : i.size = size) (hby : i.bytes = bytes) (hzs : z.cells.size = size) (hsz : 0 < size)
    (v : Value) (n : Nat) (xs : List Value) (hs : a.eval s = v) (hown : w.ownsRow base e size v n xs)
    (A : Addr) (m c : Nat) (news : List Value) (hx : a.eval x = .slice (some A) m c) (hl : news.length = m * size) (hnews : ∀ j u, news[j]? = some u → w.cell? (A.add j) = some u) (h1 : ∀ u ∈ news, u.oneCell' = true)
    (hm : 0 < m) (h63 : n + m ≤ maxLen) (hbytes : (n + m) * bytes ≤ 140737488355328) (hbase : base ≤ w.heap.size)
    (h : ∀ v' w', w'.ownsRow base e size v' (n + m) (xs ++ news) → w.grownBy w' v.ownBlock → (v'.ownBlock = v.ownBlock ∨ v'.ownBlock = some w.heap.size) → wpList P ops Q rest (a.put o.dst v') w') : wpList P ops Q (o :: rest) a w :=
  wpList_plain hgd fun K hK => by
    obtain ⟨v', w', hrun, h2, h3, h4⟩ := run_append_own2 (P := P) w base t o.type e i z size bytes ht hi hz hsize hby hzs hsz v n xs hown A m c news hl hnews h1 hm h63 hbytes hbase
    unfold Oper.wp execOp
    simp only [ho, resolve, invoke, builtin, Sem.run_bind, Sem.run_pure, Result.andThen_ok, List.map_toArray, List.map_cons, List.map_nil, hs, hx, hrun]
    exact hK _ _ (h v' w' h2 h3 h4)

/-- the two rows that Compare makes, and the rows of the lists -/
structure XYR (W : World) (vl vm : List Value) (l m : Value) (nl nm : Nat) (x y : Value) (X Y : List Int) (wr : World) : Prop where
  ox : wr.ownsRow W.heap.size 3 1 x X.length (intsV X)
  oy : wr.ownsRow W.heap.size 3 1 y Y.length (intsV Y)
  ap : x.ownBlock ≠ y.ownBlock
  ol : wr.ownsRow W.heap.size 33 1 l nl vl
  om : wr.ownsRow W.heap.size 33 1 m nm vm
  bel : Below W.heap.size W wr
theorem intsV_snoc (X : List Int) (z : Int) : intsV (X ++ [z]) = intsV X ++ [.int .i64 z] := by simp [intsV]
section
variable {W wr w5 : World} {vl vm : List Value} {l m x y x5 : Value} {nl nm : Nat} {X Y : List Int} {z : Int} {o : Obj}
theorem XYR.below {w' : World} (h : XYR W vl vm l m nl nm x y X Y wr) (hb : Below wr.heap.size wr w') : XYR W vl vm l m nl nm x y X Y w' :=
  ⟨own_below h.ox hb, own_below h.oy hb, h.ap, own_below h.ol hb, own_below h.om hb, below_next h.bel (Nat.le_refl _) hb⟩
theorem XYR.addx (h : XYR W vl vm l m nl nm x y X Y wr) (hown : w5.ownsRow W.heap.size 3 1 x5 (X.length + 1) (intsV X ++ [.int .i64 z])) (hg : (wr.alloc o).grownBy w5 x.ownBlock)
    (hp : x5.ownBlock = x.ownBlock ∨ x5.ownBlock = some (wr.alloc o).heap.size) : XYR W vl vm l m nl nm x5 y (X ++ [z]) Y w5 := by
  have h1 := h.below (below_alloc wr o)
  refine ⟨by rw [List.length_append, intsV_snoc]; exact hown, h1.oy.kept hg ?_, ?_, h1.ol.kept hg (own_own_ne h1.ol h1.ox (by decide)), h1.om.kept hg (own_own_ne h1.om h1.ox (by decide)), h1.bel.grown hg h1.bel.size (fun j hj => (h1.ox.lt j hj).1)⟩
  · exact .inr (fun e => h.ap e.symm)
  · rcases hp with hp | hp
    · rw [hp]; exact h.ap
    · rw [hp]
      intro e
      have := (h1.oy.lt _ e.symm).2
      omega
theorem XYR.addy (h : XYR W vl vm l m nl nm x y X Y wr) (hown : w5.ownsRow W.heap.size 3 1 x5 (Y.length + 1) (intsV Y ++ [.int .i64 z])) (hg : (wr.alloc o).grownBy w5 y.ownBlock)
    (hp : x5.ownBlock = y.ownBlock ∨ x5.ownBlock = some (wr.alloc o).heap.size) : XYR W vl vm l m nl nm x x5 X (Y ++ [z]) w5 := by
  have h1 := h.below (below_alloc wr o)
  refine ⟨h1.ox.kept hg ?_, by rw [List.length_append, intsV_snoc]; exact hown, ?_, h1.ol.kept hg (own_own_ne h1.ol h1.oy (by decide)), h1.om.kept hg (own_own_ne h1.om h1.oy (by decide)), h1.bel.grown hg h1.bel.size (fun j hj => (h1.oy.lt j hj).1)⟩
  · exact .inr h.ap
  · rcases hp with hp | hp
    · rw [hp]; exact h.ap
    · rw [hp]
      intro e
      have := (h1.ox.lt _ e).2
      omega
end

/-- the rows of two numbers to begin with -/
def XY0 (W : World) (a1 a2 b1 b2 : Int) (x y : Value) (wx : World) : Prop :=
  ∃ gx gy, x = .slice (some ⟨gx, 0, none⟩) 2 2 ∧ y = .slice (some ⟨gy, 0, none⟩) 2 2 ∧ Blk wx gx 3 #[.int .i64 a1, .int .i64 a2] ∧ Blk wx gy 3 #[.int .i64 b1, .int .i64 b2] ∧ gx ≠ gy ∧ W.heap.size ≤ gx ∧ W.heap.size ≤ gy ∧ Below W.heap.size W wx
theorem own_two {w : World} {B g : Nat} {p q : Int} (h : Blk w g 3 #[.int .i64 p, .int .i64 q]) (hB : B ≤ g) : w.ownsRow B 3 1 (.slice (some ⟨g, 0, none⟩) 2 2) 2 (intsV [p, q]) :=
  ⟨rfl, .inr ⟨g, 2, _, rfl, hB, h, Nat.le_refl _, by unfold maxLen; omega, rfl, rfl⟩⟩
theorem xy_both {W wz : World} {a1 a2 b1 b2 : Int} (hb : Below W.heap.size W wz) : XY0 W a1 a2 b1 b2 (.slice (some ⟨wz.heap.size, 0, none⟩) 2 2) (.slice (some ⟨wz.heap.size + 1, 0, none⟩) 2 2) ((wz.alloc (.cells #[.int .i64 a1, .int .i64 a2] 3)).alloc (.cells #[.int .i64 b1, .int .i64 b2] 3)) :=
  ⟨_, _, rfl, rfl, (Blk.new _ _ _).next (below_alloc _ _), by
    have := Blk.new (wz.alloc (.cells #[.int .i64 a1, .int .i64 a2] 3)) 3 #[.int .i64 b1, .int .i64 b2]
    rwa [World.size_alloc] at this, by omega, hb.size, by have := hb.size; omega, below_next (below_next hb (Nat.le_refl _) (below_alloc _ _)) (Nat.le_refl _) (below_alloc _ _)⟩
theorem yx_both {W wz : World} {a1 a2 b1 b2 : Int} (hb : Below W.heap.size W wz) : XY0 W a1 a2 b1 b2 (.slice (some ⟨wz.heap.size + 1, 0, none⟩) 2 2) (.slice (some ⟨wz.heap.size, 0, none⟩) 2 2) ((wz.alloc (.cells #[.int .i64 b1, .int .i64 b2] 3)).alloc (.cells #[.int .i64 a1, .int .i64 a2] 3)) :=
  ⟨_, _, rfl, rfl, by
    have := Blk.new (wz.alloc (.cells #[.int .i64 b1, .int .i64 b2] 3)) 3 #[.int .i64 a1, .int .i64 a2]
    rwa [World.size_alloc] at this, (Blk.new _ _ _).next (below_alloc _ _), by omega, by have := hb.size; omega, hb.size, below_next (below_next hb (Nat.le_refl _) (below_alloc _ _)) (Nat.le_refl _) (below_alloc _ _)⟩
theorem xy_first {W wz wy : World} {a1 a2 b1 b2 : Int} (hb : Below W.heap.size W wz) (h2 : Below (wz.alloc (.cells #[.int .i64 a1, .int .i64 a2] 3)).heap.size (wz.alloc (.cells #[.int .i64 a1, .int .i64 a2] 3)) wy) :
    XY0 W a1 a2 b1 b2 (.slice (some ⟨wz.heap.size, 0, none⟩) 2 2) (.slice (some ⟨wy.heap.size, 0, none⟩) 2 2) (wy.alloc (.cells #[.int .i64 b1, .int .i64 b2] 3)) :=
  ⟨_, _, rfl, rfl, ((Blk.new wz 3 #[.int .i64 a1, .int .i64 a2]).next h2).next (below_alloc _ _), Blk.new _ _ _, by have := h2.size; simp at this; omega, hb.size, by have := h2.size; have := hb.size; simp at *; omega, below_next (below_next (below_next hb (Nat.le_refl _) (below_alloc _ _)) (Nat.le_refl _) h2) (Nat.le_refl _) (below_alloc _ _)⟩
theorem yx_first {W wz wy : World} {a1 a2 b1 b2 : Int} (hb : Below W.heap.size W wz) (h2 : Below (wz.alloc (.cells #[.int .i64 b1, .int .i64 b2] 3)).heap.size (wz.alloc (.cells #[.int .i64 b1, .int .i64 b2] 3)) wy) :
    XY0 W a1 a2 b1 b2 (.slice (some ⟨wy.heap.size, 0, none⟩) 2 2) (.slice (some ⟨wz.heap.size, 0, none⟩) 2 2) (wy.alloc (.cells #[.int .i64 a1, .int .i64 a2] 3)) :=
  ⟨_, _, rfl, rfl, Blk.new _ _ _, ((Blk.new wz 3 #[.int .i64 b1, .int .i64 b2]).next h2).next (below_alloc _ _), by have := h2.size; simp at this; omega, by have := h2.size; have := hb.size; simp at *; omega, hb.size, below_next (below_next (below_next hb (Nat.le_refl _) (below_alloc _ _)) (Nat.le_refl _) h2) (Nat.le_refl _) (below_alloc _ _)⟩

/-- the rows and the lists to begin with -/
def LM0 (W : World) (a b : St) (na nb : Nat) (x y : Value) (X Y : List Int) (l m : Value) (wx : World) : Prop := ∃ vl vm, ListsIn W a vl ∧ ListsIn W b vm ∧ XYR W vl vm l m (na + 2) (nb + 2) x y X Y wx

/-- how many places the rows take -/
def sumN (L : List (List Int)) : Nat := (L.map fun l => l.length + 1).sum
theorem sumN_take {L : List (List Int)} {k : Nat} {l : List Int} (h : L[k]? = some l) : sumN (L.take (k + 1)) = sumN (L.take k) + (l.length + 1) := by
  unfold sumN
  rw [List.take_add_one, h, List.map_append, List.sum_append]
  simp
theorem sumN_take_le (L : List (List Int)) (k : Nat) : sumN (L.take k) ≤ sumN L := by
  unfold sumN
  conv => rhs; rw [← List.take_append_drop k L]
  rw [List.map_append, List.sum_append]
  omega
theorem lex_eq_of {p q x y x' y' : List Int} (hl : p.length = q.length) (h : lexP p q ≠ 0) : lexP (p ++ x) (q ++ y) = lexP (p ++ x') (q ++ y') := by
  rw [lexP_append hl, lexP_append hl, if_neg h, if_neg h]
theorem lex_first {p q x y : List Int} {n m : Int} (hl : p.length = q.length) (h : n ≠ m) : lexP (p ++ n :: x) (q ++ m :: y) ≠ 0 := by
  rw [lexP_append hl]
  split
  · simp only [lexP]
    split
    · decide
    · split
      · decide
      · omega
  · assumption
theorem lex_more {p q x y x' y' : List Int} {n m : Int} (hl : p.length = q.length) (h : n ≠ m) : lexP (p ++ n :: x) (q ++ m :: y) = lexP (p ++ n :: x') (q ++ m :: y') := by
  rw [lexP_append hl, lexP_append hl]
  split
  · simp only [lexP]
    split
    · rfl
    · split
      · rfl
      · omega
  · rfl
theorem lex_drop0 {x y : List Int} {i : Nat} (hi : x.length ≤ i) : lexP (x.drop i) (y.drop i) = 0 := by rw [List.drop_of_length_le hi]; rfl

theorem XYR.drewN {W wr : World} {vl vm : List Value} {l m x y : Value} {nl nm : Nat} {X Y : List Int} (h : XYR W vl vm l m nl nm x y X Y wr) (q : Nat) : XYR W vl vm l m nl nm x y X Y (wr.drewN q) :=
  ⟨h.ox, h.oy, h.ap, h.ol, h.om, drewN_below h.bel q⟩
theorem XYR.getl {W wr : World} {vl vm : List Value} {gl cl : Nat} {m x y : Value} {nl nm : Nat} {X Y : List Int} (h : XYR W vl vm (.slice (some ⟨gl, 0, none⟩) nl cl) m nl nm x y X Y wr) {k : Nat} (hk : 0 < nl) {u : Value} (hu : vl[k]? = some u) : wr.cell? ⟨gl, k, none⟩ = some u := by
  obtain ⟨g, e, -, -, hq⟩ := own_get h.ol hk
  injection e with e
  injection e with e
  subst e
  exact hq k u hu
theorem XYR.getm {W wr : World} {vl vm : List Value} {gm cm : Nat} {l x y : Value} {nl nm : Nat} {X Y : List Int} (h : XYR W vl vm l (.slice (some ⟨gm, 0, none⟩) nm cm) nl nm x y X Y wr) {k : Nat} (hk : 0 < nm) {u : Value} (hu : vm[k]? = some u) : wr.cell? ⟨gm, k, none⟩ = some u := by
  obtain ⟨g, e, -, -, hq⟩ := own_get h.om hk
  injection e with e
  injection e with e
  subst e
  exact hq k u hu
/-- what the rows say when k lists are through -/
structure CI (La Lb : List (List Int)) (wa wb : Int) (na nb : Nat) (res : Int) (k : Nat) (X Y : List Int) : Prop where
  len : X.length = Y.length
  small : X.length ≤ 2 + sumN (La.take k)
  first : ∃ X0 Y0, X = wa :: (na : Int) :: X0 ∧ Y = wb :: (nb : Int) :: Y0
  lex : lexP (X ++ lskey (La.drop k)) (Y ++ lskey (Lb.drop k)) = res
theorem CI.next {La Lb : List (List Int)} {wa wb : Int} {na nb : Nat} {res : Int} {k : Nat} {X Y l m : List Int} (h : CI La Lb wa wb na nb res k X Y) (hl : La[k]? = some l) (hm : Lb[k]? = some m) (he : l.length = m.length) : CI La Lb wa wb na nb res (k + 1) (X ++ lkey l) (Y ++ lkey m) := by
  obtain ⟨X0, Y0, e1, e2⟩ := h.first
  have a1 := List.getElem?_eq_some_iff.1 hl
  have a2 := List.getElem?_eq_some_iff.1 hm
  refine ⟨by simp [lkey, h.len, he], ?_, ⟨X0 ++ lkey l, Y0 ++ lkey m, by rw [e1]; rfl, by rw [e2]; rfl⟩, ?_⟩
  · have := h.small
    rw [sumN_take hl]
    simp [lkey]
    omega
  · have := h.lex
    rw [List.drop_eq_getElem_cons a1.1, List.drop_eq_getElem_cons a2.1, a1.2, a2.2] at this
    have e : ∀ (z : List Int) (Z : List (List Int)), lskey (z :: Z) = lkey z ++ lskey Z := fun z Z => by simp [lskey]
    rw [e, e] at this
    simpa using this
theorem CI.out {La Lb : List (List Int)} {wa wb : Int} {na nb : Nat} {res : Int} {k : Nat} {X Y l m A B : List Int} (h : CI La Lb wa wb na nb res k X Y) (hl : La[k]? = some l) (hm : Lb[k]? = some m) (hne : l.length ≠ m.length) : lexP (X ++ (l.length : Int) :: A) (Y ++ (m.length : Int) :: B) = res := by
  have a1 := List.getElem?_eq_some_iff.1 hl
  have a2 := List.getElem?_eq_some_iff.1 hm
  have := h.lex
  rw [List.drop_eq_getElem_cons a1.1, List.drop_eq_getElem_cons a2.1, a1.2, a2.2] at this
  have e : ∀ (z : List Int) (Z : List (List Int)), lskey (z :: Z) = (z.length : Int) :: (z.map rankP ++ lskey Z) := fun z Z => by simp [lskey, lkey]
  rw [e, e] at this
  rw [← this]
  exact lex_more h.len (by omega)
theorem CI.fin {La Lb : List (List Int)} {wa wb : Int} {na nb : Nat} {res : Int} {k : Nat} {X Y : List Int} (h : CI La Lb wa wb na nb res k X Y) (hk : La.length ≤ k ∧ Lb.length ≤ k ∨ na ≠ nb) : lexP X Y = res := by
  have h1 := h.lex
  rcases hk with ⟨h2, h3⟩ | h2
  · rw [List.drop_of_length_le h2, List.drop_of_length_le h3] at h1
    simpa [lskey] using h1
  · obtain ⟨X0, Y0, e1, e2⟩ := h.first
    have hne : lexP X Y ≠ 0 := by
      rw [e1, e2]
      exact lex_first (p := [wa]) (q := [wb]) rfl (by omega)
    rw [lex_eq_of h.len hne (x' := []) (y' := [])] at h1
    simpa using h1

set_option maxRecDepth 100000 in
set_option maxHeartbeats 32000000 in
theorem rcompare_any (a b : St) (u v : Value) (w : World) (h1 : StAt w u a) (h2 : StAt w v b) (n1 : (a.cells.length + 2) * 24 ≤ 140737488355328) (n2 : (b.cells.length + 2) * 24 ≤ 140737488355328) (hma : MidS a) (hmb : MidS b) (ht : sumN (listsS a) ≤ 1099511627776) :
    Calls Try.prog 15 #[u, v] w fun e w' => e = .returned (.int .i64 (cmpP a b)) ∧ Below w.heap.size w w' := by
  obtain ⟨ca, ia, oa, rfl, hca, hia, hoa⟩ := id h1
  obtain ⟨cb, ib, ob, rfl, hcb, hib, hob⟩ := id h2
  obtain ⟨W, hW⟩ : ∃ W, W = (w.alloc (.cells #[ca, ia, oa] 35)).alloc (.cells #[cb, ib, ob] 35) := ⟨_, rfl⟩
  have hB0 : Below w.heap.size w W := by rw [hW]; exact below_next (below_alloc _ _) (Nat.le_refl _) (below_alloc _ _)
  have hKA : Blk W w.heap.size 35 #[ca, ia, oa] := by rw [hW]; exact (Blk.new _ _ _).next (below_alloc _ _)
  have hKB : Blk W (w.heap.size + 1) 35 #[cb, ib, ob] := by
    rw [hW]
    have := Blk.new (w.alloc (.cells #[ca, ia, oa] 35)) 35 #[cb, ib, ob]
    rwa [World.size_alloc] at this
  have HCELL : Hid (∀ w', Below W.heap.size W w' → (w'.cell? ⟨w.heap.size, 0, none⟩ = some ca ∧ w'.cell? ⟨w.heap.size, 1, none⟩ = some ia ∧ w'.cell? ⟨w.heap.size, 2, none⟩ = some oa) ∧ w'.cell? ⟨w.heap.size + 1, 0, none⟩ = some cb ∧ w'.cell? ⟨w.heap.size + 1, 1, none⟩ = some ib ∧ w'.cell? ⟨w.heap.size + 1, 2, none⟩ = some ob) :=
    fun w' hb => ⟨⟨(hKA.next hb).cell 0, (hKA.next hb).cell 1, (hKA.next hb).cell 2⟩, (hKB.next hb).cell 0, (hKB.next hb).cell 1, (hKB.next hb).cell 2⟩
  obtain ⟨wa, hwa⟩ : ∃ x, IntKind.i64.wrap (wtsP (listsS a)) = x := ⟨_, rfl⟩
  obtain ⟨wb, hwb⟩ : ∃ x, IntKind.i64.wrap (wtsP (listsS b)) = x := ⟨_, rfl⟩
  have hsa := h1.below hB0 (Nat.le_refl _)
  have hsb := h2.below hB0 (Nat.le_refl _)
  have HWA : Hid (∀ w', Below W.heap.size W w' → Calls Try.prog 21 #[.agg #[ca, ia, oa]] w' fun e w'' => e = .returned (.int .i64 wa) ∧ Below w'.heap.size w' w'') := fun w' hb => by
    rw [← hwa]
    exact rweight_any a _ w' (hsa.below hb (Nat.le_refl _)) n1 hma
  have HWB : Hid (∀ w', Below W.heap.size W w' → Calls Try.prog 21 #[.agg #[cb, ib, ob]] w' fun e w'' => e = .returned (.int .i64 wb) ∧ Below w'.heap.size w' w'') := fun w' hb => by
    rw [← hwb]
    exact rweight_any b _ w' (hsb.below hb (Nat.le_refl _)) n2 hmb
  have HLA : Hid (∀ w', Below W.heap.size W w' → Calls Try.prog 35 #[.agg #[ca, ia, oa]] w' (ListsOut W w' a)) := fun w' hb => lists_own a _ W w' hsa hb n1
  have HLB : Hid (∀ w', Below W.heap.size W w' → Calls Try.prog 35 #[.agg #[cb, ib, ob]] w' (ListsOut W w' b)) := fun w' hb => lists_own b _ W w' hsb hb n2
  obtain ⟨aca, cca, rfl, -, -, -⟩ := id hca
  obtain ⟨acb, ccb, rfl, -, -, -⟩ := id hcb
  obtain ⟨⟨aia, cia, rfl, -, -, -⟩, -⟩ := id hia
  obtain ⟨⟨aoa, coa, rfl, -, -, -⟩, -⟩ := id hoa
  obtain ⟨⟨aib, cib, rfl, -, -, -⟩, -⟩ := id hib
  obtain ⟨⟨aob, cob, rfl, -, -, -⟩, -⟩ := id hob
  obtain ⟨na, hna⟩ : ∃ n, a.cells.length = n := ⟨_, rfl⟩
  obtain ⟨nb, hnb⟩ : ∃ n, b.cells.length = n := ⟨_, rfl⟩
  have HSA : Hid (∀ l ∈ listsS a, MidL l) := hma
  have HSB : Hid (∀ l ∈ listsS b, MidL l) := hmb
  have HLLA : Hid ((listsS a).length = na + 2) := by unfold Hid; simp [listsS, hna]
  have HLLB : Hid ((listsS b).length = nb + 2) := by unfold Hid; simp [listsS, hnb]
  obtain ⟨res, hres⟩ : ∃ x, cmpP a b = x := ⟨_, rfl⟩
  have HRES : Hid (lexP ([wa, (na : Int)] ++ lskey (listsS a)) ([wb, (nb : Int)] ++ lskey (listsS b)) = res) := by
    unfold Hid
    rw [← hres, ← hwa, ← hwb, ← hna, ← hnb]
    rfl
  rw [hres]
  generalize hLa : listsS a = La at *
  generalize hLb : listsS b = Lb at *
  generalize a.inp.length = nia at *
  generalize a.out.length = noa at *
  generalize b.inp.length = nib at *
  generalize b.out.length = nob at *
  rw [hna] at HCELL HWA HLA hW n1 ⊢
  rw [hnb] at HCELL HWB HLB hW n2 ⊢
  have HLAE := Lib.hid hLa
  have HLBE := Lib.hid hLb
  have HT := Lib.hid ht
  have hn63 : (na : Int) ≤ 5864062014804 := by omega
  have hm63 : (nb : Int) ≤ 5864062014804 := by omega
  have HNA := Lib.hid hna
  have HNB := Lib.hid hnb
  have HW := Lib.hid hW
  have HB0 := Lib.hid hB0
  obtain ⟨i0, hi0, hz0, hz1, hz2⟩ := info_parts intInfo
  clear hwa hwb hna hnb hca hia hoa hcb hib hob h1 h2 hma hmb hKA hKB hB0 hres hW hsa hsb hLa hLb ht n1 n2
  have HX : Hid (Below W.heap.size W W) := Below.refl _ _
  have HBA : Hid (Below W.heap.size W W) := Below.refl _ _
  obtain ⟨⟨m0, m1, m2⟩, n0, n1, n2⟩ := HCELL.out W (Below.refl _ _)
  go_enter Try.func15, Try.ntmps15
  go_upto_region 1 with (fail)
  rw [← HW.out]
  go_cut [5, 6] from 12 to 23 (fun x y wx => XY0 W wa na wb nb x y wx)
  case first =>
    go_region_held3 (fun w' => (w'.cell? ⟨w.heap.size, 0, none⟩ = some (.slice aca na cca) ∧ w'.cell? ⟨w.heap.size, 1, none⟩ = some (.slice aia nia cia) ∧ w'.cell? ⟨w.heap.size, 2, none⟩ = some (.slice aoa noa coa)) ∧ w'.cell? ⟨w.heap.size + 1, 0, none⟩ = some (.slice acb nb ccb) ∧ w'.cell? ⟨w.heap.size + 1, 1, none⟩ = some (.slice aib nib cib) ∧ w'.cell? ⟨w.heap.size + 1, 2, none⟩ = some (.slice aob nob cob))
      (first | exact HCELL.out _ HX.out | exact HCELL.out _ (below_drew HX.out) | exact HCELL.out _ (below_next HX.out (Nat.le_refl _) (below_alloc _ _)) | exact HCELL.out _ (below_drew (below_next HX.out (Nat.le_refl _) (below_alloc _ _))) | exact HCELL.out _ (below_next (below_next HX.out (Nat.le_refl _) (below_alloc _ _)) (Nat.le_refl _) (below_alloc _ _)))
      (first
        | (go_at_call 21; (first | (with_reducible refine (HWA.out _ ?_).mono ?_) | (with_reducible refine (HWB.out _ ?_).mono ?_)); (first | exact HX.out | exact below_drew HX.out | exact below_next HX.out (Nat.le_refl _) (below_alloc _ _) | exact below_drew (below_next HX.out (Nat.le_refl _) (below_alloc _ _))); rintro e wz ⟨rfl, hba⟩; have HP := HX; have HBA := Lib.hid hba; have HX := Lib.hid (by first | exact below_next HP.out (Nat.le_refl _) hba | exact below_next' HP.out (Nat.le_refl _) hba | exact below_next (below_next HP.out (Nat.le_refl _) (below_alloc _ _)) (Nat.le_refl _) hba : Below W.heap.size W wz); clear hba))
    all_goals
      go_wp2_with fail
      go_meet
      first
        | exact xy_both HX.out
        | exact yx_both HX.out
        | exact xy_first HP.out HBA.out
        | exact yx_first HP.out HBA.out
        | (simp only [World.size_alloc]; first | exact xy_both HX.out | exact yx_both HX.out | exact xy_first HP.out HBA.out | exact yx_first HP.out HBA.out)
  case rest =>
    obtain ⟨gx, gy, rfl, rfl, hbx, hby, hne, hgx, hgy, hbc⟩ := hcut
    have HXY : Hid (∀ w', Below wc.heap.size wc w' → w'.ownsRow W.heap.size 3 1 (.slice (some ⟨gx, 0, none⟩) 2 2) 2 (intsV [wa, (na : Int)]) ∧ w'.ownsRow W.heap.size 3 1 (.slice (some ⟨gy, 0, none⟩) 2 2) 2 (intsV [wb, (nb : Int)])) :=
      fun w' hb => ⟨own_two (hbx.next hb) hgx, own_two (hby.next hb) hgy⟩
    have HNE : Hid ((Value.slice (some ⟨gx, 0, none⟩) 2 2).ownBlock ≠ (Value.slice (some ⟨gy, 0, none⟩) 2 2).ownBlock) := by
      unfold Hid
      simp [Value.ownBlock]
      exact hne
    have HBC := Lib.hid hbc
    have HX := Lib.hid hbc
    have HY : Hid (Below wc.heap.size wc wc) := Below.refl _ _
    have HYA : Hid (Below wc.heap.size wc wc) := Below.refl _ _
    clear hbx hby hne hbc m0 m1 m2 n0 n1 n2 HBA
    obtain ⟨⟨m0, m1, m2⟩, n0, n1, n2⟩ := HCELL.out _ HX.out
    go_upto_region 2 with (fail)
    go_cut [7, 8] from 24 to 27 (fun l m wx => LM0 W a b na nb (.slice (some ⟨gx, 0, none⟩) 2 2) (.slice (some ⟨gy, 0, none⟩) 2 2) [wa, (na : Int)] [wb, (nb : Int)] l m wx)
    case first =>
      go_region_held3 (fun w' => (w'.cell? ⟨w.heap.size, 0, none⟩ = some (.slice aca na cca) ∧ w'.cell? ⟨w.heap.size, 1, none⟩ = some (.slice aia nia cia) ∧ w'.cell? ⟨w.heap.size, 2, none⟩ = some (.slice aoa noa coa)) ∧ w'.cell? ⟨w.heap.size + 1, 0, none⟩ = some (.slice acb nb ccb) ∧ w'.cell? ⟨w.heap.size + 1, 1, none⟩ = some (.slice aib nib cib) ∧ w'.cell? ⟨w.heap.size + 1, 2, none⟩ = some (.slice aob nob cob))
        (first | exact HCELL.out _ HX.out | exact HCELL.out _ (below_drew HX.out))
        (first
          | (go_at_call 35; (with_reducible refine (HLA.out _ ?_).mono ?_); (first | exact HX.out | exact below_drew HX.out); rintro e wz ⟨rv, vsa, rfl, hov, hin, hba⟩; have HOA := Lib.hid (own_mono hov (by first | exact HX.out.size)); have HIA := Lib.hid hin; have HYP := HY; have HBA := Lib.hid hba; have HY := Lib.hid (by first | exact below_next HYP.out (Nat.le_refl _) hba | exact below_next' HYP.out (Nat.le_refl _) hba : Below wc.heap.size wc wz); have HX := Lib.hid (below_next HBC.out (Nat.le_refl _) HY.out); clear hba hov hin)
          | (go_at_call 35; (with_reducible refine (HLB.out _ ?_).mono ?_); (first | exact HX.out | exact below_drew HX.out); rintro e wz ⟨rw', vsb, rfl, hov, hin, hba⟩; have HOB := Lib.hid (own_mono hov (by first | exact HX.out.size)); have HIB := Lib.hid hin; have HYP := HY; have HBA := Lib.hid hba; have HY := Lib.hid (by first | exact below_next HYP.out (Nat.le_refl _) hba | exact below_next' HYP.out (Nat.le_refl _) hba : Below wc.heap.size wc wz); have HX := Lib.hid (below_next HBC.out (Nat.le_refl _) HY.out); clear hba hov hin))
      all_goals
        go_wp2_with fail
        go_meet
        have hoa := HOA.out
        have hob := HOB.out
        rw [HNA.out] at hoa
        rw [HNB.out] at hob
        exact ⟨vsa, vsb, HIA.out, HIB.out, (HXY.out _ HY.out).1, (HXY.out _ HY.out).2, HNE.out, by first | exact hoa | exact own_below hoa HBA.out, by first | exact hob | exact own_below hob HBA.out, HX.out⟩
    case rest =>
      obtain ⟨vl, vm, hla, hlb, hxyr⟩ := hcut
      obtain ⟨al, cl, rfl⟩ := own_form hxyr.ol
      obtain ⟨am, cm, rfl⟩ := own_form hxyr.om
      obtain ⟨gl, rfl, -, -, -⟩ := own_get hxyr.ol (by omega)
      obtain ⟨gm, rfl, -, -, -⟩ := own_get hxyr.om (by omega)
      have HLA' := Lib.hid hla
      have HLB' := Lib.hid hlb
      have HXYR := Lib.hid hxyr
      obtain ⟨N, hN1, hN2, hN3⟩ : ∃ N, N ≤ na + 2 ∧ N ≤ nb + 2 ∧ (N = na + 2 ∨ N = nb + 2) := by
        rcases Nat.le_total na nb with h | h
        · exact ⟨na + 2, by omega, by omega, .inl rfl⟩
        · exact ⟨nb + 2, by omega, by omega, .inr rfl⟩
      have HN3 := Lib.hid hN3
      have HCI0 : Hid (CI La Lb wa wb na nb res 0 [wa, (na : Int)] [wb, (nb : Int)]) := ⟨rfl, by simp, ⟨[], [], rfl, rfl⟩, by rw [List.drop_zero, List.drop_zero]; exact HRES.out⟩
      clear hla hlb hxyr m0 m1 m2 n0 n1 n2 HX HY HYA HXY HNE HRES HWA HWB HLA HLB HCELL hN3
      go_wp2
      go_loopg [5, 6, 9] N (fun q x y i wr => ∃ (k : Nat) (X Y : List Int), k + q = N ∧ i = .int .i64 k ∧ XYR W vl vm (.slice (some ⟨gl, 0, none⟩) (na + 2) cl) (.slice (some ⟨gm, 0, none⟩) (nb + 2) cm) (na + 2) (nb + 2) x y X Y wr ∧ CI La Lb wa wb na nb res k X Y)
      case atStart => exact ⟨0, _, _, by omega, rfl, HXYR.out, HCI0.out⟩
      case round =>
        obtain ⟨k, X, Y, hk, rfl, hxyr, hci⟩ := hrel
        have Hk := Lib.hid hk
        have hkN : k ≤ N := by omega
        have HXR := Lib.hid hxyr
        have HCI := Lib.hid hci
        obtain ⟨ax, cx, hxf⟩ := own_form hxyr.ox
        obtain ⟨ay, cy, hyf⟩ := own_form hxyr.oy
        obtain ⟨NX, hNX⟩ : ∃ n, X.length = n := ⟨_, rfl⟩
        have hNY : Y.length = NX := by rw [← hci.len, hNX]
        rw [hNX] at hxf
        rw [hNY] at hyf
        subst hxf hyf
        have HNX := Lib.hid hNX
        have HNY := Lib.hid hNY
        have hnxs : NX ≤ 2 + 1099511627776 := by
          have h1 := hci.small
          have h2 := sumN_take_le La k
          have h3 := HT.out
          omega
        have HSZ := Lib.hid hxyr.bel.size
        clear hk hxyr hci hNX hNY
        by_cases hlt : k < N
        · have q1 : (k : Int) < (na : Int) + 2 := by omega
          have q2 : (k : Int) < (nb : Int) + 2 := by omega
          have q1' : ((na + 2 : Nat) : Int) = (na : Int) + 2 := by omega
          have q2' : ((nb + 2 : Nat) : Int) = (nb : Int) + 2 := by omega
          obtain ⟨l, hl⟩ : ∃ l, La[k]? = some l := ⟨_, List.getElem?_eq_getElem (by rw [HLLA.out]; omega)⟩
          obtain ⟨m, hm⟩ : ∃ m, Lb[k]? = some m := ⟨_, List.getElem?_eq_getElem (by rw [HLLB.out]; omega)⟩
          obtain ⟨u1, hu1, hi1⟩ := HLA'.out k l (by rw [HLAE.out]; exact hl)
          obtain ⟨u2, hu2, hi2⟩ := HLB'.out k m (by rw [HLBE.out]; exact hm)
          have hml := HSA.out l (List.mem_of_getElem? hl)
          have hmm := HSB.out m (List.mem_of_getElem? hm)
          have HML := Lib.hid hml
          have HMM := Lib.hid hmm
          have hsn := sumN_take hl
          have hbd : NX + (l.length + 1) ≤ 2 + 1099511627776 := by
            have h1 := HCI.out.small
            have h2 := sumN_take_le La (k + 1)
            have h3 := HT.out
            have h4 := HNX.out
            omega
          obtain ⟨⟨a1, c1, rfl, d1, d2, e1⟩, -⟩ := hi1
          obtain ⟨⟨a2, c2, rfl, f1, f2, e2⟩, -⟩ := hi2
          have HI1 := Lib.hid e1
          have HI2 := Lib.hid e2
          obtain ⟨ll, hll⟩ : ∃ n, l.length = n := ⟨_, rfl⟩
          obtain ⟨lm, hlm⟩ : ∃ n, m.length = n := ⟨_, rfl⟩
          rw [hll] at hu1 hbd HI1
          rw [hlm] at hu2 HI2 f1
          have h64 : (lm : Int) ≤ 9223372036854775807 := by unfold maxLen at f2; omega
          have HLL := Lib.hid hll
          have HLM := Lib.hid hlm
          have HL := Lib.hid hl
          have HM := Lib.hid hm
          have HU1 := Lib.hid hu1
          have HU2 := Lib.hid hu2
          have r1 := HXR.out.getl (by omega) hu1
          have v1 : IntKind.i64.wrap ((k : Int) + 1) = (k : Int) + 1 := IntWalk.i64_in _ (by omega)
          have hox := HXR.out.ox
          rw [HNX.out] at hox
          have HOX := Lib.hid hox
          clear hl hm hu1 hu2 hml hmm hsn d1 d2 e1 f1 f2 e2 hll hlm hox
          go_wp2_with (first
            | (at_builtin; refine wpList_append_own2 rfl (.tmp 40) (.tmp 46) 33 rfl W.heap.size 3 i0 (.int .i64 0) 1 8 Try.underlying33 hi0 hz0 hz1 hz2 rfl (by decide) (.slice ax NX cx) NX _ rfl (HOX.out.alloc _) ⟨wr.heap.size, 0, none⟩ 1 1 [.int .i64 ll] rfl rfl (cell_one_new _ _ _) (by intro u hu; simp only [List.mem_cons, List.not_mem_nil, or_false] at hu; rcases hu with rfl; rfl) (by decide) (by unfold maxLen; omega) (by omega) (by have := HSZ.out; simp; omega) ?_; intro v5 w5 hown5 hgr5 hpos5; have hx1 := HXR.out.addx (by rw [HNX.out]; exact hown5) hgr5 hpos5; have HX1 := Lib.hid hx1; obtain ⟨ax1, cx1, rfl⟩ := own_form hown5; have r2 := hx1.getm (by omega) HU2.out; have hoy := hx1.oy; rw [HNY.out] at hoy; have HOY := Lib.hid hoy; have HSZ := Lib.hid hx1.bel.size; clear hx1 hown5 hgr5 hpos5 hoy r1 HOX HXR)
            | (at_builtin; refine wpList_append_own2 rfl (.tmp 48) (.tmp 54) 33 rfl W.heap.size 3 i0 (.int .i64 0) 1 8 Try.underlying33 hi0 hz0 hz1 hz2 rfl (by decide) (.slice ay NX cy) NX _ rfl (HOY.out.alloc _) ⟨w5.heap.size, 0, none⟩ 1 1 [.int .i64 lm] rfl rfl (cell_one_new _ _ _) (by intro u hu; simp only [List.mem_cons, List.not_mem_nil, or_false] at hu; rcases hu with rfl; rfl) (by decide) (by unfold maxLen; omega) (by omega) (by have := HSZ.out; simp; omega) ?_; intro v5 w5 hown5 hgr5 hpos5; have hx2 := HX1.out.addy (by rw [HNY.out]; exact hown5) hgr5 hpos5; have HX2 := Lib.hid hx2; obtain ⟨ay1, cy1, rfl⟩ := own_form hown5; clear hx2 hown5 hgr5 hpos5 r2 HOY HX1))
          obtain ⟨J, hJ1, hJ2, hJ3⟩ : ∃ J, J ≤ ll ∧ J ≤ lm ∧ (J = ll ∨ J = lm) := by
            rcases Nat.le_total ll lm with h | h
            · exact ⟨ll, by omega, by omega, .inl rfl⟩
            · exact ⟨lm, by omega, by omega, .inr rfl⟩
          have HJ3 := Lib.hid hJ3
          clear hJ3
          go_wp2
          go_loopg [5, 6, 10] J (fun q x y i wr => ∃ (j : Nat) (X1 Y1 : List Int), j + q = J ∧ i = .int .i64 j ∧ XYR W vl vm (.slice (some ⟨gl, 0, none⟩) (na + 2) cl) (.slice (some ⟨gm, 0, none⟩) (nb + 2) cm) (na + 2) (nb + 2) x y X1 Y1 wr ∧ X1 = X ++ (ll : Int) :: (l.map rankP).take j ∧ Y1 = Y ++ (lm : Int) :: (m.map rankP).take j)
          case atStart => exact ⟨0, _, _, by omega, rfl, HX2.out, by simp, by simp⟩
          case round =>
            clear HX2
            obtain ⟨j, X1, Y1, hj, rfl, hxyr, hX1, hY1⟩ := hrel
            have Hj := Lib.hid hj
            have hjJ : j ≤ J := by omega
            have HXR := Lib.hid hxyr
            obtain ⟨bx, dx, hxf⟩ := own_form hxyr.ox
            obtain ⟨by', dy, hyf⟩ := own_form hxyr.oy
            have hn1 : X1.length = NX + 1 + j := by
              rw [hX1, List.length_append, HNX.out, List.length_cons, List.length_take, List.length_map, HLL.out]; omega
            have hn2 : Y1.length = NX + 1 + j := by
              rw [hY1, List.length_append, HNY.out, List.length_cons, List.length_take, List.length_map, HLM.out]; omega
            obtain ⟨NX1, hNX1⟩ : ∃ n, NX + 1 + j = n := ⟨_, rfl⟩
            rw [hNX1] at hn1 hn2
            have hnb1 : NX1 + 1 ≤ 3 + 1099511627776 := by omega
            rw [hn1] at hxf
            rw [hn2] at hyf
            subst hxf hyf
            have HN1 := Lib.hid hn1
            have HN2 := Lib.hid hn2
            have HX1E := Lib.hid hX1
            have HY1E := Lib.hid hY1
            have HSZ := Lib.hid hxyr.bel.size
            have r1 := hxyr.getl (by omega) HU1.out
            have r2 := hxyr.getm (by omega) HU2.out
            clear hj hxyr hn1 hn2 hX1 hY1 hNX1
            by_cases hjl : j < J
            · have w1 : (j : Int) < (ll : Int) := by omega
              have w2 : (j : Int) < (lm : Int) := by omega
              obtain ⟨g1, o1, rfl, hg1, hq1⟩ := HI1.out (by omega)
              obtain ⟨g2, o2, rfl, hg2, hq2⟩ := HI2.out (by omega)
              obtain ⟨xv, hxv⟩ := get_lt HLL.out.symm (show j < ll by omega)
              obtain ⟨yv, hyv⟩ := get_lt HLM.out.symm (show j < lm by omega)
              have p1 := cell_below HXR.out.bel hg1 (hq1 j xv hxv)
              have HRX : Hid (∀ w, Calls Try.prog 18 #[.int .i64 xv] w fun e w' => e = .returned (.int .i64 (rankP xv)) ∧ w = w') := fun w => (rrank_any xv (HML.out xv (List.mem_of_getElem? hxv)) w).mono fun _ _ ⟨a, b⟩ => ⟨a, b.symm⟩
              have HRY : Hid (∀ w, Calls Try.prog 18 #[.int .i64 yv] w fun e w' => e = .returned (.int .i64 (rankP yv)) ∧ w = w') := fun w => (rrank_any yv (HMM.out yv (List.mem_of_getElem? hyv)) w).mono fun _ _ ⟨a, b⟩ => ⟨a, b.symm⟩
              have HTX : Hid ((l.map rankP).take (j + 1) = (l.map rankP).take j ++ [rankP xv]) := by unfold Hid; rw [List.take_add_one, List.getElem?_map, hxv]; rfl
              have HTY : Hid ((m.map rankP).take (j + 1) = (m.map rankP).take j ++ [rankP yv]) := by unfold Hid; rw [List.take_add_one, List.getElem?_map, hyv]; rfl
              have HQ2 := Lib.hid (hq2 j yv hyv)
              have HG2 := Lib.hid hg2
              obtain ⟨rx, hrx⟩ : ∃ z, rankP xv = z := ⟨_, rfl⟩
              obtain ⟨ry, hry⟩ : ∃ z, rankP yv = z := ⟨_, rfl⟩
              rw [hrx] at HRX HTX
              rw [hry] at HRY HTY
              have v2 : IntKind.i64.wrap ((j : Int) + 1) = (j : Int) + 1 := IntWalk.i64_in _ (by omega)
              have hox := HXR.out.ox
              rw [HN1.out] at hox
              have HOX := Lib.hid hox
              clear hq1 hq2 hxv hyv hrx hry hox
              go_wp2_with fail
              refine (HRX.out _).mono ?_
              rintro e w' ⟨rfl, rfl⟩
              go_wp2_with (at_builtin; refine wpList_append_own2 rfl (.tmp 74) (.tmp 83) 33 rfl W.heap.size 3 i0 (.int .i64 0) 1 8 Try.underlying33 hi0 hz0 hz1 hz2 rfl (by decide) (.slice bx NX1 dx) NX1 _ rfl (HOX.out.alloc _) ⟨wr.heap.size, 0, none⟩ 1 1 [.int .i64 rx] rfl rfl (cell_one_new _ _ _) (by intro u hu; simp only [List.mem_cons, List.not_mem_nil, or_false] at hu; rcases hu with rfl; rfl) (by decide) (by unfold maxLen; omega) (by omega) (by have := HSZ.out; simp; omega) ?_; intro v5 w5 hown5 hgr5 hpos5; have hx1 := HXR.out.addx (by rw [HN1.out]; exact hown5) hgr5 hpos5; have HX1 := Lib.hid hx1; obtain ⟨ax2, cx2, rfl⟩ := own_form hown5; have r2 := hx1.getm (by omega) HU2.out; have p2 := cell_below hx1.bel HG2.out HQ2.out; have hoy := hx1.oy; rw [HN2.out] at hoy; have HOY := Lib.hid hoy; have HSZ := Lib.hid hx1.bel.size; clear hx1 hown5 hgr5 hpos5 hoy HOX HXR r1 p1)
              go_wp2_with fail
              refine (HRY.out _).mono ?_
              rintro e w' ⟨rfl, rfl⟩
              go_wp2_with (at_builtin; refine wpList_append_own2 rfl (.tmp 85) (.tmp 94) 33 rfl W.heap.size 3 i0 (.int .i64 0) 1 8 Try.underlying33 hi0 hz0 hz1 hz2 rfl (by decide) (.slice by' NX1 dy) NX1 _ rfl (HOY.out.alloc _) ⟨w5.heap.size, 0, none⟩ 1 1 [.int .i64 ry] rfl rfl (cell_one_new _ _ _) (by intro u hu; simp only [List.mem_cons, List.not_mem_nil, or_false] at hu; rcases hu with rfl; rfl) (by decide) (by unfold maxLen; omega) (by omega) (by have := HSZ.out; simp; omega) ?_; intro v5 w5 hown5 hgr5 hpos5; have hx2 := HX1.out.addy (by rw [HN2.out]; exact hown5) hgr5 hpos5; have HX2 := Lib.hid hx2; obtain ⟨ay2, cy2, rfl⟩ := own_form hown5; clear hx2 hown5 hgr5 hpos5 HOY HX1 r2 p2)
              go_wp2
              have hj := Hj.out
              go_roundg (J - (j + 1))
              case measure => omega
              case rel => exact ⟨j + 1, _, _, by omega, by go_num, HX2.out, by rw [HX1E.out, HTX.out]; simp, by rw [HY1E.out, HTY.out]; simp⟩
            · have hjJ' : J = j := by omega
              subst hjJ'
              have HXF : Hid (lexP X1 Y1 = res ∨ ll = lm) := by
                by_cases he : ll = lm
                · exact .inr he
                · refine .inl ?_
                  rw [HX1E.out, HY1E.out, ← HLL.out, ← HLM.out]
                  exact HCI.out.out HL.out HM.out (by rw [HLL.out, HLM.out]; exact he)
              by_cases he : ll = lm
              · subst he
                have hJl : ll = J := by rcases HJ3.out with h | h <;> exact h.symm
                subst hJl
                have t0 : ((ll : Int) != (ll : Int)) = false := by simp
                have w1 : ¬ (ll : Int) < (ll : Int) := by omega
                have HNEXT : Hid (CI La Lb wa wb na nb res (k + 1) X1 Y1) := by
                  unfold Hid
                  have e1 : X1 = X ++ lkey l := by rw [HX1E.out]; unfold lkey; rw [HLL.out, List.take_of_length_le (by rw [List.length_map, HLL.out]; exact Nat.le_refl _)]
                  have e2 : Y1 = Y ++ lkey m := by rw [HY1E.out]; unfold lkey; rw [HLM.out, List.take_of_length_le (by rw [List.length_map, HLM.out]; exact Nat.le_refl _)]
                  rw [e1, e2]
                  exact HCI.out.next HL.out HM.out (by rw [HLL.out, HLM.out])
                clear HXF
                go_wp2
                go_quiet (fail)
                have HXQ := Lib.hid (HXR.out.drewN nq)
                go_wp2
                have hk := Hk.out
                go_roundg (N - (k + 1))
                case measure => omega
                case rel => exact ⟨k + 1, _, _, by omega, by go_num, HXQ.out, HNEXT.out⟩
              · have t0 : ((ll : Int) != (lm : Int)) = true := by simp; omega
                have HLEX0 : Hid (lexP X1 Y1 = res) := by rcases HXF.out with h | h; exact h; exact absurd h he
                clear HXF
                rcases HJ3.out with h3 | h3
                · subst h3
                  have w1 : ¬ (J : Int) < (J : Int) := by omega
                  go_wp2
                  go_quiet (fail)

                  have hox := HXR.out.ox
                  have hoy := HXR.out.oy
                  rw [HN1.out] at hox
                  rw [HN2.out] at hoy
                  obtain ⟨wF, hwF⟩ : ∃ x : World, x = wr.drewN nq := ⟨_, rfl⟩
                  have HOX : Hid (wF.ownsRow W.heap.size 3 1 (.slice bx NX1 dx) NX1 (intsV X1)) := by rw [hwF]; exact hox
                  have HOY : Hid (wF.ownsRow W.heap.size 3 1 (.slice by' NX1 dy) NX1 (intsV Y1)) := by rw [hwF]; exact hoy
                  have HBF : Hid (Below w.heap.size w wF) := by rw [hwF]; exact drewN_below (HB0.out.trans (HXR.out.bel.mono HB0.out.size)) _
                  rw [← hwF]
                  clear hox hoy hwF r1 r2

                  go_wp2
                  go_loopg [11] NX1 (fun q i wr => ∃ k : Nat, k + q = NX1 ∧ i = .int .i64 k ∧ lexP (X1.drop k) (Y1.drop k) = res ∧ ∃ d, wr = wF.drewN d)
                  case atStart => exact ⟨0, by omega, rfl, by rw [List.drop_zero, List.drop_zero]; exact HLEX0.out, 0, rfl⟩
                  case round =>
                    obtain ⟨k, hk, rfl, hx, d, rfl⟩ := hrel
                    have Hk := Lib.hid hk
                    have HXK := Lib.hid hx
                    have hkn : k ≤ NX1 := by omega
                    clear hk hx
                    by_cases hlt : k < NX1
                    · have hlt' : (k : Int) < (NX1 : Int) := by omega
                      obtain ⟨gx, rfl, -, hgx, hqx⟩ := own_get HOX.out (by omega)
                      obtain ⟨gy, rfl, -, hgy, hqy⟩ := own_get HOY.out (by omega)
                      obtain ⟨xk, hxk⟩ := get_lt HN1.out.symm hlt
                      obtain ⟨yk, hyk⟩ := get_lt HN2.out.symm hlt
                      have p0 := hqx k (.int .i64 xk) (by unfold intsV; rw [List.getElem?_map, hxk]; rfl)
                      have p1 := hqy k (.int .i64 yk) (by unfold intsV; rw [List.getElem?_map, hyk]; rfl)
                      have hld := lex_drop hxk hyk
                      rw [HXK.out] at hld
                      have HLD := Lib.hid hld
                      have v1 : IntKind.i64.wrap ((k : Int) + 1) = (k : Int) + 1 := IntWalk.i64_in _ (by omega)
                      clear hqx hqy hxk hyk hld
                      by_cases c1 : xk < yk
                      · have HR : Hid (res = -1) := by have h := HLD.out; rw [if_pos c1] at h; exact h
                        go_wp2
                        go_quiet (fail)
                        go_wp2
                        go_ret
                        exact ⟨by rw [HR.out]; rfl, by first | exact drewN_below HBF.out _ | exact drewN_below (drewN_below HBF.out _) _ | exact drewN_below (drewN_below (drewN_below HBF.out _) _) _⟩
                      · by_cases c2 : yk < xk
                        · have HR : Hid (res = 1) := by have h := HLD.out; rw [if_neg c1, if_pos c2] at h; exact h
                          go_wp2
                          go_quiet (fail)
                          go_wp2
                          go_quiet (fail)
                          go_wp2
                          go_ret
                          exact ⟨by rw [HR.out]; rfl, by first | exact drewN_below HBF.out _ | exact drewN_below (drewN_below HBF.out _) _ | exact drewN_below (drewN_below (drewN_below HBF.out _) _) _⟩
                        · have HR : Hid (lexP (X1.drop (k + 1)) (Y1.drop (k + 1)) = res) := by have h := HLD.out; rw [if_neg c1, if_neg c2] at h; exact h.symm
                          go_wp2
                          go_quiet (fail)
                          go_wp2
                          go_quiet (fail)
                          go_wp2
                          have hk := Hk.out
                          go_roundg (NX1 - (k + 1))
                          case measure => omega
                          case rel => exact ⟨k + 1, by omega, by go_num, HR.out, _, rfl⟩
                    · have hge : ¬ (k : Int) < (NX1 : Int) := by omega
                      have hke : NX1 ≤ k := by omega
                      have HR : Hid (res = 0) := by
                        unfold Hid
                        rw [← HXK.out]
                        exact lex_drop0 (by rw [HN1.out]; exact hke)
                      clear hke
                      go_wp2
                      go_ret
                      exact ⟨by rw [HR.out]; rfl, by first | exact drewN_below HBF.out _ | exact drewN_below (drewN_below HBF.out _) _ | exact drewN_below (drewN_below (drewN_below HBF.out _) _) _⟩
                · subst h3
                  have w1 : (J : Int) < (ll : Int) := by omega
                  have w2 : ¬ (J : Int) < (J : Int) := by omega
                  go_wp2
                  go_quiet (fail)

                  have hox := HXR.out.ox
                  have hoy := HXR.out.oy
                  rw [HN1.out] at hox
                  rw [HN2.out] at hoy
                  obtain ⟨wF, hwF⟩ : ∃ x : World, x = wr.drewN nq := ⟨_, rfl⟩
                  have HOX : Hid (wF.ownsRow W.heap.size 3 1 (.slice bx NX1 dx) NX1 (intsV X1)) := by rw [hwF]; exact hox
                  have HOY : Hid (wF.ownsRow W.heap.size 3 1 (.slice by' NX1 dy) NX1 (intsV Y1)) := by rw [hwF]; exact hoy
                  have HBF : Hid (Below w.heap.size w wF) := by rw [hwF]; exact drewN_below (HB0.out.trans (HXR.out.bel.mono HB0.out.size)) _
                  rw [← hwF]
                  clear hox hoy hwF r1 r2

                  go_wp2
                  go_loopg [11] NX1 (fun q i wr => ∃ k : Nat, k + q = NX1 ∧ i = .int .i64 k ∧ lexP (X1.drop k) (Y1.drop k) = res ∧ ∃ d, wr = wF.drewN d)
                  case atStart => exact ⟨0, by omega, rfl, by rw [List.drop_zero, List.drop_zero]; exact HLEX0.out, 0, rfl⟩
                  case round =>
                    obtain ⟨k, hk, rfl, hx, d, rfl⟩ := hrel
                    have Hk := Lib.hid hk
                    have HXK := Lib.hid hx
                    have hkn : k ≤ NX1 := by omega
                    clear hk hx
                    by_cases hlt : k < NX1
                    · have hlt' : (k : Int) < (NX1 : Int) := by omega
                      obtain ⟨gx, rfl, -, hgx, hqx⟩ := own_get HOX.out (by omega)
                      obtain ⟨gy, rfl, -, hgy, hqy⟩ := own_get HOY.out (by omega)
                      obtain ⟨xk, hxk⟩ := get_lt HN1.out.symm hlt
                      obtain ⟨yk, hyk⟩ := get_lt HN2.out.symm hlt
                      have p0 := hqx k (.int .i64 xk) (by unfold intsV; rw [List.getElem?_map, hxk]; rfl)
                      have p1 := hqy k (.int .i64 yk) (by unfold intsV; rw [List.getElem?_map, hyk]; rfl)
                      have hld := lex_drop hxk hyk
                      rw [HXK.out] at hld
                      have HLD := Lib.hid hld
                      have v1 : IntKind.i64.wrap ((k : Int) + 1) = (k : Int) + 1 := IntWalk.i64_in _ (by omega)
                      clear hqx hqy hxk hyk hld
                      by_cases c1 : xk < yk
                      · have HR : Hid (res = -1) := by have h := HLD.out; rw [if_pos c1] at h; exact h
                        go_wp2
                        go_quiet (fail)
                        go_wp2
                        go_ret
                        exact ⟨by rw [HR.out]; rfl, by first | exact drewN_below HBF.out _ | exact drewN_below (drewN_below HBF.out _) _ | exact drewN_below (drewN_below (drewN_below HBF.out _) _) _⟩
                      · by_cases c2 : yk < xk
                        · have HR : Hid (res = 1) := by have h := HLD.out; rw [if_neg c1, if_pos c2] at h; exact h
                          go_wp2
                          go_quiet (fail)
                          go_wp2
                          go_quiet (fail)
                          go_wp2
                          go_ret
                          exact ⟨by rw [HR.out]; rfl, by first | exact drewN_below HBF.out _ | exact drewN_below (drewN_below HBF.out _) _ | exact drewN_below (drewN_below (drewN_below HBF.out _) _) _⟩
                        · have HR : Hid (lexP (X1.drop (k + 1)) (Y1.drop (k + 1)) = res) := by have h := HLD.out; rw [if_neg c1, if_neg c2] at h; exact h.symm
                          go_wp2
                          go_quiet (fail)
                          go_wp2
                          go_quiet (fail)
                          go_wp2
                          have hk := Hk.out
                          go_roundg (NX1 - (k + 1))
                          case measure => omega
                          case rel => exact ⟨k + 1, by omega, by go_num, HR.out, _, rfl⟩
                    · have hge : ¬ (k : Int) < (NX1 : Int) := by omega
                      have hke : NX1 ≤ k := by omega
                      have HR : Hid (res = 0) := by
                        unfold Hid
                        rw [← HXK.out]
                        exact lex_drop0 (by rw [HN1.out]; exact hke)
                      clear hke
                      go_wp2
                      go_ret
                      exact ⟨by rw [HR.out]; rfl, by first | exact drewN_below HBF.out _ | exact drewN_below (drewN_below HBF.out _) _ | exact drewN_below (drewN_below (drewN_below HBF.out _) _) _⟩
        · have hkN' : N = k := by omega
          subst hkN'
          have HLEX : Hid (lexP X Y = res) := HCI.out.fin (by
            by_cases h : na = nb
            · refine .inl ⟨by rw [HLLA.out]; rcases HN3.out with h3 | h3 <;> omega, by rw [HLLB.out]; rcases HN3.out with h3 | h3 <;> omega⟩
            · exact .inr h)
          have hox := HXR.out.ox
          have hoy := HXR.out.oy
          rw [HNX.out] at hox
          rw [HNY.out] at hoy
          have HOX := Lib.hid hox
          have HOY := Lib.hid hoy
          obtain ⟨wF, hwF⟩ : ∃ x : World, x = wr := ⟨_, rfl⟩
          subst hwF
          have HBF : Hid (Below w.heap.size w wF) := HB0.out.trans (HXR.out.bel.mono HB0.out.size)
          have q1' : ((na + 2 : Nat) : Int) = (na : Int) + 2 := by omega
          have q2' : ((nb + 2 : Nat) : Int) = (nb : Int) + 2 := by omega
          have hN3 := HN3.out
          clear hox hoy
          rcases hN3 with h3 | h3
          · have q1 : ¬ (N : Int) < (na : Int) + 2 := by omega
            clear h3

            go_wp2
            go_loopg [11] NX (fun q i wr => ∃ k : Nat, k + q = NX ∧ i = .int .i64 k ∧ lexP (X.drop k) (Y.drop k) = res ∧ ∃ d, wr = wF.drewN d)
            case atStart => exact ⟨0, by omega, rfl, by rw [List.drop_zero, List.drop_zero]; exact HLEX.out, 0, rfl⟩
            case round =>
              obtain ⟨k, hk, rfl, hx, d, rfl⟩ := hrel
              have Hk := Lib.hid hk
              have HXK := Lib.hid hx
              have hkn : k ≤ NX := by omega
              clear hk hx
              by_cases hlt : k < NX
              · have hlt' : (k : Int) < (NX : Int) := by omega
                obtain ⟨gx, rfl, -, hgx, hqx⟩ := own_get HOX.out (by omega)
                obtain ⟨gy, rfl, -, hgy, hqy⟩ := own_get HOY.out (by omega)
                obtain ⟨xk, hxk⟩ := get_lt HNX.out.symm hlt
                obtain ⟨yk, hyk⟩ := get_lt HNY.out.symm hlt
                have p0 := hqx k (.int .i64 xk) (by unfold intsV; rw [List.getElem?_map, hxk]; rfl)
                have p1 := hqy k (.int .i64 yk) (by unfold intsV; rw [List.getElem?_map, hyk]; rfl)
                have hld := lex_drop hxk hyk
                rw [HXK.out] at hld
                have HLD := Lib.hid hld
                have v1 : IntKind.i64.wrap ((k : Int) + 1) = (k : Int) + 1 := IntWalk.i64_in _ (by omega)
                clear hqx hqy hxk hyk hld
                by_cases c1 : xk < yk
                · have HR : Hid (res = -1) := by have h := HLD.out; rw [if_pos c1] at h; exact h
                  go_wp2
                  go_quiet (fail)
                  go_wp2
                  go_ret
                  exact ⟨by rw [HR.out]; rfl, by first | exact drewN_below HBF.out _ | exact drewN_below (drewN_below HBF.out _) _ | exact drewN_below (drewN_below (drewN_below HBF.out _) _) _⟩
                · by_cases c2 : yk < xk
                  · have HR : Hid (res = 1) := by have h := HLD.out; rw [if_neg c1, if_pos c2] at h; exact h
                    go_wp2
                    go_quiet (fail)
                    go_wp2
                    go_quiet (fail)
                    go_wp2
                    go_ret
                    exact ⟨by rw [HR.out]; rfl, by first | exact drewN_below HBF.out _ | exact drewN_below (drewN_below HBF.out _) _ | exact drewN_below (drewN_below (drewN_below HBF.out _) _) _⟩
                  · have HR : Hid (lexP (X.drop (k + 1)) (Y.drop (k + 1)) = res) := by have h := HLD.out; rw [if_neg c1, if_neg c2] at h; exact h.symm
                    go_wp2
                    go_quiet (fail)
                    go_wp2
                    go_quiet (fail)
                    go_wp2
                    have hk := Hk.out
                    go_roundg (NX - (k + 1))
                    case measure => omega
                    case rel => exact ⟨k + 1, by omega, by go_num, HR.out, _, rfl⟩
              · have hge : ¬ (k : Int) < (NX : Int) := by omega
                have hke : NX ≤ k := by omega
                have HR : Hid (res = 0) := by
                  unfold Hid
                  rw [← HXK.out]
                  exact lex_drop0 (by rw [HNX.out]; exact hke)
                clear hke
                go_wp2
                go_ret
                exact ⟨by rw [HR.out]; rfl, by first | exact drewN_below HBF.out _ | exact drewN_below (drewN_below HBF.out _) _ | exact drewN_below (drewN_below (drewN_below HBF.out _) _) _⟩
          · by_cases q0 : N < na + 2
            · have q1 : (N : Int) < (na : Int) + 2 := by omega
              have q2 : ¬ (N : Int) < (nb : Int) + 2 := by omega
              clear h3 q0

              go_wp2
              go_loopg [11] NX (fun q i wr => ∃ k : Nat, k + q = NX ∧ i = .int .i64 k ∧ lexP (X.drop k) (Y.drop k) = res ∧ ∃ d, wr = wF.drewN d)
              case atStart => exact ⟨0, by omega, rfl, by rw [List.drop_zero, List.drop_zero]; exact HLEX.out, 0, rfl⟩
              case round =>
                obtain ⟨k, hk, rfl, hx, d, rfl⟩ := hrel
                have Hk := Lib.hid hk
                have HXK := Lib.hid hx
                have hkn : k ≤ NX := by omega
                clear hk hx
                by_cases hlt : k < NX
                · have hlt' : (k : Int) < (NX : Int) := by omega
                  obtain ⟨gx, rfl, -, hgx, hqx⟩ := own_get HOX.out (by omega)
                  obtain ⟨gy, rfl, -, hgy, hqy⟩ := own_get HOY.out (by omega)
                  obtain ⟨xk, hxk⟩ := get_lt HNX.out.symm hlt
                  obtain ⟨yk, hyk⟩ := get_lt HNY.out.symm hlt
                  have p0 := hqx k (.int .i64 xk) (by unfold intsV; rw [List.getElem?_map, hxk]; rfl)
                  have p1 := hqy k (.int .i64 yk) (by unfold intsV; rw [List.getElem?_map, hyk]; rfl)
                  have hld := lex_drop hxk hyk
                  rw [HXK.out] at hld
                  have HLD := Lib.hid hld
                  have v1 : IntKind.i64.wrap ((k : Int) + 1) = (k : Int) + 1 := IntWalk.i64_in _ (by omega)
                  clear hqx hqy hxk hyk hld
                  by_cases c1 : xk < yk
                  · have HR : Hid (res = -1) := by have h := HLD.out; rw [if_pos c1] at h; exact h
                    go_wp2
                    go_quiet (fail)
                    go_wp2
                    go_ret
                    exact ⟨by rw [HR.out]; rfl, by first | exact drewN_below HBF.out _ | exact drewN_below (drewN_below HBF.out _) _ | exact drewN_below (drewN_below (drewN_below HBF.out _) _) _⟩
                  · by_cases c2 : yk < xk
                    · have HR : Hid (res = 1) := by have h := HLD.out; rw [if_neg c1, if_pos c2] at h; exact h
                      go_wp2
                      go_quiet (fail)
                      go_wp2
                      go_quiet (fail)
                      go_wp2
                      go_ret
                      exact ⟨by rw [HR.out]; rfl, by first | exact drewN_below HBF.out _ | exact drewN_below (drewN_below HBF.out _) _ | exact drewN_below (drewN_below (drewN_below HBF.out _) _) _⟩
                    · have HR : Hid (lexP (X.drop (k + 1)) (Y.drop (k + 1)) = res) := by have h := HLD.out; rw [if_neg c1, if_neg c2] at h; exact h.symm
                      go_wp2
                      go_quiet (fail)
                      go_wp2
                      go_quiet (fail)
                      go_wp2
                      have hk := Hk.out
                      go_roundg (NX - (k + 1))
                      case measure => omega
                      case rel => exact ⟨k + 1, by omega, by go_num, HR.out, _, rfl⟩
                · have hge : ¬ (k : Int) < (NX : Int) := by omega
                  have hke : NX ≤ k := by omega
                  have HR : Hid (res = 0) := by
                    unfold Hid
                    rw [← HXK.out]
                    exact lex_drop0 (by rw [HNX.out]; exact hke)
                  clear hke
                  go_wp2
                  go_ret
                  exact ⟨by rw [HR.out]; rfl, by first | exact drewN_below HBF.out _ | exact drewN_below (drewN_below HBF.out _) _ | exact drewN_below (drewN_below (drewN_below HBF.out _) _) _⟩
            · have q1 : ¬ (N : Int) < (na : Int) + 2 := by omega
              clear h3 q0

              go_wp2
              go_loopg [11] NX (fun q i wr => ∃ k : Nat, k + q = NX ∧ i = .int .i64 k ∧ lexP (X.drop k) (Y.drop k) = res ∧ ∃ d, wr = wF.drewN d)
              case atStart => exact ⟨0, by omega, rfl, by rw [List.drop_zero, List.drop_zero]; exact HLEX.out, 0, rfl⟩
              case round =>
                obtain ⟨k, hk, rfl, hx, d, rfl⟩ := hrel
                have Hk := Lib.hid hk
                have HXK := Lib.hid hx
                have hkn : k ≤ NX := by omega
                clear hk hx
                by_cases hlt : k < NX
                · have hlt' : (k : Int) < (NX : Int) := by omega
                  obtain ⟨gx, rfl, -, hgx, hqx⟩ := own_get HOX.out (by omega)
                  obtain ⟨gy, rfl, -, hgy, hqy⟩ := own_get HOY.out (by omega)
                  obtain ⟨xk, hxk⟩ := get_lt HNX.out.symm hlt
                  obtain ⟨yk, hyk⟩ := get_lt HNY.out.symm hlt
                  have p0 := hqx k (.int .i64 xk) (by unfold intsV; rw [List.getElem?_map, hxk]; rfl)
                  have p1 := hqy k (.int .i64 yk) (by unfold intsV; rw [List.getElem?_map, hyk]; rfl)
                  have hld := lex_drop hxk hyk
                  rw [HXK.out] at hld
                  have HLD := Lib.hid hld
                  have v1 : IntKind.i64.wrap ((k : Int) + 1) = (k : Int) + 1 := IntWalk.i64_in _ (by omega)
                  clear hqx hqy hxk hyk hld
                  by_cases c1 : xk < yk
                  · have HR : Hid (res = -1) := by have h := HLD.out; rw [if_pos c1] at h; exact h
                    go_wp2
                    go_quiet (fail)
                    go_wp2
                    go_ret
                    exact ⟨by rw [HR.out]; rfl, by first | exact drewN_below HBF.out _ | exact drewN_below (drewN_below HBF.out _) _ | exact drewN_below (drewN_below (drewN_below HBF.out _) _) _⟩
                  · by_cases c2 : yk < xk
                    · have HR : Hid (res = 1) := by have h := HLD.out; rw [if_neg c1, if_pos c2] at h; exact h
                      go_wp2
                      go_quiet (fail)
                      go_wp2
                      go_quiet (fail)
                      go_wp2
                      go_ret
                      exact ⟨by rw [HR.out]; rfl, by first | exact drewN_below HBF.out _ | exact drewN_below (drewN_below HBF.out _) _ | exact drewN_below (drewN_below (drewN_below HBF.out _) _) _⟩
                    · have HR : Hid (lexP (X.drop (k + 1)) (Y.drop (k + 1)) = res) := by have h := HLD.out; rw [if_neg c1, if_neg c2] at h; exact h.symm
                      go_wp2
                      go_quiet (fail)
                      go_wp2
                      go_quiet (fail)
                      go_wp2
                      have hk := Hk.out
                      go_roundg (NX - (k + 1))
                      case measure => omega
                      case rel => exact ⟨k + 1, by omega, by go_num, HR.out, _, rfl⟩
                · have hge : ¬ (k : Int) < (NX : Int) := by omega
                  have hke : NX ≤ k := by omega
                  have HR : Hid (res = 0) := by
                    unfold Hid
                    rw [← HXK.out]
                    exact lex_drop0 (by rw [HNX.out]; exact hke)
                  clear hke
                  go_wp2
                  go_ret
                  exact ⟨by rw [HR.out]; rfl, by first | exact drewN_below HBF.out _ | exact drewN_below (drewN_below HBF.out _) _ | exact drewN_below (drewN_below (drewN_below HBF.out _) _) _⟩
end Go.Proofs.Ytklbaocgjegdfaa
