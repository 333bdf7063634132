/- The walk of awake. -/
import Derived.Test.YtklbaocgjegdfaaEnC2
import Derived.Test.YtklbaocgjegdfaaEnRo
namespace Go.Proofs.Ytklbaocgjegdfaa
open Go.RowKit Go.Shelf

attribute [local go_sem] Oper.semAt_some

theorem decls_new (w : World) (nm : ByteArray) (kd : Nat) (ln : Int) (t : TypeId) (hn : nm.size ≤ maxLen) (hk : kd ≤ 255) (hl : I64 ln) : DeclsAt (w.alloc (.cells #[.string nm, .int .u8 kd, .int .i64 ln] t)) (.slice (some ⟨w.heap.size, 0, none⟩) 1 1) [⟨nm, kd, ln⟩] := by
  refine ⟨⟨_, 1, rfl, Nat.le_refl _, by unfold maxLen; omega, fun _ => ⟨w.heap.size, 0, rfl, by simp, fun i d hd => ?_⟩⟩, fun d hd => ?_⟩
  · cases i with
    | zero =>
      simp only [List.getElem?_cons_zero, Option.some.injEq] at hd
      subst hd
      have h := Blk.new w t #[.string nm, .int .u8 kd, .int .i64 ln]
      exact ⟨h.cell 0, h.cell 1, h.cell 2⟩
    | succ i => simp at hd
  · rw [List.mem_singleton] at hd
    subst hd
    exact ⟨hn, hk, hl⟩

theorem eql_func_nil (f : Fn) (lb : Array Value) (w : World) : (binOp .eql 30 (.func f #[] lb) .nilFunc).run Try.prog w = .ok (.bool false) w := by kernel_rfl

theorem StNew.form {b : Nat} {W : World} {v : Value} {x : St} (h : StNew b W v x) : ∃ ac cc ai ci ao co, v = .agg #[.slice ac x.cells.length cc, .slice ai x.inp.length ci, .slice ao x.out.length co] := by
  obtain ⟨c, i, o, vs, rfl, h1, h2, h3⟩ := h
  obtain ⟨ac, cc, rfl⟩ := own_form h1.1
  obtain ⟨ai, ci, rfl⟩ := own_form h2
  obtain ⟨ao, co, rfl⟩ := own_form h3
  exact ⟨_, _, _, _, _, _, rfl⟩
theorem aw_get {k : Nat} {x : St} (h : ([[[0], []], [[1], []], [[-1], []]].map mkSt)[k]? = some x) : ∃ y, x = ⟨[[y]], [], []⟩ ∧ I64 y := by
  rcases k with _ | _ | _ | k
  · exact ⟨0, by simpa [mkSt] using h.symm, by decide, by decide⟩
  · exact ⟨1, by simpa [mkSt] using h.symm, by decide, by decide⟩
  · exact ⟨-1, by simpa [mkSt] using h.symm, by decide, by decide⟩
  · simp at h

theorem ints_row {A A' : World} {B base : Nat} {u : Value} {l : List Int} {row : Option Nat} (h : IntsNew base A u l) (hg : A.grownBy A' row) (hr : NoCells B A row) : IntsNew base A' u l := own_row' h hg hr
theorem StNew.row {A A' : World} {B b : Nat} {v : Value} {x : St} {row : Option Nat} (h : StNew b A v x) (hg : A.grownBy A' row) (hr : NoCells B A row) : StNew b A' v x := by
  obtain ⟨c, i, o, vs, rfl, ⟨h1, h1'⟩, h2, h3⟩ := h
  exact ⟨c, i, o, vs, rfl, ⟨own_row' h1 hg hr, fun k l hk => by
    obtain ⟨u, a, b⟩ := h1' k l hk
    exact ⟨u, a, ints_row b hg hr⟩⟩, ints_row h2 hg hr, ints_row h3 hg hr⟩
/-- the row that has been collected is older -/
def GotLt (w : World) (b : Nat) (W : World) : Prop := ∃ vg, Blk W (w.heap.size + 1) 33 #[vg] ∧ ∀ j, vg.ownBlock = some j → j < b
/-- between two rounds: what has been collected -/
def firstP (x : St) : Int := (x.cells.headD []).headD 0
structure AwI (w : World) (pre : List St) (O : Nat → Prop) (W : World) : Prop where
  res : Blk W w.heap.size 4 #[.bool false]
  got : ∃ v, Blk W (w.heap.size + 1) 33 #[v] ∧ W.ownsRow (w.heap.size + 2) 3 1 v pre.length (intsV (pre.map firstP)) ∧ ∀ j, O j → v.ownBlock ≠ some j
  old : ∀ j, O j → w.heap.size + 2 ≤ j ∧ j < W.heap.size
  bel : Below w.heap.size w W
theorem AwI.own {w : World} {B : Nat} (hB : w.heap.size ≤ B) (O : Nat → Prop) : OwnFrom B (fun s W => AwI w s O W) := by
  rintro pre A A' row ⟨h1, ⟨v, h2, h3, h4⟩, h5, h6⟩ hg hr
  exact ⟨h1.row hg hr, ⟨v, h2.row hg hr, own_row' h3 hg hr, h4⟩, fun j hj => ⟨(h5 j hj).1, Nat.lt_of_lt_of_le (h5 j hj).2 hg.size⟩, below_row h6 hB hg hr h6.size⟩
theorem AwI.bides (w : World) : Bides (AwI w) := by
  rintro pre O O' A A' ⟨h1, ⟨v, h2, h3, h4⟩, h5, h6⟩ ⟨ht, hn⟩
  have hlt := h6.size
  have hlg := h2.lt
  refine ⟨h1.touch ht (fun h => by have := (h5 _ h).1; omega), ⟨v, h2.touch ht (fun h => by have := (h5 _ h).1; omega), own_touch h3 ht h4, fun j hj => ?_⟩, fun j hj => ?_, ?_⟩
  · rcases hn j hj with h | h
    · exact h4 j h
    · intro he
      have := (h3.lt j he).2
      omega
  · rcases hn j hj with h | h
    · exact ⟨(h5 j h).1, Nat.lt_of_lt_of_le (h5 j h).2 ht.size⟩
    · omega
  · exact ⟨ht.os.trans h6.os, ht.tape.trans h6.tape, ht.output.trans h6.output, Nat.le_trans h6.size ht.size, fun j hj => (ht.block j (Nat.lt_of_lt_of_le hj h6.size) (fun ho => by have := (h5 j ho).1; omega)).trans (h6.block j hj)⟩

theorem results_boolcell {fn : Func} {r : Tmp} (h : fn.results = #[.cell r 4]) (tmps : Array Value) (w : World) (g : Nat) (b : Bool) (hp : tmps.getD r undef = .pointer (some ⟨g, 0, none⟩)) (hb : Blk w g 4 #[.bool b]) :
    (results fn tmps).run Try.prog w = .ok (.bool b) w := by
  have b0 := hb.cell 0
  simp only [List.getElem?_toArray, List.getElem?_cons_zero] at b0
  rw [Array.getD_eq_getD_getElem?] at hp
  simp [results, h, hp, go_sem, b0]
/-- what a round leaves -/
theorem aw_fin {w W w5 : World} {pre : List St} {O : Nat → Prop} {y : Int} {v v5 : Value} {np b Bx g g2 : Nat} {x0 u : Value} {cs : Array Value} (hy0 : pre.length = np)
    (hres : Blk W w.heap.size 4 #[.bool false]) (hgot : Blk W (w.heap.size + 1) 33 #[v]) (hown : W.ownsRow (w.heap.size + 2) 3 1 v np (intsV (pre.map firstP))) (hvo : ∀ j, O j → v.ownBlock ≠ some j) (hvg : ∀ j, v.ownBlock = some j → j < b)
    (hold : ∀ j, O j → w.heap.size + 2 ≤ j ∧ j < W.heap.size) (hbel : Below w.heap.size w W) (hX : Blk W Bx 35 cs) (c0 : cs[0]? = some x0) (hg : b ≤ g) (hg2 : b ≤ g2) (hu : W.cell? ⟨g, 0, none⟩ = some u) (hy : W.cell? ⟨g2, 0, none⟩ = some (.int .i64 y))
    (hown5 : w5.ownsRow (w.heap.size + 2) 3 1 v5 (np + 1) (intsV (pre.map firstP) ++ [.int .i64 y])) (hgr5 : (W.alloc (.cells #[.int .i64 y] 3)).drew.grownBy w5 v.ownBlock)
    (hpos5 : v5.ownBlock = v.ownBlock ∨ v5.ownBlock = some (W.alloc (.cells #[.int .i64 y] 3)).drew.heap.size) (B : Nat) :
    Blk w5 (w.heap.size + 1) 33 #[v] ∧ (w5.cell? ⟨Bx, 0, none⟩ = some x0 ∧ w5.cell? ⟨g, 0, none⟩ = some u ∧ w5.cell? ⟨g2, 0, none⟩ = some (.int .i64 y)) ∧
      KeepsFrom B W (w5.setCell ⟨w.heap.size + 1, 0, none⟩ v5) ∧ Leaves O W (w5.setCell ⟨w.heap.size + 1, 0, none⟩ v5) ∧ AwI w (pre ++ [⟨[[y]], [], []⟩]) O (w5.setCell ⟨w.heap.size + 1, 0, none⟩ v5) := by
  obtain ⟨A, hA⟩ : ∃ A, A = (W.alloc (.cells #[.int .i64 y] 3)).drew := ⟨_, rfl⟩
  rw [← hA] at hgr5 hpos5
  have hbA : Below W.heap.size W A := by rw [hA]; exact below_drew (below_alloc _ _)
  have hsA : A.heap.size = W.heap.size + 1 := by rw [hA]; simp
  have hownA := own_below hown hbA
  have hgotA := hgot.next hbA
  have hresA := hres.next hbA
  have hXA := hX.next hbA
  have n1 := hgotA.own_ne hownA (by decide)
  have n2 := hresA.own_ne hownA (by decide)
  have n3 := hXA.own_ne hownA (by decide)
  have n4 : ∀ k, b ≤ k → some k ≠ v.ownBlock := fun k hk e => by have := hvg k e.symm; omega
  have hgot5 := hgotA.grown hgr5 n1
  have hres5 := hresA.grown hgr5 n2
  have hX5 := hXA.grown hgr5 n3
  have hgl : g < W.heap.size := World.block_lt_of_cell? W _ hu
  have hg2l : g2 < W.heap.size := World.block_lt_of_cell? W _ hy
  have cl : ∀ k x, b ≤ k → k < W.heap.size → W.cell? ⟨k, 0, none⟩ = some x → w5.cell? ⟨k, 0, none⟩ = some x := fun k x h1 h2 h3 => by
    have e : w5.heap[k]? = A.heap[k]? := hgr5.block k (by omega) (n4 k h1)
    rw [World.cell?_of_block (w := A) (a := ⟨k, 0, none⟩) e]
    exact cell_below hbA h2 h3
  have hbsz := hbel.size
  have hltg := hgot.lt
  have hb5 : Below w.heap.size w w5 := (below_next hbel (Nat.le_refl _) hbA).grown hgr5 (by omega) (fun k e => by
    have := (hown.lt k e).1; omega)
  refine ⟨hgot5, ⟨by rw [hX5.cell, c0], cl g u hg hgl hu, cl g2 _ hg2 hg2l hy⟩, ?_, ?_, ?_, ?_, ?_, ?_⟩
  · exact ((keeps_below hbA B).trans (keeps_own hownA hgr5 B)).trans (keeps_set _ _ _ _ _)
  · refine ((leaves_below hbA (fun j hj => (hold j hj).2)).trans (leaves_gr hgr5 (fun j hj => ⟨by have := (hold j hj).2; omega, fun e => hvo j hj e.symm⟩))).trans (leaves_set _ _ _ (fun h => by have := (hold _ h).1; omega))
  · exact blk_st hres5 (by omega)
  · refine ⟨v5, hgot5.set 0 v5, ?_, fun j hj => ?_⟩
    · have := own_far hown5 (g := w.heap.size + 1) (by omega) 0 v5
      have e1 : (pre ++ [(⟨[[y]], [], []⟩ : St)]).length = np + 1 := by simp [hy0]
      have e2 : intsV ((pre ++ [(⟨[[y]], [], []⟩ : St)]).map firstP) = intsV (pre.map firstP) ++ [.int .i64 y] := by simp [intsV, firstP]
      rw [e1, e2]
      exact this
    · rcases hpos5 with h | h
      · rw [h]; exact hvo j hj
      · rw [h]
        intro e
        injection e with e
        have := (hold j hj).2
        omega
  · intro j hj
    have := hgr5.size
    have h2 := hold j hj
    exact ⟨h2.1, by simp [World.setCell]; omega⟩
  · exact hb5.setCell (p := ⟨w.heap.size + 1, 0, none⟩) (by show w.heap.size ≤ w.heap.size + 1; omega) _

set_option maxRecDepth 100000 in
set_option maxHeartbeats 8000000 in
theorem awake_any (w : World) : Calls Try.prog 11 #[] w fun e w' => e = .returned (.bool true) ∧ Below w.heap.size w w' := by
  have HALL : Hid (∀ w1 : World, ∀ u, DeclsAt w1 u [⟨⟨#[120]⟩, 1, 0⟩] → Calls Try.prog 14 #[u, .agg #[.int .i64 1, .int .i64 0, .int .i64 0]] w1 (AllOut ((allP 3 [⟨1, 1⟩, ⟨0, 0⟩]).map mkSt) w1)) := fun w1 u h => by
    have := all_any [⟨⟨#[120]⟩, 1, 0⟩] u 1 0 0 w1 h (by decide) ⟨by decide, by decide⟩ ⟨by decide, by decide⟩ ⟨by decide, by decide⟩
    exact this
  have HCNT : Hid (∀ w1 : World, ∀ u, DeclsAt w1 u [⟨⟨#[118]⟩, 2, 2⟩] → Calls Try.prog 26 #[u, .agg #[.int .i64 2, .int .i64 0, .int .i64 1]] w1 fun e w' => e = .returned (.tuple #[.int .i64 150, .int .i64 0]) ∧ Below w1.heap.size w1 w') := fun w1 u h => by
    have := count_any [⟨⟨#[118]⟩, 2, 2⟩] u 2 0 1 w1 h (by decide) (by decide) ⟨by decide, by decide⟩ ⟨by decide, by decide⟩ (by decide +kernel)
    exact this
  refine (callsIn_wide (n := 3)).1 ?_
  refine callsIn_of_wp_marks Try.func11 rfl trivial ?_ rfl
  simp only [Try.ntmps11, List.size_toArray, List.length_nil, Nat.reduceSub, Array.replicate_succ, Array.replicate_zero, List.push_toArray, List.append_toArray, List.nil_append, List.cons_append]
  gi_wp2_with fail
  obtain ⟨W0, hW0⟩ : ∃ W0, W0 = (w.alloc (.cells #[.bool false] 4)).alloc (.cells #[.slice none 0 0] 33) := ⟨_, rfl⟩
  have hs0 : W0.heap.size = w.heap.size + 1 + 1 := by rw [hW0]; simp
  have hB0 : Below w.heap.size w W0 := by rw [hW0]; exact below_next (below_alloc _ _) (Nat.le_refl _) (below_alloc _ _)
  have hkr : Blk W0 w.heap.size 4 #[.bool false] := by rw [hW0]; exact blk_nx (Blk.new _ _ _) _
  have hkg : Blk W0 (w.heap.size + 1) 33 #[.slice none 0 0] := by rw [hW0]; exact blk_at (by simp) _ _
  rw [← hW0, ← hs0]
  have hd := decls_new W0 ⟨#[120]⟩ 1 0 48 (by decide) (by decide) ⟨by decide, by decide⟩
  refine ⟨trivial, (callsIn_wide.2 (HALL.out _ _ hd)).mono ?_⟩
  rintro e w1 ⟨lb, O, rfl, hb1, hO, hseq⟩
  rw [all_awake] at hseq
  have hb01 : Below W0.heap.size W0 w1 := below_next (below_alloc _ _) (Nat.le_refl _) hb1
  have HB1 := Lib.hid (below_next hB0 (Nat.le_refl _) hb01)
  have HKR := Lib.hid (hkr.next hb01)
  have HKG := Lib.hid (hkg.next hb01)
  have HO : Hid (∀ b, O b → w.heap.size + 2 ≤ b ∧ b < w1.heap.size) := fun b hb => by
    have := hO b hb
    have e2 : (W0.alloc (.cells #[.string ⟨#[120]⟩, .int .u8 ((1 : Nat) : Int), .int .i64 0] 48)).heap.size = W0.heap.size + 1 := by simp
    omega
  have HSEQ := Lib.hid hseq
  have hs1 := hb01.size
  clear hO hseq hb1 hb01 hkr hkg hd hB0 hW0 HALL
  have heq := fun W => eql_func_nil (.func 32) lb W
  gi_wp2
  refine range_mem rfl (by decide) (gf := 32) (lb := lb) rfl trivial (enters_of Try.func32 (by kernel_rfl) rfl) (Arg := ArgAt) (HSEQ.out _) (Below.refl _ _) (fun b hb => (HO.out b hb).2)
    (AwI w) (fun _ _ _ => False) (AwI.own HB1.out.size) (fun _ _ _ _ _ h _ _ => h) (AwI.bides w)
    ⟨HKR.out, ⟨_, HKG.out, World.ownsRow_nil _ _ _ _, fun j _ h => by cases h⟩, HO.out, HB1.out⟩
    (fun v x O a' W => ∃ b Bx ac cc ai ci ao co, w.heap.size + 2 ≤ b ∧ GotLt w b W ∧ StNew b W (.agg #[.slice ac x.cells.length cc, .slice ai x.inp.length ci, .slice ao x.out.length co]) x ∧ (∀ j, O j → j < Bx) ∧ w.heap.size + 2 ≤ Bx ∧ Blk W Bx 35 #[.slice ac x.cells.length cc, .slice ai x.inp.length ci, .slice ao x.out.length co] ∧ a' = { tmps := #[.pointer (some ⟨w.heap.size, 0, none⟩), .pointer (some ⟨w.heap.size + 1, 0, none⟩), .func (.func 32) #[] lb, .pointer (some ⟨Bx, 0, none⟩), undef, undef, .agg #[.string ⟨#[120]⟩, .int .u8 1, .int .i64 0], .slice (some ⟨w.heap.size + 1 + 1, 0, none⟩) 1 1, .agg #[.int .i64 1, .int .i64 0, .int .i64 0], .func (.func 32) #[] lb, .func (.func 32) #[] lb, .bool false, .func (.func 32) #[] lb, .agg #[.slice ac x.cells.length cc, .slice ai x.inp.length ci, .slice ao x.out.length co], undef, undef, undef, undef, undef, undef, undef, undef, undef, undef, undef, undef, undef, undef, undef, undef, undef, undef, undef, undef, undef, undef, undef, undef, undef, undef, undef, undef, undef, undef, undef, undef, undef, undef, undef, undef, undef, undef, undef, undef, undef, undef, undef, undef, undef, undef, undef, undef, undef, undef, undef, undef, undef, undef, undef, undef, undef, undef, undef, undef, undef, undef], defers := [] })
    ?ax ?assign ?body ?done ?stop
  case ax =>
    rintro v x O a' ⟨⟩ W W' row ⟨b, Bx, ac, cc, ai, ci, ao, co, h1, ⟨vg, h2, h2'⟩, h3, h4, h5, h6, h7⟩ hg hr
    exact ⟨b, Bx, ac, cc, ai, ci, ao, co, h1, ⟨vg, h2.row hg hr, h2'⟩, h3.row hg hr, h4, h5, h6.row hg hr, h7⟩
  case assign =>
    rintro l pre v x O A W K hIA hbA ⟨-, -, hst⟩ hI hK
    obtain ⟨ac, cc, ai, ci, ao, co, rfl⟩ := hst.form
    have hgl := hIA.got
    obtain ⟨vg, hgb, hgo, -⟩ := hgl
    have hlt := hgb.lt
    have HST := Lib.hid hst
    have HI := Lib.hid hI
    have HG : Hid (GotLt w A.heap.size W) := ⟨vg, hgb.next hbA, fun j hj => (hgo.lt j hj).2⟩
    have hsz := hbA.size
    have HKK := Lib.hid hK
    clear hst hI hK hgb hgo hIA hbA
    gi_wp2
    refine HKK.out _ _ ((KeepsOthers.alloc _ _).from _) (leaves_below (below_alloc _ _) (fun j hj => (HI.out.old j hj).2)) ((AwI.own (Nat.le_refl _) O).alloc _ HI.out) ⟨A.heap.size, W.heap.size, ac, cc, ai, ci, ao, co, by omega, ?_, HST.out.next (below_alloc _ _), fun j hj => (HI.out.old j hj).2, by omega, Blk.new _ _ _, rfl⟩
    obtain ⟨vg, h1, h2⟩ := HG.out
    exact ⟨vg, h1.next (below_alloc _ _), h2⟩
  case body =>
    rintro l pre v x O a' W hl ⟨r, hr⟩ hI ⟨b, Bx, ac, cc, ai, ci, ao, co, hOb, ⟨vg, hvg, hvgo⟩, hst, hbB, hB2, hX, rfl⟩ hget
    obtain ⟨y, rfl, hy⟩ := aw_get hget
    have hpl : pre.length < 3 := (List.getElem?_eq_some_iff.1 hget).1
    obtain ⟨_, _, _, vs, e0, ⟨hr1, hr2⟩, -, -⟩ := hst
    injection e0 with e0
    simp only [Array.mk.injEq, List.cons.injEq, and_true] at e0
    obtain ⟨rfl, -, -⟩ := e0
    obtain ⟨g, rfl, hgb, hg, hq⟩ := own_get hr1 (by simp)
    obtain ⟨u, hu0, hun⟩ := hr2 0 [y] rfl
    have hu := hq 0 u hu0
    have hun' : W.ownsRow b 3 1 u 1 [.int .i64 y] := hun
    obtain ⟨au, cu, rfl⟩ := own_form hun'
    obtain ⟨g2, rfl, hg2b, hg2, hq2⟩ := own_get hun' (by simp)
    have hy2 := hq2 0 (.int .i64 y) rfl
    obtain ⟨hres, ⟨v, hgot, hown, hvo⟩, hold, hbel⟩ := hI
    simp only [List.length_cons, List.length_nil, Nat.zero_add] at hX
    have evg : vg = v := by
      unfold Blk at hvg hgot
      rw [hvg] at hgot
      simpa using hgot
    subst evg
    clear hvg
    have x0 := hX.cell 0
    have x1 := hgot.cell 0
    simp only [List.getElem?_toArray, List.getElem?_cons_zero] at x0 x1
    obtain ⟨ag, cg, rfl⟩ := own_form hown
    have x2 := hgot.free 0
    have HOWN := Lib.hid hown
    have HGOT := Lib.hid hgot
    have HVO := Lib.hid hvo
    have HVG := Lib.hid hvgo
    have HOLD := Lib.hid hold
    have HBEL := Lib.hid hbel
    have HRES := Lib.hid hres
    have HX := Lib.hid hX
    obtain ⟨np, hnp⟩ : ∃ np, pre.length = np := ⟨_, rfl⟩
    rw [hnp] at x1 hpl HOWN
    have HNP := Lib.hid hnp
    have hnp3 : ¬ (3 : Int) < (np : Int) := by omega
    clear hr1 hr2 hq hq2 hun hun' hu0 hvgo hown hgot hvo hold hbel hres hX hget hnp
    obtain ⟨i0, hi, hz0, hz1, hz2⟩ := info_parts intInfo
    gi_wp2
    have z0 : W.drew.frozen? ⟨w.heap.size + 1, 0, none⟩ = false := x2
    refine round_held (fun w' => w'.cell? ⟨Bx, 0, none⟩ = some (.slice (some ⟨g, 0, none⟩) 1 cc) ∧ w'.cell? ⟨g, 0, none⟩ = some (.slice (some ⟨g2, 0, none⟩) 1 cu) ∧ w'.cell? ⟨g2, 0, none⟩ = some (.int .i64 y)) (by kernel_rfl) (by kernel_rfl) ⟨x0, hu, hy2⟩ (fun hS => ?_)
    refine wpAnyH_take (i := 1) (v := .pointer (some ⟨Bx, 0, none⟩)) rfl (by kernel_rfl) (by kernel_rfl) (by kernel_rfl) (fun _ _ _ h => h) (Or.inl ⟨by rfl, fun w0 hw0 => by obtain ⟨s0, s1, s2⟩ := hw0; go_simp⟩) hS ?_
    go_simp
    refine wpAnyH_take (i := 2) (v := .slice (some ⟨g, 0, none⟩) 1 cc) rfl (by kernel_rfl) (by kernel_rfl) (by kernel_rfl) (fun _ _ _ h => h) (Or.inl ⟨by rfl, fun w0 hw0 => by obtain ⟨s0, s1, s2⟩ := hw0; go_simp⟩) hS ?_
    go_simp
    refine wpAnyH_take (i := 3) (v := .pointer (some ⟨g, 0, none⟩)) rfl (by kernel_rfl) (by kernel_rfl) (by kernel_rfl) (fun _ _ _ h => h) (Or.inl ⟨by rfl, fun w0 hw0 => by obtain ⟨s0, s1, s2⟩ := hw0; go_simp⟩) hS ?_
    go_simp
    refine wpAnyH_take (i := 4) (v := .slice (some ⟨g2, 0, none⟩) 1 cu) rfl (by kernel_rfl) (by kernel_rfl) (by kernel_rfl) (fun _ _ _ h => h) (Or.inl ⟨by rfl, fun w0 hw0 => by obtain ⟨s0, s1, s2⟩ := hw0; go_simp⟩) hS ?_
    go_simp
    refine wpAnyH_take (i := 5) (v := .pointer (some ⟨g2, 0, none⟩)) rfl (by kernel_rfl) (by kernel_rfl) (by kernel_rfl) (fun _ _ _ h => h) (Or.inl ⟨by rfl, fun w0 hw0 => by obtain ⟨s0, s1, s2⟩ := hw0; go_simp⟩) hS ?_
    go_simp
    refine wpAnyH_take (i := 6) (v := .int .i64 y) rfl (by kernel_rfl) (by kernel_rfl) (by kernel_rfl) (fun _ _ _ h => h) (Or.inl ⟨by rfl, fun w0 hw0 => by obtain ⟨s0, s1, s2⟩ := hw0; go_simp⟩) hS ?_
    go_simp
    have hX2 : ∀ A, A = (W.alloc (.cells #[.int .i64 y] 3)).drew → A.cell? ⟨Bx, 0, none⟩ = some (.slice (some ⟨g, 0, none⟩) 1 cc) ∧ A.cell? ⟨g, 0, none⟩ = some (.slice (some ⟨g2, 0, none⟩) 1 cu) ∧ A.cell? ⟨g2, 0, none⟩ = some (.int .i64 y) := fun A hA => by
      rw [hA]
      exact ⟨alloc_cell x0 _, alloc_cell hu _, alloc_cell hy2 _⟩
    have HX2 := Lib.hid hX2
    clear hX2
    have x3 := alloc_cell x1 (.cells #[.int .i64 y] 3)
    refine wpAnyH_ready (rs := [0, 7]) (by kernel_rfl) (by simp) ?_
    refine AllReadyH.cons rfl (fun K hK => ?_) (AllReadyH.cons rfl (fun K hK => ?_) AllReadyH.nil)
    · go_simp
      refine hK.out _ _ hS (fun hS => ?_)
      clear hK K
      refine wpAnyH_ready (rs := [7]) (by kernel_rfl) (by simp) ?_
      refine AllReadyH.cons rfl (fun K hK => ?_) AllReadyH.nil
      go_simp
      refine hK.out _ _ (HX2.out _ rfl) (fun hS => ?_)
      clear hK K
      refine wpAnyH_ready (rs := [8]) (by kernel_rfl) (by simp) ?_
      refine AllReadyH.cons rfl (fun K hK => ?_) AllReadyH.nil
      refine step_append_own2 (W.alloc (.cells #[.int .i64 y] 3)).drew rfl (.tmp 31) (.tmp 38) 33 rfl (w.heap.size + 2) 3 i0 (.int .i64 0) 1 8 Try.underlying33 hi hz0 hz1 hz2 rfl (by decide) (.slice ag np cg) np _ rfl (HOWN.out.alloc _) ⟨W.heap.size, 0, none⟩ 1 1 [.int .i64 y] rfl rfl (cell_one_new W _ _) (by intro u hu; simp only [List.mem_cons, List.not_mem_nil, or_false] at hu; rcases hu with rfl; rfl) (by decide) (by unfold maxLen; omega) (by omega) (by have := HBEL.out.size; have := HGOT.out.lt; simp; omega) ?_
      intro v5 w5 hown5 hgr5 hpos5
      obtain ⟨f1, f2, f3, f4, f5⟩ := aw_fin HNP.out HRES.out (by rw [← HNP.out]; exact HGOT.out) HOWN.out (by rw [← HNP.out]; exact HVO.out) (by rw [← HNP.out]; exact HVG.out) HOLD.out HBEL.out HX.out rfl hgb hg2b hu hy2 hown5 hgr5 hpos5 w1.heap.size
      obtain ⟨a5, c5, rfl⟩ := own_form hown5
      have g0 := f1.cell 0
      have g1 := f1.free 0
      simp only [List.getElem?_toArray, List.getElem?_cons_zero] at g0
      have F2 := Lib.hid f2
      have F5 := Lib.hid f5
      have F3 := Lib.hid f3
      have F4 := Lib.hid f4
      clear f1 f2 f3 f4 f5 hown5 hgr5 hpos5
      go_simp
      refine hK.out _ _ F2.out (fun hS => ?_)
      clear hK K
      refine wpAnyH_ready (rs := [9]) (by kernel_rfl) (by simp) ?_
      refine AllReadyH.cons rfl (fun K hK => ?_) AllReadyH.nil
      go_simp
      refine hK.out _ _ (by obtain ⟨t1, t2, t3⟩ := F2.out; exact ⟨(World.cell?_setCell_other _ _ _ _ (by intro e; injection e; omega)).trans t1, (World.cell?_setCell_other _ _ _ _ (by intro e; injection e; omega)).trans t2, (World.cell?_setCell_other _ _ _ _ (by intro e; injection e; omega)).trans t3⟩) (fun hS => ?_)
      clear hK K
      refine wpAnyH_done (by kernel_rfl) ?_ _
      exact ⟨F3.out, F4.out, F5.out⟩
    · go_simp
      refine hK.out _ _ (HX2.out _ rfl) (fun hS => ?_)
      clear hK K
      refine wpAnyH_ready (rs := [0]) (by kernel_rfl) (by simp) ?_
      refine AllReadyH.cons rfl (fun K hK => ?_) AllReadyH.nil
      go_simp
      refine hK.out _ _ (HX2.out _ rfl) (fun hS => ?_)
      clear hK K
      refine wpAnyH_ready (rs := [8]) (by kernel_rfl) (by simp) ?_
      refine AllReadyH.cons rfl (fun K hK => ?_) AllReadyH.nil
      refine step_append_own2 (W.alloc (.cells #[.int .i64 y] 3)).drew rfl (.tmp 31) (.tmp 38) 33 rfl (w.heap.size + 2) 3 i0 (.int .i64 0) 1 8 Try.underlying33 hi hz0 hz1 hz2 rfl (by decide) (.slice ag np cg) np _ rfl (HOWN.out.alloc _) ⟨W.heap.size, 0, none⟩ 1 1 [.int .i64 y] rfl rfl (cell_one_new W _ _) (by intro u hu; simp only [List.mem_cons, List.not_mem_nil, or_false] at hu; rcases hu with rfl; rfl) (by decide) (by unfold maxLen; omega) (by omega) (by have := HBEL.out.size; have := HGOT.out.lt; simp; omega) ?_
      intro v5 w5 hown5 hgr5 hpos5
      obtain ⟨f1, f2, f3, f4, f5⟩ := aw_fin HNP.out HRES.out (by rw [← HNP.out]; exact HGOT.out) HOWN.out (by rw [← HNP.out]; exact HVO.out) (by rw [← HNP.out]; exact HVG.out) HOLD.out HBEL.out HX.out rfl hgb hg2b hu hy2 hown5 hgr5 hpos5 w1.heap.size
      obtain ⟨a5, c5, rfl⟩ := own_form hown5
      have g0 := f1.cell 0
      have g1 := f1.free 0
      simp only [List.getElem?_toArray, List.getElem?_cons_zero] at g0
      have F2 := Lib.hid f2
      have F5 := Lib.hid f5
      have F3 := Lib.hid f3
      have F4 := Lib.hid f4
      clear f1 f2 f3 f4 f5 hown5 hgr5 hpos5
      go_simp
      refine hK.out _ _ F2.out (fun hS => ?_)
      clear hK K
      refine wpAnyH_ready (rs := [9]) (by kernel_rfl) (by simp) ?_
      refine AllReadyH.cons rfl (fun K hK => ?_) AllReadyH.nil
      go_simp
      refine hK.out _ _ (by obtain ⟨t1, t2, t3⟩ := F2.out; exact ⟨(World.cell?_setCell_other _ _ _ _ (by intro e; injection e; omega)).trans t1, (World.cell?_setCell_other _ _ _ _ (by intro e; injection e; omega)).trans t2, (World.cell?_setCell_other _ _ _ _ (by intro e; injection e; omega)).trans t3⟩) (fun hS => ?_)
      clear hK K
      refine wpAnyH_done (by kernel_rfl) ?_ _
      exact ⟨F3.out, F4.out, F5.out⟩
  case done =>
    rintro D O W hD ⟨hres, ⟨v, hgot, hown, -⟩, -, hbel⟩ hK
    obtain ⟨ag, cg, rfl⟩ := own_form hown
    obtain ⟨g, rfl, -, hg, hq⟩ := own_get hown (by decide)
    have q0 := hq 0 (.int .i64 0) rfl
    have q1 := hq 1 (.int .i64 1) rfl
    have q2 := hq 2 (.int .i64 (-1)) rfl
    have x0 := hgot.cell 0
    simp only [List.getElem?_toArray, List.getElem?_cons_zero] at x0
    have HRES := Lib.hid hres
    have HGOT := Lib.hid hgot
    have HBEL := Lib.hid hbel
    have HK := Lib.hid hK
    have HQ0 := Lib.hid q0
    have HQ1 := Lib.hid q1
    have HQ2 := Lib.hid q2
    have hsz := hbel.size
    clear hres hown hq hbel hK q0 q1 q2 x0 hgot
    gi_wp2_with fail
    have hd := decls_new W ⟨#[118]⟩ 2 2 48 (by decide) (by decide) ⟨by decide, by decide⟩
    refine ⟨trivial, (callsIn_wide.2 (HCNT.out _ _ hd)).mono ?_⟩
    rintro e w2 ⟨rfl, hb2⟩
    have hb02 : Below W.heap.size W w2 := below_next (below_alloc _ _) (Nat.le_refl _) hb2
    have x0 := (HGOT.out.next hb02).cell 0
    simp only [List.getElem?_toArray, List.getElem?_cons_zero] at x0
    have q0 := cell_below hb02 hg HQ0.out
    have q1 := cell_below hb02 hg HQ1.out
    have q2 := cell_below hb02 hg HQ2.out
    have hr2 := HRES.out.next hb02
    have y0 := hr2.cell 0
    have y1 := hr2.free 0
    simp only [List.getElem?_toArray, List.getElem?_cons_zero] at y0
    have HR2 := Lib.hid hr2
    have HB2 := Lib.hid (below_next HBEL.out (Nat.le_refl _) hb02)
    have hk2 : w2.heap[D]? = some (.deferred (some [])) := (hb02.block D (Array.getElem?_eq_some_iff.1 HK.out).1).trans HK.out
    have HK2 := Lib.hid hk2
    clear hd hb2 hb02 hr2 hk2
    gi_wp2
    have hk3 : (w2.setCell ⟨w.heap.size, 0, none⟩ (.bool true)).heap[D]? = some (.deferred (some [])) := (Below.heap_setCell w2 ⟨w.heap.size, 0, none⟩ _ D (by show D ≠ w.heap.size; have := HB1.out.size; have := HKG.out.lt; omega)).trans HK2.out
    have hf3 := HR2.out.set 0 (.bool true)
    have hb3 := HB2.out.setCell (p := ⟨w.heap.size, 0, none⟩) (Nat.le_refl _) (.bool true)
    generalize w2.setCell ⟨w.heap.size, 0, none⟩ (.bool true) = w3 at *
    refine ⟨by simp, .inl ⟨_, _, rfl, run_takeDeferred hk3, ?_⟩⟩
    have hg4 := grownBy_putObj' w3 D (.deferred none)
    have hlt := HB1.out.size
    have hlg := HKG.out.lt
    have hf4 : Blk (w3.putObj D (.deferred none)) w.heap.size 4 #[.bool true] := Blk.grown (row := some D) hf3 hg4 (fun e => by injection e; omega)
    exact ⟨_, results_boolcell rfl _ _ _ _ rfl hf4, rfl, hb3.grown hg4 hb3.size (fun k e => by injection e; omega)⟩
  case stop =>
    rintro D c k W _ h _
    exact h.elim
end Go.Proofs.Ytklbaocgjegdfaa
