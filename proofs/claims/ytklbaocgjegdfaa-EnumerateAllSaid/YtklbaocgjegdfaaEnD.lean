/- The walk of distribute. -/
import Derived.Test.YtklbaocgjegdfaaEnL3
import Derived.Laws.EntriesVeiled
namespace Go.Proofs.Ytklbaocgjegdfaa
open Go.RowKit Go.Shelf

/-- the rows of bounds and of weights, and the box of the first -/
structure Outer (h : Int) (B : List Bd) (Ll Lr be cl : Nat) (O : Nat → Prop) (W : World) : Prop where
  ll : ∀ i b, B[i]? = some b → W.cell? ⟨Ll, i * 2, none⟩ = some (.int .i64 b.lo) ∧ W.cell? ⟨Ll, i * 2 + 1, none⟩ = some (.int .i64 b.hi)
  lr : ∀ i, i ≤ B.length → W.cell? ⟨Lr, i * 2, none⟩ = some (.int .i64 (rwP h (B.drop i)).lo) ∧ W.cell? ⟨Lr, i * 2 + 1, none⟩ = some (.int .i64 (rwP h (B.drop i)).hi)
  e : Blk W be 57 #[.slice (some ⟨Ll, 0, none⟩) B.length cl]
  own : O Ll ∧ O Lr ∧ O be
  old : ∀ b, O b → b < W.heap.size

theorem hmkrows (m : Nat) (hm : m ≤ 1000000) (W : World) :
    (Instr.makeSlice 32 (.int .i64 (m : Int)) (.int .i64 (m : Int))).run Try.prog W = .ok (.slice (some ⟨W.heap.size, 0, none⟩) m m) (W.alloc (.cells (arr m (fun _ => .slice none 0 0)) 33)) := by
  obtain ⟨i0, hi, hz0, hz1, hz2⟩ := info_parts rowInfo
  have h := run_make (P := Try.prog) W 32 33 i0 (.slice none 0 0) Try.underlying32 hi hz0 .i64 .i64 m m (by omega) (Int.le_refl _) (by rw [hz2]; omega) (by omega)
  simp only [Int.toNat_natCast] at h
  rw [h, hz1, Nat.mul_one]
  have e : madeCells (Value.cells (.slice none 0 0)) m = arr m (fun _ => .slice none 0 0) := by
    rw [← arr_rep]
    apply Array.toList_inj.1
    rw [Array.toList_replicate]
    exact toList_madeCells_one _ _
  rw [e]

theorem blk_at {W : World} {b : Nat} (h : W.heap.size = b) (t : TypeId) (cs : Array Value) : Blk (W.alloc (.cells cs t)) b t cs := by subst h; exact Blk.new _ _ _
theorem blk_nx {W : World} {b : Nat} {t : TypeId} {cs : Array Value} (h : Blk W b t cs) (o : Obj) : Blk (W.alloc o) b t cs := h.next (below_alloc _ _)
theorem blk_st {W : World} {b g i : Nat} {t : TypeId} {cs : Array Value} {u : Value} (h : Blk W b t cs) (hne : b ≠ g) : Blk (W.setCell ⟨g, i, none⟩ u) b t cs := (Below.heap_setCell W ⟨g, i, none⟩ u b hne).trans h

section
variable {l : Nat} {h : Int} {B : List Bd} {J : List St → (Nat → Prop) → World → Prop} {Jx : List St → World → Prop} {L : List St}

set_option maxRecDepth 100000 in
set_option maxHeartbeats 8000000 in
theorem dist_any (hB : Bides J) (hcond : Cond h B) (hn : 0 < B.length)
    (hY : ∀ m pre v x O A W1, J pre O A → Below A.heap.size A W1 → ArgAt v x O A W1 → L[pre.length]? = some x → YieldAt Fence.wide m Try.prog l #[v] W1 fun e W' =>
      (e = .returned (.bool true) ∧ J (pre ++ [x]) O W' ∧ Leaves O W1 W') ∨ (e = .returned (.bool false) ∧ Jx (pre ++ [x]) W'))
    (Ll Lr be cl cr : Nat) (left : Int) (pre tail : List St) (W : World) (O : Nat → Prop) (h0 : 0 ≤ left) (h1 : left ≤ 1099511627776) (ho : Outer h B Ll Lr be cl O W) (hL : L = pre ++ (listsP h B left).map mkSt ++ tail) (hJ : J pre O W) :
    Calls Try.prog 34 #[.slice (some ⟨Ll, 0, none⟩) B.length cl, .slice (some ⟨Lr, 0, none⟩) (B.length + 1) cr, .int .i64 h, .int .i64 left, .func (.yield l) #[] #[]] W fun e W' =>
      (e = .returned (.bool true) ∧ ∃ O', J (pre ++ (listsP h B left).map mkSt) O' W' ∧ Outer h B Ll Lr be cl O' W') ∨ (e = .returned (.bool false) ∧ ∃ k, Jx (L.take (k + 1)) W') := by
  have hn6 := hcond.n
  have hmk := fun W => hmkrows B.length (by omega) W
  obtain ⟨b, hb⟩ : ∃ b, W.heap.size = b := ⟨_, rfl⟩
  obtain ⟨x, hx⟩ : ∃ x : Fix, x = { bl := b, br := b + 1, bh := b + 2, by_ := b + 3, Ls := b + 4, bs := b + 5, bi := b + 6, bn := b + 7, Ll := Ll, Lr := Lr, be := be, cl := cl, cr := cr } := ⟨_, rfl⟩
  have eS : x.bs = b + 5 := by rw [hx]
  have eY : x.by_ = b + 3 := by rw [hx]
  have eL : x.bl = b := by rw [hx]
  have eR : x.br = b + 1 := by rw [hx]
  have eH : x.bh = b + 2 := by rw [hx]
  have eI : x.bi = b + 6 := by rw [hx]
  have eN : x.bn = b + 7 := by rw [hx]
  have eLl : x.Ll = Ll := by rw [hx]
  have eLr : x.Lr = Lr := by rw [hx]
  have eE : x.be = be := by rw [hx]
  have eLs : x.Ls = b + 4 := by rw [hx]
  have eCl : x.cl = cl := by rw [hx]
  have eCr : x.cr = cr := by rw [hx]
  obtain ⟨A8, hA8⟩ : ∃ A8, A8 = ((((((((W.alloc (.cells #[.slice (some ⟨Ll, 0, none⟩) B.length cl] 57)).alloc (.cells #[.slice (some ⟨Lr, 0, none⟩) (B.length + 1) cr] 57)).alloc (.cells #[.int .i64 h] 3)).alloc (.cells #[.func (.yield l) #[] #[]] 39)).alloc
    (.cells (arr B.length fun _ => .slice none 0 0) 33)).alloc (.cells #[.slice (some ⟨b + 4, 0, none⟩) B.length B.length] 32)).alloc (.cells #[Value.nilFunc] 38)).alloc (.cells #[Value.nilFunc] 79)) := ⟨_, rfl⟩
  have q0 : Blk A8 b 57 #[.slice (some ⟨Ll, 0, none⟩) B.length cl] := by rw [hA8]; exact blk_nx (blk_nx (blk_nx (blk_nx (blk_nx (blk_nx (blk_nx (blk_at hb _ _) _) _) _) _) _) _) _
  have q1 : Blk A8 (b + 1) 57 #[.slice (some ⟨Lr, 0, none⟩) (B.length + 1) cr] := by rw [hA8]; exact blk_nx (blk_nx (blk_nx (blk_nx (blk_nx (blk_nx (blk_at (by simp [hb]) _ _) _) _) _) _) _) _
  have q2 : Blk A8 (b + 2) 3 #[.int .i64 h] := by rw [hA8]; exact blk_nx (blk_nx (blk_nx (blk_nx (blk_nx (blk_at (by simp [hb]) _ _) _) _) _) _) _
  have q3 : Blk A8 (b + 3) 39 #[.func (.yield l) #[] #[]] := by rw [hA8]; exact blk_nx (blk_nx (blk_nx (blk_nx (blk_at (by simp [hb]) _ _) _) _) _) _
  have q4 : Blk A8 (b + 4) 33 (arr B.length fun _ => .slice none 0 0) := by rw [hA8]; exact blk_nx (blk_nx (blk_nx (blk_at (by simp [hb]) _ _) _) _) _
  have q5 : Blk A8 (b + 5) 32 #[.slice (some ⟨b + 4, 0, none⟩) B.length B.length] := by rw [hA8]; exact blk_nx (blk_nx (blk_at (by simp [hb]) _ _) _) _
  have q6 : Blk A8 (b + 6) 38 #[Value.nilFunc] := by rw [hA8]; exact blk_nx (blk_at (by simp [hb]) _ _) _
  have q7 : Blk A8 (b + 7) 79 #[Value.nilFunc] := by rw [hA8]; exact blk_at (by simp [hb]) _ _
  have hb8 : Below W.heap.size W A8 := by
    rw [hA8]
    exact (((((((((Below.refl _ W).alloc (Nat.le_refl _) _).alloc (by simp) _).alloc (by simp; omega) _).alloc (by simp; omega) _).alloc (by simp; omega) _).alloc (by simp; omega) _).alloc (by simp; omega) _).alloc (by simp; omega) _)
  have hs8 : A8.heap.size = b + 8 := by rw [hA8]; simp [hb]
  obtain ⟨A9, hA9⟩ : ∃ A9, A9 = A8.setCell ⟨b + 6, 0, none⟩ x.listF := ⟨_, rfl⟩
  obtain ⟨A10, hA10⟩ : ∃ A10, A10 = A9.setCell ⟨b + 7, 0, none⟩ x.numF := ⟨_, rfl⟩
  have hb10 : Below W.heap.size W A10 := by
    rw [hA10, hA9]
    exact (hb8.setCell (p := ⟨b + 6, 0, none⟩) (by show W.heap.size ≤ b + 6; omega) _).setCell (p := ⟨b + 7, 0, none⟩) (by show W.heap.size ≤ b + 7; omega) _
  have hs10 : A10.heap.size = b + 8 := by rw [hA10, hA9]; simp [World.setCell, hs8]
  have up : ∀ {g : Nat} {t : TypeId} {cs : Array Value}, Blk A8 g t cs → g ≠ b + 6 → g ≠ b + 7 → Blk A10 g t cs := fun hh h6 h7 => by rw [hA10, hA9]; exact blk_st (blk_st hh h6) h7
  have hll := ho.own
  have hfix : FixAt l h B x A10 := by
    have hlt1 := ho.old _ hll.1
    have hlt2 := ho.old _ hll.2.1
    have hlt3 := ho.old _ hll.2.2
    refine ⟨by rw [eS, eLs]; exact up q5 (by omega) (by omega), by rw [eY]; exact up q3 (by omega) (by omega), by rw [eL, eLl, eCl]; exact up q0 (by omega) (by omega), by rw [eE, eLl, eCl]; exact ho.e.next hb10, by rw [eR, eLr, eCr]; exact up q1 (by omega) (by omega), by rw [eH]; exact up q2 (by omega) (by omega), ?_, ?_, fun i c hc => ?_, fun i hi => ?_⟩
    · have h1 := q6.set 0 x.listF
      rw [← hA9] at h1
      have h2 : Blk A10 (b + 6) 38 (#[Value.nilFunc].setIfInBounds 0 x.listF) := by rw [hA10]; exact blk_st h1 (by omega)
      rw [eI]
      exact h2
    · have h1 : Blk A9 (b + 7) 79 #[Value.nilFunc] := by rw [hA9]; exact blk_st q7 (by omega)
      have h2 := h1.set 0 x.numF
      rw [← hA10] at h2
      rw [eN]
      exact h2
    · obtain ⟨c1, c2⟩ := ho.ll i c hc
      rw [eLl]
      exact ⟨cell_below hb10 hlt1 c1, cell_below hb10 hlt1 c2⟩
    · obtain ⟨c1, c2⟩ := ho.lr i hi
      rw [eLr]
      exact ⟨cell_below hb10 hlt2 c1, cell_below hb10 hlt2 c2⟩
  have hinv : Inv l h B x (fun j => O j ∨ b ≤ j ∧ j < b + 8) A10 0 (fun _ => .slice none 0 0) (fun _ => []) := by
    refine ⟨hfix, fun j hj => ?_, ⟨?_, ?_, ?_, fun j hj => by omega, fun i j hi => by omega, fun j hj => by omega, fun j hj => by omega⟩, fun j hj => ?_⟩
    · unfold Fix.fx at hj
      rw [eS, eY, eL, eR, eH, eI, eN, eLl, eLr, eE] at hj
      rcases hj with h | h | h | h | h | h | h | h | h | h
      · exact .inr (by omega)
      · exact .inr (by omega)
      · exact .inr (by omega)
      · exact .inr (by omega)
      · exact .inr (by omega)
      · exact .inr (by omega)
      · exact .inr (by omega)
      · rw [h]; exact .inl hll.1
      · rw [h]; exact .inl hll.2.1
      · rw [h]; exact .inl hll.2.2
    · rw [eLs]; exact up q4 (by omega) (by omega)
    · rw [eLs]; exact .inr (by omega)
    · have hlt1 := ho.old _ hll.1
      have hlt2 := ho.old _ hll.2.1
      have hlt3 := ho.old _ hll.2.2
      unfold Fix.fx
      rw [eS, eY, eL, eR, eH, eI, eN, eLl, eLr, eE, eLs]
      omega
    · rw [hs10]
      rcases hj with hj | hj
      · have := ho.old j hj; omega
      · exact hj.2
  have hj10 : J pre (fun j => O j ∨ b ≤ j ∧ j < b + 8) A10 := hB _ _ _ _ _ hJ ⟨Touch.of_below hb10, fun j hj => by
    rcases hj with hj | hj
    · exact .inl hj
    · exact .inr (by rw [hs10, hb]; exact hj)⟩
  have hlist := list_all hB hcond hn hY B.length 0 (by omega) left pre tail A10 _ _ _ h0 h1 hinv (by
    unfold listRes
    simpa using hL) hj10
  have hres : listRes h B 0 (fun _ => []) left = (listsP h B left).map mkSt := by unfold listRes; simp
  rw [hres] at hlist
  rw [eS, eY, eL, eR, eH, eN] at hlist
  have hLF : x.listF = .func (.func 52) #[] #[.pointer (some ⟨b + 5, 0, none⟩), .pointer (some ⟨b + 3, 0, none⟩), .pointer (some ⟨b, 0, none⟩), .pointer (some ⟨b + 1, 0, none⟩), .pointer (some ⟨b + 2, 0, none⟩), .pointer (some ⟨b + 7, 0, none⟩)] := by
    unfold Fix.listF ptr
    rw [eS, eY, eL, eR, eH, eN]
  have hNF : x.numF = .func (.func 53) #[] #[.pointer (some ⟨b + 5, 0, none⟩), .pointer (some ⟨b + 6, 0, none⟩), .pointer (some ⟨b + 2, 0, none⟩), .pointer (some ⟨b + 1, 0, none⟩), .pointer (some ⟨b + 7, 0, none⟩)] := by
    unfold Fix.numF ptr
    rw [eS, eI, eH, eR, eN]
  have HLIST := Lib.hid hlist
  have HE : Hid (x.Ll = Ll ∧ x.Lr = Lr ∧ x.be = be ∧ x.cl = cl) := ⟨eLl, eLr, eE, eCl⟩
  have HA8 := Lib.hid hA8
  have HA10 : Hid (A10 = (A8.setCell ⟨b + 6, 0, none⟩ x.listF).setCell ⟨b + 7, 0, none⟩ x.numF) := by unfold Hid; rw [hA10, hA9]
  rw [hLF, hNF] at HA10
  have z6 := q6.cell 0
  have w6 := q6.free 0
  have q79 : Blk (A8.setCell ⟨b + 6, 0, none⟩ x.listF) (b + 7) 79 #[Value.nilFunc] := blk_st q7 (by omega)
  rw [hLF] at q79
  have z7 := q79.cell 0
  have w7 := q79.free 0
  have y6 := hfix.i.cell 0
  rw [eI, hLF] at y6
  simp only [List.getElem?_toArray, List.getElem?_cons_zero] at z6 z7 y6
  clear hA8 hA9 hA10 hlist hres hfix hinv hj10 hL hJ hB hY q0 q1 q2 q3 q4 q5 q6 q7 q79 up hb8 hb10 hs8 hs10 hcond hll ho eS eY eL eR eH eI eN eLl eLr eE eLs eCl eCr hLF hNF hx
  go_enter Try.func34, Try.ntmps34
  go_upto_region 4 with (fail)
  rw [show b + 1 + 1 + 1 + 1 + 1 + 1 + 1 = b + 7 by omega, show b + 1 + 1 + 1 + 1 + 1 + 1 = b + 6 by omega, show b + 1 + 1 + 1 + 1 + 1 = b + 5 by omega, show b + 1 + 1 + 1 + 1 = b + 4 by omega, show b + 1 + 1 + 1 = b + 3 by omega, show b + 1 + 1 = b + 2 by omega, ← HA8.out]
  clear HA8
  go_upto_region 6 with (fail)
  rw [← HA10.out]
  clear HA10 z6 z7 w6 w7
  go_wp2_with fail
  refine HLIST.out.mono ?_
  rintro e w1 (⟨rfl, O', vs', P', hJ', hI', -⟩ | ⟨rfl, k, hxx⟩)
  · have HJ1 := Lib.hid hJ'
    have HI1 := Lib.hid hI'
    clear hJ' hI'
    go_wp2
    go_ret
    obtain ⟨e1, e2, e3, e4⟩ := HE.out
    refine .inl ⟨rfl, O', HJ1.out, ⟨fun i c hc => ?_, fun i hi => ?_, ?_, ⟨?_, ?_, ?_⟩, HI1.out.old⟩⟩
    · rw [← e1]; exact HI1.out.fix.ll i c hc
    · rw [← e2]; exact HI1.out.fix.lr i hi
    · rw [← e3, ← e1, ← e4]; exact HI1.out.fix.e
    · rw [← e1]; exact HI1.out.own _ (by simp [Fix.fx])
    · rw [← e2]; exact HI1.out.own _ (by simp [Fix.fx])
    · rw [← e3]; exact HI1.out.own _ (by simp [Fix.fx])
  · have HXX := Lib.hid hxx
    clear hxx
    go_wp2
    go_ret
    exact .inr ⟨rfl, k, HXX.out⟩
end
end Go.Proofs.Ytklbaocgjegdfaa
