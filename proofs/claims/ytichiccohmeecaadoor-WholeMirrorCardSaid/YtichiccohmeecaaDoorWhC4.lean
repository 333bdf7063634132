/- The walk of stack. -/
import Derived.Test.YtichiccohmeecaaDoorWhC3
import Derived.Deep.RegionLawGrows
namespace Go.Proofs.YtichiccohmeecaaDoor
open Go.RowKit

theorem clip_any (a : Option Addr) (n c : Nat) (w : World) (hn : n ≤ c) (hc : c ≤ maxLen) (h0 : a = none → c = 0) :
    Calls Tryd.prog 58 #[.slice a n c] w fun e w' => e = .returned (.slice a n n) ∧ w' = w := by
  have hc63 : c ≤ 9223372036854775807 := by unfold maxLen at hc; omega
  have n0 : (0 : Int) ≤ (n : Int) := Int.natCast_nonneg _
  have hn' : (n : Int) ≤ (c : Int) := by omega
  cases a with
  | none =>
    have := h0 rfl
    subst this
    have : n = 0 := by omega
    subst this
    clear hc h0 hn hn' n0
    go_enter Tryd.func58, Tryd.ntmps58
    go_wp2
    go_ret
    exact ⟨rfl, rfl⟩
  | some ad =>
    clear hc h0
    go_enter Tryd.func58, Tryd.ntmps58
    go_wp2
    go_ret
    exact ⟨rfl, rfl⟩

theorem IntsIn.clip {P : Nat → Prop} {w : World} {a : Option Addr} {n c : Nat} {l : List Int} (h : IntsIn P w (.slice a n c) l) : n ≤ c ∧ c ≤ maxLen ∧ (a = none → c = 0) ∧ n = l.length := by
  obtain ⟨⟨a', c', he, h1, h2, _⟩, h3⟩ := h
  injection he with e1 e2 e3
  subst e1 e2 e3
  exact ⟨h1, h2, fun ha => h3 l.length c (by rw [ha]), rfl⟩
/-- a slice that reads, appended to behind its clipped end: what the append asks for -/
theorem IntsIn.olds {P : Nat → Prop} {w : World} {a : Option Addr} {n c : Nat} {l : List Int} (h : IntsIn P w (.slice a n c) l) : ∀ b, a = some b → ∀ (j : Nat) u, (intsV l)[j]? = some u → w.cell? (b.add j) = some u := by
  intro b hb j u hu
  obtain ⟨⟨a', c', he, h1, h2, h3⟩, _⟩ := h
  injection he with e1 e2 e3
  subst e1 e2 e3
  have hj : j < l.length := by have := (List.getElem?_eq_some_iff.1 hu).1; simpa [intsV] using this
  obtain ⟨g, o, e, _, _, hc⟩ := h3 (by omega)
  rw [hb] at e
  injection e with e
  subst e
  rw [Go.WideShapes.add_plain, hc j _ (List.getElem?_eq_getElem hj)]
  simp only [intsV, List.getElem?_map, List.getElem?_eq_getElem hj, Option.map_some] at hu
  exact hu
theorem intsV_snoc (l : List Int) (x : Int) : intsV (l ++ [x]) = intsV l ++ [.int .i64 x] := by simp [intsV]
theorem intsV_len (l : List Int) : (intsV l).length = l.length := by simp [intsV]

/-- what the stack's instructions find -/
structure StkAt (F : Nat → Prop) (g : Nat) (m : Mach) (V : MV) (w : World) (gS c k : Nat) (a : Option Addr) (cc : Nat) : Prop where
  vS : V.vS = .slice (some ⟨gS, 0, none⟩) m.S.length c
  len : m.S.length ≤ c
  max : c ≤ maxLen
  ne : g ≠ gS
  own : F gS
  lt : k < m.S.length
  cell : w.cell? ⟨gS, k, none⟩ = some (.slice a (m.S.getD k []).length cc)
  free : w.frozen? ⟨gS, k, none⟩ = false
  ints : IntsIn (RO F g V) w (.slice a (m.S.getD k []).length cc) (m.S.getD k [])
theorem stk_at {F : Nat → Prop} {w : World} {g : Nat} {m : Mach} {V : MV} (h : MachW F w g m V) {k : Nat} (hk : k < m.S.length) : ∃ gS c a cc, StkAt F g m V w gS c k a cc := by
  obtain ⟨gS, c, hv, b1, b2, b3, b4, b5, b6, cells⟩ := stk_form h (by omega)
  obtain ⟨a, cc, y, i1, i2, I⟩ := cells k hk
  exact ⟨gS, c, a, cc, hv, b1, b2, b3, b5, hk, y, b6 k, I⟩
theorem StkAt.keep {F : Nat → Prop} {g : Nat} {m : Mach} {V : MV} {w w' : World} {gS c k : Nat} {a : Option Addr} {cc : Nat} (h : StkAt F g m V w gS c k a cc) (hb : Below w.heap.size w w') : StkAt F g m V w' gS c k a cc := by
  have hg := World.block_lt_of_cell? w _ h.cell
  exact ⟨h.vS, h.len, h.max, h.ne, h.own, h.lt, cell_lo hb hg h.cell, (hb.frozen (p := ⟨gS, k, none⟩) hg).trans h.free, h.ints.keep (Keep.of_below hb) (fun _ h => h)⟩

/-! THE WALK -/
theorem IntsIn.trim {P : Nat → Prop} {w : World} {a : Option Addr} {n c : Nat} {l : List Int} (h : IntsIn P w (.slice a n c) l) {j : Nat} (hj : j ≤ n) : IntsIn P w (.slice a j c) (l.take j) := by
  obtain ⟨⟨a', c', he, h1, h2, h3⟩, h4⟩ := h
  injection he with e1 e2 e3
  subst e1 e2 e3
  have hl : (l.take j).length = j := by rw [List.length_take]; omega
  refine ⟨⟨a, c, by rw [hl], by omega, h2, fun hp => ?_⟩, fun n' c' hv => ?_⟩
  · obtain ⟨g, o, e, q1, q2, q3⟩ := h3 (by omega)
    refine ⟨g, o, e, q1, q2, fun i x hx => q3 i x ?_⟩
    rw [List.getElem?_take] at hx
    split at hx
    · exact hx
    · cases hx
  · injection hv with e1 e2 e3
    subst e1 e3
    exact h4 _ _ rfl

theorem grown_below {a b : World} (h : a.grownBy b none) : Below a.heap.size a b := ⟨h.os, h.tape, h.output, h.size, fun j hj => h.block j hj (by simp)⟩
theorem push_done {F : Nat → Prop} {w W w' : World} {g gS c i cc a B : Nat} {aL : Option Addr} {m : Mach} {V : MV} {L : List Int} {x : Int} {v' : Value} (hM : MachW F W g m V) (hT : Touch F w W) (hS : StkAt F g m V W gS c i aL cc) (hb : Below W.heap.size W w')
    (hown : w'.ownsRow B 3 1 v' (L.length + 1) (intsV L ++ [.int .i64 x])) (hB : W.heap.size ≤ B) (ha : a < 16) {e : Ending} (he : e = .returned (.int .i64 0)) :
    ExecR F w g (0, { { m with R := upd m.R a 0 } with S := m.S.set i (L ++ [x]) }) e ((w'.setCell ⟨gS, i, none⟩ v').setCell ⟨g, 2 + a, none⟩ (.int .i64 0)) := by
  have hW : w.heap.size ≤ W.heap.size := hT.size
  have h1 : MachW (grow F w w') w' g m V := (hM.below hb).mono (fun _ h => .inl h)
  have hfresh : ∀ j, v'.ownBlock = some j → RO (grow F w w') g V j := fun j hj => by
    rcases hown.2 with ⟨h0, _⟩ | ⟨h, cap, cur, h0, hge, hh, _⟩
    · rw [h0] at hj; cases hj
    · rw [h0] at hj
      have hj : h = j := by injection hj
      subst hj
      have hl := (Array.getElem?_eq_some_iff.1 hh).1
      have k1 : ∀ y, V.vM.ownBlock = some y → y < W.heap.size := fun y hy => by
        rcases hM.mem.2 with ⟨z, _⟩ | ⟨q, _, _, z, _, hq, _⟩
        · rw [z] at hy; cases hy
        · rw [z] at hy; injection hy with hy; subst hy; exact (Array.getElem?_eq_some_iff.1 hq).1
      have k2 : ∀ y, V.vS.ownBlock = some y → y < W.heap.size := fun y hy => by
        rcases hM.stk.2 with ⟨z, _⟩ | ⟨q, _, _, z, _, hq, _⟩
        · rw [z] at hy; cases hy
        · rw [z] at hy; injection hy with hy; subst hy; exact (Array.getElem?_eq_some_iff.1 hq).1
      have hgl := hM.blk.lt
      refine ⟨.inr ⟨by omega, hl⟩, by omega, fun e => ?_, fun e => ?_⟩
      · have := k1 h e.symm; omega
      · have := k2 h e.symm; omega
  have hI : IntsIn (RO (grow F w w') g V) w' v' (L ++ [x]) := by
    rw [← intsV_snoc] at hown
    have := hown
    exact own_ints (l := L ++ [x]) (base := B) (by rw [List.length_append]; exact hown) hfresh
  have h2 := (h1.stkput hS.vS i v' _ hI).reg ha 0
  refine ⟨_, he, ?_, h2.mono (fun j hj => ?_)⟩
  · exact ((hT.below hb).of_set (.inl hS.own) _ _).of_set (.inl hM.own) _ _
  · simpa [grow, World.setCell] using hj
theorem drew_alloc (W : World) (o : Obj) : Below W.heap.size W (W.drew.alloc o) := by
  have h := below_alloc W.drew o
  exact ⟨h.os, h.tape, h.output, h.size, h.block⟩
theorem one_cell (W : World) (u0 : Value) (t : TypeId) : ∀ (j : Nat) (u : Value), [u0][j]? = some u → (W.alloc (.cells #[u0] t)).cell? ((⟨W.heap.size, 0, none⟩ : Addr).add j) = some u := fun j u hu => by
  have hj : j = 0 := by
    cases j with
    | zero => rfl
    | succ k => simp at hu
  subst hj
  rw [Go.WideShapes.add_plain]
  have := (Blk.new W t #[u0]).cell 0
  simp only [List.getElem?_cons_zero] at hu
  rw [← hu]
  exact this
def StkR (F : Nat → Prop) (w : World) (g : Nat) (m : Mach) (i : Ins) (e : Ending) (w' : World) : Prop := ExecR F w g (stackP m i) e w'
theorem dcell {w : World} {p : Addr} {u : Value} (h : w.cell? p = some u) (n : Nat) : (w.drewN n).cell? p = some u := h
theorem dfroz {w : World} {p : Addr} {u : Bool} (h : w.frozen? p = u) (n : Nat) : (w.drewN n).frozen? p = u := h
theorem Below.drewN_self (w : World) (n : Nat) : Below w.heap.size w (w.drewN n) := ⟨rfl, rfl, rfl, Nat.le_refl _, fun _ _ => rfl⟩
theorem stk_nat (m : Mach) (i : Nat) : stk m (i : Int) = m.S.getD i [] := rfl
set_option maxRecDepth 100000 in
set_option maxHeartbeats 8000000 in
theorem stack_15 (F : Nat → Prop) (g : Nat) (m : Mach) (V : MV) (w : World) (h : MachW F w g m V) (a : Nat) (b c d : Int) (ha : a < 16) (hb0 : 0 ≤ b) (hb1 : b ≤ 16384) (hs0 : 0 ≤ m.sb) (hs1 : m.sb ≤ 16384) (hl : m.S.length ≤ 16384) (hL : ∀ s ∈ m.S, s.length ≤ 1000000) :
    Calls Tryd.prog 53 #[.pointer (some ⟨g, 0, none⟩), .agg #[.int .u8 15, .int .i64 (a : Int), .int .i64 b, .int .i64 c, .int .i64 d]] w (ExecR F w g (stackP m ⟨15, a, b, c, d⟩)) := by
  have hg := h.blk.lt
  obtain ⟨WB, hWB⟩ : ∃ WB, WB = w.alloc (.cells #[.int .u8 15, .int .i64 (a : Int), .int .i64 b, .int .i64 c, .int .i64 d] 45) := ⟨_, rfl⟩
  have hbox : Blk WB w.heap.size 45 #[.int .u8 15, .int .i64 (a : Int), .int .i64 b, .int .i64 c, .int .i64 d] := by rw [hWB]; exact Blk.new _ _ _
  have hmb : MachW F WB g m V := by rw [hWB]; exact h.al _
  have HT : Hid (Touch F w WB) := Lib.hid (by rw [hWB]; exact (Touch.refl F w).alloc _)
  have HM := Lib.hid hmb
  have hbel : Below w.heap.size w WB := by rw [hWB]; exact below_alloc _ _
  have m0 : ∀ q, (WB.drewN q).cell? ⟨w.heap.size, 0, none⟩ = some (.int .u8 15) := fun _ => hbox.cell 0
  have m1 : ∀ q, (WB.drewN q).cell? ⟨w.heap.size, 1, none⟩ = some (.int .i64 a) := fun _ => hbox.cell 1
  have m2 : WB.cell? ⟨w.heap.size, 2, none⟩ = some (.int .i64 b) := hbox.cell 2
  have M0 := Lib.hid m0
  have M1 := Lib.hid m1
  have HF := Lib.hid (find_any F g m V WB hmb b hb0 hb1 hs0 hs1 hl)
  have hx0 := (find_pos hb0 hs0).1
  have a0 : (0 : Int) ≤ (a : Int) := Int.natCast_nonneg _
  have a1 : (a : Int) < 16 := by omega
  have ef : find m (⟨15, (a : Int), b, c, d⟩ : Ins).b = find m b := rfl
  have HWB := Lib.hid hWB
  clear m0 m1 hWB
  unfold stackP
  rw [ef]
  clear ef
  generalize find m b = y at *
  dsimp only
  by_cases h1 : (m.S.length : Int) ≤ y
  · rw [if_pos h1]
    rw [show decide (y < (m.S.length : Int)) = false from decide_eq_false (by omega)] at HF
    clear h hmb hbel hbox hx0 h1 hb0 hb1 hs0 hs1 hl hL
    go_enter Tryd.func53, Tryd.ntmps53
    go_wp2_with fail
    rw [← HWB.out]
    refine HF.out.mono ?_
    rintro e w1 ⟨rfl, q, rfl⟩
    go_wp2
    go_ret
    exact exec_done (HM.out.drewN _) (HT.out.drewN _) rfl
  rw [if_neg h1]
  rw [show decide (y < (m.S.length : Int)) = true from decide_eq_true (by omega)] at HF
  obtain ⟨i, rfl⟩ := Int.eq_ofNat_of_zero_le hx0
  have hi : i < m.S.length := by omega
  obtain ⟨gS, cS, aL, cL, hstk⟩ := stk_at hmb hi
  have hln : (m.S.getD i []).length ≤ 1000000 := hL _ (stk_mem hi)
  rw [stk_nat, Int.toNat_natCast]
  have HS : Hid (∀ q, StkAt F g m V (WB.drewN q) gS cS i aL cL) := Lib.hid (fun q => hstk.keep (by exact ⟨rfl, rfl, rfl, Nat.le_refl _, fun _ _ => rfl⟩))
  obtain ⟨L, hLL⟩ : ∃ L, m.S.getD i [] = L := ⟨_, rfl⟩
  rw [hLL] at hln ⊢
  have er : m.reg (a : Int) = m.R a := rfl
  rw [er]
  have HLL := Lib.hid hLL
  have HA := Lib.hid ha
  obtain ⟨x, hx⟩ : ∃ x, m.R a = x := ⟨_, rfl⟩
  rw [hx]
  have ya : ∀ q, (WB.drewN q).cell? ⟨g, 2 + a, none⟩ = some (.int .i64 x) := fun q => by rw [← hx, ← mf_reg m V ha]; exact (hmb.drewN q).cell (by omega)
  have fa : ∀ q, (WB.drewN q).frozen? ⟨g, 2 + a, none⟩ = false := fun q => (hmb.drewN q).blk.free _
  have y19 : ∀ q, (WB.drewN q).cell? ⟨g, 19, none⟩ = some (.slice (some ⟨gS, 0, none⟩) m.S.length cS) := fun q => by rw [← hstk.vS]; exact (hmb.drewN q).cell (by decide)
  have yk : ∀ q, (WB.drewN q).cell? ⟨gS, i, none⟩ = some (.slice aL L.length cL) := fun q => by rw [← hLL]; exact hstk.cell
  have fk : ∀ q, (WB.drewN q).frozen? ⟨gS, i, none⟩ = false := fun q => hstk.free
  have hcm := hstk.max
  have hcl := hstk.len
  have hne := hstk.ne
  have hne' := Ne.symm hne
  have YA := Lib.hid ya
  have FA := Lib.hid fa
  have Y19 := Lib.hid y19
  have YK := Lib.hid yk
  have FK := Lib.hid fk
  have hgb : g < WB.heap.size := hmb.blk.lt
  have hgs : gS < WB.heap.size := World.block_lt_of_cell? WB _ (yk 0)
  obtain ⟨n, hn⟩ : ∃ n, m.S.length = n := ⟨_, rfl⟩
  obtain ⟨ln, hlen⟩ : ∃ ln, L.length = ln := ⟨_, rfl⟩
  rw [hn] at Y19 hi hcl
  rw [hlen] at YK hln
  have HLN := Lib.hid hlen
  have i0 : (0 : Int) ≤ (i : Int) := Int.natCast_nonneg _
  have i1 : (i : Int) < (n : Int) := by omega
  have l0 : (0 : Int) ≤ (ln : Int) := Int.natCast_nonneg _
  have l1 : (ln : Int) ≤ 1000000 := by omega
  have hn63 : n ≤ 9223372036854775807 := by unfold maxLen at hcm; omega
  have HX := Lib.hid hx
  have HMM := Lib.hid hmb
  clear h hmb hbel hbox hx0 h1 hb0 hb1 hs0 hs1 hl hL hstk er hx ya fa y19 yk fk hLL hn hlen ha hcm
  rw [if_pos rfl]
  have e0 : ({ m with R := upd m.R a (xor64 x ln) } : Mach) = m.put (a : Int) (xor64 x (L.length : Int)) := by rw [HLN.out]; rfl
  rw [← e0]
  clear e0
  go_enter Tryd.func53, Tryd.ntmps53
  go_wp2_with fail
  rw [← HWB.out]
  refine HF.out.mono ?_
  rintro e w1 ⟨rfl, q, rfl⟩
  have q0 := M0.out q
  have q1 := M1.out q
  have q2 := Y19.out q
  have q3 := YK.out q
  have q4 := YA.out q
  have q5 := FA.out q
  have q6 := FK.out q
  have HM2 := Lib.hid (HMM.out.drewN q)
  have HT2 := Lib.hid (HT.out.drewN q)
  have hgb2 : g < (WB.drewN q).heap.size := hgb
  have hgs2 : gS < (WB.drewN q).heap.size := hgs
  have HS2 := Lib.hid (HS.out q)
  generalize WB.drewN q = W1 at *
  go_wp2
  go_quiet (fail)
  have q0 := dcell q0 nq
  have q1 := dcell q1 nq
  have q2 := dcell q2 nq
  have q3 := dcell q3 nq
  have q4 := dcell q4 nq
  have q5 := dfroz q5 nq
  have q6 := dfroz q6 nq
  have HM2 := Lib.hid (HM2.out.drewN nq)
  have HT2 := Lib.hid (HT2.out.drewN nq)
  have hgb2 : g < (W1.drewN nq).heap.size := hgb2
  have hgs2 : gS < (W1.drewN nq).heap.size := hgs2
  have HS2 := Lib.hid (HS2.out.keep (Below.drewN_self _ nq))
  generalize W1.drewN nq = W at *
  go_wp2
  go_ret
  exact exec_done (HM2.out.reg HA.out _) (HT2.out.of_set (.inl HM2.out.own) _ _) rfl
set_option maxRecDepth 100000 in
set_option maxHeartbeats 8000000 in
theorem stack_14 (F : Nat → Prop) (g : Nat) (m : Mach) (V : MV) (w : World) (h : MachW F w g m V) (a : Nat) (b c d : Int) (ha : a < 16) (hb0 : 0 ≤ b) (hb1 : b ≤ 16384) (hs0 : 0 ≤ m.sb) (hs1 : m.sb ≤ 16384) (hl : m.S.length ≤ 16384) (hL : ∀ s ∈ m.S, s.length ≤ 1000000) :
    Calls Tryd.prog 53 #[.pointer (some ⟨g, 0, none⟩), .agg #[.int .u8 14, .int .i64 (a : Int), .int .i64 b, .int .i64 c, .int .i64 d]] w (ExecR F w g (stackP m ⟨14, a, b, c, d⟩)) := by
  have hg := h.blk.lt
  obtain ⟨WB, hWB⟩ : ∃ WB, WB = w.alloc (.cells #[.int .u8 14, .int .i64 (a : Int), .int .i64 b, .int .i64 c, .int .i64 d] 45) := ⟨_, rfl⟩
  have hbox : Blk WB w.heap.size 45 #[.int .u8 14, .int .i64 (a : Int), .int .i64 b, .int .i64 c, .int .i64 d] := by rw [hWB]; exact Blk.new _ _ _
  have hmb : MachW F WB g m V := by rw [hWB]; exact h.al _
  have HT : Hid (Touch F w WB) := Lib.hid (by rw [hWB]; exact (Touch.refl F w).alloc _)
  have HM := Lib.hid hmb
  have hbel : Below w.heap.size w WB := by rw [hWB]; exact below_alloc _ _
  have m0 : ∀ q, (WB.drewN q).cell? ⟨w.heap.size, 0, none⟩ = some (.int .u8 14) := fun _ => hbox.cell 0
  have m1 : ∀ q, (WB.drewN q).cell? ⟨w.heap.size, 1, none⟩ = some (.int .i64 a) := fun _ => hbox.cell 1
  have m2 : WB.cell? ⟨w.heap.size, 2, none⟩ = some (.int .i64 b) := hbox.cell 2
  have M0 := Lib.hid m0
  have M1 := Lib.hid m1
  have HF := Lib.hid (find_any F g m V WB hmb b hb0 hb1 hs0 hs1 hl)
  have hx0 := (find_pos hb0 hs0).1
  have a0 : (0 : Int) ≤ (a : Int) := Int.natCast_nonneg _
  have a1 : (a : Int) < 16 := by omega
  have ef : find m (⟨14, (a : Int), b, c, d⟩ : Ins).b = find m b := rfl
  have HWB := Lib.hid hWB
  clear m0 m1 hWB
  unfold stackP
  rw [ef]
  clear ef
  generalize find m b = y at *
  dsimp only
  by_cases h1 : (m.S.length : Int) ≤ y
  · rw [if_pos h1]
    rw [show decide (y < (m.S.length : Int)) = false from decide_eq_false (by omega)] at HF
    clear h hmb hbel hbox hx0 h1 hb0 hb1 hs0 hs1 hl hL
    go_enter Tryd.func53, Tryd.ntmps53
    go_wp2_with fail
    rw [← HWB.out]
    refine HF.out.mono ?_
    rintro e w1 ⟨rfl, q, rfl⟩
    go_wp2
    go_ret
    exact exec_done (HM.out.drewN _) (HT.out.drewN _) rfl
  rw [if_neg h1]
  rw [show decide (y < (m.S.length : Int)) = true from decide_eq_true (by omega)] at HF
  obtain ⟨i, rfl⟩ := Int.eq_ofNat_of_zero_le hx0
  have hi : i < m.S.length := by omega
  obtain ⟨gS, cS, aL, cL, hstk⟩ := stk_at hmb hi
  have hln : (m.S.getD i []).length ≤ 1000000 := hL _ (stk_mem hi)
  rw [stk_nat, Int.toNat_natCast]
  have HS : Hid (∀ q, StkAt F g m V (WB.drewN q) gS cS i aL cL) := Lib.hid (fun q => hstk.keep (by exact ⟨rfl, rfl, rfl, Nat.le_refl _, fun _ _ => rfl⟩))
  obtain ⟨L, hLL⟩ : ∃ L, m.S.getD i [] = L := ⟨_, rfl⟩
  rw [hLL] at hln ⊢
  have er : m.reg (a : Int) = m.R a := rfl
  rw [er]
  have HLL := Lib.hid hLL
  have HA := Lib.hid ha
  obtain ⟨x, hx⟩ : ∃ x, m.R a = x := ⟨_, rfl⟩
  rw [hx]
  have ya : ∀ q, (WB.drewN q).cell? ⟨g, 2 + a, none⟩ = some (.int .i64 x) := fun q => by rw [← hx, ← mf_reg m V ha]; exact (hmb.drewN q).cell (by omega)
  have fa : ∀ q, (WB.drewN q).frozen? ⟨g, 2 + a, none⟩ = false := fun q => (hmb.drewN q).blk.free _
  have y19 : ∀ q, (WB.drewN q).cell? ⟨g, 19, none⟩ = some (.slice (some ⟨gS, 0, none⟩) m.S.length cS) := fun q => by rw [← hstk.vS]; exact (hmb.drewN q).cell (by decide)
  have yk : ∀ q, (WB.drewN q).cell? ⟨gS, i, none⟩ = some (.slice aL L.length cL) := fun q => by rw [← hLL]; exact hstk.cell
  have fk : ∀ q, (WB.drewN q).frozen? ⟨gS, i, none⟩ = false := fun q => hstk.free
  have hcm := hstk.max
  have hcl := hstk.len
  have hne := hstk.ne
  have hne' := Ne.symm hne
  have YA := Lib.hid ya
  have FA := Lib.hid fa
  have Y19 := Lib.hid y19
  have YK := Lib.hid yk
  have FK := Lib.hid fk
  have hgb : g < WB.heap.size := hmb.blk.lt
  have hgs : gS < WB.heap.size := World.block_lt_of_cell? WB _ (yk 0)
  obtain ⟨n, hn⟩ : ∃ n, m.S.length = n := ⟨_, rfl⟩
  obtain ⟨ln, hlen⟩ : ∃ ln, L.length = ln := ⟨_, rfl⟩
  rw [hn] at Y19 hi hcl
  rw [hlen] at YK hln
  have HLN := Lib.hid hlen
  have i0 : (0 : Int) ≤ (i : Int) := Int.natCast_nonneg _
  have i1 : (i : Int) < (n : Int) := by omega
  have l0 : (0 : Int) ≤ (ln : Int) := Int.natCast_nonneg _
  have l1 : (ln : Int) ≤ 1000000 := by omega
  have hn63 : n ≤ 9223372036854775807 := by unfold maxLen at hcm; omega
  have HX := Lib.hid hx
  have HMM := Lib.hid hmb
  clear h hmb hbel hbox hx0 h1 hb0 hb1 hs0 hs1 hl hL hstk er hx ya fa y19 yk fk hLL hn hlen ha hcm
  rw [if_neg (by decide), if_neg (by decide)]
  by_cases hz : ln = 0
  · rw [if_pos (by rw [HLN.out]; exact hz)]
    subst hz
    go_enter Tryd.func53, Tryd.ntmps53
    go_wp2_with fail
    rw [← HWB.out]
    refine HF.out.mono ?_
    rintro e w1 ⟨rfl, q, rfl⟩
    have q0 := M0.out q
    have q1 := M1.out q
    have q2 := Y19.out q
    have q3 := YK.out q
    have q4 := YA.out q
    have q5 := FA.out q
    have q6 := FK.out q
    have HM2 := Lib.hid (HMM.out.drewN q)
    have HT2 := Lib.hid (HT.out.drewN q)
    have hgb2 : g < (WB.drewN q).heap.size := hgb
    have hgs2 : gS < (WB.drewN q).heap.size := hgs
    have HS2 := Lib.hid (HS.out q)
    generalize WB.drewN q = W1 at *
    go_wp2
    go_quiet (fail)
    have q0 := dcell q0 nq
    have q1 := dcell q1 nq
    have q2 := dcell q2 nq
    have q3 := dcell q3 nq
    have q4 := dcell q4 nq
    have q5 := dfroz q5 nq
    have q6 := dfroz q6 nq
    have HM2 := Lib.hid (HM2.out.drewN nq)
    have HT2 := Lib.hid (HT2.out.drewN nq)
    have hgb2 : g < (W1.drewN nq).heap.size := hgb2
    have hgs2 : gS < (W1.drewN nq).heap.size := hgs2
    have HS2 := Lib.hid (HS2.out.keep (Below.drewN_self _ nq))
    generalize W1.drewN nq = W at *
    go_wp2
    go_ret
    exact exec_done HM2.out HT2.out rfl
  rw [if_neg (by rw [HLN.out]; exact hz), if_pos rfl]
  obtain ⟨j, hj⟩ : ∃ j, j = ln - 1 := ⟨_, rfl⟩
  have ej : (ln : Int) - 1 = (j : Int) := by omega
  have j0 : (0 : Int) ≤ (j : Int) := Int.natCast_nonneg _
  have j1 : (j : Int) < (ln : Int) := by omega
  have jn : ¬ (j : Int) < 0 := by omega
  have hlp : 0 < ln := by omega
  obtain ⟨z, hz'⟩ : ∃ z, lastD L = z := ⟨_, rfl⟩
  have HLC : Hid (∀ q, ∃ hh oo, aL = some ⟨hh, oo, none⟩ ∧ hh < (WB.drewN q).heap.size ∧ (WB.drewN q).cell? ⟨hh, oo + j, none⟩ = some (.int .i64 z)) := Lib.hid (fun q => by
    have hI := (HS.out q).ints
    rw [HLL.out] at hI
    obtain ⟨⟨a', c', he, _, _, h3⟩, _⟩ := hI
    injection he with e1 e2 e3
    subst e1
    obtain ⟨hh, oo, e, k1, _, k3⟩ := h3 (by rw [HLN.out]; exact hlp)
    refine ⟨hh, oo, e, k1, k3 j z ?_⟩
    rw [← hz']
    unfold lastD
    rw [List.getD_eq_getElem?_getD, HLN.out, ← hj, List.getElem?_eq_getElem (by rw [HLN.out]; omega)]
    rfl)
  have HJ := Lib.hid hj
  have HZ := Lib.hid hz'
  clear hj hz'
  rw [HZ.out]
  have e0 : ({ m with R := upd m.R a (xor64 x z) } : Mach) = m.put (a : Int) (xor64 x z) := rfl
  rw [← e0]
  clear e0 hz
  go_enter Tryd.func53, Tryd.ntmps53
  go_wp2_with fail
  rw [← HWB.out]
  refine HF.out.mono ?_
  rintro e w1 ⟨rfl, q, rfl⟩
  have q0 := M0.out q
  have q1 := M1.out q
  have q2 := Y19.out q
  have q3 := YK.out q
  have q4 := YA.out q
  have q5 := FA.out q
  have q6 := FK.out q
  have HM2 := Lib.hid (HMM.out.drewN q)
  have HT2 := Lib.hid (HT.out.drewN q)
  obtain ⟨hh, oo, rfl, hhl, q7⟩ := HLC.out q
  have hgb2 : g < (WB.drewN q).heap.size := hgb
  have hgs2 : gS < (WB.drewN q).heap.size := hgs
  have HS2 := Lib.hid (HS.out q)
  generalize WB.drewN q = W1 at *
  go_wp2
  go_quiet (fail)
  have q0 := dcell q0 nq
  have q1 := dcell q1 nq
  have q2 := dcell q2 nq
  have q3 := dcell q3 nq
  have q4 := dcell q4 nq
  have q5 := dfroz q5 nq
  have q6 := dfroz q6 nq
  have HM2 := Lib.hid (HM2.out.drewN nq)
  have HT2 := Lib.hid (HT2.out.drewN nq)
  have q7 := dcell q7 nq
  have hhl : hh < (W1.drewN nq).heap.size := hhl
  have hgb2 : g < (W1.drewN nq).heap.size := hgb2
  have hgs2 : gS < (W1.drewN nq).heap.size := hgs2
  have HS2 := Lib.hid (HS2.out.keep (Below.drewN_self _ nq))
  generalize W1.drewN nq = W at *
  go_wp2
  go_region
  go_wp2
  go_ret
  exact exec_done ((HM2.out.reg HA.out _).drew) ((HT2.out.of_set (.inl HM2.out.own) _ _).drew) rfl
set_option maxRecDepth 100000 in
set_option maxHeartbeats 8000000 in
theorem stack_13 (F : Nat → Prop) (g : Nat) (m : Mach) (V : MV) (w : World) (h : MachW F w g m V) (a : Nat) (b c d : Int) (ha : a < 16) (hb0 : 0 ≤ b) (hb1 : b ≤ 16384) (hs0 : 0 ≤ m.sb) (hs1 : m.sb ≤ 16384) (hl : m.S.length ≤ 16384) (hL : ∀ s ∈ m.S, s.length ≤ 1000000) :
    Calls Tryd.prog 53 #[.pointer (some ⟨g, 0, none⟩), .agg #[.int .u8 13, .int .i64 (a : Int), .int .i64 b, .int .i64 c, .int .i64 d]] w (ExecR F w g (stackP m ⟨13, a, b, c, d⟩)) := by
  have hg := h.blk.lt
  obtain ⟨WB, hWB⟩ : ∃ WB, WB = w.alloc (.cells #[.int .u8 13, .int .i64 (a : Int), .int .i64 b, .int .i64 c, .int .i64 d] 45) := ⟨_, rfl⟩
  have hbox : Blk WB w.heap.size 45 #[.int .u8 13, .int .i64 (a : Int), .int .i64 b, .int .i64 c, .int .i64 d] := by rw [hWB]; exact Blk.new _ _ _
  have hmb : MachW F WB g m V := by rw [hWB]; exact h.al _
  have HT : Hid (Touch F w WB) := Lib.hid (by rw [hWB]; exact (Touch.refl F w).alloc _)
  have HM := Lib.hid hmb
  have hbel : Below w.heap.size w WB := by rw [hWB]; exact below_alloc _ _
  have m0 : ∀ q, (WB.drewN q).cell? ⟨w.heap.size, 0, none⟩ = some (.int .u8 13) := fun _ => hbox.cell 0
  have m1 : ∀ q, (WB.drewN q).cell? ⟨w.heap.size, 1, none⟩ = some (.int .i64 a) := fun _ => hbox.cell 1
  have m2 : WB.cell? ⟨w.heap.size, 2, none⟩ = some (.int .i64 b) := hbox.cell 2
  have M0 := Lib.hid m0
  have M1 := Lib.hid m1
  have HF := Lib.hid (find_any F g m V WB hmb b hb0 hb1 hs0 hs1 hl)
  have hx0 := (find_pos hb0 hs0).1
  have a0 : (0 : Int) ≤ (a : Int) := Int.natCast_nonneg _
  have a1 : (a : Int) < 16 := by omega
  have ef : find m (⟨13, (a : Int), b, c, d⟩ : Ins).b = find m b := rfl
  have HWB := Lib.hid hWB
  clear m0 m1 hWB
  unfold stackP
  rw [ef]
  clear ef
  generalize find m b = y at *
  dsimp only
  by_cases h1 : (m.S.length : Int) ≤ y
  · rw [if_pos h1]
    rw [show decide (y < (m.S.length : Int)) = false from decide_eq_false (by omega)] at HF
    clear h hmb hbel hbox hx0 h1 hb0 hb1 hs0 hs1 hl hL
    go_enter Tryd.func53, Tryd.ntmps53
    go_wp2_with fail
    rw [← HWB.out]
    refine HF.out.mono ?_
    rintro e w1 ⟨rfl, q, rfl⟩
    go_wp2
    go_ret
    exact exec_done (HM.out.drewN _) (HT.out.drewN _) rfl
  rw [if_neg h1]
  rw [show decide (y < (m.S.length : Int)) = true from decide_eq_true (by omega)] at HF
  obtain ⟨i, rfl⟩ := Int.eq_ofNat_of_zero_le hx0
  have hi : i < m.S.length := by omega
  obtain ⟨gS, cS, aL, cL, hstk⟩ := stk_at hmb hi
  have hln : (m.S.getD i []).length ≤ 1000000 := hL _ (stk_mem hi)
  rw [stk_nat, Int.toNat_natCast]
  have HS : Hid (∀ q, StkAt F g m V (WB.drewN q) gS cS i aL cL) := Lib.hid (fun q => hstk.keep (by exact ⟨rfl, rfl, rfl, Nat.le_refl _, fun _ _ => rfl⟩))
  obtain ⟨L, hLL⟩ : ∃ L, m.S.getD i [] = L := ⟨_, rfl⟩
  rw [hLL] at hln ⊢
  have er : m.reg (a : Int) = m.R a := rfl
  rw [er]
  have HLL := Lib.hid hLL
  have HA := Lib.hid ha
  obtain ⟨x, hx⟩ : ∃ x, m.R a = x := ⟨_, rfl⟩
  rw [hx]
  have ya : ∀ q, (WB.drewN q).cell? ⟨g, 2 + a, none⟩ = some (.int .i64 x) := fun q => by rw [← hx, ← mf_reg m V ha]; exact (hmb.drewN q).cell (by omega)
  have fa : ∀ q, (WB.drewN q).frozen? ⟨g, 2 + a, none⟩ = false := fun q => (hmb.drewN q).blk.free _
  have y19 : ∀ q, (WB.drewN q).cell? ⟨g, 19, none⟩ = some (.slice (some ⟨gS, 0, none⟩) m.S.length cS) := fun q => by rw [← hstk.vS]; exact (hmb.drewN q).cell (by decide)
  have yk : ∀ q, (WB.drewN q).cell? ⟨gS, i, none⟩ = some (.slice aL L.length cL) := fun q => by rw [← hLL]; exact hstk.cell
  have fk : ∀ q, (WB.drewN q).frozen? ⟨gS, i, none⟩ = false := fun q => hstk.free
  have hcm := hstk.max
  have hcl := hstk.len
  have hne := hstk.ne
  have hne' := Ne.symm hne
  have YA := Lib.hid ya
  have FA := Lib.hid fa
  have Y19 := Lib.hid y19
  have YK := Lib.hid yk
  have FK := Lib.hid fk
  have hgb : g < WB.heap.size := hmb.blk.lt
  have hgs : gS < WB.heap.size := World.block_lt_of_cell? WB _ (yk 0)
  obtain ⟨n, hn⟩ : ∃ n, m.S.length = n := ⟨_, rfl⟩
  obtain ⟨ln, hlen⟩ : ∃ ln, L.length = ln := ⟨_, rfl⟩
  rw [hn] at Y19 hi hcl
  rw [hlen] at YK hln
  have HLN := Lib.hid hlen
  have i0 : (0 : Int) ≤ (i : Int) := Int.natCast_nonneg _
  have i1 : (i : Int) < (n : Int) := by omega
  have l0 : (0 : Int) ≤ (ln : Int) := Int.natCast_nonneg _
  have l1 : (ln : Int) ≤ 1000000 := by omega
  have hn63 : n ≤ 9223372036854775807 := by unfold maxLen at hcm; omega
  have HX := Lib.hid hx
  have HMM := Lib.hid hmb
  clear h hmb hbel hbox hx0 h1 hb0 hb1 hs0 hs1 hl hL hstk er hx ya fa y19 yk fk hLL hn hlen ha hcm
  rw [if_neg (by decide), if_neg (by decide)]
  by_cases hz : ln = 0
  · rw [if_pos (by rw [HLN.out]; exact hz)]
    subst hz
    go_enter Tryd.func53, Tryd.ntmps53
    go_wp2_with fail
    rw [← HWB.out]
    refine HF.out.mono ?_
    rintro e w1 ⟨rfl, q, rfl⟩
    have q0 := M0.out q
    have q1 := M1.out q
    have q2 := Y19.out q
    have q3 := YK.out q
    have q4 := YA.out q
    have q5 := FA.out q
    have q6 := FK.out q
    have HM2 := Lib.hid (HMM.out.drewN q)
    have HT2 := Lib.hid (HT.out.drewN q)
    have hgb2 : g < (WB.drewN q).heap.size := hgb
    have hgs2 : gS < (WB.drewN q).heap.size := hgs
    have HS2 := Lib.hid (HS.out q)
    generalize WB.drewN q = W1 at *
    go_wp2
    go_quiet (fail)
    have q0 := dcell q0 nq
    have q1 := dcell q1 nq
    have q2 := dcell q2 nq
    have q3 := dcell q3 nq
    have q4 := dcell q4 nq
    have q5 := dfroz q5 nq
    have q6 := dfroz q6 nq
    have HM2 := Lib.hid (HM2.out.drewN nq)
    have HT2 := Lib.hid (HT2.out.drewN nq)
    have hgb2 : g < (W1.drewN nq).heap.size := hgb2
    have hgs2 : gS < (W1.drewN nq).heap.size := hgs2
    have HS2 := Lib.hid (HS2.out.keep (Below.drewN_self _ nq))
    generalize W1.drewN nq = W at *
    go_wp2
    go_ret
    exact exec_done HM2.out HT2.out rfl
  rw [if_neg (by rw [HLN.out]; exact hz), if_neg (by decide)]
  obtain ⟨j, hj⟩ : ∃ j, j = ln - 1 := ⟨_, rfl⟩
  have ej : (ln : Int) - 1 = (j : Int) := by omega
  have j0 : (0 : Int) ≤ (j : Int) := Int.natCast_nonneg _
  have j1 : (j : Int) < (ln : Int) := by omega
  have jn : ¬ (j : Int) < 0 := by omega
  have hlp : 0 < ln := by omega
  obtain ⟨z, hz'⟩ : ∃ z, lastD L = z := ⟨_, rfl⟩
  have HLC : Hid (∀ q, ∃ hh oo, aL = some ⟨hh, oo, none⟩ ∧ hh < (WB.drewN q).heap.size ∧ (WB.drewN q).cell? ⟨hh, oo + j, none⟩ = some (.int .i64 z)) := Lib.hid (fun q => by
    have hI := (HS.out q).ints
    rw [HLL.out] at hI
    obtain ⟨⟨a', c', he, _, _, h3⟩, _⟩ := hI
    injection he with e1 e2 e3
    subst e1
    obtain ⟨hh, oo, e, k1, _, k3⟩ := h3 (by rw [HLN.out]; exact hlp)
    refine ⟨hh, oo, e, k1, k3 j z ?_⟩
    rw [← hz']
    unfold lastD
    rw [List.getD_eq_getElem?_getD, HLN.out, ← hj, List.getElem?_eq_getElem (by rw [HLN.out]; omega)]
    rfl)
  have HJ := Lib.hid hj
  have HZ := Lib.hid hz'
  clear hj hz'
  by_cases hx0 : x = 0
  rotate_left
  · rw [if_pos hx0]
    have e1 : (x != 0) = true := by simpa using hx0
    clear hx0 hz
    go_enter Tryd.func53, Tryd.ntmps53
    go_wp2_with fail
    rw [← HWB.out]
    refine HF.out.mono ?_
    rintro e w1 ⟨rfl, q, rfl⟩
    have q0 := M0.out q
    have q1 := M1.out q
    have q2 := Y19.out q
    have q3 := YK.out q
    have q4 := YA.out q
    have q5 := FA.out q
    have q6 := FK.out q
    have HM2 := Lib.hid (HMM.out.drewN q)
    have HT2 := Lib.hid (HT.out.drewN q)
    obtain ⟨hh, oo, rfl, hhl, q7⟩ := HLC.out q
    have hgb2 : g < (WB.drewN q).heap.size := hgb
    have hgs2 : gS < (WB.drewN q).heap.size := hgs
    have HS2 := Lib.hid (HS.out q)
    generalize WB.drewN q = W1 at *
    go_wp2
    go_quiet (fail)
    have q0 := dcell q0 nq
    have q1 := dcell q1 nq
    have q2 := dcell q2 nq
    have q3 := dcell q3 nq
    have q4 := dcell q4 nq
    have q5 := dfroz q5 nq
    have q6 := dfroz q6 nq
    have HM2 := Lib.hid (HM2.out.drewN nq)
    have HT2 := Lib.hid (HT2.out.drewN nq)
    have q7 := dcell q7 nq
    have hhl : hh < (W1.drewN nq).heap.size := hhl
    have hgb2 : g < (W1.drewN nq).heap.size := hgb2
    have hgs2 : gS < (W1.drewN nq).heap.size := hgs2
    have HS2 := Lib.hid (HS2.out.keep (Below.drewN_self _ nq))
    generalize W1.drewN nq = W at *
    go_wp2
    go_ret
    exact exec_done HM2.out HT2.out rfl
  rw [if_neg (by omega), HZ.out]
  have e0 : ({ { m with R := upd m.R a z } with S := m.S.set i (L.take (L.length - 1)) } : Mach) = { m.put (a : Int) z with S := m.S.set i (L.take (L.length - 1)) } := rfl
  rw [← e0, HLN.out, ← HJ.out]
  clear e0 hz
  subst hx0
  have hjc : (j : Int) ≤ (cL : Int) := by
    have hI := (HS.out 0).ints
    rw [HLL.out, HLN.out] at hI
    have := hI.clip.1
    omega
  have HTR : Hid (∀ q, IntsIn (RO F g V) (WB.drewN q) (.slice aL j cL) (L.take j)) := Lib.hid (fun q => by
    have hI := (HS.out q).ints
    rw [HLL.out, HLN.out] at hI
    exact hI.trim (by omega))
  go_enter Tryd.func53, Tryd.ntmps53
  go_wp2_with fail
  rw [← HWB.out]
  refine HF.out.mono ?_
  rintro e w1 ⟨rfl, q, rfl⟩
  have q0 := M0.out q
  have q1 := M1.out q
  have q2 := Y19.out q
  have q3 := YK.out q
  have q4 := YA.out q
  have q5 := FA.out q
  have q6 := FK.out q
  have HM2 := Lib.hid (HMM.out.drewN q)
  have HT2 := Lib.hid (HT.out.drewN q)
  obtain ⟨hh, oo, rfl, hhl, q7⟩ := HLC.out q
  have HTR2 := Lib.hid (HTR.out q)
  have hgb2 : g < (WB.drewN q).heap.size := hgb
  have hgs2 : gS < (WB.drewN q).heap.size := hgs
  have HS2 := Lib.hid (HS.out q)
  generalize WB.drewN q = W1 at *
  go_wp2
  go_quiet (fail)
  have q0 := dcell q0 nq
  have q1 := dcell q1 nq
  have q2 := dcell q2 nq
  have q3 := dcell q3 nq
  have q4 := dcell q4 nq
  have q5 := dfroz q5 nq
  have q6 := dfroz q6 nq
  have HM2 := Lib.hid (HM2.out.drewN nq)
  have HT2 := Lib.hid (HT2.out.drewN nq)
  have q7 := dcell q7 nq
  have hhl : hh < (W1.drewN nq).heap.size := hhl
  have HTR2 := Lib.hid (HTR2.out.keep (Keep.of_below (Below.drewN_self _ nq)) (fun _ h => h))
  have hgb2 : g < (W1.drewN nq).heap.size := hgb2
  have hgs2 : gS < (W1.drewN nq).heap.size := hgs2
  have HS2 := Lib.hid (HS2.out.keep (Below.drewN_self _ nq))
  generalize W1.drewN nq = W at *
  have HMR : Hid (MachW F (W.setCell ⟨g, 2 + a, none⟩ (.int .i64 z)) g { m with R := upd m.R a z } V) := Lib.hid (HM2.out.reg HA.out _)
  have HTT : Hid (Touch F w (W.setCell ⟨g, 2 + a, none⟩ (.int .i64 z))) := Lib.hid (HT2.out.of_set (.inl HM2.out.own) _ _)
  have r2 : (W.setCell ⟨g, 2 + a, none⟩ (.int .i64 z)).cell? ⟨g, 19, none⟩ = some (.slice (some ⟨gS, 0, none⟩) n cS) := by
    rw [← q2]
    exact (HMR.out.cell (j := 19) (by decide)).trans (HM2.out.cell (j := 19) (by decide)).symm
  have r6 : (W.setCell ⟨g, 2 + a, none⟩ (.int .i64 z)).frozen? ⟨gS, i, none⟩ = false := by
    rw [← q6]
    exact World.frozen?_setCell _ _ _ _
  go_wp2
  go_region
  go_wp2
  go_ret
  exact exec_done ((HMR.out.stkput HS2.out.vS i _ _ (HTR2.out.set_far RO.not_self _ _)).drew) ((HTT.out.of_set (.inl HS2.out.own) _ _).drew) rfl

end Go.Proofs.YtichiccohmeecaaDoor
