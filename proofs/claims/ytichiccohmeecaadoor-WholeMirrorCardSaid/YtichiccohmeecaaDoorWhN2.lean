/- The walk of image.Invert at a valid image. -/
import Derived.Test.YtichiccohmeecaaDoorWhN1
namespace Go.Proofs.YtichiccohmeecaaDoor
open Go.RowKit

theorem targ_t {C : List Ins} (hg : Good C) {k : Int} (hk : inR C k = true) {t : Int} (ht : targ (cAt C k) = some t) (hc : ¬ ((cAt C k).op = 30 ∨ (cAt C k).op = 31)) : inR C t = true := by
  obtain ⟨t', hp⟩ := hg.pairs k hk (has_class hg hk ht hc)
  obtain ⟨_, h2, h3, _⟩ := partner_iff.1 hp
  rw [ht] at h3
  obtain rfl := Option.some.inj h3
  exact h2
theorem inv_cases {C : List Ins} (hg : Good C) {k : Nat} (hk : k < C.length) :
    (targ (invI (cAt C k)) = none ∧ invAt C k = invI (cAt C k)) ∨
    (∃ t : Int, targ (invI (cAt C k)) = some t ∧ (invI (cAt C k)).op ≠ 30 ∧ (invI (cAt C k)).op ≠ 31 ∧ 0 ≤ t ∧ t < C.length ∧ invAt C k = retarg (invI (cAt C k)) (C.length - 1 - t)) ∨
    ∃ t : Nat, targ (invI (cAt C k)) = some (t : Int) ∧ ((invI (cAt C k)).op = 30 ∨ (invI (cAt C k)).op = 31) ∧ t < C.length ∧ 0 ≤ (cAt C t).a ∧ (cAt C t).a < C.length ∧ invAt C k = retarg (invI (cAt C k)) (C.length - 1 - (cAt C t).a) := by
  have hr : inR C (k : Int) = true := inR_iff.2 ⟨by omega, by omega⟩
  have h35 := valid_op (hg.valid _ hr)
  obtain ⟨_, _, _, _, j30, j31, _⟩ := jump_inv h35
  have e30 : (invI (cAt C k)).op = 30 ↔ (cAt C k).op = 30 := j30
  have e31 : (invI (cAt C k)).op = 31 ↔ (cAt C k).op = 31 := j31
  cases ht : targ (invI (cAt C k)) with
  | none => exact .inl ⟨rfl, by rw [targ_inv] at ht; exact invAt_none ht⟩
  | some t =>
    have ht' : targ (cAt C k) = some t := by rw [targ_inv] at ht; exact ht
    have hi := invAt_some ht'
    by_cases hc : (cAt C k).op = 30 ∨ (cAt C k).op = 31
    · obtain ⟨e, hst, hea⟩ := st_of hg hr hc
      have hta : t = (cAt C k).a := by
        rw [targ_call hc] at ht'
        exact (Option.some.inj ht').symm
      rw [if_pos hc] at hi
      obtain ⟨p1, p2, _⟩ := partner_iff.1 hst.1
      rw [← hta] at p1 hea
      obtain ⟨tn, rfl, htn⟩ := nat_of p1
      have he := inR_iff.1 p2
      rw [← hea] at he
      exact .inr (.inr ⟨tn, rfl, by rw [e30, e31]; exact hc, htn, he.1, he.2, hi⟩)
    · rw [if_neg hc] at hi
      have h2 := inR_iff.1 (targ_t hg hr ht' hc)
      exact .inr (.inl ⟨t, rfl, fun h => hc (.inl (e30.1 h)), fun h => hc (.inr (e31.1 h)), h2.1, h2.2, hi⟩)

theorem grow_below {a b c : World} {row : Option Nat} (h : a.grownBy b row) (hb : Below b.heap.size b c) : a.grownBy c row :=
  ⟨hb.os.trans h.os, hb.tape.trans h.tape, hb.output.trans h.output, Nat.le_trans h.size hb.size, fun i hi hn => (hb.block i (Nat.lt_of_lt_of_le hi h.size)).trans (h.block i hi hn)⟩
theorem grow_set {a b : World} {g : Nat} (h : a.grownBy b (some g)) (i : Nat) (u : Value) : a.grownBy (b.setCell ⟨g, i, none⟩ u) (some g) := gr_set h i u

/-- k instructions are in place -/
structure InvS (w2 : World) (vC : Value) (C : List Ins) (B k : Nat) (wr : World) (xs : List Value) : Prop where
  own : wr.ownsRow B 45 5 vC C.length xs
  code : CodeL (invD C k) xs
  gr : w2.grownBy wr vC.ownBlock
def set5 (W : World) (g o : Nat) (Y : Ins) : World := ((((W.setCell ⟨g, o, none⟩ (.int .u8 Y.op)).setCell ⟨g, o + 1, none⟩ (.int .i64 Y.a)).setCell ⟨g, o + 2, none⟩ (.int .i64 Y.b)).setCell ⟨g, o + 3, none⟩ (.int .i64 Y.c)).setCell ⟨g, o + 4, none⟩ (.int .i64 Y.d)
theorem set5_below {B : Nat} {W w : World} (hb : Below B W w) {g : Nat} (hg : B ≤ g) (o : Nat) (Y : Ins) : Below B W (set5 w g o Y) :=
  ((((hb.setCell (p := ⟨g, o, none⟩) hg _).setCell (p := ⟨g, o + 1, none⟩) hg _).setCell (p := ⟨g, o + 2, none⟩) hg _).setCell (p := ⟨g, o + 3, none⟩) hg _).setCell (p := ⟨g, o + 4, none⟩) hg _
theorem InvS.step {w2 W wr : World} {C : List Ins} {B k gc cap : Nat} {xs : List Value} (h : InvS w2 (.slice (some ⟨gc, 0, none⟩) C.length cap) C B k wr xs) (hk : k < C.length) (hb : Below wr.heap.size wr W) {J : Nat} (hJ : J = C.length - 1 - k) :
    ∃ xs', InvS w2 (.slice (some ⟨gc, 0, none⟩) C.length cap) C B (k + 1) (set5 W gc (J * 5) (invAt C k)) xs' := by
  have o0 := own_below h.own hb
  have o1 := o0.stored (J * 5) (.int .u8 (invAt C k).op)
  have o2 := o1.1.stored (J * 5 + 1) (.int .i64 (invAt C k).a)
  have o3 := o2.1.stored (J * 5 + 2) (.int .i64 (invAt C k).b)
  have o4 := o3.1.stored (J * 5 + 3) (.int .i64 (invAt C k).c)
  have o5 := o4.1.stored (J * 5 + 4) (.int .i64 (invAt C k).d)
  have hc := h.code.set (by rw [invD_len]; exact h.own.1) (j := J) (by rw [invD_len]; omega) (invAt C k)
  rw [hJ, invD_step hk, ← hJ] at hc
  have g0 : w2.grownBy W (some gc) := grow_below h.gr hb
  exact ⟨_, o5.1, hc, grow_set (grow_set (grow_set (grow_set (grow_set g0 _ _) _ _) _ _) _ _) _ _⟩

theorem results_im {fn : Func} {r t : Tmp} (h : fn.results = #[.cell r 24, .tmp t]) (tmps : Array Value) (w : World) (g : Nat) (c i o : Value) (hp : tmps.getD r undef = .pointer (some ⟨g, 0, none⟩)) (hb : Blk w g 24 #[c, i, o]) :
    (results fn tmps).run Tryd.prog w = .ok (.tuple #[.agg #[c, i, o], tmps.getD t undef]) w := by
  have b0 := hb.cell 0
  have b1 := hb.cell 1
  have b2 := hb.cell 2
  rw [Array.getD_eq_getD_getElem?] at hp
  simp [results, h, hp, go_sem, b0, b1, b2]

def InvR (im : Im) (w : World) (e : Ending) (w' : World) : Prop := ∃ vc', e = .returned (.tuple #[imV vc' (invIm im), .int .i64 0]) ∧ Below w.heap.size w w' ∧ CodeIn (fun j => w.heap.size ≤ j) w' vc' (invC im.code)

/-! THE WALK -/
set_option maxRecDepth 100000 in
set_option maxHeartbeats 16000000 in
theorem invert_any {P : Nat → Prop} (im : Im) (vc : Value) (w : World) (hC : CodeIn P w vc im.code) (hT : TabAt w) (hl : im.code.length ≤ 1000) (hk : checkB im = true) (hg : Good im.code) :
    Calls Tryd.prog 12 #[imV vc im] w (InvR im w) := by
  obtain ⟨C, mem, stacks⟩ := im
  dsimp only at hC hl hg
  obtain ⟨b, hb⟩ : ∃ b, w.heap.size = b := ⟨_, rfl⟩
  obtain ⟨W0, hW0⟩ : ∃ W0, W0 = (w.alloc (.cells #[vc, .int .i64 mem, .int .i64 stacks] 24)).alloc (.cells #[.slice none 0 0, .int .i64 0, .int .i64 0] 24) := ⟨_, rfl⟩
  have hB0 : Below w.heap.size w W0 := by rw [hW0]; exact below_al (below_alloc _ _) (Nat.le_refl _) _
  have ki : Blk W0 b 24 #[vc, .int .i64 mem, .int .i64 stacks] := by rw [hW0]; exact (Blk.new' hb).al _
  have kr : Blk W0 (b + 1) 24 #[.slice none 0 0, .int .i64 0, .int .i64 0] := by rw [hW0]; exact Blk.new' (by rw [← hb]; simp)
  have HCK := Lib.hid (check_any ⟨C, mem, stacks⟩ vc W0 (hC.below hB0) (hT.below hB0) hl)
  have HCC := Lib.hid hC
  obtain ⟨ac, cc, rfl, hc1, hc2, hc3⟩ := hC
  obtain ⟨n, hn⟩ : ∃ n, C.length = n := ⟨_, rfl⟩
  have HN := Lib.hid hn
  have HW0 := Lib.hid hW0
  have HB0 := Lib.hid hB0
  have HKI := Lib.hid ki
  have HKR := Lib.hid kr
  have HBB := Lib.hid hb
  have HG := Lib.hid hg
  have HK := Lib.hid hk
  have HC3 := Lib.hid hc3
  have hn0 : (0 : Int) ≤ (n : Int) := Int.natCast_nonneg _
  have hn1 : (n : Int) ≤ 1000 := by omega
  unfold imV at HCK ⊢
  dsimp only at HCK ⊢
  rw [hn] at HCK HW0 HKI HC3 HCC ⊢
  clear hW0 hB0 ki kr hT hb hg hk hc1 hc2 hc3 hn hl
  go_enter Tryd.func12, Tryd.ntmps12
  go_wp2_with fail
  rw [HBB.out, ← HW0.out]
  refine HCK.out.mono ?_
  rintro e w1 ⟨i0, e0, rfl, he, hb1⟩
  obtain rfl : e0 = 0 := he.2 HK.out
  have HB1 := Lib.hid (below_next HB0.out (Nat.le_refl _) hb1)
  have HKI1 := Lib.hid (HKI.out.next hb1)
  have HKR1 := Lib.hid (HKR.out.next hb1)
  have b0 := HKI1.out.cell 0
  have HCL : Hid (Calls Tryd.prog 27 #[.slice ac n cc] w1 (CloC C w1)) := Lib.hid (clone_code (HCC.out.below HB1.out) (by rw [HN.out]; omega))
  clear he hb1 HKI HKR
  go_wp2_with fail
  refine HCL.out.mono ?_
  rintro e w2 ⟨vC, rfl, hown, hb2⟩
  rw [HN.out] at hown
  obtain ⟨aC, cC, rfl⟩ := own_form hown
  have HB2 := Lib.hid (below_next HB1.out (Nat.le_refl _) hb2)
  have HKI2 := Lib.hid (HKI1.out.next hb2)
  have HKR2 := Lib.hid (HKR1.out.next hb2)
  have hi0 : InvS w2 (.slice aC n cC) C w1.heap.size 0 w2 (codeV C) := ⟨by rw [HN.out]; exact hown, by rw [invD_zero]; exact codeV_get C, World.grownBy.refl _ _⟩
  have HI0 := Lib.hid hi0
  have hsz1 := HB1.out.size
  have hsz2 := hb2.size
  have hbl : b + 1 < w1.heap.size := HKR1.out.lt
  have hnb : ∀ j, (Value.slice aC n cC).ownBlock = some j → w1.heap.size ≤ j := fun j hj => (hown.lt j hj).1
  have HNB := Lib.hid hnb
  clear hown hb2 hi0 b0 HCL hnb
  go_wp2
  go_loopg [8, 9] n (fun q i j wr => ∃ (k : Nat) (J : Int), k + q = n ∧ J = (n : Int) - 1 - k ∧ i = .int .i64 k ∧ j = .int .i64 J ∧ Hid (∃ xs, InvS w2 (.slice aC n cC) C w1.heap.size k wr xs))
  case atStart => exact ⟨0, (n : Int) - 1 - (0 : Nat), by omega, rfl, by go_num, by go_num, Lib.hid ⟨_, HI0.out⟩⟩
  case round =>
    obtain ⟨k, J, hk, hJ, rfl, rfl, hi⟩ := hrel
    obtain ⟨xs, hi⟩ := hi.out
    have Hk := Lib.hid hk
    have HI := Lib.hid hi
    have hkn : k ≤ n := by omega
    have hk0 : (0 : Int) ≤ (k : Int) := Int.natCast_nonneg _
    have kbw : Blk wr b 24 #[.slice ac n cc, .int .i64 mem, .int .i64 stacks] := HKI2.out.grown hi.gr (fun e => by have := HNB.out b e.symm; omega)
    have krw : Blk wr (b + 1) 24 #[.slice none 0 0, .int .i64 0, .int .i64 0] := HKR2.out.grown hi.gr (fun e => by have := HNB.out (b + 1) e.symm; omega)
    have hbw : Below w.heap.size w wr := HB2.out.grown hi.gr HB2.out.size (fun j hj => by have := HNB.out j hj; omega)
    have HKB := Lib.hid kbw
    have HKW := Lib.hid krw
    have HBW := Lib.hid hbw
    have hbr : b + 1 < wr.heap.size := krw.lt
    clear hk hi kbw krw hbw
    by_cases hlt : k < n
    · have hlt' : (k : Int) < (n : Int) := by omega
      obtain ⟨J, rfl⟩ := Int.eq_ofNat_of_zero_le (show 0 ≤ J by omega)
      have hJ0 : (0 : Int) ≤ (J : Int) := Int.natCast_nonneg _
      have hJ1 : (J : Int) < (n : Int) := by omega
      have hJN : J = n - 1 - k := by omega
      have b0 := HKB.out.cell 0
      obtain ⟨g1, o1, rfl, hg1, -, hq⟩ := HC3.out (by omega)
      have hck : C[k]? = some (cAt C k) := by
        unfold cAt
        rw [Int.toNat_natCast, List.getD_eq_getElem?_getD, List.getElem?_eq_getElem (by rw [HN.out]; exact hlt)]
        rfl
      obtain ⟨q0, q1, q2, q3, q4⟩ := hq k _ hck
      have m0 := cell_lo HBW.out hg1 q0
      have m1 := cell_lo HBW.out hg1 q1
      have m2 := cell_lo HBW.out hg1 q2
      have m3 := cell_lo HBW.out hg1 q3
      have m4 := cell_lo HBW.out hg1 q4
      have h35 : (cAt C k).op < 35 := valid_op (HG.out.valid _ (inR_iff.2 ⟨by omega, by rw [HN.out]; omega⟩))
      have HIV : Hid (∀ w', Calls Tryd.prog 28 #[insV (cAt C k)] w' fun e w'' => e = .returned (insV (invI (cAt C k))) ∧ Below w'.heap.size w' w'') := Lib.hid (fun w' => inverse_ins _ w' h35)
      have HQ := Lib.hid hq
      have HG1 := Lib.hid hg1
      have HCS := Lib.hid (inv_cases HG.out (show k < C.length by rw [HN.out]; exact hlt))
      -- the row that is written
      have hown := HI.out.own
      obtain ⟨gc, rfl⟩ : ∃ gc, aC = some ⟨gc, 0, none⟩ := by
        rcases hown.2 with ⟨h0, hz⟩ | ⟨g, cap, cur, h0, _⟩
        · rw [HN.out] at hz; omega
        · injection h0 with h1 _ _
          exact ⟨g, h1⟩
      rw [HN.out] at hown
      obtain ⟨Z, hZ⟩ : ∃ Z, (invD C k)[J]? = some Z := ⟨_, List.getElem?_eq_getElem (by rw [invD_len, HN.out]; omega)⟩
      obtain ⟨z0, z1, z2, z3, z4⟩ := HI.out.code J Z hZ
      have y0 : wr.cell? ⟨gc, J * 5, none⟩ = some (.int .u8 Z.op) := (hown.cellAt _ (by omega)).trans z0
      have y1 : wr.cell? ⟨gc, J * 5 + 1, none⟩ = some (.int .i64 Z.a) := (hown.cellAt _ (by omega)).trans z1
      have y2 : wr.cell? ⟨gc, J * 5 + 2, none⟩ = some (.int .i64 Z.b) := (hown.cellAt _ (by omega)).trans z2
      have y3 : wr.cell? ⟨gc, J * 5 + 3, none⟩ = some (.int .i64 Z.c) := (hown.cellAt _ (by omega)).trans z3
      have y4 : wr.cell? ⟨gc, J * 5 + 4, none⟩ = some (.int .i64 Z.d) := (hown.cellAt _ (by omega)).trans z4
      have hgc : gc < wr.heap.size := (hown.lt gc rfl).2
      have hfr : ∀ i, wr.frozen? ⟨gc, i, none⟩ = false := fun i => hown.frozenAt i
      have HYS : Hid (∀ W, Below wr.heap.size wr W → (W.cell? ⟨gc, J * 5, none⟩ = some (.int .u8 Z.op) ∧ W.cell? ⟨gc, J * 5 + 1, none⟩ = some (.int .i64 Z.a) ∧ W.cell? ⟨gc, J * 5 + 2, none⟩ = some (.int .i64 Z.b) ∧ W.cell? ⟨gc, J * 5 + 3, none⟩ = some (.int .i64 Z.c) ∧ W.cell? ⟨gc, J * 5 + 4, none⟩ = some (.int .i64 Z.d)) ∧
          ∀ i, W.frozen? ⟨gc, i, none⟩ = false) := Lib.hid (fun W hb => ⟨⟨cell_lo hb hgc y0, cell_lo hb hgc y1, cell_lo hb hgc y2, cell_lo hb hgc y3, cell_lo hb hgc y4⟩, fun i => (hb.frozen (p := ⟨gc, i, none⟩) hgc).trans (hfr i)⟩)
      have HST : Hid (∀ W, Below wr.heap.size wr W → ∃ xs', InvS w2 (.slice (some ⟨gc, 0, none⟩) n cC) C w1.heap.size (k + 1) (set5 W gc (J * 5) (invAt C k)) xs') := Lib.hid (fun W hb => by
        have h := HI.out
        rw [← HN.out] at h
        have := h.step (by rw [HN.out]; exact hlt) hb (J := J) (by rw [HN.out]; exact hJN)
        rw [HN.out] at this
        exact this)
      generalize cAt C k = I at *
      obtain ⟨X, hX⟩ : ∃ X, invI I = X := ⟨_, rfl⟩
      obtain ⟨Y, hY⟩ : ∃ Y, invAt C k = Y := ⟨_, rfl⟩
      rw [hX] at HIV HCS
      rw [hY] at HST HCS
      obtain ⟨iop, ia, ib, ic, id⟩ := I
      obtain ⟨xo, xa, xb, xc, xd⟩ := X
      unfold insV at HIV
      dsimp only at HIV m0 m1 m2 m3 m4
      have HJN := Lib.hid hJN
      have HJ := Lib.hid hJ
      clear hJN hJ hq hck q0 q1 q2 q3 q4 h35 hown hZ z0 z1 z2 z3 z4 y0 y1 y2 y3 y4 hfr hX hY
      go_wp2_with fail
      refine (HIV.out wr).mono ?_
      rintro e w5 ⟨rfl, hb5⟩
      obtain ⟨W6, hW6⟩ : ∃ W6, W6 = w5.alloc (.cells #[.int .u8 xo, .int .i64 xa, .int .i64 xb, .int .i64 xc, .int .i64 xd] 45) := ⟨_, rfl⟩
      obtain ⟨bx, hbx⟩ : ∃ bx, w5.heap.size = bx := ⟨_, rfl⟩
      have kx : Blk W6 bx 45 #[.int .u8 xo, .int .i64 xa, .int .i64 xb, .int .i64 xc, .int .i64 xd] := by rw [hW6]; exact Blk.new' hbx
      have hb6 : Below wr.heap.size wr W6 := by rw [hW6]; exact below_al hb5 (Nat.le_refl _) _
      have hx5 := hb5.size
      have hbxw : wr.heap.size ≤ bx := by omega
      have HTG := Lib.hid (target_any ⟨xo, xa, xb, xc, xd⟩ W6)
      unfold insV at HTG
      dsimp only at HTG
      have hgb : gc ≠ bx := by omega
      have hbg : bx ≠ gc := Ne.symm hgb
      have HW6 := Lib.hid hW6
      have HKX := Lib.hid kx
      have HB6 := Lib.hid hb6
      have HBX := Lib.hid hbx
      have x0 := kx.cell 0
      have x1 := kx.cell 1
      have x2 := kx.cell 2
      have x3 := kx.cell 3
      have x4 := kx.cell 4
      clear hW6 kx hb6 hbx hb5 hx5 m0 m1 m2 m3 m4 HIV
      go_wp2_with fail
      rw [← HW6.out, HBX.out]
      refine HTG.out.mono ?_
      rintro e w7 ⟨rfl, hb7⟩
      have HB7 := Lib.hid (below_next HB6.out (Nat.le_refl _) hb7)
      have HKX7 := Lib.hid (HKX.out.next hb7)
      have x0 := HKX7.out.cell 0
      have x1 := HKX7.out.cell 1
      have x2 := HKX7.out.cell 2
      have x3 := HKX7.out.cell 3
      have x4 := HKX7.out.cell 4
      have b0 : w7.cell? ⟨b, 0, none⟩ = some (.slice (some ⟨g1, o1, none⟩) n cc) := (HKB.out.next HB7.out).cell 0
      obtain ⟨⟨y0, y1, y2, y3, y4⟩, hfr⟩ := HYS.out w7 HB7.out
      have f0 := hfr (J * 5)
      have f1 := hfr (J * 5 + 1)
      have f2 := hfr (J * 5 + 2)
      have f3 := hfr (J * 5 + 3)
      have f4 := hfr (J * 5 + 4)
      clear hb7 hfr
      rcases HCS.out with ⟨hta, hya⟩ | ⟨t, hta, ht30, ht31, ht0, ht1, hya⟩ | ⟨t, hta, hop, ht1, hu0, hu1, hya⟩
      · rw [hta]
        subst hya
        have HS7 := Lib.hid (HST.out w7 HB7.out)
        unfold set5 at HS7
        dsimp only at HS7
        clear hta
        go_wp2
        have hk := Hk.out
        have hJ := HJ.out
        go_roundg (n - (k + 1))
        case measure => omega
        case rel => exact ⟨k + 1, (n : Int) - 1 - ((k + 1 : Nat) : Int), by omega, rfl, by go_num, by go_num, HS7⟩
      · have ht1' : t < (n : Int) := by rw [← HN.out]; exact ht1
        have hxo0 : ((xo : Int) == 30) = false := by simp; omega
        have hxo1 : ((xo : Int) == 31) = false := by simp; omega
        rw [hta]
        rw [HN.out] at hya
        have HRT := Lib.hid (fun w' => retarget_any ⟨xo, xa, xb, xc, xd⟩ ((n : Int) - 1 - t) w')
        rw [← hya] at HRT
        obtain ⟨yo, ya, yb, yc, yd⟩ := Y
        unfold insV at HRT
        dsimp only at HRT
        clear hya hta
        clear ht30 ht31 ht1
        go_wp2_with fail
        refine (HRT.out w7).mono ?_
        rintro e w8 ⟨rfl, hb8⟩
        have HKX8 := Lib.hid (HKX7.out.next hb8)
        have HB8 := Lib.hid (below_next HB7.out (Nat.le_refl _) hb8)
        have x0 := HKX8.out.cell 0
        have x1 := HKX8.out.cell 1
        have x2 := HKX8.out.cell 2
        have x3 := HKX8.out.cell 3
        have x4 := HKX8.out.cell 4
        have p0 := HKX8.out.free 0
        have p1 := HKX8.out.free 1
        have p2 := HKX8.out.free 2
        have p3 := HKX8.out.free 3
        have p4 := HKX8.out.free 4
        obtain ⟨⟨y0, y1, y2, y3, y4⟩, hfr⟩ := HYS.out w8 HB8.out
        have f0 := hfr (J * 5)
        have f1 := hfr (J * 5 + 1)
        have f2 := hfr (J * 5 + 2)
        have f3 := hfr (J * 5 + 3)
        have f4 := hfr (J * 5 + 4)
        have HS8 := Lib.hid (HST.out (set5 w8 bx 0 ⟨yo, ya, yb, yc, yd⟩) (set5_below HB8.out hbxw _ _))
        unfold set5 at HS8
        dsimp only at HS8
        simp only [Nat.zero_add] at HS8
        clear hb8 hfr
        go_wp2
        have hk := Hk.out
        have hJ := HJ.out
        go_roundg (n - (k + 1))
        case measure => omega
        case rel => exact ⟨k + 1, (n : Int) - 1 - ((k + 1 : Nat) : Int), by omega, rfl, by go_num, by go_num, HS8⟩
      · have ht1' : t < n := by rw [← HN.out]; exact ht1
        have ht2 : (t : Int) < (n : Int) := by omega
        have ht3 : (0 : Int) ≤ (t : Int) := Int.natCast_nonneg _
        rw [hta]
        rw [HN.out] at hya
        have hct : C[t]? = some (cAt C t) := by
          unfold cAt
          rw [Int.toNat_natCast, List.getD_eq_getElem?_getD, List.getElem?_eq_getElem ht1]
          rfl
        have mu : w7.cell? ⟨g1, o1 + t * 5 + 1, none⟩ = some (.int .i64 (cAt C t).a) := cell_lo (below_next HBW.out (Nat.le_refl _) HB7.out) HG1.out (HQ.out t _ hct).2.1
        have hu1' : (cAt C t).a < (n : Int) := by rw [← HN.out]; exact hu1
        generalize (cAt C t).a = u at *
        have hop' : xo = 30 ∨ xo = 31 := hop
        clear hct hop hu1 ht1
        rcases hop' with rfl | rfl
        · skip
          have HRT := Lib.hid (fun w' => retarget_any ⟨30, xa, xb, xc, xd⟩ ((n : Int) - 1 - u) w')
          rw [← hya] at HRT
          obtain ⟨yo, ya, yb, yc, yd⟩ := Y
          unfold insV at HRT
          dsimp only at HRT
          clear hya hta
          skip
          go_wp2_with fail
          refine (HRT.out w7).mono ?_
          rintro e w8 ⟨rfl, hb8⟩
          have HKX8 := Lib.hid (HKX7.out.next hb8)
          have HB8 := Lib.hid (below_next HB7.out (Nat.le_refl _) hb8)
          have x0 := HKX8.out.cell 0
          have x1 := HKX8.out.cell 1
          have x2 := HKX8.out.cell 2
          have x3 := HKX8.out.cell 3
          have x4 := HKX8.out.cell 4
          have p0 := HKX8.out.free 0
          have p1 := HKX8.out.free 1
          have p2 := HKX8.out.free 2
          have p3 := HKX8.out.free 3
          have p4 := HKX8.out.free 4
          obtain ⟨⟨y0, y1, y2, y3, y4⟩, hfr⟩ := HYS.out w8 HB8.out
          have f0 := hfr (J * 5)
          have f1 := hfr (J * 5 + 1)
          have f2 := hfr (J * 5 + 2)
          have f3 := hfr (J * 5 + 3)
          have f4 := hfr (J * 5 + 4)
          have HS8 := Lib.hid (HST.out (set5 w8 bx 0 ⟨yo, ya, yb, yc, yd⟩) (set5_below HB8.out hbxw _ _))
          unfold set5 at HS8
          dsimp only at HS8
          simp only [Nat.zero_add] at HS8
          clear hb8 hfr
          go_wp2
          have hk := Hk.out
          have hJ := HJ.out
          go_roundg (n - (k + 1))
          case measure => omega
          case rel => exact ⟨k + 1, (n : Int) - 1 - ((k + 1 : Nat) : Int), by omega, rfl, by go_num, by go_num, HS8⟩
        · skip
          have HRT := Lib.hid (fun w' => retarget_any ⟨31, xa, xb, xc, xd⟩ ((n : Int) - 1 - u) w')
          rw [← hya] at HRT
          obtain ⟨yo, ya, yb, yc, yd⟩ := Y
          unfold insV at HRT
          dsimp only at HRT
          clear hya hta
          skip
          go_wp2_with fail
          refine (HRT.out w7).mono ?_
          rintro e w8 ⟨rfl, hb8⟩
          have HKX8 := Lib.hid (HKX7.out.next hb8)
          have HB8 := Lib.hid (below_next HB7.out (Nat.le_refl _) hb8)
          have x0 := HKX8.out.cell 0
          have x1 := HKX8.out.cell 1
          have x2 := HKX8.out.cell 2
          have x3 := HKX8.out.cell 3
          have x4 := HKX8.out.cell 4
          have p0 := HKX8.out.free 0
          have p1 := HKX8.out.free 1
          have p2 := HKX8.out.free 2
          have p3 := HKX8.out.free 3
          have p4 := HKX8.out.free 4
          obtain ⟨⟨y0, y1, y2, y3, y4⟩, hfr⟩ := HYS.out w8 HB8.out
          have f0 := hfr (J * 5)
          have f1 := hfr (J * 5 + 1)
          have f2 := hfr (J * 5 + 2)
          have f3 := hfr (J * 5 + 3)
          have f4 := hfr (J * 5 + 4)
          have HS8 := Lib.hid (HST.out (set5 w8 bx 0 ⟨yo, ya, yb, yc, yd⟩) (set5_below HB8.out hbxw _ _))
          unfold set5 at HS8
          dsimp only at HS8
          simp only [Nat.zero_add] at HS8
          clear hb8 hfr
          go_wp2
          have hk := Hk.out
          have hJ := HJ.out
          go_roundg (n - (k + 1))
          case measure => omega
          case rel => exact ⟨k + 1, (n : Int) - 1 - ((k + 1 : Nat) : Int), by omega, rfl, by go_num, by go_num, HS8⟩
    · have hge : ¬ (k : Int) < (n : Int) := by omega
      obtain rfl : k = n := by omega
      have b0 := HKB.out.cell 0
      have b1 := HKB.out.cell 1
      have b2 := HKB.out.cell 2
      have r0 := HKW.out.cell 0
      have r1 := HKW.out.cell 1
      have r2 := HKW.out.cell 2
      have p0 := HKW.out.free 0
      have p1 := HKW.out.free 1
      have p2 := HKW.out.free 2
      go_wp2
      have hbE : Below w.heap.size w (((wr.setCell ⟨b + 1, 0, none⟩ (.slice aC k cC)).setCell ⟨b + 1, 1, none⟩ (.int .i64 mem)).setCell ⟨b + 1, 2, none⟩ (.int .i64 stacks)) :=
        ((HBW.out.setCell (p := ⟨b + 1, 0, none⟩) (by show w.heap.size ≤ b + 1; have := HBB.out; omega) _).setCell (p := ⟨b + 1, 1, none⟩) (by show w.heap.size ≤ b + 1; have := HBB.out; omega) _).setCell (p := ⟨b + 1, 2, none⟩) (by show w.heap.size ≤ b + 1; have := HBB.out; omega) _
      have hkE := ((HKW.out.set 0 (.slice aC k cC)).set 1 (.int .i64 mem)).set 2 (.int .i64 stacks)
      have hoE := own_far (own_far (own_far HI.out.own hbl 0 (.slice aC k cC)) hbl 1 (.int .i64 mem)) hbl 2 (.int .i64 stacks)
      have hcode := HI.out.code
      rw [← HN.out, invD_all] at hcode
      have hcd : CodeIn (fun j => w.heap.size ≤ j) (((wr.setCell ⟨b + 1, 0, none⟩ (.slice aC k cC)).setCell ⟨b + 1, 1, none⟩ (.int .i64 mem)).setCell ⟨b + 1, 2, none⟩ (.int .i64 stacks)) (.slice aC k cC) (invC C) :=
        own_code (D := invC C) (by rw [inv_len]; exact hoE) hcode (fun j hj => by have := HNB.out j hj; omega)
      refine bodyPost_ret (results_im rfl _ _ _ _ _ _ rfl hkE) rfl ⟨_, rfl, hbE, hcd⟩

end Go.Proofs.YtichiccohmeecaaDoor
