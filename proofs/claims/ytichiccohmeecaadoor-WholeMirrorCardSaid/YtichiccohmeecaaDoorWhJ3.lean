/- The walk of cpu.leave. -/
import Derived.Test.YtichiccohmeecaaDoorWhJ2
import Derived.Laws.StructEq
namespace Go.Proofs.YtichiccohmeecaaDoor
open Go.RowKit

/-- two instructions, field by field -/
theorem nest {α : Type} {a b c d e : Prop} [Decidable a] [Decidable b] [Decidable c] [Decidable d] [Decidable e] (h : ¬ (a ∧ b ∧ c ∧ d ∧ e)) (x y : α) :
    (if a then if b then if c then if d then if e then x else y else y else y else y else y) = y := by
  by_cases h1 : a
  · by_cases h2 : b
    · by_cases h3 : c
      · by_cases h4 : d
        · rw [if_pos h1, if_pos h2, if_pos h3, if_pos h4, if_neg (fun h5 => h ⟨h1, h2, h3, h4, h5⟩)]
        · rw [if_pos h1, if_pos h2, if_pos h3, if_neg h4]
      · rw [if_pos h1, if_pos h2, if_neg h3]
    · rw [if_pos h1, if_neg h2]
  · rw [if_neg h1]
theorem ins_ne {o : Nat} {a b c d : Int} {p : Nat} {q : Int} (h : ¬ (⟨o, a, b, c, d⟩ : Ins) = ⟨p, q, 0, 0, 0⟩) : ¬ ((o : Int) = (p : Int) ∧ a = q ∧ b = 0 ∧ c = 0 ∧ d = 0) := by
  rintro ⟨h1, h2, h3, h4, h5⟩
  have h1 : o = p := by omega
  subst h1 h2 h3 h4 h5
  exact h rfl

set_option maxRecDepth 100000 in
set_option maxHeartbeats 16000000 in
theorem leave_any {P : Nat → Prop} (F : Nat → Prop) (g : Nat) (m : Mach) (V : MV) (im : Im) (vc : Value) (w : World) (h : MachW F w g m V) (hC : CodeIn P w vc im.code) (k : Nat) (hk : k < im.code.length) (hl : im.code.length ≤ 1000000)
    (hd : m.dir = 1 ∨ m.dir = -1) (ho : (cAt im.code k).op = 32 ∨ (cAt im.code k).op = 33) (hcl : m.calls.length ≤ 100) (hca : ∀ a ∈ m.calls, inR im.code a.1 = true) :
    Calls Tryd.prog 33 #[imV vc im, .pointer (some ⟨g, 0, none⟩), .int .i64 k] w (ExecR F w g (leaveP im m k)) := by
  have hcn := hC
  obtain ⟨ac, cp, rfl, hn, hm, hq⟩ := hcn
  obtain ⟨gc, o, rfl, hgc, hp, hcell⟩ := hq (by omega)
  obtain ⟨x, hx⟩ := get_lt rfl hk
  obtain ⟨c0, c1, c2, c3, c4⟩ := hcell k x hx
  have ex : cAt im.code k = x := ex2 hx
  obtain ⟨⟨aA, cA, hvA, hac1, hac2, hac3⟩, hac4⟩ := id h.acts
  have y0 : w.cell? ⟨g, 0, none⟩ = some (.int .i64 m.pc) := h.cell (by decide)
  have y1 : w.cell? ⟨g, 1, none⟩ = some (.int .i64 m.dir) := h.cell (by decide)
  have y20 : w.cell? ⟨g, 20, none⟩ = some (.slice aA m.calls.length cA) := by rw [← hvA]; exact h.cell (by decide)
  have f0 : w.frozen? ⟨g, 0, none⟩ = false := h.blk.free 0
  have f1 : w.frozen? ⟨g, 1, none⟩ = false := h.blk.free 1
  have f20 : w.frozen? ⟨g, 20, none⟩ = false := h.blk.free 20
  have hgl : g < w.heap.size := h.blk.lt
  have HAI : Hid (ActsIn (RO F g V) w (.slice aA m.calls.length cA) m.calls) := Lib.hid (by rw [← hvA]; exact h.acts)
  have HH := Lib.hid h
  have HCI := Lib.hid hC
  have hkn : (k : Int) < (im.code.length : Int) := by omega
  have hk0 : (0 : Int) ≤ (k : Int) := Int.natCast_nonneg _
  have hn63 : im.code.length ≤ 9223372036854775807 := by omega
  have hl1 : (im.code.length : Int) ≤ 1000000 := by omega
  have HCE := Lib.hid hcell
  have HCA := Lib.hid hca
  obtain ⟨ll, hll⟩ : ∃ ll, im.code.length = ll := ⟨_, rfl⟩
  have HLL := Lib.hid hll
  rw [hll] at hkn hn63 hl1 hn HCI
  obtain ⟨na, hna⟩ : ∃ na, m.calls.length = na := ⟨_, rfl⟩
  have HNA := Lib.hid hna
  unfold leaveP
  rw [ex] at ho ⊢
  rw [hna] at HAI y20 hac1 hac3 hcl
  have hac1' : (na : Int) ≤ (cA : Int) := by omega
  have na0 : (0 : Int) ≤ (na : Int) := Int.natCast_nonneg _
  have na1 : (na : Int) ≤ 100 := by omega
  have HA3 := Lib.hid hac3
  obtain ⟨xo, xa, xb, xc, xd⟩ := x
  dsimp only at c0 c1 c2 c3 c4 ho ⊢
  obtain ⟨pc, hpc⟩ : ∃ pc, m.pc = pc := ⟨_, rfl⟩
  rw [hpc] at y0
  unfold imV
  rw [HLL.out]
  obtain ⟨mm, hmm⟩ : ∃ mm, im.mem = mm := ⟨_, rfl⟩
  obtain ⟨ss, hss⟩ : ∃ ss, im.stacks = ss := ⟨_, rfl⟩
  rw [hmm, hss]
  obtain ⟨X, hX⟩ : ∃ X, X = (w.alloc (.cells #[.slice (some ⟨gc, o, none⟩) ll cp, .int .i64 mm, .int .i64 ss] 24)).alloc (.cells #[.int .u8 xo, .int .i64 xa, .int .i64 xb, .int .i64 xc, .int .i64 xd] 45) := ⟨_, rfl⟩
  have hbx : Below w.heap.size w X := by rw [hX]; exact ((Below.refl _ _).alloc (Nat.le_refl _) _).alloc (by simp) _
  have X0 := cell_lo hbx hgl y0
  have X1 := cell_lo hbx hgl y1
  have X20 := cell_lo hbx hgl y20
  have F0 := (hbx.frozen (p := ⟨g, 0, none⟩) hgl).trans f0
  have F1 := (hbx.frozen (p := ⟨g, 1, none⟩) hgl).trans f1
  have F20 := (hbx.frozen (p := ⟨g, 20, none⟩) hgl).trans f20
  have s0 : X.cell? ⟨w.heap.size + 1, 0, none⟩ = some (.int .u8 xo) := by
    have := (Blk.new (w.alloc (.cells #[.slice (some ⟨gc, o, none⟩) ll cp, .int .i64 mm, .int .i64 ss] 24)) 45 #[.int .u8 xo, .int .i64 xa, .int .i64 xb, .int .i64 xc, .int .i64 xd]).cell 0
    rw [hX]
    simp at this ⊢
  have b0 : X.cell? ⟨w.heap.size, 0, none⟩ = some (.slice (some ⟨gc, o, none⟩) ll cp) := by
    have := (Blk.new w 24 #[.slice (some ⟨gc, o, none⟩) ll cp, .int .i64 mm, .int .i64 ss]).cell 0
    rw [hX]
    exact cell_lo (below_alloc _ _) (by simp) this
  have hbl : w.heap.size < X.heap.size := by rw [hX]; simp; omega
  have hgl2 : g < X.heap.size := Nat.lt_of_lt_of_le hgl hbx.size
  have hgc2 : gc < X.heap.size := Nat.lt_of_lt_of_le hgc hbx.size
  have HMX := Lib.hid (h.below hbx)
  have HTX : Hid (Touch F w X) := Lib.hid (Touch.of_below hbx)
  have HBX := Lib.hid hbx
  have HX := Lib.hid hX
  clear h hC hm hq hcell hll ex hvA hac1 hac2 hac3 hac4 hna hp hx hk hn hl hpc hca hX hmm hss f0 f1 f20 hbx
  have LIT : ∀ n : Nat, xo = n → xo = n := fun _ h => h
  rcases ho with rfl | rfl
  · rcases hd with hd | hd
    · have HD := Lib.hid hd
      rw [hd] at y1 X1
      have s0 : X.cell? ⟨w.heap.size + 1, 0, none⟩ = some (.int .u8 32) := s0
      have c0 : w.cell? ⟨gc, o + k * 5, none⟩ = some (.int .u8 32) := c0
      have HX : Hid (X = (w.alloc (.cells #[.slice (some ⟨gc, o, none⟩) ll cp, .int .i64 mm, .int .i64 ss] 24)).alloc (.cells #[.int .u8 32, .int .i64 xa, .int .i64 xb, .int .i64 xc, .int .i64 xd] 45)) := HX
      clear hd LIT
      rw [if_pos (by rw [HD.out]; rfl)]
      go_enter Tryd.func33, Tryd.ntmps33
      go_wp2
      rw [← HX.out]
      go_wp2
      go_quiet (fail)
      go_wp2
      go_ret
      exact exec_done (HMX.out.drewN _) (HTX.out.drewN _) rfl
    · have HD := Lib.hid hd
      rw [hd] at y1 X1
      have s0 : X.cell? ⟨w.heap.size + 1, 0, none⟩ = some (.int .u8 32) := s0
      have c0 : w.cell? ⟨gc, o + k * 5, none⟩ = some (.int .u8 32) := c0
      have HX : Hid (X = (w.alloc (.cells #[.slice (some ⟨gc, o, none⟩) ll cp, .int .i64 mm, .int .i64 ss] 24)).alloc (.cells #[.int .u8 32, .int .i64 xa, .int .i64 xb, .int .i64 xc, .int .i64 xd] 45)) := HX
      clear hd LIT
      by_cases hz : na = 0
      · rw [if_pos (by rw [HD.out, HNA.out, hz]; rfl)]
        subst hz
        go_enter Tryd.func33, Tryd.ntmps33
        go_wp2
        rw [← HX.out]
        go_wp2
        go_quiet (fail)
        go_wp2
        go_ret
        exact exec_done (HMX.out.drewN _) (HTX.out.drewN _) rfl
      · rw [if_neg (by rw [HD.out, HNA.out]; simpa using hz)]
        obtain ⟨j, hj⟩ : ∃ j, na - 1 = j := ⟨_, rfl⟩
        rw [HNA.out, hj]
        have ej : (na : Int) - 1 = (j : Int) := by omega
        have j0 : (0 : Int) ≤ (j : Int) := Int.natCast_nonneg _
        have j1 : (j : Int) < (na : Int) := by omega
        have jn : ¬ (j : Int) < 0 := by omega
        have jc : (j : Int) ≤ (cA : Int) := by omega
        obtain ⟨⟨q, tn⟩, ha⟩ : ∃ a, m.calls[j]? = some a := ⟨_, List.getElem?_eq_getElem (by rw [HNA.out]; omega)⟩
        rw [show m.calls.getD j (0, false) = (q, tn) by rw [List.getD_eq_getElem?_getD, ha]; rfl]
        have hqr := inR_iff.1 (HCA.out _ (List.mem_of_getElem? ha))
        dsimp only at hqr
        rw [HLL.out] at hqr
        obtain ⟨r, rfl⟩ := Int.eq_ofNat_of_zero_le hqr.1
        have hr1 : (r : Int) < (ll : Int) := hqr.2
        have hr0 : (0 : Int) ≤ (r : Int) := Int.natCast_nonneg _
        obtain ⟨y, hy⟩ := get_lt HLL.out.symm (show r < ll by omega)
        obtain ⟨d0, d1, d2, d3, d4⟩ := HCE.out r y hy
        rw [show cAt im.code (r : Int) = y from ex2 hy]
        obtain ⟨ga, oa, rfl, hga, -, hqa⟩ := HA3.out (by omega)
        obtain ⟨p0, p1⟩ := hqa j _ ha
        dsimp only at p0 p1
        have a0 := cell_lo HBX.out hga p0
        have a1 := cell_lo HBX.out hga p1
        have e0 := cell_lo HBX.out hgc d0
        have e1 := cell_lo HBX.out hgc d1
        have e2 := cell_lo HBX.out hgc d2
        have e3 := cell_lo HBX.out hgc d3
        have e4 := cell_lo HBX.out hgc d4
        have hga2 := Nat.lt_of_lt_of_le hga HBX.out.size
        rw [show startOf ⟨32, xa, xb, xc, xd⟩ (k : Int) = (k : Int) from rfl]
        have HAT : Hid (∀ w', Keep (RO F g V) X w' → ActsIn (RO F g V) w' (.slice (some ⟨ga, oa, none⟩) j cA) (m.calls.take j)) := Lib.hid (fun w' hk' => ((HAI.out.keep (Keep.of_below HBX.out) (fun _ h => h)).keep hk' (fun _ h => h)).trim (by omega))
        obtain ⟨yo, ya, yb, yc, yd⟩ := y
        dsimp only at e0 e1 e2 e3 e4
        have HY := Lib.hid hy
        clear hy hqr ha hqa hz hj d0 d1 d2 d3 d4 p0 p1 hga
        cases tn with
        | false =>
          rw [show opOf false = 30 from rfl]
          by_cases hcmp : (⟨yo, ya, yb, yc, yd⟩ : Ins) = ⟨30, (k : Int), 0, 0, 0⟩
          · rw [if_pos hcmp]
            injection hcmp with h1 h2 h3 h4 h5
            have h2 := h2.symm
            subst h1 h2 h3 h4 h5
            go_enter Tryd.func33, Tryd.ntmps33
            -- L32false eq
            go_wp2
            rw [← HX.out]
            go_wp2
            go_quiet (fail)
            obtain ⟨Y, hY⟩ : ∃ Y, Y = X.drewN nq := ⟨_, rfl⟩
            have hXY : Below X.heap.size X Y := by rw [hY]; exact Below.drewN_self _ _
            obtain ⟨Z, hZ⟩ : ∃ Z, Z = (Y.alloc (.cells #[.int .i64 (r : Int), .bool false] 53)).alloc (.cells #[.int .u8 30, .int .i64 (k : Int), .int .i64 0, .int .i64 0, .int .i64 0] 45) := ⟨_, rfl⟩
            obtain ⟨by1, hby⟩ : ∃ by1, Y.heap.size = by1 := ⟨_, rfl⟩
            have hYZ : Below Y.heap.size Y Z := by rw [hZ]; exact ((Below.refl _ _).alloc (Nat.le_refl _) _).alloc (by simp) _
            have hXZ : Below X.heap.size X Z := hXY.trans (hYZ.mono hXY.size)
            have k0 : Z.cell? ⟨by1, 0, none⟩ = some (.int .i64 (r : Int)) := by rw [hZ, ← hby]; exact cell_lo (below_alloc _ _) (by simp) ((Blk.new Y 53 #[.int .i64 (r : Int), .bool false]).cell 0)
            have k1 : Z.cell? ⟨by1, 1, none⟩ = some (.bool false) := by rw [hZ, ← hby]; exact cell_lo (below_alloc _ _) (by simp) ((Blk.new Y 53 #[.int .i64 (r : Int), .bool false]).cell 1)
            have hz5 : Blk Z (by1 + 1) 45 #[.int .u8 30, .int .i64 (k : Int), .int .i64 0, .int .i64 0, .int .i64 0] := by
              have := Blk.new (Y.alloc (.cells #[.int .i64 (r : Int), .bool false] 53)) 45 #[.int .u8 30, .int .i64 (k : Int), .int .i64 0, .int .i64 0, .int .i64 0]
              rw [hZ, ← hby]
              simpa using this
            have s0 : Z.cell? ⟨by1 + 1, 0, none⟩ = some (.int .u8 30) := hz5.cell 0
            have s1 : Z.cell? ⟨by1 + 1, 1, none⟩ = some (.int .i64 (k : Int)) := hz5.cell 1
            have s2 : Z.cell? ⟨by1 + 1, 2, none⟩ = some (.int .i64 0) := hz5.cell 2
            have s3 : Z.cell? ⟨by1 + 1, 3, none⟩ = some (.int .i64 0) := hz5.cell 3
            have s4 : Z.cell? ⟨by1 + 1, 4, none⟩ = some (.int .i64 0) := hz5.cell 4
            have y20' := cell_lo hXY hgl2 X20
            have ya0 := cell_lo hXY hga2 a0
            have ya1 := cell_lo hXY hga2 a1
            have z0 := cell_lo hXZ hgl2 X0
            have z1 := cell_lo hXZ hgl2 X1
            have z20 := cell_lo hXZ hgl2 X20
            have zf0 := (hXZ.frozen (p := ⟨g, 0, none⟩) hgl2).trans F0
            have zf1 := (hXZ.frozen (p := ⟨g, 1, none⟩) hgl2).trans F1
            have zf20 := (hXZ.frozen (p := ⟨g, 20, none⟩) hgl2).trans F20
            have we0 := cell_lo hXZ hgc2 e0
            have ze1 := cell_lo hXZ hgc2 e1
            have ze2 := cell_lo hXZ hgc2 e2
            have ze3 := cell_lo hXZ hgc2 e3
            have ze4 := cell_lo hXZ hgc2 e4
            have zb0 := cell_lo hXZ hbl b0
            have ze0 : Z.cell? ⟨gc, o + r * 5, none⟩ = some (.int .u8 30) := we0
            clear we0
            have HMZ := Lib.hid (HMX.out.below hXZ)
            have HTZ := Lib.hid (HTX.out.below hXZ)
            have HAZ := Lib.hid (HAT.out Z (Keep.of_below hXZ))
            have hgk : g ≠ by1 := by have := hXY.size; omega
            have hgk2 := Ne.symm hgk
            rw [← hY]
            have HZ := Lib.hid hZ
            have HBY := Lib.hid hby
            clear hY hXY hYZ hXZ hz5 F0 F1 F20 X0 X1 X20 y0 y1 y20 c0 c1 c2 c3 c4 e0 e1 e2 e3 e4 a0 a1 b0 hZ
            go_wp2
            rw [← HZ.out]
            go_quiet (fail)
            have z0 := dcell z0 nq
            have z1 := dcell z1 nq
            have z20 := dcell z20 nq
            have zf0 := dfroz zf0 nq
            have zf1 := dfroz zf1 nq
            have zf20 := dfroz zf20 nq
            have k0 := dcell k0 nq
            have k1 := dcell k1 nq
            have HMU := Lib.hid (HMZ.out.drewN nq)
            have HTU := Lib.hid (HTZ.out.drewN nq)
            have HAU : Hid (ActsIn (RO F g V) (Z.drewN nq) (.slice (some ⟨ga, oa, none⟩) j cA) (m.calls.take j)) := Lib.hid (HAZ.out.keep (Keep.of_below (Below.drewN_self _ nq)) (fun _ h => h))
            clear HMZ HTZ HAZ
            generalize Z.drewN nq = U at *
            have HM3 := Lib.hid (HMU.out.setcalls _ _ HAU.out)
            have HT3 := Lib.hid (HTU.out.of_set (.inl HMU.out.own) 20 (.slice (some ⟨ga, oa, none⟩) j cA))
            go_wp2
            go_region_law (go_simp; refine (behind_any (r : Int) (-1 : Int) _ (by omega) (by omega)).mono ?_; rintro e w4 ⟨rfl, rfl⟩)
            all_goals go_wp2
            all_goals go_ret
            all_goals rw [show behind (r : Int) (dirOf false m.dir) = behind (r : Int) (-1 : Int) from congrArg _ HD.out]
            all_goals exact exec_done ((HM3.out.pc _).drew) ((HT3.out.of_set (.inl HMU.out.own) _ _).drew) rfl
          · rw [if_neg hcmp]
            have hne := Lib.hid (show ¬ ((yo : Int) = 30 ∧ ya = (k : Int) ∧ yb = 0 ∧ yc = 0 ∧ yd = 0) from ins_ne hcmp)
            go_enter Tryd.func33, Tryd.ntmps33
            -- L32false neq
            go_wp2
            rw [← HX.out]
            go_wp2
            go_quiet (fail)
            obtain ⟨Y, hY⟩ : ∃ Y, Y = X.drewN nq := ⟨_, rfl⟩
            have hXY : Below X.heap.size X Y := by rw [hY]; exact Below.drewN_self _ _
            obtain ⟨Z, hZ⟩ : ∃ Z, Z = (Y.alloc (.cells #[.int .i64 (r : Int), .bool false] 53)).alloc (.cells #[.int .u8 30, .int .i64 (k : Int), .int .i64 0, .int .i64 0, .int .i64 0] 45) := ⟨_, rfl⟩
            obtain ⟨by1, hby⟩ : ∃ by1, Y.heap.size = by1 := ⟨_, rfl⟩
            have hYZ : Below Y.heap.size Y Z := by rw [hZ]; exact ((Below.refl _ _).alloc (Nat.le_refl _) _).alloc (by simp) _
            have hXZ : Below X.heap.size X Z := hXY.trans (hYZ.mono hXY.size)
            have k0 : Z.cell? ⟨by1, 0, none⟩ = some (.int .i64 (r : Int)) := by rw [hZ, ← hby]; exact cell_lo (below_alloc _ _) (by simp) ((Blk.new Y 53 #[.int .i64 (r : Int), .bool false]).cell 0)
            have k1 : Z.cell? ⟨by1, 1, none⟩ = some (.bool false) := by rw [hZ, ← hby]; exact cell_lo (below_alloc _ _) (by simp) ((Blk.new Y 53 #[.int .i64 (r : Int), .bool false]).cell 1)
            have hz5 : Blk Z (by1 + 1) 45 #[.int .u8 30, .int .i64 (k : Int), .int .i64 0, .int .i64 0, .int .i64 0] := by
              have := Blk.new (Y.alloc (.cells #[.int .i64 (r : Int), .bool false] 53)) 45 #[.int .u8 30, .int .i64 (k : Int), .int .i64 0, .int .i64 0, .int .i64 0]
              rw [hZ, ← hby]
              simpa using this
            have s0 : Z.cell? ⟨by1 + 1, 0, none⟩ = some (.int .u8 30) := hz5.cell 0
            have s1 : Z.cell? ⟨by1 + 1, 1, none⟩ = some (.int .i64 (k : Int)) := hz5.cell 1
            have s2 : Z.cell? ⟨by1 + 1, 2, none⟩ = some (.int .i64 0) := hz5.cell 2
            have s3 : Z.cell? ⟨by1 + 1, 3, none⟩ = some (.int .i64 0) := hz5.cell 3
            have s4 : Z.cell? ⟨by1 + 1, 4, none⟩ = some (.int .i64 0) := hz5.cell 4
            have y20' := cell_lo hXY hgl2 X20
            have ya0 := cell_lo hXY hga2 a0
            have ya1 := cell_lo hXY hga2 a1
            have z0 := cell_lo hXZ hgl2 X0
            have z1 := cell_lo hXZ hgl2 X1
            have z20 := cell_lo hXZ hgl2 X20
            have zf0 := (hXZ.frozen (p := ⟨g, 0, none⟩) hgl2).trans F0
            have zf1 := (hXZ.frozen (p := ⟨g, 1, none⟩) hgl2).trans F1
            have zf20 := (hXZ.frozen (p := ⟨g, 20, none⟩) hgl2).trans F20
            have we0 := cell_lo hXZ hgc2 e0
            have ze1 := cell_lo hXZ hgc2 e1
            have ze2 := cell_lo hXZ hgc2 e2
            have ze3 := cell_lo hXZ hgc2 e3
            have ze4 := cell_lo hXZ hgc2 e4
            have zb0 := cell_lo hXZ hbl b0
            have ze0 : Z.cell? ⟨gc, o + r * 5, none⟩ = some (.int .u8 yo) := we0
            clear we0
            have HMZ := Lib.hid (HMX.out.below hXZ)
            have HTZ := Lib.hid (HTX.out.below hXZ)
            have HAZ := Lib.hid (HAT.out Z (Keep.of_below hXZ))
            have hgk : g ≠ by1 := by have := hXY.size; omega
            have hgk2 := Ne.symm hgk
            rw [← hY]
            have HZ := Lib.hid hZ
            have HBY := Lib.hid hby
            clear hY hXY hYZ hXZ hz5 F0 F1 F20 X0 X1 X20 y0 y1 y20 c0 c1 c2 c3 c4 e0 e1 e2 e3 e4 a0 a1 b0 hZ
            go_wp2
            rw [← HZ.out]
            refine wp_region_quiet_lit (by kernel_rfl) (by kernel_rfl) ?_
            iterate 7 (quiet_step (fail))
            refine wpQuiet_step (fun K hK => ?_)
            go_simp
            refine ⟨.bool true, fun _ => ?_, hK _ ?_⟩
            · rw [nest hne.out]
              exact ⟨rfl, rfl⟩
            clear hK K
            refine wpQuiet_nil ?_
            intro _ hw
            obtain ⟨nq, rfl⟩ := hw
            go_wp2
            go_ret
            exact exec_done (HMZ.out.drewN _) (HTZ.out.drewN _) rfl
        | true =>
          rw [show opOf true = 31 from rfl]
          by_cases hcmp : (⟨yo, ya, yb, yc, yd⟩ : Ins) = ⟨31, (k : Int), 0, 0, 0⟩
          · rw [if_pos hcmp]
            injection hcmp with h1 h2 h3 h4 h5
            have h2 := h2.symm
            subst h1 h2 h3 h4 h5
            go_enter Tryd.func33, Tryd.ntmps33
            -- L32true eq
            go_wp2
            rw [← HX.out]
            go_wp2
            go_quiet (fail)
            obtain ⟨Y, hY⟩ : ∃ Y, Y = X.drewN nq := ⟨_, rfl⟩
            have hXY : Below X.heap.size X Y := by rw [hY]; exact Below.drewN_self _ _
            obtain ⟨Z, hZ⟩ : ∃ Z, Z = (Y.alloc (.cells #[.int .i64 (r : Int), .bool true] 53)).alloc (.cells #[.int .u8 31, .int .i64 (k : Int), .int .i64 0, .int .i64 0, .int .i64 0] 45) := ⟨_, rfl⟩
            obtain ⟨by1, hby⟩ : ∃ by1, Y.heap.size = by1 := ⟨_, rfl⟩
            have hYZ : Below Y.heap.size Y Z := by rw [hZ]; exact ((Below.refl _ _).alloc (Nat.le_refl _) _).alloc (by simp) _
            have hXZ : Below X.heap.size X Z := hXY.trans (hYZ.mono hXY.size)
            have k0 : Z.cell? ⟨by1, 0, none⟩ = some (.int .i64 (r : Int)) := by rw [hZ, ← hby]; exact cell_lo (below_alloc _ _) (by simp) ((Blk.new Y 53 #[.int .i64 (r : Int), .bool true]).cell 0)
            have k1 : Z.cell? ⟨by1, 1, none⟩ = some (.bool true) := by rw [hZ, ← hby]; exact cell_lo (below_alloc _ _) (by simp) ((Blk.new Y 53 #[.int .i64 (r : Int), .bool true]).cell 1)
            have hz5 : Blk Z (by1 + 1) 45 #[.int .u8 31, .int .i64 (k : Int), .int .i64 0, .int .i64 0, .int .i64 0] := by
              have := Blk.new (Y.alloc (.cells #[.int .i64 (r : Int), .bool true] 53)) 45 #[.int .u8 31, .int .i64 (k : Int), .int .i64 0, .int .i64 0, .int .i64 0]
              rw [hZ, ← hby]
              simpa using this
            have s0 : Z.cell? ⟨by1 + 1, 0, none⟩ = some (.int .u8 31) := hz5.cell 0
            have s1 : Z.cell? ⟨by1 + 1, 1, none⟩ = some (.int .i64 (k : Int)) := hz5.cell 1
            have s2 : Z.cell? ⟨by1 + 1, 2, none⟩ = some (.int .i64 0) := hz5.cell 2
            have s3 : Z.cell? ⟨by1 + 1, 3, none⟩ = some (.int .i64 0) := hz5.cell 3
            have s4 : Z.cell? ⟨by1 + 1, 4, none⟩ = some (.int .i64 0) := hz5.cell 4
            have y20' := cell_lo hXY hgl2 X20
            have ya0 := cell_lo hXY hga2 a0
            have ya1 := cell_lo hXY hga2 a1
            have z0 := cell_lo hXZ hgl2 X0
            have z1 := cell_lo hXZ hgl2 X1
            have z20 := cell_lo hXZ hgl2 X20
            have zf0 := (hXZ.frozen (p := ⟨g, 0, none⟩) hgl2).trans F0
            have zf1 := (hXZ.frozen (p := ⟨g, 1, none⟩) hgl2).trans F1
            have zf20 := (hXZ.frozen (p := ⟨g, 20, none⟩) hgl2).trans F20
            have we0 := cell_lo hXZ hgc2 e0
            have ze1 := cell_lo hXZ hgc2 e1
            have ze2 := cell_lo hXZ hgc2 e2
            have ze3 := cell_lo hXZ hgc2 e3
            have ze4 := cell_lo hXZ hgc2 e4
            have zb0 := cell_lo hXZ hbl b0
            have ze0 : Z.cell? ⟨gc, o + r * 5, none⟩ = some (.int .u8 31) := we0
            clear we0
            have HMZ := Lib.hid (HMX.out.below hXZ)
            have HTZ := Lib.hid (HTX.out.below hXZ)
            have HAZ := Lib.hid (HAT.out Z (Keep.of_below hXZ))
            have hgk : g ≠ by1 := by have := hXY.size; omega
            have hgk2 := Ne.symm hgk
            rw [← hY]
            have HZ := Lib.hid hZ
            have HBY := Lib.hid hby
            clear hY hXY hYZ hXZ hz5 F0 F1 F20 X0 X1 X20 y0 y1 y20 c0 c1 c2 c3 c4 e0 e1 e2 e3 e4 a0 a1 b0 hZ
            go_wp2
            rw [← HZ.out]
            go_quiet (fail)
            have z0 := dcell z0 nq
            have z1 := dcell z1 nq
            have z20 := dcell z20 nq
            have zf0 := dfroz zf0 nq
            have zf1 := dfroz zf1 nq
            have zf20 := dfroz zf20 nq
            have k0 := dcell k0 nq
            have k1 := dcell k1 nq
            have HMU := Lib.hid (HMZ.out.drewN nq)
            have HTU := Lib.hid (HTZ.out.drewN nq)
            have HAU : Hid (ActsIn (RO F g V) (Z.drewN nq) (.slice (some ⟨ga, oa, none⟩) j cA) (m.calls.take j)) := Lib.hid (HAZ.out.keep (Keep.of_below (Below.drewN_self _ nq)) (fun _ h => h))
            clear HMZ HTZ HAZ
            generalize Z.drewN nq = U at *
            have HM3 := Lib.hid (HMU.out.setcalls _ _ HAU.out)
            have HT3 := Lib.hid (HTU.out.of_set (.inl HMU.out.own) 20 (.slice (some ⟨ga, oa, none⟩) j cA))
            go_wp2_with fail
            refine (turn_any _ g _ _ _ HM3.out (by first | exact .inl HD.out | exact .inr HD.out)).mono ?_
            rintro e w3 ⟨rfl, rfl⟩
            rw [show (-({ m with calls := m.calls.take j } : Mach).dir) = (1 : Int) by have := HD.out; show -m.dir = _; omega]
            go_wp2
            go_region_law (go_simp; refine (behind_any (r : Int) (1 : Int) _ (by omega) (by omega)).mono ?_; rintro e w4 ⟨rfl, rfl⟩)
            all_goals go_wp2
            all_goals go_ret
            all_goals rw [show dirOf true m.dir = (1 : Int) from by have := HD.out; show -m.dir = _; omega]
            all_goals exact exec_done (((HM3.out.dir _).pc _).drew) (((HT3.out.of_set (.inl HMU.out.own) _ _).of_set (.inl HMU.out.own) _ _).drew) rfl
          · rw [if_neg hcmp]
            have hne := Lib.hid (show ¬ ((yo : Int) = 31 ∧ ya = (k : Int) ∧ yb = 0 ∧ yc = 0 ∧ yd = 0) from ins_ne hcmp)
            go_enter Tryd.func33, Tryd.ntmps33
            -- L32true neq
            go_wp2
            rw [← HX.out]
            go_wp2
            go_quiet (fail)
            obtain ⟨Y, hY⟩ : ∃ Y, Y = X.drewN nq := ⟨_, rfl⟩
            have hXY : Below X.heap.size X Y := by rw [hY]; exact Below.drewN_self _ _
            obtain ⟨Z, hZ⟩ : ∃ Z, Z = (Y.alloc (.cells #[.int .i64 (r : Int), .bool true] 53)).alloc (.cells #[.int .u8 31, .int .i64 (k : Int), .int .i64 0, .int .i64 0, .int .i64 0] 45) := ⟨_, rfl⟩
            obtain ⟨by1, hby⟩ : ∃ by1, Y.heap.size = by1 := ⟨_, rfl⟩
            have hYZ : Below Y.heap.size Y Z := by rw [hZ]; exact ((Below.refl _ _).alloc (Nat.le_refl _) _).alloc (by simp) _
            have hXZ : Below X.heap.size X Z := hXY.trans (hYZ.mono hXY.size)
            have k0 : Z.cell? ⟨by1, 0, none⟩ = some (.int .i64 (r : Int)) := by rw [hZ, ← hby]; exact cell_lo (below_alloc _ _) (by simp) ((Blk.new Y 53 #[.int .i64 (r : Int), .bool true]).cell 0)
            have k1 : Z.cell? ⟨by1, 1, none⟩ = some (.bool true) := by rw [hZ, ← hby]; exact cell_lo (below_alloc _ _) (by simp) ((Blk.new Y 53 #[.int .i64 (r : Int), .bool true]).cell 1)
            have hz5 : Blk Z (by1 + 1) 45 #[.int .u8 31, .int .i64 (k : Int), .int .i64 0, .int .i64 0, .int .i64 0] := by
              have := Blk.new (Y.alloc (.cells #[.int .i64 (r : Int), .bool true] 53)) 45 #[.int .u8 31, .int .i64 (k : Int), .int .i64 0, .int .i64 0, .int .i64 0]
              rw [hZ, ← hby]
              simpa using this
            have s0 : Z.cell? ⟨by1 + 1, 0, none⟩ = some (.int .u8 31) := hz5.cell 0
            have s1 : Z.cell? ⟨by1 + 1, 1, none⟩ = some (.int .i64 (k : Int)) := hz5.cell 1
            have s2 : Z.cell? ⟨by1 + 1, 2, none⟩ = some (.int .i64 0) := hz5.cell 2
            have s3 : Z.cell? ⟨by1 + 1, 3, none⟩ = some (.int .i64 0) := hz5.cell 3
            have s4 : Z.cell? ⟨by1 + 1, 4, none⟩ = some (.int .i64 0) := hz5.cell 4
            have y20' := cell_lo hXY hgl2 X20
            have ya0 := cell_lo hXY hga2 a0
            have ya1 := cell_lo hXY hga2 a1
            have z0 := cell_lo hXZ hgl2 X0
            have z1 := cell_lo hXZ hgl2 X1
            have z20 := cell_lo hXZ hgl2 X20
            have zf0 := (hXZ.frozen (p := ⟨g, 0, none⟩) hgl2).trans F0
            have zf1 := (hXZ.frozen (p := ⟨g, 1, none⟩) hgl2).trans F1
            have zf20 := (hXZ.frozen (p := ⟨g, 20, none⟩) hgl2).trans F20
            have we0 := cell_lo hXZ hgc2 e0
            have ze1 := cell_lo hXZ hgc2 e1
            have ze2 := cell_lo hXZ hgc2 e2
            have ze3 := cell_lo hXZ hgc2 e3
            have ze4 := cell_lo hXZ hgc2 e4
            have zb0 := cell_lo hXZ hbl b0
            have ze0 : Z.cell? ⟨gc, o + r * 5, none⟩ = some (.int .u8 yo) := we0
            clear we0
            have HMZ := Lib.hid (HMX.out.below hXZ)
            have HTZ := Lib.hid (HTX.out.below hXZ)
            have HAZ := Lib.hid (HAT.out Z (Keep.of_below hXZ))
            have hgk : g ≠ by1 := by have := hXY.size; omega
            have hgk2 := Ne.symm hgk
            rw [← hY]
            have HZ := Lib.hid hZ
            have HBY := Lib.hid hby
            clear hY hXY hYZ hXZ hz5 F0 F1 F20 X0 X1 X20 y0 y1 y20 c0 c1 c2 c3 c4 e0 e1 e2 e3 e4 a0 a1 b0 hZ
            go_wp2
            rw [← HZ.out]
            refine wp_region_quiet_lit (by kernel_rfl) (by kernel_rfl) ?_
            iterate 7 (quiet_step (fail))
            refine wpQuiet_step (fun K hK => ?_)
            go_simp
            refine ⟨.bool true, fun _ => ?_, hK _ ?_⟩
            · rw [nest hne.out]
              exact ⟨rfl, rfl⟩
            clear hK K
            refine wpQuiet_nil ?_
            intro _ hw
            obtain ⟨nq, rfl⟩ := hw
            go_wp2
            go_ret
            exact exec_done (HMZ.out.drewN _) (HTZ.out.drewN _) rfl
  · rcases hd with hd | hd
    · have HD := Lib.hid hd
      rw [hd] at y1 X1
      have s0 : X.cell? ⟨w.heap.size + 1, 0, none⟩ = some (.int .u8 33) := s0
      have c0 : w.cell? ⟨gc, o + k * 5, none⟩ = some (.int .u8 33) := c0
      have HX : Hid (X = (w.alloc (.cells #[.slice (some ⟨gc, o, none⟩) ll cp, .int .i64 mm, .int .i64 ss] 24)).alloc (.cells #[.int .u8 33, .int .i64 xa, .int .i64 xb, .int .i64 xc, .int .i64 xd] 45)) := HX
      clear hd LIT
      by_cases hz : na = 0
      · rw [if_pos (by rw [HD.out, HNA.out, hz]; rfl)]
        subst hz
        go_enter Tryd.func33, Tryd.ntmps33
        go_wp2
        rw [← HX.out]
        go_wp2
        go_quiet (fail)
        go_wp2
        go_ret
        exact exec_done (HMX.out.drewN _) (HTX.out.drewN _) rfl
      · rw [if_neg (by rw [HD.out, HNA.out]; simpa using hz)]
        obtain ⟨j, hj⟩ : ∃ j, na - 1 = j := ⟨_, rfl⟩
        rw [HNA.out, hj]
        have ej : (na : Int) - 1 = (j : Int) := by omega
        have j0 : (0 : Int) ≤ (j : Int) := Int.natCast_nonneg _
        have j1 : (j : Int) < (na : Int) := by omega
        have jn : ¬ (j : Int) < 0 := by omega
        have jc : (j : Int) ≤ (cA : Int) := by omega
        obtain ⟨⟨q, tn⟩, ha⟩ : ∃ a, m.calls[j]? = some a := ⟨_, List.getElem?_eq_getElem (by rw [HNA.out]; omega)⟩
        rw [show m.calls.getD j (0, false) = (q, tn) by rw [List.getD_eq_getElem?_getD, ha]; rfl]
        have hqr := inR_iff.1 (HCA.out _ (List.mem_of_getElem? ha))
        dsimp only at hqr
        rw [HLL.out] at hqr
        obtain ⟨r, rfl⟩ := Int.eq_ofNat_of_zero_le hqr.1
        have hr1 : (r : Int) < (ll : Int) := hqr.2
        have hr0 : (0 : Int) ≤ (r : Int) := Int.natCast_nonneg _
        obtain ⟨y, hy⟩ := get_lt HLL.out.symm (show r < ll by omega)
        obtain ⟨d0, d1, d2, d3, d4⟩ := HCE.out r y hy
        rw [show cAt im.code (r : Int) = y from ex2 hy]
        obtain ⟨ga, oa, rfl, hga, -, hqa⟩ := HA3.out (by omega)
        obtain ⟨p0, p1⟩ := hqa j _ ha
        dsimp only at p0 p1
        have a0 := cell_lo HBX.out hga p0
        have a1 := cell_lo HBX.out hga p1
        have e0 := cell_lo HBX.out hgc d0
        have e1 := cell_lo HBX.out hgc d1
        have e2 := cell_lo HBX.out hgc d2
        have e3 := cell_lo HBX.out hgc d3
        have e4 := cell_lo HBX.out hgc d4
        have hga2 := Nat.lt_of_lt_of_le hga HBX.out.size
        rw [show startOf ⟨33, xa, xb, xc, xd⟩ (k : Int) = xa from rfl]
        have HAT : Hid (∀ w', Keep (RO F g V) X w' → ActsIn (RO F g V) w' (.slice (some ⟨ga, oa, none⟩) j cA) (m.calls.take j)) := Lib.hid (fun w' hk' => ((HAI.out.keep (Keep.of_below HBX.out) (fun _ h => h)).keep hk' (fun _ h => h)).trim (by omega))
        obtain ⟨yo, ya, yb, yc, yd⟩ := y
        dsimp only at e0 e1 e2 e3 e4
        have HY := Lib.hid hy
        clear hy hqr ha hqa hz hj d0 d1 d2 d3 d4 p0 p1 hga
        cases tn with
        | false =>
          rw [show opOf false = 30 from rfl]
          by_cases hcmp : (⟨yo, ya, yb, yc, yd⟩ : Ins) = ⟨30, xa, 0, 0, 0⟩
          · rw [if_pos hcmp]
            injection hcmp with h1 h2 h3 h4 h5
            have h2 := h2.symm
            subst h1 h2 h3 h4 h5
            go_enter Tryd.func33, Tryd.ntmps33
            -- L33false eq
            go_wp2
            rw [← HX.out]
            go_wp2
            go_quiet (fail)
            obtain ⟨Y, hY⟩ : ∃ Y, Y = X.drewN nq := ⟨_, rfl⟩
            have hXY : Below X.heap.size X Y := by rw [hY]; exact Below.drewN_self _ _
            obtain ⟨Z, hZ⟩ : ∃ Z, Z = (Y.alloc (.cells #[.int .i64 (r : Int), .bool false] 53)).alloc (.cells #[.int .u8 30, .int .i64 xa, .int .i64 0, .int .i64 0, .int .i64 0] 45) := ⟨_, rfl⟩
            obtain ⟨by1, hby⟩ : ∃ by1, Y.heap.size = by1 := ⟨_, rfl⟩
            have hYZ : Below Y.heap.size Y Z := by rw [hZ]; exact ((Below.refl _ _).alloc (Nat.le_refl _) _).alloc (by simp) _
            have hXZ : Below X.heap.size X Z := hXY.trans (hYZ.mono hXY.size)
            have k0 : Z.cell? ⟨by1, 0, none⟩ = some (.int .i64 (r : Int)) := by rw [hZ, ← hby]; exact cell_lo (below_alloc _ _) (by simp) ((Blk.new Y 53 #[.int .i64 (r : Int), .bool false]).cell 0)
            have k1 : Z.cell? ⟨by1, 1, none⟩ = some (.bool false) := by rw [hZ, ← hby]; exact cell_lo (below_alloc _ _) (by simp) ((Blk.new Y 53 #[.int .i64 (r : Int), .bool false]).cell 1)
            have hz5 : Blk Z (by1 + 1) 45 #[.int .u8 30, .int .i64 xa, .int .i64 0, .int .i64 0, .int .i64 0] := by
              have := Blk.new (Y.alloc (.cells #[.int .i64 (r : Int), .bool false] 53)) 45 #[.int .u8 30, .int .i64 xa, .int .i64 0, .int .i64 0, .int .i64 0]
              rw [hZ, ← hby]
              simpa using this
            have s0 : Z.cell? ⟨by1 + 1, 0, none⟩ = some (.int .u8 30) := hz5.cell 0
            have s1 : Z.cell? ⟨by1 + 1, 1, none⟩ = some (.int .i64 xa) := hz5.cell 1
            have s2 : Z.cell? ⟨by1 + 1, 2, none⟩ = some (.int .i64 0) := hz5.cell 2
            have s3 : Z.cell? ⟨by1 + 1, 3, none⟩ = some (.int .i64 0) := hz5.cell 3
            have s4 : Z.cell? ⟨by1 + 1, 4, none⟩ = some (.int .i64 0) := hz5.cell 4
            have y20' := cell_lo hXY hgl2 X20
            have ya0 := cell_lo hXY hga2 a0
            have ya1 := cell_lo hXY hga2 a1
            have z0 := cell_lo hXZ hgl2 X0
            have z1 := cell_lo hXZ hgl2 X1
            have z20 := cell_lo hXZ hgl2 X20
            have zf0 := (hXZ.frozen (p := ⟨g, 0, none⟩) hgl2).trans F0
            have zf1 := (hXZ.frozen (p := ⟨g, 1, none⟩) hgl2).trans F1
            have zf20 := (hXZ.frozen (p := ⟨g, 20, none⟩) hgl2).trans F20
            have we0 := cell_lo hXZ hgc2 e0
            have ze1 := cell_lo hXZ hgc2 e1
            have ze2 := cell_lo hXZ hgc2 e2
            have ze3 := cell_lo hXZ hgc2 e3
            have ze4 := cell_lo hXZ hgc2 e4
            have zb0 := cell_lo hXZ hbl b0
            have ze0 : Z.cell? ⟨gc, o + r * 5, none⟩ = some (.int .u8 30) := we0
            clear we0
            have HMZ := Lib.hid (HMX.out.below hXZ)
            have HTZ := Lib.hid (HTX.out.below hXZ)
            have HAZ := Lib.hid (HAT.out Z (Keep.of_below hXZ))
            have hgk : g ≠ by1 := by have := hXY.size; omega
            have hgk2 := Ne.symm hgk
            rw [← hY]
            have HZ := Lib.hid hZ
            have HBY := Lib.hid hby
            clear hY hXY hYZ hXZ hz5 F0 F1 F20 X0 X1 X20 y0 y1 y20 c0 c1 c2 c3 c4 e0 e1 e2 e3 e4 a0 a1 b0 hZ
            go_wp2
            rw [← HZ.out]
            go_quiet (fail)
            have z0 := dcell z0 nq
            have z1 := dcell z1 nq
            have z20 := dcell z20 nq
            have zf0 := dfroz zf0 nq
            have zf1 := dfroz zf1 nq
            have zf20 := dfroz zf20 nq
            have k0 := dcell k0 nq
            have k1 := dcell k1 nq
            have HMU := Lib.hid (HMZ.out.drewN nq)
            have HTU := Lib.hid (HTZ.out.drewN nq)
            have HAU : Hid (ActsIn (RO F g V) (Z.drewN nq) (.slice (some ⟨ga, oa, none⟩) j cA) (m.calls.take j)) := Lib.hid (HAZ.out.keep (Keep.of_below (Below.drewN_self _ nq)) (fun _ h => h))
            clear HMZ HTZ HAZ
            generalize Z.drewN nq = U at *
            have HM3 := Lib.hid (HMU.out.setcalls _ _ HAU.out)
            have HT3 := Lib.hid (HTU.out.of_set (.inl HMU.out.own) 20 (.slice (some ⟨ga, oa, none⟩) j cA))
            go_wp2
            go_region_law (go_simp; refine (behind_any (r : Int) (1 : Int) _ (by omega) (by omega)).mono ?_; rintro e w4 ⟨rfl, rfl⟩)
            all_goals go_wp2
            all_goals go_ret
            all_goals rw [show behind (r : Int) (dirOf false m.dir) = behind (r : Int) (1 : Int) from congrArg _ HD.out]
            all_goals exact exec_done ((HM3.out.pc _).drew) ((HT3.out.of_set (.inl HMU.out.own) _ _).drew) rfl
          · rw [if_neg hcmp]
            have hne := Lib.hid (show ¬ ((yo : Int) = 30 ∧ ya = xa ∧ yb = 0 ∧ yc = 0 ∧ yd = 0) from ins_ne hcmp)
            go_enter Tryd.func33, Tryd.ntmps33
            -- L33false neq
            go_wp2
            rw [← HX.out]
            go_wp2
            go_quiet (fail)
            obtain ⟨Y, hY⟩ : ∃ Y, Y = X.drewN nq := ⟨_, rfl⟩
            have hXY : Below X.heap.size X Y := by rw [hY]; exact Below.drewN_self _ _
            obtain ⟨Z, hZ⟩ : ∃ Z, Z = (Y.alloc (.cells #[.int .i64 (r : Int), .bool false] 53)).alloc (.cells #[.int .u8 30, .int .i64 xa, .int .i64 0, .int .i64 0, .int .i64 0] 45) := ⟨_, rfl⟩
            obtain ⟨by1, hby⟩ : ∃ by1, Y.heap.size = by1 := ⟨_, rfl⟩
            have hYZ : Below Y.heap.size Y Z := by rw [hZ]; exact ((Below.refl _ _).alloc (Nat.le_refl _) _).alloc (by simp) _
            have hXZ : Below X.heap.size X Z := hXY.trans (hYZ.mono hXY.size)
            have k0 : Z.cell? ⟨by1, 0, none⟩ = some (.int .i64 (r : Int)) := by rw [hZ, ← hby]; exact cell_lo (below_alloc _ _) (by simp) ((Blk.new Y 53 #[.int .i64 (r : Int), .bool false]).cell 0)
            have k1 : Z.cell? ⟨by1, 1, none⟩ = some (.bool false) := by rw [hZ, ← hby]; exact cell_lo (below_alloc _ _) (by simp) ((Blk.new Y 53 #[.int .i64 (r : Int), .bool false]).cell 1)
            have hz5 : Blk Z (by1 + 1) 45 #[.int .u8 30, .int .i64 xa, .int .i64 0, .int .i64 0, .int .i64 0] := by
              have := Blk.new (Y.alloc (.cells #[.int .i64 (r : Int), .bool false] 53)) 45 #[.int .u8 30, .int .i64 xa, .int .i64 0, .int .i64 0, .int .i64 0]
              rw [hZ, ← hby]
              simpa using this
            have s0 : Z.cell? ⟨by1 + 1, 0, none⟩ = some (.int .u8 30) := hz5.cell 0
            have s1 : Z.cell? ⟨by1 + 1, 1, none⟩ = some (.int .i64 xa) := hz5.cell 1
            have s2 : Z.cell? ⟨by1 + 1, 2, none⟩ = some (.int .i64 0) := hz5.cell 2
            have s3 : Z.cell? ⟨by1 + 1, 3, none⟩ = some (.int .i64 0) := hz5.cell 3
            have s4 : Z.cell? ⟨by1 + 1, 4, none⟩ = some (.int .i64 0) := hz5.cell 4
            have y20' := cell_lo hXY hgl2 X20
            have ya0 := cell_lo hXY hga2 a0
            have ya1 := cell_lo hXY hga2 a1
            have z0 := cell_lo hXZ hgl2 X0
            have z1 := cell_lo hXZ hgl2 X1
            have z20 := cell_lo hXZ hgl2 X20
            have zf0 := (hXZ.frozen (p := ⟨g, 0, none⟩) hgl2).trans F0
            have zf1 := (hXZ.frozen (p := ⟨g, 1, none⟩) hgl2).trans F1
            have zf20 := (hXZ.frozen (p := ⟨g, 20, none⟩) hgl2).trans F20
            have we0 := cell_lo hXZ hgc2 e0
            have ze1 := cell_lo hXZ hgc2 e1
            have ze2 := cell_lo hXZ hgc2 e2
            have ze3 := cell_lo hXZ hgc2 e3
            have ze4 := cell_lo hXZ hgc2 e4
            have zb0 := cell_lo hXZ hbl b0
            have ze0 : Z.cell? ⟨gc, o + r * 5, none⟩ = some (.int .u8 yo) := we0
            clear we0
            have HMZ := Lib.hid (HMX.out.below hXZ)
            have HTZ := Lib.hid (HTX.out.below hXZ)
            have HAZ := Lib.hid (HAT.out Z (Keep.of_below hXZ))
            have hgk : g ≠ by1 := by have := hXY.size; omega
            have hgk2 := Ne.symm hgk
            rw [← hY]
            have HZ := Lib.hid hZ
            have HBY := Lib.hid hby
            clear hY hXY hYZ hXZ hz5 F0 F1 F20 X0 X1 X20 y0 y1 y20 c0 c1 c2 c3 c4 e0 e1 e2 e3 e4 a0 a1 b0 hZ
            go_wp2
            rw [← HZ.out]
            refine wp_region_quiet_lit (by kernel_rfl) (by kernel_rfl) ?_
            iterate 7 (quiet_step (fail))
            refine wpQuiet_step (fun K hK => ?_)
            go_simp
            refine ⟨.bool true, fun _ => ?_, hK _ ?_⟩
            · rw [nest hne.out]
              exact ⟨rfl, rfl⟩
            clear hK K
            refine wpQuiet_nil ?_
            intro _ hw
            obtain ⟨nq, rfl⟩ := hw
            go_wp2
            go_ret
            exact exec_done (HMZ.out.drewN _) (HTZ.out.drewN _) rfl
        | true =>
          rw [show opOf true = 31 from rfl]
          by_cases hcmp : (⟨yo, ya, yb, yc, yd⟩ : Ins) = ⟨31, xa, 0, 0, 0⟩
          · rw [if_pos hcmp]
            injection hcmp with h1 h2 h3 h4 h5
            have h2 := h2.symm
            subst h1 h2 h3 h4 h5
            go_enter Tryd.func33, Tryd.ntmps33
            -- L33true eq
            go_wp2
            rw [← HX.out]
            go_wp2
            go_quiet (fail)
            obtain ⟨Y, hY⟩ : ∃ Y, Y = X.drewN nq := ⟨_, rfl⟩
            have hXY : Below X.heap.size X Y := by rw [hY]; exact Below.drewN_self _ _
            obtain ⟨Z, hZ⟩ : ∃ Z, Z = (Y.alloc (.cells #[.int .i64 (r : Int), .bool true] 53)).alloc (.cells #[.int .u8 31, .int .i64 xa, .int .i64 0, .int .i64 0, .int .i64 0] 45) := ⟨_, rfl⟩
            obtain ⟨by1, hby⟩ : ∃ by1, Y.heap.size = by1 := ⟨_, rfl⟩
            have hYZ : Below Y.heap.size Y Z := by rw [hZ]; exact ((Below.refl _ _).alloc (Nat.le_refl _) _).alloc (by simp) _
            have hXZ : Below X.heap.size X Z := hXY.trans (hYZ.mono hXY.size)
            have k0 : Z.cell? ⟨by1, 0, none⟩ = some (.int .i64 (r : Int)) := by rw [hZ, ← hby]; exact cell_lo (below_alloc _ _) (by simp) ((Blk.new Y 53 #[.int .i64 (r : Int), .bool true]).cell 0)
            have k1 : Z.cell? ⟨by1, 1, none⟩ = some (.bool true) := by rw [hZ, ← hby]; exact cell_lo (below_alloc _ _) (by simp) ((Blk.new Y 53 #[.int .i64 (r : Int), .bool true]).cell 1)
            have hz5 : Blk Z (by1 + 1) 45 #[.int .u8 31, .int .i64 xa, .int .i64 0, .int .i64 0, .int .i64 0] := by
              have := Blk.new (Y.alloc (.cells #[.int .i64 (r : Int), .bool true] 53)) 45 #[.int .u8 31, .int .i64 xa, .int .i64 0, .int .i64 0, .int .i64 0]
              rw [hZ, ← hby]
              simpa using this
            have s0 : Z.cell? ⟨by1 + 1, 0, none⟩ = some (.int .u8 31) := hz5.cell 0
            have s1 : Z.cell? ⟨by1 + 1, 1, none⟩ = some (.int .i64 xa) := hz5.cell 1
            have s2 : Z.cell? ⟨by1 + 1, 2, none⟩ = some (.int .i64 0) := hz5.cell 2
            have s3 : Z.cell? ⟨by1 + 1, 3, none⟩ = some (.int .i64 0) := hz5.cell 3
            have s4 : Z.cell? ⟨by1 + 1, 4, none⟩ = some (.int .i64 0) := hz5.cell 4
            have y20' := cell_lo hXY hgl2 X20
            have ya0 := cell_lo hXY hga2 a0
            have ya1 := cell_lo hXY hga2 a1
            have z0 := cell_lo hXZ hgl2 X0
            have z1 := cell_lo hXZ hgl2 X1
            have z20 := cell_lo hXZ hgl2 X20
            have zf0 := (hXZ.frozen (p := ⟨g, 0, none⟩) hgl2).trans F0
            have zf1 := (hXZ.frozen (p := ⟨g, 1, none⟩) hgl2).trans F1
            have zf20 := (hXZ.frozen (p := ⟨g, 20, none⟩) hgl2).trans F20
            have we0 := cell_lo hXZ hgc2 e0
            have ze1 := cell_lo hXZ hgc2 e1
            have ze2 := cell_lo hXZ hgc2 e2
            have ze3 := cell_lo hXZ hgc2 e3
            have ze4 := cell_lo hXZ hgc2 e4
            have zb0 := cell_lo hXZ hbl b0
            have ze0 : Z.cell? ⟨gc, o + r * 5, none⟩ = some (.int .u8 31) := we0
            clear we0
            have HMZ := Lib.hid (HMX.out.below hXZ)
            have HTZ := Lib.hid (HTX.out.below hXZ)
            have HAZ := Lib.hid (HAT.out Z (Keep.of_below hXZ))
            have hgk : g ≠ by1 := by have := hXY.size; omega
            have hgk2 := Ne.symm hgk
            rw [← hY]
            have HZ := Lib.hid hZ
            have HBY := Lib.hid hby
            clear hY hXY hYZ hXZ hz5 F0 F1 F20 X0 X1 X20 y0 y1 y20 c0 c1 c2 c3 c4 e0 e1 e2 e3 e4 a0 a1 b0 hZ
            go_wp2
            rw [← HZ.out]
            go_quiet (fail)
            have z0 := dcell z0 nq
            have z1 := dcell z1 nq
            have z20 := dcell z20 nq
            have zf0 := dfroz zf0 nq
            have zf1 := dfroz zf1 nq
            have zf20 := dfroz zf20 nq
            have k0 := dcell k0 nq
            have k1 := dcell k1 nq
            have HMU := Lib.hid (HMZ.out.drewN nq)
            have HTU := Lib.hid (HTZ.out.drewN nq)
            have HAU : Hid (ActsIn (RO F g V) (Z.drewN nq) (.slice (some ⟨ga, oa, none⟩) j cA) (m.calls.take j)) := Lib.hid (HAZ.out.keep (Keep.of_below (Below.drewN_self _ nq)) (fun _ h => h))
            clear HMZ HTZ HAZ
            generalize Z.drewN nq = U at *
            have HM3 := Lib.hid (HMU.out.setcalls _ _ HAU.out)
            have HT3 := Lib.hid (HTU.out.of_set (.inl HMU.out.own) 20 (.slice (some ⟨ga, oa, none⟩) j cA))
            go_wp2_with fail
            refine (turn_any _ g _ _ _ HM3.out (by first | exact .inl HD.out | exact .inr HD.out)).mono ?_
            rintro e w3 ⟨rfl, rfl⟩
            rw [show (-({ m with calls := m.calls.take j } : Mach).dir) = (-1 : Int) by have := HD.out; show -m.dir = _; omega]
            go_wp2
            go_region_law (go_simp; refine (behind_any (r : Int) (-1 : Int) _ (by omega) (by omega)).mono ?_; rintro e w4 ⟨rfl, rfl⟩)
            all_goals go_wp2
            all_goals go_ret
            all_goals rw [show dirOf true m.dir = (-1 : Int) from by have := HD.out; show -m.dir = _; omega]
            all_goals exact exec_done (((HM3.out.dir _).pc _).drew) (((HT3.out.of_set (.inl HMU.out.own) _ _).of_set (.inl HMU.out.own) _ _).drew) rfl
          · rw [if_neg hcmp]
            have hne := Lib.hid (show ¬ ((yo : Int) = 31 ∧ ya = xa ∧ yb = 0 ∧ yc = 0 ∧ yd = 0) from ins_ne hcmp)
            go_enter Tryd.func33, Tryd.ntmps33
            -- L33true neq
            go_wp2
            rw [← HX.out]
            go_wp2
            go_quiet (fail)
            obtain ⟨Y, hY⟩ : ∃ Y, Y = X.drewN nq := ⟨_, rfl⟩
            have hXY : Below X.heap.size X Y := by rw [hY]; exact Below.drewN_self _ _
            obtain ⟨Z, hZ⟩ : ∃ Z, Z = (Y.alloc (.cells #[.int .i64 (r : Int), .bool true] 53)).alloc (.cells #[.int .u8 31, .int .i64 xa, .int .i64 0, .int .i64 0, .int .i64 0] 45) := ⟨_, rfl⟩
            obtain ⟨by1, hby⟩ : ∃ by1, Y.heap.size = by1 := ⟨_, rfl⟩
            have hYZ : Below Y.heap.size Y Z := by rw [hZ]; exact ((Below.refl _ _).alloc (Nat.le_refl _) _).alloc (by simp) _
            have hXZ : Below X.heap.size X Z := hXY.trans (hYZ.mono hXY.size)
            have k0 : Z.cell? ⟨by1, 0, none⟩ = some (.int .i64 (r : Int)) := by rw [hZ, ← hby]; exact cell_lo (below_alloc _ _) (by simp) ((Blk.new Y 53 #[.int .i64 (r : Int), .bool true]).cell 0)
            have k1 : Z.cell? ⟨by1, 1, none⟩ = some (.bool true) := by rw [hZ, ← hby]; exact cell_lo (below_alloc _ _) (by simp) ((Blk.new Y 53 #[.int .i64 (r : Int), .bool true]).cell 1)
            have hz5 : Blk Z (by1 + 1) 45 #[.int .u8 31, .int .i64 xa, .int .i64 0, .int .i64 0, .int .i64 0] := by
              have := Blk.new (Y.alloc (.cells #[.int .i64 (r : Int), .bool true] 53)) 45 #[.int .u8 31, .int .i64 xa, .int .i64 0, .int .i64 0, .int .i64 0]
              rw [hZ, ← hby]
              simpa using this
            have s0 : Z.cell? ⟨by1 + 1, 0, none⟩ = some (.int .u8 31) := hz5.cell 0
            have s1 : Z.cell? ⟨by1 + 1, 1, none⟩ = some (.int .i64 xa) := hz5.cell 1
            have s2 : Z.cell? ⟨by1 + 1, 2, none⟩ = some (.int .i64 0) := hz5.cell 2
            have s3 : Z.cell? ⟨by1 + 1, 3, none⟩ = some (.int .i64 0) := hz5.cell 3
            have s4 : Z.cell? ⟨by1 + 1, 4, none⟩ = some (.int .i64 0) := hz5.cell 4
            have y20' := cell_lo hXY hgl2 X20
            have ya0 := cell_lo hXY hga2 a0
            have ya1 := cell_lo hXY hga2 a1
            have z0 := cell_lo hXZ hgl2 X0
            have z1 := cell_lo hXZ hgl2 X1
            have z20 := cell_lo hXZ hgl2 X20
            have zf0 := (hXZ.frozen (p := ⟨g, 0, none⟩) hgl2).trans F0
            have zf1 := (hXZ.frozen (p := ⟨g, 1, none⟩) hgl2).trans F1
            have zf20 := (hXZ.frozen (p := ⟨g, 20, none⟩) hgl2).trans F20
            have we0 := cell_lo hXZ hgc2 e0
            have ze1 := cell_lo hXZ hgc2 e1
            have ze2 := cell_lo hXZ hgc2 e2
            have ze3 := cell_lo hXZ hgc2 e3
            have ze4 := cell_lo hXZ hgc2 e4
            have zb0 := cell_lo hXZ hbl b0
            have ze0 : Z.cell? ⟨gc, o + r * 5, none⟩ = some (.int .u8 yo) := we0
            clear we0
            have HMZ := Lib.hid (HMX.out.below hXZ)
            have HTZ := Lib.hid (HTX.out.below hXZ)
            have HAZ := Lib.hid (HAT.out Z (Keep.of_below hXZ))
            have hgk : g ≠ by1 := by have := hXY.size; omega
            have hgk2 := Ne.symm hgk
            rw [← hY]
            have HZ := Lib.hid hZ
            have HBY := Lib.hid hby
            clear hY hXY hYZ hXZ hz5 F0 F1 F20 X0 X1 X20 y0 y1 y20 c0 c1 c2 c3 c4 e0 e1 e2 e3 e4 a0 a1 b0 hZ
            go_wp2
            rw [← HZ.out]
            refine wp_region_quiet_lit (by kernel_rfl) (by kernel_rfl) ?_
            iterate 7 (quiet_step (fail))
            refine wpQuiet_step (fun K hK => ?_)
            go_simp
            refine ⟨.bool true, fun _ => ?_, hK _ ?_⟩
            · rw [nest hne.out]
              exact ⟨rfl, rfl⟩
            clear hK K
            refine wpQuiet_nil ?_
            intro _ hw
            obtain ⟨nq, rfl⟩ := hw
            go_wp2
            go_ret
            exact exec_done (HMZ.out.drewN _) (HTZ.out.drewN _) rfl
    · have HD := Lib.hid hd
      rw [hd] at y1 X1
      have s0 : X.cell? ⟨w.heap.size + 1, 0, none⟩ = some (.int .u8 33) := s0
      have c0 : w.cell? ⟨gc, o + k * 5, none⟩ = some (.int .u8 33) := c0
      have HX : Hid (X = (w.alloc (.cells #[.slice (some ⟨gc, o, none⟩) ll cp, .int .i64 mm, .int .i64 ss] 24)).alloc (.cells #[.int .u8 33, .int .i64 xa, .int .i64 xb, .int .i64 xc, .int .i64 xd] 45)) := HX
      clear hd LIT
      rw [if_pos (by rw [HD.out]; rfl)]
      go_enter Tryd.func33, Tryd.ntmps33
      go_wp2
      rw [← HX.out]
      go_wp2
      go_quiet (fail)
      go_wp2
      go_ret
      exact exec_done (HMX.out.drewN _) (HTX.out.drewN _) rfl

end Go.Proofs.YtichiccohmeecaaDoor
