/- The walk of lengths, of a box that is valid. -/
import Derived.Test.YtklbaocgjegdfaaEnA3
namespace Go.Proofs.Ytklbaocgjegdfaa
open Go.RowKit Go.Shelf

/-- the lengths that the lists of a box can have -/
def lenD (le : Int) (d : Decl) : Bd := if d.kind = 3 then ⟨0, le⟩ else ⟨fixedZ d, fixedZ d⟩
def lensP (D : List Decl) (le inp : Int) : List Bd := D.map (lenD le) ++ [⟨0, inp⟩]
theorem lensP_len (D : List Decl) (le inp : Int) : (lensP D le inp).length = D.length + 1 := by simp [lensP]
def Small1000 (x : Int) : Prop := 0 ≤ x ∧ x ≤ 1000
def ar3 (v le inp : Int) : Nat → Int
  | 0 => v
  | 1 => le
  | _ => inp
theorem idx3_0 (v le inp : Int) (w : World) : (Instr.index 76 (.agg #[.int .i64 v, .int .i64 le, .int .i64 inp]) (.int .i64 0)).run Try.prog w = .ok (.int .i64 v) w := by kernel_rfl
theorem idx3_1 (v le inp : Int) (w : World) : (Instr.index 76 (.agg #[.int .i64 v, .int .i64 le, .int .i64 inp]) (.int .i64 1)).run Try.prog w = .ok (.int .i64 le) w := by kernel_rfl
theorem idx3_2 (v le inp : Int) (w : World) : (Instr.index 76 (.agg #[.int .i64 v, .int .i64 le, .int .i64 inp]) (.int .i64 2)).run Try.prog w = .ok (.int .i64 inp) w := by kernel_rfl
theorem idx3 (v le inp : Int) (k : Nat) (hk : k < 3) (w : World) : (Instr.index 76 (.agg #[.int .i64 v, .int .i64 le, .int .i64 inp]) (.int .i64 (k : Int))).run Try.prog w = .ok (.int .i64 (ar3 v le inp k)) w := by
  rcases (by omega : k = 0 ∨ k = 1 ∨ k = 2) with rfl | rfl | rfl
  · exact idx3_0 v le inp w
  · exact idx3_1 v le inp w
  · exact idx3_2 v le inp w
theorem ar3_small {v le inp : Int} (hv : Small1000 v) (hl : Small1000 le) (hi : Small1000 inp) (k : Nat) : 0 ≤ ar3 v le inp k ∧ ar3 v le inp k ≤ 1000 := by
  match k with
  | 0 => exact hv
  | 1 => exact hl
  | _ + 2 => exact hi
theorem bdV_snoc (l : List Bd) (b : Bd) : bdV (l ++ [b]) = bdV l ++ [.int .i64 b.lo, .int .i64 b.hi] := by simp [bdV]
theorem asz (w : World) (o : Obj) : (w.alloc o).heap.size = w.heap.size + 1 := by simp
theorem news2 (w : World) (c0 c1 : Value) (t : TypeId) : ∀ j x, [c0, c1][j]? = some x → (w.alloc (.cells #[c0, c1] t)).cell? ((⟨w.heap.size, 0, none⟩ : Addr).add j) = some x := fun j x h => by
  rw [Go.WideShapes.add_plain, Nat.zero_add, World.cell?_alloc_at _ _ _ _ rfl]
  simpa using h
theorem one2 (a b : Int) : ∀ u ∈ [Value.int .i64 a, .int .i64 b], u.oneCell' = true := by
  intro u hu
  simp only [List.mem_cons, List.not_mem_nil, or_false] at hu
  rcases hu with rfl | rfl <;> rfl

/-- the row of bounds that comes -/
def LenOut (B : List Bd) (w : World) (e : Ending) (w' : World) : Prop :=
  ∃ Ll cl, e = .returned (.tuple #[.slice (some ⟨Ll, 0, none⟩) B.length cl, .bool true]) ∧ w.heap.size ≤ Ll ∧ Ll < w'.heap.size ∧ Below w.heap.size w w' ∧
    ∀ i b, B[i]? = some b → w'.cell? ⟨Ll, i * 2, none⟩ = some (.int .i64 b.lo) ∧ w'.cell? ⟨Ll, i * 2 + 1, none⟩ = some (.int .i64 b.hi)
theorem LenOut.of_own {B : List Bd} {w w' : World} {a : Option Addr} {cl : Nat} (hn : 0 < B.length) (h : w'.ownsRow w.heap.size 62 2 (.slice a B.length cl) B.length (bdV B)) (hb : Below w.heap.size w w') :
    LenOut B w (.returned (.tuple #[.slice a B.length cl, .bool true])) w' := by
  rcases h.2 with ⟨h0, h1⟩ | ⟨g, cap, cur, he, hg, hh, h1, h2, h3, h4⟩
  · omega
  · injection he with e1 e2 e3
    subst e1
    refine ⟨g, cl, rfl, hg, (Array.getElem?_eq_some_iff.1 hh).1, hb, fun i b hi => ?_⟩
    obtain ⟨c1, c2⟩ := bdV_get hi
    have hc := World.ownsRow.cells h (g := g) rfl
    have d1 := hc _ _ c1
    have d2 := hc _ _ c2
    rw [Go.WideShapes.add_plain, Nat.zero_add] at d1 d2
    exact ⟨d1, d2⟩

set_option maxRecDepth 100000 in
set_option maxHeartbeats 8000000 in
theorem lengths_any (D : List Decl) (u : Value) (v le inp : Int) (w : World) (h1 : DeclsAt w u D) (hval : validB D = true) (hv : Small1000 v) (hl : Small1000 le) (hi : Small1000 inp) :
    Calls Try.prog 31 #[u, .agg #[.int .i64 v, .int .i64 le, .int .i64 inp]] w (LenOut (lensP D le inp) w) := by
  obtain ⟨⟨ad, cd, rfl, -, -, -⟩, -⟩ := id h1
  obtain ⟨W, hW⟩ : ∃ W, W = w.alloc (.cells #[.int .i64 v, .int .i64 le, .int .i64 inp] 24) := ⟨_, rfl⟩
  have hB0 : Below w.heap.size w W := by rw [hW]; exact below_alloc _ _
  have hBK : Blk W w.heap.size 24 #[.int .i64 v, .int .i64 le, .int .i64 inp] := by rw [hW]; exact Blk.new _ _ _
  have hnil : IntsAt W (.slice none 0 0) [] := ⟨⟨none, 0, rfl, Nat.le_refl _, by unfold maxLen; omega, fun h => absurd h (Nat.lt_irrefl 0)⟩, by simp⟩
  have HNEW := Lib.hid (new_any D [] _ _ W (h1.below hB0 (Nat.le_refl _)) hnil (by simp))
  rw [hval] at HNEW
  simp only [if_true] at HNEW
  have HD := Lib.hid (h1.below hB0 (Nat.le_refl _))
  have hbox := hBK.lt
  have y0 := hBK.cell 0
  have y1 := hBK.cell 1
  have y2 := hBK.cell 2
  simp only [List.getElem?_toArray, List.getElem?_cons_zero, List.getElem?_cons_succ] at y0 y1 y2
  have HW := Lib.hid hW
  have HB0 := Lib.hid hB0
  have HBK := Lib.hid hBK
  have hvb : D.length ≤ 32 ∧ ∀ d ∈ D, validD d = true := by
    unfold validB at hval
    rw [Bool.and_eq_true, decide_eq_true_eq, List.all_eq_true] at hval
    exact hval
  obtain ⟨hn32, hvd⟩ := hvb
  have HVD := Lib.hid hvd
  have HIDX : Hid (∀ k : Nat, k < 3 → ∀ w, (Instr.index 76 (.agg #[.int .i64 v, .int .i64 le, .int .i64 inp]) (.int .i64 (k : Int))).run Try.prog w = .ok (.int .i64 (ar3 v le inp k)) w) := idx3 v le inp
  have HAR : Hid (∀ k : Nat, 0 ≤ ar3 v le inp k ∧ ar3 v le inp k ≤ 1000) := ar3_small hv hl hi
  obtain ⟨j0, hj, hz0, hz1, hz2⟩ := info_parts bdInfo
  generalize hn : D.length = n at *
  have HN := Lib.hid hn.symm
  clear hn h1 hW hB0 hBK hnil hval hvd
  go_enter Try.func31, Try.ntmps31
  go_upto_region 1 with (fail)
  rw [← HW.out]
  go_wp2
  go_loopg [20] 3 (fun q i wr => ∃ k : Nat, k + q = 3 ∧ i = .int .i64 k ∧ wr = W)
  case atStart => exact ⟨0, by omega, rfl, rfl⟩
  case round =>
    obtain ⟨k, hk, rfl, hwr⟩ := hrel
    obtain rfl : W = wr := hwr.symm
    have Hk := Lib.hid hk
    have hkn : k ≤ 3 := by omega
    clear hk hwr
    by_cases hlt : k < 3
    · have hlt' : (k : Int) < 3 := by omega
      have hx := HIDX.out k hlt
      obtain ⟨b1, b2⟩ := HAR.out k
      obtain ⟨x, hxx⟩ : ∃ x, ar3 v le inp k = x := ⟨_, rfl⟩
      rw [hxx] at hx b1 b2
      have u1 : IntKind.i64.wrap ((k : Int) + 1) = (k : Int) + 1 := IntWalk.i64_in _ (by omega)
      have c1 : ¬ x < 0 := by omega
      have c2 : ¬ 1000 < x := by omega
      clear hxx
      go_wp2
      have hk := Hk.out
      go_roundg (3 - (k + 1))
      case measure => omega
      case rel => exact ⟨k + 1, by omega, by go_num, rfl⟩
    · have hge : ¬ (k : Int) < 3 := by omega
      go_wp2_with fail
      refine HNEW.out.mono ?_
      rintro e w1 ⟨r, rfl, hst, hb1⟩
      obtain ⟨c, i, o, vs, rfl, hrows, hI, hO⟩ := hst
      have hlen : (newB D []).cells.length = n := by rw [HN.out]; simp [newB]
      have hcf := hrows.1
      rw [hlen] at hcf
      obtain ⟨ac, cc, rfl⟩ := own_form hcf
      have hI' : w1.ownsRow W.heap.size 3 1 i 0 [] := hI
      have hO' : w1.ownsRow W.heap.size 3 1 o 0 [] := hO
      obtain ⟨ai, ci, rfl⟩ := own_form hI'
      obtain ⟨ao, co, rfl⟩ := own_form hO'
      obtain ⟨W3, hW3⟩ : ∃ W3, W3 = w1.alloc (.cells #[.slice ac n cc, .slice ai 0 ci, .slice ao 0 co] 35) := ⟨_, rfl⟩
      have hb13 : Below w1.heap.size w1 W3 := by rw [hW3]; exact below_alloc _ _
      have hk3 : Blk W3 w1.heap.size 35 #[.slice ac n cc, .slice ai 0 ci, .slice ao 0 co] := by rw [hW3]; exact Blk.new _ _ _
      have hbx3 := (HBK.out.next hb1).next hb13
      have hrw3 := hrows.next hb13
      have hin3 : ∀ l ∈ (newB D []).cells, ∀ y ∈ l, I64 y := (new_in (D := D) (l := []) (by simp)).1
      have HR3 := Lib.hid (hrw3.rows hin3)
      have HB3 := Lib.hid (below_next (below_next HB0.out (Nat.le_refl _) hb1) (Nat.le_refl _) hb13)
      have HD3 := Lib.hid ((HD.out.below hb1 (Nat.le_refl _)).below hb13 (Nat.le_refl _))
      have HK3 := Lib.hid hk3
      have HX3 := Lib.hid hbx3
      have HLEN := Lib.hid hlen
      have HW3 := Lib.hid hW3
      have b0 := hk3.cell 0
      simp only [List.getElem?_toArray, List.getElem?_cons_zero] at b0
      have hs3 := hb13.size
      have hs1 := hb1.size
      have hsx := hk3.lt
      clear hrows hI hO hI' hO' hlen hcf hW3 hb13 hk3 hbx3 hrw3 hin3 hb1 HNEW HIDX HAR HB0 HBK HD y0 y1 y2
      go_wp2
      rw [← HW3.out]
      go_loopg [10, 40] n (fun q r i wr => ∃ k : Nat, k + q = n ∧ i = .int .i64 k ∧ Below W3.heap.size W3 wr ∧ wr.ownsRow W3.heap.size 62 2 r k (bdV ((D.take k).map (lenD le))))
      case atStart => exact ⟨0, by omega, rfl, Below.refl _ _, World.ownsRow_nil _ _ _ _⟩
      case round =>
        clear Hk hkn hlt hge
        obtain ⟨k, hk, rfl, hbw, hown⟩ := hrel
        have Hk := Lib.hid hk
        have hkn : k ≤ n := by omega
        obtain ⟨ar, cr, rfl⟩ := own_form hown
        have HBW := Lib.hid hbw
        have HOWN := Lib.hid hown
        have hszw := hbw.size
        clear hk hbw hown b0
        by_cases hlt : k < n
        · have hlt' : (k : Int) < (n : Int) := by omega
          obtain ⟨g, off, rfl, hg, hq⟩ := HD3.out.1.get (by omega)
          obtain ⟨d, hd⟩ := get_lt HN.out hlt
          obtain ⟨-, q1, -⟩ := hq k d hd
          have m1 := cell_below HBW.out hg q1
          have hr := HR3.out
          unfold RowsAt at hr
          rw [HLEN.out] at hr
          obtain ⟨g2, off2, rfl, hg2, hq2⟩ := hr.get (by omega)
          obtain ⟨u2, hu2, hin2⟩ := hq2 k (zeroRow d) (by simp [newB, hd])
          have m2 := cell_below HBW.out hg2 hu2
          obtain ⟨⟨a2, c2, rfl, -, -, -⟩, -⟩ := hin2
          have b0 := (HK3.out.next HBW.out).cell 0
          have x1 := (HX3.out.next HBW.out).cell 1
          simp only [List.getElem?_toArray, List.getElem?_cons_zero, List.getElem?_cons_succ] at b0 x1
          have hvd := HVD.out d (List.mem_of_getElem? hd)
          have hfb := fixed_bounds hvd
          obtain ⟨m', hm'⟩ := Int.eq_ofNat_of_zero_le hfb.1
          have hm16 : m' ≤ 16 := by omega
          have hz : (zeroRow d).length = m' := by unfold zeroRow; rw [hm']; simp
          rw [hz] at m2
          have HT := Lib.hid (map_take (lenD le) hd)
          have HM' := Lib.hid hm'
          have u1 : IntKind.i64.wrap ((k : Int) + 1) = (k : Int) + 1 := IntWalk.i64_in _ (by omega)
          obtain ⟨nm, kd, ln⟩ := d
          simp only at m1
          clear hq hd q1 hr hq2 hu2 hvd hfb hm' hz HR3
          by_cases h3 : kd = 3
          · subst h3
            go_wp2_with (at_builtin; refine wpList_append_own _ rfl (.tmp 51) (.tmp 55) 57 rfl W3.heap.size 62 j0 (.agg #[.int .i64 0, .int .i64 0]) 2 16 Try.underlying57 hj hz0 hz1 hz2 rfl (by decide) (.slice ar k cr) k _ rfl (HOWN.out.alloc _) ⟨wr.heap.size, 0, none⟩ 1 1 [.int .i64 0, .int .i64 le] rfl rfl (news2 _ _ _ _) (one2 _ _) (by unfold maxLen; omega) (by omega) (by simp only [asz]; omega) ?_; intro v5 w5 hown5 hgr5 _)
            have hb5 : Below W3.heap.size W3 w5 := (HBW.out.alloc hszw _).grown hgr5 (by simp; omega) (fun j hj => (HOWN.out.lt j hj).1)
            have HB5 := Lib.hid hb5
            have HOWN5 := Lib.hid hown5
            clear hb5 hown5 hgr5
            go_wp2
            have hk := Hk.out
            go_roundg (n - (k + 1))
            case measure => omega
            case rel =>
              refine ⟨k + 1, by omega, by go_num, HB5.out, ?_⟩
              rw [HT.out, bdV_snoc]
              exact HOWN5.out
          · have hk3 : ((kd : Int) == 3) = false := by simp; omega
            have hle : lenD le ⟨nm, kd, ln⟩ = ⟨m', m'⟩ := by
              unfold lenD
              rw [if_neg h3, HM'.out]
            have HLE := Lib.hid hle
            clear hle h3
            go_wp2_with (at_builtin; refine wpList_append_own _ rfl (.tmp 57) (.tmp 63) 57 rfl W3.heap.size 62 j0 (.agg #[.int .i64 0, .int .i64 0]) 2 16 Try.underlying57 hj hz0 hz1 hz2 rfl (by decide) (.slice ar k cr) k _ rfl (HOWN.out.alloc _) ⟨wr.heap.size, 0, none⟩ 1 1 [.int .i64 m', .int .i64 m'] rfl rfl (news2 _ _ _ _) (one2 _ _) (by unfold maxLen; omega) (by omega) (by simp only [asz]; omega) ?_; intro v5 w5 hown5 hgr5 _)
            have hb5 : Below W3.heap.size W3 w5 := (HBW.out.alloc hszw _).grown hgr5 (by simp; omega) (fun j hj => (HOWN.out.lt j hj).1)
            have HB5 := Lib.hid hb5
            have HOWN5 := Lib.hid hown5
            clear hb5 hown5 hgr5
            go_wp2
            have hk := Hk.out
            go_roundg (n - (k + 1))
            case measure => omega
            case rel =>
              refine ⟨k + 1, by omega, by go_num, HB5.out, ?_⟩
              rw [HT.out, bdV_snoc, HLE.out]
              exact HOWN5.out
        · have hge : ¬ (k : Int) < (n : Int) := by omega
          have hke : n = k := by omega
          subst hke
          have hown := HOWN.out
          rw [List.take_of_length_le (by rw [← HN.out]; exact Nat.le_refl _)] at hown
          have HO := Lib.hid hown
          have x2 := (HX3.out.next HBW.out).cell 2
          simp only [List.getElem?_toArray, List.getElem?_cons_zero, List.getElem?_cons_succ] at x2
          clear HOWN hown
          go_wp2_with (at_builtin; refine wpList_append_own _ rfl (.tmp 66) (.tmp 70) 57 rfl W3.heap.size 62 j0 (.agg #[.int .i64 0, .int .i64 0]) 2 16 Try.underlying57 hj hz0 hz1 hz2 rfl (by decide) (.slice ar n cr) n _ rfl (HO.out.alloc _) ⟨wr.heap.size, 0, none⟩ 1 1 [.int .i64 0, .int .i64 inp] rfl rfl (news2 _ _ _ _) (one2 _ _) (by unfold maxLen; omega) (by omega) (by simp only [asz]; omega) ?_; intro v5 w5 hown5 hgr5 _)
          have hb5 : Below W3.heap.size W3 w5 := (HBW.out.alloc hszw _).grown hgr5 (by simp; omega) (fun j hj => (HO.out.lt j hj).1)
          obtain ⟨a5, c5, rfl⟩ := own_form hown5
          have hl5 : (lensP D le inp).length = n + 1 := by rw [lensP_len, ← HN.out]
          have e5 : bdV (D.map (lenD le)) ++ [.int .i64 0, .int .i64 inp] = bdV (lensP D le inp) := by unfold lensP; rw [bdV_snoc]
          rw [e5] at hown5
          have hout : LenOut (lensP D le inp) w (.returned (.tuple #[.slice a5 (n + 1) c5, .bool true])) w5 := by
            have := LenOut.of_own (B := lensP D le inp) (w := w) (w' := w5) (a := a5) (cl := c5) (by omega) (by rw [hl5]; exact own_mono hown5 HB3.out.size) (HB3.out.trans (hb5.mono HB3.out.size))
            rwa [hl5] at this
          have HOUT := Lib.hid hout
          clear hl5 e5 hown5 hgr5 hb5 hout
          go_wp2
          go_ret2
          exact HOUT.out
end Go.Proofs.Ytklbaocgjegdfaa
