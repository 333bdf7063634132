/- The walk of 'number' (distribute$2): the walk. -/
import Derived.Test.YtklbaocgjegdfaaEnN
namespace Go.Proofs.Ytklbaocgjegdfaa
open Go.RowKit Go.Shelf

structure Cond (h : Int) (B : List Bd) : Prop where
  h1 : 1 ≤ h
  h2 : h ≤ 2001
  n : B.length ≤ 66
  b : ∀ b ∈ B, 0 ≤ b.lo ∧ b.lo ≤ 1000 ∧ 0 ≤ b.hi ∧ b.hi ≤ 1000
theorem rw_bounds {h : Int} (h1 : 1 ≤ h) (h2 : h ≤ 2001) : ∀ {l : List Bd}, (∀ b ∈ l, 0 ≤ b.lo ∧ b.lo ≤ 1000 ∧ 0 ≤ b.hi ∧ b.hi ≤ 1000) → 0 ≤ (rwP h l).lo ∧ (rwP h l).lo ≤ 1000 * l.length ∧ 0 ≤ (rwP h l).hi ∧ (rwP h l).hi ≤ 2001000 * l.length := by
  intro l
  induction l with
  | nil => intro _; simp [rwP]
  | cons b l ih =>
    intro hb
    obtain ⟨i1, i2, i3, i4⟩ := ih (fun x hx => hb x (by simp [hx]))
    obtain ⟨b1, b2, b3, b4⟩ := hb b (by simp)
    simp only [rwP, List.length_cons]
    have m1 : 0 ≤ b.hi * h := Int.mul_nonneg b3 (by omega)
    have m2 : b.hi * h ≤ 1000 * 2001 := Int.mul_le_mul b4 h2 (by omega) (by omega)
    refine ⟨by omega, by omega, by omega, by omega⟩
theorem Cond.rest {h : Int} {B : List Bd} (hc : Cond h B) (c : Nat) : 0 ≤ (rwP h (B.drop c)).lo ∧ (rwP h (B.drop c)).lo ≤ 66000 ∧ 0 ≤ (rwP h (B.drop c)).hi ∧ (rwP h (B.drop c)).hi ≤ 132066000 := by
  have := rw_bounds hc.h1 hc.h2 (l := B.drop c) (fun b hb => hc.b b (List.mem_of_mem_drop hb))
  have hl : (B.drop c).length ≤ 66 := by rw [List.length_drop]; have := hc.n; omega
  omega
theorem range_split {N k : Nat} (hk : k < N) : ∃ t, List.range N = List.range k ++ k :: t := by
  refine ⟨(List.range N).drop (k + 1), ?_⟩
  have e : (List.range N).take k = List.range k := by rw [List.take_range, Nat.min_eq_left (by omega)]
  have d : (List.range N).drop k = k :: (List.range N).drop (k + 1) := by
    rw [List.drop_eq_getElem_cons (by simpa using hk), List.getElem_range]
  rw [← e, ← d, List.take_append_drop]

theorem leaves_drewN (O : Nat → Prop) (W : World) (n : Nat) : Leaves O W (W.drewN n) := ⟨Nat.le_refl _, fun _ _ => rfl⟩
theorem grows_below {O : Nat → Prop} {A B : World} (h : Below A.heap.size A B) : Grows O O A B := ⟨Touch.of_below h, fun _ hb => .inl hb⟩
theorem leaves_below {O : Nat → Prop} {A B : World} (h : Below A.heap.size A B) (hO : ∀ b, O b → b < A.heap.size) : Leaves O A B := ⟨h.size, fun b hb => h.block b (hO b hb)⟩

section
variable {l : Nat} {h : Int} {B : List Bd} {x : Fix} {J : List St → (Nat → Prop) → World → Prop} {Jx : List St → World → Prop} {L : List St}

theorem Lists.get {O : Nat → Prop} {W : World} {n m : Nat} {vs : Nat → Value} {P : Nat → List Int} (hl : Lists x O W n m vs P) {j : Nat} (hj : j < m) (hn : j < n) :
    ∃ g c, vs j = .slice (some ⟨g, 0, none⟩) (P j).length c ∧ W.cell? ⟨x.Ls, j, none⟩ = some (.slice (some ⟨g, 0, none⟩) (P j).length c) ∧ O g ∧ ¬ x.fx g ∧ g ≠ x.Ls ∧ IntsNew 0 W (.slice (some ⟨g, 0, none⟩) (P j).length c) (P j) := by
  obtain ⟨g, c, e, hi, ho, hf, hne⟩ := hl.row j hj
  refine ⟨g, c, e, ?_, ho, hf, hne, by rw [← e]; exact hi⟩
  rw [hl.blk.cell j, arr_get _ hn, e]

set_option maxRecDepth 100000 in
set_option maxHeartbeats 8000000 in
theorem num_zero (hcond : Cond h B) {c : Nat} (hc : c < B.length) (hlist : ListOK J Jx L l h B x (c + 1)) (i : Nat) (left : Int) (pre tail : List St) (W : World) (O : Nat → Prop) (vs : Nat → Value) (P : Nat → List Int)
    (hi : i = (P c).length) (hp : (P c).length ≤ 1000) (h0 : 0 ≤ left) (h1 : left ≤ 1099511627776) (hinv : Inv l h B x O W (c + 1) vs P) (hL : L = pre ++ numRes h B c i 0 P left ++ tail) (hJ : J pre O W) :
    Calls Try.prog 53 #[.int .i64 c, .int .i64 i, .int .i64 left, .pointer (some ⟨x.bs, 0, none⟩), .pointer (some ⟨x.bi, 0, none⟩), .pointer (some ⟨x.bh, 0, none⟩), .pointer (some ⟨x.br, 0, none⟩), .pointer (some ⟨x.bn, 0, none⟩)] W
      (NumPost J Jx L l h B x c i pre (numRes h B c i 0 P left) vs P) := by
  have hn := hcond.n
  have hcall := hlist left pre tail W O vs P h0 h1 hinv (by rw [← numRes_zero hi]; exact hL) hJ
  have hce : ((c + 1 : Nat) : Int) = (c : Int) + 1 := by omega
  rw [hce, ← numRes_zero hi] at hcall
  have HCALL := Lib.hid hcall
  obtain ⟨g, cp, ev, y1, -, -, -, -⟩ := hinv.lists.get (j := c) (by omega) hc
  have y0 := hinv.fix.s.cell 0
  have yi := hinv.fix.i.cell 0
  simp only [List.getElem?_toArray, List.getElem?_cons_zero, Fix.listF, ptr] at y0 yi
  obtain ⟨len, hlen⟩ : ∃ len, (P c).length = len := ⟨_, rfl⟩
  rw [hlen] at y1 hi hp
  subst hi
  obtain ⟨n, hnn⟩ : ∃ n, B.length = n := ⟨_, rfl⟩
  rw [hnn] at y0 hc hn
  have HI := Lib.hid hinv
  have HLEN := Lib.hid hlen
  have hc' : (c : Int) < (n : Int) := by omega
  have hc0 : (0 : Int) ≤ (c : Int) := Int.natCast_nonneg _
  have hn' : (n : Int) ≤ 66 := by omega
  have f1 : IntKind.i64.wrap ((c : Int) + 1) = (c : Int) + 1 := IntWalk.i64_in _ (by omega)
  have t1 : ((i : Int) == (i : Int)) = true := by simp
  clear hcall hinv hlist hL hJ ev hlen hce hnn hcond
  go_enter Try.func53, Try.ntmps53
  go_wp2_with fail
  refine HCALL.out.mono ?_
  rintro e w1 (⟨rfl, O', vs', P', hJ', hinv', hsame⟩ | ⟨rfl, k, hx⟩)
  · have HJ := Lib.hid hJ'
    have HI' := Lib.hid hinv'
    have HS := Lib.hid hsame
    clear hJ' hinv' hsame
    go_wp2
    go_ret
    refine .inl ⟨rfl, O', vs', P', HJ.out, HI'.out, fun j hj => HS.out j (by omega), (HS.out c (by omega)).1, ?_, ?_⟩
    · rw [(HS.out c (by omega)).2]
    · rw [(HS.out c (by omega)).2]
  · have HX := Lib.hid hx
    clear hx
    go_wp2
    go_ret
    exact .inr ⟨rfl, k, HX.out⟩
set_option maxRecDepth 100000 in
set_option maxHeartbeats 16000000 in
theorem num_succ (hB : Bides J) (hcond : Cond h B) {c : Nat} (hc : c < B.length) (m i : Nat) (left : Int) (pre tail : List St) (W : World) (O : Nat → Prop) (vs : Nat → Value) (P : Nat → List Int)
    (ih : ∀ (i : Nat) (left : Int) (pre tail : List St) (W : World) (O : Nat → Prop) (vs : Nat → Value) (P : Nat → List Int), i + m = (P c).length → (P c).length ≤ 1000 → 0 ≤ left → left ≤ 1099511627776 → Inv l h B x O W (c + 1) vs P → L = pre ++ numRes h B c i m P left ++ tail → J pre O W →
      Calls Try.prog 53 #[.int .i64 c, .int .i64 i, .int .i64 left, .pointer (some ⟨x.bs, 0, none⟩), .pointer (some ⟨x.bi, 0, none⟩), .pointer (some ⟨x.bh, 0, none⟩), .pointer (some ⟨x.br, 0, none⟩), .pointer (some ⟨x.bn, 0, none⟩)] W
        (NumPost J Jx L l h B x c i pre (numRes h B c i m P left) vs P))
    (hi : i + (m + 1) = (P c).length) (hp : (P c).length ≤ 1000) (h0 : 0 ≤ left) (h1 : left ≤ 1099511627776) (hinv : Inv l h B x O W (c + 1) vs P) (hL : L = pre ++ numRes h B c i (m + 1) P left ++ tail) (hJ : J pre O W) :
    Calls Try.prog 53 #[.int .i64 c, .int .i64 i, .int .i64 left, .pointer (some ⟨x.bs, 0, none⟩), .pointer (some ⟨x.bi, 0, none⟩), .pointer (some ⟨x.bh, 0, none⟩), .pointer (some ⟨x.br, 0, none⟩), .pointer (some ⟨x.bn, 0, none⟩)] W
      (NumPost J Jx L l h B x c i pre (numRes h B c i (m + 1) P left) vs P) := by
  have hn := hcond.n
  have hh1 := hcond.h1
  have hh2 := hcond.h2
  obtain ⟨r1, r2, r3, r4⟩ := hcond.rest (c + 1)
  obtain ⟨R, hR⟩ : ∃ R, rwP h (B.drop (c + 1)) = R := ⟨_, rfl⟩
  obtain ⟨least, hleast⟩ : ∃ least, max 0 (left - 1 - m * h - R.hi) = least := ⟨_, rfl⟩
  obtain ⟨most, hmost⟩ : ∃ most, min (h - 1) (left - 1 - m - R.lo) = most := ⟨_, rfl⟩
  obtain ⟨N, hN⟩ : ∃ N, (most - least + 1).toNat = N := ⟨_, rfl⟩
  have hres : numRes h B c i (m + 1) P left = (List.range N).flatMap (numStep h B c i m P left least) := by
    rw [← hN]
    exact numRes_succ (by rw [hR]; exact hleast.symm) (by rw [hR]; exact hmost.symm)
  rw [hres] at hL ⊢
  have hmh0 : 0 ≤ (m : Int) * h := Int.mul_nonneg (Int.natCast_nonneg _) (by omega)
  have hmh1 : (m : Int) * h ≤ 1000 * 2001 := Int.mul_le_mul (by omega) hh2 (by omega) (by omega)
  obtain ⟨y2a, y2b⟩ := hinv.fix.lr (c + 1) (by omega)
  rw [hR] at y2a y2b r1 r2 r3 r4
  have y0 := hinv.fix.s.cell 0
  have yh := hinv.fix.hv.cell 0
  have yr := hinv.fix.r.cell 0
  simp only [List.getElem?_toArray, List.getElem?_cons_zero] at y0 yh yr
  obtain ⟨g, cp, ev, y1, hog, -, -, -⟩ := hinv.lists.get (j := c) (by omega) hc
  obtain ⟨len, hlen⟩ : ∃ len, (P c).length = len := ⟨_, rfl⟩
  rw [hlen] at y1 hi hp
  obtain ⟨n, hnn⟩ : ∃ n, B.length = n := ⟨_, rfl⟩
  rw [hnn] at y0 yr hc hn
  obtain ⟨Rlo, hRlo⟩ : ∃ a, R.lo = a := ⟨_, rfl⟩
  obtain ⟨Rhi, hRhi⟩ : ∃ a, R.hi = a := ⟨_, rfl⟩
  rw [hRlo] at y2a hmost r1 r2
  rw [hRhi] at y2b hleast r3 r4
  have HINV := Lib.hid hinv
  have HLEN := Lib.hid hlen
  have HL := Lib.hid hL
  have HJ := Lib.hid hJ
  have HN := Lib.hid hN
  have HLE := Lib.hid hleast
  have HMO := Lib.hid hmost
  have HNN := Lib.hid hnn
  have HR := Lib.hid hR
  have HRLO := Lib.hid hRlo
  have HRHI := Lib.hid hRhi
  have HIH := Lib.hid ih
  have hc' : (c : Int) < (n : Int) := by omega
  have hc1 : (c : Int) + 1 < (n : Int) + 1 := by omega
  have hc0 : (0 : Int) ≤ (c : Int) := Int.natCast_nonneg _
  have hn' : (n : Int) ≤ 66 := by omega
  have hi0 : (0 : Int) ≤ (i : Int) := Int.natCast_nonneg _
  have hil : (i : Int) < (len : Int) := by omega
  have hm0 : (0 : Int) ≤ (m : Int) := Int.natCast_nonneg _
  have f1 : IntKind.i64.wrap ((c : Int) + 1) = (c : Int) + 1 := IntWalk.i64_in _ (by omega)
  have t1 : ((i : Int) == (len : Int)) = false := by simp; omega
  have f2 : IntKind.i64.wrap ((len : Int) - 1) = (len : Int) - 1 := IntWalk.i64_in _ (by omega)
  have f3 : IntKind.i64.wrap ((len : Int) - 1 - (i : Int)) = (m : Int) := by rw [IntWalk.i64_in _ (by omega)]; omega
  have f4 : IntKind.i64.wrap (left - 1) = left - 1 := IntWalk.i64_in _ (by omega)
  have f5 : IntKind.i64.wrap ((m : Int) * h) = (m : Int) * h := IntWalk.i64_in _ (by omega)
  have f6 : IntKind.i64.wrap (left - 1 - (m : Int) * h) = left - 1 - (m : Int) * h := IntWalk.i64_in _ (by omega)
  have f7 : IntKind.i64.wrap (left - 1 - (m : Int) * h - Rhi) = left - 1 - (m : Int) * h - Rhi := IntWalk.i64_in _ (by omega)
  have f8 : IntKind.i64.wrap (h - 1) = h - 1 := IntWalk.i64_in _ (by omega)
  have f9 : IntKind.i64.wrap (left - 1 - (m : Int)) = left - 1 - (m : Int) := IntWalk.i64_in _ (by omega)
  have f10 : IntKind.i64.wrap (left - 1 - (m : Int) - Rlo) = left - 1 - (m : Int) - Rlo := IntWalk.i64_in _ (by omega)
  have hle0 : 0 ≤ least := by omega
  have hle1 : least ≤ 1099511627776 := by omega
  have hmo1 : most ≤ 2000 := by omega
  have hmo2 : -1000000000 ≤ most := by omega
  clear ih hinv hL hJ hlen hN hleast hmost hnn hR hRlo hRhi ev hcond hres hog
  go_enter Try.func53, Try.ntmps53
  go_wp2
  go_quiet (fail)
  rw [HLE.out]
  obtain ⟨W1, hW1⟩ : ∃ W1, W1 = W.drewN nq := ⟨_, rfl⟩
  have HI1 : Hid (Inv l h B x O W1 (c + 1) vs P) := by rw [hW1]; exact HINV.out.leaves (leaves_drewN _ _ _)
  have HJ1 : Hid (J pre O W1) := by rw [hW1]; exact hB _ _ _ _ _ HJ.out (grows_below (drewN_below (Below.refl _ _) _))
  rw [← hW1]
  clear hW1 y0 y1 yh yr y2a y2b HINV HJ nq
  have y0 := HI1.out.fix.s.cell 0
  have yh := HI1.out.fix.hv.cell 0
  have yr := HI1.out.fix.r.cell 0
  simp only [List.getElem?_toArray, List.getElem?_cons_zero] at y0 yh yr
  rw [HNN.out] at y0 yr
  obtain ⟨y2a, y2b⟩ := HI1.out.fix.lr (c + 1) (by rw [HNN.out]; omega)
  rw [HR.out, HRLO.out] at y2a
  rw [HR.out, HRHI.out] at y2b
  go_wp2
  go_quiet (fail)
  rw [HMO.out]
  obtain ⟨W2, hW2⟩ : ∃ W2, W2 = W1.drewN nq := ⟨_, rfl⟩
  have HI2 : Hid (Inv l h B x O W2 (c + 1) vs P) := by rw [hW2]; exact HI1.out.leaves (leaves_drewN _ _ _)
  have HJ2 : Hid (J pre O W2) := by rw [hW2]; exact hB _ _ _ _ _ HJ1.out (grows_below (drewN_below (Below.refl _ _) _))
  rw [← hW2]
  clear hW2 y0 yh yr y2a y2b HI1 HJ1 nq f2 f3 f4 f5 f6 f7 f8 f9 f10
  have g1 : IntKind.i64.wrap (most - least) = most - least := IntWalk.i64_in _ (by omega)
  have g2 : IntKind.i64.wrap (most - least + 1) = most - least + 1 := IntWalk.i64_in _ (by omega)
  go_wp2
  go_loopg [68] N (fun q i' wr => ∃ (k : Nat) (O' : Nat → Prop) (vs' : Nat → Value) (P' : Nat → List Int), k + q = N ∧ i' = .int .i64 k ∧ J (pre ++ (List.range k).flatMap (numStep h B c i m P left least)) O' wr ∧ Inv l h B x O' wr (c + 1) vs' P' ∧
    (∀ j, j < c → vs' j = vs j ∧ P' j = P j) ∧ vs' c = vs c ∧ (P' c).length = (P c).length ∧ (P' c).take i = (P c).take i)
  case atStart => exact ⟨0, O, vs, P, by omega, rfl, by simpa using HJ2.out, HI2.out, fun _ _ => ⟨rfl, rfl⟩, rfl, rfl, rfl⟩
  case round =>
    clear HI2 HJ2
    obtain ⟨k, O', vs', P', hk, rfl, hJk, hIk, hsame, hvc, hlc, htc⟩ := hrel
    have Hk := Lib.hid hk
    have HJK := Lib.hid hJk
    have HIK := Lib.hid hIk
    have HSA := Lib.hid hsame
    have HVC := Lib.hid hvc
    have HLC := Lib.hid hlc
    have HTC := Lib.hid htc
    have hkN : k ≤ N := by omega
    have hk0 : (0 : Int) ≤ (k : Int) := Int.natCast_nonneg _
    clear hk hJk hIk hsame hvc hlc htc
    by_cases hlt : k < N
    · have hNi := HN.out
      have hlt' : (k : Int) < most - least + 1 := by omega
      have hlen' : (P' c).length = len := HLC.out.trans HLEN.out
      have y0 := HIK.out.fix.s.cell 0
      have yn := HIK.out.fix.n.cell 0
      simp only [List.getElem?_toArray, List.getElem?_cons_zero, Fix.numF, ptr] at y0 yn
      rw [HNN.out] at y0
      obtain ⟨g', cp', ev', y1, hog, hfg, hgl, hint⟩ := HIK.out.lists.get (j := c) (by omega) (by rw [HNN.out]; exact hc)
      rw [hlen'] at y1 hint ev'
      have hil' : i < len := by omega
      have y3 := ints_get hint hlen' (e := i) (by rw [hlen']; exact hil')
      have hint2 : wr.ownsRow 0 3 1 (.slice (some ⟨g', 0, none⟩) len cp') len (intsV (P' c)) := by
        have := hint
        unfold IntsNew at this
        rwa [hlen'] at this
      have z3 := hint2.frozenAt i
      obtain ⟨v, hv⟩ : ∃ v, unrankP (least + k) = v := ⟨_, rfl⟩
      have hlk : least + k ≤ most := by omega
      have hvi : I64 v := by
        rw [← hv]
        unfold unrankP I64
        have e1 : (least + (k : Int)).tdiv 2 = (least + k) / 2 := Int.tdiv_eq_ediv_of_nonneg (by omega)
        rw [e1]
        split
        · omega
        · split <;> omega
      have s1 : IntKind.i64.wrap (least + (k : Int)) = least + k := IntWalk.i64_in _ (by omega)
      have HUN : Hid (∀ w', Calls Try.prog 17 #[.int .i64 (least + k)] w' fun e w'' => e = .returned (.int .i64 v) ∧ w'' = w') := by
        intro w'
        rw [← hv]
        exact unrank_any _ (by omega) (by omega) w'
      obtain ⟨W3, hW3⟩ : ∃ W3, W3 = (wr.setCell ⟨g', i, none⟩ (.int .i64 v)).drew := ⟨_, rfl⟩
      have hset := HIK.out.set (j := c) (by omega) (by rw [hlen']; exact ev') i hvi
      have HI3 : Hid (Inv l h B x O' W3 (c + 1) vs' (fun t => if t = c then (P' c).set i v else P' t)) := by
        rw [hW3]
        exact hset.leaves (leaves_drewN _ _ 1)
      have HJ3 : Hid (J (pre ++ (List.range k).flatMap (numStep h B c i m P left least)) O' W3) := by
        refine hB _ _ _ _ _ HJK.out ⟨?_, fun b hb => .inl hb⟩
        rw [hW3]
        have := (Touch.of_set wr g' i (.int .i64 v)).mono (T := O') (fun j hj => by rw [hj]; exact hog)
        exact ⟨this.os, this.tape, this.output, this.size, this.block⟩
      have hs1 : (wr.setCell ⟨g', i, none⟩ (.int .i64 v)).drew.cell? ⟨x.bs, 0, none⟩ = some (.slice (some ⟨x.Ls, 0, none⟩) n n) := by
        have := HI3.out.fix.s.cell 0
        rw [hW3, HNN.out] at this
        simpa using this
      have hs2 : (wr.setCell ⟨g', i, none⟩ (.int .i64 v)).drew.cell? ⟨x.Ls, c, none⟩ = some (.slice (some ⟨g', 0, none⟩) len cp') := by
        have := HI3.out.lists.blk.cell c
        rw [hW3, HNN.out, arr_get _ hc, ev'] at this
        exact this
      have hs3 : (wr.setCell ⟨g', i, none⟩ (.int .i64 v)).drew.frozen? ⟨g', i, none⟩ = false := by
        show (wr.setCell ⟨g', i, none⟩ (.int .i64 v)).frozen? ⟨g', i, none⟩ = false
        rw [World.frozen?_setCell]
        exact z3
      have y0d : wr.drew.cell? ⟨x.bs, 0, none⟩ = some (.slice (some ⟨x.Ls, 0, none⟩) n n) := y0
      have y1d : wr.drew.cell? ⟨x.Ls, c, none⟩ = some (.slice (some ⟨g', 0, none⟩) len cp') := y1
      have y3d : wr.drew.cell? ⟨g', i, none⟩ = some (.int .i64 ((P' c).getD i 0)) := y3
      have z3d : wr.drew.frozen? ⟨g', i, none⟩ = false := z3
      have HVV := Lib.hid hv
      have HW3 := Lib.hid hW3
      clear hset hv hint hint2 ev' hog hfg hgl yn hW3
      go_wp2_with fail
      go_region_held3 (fun w' => w'.cell? ⟨x.bs, 0, none⟩ = some (.slice (some ⟨x.Ls, 0, none⟩) n n) ∧ w'.cell? ⟨x.Ls, c, none⟩ = some (.slice (some ⟨g', 0, none⟩) len cp') ∧ w'.frozen? ⟨g', i, none⟩ = false)
        (first | exact ⟨y0, y1, z3⟩ | exact ⟨y0d, y1d, z3d⟩ | exact ⟨hs1, hs2, hs3⟩ | go_keep)
        (first
          | (go_at_call 17; refine (HUN.out _).mono ?_; rintro e w' ⟨rfl, rfl⟩))
      rw [← HW3.out]
      clear HW3 y0 y1 y0d y1d y3 y3d z3 z3d hs1 hs2 hs3
      have yn := HI3.out.fix.n.cell 0
      simp only [List.getElem?_toArray, List.getElem?_cons_zero, Fix.numF, ptr] at yn
      have hRl := HMO.out
      have u1 : IntKind.i64.wrap ((i : Int) + 1) = (i : Int) + 1 := IntWalk.i64_in _ (by omega)
      have u2 : IntKind.i64.wrap (left - 1) = left - 1 := IntWalk.i64_in _ (by omega)
      have u3 : IntKind.i64.wrap (left - 1 - least) = left - 1 - least := IntWalk.i64_in _ (by omega)
      have u4 : IntKind.i64.wrap (left - 1 - least - (k : Int)) = left - 1 - least - k := IntWalk.i64_in _ (by omega)
      have hset2 : numRes h B c (i + 1) m (fun t => if t = c then (P' c).set i v else P' t) (left - 1 - least - k) = numStep h B c i m P left least k :=
        numStep_set (fun j hj => (HSA.out j hj).2) HTC.out (by rw [hlen']; exact hil') (by rw [HVV.out])
      have hcall := HIH.out (i + 1) (left - 1 - least - k) (pre ++ (List.range k).flatMap (numStep h B c i m P left least)) (((List.range N).drop (k + 1)).flatMap (numStep h B c i m P left least) ++ tail) W3 O' vs' (fun t => if t = c then (P' c).set i v else P' t)
        (by simp only [if_pos]; rw [List.length_set, hlen']; omega) (by simp only [if_pos]; rw [List.length_set, hlen']; exact hp) (by omega) (by omega) HI3.out (by
          rw [hset2, HL.out]
          obtain ⟨tl, htl⟩ := range_split hlt
          have e1 : (List.range N).drop (k + 1) = tl := by
            rw [htl, List.drop_append]
            simp
          rw [e1, htl, List.flatMap_append, List.flatMap_cons]
          simp only [List.append_assoc]) HJ3.out
      rw [hset2] at hcall
      have hce : ((i + 1 : Nat) : Int) = (i : Int) + 1 := by omega
      rw [hce] at hcall
      have HCALL := Lib.hid hcall
      clear hcall hset2 hce hRl
      go_wp2_with fail
      refine HCALL.out.mono ?_
      rintro e w4 (⟨rfl, O4, vs4, P4, hJ4, hI4, hs4, hv4, hl4, ht4⟩ | ⟨rfl, kx, hx⟩)
      · have HJ4 := Lib.hid hJ4
        have HI4 := Lib.hid hI4
        have HS4 := Lib.hid hs4
        have HV4 := Lib.hid hv4
        have HL4 := Lib.hid hl4
        have HT4 := Lib.hid ht4
        have u5 : IntKind.i64.wrap ((k : Int) + 1) = (k : Int) + 1 := IntWalk.i64_in _ (by omega)
        clear hJ4 hI4 hs4 hv4 hl4 ht4 hNi
        go_wp2
        have hk := Hk.out
        go_roundg (N - (k + 1))
        case measure => omega
        case rel =>
          refine ⟨k + 1, O4, vs4, P4, by omega, by go_num, ?_, HI4.out, fun j hj => ?_, HV4.out.trans HVC.out, ?_, ?_⟩
          · have := HJ4.out
            rw [List.append_assoc] at this
            rw [List.range_succ, List.flatMap_append, List.flatMap_cons, List.flatMap_nil, List.append_nil]
            exact this
          · have h1 := HS4.out j hj
            have h2 := HSA.out j hj
            rw [if_neg (by omega)] at h1
            exact ⟨h1.1.trans h2.1, h1.2.trans h2.2⟩
          · have h1 := HL4.out
            simp only [if_pos] at h1
            rw [h1, List.length_set]
            exact HLC.out
          · have h1 := HT4.out
            simp only [if_pos] at h1
            have h2 := congrArg (List.take i) h1
            rw [List.take_take, List.take_take, Nat.min_eq_left (by omega), List.take_set_of_le (Nat.le_refl _)] at h2
            rw [h2]
            exact HTC.out
      · have HXX := Lib.hid hx
        clear hx
        go_wp2
        go_ret
        exact .inr ⟨rfl, kx, HXX.out⟩
    · have hkN2 : k = N := by omega
      subst hkN2
      have hge : ¬ (k : Int) < most - least + 1 := by have := HN.out; omega
      go_wp2
      go_ret
      exact .inl ⟨rfl, O', vs', P', HJK.out, HIK.out, HSA.out, HVC.out, HLC.out, HTC.out⟩

theorem num_in (hB : Bides J) (hcond : Cond h B) {c : Nat} (hc : c < B.length) (hlist : ListOK J Jx L l h B x (c + 1)) : ∀ (m i : Nat) (left : Int) (pre tail : List St) (W : World) (O : Nat → Prop) (vs : Nat → Value) (P : Nat → List Int),
    i + m = (P c).length → (P c).length ≤ 1000 → 0 ≤ left → left ≤ 1099511627776 → Inv l h B x O W (c + 1) vs P → L = pre ++ numRes h B c i m P left ++ tail → J pre O W →
      Calls Try.prog 53 #[.int .i64 c, .int .i64 i, .int .i64 left, .pointer (some ⟨x.bs, 0, none⟩), .pointer (some ⟨x.bi, 0, none⟩), .pointer (some ⟨x.bh, 0, none⟩), .pointer (some ⟨x.br, 0, none⟩), .pointer (some ⟨x.bn, 0, none⟩)] W
        (NumPost J Jx L l h B x c i pre (numRes h B c i m P left) vs P) := by
  intro m
  induction m with
  | zero => intro i left pre tail W O vs P hi; exact num_zero hcond hc hlist i left pre tail W O vs P (by omega)
  | succ m ih => intro i left pre tail W O vs P hi; exact num_succ hB hcond hc m i left pre tail W O vs P ih hi
end
end Go.Proofs.Ytklbaocgjegdfaa
