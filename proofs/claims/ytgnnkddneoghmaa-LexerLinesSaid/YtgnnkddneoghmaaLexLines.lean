/- The walk of the law LexerLines. -/
import Derived.Test.YtgnnkddneoghmaaLexS1
import Derived.Test.YtgnnkddneoghmaaLexLossless
import Derived.Deep.RegionHeld3
namespace Go.Proofs.Ytgnnkddneoghmaa
open Go.RowKit

def shiftT (d : Nat) (T : List Tok) : List Tok := T.map (shift d)
theorem solid_shift (d : Nat) (T : List Tok) : (T.map (shift d)).filter solidB = (T.filter solidB).map (shift d) := by
  rw [List.filter_map]
  rfl

theorem lex_count : ∀ (l : List UInt8) (pos : Nat), (lexP l pos).1.length ≤ l.length := by
  refine lex_ind (P := fun l pos => (lexP l pos).1.length ≤ l.length) (fun pos => ?_) (fun l pos h hs => ?_) (fun l pos h hs ih => ?_)
  · simp [lexP_nil]
  · simp [lexP_err h hs]
  · rw [lexP_cons h hs, List.length_cons]
    rw [List.length_drop] at ih
    have := step_le l
    omega

theorem out_lines {a b : List UInt8} {X Y Z : List Tok} {p q m e f g : Nat} (ha : a.length ≤ 200) (hb : b.length ≤ 200)
    (h1 : outT a = (X, p, e)) (h2 : outT b = (Y, q, f)) (h3 : outT (a ++ 10 :: b) = (Z, m, g)) :
    (e ≠ 0 ∧ g = e ∧ m = p ∧ Z = []) ∨ (e = 0 ∧ f ≠ 0 ∧ g = f ∧ m = a.length + 1 + q ∧ Z = [] ∧ q ≤ 200) ∨
    (e = 0 ∧ f = 0 ∧ g = 0 ∧ X.length ≤ 65536 ∧ Y.length ≤ 65536 ∧ Z.length ≤ 65536 ∧ solidT Z = solidT X ++ shiftT (a.length + 1) (solidT Y) ∧ (∀ t ∈ solidT Y, t.pos ≤ 200)) := by
  obtain ⟨l1, l2⟩ := lex_lines b a 0
  have c1 := lex_count a 0
  have c2 := lex_count b 0
  have c3 := lex_count (a ++ 10 :: b) 0
  rw [List.length_append, List.length_cons] at c3
  have e2 := lexP_shift (a.length + 1) b 0
  unfold outT at h1 h2 h3
  rw [if_neg (by omega)] at h1 h2
  rw [if_neg (by rw [List.length_append, List.length_cons]; omega)] at h3
  cases ea : (lexP a 0).2 with
  | some x =>
    rw [ea] at h1
    rw [l2 x ea] at h3
    simp only [Prod.mk.injEq] at h1 h3
    obtain ⟨rfl, rfl, rfl⟩ := h1
    obtain ⟨rfl, rfl, rfl⟩ := h3
    exact Or.inl ⟨by decide, rfl, rfl, rfl⟩
  | none =>
    rw [ea] at h1
    simp only [Prod.mk.injEq] at h1
    obtain ⟨rfl, rfl, rfl⟩ := h1
    have l3 := l1 ea
    rw [show 0 + a.length + 1 = 0 + (a.length + 1) from by omega] at l3
    unfold lexS at l3
    rw [e2] at l3
    have l4 := congrArg Prod.fst l3
    have l5 := congrArg Prod.snd l3
    simp only at l4 l5
    cases eb : (lexP b 0).2 with
    | some y =>
      rw [eb] at h2 l5
      rw [l5] at h3
      simp only [Prod.mk.injEq, Option.map_some] at h2 h3
      obtain ⟨rfl, rfl, rfl⟩ := h2
      obtain ⟨rfl, rfl, rfl⟩ := h3
      obtain ⟨y', k1, k2, _⟩ := lex_err b 0 _ eb
      exact Or.inr (Or.inl ⟨rfl, by decide, rfl, by omega, rfl, by omega⟩)
    | none =>
      rw [eb] at h2 l5
      rw [l5] at h3
      simp only [Prod.mk.injEq, Option.map_none] at h2 h3
      obtain ⟨rfl, rfl, rfl⟩ := h2
      obtain ⟨rfl, rfl, rfl⟩ := h3
      refine Or.inr (Or.inr ⟨rfl, rfl, rfl, by omega, by omega, by omega, ?_, ?_⟩)
      · rw [solid_shift] at l4
        exact l4
      · intro t ht
        obtain ⟨n, hn⟩ := List.getElem?_of_mem ((List.mem_filter.1 ht).1)
        obtain ⟨r, r1, r2, _⟩ := lex_at b 0 eb n t hn
        omega

theorem drewN_below {w w' : World} {B : Nat} (h : Below B w w') (n : Nat) : Below B w (w'.drewN n) := ⟨h.os, h.tape, h.output, h.size, h.block⟩
theorem shift_pos (d k p : Nat) (t : List UInt8) : ((shift d ⟨k, t, p⟩).pos : Nat) = (p : Int) + ((d : Nat) : Int) := by simp [shift]
theorem shift_kind (d : Nat) (t : Tok) : (shift d t).kind = t.kind := rfl
theorem shift_text (d : Nat) (t : Tok) : (shift d t).text = t.text := rfl
theorem alloc_old {w : World} {g j : Nat} {u : Value} (h : w.cell? ⟨g, j, none⟩ = some u) (o : Obj) : (w.alloc o).cell? ⟨g, j, none⟩ = some u :=
  below_old ((Below.refl w.heap.size w).alloc (Nat.le_refl _) o) (World.block_lt_of_cell? w _ h) h
theorem RowAt.form {w : World} {v : Value} {n : Nat} {xs : List Value} (h : RowAt w v n xs) :
    ∃ a c, v = .slice a n c ∧ (0 < n → ∃ g, a = some ⟨g, 0, none⟩ ∧ g < w.heap.size ∧ ∀ j u, xs[j]? = some u → w.cell? ⟨g, j, none⟩ = some u) := by
  rcases h with ⟨rfl, a, c, rfl⟩ | ⟨h0, g, cap, rfl, hg, _, _, hc⟩
  · exact ⟨a, c, rfl, fun h => absurd h (by decide)⟩
  · exact ⟨_, cap, rfl, fun _ => ⟨g, rfl, hg, hc⟩⟩

set_option maxRecDepth 100000 in
set_option maxHeartbeats 2000000 in
theorem lines_any (s : ByteArray) (hs : s.size ≤ maxLen) (r : ByteArray) (hr : r.size ≤ maxLen) (w : World) :
    Calls Try.prog 7 #[.string s, .string r] w fun e w' => e = .returned (.bool true) ∧ Below w.heap.size w w' := by
  have HS := Lib.hid hs
  have HR := Lib.hid hr
  unfold maxLen at hs hr
  by_cases hbig : 200 < s.size
  · have hb' : (200 : Int) < (s.size : Int) := by omega
    clear hbig
    go_enter Try.func7, Try.ntmps7
    go_wp2_with (go_at_call 12; refine (awake_any _).mono ?_; rintro e w1 ⟨rfl, hb1⟩)
    go_ret
    exact ⟨rfl, hb1⟩
  have hs2 : (s.size : Int) ≤ 200 := by omega
  by_cases hbig2 : 200 < r.size
  · have hb' : (200 : Int) < (r.size : Int) := by omega
    clear hbig hbig2
    go_enter Try.func7, Try.ntmps7
    go_wp2_with (go_at_call 12; refine (awake_any _).mono ?_; rintro e w1 ⟨rfl, hb1⟩)
    go_ret
    exact ⟨rfl, hb1⟩
  have hr2 : (r.size : Int) ≤ 200 := by omega
  clear hbig hbig2
  have hz1 : s.data.toList.length = s.size := by simp
  have hz2 : r.data.toList.length = r.size := by simp
  have HA1 : Hid (s.data.toList.length ≤ 200) := by unfold Hid; omega
  have HA2 : Hid (r.data.toList.length ≤ 200) := by unfold Hid; omega
  have HZ1 := Lib.hid hz1
  clear hz1 hz2
  generalize h1 : outT s.data.toList = o1
  generalize h2 : outT r.data.toList = o2
  generalize h3 : outT (s.data.toList ++ 10 :: r.data.toList) = o3
  obtain ⟨X, p, e1⟩ := o1
  obtain ⟨Y, q, e2⟩ := o2
  obtain ⟨Z, m, e3⟩ := o3
  have H1 := Lib.hid h1
  have H2 := Lib.hid h2
  have H3 := Lib.hid h3
  have HL := Lib.hid (out_lines HA1.out HA2.out h1 h2 h3)
  clear h1 h2 h3
  go_enter Try.func7, Try.ntmps7
  go_wp2_with (go_at_call 12; refine (awake_any _).mono ?_; rintro e w0 ⟨rfl, hb0⟩; have Hb0 := Lib.hid hb0; clear hb0)
  refine (lex_any s HS.out _).mono ?_
  rw [H1.out]
  rintro e w1 ⟨v1, rfl, hown1, hb1⟩
  have Hb1 := Lib.hid (Hb0.out.trans (hb1.mono Hb0.out.size))
  have R1 := Lib.hid (RowAt.of_own hown1)
  clear hown1 hb1
  go_wp2_with fail
  refine (lex_any r HR.out _).mono ?_
  rw [H2.out]
  rintro e w2 ⟨v2, rfl, hown2, hb2⟩
  have Hb2 := Lib.hid (Hb1.out.trans (hb2.mono Hb1.out.size))
  have R1' := Lib.hid (R1.out.below hb2 (Nat.le_refl _))
  have R2 := Lib.hid (RowAt.of_own hown2)
  clear hown2 hb2 R1
  go_wp2_with fail
  have hcat : ∀ x : ByteArray, x = s ++ ⟨#[10]⟩ ++ r → x.size ≤ maxLen ∧ x.data.toList = s.data.toList ++ 10 :: r.data.toList := by
    rintro x rfl
    refine ⟨?_, by simp⟩
    rw [ByteArray.size_append, ByteArray.size_append]
    have : (⟨#[10]⟩ : ByteArray).size = 1 := rfl
    unfold maxLen
    omega
  generalize hx : s ++ ⟨#[10]⟩ ++ r = x
  have hcat2 := hcat x hx.symm
  clear hcat hx
  refine (lex_any _ hcat2.1 _).mono ?_
  rw [hcat2.2, H3.out]
  rintro e w3 ⟨v3, rfl, hown3, hb3⟩
  have Hb3 := Lib.hid (Hb2.out.trans (hb3.mono Hb2.out.size))
  have Q1 := Lib.hid (R1'.out.below hb3 (Nat.le_refl _))
  have Q2 := Lib.hid (R2.out.below hb3 (Nat.le_refl _))
  have Q3 := Lib.hid (RowAt.of_own hown3)
  clear hown3 hb3 R1' R2
  rcases HL.out with ⟨n1, rfl, rfl, rfl⟩ | ⟨rfl, n2, rfl, n3, rfl, hq⟩ | ⟨rfl, rfl, rfl, b1, b2, b3, hsol, hpos⟩
  · have t1 : ((e3 : Int) != 0) = true := by simp; omega
    obtain ⟨a3, c3, rfl, _⟩ := Q3.out.form
    clear HL n1
    go_wp2
    go_ret
    exact ⟨rfl, Hb3.out⟩
  · have t1 : ((e3 : Int) != 0) = true := by simp; omega
    obtain ⟨a3, c3, rfl, _⟩ := Q3.out.form
    have t2 : (m : Int) = (s.size : Int) + 1 + (q : Int) := by rw [HZ1.out] at n3; omega
    have f1 : IntKind.i64.wrap ((s.size : Int) + 1) = (s.size : Int) + 1 := IntWalk.i64_in _ (by omega)
    have f2 : IntKind.i64.wrap ((s.size : Int) + 1 + (q : Int)) = (s.size : Int) + 1 + (q : Int) := IntWalk.i64_in _ (by omega)
    clear HL n2 n3 hq
    go_wp2
    go_ret
    exact ⟨rfl, Hb3.out⟩
  · rw [HZ1.out] at hsol
    have HSOL := Lib.hid hsol
    have HPOS := Lib.hid hpos
    have B1 := Lib.hid b1
    have B2 := Lib.hid b2
    have B3 := Lib.hid b3
    clear hsol hpos b1 b2 b3 HL HA1 HA2 HZ1
    go_wp2_with fail
    refine (solid_any X v1 _ Q1.out (by have := B1.out; omega)).mono ?_
    rintro e w4 ⟨u4, rfl, hown4, hb4⟩
    have Hb4 := Lib.hid (Hb3.out.trans (hb4.mono Hb3.out.size))
    have Q2' := Lib.hid (Q2.out.below hb4 (Nat.le_refl _))
    have Q3' := Lib.hid (Q3.out.below hb4 (Nat.le_refl _))
    have S1 := Lib.hid (RowAt.of_own hown4)
    clear hown4 hb4 Q1 Q2 Q3
    go_wp2_with fail
    refine (solid_any Y v2 _ Q2'.out (by have := B2.out; omega)).mono ?_
    rintro e w5 ⟨u5, rfl, hown5, hb5⟩
    have Hb5 := Lib.hid (Hb4.out.trans (hb5.mono Hb4.out.size))
    have Q3 := Lib.hid (Q3'.out.below hb5 (Nat.le_refl _))
    have S1' := Lib.hid (S1.out.below hb5 (Nat.le_refl _))
    have S2 := Lib.hid (RowAt.of_own hown5)
    clear hown5 hb5 Q2' Q3' S1
    go_wp2_with fail
    refine (solid_any Z v3 _ Q3.out (by have := B3.out; omega)).mono ?_
    rintro e w6 ⟨u6, rfl, hown6, hb6⟩
    have Hb6 := Lib.hid (Hb5.out.trans (hb6.mono Hb5.out.size))
    have S1 := S1'.out.below hb6 (Nat.le_refl _)
    have S2' := S2.out.below hb6 (Nat.le_refl _)
    have S3 := RowAt.of_own hown6
    clear hown6 hb6 Q3 S1' S2
    obtain ⟨nx, hnx⟩ : ∃ nx, nx = (solidT X).length := ⟨_, rfl⟩
    obtain ⟨ny, hny⟩ : ∃ ny, ny = (solidT Y).length := ⟨_, rfl⟩
    have hnz : (solidT Z).length = nx + ny := by rw [HSOL.out, List.length_append, shiftT, List.length_map, hnx, hny]
    rw [← hnx] at S1
    rw [← hny] at S2'
    rw [hnz, HSOL.out] at S3
    obtain ⟨a1, c1, rfl, r1⟩ := S1.form
    obtain ⟨a2, c2, rfl, r2⟩ := S2'.form
    obtain ⟨a3, c3, rfl, r3⟩ := S3.form
    have hx1 : nx ≤ 65536 := by rw [hnx]; exact Nat.le_trans (List.length_filter_le _ _) B1.out
    have hy1 : ny ≤ 65536 := by rw [hny]; exact Nat.le_trans (List.length_filter_le _ _) B2.out
    have HNX := Lib.hid hnx
    have HNY := Lib.hid hny
    have G1 := Lib.hid r1
    have G2 := Lib.hid r2
    have G3 := Lib.hid r3
    clear hnx hny hnz S1 S2' S3 r1 r2 r3 HSOL
    have f1 : IntKind.i64.wrap ((nx : Int) + (ny : Int)) = (nx : Int) + (ny : Int) := IntWalk.i64_in _ (by omega)
    generalize solidT X = U at *
    generalize solidT Y = V at *
    go_wp2
    go_loopg [17] (nx + ny) (fun q i wr => ∃ k : Nat, k + q = nx + ny ∧ i = .int .i64 k ∧ Below w6.heap.size w6 wr)
    case atStart => exact ⟨0, by omega, rfl, Below.refl _ _⟩
    case round =>
      obtain ⟨k, hk, rfl, hb⟩ := hrel
      have Hk := Lib.hid hk
      have hkn : k ≤ nx + ny := by omega
      have Hb := Lib.hid hb
      clear hk hb
      by_cases hlt : k < nx + ny
      · obtain ⟨g3, rfl, hg3, hc3⟩ := G3.out (by omega)
        have hlt' : (k : Int) < (nx : Int) + (ny : Int) := by omega
        have hsz := Hb.out.size
        by_cases hkx : k < nx
        · have hkx' : (k : Int) < (nx : Int) := by omega
          obtain ⟨g1, rfl, hg1, hc1⟩ := G1.out (by omega)
          have htk : ∃ t, U[k]? = some t := ⟨_, List.getElem?_eq_getElem (by rw [← HNX.out]; exact hkx)⟩
          obtain ⟨t, ht⟩ := htk
          have ht3 : (U ++ shiftT (s.size + 1) V)[k]? = some t := by rw [List.getElem?_append_left (by rw [← HNX.out]; exact hkx)]; exact ht
          obtain ⟨q0, q1, q2⟩ := tok_cells ht
          obtain ⟨z0, z1, z2⟩ := tok_cells ht3
          have m0 := below_old Hb.out hg1 (hc1 _ _ q0)
          have m1 := below_old Hb.out hg1 (hc1 _ _ q1)
          have m2 := below_old Hb.out hg1 (hc1 _ _ q2)
          have l0 := below_old Hb.out hg3 (hc3 _ _ z0)
          have l1 := below_old Hb.out hg3 (hc3 _ _ z1)
          have l2 := below_old Hb.out hg3 (hc3 _ _ z2)
          clear q0 q1 q2 z0 z1 z2 ht ht3 hc1 hc3
          obtain ⟨kd, tx, ps⟩ := t
          simp only at m0 m1 m2 l0 l1 l2
          replace m0 := alloc_old m0
          replace m1 := alloc_old m1
          replace m2 := alloc_old m2
          replace l0 := alloc_old l0
          replace l1 := alloc_old l1
          replace l2 := alloc_old l2
          go_wp2
          go_quiet (fail)
          go_wp2
          have hk := Hk.out
          go_roundg (nx + ny - (k + 1))
          case measure => omega
          case rel => exact ⟨k + 1, by omega, by go_num, drewN_below (Hb.out.alloc hsz _) _⟩
        · have hkx' : ¬ (k : Int) < (nx : Int) := by omega
          obtain ⟨g2, rfl, hg2, hc2⟩ := G2.out (by omega)
          obtain ⟨j, hj⟩ : ∃ j, j = k - nx := ⟨_, rfl⟩
          have hjk : nx + j = k := by omega
          have hjy : j < ny := by omega
          have hjy' : (j : Int) < (ny : Int) := by omega
          have f3 : IntKind.i64.wrap ((k : Int) - (nx : Int)) = (j : Int) := by rw [IntWalk.i64_in _ (by omega)]; omega
          have htk : ∃ t, V[j]? = some t := ⟨_, List.getElem?_eq_getElem (by rw [← HNY.out]; exact hjy)⟩
          obtain ⟨t, ht⟩ := htk
          have ht3 : (U ++ shiftT (s.size + 1) V)[k]? = some (shift (s.size + 1) t) := by
            rw [List.getElem?_append_right (by rw [← HNX.out]; omega), ← HNX.out, ← hj, shiftT, List.getElem?_map, ht]
            rfl
          have hp := HPOS.out t (List.mem_of_getElem? ht)
          obtain ⟨q0, q1, q2⟩ := tok_cells ht
          obtain ⟨z0, z1, z2⟩ := tok_cells ht3
          have m0 := below_old Hb.out hg2 (hc2 _ _ q0)
          have m1 := below_old Hb.out hg2 (hc2 _ _ q1)
          have m2 := below_old Hb.out hg2 (hc2 _ _ q2)
          have l0 := below_old Hb.out hg3 (hc3 _ _ z0)
          have l1 := below_old Hb.out hg3 (hc3 _ _ z1)
          have l2 := below_old Hb.out hg3 (hc3 _ _ z2)
          obtain ⟨kd, tx, ps⟩ := t
          rw [shift_pos] at l2
          simp only [shift_kind, shift_text] at m0 m1 m2 l0 l1 hp
          have f4 : IntKind.i64.wrap ((s.size : Int) + 1) = (s.size : Int) + 1 := IntWalk.i64_in _ (by omega)
          have f5 : IntKind.i64.wrap ((ps : Int) + ((s.size : Int) + 1)) = (ps : Int) + ((s.size : Int) + 1) := IntWalk.i64_in _ (by omega)
          clear q0 q1 q2 z0 z1 z2 ht ht3 hc2 hc3 hj hjk hp
          replace m0 := alloc_old m0
          replace m1 := alloc_old m1
          replace m2 := alloc_old m2
          replace l0 := alloc_old l0
          replace l1 := alloc_old l1
          replace l2 := alloc_old l2
          go_wp2
          go_quiet (fail)
          go_wp2
          have hk := Hk.out
          go_roundg (nx + ny - (k + 1))
          case measure => omega
          case rel => exact ⟨k + 1, by omega, by go_num, drewN_below (Hb.out.alloc hsz _) _⟩
      · have hge : ¬ (k : Int) < (nx : Int) + (ny : Int) := by omega
        go_wp2
        go_ret
        exact ⟨rfl, Hb6.out.trans (Hb.out.mono Hb6.out.size)⟩

end Go.Proofs.Ytgnnkddneoghmaa
