/- The walk of Decode. -/
import Derived.Test.YtpbbiidfahaamaaStB3
import Derived.Test.YtpbbiidfahaamaaStC1
namespace Go.Proofs.Ytpbbiidfahaamaa
open Go.RowKit

theorem RowsNew.gr {B : Nat} {a b : World} {c : Value} {vs : List Value} {L : List (List Int)} (h : RowsNew B a c vs L) {g : Nat} (hg : a.grownBy b (some g)) (hlt : g < B) : RowsNew B b c vs L :=
  ⟨own_gr h.1 hg hlt, fun i l hl => by
    obtain ⟨u, h1, h2⟩ := h.2 i l hl
    exact ⟨u, h1, own_gr h2 hg hlt⟩⟩

def errOf : Except Nat St → Nat
  | .error k => k
  | .ok _ => 0
def stOf : Except Nat St → St
  | .error _ => ⟨[], [], []⟩
  | .ok s => s

def CellsOut (D : List Decl) (l : List UInt8) (L : List (List Int)) (lk : List UInt8) (e : Nat) : Prop :=
  (e = 0 ∧ cellsP D l = .ok (L, lk)) ∨ (e ≠ 0 ∧ cellsP D l = .error e)
def CellOut (d : Decl) (e : Nat) (l : List UInt8) (xs : List Int) (l' : List UInt8) (e' : Nat) : Prop :=
  (e ≠ 0 ∧ e' = e) ∨ (e = 0 ∧ e' ≠ 0 ∧ cellP d l = .error e') ∨ (e = 0 ∧ e' = 0 ∧ cellP d l = .ok (xs, l'))

theorem cellsP_snoc (D : List Decl) (d : Decl) : ∀ l : List UInt8, cellsP (D ++ [d]) l = match cellsP D l with
    | .error e => .error e
    | .ok (L, r) => match cellP d r with
      | .error e => .error e
      | .ok (x, q) => .ok (L ++ [x], q) := by
  induction D with
  | nil =>
    intro l
    simp only [List.nil_append, cellsP]
    cases cellP d l with
    | error e => rfl
    | ok p => rfl
  | cons d' D ih =>
    intro l
    simp only [List.cons_append, cellsP]
    cases cellP d' l with
    | error e => rfl
    | ok p =>
      obtain ⟨x, r⟩ := p
      simp only
      rw [ih]
      cases cellsP D r with
      | error e => rfl
      | ok p2 =>
        obtain ⟨L, r2⟩ := p2
        simp only
        cases cellP d r2 with
        | error e => rfl
        | ok p3 => rfl

theorem CellsOut.snoc {D : List Decl} {l lk l' : List UInt8} {L : List (List Int)} {e e' k : Nat} {d : Decl} {xs : List Int} (hd : D[k]? = some d) (h : CellsOut (D.take k) l L lk e) (h2 : CellOut d e lk xs l' e') :
    CellsOut (D.take (k + 1)) l (L ++ [xs]) l' e' := by
  have ht : D.take (k + 1) = D.take k ++ [d] := by rw [List.take_add_one, hd]; rfl
  rw [ht]
  unfold CellsOut
  rw [cellsP_snoc]
  rcases h with ⟨rfl, h⟩ | ⟨he, h⟩
  · rw [h]
    simp only
    rcases h2 with ⟨h0, _⟩ | ⟨_, h0, h1⟩ | ⟨_, rfl, h1⟩
    · exact absurd rfl h0
    · rw [h1]; exact .inr ⟨h0, rfl⟩
    · rw [h1]; exact .inl ⟨rfl, rfl⟩
  · rw [h]
    rcases h2 with ⟨_, rfl⟩ | ⟨h0, _⟩ | ⟨h0, _⟩
    · exact .inr ⟨he, rfl⟩
    · exact absurd h0 he
    · exact absurd h0 he

theorem CellOut.of_count {d : Decl} {e e' : Nat} {l l' : List UInt8} {xs : List Int} (h3 : d.kind = 3) (h : CountOut e l 1000 xs l' e') : CellOut d e l xs l' e' := by
  have hc : cellP d l = countedP 1000 l := by unfold cellP; rw [if_pos h3]
  unfold CellOut
  rw [hc]
  exact h
theorem CellOut.of_list {d : Decl} {e e' : Nat} {l l' : List UInt8} {xs : List Int} (h3 : d.kind ≠ 3) (h : ListOut e l (fixedZ d).toNat xs l' e') : CellOut d e l xs l' e' := by
  have hc : cellP d l = match takeN (fixedZ d).toNat l with | none => .error 4 | some x => .ok x := by
    unfold cellP
    rw [if_neg h3]
    cases takeN (fixedZ d).toNat l <;> rfl
  unfold CellOut
  rw [hc]
  rcases h with h | ⟨h0, h1, rfl⟩ | ⟨h0, rfl, h1⟩
  · exact .inl h
  · rw [h1]; exact .inr (.inl ⟨h0, by decide, rfl⟩)
  · rw [h1]; exact .inr (.inr ⟨h0, rfl, rfl⟩)

theorem dec_final {D : List Decl} {l l0 l1 l2 : List UInt8} {L : List (List Int)} {xi xo : List Int} {e0 e1 e2 : Nat} (hv : validB D = true) (h0 : CellsOut D l L l0 e0) (h1 : CountOut e0 l0 4096 xi l1 e1) (h2 : CountOut e1 l1 4096 xo l2 e2) :
    (e2 ≠ 0 → decP D l = .error e2) ∧ (e2 = 0 → 0 < l2.length → decP D l = .error 3) ∧ (e2 = 0 → l2.length = 0 → decP D l = .ok ⟨L, xi, xo⟩) := by
  have hd : decP D l = match cellsP D l with | .error e => .error e | .ok (L, r) => tailP L r := by
    unfold decP
    rw [if_pos hv]
    cases cellsP D l <;> rfl
  rw [hd]
  rcases h0 with ⟨rfl, h0⟩ | ⟨he0, h0⟩
  · rw [h0]
    simp only
    unfold tailP
    rcases h1 with ⟨h, _⟩ | ⟨_, he1, h1⟩ | ⟨_, rfl, h1⟩
    · exact absurd rfl h
    · rw [h1]
      simp only
      rcases h2 with ⟨_, rfl⟩ | ⟨h, _⟩ | ⟨h, _⟩
      · exact ⟨fun _ => rfl, fun h => absurd h he1, fun h => absurd h he1⟩
      · exact absurd h he1
      · exact absurd h he1
    · rw [h1]
      simp only
      rcases h2 with ⟨h, _⟩ | ⟨_, he2, h2⟩ | ⟨_, rfl, h2⟩
      · exact absurd rfl h
      · rw [h2]
        exact ⟨fun _ => rfl, fun h => absurd h he2, fun h => absurd h he2⟩
      · rw [h2]
        simp only
        exact ⟨fun h => absurd rfl h, fun _ hp => by rw [if_pos hp], fun _ hp => by rw [if_neg (by omega)]⟩
  · rw [h0]
    simp only
    have he1 : e1 = e0 := by
      rcases h1 with ⟨_, h⟩ | ⟨h, _⟩ | ⟨h, _⟩
      · exact h
      · exact absurd h he0
      · exact absurd h he0
    subst he1
    have he2 : e2 = e1 := by
      rcases h2 with ⟨_, h⟩ | ⟨h, _⟩ | ⟨h, _⟩
      · exact h
      · exact absurd h he0
      · exact absurd h he0
    subst he2
    exact ⟨fun _ => rfl, fun h => absurd h he0, fun h => absurd h he0⟩

theorem dec_bad {D : List Decl} {l : List UInt8} (hv : validB D = false) : decP D l = .error 3 := by
  unfold decP
  rw [hv]
  rfl

set_option maxRecDepth 100000 in
set_option maxHeartbeats 8000000 in
theorem decode_any (D : List Decl) (l : List UInt8) (u v : Value) (w : World) (h1 : DeclsAt w u D) (h2 : BytesAt w v l) :
    Calls Try.prog 28 #[u, v] w fun e w' => ∃ r, e = .returned (.tuple #[r, .int .i64 (errOf (decP D l))]) ∧ StNew w.heap.size w' r (stOf (decP D l)) ∧ Below w.heap.size w w' := by
  obtain ⟨⟨ad, cd, rfl, -, -, -⟩, -⟩ := id h1
  obtain ⟨av, cv, rfl, -, -, -⟩ := id h2
  obtain ⟨W, hW⟩ : ∃ W, W = w.alloc (.cells #[.slice none 0 0, .slice none 0 0, .slice none 0 0] 25) := ⟨_, rfl⟩
  have hB0 : Below w.heap.size w W := by rw [hW]; exact below_alloc _ _
  have hBK : Blk W w.heap.size 25 #[.slice none 0 0, .slice none 0 0, .slice none 0 0] := by rw [hW]; exact Blk.new _ _ _
  have HV := Lib.hid (valid_any D _ W (h1.below hB0 (Nat.le_refl _)))
  have HD := Lib.hid (h1.below hB0 (Nat.le_refl _))
  have HI := Lib.hid (h2.below hB0 (Nat.le_refl _))
  have HW := Lib.hid hW
  have HB0 := Lib.hid hB0
  have HBK := Lib.hid hBK
  generalize hn : D.length = n at *
  generalize hm : l.length = m at *
  have HN := Lib.hid hn.symm
  have HM := Lib.hid hm
  clear hn hm h1 h2 hW hB0 hBK
  cases hR : validB D with
  | false =>
    rw [dec_bad hR]
    rw [hR] at HV
    clear hR
    go_enter Try.func28, Try.ntmps28
    go_wp2_with fail
    rw [← HW.out]
    refine HV.out.mono ?_
    rintro e w1 ⟨rfl, hb1⟩
    have hbk := HBK.out.next hb1
    have b0 := hbk.cell 0
    have b1 := hbk.cell 1
    have b2 := hbk.cell 2
    have z0 := hbk.free 0
    have z1 := hbk.free 1
    have z2 := hbk.free 2
    have HB1 := Lib.hid (below_next HB0.out (Nat.le_refl _) hb1)
    have HK := Lib.hid hbk
    clear hb1 hbk
    go_wp2
    have h3 := set3_all HK.out (.slice none 0 0) (.slice none 0 0) (.slice none 0 0)
    have hk3 := h3.1
    have hb3 := h3.2.2 HB1.out (Nat.le_refl _)
    clear h3
    generalize World.setCell _ _ _ = wf at *
    exact bodyPost_ret (results_state rfl _ _ _ _ _ _ rfl hk3) rfl ⟨_, rfl, st0_new _ _, hb3⟩
  | true =>
    have hval : n ≤ 32 ∧ ∀ d ∈ D, validD d = true := by
      unfold validB at hR
      rw [Bool.and_eq_true, decide_eq_true_eq, List.all_eq_true, ← HN.out] at hR
      exact hR
    obtain ⟨hn32, hvald⟩ := hval
    have HVAL := Lib.hid hvald
    have HR1 := Lib.hid hR
    have hn63 : (n : Int) ≤ 32 := by omega
    rw [hR] at HV
    clear hvald hR
    go_enter Try.func28, Try.ntmps28
    go_wp2_with fail
    rw [← HW.out]
    refine HV.out.mono ?_
    rintro e w1 ⟨rfl, hb1⟩
    have hlt1 := (HBK.out.next hb1).lt
    obtain ⟨w3, hw3⟩ : ∃ w3, w3 = (w1.alloc (.cells #[.slice av m cv, .int .i64 0] 72)).alloc (.cells #[.slice none 0 0, .slice none 0 0, .slice none 0 0] 25) := ⟨_, rfl⟩
    have hb13 : Below w1.heap.size w1 w3 := by rw [hw3]; exact ((Below.refl _ _).alloc (Nat.le_refl _) _).alloc (by simp) _
    have hrd : Rd w1 w3 w1.heap.size l 0 := ⟨_, HI.out.below hb1 (Nat.le_refl _), by rw [hw3]; exact (Blk.new _ _ _).next (below_alloc _ _)⟩
    have hb7 : Blk w3 (w1.heap.size + 1) 25 #[.slice none 0 0, .slice none 0 0, .slice none 0 0] := by
      rw [hw3]
      have := Blk.new (w1.alloc (.cells #[.slice av m cv, .int .i64 0] 72)) 25 #[.slice none 0 0, .slice none 0 0, .slice none 0 0]
      simpa using this
    have HBK1 := Lib.hid (HBK.out.next hb1)
    have HB1 := Lib.hid (below_next HB0.out (Nat.le_refl _) hb1)
    have HD1 := Lib.hid (HD.out.below hb1 (Nat.le_refl _))
    have H13 := Lib.hid hb13
    have HRD := Lib.hid hrd
    have H7 := Lib.hid hb7
    have HW3 := Lib.hid hw3
    have hs3 : w1.heap.size + 2 = w3.heap.size := by rw [hw3]; simp
    have hbt : w.heap.size < w1.heap.size := hlt1
    clear hb1 hb13 hrd hb7 hw3 HV HI HD HBK hlt1
    obtain ⟨j0, hj, hy0, hy1, hy2⟩ := info_parts rowInfo
    go_wp2_with fail
    rw [← HW3.out]
    clear HW3
    go_loopg [18] n (fun q i wr => ∃ (k : Nat) (L : List (List Int)) (lk : List UInt8) (e : Nat) (c : Value) (vs : List Value), k + q = n ∧ i = .int .i64 k ∧ L.length = k ∧ Below w1.heap.size w1 wr ∧ w3.heap.size ≤ wr.heap.size ∧ Rd w1 wr w1.heap.size lk e ∧ Blk wr (w1.heap.size + 1) 25 #[c, .slice none 0 0, .slice none 0 0] ∧ RowsNew w3.heap.size wr c vs L ∧ CellsOut (D.take k) l L lk e)
    case atStart => exact ⟨0, [], l, 0, _, _, by omega, rfl, rfl, H13.out, Nat.le_refl _, HRD.out, H7.out, RowsNew.nil _ _, .inl ⟨rfl, rfl⟩⟩
    case round =>
      obtain ⟨k, L, lk, e, c, vs, hk, rfl, hL, hbw, hszr, hrd, hblk, hrow, hco⟩ := hrel
      have Hk := Lib.hid hk
      have hkn : k ≤ n := by omega
      have HLL := Lib.hid hL
      have HBW := Lib.hid hbw
      have HRd := Lib.hid hrd
      have HK := Lib.hid hblk
      have HRW := Lib.hid hrow
      have HCO := Lib.hid hco
      clear hk hL hbw hrd hblk hrow hco
      by_cases hlt : k < n
      · have hlt' : (k : Int) < (n : Int) := by omega
        obtain ⟨g, off, rfl, hg, hq⟩ := HD1.out.1.get (by omega)
        obtain ⟨d, hd⟩ := get_lt HN.out hlt
        obtain ⟨q0, q1, q2⟩ := hq k d hd
        have m0 := cell_below HBW.out hg q0
        have m1 := cell_below HBW.out hg q1
        have m2 := cell_below HBW.out hg q2
        have hfb := fixed_bounds (HVAL.out d (List.mem_of_getElem? hd))
        obtain ⟨m', hm'⟩ := Int.eq_ofNat_of_zero_le hfb.1
        have hm16 : m' ≤ 16 := by omega
        have HDK := Lib.hid hd
        have HM' := Lib.hid hm'
        have HFT : Hid ((fixedZ d).toNat = m') := by unfold Hid; rw [hm']; rfl
        obtain ⟨nm, kd, ln⟩ := d
        simp only at m0 m1 m2
        clear hq hd q0 q1 q2 hfb hm'
        obtain ⟨wq, hwq⟩ : ∃ wq, wq = wr.alloc (.cells #[.string nm, .int .u8 kd, .int .i64 ln] 44) := ⟨_, rfl⟩
        have hrq : Below wr.heap.size wr wq := by rw [hwq]; exact below_alloc _ _
        have hdd := three_new wr (.string nm) (.int .u8 kd) (.int .i64 ln) 44
        rw [← hwq] at hdd
        obtain ⟨d0, d1, d2⟩ := hdd
        have HBq := Lib.hid (HBW.out.trans (hrq.mono HBW.out.size))
        have HRq := Lib.hid (HRd.out.next hrq)
        have HKq := Lib.hid (HK.out.next hrq)
        have HRWq := Lib.hid (HRW.out.next hrq)
        have hszq : w3.heap.size ≤ wq.heap.size := Nat.le_trans hszr hrq.size
        have HC : Hid (wq.ownsRow w3.heap.size 23 1 c k vs) := by
          have h := HRWq.out.1
          rw [HLL.out] at h
          exact h
        have c0 : wq.cell? ⟨w1.heap.size + 1, 0, none⟩ = some c := HKq.out.cell 0
        have z0 := HKq.out.free 0
        have HWQ := Lib.hid hwq
        clear hwq hrq HRd HK HRW
        by_cases k3 : kd = 3
        · have e3 : ((kd : Int) == 3) = true := by rw [k3]; rfl
          have K3 := Lib.hid k3
          clear k3
          go_wp2_with fail
          rw [← HWQ.out]
          clear HWQ
          go_region_law (first
            | (go_simp; go_at_call 46; refine (counted_any w1 _ w1.heap.size lk e 1000 (by decide) (Nat.le_refl _) (by exact below_drew HBq.out) (by exact HRq.out)).mono ?_; rintro en w4 ⟨u4, xs, l4, e4, rfl, hi4, hr4, hg4, hout4⟩; have HG4 : Hid (wq.grownBy w4 (some w1.heap.size)) := ⟨hg4.os, hg4.tape, hg4.output, hg4.size, hg4.block⟩; have HO4 := Lib.hid (CellOut.of_count (d := ⟨nm, kd, ln⟩) K3.out hout4); obtain ⟨a4, c4, rfl⟩ := own_form hi4; have HI4 : Hid (IntsNew w3.heap.size w4 (.slice a4 xs.length c4) xs) := Lib.hid (own_mono hi4 (by exact hszq)); have HR4 := Lib.hid hr4; have y0 : w4.cell? ⟨w1.heap.size + 1, 0, none⟩ = some c := (HKq.out.grown HG4.out (by simp)).cell 0; have y2 := alloc_cell y0 (.cells #[.slice a4 xs.length c4] 23); clear hi4 hr4 hg4 hout4)
            | (refine step_append_own (w4.alloc (.cells #[.slice a4 xs.length c4] 23)) rfl (.tmp 26) (.tmp 28) 22 rfl w3.heap.size 23 j0 (.slice none 0 0) 1 24 Try.underlying22 hj hy0 hy1 hy2 rfl (by decide) c k vs ?hs ?hown ⟨w4.heap.size, 0, none⟩ 1 1 [.slice a4 xs.length c4] ?hx rfl ?hn ?c2 ?c3 ?c4 ?c5 ?_
               case hs => simp [Act.eval]
               case hx => simp [Act.eval]
               case hown => exact (own_gr HC.out HG4.out (by omega)).alloc _
               case hn => exact cell_one_new _ _ _
               case c2 => intro u hu; simp only [List.mem_cons, List.not_mem_nil, or_false] at hu; rcases hu with rfl; rfl
               case c3 => unfold maxLen; omega
               case c4 => omega
               case c5 => have := HG4.out.size; simp at this ⊢; omega
               intro v5 w5 hown5 hgrow5
               obtain ⟨a5, cc5, rfl⟩ := own_form hown5
               have hk5 := (HKq.out.grown HG4.out (by simp)).next (below_alloc w4 (.cells #[.slice a4 xs.length c4] 23))
               have ho5 := (own_gr HC.out HG4.out (by omega)).alloc (.cells #[.slice a4 xs.length c4] 23)
               have HK5 := Lib.hid (hk5.grown hgrow5 (hk5.own_ne ho5 (by decide)))
               have x0 := HK5.out.cell 0
               have z0 := HK5.out.free 0
               have Hown5 := Lib.hid hown5
               have Hgrow5 := Lib.hid hgrow5
               have HO5 := Lib.hid ho5
               clear hown5 hgrow5 hk5 ho5))
          all_goals
            go_wp2
            have hrow4 := HRWq.out.gr HG4.out (show w1.heap.size < w3.heap.size by omega)
            have hrow5 := hrow4.next (below_alloc w4 (.cells #[.slice a4 xs.length c4] 23))
            have hu : IntsNew w3.heap.size (w4.alloc (.cells #[.slice a4 xs.length c4] 23)) (.slice a4 xs.length c4) xs := own_below HI4.out (below_alloc _ _)
            have hrow6 := (hrow5.snoc hu (by rw [HLL.out]; exact Hown5.out) Hgrow5.out).far (show w1.heap.size + 1 < w3.heap.size by omega) 0 (.slice a5 (k + 1) cc5)
            have hk6 := HK5.out.set 0 (.slice a5 (k + 1) cc5)
            have hb4 := Below.of_gr HBq.out (Nat.le_refl _) HG4.out (Nat.le_refl _)
            have hb5 := (hb4.alloc hb4.size (.cells #[.slice a4 xs.length c4] 23)).grown Hgrow5.out (by have := hb4.size; simp; omega) (fun j hj => by have := (HO5.out.lt j hj).1; omega)
            have hb6 := hb5.setCell (p := ⟨w1.heap.size + 1, 0, none⟩) (Nat.le_succ _) (.slice a5 (k + 1) cc5)
            have hr6 := ((HR4.out.next (below_alloc w4 (.cells #[.slice a4 xs.length c4] 23))).gr Hgrow5.out (fun he => by have := (HO5.out.lt _ he.symm).1; omega)).gr (gr_set (gr_refl w5 (w1.heap.size + 1)) 0 (.slice a5 (k + 1) cc5)) (by simp)
            have hsz6 : w3.heap.size ≤ (w5.setCell ⟨w1.heap.size + 1, 0, none⟩ (.slice a5 (k + 1) cc5)).heap.size := by
              have h1 := HG4.out.size
              have h2 := Hgrow5.out.size
              simp [World.setCell] at h2 ⊢
              omega
            have hco6 := CellsOut.snoc HDK.out HCO.out HO4.out
            have HROW6 := Lib.hid hrow6
            have HK6 := Lib.hid hk6
            have HB6 := Lib.hid hb6
            have HR6 := Lib.hid hr6
            have HCO6 := Lib.hid hco6
            clear hrow4 hrow5 hu hrow6 hk6 hb4 hb5 hb6 hr6 hco6 HK5 Hown5 Hgrow5 HO5 HR4 HI4
            have hk := Hk.out
            go_roundg (n - (k + 1))
            case measure => omega
            case rel => exact ⟨k + 1, L ++ [xs], _, _, _, _, by omega, by go_num, by rw [List.length_append, HLL.out]; rfl, HB6.out, hsz6, HR6.out, HK6.out, HROW6.out, HCO6.out⟩
        · have e3 : ((kd : Int) == 3) = false := by simp; omega
          have K3 : Hid (kd ≠ 3) := k3
          clear k3
          go_wp2_with fail
          rw [← HWQ.out]
          clear HWQ
          go_region_law (first
            | (go_simp; go_at_call 41; refine (fixed_any _ _ _ _).mono ?_; rw [HM'.out]; rintro en wf ⟨rfl, hbf⟩; have HBf : Hid (Below wq.heap.size wq wf) := ⟨hbf.os, hbf.tape, hbf.output, hbf.size, hbf.block⟩; have y0f : wf.cell? ⟨w1.heap.size + 1, 0, none⟩ = some c := (HKq.out.next HBf.out).cell 0; clear hbf)
            | (go_simp; go_at_call 47; refine (list_any w1 _ w1.heap.size lk e m' (by omega) (Nat.le_refl _) (by exact HBq.out.trans (HBf.out.mono HBq.out.size)) (by exact HRq.out.next HBf.out)).mono ?_; rintro en w4 ⟨u4, xs, l4, e4, rfl, hi4, hr4, hg4, hout4⟩; have HG4 : Hid (wq.grownBy w4 (some w1.heap.size)) := Lib.hid (gr_trans (gr_below (gr_refl _ _) HBf.out) ⟨hg4.os, hg4.tape, hg4.output, hg4.size, hg4.block⟩); have HO4 := Lib.hid (CellOut.of_list (d := ⟨nm, kd, ln⟩) K3.out (by rw [HFT.out]; exact hout4)); obtain ⟨a4, c4, rfl⟩ := own_form hi4; have HI4 : Hid (IntsNew w3.heap.size w4 (.slice a4 xs.length c4) xs) := Lib.hid (own_mono hi4 (by exact Nat.le_trans hszq HBf.out.size)); have HR4 := Lib.hid hr4; have y0 : w4.cell? ⟨w1.heap.size + 1, 0, none⟩ = some c := (HKq.out.grown HG4.out (by simp)).cell 0; have y2 := alloc_cell y0 (.cells #[.slice a4 xs.length c4] 23); clear hi4 hr4 hg4 hout4)
            | (refine step_append_own (w4.alloc (.cells #[.slice a4 xs.length c4] 23)) rfl (.tmp 32) (.tmp 36) 22 rfl w3.heap.size 23 j0 (.slice none 0 0) 1 24 Try.underlying22 hj hy0 hy1 hy2 rfl (by decide) c k vs ?hs ?hown ⟨w4.heap.size, 0, none⟩ 1 1 [.slice a4 xs.length c4] ?hx rfl ?hn ?c2 ?c3 ?c4 ?c5 ?_
               case hs => simp [Act.eval]
               case hx => simp [Act.eval]
               case hown => exact (own_gr HC.out HG4.out (by omega)).alloc _
               case hn => exact cell_one_new _ _ _
               case c2 => intro u hu; simp only [List.mem_cons, List.not_mem_nil, or_false] at hu; rcases hu with rfl; rfl
               case c3 => unfold maxLen; omega
               case c4 => omega
               case c5 => have := HG4.out.size; simp at this ⊢; omega
               intro v5 w5 hown5 hgrow5
               obtain ⟨a5, cc5, rfl⟩ := own_form hown5
               have hk5 := (HKq.out.grown HG4.out (by simp)).next (below_alloc w4 (.cells #[.slice a4 xs.length c4] 23))
               have ho5 := (own_gr HC.out HG4.out (by omega)).alloc (.cells #[.slice a4 xs.length c4] 23)
               have HK5 := Lib.hid (hk5.grown hgrow5 (hk5.own_ne ho5 (by decide)))
               have x0 := HK5.out.cell 0
               have z0 := HK5.out.free 0
               have Hown5 := Lib.hid hown5
               have Hgrow5 := Lib.hid hgrow5
               have HO5 := Lib.hid ho5
               clear hown5 hgrow5 hk5 ho5))
          all_goals
            go_wp2
            have hrow4 := HRWq.out.gr HG4.out (show w1.heap.size < w3.heap.size by omega)
            have hrow5 := hrow4.next (below_alloc w4 (.cells #[.slice a4 xs.length c4] 23))
            have hu : IntsNew w3.heap.size (w4.alloc (.cells #[.slice a4 xs.length c4] 23)) (.slice a4 xs.length c4) xs := own_below HI4.out (below_alloc _ _)
            have hrow6 := (hrow5.snoc hu (by rw [HLL.out]; exact Hown5.out) Hgrow5.out).far (show w1.heap.size + 1 < w3.heap.size by omega) 0 (.slice a5 (k + 1) cc5)
            have hk6 := HK5.out.set 0 (.slice a5 (k + 1) cc5)
            have hb4 := Below.of_gr HBq.out (Nat.le_refl _) HG4.out (Nat.le_refl _)
            have hb5 := (hb4.alloc hb4.size (.cells #[.slice a4 xs.length c4] 23)).grown Hgrow5.out (by have := hb4.size; simp; omega) (fun j hj => by have := (HO5.out.lt j hj).1; omega)
            have hb6 := hb5.setCell (p := ⟨w1.heap.size + 1, 0, none⟩) (Nat.le_succ _) (.slice a5 (k + 1) cc5)
            have hr6 := ((HR4.out.next (below_alloc w4 (.cells #[.slice a4 xs.length c4] 23))).gr Hgrow5.out (fun he => by have := (HO5.out.lt _ he.symm).1; omega)).gr (gr_set (gr_refl w5 (w1.heap.size + 1)) 0 (.slice a5 (k + 1) cc5)) (by simp)
            have hsz6 : w3.heap.size ≤ (w5.setCell ⟨w1.heap.size + 1, 0, none⟩ (.slice a5 (k + 1) cc5)).heap.size := by
              have h1 := HG4.out.size
              have h2 := Hgrow5.out.size
              simp [World.setCell] at h2 ⊢
              omega
            have hco6 := CellsOut.snoc HDK.out HCO.out HO4.out
            have HROW6 := Lib.hid hrow6
            have HK6 := Lib.hid hk6
            have HB6 := Lib.hid hb6
            have HR6 := Lib.hid hr6
            have HCO6 := Lib.hid hco6
            clear hrow4 hrow5 hu hrow6 hk6 hb4 hb5 hb6 hr6 hco6 HK5 Hown5 Hgrow5 HO5 HR4 HI4
            have hk := Hk.out
            go_roundg (n - (k + 1))
            case measure => omega
            case rel => exact ⟨k + 1, L ++ [xs], _, _, _, _, by omega, by go_num, by rw [List.length_append, HLL.out]; rfl, HB6.out, hsz6, HR6.out, HK6.out, HROW6.out, HCO6.out⟩
      · have hge : ¬ (k : Int) < (n : Int) := by omega
        have hkn2 : k = n := by omega
        have hco := HCO.out
        rw [List.take_of_length_le (by rw [← HN.out]; omega)] at hco
        have HCOF := Lib.hid hco
        clear hco HCO
        go_wp2_with fail
        refine (counted_any w1 _ w1.heap.size lk e 4096 (by decide) (Nat.le_refl _) HBW.out HRd.out).mono ?_
        rintro en w4 ⟨u4, xi, l1, e1, rfl, hi4, hr4, hg4, hout4⟩
        obtain ⟨ai, ci, rfl⟩ := own_form hi4
        have hk4 := HK.out.grown hg4 (by simp)
        have y1 := hk4.cell 1
        have z1 := hk4.free 1
        have HK4 := Lib.hid hk4
        have HI4 := Lib.hid hi4
        have HR4 := Lib.hid hr4
        have HG4 := Lib.hid hg4
        have HO4 := Lib.hid hout4
        clear hi4 hr4 hg4 hout4 hk4
        go_wp2_with fail
        have hb5 := (Below.of_gr HBW.out (Nat.le_refl _) HG4.out (Nat.le_refl _)).setCell (p := ⟨w1.heap.size + 1, 1, none⟩) (Nat.le_succ _) (.slice ai xi.length ci)
        have hr5 := HR4.out.gr (gr_set (gr_refl w4 (w1.heap.size + 1)) 1 (.slice ai xi.length ci)) (by simp)
        refine (counted_any w1 _ w1.heap.size l1 e1 4096 (by decide) (Nat.le_refl _) hb5 hr5).mono ?_
        rintro en w6 ⟨u6, xo, l2, e2, rfl, hi6, hr6, hg6, hout6⟩
        obtain ⟨ao, co, rfl⟩ := own_form hi6
        have hk6 := (HK4.out.set 1 (.slice ai xi.length ci)).grown hg6 (by simp)
        have y2 := hk6.cell 2
        have z2 := hk6.free 2
        have HK6 := Lib.hid hk6
        have HB6 := Lib.hid (Below.of_gr hb5 (Nat.le_refl _) hg6 (Nat.le_refl _))
        have HR6 := Lib.hid hr6
        have hs4 := HG4.out.size
        have hs6 := hg6.size
        have HIO6 : Hid (IntsNew w3.heap.size w6 (.slice ao xo.length co) xo) := Lib.hid (own_mono hi6 (Nat.le_trans hszr (Nat.le_trans hs4 (by simp [World.setCell]))))
        have HII6 : Hid (IntsNew w3.heap.size w6 (.slice ai xi.length ci) xi) := Lib.hid (own_gr (own_far (own_mono HI4.out hszr) (show w1.heap.size + 1 < w3.heap.size by omega) 1 _) hg6 (by omega))
        have HROW6 := Lib.hid (((HRW.out.gr HG4.out (by omega)).far (show w1.heap.size + 1 < w3.heap.size by omega) 1 (.slice ai xi.length ci)).gr hg6 (by omega))
        have hfin := dec_final HR1.out HCOF.out HO4.out hout6
        have HFIN := Lib.hid hfin
        clear hi6 hr6 hg6 hout6 hk6 hb5 hr5 y1 z1 HRd HK HRW HR4 HO4 HG4 HI4 HK4 hfin
        obtain ⟨v2, hv2, hbk2⟩ := id HR6.out
        obtain ⟨av2, cv2, rfl, -, -, -⟩ := id hv2
        have hk7 := HK6.out.set 2 (.slice ao xo.length co)
        have hb7 := HB6.out.setCell (p := ⟨w1.heap.size + 1, 2, none⟩) (Nat.le_succ _) (.slice ao xo.length co)
        have hr7 : Blk (w6.setCell ⟨w1.heap.size + 1, 2, none⟩ (.slice ao xo.length co)) w1.heap.size 72 #[.slice av2 l2.length cv2, .int .i64 e2] := hbk2.grown (gr_set (gr_refl w6 (w1.heap.size + 1)) 2 (.slice ao xo.length co)) (by simp)
        have hii7 := own_far HII6.out (show w1.heap.size + 1 < w3.heap.size by omega) 2 (.slice ao xo.length co)
        have hio7 := own_far HIO6.out (show w1.heap.size + 1 < w3.heap.size by omega) 2 (.slice ao xo.length co)
        have hrow7 := HROW6.out.far (show w1.heap.size + 1 < w3.heap.size by omega) 2 (.slice ao xo.length co)
        obtain ⟨acx, ccx, rfl⟩ := own_form hrow7.1
        have hbt7 : Blk (w6.setCell ⟨w1.heap.size + 1, 2, none⟩ (.slice ao xo.length co)) w.heap.size 25 #[.slice none 0 0, .slice none 0 0, .slice none 0 0] := (hb7.block _ hbt).trans HBK1.out
        obtain ⟨w7, hw7⟩ : ∃ w7, w7 = w6.setCell ⟨w1.heap.size + 1, 2, none⟩ (.slice ao xo.length co) := ⟨_, rfl⟩
        rw [← hw7] at hk7 hb7 hr7 hii7 hio7 hrow7 hbt7
        have HW7 := Lib.hid hw7
        have HK7 := Lib.hid hk7
        have HB7 := Lib.hid hb7
        have HR7 := Lib.hid hr7
        have HII7 := Lib.hid hii7
        have HIO7 := Lib.hid hio7
        have HROW7 := Lib.hid hrow7
        have HBT7 := Lib.hid hbt7
        have HBF := Lib.hid (HB1.out.trans (hb7.mono HB1.out.size))
        clear hw7 hk7 hb7 hr7 hii7 hio7 hrow7 hbt7 hv2 hbk2 HR6 HII6 HIO6 HROW6 HK6 HB6
        go_upto_region 14 with (fail)
        rw [← HW7.out]
        clear HW7 y2 z2
        have r0 := HR7.out.cell 0
        have r1 := HR7.out.cell 1
        have f1 := HR7.out.free 1
        have t0 := HBT7.out.cell 0
        have t1 := HBT7.out.cell 1
        have t2 := HBT7.out.cell 2
        have g0 := HBT7.out.free 0
        have g1 := HBT7.out.free 1
        have g2 := HBT7.out.free 2
        by_cases he2 : e2 = 0
        · subst he2
          by_cases hl2 : 0 < l2.length
          · have hd := HFIN.out.2.1 rfl hl2
            have HDD := Lib.hid hd
            have hl2' : (0 : Int) < (l2.length : Int) := by omega
            generalize l2.length = n2 at *
            clear hd
            go_wp2_with fail
            have hr8 := HR7.out.set 1 (.int .i64 3)
            have hbt8 := HBT7.out.grown (gr_set (gr_refl w7 w1.heap.size) 1 (.int .i64 3)) (by simp; omega)
            have hb8 : Below w.heap.size w (w7.setCell ⟨w1.heap.size, 1, none⟩ (.int .i64 3)) := HBF.out.setCell (p := ⟨w1.heap.size, 1, none⟩) (Nat.le_of_lt hbt) (.int .i64 3)
            obtain ⟨w8, hw8⟩ : ∃ w8, w8 = w7.setCell ⟨w1.heap.size, 1, none⟩ (.int .i64 3) := ⟨_, rfl⟩
            rw [← hw8] at hr8 hbt8 hb8 ⊢
            have HBT8 := Lib.hid hbt8
            have HB8 := Lib.hid hb8
            clear r0 r1 f1 t0 t1 t2 g0 g1 g2 hw8
            have r1 := hr8.cell 1
            have t0 := hbt8.cell 0
            have t1 := hbt8.cell 1
            have t2 := hbt8.cell 2
            have g0 := hbt8.free 0
            have g1 := hbt8.free 1
            have g2 := hbt8.free 2
            clear hr8 hbt8 hb8
            go_region
            all_goals
              go_wp2
              have h3 := set3_all HBT8.out (.slice none 0 0) (.slice none 0 0) (.slice none 0 0)
              have hk3 := h3.1
              have hb3 := h3.2.2 HB8.out (Nat.le_refl _)
              clear h3
              generalize World.setCell _ _ _ = wf at *
              exact bodyPost_ret (results_state rfl _ _ _ _ _ _ rfl hk3) rfl ⟨_, by rw [HDD.out]; rfl, by rw [HDD.out]; exact st0_new _ _, by first | exact hb3 | exact below_drew hb3⟩
          · have hd := HFIN.out.2.2 rfl (by omega)
            have HDD := Lib.hid hd
            have hl2' : ¬ (0 : Int) < (l2.length : Int) := by omega
            have k0 := HK7.out.cell 0
            have k1 := HK7.out.cell 1
            have k2 := HK7.out.cell 2
            generalize l2.length = n2 at *
            clear hd
            go_wp2
            have h3 := set3_all HBT7.out (.slice acx L.length ccx) (.slice ai xi.length ci) (.slice ao xo.length co)
            have hk3 := h3.1
            have hb3 := h3.2.2 HBF.out (Nat.le_refl _)
            have hr3 := ((HROW7.out.far (by omega : w.heap.size < w3.heap.size) 0 (.slice acx L.length ccx)).far (by omega : w.heap.size < w3.heap.size) 1 (.slice ai xi.length ci)).far (by omega : w.heap.size < w3.heap.size) 2 (.slice ao xo.length co)
            have hi3 := h3.2.1 HII7.out (by decide)
            have ho3 := h3.2.1 HIO7.out (by decide)
            clear h3
            refine bodyPost_ret (results_state rfl _ _ _ _ _ _ rfl hk3) rfl ⟨_, by rw [HDD.out]; rfl, ?_, hb3⟩
            rw [HDD.out]
            exact StNew.mono (B := w3.heap.size) ⟨_, _, _, _, rfl, hr3, hi3, ho3⟩ (by omega)
        · have hd := HFIN.out.1 he2
          have HDD := Lib.hid hd
          have e4 : ((e2 : Int) == 0) = false := by simp; omega
          have e5 : ((e2 : Int) != 0) = true := by simp; omega
          generalize l2.length = n2 at *
          clear hd he2
          go_wp2_with fail
          go_region
          all_goals
            go_wp2
            have h3 := set3_all HBT7.out (.slice none 0 0) (.slice none 0 0) (.slice none 0 0)
            have hk3 := h3.1
            have hb3 := h3.2.2 HBF.out (Nat.le_refl _)
            clear h3
            generalize World.setCell _ _ _ = wf at *
            exact bodyPost_ret (results_state rfl _ _ _ _ _ _ rfl hk3) rfl ⟨_, by rw [HDD.out]; rfl, by rw [HDD.out]; exact st0_new _ _, by first | exact hb3 | exact below_drew hb3⟩
end Go.Proofs.Ytpbbiidfahaamaa
