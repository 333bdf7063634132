/- The walk of cpu.enter. -/
import Derived.Test.YtichiccohmeecaaDoorWhJ1
namespace Go.Proofs.YtichiccohmeecaaDoor
open Go.RowKit

theorem actInfo : (Tryd.prog.info? 53).map (fun i => (i.zero, i.size, i.bytes)) = some (some (.agg #[.int .i64 0, .bool false]), 2, 16) := by kernel_rfl
theorem clip_acts (a : Option Addr) (n c : Nat) (w : World) (hn : n ≤ c) (hc : c ≤ maxLen) (h0 : a = none → c = 0) :
    Calls Tryd.prog 46 #[.slice a n c] w fun e w' => e = .returned (.slice a n n) ∧ w' = w := by
  have hc63 : c ≤ 9223372036854775807 := by unfold maxLen at hc; omega
  have n0 : (0 : Int) ≤ (n : Int) := Int.natCast_nonneg _
  have hn' : (n : Int) ≤ (c : Int) := by omega
  cases a with
  | none =>
    have := h0 rfl
    subst this
    have : n = 0 := by omega
    subst this
    clear hc h0 hn hn' n0
    go_enter Tryd.func46, Tryd.ntmps46
    go_wp2
    go_ret
    exact ⟨rfl, rfl⟩
  | some ad =>
    clear hc h0
    go_enter Tryd.func46, Tryd.ntmps46
    go_wp2
    go_ret
    exact ⟨rfl, rfl⟩

def actsV (l : List (Int × Bool)) : List Value := l.flatMap (fun x => [.int .i64 x.1, .bool x.2])
theorem actsV_len : ∀ l : List (Int × Bool), (actsV l).length = l.length * 2
  | [] => rfl
  | x :: l => by
    have := actsV_len l
    unfold actsV at this ⊢
    rw [List.flatMap_cons, List.length_append, this, List.length_cons]
    simp
    omega
theorem actsV_snoc (l : List (Int × Bool)) (k : Int) (t : Bool) : actsV (l ++ [(k, t)]) = actsV l ++ [.int .i64 k, .bool t] := by
  unfold actsV
  rw [List.flatMap_append]
  rfl
theorem actsV_get : ∀ (l : List (Int × Bool)) (i : Nat) (x : Int × Bool), l[i]? = some x → (actsV l)[i * 2]? = some (.int .i64 x.1) ∧ (actsV l)[i * 2 + 1]? = some (.bool x.2)
  | [], i, x, h => by simp at h
  | y :: l, 0, x, h => by
    simp only [List.getElem?_cons_zero, Option.some.injEq] at h
    subst h
    exact ⟨rfl, rfl⟩
  | y :: l, i + 1, x, h => by
    simp only [List.getElem?_cons_succ] at h
    obtain ⟨h1, h2⟩ := actsV_get l i x h
    have e : actsV (y :: l) = .int .i64 y.1 :: .bool y.2 :: actsV l := rfl
    rw [e, show (i + 1) * 2 = i * 2 + 1 + 1 by omega]
    exact ⟨by rw [List.getElem?_cons_succ, List.getElem?_cons_succ]; exact h1, by rw [List.getElem?_cons_succ, List.getElem?_cons_succ]; exact h2⟩
theorem actsV_olds (l : List (Int × Bool)) (j : Nat) (u : Value) (h : (actsV l)[j]? = some u) : ∃ i x, l[i]? = some x ∧ ((j = i * 2 ∧ u = .int .i64 x.1) ∨ (j = i * 2 + 1 ∧ u = .bool x.2)) := by
  have hj : j < l.length * 2 := by have := (List.getElem?_eq_some_iff.1 h).1; rw [actsV_len] at this; exact this
  obtain ⟨x, hx⟩ : ∃ x, l[j / 2]? = some x := ⟨_, List.getElem?_eq_getElem (by omega)⟩
  obtain ⟨h1, h2⟩ := actsV_get l _ x hx
  refine ⟨j / 2, x, hx, ?_⟩
  rcases (show j = j / 2 * 2 ∨ j = j / 2 * 2 + 1 by omega) with e | e
  · left
    refine ⟨e, ?_⟩
    rw [e, h1] at h
    injection h with h
    exact h.symm
  · right
    refine ⟨e, ?_⟩
    rw [e, h2] at h
    injection h with h
    exact h.symm
theorem ActsIn.clip {P : Nat → Prop} {w : World} {a : Option Addr} {n c : Nat} {l : List (Int × Bool)} (h : ActsIn P w (.slice a n c) l) : n ≤ c ∧ c ≤ maxLen ∧ (a = none → c = 0) ∧ n = l.length := by
  obtain ⟨⟨a', c', he, h1, h2, _⟩, h3⟩ := h
  injection he with e1 e2 e3
  subst e1 e2 e3
  exact ⟨h1, h2, fun ha => h3 l.length c (by rw [ha]), rfl⟩
theorem ActsIn.olds {P : Nat → Prop} {w : World} {a : Option Addr} {n c : Nat} {l : List (Int × Bool)} (h : ActsIn P w (.slice a n c) l) : ∀ b, a = some b → ∀ (j : Nat) u, (actsV l)[j]? = some u → w.cell? (b.add j) = some u := by
  intro b hb j u hu
  obtain ⟨⟨a', c', he, h1, h2, h3⟩, _⟩ := h
  injection he with e1 e2 e3
  subst e1 e2 e3
  obtain ⟨i, x, hx, hc⟩ := actsV_olds l j u hu
  have hi := (List.getElem?_eq_some_iff.1 hx).1
  obtain ⟨g, o, e, _, _, hq⟩ := h3 (by omega)
  rw [hb] at e
  injection e with e
  subst e
  rw [Go.WideShapes.add_plain]
  rcases hc with ⟨rfl, rfl⟩ | ⟨rfl, rfl⟩
  · exact (hq i x hx).1
  · exact (hq i x hx).2
theorem ActsIn.trim {P : Nat → Prop} {w : World} {a : Option Addr} {n c : Nat} {l : List (Int × Bool)} (h : ActsIn P w (.slice a n c) l) {j : Nat} (hj : j ≤ n) : ActsIn P w (.slice a j c) (l.take j) := by
  obtain ⟨⟨a', c', he, h1, h2, h3⟩, h4⟩ := h
  injection he with e1 e2 e3
  subst e1 e2 e3
  have hl : (l.take j).length = j := by rw [List.length_take]; omega
  refine ⟨⟨a, c, by rw [hl], by omega, h2, fun hp => ?_⟩, fun n' c' hv => ?_⟩
  · obtain ⟨g, o, e, q1, q2, q3⟩ := h3 (by omega)
    refine ⟨g, o, e, q1, q2, fun i x hx => q3 i x ?_⟩
    rw [List.getElem?_take] at hx
    split at hx
    · exact hx
    · cases hx
  · injection hv with e1 e2 e3
    subst e1 e3
    exact h4 _ _ rfl
theorem own_acts {w : World} {base : Nat} {v : Value} {l : List (Int × Bool)} {P : Nat → Prop} (h : w.ownsRow base 53 2 v l.length (actsV l)) (hp : ∀ j, v.ownBlock = some j → P j) : ActsIn P w v l := by
  refine ⟨?_, own_nil h⟩
  rcases h.2 with ⟨rfl, h0⟩ | ⟨g, cap, cur, rfl, _, hg, hn, hm, hc, ht⟩
  · exact ⟨none, 0, by rw [h0], by omega, by unfold maxLen; omega, fun h => by omega⟩
  · refine ⟨_, cap, rfl, hn, hm, fun hp0 => ⟨g, 0, rfl, (Array.getElem?_eq_some_iff.1 hg).1, hp g rfl, fun i x hx => ?_⟩⟩
    have hi : i < l.length := (List.getElem?_eq_some_iff.1 hx).1
    obtain ⟨h1, h2⟩ := actsV_get l i x hx
    have k1 := h.cellAt (i * 2) (by omega)
    have k2 := h.cellAt (i * 2 + 1) (by omega)
    refine ⟨?_, ?_⟩
    · rw [Nat.zero_add, k1]
      exact h1
    · rw [Nat.zero_add, k2]
      exact h2
theorem MachW.setcalls {F : Nat → Prop} {w : World} {g : Nat} {m : Mach} {V : MV} (h : MachW F w g m V) (u : Value) (l : List (Int × Bool)) (hu : ActsIn (RO F g V) w u l) : MachW F (w.setCell ⟨g, 20, none⟩ u) g { m with calls := l } { V with vC := u } :=
  h.put (vC := u) (vI := V.vI) (vO := V.vO) (mcs_calls m V u l) rfl rfl hu h.inp h.out
theorem calls_done {F : Nat → Prop} {w W w' : World} {g B : Nat} {m : Mach} {V : MV} {l : List (Int × Bool)} {v' : Value} (hM : MachW F W g m V) (hT : Touch F w W) (hb : Below W.heap.size W w')
    (hown : w'.ownsRow B 53 2 v' l.length (actsV l)) (hB : W.heap.size ≤ B) : Touch F w (w'.setCell ⟨g, 20, none⟩ v') ∧ MachW (grow F w w') (w'.setCell ⟨g, 20, none⟩ v') g { m with calls := l } { V with vC := v' } := by
  have h1 : MachW (grow F w w') w' g m V := (hM.below hb).mono (fun _ h => .inl h)
  exact ⟨(hT.below hb).of_set (.inl hM.own) _ _, h1.setcalls v' l (own_acts hown (own_fresh hM hT.size hown hB))⟩
theorem news2 (w : World) (c0 c1 : Value) (t : TypeId) : ∀ j x, [c0, c1][j]? = some x → (w.alloc (.cells #[c0, c1] t)).cell? ((⟨w.heap.size, 0, none⟩ : Addr).add j) = some x := fun j x h => by
  rw [Go.WideShapes.add_plain, Nat.zero_add, World.cell?_alloc_at _ _ _ _ rfl]
  simpa using h
theorem one2 (a : Int) (b : Bool) : ∀ u ∈ [Value.int .i64 a, .bool b], u.oneCell' = true := by
  intro u hu
  simp only [List.mem_cons, List.not_mem_nil, or_false] at hu
  rcases hu with rfl | rfl <;> rfl
theorem grown_below2 {W w' : World} {o : Obj} (h : (W.alloc o).grownBy w' none) : Below W.heap.size W w' := (below_alloc W o).trans ((grown_below h).mono (below_alloc W o).size)
theorem exec_end {F : Nat → Prop} {w w1 w' : World} {g : Nat} {m' : Mach} {V' : MV} {e : Ending} {e0 : Int} (hM : MachW (grow F w w1) w' g m' V') (hT : Touch F w w') (hs : w'.heap.size = w1.heap.size) (he : e = .returned (.int .i64 e0)) : ExecR F w g (e0, m') e w' :=
  ⟨V', he, hT, hM.mono (fun j hj => by unfold grow at hj ⊢; rw [hs]; exact hj)⟩
theorem partner_in {C : List Ins} {k t : Int} (h : partner C k = some t) : 0 ≤ k ∧ k < C.length := by
  unfold partner at h
  split at h
  · rename_i hc
    exact inR_iff.1 hc
  · cases h

set_option maxRecDepth 100000 in
set_option maxHeartbeats 8000000 in
theorem enter_any {P : Nat → Prop} (F : Nat → Prop) (g : Nat) (m : Mach) (V : MV) (im : Im) (vc : Value) (w : World) (h : MachW F w g m V) (hC : CodeIn P w vc im.code) (hT : TabAt w) (k : Nat) (hk : k < im.code.length) (hl : im.code.length ≤ 1000000)
    (hd : m.dir = 1 ∨ m.dir = -1) (ho : (cAt im.code k).op = 30 ∨ (cAt im.code k).op = 31) (hcl : m.calls.length ≤ 100) :
    Calls Tryd.prog 32 #[imV vc im, .pointer (some ⟨g, 0, none⟩), .int .i64 k] w (ExecR F w g (enterP im m k)) := by
  obtain ⟨B, hB⟩ : ∃ B, B = w.alloc (.cells #[vc, .int .i64 im.mem, .int .i64 im.stacks] 24) := ⟨_, rfl⟩
  have hbel : Below w.heap.size w B := by rw [hB]; exact below_alloc _ _
  have hbx : Blk B w.heap.size 24 #[vc, .int .i64 im.mem, .int .i64 im.stacks] := by rw [hB]; exact Blk.new _ _ _
  have HM := Lib.hid (h.below hbel)
  have HT : Hid (Touch F w B) := Lib.hid (Touch.of_below hbel)
  have HCB := Lib.hid (hC.below hbel)
  have HTB := Lib.hid (hT.below hbel)
  have HB := Lib.hid hB
  have hgl : g < B.heap.size := HM.out.blk.lt
  have hbl : w.heap.size < B.heap.size := by rw [hB]; simp
  have y0 : B.cell? ⟨g, 0, none⟩ = some (.int .i64 m.pc) := HM.out.cell (by decide)
  have y1 : B.cell? ⟨g, 1, none⟩ = some (.int .i64 m.dir) := HM.out.cell (by decide)
  have f0 : B.frozen? ⟨g, 0, none⟩ = false := HM.out.blk.free 0
  have f1 : B.frozen? ⟨g, 1, none⟩ = false := HM.out.blk.free 1
  have f20 : B.frozen? ⟨g, 20, none⟩ = false := HM.out.blk.free 20
  have b0 := hbx.cell 0
  have b1 := hbx.cell 1
  have b2 := hbx.cell 2
  have hC' := hC
  obtain ⟨ac, cp, rfl, hn, hm, hq⟩ := hC'
  obtain ⟨gc, o, rfl, hgcw, hp, hcell⟩ := hq (by omega)
  have hgc := Nat.lt_of_lt_of_le hgcw hbel.size
  obtain ⟨x, hx⟩ := get_lt rfl hk
  obtain ⟨e0, cw, e2, e3, e4⟩ := hcell k x hx
  have c0 := cell_lo hbel hgcw e0
  have c1 := cell_lo hbel hgcw cw
  have c2 := cell_lo hbel hgcw e2
  have c3 := cell_lo hbel hgcw e3
  have c4 := cell_lo hbel hgcw e4
  have hkn : (k : Int) < (im.code.length : Int) := by omega
  have hk0 : (0 : Int) ≤ (k : Int) := Int.natCast_nonneg _
  have hn63 : im.code.length ≤ 9223372036854775807 := by omega
  have hl1 : (im.code.length : Int) ≤ 1000000 := by omega
  obtain ⟨ll, hll⟩ : ∃ ll, im.code.length = ll := ⟨_, rfl⟩
  have HLL := Lib.hid hll
  rw [hll] at b0 hkn hn63 hl1 hn HCB HB
  have ex : cAt im.code k = x := ex2 hx
  obtain ⟨⟨aA, cA, hvA, -, -, -⟩, -⟩ := id HM.out.acts
  have HAI : Hid (∀ w', Keep F B w' → ActsIn (RO F g V) w' (.slice aA m.calls.length cA) m.calls) := Lib.hid (fun w' hk' => by rw [← hvA]; exact HM.out.acts.keep (hk'.mono (fun _ hr => hr.1)) (fun _ h => h))
  have y20 : B.cell? ⟨g, 20, none⟩ = some (.slice aA m.calls.length cA) := by rw [← hvA]; exact HM.out.cell (by decide)
  have hac := (HAI.out B ⟨Nat.le_refl _, fun _ _ _ => rfl⟩).clip
  obtain ⟨hac1, hac2, hac3, -⟩ := hac
  obtain ⟨na, hna⟩ : ∃ na, m.calls.length = na := ⟨_, rfl⟩
  have HNA := Lib.hid hna
  unfold enterP
  rw [ex] at ho ⊢
  rw [hna] at HAI y20 hac1 hcl ⊢
  have hac1' : (na : Int) ≤ (cA : Int) := by omega
  have na0 : (0 : Int) ≤ (na : Int) := Int.natCast_nonneg _
  have na1 : (na : Int) ≤ 100 := by omega
  have HA1 := Lib.hid hac1
  have HA2 := Lib.hid hac2
  have HA3 := Lib.hid hac3
  obtain ⟨xo, xa, xb, xc, xd⟩ := x
  dsimp only at c0 c1 c2 c3 c4 cw ho ⊢
  obtain ⟨dir, hdir⟩ : ∃ dir, m.dir = dir := ⟨_, rfl⟩
  rw [hdir] at y1 hd ⊢
  have HDIR := Lib.hid hdir
  obtain ⟨pc, hpc⟩ : ∃ pc, m.pc = pc := ⟨_, rfl⟩
  rw [hpc] at y0
  clear e0 e2 e3 e4 h hC hB hbel hbx hm hq hcell hll ex hT hvA hac1 hac2 hac3 hna hp hx hk hn hl hpc
  have HPA : Hid (Calls Tryd.prog 45 #[.agg #[.slice (some ⟨gc, o, none⟩) ll cp, .int .i64 im.mem, .int .i64 im.stacks], .int .i64 xa] B (ParR (partner im.code xa) B)) := Lib.hid (partner_any im.code _ _ _ xa B HCB.out HTB.out)
  unfold imV
  rw [HLL.out]
  obtain ⟨mm, hmm⟩ : ∃ mm, im.mem = mm := ⟨_, rfl⟩
  obtain ⟨ss, hss⟩ : ∃ ss, im.stacks = ss := ⟨_, rfl⟩
  rw [hmm, hss] at HPA HB ⊢
  rw [hmm] at b1
  rw [hss] at b2
  clear hmm hss HCB HTB
  cases hpn : partner im.code xa with
  | none =>
    dsimp only
    rw [hpn] at HPA
    clear hpn ho hd
    go_enter Tryd.func32, Tryd.ntmps32
    go_wp2_with fail
    rw [← HB.out]
    refine HPA.out.mono ?_
    rintro e w1 ⟨he, hb⟩
    obtain rfl : e = .returned (.tuple #[.int .i64 0, .bool false]) := he
    go_wp2
    go_ret
    exact exec_done (HM.out.below hb) (HT.out.below hb) rfl
  | some t =>
    dsimp only
    rw [hpn] at HPA
    obtain ⟨hxa0, hxa1⟩ := partner_in hpn
    have hxa2 : xa ≤ 1000000 := by have := HLL.out; omega
    clear hpn hxa1
    have HKB : Hid (∀ w', Below B.heap.size B w' → Keep F B w') := Lib.hid (fun w' hb => Keep.of_below hb)
    by_cases h1 : 100 ≤ na
    · rw [if_pos h1]
      have g1 : decide (100 ≤ (na : Int)) = true := decide_eq_true (by omega)
      clear h1 ho hd
      go_enter Tryd.func32, Tryd.ntmps32
      go_wp2_with fail
      rw [← HB.out]
      refine HPA.out.mono ?_
      rintro e w1 ⟨he, hb⟩
      obtain rfl : e = .returned (.tuple #[.int .i64 t, .bool true]) := he
      have hbl0 := hbl
      have hgc0 := hgc
      have hgl0 := hgl
      have b0 := cell_lo hb hbl b0
      have b1 := cell_lo hb hbl b1
      have b2 := cell_lo hb hbl b2
      have c0 := cell_lo hb hgc c0
      have c1 := cell_lo hb hgc c1
      have c2 := cell_lo hb hgc c2
      have c3 := cell_lo hb hgc c3
      have c4 := cell_lo hb hgc c4
      have y1 := cell_lo hb hgl y1
      have y0 := cell_lo hb hgl y0
      have y20 := cell_lo hb hgl y20
      have f0 := (hb.frozen (p := ⟨g, 0, none⟩) hgl).trans f0
      have f1 := (hb.frozen (p := ⟨g, 1, none⟩) hgl).trans f1
      have f20 := (hb.frozen (p := ⟨g, 20, none⟩) hgl).trans f20
      have HM := Lib.hid (HM.out.below hb)
      have HT := Lib.hid (HT.out.below hb)
      have hbl := Nat.lt_of_lt_of_le hbl hb.size
      have hgc := Nat.lt_of_lt_of_le hgc hb.size
      have hgl := Nat.lt_of_lt_of_le hgl hb.size
      clear hbl0 hgc0 hgl0
      clear hb
      go_wp2
      go_ret
      exact exec_done HM.out HT.out rfl
    rw [if_neg h1]
    have g1 : decide (100 ≤ (na : Int)) = false := decide_eq_false (by omega)
    clear h1
    obtain ⟨i0, hi, hz0, hz1, hz2⟩ := info_parts actInfo
    rcases ho with rfl | rfl
    · rcases hd with rfl | rfl
      · rw [show decide ((30 : Nat) = 31) = false from rfl]
        have c0 : B.cell? ⟨gc, o + k * 5, none⟩ = some (.int .u8 30) := c0
        go_enter Tryd.func32, Tryd.ntmps32
        go_wp2_with fail
        rw [← HB.out]
        refine HPA.out.mono ?_
        rintro e w1 ⟨he, hb⟩
        obtain rfl : e = .returned (.tuple #[.int .i64 t, .bool true]) := he
        have hbl0 := hbl
        have hgc0 := hgc
        have hgl0 := hgl
        have b0 := cell_lo hb hbl b0
        have b1 := cell_lo hb hbl b1
        have b2 := cell_lo hb hbl b2
        have c0 := cell_lo hb hgc c0
        have c1 := cell_lo hb hgc c1
        have c2 := cell_lo hb hgc c2
        have c3 := cell_lo hb hgc c3
        have c4 := cell_lo hb hgc c4
        have y1 := cell_lo hb hgl y1
        have y0 := cell_lo hb hgl y0
        have y20 := cell_lo hb hgl y20
        have f0 := (hb.frozen (p := ⟨g, 0, none⟩) hgl).trans f0
        have f1 := (hb.frozen (p := ⟨g, 1, none⟩) hgl).trans f1
        have f20 := (hb.frozen (p := ⟨g, 20, none⟩) hgl).trans f20
        have HM := Lib.hid (HM.out.below hb)
        have HT := Lib.hid (HT.out.below hb)
        have hbl := Nat.lt_of_lt_of_le hbl hb.size
        have hgc := Nat.lt_of_lt_of_le hgc hb.size
        have hgl := Nat.lt_of_lt_of_le hgl hb.size
        clear hbl0 hgc0 hgl0
        have HOL : Hid (∀ o b, aA = some b → ∀ (j : Nat) u, (actsV m.calls)[j]? = some u → (w1.alloc o).cell? (b.add j) = some u) := Lib.hid (fun o => (HAI.out (w1.alloc o) (Keep.of_below (hb.trans ((below_alloc w1 o).mono hb.size)))).olds)
        have HDA : Hid (∀ w' o, (w1.alloc o).grownBy w' none → Below w1.heap.size w1 w' ∧ w1.heap.size ≤ (w1.alloc o).heap.size) := Lib.hid (fun w' o h => ⟨grown_below2 h, (below_alloc w1 o).size⟩)
        clear hb
        go_wp2_with fail
        refine (clip_acts aA na cA _ HA1.out HA2.out HA3.out).mono ?_
        rintro e w2 ⟨rfl, rfl⟩
        go_wp2_with (at_builtin; refine wpList_append_grows _ rfl (.tmp 43) (.tmp 47) 28 rfl 53 i0 (.agg #[.int .i64 0, .bool false]) 2 16 Tryd.underlying28 hi hz0 hz1 hz2 rfl (by decide) aA na na (actsV m.calls) rfl (fun h => by have := HA3.out h; omega) (by rw [actsV_len, HNA.out]) (HOL.out _) ⟨w2.heap.size, 0, none⟩ 1 1 [.int .i64 k, .bool false] rfl rfl (news2 _ _ _ _) (one2 _ _) (by omega) (by unfold maxLen; omega) (by omega) ?_; intro v' w' hown hgrow; obtain ⟨hbel, hbs⟩ := HDA.out _ _ hgrow; obtain ⟨hT3, hM3⟩ := calls_done (l := m.calls ++ [((k : Int), false)]) HM.out HT.out hbel (by rw [List.length_append, HNA.out, actsV_snoc]; exact hown) hbs; obtain ⟨ao', cp', hv'⟩ := own_form hown; subst hv'; have hbl0 := hbl; have hgc0 := hgc; have hgl0 := hgl; have b0 := cell_lo hbel hbl b0; have b1 := cell_lo hbel hbl b1; have b2 := cell_lo hbel hbl b2; have c0 := cell_lo hbel hgc c0; have c1 := cell_lo hbel hgc c1; have c2 := cell_lo hbel hgc c2; have c3 := cell_lo hbel hgc c3; have c4 := cell_lo hbel hgc c4; have y1 := cell_lo hbel hgl y1; have y0 := cell_lo hbel hgl y0; have y20 := cell_lo hbel hgl y20; have f0 := (hbel.frozen (p := ⟨g, 0, none⟩) hgl).trans f0; have f1 := (hbel.frozen (p := ⟨g, 1, none⟩) hgl).trans f1; have f20 := (hbel.frozen (p := ⟨g, 20, none⟩) hgl).trans f20; have HT3 := Lib.hid hT3; have HM3 := Lib.hid hM3; clear hown hgrow hT3 hM3 hbel hbs)
        go_ret
        rw [show goOf (dirOf false (1)) xa t = xa + 1 from rfl, show dirOf false (1) = m.dir from HDIR.out.symm]
        exact exec_end ((HM3.out.pc _).pc _) ((HT3.out.of_set (.inl HM.out.own) _ _).of_set (.inl HM.out.own) _ _) (by simp [World.setCell]) rfl
      · rw [show decide ((30 : Nat) = 31) = false from rfl]
        have c0 : B.cell? ⟨gc, o + k * 5, none⟩ = some (.int .u8 30) := c0
        go_enter Tryd.func32, Tryd.ntmps32
        go_wp2_with fail
        rw [← HB.out]
        refine HPA.out.mono ?_
        rintro e w1 ⟨he, hb⟩
        obtain rfl : e = .returned (.tuple #[.int .i64 t, .bool true]) := he
        have hbl0 := hbl
        have hgc0 := hgc
        have hgl0 := hgl
        have b0 := cell_lo hb hbl b0
        have b1 := cell_lo hb hbl b1
        have b2 := cell_lo hb hbl b2
        have c0 := cell_lo hb hgc c0
        have c1 := cell_lo hb hgc c1
        have c2 := cell_lo hb hgc c2
        have c3 := cell_lo hb hgc c3
        have c4 := cell_lo hb hgc c4
        have y1 := cell_lo hb hgl y1
        have y0 := cell_lo hb hgl y0
        have y20 := cell_lo hb hgl y20
        have f0 := (hb.frozen (p := ⟨g, 0, none⟩) hgl).trans f0
        have f1 := (hb.frozen (p := ⟨g, 1, none⟩) hgl).trans f1
        have f20 := (hb.frozen (p := ⟨g, 20, none⟩) hgl).trans f20
        have HM := Lib.hid (HM.out.below hb)
        have HT := Lib.hid (HT.out.below hb)
        have hbl := Nat.lt_of_lt_of_le hbl hb.size
        have hgc := Nat.lt_of_lt_of_le hgc hb.size
        have hgl := Nat.lt_of_lt_of_le hgl hb.size
        clear hbl0 hgc0 hgl0
        have HOL : Hid (∀ o b, aA = some b → ∀ (j : Nat) u, (actsV m.calls)[j]? = some u → (w1.alloc o).cell? (b.add j) = some u) := Lib.hid (fun o => (HAI.out (w1.alloc o) (Keep.of_below (hb.trans ((below_alloc w1 o).mono hb.size)))).olds)
        have HDA : Hid (∀ w' o, (w1.alloc o).grownBy w' none → Below w1.heap.size w1 w' ∧ w1.heap.size ≤ (w1.alloc o).heap.size) := Lib.hid (fun w' o h => ⟨grown_below2 h, (below_alloc w1 o).size⟩)
        clear hb
        go_wp2_with fail
        refine (clip_acts aA na cA _ HA1.out HA2.out HA3.out).mono ?_
        rintro e w2 ⟨rfl, rfl⟩
        go_wp2_with (at_builtin; refine wpList_append_grows _ rfl (.tmp 43) (.tmp 47) 28 rfl 53 i0 (.agg #[.int .i64 0, .bool false]) 2 16 Tryd.underlying28 hi hz0 hz1 hz2 rfl (by decide) aA na na (actsV m.calls) rfl (fun h => by have := HA3.out h; omega) (by rw [actsV_len, HNA.out]) (HOL.out _) ⟨w2.heap.size, 0, none⟩ 1 1 [.int .i64 k, .bool false] rfl rfl (news2 _ _ _ _) (one2 _ _) (by omega) (by unfold maxLen; omega) (by omega) ?_; intro v' w' hown hgrow; obtain ⟨hbel, hbs⟩ := HDA.out _ _ hgrow; obtain ⟨hT3, hM3⟩ := calls_done (l := m.calls ++ [((k : Int), false)]) HM.out HT.out hbel (by rw [List.length_append, HNA.out, actsV_snoc]; exact hown) hbs; obtain ⟨ao', cp', hv'⟩ := own_form hown; subst hv'; have hbl0 := hbl; have hgc0 := hgc; have hgl0 := hgl; have b0 := cell_lo hbel hbl b0; have b1 := cell_lo hbel hbl b1; have b2 := cell_lo hbel hbl b2; have c0 := cell_lo hbel hgc c0; have c1 := cell_lo hbel hgc c1; have c2 := cell_lo hbel hgc c2; have c3 := cell_lo hbel hgc c3; have c4 := cell_lo hbel hgc c4; have y1 := cell_lo hbel hgl y1; have y0 := cell_lo hbel hgl y0; have y20 := cell_lo hbel hgl y20; have f0 := (hbel.frozen (p := ⟨g, 0, none⟩) hgl).trans f0; have f1 := (hbel.frozen (p := ⟨g, 1, none⟩) hgl).trans f1; have f20 := (hbel.frozen (p := ⟨g, 20, none⟩) hgl).trans f20; have HT3 := Lib.hid hT3; have HM3 := Lib.hid hM3; clear hown hgrow hT3 hM3 hbel hbs)
        go_ret
        rw [show goOf (dirOf false (-1)) xa t = t from rfl, show dirOf false (-1) = m.dir from HDIR.out.symm]
        exact exec_end (HM3.out.pc _) (HT3.out.of_set (.inl HM.out.own) _ _) (by simp [World.setCell]) rfl
    · rcases hd with rfl | rfl
      · rw [show decide ((31 : Nat) = 31) = true from rfl]
        have c0 : B.cell? ⟨gc, o + k * 5, none⟩ = some (.int .u8 31) := c0
        go_enter Tryd.func32, Tryd.ntmps32
        go_wp2_with fail
        rw [← HB.out]
        refine HPA.out.mono ?_
        rintro e w1 ⟨he, hb⟩
        obtain rfl : e = .returned (.tuple #[.int .i64 t, .bool true]) := he
        have hbl0 := hbl
        have hgc0 := hgc
        have hgl0 := hgl
        have b0 := cell_lo hb hbl b0
        have b1 := cell_lo hb hbl b1
        have b2 := cell_lo hb hbl b2
        have c0 := cell_lo hb hgc c0
        have c1 := cell_lo hb hgc c1
        have c2 := cell_lo hb hgc c2
        have c3 := cell_lo hb hgc c3
        have c4 := cell_lo hb hgc c4
        have y1 := cell_lo hb hgl y1
        have y0 := cell_lo hb hgl y0
        have y20 := cell_lo hb hgl y20
        have f0 := (hb.frozen (p := ⟨g, 0, none⟩) hgl).trans f0
        have f1 := (hb.frozen (p := ⟨g, 1, none⟩) hgl).trans f1
        have f20 := (hb.frozen (p := ⟨g, 20, none⟩) hgl).trans f20
        have HM := Lib.hid (HM.out.below hb)
        have HT := Lib.hid (HT.out.below hb)
        have hbl := Nat.lt_of_lt_of_le hbl hb.size
        have hgc := Nat.lt_of_lt_of_le hgc hb.size
        have hgl := Nat.lt_of_lt_of_le hgl hb.size
        clear hbl0 hgc0 hgl0
        have HOL : Hid (∀ o b, aA = some b → ∀ (j : Nat) u, (actsV m.calls)[j]? = some u → (w1.alloc o).cell? (b.add j) = some u) := Lib.hid (fun o => (HAI.out (w1.alloc o) (Keep.of_below (hb.trans ((below_alloc w1 o).mono hb.size)))).olds)
        have HDA : Hid (∀ w' o, (w1.alloc o).grownBy w' none → Below w1.heap.size w1 w' ∧ w1.heap.size ≤ (w1.alloc o).heap.size) := Lib.hid (fun w' o h => ⟨grown_below2 h, (below_alloc w1 o).size⟩)
        clear hb
        go_wp2_with fail
        refine (clip_acts aA na cA _ HA1.out HA2.out HA3.out).mono ?_
        rintro e w2 ⟨rfl, rfl⟩
        go_wp2_with (at_builtin; refine wpList_append_grows _ rfl (.tmp 43) (.tmp 47) 28 rfl 53 i0 (.agg #[.int .i64 0, .bool false]) 2 16 Tryd.underlying28 hi hz0 hz1 hz2 rfl (by decide) aA na na (actsV m.calls) rfl (fun h => by have := HA3.out h; omega) (by rw [actsV_len, HNA.out]) (HOL.out _) ⟨w2.heap.size, 0, none⟩ 1 1 [.int .i64 k, .bool true] rfl rfl (news2 _ _ _ _) (one2 _ _) (by omega) (by unfold maxLen; omega) (by omega) ?_; intro v' w' hown hgrow; obtain ⟨hbel, hbs⟩ := HDA.out _ _ hgrow; obtain ⟨hT3, hM3⟩ := calls_done (l := m.calls ++ [((k : Int), true)]) HM.out HT.out hbel (by rw [List.length_append, HNA.out, actsV_snoc]; exact hown) hbs; obtain ⟨ao', cp', hv'⟩ := own_form hown; subst hv'; have hbl0 := hbl; have hgc0 := hgc; have hgl0 := hgl; have b0 := cell_lo hbel hbl b0; have b1 := cell_lo hbel hbl b1; have b2 := cell_lo hbel hbl b2; have c0 := cell_lo hbel hgc c0; have c1 := cell_lo hbel hgc c1; have c2 := cell_lo hbel hgc c2; have c3 := cell_lo hbel hgc c3; have c4 := cell_lo hbel hgc c4; have y1 := cell_lo hbel hgl y1; have y0 := cell_lo hbel hgl y0; have y20 := cell_lo hbel hgl y20; have f0 := (hbel.frozen (p := ⟨g, 0, none⟩) hgl).trans f0; have f1 := (hbel.frozen (p := ⟨g, 1, none⟩) hgl).trans f1; have f20 := (hbel.frozen (p := ⟨g, 20, none⟩) hgl).trans f20; have HT3 := Lib.hid hT3; have HM3 := Lib.hid hM3; clear hown hgrow hT3 hM3 hbel hbs)
        refine (turn_any _ g _ _ _ HM3.out (by first | exact .inl HDIR.out | exact .inr HDIR.out)).mono ?_
        rintro e w3 ⟨rfl, rfl⟩
        rw [show (-({ m with calls := m.calls ++ [((k : Int), true)] } : Mach).dir) = (-1 : Int) by have := HDIR.out; show -m.dir = _; omega]
        go_wp2
        go_ret
        rw [show goOf (dirOf true (1)) xa t = t from rfl]
        exact exec_end ((HM3.out.dir (-1)).pc _) ((HT3.out.of_set (.inl HM.out.own) _ _).of_set (.inl HM.out.own) _ _) (by simp [World.setCell]) rfl
      · rw [show decide ((31 : Nat) = 31) = true from rfl]
        have c0 : B.cell? ⟨gc, o + k * 5, none⟩ = some (.int .u8 31) := c0
        go_enter Tryd.func32, Tryd.ntmps32
        go_wp2_with fail
        rw [← HB.out]
        refine HPA.out.mono ?_
        rintro e w1 ⟨he, hb⟩
        obtain rfl : e = .returned (.tuple #[.int .i64 t, .bool true]) := he
        have hbl0 := hbl
        have hgc0 := hgc
        have hgl0 := hgl
        have b0 := cell_lo hb hbl b0
        have b1 := cell_lo hb hbl b1
        have b2 := cell_lo hb hbl b2
        have c0 := cell_lo hb hgc c0
        have c1 := cell_lo hb hgc c1
        have c2 := cell_lo hb hgc c2
        have c3 := cell_lo hb hgc c3
        have c4 := cell_lo hb hgc c4
        have y1 := cell_lo hb hgl y1
        have y0 := cell_lo hb hgl y0
        have y20 := cell_lo hb hgl y20
        have f0 := (hb.frozen (p := ⟨g, 0, none⟩) hgl).trans f0
        have f1 := (hb.frozen (p := ⟨g, 1, none⟩) hgl).trans f1
        have f20 := (hb.frozen (p := ⟨g, 20, none⟩) hgl).trans f20
        have HM := Lib.hid (HM.out.below hb)
        have HT := Lib.hid (HT.out.below hb)
        have hbl := Nat.lt_of_lt_of_le hbl hb.size
        have hgc := Nat.lt_of_lt_of_le hgc hb.size
        have hgl := Nat.lt_of_lt_of_le hgl hb.size
        clear hbl0 hgc0 hgl0
        have HOL : Hid (∀ o b, aA = some b → ∀ (j : Nat) u, (actsV m.calls)[j]? = some u → (w1.alloc o).cell? (b.add j) = some u) := Lib.hid (fun o => (HAI.out (w1.alloc o) (Keep.of_below (hb.trans ((below_alloc w1 o).mono hb.size)))).olds)
        have HDA : Hid (∀ w' o, (w1.alloc o).grownBy w' none → Below w1.heap.size w1 w' ∧ w1.heap.size ≤ (w1.alloc o).heap.size) := Lib.hid (fun w' o h => ⟨grown_below2 h, (below_alloc w1 o).size⟩)
        clear hb
        go_wp2_with fail
        refine (clip_acts aA na cA _ HA1.out HA2.out HA3.out).mono ?_
        rintro e w2 ⟨rfl, rfl⟩
        go_wp2_with (at_builtin; refine wpList_append_grows _ rfl (.tmp 43) (.tmp 47) 28 rfl 53 i0 (.agg #[.int .i64 0, .bool false]) 2 16 Tryd.underlying28 hi hz0 hz1 hz2 rfl (by decide) aA na na (actsV m.calls) rfl (fun h => by have := HA3.out h; omega) (by rw [actsV_len, HNA.out]) (HOL.out _) ⟨w2.heap.size, 0, none⟩ 1 1 [.int .i64 k, .bool true] rfl rfl (news2 _ _ _ _) (one2 _ _) (by omega) (by unfold maxLen; omega) (by omega) ?_; intro v' w' hown hgrow; obtain ⟨hbel, hbs⟩ := HDA.out _ _ hgrow; obtain ⟨hT3, hM3⟩ := calls_done (l := m.calls ++ [((k : Int), true)]) HM.out HT.out hbel (by rw [List.length_append, HNA.out, actsV_snoc]; exact hown) hbs; obtain ⟨ao', cp', hv'⟩ := own_form hown; subst hv'; have hbl0 := hbl; have hgc0 := hgc; have hgl0 := hgl; have b0 := cell_lo hbel hbl b0; have b1 := cell_lo hbel hbl b1; have b2 := cell_lo hbel hbl b2; have c0 := cell_lo hbel hgc c0; have c1 := cell_lo hbel hgc c1; have c2 := cell_lo hbel hgc c2; have c3 := cell_lo hbel hgc c3; have c4 := cell_lo hbel hgc c4; have y1 := cell_lo hbel hgl y1; have y0 := cell_lo hbel hgl y0; have y20 := cell_lo hbel hgl y20; have f0 := (hbel.frozen (p := ⟨g, 0, none⟩) hgl).trans f0; have f1 := (hbel.frozen (p := ⟨g, 1, none⟩) hgl).trans f1; have f20 := (hbel.frozen (p := ⟨g, 20, none⟩) hgl).trans f20; have HT3 := Lib.hid hT3; have HM3 := Lib.hid hM3; clear hown hgrow hT3 hM3 hbel hbs)
        refine (turn_any _ g _ _ _ HM3.out (by first | exact .inl HDIR.out | exact .inr HDIR.out)).mono ?_
        rintro e w3 ⟨rfl, rfl⟩
        rw [show (-({ m with calls := m.calls ++ [((k : Int), true)] } : Mach).dir) = (1 : Int) by have := HDIR.out; show -m.dir = _; omega]
        go_wp2
        go_ret
        rw [show goOf (dirOf true (-1)) xa t = xa + 1 from rfl]
        exact exec_end (((HM3.out.dir (1)).pc _).pc _) (((HT3.out.of_set (.inl HM.out.own) _ _).of_set (.inl HM.out.own) _ _).of_set (.inl HM.out.own) _ _) (by simp [World.setCell]) rfl

end Go.Proofs.YtichiccohmeecaaDoor
