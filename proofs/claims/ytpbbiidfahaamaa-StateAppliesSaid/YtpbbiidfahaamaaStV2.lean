/- The walk of change. -/
import Derived.Test.YtpbbiidfahaamaaStV1
namespace Go.Proofs.Ytpbbiidfahaamaa
open Go.RowKit

def chgP (c : Chg) (q : Sq) : Nat × Sq :=
  if c.pos < -1 ∨ 4096 ≤ c.pos then (2, q)
  else if c.pos = -1 then (if c.new < 0 ∨ 4096 < c.new then (2, q) else if c.old ≠ q.len then (20, q) else (0, ⟨c.new, q.els⟩))
  else if c.old ≠ q.els.getD c.pos.toNat 0 then (20, q)
  else (0, ⟨q.len, (pad (c.pos.toNat + 1) q.els).set c.pos.toNat c.new⟩)

theorem SeqAt.drewN {B : Nat} {w : World} {b : Nat} {v : Value} {q : Sq} (h : SeqAt B w b v q) (n : Nat) : SeqAt B (w.drewN n) b v q := ⟨h.low, h.blk, h.els⟩
theorem Touch.drewN {S : Nat → Prop} {a b : World} (h : Touch S a b) (n : Nat) : Touch S a (b.drewN n) := ⟨h.os, h.tape, h.output, h.size, h.block⟩
theorem ints_cell0 {B : Nat} {w : World} {u : Value} {l : List Int} (h : IntsNew B w u l) {j : Nat} (hj : j < l.length) : ∃ g c x cur, u = .slice (some ⟨g, 0, none⟩) l.length c ∧ l.length ≤ c ∧ B ≤ g ∧ Blk w g 3 cur ∧ w.cell? ⟨g, j, none⟩ = some (.int .i64 x) ∧ w.frozen? ⟨g, j, none⟩ = false := by
  rcases h.2 with ⟨rfl, h0⟩ | ⟨g', cap, cur', rfl, hB, hg, hn, hm, hc, ht⟩
  · omega
  · refine ⟨g', cap, l[j], cur', rfl, hn, hB, hg, ?_, h.frozenAt j⟩
    rw [h.cellAt j (by omega)]
    simp [intsV, List.getElem?_map, List.getElem?_eq_getElem hj]
theorem ints_cell1 {B : Nat} {w : World} {u : Value} {l : List Int} (h : IntsNew B w u l) {j : Nat} (hj : j < l.length) : ∃ g c x, u = .slice (some ⟨g, 0, none⟩) l.length c ∧ l.length ≤ c ∧ B ≤ g ∧ g < w.heap.size ∧ w.cell? ⟨g, j, none⟩ = some (.int .i64 x) ∧ w.frozen? ⟨g, j, none⟩ = false := by
  obtain ⟨g, c, x, cur, h1, h2, h3, h4, h5, h6⟩ := ints_cell0 h hj
  exact ⟨g, c, x, h1, h2, h3, h4.lt, h5, h6⟩

set_option maxRecDepth 100000 in
set_option maxHeartbeats 8000000 in
theorem change_any (B b : Nat) (c : Chg) (v : Value) (q : Sq) (w : World) (h : SeqAt B w b v q) (hc : c.Fits) (hq : q.els.length ≤ 5000) (hi64 : ∀ x ∈ q.els, I64 x) :
    Calls Try.prog 51 #[.pointer (some ⟨b, 0, none⟩), .agg #[.int .i64 c.cell, .int .i64 c.pos, .int .i64 c.old, .int .i64 c.new]] w fun e w' => e = .returned (.int .i64 ((chgP c q).1 : Nat)) ∧
      ∃ v', SeqAt B w' b v' (chgP c q).2 ∧ Touch (SqB b v) w w' ∧ ∀ j, v'.ownBlock = some j → v.ownBlock = some j ∨ w.heap.size ≤ j := by
  obtain ⟨len, els⟩ := q
  obtain ⟨cell, pos, old, new⟩ := c
  simp only at hq hi64
  unfold Chg.Fits at hc
  simp only at hc
  have hbl := h.blk.lt
  obtain ⟨W, hW⟩ : ∃ W, W = w.alloc (.cells #[.int .i64 cell, .int .i64 pos, .int .i64 old, .int .i64 new] 61) := ⟨_, rfl⟩
  have hB0 : Below w.heap.size w W := by rw [hW]; exact below_alloc _ _
  have hbx : Blk W w.heap.size 61 #[.int .i64 cell, .int .i64 pos, .int .i64 old, .int .i64 new] := by rw [hW]; exact Blk.new _ _ _
  have m0 := hbx.cell 0
  have m1 := hbx.cell 1
  have m2 := hbx.cell 2
  have m3 := hbx.cell 3
  simp only [List.getElem?_toArray, List.getElem?_cons_succ, List.getElem?_cons_zero] at m0 m1 m2 m3
  have hWs : W.heap.size = w.heap.size + 1 := by rw [hW]; simp
  have h' := h.next hB0
  have hs : ∃ e : World, e = W := ⟨W, rfl⟩
  have y0 := h'.blk.cell 0
  have y1 := h'.blk.cell 1
  have f0 := h'.blk.free 0
  simp only [List.getElem?_toArray, List.getElem?_cons_succ, List.getElem?_cons_zero] at y0 y1
  have hbW : b < W.heap.size := h'.blk.lt
  have HSQ := Lib.hid h'
  have HTW : Hid (Touch (SqB b v) w W) := Touch.of_below hB0
  have HX := Lib.hid hbx
  have HW := Lib.hid hW
  have HC := Lib.hid hc
  have HI := Lib.hid hi64
  have HLT : Hid (∀ j, v.ownBlock = some j → j < w.heap.size) := fun j hj => (h.els.lt j hj).2
  obtain ⟨va, vc, rfl⟩ := own_form h.els
  clear h h' hbx hW hs hi64
  by_cases c1 : pos < -1
  · have e : chgP ⟨cell, pos, old, new⟩ ⟨len, els⟩ = (2, ⟨len, els⟩) := if_pos (.inl c1)
    rw [e]
    clear e
    go_enter Try.func51, Try.ntmps51
    go_wp2
    rw [← HW.out]
    go_ret
    exact ⟨rfl, _, HSQ.out, HTW.out, fun j hj => .inl hj⟩
  by_cases c2 : 4096 ≤ pos
  · have e : chgP ⟨cell, pos, old, new⟩ ⟨len, els⟩ = (2, ⟨len, els⟩) := if_pos (.inr c2)
    rw [e]
    clear e
    go_enter Try.func51, Try.ntmps51
    go_wp2
    rw [← HW.out]
    go_ret
    exact ⟨rfl, _, HSQ.out, HTW.out, fun j hj => .inl hj⟩
  have c12 : ¬ (pos < -1 ∨ 4096 ≤ pos) := by omega
  by_cases c3 : pos = -1
  · subst c3
    by_cases c4 : new < 0
    · have e : chgP ⟨cell, -1, old, new⟩ ⟨len, els⟩ = (2, ⟨len, els⟩) := by unfold chgP; rw [if_neg c12, if_pos rfl, if_pos (.inl c4)]
      rw [e]
      clear e c1 c2 c12
      go_enter Try.func51, Try.ntmps51
      go_wp2
      rw [← HW.out]
      go_ret
      exact ⟨rfl, _, HSQ.out, HTW.out, fun j hj => .inl hj⟩
    by_cases c5 : 4096 < new
    · have e : chgP ⟨cell, -1, old, new⟩ ⟨len, els⟩ = (2, ⟨len, els⟩) := by unfold chgP; rw [if_neg c12, if_pos rfl, if_pos (.inr c5)]
      rw [e]
      clear e c1 c2 c12
      go_enter Try.func51, Try.ntmps51
      go_wp2
      rw [← HW.out]
      go_ret
      exact ⟨rfl, _, HSQ.out, HTW.out, fun j hj => .inl hj⟩
    have c45 : ¬ (new < 0 ∨ 4096 < new) := by omega
    by_cases c6 : old = len
    · subst c6
      have e : chgP ⟨cell, -1, old, new⟩ ⟨old, els⟩ = (0, ⟨new, els⟩) := by unfold chgP; rw [if_neg c12, if_pos rfl, if_neg c45, if_neg (by simp)]
      rw [e]
      clear e c1 c2 c12 c45
      go_enter Try.func51, Try.ntmps51
      go_wp2
      rw [← HW.out]
      go_quiet (fail)
      have y0' : (W.drewN nq).cell? ⟨b, 0, none⟩ = some (.int .i64 old) := y0
      have f0' : (W.drewN nq).frozen? ⟨b, 0, none⟩ = false := f0
      have m3' : (W.drewN nq).cell? ⟨w.heap.size, 3, none⟩ = some (.int .i64 new) := m3
      go_wp2
      go_ret
      refine ⟨rfl, _, ⟨HSQ.out.low, (HSQ.out.drewN nq).blk.set 0 _, own_set (HSQ.out.drewN nq).els (HSQ.out.drewN nq).blk (by decide) _ _⟩, (HTW.out.drewN nq).trans (Touch.of_set _ _ _ _) (fun j _ hj => .inl hj), fun j hj => .inl hj⟩
    · have e : chgP ⟨cell, -1, old, new⟩ ⟨len, els⟩ = (20, ⟨len, els⟩) := by unfold chgP; rw [if_neg c12, if_pos rfl, if_neg c45, if_pos c6]
      rw [e]
      have c7 : (old != len) = true := by simpa using c6
      clear e c1 c2 c12 c45
      go_enter Try.func51, Try.ntmps51
      go_wp2
      rw [← HW.out]
      go_quiet (fail)
      go_wp2
      go_ret
      exact ⟨rfl, _, HSQ.out.drewN _, HTW.out.drewN _, fun j hj => .inl hj⟩
  obtain ⟨j, rfl⟩ := Int.eq_ofNat_of_zero_le (show 0 ≤ pos by omega)
  have hj : j < 4096 := by omega
  have hj0 : (0 : Int) ≤ (j : Int) := Int.natCast_nonneg _
  have hj1 : (j : Int) < 4096 := by omega
  have c8 : ¬ (j : Int) < -1 := by omega
  have c9 : ¬ (j : Int) ≥ 4096 := by omega
  have ca : ((j : Int) == -1) = false := by simp
  obtain ⟨x, hx⟩ : ∃ x, x = els.getD j 0 := ⟨_, rfl⟩
  by_cases cb : old = x
  · subst cb
    have e : chgP ⟨cell, j, old, new⟩ ⟨len, els⟩ = (0, ⟨len, (pad (j + 1) els).set j new⟩) := by unfold chgP; rw [if_neg c12, if_neg c3, if_neg (by rw [Int.toNat_natCast, ← hx]; simp), Int.toNat_natCast]
    rw [e]
    have cc : (old != old) = false := by simp
    have HEL : Hid (∀ w', Below W.heap.size W w' → Calls Try.prog 36 #[.slice va els.length vc, .int .i64 j] w' fun e w'' => e = .returned (.int .i64 old) ∧ w'' = w') := by
      intro w' hb
      rw [hx]
      exact element_any els _ j (by omega) w' (IntsAt.of_own ((HSQ.out.next hb).els) HI.out)
    clear e c1 c2 c12 hx c3
    go_enter Try.func51, Try.ntmps51
    go_wp2
    rw [← HW.out]
    go_quiet (fail)
    obtain ⟨W2, hW2⟩ : ∃ W2, W2 = W.drewN nq := ⟨_, rfl⟩
    rw [← hW2]
    have hb2 : Below W.heap.size W W2 := by rw [hW2]; exact ⟨rfl, rfl, rfl, Nat.le_refl _, fun _ _ => rfl⟩
    have y1' := cell_below hb2 hbW y1
    have m1' := cell_below hb2 (by omega) m1
    have m2' := cell_below hb2 (by omega) m2
    have HB2 := Lib.hid hb2
    have HSQ2 : Hid (SeqAt B W2 b (.slice va els.length vc) ⟨len, els⟩) := HSQ.out.next hb2
    have HX2 := Lib.hid (HX.out.next hb2)
    have HTW2 : Hid (Touch (SqB b (.slice va els.length vc)) w W2) := by rw [hW2]; exact HTW.out.drewN nq
    have hsz2 : W2.heap.size = W.heap.size := by rw [hW2]; rfl
    clear y1 m1 m2 m0 m3 hb2 hW2
    go_wp2
    go_quiet ((go_at_call 36; exact Calls.quiet_of_same (HEL.out _ ⟨HB2.out.os, HB2.out.tape, HB2.out.output, HB2.out.size, HB2.out.block⟩)))
    obtain ⟨W3, hW3⟩ : ∃ W3, W3 = W2.drewN nq := ⟨_, rfl⟩
    rw [← hW3]
    have HSQ3 : Hid (SeqAt B W3 b (.slice va els.length vc) ⟨len, els⟩) := by rw [hW3]; exact HSQ2.out.drewN _
    have HTW3 : Hid (Touch (SqB b (.slice va els.length vc)) w W3) := by rw [hW3]; exact HTW2.out.drewN _
    have hsz3 : W3.heap.size = W.heap.size := by rw [hW3]; exact hsz2
    have hx3 : Blk W3 w.heap.size 61 #[.int .i64 cell, .int .i64 j, .int .i64 old, .int .i64 new] := by rw [hW3]; exact HX2.out
    have m1 := hx3.cell 1
    simp only [List.getElem?_toArray, List.getElem?_cons_succ, List.getElem?_cons_zero] at m1
    have HX3 := Lib.hid hx3
    clear hW3 hx3 y1' m1' m2' hsz2
    go_wp2_with fail
    refine (extend_any B b (j + 1) _ _ _ HSQ3.out (by omega) hq).mono ?_
    rintro e w4 ⟨rfl, v4, hsq4, ht4, hv4⟩
    have hne : w.heap.size ≠ b := by omega
    have hx4 := ht4.blk HX3.out (by
      rintro (h | h)
      · exact hne h
      · have := HLT.out _ h
        omega)
    have hpl : (pad (j + 1) els).length = max (j + 1) els.length := pad_len _ _
    obtain ⟨g, c4, xx, rfl, hle, hBg, hgs, hcx, hfx⟩ := ints_cell1 hsq4.els (j := j) (by simp only; omega)
    simp only at hle hsq4 hv4
    have hgb : g ≠ b := by
      intro he
      have := hsq4.blk.own_ne hsq4.els (by decide)
      exact this (by rw [he]; rfl)
    have hgw : g ≠ w.heap.size := by
      intro he
      rcases hv4 g rfl with h | h
      · have := HLT.out _ h
        omega
      · omega
    have hou : ∀ j', (Value.slice (some ⟨g, 0, none⟩) (pad (j + 1) els).length c4).ownBlock = some j' → (Value.slice va els.length vc).ownBlock = some j' ∨ w.heap.size ≤ j' := by
      intro j' hj'
      rcases hv4 j' hj' with h | h
      · exact .inl h
      · exact .inr (by omega)
    have htt := HTW3.out.trans ht4 (fun _ _ h => h)
    have z1 := hsq4.blk.cell 1
    have m1 := hx4.cell 1
    have m3 := hx4.cell 3
    simp only [List.getElem?_toArray, List.getElem?_cons_succ, List.getElem?_cons_zero] at z1 m1 m3
    have hb4 : b < w4.heap.size := hsq4.blk.lt
    have hx4s : w.heap.size < w4.heap.size := hx4.lt
    have HS4 := Lib.hid hsq4
    have HT4 := Lib.hid htt
    have HOU := Lib.hid hou
    have hjl : j < (pad (j + 1) els).length := by omega
    have hjl' : (j : Int) < ((pad (j + 1) els).length : Int) := by omega
    generalize hpp : pad (j + 1) els = P at *
    generalize hnn : P.length = np at *
    have HPP := Lib.hid hpp
    have HNN := Lib.hid hnn
    clear hx4 hsq4 ht4 hv4 htt hou hpl hpp hnn
    go_wp2
    go_region_held3 (fun w' => w'.cell? ⟨b, 1, none⟩ = some (.slice (some ⟨g, 0, none⟩) np c4) ∧ w'.cell? ⟨w.heap.size, 1, none⟩ = some (.int .i64 j) ∧ w'.cell? ⟨w.heap.size, 3, none⟩ = some (.int .i64 new) ∧ w'.frozen? ⟨g, j, none⟩ = false) (first | exact ⟨z1, m1, m3, hfx⟩ | go_keep) (fail)
    go_wp2
    go_ret
    rw [HPP.out]
    have hnn := HNN.out
    have hset := ints_set (w := w4) HS4.out.els j new
    refine ⟨rfl, .slice (some ⟨g, 0, none⟩) np c4, ⟨HS4.out.low, (Touch.of_set w4 g j (.int .i64 new)).blk HS4.out.blk (fun e => hgb e.symm), hset⟩, (HT4.out.trans (Touch.of_set w4 g j (.int .i64 new)) ?_).drew, HOU.out⟩
    rintro j' hj' rfl
    rcases HOU.out j' rfl with h | h
    · exact .inr h
    · omega
  · have e : chgP ⟨cell, j, old, new⟩ ⟨len, els⟩ = (20, ⟨len, els⟩) := by unfold chgP; rw [if_neg c12, if_neg c3, if_pos (by rw [Int.toNat_natCast, ← hx]; exact cb)]
    rw [e]
    have cc : (old != x) = true := by simpa using cb
    have HEL : Hid (∀ w', Below W.heap.size W w' → Calls Try.prog 36 #[.slice va els.length vc, .int .i64 j] w' fun e w'' => e = .returned (.int .i64 x) ∧ w'' = w') := by
      intro w' hb
      rw [hx]
      exact element_any els _ j (by omega) w' (IntsAt.of_own ((HSQ.out.next hb).els) HI.out)
    clear e c1 c2 c12 hx c3
    go_enter Try.func51, Try.ntmps51
    go_wp2
    rw [← HW.out]
    go_quiet (fail)
    obtain ⟨W2, hW2⟩ : ∃ W2, W2 = W.drewN nq := ⟨_, rfl⟩
    rw [← hW2]
    have hb2 : Below W.heap.size W W2 := by rw [hW2]; exact ⟨rfl, rfl, rfl, Nat.le_refl _, fun _ _ => rfl⟩
    have hbb : Below W2.heap.size W W2 := by rw [hW2]; exact ⟨rfl, rfl, rfl, Nat.le_refl _, fun _ _ => rfl⟩
    have y1' := cell_below hb2 hbW y1
    have m1' := cell_below hb2 (by omega) m1
    have m2' := cell_below hb2 (by omega) m2
    have HB2 := Lib.hid hb2
    have HSQ2 : Hid (SeqAt B W2 b (.slice va els.length vc) ⟨len, els⟩) := HSQ.out.next hb2
    have HTW2 : Hid (Touch (SqB b (.slice va els.length vc)) w W2) := by rw [hW2]; exact HTW.out.drewN nq
    clear y1 m1 m2 m0 m3 hb2 hbb hW2
    go_wp2
    go_quiet ((go_at_call 36; exact Calls.quiet_of_same (HEL.out _ ⟨HB2.out.os, HB2.out.tape, HB2.out.output, HB2.out.size, HB2.out.block⟩)))
    go_wp2
    go_ret
    exact ⟨rfl, _, HSQ2.out.drewN _, HTW2.out.drewN _, fun j hj => .inl hj⟩

end Go.Proofs.Ytpbbiidfahaamaa
