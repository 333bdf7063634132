/- append of bytes; the walk of the reference's Numbers. -/
import Derived.Test.YtpbbiidfahaamaaStQ1
import Derived.Test.YtpbbiidfahaamaaStB1
namespace Go.Proofs.Ytpbbiidfahaamaa
open Go.RowKit

theorem BytesAt.of_own {w : World} {base : Nat} {v : Value} {l : List UInt8} (h : w.ownsRow base 5 1 v l.length (bytesV l)) : BytesAt w v l := by
  rcases h.2 with ⟨rfl, h0⟩ | ⟨g, cap, cur, rfl, _, hg, hn, hm, _, _⟩
  · have : l = [] := List.eq_nil_of_length_eq_zero h0
    subst this
    exact ⟨none, 0, rfl, Nat.le_refl _, by unfold maxLen; omega, fun h => absurd h (by decide)⟩
  · refine ⟨_, cap, rfl, hn, hm, fun hp => ⟨g, 0, rfl, (Array.getElem?_eq_some_iff.1 hg).1, fun i b hb => ?_⟩⟩
    have hi : i < l.length := by
      rcases Nat.lt_or_ge i l.length with hh | hh
      · exact hh
      · rw [List.getElem?_eq_none hh] at hb; cases hb
    rw [Nat.zero_add, h.cellAt i (by omega)]
    simp [bytesV, hb]

theorem run_append_bytes (w : World) (ty : TypeId) (base : Nat) (v : Value) (n : Nat) (xs : List Value) (hown : w.ownsRow base 5 1 v n xs) (u : Value) (l : List UInt8) (hu : BytesAt w u l) (hn : n + l.length ≤ 1099511627776) (hbase : base ≤ w.heap.size) :
    ∃ v' w', (Builtin.append_ #[47, 47] ty #[v, u]).run Try.prog w = .ok v' w' ∧ w'.ownsRow base 5 1 v' (n + l.length) (xs ++ bytesV l) ∧ w.grownBy w' v.ownBlock := by
  obtain ⟨i0, hi, hz0, hz1, hz2⟩ := info_parts byteInfo
  obtain ⟨a, c, rfl, _, _, hq⟩ := hu
  cases a with
  | none =>
    have h0 : l.length = 0 := by
      rcases Nat.eq_zero_or_pos l.length with h | h
      · exact h
      · obtain ⟨g, o, e, _⟩ := hq h
        cases e
    have hl : l = [] := List.eq_nil_of_length_eq_zero h0
    subst hl
    exact ⟨v, w, run_append_of_none w base _ ty _ i0 1 Try.underlying47 hi v n xs hown c, by simpa [bytesV] using hown, World.grownBy.refl _ _⟩
  | some ad =>
    obtain ⟨v', w', h1, h2, h3, _⟩ := run_append_own (P := Try.prog) w base 47 ty 5 i0 (.int .u8 0) 1 1 Try.underlying47 hi hz0 hz1 hz2 rfl (by decide) v n xs hown ad l.length c (bytesV l) (by simp [bytesV]) (by
      intro j x hx
      have hj : j < l.length := by
        rcases Nat.lt_or_ge j l.length with hh | hh
        · exact hh
        · rw [List.getElem?_eq_none (by simpa [bytesV] using hh)] at hx; cases hx
      obtain ⟨g, o, e, _, hc⟩ := hq (by omega)
      obtain rfl := Option.some.inj e
      rw [Go.WideShapes.add_plain, hc j _ (List.getElem?_eq_getElem hj)]
      simp only [bytesV, List.getElem?_map, List.getElem?_eq_getElem hj, Option.map_some] at hx
      exact hx) (by
      intro x hx
      simp only [bytesV, List.mem_map] at hx
      obtain ⟨y, _, rfl⟩ := hx
      rfl) (by unfold maxLen; omega) (by omega) hbase
    exact ⟨v', w', h1, h2, h3⟩

theorem wp_append_bytes {w : World} {o : Oper} {a : Act} {K : Act → World → Prop} {Q : Exit → Act → World → Prop} (s x : Operand)
    (ho : o.op = .call { callee := .builtin .append, args := #[s, x], argTypes := #[47, 47] })
    (base : Nat) (v : Value) (n : Nat) (xs : List Value) (hs : a.eval s = v) (hown : w.ownsRow base 5 1 v n xs) (u : Value) (l : List UInt8) (hx : a.eval x = u) (hu : BytesAt w u l) (hn : n + l.length ≤ 1099511627776) (hbase : base ≤ w.heap.size)
    (h : ∀ v' w', w'.ownsRow base 5 1 v' (n + l.length) (xs ++ bytesV l) → w.grownBy w' v.ownBlock → K (a.put o.dst v') w') : o.wp Try.prog a w K Q := by
  obtain ⟨v', w', hrun, h2, h3⟩ := run_append_bytes w o.type base v n xs hown u l hu hn hbase
  unfold Oper.wp execOp
  simp only [ho, resolve, invoke, builtin, Sem.run_bind, Sem.run_pure, Result.andThen_ok, List.map_toArray, List.map_cons, List.map_nil, hs, hx, hrun]
  exact h v' w' h2 h3

theorem wpList_append_bytes {w : World} {ops : Array Oper} {rest : List Oper} {o : Oper} {a : Act} {Q : Exit → Act → World → Prop} (hgd : o.guard = none) (s x : Operand)
    (ho : o.op = .call { callee := .builtin .append, args := #[s, x], argTypes := #[47, 47] })
    (base : Nat) (v : Value) (n : Nat) (xs : List Value) (hs : a.eval s = v) (hown : w.ownsRow base 5 1 v n xs) (u : Value) (l : List UInt8) (hx : a.eval x = u) (hu : BytesAt w u l) (hn : n + l.length ≤ 1099511627776) (hbase : base ≤ w.heap.size)
    (h : ∀ v' w', w'.ownsRow base 5 1 v' (n + l.length) (xs ++ bytesV l) → w.grownBy w' v.ownBlock → wpList Try.prog ops Q rest (a.put o.dst v') w') : wpList Try.prog ops Q (o :: rest) a w :=
  wpList_plain hgd fun _ hK => wp_append_bytes s x ho base v n xs hs hown u l hx hu hn hbase fun v' w' h2 h3 => hK _ _ (h v' w' h2 h3)

theorem step_append_bytes (w : World) {ops : Array Oper} {o : Oper} {a : Act} {K : Act → World → Prop} {Q : Exit → Act → World → Prop} {E : Prop} (hgd : o.guard = none) (s x : Operand)
    (ho : o.op = .call { callee := .builtin .append, args := #[s, x], argTypes := #[47, 47] })
    (base : Nat) (v : Value) (n : Nat) (xs : List Value) (hs : a.eval s = v) (hown : w.ownsRow base 5 1 v n xs) (u : Value) (l : List UInt8) (hx : a.eval x = u) (hu : BytesAt w u l) (hn : n + l.length ≤ 1099511627776) (hbase : base ≤ w.heap.size)
    (h : ∀ v' w', w'.ownsRow base 5 1 v' (n + l.length) (xs ++ bytesV l) → w.grownBy w' v.ownBlock → K (a.put o.dst v') w') :
    if Region.wanted o (yielded ops a.tmps) = true then Oper.wp Try.prog o a w K Q else E := by
  have hw : Region.wanted o (yielded ops a.tmps) = true := by simp [Region.wanted, hgd]
  rw [if_pos hw]
  exact wp_append_bytes s x ho base v n xs hs hown u l hx hu hn hbase h

theorem bytesV_app (a b : List UInt8) : bytesV (a ++ b) = bytesV a ++ bytesV b := by simp [bytesV]

theorem bytes2 {n : Nat} (h : n < 65536) : bytesV (bytesOf (n : Int) 2) = [.int .u8 ((n : Int) / 256), .int .u8 ((n : Int) % 256)] := by
  have e : bytesOf (n : Int) 2 = [byteAt n 2 0, byteAt n 2 1] := rfl
  rw [e]
  simp only [bytesV, List.map_cons, List.map_nil, byteAt_int]
  have e1 : (2 : Int) ^ (8 * (2 - 1 - 0)) = 256 := by decide
  have e2 : (2 : Int) ^ (8 * (2 - 1 - 1)) = 1 := by decide
  rw [e1, e2, Int.ediv_one, Int.emod_eq_of_lt (a := (n : Int) / 256) (by omega) (by omega)]

theorem cell_two_new (w : World) (a b : Value) (t : TypeId) : ∀ (j : Nat) (u : Value), [a, b][j]? = some u → (w.alloc (.cells #[a, b] t)).cell? ((⟨w.heap.size, 0, none⟩ : Addr).add j) = some u := by
  intro j u hu
  rw [Go.WideShapes.add_plain, Nat.zero_add]
  match j, hu with
  | 0, hu => simp only [List.getElem?_cons_zero, Option.some.injEq] at hu; subst hu; rw [World.cell?_alloc_at _ _ _ _ rfl]; rfl
  | 1, hu => simp only [List.getElem?_cons_succ, List.getElem?_cons_zero, Option.some.injEq] at hu; subst hu; rw [World.cell?_alloc_at _ _ _ _ rfl]; rfl
  | j + 2, hu => simp at hu
theorem ints2_one {k k' : IntKind} (a b : Int) : ∀ u ∈ [Value.int k a, .int k' b], u.oneCell' = true := by
  intro u hu
  simp only [List.mem_cons, List.not_mem_nil, or_false] at hu
  rcases hu with rfl | rfl <;> rfl

def numsB (c : Bool) (l : List Int) : List UInt8 := (if c = true then bytesOf l.length 2 else []) ++ bytesL l

set_option maxRecDepth 100000 in
set_option maxHeartbeats 4000000 in
theorem rnumbers_any (c : Bool) (l : List Int) (v : Value) (w : World) (h : IntsAt w v l) (hl : l.length ≤ 60000) :
    Calls Try.prog 48 #[v, .bool c] w fun e w' => ∃ u, e = .returned u ∧ w'.ownsRow w.heap.size 5 1 u (numsB c l).length (bytesV (numsB c l)) ∧ Below w.heap.size w w' := by
  obtain ⟨i0, hi, hz0, hz1, hz2⟩ := info_parts byteInfo
  obtain ⟨⟨a, ca, rfl, -, -, hq⟩, -⟩ := h
  generalize hn : l.length = n at *
  have HN := Lib.hid hn
  have HQ := Lib.hid hq
  have hnI : (n : Int) ≤ 60000 := by omega
  have HP : Hid ((if c = true then bytesOf n 2 else []).length ≤ 2) := by unfold Hid; split <;> simp [bytesOf]
  have HNB : Hid (numsB c l = (if c = true then bytesOf n 2 else []) ++ bytesL l) := by unfold Hid numsB; rw [hn]
  clear hq hn
  generalize numsB c l = R at *
  cases c
  case' true =>
    have h2 := bytes2 (n := n) (by omega)
    have H2 := Lib.hid h2
    clear h2
    simp only [↓reduceIte] at HP HNB
    generalize hPP : bytesOf (n : Int) 2 = P at *
    have hPl : P.length = 2 := by rw [← hPP]; simp [bytesOf]
    have HPL := Lib.hid hPl
    clear hPP hPl
    go_enter Try.func48, Try.ntmps48
    go_wp2_with (at_builtin; refine wpList_append_own _ rfl (.tmp 8) (.tmp 17) 47 rfl w.heap.size 5 i0 (.int .u8 0) 1 1 Try.underlying47 hi hz0 hz1 hz2 rfl (by decide) _ 0 [] rfl (World.ownsRow_nil _ _ _ _) ⟨w.heap.size, 0, none⟩ 2 2 [.int .u8 ((n : Int) / 256), .int .u8 ((n : Int) % 256)] rfl rfl ?_ ?_ ?_ ?_ ?_ ?_; exact cell_two_new _ _ _ _; exact ints2_one _ _; (unfold maxLen; omega); omega; (simp); intro v2 w2 hown2 hgrow2 _)
    have hb2 : Below w.heap.size w w2 := (below_alloc _ _).grown hgrow2 (by simp) (fun j hj => ((World.ownsRow_nil w w.heap.size 5 1).lt j hj).1)
    rw [Nat.zero_add, List.nil_append, ← H2.out, ← HPL.out] at hown2
    have HO2 := Lib.hid hown2
    have HB2 := Lib.hid hb2
    clear hown2 hgrow2 hb2 H2
  case' false =>
    simp only [Bool.false_eq_true, ↓reduceIte] at HP HNB
    obtain ⟨P, hPP⟩ : ∃ P : List UInt8, P = [] := ⟨_, rfl⟩
    rw [← hPP] at HP HNB
    obtain ⟨w2, hw2⟩ : ∃ w2 : World, w2 = w := ⟨_, rfl⟩
    have HO2 : Hid (w2.ownsRow w.heap.size 5 1 (.slice none 0 0) P.length (bytesV P)) := by rw [hPP]; exact World.ownsRow_nil _ _ _ _
    have HB2 : Hid (Below w.heap.size w w2) := by rw [hw2]; exact Below.refl _ _
    have HWW := Lib.hid hw2
    clear hPP hw2
    go_enter Try.func48, Try.ntmps48
    go_wp2_with fail
    rw [← HWW.out]
  all_goals
    go_wp2
    go_loopg [5, 6] n (fun q u i wr => ∃ k : Nat, k + q = n ∧ i = .int .i64 k ∧ wr.ownsRow w.heap.size 5 1 u (P ++ bytesL (l.take k)).length (bytesV (P ++ bytesL (l.take k))) ∧ Below w.heap.size w wr)
    case atStart => exact ⟨0, by omega, rfl, by simpa [bytesL] using HO2.out, HB2.out⟩
    case round =>
      obtain ⟨k, hk, rfl, hown, hb⟩ := hrel
      have Hk := Lib.hid hk
      have hkn : k ≤ n := by omega
      have Hown := Lib.hid hown
      have Hb := Lib.hid hb
      have hsz := hb.size
      clear hk hown hb
      by_cases hlt : k < n
      · have hlt' : (k : Int) < (n : Int) := by omega
        obtain ⟨g, o, rfl, hg, hq⟩ := HQ.out (by omega)
        obtain ⟨x, hx⟩ := get_lt HN.out.symm hlt
        have m0 := cell_below Hb.out hg (hq k x hx)
        have HT := Lib.hid (bytesL_take hx)
        have HLE : Hid ((P ++ bytesL (l.take k)).length ≤ 2 + 8 * k) := by
          unfold Hid
          have := HP.out
          rw [List.length_append, bytesL_len, List.length_take]
          omega
        clear hq hx
        go_wp2_with fail
        refine (rnumber_any x _).mono ?_
        rintro e w3 ⟨u3, rfl, hown3, hb3⟩
        have hbys : BytesAt w3 u3 (bytesOf x 8) := BytesAt.of_own (by rw [show (bytesOf x 8).length = 8 by simp [bytesOf]]; exact hown3)
        have HY := Lib.hid hbys
        have Hown3 := Lib.hid (own_below Hown.out hb3)
        have Hb3 := Lib.hid (below_next Hb.out (Nat.le_refl _) hb3)
        have hs3 := Hb3.out.size
        clear hown3 hb3 hbys
        go_wp2_with (at_builtin; refine wpList_append_bytes rfl (.tmp 25) (.tmp 30) rfl w.heap.size _ _ _ rfl Hown3.out _ (bytesOf x 8) rfl HY.out ?_ hs3 ?_; (have h1 := HLE.out; have h2 : (bytesOf x 8).length = 8 := (by simp [bytesOf]); omega); intro v4 w4 hown4 hgrow4)
        have hb4 := Hb3.out.grown hgrow4 hs3 (fun j hj => (Hown3.out.lt j hj).1)
        have Hown4 := Lib.hid hown4
        have Hb4 := Lib.hid hb4
        clear hown4 hgrow4 hb4 Hown3 HY
        go_wp2
        have hk := Hk.out
        go_roundg (n - (k + 1))
        case measure => omega
        case rel =>
          refine ⟨k + 1, by omega, by go_num, ?_, Hb4.out⟩
          have el : ((P ++ bytesL (l.take k)) ++ bytesOf x 8).length = (P ++ bytesL (l.take k)).length + (bytesOf x 8).length := List.length_append
          rw [HT.out, ← List.append_assoc, bytesV_app (P ++ bytesL (l.take k)), el]
          exact Hown4.out
      · have hge : ¬ (k : Int) < (n : Int) := by omega
        have hown := Hown.out
        rw [List.take_of_length_le (by rw [HN.out]; omega), ← HNB.out] at hown
        have HO := Lib.hid hown
        clear hown Hown
        go_wp2
        go_ret
        exact ⟨_, rfl, HO.out, Hb.out⟩
end Go.Proofs.Ytpbbiidfahaamaa
