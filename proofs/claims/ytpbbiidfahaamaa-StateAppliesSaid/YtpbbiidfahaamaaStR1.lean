/- Walks of the reference's at, Part; plain. -/
import Derived.Test.YtpbbiidfahaamaaStL0
import Derived.Deep.RegionLaw
namespace Go.Proofs.Ytpbbiidfahaamaa
open Go.RowKit

/-- append onto a row of the call's own, as one step of a region that draws -/
theorem step_append_own {P : Program} (w : World) {ops : Array Oper} {o : Oper} {a : Act} {K : Act → World → Prop} {Q : Exit → Act → World → Prop} {E : Prop} (hgd : o.guard = none) (s x : Operand) (t : TypeId)
    (ho : o.op = .call { callee := .builtin .append, args := #[s, x], argTypes := #[t, t] })
    (base : Nat) (e : TypeId) (i : TypeInfo) (z : Value) (size bytes : Nat) (ht : P.underlying t = some (.slice e)) (hi : P.info? e = some i) (hz : i.zero = some z)
    (hsize : i.size = size) (hby : i.bytes = bytes) (hzs : z.cells.size = size) (hsz : 0 < size)
    (v : Value) (n : Nat) (xs : List Value) (hs : a.eval s = v) (hown : w.ownsRow base e size v n xs)
    (A : Addr) (m c : Nat) (news : List Value) (hx : a.eval x = .slice (some A) m c) (hl : news.length = m * size) (hnews : ∀ j u, news[j]? = some u → w.cell? (A.add j) = some u) (h1 : ∀ u ∈ news, u.oneCell' = true)
    (h63 : n + m ≤ maxLen) (hbytes : (n + m) * bytes ≤ 140737488355328) (hbase : base ≤ w.heap.size)
    (h : ∀ v' w', w'.ownsRow base e size v' (n + m) (xs ++ news) → w.grownBy w' v.ownBlock → K (a.put o.dst v') w') :
    if Region.wanted o (yielded ops a.tmps) = true then Oper.wp P o a w K Q else E := by
  have hw : Region.wanted o (yielded ops a.tmps) = true := by simp [Region.wanted, hgd]
  rw [if_pos hw]
  obtain ⟨v', w', hrun, h2, h3, _⟩ := run_append_own (P := P) w base t o.type e i z size bytes ht hi hz hsize hby hzs hsz v n xs hown A m c news hl hnews h1 h63 hbytes hbase
  unfold Oper.wp execOp
  simp only [ho, resolve, invoke, builtin, Sem.run_bind, Sem.run_pure, Result.andThen_ok, List.map_toArray, List.map_cons, List.map_nil, hs, hx, hrun]
  exact h v' w' h2 h3

theorem at_any (l : List Int) (v : Value) (i : Nat) (hi : i ≤ 9223372036854775807) (w : World) (h : IntsAt w v l) :
    Calls Try.prog 38 #[v, .int .i64 i] w fun e w' => e = .returned (.int .i64 (l.getD i 0)) ∧ w = w' := by
  obtain ⟨⟨a, c, rfl, hn, hm, hc⟩, _⟩ := h
  by_cases hlt : i < l.length
  · obtain ⟨g, o, rfl, hg, hq⟩ := hc (by omega)
    have m0 := hq i _ (List.getElem?_eq_getElem hlt)
    have hx : l.getD i 0 = l[i] := by rw [List.getD_eq_getElem?_getD, List.getElem?_eq_getElem hlt]; rfl
    rw [hx]
    generalize l[i] = x at *
    generalize l.length = n at *
    have hlt' : (i : Int) < (n : Int) := by omega
    clear hq hc hx
    go_enter Try.func38, Try.ntmps38
    go_wp2
    go_ret
    exact ⟨rfl, rfl⟩
  · have hx : l.getD i 0 = 0 := by rw [List.getD_eq_getElem?_getD, List.getElem?_eq_none (by omega)]; rfl
    rw [hx]
    generalize l.length = n at *
    have hge : ¬ (i : Int) < (n : Int) := by omega
    clear hc hx hlt
    go_enter Try.func38, Try.ntmps38
    go_wp2
    go_ret
    exact ⟨rfl, rfl⟩

/-- numbers that lie below a base, or in a row of ints of the call's own -/
def PartAt (base : Nat) (w : World) (u : Value) (l : List Int) : Prop :=
  (∃ W0 : World, W0.heap.size ≤ base ∧ Below base W0 w ∧ IntsAt W0 u l) ∨ ((∃ B, w.ownsRow B 3 1 u l.length (intsV l)) ∧ ∀ x ∈ l, I64 x)

theorem PartAt.ints {base : Nat} {w : World} {u : Value} {l : List Int} (h : PartAt base w u l) : IntsAt w u l := by
  rcases h with ⟨W0, h1, h2, h3⟩ | ⟨⟨B, h1⟩, h2⟩
  · exact h3.below h2 h1
  · exact IntsAt.of_own h1 h2
theorem PartAt.next {base : Nat} {w w' : World} {u : Value} {l : List Int} (h : PartAt base w u l) (hB : base ≤ w.heap.size) (hb : Below w.heap.size w w') : PartAt base w' u l := by
  rcases h with ⟨W0, h1, h2, h3⟩ | ⟨⟨B, h1⟩, h2⟩
  · exact .inl ⟨W0, h1, h2.trans (hb.mono hB), h3⟩
  · exact .inr ⟨⟨B, own_below h1 hb⟩, h2⟩
theorem PartAt.grown {base : Nat} {w w' : World} {u v : Value} {l : List Int} {e : TypeId} {size n : Nat} {xs : List Value} (h : PartAt base w u l) (hB : base ≤ w.heap.size) (hv : w.ownsRow base e size v n xs) (hne : 3 ≠ e) (hg : w.grownBy w' v.ownBlock) : PartAt base w' u l := by
  rcases h with ⟨W0, h1, h2, h3⟩ | ⟨⟨B, h1⟩, h2⟩
  · exact .inl ⟨W0, h1, h2.grown hg hB (fun j hj => (hv.lt j hj).1), h3⟩
  · exact .inr ⟨⟨B, h1.kept hg (own_own_ne h1 hv hne)⟩, h2⟩

theorem rev_take {l : List Int} {k : Nat} (h : k < l.length) : l.reverse.take (k + 1) = l.reverse.take k ++ [l[l.length - 1 - k]] := by
  rw [List.take_add_one]
  congr 1
  rw [List.getElem?_reverse h, List.getElem?_eq_getElem (by omega)]
  rfl

set_option maxRecDepth 100000 in
set_option maxHeartbeats 1000000 in
theorem rpart_any (base : Nat) (s : St) (v : Value) (cell : Int) (W0 w : World) (h : StAt W0 v s) (hW0 : W0.heap.size ≤ base) (hbw : Below base W0 w) (hB : base ≤ w.heap.size) (hz : s.inp.length ≤ 1000000)
    (hc : cell = -1 ∨ cell = -2 ∨ 0 ≤ cell ∧ cell < s.cells.length) :
    Calls Try.prog 37 #[v, .int .i64 cell] w fun e w' => ∃ u, e = .returned u ∧ PartAt base w' u (part s cell) ∧ Below w.heap.size w w' := by
  obtain ⟨c, i, o, rfl, h4, h5, h6⟩ := h
  rcases hc with rfl | rfl | ⟨hc1, hc2⟩
  · have hp : part s (-1) = s.inp.reverse := rfl
    rw [hp]
    have h5b := h5.below hbw hW0
    obtain ⟨⟨a, ca, rfl, -, -, hq⟩, hi64⟩ := h5b
    generalize hn : s.inp.length = n at *
    have HN := Lib.hid hn
    have HQ := Lib.hid hq
    have HI := Lib.hid hi64
    obtain ⟨i0, hi, hz0, hz1, hz2⟩ := info_parts intInfo
    have f1 : IntKind.i64.wrap ((n : Int) - 1) = (n : Int) - 1 := IntWalk.i64_in _ (by omega)
    obtain ⟨W1, hW1⟩ : ∃ W1, W1 = w.alloc (.cells #[c, .slice a n ca, o] 25) := ⟨_, rfl⟩
    have hb1 : Below w.heap.size w W1 := by rw [hW1]; exact below_alloc _ _
    have b1 : W1.cell? ⟨w.heap.size, 1, none⟩ = some (.slice a n ca) := by rw [hW1]; exact (three_new _ _ _ _ _).2.1
    have hlt1 : w.heap.size < W1.heap.size := by rw [hW1]; simp
    have HW1 := Lib.hid hW1
    have HB1 := Lib.hid hb1
    have C1 := Lib.hid b1
    clear h4 h5 h6 hp hq hn hi64 hW1 hb1 b1
    go_enter Try.func37, Try.ntmps37
    go_wp2
    rw [← HW1.out]
    go_loopg [5, 6] n (fun q v i wr => ∃ (r : Nat) (x : Int), r = q ∧ r ≤ n ∧ i = .int .i64 x ∧ x = (r : Int) - 1 ∧ wr.ownsRow W1.heap.size 3 1 v (n - r) (intsV (s.inp.reverse.take (n - r))) ∧ Below W1.heap.size W1 wr)
    case atStart => exact ⟨n, _, rfl, Nat.le_refl _, rfl, rfl, by rw [Nat.sub_self]; exact World.ownsRow_nil _ _ _ _, Below.refl _ _⟩
    case round =>
      obtain ⟨r, x, hr, hq, rfl, hx, hown, hb⟩ := hrel
      have HR := Lib.hid hr
      clear hr
      have Hown := Lib.hid hown
      have Hb := Lib.hid hb
      have b1 := cell_below hb hlt1 C1.out
      have hsz := hb.size
      clear hown hb
      cases r with
      | zero =>
        obtain rfl : x = -1 := by omega
        clear hx
        have hown := Hown.out
        rw [Nat.sub_zero, List.take_of_length_le (by rw [List.length_reverse, HN.out]; exact Nat.le_refl _)] at hown
        have HO := Lib.hid hown
        clear hown Hown
        go_wp2
        go_ret
        have e : s.inp.reverse.length = n := by rw [List.length_reverse, HN.out]
        exact ⟨_, rfl, .inr ⟨⟨W1.heap.size, by rw [e]; exact HO.out⟩, fun y hy => HI.out y (List.mem_reverse.1 hy)⟩, HB1.out.trans (Hb.out.mono HB1.out.size)⟩
      | succ j =>
        obtain rfl : x = (j : Int) := by omega
        clear hx
        have hj : j < n := by omega
        have hj' : (j : Int) < (n : Int) := by omega
        obtain ⟨g, off, rfl, hg, hq2⟩ := HQ.out (by omega)
        have hjl : s.inp[j]? = some (s.inp[j]'(by rw [HN.out]; exact hj)) := List.getElem?_eq_getElem _
        have m0 := cell_below (HB1.out.trans (Hb.out.mono HB1.out.size)) hg (hq2 j _ hjl)
        have ht : s.inp.reverse.take (n - j) = s.inp.reverse.take (n - (j + 1)) ++ [s.inp[j]'(by rw [HN.out]; exact hj)] := by
          have e1 : n - j = (n - (j + 1)) + 1 := by omega
          rw [e1, rev_take (by rw [HN.out]; omega)]
          congr 2
          congr 1
          rw [HN.out]; omega
        generalize s.inp[j]'(by rw [HN.out]; exact hj) = p at *
        have HT := Lib.hid ht
        have hnj : n - (j + 1) ≤ 1000000 := by omega
        have f2 : IntKind.i64.wrap ((j : Int) - 1) = (j : Int) - 1 := IntWalk.i64_in _ (by omega)
        clear ht hq2 hjl
        generalize hm : n - (j + 1) = m at *
        have HM := Lib.hid hm
        clear hm
        go_wp2_with (at_builtin; refine wpList_append_own _ rfl (.tmp 26) (.tmp 32) 23 rfl W1.heap.size 3 i0 (.int .i64 0) 1 8 Try.underlying23 hi hz0 hz1 hz2 rfl (by decide) _ _ _ rfl (Hown.out.alloc _) ⟨wr.heap.size, 0, none⟩ 1 1 [.int .i64 p] rfl rfl ?c1 ?c2 ?c3 ?c4 ?c5 ?_)
        case c1 => exact cell_one_new _ _ _
        case c2 => intro u hu; simp only [List.mem_cons, List.not_mem_nil, or_false] at hu; rcases hu with rfl; rfl
        case c3 => unfold maxLen; omega
        case c4 => omega
        case c5 => simp; omega
        intro v' w1 hown1 hgrow _
        have hb1 := (Hb.out.alloc hsz (.cells #[.int .i64 p] 3)).grown hgrow (by simp; omega) (fun j hj => (Hown.out.lt j hj).1)
        have Hown1 := Lib.hid hown1
        have Hb1 := Lib.hid hb1
        clear hgrow hown1 hb1
        go_wp2
        have hr := HR.out
        go_roundg j
        case measure => omega
        case rel =>
          refine ⟨j, _, rfl, by omega, rfl, rfl, ?_, Hb1.out⟩
          have e1 : n - j = m + 1 := by have := HM.out; omega
          rw [HT.out, e1]
          have e : intsV (s.inp.reverse.take m ++ [p]) = intsV (s.inp.reverse.take m) ++ [.int .i64 p] := by simp [intsV]
          rw [e]
          exact Hown1.out
  · have hp : part s (-2) = s.out := rfl
    rw [hp]
    have H6 := Lib.hid h6
    clear h4 h5 hp h6
    go_enter Try.func37, Try.ntmps37
    go_wp2
    go_ret
    exact ⟨_, rfl, .inl ⟨W0, hW0, hbw.trans ((below_alloc _ _).mono hB), H6.out⟩, below_alloc _ _⟩
  · obtain ⟨k, rfl⟩ := Int.eq_ofNat_of_zero_le hc1
    have hk : k < s.cells.length := by omega
    have hl : s.cells[k]? = some s.cells[k] := List.getElem?_eq_getElem hk
    have hp : part s (k : Int) = s.cells[k] := by
      unfold part
      rw [if_neg (by omega), if_neg (by omega), Int.toNat_natCast, List.getD_eq_getElem?_getD, hl]
      rfl
    rw [hp]
    generalize s.cells[k] = l at *
    obtain ⟨a, cc, rfl, hn, hm, hq⟩ := h4
    obtain ⟨g, off, rfl, hg, hq⟩ := hq (by omega)
    obtain ⟨u, hu, hi⟩ := hq k l hl
    have HI := Lib.hid hi
    have m0 := alloc_cell (cell_below hbw (by omega) hu) (.cells #[.slice (some ⟨g, off, none⟩) s.cells.length cc, i, o] 25)
    generalize s.cells.length = n at *
    have hk' : (k : Int) < (n : Int) := by omega
    clear h5 h6 hz hp hq hi hl hu
    go_enter Try.func37, Try.ntmps37
    go_wp2
    go_ret
    exact ⟨_, rfl, .inl ⟨W0, hW0, hbw.trans ((below_alloc _ _).mono hB), HI.out⟩, below_alloc _ _⟩

end Go.Proofs.Ytpbbiidfahaamaa
