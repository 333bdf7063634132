/- Walks of the reader: list, counted. -/
import Derived.Test.YtpbbiidfahaamaaStB1
namespace Go.Proofs.Ytpbbiidfahaamaa
open Go.RowKit

theorem takeN_add (k m : Nat) : ∀ l : List UInt8, takeN (k + m) l = match takeN k l with
    | none => none
    | some (xs, r) => match takeN m r with
      | none => none
      | some (ys, q) => some (xs ++ ys, q) := by
  induction k with
  | zero =>
    intro l
    rw [Nat.zero_add]
    show takeN m l = _
    simp only [takeN]
    cases takeN m l with
    | none => rfl
    | some p => rfl
  | succ k ih =>
    intro l
    have e : k + 1 + m = (k + m) + 1 := by omega
    rw [e]
    simp only [takeN]
    by_cases h : l.length < 8
    · rw [if_pos h, if_pos h]
    · rw [if_neg h, if_neg h, ih]
      cases takeN k (l.drop 8) with
      | none => rfl
      | some p =>
        obtain ⟨xs, r⟩ := p
        simp only
        cases takeN m r with
        | none => rfl
        | some p2 => rfl

theorem takeN_snoc {k : Nat} {l r : List UInt8} {xs : List Int} (h : takeN k l = some (xs, r)) (h8 : 8 ≤ r.length) : takeN (k + 1) l = some (xs ++ [toI (valOf (r.take 8))], r.drop 8) := by
  rw [takeN_add, h]
  simp only [takeN]
  rw [if_neg (by omega)]
theorem takeN_short {k m : Nat} {l r : List UInt8} {xs : List Int} (h : takeN k l = some (xs, r)) (h8 : r.length < 8) (hm : k < m) : takeN m l = none := by
  obtain ⟨d, rfl⟩ : ∃ d, m = k + (d + 1) := ⟨m - k - 1, by omega⟩
  rw [takeN_add, h]
  simp only [takeN]
  rw [if_pos h8]

theorem own_gr {a b : World} {g base : Nat} {e : TypeId} {size n : Nat} {v : Value} {xs : List Value} (h : a.ownsRow base e size v n xs) (hg : a.grownBy b (some g)) (hlt : g < base) : b.ownsRow base e size v n xs := by
  refine h.kept hg (.inr (fun he => ?_))
  have := (h.lt g he).1
  omega

theorem gr_trans {a b c : World} {g : Nat} (h : a.grownBy b (some g)) (h2 : b.grownBy c (some g)) : a.grownBy c (some g) := gr_grown h h2 (fun j hj => by cases hj; exact .inl rfl)

theorem Rd.gr {W0 w w' : World} {g : Nat} {l : List UInt8} {e : Nat} (h : Rd W0 w g l e) {row : Option Nat} (hg : w.grownBy w' row) (hne : some g ≠ row) : Rd W0 w' g l e := by
  obtain ⟨v, h1, h2⟩ := h
  exact ⟨v, h1, h2.grown hg hne⟩
theorem Rd.next {W0 w w' : World} {g : Nat} {l : List UInt8} {e : Nat} (h : Rd W0 w g l e) (hb : Below w.heap.size w w') : Rd W0 w' g l e := by
  obtain ⟨v, h1, h2⟩ := h
  exact ⟨v, h1, h2.next hb⟩
theorem Rd.lt {W0 w : World} {g : Nat} {l : List UInt8} {e : Nat} (h : Rd W0 w g l e) : g < w.heap.size := by
  obtain ⟨v, h1, h2⟩ := h
  exact h2.lt

def ListOut (e : Nat) (l : List UInt8) (count : Nat) (xs : List Int) (l' : List UInt8) (e' : Nat) : Prop :=
  (e ≠ 0 ∧ e' = e) ∨ (e = 0 ∧ takeN count l = none ∧ e' = 4) ∨ (e = 0 ∧ e' = 0 ∧ takeN count l = some (xs, l'))

set_option maxRecDepth 100000 in
set_option maxHeartbeats 4000000 in
theorem list_any (W0 w : World) (g : Nat) (l : List UInt8) (e count : Nat) (hc : count ≤ 70000) (hg : W0.heap.size ≤ g) (hb : Below W0.heap.size W0 w) (h : Rd W0 w g l e) :
    Calls Try.prog 47 #[.pointer (some ⟨g, 0, none⟩), .int .i64 count] w fun en w' => ∃ (u : Value) (xs : List Int) (l' : List UInt8) (e' : Nat), en = .returned u ∧ IntsNew w.heap.size w' u xs ∧ Rd W0 w' g l' e' ∧ w.grownBy w' (some g) ∧ ListOut e l count xs l' e' := by
  have hlt := h.lt
  have HR := Lib.hid h
  have HB := Lib.hid hb
  have hcI : (count : Int) ≤ 70000 := by omega
  clear h hb
  by_cases he : e = 0
  · subst he
    obtain ⟨i0, hi, hz0, hz1, hz2⟩ := info_parts intInfo
    go_enter Try.func47, Try.ntmps47
    go_wp2
    go_loopg [5, 8] count (fun q u i wr => ∃ (k : Nat) (xs : List Int) (r : List UInt8), k + q = count ∧ i = .int .i64 k ∧ xs.length = k ∧ wr.ownsRow w.heap.size 3 1 u k (intsV xs) ∧ Rd W0 wr g r 0 ∧ w.grownBy wr (some g) ∧ takeN k l = some (xs, r))
    case atStart => exact ⟨0, [], l, by omega, rfl, rfl, World.ownsRow_nil _ _ _ _, HR.out, gr_refl _ _, rfl⟩
    case round =>
      obtain ⟨k, xs, r, hk, rfl, hxs, hown, hr, hgr, ht⟩ := hrel
      have Hk := Lib.hid hk
      have hkn : k ≤ count := by omega
      have HX := Lib.hid hxs
      have Hown := Lib.hid hown
      have Hr := Lib.hid hr
      have Hg := Lib.hid hgr
      have HT := Lib.hid ht
      have hsz := hgr.size
      have hbw : Below W0.heap.size W0 wr := HB.out.grown hgr HB.out.size (fun j hj => by cases hj; exact hg)
      have HBW := Lib.hid hbw
      clear hk hxs hown hr hgr ht hbw
      by_cases hlt2 : k < count
      · have hlt' : (k : Int) < (count : Int) := by omega
        go_wp2_with fail
        refine (number_any W0 _ g r 0 8 (by decide) (by decide) HBW.out Hr.out).mono ?_
        rintro en w1 ⟨nn, r', e', rfl, hr1, hg1, hout⟩
        have Hr1 := Lib.hid hr1
        have Hg1 := Lib.hid hg1
        obtain ⟨vr, hvr, hbk⟩ := hr1
        have y1 := hbk.cell 1
        have Hown1 := Lib.hid (own_gr Hown.out hg1 hlt)
        have hs1 := hg1.size
        rcases hout with ⟨h0, _⟩ | ⟨_, h8, rfl, rfl⟩ | ⟨_, h8, rfl, rfl, rfl⟩
        · exact absurd rfl h0
        · have H8 := Lib.hid h8
          clear hvr hbk hg1 h8
          go_wp2
          go_ret
          exact ⟨_, [], r', 4, rfl, World.ownsRow_nil _ _ _ _, Hr1.out, gr_trans Hg.out Hg1.out, .inr (.inl ⟨rfl, takeN_short HT.out H8.out hlt2, rfl⟩)⟩
        · have H8 := Lib.hid h8
          have hsn := takeN_snoc HT.out h8
          generalize toI (valOf (r.take 8)) = x at *
          generalize r.drop 8 = r2 at *
          have HSN := Lib.hid hsn
          clear hvr hbk hg1 h8 hsn
          go_wp2_with (at_builtin; refine wpList_append_own _ rfl (.tmp 17) (.tmp 19) 23 rfl w.heap.size 3 i0 (.int .i64 0) 1 8 Try.underlying23 hi hz0 hz1 hz2 rfl (by decide) _ _ _ rfl (Hown1.out.alloc _) ⟨w1.heap.size, 0, none⟩ 1 1 [.int .i64 x] rfl rfl ?c1 ?c2 ?c3 ?c4 ?c5 ?_)
          case c1 => exact cell_one_new _ _ _
          case c2 => intro u hu; simp only [List.mem_cons, List.not_mem_nil, or_false] at hu; rcases hu with rfl; rfl
          case c3 => unfold maxLen; omega
          case c4 => omega
          case c5 => simp; omega
          intro v' w2 hown2 hgrow _
          have hg2 := gr_grown (gr_alloc (gr_trans Hg.out Hg1.out) (.cells #[.int .i64 x] 3)) hgrow (fun j hj => .inr (Hown1.out.lt j hj).1)
          have hr2 : Rd W0 w2 g r2 0 := (Hr1.out.next (below_alloc _ _)).gr hgrow (by
            intro he
            have := (Hown1.out.lt g he.symm).1
            omega)
          have Hown2 := Lib.hid hown2
          have Hg2 := Lib.hid hg2
          have Hr2 := Lib.hid hr2
          clear hown2 hgrow hg2 hr2
          go_wp2
          have hk := Hk.out
          go_roundg (count - (k + 1))
          case measure => omega
          case rel =>
            refine ⟨k + 1, xs ++ [x], r2, by omega, by go_num, by simp [HX.out], ?_, Hr2.out, Hg2.out, HSN.out⟩
            have e : intsV (xs ++ [x]) = intsV xs ++ [.int .i64 x] := by simp [intsV]
            rw [e]
            exact Hown2.out
      · have hge : ¬ (k : Int) < (count : Int) := by omega
        have hkc : k = count := by omega
        subst hkc
        go_wp2
        go_ret
        have hI : IntsNew w.heap.size wr u5 xs := by
          unfold IntsNew
          rw [HX.out]
          exact Hown.out
        exact ⟨_, rfl, xs, hI, r, 0, Hr.out, Hg.out, .inr (.inr ⟨rfl, rfl, HT.out⟩)⟩
  · by_cases h0 : count = 0
    · subst h0
      go_enter Try.func47, Try.ntmps47
      go_wp2
      go_loopg [5, 8] 0 (fun q u i wr => u = .slice none 0 0 ∧ i = .int .i64 0 ∧ wr = w)
      case atStart => exact ⟨rfl, rfl, rfl⟩
      case round =>
        obtain ⟨rfl, rfl, rfl⟩ := hrel
        go_wp2
        go_ret
        exact ⟨_, [], l, e, rfl, World.ownsRow_nil _ _ _ _, HR.out, gr_refl _ _, .inl ⟨he, rfl⟩⟩
    · have hc1 : (0 : Int) < (count : Int) := by omega
      have he1 : ((e : Int) != 0) = true := by simp; omega
      have HE := Lib.hid he
      clear he
      go_enter Try.func47, Try.ntmps47
      go_wp2
      go_loopg [5, 8] 0 (fun q u i wr => u = .slice none 0 0 ∧ i = .int .i64 0 ∧ wr = w)
      case atStart => exact ⟨rfl, rfl, rfl⟩
      case round =>
        obtain ⟨rfl, rfl, rfl⟩ := hrel
        go_wp2_with fail
        refine (number_any W0 _ g l e 8 (by decide) (by decide) HB.out HR.out).mono ?_
        rintro en w1 ⟨nn, r', e', rfl, hr1, hg1, hout⟩
        have Hr1 := Lib.hid hr1
        have Hg1 := Lib.hid hg1
        obtain ⟨vr, hvr, hbk⟩ := hr1
        have y1 := hbk.cell 1
        rcases hout with ⟨_, rfl, rfl⟩ | ⟨h0', _⟩ | ⟨h0', _⟩
        · clear hvr hbk hg1
          go_wp2
          go_ret
          exact ⟨_, [], r', _, rfl, World.ownsRow_nil _ _ _ _, Hr1.out, Hg1.out, .inl ⟨HE.out, rfl⟩⟩
        · exact absurd h0' HE.out
        · exact absurd h0' HE.out
end Go.Proofs.Ytpbbiidfahaamaa
