/- Walks: components, elements. -/
import Derived.Test.YtpbbiidfahaamaaStD1
import Derived.Test.YtpbbiidfahaamaaStW5
namespace Go.Proofs.Ytpbbiidfahaamaa
open Go.RowKit Go.Lib Go.Sort

theorem intInfo : (Try.prog.info? 3).map (fun i => (i.zero, i.size, i.bytes)) = some (some (.int .i64 0), 1, 8) := by kernel_rfl

theorem own_form {w : World} {base : Nat} {e : TypeId} {size : Nat} {v : Value} {n : Nat} {xs : List Value} (h : w.ownsRow base e size v n xs) : ∃ a c, v = .slice a n c := by
  rcases h.2 with ⟨rfl, rfl⟩ | ⟨g, cap, cur, rfl, _⟩
  · exact ⟨_, _, rfl⟩
  · exact ⟨_, _, rfl⟩

theorem own_own_ne {w : World} {base base' : Nat} {e e' : TypeId} {size size' n n' : Nat} {v v' : Value} {xs xs' : List Value} (h : w.ownsRow base e size v n xs) (h' : w.ownsRow base' e' size' v' n' xs') (hne : e ≠ e') :
    v.ownBlock = none ∨ v.ownBlock ≠ v'.ownBlock := by
  rcases h.2 with ⟨rfl, _⟩ | ⟨g, cap, cur, rfl, _, hh, _⟩
  · exact .inl rfl
  · rcases h'.2 with ⟨rfl, _⟩ | ⟨g', cap', cur', rfl, _, hh', _⟩
    · exact .inr (by simp [Value.ownBlock])
    · refine .inr (fun he => hne ?_)
      have : g = g' := by simpa [Value.ownBlock] using he
      subst this
      rw [hh] at hh'
      injection hh' with h1
      injection h1

def compsL (n : Nat) : List Int := (List.range n).map (fun i : Nat => (i : Int))
def comps (n : Nat) : List Int := compsL n ++ [-1, -2]

theorem compsL_take {n k : Nat} (h : k < n) : (compsL n).take (k + 1) = (compsL n).take k ++ [(k : Int)] := by
  rw [List.take_add_one]
  congr 1
  simp [compsL, h]

set_option maxRecDepth 100000 in
set_option maxHeartbeats 1000000 in
theorem comps_any (n : Nat) (hn : n ≤ 1000000) (w : World) :
    Calls Try.prog 35 #[.int .i64 n] w fun e w' => ∃ u, e = .returned u ∧ w'.ownsRow w.heap.size 3 1 u (comps n).length (intsV (comps n)) ∧ Below w.heap.size w w' := by
  obtain ⟨i0, hi, hz0, hz1, hz2⟩ := info_parts intInfo
  have hn63 : (n : Int) ≤ 1000000 := by omega
  go_enter Try.func35, Try.ntmps35
  go_wp2
  go_loopg [3, 6] n (fun q u i wr => ∃ k : Nat, k + q = n ∧ i = .int .i64 k ∧ wr.ownsRow w.heap.size 3 1 u k (intsV ((compsL n).take k)) ∧ Below w.heap.size w wr)
  case atStart => exact ⟨0, by omega, rfl, World.ownsRow_nil _ _ _ _, Below.refl _ _⟩
  case round =>
    obtain ⟨k, hk, rfl, hown, hbw⟩ := hrel
    have Hk := Lib.hid hk
    have hkn : k ≤ n := by omega
    have Hown := Lib.hid hown
    have Hb := Lib.hid hbw
    have hsz := hbw.size
    clear hk hown hbw
    by_cases hlt : k < n
    · have hlt' : (k : Int) < (n : Int) := by omega
      have HT := Lib.hid (compsL_take hlt)
      go_wp2_with (at_builtin; refine wpList_append_own _ rfl (.tmp 9) (.tmp 11) 23 rfl w.heap.size 3 i0 (.int .i64 0) 1 8 Try.underlying23 hi hz0 hz1 hz2 rfl (by decide) _ _ _ rfl (Hown.out.alloc _) ⟨wr.heap.size, 0, none⟩ 1 1 [.int .i64 k] rfl rfl ?c1 ?c2 ?c3 ?c4 ?c5 ?_)
      case c1 => exact cell_one_new _ _ _
      case c2 => intro u hu; simp only [List.mem_cons, List.not_mem_nil, or_false] at hu; rcases hu with rfl; rfl
      case c3 => unfold maxLen; omega
      case c4 => omega
      case c5 => simp; omega
      intro v' w1 hown1 hgrow _
      have hb1 : Below w.heap.size w w1 := (Hb.out.alloc (by omega) _).grown hgrow (by simp; omega) (fun j hj => (Hown.out.lt j hj).1)
      clear hgrow Hown
      have Hown1 := Lib.hid hown1
      have Hb1 := Lib.hid hb1
      clear hown1 hb1
      go_wp2
      have hk := Hk.out
      go_roundg (n - (k + 1))
      case measure => omega
      case rel =>
        refine ⟨k + 1, by omega, by go_num, ?_, Hb1.out⟩
        rw [HT.out]
        have e : intsV ((compsL n).take k ++ [(k : Int)]) = intsV ((compsL n).take k) ++ [.int .i64 k] := by simp [intsV]
        rw [e]
        exact Hown1.out
    · have hge : ¬ (k : Int) < (n : Int) := by omega
      have hkn2 : k = n := by omega
      subst hkn2
      have hown := Hown.out
      rw [List.take_of_length_le (by simp [compsL])] at hown
      have HO := Lib.hid hown
      clear hown Hown
      go_wp2_with (at_builtin; refine wpList_append_own _ rfl (.tmp 14) (.tmp 15) 23 rfl w.heap.size 3 i0 (.int .i64 0) 1 8 Try.underlying23 hi hz0 hz1 hz2 rfl (by decide) _ _ _ rfl (HO.out.alloc _) ⟨wr.heap.size, 0, none⟩ 2 2 [.int .i64 (-1), .int .i64 (-2)] rfl rfl ?d1 ?d2 ?d3 ?d4 ?d5 ?_)
      case d2 => exact ⟨rfl, rfl⟩
      case d3 => first | (unfold maxLen; omega) | omega
      case d4 => omega
      case d5 => first | omega | (simp; omega)
      intro v' w1 hown1 hgrow _
      have hb1 : Below w.heap.size w w1 := (Hb.out.alloc (by omega) _).grown hgrow (by simp; omega) (fun j hj => (HO.out.lt j hj).1)
      clear hgrow HO
      have Hown1 := Lib.hid hown1
      have Hb1 := Lib.hid hb1
      clear hown1 hb1
      go_wp2
      go_ret
      have hl : (comps k).length = k + 2 := by simp [comps, compsL]
      have e : intsV (comps k) = intsV (compsL k) ++ [.int .i64 (-1), .int .i64 (-2)] := by simp [comps, intsV]
      rw [hl, e]
      exact ⟨_, rfl, Hown1.out, Hb1.out⟩

theorem elements_any (s : St) (v : Value) (w : World) (h : StAt w v s) :
    Calls Try.prog 34 #[v] w fun e w' => e = .returned (.func (.func 55) #[] #[.pointer (some ⟨w.heap.size, 0, none⟩)]) ∧ BoxAt w' w.heap.size s ∧ Below w.heap.size w w' := by
  obtain ⟨c, i, o, rfl, h1, h2, h3⟩ := h
  have H1 := Lib.hid h1
  have H2 := Lib.hid h2
  have H3 := Lib.hid h3
  clear h1 h2 h3
  go_enter Try.func34, Try.ntmps34
  go_wp2
  go_ret
  obtain ⟨b0, b1, b2⟩ := three_new w c i o 25
  have hb := below_alloc w (.cells #[c, i, o] 25)
  exact ⟨rfl, ⟨by simp, c, i, o, b0, b1, b2, H1.out.below hb (Nat.le_refl _), H2.out.below hb (Nat.le_refl _), H3.out.below hb (Nat.le_refl _)⟩, hb⟩

end Go.Proofs.Ytpbbiidfahaamaa
