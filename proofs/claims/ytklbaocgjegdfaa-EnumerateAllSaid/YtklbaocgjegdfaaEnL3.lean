/- The walk of 'list' (distribute$1): all lists are chosen: yield. -/
import Derived.Test.YtklbaocgjegdfaaEnL2
import Derived.Sort.QuietIn
import Derived.Stop.RegionWithIn
namespace Go.Proofs.Ytklbaocgjegdfaa
open Go.RowKit Go.Shelf

attribute [local go_sem] Oper.semAt_some

/-- a value that yield gets: the state x in blocks behind all of the iterator's -/
def ArgAt (v : Value) (x : St) (O : Nat → Prop) (A W : World) : Prop := (∃ j, O j) ∧ (∀ j, O j → j < A.heap.size) ∧ StNew A.heap.size W v x

/-- how a round has ended -/
def RoundP (J : List St → (Nat → Prop) → World → Prop) (Jx : List St → World → Prop) (xs : List St) (O : Nat → Prop) (w : World) (b : Bool) (W' : World) : Prop := (b = true ∧ J xs O W' ∧ Leaves O w W') ∨ (b = false ∧ Jx xs W')

section
variable {l : Nat} {h : Int} {B : List Bd} {x : Fix} {J : List St → (Nat → Prop) → World → Prop} {Jx : List St → World → Prop} {L : List St}

set_option maxRecDepth 100000 in
set_option maxHeartbeats 8000000 in
theorem list_end (hB : Bides J) {n : Nat} (hn : B.length = n + 1) (hn6 : n ≤ 66)
    (hY : ∀ m pre v x O A W1, J pre O A → Below A.heap.size A W1 → ArgAt v x O A W1 → L[pre.length]? = some x → YieldAt Fence.wide m Try.prog l #[v] W1 fun e W' =>
      (e = .returned (.bool true) ∧ J (pre ++ [x]) O W' ∧ Leaves O W1 W') ∨ (e = .returned (.bool false) ∧ Jx (pre ++ [x]) W')) : ListOK J Jx L l h B x (n + 1) := by
  intro left pre tail W O vs P h0 h1 hinv hL hJ
  have hres : listRes h B (n + 1) P left = [mkSt ((List.range (n + 1)).map P)] := by
    unfold listRes
    rw [List.drop_eq_nil_of_le (by omega)]
    simp [listsP]
  rw [hres] at hL ⊢
  obtain ⟨g, cp, ev, y1, -, -, -, -⟩ := hinv.lists.get (j := n) (by omega) (by omega)
  obtain ⟨hst, hsz, hc40⟩ := hinv.st hn (by omega)
  rw [ev] at hst
  obtain ⟨X, hX⟩ : ∃ X, mkSt ((List.range (n + 1)).map P) = X := ⟨_, rfl⟩
  rw [hX] at hst hsz hc40 hL ⊢
  obtain ⟨len, hlen⟩ : ∃ len, (P n).length = len := ⟨_, rfl⟩
  rw [hlen] at y1 hst
  have y0 := hinv.fix.s.cell 0
  have yy := hinv.fix.y.cell 0
  simp only [List.getElem?_toArray, List.getElem?_cons_zero] at y0 yy
  rw [hn] at y0
  have HINV := Lib.hid hinv
  have HL := Lib.hid hL
  have HJ := Lib.hid hJ
  have HST := Lib.hid hst
  have HSZ := Lib.hid hsz
  have HC := Lib.hid hc40
  have HY := Lib.hid hY
  have hnn : (n : Int) ≤ 66 := by omega
  have hn0 : (0 : Int) ≤ (n : Int) := Int.natCast_nonneg _
  have hce : ((n + 1 : Nat) : Int) = (n : Int) + 1 := by omega
  have t1 : (((n + 1 : Nat) : Int) == ((n + 1 : Nat) : Int)) = true := by simp
  have f1 : IntKind.i64.wrap ((n : Int) + 1 - 1) = (n : Int) := by rw [IntWalk.i64_in _ (by omega)]; omega
  rw [hce]
  clear hinv hL hJ hst hsz hc40 ev hlen hX hres hY
  refine (callsIn_wide (n := 3)).1 ?_
  refine callsIn_of_wp Try.func52 rfl trivial ?_ rfl
  simp only [Try.ntmps52, List.size_toArray, List.length_cons, List.length_nil, Nat.reduceAdd, Nat.reduceSub, Array.replicate_succ, Array.replicate_zero, List.push_toArray, List.append_toArray, List.nil_append, List.cons_append]
  gi_wp2
  gi_quiet (fail)
  obtain ⟨W1, hW1⟩ : ∃ W1, W1 = W.drewN nq := ⟨_, rfl⟩
  have HI1 : Hid (Inv l h B x O W1 (n + 1) vs P) := by rw [hW1]; exact HINV.out.leaves (leaves_drewN _ _ _)
  have HJ1 : Hid (J pre O W1) := by rw [hW1]; exact hB _ _ _ _ _ HJ.out (grows_below (drewN_below (Below.refl _ _) _))
  have HST1 : Hid (StAt W1 (.agg #[.slice (some ⟨x.Ls, 0, none⟩) n (n + 1), .slice (some ⟨g, 0, none⟩) len cp, .slice none 0 0]) X) := by rw [hW1]; exact HST.out.below (drewN_below (Below.refl _ _) _) (Nat.le_refl _)
  rw [← hW1]
  clear hW1 y0 y1 yy HINV HJ HST nq
  have HYY : Hid (∀ w', Below W1.heap.size W1 w' → w'.cell? ⟨x.by_, 0, none⟩ = some (.func (.yield l) #[] #[])) := fun w' hb => (HI1.out.fix.y.next hb).cell 0
  have yy := HYY.out W1 (Below.refl _ _)
  have yyd := HYY.out W1.drew (below_drew (Below.refl _ _))
  have HCL : Hid (∀ w', Below W1.heap.size W1 w' → Calls Try.prog 22 #[.agg #[.slice (some ⟨x.Ls, 0, none⟩) n (n + 1), .slice (some ⟨g, 0, none⟩) len cp, .slice none 0 0]] w' fun e w'' => ∃ r, e = .returned r ∧ StNew w'.heap.size w'' r X ∧ Below w'.heap.size w' w'') :=
    fun w' hb => sclone_any X _ w' (HST1.out.below hb (Nat.le_refl _)) HSZ.out HC.out
  have hdd : ∀ k : Nat, (Fence.wide.depth.isSome = true → 1 ≤ k) := fun k h => by cases h
  have HPL : Hid (L[pre.length]? = some X) := by unfold Hid; rw [HL.out]; simp
  have HRND : Hid (∀ r w2, Below W1.heap.size W1 w2 → StNew W1.heap.size w2 r X → YieldAt Fence.wide 2 Try.prog l #[r] w2 fun e W' => ∃ b : Bool, e = .returned (.bool b) ∧ Hid (RoundP J Jx (pre ++ [X]) O w2 b W')) :=
    fun r w2 hb hs => YieldAt.mono (HY.out 2 pre r X O W1 w2 HJ1.out hb ⟨⟨x.Ls, HI1.out.lists.own⟩, HI1.out.old, hs⟩ HPL.out) (fun e W' hh => by
      rcases hh with ⟨he, hj, hl⟩ | ⟨he, hx⟩
      · exact ⟨true, he, .inl ⟨rfl, hj, hl⟩⟩
      · exact ⟨false, he, .inr ⟨rfl, hx⟩⟩)
  gi_wp2
  gi_region_with (first
    | ((try refine ⟨hdd _, ?_⟩); (try refine ⟨trivial, ?_⟩); gi_at_call 22; refine (callsIn_wide.2 (HCL.out _ (by first | exact Below.refl _ _ | exact below_drew (Below.refl _ _)))).mono ?_; rintro e w2 ⟨r, rfl, hst2, hb2⟩; have HB2 : Hid (Below W1.heap.size W1 w2) := Lib.hid (by first | exact hb2 | exact below_undrew hb2); have y2 := HYY.out w2 HB2.out; obtain ⟨fn, tmps, assign, body, hy, hR⟩ := HRND.out r w2 HB2.out hst2)
    | ((try refine ⟨hdd _, ?_⟩); refine hR.mono ?_; clear hR; rintro e w3 ⟨b, rfl, HP3⟩))
  all_goals
    rcases HP3.out with ⟨rfl, hJ3, hL3⟩ | ⟨rfl, hx3⟩
    · have HJ3 := Lib.hid hJ3
      have HI3 := Lib.hid ((HI1.out.leaves (leaves_below HB2.out HI1.out.old)).leaves hL3)
      clear hJ3 hL3 HP3
      gi_wp2
      go_ret
      exact .inl ⟨rfl, O, vs, P, HJ3.out, HI3.out, fun _ _ => ⟨rfl, rfl⟩⟩
    · have HX3 : Hid (Jx (L.take (pre.length + 1)) w3) := by
        unfold Hid
        rw [HL.out, List.append_assoc, List.take_append, List.take_of_length_le (by omega)]
        simpa using hx3
      clear hx3 HP3
      gi_wp2
      go_ret
      exact .inr ⟨rfl, pre.length, HX3.out⟩

theorem list_all (hB : Bides J) (hcond : Cond h B) (hn : 0 < B.length)
    (hY : ∀ m pre v x O A W1, J pre O A → Below A.heap.size A W1 → ArgAt v x O A W1 → L[pre.length]? = some x → YieldAt Fence.wide m Try.prog l #[v] W1 fun e W' =>
      (e = .returned (.bool true) ∧ J (pre ++ [x]) O W' ∧ Leaves O W1 W') ∨ (e = .returned (.bool false) ∧ Jx (pre ++ [x]) W')) : ∀ d c, c + d = B.length → ListOK J Jx L l h B x c := by
  intro d
  induction d with
  | zero =>
    intro c hc
    obtain ⟨n, rfl⟩ : ∃ n, c = n + 1 := ⟨c - 1, by omega⟩
    exact list_end hB hc.symm (by have := hcond.n; omega) hY
  | succ d ih =>
    intro c hc
    exact list_step hB hcond (by omega) (num_in hB hcond (by omega) (ih (c + 1) (by omega)))
end
end Go.Proofs.Ytklbaocgjegdfaa
