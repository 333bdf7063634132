/- Walks of the reader: counted. -/
import Derived.Test.YtpbbiidfahaamaaStB2
namespace Go.Proofs.Ytpbbiidfahaamaa
open Go.RowKit

def CountOut (e : Nat) (l : List UInt8) (most : Nat) (xs : List Int) (l' : List UInt8) (e' : Nat) : Prop :=
  (e ≠ 0 ∧ e' = e) ∨ (e = 0 ∧ e' ≠ 0 ∧ countedP most l = .error e') ∨ (e = 0 ∧ e' = 0 ∧ countedP most l = .ok (xs, l'))

theorem Below.of_gr {B : Nat} {W0 w w' : World} {g : Nat} (h : Below B W0 w) (hB : B ≤ W0.heap.size) (hg : w.grownBy w' (some g)) (hlt : B ≤ g) : Below B W0 w' :=
  h.grown hg (Nat.le_trans hB h.size) (fun j hj => by cases hj; exact hlt)

theorem counted_short {most : Nat} {l : List UInt8} (h : l.length < 2) : countedP most l = .error 4 := by
  unfold countedP; rw [if_pos h]
theorem counted_many {most : Nat} {l : List UInt8} (h : 2 ≤ l.length) (h2 : most < valOf (l.take 2)) : countedP most l = .error 5 := by
  unfold countedP; rw [if_neg (by omega), if_pos h2]
theorem counted_none {most : Nat} {l : List UInt8} (h : 2 ≤ l.length) (h2 : valOf (l.take 2) ≤ most) (h3 : takeN (valOf (l.take 2)) (l.drop 2) = none) : countedP most l = .error 4 := by
  unfold countedP; rw [if_neg (by omega), if_neg (by omega), h3]
theorem counted_some {most : Nat} {l r : List UInt8} {xs : List Int} (h : 2 ≤ l.length) (h2 : valOf (l.take 2) ≤ most) (h3 : takeN (valOf (l.take 2)) (l.drop 2) = some (xs, r)) : countedP most l = .ok (xs, r) := by
  unfold countedP; rw [if_neg (by omega), if_neg (by omega), h3]

theorem val2 {l : List UInt8} (h : 2 ≤ l.length) : valOf (l.take 2) < 65536 := by
  have h1 := valOf_lt (l.take 2)
  have h2 : (l.take 2).length = 2 := by rw [List.length_take]; omega
  rw [h2] at h1
  have e : 256 ^ 2 = 65536 := by decide
  omega

set_option maxRecDepth 100000 in
set_option maxHeartbeats 4000000 in
theorem counted_any (W0 w : World) (g : Nat) (l : List UInt8) (e most : Nat) (hm : most ≤ 60000) (hg : W0.heap.size ≤ g) (hb : Below W0.heap.size W0 w) (h : Rd W0 w g l e) :
    Calls Try.prog 46 #[.pointer (some ⟨g, 0, none⟩), .int .i64 most] w fun en w' => ∃ (u : Value) (xs : List Int) (l' : List UInt8) (e' : Nat), en = .returned u ∧ IntsNew w.heap.size w' u xs ∧ Rd W0 w' g l' e' ∧ w.grownBy w' (some g) ∧ CountOut e l most xs l' e' := by
  have HR := Lib.hid h
  have HB := Lib.hid hb
  have hmI : (most : Int) ≤ 60000 := by omega
  clear h hb
  go_enter Try.func46, Try.ntmps46
  go_wp2_with fail
  refine (number_any W0 _ g l e 2 (by decide) (by decide) HB.out HR.out).mono ?_
  rintro en w1 ⟨nn, r', e', rfl, hr1, hg1, hout⟩
  have Hr1 := Lib.hid hr1
  have Hg1 := Lib.hid hg1
  have HB1 := Lib.hid (Below.of_gr HB.out (Nat.le_refl _) hg1 hg)
  have hs1 := hg1.size
  obtain ⟨vr, hvr, hbk⟩ := hr1
  have y0 := hbk.cell 0
  have y1 := hbk.cell 1
  have z1 := hbk.free 1
  have HVR := Lib.hid hvr
  have HBK := Lib.hid hbk
  clear hvr hbk hg1
  rcases hout with ⟨he, rfl, rfl⟩ | ⟨rfl, h2, rfl, rfl⟩ | ⟨rfl, h2, rfl, rfl, rfl⟩
  · have he1 : ((e' : Int) == 0) = false := by simp; omega
    have HE := Lib.hid he
    clear he
    go_wp2_with fail
    refine (list_any W0 _ g r' e' 0 (by decide) hg HB1.out Hr1.out).mono ?_
    rintro en w2 ⟨u2, xs, l2, e2, rfl, hi2, hr2, hg2, hout2⟩
    have hI := own_mono hi2 hs1
    have hG := gr_trans Hg1.out hg2
    have he2 : e2 = e' := by
      rcases hout2 with ⟨_, h⟩ | ⟨h, _⟩ | ⟨h, _⟩
      · exact h
      · exact absurd h HE.out
      · exact absurd h HE.out
    have HI := Lib.hid hI
    have HG := Lib.hid hG
    have HR2 := Lib.hid hr2
    have HE2 := Lib.hid he2
    clear hi2 hr2 hg2 hout2 hI hG he2
    go_wp2
    go_ret
    exact ⟨_, xs, l2, e2, rfl, HI.out, HR2.out, HG.out, .inl ⟨HE.out, HE2.out⟩⟩
  · have H2 := Lib.hid h2
    clear h2
    go_wp2_with fail
    refine (list_any W0 _ g r' 4 0 (by decide) hg HB1.out Hr1.out).mono ?_
    rintro en w2 ⟨u2, xs, l2, e2, rfl, hi2, hr2, hg2, hout2⟩
    have hI := own_mono hi2 hs1
    have hG := gr_trans Hg1.out hg2
    have he2 : e2 = 4 := by
      rcases hout2 with ⟨_, h⟩ | ⟨h, _⟩ | ⟨h, _⟩
      · exact h
      · omega
      · omega
    have HI := Lib.hid hI
    have HG := Lib.hid hG
    have HR2 := Lib.hid hr2
    have HE2 := Lib.hid he2
    clear hi2 hr2 hg2 hout2 hI hG he2
    go_wp2
    go_ret
    exact ⟨_, xs, l2, e2, rfl, HI.out, HR2.out, HG.out, .inr (.inl ⟨rfl, by rw [HE2.out]; decide, by rw [HE2.out]; exact counted_short H2.out⟩)⟩
  · have hv := val2 h2
    have H2 := Lib.hid h2
    obtain ⟨v, hvv⟩ : ∃ v, v = valOf (l.take 2) := ⟨_, rfl⟩
    rw [← hvv] at hv ⊢
    have hti : toI v = (v : Int) := by unfold toI; rw [if_pos (by omega)]
    rw [hti]
    have HV := Lib.hid hvv
    clear h2 hvv hti
    by_cases hmv : most < v
    · have hmv' : (most : Int) < (v : Int) := by omega
      go_wp2_with fail
      have hk5 := HBK.out.set 1 (.int .i64 5)
      have hg5 := gr_set Hg1.out 1 (.int .i64 5)
      refine (list_any W0 _ g (l.drop 2) 5 v (by omega) hg (Below.of_gr HB.out (Nat.le_refl _) hg5 hg) ⟨_, HVR.out, hk5⟩).mono ?_
      rintro en w2 ⟨u2, xs, l2, e2, rfl, hi2, hr2, hg2, hout2⟩
      have hI := own_mono hi2 (Nat.le_trans hs1 (by simp [World.setCell]))
      have hG := gr_trans hg5 hg2
      have he2 : e2 = 5 := by
        rcases hout2 with ⟨_, h⟩ | ⟨h, _⟩ | ⟨h, _⟩
        · exact h
        · omega
        · omega
      have HI := Lib.hid hI
      have HG := Lib.hid hG
      have HR2 := Lib.hid hr2
      have HE2 := Lib.hid he2
      have HMV := Lib.hid hmv
      clear hi2 hr2 hg2 hout2 hI hG he2 hk5 hg5 hmv
      go_wp2
      go_ret
      exact ⟨_, xs, l2, e2, rfl, HI.out, HR2.out, HG.out, .inr (.inl ⟨rfl, by rw [HE2.out]; decide, by rw [HE2.out]; exact counted_many H2.out (by rw [← HV.out]; exact HMV.out)⟩)⟩
    · have hmv' : ¬ (most : Int) < (v : Int) := by omega
      have HMV := Lib.hid (show v ≤ most by omega)
      go_wp2_with fail
      refine (list_any W0 _ g (l.drop 2) 0 v (by omega) hg HB1.out Hr1.out).mono ?_
      rintro en w2 ⟨u2, xs, l2, e2, rfl, hi2, hr2, hg2, hout2⟩
      have hI := own_mono hi2 hs1
      have hG := gr_trans Hg1.out hg2
      have HI := Lib.hid hI
      have HG := Lib.hid hG
      have HR2 := Lib.hid hr2
      have hfin : CountOut 0 l most xs l2 e2 := by
        rcases hout2 with ⟨h, _⟩ | ⟨_, h, rfl⟩ | ⟨_, rfl, h⟩
        · exact absurd rfl h
        · exact .inr (.inl ⟨rfl, by decide, counted_none H2.out (by rw [← HV.out]; exact HMV.out) (by rw [← HV.out]; exact h)⟩)
        · exact .inr (.inr ⟨rfl, rfl, counted_some H2.out (by rw [← HV.out]; exact HMV.out) (by rw [← HV.out]; exact h)⟩)
      have HFI := Lib.hid hfin
      clear hi2 hr2 hg2 hout2 hI hG hfin hmv
      go_wp2
      go_ret
      exact ⟨_, xs, l2, e2, rfl, HI.out, HR2.out, HG.out, HFI.out⟩
end Go.Proofs.Ytpbbiidfahaamaa
