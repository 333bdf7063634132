/- Walk of the reference's counted. -/
import Derived.Test.YtpbbiidfahaamaaStT1
namespace Go.Proofs.Ytpbbiidfahaamaa
open Go.RowKit

def CntOut (R : Except Nat (List Int × List UInt8)) (xs : List Int) (r : List UInt8) (e : Nat) : Prop := (R = .error e ∧ e ≠ 0) ∨ (R = .ok (xs, r) ∧ e = 0)

theorem val_two {l : List UInt8} {a b : UInt8} (h0 : l[0]? = some a) (h1 : l[1]? = some b) : valOf (l.take 2) = a.toNat * 256 + b.toNat := by
  have e := valOf_take h1
  have e0 := valOf_take h0
  rw [e, e0]
  simp [valOf]

set_option maxRecDepth 100000 in
set_option maxHeartbeats 4000000 in
theorem rcounted_any (W0 w : World) (l : List UInt8) (v : Value) (most : Nat) (hm : most ≤ 60000) (hb : Below W0.heap.size W0 w) (h : BytesAt W0 v l) :
    Calls Try.prog 49 #[v, .int .i64 most] w fun en w' => ∃ (u v' : Value) (e : Nat) (xs : List Int) (r : List UInt8), en = .returned (.tuple #[u, v', .int .i64 e]) ∧ IntsNew w.heap.size w' u xs ∧ BytesAt W0 v' r ∧ Below w.heap.size w w' ∧ CntOut (countedP most l) xs r e := by
  have HB := Lib.hid hb
  have HV := Lib.hid h
  have hmI : (most : Int) ≤ 60000 := by omega
  obtain ⟨a, c, rfl, hnc, hcm, hq⟩ := h
  have hcm' : c ≤ 9223372036854775807 := by unfold maxLen at hcm; omega
  generalize hn : l.length = n at *
  have HN := Lib.hid hn
  clear hb hcm hn
  by_cases h2 : n < 2
  · have h2' : (n : Int) < 2 := by omega
    have HS := Lib.hid (counted_short (most := most) (l := l) (by rw [HN.out]; exact h2))
    clear hq
    go_enter Try.func49, Try.ntmps49
    go_wp2
    go_ret3
    exact ⟨_, _, 4, [], [], rfl, World.ownsRow_nil _ _ _ _, BytesAt.nil _, Below.refl _ _, .inl ⟨HS.out, by decide⟩⟩
  · have h2' : ¬ (n : Int) < 2 := by omega
    have hn2 : (2 : Int) ≤ (n : Int) := by omega
    obtain ⟨g, o, rfl, hg, hcell⟩ := hq (by omega)
    obtain ⟨b0, hb0⟩ := get_lt HN.out.symm (show 0 < n by omega)
    obtain ⟨b1, hb1⟩ := get_lt HN.out.symm (show 1 < n by omega)
    have m0 : w.cell? ⟨g, o, none⟩ = some (.int .u8 b0.toNat) := cell_below HB.out hg (hcell 0 b0 hb0)
    have m1 := cell_below HB.out hg (hcell 1 b1 hb1)
    have hv := val_two hb0 hb1
    have q0 : b0.toNat < 256 := b0.toNat_lt
    have q1 : b1.toNat < 256 := b1.toNat_lt
    obtain ⟨V, hV⟩ : ∃ V, V = valOf (l.take 2) := ⟨_, rfl⟩
    rw [← hV] at hv
    have HVV := Lib.hid hV
    have HV2 := Lib.hid hv
    have f1 : IntKind.i64.wrap ((b0.toNat : Int) * 256) = (b0.toNat : Int) * 256 := IntWalk.i64_in _ (by omega)
    have f2 : IntKind.i64.wrap ((b0.toNat : Int) * 256 + (b1.toNat : Int)) = (b0.toNat : Int) * 256 + (b1.toNat : Int) := IntWalk.i64_in _ (by omega)
    clear hq hcell hb0 hb1 hV hv
    rcases Nat.lt_or_ge 2 c with hcs | hcs
    case' inl =>
      have hcs' : ¬ c = 2 := by omega
      have HD := Lib.hid (HV.out.drop 2 (by rw [HN.out]; omega) (some ⟨g, o + 2, none⟩) (by rw [if_neg hcs', Option.map_some, Go.WideShapes.add_plain]))
    case' inr =>
      obtain rfl : c = 2 := by omega
      have hd0 := HV.out.drop 2 (by rw [HN.out]; omega) (some ⟨g, o, none⟩) (by rw [if_pos rfl])
      rw [show n - 2 = 0 by omega, Nat.sub_self] at hd0
      have HD := Lib.hid hd0
      clear hd0
    all_goals
      by_cases hmv : most < b0.toNat * 256 + b1.toNat
      · have hmv' : (most : Int) < (b0.toNat : Int) * 256 + (b1.toNat : Int) := by omega
        have HS := Lib.hid (counted_many (most := most) (l := l) (by rw [HN.out]; omega) (by rw [← HVV.out, HV2.out]; exact hmv))
        go_enter Try.func49, Try.ntmps49
        go_wp2
        go_quiet (fail)
        go_wp2
        go_ret3
        exact ⟨_, _, 5, [], [], rfl, World.ownsRow_nil _ _ _ _, BytesAt.nil _, drewN_below (Below.refl _ _) _, .inl ⟨HS.out, by decide⟩⟩
      · have hmv' : ¬ (most : Int) < (b0.toNat : Int) * 256 + (b1.toNat : Int) := by omega
        have HMV := Lib.hid (show V ≤ most by rw [HV2.out]; omega)
        go_enter Try.func49, Try.ntmps49
        go_wp2
        go_quiet (fail)
        go_wp2_with fail
        have e1 : (b0.toNat : Int) * 256 + (b1.toNat : Int) = ((b0.toNat * 256 + b1.toNat : Nat) : Int) := by omega
        rw [e1]
        refine (rtake_any W0 _ (l.drop 2) _ (b0.toNat * 256 + b1.toNat) (by omega) (drewN_below HB.out _) HD.out).mono ?_
        rintro e w2 ⟨u2, v2, e2, xs, r, rfl, hi2, hr2, hb2, hout⟩
        have HI := Lib.hid hi2
        have HR := Lib.hid hr2
        have HBW : Hid (Below w.heap.size w w2) := ⟨hb2.os, hb2.tape, hb2.output, hb2.size, hb2.block⟩
        have hfin : CntOut (countedP most l) xs r e2 := by
          rcases hout with ⟨h, rfl⟩ | ⟨h, rfl⟩
          · exact .inl ⟨counted_none (by rw [HN.out]; omega) (by rw [← HVV.out]; exact HMV.out) (by rw [← HVV.out, HV2.out]; exact h), by decide⟩
          · exact .inr ⟨counted_some (by rw [HN.out]; omega) (by rw [← HVV.out]; exact HMV.out) (by rw [← HVV.out, HV2.out]; exact h), rfl⟩
        have HF := Lib.hid hfin
        clear hi2 hr2 hb2 hout hfin e1
        go_wp2
        go_ret3
        first
          | exact ⟨_, _, e2, rfl, xs, HI.out, r, HR.out, HBW.out, HF.out⟩
          | exact ⟨_, _, e2, xs, r, rfl, HI.out, HR.out, HBW.out, HF.out⟩
end Go.Proofs.Ytpbbiidfahaamaa
