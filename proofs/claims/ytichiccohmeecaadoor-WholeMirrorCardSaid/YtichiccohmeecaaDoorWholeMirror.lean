/- For every input the law returns true, where the table of the instruction set reads as the program's text lays it; the card ties that to the text. -/
import Derived.Test.YtichiccohmeecaaDoorCards
import Derived.Test.YtichiccohmeecaaDoorTie
import Derived.Test.YtichiccohmeecaaDoorWhN5
import Derived.Test.YtichiccohmeecaaDoorWhMb
import Derived.WalkKit
import Derived.ProofKit
import Derived.OpenShut
import Derived.ShutString
import Derived.ChangeOld
import Derived.Below
import Derived.SizedLaws
import Derived.Deep.DeepHandedRow
import Derived.Lib.LaidTab
namespace Go.Proofs.YtichiccohmeecaaDoor.wholeMirror
open Go.ChangeShapes Go.WideShapes Go.ChangeAt Go.RowKit
set_option linter.unusedVariables false

theorem own : ownKnob Tryd.prog.godebug = none := by kernel_rfl
theorem laidOut : laidOutB Tryd.prog = true := by kernel_rfl

theorem contract (H : Type) (enc : TypeId × Value → H) (W : World) (base : Nat) (args : Array Value) (ds gs : List (DataW H)) (before : List MemPlace)
    (hval0 : ∀ (j : Nat) t v, Tryd.f4.params[j]? = some t → args[j]? = some v → Value.okWide Tryd.prog W .any base t v)
    (hW : DataW.Whole enc Tryd.prog Tryd.f4.params.toList Rows.wholeMirrorSpec.vars false W args.toList ds gs before) (hL : laidMetH Tryd.prog Rows.wholeMirrorRow.laid W) :
    Calls Tryd.prog 4 args W fun e W' => ∃ v, e = .returned v ∧ Rows.wholeMirrorSpec.post enc Tryd.prog Tryd.f4 false true false false W args v W' := by
  have hval : ∀ (j : Nat) t v, Tryd.f4.params[j]? = some t → args[j]? = some v → Value.okWide Tryd.prog W .any base t v := hval0
  have hW' := hW
  obtain ⟨p, q, hA0, hV, rfl, hfz, hnd⟩ := hW'
  have hA : DataW.TrodAll enc Tryd.prog W 0 (fun _ => true) true Tryd.f4.params.toList args.toList ds p := hA0
  rw [Tryd.params4] at hA hval
  obtain ⟨v0, vs0, d0, ds0, p0, q0, hargs, rfl, rfl, h0, r0⟩ := trodAll_cons hA
  obtain ⟨v1, vs1, d1, ds1, p1, q1, rfl, rfl, rfl, h1, r1⟩ := trodAll_cons r0
  obtain ⟨v2, vs2, d2, ds2, p2, q2, rfl, rfl, rfl, h2, r2⟩ := trodAll_cons r1
  obtain ⟨rfl, rfl, rfl⟩ := trodAll_nil r2
  obtain rfl : args = #[v0, v1, v2] := by cases args; simp_all
  obtain ⟨rfl, rfl⟩ := trodVars_none hV
  have k0 := h0
  have lt0 : ∀ x ∈ p0, x.block < W.heap.size := by obtain ⟨m, hm⟩ := k0; exact DataW.trod_lt m _ _ _ hm
  have k1 := h1
  have lt1 : ∀ x ∈ p1, x.block < W.heap.size := by obtain ⟨m, hm⟩ := k1; exact DataW.trod_lt m _ _ _ hm
  obtain ⟨a2, rfl, rfl, rfl, w2⟩ := open_int Tryd.underlying5 (hval 2 5 v2 rfl rfl) h2
  obtain ⟨n, hn, hn2⟩ := u8_of w2
  obtain ⟨vc, im, rfl, hC⟩ := im_top (hval 0 24 v0 rfl rfl) h0
  obtain ⟨m, V, rfl, hR, hB⟩ := mach_top (hval 1 30 v1 rfl rfl) h1
  obtain ⟨hT, hpos⟩ := table_of hL
  subst hn
  clear hA0
  refine (mirror_law im vc m V n W hC hR hT hB (fun j hj => hj) hpos hn2).mono fun e W' hr => ?_
  obtain ⟨he, bel⟩ := hr
  subst he
  exact ⟨_, rfl, _, _, _, [], _, [], hW, trodAll_mk1 (shut_bool Tryd.underlying4 _), (trodAll_cons_mk (Below.trod laidOut (by kernel_rfl) (of_decide_eq_true (by kernel_rfl)) k0 bel lt0) (trodAll_cons_mk (Below.trod laidOut (by kernel_rfl) (of_decide_eq_true (by kernel_rfl)) k1 bel lt1) (trodAll_cons_mk (shut_int Tryd.underlying5 w2) trodAll_mk0))), rfl, bel.frame _, fun h => by cases h⟩

noncomputable def laidWorld (os : Os) : World :=
  { World.holding Tryd.prog os ⟨#[], #[], []⟩ with heap := (World.holding Tryd.prog os ⟨#[], #[], []⟩).heap.modify 0 fun
      | .cells _ t frozen => .cells #[.string ⟨#[110, 111, 112]⟩, .int .i64 0, .string ⟨#[97, 100, 100]⟩, .int .i64 2, .string ⟨#[115, 117, 98]⟩, .int .i64 2, .string ⟨#[120, 111, 114]⟩, .int .i64 2, .string ⟨#[97, 100, 100, 105]⟩, .int .i64 2, .string ⟨#[115, 117, 98, 105]⟩, .int .i64 2, .string ⟨#[120, 111, 114, 105]⟩, .int .i64 2, .string ⟨#[115, 119, 97, 112]⟩, .int .i64 2, .string ⟨#[110, 101, 103]⟩, .int .i64 1, .string ⟨#[99, 97, 108, 99]⟩, .int .i64 4, .string ⟨#[109, 101, 109]⟩, .int .i64 2, .string ⟨#[105, 100, 120]⟩, .int .i64 4, .string ⟨#[112, 117, 115, 104]⟩, .int .i64 2, .string ⟨#[112, 111, 112]⟩, .int .i64 2, .string ⟨#[116, 111, 112]⟩, .int .i64 2, .string ⟨#[115, 105, 122, 101]⟩, .int .i64 2, .string ⟨#[115, 119, 97, 112, 115]⟩, .int .i64 2, .string ⟨#[114, 101, 97, 100]⟩, .int .i64 1, .string ⟨#[117, 110, 114, 101, 97, 100]⟩, .int .i64 1, .string ⟨#[119, 114, 105, 116, 101]⟩, .int .i64 1, .string ⟨#[117, 110, 119, 114, 105, 116, 101]⟩, .int .i64 1, .string ⟨#[122, 101, 114, 111]⟩, .int .i64 2, .string ⟨#[106, 109, 112]⟩, .int .i64 1, .string ⟨#[106, 109, 112, 122]⟩, .int .i64 2, .string ⟨#[106, 109, 112, 110]⟩, .int .i64 2, .string ⟨#[108, 97, 110, 100]⟩, .int .i64 1, .string ⟨#[108, 97, 110, 100, 122]⟩, .int .i64 2, .string ⟨#[108, 97, 110, 100, 110]⟩, .int .i64 2, .string ⟨#[102, 114, 97, 109, 101]⟩, .int .i64 2, .string ⟨#[117, 110, 102, 114, 97, 109, 101]⟩, .int .i64 2, .string ⟨#[99, 97, 108, 108]⟩, .int .i64 1, .string ⟨#[117, 110, 99, 97, 108, 108]⟩, .int .i64 1, .string ⟨#[115, 116, 97, 114, 116]⟩, .int .i64 1, .string ⟨#[101, 110, 100]⟩, .int .i64 1, .string ⟨#[104, 97, 108, 116]⟩, .int .i64 0] t frozen
      | o => o }
theorem laid_met (os : Os) : laidMet Tryd.prog Rows.wholeMirrorRow.laid ((laidWorld os).forCall (fun _ _ => 0) ⟨#[], #[.agg #[.slice none 0 0, .int .i64 0, .int .i64 0], .agg #[.int .i64 0, .int .i64 0, .int .i64 0, .int .i64 0, .int .i64 0, .int .i64 0, .int .i64 0, .int .i64 0, .int .i64 0, .int .i64 0, .int .i64 0, .int .i64 0, .int .i64 0, .int .i64 0, .int .i64 0, .int .i64 0, .int .i64 0, .int .i64 0, .slice none 0 0, .slice none 0 0, .slice none 0 0, .int .i64 0, .int .i64 0, .slice none 0 0, .slice none 0 0], .int .u8 0], []⟩).memory :=
  laidMet_of_run' 8 (by kernel_rfl) (by kernel_rfl)
theorem reads (os : Os) {H : Type} (enc : TypeId × Value → H) : ∃ places, DataW.whole enc Tryd.prog ((laidWorld os).forCall (fun _ _ => 0) ⟨#[], #[.agg #[.slice none 0 0, .int .i64 0, .int .i64 0], .agg #[.int .i64 0, .int .i64 0, .int .i64 0, .int .i64 0, .int .i64 0, .int .i64 0, .int .i64 0, .int .i64 0, .int .i64 0, .int .i64 0, .int .i64 0, .int .i64 0, .int .i64 0, .int .i64 0, .int .i64 0, .int .i64 0, .int .i64 0, .int .i64 0, .slice none 0 0, .slice none 0 0, .slice none 0 0, .int .i64 0, .int .i64 0, .slice none 0 0, .slice none 0 0], .int .u8 0], []⟩).memory Tryd.f4.params.toList Rows.wholeMirrorSpec.vars false #[.agg #[.slice none 0 0, .int .i64 0, .int .i64 0], .agg #[.int .i64 0, .int .i64 0, .int .i64 0, .int .i64 0, .int .i64 0, .int .i64 0, .int .i64 0, .int .i64 0, .int .i64 0, .int .i64 0, .int .i64 0, .int .i64 0, .int .i64 0, .int .i64 0, .int .i64 0, .int .i64 0, .int .i64 0, .int .i64 0, .slice none 0 0, .slice none 0 0, .slice none 0 0, .int .i64 0, .int .i64 0, .slice none 0 0, .slice none 0 0], .int .u8 0].toList 8 = some ([.agg [.nil, .lit (.int .i64 0), .lit (.int .i64 0)], .agg [.lit (.int .i64 0), .lit (.int .i64 0), .agg [.lit (.int .i64 0), .lit (.int .i64 0), .lit (.int .i64 0), .lit (.int .i64 0), .lit (.int .i64 0), .lit (.int .i64 0), .lit (.int .i64 0), .lit (.int .i64 0), .lit (.int .i64 0), .lit (.int .i64 0), .lit (.int .i64 0), .lit (.int .i64 0), .lit (.int .i64 0), .lit (.int .i64 0), .lit (.int .i64 0), .lit (.int .i64 0)], .nil, .nil, .nil, .lit (.int .i64 0), .lit (.int .i64 0), .nil, .nil], .lit (.int .u8 0)], [], places) :=
  ⟨[], by kernel_rfl⟩

set_option maxRecDepth 100000 in
theorem lifted (os : Os) (started : os.Started) (H : Type) (enc : TypeId × Value → H) (F : Stop.Interp) :
    ReturnsInHanded {} Tryd.checked os 4 .any ((OpenSpec.ofChange Rows.wholeMirrorSpec).preRow enc Tryd.prog Tryd.f4 Rows.wholeMirrorRow.domain false Rows.wholeMirrorRow.laid) (((OpenSpec.ofChange Rows.wholeMirrorSpec).at F).post enc Tryd.prog Tryd.f4 false true false false) := by
  obtain ⟨places, hx⟩ := reads os enc
  refine returnsInHanded_of_row (C := Tryd.checked) (s := OpenSpec.ofChange Rows.wholeMirrorSpec) own started (by kernel_rfl) Tryd.func4
    (witness_row_at (enc := enc) (C := Tryd.checked) false (laidWorld os) #[.agg #[.slice none 0 0, .int .i64 0, .int .i64 0], .agg #[.int .i64 0, .int .i64 0, .int .i64 0, .int .i64 0, .int .i64 0, .int .i64 0, .int .i64 0, .int .i64 0, .int .i64 0, .int .i64 0, .int .i64 0, .int .i64 0, .int .i64 0, .int .i64 0, .int .i64 0, .int .i64 0, .int .i64 0, .int .i64 0, .slice none 0 0, .slice none 0 0, .slice none 0 0, .int .i64 0, .int .i64 0, .slice none 0 0, .slice none 0 0], .int .u8 0] rfl (by kernel_rfl) (by kernel_rfl) (by kernel_rfl)
      (OpenSpec.preRow_of_cond 8 hx (by kernel_rfl) (fun k hk => by cases hk) (by kernel_rfl) (laid_met os))) ?_
  intro W base args ds gs before hval hW _ _ _ hL _ _
  exact contract H enc W base args ds gs before hval hW hL

theorem said : Rows.WholeMirrorSaid :=
  OpenClaim.holds_of_cond 4 Tryd.f4 rfl rfl rfl rfl rfl rfl rfl ⟨rfl, rfl, rfl, rfl, rfl⟩ rfl rfl rfl rfl rfl (by kernel_rfl) Tryd.func4 (by kernel_rfl)
    (of_decide_eq_true (by kernel_rfl)) (by unfold Func.isWrapper; first | (rw [if_pos (by decide +kernel)]; kernel_rfl) | (rw [if_neg (by decide +kernel)]; exact ⟨rfl, rfl⟩))
    (fun os started H enc _ F => by rw [OpenClaim.pre_eq_preRow]; exact lifted os started H enc F)
theorem plain (f : FuncId) (fn : Func) (hf : Tryd.pinned.checked.prog.funcNamed "backstep/backsteptop.WholeMirror" = some f) (hfn : Tryd.pinned.checked.prog.funcs[f]? = some fn) :
    false = Tryd.pinned.checked.prog.looks [] ∧ ∀ (j : Nat) t, fn.params[j]? = some t → Tryd.pinned.checked.prog.wantsStandIn t = false := by
  obtain rfl : f = 4 := Option.some.inj ((show Tryd.prog.funcNamed "backstep/backsteptop.WholeMirror" = some 4 by kernel_rfl).symm.trans hf) |>.symm
  obtain rfl : fn = Tryd.f4 := (Option.some.inj (Tryd.func4.symm.trans hfn)).symm
  refine ⟨by kernel_rfl, fun j t ht => ?_⟩
  rw [Tryd.params4] at ht
  have hm : t = 24 ∨ t = 30 ∨ t = 5 := by simpa using Array.mem_of_getElem? ht
  rcases hm with rfl | rfl | rfl
  · exact (show Tryd.prog.wantsStandIn 24 = false by kernel_rfl)
  · exact (show Tryd.prog.wantsStandIn 30 = false by kernel_rfl)
  · exact (show Tryd.prog.wantsStandIn 5 = false by kernel_rfl)

theorem card : Rows.WholeMirrorCardSaid :=
  Claim7.holds_tied_plain_at .later [] _ _ _ _ said (fun _ h => by cases h) (by kernel_rfl) (fun _ h => by cases h) wholeMirror_row_tie rfl ⟨rfl, rfl⟩ (by kernel_rfl) rfl plain (by kernel_rfl)
end Go.Proofs.YtichiccohmeecaaDoor.wholeMirror
