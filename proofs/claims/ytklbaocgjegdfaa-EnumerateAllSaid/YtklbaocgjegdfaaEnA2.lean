/- All's function keeps the iterator's word. -/
import Derived.Test.YtklbaocgjegdfaaEnA1
namespace Go.Proofs.Ytklbaocgjegdfaa
open Go.RowKit Go.Shelf

theorem all_seq {h : Int} {B : List Bd} (hcond : Cond h B) (hn : 0 < B.length) (hw : WeightsOK h B) (v : Int) (hv : h = 2 * v + 1) (bo bb be Ll cl : Nat) (vl vi : Value) (w : World) (O : Nat → Prop)
    (kok : Blk w bo 4 #[.bool true]) (kb : Blk w bb 24 #[.int .i64 v, vl, vi]) (ke : Blk w be 57 #[.slice (some ⟨Ll, 0, none⟩) B.length cl])
    (hll : ∀ i b, B[i]? = some b → w.cell? ⟨Ll, i * 2, none⟩ = some (.int .i64 b.lo) ∧ w.cell? ⟨Ll, i * 2 + 1, none⟩ = some (.int .i64 b.hi)) (hO : O Ll ∧ O be) (hold : ∀ b, O b → b < w.heap.size) (n : Nat) :
    SeqMem Fence.wide n Try.prog 32 #[.pointer (some ⟨bo, 0, none⟩), .pointer (some ⟨bb, 0, none⟩), .pointer (some ⟨be, 0, none⟩)] ArgAt ((allP h B).map mkSt) O w := by
  intro l J Jx W hb hB hY h0
  refine callsIn_wide.2 ?_
  exact all1_any hB hcond hn hw v hv (fun m pre v x O A W1 hj hb ha hl => yieldAt_depth rfl m (hY pre v x O A W1 hj hb ha hl)) bo bb be Ll cl vl vi W O (kok.next hb) (kb.next hb) (ke.next hb)
    (fun i b hi => by
      obtain ⟨c1, c2⟩ := hll i b hi
      exact ⟨cell_below hb (hold _ hO.1) c1, cell_below hb (hold _ hO.1) c2⟩) hO (fun b hb' => Nat.lt_of_lt_of_le (hold b hb') hb.size) rfl h0
end Go.Proofs.Ytklbaocgjegdfaa
