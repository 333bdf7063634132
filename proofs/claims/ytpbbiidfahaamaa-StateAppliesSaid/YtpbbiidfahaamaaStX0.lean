/- append of m zeros ('append(x, make([]int, m)...)') onto a row of the call's own. -/
import Derived.Test.YtpbbiidfahaamaaStV7
import Derived.Lib.AppendZeros
namespace Go.Proofs.Ytpbbiidfahaamaa
open Go.RowKit

theorem zeroCells_ints (m : Nat) : (Builtin.zeroCells #[Value.int .i64 0] m).toList = List.replicate m (Value.int .i64 0) := by
  apply List.ext_getElem
  · simp [Builtin.zeroCells]
  · intro i h1 h2
    simp [Builtin.zeroCells, Nat.mod_one]

theorem run_append_zeros (w : World) (ty : TypeId) (base : Nat) (v : Value) (n : Nat) (xs : List Value) (hown : w.ownsRow base 3 1 v n xs) (m : Nat) (h0 : 0 < m) (hm : m ≤ 1000000) (hn : n ≤ 1000000) (hbase : base ≤ w.heap.size) :
    ∃ v' w', (Builtin.append_ #[23, 3] ty #[v, .int .i64 m]).run Try.prog w = .ok v' w' ∧ w'.ownsRow base 3 1 v' (n + m) (xs ++ List.replicate m (.int .i64 0)) ∧ w.grownBy w' v.ownBlock ∧ (v'.ownBlock = v.ownBlock ∨ v'.ownBlock = some w.heap.size) := by
  obtain ⟨i, hi, hz, hsize, hby⟩ := info_parts intInfo
  have hlen : (xs ++ List.replicate m (Value.int .i64 0)).length = (n + m) * 1 := by rw [List.length_append, hown.1, List.length_replicate]; omega
  have hw : IntKind.i64.wrap (m : Int) = m := by rw [IntKind.wrap_i64]; omega
  have hneg : ¬ ((m : Int) < 0) := by omega
  have h48i : ¬ (281474976710656 < (m : Int) * (i.bytes : Int)) := by rw [hby]; omega
  have hns : ¬ (m * i.size = 0) := by rw [hsize]; omega
  have grown : ∀ (old : Nat), old < n + m → ∀ (row : Option Nat),
      (w.drew.alloc (.cells (xs.toArray ++ Builtin.zeroCells #[Value.int .i64 0] m ++ Builtin.zeroCells #[Value.int .i64 0] (grownCap w (n + m) old 3 - (n + m))) 3)).ownsRow base 3 1
        (.slice (some ⟨w.heap.size, 0, none⟩) (n + m) (grownCap w (n + m) old 3)) (n + m) (xs ++ List.replicate m (Value.int .i64 0)) ∧
      w.grownBy (w.drew.alloc (.cells (xs.toArray ++ Builtin.zeroCells #[Value.int .i64 0] m ++ Builtin.zeroCells #[Value.int .i64 0] (grownCap w (n + m) old 3 - (n + m))) 3)) row := by
    intro old ho row
    have hge := grownCap_ge w (n + m) old 3
    have hcm : grownCap w (n + m) old 3 ≤ maxLen := grownCap_le_maxLen w (n + m) old 3 (by unfold maxLen; omega)
    refine ⟨⟨hlen, .inr ⟨w.heap.size, _, _, rfl, hbase, heap_alloc_new w.drew _, hge, hcm, ?_, ?_⟩⟩, ⟨rfl, rfl, rfl, by simp, fun k hk _ => (below_alloc w.drew _).block k hk⟩⟩
    · have h1 := hown.1
      rw [Array.size_append, Array.size_append, size_zeroCells, size_zeroCells, List.size_toArray, h1]
      show n * 1 + m * 1 + (grownCap w (n + m) old 3 - (n + m)) * 1 = grownCap w (n + m) old 3 * 1
      omega
    · simp only [Array.toList_append, List.append_assoc]
      rw [zeroCells_ints m, ← List.append_assoc, ← hlen]
      exact List.take_left
  rcases hown.2 with ⟨rfl, rfl⟩ | ⟨g, cap, cur, rfl, hbg, hg, hnc, hcm, hcs, htake⟩
  · have hx : xs = [] := List.eq_nil_of_length_eq_zero (by simpa using hown.1)
    subst hx
    have hr := Lib.run_append_nil_zeros (P := Try.prog) w 23 3 ty 3 i (.int .i64 0) .i64 .i64 Try.underlying23 Try.underlying3 hi hz m h0 (by rw [hsize]; omega) (by omega) (by rw [hby]; omega)
    have hgr := grown 0 (by omega) (Value.ownBlock (.slice none 0 0))
    simp only [Nat.zero_add, List.nil_append, Array.empty_append] at hgr ⊢
    exact ⟨_, _, hr, hgr.1, hgr.2, .inr rfl⟩
  · by_cases hroom : n + m ≤ cap
    · have h1 : ∀ u ∈ List.replicate m (Value.int .i64 0), u.oneCell' = true := by
        intro u hu
        rw [(List.mem_replicate.1 hu).2]
        rfl
      have hst := run_storeCells_at Try.prog g (n * 1) 3 (List.replicate m (Value.int .i64 0)) 0 cur w hg (by simp [hcs]; omega) h1
      simp only [Nat.add_zero] at hst
      have hr : (Builtin.append_ #[23, 3] ty #[.slice (some ⟨g, 0, none⟩) n cap, .int .i64 m]).run Try.prog w = .ok (.slice (some ⟨g, 0, none⟩) (n + m) cap) (w.setRow g (cur.toList.take (n * 1) ++ List.replicate m (Value.int .i64 0) ++ cur.toList.drop (n * 1 + (List.replicate m (Value.int .i64 0)).length)).toArray) := by
        have hst' := hst
        have hm0 : ¬ (m = 0) := by omega
        rw [Nat.mul_one] at hst'
        simp [Builtin.append_, run_underlying Try.underlying23, run_underlying Try.underlying3, sizeOf, typeInfo, zeroValue, hi, hz, asInt, asIntOf, hw, hneg, hm0, h48i, hroom, Addr.add_lit, hsize, Value.cells, zeroCells_ints, hst']
      refine ⟨_, _, hr, ⟨hlen, .inr ⟨g, cap, _, rfl, hbg, setRow_heap w g cur _ 3 _ hg, hroom, hcm, ?_, ?_⟩⟩, ⟨rfl, rfl, rfl, by simp, fun k _ hk => setRow_other w g k _ (fun e => hk (by simp [Value.ownBlock, e]))⟩, .inl rfl⟩
      · simp only [List.size_toArray, List.length_append, List.length_take, List.length_drop, Array.length_toList, List.length_replicate]
        omega
      · rw [htake, ← hlen]
        exact List.take_left
    · have holds : ∀ j u, xs[j]? = some u → w.cell? ((⟨g, 0, none⟩ : Addr).add j) = some u := hown.cells (g := g) rfl
      have hfo := run_firstCells_some (P := Try.prog) w.drew i.size n ⟨g, 0, none⟩ n cap xs (by rw [hown.1, hsize]) (by simpa using holds)
      have h63' : ¬ (9223372036854775807 < ((n : Int) + (m : Int))) := by omega
      have h48' : ¬ (281474976710656 < Builtin.nextslicecap (n + m) cap * i.bytes) := by
        have := growslice_fits (need := n + m) (old := cap) (bytes := i.bytes) (by omega) (by rw [hby]; omega)
        omega
      have hr : (Builtin.append_ #[23, 3] ty #[.slice (some ⟨g, 0, none⟩) n cap, .int .i64 m]).run Try.prog w = .ok (.slice (some ⟨w.heap.size, 0, none⟩) (n + m) (grownCap w (n + m) cap 3))
          (w.drew.alloc (.cells (xs.toArray ++ Builtin.zeroCells #[Value.int .i64 0] m ++ Builtin.zeroCells #[Value.int .i64 0] (grownCap w (n + m) cap 3 - (n + m))) 3)) := by
        simp [Builtin.append_, run_underlying Try.underlying23, run_underlying Try.underlying3, sizeOf, typeInfo, zeroValue, hi, hz, asInt, asIntOf, hw, hneg, hns, h48i, hroom, h63', h48', Question.forced, hfo, newRow, grownCap, Value.cells]
      have hgr := grown cap (by omega) (Value.ownBlock (.slice (some ⟨g, 0, none⟩) n cap))
      exact ⟨_, _, hr, hgr.1, hgr.2, .inr rfl⟩

end Go.Proofs.Ytpbbiidfahaamaa
