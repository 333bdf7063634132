/- The walks of listWeight and Weight. -/
import Derived.Test.YtklbaocgjegdfaaEnQ3
import Derived.Test.YtklbaocgjegdfaaStN0
import Derived.Deep.QuietTactic
import Derived.BigQuiet
namespace Go.Proofs.Ytklbaocgjegdfaa
open Go.RowKit

theorem wrapEq (x : Int) : IntKind.i64.wrap x = wrap64 x := by rw [IntKind.wrap_i64, wrap64]
theorem wrap_add (a b : Int) : IntKind.i64.wrap (IntKind.i64.wrap a + b) = IntKind.i64.wrap (a + b) := by
  rw [IntKind.wrap_i64, IntKind.wrap_i64, IntKind.wrap_i64]; omega
theorem wrap_add2 (a b : Int) : IntKind.i64.wrap (a + IntKind.i64.wrap b) = IntKind.i64.wrap (a + b) := by
  rw [Int.add_comm a, wrap_add, Int.add_comm b]
theorem wrap_i64' (a : Int) : I64 (IntKind.i64.wrap a) := by
  unfold I64
  rw [IntKind.wrap_i64]; omega
def MidL (l : List Int) : Prop := ∀ x ∈ l, Mid x
def wtK (l : List Int) (k : Nat) : Int := l.length + ((l.take k).map rankP).sum
theorem wtK_zero (l : List Int) : wtK l 0 = l.length := by simp [wtK]
theorem wtK_succ {l : List Int} {k : Nat} {x : Int} (h : l[k]? = some x) : wtK l (k + 1) = wtK l k + rankP x := by
  unfold wtK
  rw [List.take_add_one, h, List.map_append, List.sum_append]
  simp only [Option.toList_some, List.map_cons, List.map_nil, List.sum_cons, List.sum_nil]
  omega
theorem wtK_all {l : List Int} {k : Nat} (h : l.length ≤ k) : wtK l k = wtP l := by
  unfold wtK wtP
  rw [List.take_of_length_le h]

set_option maxRecDepth 100000 in
set_option maxHeartbeats 4000000 in
theorem lweight_any (l : List Int) (v : Value) (w : World) (h : IntsAt w v l) (hm : MidL l) :
    Calls Try.prog 36 #[v] w fun e w' => e = .returned (.int .i64 (IntKind.i64.wrap (wtP l))) ∧ w = w' := by
  obtain ⟨⟨a, c, rfl, hc1, hc2, hq⟩, -⟩ := h
  have HQ := Lib.hid hq
  have HM := Lib.hid hm
  obtain ⟨n, hn⟩ : ∃ n, l.length = n := ⟨_, rfl⟩
  rw [hn] at HQ hc1 ⊢
  have h63 : (n : Int) ≤ 9223372036854775807 := by unfold maxLen at hc2; omega
  have hn0 : (0 : Int) ≤ (n : Int) := Int.natCast_nonneg _
  have HN := Lib.hid hn
  clear hq hm hn hc1 hc2
  obtain ⟨wt, hwt⟩ : ∃ wt : Nat → Int, wt = fun k => IntKind.i64.wrap (wtK l k) := ⟨_, rfl⟩
  have W0 : Hid (wt 0 = (n : Int)) := by
    unfold Hid
    rw [hwt]
    simp only
    rw [wtK_zero, HN.out]
    exact IntWalk.i64_in _ (by omega)
  have WS : Hid (∀ k x, l[k]? = some x → wt (k + 1) = IntKind.i64.wrap (wt k + rankP x)) := by
    intro k x hx
    rw [hwt]
    simp only
    rw [wrap_add, wtK_succ hx]
  have WN : Hid (wt n = IntKind.i64.wrap (wtP l)) := by
    unfold Hid
    rw [hwt]
    simp only
    rw [wtK_all (by rw [HN.out]; exact Nat.le_refl _)]
  have WI : Hid (∀ k, I64 (wt k)) := by
    intro k
    rw [hwt]
    exact wrap_i64' _
  rw [← WN.out]
  clear hwt WN
  go_enter Try.func36, Try.ntmps36
  go_wp2
  go_loopg [3, 10] n (fun q s i wr => ∃ k : Nat, k + q = n ∧ i = .int .i64 k ∧ s = .int .i64 (wt k) ∧ w = wr)
  case atStart => exact ⟨0, by omega, rfl, by rw [W0.out], rfl⟩
  case round =>
    obtain ⟨k, hk, rfl, rfl, rfl⟩ := hrel
    have Hk := Lib.hid hk
    have hkn : k ≤ n := by omega
    clear hk
    by_cases hlt : k < n
    · have hlt' : (k : Int) < (n : Int) := by omega
      obtain ⟨g, o, rfl, hg, hq⟩ := HQ.out (by omega)
      obtain ⟨x, hx⟩ := get_lt HN.out.symm hlt
      have hq' := hq k x hx
      have hmx := HM.out x (List.mem_of_getElem? hx)
      have WK := Lib.hid (WS.out k x hx)
      have u1 : IntKind.i64.wrap ((k : Int) + 1) = (k : Int) + 1 := IntWalk.i64_in _ (by omega)
      obtain ⟨wk, hwk⟩ : ∃ wk, wt k = wk := ⟨_, rfl⟩
      rw [hwk] at WK ⊢
      obtain ⟨rx, hrx⟩ : ∃ rx, rankP x = rx := ⟨_, rfl⟩
      have HRK : Hid (Calls Try.prog 16 #[.int .i64 x] w fun e w' => e = .returned (.int .i64 rx) ∧ w' = w) := by
        rw [← hrx]
        exact rank_any x hmx w
      rw [hrx] at WK
      have hwi := WI.out k
      rw [hwk] at hwi
      clear hq hx hwk hrx
      go_wp2_with fail
      refine HRK.out.mono ?_
      rintro e w' ⟨rfl, hw'⟩
      obtain rfl : w = w' := hw'.symm
      clear hw'
      go_wp2
      have hk := Hk.out
      go_roundg (n - (k + 1))
      case measure => omega
      case rel => exact ⟨k + 1, by omega, by go_num, by rw [WK.out, wrapEq], rfl⟩
    · have hge : ¬ (k : Int) < (n : Int) := by omega
      have hke : k = n := by omega
      subst hke
      go_wp2
      go_ret
      exact ⟨rfl, rfl⟩

/-- the sum over the first k cells -/
def wtC (s : St) (k : Nat) : Int := wtP s.inp + wtP s.out + wtsP (s.cells.take k)
theorem wtC_succ {s : St} {k : Nat} {l : List Int} (h : s.cells[k]? = some l) : wtC s (k + 1) = wtC s k + wtP l := by
  unfold wtC wtsP
  rw [List.take_add_one, h, List.map_append, List.sum_append]
  simp only [Option.toList_some, List.map_cons, List.map_nil, List.sum_cons, List.sum_nil]
  omega
theorem wtC_all {s : St} {k : Nat} (h : s.cells.length ≤ k) : wtC s k = wtsP (listsS s) := by
  unfold wtC listsS
  rw [List.take_of_length_le h, wtsP_append]
  simp [wtsP]
  omega
def MidS (s : St) : Prop := ∀ l ∈ listsS s, MidL l

set_option maxRecDepth 100000 in
set_option maxHeartbeats 4000000 in
theorem weight_any (s : St) (v : Value) (w : World) (h : StAt w v s) (hm : MidS s) :
    Calls Try.prog 20 #[v] w fun e w' => e = .returned (.int .i64 (IntKind.i64.wrap (wtsP (listsS s)))) ∧ Below w.heap.size w w' := by
  obtain ⟨c, i, o, rfl, hc, hi, ho⟩ := h
  obtain ⟨W, hW⟩ : ∃ W, W = w.alloc (.cells #[c, i, o] 35) := ⟨_, rfl⟩
  have hB0 : Below w.heap.size w W := by rw [hW]; exact below_alloc _ _
  have hBK : Blk W w.heap.size 35 #[c, i, o] := by rw [hW]; exact Blk.new _ _ _
  have HI := Lib.hid (hi.below hB0 (Nat.le_refl _))
  have HO := Lib.hid (ho.below hB0 (Nat.le_refl _))
  have hc' := hc.below hB0 (Nat.le_refl _)
  obtain ⟨a, cc, rfl, hc1, hc2, hq⟩ := hc'
  have HQ := Lib.hid hq
  have HM := Lib.hid hm
  obtain ⟨n, hn⟩ : ∃ n, s.cells.length = n := ⟨_, rfl⟩
  rw [hn] at HQ hc1 hBK hW ⊢
  have h63 : (n : Int) ≤ 9223372036854775807 := by unfold maxLen at hc2; omega
  have hn0 : (0 : Int) ≤ (n : Int) := Int.natCast_nonneg _
  have HN := Lib.hid hn
  have y0 := hBK.cell 0
  have y1 := hBK.cell 1
  have y2 := hBK.cell 2
  simp only [List.getElem?_toArray, List.getElem?_cons_zero, List.getElem?_cons_succ] at y0 y1 y2
  have HW := Lib.hid hW
  have HB0 := Lib.hid hB0
  have HMI : MidL s.inp := hm _ (by simp [listsS])
  have HMO : MidL s.out := hm _ (by simp [listsS])
  obtain ⟨wt, hwt⟩ : ∃ wt : Nat → Int, wt = fun k => IntKind.i64.wrap (wtC s k) := ⟨_, rfl⟩
  obtain ⟨wi, hwi⟩ : ∃ x, IntKind.i64.wrap (wtP s.inp) = x := ⟨_, rfl⟩
  obtain ⟨wo, hwo⟩ : ∃ x, IntKind.i64.wrap (wtP s.out) = x := ⟨_, rfl⟩
  have W0 : Hid (wt 0 = wrap64 (wi + wo)) := by
    unfold Hid
    rw [← wrapEq, hwt, ← hwi, ← hwo, wrap_add, wrap_add2]
    simp [wtC, wtsP]
  have WS : Hid (∀ k l, s.cells[k]? = some l → wt (k + 1) = IntKind.i64.wrap (wt k + IntKind.i64.wrap (wtP l))) := by
    intro k x hx
    rw [hwt]
    simp only
    rw [wrap_add, wrap_add2, wtC_succ hx]
  have WN : Hid (wt n = IntKind.i64.wrap (wtsP (listsS s))) := by
    unfold Hid
    rw [hwt]
    simp only
    rw [wtC_all (by rw [HN.out]; exact Nat.le_refl _)]
  have HMIh := Lib.hid HMI
  have HMOh := Lib.hid HMO
  have CI : Hid (∀ q, Calls Try.prog 36 #[i] (W.drewN q) fun e w' => e = .returned (.int .i64 wi) ∧ w' = W.drewN q) := fun q => by
    rw [← hwi]
    exact (lweight_any s.inp i (W.drewN q) (HI.out.drewN q) HMI).mono fun _ _ ⟨a, b⟩ => ⟨a, b.symm⟩
  have CO : Hid (∀ q, Calls Try.prog 36 #[o] (W.drewN q) fun e w' => e = .returned (.int .i64 wo) ∧ w' = W.drewN q) := fun q => by
    rw [← hwo]
    exact (lweight_any s.out o (W.drewN q) (HO.out.drewN q) HMO).mono fun _ _ ⟨a, b⟩ => ⟨a, b.symm⟩
  have HLW : Hid (∀ q, ∀ l ∈ s.cells, ∀ u, IntsAt W u l → Calls Try.prog 36 #[u] (W.drewN q) fun e w' => e = .returned (.int .i64 (IntKind.i64.wrap (wtP l))) ∧ W.drewN q = w') :=
    fun q l hl u hu => lweight_any l u _ (hu.drewN q) (HM.out l (by simp [listsS, hl]))
  rw [← WN.out]
  clear hwt WN hwi hwo hq hm hn hc hi ho hc1 hc2 hBK hB0 hW HMI HMO HI HO HM
  go_enter Try.func20, Try.ntmps20
  go_wp2
  rw [← HW.out]
  go_quiet ((go_at_call 36; first | (with_reducible exact Calls.quiet_of_same (CI.out _)) | (with_reducible exact Calls.quiet_of_same (CO.out _))))
  rw [← W0.out]
  obtain ⟨W1, hW1⟩ : ∃ W1, W1 = W.drewN nq := ⟨_, rfl⟩
  have HL1 : Hid (∀ l ∈ s.cells, ∀ u, IntsAt W u l → Calls Try.prog 36 #[u] W1 fun e w' => e = .returned (.int .i64 (IntKind.i64.wrap (wtP l))) ∧ W1 = w') := by
    rw [hW1]; exact HLW.out nq
  have HC1 : Hid (∀ p, W1.cell? p = W.cell? p) := by rw [hW1]; exact fun _ => rfl
  have HB1 : Hid (Below w.heap.size w W1) := by rw [hW1]; exact drewN_below HB0.out _
  have y0' : W1.cell? ⟨w.heap.size, 0, none⟩ = some (.slice a n cc) := (HC1.out _).trans y0
  rw [← hW1]
  clear hW1 CI CO HLW W0 y0 y1 y2 HB0 HMIh HMOh
  go_wp2
  go_loopg [3, 16] n (fun q s i wr => ∃ k : Nat, k + q = n ∧ i = .int .i64 k ∧ s = .int .i64 (wt k) ∧ W1 = wr)
  case atStart => exact ⟨0, by omega, rfl, rfl, rfl⟩
  case round =>
    obtain ⟨k, hk, rfl, rfl, rfl⟩ := hrel
    have Hk := Lib.hid hk
    have hkn : k ≤ n := by omega
    clear hk y0'
    by_cases hlt : k < n
    · have hlt' : (k : Int) < (n : Int) := by omega
      obtain ⟨g, o', rfl, hg, hq⟩ := HQ.out (by omega)
      obtain ⟨l, hl⟩ := get_lt HN.out.symm hlt
      obtain ⟨u, hu, hin⟩ := hq k l hl
      rw [← HC1.out] at hu
      have HCALL := Lib.hid (HL1.out l (List.mem_of_getElem? hl) u hin)
      have WK := Lib.hid (WS.out k l hl)
      have u1 : IntKind.i64.wrap ((k : Int) + 1) = (k : Int) + 1 := IntWalk.i64_in _ (by omega)
      obtain ⟨wk, hwk⟩ : ∃ wk, wt k = wk := ⟨_, rfl⟩
      rw [hwk] at WK ⊢
      obtain ⟨rx, hrx⟩ : ∃ rx, IntKind.i64.wrap (wtP l) = rx := ⟨_, rfl⟩
      rw [hrx] at WK HCALL
      obtain ⟨⟨au, cu, rfl, -, -, -⟩, -⟩ := hin
      clear hq hl hwk hrx
      go_wp2_with fail
      refine HCALL.out.mono ?_
      rintro e w' ⟨rfl, rfl⟩
      go_wp2
      have hk := Hk.out
      go_roundg (n - (k + 1))
      case measure => omega
      case rel => exact ⟨k + 1, by omega, by go_num, by rw [WK.out, wrapEq], rfl⟩
    · have hge : ¬ (k : Int) < (n : Int) := by omega
      have hke : k = n := by omega
      subst hke
      go_wp2
      go_ret
      exact ⟨rfl, HB1.out⟩
end Go.Proofs.Ytklbaocgjegdfaa
