/- The walk of the reference's Lex. -/
import Derived.Test.YtgnnkddneoghmaaLexR2
import Derived.Deep.RegionLaw
import Derived.Deep.CutRange
namespace Go.Proofs.Ytgnnkddneoghmaa
open Go.RowKit

theorem own_below {w w' : World} {base : Nat} {e : TypeId} {size : Nat} {v : Value} {n : Nat} {xs : List Value} (h : w.ownsRow base e size v n xs) {B : Nat} (hb : Below B w w') (hB : w.heap.size ≤ B) : w'.ownsRow base e size v n xs :=
  h.kept (row := none) ⟨hb.os, hb.tape, hb.output, hb.size, fun i hi _ => hb.block i (Nat.lt_of_lt_of_le hi hB)⟩ (by cases v.ownBlock <;> simp)

/-- append onto a row of the call's own, as one step of a region that draws -/
theorem step_append_own {P : Program} (w : World) {ops : Array Oper} {o : Oper} {a : Act} {K : Act → World → Prop} {Q : Exit → Act → World → Prop} {E : Prop} (hgd : o.guard = none) (s x : Operand) (t : TypeId)
    (ho : o.op = .call { callee := .builtin .append, args := #[s, x], argTypes := #[t, t] })
    (base : Nat) (e : TypeId) (i : TypeInfo) (z : Value) (size bytes : Nat) (ht : P.underlying t = some (.slice e)) (hi : P.info? e = some i) (hz : i.zero = some z)
    (hsize : i.size = size) (hby : i.bytes = bytes) (hzs : z.cells.size = size) (hsz : 0 < size)
    (v : Value) (n : Nat) (xs : List Value) (hs : a.eval s = v) (hown : w.ownsRow base e size v n xs)
    (A : Addr) (m c : Nat) (news : List Value) (hx : a.eval x = .slice (some A) m c) (hl : news.length = m * size) (hnews : ∀ j u, news[j]? = some u → w.cell? (A.add j) = some u) (h1 : ∀ u ∈ news, u.oneCell' = true)
    (h63 : n + m ≤ maxLen) (hbytes : (n + m) * bytes ≤ 140737488355328) (hbase : base ≤ w.heap.size)
    (h : ∀ v' w', w'.ownsRow base e size v' (n + m) (xs ++ news) → w.grownBy w' v.ownBlock → K (a.put o.dst v') w') :
    if Region.wanted o (yielded ops a.tmps) = true then Oper.wp P o a w K Q else E := by
  have hw : Region.wanted o (yielded ops a.tmps) = true := by simp [Region.wanted, hgd]
  rw [if_pos hw]
  obtain ⟨v', w', hrun, h2, h3, _⟩ := run_append_own (P := P) w base t o.type e i z size bytes ht hi hz hsize hby hzs hsz v n xs hown A m c news hl hnews h1 h63 hbytes hbase
  unfold Oper.wp execOp
  simp only [ho, resolve, invoke, builtin, Sem.run_bind, Sem.run_pure, Result.andThen_ok, List.map_toArray, List.map_cons, List.map_nil, hs, hx, hrun]
  exact h v' w' h2 h3

theorem rtokInfo : (Try.prog.info? 47).map (fun i => (i.zero, i.size, i.bytes)) = some (some (.agg #[.int .u8 0, .string ByteArray.empty, .int .i64 0]), 3, 32) := by kernel_rfl

theorem extract_list (s : ByteArray) (k m : Nat) : (s.extract k (k + m)).data.toList = (s.data.toList.drop k).take m := by
  rw [Lib.extract_data, Nat.add_sub_cancel_left]

set_option maxRecDepth 100000 in
set_option maxHeartbeats 1000000 in
theorem rlex_any (s : ByteArray) (hs : s.size ≤ maxLen) (w : World) :
    Calls Try.prog 14 #[.string s] w fun e w' => ∃ v, e = .returned (.tuple #[v, .int .i64 (outT s.data.toList).2.1, .int .i64 (outT s.data.toList).2.2]) ∧
      w'.ownsRow w.heap.size 47 3 v (outT s.data.toList).1.length (tokCells (outT s.data.toList).1) ∧ Below w.heap.size w w' := by
  have HS := Lib.hid hs
  unfold maxLen at hs
  have hsz : s.data.toList.length = s.size := by simp
  obtain ⟨i0, hi, hz0, hz1, hz2⟩ := info_parts rtokInfo
  by_cases hbig : 65536 < s.size
  · have ho : outT s.data.toList = ([], 0, 5) := by unfold outT; rw [if_pos (by omega)]
    rw [ho]
    clear hsz ho
    have hb' : (65536 : Int) < (s.size : Int) := by omega
    go_enter Try.func14, Try.ntmps14
    go_wp2
    go_ret3
    exact ⟨_, rfl, World.ownsRow_nil _ _ _ _, Below.refl _ _⟩
  · have hb' : (s.size : Int) ≤ 65536 := by omega
    have ho : outT s.data.toList = match (lexP s.data.toList 0).2 with
      | none => ((lexP s.data.toList 0).1, 0, 0)
      | some p => ([], p, 3) := by unfold outT; rw [if_neg (by omega)]; rfl
    have HO := Lib.hid ho
    have HZ := Lib.hid hsz
    clear hsz ho hbig
    generalize outT s.data.toList = out at *
    go_enter Try.func14, Try.ntmps14
    go_wp2
    go_loopg [5, 6] (s.size) (fun n v i wr => ∃ (k : Nat) (A : List Tok), k + n = s.size ∧ i = .int .i64 k ∧
      Hid (lexP s.data.toList 0 = (A ++ (lexP (s.data.toList.drop k) k).1, (lexP (s.data.toList.drop k) k).2)) ∧ A.length ≤ k ∧
      wr.ownsRow w.heap.size 47 3 v A.length (tokCells A) ∧ Below w.heap.size w wr)
    case atStart => exact ⟨0, [], by omega, rfl, by simp [Hid], Nat.le_refl _, World.ownsRow_nil _ _ _ _, Below.refl _ _⟩
    case round =>
      obtain ⟨k, A, hk, rfl, HL, hA, hown, hb⟩ := hrel
      have Hk := Lib.hid hk
      have hks : k ≤ s.size := by omega
      clear hk
      have hsz := hb.size
      by_cases hlt : k < s.size
      · have hlt' : (k : Int) < (s.size : Int) := by omega
        have hne : s.data.toList.drop k ≠ [] := List.ne_nil_of_length_pos (by rw [List.length_drop, HZ.out]; omega)
        have HNE := Lib.hid hne
        have Hown := Lib.hid hown
        have Hb := Lib.hid hb
        clear hne hown hb
        have hdl : (s.data.toList.drop k).length = s.size - k := by rw [List.length_drop, HZ.out]
        obtain ⟨N, hN⟩ : ∃ N, N = s.size - k := ⟨_, rfl⟩
        rw [← hN] at hdl
        have HDL := Lib.hid hdl
        have hNk : k + N = s.size := by omega
        have hNs : (s.size : Int) - (k : Int) = (N : Int) := by omega
        have HN2 := Lib.hid hNk
        have hN3 : k + N ≤ s.size := by omega
        clear hdl hN hNk
        obtain ⟨wo, hwo⟩ : ∃ wo : World, wo = wr := ⟨_, rfl⟩
        subst hwo
        go_wp2
        go_loopg [7, 8] N (fun q b i wx => ∃ n : Nat, n + q = N ∧ i = .int .i64 ((n : Int) + 1) ∧ b = .int .i64 (bestN (s.data.toList.drop k) n) ∧ Below wo.heap.size wo wx)
        case atStart => exact ⟨0, by omega, rfl, rfl, Below.refl _ _⟩
        case round =>
          obtain ⟨n, hn, rfl, rfl, hbx⟩ := hrel
          have Hn := Lib.hid hn
          have hnN : n ≤ N := by omega
          clear hn
          by_cases hlt2 : n < N
          · have hlt2' : (n : Int) + 1 ≤ (N : Int) := by omega
            have hsl := fun W => slice_mid Try.underlying9 s k (n + 1) (by omega) W
            have ec : ((n + 1 : Nat) : Int) = (n : Int) + 1 := by omega
            rw [ec] at hsl
            have hx := extract_list s k (n + 1)
            have hxs : (s.extract k (k + (n + 1))).size ≤ maxLen := by have := HS.out; simp; omega
            have hst : bestN (s.data.toList.drop k) (n + 1) = if kindR ((s.data.toList.drop k).take (n + 1)) ≠ 0 then n + 1 else bestN (s.data.toList.drop k) n := rfl
            have hbn := bestN_le (s.data.toList.drop k) n
            generalize bestN (s.data.toList.drop k) n = bb at *
            have HST := Lib.hid hst
            have HX := Lib.hid hx
            have HXS := Lib.hid hxs
            have Hbx := Lib.hid hbx
            clear hst hx hxs hbx ec
            generalize hkk : kindR ((s.data.toList.drop k).take (n + 1)) = kk at *
            have HKK := Lib.hid hkk
            clear hkk
            have hwx := Hbx.out.size
            by_cases hz : kk = 0
            · subst hz
              go_wp2_with fail
              refine (kind_any _ HXS.out _).mono ?_
              rw [HX.out, HKK.out]
              rintro e w2 ⟨rfl, hb2⟩
              have Hb2 := Lib.hid hb2
              clear hb2
              go_wp2
              have hn := Hn.out
              have h1 := HST.out
              rw [if_neg (by simp)] at h1
              go_roundg (N - (n + 1))
              case measure => omega
              case rel => exact ⟨n + 1, by omega, by go_num, by rw [h1], Hbx.out.trans (Hb2.out.mono hwx)⟩
            · have hz1 : ((kk : Int) != 0) = true := by simp; omega
              have h1 := HST.out
              rw [if_pos hz] at h1
              have H1 := Lib.hid h1
              clear h1 HST hz
              go_wp2_with fail
              refine (kind_any _ HXS.out _).mono ?_
              rw [HX.out, HKK.out]
              rintro e w2 ⟨rfl, hb2⟩
              have Hb2 := Lib.hid hb2
              clear hb2
              go_wp2
              have hn := Hn.out
              go_roundg (N - (n + 1))
              case measure => omega
              case rel => exact ⟨n + 1, by omega, by go_num, by rw [H1.out]; go_num, Hbx.out.trans (Hb2.out.mono hwx)⟩
          · have hge : ¬ (n : Int) + 1 ≤ (N : Int) := by omega
            obtain rfl : n = N := by omega
            have hrs := ref_step HNE.out
            rw [HDL.out] at hrs
            generalize hst : step (s.data.toList.drop k) = st at hrs
            obtain ⟨kd, m⟩ := st
            simp only at hrs
            have hm : k + m ≤ s.size := by
              have := step_le (s.data.toList.drop k)
              rw [hst, HDL.out] at this
              simp only at this
              omega
            rw [hrs.1]
            have HKD := Lib.hid hrs.2
            have HST := Lib.hid hst
            have Hbx := Lib.hid hbx
            clear hrs hst hbx
            have hwx := Hbx.out.size
            by_cases hm0 : m = 0
            · subst hm0
              go_wp2
              go_ret3
              have hl := HL.out
              rw [lexP_err HNE.out (by rw [HST.out])] at hl
              have ho := HO.out
              rw [hl] at ho
              simp only at ho
              subst ho
              exact ⟨_, rfl, World.ownsRow_nil _ _ _ _, Hb.out.trans (Hbx.out.mono Hb.out.size)⟩
            · have hm1 : ((m : Int) == 0) = false := by simp; omega
              have HKD2 := Lib.hid (HKD.out hm0)
              have Hown2 := Lib.hid (own_below Hown.out Hbx.out (Nat.le_refl _))
              have hsl := fun W => slice_mid Try.underlying9 s k m hm W
              have hx := extract_list s k m
              have hxs : (s.extract k (k + m)).size ≤ maxLen := by have := HS.out; simp; omega
              have HX := Lib.hid hx
              have HXS := Lib.hid hxs
              have f1 : IntKind.i64.wrap ((k : Int) + (m : Int)) = (k : Int) + (m : Int) := IntWalk.i64_in _ (by omega)
              have f2 : ((k : Int) + (m : Int)).toNat = k + m := by omega
              have f3 : 0 ≤ (k : Int) + (m : Int) := by omega
              have f4 : (k : Int) + (m : Int) ≤ (s.size : Int) := by omega
              have f5 : (k : Int) ≤ (k : Int) + (m : Int) := by omega
              clear hm0 hx hxs hsl
              go_upto_region 14 with (fail)
              have hs3 : ∀ (v' : Value) (w' : World), w'.ownsRow w.heap.size 47 3 v' (A.length + 1) (tokCells A ++ [.int .u8 kd, .string (s.extract k (k + m)), .int .i64 k]) →
                w'.ownsRow w.heap.size 47 3 v' (A ++ [Tok.mk kd ((s.data.toList.drop k).take m) k]).length (tokCells (A ++ [Tok.mk kd ((s.data.toList.drop k).take m) k])) := by
                intro v' w' h
                rw [tokCells_snoc, List.length_append, ← extract_tok]
                exact h
              have H3 := Lib.hid hs3
              clear hs3
              go_cut [5] (fun v wx => wx.ownsRow w.heap.size 47 3 v (A ++ [Tok.mk kd ((s.data.toList.drop k).take m) k]).length (tokCells (A ++ [Tok.mk kd ((s.data.toList.drop k).take m) k])) ∧ Below w.heap.size w wx)
              case first =>
                go_region_law (first
                  | (go_simp; go_at_call 24; refine (kind_any _ HXS.out _).mono ?_; rw [HX.out, HKD2.out]; rintro e w2 ⟨rfl, hb2⟩; have HB2 : Hid (Below wr.heap.size wr w2) := ⟨hb2.os, hb2.tape, hb2.output, hb2.size, hb2.block⟩; clear hb2)
                  | (refine step_append_own (w2.alloc (.cells #[.int .u8 kd, .string (s.extract k (k + m)), .int .i64 k] 47)) rfl (.tmp 36) (.tmp 52) 27 rfl w.heap.size 47 i0 (.agg #[.int .u8 0, .string ByteArray.empty, .int .i64 0]) 3 32 Try.underlying27 hi hz0 hz1 hz2 rfl (by decide) u5 A.length (tokCells A) ?hs ?hown ⟨w2.heap.size, 0, none⟩ 1 1 [.int .u8 kd, .string (s.extract k (k + m)), .int .i64 k] ?hx rfl ?hn ?c2 ?c3 ?c4 ?c5 ?_
                     case hs => simp [Act.eval]
                     case hx => simp [Act.eval]
                     case hown => exact (own_below Hown2.out HB2.out (Nat.le_refl _)).alloc _
                     case hn => exact cell_three_new _ _ _ _ _
                     case c2 => intro u hu; simp only [List.mem_cons, List.not_mem_nil, or_false] at hu; rcases hu with rfl | rfl | rfl <;> rfl
                     case c3 => unfold maxLen; omega
                     case c4 => omega
                     case c5 => have h1 := Hb.out.size; have h2 := HB2.out.size; have h3 := Hbx.out.size; simp; omega
                     intro v' w3 hown3 hgrow3))
                go_wp2_with fail
                go_meet
                have hbw : Below w.heap.size w w2 := (Hb.out.trans (Hbx.out.mono Hb.out.size)).trans (HB2.out.mono (Nat.le_trans Hb.out.size Hbx.out.size))
                exact ⟨H3.out v' w3 hown3, (hbw.alloc hbw.size _).grown hgrow3 (by have := hbw.size; simp; omega) (fun j hj => (Hown.out.lt j hj).1)⟩
              case rest =>
                obtain ⟨hown3, hb3⟩ := hcut
                have Hown3 := Lib.hid hown3
                have Hb3 := Lib.hid hb3
                clear hown3 hb3
                go_wp2
                have hk := Hk.out
                have hm2 : m ≠ 0 := by simpa using hm1
                have hl := HL.out
                rw [lexP_cons HNE.out (by rw [HST.out]; exact hm2), HST.out, List.drop_drop] at hl
                go_roundg (s.size - (k + m))
                case measure => omega
                case rel =>
                  refine ⟨k + m, A ++ [Tok.mk kd ((s.data.toList.drop k).take m) k], by omega, by go_num, ?_, ?_, Hown3.out, Hb3.out⟩
                  · unfold Hid; rw [hl]; simp
                  · simp; omega
      · have hke : k = s.size := by omega
        subst hke
        have hl := HL.out
        rw [List.drop_of_length_le (by rw [HZ.out]; exact Nat.le_refl _), lexP_nil, List.append_nil] at hl
        have ho := HO.out
        rw [hl] at ho
        simp only at ho
        subst ho
        have Hown := Lib.hid hown
        have Hb := Lib.hid hb
        clear hl hown hb
        go_wp2
        go_ret3
        exact ⟨_, rfl, Hown.out, Hb.out⟩

end Go.Proofs.Ytgnnkddneoghmaa
