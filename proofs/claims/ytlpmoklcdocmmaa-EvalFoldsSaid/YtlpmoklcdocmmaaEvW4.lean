/- Walks: IsPlace; the look-up of a variable. -/
import Derived.Test.YtlpmoklcdocmmaaEvW3
namespace Go.Proofs.Ytlpmoklcdocmmaa
open Go.RowKit

set_option maxRecDepth 100000 in
set_option maxHeartbeats 1000000 in
theorem isplace_any (t : T) (v : Value) (w : World) (h : NodeAt w v t) :
    Calls Try.prog 21 #[v] w fun e w' => e = .returned (.bool (placeT t)) ∧ Below w.heap.size w w' := by
  obtain ⟨kd, nm, s, ks⟩ := t
  obtain ⟨u, rfl, ⟨hk0, hk255⟩, hnm, hs, hkids⟩ := NodeAt.mk_iff.1 h
  obtain ⟨a, c, rfl, -, -, -⟩ := hkids
  have hb1 := below_alloc w (.cells #[.int .u8 kd, .int .i64 nm, .string s, .slice a ks.length c] 24)
  have HC := Lib.hid (isexpr_any _ _ _ (h.below hb1 (Nat.le_refl _)))
  have HB1 := Lib.hid hb1
  generalize ks.length = n at *
  rw [placeT]
  generalize isT (.mk kd nm s ks) = r at *
  clear h hb1 hnm hs
  by_cases e1 : kd = 2 ∨ kd = 3
  · rw [show (kd == 2 || kd == 3) = true by simpa using e1, Bool.true_and]
    rcases e1 with rfl | rfl
    all_goals
      go_enter Try.func21, Try.ntmps21
      go_wp2_with fail
      refine HC.out.mono ?_
      rintro e w2 ⟨rfl, hb2⟩
      have HB2 := Lib.hid (below_next HB1.out (Nat.le_refl _) hb2)
      clear hb2 HC
      go_wp2
      go_ret
      exact ⟨rfl, HB2.out⟩
  · have e2 : (kd == 2) = false := by simp; omega
    have e3 : (kd == 3) = false := by simp; omega
    rw [e2, e3]
    simp only [Bool.or_false, Bool.false_and]
    clear e1
    go_enter Try.func21, Try.ntmps21
    go_wp2_with fail
    go_ret
    exact ⟨rfl, HB1.out⟩

/-- what Find says of a name -/
def Found (env : Env) (s : ByteArray) (z : Int) : Prop :=
  (look env s = none ∧ z = -1) ∨ ∃ (k : Nat) (c : List Int) (x : ByteArray), z = k ∧ env[k]? = some (x, c) ∧ look env s = some c

theorem look_drop {env : Env} {s : ByteArray} {k : Nat} {x : ByteArray} {c : List Int} (h : env[k]? = some (x, c)) : look (env.drop k) s = if x = s then some c else look (env.drop (k + 1)) s := by
  rw [drop_cons h, look]

set_option maxRecDepth 100000 in
set_option maxHeartbeats 1000000 in
theorem find_any (env : Env) (s : ByteArray) (v : Value) (w : World) (h : EnvAt w v env) :
    Calls Try.prog 34 #[v, .string s] w fun e w' => ∃ z, e = .returned (.int .i64 z) ∧ Hid (Found env s z) ∧ w = w' := by
  obtain ⟨⟨a, c, rfl, hn, hm, hq⟩, -⟩ := h
  have HQ := Lib.hid hq
  obtain ⟨n, hnk⟩ : ∃ n, n = env.length := ⟨_, rfl⟩
  rw [← hnk] at hn ⊢
  have hn63 : n ≤ 9223372036854775807 := by unfold maxLen at hm; omega
  have HN := Lib.hid hnk
  clear hq hn hm hnk
  go_enter Try.func34, Try.ntmps34
  go_wp2_with fail
  go_loopg [5] n (fun q i wr => ∃ k : Nat, k + q = n ∧ i = .int .i64 k ∧ Hid (look (env.drop k) s = look env s) ∧ wr = w)
  case atStart => exact ⟨0, by omega, rfl, rfl, rfl⟩
  case round =>
    obtain ⟨k, hk, rfl, hal, rfl⟩ := hrel
    have Hk := Lib.hid hk
    have hkn : k ≤ n := by omega
    clear hk
    by_cases hlt : k < n
    · have hlt' : (k : Int) < (n : Int) := by omega
      have hk0 : (0 : Int) ≤ (k : Int) := by omega
      have hkn' : k < env.length := by rw [← HN.out]; exact hlt
      obtain ⟨g, off, rfl, hg, hq⟩ := HQ.out (by omega)
      obtain ⟨⟨x, l⟩, hx⟩ : ∃ p, env[k]? = some p := ⟨_, List.getElem?_eq_getElem hkn'⟩
      obtain ⟨m0, -⟩ := hq k _ hx
      simp only at m0
      have hld := look_drop (s := s) hx
      have HX := Lib.hid hx
      have HLD := Lib.hid hld
      have hbq := beqS x s
      clear hq hx hld hkn'
      by_cases e : x = s
      · subst e
        have hbq' : (x.toList == x.toList) = true := by simp
        clear hbq
        go_wp2_with fail
        go_ret
        have h1 : look (env.drop k) x = some l := by simpa using HLD.out
        rw [hal.out] at h1
        exact ⟨k, rfl, .inr ⟨k, l, x, rfl, HX.out, h1⟩, rfl⟩
      · rw [decide_eq_false e] at hbq
        have HE := Lib.hid e
        clear e
        go_wp2_with fail
        have h1 := HLD.out
        rw [if_neg HE.out, hal.out] at h1
        have hk := Hk.out
        go_roundg (n - (k + 1))
        case measure => omega
        case rel => exact ⟨k + 1, by omega, by go_num, h1.symm, rfl⟩
    · have hge : ¬ (k : Int) < (n : Int) := by omega
      have hr := hal.out
      rw [List.drop_eq_nil_of_le (by rw [← HN.out]; omega)] at hr
      have HR := Lib.hid hr
      clear hr hal
      go_wp2_with fail
      go_ret
      exact ⟨-1, rfl, .inl ⟨HR.out.symm, rfl⟩, rfl⟩

theorem look_mem {env : Env} {s : ByteArray} {c : List Int} (h : look env s = some c) : ∃ k : Nat, ∃ x, env[k]? = some (x, c) ∧ k < env.length := by
  induction env with
  | nil => cases h
  | cons p l ih =>
    obtain ⟨x, d⟩ := p
    rw [look] at h
    split at h
    · exact ⟨0, x, by rw [← Option.some.inj h]; rfl, by simp⟩
    · obtain ⟨k, y, h1, h2⟩ := ih h
      exact ⟨k + 1, y, by simpa using h1, by simpa using h2⟩

/-- a function that looks variables up -/
def AtL (w : World) (f : Value) (env : Env) : Prop :=
  ∃ b ev, f = .func (.func 33) #[] #[.pointer (some ⟨b, 0, none⟩)] ∧ b < w.heap.size ∧ w.cell? ⟨b, 0, none⟩ = some ev ∧ EnvAt w ev env
theorem AtL.below {w w' : World} {f : Value} {env : Env} (h : AtL w f env) {B : Nat} (hb : Below B w w') (hB : w.heap.size ≤ B) : AtL w' f env := by
  obtain ⟨b, ev, rfl, h1, h2, h3⟩ := h
  exact ⟨b, ev, rfl, Nat.lt_of_lt_of_le h1 hb.size, cell_below hb (by omega) h2, h3.below hb hB⟩

theorem cf_look (args : Array Value) (w : World) : (callFunc 33 args).run Try.prog w = .ok (.enter 33 args) w := by kernel_rfl

def LookR (env : Env) (s : ByteArray) (w : World) (e : Ending) : Prop :=
  (look env s = none ∧ e = .returned (.tuple #[.slice none 0 0, .bool false])) ∨ ∃ c u, look env s = some c ∧ IntsAt w u c ∧ e = .returned (.tuple #[u, .bool true])

set_option maxRecDepth 100000 in
set_option maxHeartbeats 1000000 in
theorem look_any (env : Env) (s : ByteArray) (b : Nat) (ev : Value) (w : World) (h : EnvAt w ev env) (hc : w.cell? ⟨b, 0, none⟩ = some ev) :
    Calls Try.prog 33 #[.string s, .pointer (some ⟨b, 0, none⟩)] w fun e w' => LookR env s w e ∧ w = w' := by
  have HF := Lib.hid (find_any env s ev w h)
  obtain ⟨⟨a, c, rfl, hn, hm, hq⟩, -⟩ := h
  have HQ := Lib.hid hq
  obtain ⟨n, hnk⟩ : ∃ n, n = env.length := ⟨_, rfl⟩
  rw [← hnk] at hn hc HF
  have hn63 : n ≤ 9223372036854775807 := by unfold maxLen at hm; omega
  have HN := Lib.hid hnk
  clear hq hn hm hnk
  go_enter Try.func33, Try.ntmps33
  go_wp2_with fail
  refine HF.out.mono ?_
  rintro e w' ⟨z, rfl, hf, rfl⟩
  rcases hf.out with ⟨h1, rfl⟩ | ⟨k, l, x, rfl, h1, h2⟩
  · have H1 := Lib.hid h1
    clear h1 hf HF
    go_wp2_with fail
    go_ret2
    exact ⟨.inl ⟨H1.out, rfl⟩, rfl⟩
  · have hkl : k < n := by rw [HN.out]; exact (List.getElem?_eq_some_iff.1 h1).1
    have hlt' : (k : Int) < (n : Int) := by omega
    have hk0 : (0 : Int) ≤ (k : Int) := by omega
    obtain ⟨g, off, rfl, hg, hq⟩ := HQ.out (by rw [← HN.out]; omega)
    obtain ⟨-, u, m1, hi⟩ := hq k _ h1
    have H2 := Lib.hid h2
    have HI := Lib.hid hi
    clear h1 h2 hq hi hf HF
    go_wp2_with fail
    go_ret2
    exact ⟨.inr ⟨l, u, H2.out, HI.out, rfl⟩, rfl⟩

set_option maxRecDepth 100000 in
theorem lookup_any (env : Env) (v : Value) (w : World) (h : EnvAt w v env) :
    Calls Try.prog 16 #[v] w fun e w' => ∃ f, e = .returned f ∧ AtL w' f env ∧ Below w.heap.size w w' := by
  obtain ⟨a, c, rfl, -, -, -⟩ := id h.1
  have hb1 := below_alloc w (.cells #[.slice a env.length c] 25)
  have hk1 := Blk.new w 25 #[.slice a env.length c]
  have hA : AtL (w.alloc (.cells #[.slice a env.length c] 25)) (.func (.func 33) #[] #[.pointer (some ⟨w.heap.size, 0, none⟩)]) env :=
    ⟨w.heap.size, _, rfl, hk1.lt, hk1.cell 0, h.below hb1 (Nat.le_refl _)⟩
  have HA := Lib.hid hA
  have HB := Lib.hid hb1
  generalize env.length = n at *
  clear h hb1 hk1 hA
  have hmf : ∀ (fn : Fn) (first cap : Array Value) (w : World), (Instr.makeFunc fn first cap).run Try.prog w = .ok (.func fn first cap) w := fun _ _ _ _ => rfl
  go_enter Try.func16, Try.ntmps16
  go_wp2_with fail
  go_ret
  exact ⟨_, rfl, HA.out, HB.out⟩

end Go.Proofs.Ytlpmoklcdocmmaa
