/- A region that draws its order, in a round's frame: it is walked as outside a round, where it reads and calls alone. -/
import Derived.Test.YtklbaocgjegdfaaEnR
import Derived.Lib.QuietBelow
import Derived.Deep.RegionLaw
import Derived.Sort.QuietIn
import Derived.Stop.RegionWithIn
import Derived.Deep.RegionHeld3
namespace Go.Proofs.Ytklbaocgjegdfaa
open Go.RowKit Go.Shelf

def plainOp (o : Oper) : Bool := match o.op with | .defer _ => false | _ => true
theorem plainOp_ne {o : Oper} (h : plainOp o = true) : ∀ c, o.op ≠ .defer c := fun c e => by unfold plainOp at h; rw [e] at h; cases h

section
variable {P : Program} {C : World → Prop} {l n : Nat}
theorem wpIn_of_quiet {o : Oper} {a : Act} {K : Act → Prop} {K' : Act → World → Prop} {Q' : Exit → Act → World → Prop} {w : World} (hd : plainOp o = true) (hw : C w) (h : ∀ a w', C w' → K a → K' a w') (hh : o.quiet P a C K) : o.wpIn (Fence.wide.inRound l) n P a w K' Q' := by
  obtain ⟨v, h1, h2⟩ := hh
  have h3 := h1 w hw
  unfold Oper.quietAt at h3
  unfold Oper.wpIn
  refine ⟨fun _ _ => trivial, ?_⟩
  rw [show o.semAt (Fence.wide.inRound l).round a.eval = execOp a.eval o from Oper.semAt_some l _ _ (plainOp_ne hd)]
  generalize (execOp a.eval o).run P w = r at *
  cases r with
  | ok x w' =>
    cases x <;> simp only [Oper.quietUpon] at h3 <;> simp only [Oper.uponIn]
    case value u =>
      obtain ⟨e1, e2⟩ := h3
      rw [e1, e2]
      exact h _ _ hw h2
    case skip =>
      obtain ⟨e1, e2⟩ := h3
      rw [e1, ← e2]
      exact h _ _ hw h2
    case enter f args =>
      obtain ⟨e1, hc⟩ := h3
      rw [e1]
      refine ⟨(fun hx => by cases hx), ?_⟩
      have hc' : Calls P f args w fun e w'' => match e, w'' with
        | .returned v, w'' => K' (a.put o.dst v) w''
        | .panicked chain, w'' => Q' (.panic chain) a w''
        | .outgrown, _ => LetsOut Q' := hc.mono fun e w'' ⟨he, hw''⟩ => by subst he; exact h _ _ hw'' h2
      exact CallsIn.inRound l (callsIn_wide.2 hc')
  | halt x w' => simp only [Oper.quietUpon] at h3
theorem opIn_of_quiet {ops : Array Oper} (hd : ∀ (j : Nat) o, ops[j]? = some o → plainOp o = true) {i : Nat} {a : Act} {K : Act → Prop} {K' : Act → World → Prop} {Q' : Exit → Act → World → Prop} {w : World} (hC : C w) (h : ∀ a w', C w' → K a → K' a w') (hh : qOp P ops C i K a) : wpOpIn (Fence.wide.inRound l) n P ops Q' i K' a w := by
  unfold qOp at hh
  unfold wpOpIn
  split
  · rename_i ho; simp only [ho] at hh; exact h _ _ hC hh
  · rename_i o ho
    simp only [ho] at hh
    split
    · rename_i hw; simp only [hw, if_true] at hh; exact wpIn_of_quiet (hd _ _ ho) hC h hh
    · rename_i hw; simp only [hw] at hh; exact ⟨fun _ _ => trivial, h _ _ hC hh⟩
theorem anyIn_of_quiet {ops : Array Oper} {md : Region.Mode} (hd : ∀ (j : Nat) o, ops[j]? = some o → plainOp o = true) {Q : Act → Prop} {Q' : Exit → Act → World → Prop} (hQ : ∀ a w, C w → Q a → Q' .normal a w) : ∀ (fuel : Nat) (listed : Array Bool) (a : Act) (w : World), C w →
    wpAnyQ P md ops C Q fuel listed a → wpAnyIn (Fence.wide.inRound l) n P md ops Q' fuel listed a w
  | 0, _, _, _, hw, h => ⟨h.1, hQ _ _ hw h.2⟩
  | fuel + 1, _, _, _, hw, h => ⟨fun h0 => hQ _ _ hw (h.1 h0), fun i hi => opIn_of_quiet hd hw (fun a' w' hw' => anyIn_of_quiet hd hQ fuel _ a' w' hw') (h.2 i hi)⟩
theorem round_quiet {id : Nat} {Q : Exit → Act → World → Prop} {a : Act} {w : World} {L : List Oper} (hm : P.follows .mixedOrders = true) (hB : Region.lexB .any L.toArray = true) (hd : L.all plainOp = true) (hC : C { w with drawn := w.drawn + 1 })
    (h : wpQuiet P L.toArray C (fun a' => ∀ w', C w' → Q .normal a' w') L a) : (Code.region id L.toArray true).wpIn (Fence.wide.inRound l) n P Q a w := by
  have hd' : ∀ (j : Nat) o, L.toArray[j]? = some o → plainOp o = true := fun j o ho => List.all_eq_true.1 hd o (List.mem_of_getElem? (by simpa using ho))
  simp only [Region.lexB, Bool.and_eq_true] at hB
  refine wpIn_region_any hm (anyIn_of_quiet hd' (Q := fun a' => ∀ w', C w' → Q .normal a' w') (fun _ w' hw' h => h w' hw') _ _ _ _ hC ?_)
  have := wpAnyQ_lex (C := C) (md := .any) hB.1 L 0 (Array.replicate L.toArray.size false) a (by simp) (by simpa using hB.2) h
  simpa using this
/-- reads alone, and quiet calls -/
theorem round_quiet_lit {id : Nat} {Q : Exit → Act → World → Prop} {a : Act} {w : World} {L : List Oper} (hm : P.follows .mixedOrders = true) (hB : Region.lexB .any L.toArray = true) (hd : L.all plainOp = true)
    (h : wpQuiet P L.toArray (fun w' => ∃ n, w' = w.drewN n) (fun a' => ∀ w', (∃ n, w' = w.drewN n) → Q .normal a' w') L a) : (Code.region id L.toArray true).wpIn (Fence.wide.inRound l) n P Q a w :=
  round_quiet (C := fun w' => ∃ n, w' = w.drewN n) hm hB hd ⟨1, rfl⟩ h
/-- reads, and calls that make memory -/
theorem round_quiet_below {id : Nat} {Q : Exit → Act → World → Prop} {a : Act} {w : World} {L : List Oper} (hm : P.follows .mixedOrders = true) (hB : Region.lexB .any L.toArray = true) (hd : L.all plainOp = true)
    (h : wpQuiet P L.toArray (fun w' => ∃ p : Regrown, w' = Go.Sort.grow (redrawn w p.d) p.os) (fun a' => ∀ w', (∃ p : Regrown, w' = Go.Sort.grow (redrawn w p.d) p.os) → Q .normal a' w') L a) : (Code.region id L.toArray true).wpIn (Fence.wide.inRound l) n P Q a w :=
  round_quiet (C := fun w' => ∃ p : Regrown, w' = Go.Sort.grow (redrawn w p.d) p.os) hm hB hd ⟨⟨w.drawn + 1, #[]⟩, by rw [Go.Sort.grow_empty]; rfl⟩ h
end

/-- append onto a row of the call's own, as one step of a region that draws, in a round -/
theorem step_append_ownIn {F : Fence} {m0 : Nat} {P : Program} (w : World) {ops : Array Oper} {o : Oper} {a : Act} {K : Act → World → Prop} {Q : Exit → Act → World → Prop} {E : Prop} (hgd : o.guard = none) (s x : Operand) (t : TypeId)
    (ho : o.op = .call { callee := .builtin .append, args := #[s, x], argTypes := #[t, t] })
    (base : Nat) (e : TypeId) (i : TypeInfo) (z : Value) (size bytes : Nat) (ht : P.underlying t = some (.slice e)) (hi : P.info? e = some i) (hz : i.zero = some z)
    (hsize : i.size = size) (hby : i.bytes = bytes) (hzs : z.cells.size = size) (hsz : 0 < size)
    (v : Value) (n : Nat) (xs : List Value) (hs : a.eval s = v) (hown : w.ownsRow base e size v n xs)
    (A : Addr) (m c : Nat) (news : List Value) (hx : a.eval x = .slice (some A) m c) (hl : news.length = m * size) (hnews : ∀ j u, news[j]? = some u → w.cell? (A.add j) = some u) (h1 : ∀ u ∈ news, u.oneCell' = true)
    (h63 : n + m ≤ maxLen) (hbytes : (n + m) * bytes ≤ 140737488355328) (hbase : base ≤ w.heap.size)
    (h : ∀ v' w', w'.ownsRow base e size v' (n + m) (xs ++ news) → w.grownBy w' v.ownBlock → K (a.put o.dst v') w') :
    if Region.wanted o (yielded ops a.tmps) = true then Oper.wpIn F m0 P o a w K Q else E := by
  have hw : Region.wanted o (yielded ops a.tmps) = true := by simp [Region.wanted, hgd]
  rw [if_pos hw]
  obtain ⟨v', w', hrun, h2, h3, _⟩ := run_append_own (P := P) w base t o.type e i z size bytes ht hi hz hsize hby hzs hsz v n xs hown A m c news hl hnews h1 h63 hbytes hbase
  unfold Oper.wpIn
  rw [Oper.semAt_plain F _ _ (by rw [ho]; intro c hc'; cases hc')]
  refine ⟨?_, ?_⟩
  · simp [Oper.about, ho, resolve, Target.leads, Sem.run_pure]
  · unfold execOp
    simp only [ho, resolve, invoke, builtin, Sem.run_bind, Sem.run_pure, Result.andThen_ok, List.map_toArray, List.map_cons, List.map_nil, hs, hx, hrun]
    exact h v' w' h2 h3
end Go.Proofs.Ytklbaocgjegdfaa

/- A region that draws its order and makes memory, in a round's frame: walked as outside a round, loads first. -/
namespace Go.Proofs.Ytklbaocgjegdfaa
open Go.RowKit Go.Shelf

/-- Q where the code goes on, and nothing else -/
def NormalOnly (Q : Exit → Act → World → Prop) : Exit → Act → World → Prop
  | .normal, a, w => Q .normal a w
  | _, _, _ => False
theorem normalOnly_out (Q : Exit → Act → World → Prop) : ¬ LetsOut (NormalOnly Q) := fun ⟨_, _, h⟩ => h

section
variable {P : Program} {l n : Nat}
theorem opIn_of_wp {o : Oper} {a : Act} {K K' : Act → World → Prop} {Q : Exit → Act → World → Prop} {w : World} (hd : plainOp o = true) (h : ∀ a w', K a w' → K' a w') (hh : o.wp P a w K (NormalOnly Q)) : o.wpIn (Fence.wide.inRound l) n P a w K' Q := by
  unfold Oper.wp at hh
  unfold Oper.wpIn
  refine ⟨fun _ _ => trivial, ?_⟩
  rw [show o.semAt (Fence.wide.inRound l).round a.eval = execOp a.eval o from Oper.semAt_some l _ _ (plainOp_ne hd)]
  generalize (execOp a.eval o).run P w = r at *
  cases r with
  | ok x w' =>
    cases x <;> simp only [Oper.upon] at hh <;> simp only [Oper.uponIn]
    case value u => exact h _ _ hh
    case skip => exact h _ _ hh
    case defer d => exact h _ _ hh
    case enter f args =>
      refine ⟨(fun hx => by cases hx), ?_⟩
      have hc' : Calls P f args w' fun e w'' => match e, w'' with
        | .returned v, w'' => K' (a.put o.dst v) w''
        | .panicked chain, w'' => Q (.panic chain) a w''
        | .outgrown, _ => LetsOut Q := hh.mono fun e w'' he => by
          cases e with
          | returned v => exact h _ _ he
          | panicked c => exact (he : False).elim
          | outgrown => exact (normalOnly_out Q he).elim
      exact CallsIn.inRound l (callsIn_wide.2 hc')
    case row r args =>
      exact ⟨(fun hx => by cases hx), fun c cs _ => by
        obtain ⟨v, w2, hk, hs⟩ := hh c cs
        exact ⟨v, w2, h _ _ hk, stepsIn_wide.2 hs⟩⟩
  | halt x w' => cases x <;> simp only [Oper.upon, NormalOnly] at hh
theorem opIn_of_op {ops : Array Oper} (hd : ∀ (j : Nat) o, ops[j]? = some o → plainOp o = true) {i : Nat} {a : Act} {K K' : Act → World → Prop} {Q : Exit → Act → World → Prop} {w : World} (h : ∀ a w', K a w' → K' a w') (hh : wpOp P ops (NormalOnly Q) i K a w) : wpOpIn (Fence.wide.inRound l) n P ops Q i K' a w := by
  unfold wpOp at hh
  unfold wpOpIn
  split
  · rename_i ho; simp only [ho] at hh; exact h _ _ hh
  · rename_i o ho
    simp only [ho] at hh
    split
    · rename_i hw
      simp only [hw, if_true] at hh
      rcases hh with hh | ⟨-, hh⟩
      · exact opIn_of_wp (hd _ _ ho) h hh
      · exact (normalOnly_out Q hh).elim
    · rename_i hw; simp only [hw] at hh; exact ⟨fun _ _ => trivial, h _ _ hh⟩
theorem anyIn_of_held {ops : Array Oper} {md : Region.Mode} {S : World → Prop} (hd : ∀ (j : Nat) o, ops[j]? = some o → plainOp o = true) {Q : Exit → Act → World → Prop} : ∀ (fuel : Nat) (listed : Array Bool) (a : Act) (w : World),
    wpAnyH P md ops (NormalOnly Q) S fuel listed a w → wpAnyIn (Fence.wide.inRound l) n P md ops Q fuel listed a w
  | 0, _, _, _, h => h
  | fuel + 1, _, _, _, h => ⟨h.1, fun i hi => opIn_of_op hd (fun a' w' hw' => anyIn_of_held hd fuel _ a' w' hw'.2) (h.2 i hi)⟩
theorem round_held {id : Nat} {Q : Exit → Act → World → Prop} {a : Act} {w : World} {L : List Oper} (S : World → Prop) (hm : P.follows .mixedOrders = true) (hd : L.all plainOp = true) (hS : S w.drew)
    (h : S w.drew → wpAnyH P .any L.toArray (NormalOnly Q) S L.toArray.size (Array.replicate L.toArray.size false) a w.drew) : (Code.region id L.toArray true).wpIn (Fence.wide.inRound l) n P Q a w :=
  wpIn_region_any hm (anyIn_of_held (fun j o ho => List.all_eq_true.1 hd o (List.mem_of_getElem? (by simpa using ho))) _ _ _ _ (h hS))
end
end Go.Proofs.Ytklbaocgjegdfaa

/- Append onto a row of the call's own: where the row lies then; what a loop's own objects leave alone. -/
namespace Go.Proofs.Ytklbaocgjegdfaa
open Go.RowKit Go.Shelf

theorem run_append_own2 {P : Program} (w : World) (base : Nat) (t ty e : TypeId) (i : TypeInfo) (z : Value) (size bytes : Nat) (ht : P.underlying t = some (.slice e)) (hi : P.info? e = some i) (hz : i.zero = some z)
    (hsize : i.size = size) (hby : i.bytes = bytes) (hzs : z.cells.size = size) (hsz : 0 < size) (v : Value) (n : Nat) (xs : List Value) (hown : w.ownsRow base e size v n xs)
    (a : Addr) (m c : Nat) (news : List Value) (hl : news.length = m * size) (hnews : ∀ j u, news[j]? = some u → w.cell? (a.add j) = some u) (h1 : ∀ u ∈ news, u.oneCell' = true)
    (hm : 0 < m) (h63 : n + m ≤ maxLen) (hbytes : (n + m) * bytes ≤ 140737488355328) (hbase : base ≤ w.heap.size) :
    ∃ v' w', (Builtin.append_ #[t, t] ty #[v, .slice (some a) m c]).run P w = .ok v' w' ∧ w'.ownsRow base e size v' (n + m) (xs ++ news) ∧ w.grownBy w' v.ownBlock ∧ (v'.ownBlock = v.ownBlock ∨ v'.ownBlock = some w.heap.size) := by
  obtain ⟨v', w', hr, h2, h3, -⟩ := run_append_own (P := P) w base t ty e i z size bytes ht hi hz hsize hby hzs hsz v n xs hown a m c news hl hnews h1 h63 hbytes hbase
  refine ⟨v', w', hr, h2, h3, ?_⟩
  have hsmall : n + m ≤ 9223372036854775807 := by simp only [maxLen] at h63; omega
  subst hsize
  subst hby
  rcases hown.2 with ⟨rfl, rfl⟩ | ⟨g, cap, cur, rfl, hbg, hg, hnc, hcm, hcs, htake⟩
  · have hq := run_append_nil (P := P) w t ty e i z ht hi hz a m c news hl hnews hm (by omega) (by have hb := hbytes; simp only [Nat.zero_add] at hb; omega)
    rw [hq] at hr
    injection hr with e1
    exact .inr (by rw [← e1]; rfl)
  · by_cases hroom : n + m ≤ cap
    · have hfit : n * i.size + news.length ≤ cur.size := by rw [hl, hcs, ← Nat.add_mul]; exact Nat.mul_le_mul_right _ hroom
      have hq := run_append_room (P := P) w t ty e i ht hi g n cap cur hg a m c news hl hnews h1 hroom hfit
      rw [hq] at hr
      injection hr with e1
      exact .inl (by rw [← e1]; rfl)
    · have holds := hown.cells (g := g) rfl
      have hq := run_append_grow (P := P) w t ty e i z ht hi hz ⟨g, 0, none⟩ n cap xs hown.1 holds a m c news hl hnews (by omega) (by omega) (growslice_fits (by omega) hbytes)
      rw [hq] at hr
      injection hr with e1
      exact .inr (by rw [← e1]; rfl)

/-- the same as one step of a region that draws -/
theorem step_append_own2 {P : Program} (w : World) {ops : Array Oper} {o : Oper} {a : Act} {K : Act → World → Prop} {Q : Exit → Act → World → Prop} {E : Prop} (hgd : o.guard = none) (s x : Operand) (t : TypeId)
    (ho : o.op = .call { callee := .builtin .append, args := #[s, x], argTypes := #[t, t] })
    (base : Nat) (e : TypeId) (i : TypeInfo) (z : Value) (size bytes : Nat) (ht : P.underlying t = some (.slice e)) (hi : P.info? e = some i) (hz : i.zero = some z)
    (hsize : i.size = size) (hby : i.bytes = bytes) (hzs : z.cells.size = size) (hsz : 0 < size)
    (v : Value) (n : Nat) (xs : List Value) (hs : a.eval s = v) (hown : w.ownsRow base e size v n xs)
    (A : Addr) (m c : Nat) (news : List Value) (hx : a.eval x = .slice (some A) m c) (hl : news.length = m * size) (hnews : ∀ j u, news[j]? = some u → w.cell? (A.add j) = some u) (h1 : ∀ u ∈ news, u.oneCell' = true)
    (hm : 0 < m) (h63 : n + m ≤ maxLen) (hbytes : (n + m) * bytes ≤ 140737488355328) (hbase : base ≤ w.heap.size)
    (h : ∀ v' w', w'.ownsRow base e size v' (n + m) (xs ++ news) → w.grownBy w' v.ownBlock → (v'.ownBlock = v.ownBlock ∨ v'.ownBlock = some w.heap.size) → K (a.put o.dst v') w') :
    if Region.wanted o (yielded ops a.tmps) = true then Oper.wp P o a w K Q else E := by
  have hw : Region.wanted o (yielded ops a.tmps) = true := by simp [Region.wanted, hgd]
  rw [if_pos hw]
  obtain ⟨v', w', hrun, h2, h3, h4⟩ := run_append_own2 (P := P) w base t o.type e i z size bytes ht hi hz hsize hby hzs hsz v n xs hown A m c news hl hnews h1 hm h63 hbytes hbase
  unfold Oper.wp execOp
  simp only [ho, resolve, invoke, builtin, Sem.run_bind, Sem.run_pure, Result.andThen_ok, List.map_toArray, List.map_cons, List.map_nil, hs, hx, hrun]
  exact h v' w' h2 h3 h4

theorem own_get {w : World} {base : Nat} {e : TypeId} {a : Option Addr} {n c : Nat} {xs : List Value} (h : w.ownsRow base e 1 (.slice a n c) n xs) (hn : 0 < n) :
    ∃ g, a = some ⟨g, 0, none⟩ ∧ base ≤ g ∧ g < w.heap.size ∧ ∀ i x, xs[i]? = some x → w.cell? ⟨g, i, none⟩ = some x := by
  rcases h.2 with ⟨_, h0⟩ | ⟨g, cap, cur, he, hb, hg, _⟩
  · omega
  · injection he with e1 e2 e3
    subst e1
    refine ⟨g, rfl, hb, (Array.getElem?_eq_some_iff.1 hg).1, fun i x hx => ?_⟩
    have := World.ownsRow.cells h (g := g) rfl i x hx
    rwa [Go.WideShapes.add_plain, Nat.zero_add] at this

/-! what a loop's own objects leave alone -/
def NoCells (B : Nat) (A : World) (row : Option Nat) : Prop := ∀ r, row = some r → B ≤ r ∧ ∃ o : Obj, A.heap[r]? = some o ∧ o.isCells = false
theorem Blk.ne_row {A : World} {B b : Nat} {t : TypeId} {cs : Array Value} {row : Option Nat} (h : Blk A b t cs) (hr : NoCells B A row) : some b ≠ row := by
  intro he
  obtain ⟨_, o, ho, hc⟩ := hr b he.symm
  unfold Blk at h
  rw [h] at ho
  injection ho with ho
  subst ho
  cases hc
theorem Blk.row {A A' : World} {B b : Nat} {t : TypeId} {cs : Array Value} {row : Option Nat} (h : Blk A b t cs) (hg : A.grownBy A' row) (hr : NoCells B A row) : Blk A' b t cs := h.grown hg (h.ne_row hr)
theorem own_ne_row {A : World} {B base : Nat} {e : TypeId} {size n : Nat} {v : Value} {xs : List Value} {row : Option Nat} (h : A.ownsRow base e size v n xs) (hr : NoCells B A row) : v.ownBlock = none ∨ v.ownBlock ≠ row := by
  rcases h.2 with ⟨rfl, _⟩ | ⟨g, cap, cur, rfl, _, hh, _⟩
  · exact .inl rfl
  · exact .inr (Blk.ne_row (b := g) hh hr)
theorem own_row' {A A' : World} {B base : Nat} {e : TypeId} {size n : Nat} {v : Value} {xs : List Value} {row : Option Nat} (h : A.ownsRow base e size v n xs) (hg : A.grownBy A' row) (hr : NoCells B A row) : A'.ownsRow base e size v n xs := h.kept hg (own_ne_row h hr)
theorem below_row {w A A' : World} {B c : Nat} {row : Option Nat} (h : Below c w A) (hc : c ≤ B) (hg : A.grownBy A' row) (hr : NoCells B A row) (hcs : c ≤ A.heap.size) : Below c w A' :=
  h.grown hg hcs (fun k e => Nat.le_trans hc (hr k e).1)
theorem own_touch {A A' : World} {O : Nat → Prop} {base : Nat} {e : TypeId} {size n : Nat} {v : Value} {xs : List Value} (h : A.ownsRow base e size v n xs) (ht : Touch O A A') (hO : ∀ j, O j → v.ownBlock ≠ some j) : A'.ownsRow base e size v n xs := by
  refine ⟨h.1, ?_⟩
  rcases h.2 with hn | ⟨g, cap, cur, rfl, hb, hg, r⟩
  · exact .inl hn
  · exact .inr ⟨g, cap, cur, rfl, hb, (ht.block g (Array.getElem?_eq_some_iff.1 hg).1 (fun ho => hO g ho rfl)).trans hg, r⟩
theorem Blk.touch {A A' : World} {O : Nat → Prop} {b : Nat} {t : TypeId} {cs : Array Value} (h : Blk A b t cs) (ht : Touch O A A') (hO : ¬ O b) : Blk A' b t cs := (ht.block b h.lt hO).trans h
theorem keeps_gr {A A' : World} {g : Nat} {t : TypeId} {cs : Array Value} (hg : A.grownBy A' (some g)) (h : Blk A g t cs) (B : Nat) : KeepsFrom B A A' :=
  (KeepsOthers.of_grownBy hg (fun j o hj ho => by
    cases hj
    unfold Blk at h
    rw [h] at ho
    injection ho with ho
    subst ho
    rfl)).from B
theorem keeps_own {A A' : World} {base : Nat} {e : TypeId} {size n : Nat} {v : Value} {xs : List Value} (h : A.ownsRow base e size v n xs) (hg : A.grownBy A' v.ownBlock) (B : Nat) : KeepsFrom B A A' :=
  (KeepsOthers.of_grownBy hg (fun j o hj ho => by
    rcases h.2 with ⟨rfl, _⟩ | ⟨g, cap, cur, rfl, _, hh, _⟩
    · cases hj
    · cases hj
      rw [hh] at ho
      injection ho with ho
      subst ho
      rfl)).from B
theorem keeps_below {A A' : World} (h : Below A.heap.size A A') (B : Nat) : KeepsFrom B A A' :=
  (KeepsOthers.of_grownBy (row := none) ⟨h.os, h.tape, h.output, h.size, fun k hk _ => h.block k hk⟩ (fun j o hj _ => by cases hj)).from B
theorem keeps_set (A : World) (b i : Nat) (u : Value) (B : Nat) : KeepsFrom B A (A.setCell ⟨b, i, none⟩ u) := (KeepsOthers.setCell A _ u).from B
theorem leaves_gr {A A' : World} {O : Nat → Prop} {row : Option Nat} (hg : A.grownBy A' row) (hO : ∀ j, O j → j < A.heap.size ∧ some j ≠ row) : Leaves O A A' := ⟨hg.size, fun b hb => hg.block b (hO b hb).1 (hO b hb).2⟩
theorem leaves_set (A : World) {O : Nat → Prop} {g : Nat} (i : Nat) (u : Value) (hO : ¬ O g) : Leaves O A (A.setCell ⟨g, i, none⟩ u) := ⟨by simp [World.setCell], fun b hb => Below.heap_setCell A ⟨g, i, none⟩ u b (fun e => hO (by have e' : b = g := e; exact e' ▸ hb))⟩
end Go.Proofs.Ytklbaocgjegdfaa
