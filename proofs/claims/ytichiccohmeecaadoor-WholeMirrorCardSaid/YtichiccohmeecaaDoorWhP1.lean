/- The machine in plain words: instructions, images, machines, one step. -/
import Derived.Test.YtichiccohmeecaaDoorAr
namespace Go.Proofs.YtichiccohmeecaaDoor
open Go.RowKit

/-- the range of an int -/
def I64 (x : Int) : Prop := -9223372036854775808 ≤ x ∧ x ≤ 9223372036854775807

structure Ins where
  op : Nat
  a : Int
  b : Int
  c : Int
  d : Int
deriving DecidableEq

structure Im where
  code : List Ins
  mem : Int
  stacks : Int

structure Mach where
  pc : Int
  dir : Int
  R : Nat → Int
  M : List Int
  S : List (List Int)
  calls : List (Int × Bool)
  fp : Int
  sb : Int
  inp : List Int
  out : List Int

def regB (x : Int) : Bool := decide (0 ≤ x) && decide (x < 16)
def numB (x : Int) : Bool := decide (0 ≤ x) && decide (x ≤ 16384)
def idxB (x : Int) : Bool := decide (0 ≤ x) && decide (x < 65536)
def operB (x : Int) : Bool := decide (8 ≤ x) && decide (x ≤ 23)

def opsL : List Nat := [0, 2, 2, 2, 2, 2, 2, 2, 1, 4, 2, 4, 2, 2, 2, 2, 2, 1, 1, 1, 1, 2, 1, 2, 2, 1, 2, 2, 2, 2, 1, 1, 1, 1, 0]
/-- operands that the opcode does not use are 0 -/
def idleB (n : Nat) (i : Ins) : Bool := (decide (0 < n) || i.a == 0) && (decide (1 < n) || i.b == 0) && (decide (2 < n) || i.c == 0) && (decide (3 < n) || i.d == 0)
def formB (i : Ins) : Bool :=
  match i.op with
  | 0 => true
  | 1 => regB i.a && regB i.b && i.a != i.b
  | 2 => regB i.a && regB i.b && i.a != i.b
  | 3 => regB i.a && regB i.b && i.a != i.b
  | 4 => regB i.a
  | 5 => regB i.a
  | 6 => regB i.a
  | 7 => regB i.a && regB i.b
  | 8 => regB i.a
  | 9 => regB i.a && regB i.b && regB i.c && i.a != i.b && i.a != i.c && operB i.d
  | 10 => regB i.a && numB i.b
  | 11 => regB i.a && regB i.b && i.a != i.b && numB i.c && numB i.d
  | 12 => regB i.a && numB i.b
  | 13 => regB i.a && numB i.b
  | 14 => regB i.a && numB i.b
  | 15 => regB i.a && numB i.b
  | 16 => numB i.a && numB i.b
  | 17 => regB i.a
  | 18 => regB i.a
  | 19 => regB i.a
  | 20 => regB i.a
  | 21 => regB i.a && decide (1 ≤ i.b) && decide (i.b ≤ 23)
  | 22 => idxB i.a
  | 23 => regB i.a && idxB i.b
  | 24 => regB i.a && idxB i.b
  | 25 => idxB i.a
  | 26 => regB i.a && idxB i.b
  | 27 => regB i.a && idxB i.b
  | 28 => numB i.a && numB i.b
  | 29 => numB i.a && numB i.b
  | 30 => idxB i.a
  | 31 => idxB i.a
  | 32 => idxB i.a
  | 33 => idxB i.a
  | _ => true
def validI (i : Ins) : Bool := decide (i.op < 35) && idleB (opsL.getD i.op 0) i && formB i

def jumpB (op : Nat) : Bool := decide (op = 22) || decide (op = 23) || decide (op = 24)
def landB (op : Nat) : Bool := decide (op = 25) || decide (op = 26) || decide (op = 27)
def invO (op : Nat) : Nat :=
  match op with
  | 1 => 2 | 2 => 1 | 4 => 5 | 5 => 4 | 12 => 13 | 13 => 12 | 17 => 18 | 18 => 17 | 19 => 20 | 20 => 19
  | 22 => 25 | 23 => 26 | 24 => 27 | 25 => 22 | 26 => 23 | 27 => 24 | 28 => 29 | 29 => 28 | 32 => 33 | 33 => 32
  | n => n
def invI (i : Ins) : Ins := { i with op := invO i.op }
/-- the target lies in A -/
def inA (op : Nat) : Bool := decide (op = 22) || decide (op = 25) || decide (op = 30) || decide (op = 31) || decide (op = 32) || decide (op = 33)
/-- the target lies in B -/
def inB (op : Nat) : Bool := decide (op = 23) || decide (op = 24) || decide (op = 26) || decide (op = 27)
def targ (i : Ins) : Option Int := if inA i.op then some i.a else if inB i.op then some i.b else none
def retarg (i : Ins) (t : Int) : Ins := if inA i.op then { i with a := t } else if inB i.op then { i with b := t } else i

def noI : Ins := ⟨34, 0, 0, 0, 0⟩
def cAt (C : List Ins) (k : Int) : Ins := C.getD k.toNat noI
def pairB (i t : Int) (a b : Nat) : Bool :=
  if jumpB a then landB b else if landB a then jumpB b else if i < t then decide (a = 32) && decide (b = 33) else decide (a = 33) && decide (b = 32)
def inR (C : List Ins) (k : Int) : Bool := decide (0 ≤ k) && decide (k < C.length)
def partner (C : List Ins) (i : Int) : Option Int :=
  if inR C i then
    match targ (cAt C i) with
    | none => none
    | some t => if inR C t && validI (cAt C i) && validI (cAt C t) && (targ (cAt C t) == some i) && pairB i t (cAt C i).op (cAt C t).op then some t else none
  else none

def fitsP (im : Im) (m : Mach) : Bool :=
  (m.dir == 1 || m.dir == -1) && decide (0 ≤ m.pc) && decide (m.pc ≤ im.code.length) &&
  decide ((m.M.length : Int) = im.mem) && decide ((m.S.length : Int) = im.stacks) && decide (1 ≤ m.S.length) &&
  (m.S.drop 1).all (fun s => decide (s.length ≤ 1000)) && m.calls.all (fun a => inR im.code a.1) &&
  decide (m.calls.length ≤ 100) && decide (m.inp.length ≤ 4096) && decide (m.out.length ≤ 4096) &&
  decide (0 ≤ m.fp) && decide (m.fp ≤ im.mem) && decide (0 ≤ m.sb) && decide (m.sb ≤ im.stacks)

def upd (f : Nat → Int) (a : Nat) (v : Int) : Nat → Int := fun j => if j = a then v else f j
def Mach.reg (m : Mach) (a : Int) : Int := m.R a.toNat
def Mach.put (m : Mach) (a : Int) (v : Int) : Mach := { m with R := upd m.R a.toNat v }
def turn (m : Mach) : Mach := { m with dir := -m.dir }
def xor64 (x y : Int) : Int := bits .xor .i64 x y

def behind (i dir : Int) : Int := if 0 < dir then i + 1 else i
def holds (m : Mach) (i : Ins) : Bool :=
  if i.op = 23 ∨ i.op = 26 then m.reg i.a == 0 else if i.op = 24 ∨ i.op = 27 then m.reg i.a != 0 else true

def jumpP (im : Im) (m : Mach) (k : Int) : Int × Mach :=
  match partner im.code k with
  | none => (23, m)
  | some t =>
    if holds m (cAt im.code k) = false then (0, { m with pc := behind k m.dir })
    else if (jumpB (cAt im.code k).op == decide (0 < m.dir)) && holds m (cAt im.code t) then (0, { m with pc := behind t m.dir })
    else (15, m)

def dirOf (t : Bool) (d : Int) : Int := if t then -d else d
def opOf (t : Bool) : Nat := if t then 31 else 30
def startOf (i : Ins) (k : Int) : Int := if i.op = 33 then i.a else k
def goOf (d s e : Int) : Int := if 0 < d then s + 1 else e
def wayI (d : Int) (i : Ins) : Ins := if d < 0 then invI i else i

def enterP (im : Im) (m : Mach) (k : Int) : Int × Mach :=
  match partner im.code (cAt im.code k).a with
  | none => (23, m)
  | some e =>
    if 100 ≤ m.calls.length then (19, m)
    else
      let tn := decide ((cAt im.code k).op = 31)
      (0, { m with calls := m.calls ++ [(k, tn)], dir := dirOf tn m.dir, pc := goOf (dirOf tn m.dir) (cAt im.code k).a e })

def leaveP (im : Im) (m : Mach) (k : Int) : Int × Mach :=
  let i := cAt im.code k
  if (decide (i.op = 33) != decide (0 < m.dir)) || m.calls.length == 0 then (23, m)
  else
    let a := m.calls.getD (m.calls.length - 1) (0, false)
    if cAt im.code a.1 = ⟨opOf a.2, startOf i k, 0, 0, 0⟩ then
      (0, { m with calls := m.calls.take (m.calls.length - 1), dir := dirOf a.2 m.dir, pc := behind a.1 (dirOf a.2 m.dir) })
    else (23, m)

def exchange (m : Mach) (r at_ : Int) : Int × Mach :=
  if 0 ≤ at_ ∧ at_ < m.M.length then (0, { m with R := upd m.R r.toNat (m.M.getD at_.toNat 0), M := m.M.set at_.toNat (m.reg r) }) else (12, m)

def shift (m : Mach) (x y : Int) : Int × Mach :=
  if 0 ≤ m.fp + x ∧ m.fp + x ≤ m.M.length ∧ 0 ≤ m.sb + y ∧ m.sb + y ≤ m.S.length then (0, { m with fp := m.fp + x, sb := m.sb + y }) else (12, m)

def find (m : Mach) (k : Int) : Int := if k = 0 then 0 else k + m.sb
def stk (m : Mach) (k : Int) : List Int := m.S.getD k.toNat []
def swapP (m : Mach) (k l : Int) : Int × Mach :=
  let x := find m k
  let y := find m l
  if m.S.length ≤ x then (12, m)
  else if m.S.length ≤ y then (12, m)
  else if (x != 0 && decide (1000 < (stk m y).length)) || (y != 0 && decide (1000 < (stk m x).length)) then (5, m)
  else (0, { m with S := (m.S.set x.toNat (stk m y)).set y.toNat (stk m x) })

def lastD (l : List Int) : Int := l.getD (l.length - 1) 0
def stackP (m : Mach) (i : Ins) : Int × Mach :=
  let k := find m i.b
  let s := stk m k
  if m.S.length ≤ k then (12, m)
  else if i.op = 15 then (0, m.put i.a (xor64 (m.reg i.a) s.length))
  else if i.op = 12 then
    if k ≠ 0 ∧ 1000 ≤ s.length then (5, m) else (0, { m.put i.a 0 with S := m.S.set k.toNat (s ++ [m.reg i.a]) })
  else if s.length = 0 then (13, m)
  else if i.op = 14 then (0, m.put i.a (xor64 (m.reg i.a) (lastD s)))
  else if m.reg i.a ≠ 0 then (14, m)
  else (0, { m.put i.a (lastD s) with S := m.S.set k.toNat (s.take (s.length - 1)) })

def readP (m : Mach) (a : Int) : Int × Mach :=
  if m.inp.length = 0 then (17, m) else if m.reg a ≠ 0 then (14, m) else (0, { m.put a (m.inp.getD 0 0) with inp := m.inp.drop 1 })
def unreadP (m : Mach) (a : Int) : Int × Mach :=
  if 4096 ≤ m.inp.length then (5, m) else (0, { m.put a 0 with inp := m.reg a :: m.inp })
def writeP (m : Mach) (a : Int) : Int × Mach :=
  if 4096 ≤ m.out.length then (5, m) else (0, { m.put a 0 with out := m.out ++ [m.reg a] })
def unwriteP (m : Mach) (a : Int) : Int × Mach :=
  if m.out.length = 0 then (17, m) else if m.reg a ≠ 0 then (14, m) else (0, { m.put a (lastD m.out) with out := m.out.take (m.out.length - 1) })
def calcP (m : Mach) (i : Ins) : Int × Mach :=
  if applyE i.d (m.reg i.c) ≠ 0 then (applyE i.d (m.reg i.c), m) else (0, m.put i.a (xor64 (m.reg i.a) (applyV i.d (m.reg i.b) (m.reg i.c))))
def zeroP (m : Mach) (i : Ins) : Int × Mach := if m.reg i.a ≠ 0 then (i.b, m) else (0, m)
def idxP (m : Mach) (i : Ins) : Int × Mach :=
  if 0 ≤ m.reg i.b ∧ m.reg i.b < i.d then exchange m i.a (m.fp + i.c + m.reg i.b) else (12, m)

def exec (m : Mach) (i : Ins) : Int × Mach :=
  match i.op with
  | 0 => (0, m)
  | 1 => (0, m.put i.a (wrap64 (m.reg i.a + m.reg i.b)))
  | 2 => (0, m.put i.a (wrap64 (m.reg i.a - m.reg i.b)))
  | 3 => (0, m.put i.a (xor64 (m.reg i.a) (m.reg i.b)))
  | 4 => (0, m.put i.a (wrap64 (m.reg i.a + i.b)))
  | 5 => (0, m.put i.a (wrap64 (m.reg i.a - i.b)))
  | 6 => (0, m.put i.a (xor64 (m.reg i.a) i.b))
  | 7 => (0, (m.put i.a (m.reg i.b)).put i.b (m.reg i.a))
  | 8 => (0, m.put i.a (wrap64 (-m.reg i.a)))
  | 9 => calcP m i
  | 10 => exchange m i.a (m.fp + i.b)
  | 11 => idxP m i
  | 12 => stackP m i
  | 13 => stackP m i
  | 14 => stackP m i
  | 15 => stackP m i
  | 16 => swapP m i.a i.b
  | 17 => readP m i.a
  | 18 => unreadP m i.a
  | 19 => writeP m i.a
  | 20 => unwriteP m i.a
  | 21 => zeroP m i
  | 28 => shift m i.a i.b
  | 29 => shift m (-i.a) (-i.b)
  | _ => (0, m)

def here (m : Mach) : Int := if m.dir < 0 then m.pc - 1 else m.pc
def stepP (im : Im) (m : Mach) : Int × Mach :=
  let k := here m
  if inR im.code k = false then (4, m)
  else
    let i := cAt im.code k
    if i.op = 34 then (4, m)
    else if i.op = 30 ∨ i.op = 31 then enterP im m k
    else if i.op = 32 ∨ i.op = 33 then leaveP im m k
    else if jumpB i.op || landB i.op then jumpP im m k
    else
      let r := exec m (wayI m.dir i)
      if r.1 = 0 then (0, { r.2 with pc := r.2.pc + r.2.dir }) else r

def backP (im : Im) (m : Mach) : Int × Mach := ((stepP im (turn m)).1, turn (stepP im (turn m)).2)

/-- all numbers are 64 bits wide -/
def Mach.Big (m : Mach) : Prop := (∀ j, I64 (m.R j)) ∧ (∀ x ∈ m.M, I64 x) ∧ (∀ s ∈ m.S, ∀ x ∈ s, I64 x) ∧ (∀ x ∈ m.inp, I64 x) ∧ ∀ x ∈ m.out, I64 x

end Go.Proofs.YtichiccohmeecaaDoor
