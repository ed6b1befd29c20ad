/- The framework's steps: what one operation does to an abstract state. Conditions: none. -/
import Derived.Test.YtdhgdpcmdmgchaaGreatFwB
import Derived.Great.BuildSlice
namespace Go.Proofs.YtdhgdpcmdmgchaaGreat.Fw
open Go

/-- What is known of a type: cells, bytes, is it a struct or an array, its zero's cells, a slice's element type, a struct's fields (offset, type), an integer's kind, is it bool. -/
structure TD where
  size : Nat
  bytes : Nat
  agg : Bool
  zero : List L
  elem : Option Nat := none
  flds : List (Nat × Nat) := []
  ik : Option IntKind := none
  isB : Bool := false
  eqs : Bool := false

structure Tab where
  td : Nat → Option TD
  /-- functions that write into a slice that they are handed: its position -/
  mu : Nat → Option Nat
  /-- functions whose results hold no slice: they are lent their arguments -/
  bo : Nat → Bool
  /-- tests whose ways are joined again: the slots that they look at -/
  js : List Nat := []

structure TdOk (P : Program) (t : Nat) (d : TD) : Prop where
  eqs : d.eqs = true → P.stoodInHeld t = false ∧ P.eqGuardType P.depth t = false ∧ ∃ fs, P.underlying t = some (.struct fs) ∧ fs.toList.map (fun f => (f.offset, f.type)) = d.flds ∧ ∀ f ∈ fs.toList, (f.name == "_") = false
  info : ∃ i zv, P.info? t = some i ∧ i.size = d.size ∧ i.bytes = d.bytes ∧ i.zero = some zv ∧ zv.cells.toList = d.zero.map zval
  zl : d.zero.length = d.size
  zp : ∀ l ∈ d.zero, l.plain = true
  pos : 0 < d.size
  und : ∃ u, P.underlying t = some u ∧ (d.agg = (match u with | .struct _ | .array _ _ => true | _ => false)) ∧ (∀ e, d.elem = some e → u = .slice e) ∧ (∀ k, d.ik = some k → u = .int k) ∧
    (d.isB = true → u = .bool) ∧ (d.flds ≠ [] → ∃ fs, u = .struct fs ∧ fs.toList.map (fun f => (f.offset, f.type)) = d.flds ∧ ∀ f ∈ fs.toList, ∃ i, P.info? f.type = some i)

def TabOk (P : Program) (T : Tab) : Prop := ∀ t d, T.td t = some d → TdOk P t d

def AV.ofConst : Value → AV
  | .int k n => .lf (.int k n)
  | .bool b => .lf (.bool b)
  | .slice none 0 0 => .nils
  | _ => .undef

def evO (s : Nat → AV) : Operand → AV
  | .tmp t => s t
  | .const v => .ofConst v
  | .func f => .lf (.fn f)
  | .global _ => .undef

def rowCells (k : Blk) (off len : Nat) : List L := if off = 0 ∧ len = k.n then k.cs else seg (off * k.sz) (len * k.sz) k.cs

/-- The number of cells of a slice type's elements. -/
def Tab.esz (T : Tab) (ty : Nat) : Option Nat :=
  match T.td ty with
  | some d => match d.elem with
    | some e => match T.td e with
      | some de => some de.size
      | none => none
    | none => none
  | none => none

/-- The cells of a value of type ty that is handed on; the blocks that are only read from now on. -/
def cellsOf (T : Tab) (rd : Nat → Option Blk) (ty : Nat) : AV → Option (List L × List Nat)
  | .lf l => some ([l], [])
  | .ag ls => some (ls, [])
  | .nils => match T.esz ty with
    | some sz => some ([.sl sz 0 []], [])
    | none => none
  | .row i _ off len => match rd i with
    | some k => if k.st < 3 then some ([.sl k.sz len (rowCells k off len)], [i]) else none
    | none => none
  | _ => none

/-- A slice's elements, to be copied: their cells' number, how many, their cells. -/
def elemsOf (rd : Nat → Option Blk) (sz : Nat) : AV → Option (Nat × List L)
  | .lf (.sl sz' n cs) => if sz' = sz then some (n, cs) else none
  | .nils => some (0, [])
  | .row i _ off len => match rd i with
    | some k => if k.sz = sz ∧ k.st < 3 then some (len, rowCells k off len) else none
    | none => none
  | _ => none

structure Out where
  pre : Prop
  v : AV
  frz : List Nat := []
  mak : Option Blk := none
  upd : Option (Nat × Blk) := none

def idOf (d : Option Nat) (k : Nat) : Nat := 1000 + 8 * d.getD 0 + k

def partsOf (T : Tab) (rd : Nat → Option Blk) (ρ : Operand → AV) (ty : Nat → Option Nat) : List (Nat × Operand) → Option (List (Nat × List L) × List Nat)
  | [] => some ([], [])
  | (i, x) :: r => match ty i with
    | some t => match cellsOf T rd t (ρ x) with
      | some (ls, fz) => match partsOf T rd ρ ty r with
        | some (ps, fzs) => some ((i, ls) :: ps, fz ++ fzs)
        | none => none
      | none => none
    | none => none

def fillP (place : Nat → Option (Nat × Nat)) (total : Nat) : List (Nat × List L) → List L → Option (List L × Prop)
  | [], cs => some (cs, True)
  | (i, ls) :: r, cs => match place i with
    | some (off, size) => match fillP place total r (splice off ls cs) with
      | some (cs', p) => some (cs', (ls.length = size ∧ off + size ≤ total) ∧ p)
      | none => none
    | none => none

/-- Where field f of struct d lies, and its size. -/
def Tab.fld (T : Tab) (d : TD) (f : Nat) : Option (Nat × TD) :=
  match d.flds[f]? with
  | some (o, ft) => match T.td ft with
    | some df => some (o, df)
    | none => none
  | none => none

def binI (op : BinOp) (k : IntKind) (x y : Int) : Option (Prop × L) :=
  match op with
  | .add => some (True, .int k (k.wrap (x + y)))
  | .sub => some (True, .int k (k.wrap (x - y)))
  | .mul => some (True, .int k (k.wrap (x * y)))
  | .quo => some (y ≠ 0, .int k (k.wrap (x.tdiv y)))
  | .rem => some (y ≠ 0, .int k (x.tmod y))
  | .eql => some (True, .bool (x == y))
  | .neq => some (True, .bool (x != y))
  | .lss => some (True, .bool (x < y))
  | .leq => some (True, .bool (x ≤ y))
  | .gtr => some (True, .bool (x > y))
  | .geq => some (True, .bool (x ≥ y))
  | .and => some (True, .int k (k.wrap (BitVec.ofInt k.bits x &&& BitVec.ofInt k.bits y).toNat))
  | .or => some (True, .int k (k.wrap (BitVec.ofInt k.bits x ||| BitVec.ofInt k.bits y).toNat))
  | .xor => some (True, .int k (k.wrap (BitVec.ofInt k.bits x ^^^ BitVec.ofInt k.bits y).toNat))
  | .andNot => some (True, .int k (k.wrap (BitVec.ofInt k.bits x &&& ~~~BitVec.ofInt k.bits y).toNat))
  | _ => none

/-- Two structs' cells, held against each other. -/
def Tab.eqF (T : Tab) (g : Nat → List L → List L → Option Bool) : List (Nat × Nat) → List L → List L → Option Bool
  | [], _, _ => some true
  | (o, ft) :: r, lx, ly => match T.td ft with
    | some df => if o + df.size ≤ lx.length ∧ o + df.size ≤ ly.length then match g ft (seg o df.size lx) (seg o df.size ly) with
      | some b => match T.eqF g r lx ly with
        | some b' => some (b && b')
        | none => none
      | none => none
      else none
    | none => none
def Tab.eqv (T : Tab) : Nat → Nat → List L → List L → Option Bool
  | 0, _, _, _ => none
  | n + 1, t, lx, ly => match T.td t with
    | some d => if d.eqs then T.eqF (T.eqv n) d.flds lx ly else match lx, ly with
      | [.int k a], [.int k' b] => if d.ik.isSome ∧ k = k' then some (a == b) else none
      | [.bool a], [.bool b] => if d.isB then some (a == b) else none
      | _, _ => none
    | none => none

/-- Bounds of a slice expression, as numbers: low, high, and what is asked of them. -/
def bndOf (ρ : Operand → AV) (dflt : Nat) : Option Operand → Option (Int)
  | none => some dflt
  | some x => match ρ x with
    | .lf (.int _ n) => some n
    | _ => none

def maxApp : Nat := 70368744177664

/-- The constant nil of a slice type. -/
def isNil : Operand → Bool
  | .const (.slice none 0 0) => true
  | _ => false

def step (T : Tab) (ρ : Operand → AV) (rd : Nat → Option Blk) (o : Oper) : Option Out :=
  match o.op with
  | .move x | .assign x =>
    if isNil x then match T.esz o.type with
      | some sz => some { pre := True, v := .row (idOf o.dst 0) sz 0 0, mak := some ⟨sz, 0, [], 0⟩ }
      | none => none
    else some { pre := True, v := ρ x }
  | .pick c x y => match ρ c with
    | .lf (.bool b) => some { pre := True, v := if b then ρ x else ρ y }
    | _ => none
  | .alloc t => match T.td t with
    | some d => some { pre := True, v := .ad (idOf o.dst 0) 0, mak := some ⟨d.size, 1, d.zero, 1⟩ }
    | none => none
  | .box t x => match T.td t with
    | some d => match cellsOf T rd t (ρ x) with
      | some (ls, fz) => some { pre := ls.length = d.size, v := .ad (idOf o.dst 0) 0, frz := fz, mak := some ⟨d.size, 1, ls, 1⟩ }
      | none => none
    | none => none
  | .build t ps => match T.td t with
    | some d => match partsOf T rd ρ (fun f => (d.flds[f]?).map (·.2)) ps.toList with
      | some (qs, fz) => match fillP (fun f => (T.fld d f).map fun x => (x.1, x.2.size)) d.size qs d.zero with
        | some (cs, p) => some { pre := p ∧ d.agg = true ∧ d.flds ≠ [], v := .ag cs, frz := fz }
        | none => none
      | none => none
    | none => none
  | .buildSlice t n ps => match T.td t with
    | some d => match d.elem with
      | some e => match T.td e with
        | some de => match partsOf T rd ρ (fun _ => some e) ps.toList with
          | some (qs, fz) => match fillP (fun i => some (i * de.size, de.size)) (n * de.size) qs (List.replicate n de.zero).flatten with
            | some (cs, p) => some { pre := p ∧ n * de.size ≤ 16777216, v := .row (idOf o.dst 0) de.size 0 n, frz := fz, mak := some ⟨de.size, n, cs, 0⟩ }
            | none => none
          | none => none
        | none => none
      | none => none
    | none => none
  | .load t x => match T.td t with
    | some d => match ρ x with
      | .ad i p => match rd i with
        | some k => if k.st < 3 then some { pre := p + d.size ≤ k.n * k.sz, v := if d.agg then .ag (seg p d.size k.cs) else .lf (k.cs.getD p (d.zero.headD default)) } else none
        | none => none
      | .pt sz n cs p => some { pre := p + d.size ≤ n * sz, v := if d.agg then .ag (seg p d.size cs) else .lf (cs.getD p (d.zero.headD default)) }
      | _ => none
    | none => none
  | .store t x y => match T.td t with
    | some d => match ρ x with
      | .ad i p => match rd i with
        | some k => match cellsOf T rd t (ρ y) with
          | some (ls, fz) => if k.st < 2 ∧ fz.contains i = false then
              some { pre := p + d.size ≤ k.n * k.sz ∧ ls.length = d.size, v := .undef, frz := fz, upd := some (i, { k with cs := splice p ls k.cs }) } else none
          | none => none
        | none => none
      | _ => none
    | none => none
  | .fieldAddr t x f => match T.td t with
    | some d => match T.fld d f with
      | some (off, _) => match ρ x with
        | .ad i p => some { pre := True, v := .ad i (p + off) }
        | .pt sz n cs p => some { pre := True, v := .pt sz n cs (p + off) }
        | _ => none
      | none => none
    | none => none
  | .field t x f => match T.td t with
    | some d => match T.fld d f with
      | some (off, df) => match ρ x with
        | .ag ls => some { pre := off + df.size ≤ ls.length, v := if df.agg then .ag (seg off df.size ls) else .lf (ls.getD off (df.zero.headD default)) }
        | _ => none
      | none => none
    | none => none
  | .indexAddr t x ix => match T.esz t with
    | some sz => match ρ ix with
      | .lf (.int _ n) => match ρ x with
        | .row i sz' off len => if sz' = sz then some { pre := 0 ≤ n ∧ n < len, v := .ad i ((off + n.toNat) * sz) } else none
        | .lf (.sl sz' len cs) => if sz' = sz then some { pre := 0 ≤ n ∧ n < len, v := .pt sz len cs (n.toNat * sz) } else none
        | _ => none
      | _ => none
    | none => none
  | .slice t x lo hi mx => match T.esz t with
    | some sz => match ρ x with
      | .row i sz' off len => match bndOf ρ 0 lo, bndOf ρ len hi with
        | some l, some h => match mx with
          | none => if sz' = sz then some { pre := 0 ≤ l ∧ l ≤ h ∧ h ≤ len, v := .row i sz (off + l.toNat) (h.toNat - l.toNat) } else none
          | some m => match bndOf ρ 0 (some m) with
            | some m => if sz' = sz ∧ hi.isSome then some { pre := 0 ≤ l ∧ l ≤ h ∧ h ≤ m ∧ m ≤ len, v := .row i sz (off + l.toNat) (h.toNat - l.toNat) } else none
            | none => none
        | _, _ => none
      | .lf (.sl sz' len cs) => match bndOf ρ 0 lo, bndOf ρ len hi with
        | some l, some h => match mx with
          | none => if sz' = sz then some { pre := 0 ≤ l ∧ l ≤ h ∧ h ≤ len, v := .lf (.sl sz (h.toNat - l.toNat) (seg (l.toNat * sz) ((h.toNat - l.toNat) * sz) cs)) } else none
          | some m => match bndOf ρ 0 (some m) with
            | some m => if sz' = sz ∧ hi.isSome then some { pre := 0 ≤ l ∧ l ≤ h ∧ h ≤ m ∧ m ≤ len, v := .lf (.sl sz (h.toNat - l.toNat) (seg (l.toNat * sz) ((h.toNat - l.toNat) * sz) cs)) } else none
            | none => none
        | _, _ => none
      | _ => none
    | none => none
  | .makeSlice t n c => match T.td t with
    | some d => match d.elem with
      | some e => match T.td e with
        | some de => match ρ n, ρ c with
          | .lf (.int _ n), .lf (.int _ c) => some { pre := 0 ≤ n ∧ n ≤ c ∧ c * de.bytes ≤ maxApp ∧ 0 < de.bytes, v := .row (idOf o.dst 0) de.size 0 n.toNat, mak := some ⟨de.size, n.toNat, (List.replicate n.toNat de.zero).flatten, 0⟩ }
          | _, _ => none
        | none => none
      | none => none
    | none => none
  | .binOp op xt x y _ => match ρ x, ρ y with
    | .lf (.int k a), .lf (.int k' b) => match op with
      | .shl => some { pre := 0 ≤ b, v := .lf (.int k (k.wrap (a * 2 ^ min b.toNat k.bits))) }
      | .shr => some { pre := 0 ≤ b, v := .lf (.int k (a.fdiv (2 ^ min b.toNat k.bits))) }
      | _ => if k = k' then match binI op k a b with
        | some (p, l) => some { pre := p, v := .lf l }
        | none => none
        else none
    | .lf (.bool a), .lf (.bool b) => match T.td xt with
      | some d => if d.isB then match op with
        | .eql => some { pre := True, v := .lf (.bool (a == b)) }
        | .neq => some { pre := True, v := .lf (.bool (a != b)) }
        | _ => none
        else none
      | none => none
    | .ag lx, .ag ly => match T.td xt with
      | some d => if d.eqs then match T.eqv 5 xt lx ly with
        | some r => match op with
          | .eql => some { pre := True, v := .lf (.bool r) }
          | .neq => some { pre := True, v := .lf (.bool !r) }
          | _ => none
        | none => none
        else none
      | none => none
    | _, _ => none
  | .unOp op _ x => match op, ρ x with
    | .not, .lf (.bool b) => some { pre := True, v := .lf (.bool !b) }
    | .neg, .lf (.int k n) => some { pre := True, v := .lf (.int k (k.wrap (0 - n))) }
    | _, _ => none
  | .convert src dst x => match T.td src, T.td dst with
    | some _, some d => match d.ik, ρ x with
      | some k, .lf (.int _ n) => some { pre := True, v := .lf (.int k (k.wrap n)) }
      | _, _ => none
    | _, _ => none
  | .extract x i => match ρ x with
    | .tup vs => match vs[i]? with
      | some v => some { pre := True, v }
      | none => none
    | _ => none
  | .call { callee := .builtin .len, args, argTypes } => match args.toList, argTypes.toList with
    | [x], [t] => match T.esz t with
      | some _ => match ρ x with
        | .row _ _ _ len => some { pre := True, v := .lf (.int .i64 len) }
        | .lf (.sl _ len _) => some { pre := True, v := .lf (.int .i64 len) }
        | _ => none
      | none => none
    | _, _ => none
  | .call { callee := .builtin .max, args, argTypes := _ } => match args.toList with
    | [x, y] => match ρ x, ρ y with
      | .lf (.int k a), .lf (.int _ b) => some { pre := True, v := .lf (.int k (if b > a then b else a)) }
      | _, _ => none
    | _ => none
  | .call { callee := .builtin .min, args, argTypes := _ } => match args.toList with
    | [x, y] => match ρ x, ρ y with
      | .lf (.int k a), .lf (.int _ b) => some { pre := True, v := .lf (.int k (if b < a then b else a)) }
      | _, _ => none
    | _ => none
  | .call { callee := .builtin .append, args, argTypes } => match args.toList, argTypes.toList with
    | [x, y], [t, t'] => match T.td t with
      | some d => match d.elem with
        | some e => match T.td e with
          | some de => if t' = t ∧ 0 < de.bytes then match elemsOf rd de.size (ρ y) with
            | some (m, ys) => match (if isNil x then AV.nils else ρ x) with
              | .nils => some { pre := m * de.bytes ≤ maxApp, v := .row (idOf o.dst 0) de.size 0 m, mak := some ⟨de.size, m, ys, 0⟩ }
              | .row i sz' off len => match rd i with
                | some k => if sz' = de.size ∧ k.st = 0 ∧ 100 ≤ i then
                    some { pre := (len + m) * de.bytes ≤ maxApp, v := .row (idOf o.dst 0) de.size 0 (len + m), mak := some ⟨de.size, len + m, rowCells k off len ++ ys, 0⟩, upd := some (i, { k with st := 3 }) } else none
                | none => none
              | _ => none
            | none => none
            else none
          | none => none
        | none => none
      | none => none
    | _, _ => none
  | _ => none

end Go.Proofs.YtdhgdpcmdmgchaaGreat.Fw
