/- An executor of the model's code over values that are read as data and a small heap of the call's own; what it returns is what every run returns (AmCall). -/
import Derived.Orders
import Derived.LoopN
import Derived.Below
import Derived.Tactics2
set_option linter.unusedVariables false
namespace Go.AM
open Go

inductive V where
  | bool (b : Bool)
  | int (k : IntKind) (n : Int)
  | str (s : ByteArray)
  | nilp
  | nils
  | nilf
  | undef
  | ptr (b L i o : Nat)
  | sl (z b L o n : Nat)
  | tsl (z : Nat) (es : List (List V))
  | tptr (cs : List V) (o : Nat)
  | agg (cs : List V)
  | tup (cs : List V)
  | fn (f : FuncId) (caps : List V)
  | mp (b : Nat)
  deriving Inhabited

def V.cells : V → List V
  | .agg cs => cs
  | v => [v]
/-- the value of one cell -/
def V.cell : V → Bool
  | .agg _ | .tup _ | .undef => false
  | _ => true
/-- no reference to the call's own heap -/
def V.tree : V → Bool
  | .bool _ | .int _ _ | .str _ | .nilp | .nils | .nilf | .tsl _ _ | .tptr _ _ => true
  | .fn _ [] => true
  | _ => false
/-- no reference at all -/
def V.flat : V → Bool
  | .bool _ | .int _ _ | .str _ | .nilp | .nils | .nilf => true
  | _ => false

structure Blk where
  z : Nat
  es : List (List V)
  fz : Nat
  box : Bool
  flat : Bool
  deriving Inhabited
abbrev Heap := List Blk

inductive Opd where
  | t (n : Nat)
  | c (v : V)
  deriving Inhabited

inductive I where
  | mv (x : Opd)
  | pick (c a b : Opd)
  | box (ty : TypeId) (x : Opd)
  | build (zero : List V) (parts : List (Nat × Nat × Opd))
  | bsl (ty : TypeId) (z len : Nat) (zero : List V) (parts : List (Nat × Nat × Opd))
  | ld (n : Option Nat) (a : Opd)
  | st (n : Nat) (a x : Opd)
  | nilck (x : Opd)
  | bin (op : BinOp) (x y : Opd)
  | binb (neg : Bool) (x y : Opd)
  | isnil (ptr neg : Bool) (x : Opd)
  | eqa (ks : List Nat) (neg : Bool) (x y : Opd)
  | un (op : UnOp) (x : Opd)
  | conv (k : IntKind) (x : Opd)
  | mkfn (f : FuncId) (caps : List Opd)
  | mks (ty : TypeId) (z bytes : Nat) (zero : List V) (len cap : Opd)
  | slices (x : Opd) (lo hi : Option Opd)
  | slice (z : Nat) (x : Opd) (lo hi mx : Option Opd)
  | fadr (off : Nat) (x : Opd)
  | fld (n : Option Nat) (off : Nat) (x : Opd)
  | iadr (len : Option Nat) (z : Nat) (x i : Opd)
  | idxs (x i : Opd)
  | idxa (len z : Nat) (n : Option Nat) (x i : Opd)
  | len (str : Bool) (x : Opd)
  | app (ty : TypeId) (z bytes : Nat) (x y : Opd)
  | mm (isMin : Bool) (xs : List Opd)
  | call (f : Opd) (args : List Opd)
  | ext (x : Opd) (i : Nat)
  | mkm (ag : Bool) (z : Nat)
  | lku (kk : Option IntKind) (ag : Bool) (zero : V) (ok : Bool) (m k : Opd)
  | mup (kk : Option IntKind) (ag : Bool) (n : Nat) (m k x : Opd)
  deriving Inhabited

/-- an operation: where its result goes; its guard: the slot that is looked at, and what it must hold -/
structure O where
  dst : Option Nat
  g : Option (Nat × Bool)
  i : I
  deriving Inhabited

inductive C where
  | skip
  | reg (ops : List O)
  | drw (ops : List O) (anc : List Nat)
  | drx (alts : List (List O × List Nat))
  | seq (a b : C)
  | cond (c : Opd) (a b : C)
  | block (id : Nat) (a : C)
  | loop (live : List Nat) (a : C)
  | exit (id : Nat)
  | ret
  deriving Inhabited

inductive Rv where
  | t (n : Nat)
  | cl (n : Nat) (sz : Option Nat)
  deriving Inhabited

structure Fn where
  nt : Nat
  body : C
  res : List Rv
  deriving Inhabited

/-! ### From the model's code -/
def ofValue : Value → Option V
  | .bool b => some (.bool b)
  | .int k n => some (.int k n)
  | .string s => some (.str s)
  | .pointer none => some .nilp
  | .slice none 0 0 => some .nils
  | .nilFunc => some .nilf
  | _ => none
def ofValues : List Value → Option (List V)
  | [] => some []
  | v :: vs => (ofValue v).bind fun a => (ofValues vs).map (a :: ·)
def ofConst : Value → Option V
  | .agg cs => (ofValues cs.toList).map .agg
  | v => ofValue v
def compOpd : Operand → Option Opd
  | .tmp t => some (.t t)
  | .const v => (ofConst v).map .c
  | .func f => some (.c (.fn f []))
  | .global _ => none
def compOpds : List Operand → Option (List Opd)
  | [] => some []
  | x :: xs => (compOpd x).bind fun a => (compOpds xs).map (a :: ·)
def compOpt : Option Operand → Option (Option Opd)
  | none => some none
  | some x => (compOpd x).map some
def isAggD : TypeDesc → Bool
  | .struct _ | .array _ _ => true
  | _ => false
/-- how a variable of a type is loaded: all its cells, or one -/
def shapeOf (P : Program) (t : TypeId) : Option (Option Nat) :=
  (P.underlying t).bind fun d => (P.info? t).map fun i => if isAggD d then some i.size else none
def zeroOf (P : Program) (t : TypeId) : Option (List V) := (P.info? t).bind fun i => i.zero.bind fun z => (ofConst z).map V.cells
def sizeP (P : Program) (t : TypeId) : Option Nat := (P.info? t).map (·.size)
def bytesP (P : Program) (t : TypeId) : Option Nat := (P.info? t).map (·.bytes)
def compParts (place : Nat → Option (Nat × Nat)) : List (Nat × Operand) → Option (List (Nat × Nat × Opd))
  | [] => some []
  | (i, x) :: ps => (place i).bind fun (o, s) => (compOpd x).bind fun a => (compParts place ps).map ((o, s, a) :: ·)
/-- a number, a bool, a string -/
def scOf : TypeDesc → Option Nat
  | .int _ => some 0
  | .bool => some 1
  | .string => some 2
  | _ => none
def plainFs (P : Program) : Nat → List Field → Option (List Nat)
  | _, [] => some []
  | i, f :: fs => if f.offset = i && f.name != "_" then (P.underlying f.type).bind fun d => (scOf d).bind fun k => (plainFs P (i + 1) fs).map (k :: ·) else none
/-- a struct or an array of numbers, bools and strings, none of which has a name '_' or is stood in for: which -/
def plainAgg (P : Program) (t : TypeId) : Option (List Nat) :=
  match P.underlying t with
  | some (.struct fs) => if P.stoodInHeld t then none else plainFs P 0 fs.toList
  | some (.array n e) => (P.underlying e).bind fun d => (scOf d).bind fun k => if sizeP P e = some 1 then some (List.replicate n k) else none
  | _ => none

/-- keys that are numbers (of which kind) or strings -/
def scKey (P : Program) (t : TypeId) : Option (Option IntKind) := match P.underlying t with
  | some (.int k) => some (some k)
  | some .string => some none
  | _ => none
def zeroVOf (P : Program) (t : TypeId) : Option V := (P.info? t).bind fun i => i.zero.bind fun z => ofConst z
def compOp (P : Program) (op : Op) : Option I :=
  match op with
  | .move x | .assign x => (compOpd x).map .mv
  | .pick c a b => (compOpd c).bind fun c => (compOpd a).bind fun a => (compOpd b).map fun b => .pick c a b
  | .box t x => (compOpd x).map (.box t)
  | .alloc t => (P.info? t).bind fun i => i.zero.bind fun z => (ofConst z).map fun v => .box t (.c v)
  | .build t ps =>
    match P.underlying t with
    | some (.struct fs) => if !fs.all (fun f => (P.info? f.type).isSome) then none else (zeroOf P t).bind fun z => (compParts (fun i => (fs[i]?).bind fun f => (sizeP P f.type).map fun s => (f.offset, s)) ps.toList).map fun ps =>
        .build z ps
    | some (.array _ e) => (zeroOf P t).bind fun z => (sizeP P e).bind fun s => (compParts (fun i => some (i * s, s)) ps.toList).map fun ps => .build z ps
    | _ => none
  | .buildSlice t len ps =>
    match P.underlying t with
    | some (.slice e) => (sizeP P e).bind fun s => (zeroOf P e).bind fun z =>
        if s = 0 || z.length != s || len * s > 2 ^ 24 then none else (compParts (fun i => some (i * s, s)) ps.toList).map fun ps => .bsl e s len z ps
    | _ => none
  | .load t a => (shapeOf P t).bind fun n => (compOpd a).map (.ld n)
  | .store t a x => (sizeP P t).bind fun n => (compOpd a).bind fun a => (compOpd x).map fun x => .st n a x
  | .nilCheck x => (compOpd x).map .nilck
  | .binOp op t x y _ =>
    (compOpd x).bind fun a => (compOpd y).bind fun b =>
      match P.underlying t with
      | some (.int _) | some .string => some (.bin op a b)
      | some .bool => (match op with | .eql => some (.binb false a b) | .neq => some (.binb true a b) | _ => none)
      | some (.slice _) => (match op, y with
        | .eql, .const (.slice none 0 0) => some (.isnil false false a)
        | .neq, .const (.slice none 0 0) => some (.isnil false true a)
        | _, _ => none)
      | some (.pointer _) => (match op, y with
        | .eql, .const (.pointer none) => some (.isnil true false a)
        | .neq, .const (.pointer none) => some (.isnil true true a)
        | _, _ => none)
      | some (.struct _) | some (.array _ _) => (plainAgg P t).bind fun n => (match op with | .eql => some (.eqa n false a b) | .neq => some (.eqa n true a b) | _ => none)
      | _ => none
  | .unOp op _ x => (match op with | .neg | .not => (compOpd x).map (.un op) | _ => none)
  | .convert s d x => match P.underlying s, P.underlying d with
    | some (.int _), some (.int k) => (compOpd x).map (.conv k)
    | _, _ => none
  | .makeFunc (.func f) first caps => if first.isEmpty then (compOpds caps.toList).map (.mkfn f) else none
  | .makeSlice t l c =>
    match P.underlying t with
    | some (.slice e) => (sizeP P e).bind fun s => (bytesP P e).bind fun b => (zeroOf P e).bind fun z => (compOpd l).bind fun l => (compOpd c).bind fun c =>
        if s = 0 || z.length != s then none else some (.mks e s b z l c)
    | _ => none
  | .slice t x lo hi mx =>
    match P.underlying t, mx with
    | some .string, none => (compOpd x).bind fun x => (compOpt lo).bind fun lo => (compOpt hi).map fun hi => .slices x lo hi
    | some (.slice e), mx => (sizeP P e).bind fun z => (compOpd x).bind fun x => (compOpt lo).bind fun lo => (compOpt hi).bind fun hi => (compOpt mx).map fun mx => .slice z x lo hi mx
    | _, _ => none
  | .fieldAddr t x f =>
    match P.underlying t with
    | some (.struct fs) => (fs[f]?).bind fun f => (sizeP P f.type).bind fun s => (compOpd x).bind fun x => if s = 0 then none else some (.fadr f.offset x)
    | _ => none
  | .field t x f =>
    match P.underlying t with
    | some (.struct fs) => (fs[f]?).bind fun f => (shapeOf P f.type).bind fun n => (compOpd x).map fun x => .fld n f.offset x
    | _ => none
  | .indexAddr t x i =>
    match P.underlying t with
    | some (.slice e) => (sizeP P e).bind fun s => (compOpd x).bind fun x => (compOpd i).bind fun i => if s = 0 then none else some (.iadr none s x i)
    | some (.array n e) => (sizeP P e).bind fun s => (compOpd x).bind fun x => (compOpd i).bind fun i => if s = 0 then none else some (.iadr (some n) s x i)
    | _ => none
  | .index t x i =>
    match P.underlying t with
    | some .string => (compOpd x).bind fun x => (compOpd i).map fun i => .idxs x i
    | some (.array n e) => (sizeP P e).bind fun s => (shapeOf P e).bind fun sh => (compOpd x).bind fun x => (compOpd i).map fun i => .idxa n s sh x i
    | _ => none
  | .extract x i => (compOpd x).map fun x => .ext x i
  | .makeMap t none =>
    match P.underlying t with
    | some (.map _ e) => (sizeP P e).bind fun n => (shapeOf P e).map fun sh => .mkm sh.isSome (n + 1)
    | _ => none
  | .lookup t x i ok =>
    match P.underlying t with
    | some (.map k e) => (scKey P k).bind fun kk => (shapeOf P e).bind fun sh => (zeroVOf P e).bind fun z => (compOpd x).bind fun x => (compOpd i).map fun i => .lku kk sh.isSome z ok x i
    | _ => none
  | .mapUpdate t m k x =>
    match P.underlying t with
    | some (.map kt e) => (scKey P kt).bind fun kk => (sizeP P e).bind fun n => (shapeOf P e).bind fun sh => (compOpd m).bind fun m => (compOpd k).bind fun k => (compOpd x).map fun x => .mup kk sh.isSome n m k x
    | _ => none
  | .call c =>
    match c.callee with
    | .value f => (compOpd f).bind fun f => (compOpds c.args.toList).map fun as => .call f as
    | .builtin .len => match c.args.toList, (c.argTypes[0]?).bind P.underlying with
      | [x], some .string => (compOpd x).map (.len true)
      | [x], some (.slice _) => (compOpd x).map (.len false)
      | _, _ => none
    | .builtin .append => match c.args.toList, c.argTypes.toList with
      | [x, y], [t, u] => if t ≠ u then none else (match P.underlying t, P.underlying u with
        | some (.slice e), some (.slice _) => (sizeP P e).bind fun s => (bytesP P e).bind fun b => (zeroOf P e).bind fun z => (compOpd x).bind fun x => (compOpd y).bind fun y =>
            if s = 0 || z.length != s || b = 0 then none else some (.app e s b x y)
        | _, _ => none)
      | _, _ => none
    | .builtin .min => (compOpds c.args.toList).map (.mm true)
    | .builtin .max => (compOpds c.args.toList).map (.mm false)
    | _ => none
  | _ => none

/-- what must have come up before each operation: all that it waits for, directly or through others (the bits of a number) -/
def ancStep (acc : List Nat) (o : Oper) : List Nat :=
  acc ++ [(o.after.toList.filter (fun e => Region.binds .any e)).foldl (fun s e => (2 ^ e.on ||| acc.getD e.on 0) ||| s) 0]
def ancOf (ops : List Oper) : List Nat := ops.foldl ancStep []

def compGuard (ops : List Oper) : Option (Nat × Bool) → Option (Option (Nat × Bool))
  | none => some none
  | some (j, b) => (ops[j]?).bind fun o => o.dst.map fun d => some (d, b)
def compOper (P : Program) (ops : List Oper) (o : Oper) : Option O :=
  (compGuard ops o.guard).bind fun g => (compOp P o.op).map fun i => ⟨o.dst, g, i⟩
def compOps (P : Program) (ops : List Oper) : List Oper → Option (List O)
  | [] => some []
  | o :: os => (compOper P ops o).bind fun a => (compOps P ops os).map (a :: ·)
def cmpA (anc : List Nat) (i j : Nat) : Bool := (anc.getD i 0).testBit j || (anc.getD j 0).testBit i
/-! ### What a drawn region must keep -/
def Opd.reads : Opd → List Nat
  | .t n => [n]
  | .c _ => []
def optReads : Option Opd → List Nat
  | some x => x.reads
  | none => []
def I.reads : I → List Nat
  | .mv x | .box _ x | .nilck x | .isnil _ _ x | .un _ x | .conv _ x | .fadr _ x | .fld _ _ x | .len _ x | .ext x _ | .ld _ x => x.reads
  | .pick a b c => a.reads ++ b.reads ++ c.reads
  | .build _ ps | .bsl _ _ _ _ ps => ps.flatMap fun p => p.2.2.reads
  | .st _ x y | .bin _ x y | .binb _ x y | .eqa _ _ x y | .mks _ _ _ _ x y | .iadr _ _ x y | .idxs x y | .idxa _ _ _ x y | .app _ _ _ x y => x.reads ++ y.reads
  | .mkfn _ cs => cs.flatMap Opd.reads
  | .slices x lo hi => x.reads ++ optReads lo ++ optReads hi
  | .slice _ x lo hi mx => x.reads ++ optReads lo ++ optReads hi ++ optReads mx
  | .mm _ xs => xs.flatMap Opd.reads
  | .call x as => x.reads ++ as.flatMap Opd.reads
  | .mkm _ _ => []
  | .lku _ _ _ _ m k => m.reads ++ k.reads
  | .mup _ _ _ m k x => m.reads ++ k.reads ++ x.reads
def O.reads (o : O) : List Nat := (match o.g with | some (d, _) => [d] | none => []) ++ o.i.reads
/-- for one operation i: each other one's slot is another; if i reads it, the two come in an order -/
def drawOne (anc : List Nat) (i : Nat) (dst : Option Nat) (rs : List Nat) : Nat → List O → Bool
  | _, [] => true
  | j, o :: os => (j == i || (match o.dst with
      | none => true
      | some t => dst != some t && (!rs.contains t || cmpA anc i j))) && drawOne anc i dst rs (j + 1) os
def drawGo (anc : List Nat) (ops : List O) : Nat → List O → Bool
  | _, [] => true
  | i, o :: os => decide (anc.getD i 0 < 2 ^ i) && drawOne anc i o.dst o.reads 0 ops && drawGo anc ops (i + 1) os
/-- makes or writes memory, or calls -/
def I.heavy : I → Bool
  | .box _ _ | .bsl _ _ _ _ _ | .st _ _ _ | .mks _ _ _ _ _ _ | .app _ _ _ _ _ | .call _ _ | .ld _ (.c _) | .mkm _ _ | .lku _ _ _ _ _ _ | .mup _ _ _ _ _ _ => true
  | _ => false
/-- what makes or writes memory comes in an order -/
def serialOk (ops : List O) (anc : List Nat) : Bool :=
  (List.range ops.length).all fun i => (List.range ops.length).all fun j => j == i || !(ops.getD i default).i.heavy || !(ops.getD j default).i.heavy || cmpA anc i j
/-- each slot is written once; who reads it comes before or behind who writes it -/
def drawOk (ops : List O) (anc : List Nat) : Bool := drawGo anc ops 0 ops && serialOk ops anc
/-! Drawn regions in which what makes memory comes in no order: in each order that may be. -/
def perms : List Nat → List (List Nat)
  | [] => [[]]
  | x :: xs => (perms xs).flatMap fun p => (List.range (p.length + 1)).map fun k => p.take k ++ x :: p.drop k
def hvy (ops : List O) (i : Nat) : Bool := (ops.getD i default).i.heavy
def heavyIdx (ops : List O) : List Nat := (List.range ops.length).filter (hvy ops)
/-- comes before in this order -/
def befo (τ : List Nat) (h' h : Nat) : Bool := (τ.takeWhile (· != h)).contains h'
/-- i waits for j, in this order of what is heavy -/
def needs (anc τ : List Nat) (i j : Nat) : Bool := (anc.getD i 0).testBit j || τ.any fun h => (i == h || (anc.getD i 0).testBit h) && τ.any fun h' => befo τ h' h && (j == h' || (anc.getD h' 0).testBit j)
def lineGo (n : Nat) (anc τ : List Nat) : Nat → List Nat → List Nat
  | 0, acc => acc
  | k + 1, acc => match (List.range n).find? (fun i => !acc.contains i && (List.range n).all fun j => !needs anc τ i j || acc.contains j) with
    | some i => lineGo n anc τ k (acc ++ [i])
    | none => acc
def lineUp (n : Nat) (anc τ : List Nat) : List Nat := lineGo n anc τ n []
def maskOf (anc τ π : List Nat) (i : Nat) : Nat := ((List.range π.length).filter fun q => needs anc τ i (π.getD q 0)).foldl (fun s q => s ||| 2 ^ q) 0
def altOps (ops : List O) (π : List Nat) : List O := π.map fun i => ops.getD i default
def altAnc (anc τ π : List Nat) : List Nat := π.map (maskOf anc τ π)
def altOk (ops : List O) (anc τ : List Nat) : Bool :=
  let π := lineUp ops.length anc τ
  π.length == ops.length && (List.range ops.length).all (fun i => π.contains i) && (List.range ops.length).all (fun p => (List.range ops.length).all fun q => p == q || π.getD p 0 != π.getD q 0) && π.all (fun i => decide (i < ops.length)) && τ.all (fun h => decide (h < ops.length) && hvy ops h) && drawOk (altOps ops π) (altAnc anc τ π) &&
    (List.range ops.length).all fun p => (List.range ops.length).all fun q => !((altAnc anc τ π).getD p 0).testBit q || needs anc τ (π.getD p 0) (π.getD q 0)
/-- whatever heavy operation comes next, one of the orders has it there -/
def linsOk (ops : List O) (anc : List Nat) (lins : List (List Nat)) : Bool := lins.all fun τ => (List.range (τ.length + 1)).all fun k => (heavyIdx ops).all fun i =>
  (τ.take k).contains i || (heavyIdx ops).any (fun j => (anc.getD i 0).testBit j && !(τ.take k).contains j) || lins.any fun τ' => (τ.take k ++ [i]).isPrefixOf τ'
def orders (ops : List O) (anc : List Nat) : List (List Nat) := (perms (heavyIdx ops)).filter fun τ => (heavyIdx ops).all fun i => (heavyIdx ops).all fun j => !(anc.getD i 0).testBit j || befo τ j i
def drawAlts (ops : List O) (anc : List Nat) : Option (List (List O × List Nat)) :=
  if (heavyIdx ops).length ≤ 4 then
    if (List.range ops.length).all (fun i => decide (anc.getD i 0 < 2 ^ i)) && linsOk ops anc (orders ops anc) && (orders ops anc).all (altOk ops anc) && !(orders ops anc).isEmpty then
      some ((orders ops anc).map fun τ => (altOps ops (lineUp ops.length anc τ), altAnc anc τ (lineUp ops.length anc τ)))
    else none
  else none
def firstId : Code → Nat
  | .region id _ _ => id
  | .seq a _ => firstId a
  | .block _ a => firstId a
  | .loop a => firstId a
  | .cond _ a _ => firstId a
  | _ => 0
def compC (P : Program) (hint : List (Nat × List Nat)) : Code → Option C
  | .skip => some .skip
  | .region _ ops draw => (compOps P ops.toList ops.toList).bind fun l => if draw then (if drawOk l (ancOf ops.toList) then some (.drw l (ancOf ops.toList)) else (drawAlts l (ancOf ops.toList)).map .drx) else some (.reg l)
  | .seq a b => (compC P hint a).bind fun a => (compC P hint b).map fun b => .seq a b
  | .cond c a b => (compOpd c).bind fun c => (compC P hint a).bind fun a => (compC P hint b).map fun b => .cond c a b
  | .block id a => (compC P hint a).map (.block id)
  | .loop a => (compC P hint a).map (.loop ((hint.find? (·.1 == firstId a)).map (·.2) |>.getD []))
  | .exit id => some (.exit id)
  | .ret => some .ret
  | _ => none
def compRv (P : Program) : ResultVar → Option Rv
  | .tmp t => some (.t t)
  | .cell a t => (shapeOf P t).map (.cl a)
def compRvs (P : Program) : List ResultVar → Option (List Rv)
  | [] => some []
  | r :: rs => (compRv P r).bind fun a => (compRvs P rs).map (a :: ·)
def compFn (P : Program) (hint : List (Nat × List Nat)) (f : Func) : Option Fn :=
  f.body.bind fun c => (compC P hint c).bind fun c => (compRvs P f.results.toList).map fun rs => ⟨f.ntmps, c, rs⟩

/-! ### References and their renaming -/
mutual
def V.refs : V → List Nat
  | .ptr b _ _ _ => [b]
  | .sl _ b _ _ _ => [b]
  | .agg cs => refsL cs
  | .tup cs => refsL cs
  | .fn _ cs => refsL cs
  | .mp b => [b]
  | _ => []
def refsL : List V → List Nat
  | [] => []
  | v :: vs => v.refs ++ refsL vs
end
mutual
def V.ren (g : Nat → Option Nat) : V → Option V
  | .ptr b L i o => (g b).map fun b => .ptr b L i o
  | .sl z b L o n => (g b).map fun b => .sl z b L o n
  | .agg cs => (renL g cs).map .agg
  | .tup cs => (renL g cs).map .tup
  | .fn f cs => (renL g cs).map (.fn f)
  | .mp b => (g b).map .mp
  | v => some v
def renL (g : Nat → Option Nat) : List V → Option (List V)
  | [] => some []
  | v :: vs => (v.ren g).bind fun a => (renL g vs).map (a :: ·)
end
def Blk.ren (g : Nat → Option Nat) (h : Blk) : Option Blk :=
  if h.box then match h.es with
    | [e] => (renL g e).map fun e => { h with es := [e] }
    | _ => none
  else some h
def renH (g : Nat → Option Nat) : Heap → Option Heap
  | [] => some []
  | h :: hs => (h.ren g).bind fun a => (renH g hs).map (a :: ·)
/-- the place of a number in a list -/
def place (ids : List Nat) (b : Nat) : Option Nat := ids.idxOf? b
/-- the blocks with these numbers, renamed -/
def pickH (H : Heap) (g : Nat → Option Nat) : List Nat → Option Heap
  | [] => some []
  | b :: ids => (H[b]?).bind fun h => (h.ren g).bind fun h => (pickH H g ids).map (h :: ·)
/-- what is reached from some references: through boxes -/
def reach (H : Heap) : Nat → List Nat → List Nat → List Nat
  | 0, acc, _ => acc
  | k + 1, acc, [] => acc
  | k + 1, acc, b :: todo =>
    if acc.contains b then reach H k acc todo
    else reach H k (acc ++ [b]) (todo ++ (match H[b]? with | some h => if h.box then (match h.es with | [e] => refsL e | _ => []) else [] | none => []))
/-- the references of the boxes among the first n blocks -/
def upRefs (H : Heap) (n : Nat) : List Nat := (H.take n).flatMap fun h => if h.box then (match h.es with | [e] => refsL e | _ => []) else []

/-! ### Snapshots -/
/-- a cell's value as a value without references; which blocks' first elements it reads -/
def V.snap1 (H : Heap) : V → Option (V × List (Nat × Nat))
  | .sl _ b L o n => (H[b]?).bind fun h => if h.es.length = L && !h.box && decide (o + n ≤ L) then some (.tsl h.z ((h.es.drop o).take n), [(b, o + n)]) else none
  | v => if v.tree then some (v, []) else none
def snapL (H : Heap) : List V → Option (List V × List (Nat × Nat))
  | [] => some ([], [])
  | v :: vs => (v.snap1 H).bind fun a => (snapL H vs).map fun r => (a.1 :: r.1, a.2 ++ r.2)
def V.snap (H : Heap) : V → Option (V × List (Nat × Nat))
  | .agg cs => (snapL H cs).map fun r => (.agg r.1, r.2)
  | v => v.snap1 H
def snapA (H : Heap) : List V → Option (List V × List (Nat × Nat))
  | [] => some ([], [])
  | v :: vs => (v.snap H).bind fun a => (snapA H vs).map fun r => (a.1 :: r.1, a.2 ++ r.2)
def freezeH : Heap → List (Nat × Nat) → Heap
  | H, [] => H
  | H, (b, m) :: l => freezeH (H.modify b fun h => { h with fz := max h.fz m }) l

/-! ### One operation -/
/-- what an operation does to the heap: new blocks alone; or a heap that is written, and which blocks of the old one may have been -/
inductive Eff where
  | new (l : List Blk)
  | upd (H : Heap) (ids : List Nat)
def Eff.heap (H : Heap) : Eff → Heap
  | .new l => H ++ l
  | .upd H' _ => H'
def Eff.frz (H : Heap) : List (Nat × Nat) → List Blk → Eff
  | [], l => .new l
  | fs, l => .upd (freezeH H fs ++ l) (fs.map (·.1))

def ev (fr : List V) : Opd → V
  | .t n => fr.getD n .undef
  | .c v => v
def evs (fr : List V) : List Opd → List V
  | [] => []
  | x :: xs => ev fr x :: evs fr xs

def fillV (cells : List V) : List (Nat × Nat × V) → Option (List V)
  | [] => some cells
  | (o, s, v) :: ps => if v.cells.length = s && decide (o + s ≤ cells.length) && v.cells.all V.cell then fillV (cells.take o ++ v.cells ++ cells.drop (o + s)) ps else none
def chunk (z : Nat) : Nat → List V → List (List V)
  | 0, _ => []
  | n + 1, l => l.take z :: chunk z n (l.drop z)

def intBin (op : BinOp) (k : IntKind) (a b : Int) : Option V :=
  match op with
  | .add => some (.int k (k.wrap (a + b)))
  | .sub => some (.int k (k.wrap (a - b)))
  | .mul => some (.int k (k.wrap (a * b)))
  | .quo => if b = 0 then none else some (.int k (k.wrap (a.tdiv b)))
  | .rem => if b = 0 then none else some (.int k (a.tmod b))
  | .and => some (.int k (k.wrap (BitVec.ofInt k.bits a &&& BitVec.ofInt k.bits b).toNat))
  | .or => some (.int k (k.wrap (BitVec.ofInt k.bits a ||| BitVec.ofInt k.bits b).toNat))
  | .xor => some (.int k (k.wrap (BitVec.ofInt k.bits a ^^^ BitVec.ofInt k.bits b).toNat))
  | .andNot => some (.int k (k.wrap (BitVec.ofInt k.bits a &&& ~~~BitVec.ofInt k.bits b).toNat))
  | .eql => some (.bool (decide (a = b)))
  | .neq => some (.bool (!decide (a = b)))
  | .lss => some (.bool (decide (a < b)))
  | .leq => some (.bool (decide (a ≤ b)))
  | .gtr => some (.bool (decide (b < a)))
  | .geq => some (.bool (decide (b ≤ a)))
  | _ => none
def shiftBin (op : BinOp) (k : IntKind) (a b : Int) : Option V :=
  if b < 0 then none else match op with
  | .shl => some (.int k (k.wrap (a * 2 ^ (min b.toNat k.bits))))
  | .shr => some (.int k (a.fdiv (2 ^ (min b.toNat k.bits))))
  | _ => none
def isShift : BinOp → Bool
  | .shl | .shr => true
  | _ => false
def strBin (op : BinOp) (a b : ByteArray) : Option V :=
  match op with
  | .add => if ((a.size + b.size : Nat) : Int) > IntKind.i64.max then none else some (.str (a ++ b))
  | .eql => some (.bool (decide (a = b)))
  | .neq => some (.bool (!decide (a = b)))
  | .lss => some (.bool (Op.bytesLess a.toList b.toList))
  | _ => none
def binV (op : BinOp) : V → V → Option V
  | .int k a, .int k' b => if isShift op then shiftBin op k a b else if k = k' then intBin op k a b else none
  | .str a, .str b => strBin op a b
  | _, _ => none
def isnilV (ptr : Bool) : V → Option Bool
  | .nils => if ptr then none else some true
  | .sl _ _ _ _ _ => if ptr then none else some false
  | .tsl _ _ => if ptr then none else some false
  | .nilp => if ptr then some true else none
  | .ptr _ _ _ _ => if ptr then some false else none
  | .tptr _ _ => if ptr then some false else none
  | _ => none
/-- numbers, bools, strings -/
def eqV : Nat → V → V → Option Bool
  | 0, .int k a, .int k' b => if k = k' then some (decide (a = b)) else none
  | 1, .bool a, .bool b => some (a == b)
  | 2, .str a, .str b => some (decide (a = b))
  | _, _, _ => none
def eqL : List Nat → List V → List V → Option Bool
  | [], [], [] => some true
  | k :: ks, a :: as, b :: bs => (eqV k a b).bind fun r => (eqL ks as bs).map fun s => r && s
  | _, _, _ => none
def mm2 (isMin : Bool) : V → V → Option V
  | .int k a, .int _ b => some (.int k (if isMin then (if b < a then b else a) else (if a < b then b else a)))
  | _, _ => none
def mmL (isMin : Bool) : V → List V → Option V
  | v, [] => some v
  | v, u :: us => (mm2 isMin v u).bind fun r => mmL isMin r us

/-- one cell of a row, or m of them -/
def cutV : Option Nat → Nat → List V → Option V
  | none, o, e => e[o]?
  | some m, o, e => if o + m ≤ e.length then some (.agg ((e.drop o).take m)) else none
def ldPl (H : Heap) (n : Option Nat) : V → Option V
  | .ptr b L i o => (H[b]?).bind fun h => if h.es.length = L then (h.es[i]?).bind fun e => cutV n o e else none
  | .tptr e o => cutV n o e
  | _ => none
def stPl (H : Heap) (n : Nat) (a x : V) : Option Eff :=
  match a with
  | .ptr b L i o => (H[b]?).bind fun h =>
      if h.es.length = L && x.cells.length = n && decide (h.fz ≤ i) then (h.es[i]?).bind fun e =>
        if o + n ≤ e.length && x.cells.all V.cell then
          if h.box then some (.upd (H.set b { h with es := h.es.set i (e.take o ++ x.cells ++ e.drop (o + n)), flat := h.flat && x.cells.all V.flat }) [b])
          else (snapL H x.cells).bind fun r => if r.2.any (·.1 == b) then none else
            some (.upd ((freezeH H r.2).set b { h with es := h.es.set i (e.take o ++ r.1 ++ e.drop (o + n)), flat := h.flat && r.1.all V.flat }) (b :: r.2.map (·.1)))
        else none
      else none
  | _ => none
/-- the elements of a slice, to be appended -/
def elemsOf (H : Heap) (z : Nat) : V → Option (List (List V))
  | .nils => some []
  | .tsl z' es => if z' = z then some es else none
  | .sl _ b L o n => (H[b]?).bind fun h => if h.es.length = L && !h.box && h.z = z && decide (o + n ≤ L) then some ((h.es.drop o).take n) else none
  | _ => none
def roomB (n bytes : Nat) : Bool := decide (n * bytes ≤ 140737488351232) && decide (n ≤ 140737488351232)
def appV (H : Heap) (ty : TypeId) (z bytes : Nat) (x y : V) : Option (V × Eff) :=
  (elemsOf H z y).bind fun ys =>
  match x with
  | .nils => if ys.isEmpty then some (.nils, .new []) else
      if roomB ys.length bytes then some (.sl z H.length ys.length 0 ys.length, .new [{ z := z, es := ys, fz := 0, box := false, flat := ys.all (·.all V.flat) }]) else none
  | .sl _ b L 0 n => (H[b]?).bind fun h =>
      if h.es.length = L && !h.box && h.z = z && decide (n ≤ L) && decide (h.fz ≤ n) && roomB (n + ys.length) bytes then
        if ys.isEmpty then some (.sl z b L 0 n, .new [])
        else if n + ys.length ≤ L then none
        else
          let es := h.es.take n ++ ys ++ h.es.drop (n + ys.length)
          some (.sl z b es.length 0 (n + ys.length), .upd (H.set b { h with es := es, flat := h.flat && ys.all (·.all V.flat) }) [b])
      else none
  | _ => none
def loI : Option V → Option Int
  | none => some 0
  | some (.int _ n) => some n
  | _ => none
def hiI (n : Nat) : Option V → Option Int
  | none => some (n : Int)
  | some (.int _ h) => some h
  | _ => none
def sliceS (x : V) (lo hi : Option V) : Option V :=
  match x with
  | .str s => (loI lo).bind fun l => (hiI s.size hi).bind fun h => if 0 ≤ l && l ≤ h && h ≤ (s.size : Int) then some (.str (s.extract l.toNat h.toNat)) else none
  | _ => none
/-- a third bound, not above the length -/
def mxOk (hi : Bool) (h : Int) (n : Nat) : Option V → Bool
  | none => true
  | some (.int _ m) => hi && decide (h ≤ m) && decide (m ≤ (n : Int))
  | _ => false
def sliceV (z : Nat) (x : V) (lo hi mx : Option V) : Option V :=
  match x with
  | .nils => (loI lo).bind fun l => (hiI 0 hi).bind fun h => if l = 0 && h = 0 && mxOk hi.isSome h 0 mx then some .nils else none
  | .sl z' b L o n => (loI lo).bind fun l => (hiI n hi).bind fun h =>
      if z' = z && 0 ≤ l && l ≤ h && h ≤ (n : Int) && mxOk hi.isSome h n mx then some (if l = h && l ≠ 0 then .tsl z [] else .sl z b L (o + l.toNat) (h.toNat - l.toNat)) else none
  | .tsl z' es => (loI lo).bind fun l => (hiI es.length hi).bind fun h =>
      if z' = z && 0 ≤ l && l ≤ h && h ≤ (es.length : Int) && mxOk hi.isSome h es.length mx then some (.tsl z ((es.drop l.toNat).take (h.toNat - l.toNat))) else none
  | _ => none

/-- a call: the function, its arguments, the blocks that it is handed; its result, these blocks and new ones, whether the old ones may have been written -/
abbrev CallT := FuncId → List V → Heap → Option (V × Heap × Bool)
/-- nothing in it reads frozen memory -/
def nt1 : V → Bool
  | .sl _ _ _ _ _ => true
  | v => v.flat
def nt2 : V → Bool
  | .agg cs => cs.all nt1
  | v => nt1 v
def nt3 : V → Bool
  | .tup vs => vs.all nt2
  | v => nt2 v
def flatH (l : List Blk) : Bool := l.all fun h => !h.box && h.flat
/-- a block's new number: one of those handed over, or a new one -/
def backG (ids : List Nat) (n : Nat) (i : Nat) : Option Nat := some (if i < ids.length then ids.getD i 0 else n + (i - ids.length))
def putBack (Hn : Heap) : Nat → List Nat → Heap → Heap
  | _, [], H => H
  | i, b :: ids, H => putBack Hn (i + 1) ids (H.set b (Hn.getD i default))

def callV (call : CallT) (pure : FuncId → Bool) (H : Heap) (f : FuncId) (args : List V) : Option (V × Eff) :=
  if pure f then
    (snapA H args).bind fun s => (call f s.1 []).bind fun r =>
      (r.1.ren (backG [] H.length)).bind fun v' => (renH (backG [] H.length) r.2.1).map fun l' =>
        (v', if nt3 r.1 && flatH r.2.1 then .new l' else .frz H s.2 l')
  else
    let ids := reach H 50 [] (refsL args)
    (renL (place ids) args).bind fun as => (pickH H (place ids) ids).bind fun Hs => (call f as Hs).bind fun r =>
      (r.1.ren (backG ids H.length)).bind fun v' => (renH (backG ids H.length) r.2.1).map fun Hn =>
        (v', if r.2.2 then .upd (putBack Hn 0 ids H ++ Hn.drop ids.length) ids else .new (Hn.drop ids.length))

/-- a key of the kind -/
def keyIs (kk : Option IntKind) : V → Bool
  | .int k _ => kk == some k
  | .str _ => kk == none
  | _ => false
/-- are two keys the same -/
def keyEq (kk : Option IntKind) : V → V → Option Bool
  | .int k a, .int k' b => if kk = some k ∧ kk = some k' then some (decide (a = b)) else none
  | .str a, .str b => if kk = none then some (decide (a = b)) else none
  | _, _ => none
/-- where a key stands, and what it leads to -/
def findR (kk : Option IntKind) (k : V) : List (List V) → Nat → Option (Option (Nat × List V))
  | [], _ => some none
  | (c :: vs) :: es, i => (keyEq kk k c).bind fun b => if b then some (some (i, vs)) else findR kk k es (i + 1)
  | [] :: _, _ => none
/-- what is looked up in a map's rows (behind the first, which stands for none) -/
def valM (ag : Bool) (vs : List V) : Option V := if ag then some (.agg vs) else match vs with
  | [v] => some v
  | _ => none
def lkV (kk : Option IntKind) (ag : Bool) (zero : V) (ok : Bool) (k : V) (es : List (List V)) : Option V :=
  (findR kk k es 0).bind fun r => (match r with
    | some (_, vs) => valM ag vs
    | none => some zero).map fun v => if ok then .tup [v, .bool r.isSome] else v
def upM (kk : Option IntKind) (k : V) (cs : List V) (es : List (List V)) : Option (List (List V)) :=
  (findR kk k es 0).map fun r => match r with
    | some (i, _) => es.set i (k :: cs)
    | none => es ++ [k :: cs]
/-- the cells of a map's value -/
def celM (ag : Bool) (n : Nat) : V → Option (List V)
  | .agg cs => if ag && cs.length == n then some cs else none
  | v => if ag then none else some [v]

def execI (call : CallT) (pure : FuncId → Bool) (fr : List V) (H : Heap) : I → Option (V × Eff)
  | .mv x => some (ev fr x, .new [])
  | .pick c a b => match ev fr c with
    | .bool t => some (if t then ev fr a else ev fr b, .new [])
    | _ => none
  | .box _ x =>
    let cs := (ev fr x).cells
    if cs.all V.cell then some (.ptr H.length 1 0 0, .new [{ z := cs.length, es := [cs], fz := 0, box := true, flat := cs.all V.flat }]) else none
  | .build zero ps => (fillV zero (ps.map fun p => (p.1, p.2.1, ev fr p.2.2))).bind fun cs => if cs.all V.cell then some (.agg cs, .new []) else none
  | .bsl _ z len zero ps => (fillV ((List.replicate len zero).flatten) (ps.map fun p => (p.1, p.2.1, ev fr p.2.2))).bind fun cs =>
      if cs.all V.cell then (snapL H cs).map fun r => (.sl z H.length len 0 len, .frz H r.2 [{ z := z, es := chunk z len r.1, fz := 0, box := false, flat := r.1.all V.flat }]) else none
  | .ld n a => (ldPl H n (ev fr a)).map fun v => (v, .new [])
  | .st n a x => (stPl H n (ev fr a) (ev fr x)).map fun e => (.undef, e)
  | .nilck x => match ev fr x with
    | .ptr b L i o => some (.ptr b L i o, .new [])
    | .tptr cs o => some (.tptr cs o, .new [])
    | .fn f [] => some (.fn f [], .new [])
    | .fn f caps => some (.fn f caps, .new [])
    | _ => none
  | .bin op x y => (binV op (ev fr x) (ev fr y)).map fun v => (v, .new [])
  | .binb neg x y => match ev fr x, ev fr y with
    | .bool a, .bool b => some (.bool ((a == b) != neg), .new [])
    | _, _ => none
  | .isnil p neg x => (isnilV p (ev fr x)).map fun b => (.bool (b != neg), .new [])
  | .eqa ks neg x y => match ev fr x, ev fr y with
    | .agg as, .agg bs => (eqL ks as bs).map fun b => (.bool (b != neg), .new [])
    | _, _ => none
  | .un op x => match op, ev fr x with
    | .neg, .int k n => some (.int k (k.wrap (0 - n)), .new [])
    | .not, .bool b => some (.bool (!b), .new [])
    | _, _ => none
  | .conv k x => match ev fr x with
    | .int _ n => some (.int k (k.wrap n), .new [])
    | _ => none
  | .mkfn f caps =>
    let cs := evs fr caps
    if cs.all V.cell then some (.fn f cs, .new []) else none
  | .mks _ z bytes zero l c => match ev fr l, ev fr c with
    | .int .i64 l, .int .i64 c => if 0 ≤ l && l = c && roomB l.toNat bytes then
        some (.sl z H.length l.toNat 0 l.toNat, .new [{ z := z, es := List.replicate l.toNat zero, fz := 0, box := false, flat := zero.all V.flat }]) else none
    | _, _ => none
  | .slices x lo hi => (sliceS (ev fr x) (lo.map (ev fr)) (hi.map (ev fr))).map fun v => (v, .new [])
  | .slice z x lo hi mx => (sliceV z (ev fr x) (lo.map (ev fr)) (hi.map (ev fr)) (mx.map (ev fr))).map fun v => (v, .new [])
  | .fadr off x => match ev fr x with
    | .ptr b L i o => some (.ptr b L i (o + off), .new [])
    | .tptr cs o => some (.tptr cs (o + off), .new [])
    | _ => none
  | .fld n off x => match ev fr x with
    | .agg cs => (cutV n off cs).map fun v => (v, .new [])
    | _ => none
  | .iadr len z x i => match ev fr i with
    | .int _ n => if n < 0 then none else match len, ev fr x with
      | none, .sl z' b L o m => if z' = z && n < m then some (.ptr b L (o + n.toNat) 0, .new []) else none
      | none, .tsl z' es => if z' = z then (es[n.toNat]?).map fun e => (.tptr e 0, .new []) else none
      | some m, .ptr b L i o => if n < m then some (.ptr b L i (o + n.toNat * z), .new []) else none
      | some m, .tptr cs o => if n < m then some (.tptr cs (o + n.toNat * z), .new []) else none
      | _, _ => none
    | _ => none
  | .idxs x i => match ev fr x, ev fr i with
    | .str s, .int _ n => if n < 0 then none else (s[n.toNat]?).map fun b => (.int .u8 b.toNat, .new [])
    | _, _ => none
  | .idxa m z n x i => match ev fr x, ev fr i with
    | .agg cs, .int _ j => if j < 0 || j ≥ m then none else (cutV n (j.toNat * z) cs).map fun v => (v, .new [])
    | _, _ => none
  | .len str x => match ev fr x with
    | .str s => if str then some (.int .i64 s.size, .new []) else none
    | .nils => if str then none else some (.int .i64 0, .new [])
    | .sl _ _ _ _ n => if str then none else some (.int .i64 n, .new [])
    | .tsl _ es => if str then none else some (.int .i64 es.length, .new [])
    | _ => none
  | .app ty z bytes x y => appV H ty z bytes (ev fr x) (ev fr y)
  | .mm isMin xs => match evs fr xs with
    | [] => none
    | v :: vs => (mmL isMin v vs).map fun v => (v, .new [])
  | .call f args => match ev fr f with
    | .fn f caps => callV call pure H f (evs fr args ++ caps)
    | _ => none
  | .ext x i => match ev fr x with
    | .tup vs => (vs[i]?).map fun v => (v, .new [])
    | _ => none
  | .mkm ag z => some (.mp H.length, .new [{ z := z, es := [List.replicate z (.bool ag)], fz := 0, box := false, flat := true }])
  | .lku kk ag zero ok m k => match ev fr m with
    | .mp b => (H[b]?).bind fun h => match h.es with
      | (.bool ag' :: _) :: es => if ag' = ag ∧ keyIs kk (ev fr k) = true then (lkV kk ag zero ok (ev fr k) es).map fun v => (v, .new []) else none
      | _ => none
    | _ => none
  | .mup kk ag n m k x => match ev fr m with
    | .mp b => (H[b]?).bind fun h => match h.es with
      | (.bool ag' :: e) :: es => (celM ag n (ev fr x)).bind fun cs =>
        if ag' = ag ∧ h.z = n + 1 ∧ cs.length = n ∧ cs.all V.tree = true ∧ keyIs kk (ev fr k) = true then
          (upM kk (ev fr k) cs es).map fun es => (.undef, .upd (H.set b { h with es := (.bool ag' :: e) :: es, flat := h.flat && cs.all V.flat }) [b])
        else none
      | _ => none
    | _ => none

/-! ### Code -/
structure St where
  fr : List V
  H : Heap
  d : Bool
  deriving Inhabited
inductive Ex where
  | normal
  | exit (id : Nat)
  | ret
  deriving Inhabited, DecidableEq

def putV (fr : List V) : Option Nat → V → List V
  | none, _ => fr
  | some d, v => fr.set d v
/-- is an operation wanted: its guard's slot holds a bool, or nothing, an operation having been left out -/
def wantedO (fr : List V) : Option (Nat × Bool) → Option Bool
  | none => some true
  | some (d, b) => match fr.getD d .undef with
    | .bool c => some (c == b)
    | .tup [] => some false
    | _ => none
def Eff.wr : Eff → Bool
  | .new _ => false
  | .upd _ _ => true
def Eff.grows (H : Heap) : Eff → Bool
  | .new _ => true
  | .upd H' _ => decide (H.length ≤ H'.length)
/-- an operation, or nothing where it is not wanted -/
def execV (call : CallT) (pure : FuncId → Bool) (o : O) (fr : List V) (H : Heap) : Option (V × Eff) :=
  (wantedO fr o.g).bind fun b => if b then (execI call pure fr H o.i).bind fun r => if r.2.grows H then some r else none else some (.tup [], .new [])
def execO (call : CallT) (pure : FuncId → Bool) (o : O) (s : St) : Option (St × Bool) :=
  (execV call pure o s.fr s.H).map fun r => (⟨putV s.fr o.dst r.1, r.2.heap s.H, s.d || r.2.wr⟩, r.2.wr)
def execOps (call : CallT) (pure : FuncId → Bool) : List O → St → Option St
  | [], s => some s
  | o :: os, s => (execO call pure o s).bind fun r => execOps call pure os r.1
/-- the block that a load looks at -/
def I.rdB (fr : List V) : I → List Nat
  | .ld _ x => match ev fr x with
    | .ptr b _ _ _ => [b]
    | _ => []
  | _ => []
/-- an operation's number, whether it wrote, the blocks that it wrote or looked at -/
abbrev Lg := Nat × Bool × List Nat
def lgE (i : Nat) (bs : List Nat) : Eff → List Lg
  | .upd _ ids => [(i, true, ids)]
  | .new _ => if bs.isEmpty then [] else [(i, false, bs)]
/-- the same, and what was written and looked at -/
def execOpsW (call : CallT) (pure : FuncId → Bool) : Nat → List O → St → Option (St × List Lg)
  | _, [], s => some (s, [])
  | i, o :: os, s => (execV call pure o s.fr s.H).bind fun r => (execOpsW call pure (i + 1) os ⟨putV s.fr o.dst r.1, r.2.heap s.H, s.d || r.2.wr⟩).map fun q => (q.1, lgE i (o.i.rdB s.fr) r.2 ++ q.2)

/-- neither reads nor makes nor writes memory -/
def I.pure : I → Bool
  | .mv _ | .pick _ _ _ | .build _ _ | .nilck _ | .bin _ _ _ | .binb _ _ _ | .isnil _ _ _ | .eqa _ _ _ _ | .un _ _ | .conv _ _ | .mkfn _ _ | .slices _ _ _ | .slice _ _ _ _ _ | .fadr _ _ | .fld _ _ _
  | .iadr _ _ _ _ | .idxs _ _ | .idxa _ _ _ _ _ | .len _ _ | .mm _ _ | .ext _ _ => true
  | _ => false
/-- what writes comes before or behind each other operation that has to do with memory, but for a look at another block -/
def barrierW (ops : List O) (anc : List Nat) (log : List Lg) (i : Nat) (ids : List Nat) : Bool :=
  (List.range ops.length).all fun j => j == i || (ops.getD j default).i.pure || cmpA anc i j || (!(ops.getD j default).i.heavy && log.all fun x => x.1 != j || x.2.1 || x.2.2.all fun b => !ids.contains b)
def barrierG (ops : List O) (anc : List Nat) (log : List Lg) : List Lg → Bool
  | [] => true
  | (i, true, ids) :: l => barrierW ops anc log i ids && barrierG ops anc log l
  | (_, false, _) :: l => barrierG ops anc log l
def barrier (ops : List O) (anc : List Nat) (log : List Lg) : Bool := barrierG ops anc log log

def maskF (live : List Nat) (fr : List V) : List V := fr.mapIdx fun i v => if live.contains i then v else .undef
def tidy (live : List Nat) (n : Nat) (s : St) : Option St :=
  let fr := maskF live s.fr
  let ids := reach s.H 50 (List.range n) (refsL fr ++ upRefs s.H n)
  (renL (place ids) fr).bind fun fr => (pickH s.H (place ids) ids).map fun H => ⟨fr, H, s.d⟩
def iter (pre : St → Option St) (f : St → Option (Ex × St)) : Nat → St → Option (Ex × St)
  | 0, _ => none
  | k + 1, s => (pre s).bind fun s => (f s).bind fun r => match r.1 with
    | .normal => iter pre f k r.2
    | _ => some r
mutual
def V.eqb : V → V → Bool
  | .bool a, .bool b => decide (a = b)
  | .int k a, .int l b => decide (k = l) && decide (a = b)
  | .str a, .str b => decide (a = b)
  | .nilp, .nilp => true
  | .nils, .nils => true
  | .nilf, .nilf => true
  | .undef, .undef => true
  | .ptr b l i o, .ptr b' l' i' o' => decide (b = b') && decide (l = l') && decide (i = i') && decide (o = o')
  | .sl z b l o n, .sl z' b' l' o' n' => decide (z = z') && decide (b = b') && decide (l = l') && decide (o = o') && decide (n = n')
  | .tsl z es, .tsl z' es' => decide (z = z') && eqbLL es es'
  | .tptr cs o, .tptr cs' o' => eqbL cs cs' && decide (o = o')
  | .agg cs, .agg cs' => eqbL cs cs'
  | .tup cs, .tup cs' => eqbL cs cs'
  | .fn f cs, .fn f' cs' => decide (f = f') && eqbL cs cs'
  | .mp b, .mp b' => decide (b = b')
  | _, _ => false
def eqbL : List V → List V → Bool
  | [], [] => true
  | a :: as, b :: bs => a.eqb b && eqbL as bs
  | _, _ => false
def eqbLL : List (List V) → List (List V) → Bool
  | [], [] => true
  | a :: as, b :: bs => eqbL a b && eqbLL as bs
  | _, _ => false
end
def Blk.eqb (a b : Blk) : Bool := decide (a.z = b.z) && eqbLL a.es b.es && decide (a.fz = b.fz) && decide (a.box = b.box) && decide (a.flat = b.flat)
def eqbH : Heap → Heap → Bool
  | [], [] => true
  | a :: as, b :: bs => a.eqb b && eqbH as bs
  | _, _ => false
def eqSt (a b : St) : Bool := eqbL a.fr b.fr && eqbH a.H b.H && decide (a.d = b.d)
/-- all orders lead to the same state -/
def agree : List (Option St) → Option St
  | [] => none
  | x :: xs => x.bind fun s => if xs.all fun y => match y with | some t => eqSt t s | none => false then some s else none
def execX (call : CallT) (pure : FuncId → Bool) (n : Nat) (s : St) (a : List O × List Nat) : Option St :=
  (execOpsW call pure 0 a.1 s).bind fun r => if barrier a.1 a.2 r.2 then tidy (List.range r.1.fr.length) n r.1 else none
def execC (call : CallT) (pure : FuncId → Bool) (n k : Nat) : C → St → Option (Ex × St)
  | .skip, s => some (.normal, s)
  | .reg ops, s => (execOps call pure ops s).map fun s => (.normal, s)
  | .drw ops anc, s => (execOpsW call pure 0 ops s).bind fun r => if barrier ops anc r.2 then some (.normal, r.1) else none
  | .drx alts, s => (agree (alts.map (execX call pure n s))).map fun s => (.normal, s)
  | .seq a b, s => (execC call pure n k a s).bind fun r => match r.1 with
    | .normal => execC call pure n k b r.2
    | _ => some r
  | .cond c a b, s => match ev s.fr c with
    | .bool t => if t then execC call pure n k a s else execC call pure n k b s
    | _ => none
  | .block id a, s => (execC call pure n k a s).map fun r => (if r.1 = .exit id then .normal else r.1, r.2)
  | .loop live a, s => iter (tidy live n) (execC call pure n k a) k s
  | .exit id, s => some (.exit id, s)
  | .ret, s => some (.ret, s)
def resV (fr : List V) (H : Heap) : List Rv → Option (List V)
  | [] => some []
  | .t n :: rs => (resV fr H rs).map (fr.getD n .undef :: ·)
  | .cl n sz :: rs => (ldPl H sz (fr.getD n .undef)).bind fun v => (resV fr H rs).map (v :: ·)
def packV : List V → V
  | [v] => v
  | vs => .tup vs
def finish (n : Nat) (rs : List Rv) (s : St) : Option (V × Heap × Bool) :=
  (resV s.fr s.H rs).bind fun vs =>
    let v := packV vs
    let ids := reach s.H 50 (List.range n) (v.refs ++ upRefs s.H n)
    (v.ren (place ids)).bind fun v => (pickH s.H (place ids) ids).map fun H => (v, H, s.d)
def runFn (call : CallT) (pure : FuncId → Bool) (k : Nat) (fn : Fn) (args : List V) (Hs : Heap) : Option (V × Heap × Bool) :=
  (execC call pure Hs.length k fn.body ⟨args ++ List.replicate (fn.nt - args.length) .undef, Hs, false⟩).bind fun r => match r.1 with
    | .exit _ => none
    | _ => finish Hs.length fn.res r.2
/-- functions whose contracts are proved apart -/
class Ora where
  ora : CallT
def callF [Ora] (tbl : FuncId → Option Fn) (pure : FuncId → Bool) : Nat → CallT
  | 0 => fun _ _ _ => none
  | k + 1 => fun f args Hs => match tbl f with
    | some fn => runFn (callF tbl pure k) pure k fn args Hs
    | none => Ora.ora f args Hs

end Go.AM
