/- THE EVALUATOR: a reading of the model's code on plain data. D: data that never change. V: what a temporary holds: data, the nil slice, a row of the call's own, a place in a local box or in a row of the call's own, a struct's cells. 'ev' goes through code and hands its state on to continuations; calls go by a table; loops by 'evLoop'. Nothing is proved here. -/
import Derived.Calls
import Derived.Orders
import Derived.KernelRfl
set_option linter.unusedVariables false
set_option linter.unusedSimpArgs false
namespace Go.Proofs.Ytcnedmkfcbcjkaa.Ra
open Go

inductive D where
  | any
  | int (k : IntKind) (z : Int)
  | bool (b : Bool)
  | str (s : List UInt8)
  | sl (xs : List D)
  | agg (ds : List D)
  | tup (ds : List D)
  | ro (ds : List D)
  | clo (g : Nat) (env : List D)
  /-- the nil slice, told as such: as an argument alone -/
  | nils
  deriving Inhabited

namespace D
def asInt : D → Option (IntKind × Int)
  | .int k z => some (k, z)
  | _ => none
def asBool : D → Option Bool
  | .bool b => some b
  | _ => none
def elems : D → Option (List D)
  | .sl xs => some xs
  | _ => none
def cells : D → List D
  | .agg ds => ds
  | d => [d]
/-- A value of one cell. -/
def one : D → Bool
  | .any | .tup _ | .agg _ => false
  | _ => true
/-- A value that fills so many cells. -/
def fit (sz : Nat) : D → Bool
  | .any | .tup _ => false
  | .agg ds => ds.length == sz
  | _ => sz == 1
def chk (sz : Nat) (xs : List D) : Bool := xs.all fun x => x.cells.length == sz
def ext : D → Nat → Option D
  | .tup ds, i => ds[i]?
  | _, _ => none
def asClo : D → Option (Nat × List D)
  | .clo g env => some (g, env)
  | _ => none
/-- The cells of a struct of n cells. -/
def aggN : D → Nat → Option (List D)
  | .agg ds, n => if ds.length = n then some ds else none
  | _, _ => none
/-- A struct, or one cell, out of cells. -/
def ofCells (agg : Bool) (n : Nat) (ds : List D) : Option D :=
  bif agg then (if n ≤ ds.length then some (.agg (ds.take n)) else none) else ds[0]?
def loadRo (agg : Bool) (n : Nat) : D → Option D
  | .ro ds => ofCells agg n ds
  | _ => none
def roDrop (o : Nat) : D → Option D
  | .ro ds => some (.ro (ds.drop o))
  | _ => none
/-- The place of an element. -/
def elemPtr (size : Nat) : D → Int → Option D
  | .sl xs, i => if 0 ≤ i then (xs[i.toNat]?).bind fun x => if x.cells.length = size then some (.ro x.cells) else none else none
  | _, _ => none
/-- An array's element. -/
def arrAt (agg : Bool) (size len : Nat) : D → Int → Option D
  | .agg ds, i => if 0 ≤ i ∧ i < len ∧ ds.length = len * size then ofCells agg size (ds.drop (i.toNat * size)) else none
  | _, _ => none
/-- A struct's field. -/
def part (agg : Bool) (size off : Nat) : D → Option D
  | .agg ds => ofCells agg size (ds.drop off)
  | _ => none
def cut (sz : Nat) (lo hi : Int) : D → Option D
  | .sl xs => if (0 ≤ lo ∧ lo ≤ hi ∧ hi ≤ xs.length) ∧ chk sz xs = true then some (.sl ((xs.take hi.toNat).drop lo.toNat)) else none
  | _ => none
end D

def arith (op : BinOp) (k : IntKind) (a b : Int) : Option D :=
  match op with
  | .add => some (.int k (k.wrap (a + b)))
  | .sub => some (.int k (k.wrap (a - b)))
  | .mul => some (.int k (k.wrap (a * b)))
  | .quo => if b = 0 then none else some (.int k (k.wrap (a.tdiv b)))
  | .rem => if b = 0 then none else some (.int k (a.tmod b))
  | .and => some (.int k (k.wrap ((BitVec.ofInt k.bits a &&& BitVec.ofInt k.bits b).toNat)))
  | .or => some (.int k (k.wrap ((BitVec.ofInt k.bits a ||| BitVec.ofInt k.bits b).toNat)))
  | .xor => some (.int k (k.wrap ((BitVec.ofInt k.bits a ^^^ BitVec.ofInt k.bits b).toNat)))
  | .andNot => some (.int k (k.wrap ((BitVec.ofInt k.bits a &&& ~~~ BitVec.ofInt k.bits b).toNat)))
  | .eql => some (.bool (a == b))
  | .neq => some (.bool (a != b))
  | .lss => some (.bool (decide (a < b)))
  | .leq => some (.bool (decide (a ≤ b)))
  | .gtr => some (.bool (decide (a > b)))
  | .geq => some (.bool (decide (a ≥ b)))
  | _ => none
def shifted (op : BinOp) (k : IntKind) (a b : Int) : Option D :=
  if b < 0 then none else
  match op with
  | .shl => some (.int k (k.wrap (a * 2 ^ min b.toNat k.bits)))
  | .shr => some (.int k (a.fdiv (2 ^ min b.toNat k.bits)))
  | _ => none
def isShift : BinOp → Bool
  | .shl | .shr => true
  | _ => false
/-- Two answers held against each other. -/
def boolD (op : BinOp) : D → D → Option D
  | .bool a, .bool b => match op with
    | .eql => some (.bool (a == b))
    | .neq => some (.bool (!(a == b)))
    | _ => none
  | _, _ => none
/-- Two operands. -/
def binD (op : BinOp) : D → D → Option D
  | .int k a, .int k' b => bif isShift op then shifted op k a b else if k = k' then arith op k a b else none
  | .str a, .str b => match op with
    | .eql => some (.bool (a == b))
    | .neq => some (.bool (!(a == b)))
    | .add => if a.length + b.length ≤ 9223372036854775807 then some (.str (a ++ b)) else none
    | _ => none
  | _, _ => none
def notD : D → Option D
  | .bool b => some (.bool !b)
  | _ => none
def byteOf : D → Option UInt8
  | .int .u8 z => some (UInt8.ofNat z.toNat)
  | _ => none
/-- How a conversion goes. -/
inductive Conv where
  | int (k : IntKind)
  | text
  deriving Inhabited
def convD : Conv → D → Option D
  | .int k, .int _ z => some (.int k (k.wrap z))
  | .text, .sl xs => (xs.mapM byteOf).map .str
  | _, _ => none
def minD : D → D → Option D
  | .int k a, .int k' b => if k = k' then some (.int k (if b < a then b else a)) else none
  | _, _ => none
def maxD : D → D → Option D
  | .int k a, .int k' b => if k = k' then some (.int k (if a < b then b else a)) else none
  | _, _ => none

/-- A cell of a zero value, or of a struct that was built: data, or the nil slice (of elements of so many cells). -/
inductive Z where
  | d (x : D)
  | nl (sz : Nat)
  deriving Inhabited
def Z.data : Z → D
  | .d x => x
  | .nl _ => .sl []
/-- A type, as far as it counts here. A struct's fields: where each begins, whether it is a struct, its cells. -/
inductive TK where
  | one
  | bool
  | slice (e : Nat)
  | struct (fs : List (Nat × Bool × Nat))
  | array (len e : Nat)
  deriving Inhabited
structure TI where
  kind : TK
  size : Nat
  bytes : Nat
  zero : List Z
  deriving Inhabited
def TK.agg : TK → Bool
  | .struct _ | .array .. => true
  | _ => false
abbrev TE := Nat → Option TI

inductive V where
  | undef
  | d (x : D)
  | nil
  | own (t : Nat)
  | box (b o : Nat)
  | elp (t i o : Nat)
  | agg (cs : List Z)
  deriving Inhabited
/-- A row of the call's own: may its elements be written? its elements' cells; its elements. -/
structure Tok where
  id : Nat
  wr : Bool
  sz : Nat
  xs : List D
structure St where
  tmps : List V
  boxes : List (Nat × List V)
  toks : List Tok

def V.killOwn (t : Nat) : V → V
  | .own t' => bif t' == t then .d .any else .own t'
  | .elp t' i o => bif t' == t then .d .any else .elp t' i o
  | v => v
def V.killBox (b : Nat) : V → V
  | .box b' o => bif b' == b then .d .any else .box b' o
  | v => v
def V.freezeBox (b : Nat) (cs : List D) : V → V
  | .box b' o => bif b' == b then .d (.ro (cs.drop o)) else .box b' o
  | v => v
def lookTok (t : Nat) : List Tok → Option Tok
  | [] => none
  | q :: l => bif q.id == t then some q else lookTok t l
def lookBox (b : Nat) : List (Nat × List V) → Option (List V)
  | [] => none
  | q :: l => bif q.1 == b then some q.2 else lookBox b l
/-- A row's number in a box's cell. -/
def ctok (b o : Nat) : Nat := 1000 + 64 * b + o
/-- What a loop's head keeps. -/
structure Hd where
  forget : List Nat
  boxes : List Nat
  toks : List (Nat × Bool)
  deriving Inhabited
namespace St
def get (s : St) (t : Nat) : V := s.tmps.getD t .undef
def put (s : St) (dst : Option Nat) (v : V) : St :=
  match dst with
  | some t => { s with tmps := s.tmps.set t v }
  | none => s
def mapV (s : St) (f : V → V) : St := { s with tmps := s.tmps.map f, boxes := s.boxes.map fun q => (q.1, q.2.map f) }
def dropTok (s : St) (t : Nat) : St := { s with toks := s.toks.filter fun q => !(q.id == t) }
def dropBox (s : St) (b : Nat) : St := { s with boxes := s.boxes.filter fun q => !(q.1 == b) }
def share (s : St) (t : Nat) : St := { s with toks := s.toks.map fun q => bif q.id == t then { q with wr := false } else q }
def shareAll (s : St) : St := { s with toks := s.toks.map fun q => { q with wr := false } }
def shareV (s : St) : V → St
  | .own t => s.share t
  | _ => s
def shareVs (s : St) : List V → St
  | [] => s
  | v :: l => (s.shareV v).shareVs l
/-- A new row under a number: nobody holds an elder one of that number. -/
def newTok (s : St) (t : Nat) (wr : Bool) (sz : Nat) (xs : List D) : St :=
  let s' := (s.mapV (V.killOwn t)).dropTok t
  { s' with toks := ⟨t, wr, sz, xs⟩ :: s'.toks }
/-- A row under another number. -/
def transfer (s : St) (t d : Nat) : Option St :=
  (lookTok t s.toks).map fun q => bif t == d then s else (s.dropTok t).newTok d q.wr q.sz q.xs
/-- A new box. -/
def newBox (s : St) (b : Nat) (cs : List V) : St :=
  let s' := (s.mapV (V.killBox b)).dropBox b
  { s' with boxes := (b, cs.map (V.killBox b)) :: s'.boxes }
/-- Nil slices among cells become rows of the call's own. -/
def cellsZ (s : St) (b o : Nat) : List Z → St × List V
  | [] => (s, [])
  | .d x :: l => let r := s.cellsZ b (o + 1) l; (r.1, .d x :: r.2)
  | .nl sz :: l => let r := (s.newTok (ctok b o) true sz []).cellsZ b (o + 1) l; (r.1, .own (ctok b o) :: r.2)
def setBox (s : St) (b o : Nat) (cs : List V) : St :=
  { s with boxes := s.boxes.map fun q => bif q.1 == b then (q.1, q.2.take o ++ cs ++ q.2.drop (o + cs.length)) else q }
def setTok (s : St) (t : Nat) (xs : List D) : St :=
  { s with toks := s.toks.map fun q => bif q.id == t then { q with xs := xs } else q }
def opnd (s : St) : Operand → V
  | .tmp t => s.get t
  | .const (.int k z) => .d (.int k z)
  | .const (.bool b) => .d (.bool b)
  | .const (.string ba) => .d (.str ba.data.toList)
  | .const (.slice none 0 0) => .nil
  | .func f => .d (.clo f [])
  | _ => .d .any
def asD (s : St) : V → Option D
  | .d x => some x
  | .nil => some (.sl [])
  | .own t => (lookTok t s.toks).bind fun q => cond q.wr none (some (.sl q.xs))
  | .agg cs => some (.agg (cs.map Z.data))
  | _ => none
def asDs (s : St) : List V → Option (List D)
  | [] => some []
  | v :: l => (s.asD v).bind fun x => (s.asDs l).bind fun xs => some (x :: xs)
/-- .. the nil slice told as such. -/
def asDN (s : St) : V → Option D
  | .nil => some .nils
  | v => s.asD v
def asDNs (s : St) : List V → Option (List D)
  | [] => some []
  | v :: l => (s.asDN v).bind fun x => (s.asDNs l).bind fun xs => some (x :: xs)
/-- A test's answer, where it is known. -/
def setB (s : St) (c : Operand) (b : Bool) : St :=
  match c with
  | .tmp t => s.put (some t) (.d (.bool b))
  | _ => s
def pickToks (l : List Tok) : List (Nat × Bool) → List Tok
  | [] => []
  | h :: hs => match lookTok h.1 l with
    | some q => q :: pickToks l hs
    | none => pickToks l hs
def pickBoxes (l : List (Nat × List V)) : List Nat → List (Nat × List V)
  | [] => []
  | h :: hs => match lookBox h l with
    | some q => (h, q) :: pickBoxes l hs
    | none => pickBoxes l hs
def forget (l : List V) : List Nat → List V
  | [] => l
  | t :: ts => forget (l.set t (.d .any)) ts
/-- Rows that aren't written any more. -/
def shareFor (s : St) : List (Nat × Bool) → St
  | [] => s
  | h :: l => (cond h.2 s (s.share h.1)).shareFor l
def head (s : St) (h : Hd) : St := let s' := s.shareFor h.toks; ⟨forget s'.tmps h.forget, pickBoxes s'.boxes h.boxes, pickToks s'.toks h.toks⟩
end St
def asB : V → Option Bool
  | .d x => x.asBool
  | _ => none
def asI : V → Option (IntKind × Int)
  | .d x => x.asInt
  | _ => none

/-- What is known of a callee: it hands back data; or a new row, of elements of so many cells. -/
inductive Entry where
  | pure (F : List D → Option D)
  | own (sz : Nat) (F : List D → Option (List D))
  /-- .. told of nil arguments -/
  | nown (sz : Nat) (F : List D → Option (List D))
  /-- a closure that hands on things one by one: what it hands on -/
  | seq (F : List D → Option (List (List D)))
abbrev CT := Nat → Option Entry

section
variable (T : TE) (CV : Nat → Nat → Option Conv) (C : CT)
variable {R : Type}

def kindOf (t : Nat) : Option (Bool × Nat) := (T t).map fun i => (i.kind.agg, i.size)
def elemOf (t : Nat) : Option TI :=
  match T t with
  | some ⟨.slice e, _, _, _⟩ => T e
  | _ => none
def isBool (t : Nat) : Bool :=
  match T t with
  | some ⟨.bool, _, _, _⟩ => true
  | _ => false
def slen (s : St) : V → Option Nat
  | .nil => some 0
  | .own t => (lookTok t s.toks).map fun q => q.xs.length
  | .d x => x.elems.map fun xs => xs.length
  | _ => none
/-- An element's zero value. -/
def elemZero (i : TI) : D := bif i.kind.agg then .agg (i.zero.map Z.data) else (i.zero.map Z.data).headD .any
def explicit (n : Nat) (ds : List D) : List D := (List.range n).map fun j => ds.getD j .any
def buildK (s : St) (fs : List (Nat × Bool × Nat)) : List (Nat × Operand) → List Z → (List Z → Option R) → Option R
  | [], cs, k => k cs
  | (f, x) :: l, cs, k => (fs[f]?).bind fun h => (s.asD (s.opnd x)).bind fun a =>
    cond (decide (h.1 + h.2.2 ≤ cs.length)) (cond h.2.1 ((a.aggN h.2.2).bind fun ds => buildK s fs l (cs.take h.1 ++ (explicit h.2.2 ds).map Z.d ++ cs.drop (h.1 + h.2.2)) k)
      (cond (a.one && h.2.2 == 1) (buildK s fs l (cs.set h.1 (.d a)) k) none)) none
/-- A literal's elements. -/
def rowK (s : St) (sz : Nat) : List (Nat × Operand) → List D → (List D → Option R) → Option R
  | [], xs, k => k xs
  | (i, x) :: l, xs, k => (s.asD (s.opnd x)).bind fun y => cond (y.fit sz && decide (i < xs.length)) (rowK s sz l (xs.set i y) k) none
def bound (s : St) (x : Option Operand) (n : Int) : Option Int :=
  match x with
  | some l => (asI (s.opnd l)).map (·.2)
  | none => some n
def fieldOff (t f : Nat) : Option Nat :=
  match T t with
  | some ⟨.struct fs, _, _, _⟩ => (fs[f]?).map (·.1)
  | _ => none

/-- What an operation gives that turns nothing. -/
def vOp (op : Op) (s : St) (k : V → Option R) : Option R :=
  match op with
  | .move x | .assign x => k (s.opnd x)
  | .pick c x y => (asB (s.opnd c)).bind fun b => cond b (k (s.opnd x)) (k (s.opnd y))
  | .load t a => (kindOf T t).bind fun i =>
    match s.opnd a with
    | .d x => (x.loadRo i.1 i.2).bind fun y => k (.d y)
    | .box b o => (lookBox b s.boxes).bind fun cs =>
      cond i.1 (cond (decide (o + i.2 ≤ cs.length)) ((s.asDs ((cs.drop o).take i.2)).bind fun ds => k (.d (.agg ds))) none) ((cs[o]?).bind k)
    | .elp t' j o => (lookTok t' s.toks).bind fun q => (q.xs[j]?).bind fun x => (D.ofCells i.1 i.2 (x.cells.drop o)).bind fun y => k (.d y)
    | _ => none
  | .fieldAddr t a f => (fieldOff T t f).bind fun off =>
    match s.opnd a with
    | .d x => (x.roDrop off).bind fun y => k (.d y)
    | .box b o => k (.box b (o + off))
    | .elp t' j o => k (.elp t' j (o + off))
    | _ => none
  | .indexAddr t x i => (elemOf T t).bind fun e => (asI (s.opnd i)).bind fun z =>
    match s.opnd x with
    | .own t' => (lookTok t' s.toks).bind fun q => cond (q.sz == e.size && decide (0 ≤ z.2) && decide (z.2 < q.xs.length)) (k (.elp t' z.2.toNat 0)) none
    | .d x => (x.elemPtr e.size z.2).bind fun y => k (.d y)
    | _ => none
  | .index t x i => match T t with
    | some ⟨.array len e, _, _, _⟩ => (kindOf T e).bind fun ei => (asI (s.opnd i)).bind fun z => (s.asD (s.opnd x)).bind fun a => (a.arrAt ei.1 ei.2 len z.2).bind fun y => k (.d y)
    | _ => none
  | .binOp op t x y _ => (s.asD (s.opnd x)).bind fun a => (s.asD (s.opnd y)).bind fun b =>
    cond (isBool T t) ((boolD op a b).bind fun y => k (.d y)) ((binD op a b).bind fun y => k (.d y))
  | .unOp .not _ x => (s.asD (s.opnd x)).bind fun a => (notD a).bind fun y => k (.d y)
  | .convert t u x => (CV t u).bind fun c => (s.asD (s.opnd x)).bind fun a => (convD c a).bind fun y => k (.d y)
  | .slice t x lo hi mx => (elemOf T t).bind fun e => (slen s (s.opnd x)).bind fun n => (bound s lo 0).bind fun l => (bound s hi n).bind fun h =>
    (match mx with | some m => (asI (s.opnd m)).bind fun m => cond (decide (h ≤ m.2) && decide (m.2 ≤ (n : Int)) && hi.isSome) (some ()) none | none => some ()).bind fun _ =>
    (s.asD (s.opnd x)).bind fun a => (a.cut e.size l h).bind fun y => k (.d y)
  | .call ⟨.builtin .len, args, ts⟩ => match args.toList, ts.toList with
    | [x], [t] => (elemOf T t).bind fun _ => (slen s (s.opnd x)).bind fun n => k (.d (.int .i64 n))
    | _, _ => none
  | .call ⟨.builtin .min, args, _⟩ => match args.toList with
    | [x, y] => (s.asD (s.opnd x)).bind fun a => (s.asD (s.opnd y)).bind fun b => (minD a b).bind fun y => k (.d y)
    | _ => none
  | .call ⟨.builtin .max, args, _⟩ => match args.toList with
    | [x, y] => (s.asD (s.opnd x)).bind fun a => (s.asD (s.opnd y)).bind fun b => (maxD a b).bind fun y => k (.d y)
    | _ => none
  | .call ⟨.value (.func f), args, _⟩ => (s.asDs (args.toList.map s.opnd)).bind fun ds =>
    match C f with
    | some (.pure F) => (F ds).bind fun y => k (.d y)
    | some (.own _ F) => (F ds).bind fun xs => k (.d (.sl xs))
    | _ => none
  | .call ⟨.value (.tmp t), args, _⟩ => (s.asD (s.get t)).bind fun c => c.asClo.bind fun ge => (s.asDs (args.toList.map s.opnd)).bind fun ds =>
    match C ge.1 with
    | some (.pure F) => (F (ds ++ ge.2)).bind fun y => k (.d y)
    | _ => none
  | .build t parts => match T t with
    | some ⟨.struct fs, _, _, z⟩ => buildK s fs parts.toList z fun cs => k (.agg cs)
    | some ⟨.array len e, _, _, z⟩ => (kindOf T e).bind fun ei => cond (!ei.1 && ei.2 == 1) (buildK s ((List.range len).map fun i => (i, false, 1)) parts.toList z fun cs => k (.agg cs)) none
    | _ => none
  | .buildSlice t len parts => (elemOf T t).bind fun e => cond (decide (len * e.size ≤ 16777216)) (rowK s e.size parts.toList (List.replicate len (elemZero e)) fun xs => k (.d (.sl xs))) none
  | .extract x i => (s.asD (s.opnd x)).bind fun a => (a.ext i).bind fun y => k (.d y)
  | .nilCheck x => match s.opnd x with
    | .box b o => k (.box b o)
    | .elp t i o => k (.elp t i o)
    | .d x => (x.roDrop 0).bind fun y => k (.d y)
    | _ => none
  | _ => none

/-- The operands whose rows become data. -/
def coerced (s : St) : Op → List V
  | .call ⟨.value _, args, _⟩ => args.toList.map s.opnd
  | .build _ parts => parts.toList.map fun p => s.opnd p.2
  | .buildSlice _ _ parts => parts.toList.map fun p => s.opnd p.2
  | .convert _ _ x => [s.opnd x]
  | .slice _ x _ _ _ => [s.opnd x]
  | .load t a => match kindOf T t, s.opnd a with
    | some (true, n), .box b o => (((lookBox b s.boxes).getD []).drop o).take n
    | _, _ => []
  | _ => []
/-- The elements of what is appended or copied. -/
def elemsOf (s : St) (v : V) : Option (List D) := (s.asD v).bind D.elems
/-- A value's cells, for a box. -/
def cellsK (s : St) (b o t : Nat) (v : V) (k : St → List V → Option R) : Option R :=
  (T t).bind fun i => cond i.kind.agg
    (match v with
      | .agg cs => cond (cs.length == i.size) (let r := s.cellsZ b o cs; k r.1 r.2) none
      | .d x => (x.aggN i.size).bind fun ds => k s ((explicit i.size ds).map V.d)
      | _ => none)
    (match v with
      | .d x => cond x.one (k s [.d x]) none
      | .nil => (elemOf T t).bind fun e => k (s.newTok (ctok b o) true e.size []) [.own (ctok b o)]
      | .own tk => (s.transfer tk (ctok b o)).bind fun s' => k s' [.own (ctok b o)]
      | .box b' o' => k s [.box b' o']
      | _ => none)
/-- An operation. -/
def evOp (o : Oper) (s : St) (k : St → Option R) : Option R :=
  match o.op, o.dst with
  | .assign x, some d => match s.opnd x with
    | .own t => (s.transfer t d).bind fun s' => k (s'.put (some d) (.own d))
    | .nil => (elemOf T o.type).bind fun e => k ((s.newTok d true e.size []).put (some d) (.own d))
    | v => k (s.put (some d) v)
  | .alloc t, some d => (T t).bind fun i => let r := s.cellsZ d 0 i.zero; k ((r.1.newBox d r.2).put (some d) (.box d 0))
  | .box t x, some d => cellsK T s d 0 t (s.opnd x) fun s' cs => k ((s'.newBox d cs).put (some d) (.box d 0))
  | .store t a x, none => match s.opnd a with
    | .box b p => cellsK T s b p t (s.opnd x) fun s' cs => (lookBox b s'.boxes).bind fun old => cond (decide (p + cs.length ≤ old.length)) (k (s'.setBox b p cs)) none
    | .elp tk i p => (kindOf T t).bind fun h => let s1 := s.shareV (s.opnd x); (lookTok tk s1.toks).bind fun q => (s1.asD (s1.opnd x)).bind fun y =>
      cond (q.wr && p == 0 && h.2 == q.sz && h.1 == decide (1 < h.2) && decide (i < q.xs.length)) ((cond h.1 ((y.aggN h.2).map fun ds => D.agg (explicit h.2 ds)) (cond y.one (some y) none)).bind fun y' => k (s1.setTok tk (q.xs.set i y'))) none
    | _ => none
  | .call ⟨.builtin .append, args, ts⟩, some d => match args.toList, ts.toList with
    | [x, y], [t, t'] => cond (t == t') ((elemOf T t).bind fun e => let s1 := s.shareV (s.opnd y); (elemsOf s1 (s1.opnd y)).bind fun ys =>
      cond (D.chk e.size ys && decide (0 < e.size)) (match s1.opnd x with
        | .nil => cond (decide (ys.length * e.bytes ≤ 140737488355328)) (k ((s1.newTok d true e.size ys).put (some d) (.own d))) none
        | .own tk => (lookTok tk s1.toks).bind fun q => cond (q.sz == e.size && decide ((q.xs.length + ys.length) * e.bytes ≤ 140737488355328)) (k (((s1.dropTok tk).newTok d q.wr e.size (q.xs ++ ys)).put (some d) (.own d))) none
        | _ => none) none) none
    | _, _ => none
  | .buildSlice t len parts, some d => let s1 := s.shareVs (coerced T s (.buildSlice t len parts)); (elemOf T t).bind fun e =>
    cond (decide (len * e.size ≤ 16777216)) (rowK s1 e.size parts.toList (List.replicate len (elemZero e)) fun xs => k ((s1.newTok d true e.size xs).put (some d) (.own d))) none
  | .call ⟨.value (.func f), args, ts⟩, dst => let s1 := s.shareVs (args.toList.map s.opnd)
    match C f, dst with
    | some (.own sz F), some d => (s1.asDs (args.toList.map s1.opnd)).bind fun ds => (F ds).bind fun xs => k ((s1.newTok d true sz xs).put (some d) (.own d))
    | some (.nown sz F), some d => (s1.asDNs (args.toList.map s1.opnd)).bind fun ds => (F ds).bind fun xs => k ((s1.newTok d true sz xs).put (some d) (.own d))
    | _, _ => vOp T CV C (.call ⟨.value (.func f), args, ts⟩) s1 fun v => k (s1.put dst v)
  | .makeFunc (.func g) first caps, some d => cond first.isEmpty (capK s caps.toList [] fun s' env => k (s'.put (some d) (.d (.clo g env)))) none
  | .go _, _ | .defer _, _ | .makeFunc _ _ _, _ => none
  | op, dst => let s1 := s.shareVs (coerced T s op); vOp T CV C op s1 fun v => k (s1.put dst v)
where
  /-- What a closure captures: a box's cells, which nobody turns any more. -/
  capK (s : St) : List Operand → List D → (St → List D → Option R) → Option R
    | [], env, k => k s env
    | x :: l, env, k => match s.opnd x with
      | .box b 0 => (lookBox b s.boxes).bind fun cs => let s1 := s.shareVs cs; (s1.asDs cs).bind fun ds =>
        capK ((s1.mapV (V.freezeBox b ds)).dropBox b) l (env ++ [.ro ds]) k
      | .d (.ro ds) => capK s l (env ++ [.ro ds]) k
      | _ => none
/-- An operation's guard: 'j': what comes of it, with what is known then. -/
def guardK (ops : Array Oper) (o : Oper) (s : St) (j : St → Bool → Option R) : Option R :=
  match o.guard with
  | none => j s true
  | some (i, want) => match (ops[i]?).bind (·.dst) with
    | none => none
    | some t => match s.get t with
      | .undef => j s false
      | v => (asB v).bind fun b => cond b (j (s.put (some t) (.d (.bool true))) want) (j (s.put (some t) (.d (.bool false))) (!want))
def evOps (ops : Array Oper) : List Oper → St → (St → Option R) → Option R
  | [], s, k => k s
  | o :: rest, s, k => guardK ops o s fun s' run => cond run (evOp T CV C o s' fun s'' => evOps ops rest s'' k) (evOps ops rest (s'.put o.dst .undef) k)
/-- The box that an operation lays. -/
def lays (o : Oper) : Option Nat :=
  match o.op, o.dst with
  | .alloc _, some d => some d
  | .box _ _, some d => some d
  | _, _ => none
/-- A region that draws its order: operations that turn nothing, each behind those whose answers it uses. -/
def quietOp : Op → Bool
  | .move _ | .assign _ | .pick .. | .load .. | .fieldAddr .. | .indexAddr .. | .index .. | .binOp .. | .unOp .. | .convert .. | .slice .. | .call _ | .build .. | .buildSlice .. | .extract .. => true
  | _ => false
def behind (o : Oper) (j : Nat) : Bool := o.after.toList.any fun e => e.on == j && Region.binds .any e
def dstOf (ops : List Oper) (t : Nat) : List Nat := (List.range ops.length).filter fun j => ((ops[j]?).bind (·.dst)) == some t
def quietAll (ops : List Oper) : Bool :=
  (List.range ops.length).all fun i => match ops[i]? with
    | none => false
    | some o => quietOp o.op && (o.after.toList.all fun e => decide (e.on < i)) && (match o.dst with | some d => dstOf ops d == [i] | none => false) &&
      (o.op.operands.toList.all fun x => match x with | .tmp t => (dstOf ops t).all fun j => decide (j < i) && behind o j | _ => true) &&
      (match o.guard with | none => true | some (j, _) => decide (j < i) && behind o j && (match (ops[j]?).bind (·.dst) with | some t => dstOf ops t == [j] | none => false))
def evQ (ops : Array Oper) : List Oper → St → (St → Option R) → Option R
  | [], s, k => k s
  | o :: rest, s, k => guardK ops o s fun s' run => cond run (vOp T CV C o.op s' fun v => evQ ops rest (s'.put o.dst v) k) (evQ ops rest (s'.put o.dst .undef) k)
end

/-- .. and behind them operations one behind the other, each behind all that stand ahead of it. -/
def quietLen : List Oper → Nat
  | [] => 0
  | o :: l => bif quietOp o.op then quietLen l + 1 else 0
def bef (ops : Array Oper) : Nat → Nat → Nat → Bool
  | 0, _, _ => false
  | f + 1, j, i => match ops[i]? with
    | none => false
    | some o => o.after.toList.any fun e => Region.binds .any e && (e.on == j || bef ops f j e.on)
def noDefer : Op → Bool
  | .defer _ => false
  | _ => true
def tailOk (ops : Array Oper) (m : Nat) : Bool := (List.range ops.size).all fun i => decide (i < m) || (((List.range i).all fun j => bef ops ops.size j i) &&
  match ops[i]? with | some o => (o.after.toList.all fun e => !Region.binds .any e || decide (e.on < i)) && noDefer o.op | none => true)

/-- What a temporary is worth when a round over a function begins: rows of the call's own aren't. -/
def V.clean (ids : List Nat) : V → V
  | .own _ => .d .any
  | .elp _ _ _ => .d .any
  | .box b o => bif ids.contains b then .box b o else .d .any
  | v => v
def setPs (tm : List V) : List (Nat × D) → List V
  | [] => tm
  | q :: l => setPs (tm.set q.1 (.d q.2)) l
/-- Code that lays none of these boxes, and ranges over no function. -/
def layFree (ids : List Nat) : Code → Bool
  | .region _ ops _ => ops.toList.all fun o => match lays o with | some d => !ids.contains d | none => true
  | .seq a b => layFree ids a && layFree ids b
  | .cond _ a b => layFree ids a && layFree ids b
  | .block _ c => layFree ids c
  | .loop c => layFree ids c
  | .skip => true
  | .exit _ => true
  | .ret => true
  | _ => false
def bodyId : Code → Nat
  | .region j _ _ => j
  | .block j _ => j
  | .seq a _ => bodyId a
  | .cond _ a _ => bodyId a
  | .loop c => bodyId c
  | _ => 0

inductive X where
  | normal
  | exit (id : Nat)
  | ret
  deriving DecidableEq, Inhabited
structure Kont (R : Type) where
  n : St → Option R
  e : Nat → St → Option R
  r : St → Option R
def Kont.end : Kont (X × St) := ⟨fun s => some (.normal, s), fun i s => some (.exit i, s), fun s => some (.ret, s)⟩
/-- A range over a function: a round for each thing. -/
def itemsK {R : Type} (round : St → (St → Option R) → (Nat → St → Option R) → (St → Option R) → Option R) (n : Nat) (ps : List Nat) (sv : List V) (ids tks : List Nat) (k : Kont R) : List (List D) → List (Nat × List V) → List Tok → Option R
  | [], bx, tk => k.n ⟨sv, bx, tk⟩
  | item :: rest, bx, tk => cond (item.length == ps.length)
      (round ⟨setPs sv (ps.zip item), bx, tk⟩ (fun s' => itemsK round n ps sv ids tks k rest (St.pickBoxes s'.boxes ids) (St.pickToks s'.toks (tks.map fun t => (t, true))))
        (fun j s' => k.e j ⟨sv, s'.boxes, s'.toks⟩) (fun s' => k.r ⟨sv, s'.boxes, s'.toks⟩)) none
def dispatch {R : Type} (k : Kont R) (r : X × St) : Option R :=
  match r.1 with
  | .exit j => k.e j r.2
  | .ret => k.r r.2
  | .normal => none
/-- Rounds, till one doesn't end as a round does. -/
def iter (f : St → Option (X × St)) : Nat → St → Option (X × St)
  | 0, _ => none
  | n + 1, s => match f s with
    | some (.normal, s') => iter f n s'
    | r => r
open Classical in
noncomputable def evLoop (f : St → Option (X × St)) (s : St) : Option (X × St) :=
  if h : ∃ n r, iter f n s = some r then some h.choose_spec.choose else none
/-- A round's end is the next round's head. -/
def headN (h : Hd) : X × St → X × St
  | (.normal, s) => (.normal, s.head h)
  | r => r
section
variable (T : TE) (CV : Nat → Nat → Option Conv) (C : CT) (A : Nat → Hd)
noncomputable def ev : Code → Nat → (R : Type) → Kont R → St → Option R
  | .skip, _, _, k, s => k.n s
  | .region _ ops false, _, _, k, s => evOps T CV C ops ops.toList s k.n
  | .region _ ops true, _, _, k, s => cond (quietAll (ops.toList.take (quietLen ops.toList)) && tailOk ops (quietLen ops.toList))
      (evQ T CV C ops (ops.toList.take (quietLen ops.toList)) s.shareAll fun s' => evOps T CV C ops (ops.toList.drop (quietLen ops.toList)) s' k.n) none
  | .seq a b, i, R, k, s => ev a i R { k with n := ev b i R k } s
  | .cond c x y, i, R, k, s => (asB (s.opnd c)).bind fun b => cond b (ev x i R k (s.setB c true)) (ev y i R k (s.setB c false))
  | .block i c, _, R, k, s => ev c i R { k with e := fun j s' => cond (j == i) (k.n s') (k.e j s') } s
  | .loop c, i, _, k, s => (evLoop (fun s' => (ev c i (X × St) .end s').map (headN (A i))) (s.head (A i))).bind (dispatch k)
  | .exit j, _, _, k, s => k.e j s
  | .ret, _, _, k, s => k.r s
  | .rangeFunc g ps assign body, _, R, k, s =>
    match s.opnd g with
    | .d (.clo gf env) => match C gf with
      | some (.seq F) => (F env).bind fun items => cond (layFree (s.boxes.map (·.1)) assign && layFree (s.boxes.map (·.1)) body)
        (itemsK (fun s' kn ke kr => ev assign 0 R ⟨fun s1 => ev body 0 R ⟨kn, ke, kr⟩ s1, fun _ _ => none, fun _ => none⟩ s') (bodyId body) ps.toList (s.tmps.map (V.clean (s.boxes.map (·.1)))) (s.boxes.map (·.1)) (s.toks.map (·.id)) k items s.boxes s.toks) none
      | _ => none
    | _ => none
  | _, _, _, _, _ => none
def codeAt : Code → List Nat → Code
  | .seq a _, 0 :: p => codeAt a p
  | .seq _ b, _ :: p => codeAt b p
  | .cond _ a b, j :: p => cond (j == 0) (codeAt a p) (codeAt b p)
  | .block _ c, _ :: p => codeAt c p
  | .loop c, _ :: p => codeAt c p
  | c, _ => c
def fnAt (fn : Func) (p : List Nat) : Code :=
  match fn.body with
  | some c => codeAt c p
  | none => .skip
/-- A function's results, as data. -/
def resD (s : St) : List ResultVar → Option (List D)
  | [] => some []
  | .tmp t :: l => (s.asD (s.get t)).bind fun x => (resD s l).bind fun xs => some (x :: xs)
  | .cell a t :: l => (kindOf T t).bind fun i =>
    match s.get a with
    | .box b o => (lookBox b s.boxes).bind fun cs =>
      (cond i.1 (cond (decide (o + i.2 ≤ cs.length)) ((s.asDs ((cs.drop o).take i.2)).map D.agg) none) ((cs[o]?).bind s.asD)).bind fun x => (resD s l).bind fun xs => some (x :: xs)
    | _ => none
def tupOf : List D → D
  | [x] => x
  | xs => .tup xs
def D.toV : D → V
  | .nils => .nil
  | d => .d d
def start (fn : Func) (ds : List D) : St := ⟨ds.map D.toV ++ List.replicate (fn.ntmps - ds.length) .undef, [], []⟩
def kPure (fn : Func) : Kont D := ⟨fun s => (resD T s.shareAll fn.results.toList).map tupOf, fun _ _ => none, fun s => (resD T s.shareAll fn.results.toList).map tupOf⟩
noncomputable def evPure (fn : Func) (ds : List D) : Option D := ev T CV C A (fnAt fn []) 0 D (kPure T fn) (start fn ds)
def resOwn (s : St) (sz : Nat) : List ResultVar → Option (List D)
  | [.tmp t] => match s.get t with
    | .own tk => (lookTok tk s.toks).bind fun q => cond (q.wr && q.sz == sz) (some q.xs) none
    | _ => none
  | _ => none
def kOwn (sz : Nat) (fn : Func) : Kont (List D) := ⟨fun s => resOwn s sz fn.results.toList, fun _ _ => none, fun s => resOwn s sz fn.results.toList⟩
noncomputable def evOwn (sz : Nat) (fn : Func) (ds : List D) : Option (List D) := ev T CV C A (fnAt fn []) 0 (List D) (kOwn sz fn) (start fn ds)
end
end Go.Proofs.Ytcnedmkfcbcjkaa.Ra
