/- One operation on data: what it yields, what it writes into the small heap, and on what terms. Definitions alone. -/
import Derived.Test.YtifpbdhggooelaaGd1
namespace Go.Proofs.Ytifpbdhggooelaa.GD
open Go
set_option linter.unusedVariables false
set_option linter.unusedSimpArgs false

inductive TK where
  | bool | int (k : IntKind) | str | ptr (e : TypeId) | slice (e : TypeId) | array (n : Nat) (e : TypeId) | map (k e : TypeId)
  | struct (fs : List (TypeId × Nat)) | func | iface | other

structure Ty where
  k : TK
  size : Nat
  bytes : Nat
  zero : D
  two : Bool := false

def TK.isAgg : TK → Bool
  | .struct _ | .array _ _ => true
  | _ => false

def tkOf : TypeDesc → TK
  | .bool => .bool
  | .int k => .int k
  | .string => .str
  | .pointer e => .ptr e
  | .slice e => .slice e
  | .array n e => .array n e
  | .map k e => .map k e
  | .struct fs => .struct (fs.toList.map fun f => (f.type, f.offset))
  | .func _ _ _ => .func
  | .interface _ => .iface
  | _ => .other

/-- A constant, or a cell of a zero value, as a datum. -/
def ofV : Value → D
  | .bool b => .bool b
  | .int k n => .int k n
  | .string s => .str s
  | .pointer none => .pnil
  | .slice none 0 0 => .slice false [] none
  | .nilFunc => .fnil
  | .nilIface => .inil
  | .map none => .mnil
  | _ => .undef

def ofVs : Value → D
  | .agg vs => .agg (vs.toList.map ofV)
  | v => ofV v

def isIntT (P : Program) (t : TypeId) : Bool := match P.underlying t with | some (.int _) => true | _ => false
/-- A struct of two numbers? -/
def twoInts (P : Program) (t : TypeId) : TypeDesc → Bool
  | .struct fs =>
    match fs.toList with
    | [f, g] => f.name != "_" && g.name != "_" && isIntT P f.type && isIntT P g.type && f.offset == 0 && g.offset == 1 && !P.stoodInHeld t && !P.eqGuardType P.depth t
    | _ => false
  | _ => false
def tyOf (P : Program) (t : TypeId) : Option Ty :=
  match P.info? t, P.underlying t with
  | some i, some d => some { k := tkOf d, size := i.size, bytes := i.bytes, zero := match i.zero with | some z => ofVs z | none => .undef, two := twoInts P t d }
  | _, _ => none

abbrev Tys := TypeId → Option Ty

/-- How an operation is helped where its data are not written out. -/
inductive Hint where
  | auto
  | sym
  | b (c : Bool)
  | c (cells : List D)
  | row
  | tok
  | aRow
  | aTok
  | r (d : D)
  | h (d : D) (H : Heap)
  | l (e : Nat) (env : List D) (H : Heap)

def Hint.isAuto : Hint → Bool
  | .auto | .aRow | .aTok => true
  | _ => false

def Hint.isRow : Hint → Bool
  | .row | .aRow => true
  | _ => false

def Hint.noTok : Hint → Bool
  | .b false => true
  | _ => false

def Hint.isTok : Hint → Bool
  | .tok | .aTok => true
  | _ => false

/-- A condition: reckoned where all is written out, else handed on. -/
def req (h : Hint) (p : Prop) [Decidable p] : Option (List Prop) := if h.isAuto then (if p then some [] else none) else some [p]

structure SR where
  v : D
  wr : List (Nat × Option HObj) := []
  cs : List Prop := []

def hset (H : Heap) (o : Nat) (x : Option HObj) : Heap := if o = H.length then H ++ [x] else H.set o x
def applyWr (H : Heap) : List (Nat × Option HObj) → Heap
  | [] => H
  | (o, x) :: r => applyWr (hset H o x) r

def opd (env : List D) : Operand → D
  | .tmp t => env.getD t .undef
  | .const v => ofV v
  | .func f => .func (.func f) [] []
  | .global g => glT g

/-- Does it surely take one cell? -/
def D.one : D → Bool
  | .agg _ => false
  | .undef => false
  | .non => false
  | .tuple _ => false
  | _ => true

def cellsOf : D → Option (List D)
  | .agg cs => if cs.all D.one then some cs else none
  | .undef => none
  | .non => none
  | .tuple _ => none
  | d => some [d]

mutual
/-- A datum without names of objects (what may be extended may not any longer). -/
def pur : D → Option D
  | .slice nn es _ => some (.slice nn es none)
  | .ptr _ _ _ => none
  | .view _ _ _ => none
  | .mapp _ => none
  | .iter _ => none
  | .agg cs => match purs cs with | some l => some (.agg l) | none => none
  | .tuple cs => match purs cs with | some l => some (.tuple l) | none => none
  | .func fn a b => match purs a, purs b with | some x, some y => some (.func fn x y) | _, _ => none
  | .iface t v => match pur v with | some x => some (.iface t x) | none => none
  | .undef => some .undef
  | .non => some .non
  | .bool b => some (.bool b)
  | .int k n => some (.int k n)
  | .str s => some (.str s)
  | .pnil => some .pnil
  | .sptr cs => some (.sptr cs)
  | .fnil => some .fnil
  | .inil => some .inil
  | .mnil => some .mnil
def purs : List D → Option (List D)
  | [] => some []
  | d :: r => match pur d, purs r with | some x, some y => some (x :: y) | _, _ => none
end

def intCmpD (op : BinOp) (a b : Int) : Option Bool :=
  match op with
  | .eql => some (a == b)
  | .neq => some (a != b)
  | .lss => some (decide (a < b))
  | .leq => some (decide (a ≤ b))
  | .gtr => some (decide (a > b))
  | .geq => some (decide (a ≥ b))
  | _ => none

def bitsD (op : BinOp) (k : IntKind) (x y : Int) : Option Int :=
  let a := BitVec.ofInt k.bits x
  let b := BitVec.ofInt k.bits y
  match op with
  | .and => some (k.wrap ((a &&& b).toNat : Int))
  | .or => some (k.wrap ((a ||| b).toNat : Int))
  | .xor => some (k.wrap ((a ^^^ b).toNat : Int))
  | .andNot => some (k.wrap ((a &&& ~~~b).toNat : Int))
  | _ => none

/-- '==' with nil, where the datum tells. -/
def nilEq : TK → D → D → Option Bool
  | .ptr _, .pnil, .pnil => some true
  | .ptr _, .pnil, .ptr _ _ _ => some false
  | .ptr _, .ptr _ _ _, .pnil => some false
  | .ptr _, .pnil, .sptr _ => some false
  | .ptr _, .sptr _, .pnil => some false
  | .slice _, .slice nn _ _, .slice false [] none => some (!nn)
  | .slice _, .view _ _ _, .slice false [] none => some false
  | .iface, .inil, .inil => some true
  | .iface, .inil, .iface _ _ => some false
  | .iface, .iface _ _, .inil => some false
  | .func, .fnil, .fnil => some true
  | .func, .fnil, .func _ _ _ => some false
  | .func, .func _ _ _, .fnil => some false
  | .map _ _, .mnil, .mnil => some true
  | .map _ _, .mapp _, .mnil => some false
  | _, _, _ => none

def isNilV : Operand → Bool
  | .const (.pointer none) | .const (.slice none 0 0) | .const .nilIface | .const .nilFunc | .const (.map none) => true
  | _ => false

def binF (T : Tys) (op : BinOp) (t : TypeId) (x y : Operand) (ρ : Operand → D) (h : Hint) : Option SR :=
  match ρ x, ρ y with
  | .int k a, .int k' b =>
    match op with
    | .shl => (req h (0 ≤ b)).map fun cs => { v := .int k (k.wrap (a * 2 ^ (min b.toNat k.bits))), cs }
    | .shr => (req h (0 ≤ b)).map fun cs => { v := .int k (a.fdiv (2 ^ (min b.toNat k.bits))), cs }
    | op =>
      if k = k' then
        match op with
        | .add => some { v := .int k (k.wrap (a + b)) }
        | .sub => some { v := .int k (k.wrap (a - b)) }
        | .mul => some { v := .int k (k.wrap (a * b)) }
        | .quo => (req h (b ≠ 0)).map fun cs => { v := .int k (k.wrap (a.tdiv b)), cs }
        | .rem => (req h (b ≠ 0)).map fun cs => { v := .int k (a.tmod b), cs }
        | .and | .or | .xor | .andNot => (bitsD op k a b).map fun n => { v := .int k n }
        | _ => (intCmpD op a b).map fun c => { v := .bool c }
      else none
  | .str a, .str b =>
    match op with
    | .add => (req h (((a.size + b.size : Nat) : Int) ≤ 9223372036854775807)).map fun cs => { v := .str (a ++ b), cs }
    | .eql => some { v := .bool (a.toList == b.toList) }
    | .neq => some { v := .bool (!(a.toList == b.toList)) }
    | .lss => some { v := .bool (Op.bytesLess a.toList b.toList) }
    | .leq => some { v := .bool (Op.bytesLess a.toList b.toList || a.toList == b.toList) }
    | .gtr => some { v := .bool (!(Op.bytesLess a.toList b.toList || a.toList == b.toList)) }
    | .geq => some { v := .bool (!Op.bytesLess a.toList b.toList) }
    | _ => none
  | .bool a, .bool b =>
    match T t with
    | some { k := .bool, .. } =>
      match op with
      | .eql => some { v := .bool (a == b) }
      | .neq => some { v := .bool (!(a == b)) }
      | _ => none
    | _ => none
  | .agg [.int k0 a0, .int k1 a1], .agg [.int l0 b0, .int l1 b1] =>
    match T t with
    | some y =>
      if y.two = true ∧ k0 = l0 ∧ k1 = l1 then
        match op with
        | .eql => some { v := .bool (a0 == b0 && a1 == b1) }
        | .neq => some { v := .bool (!(a0 == b0 && a1 == b1)) }
        | _ => none
      else none
    | none => none
  | a, b =>
    match T t with
    | some y =>
      if isNilV y' || isNilV x then
        match op with
        | .eql => (nilEq y.k a b).map fun c => { v := .bool c }
        | .neq => (nilEq y.k a b).map fun c => { v := .bool !c }
        | _ => none
      else none
    | none => none
where y' : Operand := y

def unF (op : UnOp) (d : D) : Option SR :=
  match op, d with
  | .neg, .int k n => some { v := .int k (k.wrap (0 - n)) }
  | .xor, .int k n => (bitsD .xor k (if k.signed then -1 else k.max) n).map fun m => { v := .int k m }
  | .not, .bool b => some { v := .bool !b }
  | _, _ => none

def byteC (b : UInt8) : List D := [.int .u8 (b.toNat : Int)]
def isByteC : List D → Bool
  | [.int .u8 n] => decide (0 ≤ n) && decide (n < 256)
  | _ => false
def byteOf : List D → UInt8
  | [.int .u8 n] => UInt8.ofNat n.toNat
  | _ => 0
def bytesOf (es : List (List D)) : ByteArray := ⟨(es.map byteOf).toArray⟩

def rowGet (h : Hint) (es : List (List D)) (i : Nat) : Option (List D × List Prop) :=
  match h with
  | .c cells => some (cells, [es[i]? = some cells])
  | _ => match es[i]? with | some c => some (c, []) | none => none

def pickCells (y : Ty) (cs : List D) : Option D :=
  if y.k.isAgg then (if y.size ≤ cs.length then some (.agg (cs.take y.size)) else none)
  else match cs with | d :: _ => some d | [] => none

def loadF (T : Tys) (t : TypeId) (a : D) (g : Nat → Option HObj) (h : Hint) : Option SR :=
  match T t with
  | none => none
  | some y =>
    match a with
    | .sptr cs => (pickCells y cs).map fun d => { v := d }
    | .ptr o i off =>
      match g o with
      | some (.row _ es) => (rowGet h es i).bind fun (c, p) => (pickCells y (c.drop off)).map fun d => { v := d, cs := p }
      | some (.fro _ es) => (rowGet h es i).bind fun (c, p) => (pickCells y (c.drop off)).map fun d => { v := d, cs := p }
      | _ => none
    | _ => none

def storeF (T : Tys) (t : TypeId) (a x : D) (g : Nat → Option HObj) (h : Hint) : Option SR :=
  match T t, a, cellsOf x with
  | some y, .ptr o i off, some nc =>
    match g o with
    | some (.row sz es) => (rowGet h es i).bind fun (c, p) =>
      if nc.length = y.size ∧ off + y.size ≤ c.length then
        some { v := .undef, wr := [(o, some (.row sz (es.set i (c.take off ++ nc ++ c.drop (off + y.size)))))], cs := p }
      else none
    | _ => none
  | _, _, _ => none

def fillD (place : Nat → Option (Nat × Nat)) (cells : List D) : List (Nat × D) → Option (List D)
  | [] => some cells
  | (i, x) :: r =>
    match place i, cellsOf x with
    | some (off, size), some cs => if cs.length = size ∧ off + size ≤ cells.length then fillD place (cells.take off ++ cs ++ cells.drop (off + size)) r else none
    | _, _ => none

def sizes (T : Tys) : List (TypeId × Nat) → Option (List (Nat × Nat))
  | [] => some []
  | (t, off) :: r => match T t, sizes T r with | some y, some l => some ((off, y.size) :: l) | _, _ => none

def buildF (T : Tys) (t : TypeId) (parts : List (Nat × D)) : Option SR :=
  match T t with
  | some { k := .struct fs, zero := .agg z, .. } =>
    match sizes T fs with
    | some l => (fillD (fun i => l[i]?) z parts).map fun cs => { v := .agg cs }
    | none => none
  | some { k := .array _ e, zero := .agg z, .. } =>
    match T e with
    | some y => (fillD (fun i => some (i * y.size, y.size)) z parts).map fun cs => { v := .agg cs }
    | none => none
  | _ => none

/-- The elements of a slice literal. -/
def litEs (sz : Nat) (es : List (List D)) : List (Nat × D) → Option (List (List D))
  | [] => some es
  | (i, x) :: r =>
    match cellsOf x with
    | some cs => if cs.length = sz ∧ i < es.length then litEs sz (es.set i cs) r else none
    | none => none

def purEs : List (List D) → Option (List (List D))
  | [] => some []
  | c :: r => match purs c, purEs r with | some x, some y => some (x :: y) | _, _ => none

def buildSliceF (T : Tys) (t : TypeId) (len : Nat) (parts : List (Nat × D)) (fresh : Nat) (h : Hint) : Option SR :=
  match T t with
  | some { k := .slice e, .. } =>
    match T e with
    | some y =>
      match cellsOf y.zero with
      | some z =>
        if z.length = y.size ∧ len * y.size ≤ 16777216 then
          match litEs y.size (List.replicate len z) parts with
          | some es =>
            if h.isRow then some { v := .view fresh 0 len, wr := [(fresh, some (.row y.size es))] }
            else (purEs es).map fun es' => { v := .slice true es' (if h.noTok then none else some fresh), wr := [(fresh, some (.tok len y.size))] }
          | none => none
        else none
      | none => none
    | none => none
  | _ => none

def makeSliceF (T : Tys) (t : TypeId) (l c : D) (fresh : Nat) (h : Hint) : Option SR :=
  match T t, l, c with
  | some { k := .slice e, .. }, .int .i64 l, .int .i64 c =>
    match T e with
    | some y =>
      match cellsOf y.zero with
      | some z =>
        if z.length = y.size then
          (req h (0 ≤ l ∧ l ≤ c ∧ (y.bytes : Int) * c ≤ 281474976710656 ∧ c ≤ 9223372036854775807)).bind fun cs =>
            if h.isTok then
              match purs z with
              | some z' => some { v := .slice true (List.replicate l.toNat z') (some fresh), wr := [(fresh, some (.tok l.toNat y.size))], cs }
              | none => none
            else some { v := .view fresh 0 l.toNat, wr := [(fresh, some (.row y.size (List.replicate c.toNat z)))], cs }
        else none
      | none => none
    | none => none
  | _, _, _ => none

def fieldOff (T : Tys) (s : TypeId) (f : Nat) : Option Nat :=
  match T s with
  | some { k := .struct fs, .. } =>
    match fs[f]? with
    | some (ft, off) => match T ft with | some y => if y.size = 0 then none else some off | none => none
    | none => none
  | _ => none

def fieldAddrF (T : Tys) (s : TypeId) (x : D) (f : Nat) : Option SR :=
  match fieldOff T s f, x with
  | some off, .ptr o i k => some { v := .ptr o i (k + off) }
  | some off, .sptr cs => some { v := .sptr (cs.drop off) }
  | _, _ => none

def fieldF (T : Tys) (s : TypeId) (x : D) (f : Nat) : Option SR :=
  match T s, x with
  | some { k := .struct fs, .. }, .agg cs =>
    match fs[f]? with
    | some (ft, off) => match T ft with | some y => (pickCells y (cs.drop off)).map fun d => { v := d } | none => none
    | none => none
  | _, _ => none

/-- Elements that lie one behind another. -/
def chunks (sz : Nat) (cs : List D) : Nat → List (List D)
  | 0 => []
  | n + 1 => cs.take sz :: chunks sz (cs.drop sz) n

def indexAddrF (T : Tys) (t : TypeId) (x ix : D) (g : Nat → Option HObj) (h : Hint) : Option SR :=
  match T t, ix with
  | some y, .int _ i =>
    match y.k, x with
    | .array n e, .ptr o i0 off => (T e).bind fun z => (req h (0 ≤ i ∧ i < n)).map fun cs => { v := .ptr o i0 (off + i.toNat * z.size), cs }
    | .array n e, .sptr cs0 => (T e).bind fun z => (req h (0 ≤ i ∧ i < n)).map fun cs =>
        match h with
        | .c cells => { v := .sptr cells, cs := cs ++ [(chunks z.size cs0 n)[i.toNat]? = some cells] }
        | _ => { v := .sptr (cs0.drop (i.toNat * z.size)), cs }
    | .slice e, .slice _ es _ => (T e).bind fun z => (req h (0 ≤ i)).bind fun cs => (rowGet h es i.toNat).bind fun (c, p) =>
        if c.length = z.size then some { v := .sptr c, cs := cs ++ p } else none
    | .slice e, .view o st len => (T e).bind fun z =>
        match g o with
        | some (.row sz _) => if sz = z.size then (req h (0 ≤ i ∧ i < len)).map fun cs => { v := .ptr o (st + i.toNat) 0, cs } else none
        | _ => none
    | _, _ => none
  | _, _ => none

def indexF (T : Tys) (t : TypeId) (x ix : D) (h : Hint) : Option SR :=
  match T t, ix with
  | some y, .int _ i =>
    match y.k, x with
    | .array n e, .agg cs0 => (T e).bind fun z => (req h (0 ≤ i ∧ i < n)).bind fun cs => (pickCells z (cs0.drop (i.toNat * z.size))).map fun d => { v := d, cs }
    | .str, .str s => (req h (0 ≤ i ∧ i < s.size)).map fun cs => { v := .int .u8 ((s.data.getD i.toNat 0).toNat : Int), cs }
    | _, _ => none
  | _, _ => none

/-- The bounds of a slice expression. -/
def boundD (x : Option D) (dflt : Int) : Option Int :=
  match x with
  | none => some dflt
  | some (.int _ n) => some n
  | _ => none

def sliceF (T : Tys) (t : TypeId) (x : D) (lo hi mx : Option D) (g : Nat → Option HObj) (h : Hint) : Option SR :=
  match mx, T t with
  | none, some y =>
    match y.k, x with
    | .str, .str s =>
      (boundD hi s.size).bind fun b => (boundD lo 0).bind fun a =>
        (req h (0 ≤ a ∧ a ≤ b ∧ b ≤ s.size)).map fun cs => { v := .str (s.extract a.toNat b.toNat), cs }
    | .slice e, .slice nn es tok =>
      (T e).bind fun z =>
        match lo, hi with
        | none, none => some { v := .slice nn es tok }
        | none, some (.int _ b) => (req h (0 ≤ b ∧ b ≤ es.length)).map fun cs => { v := .slice nn (es.take b.toNat) none, cs }
        | some (.int _ a), hi =>
          (boundD hi es.length).bind fun b =>
            (req h (0 ≤ a ∧ a ≤ b ∧ b ≤ es.length ∧ es.all (fun c => c.length == z.size) = true)).map fun cs =>
              { v := .slice nn ((es.take b.toNat).drop a.toNat) none, cs }
        | _, _ => none
    | .slice e, .view o st len =>
      match g o, T e with
      | some (.row sz es), some z =>
        if sz = z.size then
          (boundD hi len).bind fun b => (boundD lo 0).bind fun a =>
            (req h (0 ≤ a ∧ a ≤ b ∧ st + b ≤ es.length)).map fun cs => { v := .view o (st + a.toNat) (b - a).toNat, cs }
        else none
      | _, _ => none
    | .array n e, .sptr cs0 =>
      match lo, hi with
      | none, none => (T e).bind fun z => if cs0.all D.one = true ∧ n * z.size ≤ cs0.length then some { v := .slice true (chunks z.size cs0 n) none } else none
      | _, _ => none
    | _, _ => none
  | _, _ => none

/-- What is put behind, or copied: its elements. -/
def srcEs (d : D) (g : Nat → Option HObj) : Option (List (List D)) :=
  match d with
  | .slice _ ys _ => some ys
  | .str s => some (s.data.toList.map byteC)
  | .view o st len => match g o with | some (.row _ es) => some ((es.drop st).take len) | _ => none
  | _ => none

def srcPure : D → Bool
  | .view _ _ _ => false
  | _ => true

def strFits : D → Nat → Bool
  | .str _, n => n == 1
  | _, _ => true
def viewFits : D → Nat → Bool
  | .view _ _ len, n => n == len
  | _, _ => true

/-- A view is read to its end. -/
def viewReq (x : D) (n : Nat) (h : Hint) : Option (List Prop) :=
  match x with
  | .view _ _ len => if h.isAuto then (if n = len then some [] else none) else some [n = len]
  | _ => some []

def purC (c : List D) : Bool := match purs c with | some _ => true | none => false
def purStrip (ys : List (List D)) : List (List D) := ys.map fun c => (purs c).getD []

/-- Behind a slice that may be extended. -/
def appTok (y : Ty) (nn : Bool) (es : List (List D)) (tk n : Nat) (x : D) (ys : List (List D)) (h : Hint) : Option SR :=
  if srcPure x then
    (req h (es.length = n ∧ (es.length + ys.length) * y.bytes ≤ 140737488355328 ∧ ys.all (fun c => c.length == y.size) = true)).map fun cs =>
      { v := .slice (nn || !ys.isEmpty) (es ++ ys) (some tk), wr := [(tk, some (.tok (n + ys.length) y.size))], cs }
  else
    (req h (es.length = n ∧ (es.length + ys.length) * y.bytes ≤ 140737488355328 ∧ ys.all (fun c => c.length == y.size) = true ∧ ys.all purC = true)).map fun cs =>
      { v := .slice (nn || !ys.isEmpty) (es ++ purStrip ys) (some tk), wr := [(tk, some (.tok (n + ys.length) y.size))], cs }

/-- Behind nil. -/
def appNil (y : Ty) (x : D) (ys : List (List D)) (fresh : Nat) (h : Hint) : Option SR :=
  if h.isRow then
    (req h (ys.length * y.bytes ≤ 140737488355328 ∧ ys.all (fun c => c.length == y.size) = true ∧ 0 < ys.length)).map fun cs =>
      { v := .view fresh 0 ys.length, wr := [(fresh, some (.row y.size ys))], cs }
  else if srcPure x then
    (req h (ys.length * y.bytes ≤ 140737488355328 ∧ ys.all (fun c => c.length == y.size) = true)).map fun cs =>
      { v := .slice (!ys.isEmpty) ys (some fresh), wr := [(fresh, some (.tok ys.length y.size))], cs }
  else
    (req h (ys.length * y.bytes ≤ 140737488355328 ∧ ys.all (fun c => c.length == y.size) = true ∧ ys.all purC = true)).map fun cs =>
      { v := .slice (!ys.isEmpty) (purStrip ys) (some fresh), wr := [(fresh, some (.tok ys.length y.size))], cs }

/-- Behind a row: within what is known of it, or beyond. -/
def appIn (y : Ty) (o st len : Nat) (es ys : List (List D)) (h : Hint) : Option SR :=
  (req h (st + len + ys.length ≤ es.length ∧ ys.all (fun c => c.length == y.size) = true ∧ 0 < ys.length)).map fun cs =>
    { v := .view o st (len + ys.length), wr := [(o, some (.row y.size (es.take (st + len) ++ ys ++ es.drop (st + len + ys.length))))], cs }

def appOut (y : Ty) (o st len : Nat) (es ys : List (List D)) (fresh : Nat) (h : Hint) : Option SR :=
  (req h (st = 0 ∧ es.length < len + ys.length ∧ len ≤ es.length ∧ (len + ys.length) * y.bytes ≤ 140737488355328 ∧ ys.all (fun c => c.length == y.size) = true)).map fun cs =>
    { v := .view fresh 0 (len + ys.length), wr := [(o, some .dead), (fresh, some (.row y.size (es.take len ++ ys)))], cs }

/-- Behind all that is known of a row, however much (or nothing). -/
def appEnd (y : Ty) (o st len : Nat) (es ys : List (List D)) (fresh : Nat) (h : Hint) : Option SR :=
  (req h (st = 0 ∧ es.length = len ∧ 0 < len ∧ (len + ys.length) * y.bytes ≤ 140737488355328 ∧ ys.all (fun c => c.length == y.size) = true)).map fun cs =>
    { v := .view fresh 0 (len + ys.length), wr := [(o, some .dead), (fresh, some (.row y.size (es ++ ys)))], cs }

/-- Behind so many elements, whatever lay there: the object goes on under a new name. -/
def appAny (y : Ty) (o st len : Nat) (es ys : List (List D)) (fresh : Nat) (h : Hint) : Option SR :=
  (req h (st = 0 ∧ 0 < len + ys.length ∧ len ≤ es.length ∧ (len + ys.length) * y.bytes ≤ 140737488355328 ∧ ys.all (fun c => c.length == y.size) = true)).map fun cs =>
    { v := .view fresh 0 (len + ys.length), wr := [(o, some .dead), (fresh, some (.row y.size (es.take len ++ ys)))], cs }

def appCore (y : Ty) (s x : D) (ys : List (List D)) (g : Nat → Option HObj) (fresh : Nat) (h : Hint) : Option SR :=
          match s with
          | .slice nn es (some tk) =>
            match g tk with
            | some (.tok n sz) => if sz = y.size then appTok y nn es tk n x ys h else none
            | _ => none
          | .slice false [] none => appNil y x ys fresh h
          | .view o st len =>
            match g o with
            | some (.row sz es) =>
              if sz = y.size then
                match h with
                | .b true => appIn y o st len es ys h
                | .b false => appOut y o st len es ys fresh h
                | .row => appEnd y o st len es ys fresh h
                | .c [] => appAny y o st len es ys fresh h
                | h => if h.isAuto then (if st + len + ys.length ≤ es.length then appIn y o st len es ys h else appOut y o st len es ys fresh h) else none
              else none
            | _ => none
          | _ => none

def appendF (T : Tys) (t : TypeId) (s x : D) (g : Nat → Option HObj) (fresh : Nat) (h : Hint) : Option SR :=
  match T t, srcEs x g with
  | some { k := .slice e, .. }, some ys =>
    match T e with
    | some y =>
      match cellsOf y.zero with
      | some z =>
        if z.length = y.size ∧ 0 < y.bytes ∧ strFits x y.size then
          (viewReq x ys.length h).bind fun c0 => (appCore y s x ys g fresh h).map fun r => { r with cs := c0 ++ r.cs }
        else none
      | none => none
    | none => none
  | _, _ => none

def copyF (T : Tys) (t : TypeId) (d s : D) (g : Nat → Option HObj) (h : Hint) : Option SR :=
  match T t, srcEs s g, d with
  | some { k := .slice e, .. }, some ys, .view o st len =>
    match T e, g o with
    | some y, some (.row sz es) =>
      if strFits s y.size ∧ sz = y.size then
        (viewReq s ys.length h).bind fun c0 => (req h (st + len ≤ es.length ∧ ys.all (fun c => c.length == y.size) = true)).map fun cs =>
          { v := .int .i64 ((min ys.length len : Nat) : Int), wr := [(o, some (.row y.size (es.take st ++ ys.take len ++ es.drop (st + min ys.length len))))], cs := c0 ++ cs }
      else none
    | _, _ => none
  | _, _, _ => none

def lenF (T : Tys) (t : TypeId) (x : D) : Option SR :=
  match T t with
  | some y =>
    match y.k, x with
    | .str, .str s => some { v := .int .i64 (s.size : Int) }
    | .array n _, _ => some { v := .int .i64 (n : Int) }
    | .slice _, .slice _ es _ => some { v := .int .i64 (es.length : Int) }
    | .slice _, .view _ _ len => some { v := .int .i64 (len : Int) }
    | _, _ => none
  | none => none

/-- Where a key is. -/
def findI : List Int → Int → Nat → Option Nat
  | [], _, _ => none
  | a :: r, n, i => if n = a then some i else findI r n (i + 1)
theorem findI_eq : ∀ (ks : List Int) (n : Int) (i0 i : Nat), findI ks n i0 = some i → ks[i - i0]? = some n ∧ i0 ≤ i
  | [], _, _, _, h => by simp [findI] at h
  | a :: r, n, i0, i, h => by
    unfold findI at h
    split at h
    · rename_i e
      obtain rfl := Option.some.inj h
      subst e
      simp
    · obtain ⟨h1, h2⟩ := findI_eq r n (i0 + 1) i h
      have e : i - i0 = (i - (i0 + 1)) + 1 := by omega
      rw [e]
      exact ⟨by simpa using h1, by omega⟩

/-- Does the hint say: the last one? -/
def Hint.isLast : Hint → Bool
  | .b true => true
  | _ => false
/-- Where a key is, as the hint says. -/
def findH (h : Hint) (ks : List Int) (n : Int) : Option Nat × List Prop :=
  match h with
  | .b true => (some (ks.length - 1), [findI ks n 0 = some (ks.length - 1)])
  | .b false => (none, [findI ks n 0 = none])
  | _ => (findI ks n 0, [])
theorem findH_ok {h : Hint} {ks : List Int} {n : Int} (hc : ∀ c ∈ (findH h ks n).2, c) : findI ks n 0 = (findH h ks n).1 := by
  unfold findH at hc ⊢
  split
  · exact hc _ (by simp)
  · exact hc _ (by simp)
  · rfl

def makeMapF (T : Tys) (t : TypeId) (r : Option D) (fresh : Nat) : Option SR :=
  match T t with
  | some { k := .map kt et, .. } =>
    match T kt with
    | some { k := .int k, .. } =>
      match r with
      | none => some { v := .mapp fresh, wr := [(fresh, some (.mp k [] []))] }
      | _ => none
    | _ => none
  | _ => none

def lookupF (T : Tys) (t : TypeId) (x ix : D) (ok : Bool) (g : Nat → Option HObj) (h : Hint) : Option SR :=
  match T t, x, ix with
  | some { k := .map kt et, .. }, .mapp o, .int k n =>
    match T kt, T et, g o with
    | some { k := .int k1, .. }, some y, some (.mp k2 ks vs) =>
      if k1 = k ∧ k2 = k then
        if h.isRow then some { v := if ok then .tuple [.undef, .bool true] else .undef, cs := [findI ks n 0 ≠ none] } else
        if h.isLast then (match vs.getLast? with | some v => some { v := if ok then .tuple [v, .bool true] else v, cs := [findI ks n 0 = some (ks.length - 1)] } | none => none) else
        match (findH h ks n).1 with
        | some i =>
          if ks.length - vs.length ≤ i then
            match vs[i - (ks.length - vs.length)]? with | some v => some { v := if ok then .tuple [v, .bool true] else v, cs := (findH h ks n).2 } | none => none
          else none
        | none => (cellsOf y.zero).map fun _ => { v := if ok then .tuple [y.zero, .bool false] else y.zero, cs := (findH h ks n).2 }
      else none
    | _, _, _ => none
  | _, _, _ => none

def mapUpdateF (T : Tys) (t : TypeId) (x ix v : D) (g : Nat → Option HObj) (h : Hint) : Option SR :=
  match T t, x, ix with
  | some { k := .map kt et, .. }, .mapp o, .int k n =>
    match T kt, g o with
    | some { k := .int k1, .. }, some (.mp k2 ks vs) =>
      if k1 = k ∧ k2 = k then
        match h with
        | .b false => some { v := .undef, wr := [(o, some (.mp k (ks ++ [n]) (vs ++ [v])))], cs := [findI ks n 0 = none] }
        | .row => some { v := .undef, wr := [(o, some (.mp k ks []))], cs := [findI ks n 0 ≠ none] }
        | _ =>
          match findI ks n 0 with
          | some i => if ks.length - vs.length ≤ i then some { v := .undef, wr := [(o, some (.mp k ks (vs.set (i - (ks.length - vs.length)) v)))] } else none
          | none => some { v := .undef, wr := [(o, some (.mp k (ks ++ [n]) (vs ++ [v])))] }
      else none
    | _, _ => none
  | _, _, _ => none

/-- Nothing of a slice, and no room behind it. -/
def slice3F (T : Tys) (t : TypeId) (x : D) (lo hi mx : Option D) (fresh : Nat) : Option SR :=
  match T t, lo, hi, mx with
  | some { k := .slice e, .. }, none, some (.int _ b), some (.int _ c) =>
    if b = 0 ∧ c = 0 then
      match T e, x with
      | some z, .slice true es _ => some { v := .slice true [] (some fresh), wr := [(fresh, some (.tok 0 z.size))] }
      | some z, .slice false [] none => some { v := .slice false [] none }
      | some z, .view _ _ _ => some { v := .slice true [] (some fresh), wr := [(fresh, some (.tok 0 z.size))] }
      | _, _ => none
    else none
  | _, _, _, _ => none

/-- How many a map has. -/
def lenMF (T : Tys) (t : TypeId) (o : Nat) (g : Nat → Option HObj) : Option SR :=
  match T t, g o with
  | some { k := .map _ _, .. }, some (.mp _ ks _) => some { v := .int .i64 (ks.length : Int) }
  | _, _ => none

/-- A key's place is taken out. -/
def delK (ks : List Int) (n : Int) : List Int := ks.eraseIdx ((findI ks n 0).getD 0)

def deleteF (T : Tys) (t : TypeId) (x ix : D) (g : Nat → Option HObj) (h : Hint) : Option SR :=
  match T t, x, ix with
  | some { k := .map kt et, .. }, .mapp o, .int k n =>
    match T kt, g o with
    | some { k := .int k1, .. }, some (.mp k2 ks vs) =>
      if k1 = k ∧ k2 = k then
        if h.isRow then some { v := .tuple [], wr := [(o, some (.mp k (delK ks n) []))], cs := [findI ks n 0 ≠ none] } else
        match findI ks n 0 with
        | some i => if ks.length - vs.length ≤ i then some { v := .tuple [], wr := [(o, some (.mp k (ks.eraseIdx i) (vs.eraseIdx (i - (ks.length - vs.length)))))] } else none
        | none => some { v := .tuple [], wr := [(o, some (.mp k ks vs))] }
      else none
    | _, _ => none
  | _, _, _ => none

def minD : D → D → Option D
  | .int k x, .int _ y => some (.int k (if y < x then y else x))
  | _, _ => none
def maxD : D → D → Option D
  | .int k x, .int _ y => some (.int k (if y > x then y else x))
  | _, _ => none
def foldD (f : D → D → Option D) : D → List D → Option D
  | d, [] => some d
  | d, x :: r => match f d x with | some e => foldD f e r | none => none

def builtinF (T : Tys) (b : Builtin) (ts : List TypeId) (args : List D) (g : Nat → Option HObj) (fresh : Nat) (h : Hint) : Option SR :=
  match b, ts, args with
  | .len, t :: _, .mapp o :: _ => lenMF T t o g
  | .len, t :: _, x :: _ => lenF T t x
  | .delete, t :: _, [x, ix] => deleteF T t x ix g h
  | .append, [t, u], [s, x] => match T u with | some y => (match y.k with | .int _ => none | _ => appendF T t s x g fresh h) | none => none
  | .copy, t :: _, [d, s] => copyF T t d s g h
  | .min, _, x :: r => (foldD minD x r).map fun d => { v := d }
  | .max, _, x :: r => (foldD maxD x r).map fun d => { v := d }
  | _, _, _ => none

def convertF (T : Tys) (src dst : TypeId) (x : D) (g : Nat → Option HObj) (fresh : Nat) (h : Hint) : Option SR :=
  match T src, T dst with
  | some s, some d =>
    match d.k, x with
    | .int k, .int _ n => some { v := .int k (k.wrap n) }
    | .str, .str s => some { v := .str s }
    | .slice e, .slice true es (some t) =>
      match T e, g t with
      | some { k := .int .u8, .. }, some (.tok n sz) =>
        if src = dst ∧ 0 < es.length ∧ n = es.length then some { v := .slice true es none, wr := [(t, some .dead)] } else none
      | _, _ => none
    | .slice e, .str st =>
      match s.k, T e with
      | .str, some { k := .int .u8, .. } =>
        if h.isRow then some { v := .view fresh 0 st.size, wr := [(fresh, some (.row 1 (st.data.toList.map byteC)))] }
        else some { v := .slice true (st.data.toList.map byteC) (some fresh), wr := [(fresh, some (.tok st.size 1))] }
      | _, _ => none
    | .str, x =>
      match s.k with
      | .slice e =>
        match T e, srcEs x g with
        | some { k := .int .u8, .. }, some es => (viewReq x es.length h).bind fun c0 => (req h (es.all isByteC = true)).map fun cs => { v := .str (bytesOf es), cs := c0 ++ cs }
        | _, _ => none
      | _ => none
    | _, _ => none
  | _, _ => none

def pickF (c a b : D) (h : Hint) : Option SR :=
  match c, h with
  | .bool x, .b k => some { v := if k then a else b, cs := [x = k] }
  | .bool x, _ => if h.isAuto then some { v := if x then a else b } else none
  | _, _ => none

def nilCheckF : D → Option SR
  | .ptr o i off => some { v := .ptr o i off }
  | .sptr cs => some { v := .sptr cs }
  | .func (.func f) a b => some { v := .func (.func f) a b }
  | .iface t v => some { v := .iface t v }
  | _ => none

def extractF (x : D) (i : Nat) : Option SR :=
  match x with
  | .tuple vs => match vs[i]? with | some d => some { v := d } | none => none
  | _ => none

def typeAssertF (T : Tys) (x : D) (asserted : TypeId) (ok : Bool) : Option SR :=
  match T asserted, x with
  | some y, .iface t v =>
    match y.k with
    | .iface => none
    | _ => if t = asserted then some { v := if ok then .tuple [v, .bool true] else v } else none
  | _, _ => none

/-- One operation that is no call of a function. -/
def stepF (T : Tys) (o : Oper) (ρ : Operand → D) (g : Nat → Option HObj) (fresh : Nat) (h : Hint) : Option SR :=
  match o.op with
  | .move x | .assign x => some { v := ρ x }
  | .pick c a b => pickF (ρ c) (ρ a) (ρ b) h
  | .alloc e => match T e with | some y => (cellsOf y.zero).map fun z => { v := .ptr fresh 0 0, wr := [(fresh, some (.row z.length [z]))] } | none => none
  | .box _ x =>
    if h.isTok then (cellsOf (ρ x)).bind fun z => (purs z).map fun z' => { v := .sptr z' }
    else (cellsOf (ρ x)).map fun z => { v := .ptr fresh 0 0, wr := [(fresh, some (.row z.length [z]))] }
  | .build t parts => buildF T t (parts.toList.map fun p => (p.1, ρ p.2))
  | .buildSlice t len parts => buildSliceF T t len (parts.toList.map fun p => (p.1, ρ p.2)) fresh h
  | .load t a => loadF T t (ρ a) g h
  | .store t a x => storeF T t (ρ a) (ρ x) g h
  | .nilCheck x => nilCheckF (ρ x)
  | .binOp op t x y _ => binF T op t x y ρ h
  | .unOp op _ x => unF op (ρ x)
  | .convert s d x => convertF T s d (ρ x) g fresh h
  | .makeInterface t x => match T t with | some y => (match y.k with | .iface => none | _ => some { v := .iface t (ρ x) }) | none => none
  | .makeFunc fn a b => some { v := .func fn (a.toList.map ρ) (b.toList.map ρ) }
  | .makeSlice t l c => makeSliceF T t (ρ l) (ρ c) fresh h
  | .slice t x lo hi mx => if mx.isSome then slice3F T t (ρ x) (lo.map ρ) (hi.map ρ) (mx.map ρ) fresh else sliceF T t (ρ x) (lo.map ρ) (hi.map ρ) (mx.map ρ) g h
  | .fieldAddr s x f => fieldAddrF T s (ρ x) f
  | .field s x f => fieldF T s (ρ x) f
  | .indexAddr t x i => indexAddrF T t (ρ x) (ρ i) g h
  | .index t x i => indexF T t (ρ x) (ρ i) h
  | .extract x i => extractF (ρ x) i
  | .typeAssert x _ a ok => typeAssertF T (ρ x) a ok
  | .makeMap t r => makeMapF T t (r.map ρ) fresh
  | .lookup t x ix ok => lookupF T t (ρ x) (ρ ix) ok g h
  | .mapUpdate t m k x => mapUpdateF T t (ρ m) (ρ k) (ρ x) g h
  | .call { callee := .builtin b, args, argTypes } => builtinF T b argTypes.toList (args.toList.map ρ) g fresh h
  | _ => none

end Go.Proofs.Ytifpbdhggooelaa.GD
