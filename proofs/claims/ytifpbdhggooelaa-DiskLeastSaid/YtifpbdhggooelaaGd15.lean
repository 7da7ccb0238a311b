/- The code of a function on data: what it comes to. Definitions. -/
import Derived.Test.YtifpbdhggooelaaGd14
namespace Go.Proofs.Ytifpbdhggooelaa.GD
open Go
set_option linter.unusedVariables false

structure St where
  env : List D
  H : Heap

def putEnv (env : List D) (dst : Option Nat) (v : D) : List D :=
  match dst with
  | some d => env.set d v
  | none => env

inductive Ex where
  | normal
  | exit (id : Nat)
  | ret

def Ex.to : Ex → Exit
  | .normal => .normal
  | .exit id => .exit id
  | .ret => .ret

/-- Is the operation wanted? -/
def GuardOk (all : Array Oper) (o : Oper) (env : List D) (c : Bool) : Prop :=
  (o.guard = none ∧ c = true) ∨ (∃ j want d b, o.guard = some (j, want) ∧ (all[j]?).bind (·.dst) = some d ∧ env[d]? = some (.bool b) ∧ (b == want) = c) ∨
  ∃ j want d, o.guard = some (j, want) ∧ (all[j]?).bind (·.dst) = some d ∧ env[d]? = some .non ∧ c = false

mutual
/-- Are all names of objects in a datum of a kind? -/
def refsOk (p : Nat → Bool) : D → Bool
  | .ptr o _ _ => p o
  | .view o _ _ => p o
  | .mapp o => p o
  | .iter o => p o
  | .slice _ _ (some t) => p t
  | .agg cs => refsAll p cs
  | .tuple cs => refsAll p cs
  | .func _ a b => refsAll p a && refsAll p b
  | .iface _ v => refsOk p v
  | _ => true
def refsAll (p : Nat → Bool) : List D → Bool
  | [] => true
  | d :: r => refsOk p d && refsAll p r
end

def objRefs (p : Nat → Bool) : Option HObj → Bool
  | some (.row _ es) => es.all (refsAll p)
  | some (.mp _ _ vs) => refsAll p vs
  | _ => true

def below (h : Nat) (o : Nat) : Bool := o < h

def maskEnv (keep : List Nat) (env : List D) : List D := env.mapIdx fun i d => if keep.contains i then d else .undef

/-- What is kept: some slots, the first objects. -/
def St.keep (s : St) (keep : List Nat) (h : Nat) : St := ⟨maskEnv keep s.env, s.H.take h⟩
def St.keepOk (s : St) (keep : List Nat) (h : Nat) : Bool := refsAll (below h) (maskEnv keep s.env) && (s.H.take h).all (objRefs (below h))

/-- A method of a type, reached straight. -/
def MethOk (P : Program) (t : TypeId) (name : String) (f : FuncId) : Prop :=
  ∃ i m pr, P.info? t = some i ∧ i.methods.find? (·.name == name) = some m ∧ m.path = #[] ∧ m.func = some (f, pr) ∧
    ((∃ e, P.underlying t = some (.pointer e) ∧ pr = true) ∨ (∃ d, P.underlying t = some d ∧ (∀ e, d ≠ .pointer e) ∧ pr = false))

/-- A method of what a pointer's type points to: it is handed what lies there. -/
def MethL (P : Program) (t : TypeId) (name : String) (f : FuncId) (e : TypeId) : Prop :=
  ∃ i m, P.info? t = some i ∧ i.methods.find? (·.name == name) = some m ∧ m.path = #[] ∧ m.func = some (f, false) ∧ P.underlying t = some (.pointer e)

/-- What lies behind a pointer. -/
def ldOf (T : Tys) (H : Heap) (e : TypeId) (v : D) : Option D := (loadF T e v (hget H) .sym).map (·.v)
def noLd (e : TypeId) (v : D) : Option D := none

/-- Which function is called, with what ('ld': what lies behind a pointer). -/
inductive Tgt (P : Program) (ρ : Operand → D) (ld : TypeId → D → Option D) : Call → FuncId → List D → Prop
  | value (f : Operand) (args : Array Operand) (ts : Array TypeId) (k : FuncId) (fi ca : List D) (h : ρ f = .func (.func k) fi ca) :
      Tgt P ρ ld { callee := .value f, args, argTypes := ts } k (fi ++ args.toList.map ρ ++ ca)
  | invoke (recv : Operand) (name : String) (args : Array Operand) (ts : Array TypeId) (t : TypeId) (v : D) (k : FuncId) (h : ρ recv = .iface t v) (hm : MethOk P t name k) :
      Tgt P ρ ld { callee := .invoke recv name, args, argTypes := ts } k (v :: args.toList.map ρ)
  | invokeL (recv : Operand) (name : String) (args : Array Operand) (ts : Array TypeId) (t : TypeId) (v : D) (k : FuncId) (e : TypeId) (d : D) (h : ρ recv = .iface t v) (hm : MethL P t name k e) (hd : ld e v = some d) :
      Tgt P ρ ld { callee := .invoke recv name, args, argTypes := ts } k (d :: args.toList.map ρ)

/-- The results of a function. -/
def resOne (T : Tys) (env : List D) (H : Heap) : ResultVar → Option D
  | .tmp t => some (env.getD t .undef)
  | .cell a t => match loadF T t (env.getD a .undef) (hget H) .sym with | some r => some r.v | none => none

def resAll (T : Tys) (env : List D) (H : Heap) : List ResultVar → Option (List D)
  | [] => some []
  | x :: r => match resOne T env H x, resAll T env H r with | some d, some l => some (d :: l) | _, _ => none

def resD (T : Tys) (fn : Func) (env : List D) (H : Heap) : Option D :=
  match resAll T env H fn.results.toList with
  | some [d] => some d
  | some l => some (.tuple l)
  | none => none

/-- A library function without a body that only looks at what cannot turn. -/
def ExtOk (P : Program) (f : FuncId) (args : List D) (r : D) : Prop :=
  ∀ (I : Im) (w : World) (vs : Array Value), args.length = vs.size → (∀ (i : Nat) d v, args[i]? = some d → vs[i]? = some v → RepP I w d v) →
    ∃ v, (callFunc f vs).run P w = .ok (.value v) w ∧ RepP I w r v

/-- What a call hands back, its own objects being left behind: views are cut out of their rows. -/
inductive Froz (H : Heap) : D → D → Prop
  | pure (d d' : D) (h : pur d = some d') : Froz H d d'
  | view (o st len sz : Nat) (es es' : List (List D)) (ho : hget H o = some (.row sz es)) (hle : st + len ≤ es.length) (hp : ((es.drop st).take len).all purC = true) (he : es' = purStrip ((es.drop st).take len)) :
      Froz H (.view o st len) (.slice true es' none)
  | agg (ds es : List D) (hl : ds.length = es.length) (h : ∀ (i : Nat) d e, ds[i]? = some d → es[i]? = some e → Froz H d e) : Froz H (.agg ds) (.agg es)
  | tuple (ds es : List D) (hl : ds.length = es.length) (h : ∀ (i : Nat) d e, ds[i]? = some d → es[i]? = some e → Froz H d e) : Froz H (.tuple ds) (.tuple es)

def FrozAll (H : Heap) (as bs : List D) : Prop := as.length = bs.length ∧ ∀ (i : Nat) d e, as[i]? = some d → bs[i]? = some e → Froz H d e

mutual
/-- Data that lie in no memory. -/
def flatD : D → Bool
  | .bool _ => true
  | .int _ _ => true
  | .str _ => true
  | .pnil => true
  | .inil => true
  | .slice nn es t => !nn && es.isEmpty && t.isNone
  | .agg cs => flatDs cs
  | .tuple vs => flatDs vs
  | _ => false
def flatDs : List D → Bool
  | [] => true
  | d :: r => flatD d && flatDs r
end

mutual
/-- The objects that are looked at where views are cut out. -/
def viewsD : D → List Nat
  | .view o _ _ => [o]
  | .agg cs => viewsDs cs
  | .tuple vs => viewsDs vs
  | _ => []
def viewsDs : List D → List Nat
  | [] => []
  | d :: r => viewsD d ++ viewsDs r
end

/-! ### other names for objects -/
mutual
/-- A datum with other names for its objects; what may be extended there may not here, where its token has no name. -/
def ren (f : Nat → Option Nat) : D → Option D
  | .ptr o i off => match f o with | some j => some (.ptr j i off) | none => none
  | .view o st len => match f o with | some j => some (.view j st len) | none => none
  | .mapp o => match f o with | some j => some (.mapp j) | none => none
  | .iter o => match f o with | some j => some (.iter j) | none => none
  | .slice nn es none => some (.slice nn es none)
  | .slice nn es (some t) => some (.slice nn es (f t))
  | .agg cs => match rens f cs with | some l => some (.agg l) | none => none
  | .tuple cs => match rens f cs with | some l => some (.tuple l) | none => none
  | .func fn a b => match rens f a, rens f b with | some x, some y => some (.func fn x y) | _, _ => none
  | .iface t v => match ren f v with | some x => some (.iface t x) | none => none
  | .undef => some .undef
  | .non => some .non
  | .bool b => some (.bool b)
  | .int k n => some (.int k n)
  | .str s => some (.str s)
  | .pnil => some .pnil
  | .sptr cs => some (.sptr cs)
  | .fnil => some .fnil
  | .inil => some .inil
  | .mnil => some .mnil
def rens (f : Nat → Option Nat) : List D → Option (List D)
  | [] => some []
  | d :: r => match ren f d, rens f r with | some x, some y => some (x :: y) | _, _ => none
end

def renEs (f : Nat → Option Nat) : List (List D) → Option (List (List D))
  | [] => some []
  | c :: r => match rens f c, renEs f r with | some x, some y => some (x :: y) | _, _ => none

def renO (f : Nat → Option Nat) : Option HObj → Option (Option HObj)
  | some (.row sz es) => match renEs f es with | some l => some (some (.row sz l)) | none => none
  | some (.mp k ks vs) => match rens f vs with | some l => some (some (.mp k ks l)) | none => none
  | x => some x

def renH (f : Nat → Option Nat) : Heap → Option Heap
  | [] => some []
  | x :: r => match renO f x, renH f r with | some y, some l => some (y :: l) | _, _ => none

def idx : List Nat → Nat → Nat → Option Nat
  | [], _, _ => none
  | p :: r, n, o => if p = o then some n else idx r (n + 1) o

/-- The caller's names of the callee's objects. -/
def back (fp : List Nat) (c h : Nat) (j : Nat) : Option Nat := if j < fp.length then fp[j]? else if j < h then some (c + (j - fp.length)) else none

def setAll {α : Type} (l : List α) : List (Nat × α) → List α
  | [] => l
  | (o, x) :: r => setAll (l.set o x) r

/-- What is written for the objects of a callee. -/
def wrB (ρ : Nat → Option Nat) {α : Type} : Nat → List α → List (Nat × α)
  | _, [] => []
  | j, x :: r => match ρ j with | some o => (o, x) :: wrB ρ (j + 1) r | none => wrB ρ (j + 1) r

/-- A call that is handed some of the objects, under the names 0, 1, .. -/
structure Framed (s : St) (f : Nat) (args : List D) (r : D) (H1 : Heap) (fp : List Nat) (h : Nat) (args' : List D) (H0 : Heap) (r' : D) (W : List (Nat × Option HObj)) : Prop where
  nd : fp.Nodup
  lt : ∀ p ∈ fp, p < s.H.length
  out : ∀ p ∈ fp, p < f ∨ f + (h - fp.length) ≤ p
  hle : fp.length ≤ h
  ha : rens (idx fp 0) args = some args'
  h0 : renH (idx fp 0) (fp.map (hget s.H)) = some H0
  hr : ren (back fp f h) r = some r'
  hw : ∃ H1', renH (back fp f h) (H1.take h) = some H1' ∧ W = wrB (back fp f h) 0 H1'

/-- What one operation of a region does, whatever its place in the order. -/
structure Lab where
  val : D
  rd : List Nat
  wr : List (Nat × Option HObj)

def oidsOf : D → List Nat
  | .ptr o _ _ => [o]
  | .view o _ _ => [o]
  | .slice _ _ (some t) => [t]
  | .mapp o => [o]
  | _ => []

/-- Which objects an operation looks at. -/
def rdsF (o : Oper) (ρ : Operand → D) : List Nat :=
  match o.op with
  | .load _ a => oidsOf (ρ a)
  | .store _ a _ => oidsOf (ρ a)
  | .indexAddr _ x _ => oidsOf (ρ x)
  | .slice _ x _ _ _ => oidsOf (ρ x)
  | .convert _ _ x => oidsOf (ρ x)
  | .lookup _ x _ _ => oidsOf (ρ x)
  | .mapUpdate _ x _ _ => oidsOf (ρ x)
  | .call { callee := .builtin _, args, .. } => args.toList.flatMap fun x => oidsOf (ρ x)
  | _ => []

def updSt (o : Oper) (L : Lab) (s : St) : St := ⟨putEnv s.env o.dst L.val, setAll s.H L.wr⟩

/-- The state behind those operations of a region that are in a set, in the order of the text. -/
def runSet : List (Nat × Oper × Lab) → (Nat → Bool) → St → St
  | [], _, s => s
  | p :: r, E, s => runSet r E (if E p.1 then updSt p.2.1 p.2.2 s else s)

def labList : Nat → List Oper → List Lab → List (Nat × Oper × Lab)
  | i, o :: os, L :: Ls => (i, o, L) :: labList (i + 1) os Ls
  | _, _, _ => []

def looksOf (ops : Array Oper) (o : Oper) : List Nat :=
  (o.op.operands.toList.filterMap fun | .tmp t => some t | _ => none) ++
  (match o.guard with
   | some (g, _) => ((ops[g]?).bind (·.dst)).toList
   | none => [])

def disj (a b : List Nat) : Bool := a.all fun x => !b.contains x

def dstL (o : Oper) : List Nat := o.dst.toList

/-- Does the one leave alone what the other looks at and writes? -/
def indepB (ops : Array Oper) (p q : Oper × Lab) : Bool :=
  disj (dstL p.1) (looksOf ops q.1 ++ dstL q.1) && disj (dstL q.1) (looksOf ops p.1) &&
  disj (p.2.wr.map (·.1)) (q.2.rd ++ q.2.wr.map (·.1)) && disj (q.2.wr.map (·.1)) p.2.rd

def maskOf (m : List Nat) (o : Oper) : Nat := o.after.toList.foldl (fun a e => if Region.binds .any e then a ||| 2 ^ e.on ||| m.getD e.on 0 else a) 0

/-- May the operations of a region be carried out in any order that its edges allow? -/
def orderB (ops : Array Oper) (c K : Nat) (Ls : List Lab) (m : List Nat) : Bool :=
  let l := labList 0 ops.toList Ls
  (l.all fun p => p.2.1.after.toList.all fun e => !Region.binds .any e || decide (e.on < p.1)) &&
  (l.all fun p => m.getD p.1 0 == maskOf m p.2.1) &&
  (l.all fun q => l.all fun p => !(decide (p.1 < q.1)) || (m.getD q.1 0).testBit p.1 || ((!(m.getD p.1 0).testBit q.1) && indepB ops p.2 q.2)) &&
  (l.all fun p => p.2.2.wr.all fun x => decide (x.1 < c) || ((x.1 - c) / K == p.1) || (m.getD p.1 0).testBit ((x.1 - c) / K))

/-- The objects that a call made, those that it was handed being set aside. -/
def cutH (h : Nat) (H : Heap) : Heap := List.replicate h (some .dead) ++ H.drop h

inductive Jd where
  | code (n : Nat) (c : Code) (s : St) (e : Ex) (s' : St)
  | ops (n : Nat) (all : Array Oper) (l : List Oper) (s s' : St)
  | call (f : FuncId) (args : List D) (H : Heap) (r : D) (H' : Heap)
  | lab (all : Array Oper) (o : Oper) (f K : Nat) (s : St) (L : Lab)

inductive Ev (P : Program) (T : Tys) : Jd → Prop
  | skip (n : Nat) (s : St) : Ev P T (.code n .skip s .normal s)
  | seqN (n : Nat) (x y : Code) (s s1 s2 : St) (e : Ex) : Ev P T (.code n x s .normal s1) → Ev P T (.code n y s1 e s2) → Ev P T (.code n (.seq x y) s e s2)
  | seqX (n : Nat) (x y : Code) (s s1 : St) (e : Ex) (he : e ≠ .normal) : Ev P T (.code n x s e s1) → Ev P T (.code n (.seq x y) s e s1)
  | cond (n : Nat) (o : Operand) (x y : Code) (s s1 : St) (e : Ex) (b : Bool) (ho : opd s.env o = .bool b) : Ev P T (.code n (if b then x else y) s e s1) → Ev P T (.code n (.cond o x y) s e s1)
  | blockN (n id : Nat) (c : Code) (s s1 : St) (e : Ex) (he : e = .normal ∨ e = .exit id) : Ev P T (.code n c s e s1) → Ev P T (.code n (.block id c) s .normal s1)
  | blockX (n id : Nat) (c : Code) (s s1 : St) (e : Ex) (he : e ≠ .exit id) (he' : e ≠ .normal) : Ev P T (.code n c s e s1) → Ev P T (.code n (.block id c) s e s1)
  | loopN (n : Nat) (c : Code) (s s1 s2 : St) (e : Ex) : Ev P T (.code n c s .normal s1) → Ev P T (.code n (.loop c) s1 e s2) → Ev P T (.code n (.loop c) s e s2)
  | loopX (n : Nat) (c : Code) (s s1 : St) (e : Ex) (he : e ≠ .normal) : Ev P T (.code n c s e s1) → Ev P T (.code n (.loop c) s e s1)
  | exit (n id : Nat) (s : St) : Ev P T (.code n (.exit id) s (.exit id) s)
  | ret (n : Nat) (s : St) : Ev P T (.code n .ret s .ret s)
  | keep (n : Nat) (c : Code) (s s1 : St) (e : Ex) (keep : List Nat) (h : Nat) (hn : n ≤ h) (hh : h ≤ s.H.length) (hk : s.keepOk keep h = true) :
      Ev P T (.code n c (s.keep keep h) e s1) → Ev P T (.code n c s e s1)
  | tokn (n : Nat) (c : Code) (env : List D) (H : Heap) (s1 : St) (e : Ex) (i sz : Nat) (hi : env[i]? = some (.slice false [] none)) :
      Ev P T (.code n c ⟨env.set i (.slice false [] (some H.length)), H ++ [some (.tok 0 sz)]⟩ e s1) → Ev P T (.code n c ⟨env, H⟩ e s1)
  | pack (n : Nat) (c : Code) (s s0 s1 : St) (e : Ex) (keep fp : List Nat) (hnd : fp.Nodup) (hlt : ∀ p ∈ fp, p < s.H.length) (hn : n ≤ fp.length) (hp : fp.take n = List.range n)
      (henv : rens (idx fp 0) (maskEnv keep s.env) = some s0.env) (hH : renH (idx fp 0) (fp.map (hget s.H)) = some s0.H) : Ev P T (.code n c s0 e s1) → Ev P T (.code n c s e s1)
  | region (n id : Nat) (ops : Array Oper) (s s1 : St) : Ev P T (.ops n ops ops.toList s s1) → Ev P T (.code n (.region id ops false) s .normal s1)
  | opsNil (n : Nat) (all : Array Oper) (s : St) : Ev P T (.ops n all [] s s)
  | opsSkip (n : Nat) (all : Array Oper) (o : Oper) (l : List Oper) (s s1 : St) (hg : GuardOk all o s.env false) :
      Ev P T (.ops n all l ⟨putEnv s.env o.dst .non, s.H⟩ s1) → Ev P T (.ops n all (o :: l) s s1)
  | opsPrim (n : Nat) (all : Array Oper) (o : Oper) (l : List Oper) (s s1 : St) (h : Hint) (r : SR) (hg : GuardOk all o s.env true)
      (hr : stepF T o (opd s.env) (hget s.H) s.H.length h = some r) (hc : ∀ c ∈ r.cs, c) :
      Ev P T (.ops n all l ⟨putEnv s.env o.dst r.v, applyWr s.H r.wr⟩ s1) → Ev P T (.ops n all (o :: l) s s1)
  | opsCall (n : Nat) (all : Array Oper) (o : Oper) (l : List Oper) (s s1 : St) (c : Call) (f : FuncId) (args : List D) (r : D) (H1 : Heap) (hg : GuardOk all o s.env true)
      (ho : o.op = .call c) (ht : Tgt P (opd s.env) (ldOf T s.H) c f args) :
      Ev P T (.call f args s.H r H1) → Ev P T (.ops n all l ⟨putEnv s.env o.dst r, H1⟩ s1) → Ev P T (.ops n all (o :: l) s s1)
  | opsPure (n : Nat) (all : Array Oper) (o : Oper) (l : List Oper) (s s1 : St) (c : Call) (f : FuncId) (args args' : List D) (r0 r : D) (H1 : Heap) (hg : GuardOk all o s.env true)
      (ho : o.op = .call c) (ht : Tgt P (opd s.env) (ldOf T s.H) c f args) (ha : purs args = some args') (hf : Froz H1 r0 r) :
      Ev P T (.call f args' [] r0 H1) → Ev P T (.ops n all l ⟨putEnv s.env o.dst r, s.H⟩ s1) → Ev P T (.ops n all (o :: l) s s1)
  | opsExt (n : Nat) (all : Array Oper) (o : Oper) (l : List Oper) (s s1 : St) (c : Call) (f : FuncId) (args args' : List D) (r : D) (hg : GuardOk all o s.env true)
      (ho : o.op = .call c) (ht : Tgt P (opd s.env) (ldOf T s.H) c f args) (ha : purs args = some args') (hx : ExtOk P f args' r) :
      Ev P T (.ops n all l ⟨putEnv s.env o.dst r, s.H⟩ s1) → Ev P T (.ops n all (o :: l) s s1)
  | opsLook (n : Nat) (all : Array Oper) (o : Oper) (l : List Oper) (s s1 : St) (c : Call) (f : FuncId) (args args' : List D) (r : D) (H1 : Heap) (hg : GuardOk all o s.env true)
      (ho : o.op = .call c) (ht : Tgt P (opd s.env) (ldOf T s.H) c f args) (ha : FrozAll s.H args args') (hf : flatD r = true) :
      Ev P T (.call f args' [] r H1) → Ev P T (.ops n all l ⟨putEnv s.env o.dst r, s.H⟩ s1) → Ev P T (.ops n all (o :: l) s s1)
  | opsFrame (n : Nat) (all : Array Oper) (o : Oper) (l : List Oper) (s s1 : St) (c : Call) (k : FuncId) (args : List D) (r : D) (H1 : Heap) (fp : List Nat) (h : Nat) (args' : List D) (H0 : Heap) (r' : D)
      (W : List (Nat × Option HObj)) (hg : GuardOk all o s.env true) (ho : o.op = .call c) (ht : Tgt P (opd s.env) (ldOf T s.H) c k args) (hf : Framed s s.H.length args r H1 fp h args' H0 r' W) :
      Ev P T (.call k args' H0 r H1) → Ev P T (.ops n all l ⟨putEnv s.env o.dst r', setAll (s.H ++ List.replicate (h - fp.length) none) W⟩ s1) → Ev P T (.ops n all (o :: l) s s1)
  | draw (n id : Nat) (ops : Array Oper) (s : St) (K : Nat) (m : List Nat) (Ls : List Lab) (hl : Ls.length = ops.size) (hK : 0 < K) (hm : P.follows .mixedOrders = true) (ho : orderB ops s.H.length K Ls m = true)
      (h : ∀ (i : Nat) (o : Oper) (L : Lab), ops[i]? = some o → Ls[i]? = some L →
        Ev P T (.lab ops o (s.H.length + i * K) K (runSet (labList 0 ops.toList Ls) (below i) ⟨s.env, s.H ++ List.replicate (ops.size * K) none⟩) L)) :
      Ev P T (.code n (.region id ops true) s .normal (runSet (labList 0 ops.toList Ls) (fun _ => true) ⟨s.env, s.H ++ List.replicate (ops.size * K) none⟩))
  | labSkip (all : Array Oper) (o : Oper) (f K : Nat) (s : St) (hg : GuardOk all o s.env false) : Ev P T (.lab all o f K s ⟨.non, [], []⟩)
  | labPrim (all : Array Oper) (o : Oper) (f K : Nat) (s : St) (h : Hint) (r : SR) (hg : GuardOk all o s.env true)
      (hr : stepF T o (opd s.env) (hget s.H) f h = some r) (hc : ∀ c ∈ r.cs, c) (hk : ∀ x ∈ r.wr, x.1 < s.H.length) : Ev P T (.lab all o f K s ⟨r.v, rdsF o (opd s.env), r.wr⟩)
  | labPure (all : Array Oper) (o : Oper) (f K : Nat) (s : St) (c : Call) (k : FuncId) (args args' : List D) (r0 r : D) (H1 : Heap) (hg : GuardOk all o s.env true)
      (ho : o.op = .call c) (ht : Tgt P (opd s.env) noLd c k args) (ha : purs args = some args') (hf : Froz H1 r0 r) :
      Ev P T (.call k args' [] r0 H1) → Ev P T (.lab all o f K s ⟨r, [], []⟩)
  | labExt (all : Array Oper) (o : Oper) (f K : Nat) (s : St) (c : Call) (k : FuncId) (args args' : List D) (r : D) (hg : GuardOk all o s.env true)
      (ho : o.op = .call c) (ht : Tgt P (opd s.env) noLd c k args) (ha : purs args = some args') (hx : ExtOk P k args' r) : Ev P T (.lab all o f K s ⟨r, [], []⟩)
  | labLook (all : Array Oper) (o : Oper) (f K : Nat) (s : St) (c : Call) (k : FuncId) (args args' : List D) (r : D) (H1 : Heap) (hg : GuardOk all o s.env true)
      (ho : o.op = .call c) (ht : Tgt P (opd s.env) noLd c k args) (ha : FrozAll s.H args args') (hf : flatD r = true) :
      Ev P T (.call k args' [] r H1) → Ev P T (.lab all o f K s ⟨r, viewsDs args, []⟩)
  | labFrame (all : Array Oper) (o : Oper) (f K : Nat) (s : St) (c : Call) (k : FuncId) (args : List D) (r : D) (H1 : Heap) (fp : List Nat) (h : Nat) (args' : List D) (H0 : Heap) (r' : D)
      (W : List (Nat × Option HObj)) (hg : GuardOk all o s.env true) (ho : o.op = .call c) (ht : Tgt P (opd s.env) noLd c k args) (hf : Framed s f args r H1 fp h args' H0 r' W) (hK : h ≤ fp.length + K) :
      Ev P T (.call k args' H0 r H1) → Ev P T (.lab all o f K s ⟨r', fp, W⟩)
  | callPur (f : FuncId) (args : List D) (H : Heap) (r r' : D) (H1 : Heap) (h : pur r = some r') : Ev P T (.call f args H r H1) → Ev P T (.call f args H r' H1)
  | callTok (f : FuncId) (args : List D) (H : Heap) (r : D) (H1 : Heap) (o i j sz sz0 : Nat) (es : List (List D)) (cs : List D) (ho : hget H o = some (.row sz0 es)) (hi : es[i]? = some cs) (hj : cs[j]? = some (.slice false [] none)) :
      Ev P T (.call f args (H.set o (some (.row sz0 (es.set i (cs.set j (.slice false [] (some H.length)))))) ++ [some (.tok 0 sz)]) r H1) → Ev P T (.call f args H r H1)
  | callSkip (f : FuncId) (args args' : List D) (H : Heap) (r0 r : D) (H1 : Heap) (ha : purs args = some args') (h : Froz H1 r0 r) : Ev P T (.call f args' [] r0 H1) → Ev P T (.call f args H r H)
  | callCut (f : FuncId) (args : List D) (H : Heap) (r0 r : D) (H1 : Heap) (hl : H.length ≤ H1.length) (hk : (H1.take H.length).all (objRefs (below H.length)) = true) (h : Froz (cutH H.length H1) r0 r) :
      Ev P T (.call f args H r0 H1) → Ev P T (.call f args H r (H1.take H.length))
  | call (f : FuncId) (args : List D) (H : Heap) (fn : Func) (code : Code) (e : Ex) (s1 : St) (r : D) (hf : P.funcs[f]? = some fn) (hb : fn.body = some code)
      (hnum : (fn.name == "runtime.NumGoroutine") = false) (he : e = .normal ∨ e = .ret) (hr : resD T fn s1.env s1.H = some r) :
      Ev P T (.code H.length code ⟨args ++ List.replicate (fn.ntmps - args.length) .undef, H⟩ e s1) → Ev P T (.call f args H r s1.H)

end Go.Proofs.Ytifpbdhggooelaa.GD
