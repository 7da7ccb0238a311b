/- What code comes to, reckoned: the machine on data. Definitions. -/
import Derived.Test.YtifpbdhggooelaaGd19
import Derived.Test.YtifpbdhggooelaaGd31
namespace Go.Proofs.Ytifpbdhggooelaa.GD
open Go
set_option linter.unusedVariables false

/-- Who decides where the road parts: the data, or a given row of answers. -/
inductive Or where
  | auto
  | trace (tr : List Bool)
  | path (l : List Bool)
  | probe (l : List Bool) (d : Bool)
  | asked (b d : Bool)

def Or.choose (b : Bool) : Or → Option (Bool × Or × List Prop)
  | .auto => some (b, .auto, [])
  | .trace tr => some (b, .trace (b :: tr), [])
  | .path (c :: r) => some (c, .path r, [b = c])
  | .path [] => none
  | .probe (c :: r) d => some (c, .probe r d, [b = c])
  | .probe [] d => some (d, .asked b d, [b = d])
  | .asked b' d => some (d, .asked b' d, [b = d])

/-- A question has been put: no need to go on. -/
def Or.isAsked : Or → Bool
  | .asked _ _ => true
  | _ => false

structure CR where
  r : D
  H : Heap
  or : Or
  cs : List Prop

/-- What the reckoning is told. -/
structure Cf where
  P : Program
  T : Tys
  hint : FuncId → Nat → Nat → Hint
  room : FuncId → Nat → Nat
  meth : TypeId → String → Option FuncId
  ct : FuncId → List D → Heap → Option (D × Heap × List Prop)
  stop : Bool
  look : FuncId → Bool := fun _ => false
  flat : Nat → Bool := fun _ => false
  xt : FuncId → List D → Option D := fun _ _ => none
  methl : TypeId → String → Option (FuncId × TypeId) := fun _ _ => none

def tgtF (C : Cf) (ρ : Operand → D) (ld : TypeId → D → Option D) (c : Call) : Option (FuncId × List D) :=
  match c.callee with
  | .value f =>
    match ρ f with
    | .func (.func k) fi ca => some (k, fi ++ c.args.toList.map ρ ++ ca)
    | _ => none
  | .invoke r nm =>
    match ρ r with
    | .iface t v =>
      match C.meth t nm with
      | some k => some (k, v :: c.args.toList.map ρ)
      | none =>
        match C.methl t nm with
        | some (k, e) => match ld e v with | some d => some (k, d :: c.args.toList.map ρ) | none => none
        | none => none
    | _ => none
  | .builtin _ => none

mutual
/-- The names of objects in a datum. -/
def namesOf : D → List Nat
  | .ptr o _ _ => [o]
  | .view o _ _ => [o]
  | .mapp o => [o]
  | .iter o => [o]
  | .slice _ _ (some t) => [t]
  | .agg cs => namesAll cs
  | .tuple cs => namesAll cs
  | .func _ a b => namesAll a ++ namesAll b
  | .iface _ v => namesOf v
  | _ => []
def namesAll : List D → List Nat
  | [] => []
  | d :: r => namesOf d ++ namesAll r
end

def objNames : Option HObj → List Nat
  | some (.row _ es) => es.flatMap namesAll
  | some (.mp _ _ vs) => namesAll vs
  | _ => []

/-- What is reached from some names. -/
def reach (H : Heap) : Nat → List Nat → List Nat → List Nat
  | 0, _, acc => acc
  | _ + 1, [], acc => acc
  | k + 1, o :: r, acc => if acc.contains o then reach H k r acc else reach H k (objNames (hget H o) ++ r) (acc ++ [o])

mutual
/-- The names without which a datum can't be: tokens may be let go. -/
def hardOf : D → List Nat
  | .ptr o _ _ => [o]
  | .view o _ _ => [o]
  | .mapp o => [o]
  | .iter o => [o]
  | .agg cs => hardAll cs
  | .tuple cs => hardAll cs
  | .func _ a b => hardAll a ++ hardAll b
  | .iface _ v => hardOf v
  | _ => []
def hardAll : List D → List Nat
  | [] => []
  | d :: r => hardOf d ++ hardAll r
end

def objHard : Option HObj → List Nat
  | some (.row _ es) => es.flatMap hardAll
  | some (.mp _ _ vs) => hardAll vs
  | _ => []

def reachH (H : Heap) : Nat → List Nat → List Nat → List Nat
  | 0, _, acc => acc
  | _ + 1, [], acc => acc
  | k + 1, o :: r, acc => if acc.contains o then reachH H k r acc else reachH H k (objHard (hget H o) ++ r) (acc ++ [o])

def maxL (l : List Nat) : Nat := l.foldl (fun a b => if a ≤ b then b + 1 else a) 0

/-- Elements that name no objects. -/
def FlatEs (es : List (List D)) : Prop := ∀ c ∈ es, purs c = some c

/-- Is an object a row whose elements are said to name no objects (rows of so many cells; but for objects whose number is told beside the size: size + 1048576 * (number + 1))? -/
def flatObj (F : Nat → Bool) (n : Nat) : Option HObj → Bool
  | some (.row sz _) => F sz && !F (sz + 1048576 * (n + 1))
  | _ => false
/-- What is claimed of the objects ('nm': their numbers). -/
def flatCs (F : Nat → Bool) (nm : Nat → Nat) : Nat → Heap → List Prop
  | _, [] => []
  | i, some (.row sz es) :: r => bif flatObj F (nm i) (some (.row sz es)) then FlatEs es :: flatCs F nm (i + 1) r else flatCs F nm (i + 1) r
  | i, _ :: r => flatCs F nm (i + 1) r

def reachF (F : Nat → Bool) (nm : Nat → Nat) (H : Heap) : Nat → List Nat → List Nat → List Nat
  | 0, _, acc => acc
  | _ + 1, [], acc => acc
  | k + 1, o :: r, acc => if acc.contains o then reachF F nm H k r acc else reachF F nm H k ((bif flatObj F (nm o) (hget H o) then [] else objNames (hget H o)) ++ r) (acc ++ [o])
def reachHF (F : Nat → Bool) (nm : Nat → Nat) (H : Heap) : Nat → List Nat → List Nat → List Nat
  | 0, _, acc => acc
  | _ + 1, [], acc => acc
  | k + 1, o :: r, acc => if acc.contains o then reachHF F nm H k r acc else reachHF F nm H k ((bif flatObj F (nm o) (hget H o) then [] else objHard (hget H o)) ++ r) (acc ++ [o])

def renHF (F : Nat → Bool) (nm : Nat → Nat) (f : Nat → Option Nat) : Nat → Heap → Option Heap
  | _, [] => some []
  | i, x :: r => match (bif flatObj F (nm i) x then some x else renO f x), renHF F nm f (i + 1) r with | some y, some l => some (y :: l) | _, _ => none

/-- The numbers of a callee's objects, as its caller has them; new ones come behind 'f'. -/
def nmOf (fp : List Nat) (f i : Nat) : Nat := match fp[i]? with | some n => n | none => f + (i - fp.length)

/-- How many of the callee's objects are kept. -/
def frameH (F : Nat → Bool) (nm : Nat → Nat) (r : D) (H : Heap) (n lim : Nat) : Nat :=
  let h1 := max n (maxL (reachF F nm H 100000 (namesOf r ++ List.range n) []))
  if h1 ≤ n + lim then h1 else max n (maxL (reachHF F nm H 100000 (hardOf r ++ List.range n) []))

theorem frameH_le (F : Nat → Bool) (nm : Nat → Nat) (r : D) (H : Heap) (n lim : Nat) : n ≤ frameH F nm r H n lim := by
  unfold frameH
  dsimp only
  split
  · exact Nat.le_max_left ..
  · exact Nat.le_max_left ..

def ltB (l : List Nat) (n : Nat) : Bool := l.all fun p => decide (p < n)
def outB (l : List Nat) (f k : Nat) : Bool := l.all fun p => decide (p < f) || decide (f + k ≤ p)
def ndB : List Nat → Bool
  | [] => true
  | p :: r => !r.contains p && ndB r

structure FR where
  r : D
  W : List (Nat × Option HObj)
  fp : List Nat
  h : Nat
  or : Or
  cs : List Prop

/-- A call that is handed what it can reach. -/
def frameE (C : Cf) (rc : FuncId → List D → Heap → Or → Option CR) (lim : Nat) (s : St) (f : Nat) (k : FuncId) (args : List D) (or : Or) : Option FR :=
  let fp := reachF C.flat id s.H 100000 (namesAll args) []
  match rens (idx fp 0) args, renHF C.flat (nmOf fp f) (idx fp 0) 0 (fp.map (hget s.H)) with
  | some args', some H0 =>
    match (match C.ct k args' H0 with | some (r, H1, cs) => some (CR.mk r H1 or cs) | none => rc k args' H0 or) with
    | some R =>
      if R.or.isAsked then some ⟨.undef, [], [], 0, R.or, [False]⟩ else
      let h := frameH C.flat (nmOf fp f) R.r R.H fp.length lim
      if ltB fp s.H.length && outB fp f (h - fp.length) && ndB fp && decide (h ≤ R.H.length) then
        match ren (back fp f h) R.r, renHF C.flat (nmOf fp f) (back fp f h) 0 (R.H.take h) with
        | some r', some H1' => some ⟨r', wrB (back fp f h) 0 H1', fp, h, R.or, flatCs C.flat (nmOf fp f) 0 (fp.map (hget s.H)) ++ (flatCs C.flat (nmOf fp f) 0 (R.H.take h) ++ R.cs)⟩
        | _, _ => none
      else none
    | none => none
  | _, _ => none

/-- A call of a library function without a body. -/
def callX0 (P : Program) (k : FuncId) (args : List D) : Option D :=
  match P.funcs[k]? with
  | some fn => if fn.body.isNone then (match purs args with | some a => extE P k a | none => none) else none
  | none => none
def callX (C : Cf) (k : FuncId) (args : List D) : Option (D × List Prop) :=
  match C.xt k args with
  | some r => match purs args with | some a => some (r, [ExtOk C.P k a r]) | none => none
  | none => match callX0 C.P k args with | some r => some (r, []) | none => none

mutual
/-- Views are cut out of their rows. -/
def frozE (F : Nat → Bool) (H : Heap) : D → Option (D × List Prop)
  | .view o st len =>
    match hget H o with
    | some (.row sz es) =>
      bif F sz then some (.slice true ((es.drop st).take len) none, [st + len ≤ es.length, FlatEs es])
      else if st + len ≤ es.length ∧ ((es.drop st).take len).all purC = true then some (.slice true (purStrip ((es.drop st).take len)) none, []) else none
    | _ => none
  | .agg cs => match frozEs F H cs with | some (l, p) => some (.agg l, p) | none => none
  | .tuple cs => match frozEs F H cs with | some (l, p) => some (.tuple l, p) | none => none
  | d => match pur d with | some e => some (e, []) | none => none
def frozEs (F : Nat → Bool) (H : Heap) : List D → Option (List D × List Prop)
  | [] => some ([], [])
  | d :: r => match frozE F H d, frozEs F H r with | some (x, p), some (y, q) => some (x :: y, p ++ q) | _, _ => none
end

/-- A call that only looks. -/
def lookE (C : Cf) (rc : FuncId → List D → Heap → Or → Option CR) (s : St) (k : FuncId) (args : List D) (or : Or) : Option (D × Or × List Prop) :=
  if C.look k then
    match frozEs C.flat s.H args with
    | some (args', fcs) =>
      match (match C.ct k args' [] with | some (r, H1, cs) => some (CR.mk r H1 or cs) | none => rc k args' [] or) with
      | some R => if R.or.isAsked then some (.undef, R.or, [False]) else if flatD R.r then some (R.r, R.or, fcs ++ R.cs) else none
      | none => none
    | none => none
  else none

/-- Is an operation wanted? -/
def guardE (all : Array Oper) (o : Oper) (env : List D) (or : Or) : Option (Bool × Or × List Prop) :=
  match o.guard with
  | none => some (true, or, [])
  | some (j, want) =>
    match (all[j]?).bind (·.dst) with
    | some d => match env[d]? with | some (.bool b) => or.choose (b == want) | some .non => some (false, or, []) | _ => none
    | none => none

/-- The hint of an operation: where one datum is picked of two, the road's word. -/
def hintE (o : Oper) (ρ : Operand → D) (or : Or) (h : Hint) : Option (Hint × Or) :=
  match o.op with
  | .pick c _ _ =>
    match ρ c, or with
    | .bool b, .auto => some (.auto, .auto)
    | .bool b, .trace tr => some (.auto, .trace tr)
    | .bool b, or => match or.choose b with | some (k, or, _) => some (.b k, or) | none => none
    | _, _ => none
  | _ => some (h, or)

def opsE (C : Cf) (rc : FuncId → List D → Heap → Or → Option CR) (fn : FuncId) (rid : Nat) (all : Array Oper) : Nat → List Oper → St → Or → List Prop → Option (St × Or × List Prop)
  | _, [], s, or, cs => some (s, or, cs)
  | i, o :: l, s, or, cs =>
    if or.isAsked then some (s, or, [False]) else
    match guardE all o s.env or with
    | some (false, or, c1) => opsE C rc fn rid all (i + 1) l ⟨putEnv s.env o.dst .non, s.H⟩ or (c1 ++ cs)
    | some (true, or, c1) =>
      if or.isAsked then some (s, or, [False]) else
      match o.op with
      | .call c =>
        match c.callee with
        | .builtin _ =>
          match stepF C.T o (opd s.env) (hget s.H) s.H.length (C.hint fn rid i) with
          | some r => opsE C rc fn rid all (i + 1) l ⟨putEnv s.env o.dst r.v, applyWr s.H r.wr⟩ or (r.cs ++ (c1 ++ cs))
          | none => none
        | _ =>
          match tgtF C (opd s.env) (ldOf C.T s.H) c with
          | some (k, args) =>
            match callX C k args with
            | some (r, cx) => opsE C rc fn rid all (i + 1) l ⟨putEnv s.env o.dst r, s.H⟩ or (cx ++ (c1 ++ cs))
            | none =>
            match lookE C rc s k args or with
            | some (r, or, c2) => opsE C rc fn rid all (i + 1) l ⟨putEnv s.env o.dst r, s.H⟩ or (c2 ++ (c1 ++ cs))
            | none =>
            match frameE C rc 1000000 s s.H.length k args or with
            | some R => opsE C rc fn rid all (i + 1) l ⟨putEnv s.env o.dst R.r, setAll (s.H ++ List.replicate (R.h - R.fp.length) none) R.W⟩ R.or (R.cs ++ (c1 ++ cs))
            | none => none
          | none => none
      | _ =>
        match hintE o (opd s.env) or (C.hint fn rid i) with
        | some (h, or) =>
          if or.isAsked then some (s, or, [False]) else
          match stepF C.T o (opd s.env) (hget s.H) s.H.length h with
          | some r => opsE C rc fn rid all (i + 1) l ⟨putEnv s.env o.dst r.v, applyWr s.H r.wr⟩ or (r.cs ++ (c1 ++ cs))
          | none => none
        | none => none
    | none => none

def wrB' (W : List (Nat × Option HObj)) (n : Nat) : Bool := W.all fun x => decide (x.1 < n)

/-- One operation of a region that may be carried out in more than one order. -/
def labE (C : Cf) (rc : FuncId → List D → Heap → Or → Option CR) (fn : FuncId) (rid : Nat) (all : Array Oper) (i : Nat) (o : Oper) (f K : Nat) (s : St) (or : Or) : Option (Lab × Or × List Prop) :=
  match guardE all o s.env or with
  | some (false, or, c1) => some (⟨.non, [], []⟩, or, c1)
  | some (true, or, c1) =>
    if or.isAsked then some (⟨.undef, [], []⟩, or, [False]) else
    match o.op with
    | .call c =>
      match c.callee with
      | .builtin _ =>
        match stepF C.T o (opd s.env) (hget s.H) f (C.hint fn rid i) with
        | some r => if wrB' r.wr s.H.length then some (⟨r.v, rdsF o (opd s.env), r.wr⟩, or, r.cs ++ c1) else none
        | none => none
      | _ =>
        match tgtF C (opd s.env) noLd c with
        | some (k, args) =>
          match callX C k args with
          | some (r, cx) => some (⟨r, [], []⟩, or, cx ++ c1)
          | none =>
          match lookE C rc s k args or with
          | some (r, or, c2) => if or.isAsked then some (⟨.undef, [], []⟩, or, [False]) else some (⟨r, viewsDs args, []⟩, or, c2 ++ c1)
          | none =>
          match frameE C rc K s f k args or with
          | some R => if R.or.isAsked then some (⟨.undef, [], []⟩, R.or, [False]) else if R.h ≤ R.fp.length + K then some (⟨R.r, R.fp, R.W⟩, R.or, R.cs ++ c1) else none
          | none => none
        | none => none
    | _ =>
      match hintE o (opd s.env) or (C.hint fn rid i) with
      | some (h, or) =>
        if or.isAsked then some (⟨.undef, [], []⟩, or, [False]) else
        match stepF C.T o (opd s.env) (hget s.H) f h with
        | some r => if wrB' r.wr s.H.length then some (⟨r.v, rdsF o (opd s.env), r.wr⟩, or, r.cs ++ c1) else none
        | none => none
      | none => none
  | none => none

def labsE (C : Cf) (rc : FuncId → List D → Heap → Or → Option CR) (fn : FuncId) (rid : Nat) (all : Array Oper) (c K : Nat) : Nat → List Oper → St → Or → List Prop → Option (List Lab × St × Or × List Prop)
  | _, [], s, or, cs => some ([], s, or, cs)
  | i, o :: l, s, or, cs =>
    match labE C rc fn rid all i o (c + i * K) K s or with
    | some (L, or, c1) =>
      if or.isAsked then some ([], s, or, [False]) else
      match labsE C rc fn rid all c K (i + 1) l (updSt o L s) or (c1 ++ cs) with
      | some (Ls, s', or, cs) => some (L :: Ls, s', or, cs)
      | none => none
    | none => none

def masksE : List Oper → List Nat → List Nat
  | [], m => m
  | o :: r, m => masksE r (m ++ [maskOf m o])

def regionE (C : Cf) (rc : FuncId → List D → Heap → Or → Option CR) (fn : FuncId) (rid : Nat) (ops : Array Oper) (draw : Bool) (s : St) (or : Or) : Option (St × Or × List Prop) :=
  if draw then
    let K := C.room fn rid
    match labsE C rc fn rid ops s.H.length K 0 ops.toList ⟨s.env, s.H ++ List.replicate (ops.size * K) none⟩ or [] with
    | some (Ls, s', or, cs) => if or.isAsked then some (s', or, [False]) else if decide (0 < K) && orderB ops s.H.length K Ls (masksE ops.toList []) then some (s', or, cs) else none
    | none => none
  else opsE C rc fn rid ops 0 ops.toList s or []

inductive It where
  | seq (y : Code)
  | blk (id : Nat)
  | lp (c : Code)

inductive Cur where
  | code (c : Code)
  | done (e : Ex)

inductive RR where
  | fin (e : Ex) (s : St) (or : Or) (cs : List Prop)
  | stop (c : Code) (k : List It) (s : St) (or : Or) (cs : List Prop)

def Ex.isN : Ex → Bool
  | .normal => true
  | _ => false

def Ex.leaves (id : Nat) : Ex → Bool
  | .normal => true
  | .exit i => i == id
  | .ret => false

def runE (C : Cf) (rc : FuncId → List D → Heap → Or → Option CR) (fn : FuncId) : Nat → Cur → List It → St → Or → List Prop → Option RR
  | 0, _, _, _, _, _ => none
  | m + 1, .code c, k, s, or, cs =>
    if or.isAsked then some (.fin .normal s or [False]) else
    match c with
    | .skip => runE C rc fn m (.done .normal) k s or cs
    | .seq x y => runE C rc fn m (.code x) (.seq y :: k) s or cs
    | .cond o x y =>
      match opd s.env o with
      | .bool b =>
        match or.choose b with
        | some (true, or, c1) => runE C rc fn m (.code x) k s or (c1 ++ cs)
        | some (false, or, c1) => runE C rc fn m (.code y) k s or (c1 ++ cs)
        | none => none
      | _ => none
    | .block id x => runE C rc fn m (.code x) (.blk id :: k) s or cs
    | .loop x => if C.stop then some (.stop x k s or cs) else runE C rc fn m (.code x) (.lp x :: k) s or cs
    | .exit id => runE C rc fn m (.done (.exit id)) k s or cs
    | .ret => runE C rc fn m (.done .ret) k s or cs
    | .region id ops d =>
      match regionE C rc fn id ops d s or with
      | some (s, or, c1) => runE C rc fn m (.done .normal) k s or (c1 ++ cs)
      | none => none
    | _ => none
  | m + 1, .done e, k, s, or, cs =>
    if or.isAsked then some (.fin .normal s or [False]) else
    match k with
    | [] => some (.fin e s or cs)
    | .seq y :: k => if e.isN then runE C rc fn m (.code y) k s or cs else runE C rc fn m (.done e) k s or cs
    | .blk id :: k => if e.leaves id then runE C rc fn m (.done .normal) k s or cs else runE C rc fn m (.done e) k s or cs
    | .lp c :: k => if e.isN then runE C rc fn m (.code (.loop c)) k s or cs else runE C rc fn m (.done e) k s or cs

/-- The state in which a function begins. -/
def beginE (fn : Func) (args : List D) (H : Heap) : St := ⟨args ++ List.replicate (fn.ntmps - args.length) .undef, H⟩

def callE (C : Cf) (m : Nat) : Nat → FuncId → List D → Heap → Or → Option CR
  | 0, _, _, _, _ => none
  | d + 1, f, args, H, or =>
    match C.P.funcs[f]? with
    | some fn =>
      match fn.body with
      | some code =>
        if fn.name == "runtime.NumGoroutine" then none
        else
          match runE C (callE C m d) f m (.code code) [] (beginE fn args H) or [] with
          | some (.fin (.exit _) _ _ _) => none
          | some (.fin _ s or cs) => if or.isAsked then some ⟨.undef, s.H, or, [False]⟩ else match resD C.T fn s.env s.H with | some r => some ⟨r, s.H, or, cs⟩ | none => none
          | _ => none
      | none => none
    | none => none

end Go.Proofs.Ytifpbdhggooelaa.GD
