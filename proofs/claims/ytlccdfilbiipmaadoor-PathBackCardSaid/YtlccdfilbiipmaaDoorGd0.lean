/- Data of Go programs without memory; and which package variables are looked at: utf8.first and utf8.acceptRanges. -/
import Derived.Tactics
import Derived.Below
import Derived.Lib.DecodeN
namespace Go.Proofs.YtlccdfilbiipmaaDoor.GD
open Go
set_option linter.unusedVariables false

/-- A datum. Slices hold their elements (each a row of cells); 'tok' names who may extend them. -/
inductive D where
  | undef
  | non
  | bool (b : Bool)
  | int (k : IntKind) (n : Int)
  | str (s : ByteArray)
  | agg (cs : List D)
  | tuple (vs : List D)
  | pnil
  | ptr (o i off : Nat)
  | sptr (cs : List D)
  | slice (nn : Bool) (es : List (List D)) (tok : Option Nat)
  | view (o st len : Nat)
  | func (fn : Fn) (first caps : List D)
  | fnil
  | iface (t : TypeId) (v : D)
  | inil
  | mapp (o : Nat)
  | mnil
  | iter (o : Nat)
  deriving Inhabited

/-- The cells of utf8.first. -/
def firstCells : List D := (List.range 256).map fun c => .int .u8 (Lib.firstT c : Int)
/-- The cells of utf8.acceptRanges. -/
def acceptCells : List D := (List.range 16).flatMap fun i => [.int .u8 (Lib.accLo i : Int), .int .u8 (Lib.accHi i : Int)]

/-- What a package variable's address reads as. -/
def glT (g : Nat) : D :=
  match g with
  | 0 => .sptr firstCells
  | 1 => .sptr acceptCells
  | _ => .undef

end Go.Proofs.YtlccdfilbiipmaaDoor.GD
