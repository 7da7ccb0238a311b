/- Data of Go programs without memory; and which package variables are looked at: none. (A seat whose laws read tables has a text of its own here.) -/
import Derived.Tactics
import Derived.Below
namespace Go.Proofs.Ytifpbdhggooelaa.GD
open Go
set_option linter.unusedVariables false

/-- A datum. Slices hold their elements (each a row of cells); 'tok' names who may extend them. -/
inductive D where
  | undef
  | non
  | bool (b : Bool)
  | int (k : IntKind) (n : Int)
  | str (s : ByteArray)
  | agg (cs : List D)
  | tuple (vs : List D)
  | pnil
  | ptr (o i off : Nat)
  | sptr (cs : List D)
  | slice (nn : Bool) (es : List (List D)) (tok : Option Nat)
  | view (o st len : Nat)
  | func (fn : Fn) (first caps : List D)
  | fnil
  | iface (t : TypeId) (v : D)
  | inil
  | mapp (o : Nat)
  | mnil
  | iter (o : Nat)
  deriving Inhabited

/-- What a package variable's address reads as. -/
def glT (g : Nat) : D := .undef

end Go.Proofs.Ytifpbdhggooelaa.GD
