/-
  NARROWER THAN 'FOR EVERY INPUT', by the rows' own cells (each row's printed sentence says how): NumLaws: loops · NumReckons: loops · OrderCompares: loops · OrderKinds: loops · OrderCuts: loops · OrderRows: loops.
  DERIVED. THE GIVEN ROWS OF THIS SEAT. 10 by the template 'for every input the law returns true; each argument reads behind the call as it read before'; 0 by the template 'total and deterministic' (their statements: YtbkacmcijimbfaaTotals.lean).
  GIVEN WITH THE SEED: the statements are not yours to turn. If you find one false, say at which input.
  Laid BY PROGRAM, IN A SANDBOX (cutbox-rows.mjs): the forced cells as the released guide's own fill.sh prints them over the translation 9495d5872dc6f14b… (all of the seat's roots in one cut). By AI agents, Wed Nov 11 2026. No macro, syntax, notation, axiom, sorry.
-/
import Derived.Test.YtbkacmcijimbfaaChecked
import GoSem.Claim
import GoSem.ClaimJoined
import GoSem.ClaimMapViews
import Derived.JoinedTies
import Derived.KernelRfl
namespace Go.Proofs.Ytbkacmcijimbfaa
/- THE CELL 'sum', in the pinned program and in every row, IS THE sha256 OF THE DUMP (.gsa) THAT YtbkacmcijimbfaaProg.lean LOADS. Nothing in Lean hashes anything: it is a label: what it is worth is what the hold of that sum in a sandbox is worth. -/
noncomputable def Try.pinned : Pinned := { name := "ytbkacmcijimbfaa", sum := "9495d5872dc6f14b62b1d63edc994878bf131a64165dad4f90fae49a8729d736", checked := Try.checked }
namespace Rows
def none {H : Type} : Left H := { results := [], args := [] }

/-- 'aqueductlaw9.NumLaws': WHATEVER THE INPUT: true; the input reads as it did. -/
def numLawsSpec : ChangeSpec := { name := "numLaws", fn := fun _ => fun
  | [d1, d2] => { results := [.lit (.bool true)], args := [d1, d2] }
  | _ => none }
def numLawsRow : OpenClaim := { program := "ytbkacmcijimbfaa", sum := "9495d5872dc6f14b62b1d63edc994878bf131a64165dad4f90fae49a8729d736", func := "aqueduct/aqueductlaw9.NumLaws", spec := "numLaws", unfollowed := true, recurses := true, loops := true, apart := false }
def NumLawsSaid : Prop := numLawsRow.holds Try.pinned (OpenSpec.ofChange numLawsSpec)

/-- ITS FALSE NEIGHBOUR: 'it returns false'. Refute it at one input. -/
def numLawsWrong : ChangeSpec := { name := "numLaws", fn := fun _ => fun
  | [d1, d2] => { results := [.lit (.bool false)], args := [d1, d2] }
  | _ => none }
def NumLawsWrongFalsely : Prop := numLawsRow.holds Try.pinned (OpenSpec.ofChange numLawsWrong)

/-- 'aqueductlaw9.NumBack': WHATEVER THE INPUT: true; the input reads as it did. -/
def numBackSpec : ChangeSpec := { name := "numBack", fn := fun _ => fun
  | [d1, d2, d3] => { results := [.lit (.bool true)], args := [d1, d2, d3] }
  | _ => none }
def numBackRow : OpenClaim := { program := "ytbkacmcijimbfaa", sum := "9495d5872dc6f14b62b1d63edc994878bf131a64165dad4f90fae49a8729d736", func := "aqueduct/aqueductlaw9.NumBack", spec := "numBack", unfollowed := true, recurses := true, apart := false }
def NumBackSaid : Prop := numBackRow.holds Try.pinned (OpenSpec.ofChange numBackSpec)

/-- ITS FALSE NEIGHBOUR: 'it returns false'. Refute it at one input. -/
def numBackWrong : ChangeSpec := { name := "numBack", fn := fun _ => fun
  | [d1, d2, d3] => { results := [.lit (.bool false)], args := [d1, d2, d3] }
  | _ => none }
def NumBackWrongFalsely : Prop := numBackRow.holds Try.pinned (OpenSpec.ofChange numBackWrong)

/-- 'aqueductlaw9.NumReckons': WHATEVER THE INPUT: true; the input reads as it did. -/
def numReckonsSpec : ChangeSpec := { name := "numReckons", fn := fun _ => fun
  | [d1, d2, d3] => { results := [.lit (.bool true)], args := [d1, d2, d3] }
  | _ => none }
def numReckonsRow : OpenClaim := { program := "ytbkacmcijimbfaa", sum := "9495d5872dc6f14b62b1d63edc994878bf131a64165dad4f90fae49a8729d736", func := "aqueduct/aqueductlaw9.NumReckons", spec := "numReckons", unfollowed := true, recurses := true, loops := true, apart := false }
def NumReckonsSaid : Prop := numReckonsRow.holds Try.pinned (OpenSpec.ofChange numReckonsSpec)

/-- ITS FALSE NEIGHBOUR: 'it returns false'. Refute it at one input. -/
def numReckonsWrong : ChangeSpec := { name := "numReckons", fn := fun _ => fun
  | [d1, d2, d3] => { results := [.lit (.bool false)], args := [d1, d2, d3] }
  | _ => none }
def NumReckonsWrongFalsely : Prop := numReckonsRow.holds Try.pinned (OpenSpec.ofChange numReckonsWrong)

/-- 'aqueductlaw9.NumKnown': WHATEVER THE INPUT: true; the input reads as it did. -/
def numKnownSpec : ChangeSpec := { name := "numKnown", fn := fun _ => fun
  | [] => { results := [.lit (.bool true)], args := [] }
  | _ => none }
def numKnownRow : OpenClaim := { program := "ytbkacmcijimbfaa", sum := "9495d5872dc6f14b62b1d63edc994878bf131a64165dad4f90fae49a8729d736", func := "aqueduct/aqueductlaw9.NumKnown", spec := "numKnown", unfollowed := true, recurses := true, apart := false }
def NumKnownSaid : Prop := numKnownRow.holds Try.pinned (OpenSpec.ofChange numKnownSpec)

/-- ITS FALSE NEIGHBOUR: 'it returns false'. Refute it at one input. -/
def numKnownWrong : ChangeSpec := { name := "numKnown", fn := fun _ => fun
  | [] => { results := [.lit (.bool false)], args := [] }
  | _ => none }
def NumKnownWrongFalsely : Prop := numKnownRow.holds Try.pinned (OpenSpec.ofChange numKnownWrong)

/-- 'aqueductlaw7.OrderCompares': WHATEVER THE INPUT: true; the input reads as it did. -/
def orderComparesSpec : ChangeSpec := { name := "orderCompares", fn := fun _ => fun
  | [d1, d2] => { results := [.lit (.bool true)], args := [d1, d2] }
  | _ => none }
def orderComparesRow : OpenClaim := { program := "ytbkacmcijimbfaa", sum := "9495d5872dc6f14b62b1d63edc994878bf131a64165dad4f90fae49a8729d736", func := "aqueduct/aqueductlaw7.OrderCompares", spec := "orderCompares", inPlace := ["internal/bytealg.Compare"], unfollowed := true, recurses := true, loops := true, apart := false }
def OrderComparesSaid : Prop := orderComparesRow.holds Try.pinned (OpenSpec.ofChange orderComparesSpec)

/-- ITS FALSE NEIGHBOUR: 'it returns false'. Refute it at one input. -/
def orderComparesWrong : ChangeSpec := { name := "orderCompares", fn := fun _ => fun
  | [d1, d2] => { results := [.lit (.bool false)], args := [d1, d2] }
  | _ => none }
def OrderComparesWrongFalsely : Prop := orderComparesRow.holds Try.pinned (OpenSpec.ofChange orderComparesWrong)

/-- 'aqueductlaw7.OrderKinds': WHATEVER THE INPUT: true; the input reads as it did. -/
def orderKindsSpec : ChangeSpec := { name := "orderKinds", fn := fun _ => fun
  | [d1, d2] => { results := [.lit (.bool true)], args := [d1, d2] }
  | _ => none }
def orderKindsRow : OpenClaim := { program := "ytbkacmcijimbfaa", sum := "9495d5872dc6f14b62b1d63edc994878bf131a64165dad4f90fae49a8729d736", func := "aqueduct/aqueductlaw7.OrderKinds", spec := "orderKinds", inPlace := ["internal/bytealg.Compare"], unfollowed := true, recurses := true, loops := true, apart := false }
def OrderKindsSaid : Prop := orderKindsRow.holds Try.pinned (OpenSpec.ofChange orderKindsSpec)

/-- ITS FALSE NEIGHBOUR: 'it returns false'. Refute it at one input. -/
def orderKindsWrong : ChangeSpec := { name := "orderKinds", fn := fun _ => fun
  | [d1, d2] => { results := [.lit (.bool false)], args := [d1, d2] }
  | _ => none }
def OrderKindsWrongFalsely : Prop := orderKindsRow.holds Try.pinned (OpenSpec.ofChange orderKindsWrong)

/-- 'aqueductlaw7.OrderCuts': WHATEVER THE INPUT: true; the input reads as it did. -/
def orderCutsSpec : ChangeSpec := { name := "orderCuts", fn := fun _ => fun
  | [d] => { results := [.lit (.bool true)], args := [d] }
  | _ => none }
def orderCutsRow : OpenClaim := { program := "ytbkacmcijimbfaa", sum := "9495d5872dc6f14b62b1d63edc994878bf131a64165dad4f90fae49a8729d736", func := "aqueduct/aqueductlaw7.OrderCuts", spec := "orderCuts", inPlace := ["internal/bytealg.Compare"], unfollowed := true, recurses := true, loops := true, apart := false }
def OrderCutsSaid : Prop := orderCutsRow.holds Try.pinned (OpenSpec.ofChange orderCutsSpec)

/-- ITS FALSE NEIGHBOUR: 'it returns false'. Refute it at one input. -/
def orderCutsWrong : ChangeSpec := { name := "orderCuts", fn := fun _ => fun
  | [d] => { results := [.lit (.bool false)], args := [d] }
  | _ => none }
def OrderCutsWrongFalsely : Prop := orderCutsRow.holds Try.pinned (OpenSpec.ofChange orderCutsWrong)

/-- 'aqueductlaw7.OrderKnown': WHATEVER THE INPUT: true; the input reads as it did. -/
def orderKnownSpec : ChangeSpec := { name := "orderKnown", fn := fun _ => fun
  | [] => { results := [.lit (.bool true)], args := [] }
  | _ => none }
def orderKnownRow : OpenClaim := { program := "ytbkacmcijimbfaa", sum := "9495d5872dc6f14b62b1d63edc994878bf131a64165dad4f90fae49a8729d736", func := "aqueduct/aqueductlaw7.OrderKnown", spec := "orderKnown", inPlace := ["internal/bytealg.Compare"], unfollowed := true, recurses := true, apart := false }
def OrderKnownSaid : Prop := orderKnownRow.holds Try.pinned (OpenSpec.ofChange orderKnownSpec)

/-- ITS FALSE NEIGHBOUR: 'it returns false'. Refute it at one input. -/
def orderKnownWrong : ChangeSpec := { name := "orderKnown", fn := fun _ => fun
  | [] => { results := [.lit (.bool false)], args := [] }
  | _ => none }
def OrderKnownWrongFalsely : Prop := orderKnownRow.holds Try.pinned (OpenSpec.ofChange orderKnownWrong)

/-- 'aqueductlaw7.OrderNumbers': WHATEVER THE INPUT: true; the input reads as it did. -/
def orderNumbersSpec : ChangeSpec := { name := "orderNumbers", fn := fun _ => fun
  | [d1, d2, d3] => { results := [.lit (.bool true)], args := [d1, d2, d3] }
  | _ => none }
def orderNumbersRow : OpenClaim := { program := "ytbkacmcijimbfaa", sum := "9495d5872dc6f14b62b1d63edc994878bf131a64165dad4f90fae49a8729d736", func := "aqueduct/aqueductlaw7.OrderNumbers", spec := "orderNumbers", inPlace := ["internal/bytealg.Compare"], unfollowed := true, recurses := true, apart := false }
def OrderNumbersSaid : Prop := orderNumbersRow.holds Try.pinned (OpenSpec.ofChange orderNumbersSpec)

/-- ITS FALSE NEIGHBOUR: 'it returns false'. Refute it at one input. -/
def orderNumbersWrong : ChangeSpec := { name := "orderNumbers", fn := fun _ => fun
  | [d1, d2, d3] => { results := [.lit (.bool false)], args := [d1, d2, d3] }
  | _ => none }
def OrderNumbersWrongFalsely : Prop := orderNumbersRow.holds Try.pinned (OpenSpec.ofChange orderNumbersWrong)

/-- 'aqueductlaw7.OrderRows': WHATEVER THE INPUT: true; the input reads as it did. -/
def orderRowsSpec : ChangeSpec := { name := "orderRows", fn := fun _ => fun
  | [d1, d2, d3] => { results := [.lit (.bool true)], args := [d1, d2, d3] }
  | _ => none }
def orderRowsRow : OpenClaim := { program := "ytbkacmcijimbfaa", sum := "9495d5872dc6f14b62b1d63edc994878bf131a64165dad4f90fae49a8729d736", func := "aqueduct/aqueductlaw7.OrderRows", spec := "orderRows", inPlace := ["internal/bytealg.Compare"], unfollowed := true, recurses := true, loops := true, apart := false }
def OrderRowsSaid : Prop := orderRowsRow.holds Try.pinned (OpenSpec.ofChange orderRowsSpec)

/-- ITS FALSE NEIGHBOUR: 'it returns false'. Refute it at one input. -/
def orderRowsWrong : ChangeSpec := { name := "orderRows", fn := fun _ => fun
  | [d1, d2, d3] => { results := [.lit (.bool false)], args := [d1, d2, d3] }
  | _ => none }
def OrderRowsWrongFalsely : Prop := orderRowsRow.holds Try.pinned (OpenSpec.ofChange orderRowsWrong)

/- THE SECOND FORM. 'bulk': how many values and letters a reading holds, each counted each time it is reached (what is shared counts as often as it is met; a slice's spare places count too). A statement '..UptoSaid' is the law's where the arguments, and the package variables that the reading takes, are together of bulk at most 1048576: NARROWER than '..Said'. Prove '..Said' where nothing that the law and all that it calls make is longer than what came in: it says more and counts as full. Else prove '..UptoSaid'. A law counts once. -/
mutual
def uptoBulk {H : Type} : DataW H → Nat
  | .lit (.string bytes) => bytes.length + 1
  | .lit _ => 1
  | .nil => 1
  | .ptr d => uptoBulk d + 1
  | .slice elems spare => uptoBulkAll elems + uptoBulkAll spare + 1
  | .agg parts => uptoBulkAll parts + 1
  | .iface _ d => uptoBulk d + 1
  | .map entries => uptoBulkEntries entries + 1
  | .held _ => 1
def uptoBulkAll {H : Type} : List (DataW H) → Nat
  | [] => 0
  | d :: r => uptoBulk d + uptoBulkAll r
def uptoBulkEntries {H : Type} : List (Lit × DataW H) → Nat
  | [] => 0
  | x :: r => uptoBulkEntry x + uptoBulkEntries r
def uptoBulkEntry {H : Type} : Lit × DataW H → Nat
  | (.string bytes, d) => bytes.length + uptoBulk d + 1
  | (_, d) => uptoBulk d + 1
 end
def uptoSmall : (H : Type) → List (DataW H) → Bool := fun _ ds => decide (uptoBulkAll ds ≤ 1048576)
def OpenSpec.upto (s : _root_.Go.ChangeSpec) : _root_.Go.OpenSpec := { _root_.Go.OpenSpec.ofChange s with cond := some uptoSmall }

/-- 'aqueductlaw9.NumLaws', WHERE WHAT IT READS IS OF BULK AT MOST 1048576: true; the input reads as it did. -/
def numLawsUptoRow : OpenClaim := { program := "ytbkacmcijimbfaa", sum := "9495d5872dc6f14b62b1d63edc994878bf131a64165dad4f90fae49a8729d736", func := "aqueduct/aqueductlaw9.NumLaws", spec := "numLaws", unfollowed := true, recurses := true, loops := true, apart := false, narrowed := true }
def NumLawsUptoSaid : Prop := numLawsUptoRow.holds Try.pinned (OpenSpec.upto numLawsSpec)

/-- 'aqueductlaw9.NumBack', WHERE WHAT IT READS IS OF BULK AT MOST 1048576: true; the input reads as it did. -/
def numBackUptoRow : OpenClaim := { program := "ytbkacmcijimbfaa", sum := "9495d5872dc6f14b62b1d63edc994878bf131a64165dad4f90fae49a8729d736", func := "aqueduct/aqueductlaw9.NumBack", spec := "numBack", unfollowed := true, recurses := true, apart := false, narrowed := true }
def NumBackUptoSaid : Prop := numBackUptoRow.holds Try.pinned (OpenSpec.upto numBackSpec)

/-- 'aqueductlaw9.NumReckons', WHERE WHAT IT READS IS OF BULK AT MOST 1048576: true; the input reads as it did. -/
def numReckonsUptoRow : OpenClaim := { program := "ytbkacmcijimbfaa", sum := "9495d5872dc6f14b62b1d63edc994878bf131a64165dad4f90fae49a8729d736", func := "aqueduct/aqueductlaw9.NumReckons", spec := "numReckons", unfollowed := true, recurses := true, loops := true, apart := false, narrowed := true }
def NumReckonsUptoSaid : Prop := numReckonsUptoRow.holds Try.pinned (OpenSpec.upto numReckonsSpec)

/-- 'aqueductlaw9.NumKnown', WHERE WHAT IT READS IS OF BULK AT MOST 1048576: true; the input reads as it did. -/
def numKnownUptoRow : OpenClaim := { program := "ytbkacmcijimbfaa", sum := "9495d5872dc6f14b62b1d63edc994878bf131a64165dad4f90fae49a8729d736", func := "aqueduct/aqueductlaw9.NumKnown", spec := "numKnown", unfollowed := true, recurses := true, apart := false, narrowed := true }
def NumKnownUptoSaid : Prop := numKnownUptoRow.holds Try.pinned (OpenSpec.upto numKnownSpec)

/-- 'aqueductlaw7.OrderCompares', WHERE WHAT IT READS IS OF BULK AT MOST 1048576: true; the input reads as it did. -/
def orderComparesUptoRow : OpenClaim := { program := "ytbkacmcijimbfaa", sum := "9495d5872dc6f14b62b1d63edc994878bf131a64165dad4f90fae49a8729d736", func := "aqueduct/aqueductlaw7.OrderCompares", spec := "orderCompares", inPlace := ["internal/bytealg.Compare"], unfollowed := true, recurses := true, loops := true, apart := false, narrowed := true }
def OrderComparesUptoSaid : Prop := orderComparesUptoRow.holds Try.pinned (OpenSpec.upto orderComparesSpec)

/-- 'aqueductlaw7.OrderKinds', WHERE WHAT IT READS IS OF BULK AT MOST 1048576: true; the input reads as it did. -/
def orderKindsUptoRow : OpenClaim := { program := "ytbkacmcijimbfaa", sum := "9495d5872dc6f14b62b1d63edc994878bf131a64165dad4f90fae49a8729d736", func := "aqueduct/aqueductlaw7.OrderKinds", spec := "orderKinds", inPlace := ["internal/bytealg.Compare"], unfollowed := true, recurses := true, loops := true, apart := false, narrowed := true }
def OrderKindsUptoSaid : Prop := orderKindsUptoRow.holds Try.pinned (OpenSpec.upto orderKindsSpec)

/-- 'aqueductlaw7.OrderCuts', WHERE WHAT IT READS IS OF BULK AT MOST 1048576: true; the input reads as it did. -/
def orderCutsUptoRow : OpenClaim := { program := "ytbkacmcijimbfaa", sum := "9495d5872dc6f14b62b1d63edc994878bf131a64165dad4f90fae49a8729d736", func := "aqueduct/aqueductlaw7.OrderCuts", spec := "orderCuts", inPlace := ["internal/bytealg.Compare"], unfollowed := true, recurses := true, loops := true, apart := false, narrowed := true }
def OrderCutsUptoSaid : Prop := orderCutsUptoRow.holds Try.pinned (OpenSpec.upto orderCutsSpec)

/-- 'aqueductlaw7.OrderKnown', WHERE WHAT IT READS IS OF BULK AT MOST 1048576: true; the input reads as it did. -/
def orderKnownUptoRow : OpenClaim := { program := "ytbkacmcijimbfaa", sum := "9495d5872dc6f14b62b1d63edc994878bf131a64165dad4f90fae49a8729d736", func := "aqueduct/aqueductlaw7.OrderKnown", spec := "orderKnown", inPlace := ["internal/bytealg.Compare"], unfollowed := true, recurses := true, apart := false, narrowed := true }
def OrderKnownUptoSaid : Prop := orderKnownUptoRow.holds Try.pinned (OpenSpec.upto orderKnownSpec)

/-- 'aqueductlaw7.OrderNumbers', WHERE WHAT IT READS IS OF BULK AT MOST 1048576: true; the input reads as it did. -/
def orderNumbersUptoRow : OpenClaim := { program := "ytbkacmcijimbfaa", sum := "9495d5872dc6f14b62b1d63edc994878bf131a64165dad4f90fae49a8729d736", func := "aqueduct/aqueductlaw7.OrderNumbers", spec := "orderNumbers", inPlace := ["internal/bytealg.Compare"], unfollowed := true, recurses := true, apart := false, narrowed := true }
def OrderNumbersUptoSaid : Prop := orderNumbersUptoRow.holds Try.pinned (OpenSpec.upto orderNumbersSpec)

/-- 'aqueductlaw7.OrderRows', WHERE WHAT IT READS IS OF BULK AT MOST 1048576: true; the input reads as it did. -/
def orderRowsUptoRow : OpenClaim := { program := "ytbkacmcijimbfaa", sum := "9495d5872dc6f14b62b1d63edc994878bf131a64165dad4f90fae49a8729d736", func := "aqueduct/aqueductlaw7.OrderRows", spec := "orderRows", inPlace := ["internal/bytealg.Compare"], unfollowed := true, recurses := true, loops := true, apart := false, narrowed := true }
def OrderRowsUptoSaid : Prop := orderRowsUptoRow.holds Try.pinned (OpenSpec.upto orderRowsSpec)

end Rows
end Go.Proofs.Ytbkacmcijimbfaa
