/-
  NARROWER THAN 'FOR EVERY INPUT', by the rows' own cells (each row's printed sentence says how): KeySorts: loops · KeyAlike: loops.
  DERIVED. THE GIVEN ROWS OF THIS SEAT. 4 by the template 'for every input the law returns true; each argument reads behind the call as it read before'; 0 by the template 'total and deterministic' (their statements: YtlccdfilbiipmaaTotals.lean).
  GIVEN WITH THE SEED: the statements are not yours to turn. If you find one false, say at which input.
  Laid BY PROGRAM, IN A SANDBOX (cutbox-rows.mjs): the forced cells as the released guide's own fill.sh prints them over the translation 8e6e4160c5595a21… (all of the seat's roots in one cut). By AI agents, Wed Nov 11 2026. No macro, syntax, notation, axiom, sorry.
-/
import Derived.Test.YtlccdfilbiipmaaChecked
import GoSem.Claim
import GoSem.ClaimJoined
import GoSem.ClaimMapViews
import Derived.JoinedTies
import Derived.KernelRfl
namespace Go.Proofs.Ytlccdfilbiipmaa
/- THE CELL 'sum', in the pinned program and in every row, IS THE sha256 OF THE DUMP (.gsa) THAT YtlccdfilbiipmaaProg.lean LOADS. Nothing in Lean hashes anything: it is a label: what it is worth is what the hold of that sum in a sandbox is worth. -/
noncomputable def Try.pinned : Pinned := { name := "ytlccdfilbiipmaa", sum := "8e6e4160c5595a212dc32acf65d7f5328d7e01c31552d28b36a7bff10717bf1a", checked := Try.checked }
namespace Rows
def none {H : Type} : Left H := { results := [], args := [] }

/-- 'aqueductlaw8.KeySorts': WHATEVER THE INPUT: true; the input reads as it did. -/
def keySortsSpec : ChangeSpec := { name := "keySorts", fn := fun _ => fun
  | [d1, d2, d3] => { results := [.lit (.bool true)], args := [d1, d2, d3] }
  | _ => none }
def keySortsRow : OpenClaim := { program := "ytlccdfilbiipmaa", sum := "8e6e4160c5595a212dc32acf65d7f5328d7e01c31552d28b36a7bff10717bf1a", func := "aqueduct/aqueductlaw8.KeySorts", spec := "keySorts", unfollowed := true, recurses := true, loops := true, apart := false }
def KeySortsSaid : Prop := keySortsRow.holds Try.pinned (OpenSpec.ofChange keySortsSpec)

/-- ITS FALSE NEIGHBOUR: 'it returns false'. Refute it at one input. -/
def keySortsWrong : ChangeSpec := { name := "keySorts", fn := fun _ => fun
  | [d1, d2, d3] => { results := [.lit (.bool false)], args := [d1, d2, d3] }
  | _ => none }
def KeySortsWrongFalsely : Prop := keySortsRow.holds Try.pinned (OpenSpec.ofChange keySortsWrong)

/-- 'aqueductlaw8.KeyHashes': WHATEVER THE INPUT: true; the input reads as it did. -/
def keyHashesSpec : ChangeSpec := { name := "keyHashes", fn := fun _ => fun
  | [d1, d2, d3] => { results := [.lit (.bool true)], args := [d1, d2, d3] }
  | _ => none }
def keyHashesRow : OpenClaim := { program := "ytlccdfilbiipmaa", sum := "8e6e4160c5595a212dc32acf65d7f5328d7e01c31552d28b36a7bff10717bf1a", func := "aqueduct/aqueductlaw8.KeyHashes", spec := "keyHashes", unfollowed := true, recurses := true, apart := false }
def KeyHashesSaid : Prop := keyHashesRow.holds Try.pinned (OpenSpec.ofChange keyHashesSpec)

/-- ITS FALSE NEIGHBOUR: 'it returns false'. Refute it at one input. -/
def keyHashesWrong : ChangeSpec := { name := "keyHashes", fn := fun _ => fun
  | [d1, d2, d3] => { results := [.lit (.bool false)], args := [d1, d2, d3] }
  | _ => none }
def KeyHashesWrongFalsely : Prop := keyHashesRow.holds Try.pinned (OpenSpec.ofChange keyHashesWrong)

/-- 'aqueductlaw8.KeyAlike': WHATEVER THE INPUT: true; the input reads as it did. -/
def keyAlikeSpec : ChangeSpec := { name := "keyAlike", fn := fun _ => fun
  | [d1, d2, d3] => { results := [.lit (.bool true)], args := [d1, d2, d3] }
  | _ => none }
def keyAlikeRow : OpenClaim := { program := "ytlccdfilbiipmaa", sum := "8e6e4160c5595a212dc32acf65d7f5328d7e01c31552d28b36a7bff10717bf1a", func := "aqueduct/aqueductlaw8.KeyAlike", spec := "keyAlike", unfollowed := true, recurses := true, loops := true, apart := false }
def KeyAlikeSaid : Prop := keyAlikeRow.holds Try.pinned (OpenSpec.ofChange keyAlikeSpec)

/-- ITS FALSE NEIGHBOUR: 'it returns false'. Refute it at one input. -/
def keyAlikeWrong : ChangeSpec := { name := "keyAlike", fn := fun _ => fun
  | [d1, d2, d3] => { results := [.lit (.bool false)], args := [d1, d2, d3] }
  | _ => none }
def KeyAlikeWrongFalsely : Prop := keyAlikeRow.holds Try.pinned (OpenSpec.ofChange keyAlikeWrong)

/-- 'aqueductlaw8.KeyKnown': WHATEVER THE INPUT: true; the input reads as it did. -/
def keyKnownSpec : ChangeSpec := { name := "keyKnown", fn := fun _ => fun
  | [] => { results := [.lit (.bool true)], args := [] }
  | _ => none }
def keyKnownRow : OpenClaim := { program := "ytlccdfilbiipmaa", sum := "8e6e4160c5595a212dc32acf65d7f5328d7e01c31552d28b36a7bff10717bf1a", func := "aqueduct/aqueductlaw8.KeyKnown", spec := "keyKnown", unfollowed := true, recurses := true, apart := false }
def KeyKnownSaid : Prop := keyKnownRow.holds Try.pinned (OpenSpec.ofChange keyKnownSpec)

/-- ITS FALSE NEIGHBOUR: 'it returns false'. Refute it at one input. -/
def keyKnownWrong : ChangeSpec := { name := "keyKnown", fn := fun _ => fun
  | [] => { results := [.lit (.bool false)], args := [] }
  | _ => none }
def KeyKnownWrongFalsely : Prop := keyKnownRow.holds Try.pinned (OpenSpec.ofChange keyKnownWrong)

/- THE SECOND FORM. 'bulk': how many values and letters a reading holds, each counted each time it is reached (what is shared counts as often as it is met; a slice's spare places count too). A statement '..UptoSaid' is the law's where the arguments, and the package variables that the reading takes, are together of bulk at most 1048576: NARROWER than '..Said'. Prove '..Said' where nothing that the law and all that it calls make is longer than what came in: it says more and counts as full. Else prove '..UptoSaid'. A law counts once. -/
mutual
def uptoBulk {H : Type} : DataW H → Nat
  | .lit (.string bytes) => bytes.length + 1
  | .lit _ => 1
  | .nil => 1
  | .ptr d => uptoBulk d + 1
  | .slice elems spare => uptoBulkAll elems + uptoBulkAll spare + 1
  | .agg parts => uptoBulkAll parts + 1
  | .iface _ d => uptoBulk d + 1
  | .map entries => uptoBulkEntries entries + 1
  | .held _ => 1
def uptoBulkAll {H : Type} : List (DataW H) → Nat
  | [] => 0
  | d :: r => uptoBulk d + uptoBulkAll r
def uptoBulkEntries {H : Type} : List (Lit × DataW H) → Nat
  | [] => 0
  | x :: r => uptoBulkEntry x + uptoBulkEntries r
def uptoBulkEntry {H : Type} : Lit × DataW H → Nat
  | (.string bytes, d) => bytes.length + uptoBulk d + 1
  | (_, d) => uptoBulk d + 1
 end
def uptoSmall : (H : Type) → List (DataW H) → Bool := fun _ ds => decide (uptoBulkAll ds ≤ 1048576)
def OpenSpec.upto (s : _root_.Go.ChangeSpec) : _root_.Go.OpenSpec := { _root_.Go.OpenSpec.ofChange s with cond := some uptoSmall }

/-- 'aqueductlaw8.KeySorts', WHERE WHAT IT READS IS OF BULK AT MOST 1048576: true; the input reads as it did. -/
def keySortsUptoRow : OpenClaim := { program := "ytlccdfilbiipmaa", sum := "8e6e4160c5595a212dc32acf65d7f5328d7e01c31552d28b36a7bff10717bf1a", func := "aqueduct/aqueductlaw8.KeySorts", spec := "keySorts", unfollowed := true, recurses := true, loops := true, apart := false, narrowed := true }
def KeySortsUptoSaid : Prop := keySortsUptoRow.holds Try.pinned (OpenSpec.upto keySortsSpec)

/-- 'aqueductlaw8.KeyHashes', WHERE WHAT IT READS IS OF BULK AT MOST 1048576: true; the input reads as it did. -/
def keyHashesUptoRow : OpenClaim := { program := "ytlccdfilbiipmaa", sum := "8e6e4160c5595a212dc32acf65d7f5328d7e01c31552d28b36a7bff10717bf1a", func := "aqueduct/aqueductlaw8.KeyHashes", spec := "keyHashes", unfollowed := true, recurses := true, apart := false, narrowed := true }
def KeyHashesUptoSaid : Prop := keyHashesUptoRow.holds Try.pinned (OpenSpec.upto keyHashesSpec)

/-- 'aqueductlaw8.KeyAlike', WHERE WHAT IT READS IS OF BULK AT MOST 1048576: true; the input reads as it did. -/
def keyAlikeUptoRow : OpenClaim := { program := "ytlccdfilbiipmaa", sum := "8e6e4160c5595a212dc32acf65d7f5328d7e01c31552d28b36a7bff10717bf1a", func := "aqueduct/aqueductlaw8.KeyAlike", spec := "keyAlike", unfollowed := true, recurses := true, loops := true, apart := false, narrowed := true }
def KeyAlikeUptoSaid : Prop := keyAlikeUptoRow.holds Try.pinned (OpenSpec.upto keyAlikeSpec)

/-- 'aqueductlaw8.KeyKnown', WHERE WHAT IT READS IS OF BULK AT MOST 1048576: true; the input reads as it did. -/
def keyKnownUptoRow : OpenClaim := { program := "ytlccdfilbiipmaa", sum := "8e6e4160c5595a212dc32acf65d7f5328d7e01c31552d28b36a7bff10717bf1a", func := "aqueduct/aqueductlaw8.KeyKnown", spec := "keyKnown", unfollowed := true, recurses := true, apart := false, narrowed := true }
def KeyKnownUptoSaid : Prop := keyKnownUptoRow.holds Try.pinned (OpenSpec.upto keyKnownSpec)

end Rows
end Go.Proofs.Ytlccdfilbiipmaa
