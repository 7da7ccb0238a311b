/-
  No cell of these rows narrows 'for every input' (looked for: loops, veiled, ifaces, maps, wideKeys, modest, calm, conditions, laid).
  DERIVED. THE GIVEN ROWS OF THIS SEAT. 12 by the template 'for every input the law returns true; each argument reads behind the call as it read before'; 0 by the template 'total and deterministic' (their statements: YtifpbdhggooelaaTotals.lean).
  GIVEN WITH THE SEED: the statements are not yours to turn. If you find one false, say at which input.
  Laid BY PROGRAM, IN A SANDBOX (cutbox-rows.mjs): the forced cells as the released guide's own fill.sh prints them over the translation 238c5b97e5e6dcad… (all of the seat's roots in one cut). By AI agents, Wed Nov 11 2026. No macro, syntax, notation, axiom, sorry.
-/
import Derived.Test.YtifpbdhggooelaaChecked
import GoSem.Claim
import GoSem.ClaimJoined
import GoSem.ClaimMapViews
import Derived.JoinedTies
import Derived.KernelRfl
namespace Go.Proofs.Ytifpbdhggooelaa
/- THE CELL 'sum', in the pinned program and in every row, IS THE sha256 OF THE DUMP (.gsa) THAT YtifpbdhggooelaaProg.lean LOADS. Nothing in Lean hashes anything: it is a label: what it is worth is what the hold of that sum in a sandbox is worth. -/
noncomputable def Try.pinned : Pinned := { name := "ytifpbdhggooelaa", sum := "238c5b97e5e6dcad5e9e4915f6c78220b01759a9e9018ed3e014430cddc88332", checked := Try.checked }
namespace Rows
def none {H : Type} : Left H := { results := [], args := [] }

/-- 'aqueductlaw3.LedgerPlays': WHATEVER THE INPUT: true; the input reads as it did. -/
def ledgerPlaysSpec : ChangeSpec := { name := "ledgerPlays", fn := fun _ => fun
  | [d1, d2] => { results := [.lit (.bool true)], args := [d1, d2] }
  | _ => none }
def ledgerPlaysRow : OpenClaim := { program := "ytifpbdhggooelaa", sum := "238c5b97e5e6dcad5e9e4915f6c78220b01759a9e9018ed3e014430cddc88332", func := "aqueduct/aqueductlaw3.LedgerPlays", spec := "ledgerPlays", apart := false }
def LedgerPlaysSaid : Prop := ledgerPlaysRow.holds Try.pinned (OpenSpec.ofChange ledgerPlaysSpec)

/-- ITS FALSE NEIGHBOUR: 'it returns false'. Refute it at one input. -/
def ledgerPlaysWrong : ChangeSpec := { name := "ledgerPlays", fn := fun _ => fun
  | [d1, d2] => { results := [.lit (.bool false)], args := [d1, d2] }
  | _ => none }
def LedgerPlaysWrongFalsely : Prop := ledgerPlaysRow.holds Try.pinned (OpenSpec.ofChange ledgerPlaysWrong)

/-- 'aqueductlaw3.LedgerKeeps': WHATEVER THE INPUT: true; the input reads as it did. -/
def ledgerKeepsSpec : ChangeSpec := { name := "ledgerKeeps", fn := fun _ => fun
  | [d1, d2] => { results := [.lit (.bool true)], args := [d1, d2] }
  | _ => none }
def ledgerKeepsRow : OpenClaim := { program := "ytifpbdhggooelaa", sum := "238c5b97e5e6dcad5e9e4915f6c78220b01759a9e9018ed3e014430cddc88332", func := "aqueduct/aqueductlaw3.LedgerKeeps", spec := "ledgerKeeps", apart := false }
def LedgerKeepsSaid : Prop := ledgerKeepsRow.holds Try.pinned (OpenSpec.ofChange ledgerKeepsSpec)

/-- ITS FALSE NEIGHBOUR: 'it returns false'. Refute it at one input. -/
def ledgerKeepsWrong : ChangeSpec := { name := "ledgerKeeps", fn := fun _ => fun
  | [d1, d2] => { results := [.lit (.bool false)], args := [d1, d2] }
  | _ => none }
def LedgerKeepsWrongFalsely : Prop := ledgerKeepsRow.holds Try.pinned (OpenSpec.ofChange ledgerKeepsWrong)

/-- 'aqueductlaw3.LedgerKnown': WHATEVER THE INPUT: true; the input reads as it did. -/
def ledgerKnownSpec : ChangeSpec := { name := "ledgerKnown", fn := fun _ => fun
  | [] => { results := [.lit (.bool true)], args := [] }
  | _ => none }
def ledgerKnownRow : OpenClaim := { program := "ytifpbdhggooelaa", sum := "238c5b97e5e6dcad5e9e4915f6c78220b01759a9e9018ed3e014430cddc88332", func := "aqueduct/aqueductlaw3.LedgerKnown", spec := "ledgerKnown", apart := false }
def LedgerKnownSaid : Prop := ledgerKnownRow.holds Try.pinned (OpenSpec.ofChange ledgerKnownSpec)

/-- ITS FALSE NEIGHBOUR: 'it returns false'. Refute it at one input. -/
def ledgerKnownWrong : ChangeSpec := { name := "ledgerKnown", fn := fun _ => fun
  | [] => { results := [.lit (.bool false)], args := [] }
  | _ => none }
def LedgerKnownWrongFalsely : Prop := ledgerKnownRow.holds Try.pinned (OpenSpec.ofChange ledgerKnownWrong)

/-- 'aqueductlaw2.SealCloses': WHATEVER THE INPUT: true; the input reads as it did. -/
def sealClosesSpec : ChangeSpec := { name := "sealCloses", fn := fun _ => fun
  | [d1, d2, d3] => { results := [.lit (.bool true)], args := [d1, d2, d3] }
  | _ => none }
def sealClosesRow : OpenClaim := { program := "ytifpbdhggooelaa", sum := "238c5b97e5e6dcad5e9e4915f6c78220b01759a9e9018ed3e014430cddc88332", func := "aqueduct/aqueductlaw2.SealCloses", spec := "sealCloses", apart := false }
def SealClosesSaid : Prop := sealClosesRow.holds Try.pinned (OpenSpec.ofChange sealClosesSpec)

/-- ITS FALSE NEIGHBOUR: 'it returns false'. Refute it at one input. -/
def sealClosesWrong : ChangeSpec := { name := "sealCloses", fn := fun _ => fun
  | [d1, d2, d3] => { results := [.lit (.bool false)], args := [d1, d2, d3] }
  | _ => none }
def SealClosesWrongFalsely : Prop := sealClosesRow.holds Try.pinned (OpenSpec.ofChange sealClosesWrong)

/-- 'aqueductlaw2.SealOpens': WHATEVER THE INPUT: true; the input reads as it did. -/
def sealOpensSpec : ChangeSpec := { name := "sealOpens", fn := fun _ => fun
  | [d] => { results := [.lit (.bool true)], args := [d] }
  | _ => none }
def sealOpensRow : OpenClaim := { program := "ytifpbdhggooelaa", sum := "238c5b97e5e6dcad5e9e4915f6c78220b01759a9e9018ed3e014430cddc88332", func := "aqueduct/aqueductlaw2.SealOpens", spec := "sealOpens", apart := false }
def SealOpensSaid : Prop := sealOpensRow.holds Try.pinned (OpenSpec.ofChange sealOpensSpec)

/-- ITS FALSE NEIGHBOUR: 'it returns false'. Refute it at one input. -/
def sealOpensWrong : ChangeSpec := { name := "sealOpens", fn := fun _ => fun
  | [d] => { results := [.lit (.bool false)], args := [d] }
  | _ => none }
def SealOpensWrongFalsely : Prop := sealOpensRow.holds Try.pinned (OpenSpec.ofChange sealOpensWrong)

/-- 'aqueductlaw2.SealTells': WHATEVER THE INPUT: true; the input reads as it did. -/
def sealTellsSpec : ChangeSpec := { name := "sealTells", fn := fun _ => fun
  | [d1, d2, d3] => { results := [.lit (.bool true)], args := [d1, d2, d3] }
  | _ => none }
def sealTellsRow : OpenClaim := { program := "ytifpbdhggooelaa", sum := "238c5b97e5e6dcad5e9e4915f6c78220b01759a9e9018ed3e014430cddc88332", func := "aqueduct/aqueductlaw2.SealTells", spec := "sealTells", apart := false }
def SealTellsSaid : Prop := sealTellsRow.holds Try.pinned (OpenSpec.ofChange sealTellsSpec)

/-- ITS FALSE NEIGHBOUR: 'it returns false'. Refute it at one input. -/
def sealTellsWrong : ChangeSpec := { name := "sealTells", fn := fun _ => fun
  | [d1, d2, d3] => { results := [.lit (.bool false)], args := [d1, d2, d3] }
  | _ => none }
def SealTellsWrongFalsely : Prop := sealTellsRow.holds Try.pinned (OpenSpec.ofChange sealTellsWrong)

/-- 'aqueductlaw2.SealRooms': WHATEVER THE INPUT: true; the input reads as it did. -/
def sealRoomsSpec : ChangeSpec := { name := "sealRooms", fn := fun _ => fun
  | [d1, d2] => { results := [.lit (.bool true)], args := [d1, d2] }
  | _ => none }
def sealRoomsRow : OpenClaim := { program := "ytifpbdhggooelaa", sum := "238c5b97e5e6dcad5e9e4915f6c78220b01759a9e9018ed3e014430cddc88332", func := "aqueduct/aqueductlaw2.SealRooms", spec := "sealRooms", apart := false }
def SealRoomsSaid : Prop := sealRoomsRow.holds Try.pinned (OpenSpec.ofChange sealRoomsSpec)

/-- ITS FALSE NEIGHBOUR: 'it returns false'. Refute it at one input. -/
def sealRoomsWrong : ChangeSpec := { name := "sealRooms", fn := fun _ => fun
  | [d1, d2] => { results := [.lit (.bool false)], args := [d1, d2] }
  | _ => none }
def SealRoomsWrongFalsely : Prop := sealRoomsRow.holds Try.pinned (OpenSpec.ofChange sealRoomsWrong)

/-- 'aqueductlaw2.SealSums': WHATEVER THE INPUT: true; the input reads as it did. -/
def sealSumsSpec : ChangeSpec := { name := "sealSums", fn := fun _ => fun
  | [d1, d2] => { results := [.lit (.bool true)], args := [d1, d2] }
  | _ => none }
def sealSumsRow : OpenClaim := { program := "ytifpbdhggooelaa", sum := "238c5b97e5e6dcad5e9e4915f6c78220b01759a9e9018ed3e014430cddc88332", func := "aqueduct/aqueductlaw2.SealSums", spec := "sealSums", apart := false }
def SealSumsSaid : Prop := sealSumsRow.holds Try.pinned (OpenSpec.ofChange sealSumsSpec)

/-- ITS FALSE NEIGHBOUR: 'it returns false'. Refute it at one input. -/
def sealSumsWrong : ChangeSpec := { name := "sealSums", fn := fun _ => fun
  | [d1, d2] => { results := [.lit (.bool false)], args := [d1, d2] }
  | _ => none }
def SealSumsWrongFalsely : Prop := sealSumsRow.holds Try.pinned (OpenSpec.ofChange sealSumsWrong)

/-- 'aqueductlaw2.SealKnown': WHATEVER THE INPUT: true; the input reads as it did. -/
def sealKnownSpec : ChangeSpec := { name := "sealKnown", fn := fun _ => fun
  | [] => { results := [.lit (.bool true)], args := [] }
  | _ => none }
def sealKnownRow : OpenClaim := { program := "ytifpbdhggooelaa", sum := "238c5b97e5e6dcad5e9e4915f6c78220b01759a9e9018ed3e014430cddc88332", func := "aqueduct/aqueductlaw2.SealKnown", spec := "sealKnown", apart := false }
def SealKnownSaid : Prop := sealKnownRow.holds Try.pinned (OpenSpec.ofChange sealKnownSpec)

/-- ITS FALSE NEIGHBOUR: 'it returns false'. Refute it at one input. -/
def sealKnownWrong : ChangeSpec := { name := "sealKnown", fn := fun _ => fun
  | [] => { results := [.lit (.bool false)], args := [] }
  | _ => none }
def SealKnownWrongFalsely : Prop := sealKnownRow.holds Try.pinned (OpenSpec.ofChange sealKnownWrong)

/-- 'aqueductlaw1.DiskFails': WHATEVER THE INPUT: true; the input reads as it did. -/
def diskFailsSpec : ChangeSpec := { name := "diskFails", fn := fun _ => fun
  | [d1, d2] => { results := [.lit (.bool true)], args := [d1, d2] }
  | _ => none }
def diskFailsRow : OpenClaim := { program := "ytifpbdhggooelaa", sum := "238c5b97e5e6dcad5e9e4915f6c78220b01759a9e9018ed3e014430cddc88332", func := "aqueduct/aqueductlaw1.DiskFails", spec := "diskFails", unfollowed := true, recurses := true, apart := false }
def DiskFailsSaid : Prop := diskFailsRow.holds Try.pinned (OpenSpec.ofChange diskFailsSpec)

/-- ITS FALSE NEIGHBOUR: 'it returns false'. Refute it at one input. -/
def diskFailsWrong : ChangeSpec := { name := "diskFails", fn := fun _ => fun
  | [d1, d2] => { results := [.lit (.bool false)], args := [d1, d2] }
  | _ => none }
def DiskFailsWrongFalsely : Prop := diskFailsRow.holds Try.pinned (OpenSpec.ofChange diskFailsWrong)

/-- 'aqueductlaw1.DiskTurns': WHATEVER THE INPUT: true; the input reads as it did. -/
def diskTurnsSpec : ChangeSpec := { name := "diskTurns", fn := fun _ => fun
  | [d1, d2, d3] => { results := [.lit (.bool true)], args := [d1, d2, d3] }
  | _ => none }
def diskTurnsRow : OpenClaim := { program := "ytifpbdhggooelaa", sum := "238c5b97e5e6dcad5e9e4915f6c78220b01759a9e9018ed3e014430cddc88332", func := "aqueduct/aqueductlaw1.DiskTurns", spec := "diskTurns", unfollowed := true, recurses := true, apart := false }
def DiskTurnsSaid : Prop := diskTurnsRow.holds Try.pinned (OpenSpec.ofChange diskTurnsSpec)

/-- ITS FALSE NEIGHBOUR: 'it returns false'. Refute it at one input. -/
def diskTurnsWrong : ChangeSpec := { name := "diskTurns", fn := fun _ => fun
  | [d1, d2, d3] => { results := [.lit (.bool false)], args := [d1, d2, d3] }
  | _ => none }
def DiskTurnsWrongFalsely : Prop := diskTurnsRow.holds Try.pinned (OpenSpec.ofChange diskTurnsWrong)

/-- 'aqueductlaw1.DiskLeast': WHATEVER THE INPUT: true; the input reads as it did. -/
def diskLeastSpec : ChangeSpec := { name := "diskLeast", fn := fun _ => fun
  | [d1, d2] => { results := [.lit (.bool true)], args := [d1, d2] }
  | _ => none }
def diskLeastRow : OpenClaim := { program := "ytifpbdhggooelaa", sum := "238c5b97e5e6dcad5e9e4915f6c78220b01759a9e9018ed3e014430cddc88332", func := "aqueduct/aqueductlaw1.DiskLeast", spec := "diskLeast", unfollowed := true, recurses := true, apart := false }
def DiskLeastSaid : Prop := diskLeastRow.holds Try.pinned (OpenSpec.ofChange diskLeastSpec)

/-- ITS FALSE NEIGHBOUR: 'it returns false'. Refute it at one input. -/
def diskLeastWrong : ChangeSpec := { name := "diskLeast", fn := fun _ => fun
  | [d1, d2] => { results := [.lit (.bool false)], args := [d1, d2] }
  | _ => none }
def DiskLeastWrongFalsely : Prop := diskLeastRow.holds Try.pinned (OpenSpec.ofChange diskLeastWrong)

/- THE SECOND FORM. 'bulk': how many values and letters a reading holds, each counted each time it is reached (what is shared counts as often as it is met; a slice's spare places count too). A statement '..UptoSaid' is the law's where the arguments, and the package variables that the reading takes, are together of bulk at most 1048576: NARROWER than '..Said'. Prove '..Said' where nothing that the law and all that it calls make is longer than what came in: it says more and counts as full. Else prove '..UptoSaid'. A law counts once. -/
mutual
def uptoBulk {H : Type} : DataW H → Nat
  | .lit (.string bytes) => bytes.length + 1
  | .lit _ => 1
  | .nil => 1
  | .ptr d => uptoBulk d + 1
  | .slice elems spare => uptoBulkAll elems + uptoBulkAll spare + 1
  | .agg parts => uptoBulkAll parts + 1
  | .iface _ d => uptoBulk d + 1
  | .map entries => uptoBulkEntries entries + 1
  | .held _ => 1
def uptoBulkAll {H : Type} : List (DataW H) → Nat
  | [] => 0
  | d :: r => uptoBulk d + uptoBulkAll r
def uptoBulkEntries {H : Type} : List (Lit × DataW H) → Nat
  | [] => 0
  | x :: r => uptoBulkEntry x + uptoBulkEntries r
def uptoBulkEntry {H : Type} : Lit × DataW H → Nat
  | (.string bytes, d) => bytes.length + uptoBulk d + 1
  | (_, d) => uptoBulk d + 1
 end
def uptoSmall : (H : Type) → List (DataW H) → Bool := fun _ ds => decide (uptoBulkAll ds ≤ 1048576)
def OpenSpec.upto (s : _root_.Go.ChangeSpec) : _root_.Go.OpenSpec := { _root_.Go.OpenSpec.ofChange s with cond := some uptoSmall }

/-- 'aqueductlaw3.LedgerPlays', WHERE WHAT IT READS IS OF BULK AT MOST 1048576: true; the input reads as it did. -/
def ledgerPlaysUptoRow : OpenClaim := { program := "ytifpbdhggooelaa", sum := "238c5b97e5e6dcad5e9e4915f6c78220b01759a9e9018ed3e014430cddc88332", func := "aqueduct/aqueductlaw3.LedgerPlays", spec := "ledgerPlays", apart := false, narrowed := true }
def LedgerPlaysUptoSaid : Prop := ledgerPlaysUptoRow.holds Try.pinned (OpenSpec.upto ledgerPlaysSpec)

/-- 'aqueductlaw3.LedgerKeeps', WHERE WHAT IT READS IS OF BULK AT MOST 1048576: true; the input reads as it did. -/
def ledgerKeepsUptoRow : OpenClaim := { program := "ytifpbdhggooelaa", sum := "238c5b97e5e6dcad5e9e4915f6c78220b01759a9e9018ed3e014430cddc88332", func := "aqueduct/aqueductlaw3.LedgerKeeps", spec := "ledgerKeeps", apart := false, narrowed := true }
def LedgerKeepsUptoSaid : Prop := ledgerKeepsUptoRow.holds Try.pinned (OpenSpec.upto ledgerKeepsSpec)

/-- 'aqueductlaw3.LedgerKnown', WHERE WHAT IT READS IS OF BULK AT MOST 1048576: true; the input reads as it did. -/
def ledgerKnownUptoRow : OpenClaim := { program := "ytifpbdhggooelaa", sum := "238c5b97e5e6dcad5e9e4915f6c78220b01759a9e9018ed3e014430cddc88332", func := "aqueduct/aqueductlaw3.LedgerKnown", spec := "ledgerKnown", apart := false, narrowed := true }
def LedgerKnownUptoSaid : Prop := ledgerKnownUptoRow.holds Try.pinned (OpenSpec.upto ledgerKnownSpec)

/-- 'aqueductlaw2.SealCloses', WHERE WHAT IT READS IS OF BULK AT MOST 1048576: true; the input reads as it did. -/
def sealClosesUptoRow : OpenClaim := { program := "ytifpbdhggooelaa", sum := "238c5b97e5e6dcad5e9e4915f6c78220b01759a9e9018ed3e014430cddc88332", func := "aqueduct/aqueductlaw2.SealCloses", spec := "sealCloses", apart := false, narrowed := true }
def SealClosesUptoSaid : Prop := sealClosesUptoRow.holds Try.pinned (OpenSpec.upto sealClosesSpec)

/-- 'aqueductlaw2.SealOpens', WHERE WHAT IT READS IS OF BULK AT MOST 1048576: true; the input reads as it did. -/
def sealOpensUptoRow : OpenClaim := { program := "ytifpbdhggooelaa", sum := "238c5b97e5e6dcad5e9e4915f6c78220b01759a9e9018ed3e014430cddc88332", func := "aqueduct/aqueductlaw2.SealOpens", spec := "sealOpens", apart := false, narrowed := true }
def SealOpensUptoSaid : Prop := sealOpensUptoRow.holds Try.pinned (OpenSpec.upto sealOpensSpec)

/-- 'aqueductlaw2.SealTells', WHERE WHAT IT READS IS OF BULK AT MOST 1048576: true; the input reads as it did. -/
def sealTellsUptoRow : OpenClaim := { program := "ytifpbdhggooelaa", sum := "238c5b97e5e6dcad5e9e4915f6c78220b01759a9e9018ed3e014430cddc88332", func := "aqueduct/aqueductlaw2.SealTells", spec := "sealTells", apart := false, narrowed := true }
def SealTellsUptoSaid : Prop := sealTellsUptoRow.holds Try.pinned (OpenSpec.upto sealTellsSpec)

/-- 'aqueductlaw2.SealRooms', WHERE WHAT IT READS IS OF BULK AT MOST 1048576: true; the input reads as it did. -/
def sealRoomsUptoRow : OpenClaim := { program := "ytifpbdhggooelaa", sum := "238c5b97e5e6dcad5e9e4915f6c78220b01759a9e9018ed3e014430cddc88332", func := "aqueduct/aqueductlaw2.SealRooms", spec := "sealRooms", apart := false, narrowed := true }
def SealRoomsUptoSaid : Prop := sealRoomsUptoRow.holds Try.pinned (OpenSpec.upto sealRoomsSpec)

/-- 'aqueductlaw2.SealSums', WHERE WHAT IT READS IS OF BULK AT MOST 1048576: true; the input reads as it did. -/
def sealSumsUptoRow : OpenClaim := { program := "ytifpbdhggooelaa", sum := "238c5b97e5e6dcad5e9e4915f6c78220b01759a9e9018ed3e014430cddc88332", func := "aqueduct/aqueductlaw2.SealSums", spec := "sealSums", apart := false, narrowed := true }
def SealSumsUptoSaid : Prop := sealSumsUptoRow.holds Try.pinned (OpenSpec.upto sealSumsSpec)

/-- 'aqueductlaw2.SealKnown', WHERE WHAT IT READS IS OF BULK AT MOST 1048576: true; the input reads as it did. -/
def sealKnownUptoRow : OpenClaim := { program := "ytifpbdhggooelaa", sum := "238c5b97e5e6dcad5e9e4915f6c78220b01759a9e9018ed3e014430cddc88332", func := "aqueduct/aqueductlaw2.SealKnown", spec := "sealKnown", apart := false, narrowed := true }
def SealKnownUptoSaid : Prop := sealKnownUptoRow.holds Try.pinned (OpenSpec.upto sealKnownSpec)

/-- 'aqueductlaw1.DiskFails', WHERE WHAT IT READS IS OF BULK AT MOST 1048576: true; the input reads as it did. -/
def diskFailsUptoRow : OpenClaim := { program := "ytifpbdhggooelaa", sum := "238c5b97e5e6dcad5e9e4915f6c78220b01759a9e9018ed3e014430cddc88332", func := "aqueduct/aqueductlaw1.DiskFails", spec := "diskFails", unfollowed := true, recurses := true, apart := false, narrowed := true }
def DiskFailsUptoSaid : Prop := diskFailsUptoRow.holds Try.pinned (OpenSpec.upto diskFailsSpec)

/-- 'aqueductlaw1.DiskTurns', WHERE WHAT IT READS IS OF BULK AT MOST 1048576: true; the input reads as it did. -/
def diskTurnsUptoRow : OpenClaim := { program := "ytifpbdhggooelaa", sum := "238c5b97e5e6dcad5e9e4915f6c78220b01759a9e9018ed3e014430cddc88332", func := "aqueduct/aqueductlaw1.DiskTurns", spec := "diskTurns", unfollowed := true, recurses := true, apart := false, narrowed := true }
def DiskTurnsUptoSaid : Prop := diskTurnsUptoRow.holds Try.pinned (OpenSpec.upto diskTurnsSpec)

/-- 'aqueductlaw1.DiskLeast', WHERE WHAT IT READS IS OF BULK AT MOST 1048576: true; the input reads as it did. -/
def diskLeastUptoRow : OpenClaim := { program := "ytifpbdhggooelaa", sum := "238c5b97e5e6dcad5e9e4915f6c78220b01759a9e9018ed3e014430cddc88332", func := "aqueduct/aqueductlaw1.DiskLeast", spec := "diskLeast", unfollowed := true, recurses := true, apart := false, narrowed := true }
def DiskLeastUptoSaid : Prop := diskLeastUptoRow.holds Try.pinned (OpenSpec.upto diskLeastSpec)

end Rows
end Go.Proofs.Ytifpbdhggooelaa
