/- Names, lists of bytes. -/
import Derived.Test.YtlccdfilbiipmaaDoorRows
import Derived.Test.YtlccdfilbiipmaaDoorGd33
import Derived.Test.YtlccdfilbiipmaaDoorValKitP
namespace Go.Proofs.YtlccdfilbiipmaaDoor.ordk
open Go YtlccdfilbiipmaaDoor.GD
set_option linter.unusedVariables false
set_option linter.unusedSimpArgs false
set_option maxRecDepth 100000

abbrev Es := List (List D)
abbrev Tab := FuncId → List D → GD.Heap → Option (D × GD.Heap)
noncomputable abbrev P : Program := Tryd.prog
noncomputable abbrev T : Tys := tyOf Tryd.prog
def t0 : Tab := fun _ _ _ => none
def a1 (k : Int) : List D × GD.Heap := ([.int .i64 k], [])
def t1 (k : Int) : Tab := t0
def a2 (x y : Int) : List D × GD.Heap := ([.int .i64 x, .int .i64 y], [])
def t2 (x y : Int) : Tab := t0
/-! ### what they come to -/
def classU (k : Int) : Int := if k < 0 ∨ 12 < k then -1 else if k ≤ 2 then k else if k ≤ 4 then 3 else k - 1
theorem up {i n : Nat} (h : i < n) (hn : n ≤ maxLen) : IntKind.i64.wrap ((i : Int) + 1) = ((i + 1 : Nat) : Int) := by
  have : maxLen ≤ 9223372036854775807 := by decide
  rw [wrap_i64 (by omega)]
  omega
/-! ### bytes.Compare -/
def byteL (es : Es) : List UInt8 := Lib.bytesOf (es.map fun r => match r with | [.int .u8 n] => n | _ => 0)
def rows (l : List Int) : Es := l.map fun x => [D.int .u8 x]
theorem byteNums_rows' : ∀ l : List Int, byteNums (rows l) = some l
  | [] => rfl
  | x :: l => by
    show (byteNums (rows l)).map (x :: ·) = _
    rw [byteNums_rows' l]
    rfl
theorem byteL_rows (l : List Int) : byteL (rows l) = Lib.bytesOf l := by
  unfold byteL rows
  rw [List.map_map]
  congr 1
  exact List.map_id' l
/-! ### the reference's texts -/
theorem getD_list (x : ByteArray) (i : Nat) : x.data.getD i 0 = x.toList.getD i 0 := by
  rw [Lib.toList_data, List.getD_eq_getElem?_getD, Array.getD_eq_getD_getElem?, Array.getElem?_toList]
theorem size_list (x : ByteArray) : x.size = x.toList.length := by
  rw [Lib.toList_data, Array.length_toList]
  rfl
theorem u8w (b : UInt8) : IntKind.i64.wrap (b.toNat : Int) = (b.toNat : Int) := by
  have := b.toNat_lt
  exact wrap_i64 (by omega)
abbrev Cs := List D
def val (k n : Int) (s : ByteArray) (xb : Bool) (eb : Es) (xf : Bool) (ef : Es) (xl : Bool) (el : Es) : Cs := valk.val k n s xb eb xf ef xl el
def kindOf : Cs → Int
  | .int _ k :: _ => k
  | _ => 0
open valk in
theorem bytes_rows {eb : Es} {bs : List Int} (h : eb = bs.map fun x => [D.int .u8 x]) : eb = rows bs := h
open valk
theorem allB_rows {l : List Int} (h : ∀ x ∈ l, 0 ≤ x ∧ x ≤ 255) : (rows l).all isByteC = true := by
  rw [List.all_eq_true]
  intro c hc
  obtain ⟨x, hx, rfl⟩ := List.mem_map.1 hc
  obtain ⟨h1, h2⟩ := h x hx
  simp only [isByteC, Bool.and_eq_true, decide_eq_true_eq]
  omega
def zeroV : Cs := valk.val 0 0 (ByteArray.mk #[]) false [] false [] false []
theorem vs_zero : VS zeroV := .mk 0 0 _ _ _ _ _ _ _ [] (by omega) (by omega) (by decide) rfl (fun x hx => by cases hx) (by decide) (by decide) (by decide) (fun _ => rfl) (fun _ => rfl) (fun _ => rfl) (fun r hr => by cases hr) (fun nm c hc => by cases hc) (fun r hr => by cases hr)

end Go.Proofs.YtlccdfilbiipmaaDoor.ordk
