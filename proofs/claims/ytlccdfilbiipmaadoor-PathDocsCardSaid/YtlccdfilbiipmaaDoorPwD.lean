/- Keys as lists of bytes: what each value is written as, and how long that is. -/
import Derived.Test.YtlccdfilbiipmaaDoorPwA
namespace Go.Proofs.YtlccdfilbiipmaaDoor.ordk
open Go YtlccdfilbiipmaaDoor.GD valk
set_option linter.unusedVariables false
set_option linter.unusedSimpArgs false
set_option maxRecDepth 100000

/-- A number, its highest byte first. -/
def be : Nat → Int → List Int
  | 0, _ => []
  | k + 1, x => (x / 256 ^ k % 256) :: be k x
theorem be_len : ∀ (k : Nat) (x : Int), (be k x).length = k
  | 0, _ => rfl
  | k + 1, x => by simp [be, be_len k]
/-- A text: a nought is followed by 255, and two noughts end it. -/
def txL : List UInt8 → List Int
  | [] => [0, 0]
  | c :: r => if c = 0 then 0 :: 255 :: txL r else (c.toNat : Int) :: txL r
theorem txL_len : ∀ l : List UInt8, (txL l).length ≤ 2 * l.length + 2
  | [] => by simp [txL]
  | c :: r => by
    have := txL_len r
    unfold txL
    split <;> simp <;> omega
def bI (eb : Es) : List Int := eb.map fun r => match r with | [.int .u8 n] => n | _ => 0
theorem bI_rows (l : List Int) : bI (rows l) = l := by simp [bI, rows, Function.comp_def]

mutual
def encV : Cs → List Int
  | [.int _ k, .int _ n, .str s, .slice _ eb _, .slice _ ef _, .slice _ el _] =>
    (classU k + 1) :: (if k = 3 ∨ k = 4 ∨ k = 10 ∨ k = 11 then be 8 (n + 9223372036854775808) else if k = 5 then txL s.toList else if k = 9 then txL (GD.bytesOf eb).toList
      else if k = 8 then be 8 (eb.length + 9223372036854775808) ++ bI eb else if k = 6 ∨ k = 7 then encFs ef ++ (encLs el ++ [0]) else [])
  | _ => []
def encF : Cs → List Int
  | .str nm :: c => 1 :: (classU (kindOf c) + 1) :: (txL nm.toList ++ encV c)
  | _ => []
def encFs : Es → List Int
  | [] => []
  | r :: t => encF r ++ encFs t
def encLs : Es → List Int
  | [] => []
  | r :: t => 1 :: (encV r ++ encLs t)
end
def encB (k n : Int) (s : ByteArray) (eb ef el : Es) : List Int :=
  if k = 3 ∨ k = 4 ∨ k = 10 ∨ k = 11 then be 8 (n + 9223372036854775808) else if k = 5 then txL s.toList else if k = 9 then txL (GD.bytesOf eb).toList
      else if k = 8 then be 8 (eb.length + 9223372036854775808) ++ bI eb else if k = 6 ∨ k = 7 then encFs ef ++ (encLs el ++ [0]) else []
theorem encV_eq (k n : Int) (s : ByteArray) (xb : Bool) (eb : Es) (xf : Bool) (ef : Es) (xl : Bool) (el : Es) : encV (valk.val k n s xb eb xf ef xl el) = (classU k + 1) :: encB k n s eb ef el := by
  unfold valk.val encB
  rw [encV]

end Go.Proofs.YtlccdfilbiipmaaDoor.ordk
