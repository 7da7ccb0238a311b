/- The known page, and bytes that are none. -/
import Derived.Test.YtifpbdhggooelaaSealL
namespace Go.Proofs.Ytifpbdhggooelaa.sealk
open Go Ytifpbdhggooelaa.GD
set_option linter.unusedVariables false
set_option linter.unusedSimpArgs false
set_option maxRecDepth 100000

/-! ### the known page -/
theorem law11 : Ret P T 11 [] [] (.bool true) [] := by
  have hb0 : Bytes [] := by intro x hx; cases hx
  have hm : mayU 64 = true := by decide +kernel
  have hc : Ret P T 28 [.int .i64 64, .int .i64 0, .slice false (rows []) none] [] (.tuple [.slice true (pageC 64 0 (rows [])) none, .int .i64 0]) [] := closeC 64 0 false [] hm (by decide) (by decide) (by decide)
  have hlen := pageU_len (p := 64) (next := 0) (l := []) (by decide) (by decide)
  have hpb : Bytes (pageU 64 0 []) := pageU_bytes hb0
  have ep : pageC 64 0 [] = rows (pageU 64 0 []) := rfl
  have er : rows ([] : List Int) = [] := rfl
  rw [er] at hc
  have hl63 : ((pageU 64 0 []).take 63).length = 63 := by rw [List.length_take, hlen]; rfl
  have o1 := openC true ((pageU 64 0 []).take 63) (by rw [hl63]; decide) (hpb.take 63) (by intro h; cases h)
  have z : Bytes (List.replicate 64 0) := by intro x hx; rw [List.mem_replicate] at hx; omega
  have o2 := openC true (List.replicate 64 0) (by decide) z (by intro h; cases h)
  have o3 := openC false [] (by decide) hb0 (fun _ => rfl)
  have ez : rows (List.replicate 64 0) = List.replicate 64 [D.int .u8 0] := (rows_rep 64).symm
  have e1 : opEc (rows ((pageU 64 0 []).take 63)) = 1 := by
    unfold opEc openV
    rw [bytes_rows, hl63, if_neg (by decide +kernel)]
  have e2 : opEc (List.replicate 64 [D.int .u8 0]) = 18 := by decide +kernel
  have e3 : opEc [] = 1 := by decide +kernel
  have g0 : (rows (pageU 64 0 []))[0]? = some [D.int .u8 1] := by kernel_rfl
  have g4 : (rows (pageU 64 0 []))[4]? = some [D.int .u8 0] := by kernel_rfl
  have b1 := close28_bad 8192 0 false [] (by decide +kernel)
  have b2 := close28_bad 63 0 false [] (by decide +kernel)
  have e := @lkn_in_0 pageC sumC opNc opEc opXc opXc opLc 1 0
  rw [ep, rows_take] at e
  rw [ep] at hc
  rw [er] at o3 b1 b2
  refine e (by rw [rows_len, hlen]; rfl) rfl rfl e1 e2 e3 (sumR' true [0, 0, 0, 0] (by decide)) (sumR true [0, 0, 0, 0] (by decide)) b1 b2 o3 ?_ o1 ?_ g4 g0 hc awake27
  · rw [ez] at o2
    exact o2.skip (F := fun _ => true) rfl rfl (by simp)
  · rw [rows_len, hlen]; decide


end Go.Proofs.Ytifpbdhggooelaa.sealk
