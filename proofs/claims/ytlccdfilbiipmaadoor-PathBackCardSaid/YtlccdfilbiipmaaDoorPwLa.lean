/- Paths: the law PathParses hands back true; the tables of unicode/utf8. -/
import Derived.Test.YtlccdfilbiipmaaDoorPwVt
import Derived.Test.YtlccdfilbiipmaaDoorPwPm
import Derived.Test.YtlccdfilbiipmaaDoorPwLs
import Derived.Lib.LaidU8T
namespace Go.Proofs.YtlccdfilbiipmaaDoor.ordk
open Go YtlccdfilbiipmaaDoor.GD
set_option linter.unusedVariables false
set_option linter.unusedSimpArgs false
set_option maxRecDepth 100000

noncomputable def cA : Cf := { P := Tryd.prog, T := tyOf Tryd.prog, hint := fun _ _ _ => .auto, room := fun _ _ => 1, meth := fun _ _ => none, ct := fun _ _ _ => none, stop := false }
theorem cAOk : CfOk cA where
  hT := fun _ _ h => h
  hm := by kernel_rfl
  meth := fun _ _ _ h => by simp only [cA] at h; cases h
  ct := fun _ _ _ _ _ _ h => by simp only [cA] at h; cases h
theorem awake9 : Ret P T 9 [] [] (.bool true) [] := ret_closed cAOk (show tellsTrue (callE cA 100000 100 9 [] [] .auto) = true by kernel_rfl)

theorem hv34 : ∀ t : ByteArray, t.size ≤ 100000 → Ret P T 34 [.str t] [] (.bool (vd t 0)) [] :=
  fun t ht => valid34 t (by have : (100000 : Nat) ≤ maxLen := by decide
                            omega)
theorem same_res (l : List (List UInt8)) (h : l.length ≤ 100000) : Ret P T 12 [.slice (goodR l) (if goodR l = true then txE l else []) none, .slice (goodR l) (if goodR l = true then txE l else []) none] [] (.bool true) [] := by
  by_cases hg : goodR l = true
  · rw [if_pos hg]; exact same12 _ _ l h
  · rw [if_neg hg]; exact same12 _ _ [] (by simp)

theorem law3 (s : ByteArray) : Ret P T 3 [.str s] [] (.bool true) [] := by
  by_cases h : (s.size : Int) > 3000
  · exact lpp_in_0 (xp := false) (ep := []) (ok := false) h awake9
  · have hl : (parts (bs s)).length ≤ 100000 := by
      rw [parts_len]
      have : (bs s).count 46 ≤ s.size := by rw [size_bs]; exact List.count_le_length
      omega
    exact lpp_in_1 (xp := goodR (parts (bs s))) (ep := if goodR (parts (bs s)) = true then txE (parts (bs s)) else []) (ok := goodR (parts (bs s))) h (same_res _ hl) (path11 s (by omega)) (parse10 hv34 s (by omega)) awake9

/-! ### the tables -/
def ren : Go.Shelf.Ren := ⟨fun x => x, fun x => if x = 119 then 58 else if x = 138 then 60 else if x = 139 then 61 else x, fun x => if x = 3 then 0 else if x = 4 then 1 else x⟩
theorem u8types : U8Types Tryd.prog ren := ⟨by kernel_rfl, by kernel_rfl, by kernel_rfl, by kernel_rfl⟩
theorem u8extra : U8Extra Tryd.prog ren := ⟨by kernel_rfl, by kernel_rfl, by kernel_rfl, by kernel_rfl, by kernel_rfl, by kernel_rfl, by kernel_rfl⟩

theorem acc_all : (List.range 32).map (fun j => acceptCells[j]?) = (List.range 32).map (fun j => some (D.int .u8 (if j % 2 = 0 then (Lib.accLo (j / 2) : Int) else (Lib.accHi (j / 2) : Int)))) := by kernel_rfl
theorem cell_lt {w : World} {a : Addr} {v : Value} (h : w.cell? a = some v) : a.block < w.heap.size := by
  by_cases hb : a.block < w.heap.size
  · exact hb
  · exfalso
    unfold World.cell? at h
    rw [Array.getElem?_eq_none (by omega)] at h
    cases h
theorem glb_ok {w : World} (h3 : Lib.VarReads Tryd.prog w "unicode/utf8.first" Lib.firstData) (h4 : Lib.VarReads Tryd.prog w "unicode/utf8.acceptRanges" Lib.acceptData) :
    ∀ g, RepP (fun b _ => b < w.heap.size) w (glT g) (.pointer (some ⟨g, 0, none⟩)) := by
  have ht := utf8Tabs_of_readsT u8types u8extra h3 h4
  obtain ⟨t1, t2⟩ := ht
  intro g
  match g with
  | 0 =>
    refine .sptr firstCells _ (fun j => .int .u8 (Lib.firstT j : Int)) (fun j hj => ?_) (fun j d hd => ?_)
    · have hl : firstCells.length = 256 := by decide +kernel
      have h := t1 j (by omega)
      have ea : (⟨0, 0, none⟩ : Addr).add j = ⟨0, j, none⟩ := by simp [Addr.add]; intro h; exact h.symm
      rw [ea]
      exact ⟨cell_lt h, h⟩
    · unfold firstCells at hd
      rw [List.getElem?_map] at hd
      obtain ⟨c, hc, rfl⟩ := Option.map_eq_some_iff.1 hd
      have := List.getElem?_range (n := 256) (i := j)
      have hj : j < 256 := by
        have := (List.getElem?_eq_some_iff.1 hc).1
        simpa using this
      rw [List.getElem?_range hj] at hc
      obtain rfl := Option.some.inj hc
      exact .int _ _
  | 1 =>
    refine .sptr acceptCells _ (fun j => .int .u8 (if j % 2 = 0 then (Lib.accLo (j / 2) : Int) else (Lib.accHi (j / 2) : Int))) (fun j hj => ?_) (fun j d hd => ?_)
    · have hl : acceptCells.length = 32 := by decide +kernel
      have h := t2 (j / 2) (by omega)
      have ea : (⟨1, 0, none⟩ : Addr).add j = ⟨1, j, none⟩ := by simp [Addr.add]; intro h; exact h.symm
      rw [ea]
      by_cases hm : j % 2 = 0
      · have ej : 2 * (j / 2) = j := by omega
        rw [ej] at h
        rw [if_pos hm]
        exact ⟨cell_lt h.1, h.1⟩
      · have ej : 2 * (j / 2) + 1 = j := by omega
        rw [ej] at h
        rw [if_neg hm]
        exact ⟨cell_lt h.2, h.2⟩
    · have hl : acceptCells.length = 32 := by decide +kernel
      have hj : j < 32 := by have := (List.getElem?_eq_some_iff.1 hd).1; omega
      have key := congrArg (fun l => l[j]?) acc_all
      simp only [List.getElem?_map, List.getElem?_range hj, Option.map_some, Option.some.injEq] at key
      rw [key] at hd
      obtain rfl := Option.some.inj hd
      exact .int _ _
  | g + 2 => exact .undef _

end Go.Proofs.YtlccdfilbiipmaaDoor.ordk
