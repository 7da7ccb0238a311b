/- The disk's deeds in DiskLeast: what each comes to. -/
import Derived.Test.YtifpbdhggooelaaHpE
namespace Go.Proofs.Ytifpbdhggooelaa.dsk
open Go Ytifpbdhggooelaa.GD
set_option linter.unusedVariables false
set_option linter.unusedSimpArgs false
set_option maxRecDepth 100000

noncomputable def cK : Cf := { P := Try.prog, T := tyOf Try.prog, hint := fun _ _ _ => .auto, room := fun _ _ => 3, meth := fun _ _ => none, ct := fun _ _ _ => none, stop := false }
theorem cKOk : CfOk cK where
  hT := fun _ _ h => h
  hm := by kernel_rfl
  meth := fun _ _ _ h => by simp only [cK] at h; cases h
  methl := fun _ _ _ _ h => by simp only [cK] at h; cases h
  ct := fun _ _ _ _ _ _ h => by simp only [cK] at h; cases h
theorem awake36 : Ret P T 36 [] [] (.bool true) [] := ret_closed cKOk (show tellsTrue (callE cK 100000 100 36 [] [] .auto) = true by kernel_rfl)
/-- No fault is planned. -/
theorem ix64 (a b : Int) : Ret P T 64 [.slice false [] none, .agg [.int .i64 a, .int .i64 b]] [] (.int .i64 (-1)) [] := ix_in_0 (ix_0_2 (by omega))
theorem cn62 (a b : Int) : Ret P T 62 [.slice false [] none, .agg [.int .i64 a, .int .i64 b]] [] (.bool false) [] := cn_in_0 (ix64 a b)
theorem no59a (most hi op wr sn : Int) (ks : List Int) (len : Nat) (es : Es) (kd : Int) : Ret P T 59 [.agg [.ptr 0 0 0, .slice false [] none], .int .i64 kd] (d0 most hi op wr sn ks len es) (.bool false) (d0 most hi op wr sn ks len es) := qa_in_0 (cn62 _ _)
theorem no59b (most hi op wr sn : Int) (ks : List Int) (k : Int) (pg : Es) (len : Nat) (es : Es) (kd : Int) : Ret P T 59 [.agg [.ptr 0 0 0, .slice false [] none], .int .i64 kd] (d1 most hi op wr sn ks k pg len es) (.bool false) (d1 most hi op wr sn ks k pg len es) := qb_in_0 (cn62 _ _)
theorem new37 (most : Int) (h0 : 0 ≤ most) (h1 : most ≤ 16384) : Ret P T 37 [.int .i64 64, .int .i64 most] [] (.tuple [.ptr 3 0 0, .int .i64 0]) (nwH most) := nw_in_2 (by omega) (by omega)

variable {most hi op wr sn : Int} {ks : List Int}
theorem full38 {len : Nat} {es : Es} (hf : FlatEs es) (h : (ks.length : Int) ≥ most) : Ret P T 38 [.ptr 0 0 0] (d0 most hi op wr sn ks len es) (.tuple [.int .i64 0, .int .i64 17]) (d0 most hi (IntKind.i64.wrap (op + 1)) wr (IntKind.i64.wrap (sn + 1)) ks len es) :=
  al_in_0 (v := 0) (e2 := []) h hf (no59a ..)
theorem pop38 {len : Nat} {es e2 : Es} {v : Int} (hf : FlatEs es) (hf2 : FlatEs e2) (h : ¬ ((ks.length : Int) ≥ most)) (hl : (len : Int) > 0) (hk : findI ks v 0 = none)
    (hp : Ret P T 57 [.iface 84 (.ptr 0 0 0)] [some (.row 1 [[.view 1 0 len]]), some (.row 1 es)] (.iface 3 (.int .i64 v)) [some (.row 1 [[.view 1 0 (len - 1)]]), some (.row 1 e2)]) :
    Ret P T 38 [.ptr 0 0 0] (d0 most hi op wr sn ks len es) (.tuple [.int .i64 v, .int .i64 0]) (alP most hi op wr sn ks v (len - 1) e2) :=
  al_in_1 h hl hk hf hf2 hp (no59a ..)
theorem high38 {len : Nat} {es : Es} (hf : FlatEs es) (h : ¬ ((ks.length : Int) ≥ most)) (hl : ¬ ((len : Int) > 0)) (hk : findI ks hi 0 = none) :
    Ret P T 38 [.ptr 0 0 0] (d0 most hi op wr sn ks len es) (.tuple [.int .i64 hi, .int .i64 0]) (alP most (IntKind.i64.wrap (hi + 1)) op wr sn ks hi len es) :=
  al_in_2 (v := 0) (e2 := []) h hl hk hf (no59a ..)
theorem none45 {len : Nat} {es : Es} {x : Int} (hf : FlatEs es) (hk : findI ks x 0 = none) : Ret P T 45 [.ptr 0 0 0, .int .i64 x] (d0 most hi op wr sn ks len es) (.int .i64 20) (d0 most hi (IntKind.i64.wrap (op + 1)) wr (IntKind.i64.wrap (sn + 1)) ks len es) :=
  fn_in_0 (e2 := []) hk hf
theorem free45 {len : Nat} {es e2 : Es} {x : Int} (hf : FlatEs es) (hf2 : FlatEs e2) (hk : findI ks x 0 ≠ none)
    (hp : Ret P T 60 [.iface 84 (.ptr 0 0 0), .iface 3 (.int .i64 x)] [some (.row 1 [[.view 1 0 len]]), some (.row 1 es)] (.tuple []) [some (.row 1 [[.view 9 0 (len + 1)]]), some .dead, none, none, none, none, none, none, some (.tok 1 1), some (.row 1 e2)]) :
    Ret P T 45 [.ptr 0 0 0, .int .i64 x] (d0 most hi op wr sn ks len es) (.int .i64 0) (frP most hi op wr sn ks len e2 x) :=
  fy_in_0 hf hf2 hp hk

theorem find_last : ∀ (ks : List Int) (k : Int) (i : Nat), findI ks k i = none → findI (ks ++ [k]) k i = some (i + ks.length)
  | [], k, i, _ => by simp [findI]
  | a :: r, k, i, h => by
    unfold findI at h
    rw [List.cons_append]
    unfold findI
    split at h
    · cases h
    · rename_i hne
      rw [if_neg hne, find_last r k (i + 1) h]
      simp; omega
theorem look42 {k : Int} {len : Nat} {es : Es} (hf : FlatEs es) (hk : findI ks k 0 = none) :
    Ret P T 42 [.ptr 0 0 0, .int .i64 k] (d1 most hi op wr sn ks k z64 len es) (.tuple [.view 6 0 64, .bool true]) (d1 most hi op wr sn ks k z64 len es ++ [some .dead, some (.row 1 z64)]) := by
  have hz : FlatEs z64 := by
    intro c hc
    rw [List.eq_of_mem_replicate hc]; rfl
  have hl := find_last ks k 0 hk
  exact lk_in_0 hz hz rfl ⟨rfl, by decide, Nat.le_refl _, by decide, rfl⟩ (by rw [hl]; simp) hf
theorem write39 {k : Int} {zs : Es} {len : Nat} {es : Es} (hf : FlatEs es) (hk : findI ks k 0 = none) (hz : FlatEs zs) (hl : zs.length = 64) (ha : (zs.all fun c => c.length == 1) = true) :
    Ret P T 39 [.ptr 0 0 0, .int .i64 k, .view 5 0 64] (d1 most hi op wr sn ks k z64 len es ++ [some (.row 1 zs)]) (.int .i64 0)
      [some (dkH most hi (IntKind.i64.wrap (op + 1)) (IntKind.i64.wrap (wr + 1)) (IntKind.i64.wrap (sn + 1)) 3), some (.mp .i64 (ks ++ [k]) []), some (.row 1 z64), some (cellAt 4 len), some (.row 1 es), some (.row 1 zs)] := by
  have hz0 : FlatEs z64 := by
    intro c hc
    rw [List.eq_of_mem_replicate hc]; rfl
  have ht : zs.take 64 = zs := List.take_of_length_le (by omega)
  have hlk := find_last ks k 0 hk
  exact wt_in_0 (by rw [hlk]; simp) hz (by rw [ht]; exact hz) (by rw [ht]; exact hl) ⟨rfl, by rw [ht]; omega, Nat.le_refl _, by rw [ht]; omega, by rw [ht]; exact ha⟩ hz0 hf (no59b ..)

end Go.Proofs.Ytifpbdhggooelaa.dsk
