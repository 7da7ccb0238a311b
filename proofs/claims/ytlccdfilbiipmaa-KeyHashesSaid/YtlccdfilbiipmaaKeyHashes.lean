/- PROVED: the law KeyHashes hands back true, whatever the bytes, the level, the number of parts. No conditions. -/
import Derived.Test.YtlccdfilbiipmaaKeyHash
namespace Go.Proofs.Ytlccdfilbiipmaa.keyHashes
open Go Ytlccdfilbiipmaa.GD Ytlccdfilbiipmaa.hashk
set_option linter.unusedVariables false
set_option linter.unusedSimpArgs false

def bytesD (es : List (List D)) : List Int := es.map fun r => match r with | [.int .u8 n] => n | _ => 0
def GoodB (es : List (List D)) : Prop := es = rows (bytesD es) ∧ es.length ≤ maxLen
theorem bytes_rows (l : List Int) : bytesD (rows l) = l := by
  unfold bytesD rows
  rw [List.map_map]
  exact List.map_id' l
def awC : List D → GD.Heap → Option (D × GD.Heap × List Prop)
  | [], [] => some (.bool true, [], [])
  | _, _ => none
def haC : List D → GD.Heap → Option (D × GD.Heap × List Prop)
  | [.slice _ es none, .int .i64 lv], [] => some (.int .u64 (hashU (bytesD es) lv), [], [GoodB es])
  | _, _ => none
theorem haC_ok {f : Nat} {args : List D} {H : GD.Heap} {r : D} {H1 : GD.Heap} {cs : List Prop}
    (h : ∀ (xb : Bool) (l : List Int), l.length ≤ maxLen → ∀ lv, ∃ X, Ev c0.P c0.T (.call f [.slice xb (rows l) none, .int .i64 lv] [] (.int .u64 (hashU l lv)) ([] ++ X)))
    (he : haC args H = some (r, H1, cs)) (hc : ∀ c ∈ cs, c) : ∃ X, Ev c0.P c0.T (.call f args H r (H1 ++ X)) := by
  unfold haC at he
  split at he
  · rename_i xb es lv
    simp only [Option.some.injEq, Prod.mk.injEq] at he
    obtain ⟨rfl, rfl, rfl⟩ := he
    obtain ⟨g1, g2⟩ : GoodB es := hc _ (List.mem_cons_self ..)
    have := h xb (bytesD es) (by simpa [bytesD] using g2) lv
    rw [← g1] at this
    exact this
  · cases he
noncomputable def cA : Cf := { P := Try.prog, T := tyOf Try.prog, hint := fun _ _ _ => .auto, room := fun _ _ => 8, meth := fun _ _ => none, ct := fun _ _ _ => none, stop := false }
theorem cAOk : CfOk cA where
  hT := fun _ _ h => h
  hm := by kernel_rfl
  meth := fun _ _ _ h => by simp only [cA] at h; cases h
  ct := fun _ _ _ _ _ _ h => by simp only [cA] at h; cases h
theorem toldAwake : tellsTrue (callE cA 100000 100 7 [] [] .auto) = true := by kernel_rfl
theorem cAP : cA.P = c0.P := rfl
theorem cAT : cA.T = c0.T := rfl
theorem awake7 : ∃ X, Ev c0.P c0.T (.call 7 [] [] (.bool true) ([] ++ X)) := by
  obtain ⟨R, h1, h2, h3⟩ := tellsTrue_ok toldAwake
  obtain ⟨X, hev⟩ := callE_ok cAOk _ _ _ _ _ h1 (fun c hc => by rw [h3] at hc; simp at hc)
  rw [h2, cAP, cAT] at hev
  exact ⟨R.H ++ X, hev⟩
def ct (k : FuncId) (args : List D) (H : GD.Heap) : Option (D × GD.Heap × List Prop) :=
  match k with
  | 7 => awC args H
  | 12 => haC args H
  | 13 => haC args H
  | _ => none
theorem ct_ok (k : FuncId) (args : List D) (H : GD.Heap) (r : D) (H1 : GD.Heap) (cs : List Prop) (he : ct k args H = some (r, H1, cs)) (hc : ∀ c ∈ cs, c) : ∃ X, Ev c0.P c0.T (.call k args H r (H1 ++ X)) := by
  unfold ct at he
  split at he
  · unfold awC at he
    split at he
    · simp only [Option.some.injEq, Prod.mk.injEq] at he
      obtain ⟨rfl, rfl, rfl⟩ := he
      exact awake7
    · cases he
  · exact haC_ok hash12 he hc
  · exact haC_ok hash13 he hc
  · cases he
noncomputable def cN : Cf := { P := Try.prog, T := tyOf Try.prog, hint := fun _ _ _ => .sym, room := fun _ _ => 2, meth := fun _ _ => none, ct := ct, stop := true }
theorem cNOk : CfOk cN where
  hT := fun _ _ h => h
  hm := by kernel_rfl
  meth := fun _ _ _ h => by simp only [cN] at h; cases h
  ct := ct_ok
noncomputable def q (xb : Bool) (eb : List (List D)) (lv m : Int) (or : GD.Or) := callE cN 100000 10 4 [.slice xb eb none, .int .i64 lv, .int .i64 m] [] or

theorem h4_0 (xb : Bool) (eb : List (List D)) (lv : Int) (m : Int)
    (h0 : decide (↑eb.length > (5000 : Int)) = true) :
    ∃ X, Ev c0.P c0.T (.call 4 [.slice xb eb none, .int .i64 lv, .int .i64 m] [] (D.bool true) ([] ++ X)) :=
  outC_ok cNOk (show outC 0 (q xb eb lv m (.path [false, true])) = some (D.bool true, [],
    [decide (↑eb.length > (5000 : Int)) = true,
      (!true) = false]) by kernel_rfl) (by simp only [all_cons, all_nil]; simp [*])

theorem h4_2 (xb : Bool) (eb : List (List D)) (lv : Int) (m : Int)
    (h0 : decide (↑eb.length > (5000 : Int)) = false)
    (h1 : decide (m ≥ (1 : Int)) = true)
    (h2 : decide (m < (1 : Int)) = false)
    (h3 : IntKind.u64.wrap m ≠ (0 : Int))
    (h4 : GoodB eb) :
    ∃ X, Ev c0.P c0.T (.call 4 [.slice xb eb none, .int .i64 lv, .int .i64 m] [] (D.bool
  (IntKind.i64.wrap ((hashU (bytesD eb) lv).tmod (IntKind.u64.wrap m)) ==
    IntKind.i64.wrap ((hashU (bytesD eb) lv).tmod (IntKind.u64.wrap m)))) ([] ++ X)) :=
  outC_ok cNOk (show outC 0 (q xb eb lv m (.path [false, false, true, true, true, true, true, false, true, true, true])) = some (D.bool
  (IntKind.i64.wrap ((hashU (bytesD eb) lv).tmod (IntKind.u64.wrap m)) ==
    IntKind.i64.wrap ((hashU (bytesD eb) lv).tmod (IntKind.u64.wrap m))), [],
    [(hashU (bytesD eb) lv == hashU (bytesD eb) lv) = true,
      ((hashU (bytesD eb) lv == hashU (bytesD eb) lv) == true) = true,
      ((hashU (bytesD eb) lv == hashU (bytesD eb) lv) == true) = true,
      IntKind.u64.wrap m ≠ (0 : Int),
      GoodB eb,
      decide (m < (1 : Int)) = false,
      ((hashU (bytesD eb) lv == hashU (bytesD eb) lv) == true) = true,
      ((hashU (bytesD eb) lv == hashU (bytesD eb) lv) == true) = true,
      ((hashU (bytesD eb) lv == hashU (bytesD eb) lv) == true) = true,
      ((hashU (bytesD eb) lv == hashU (bytesD eb) lv) == true) = true,
      GoodB eb,
      IntKind.u64.wrap m ≠ (0 : Int),
      decide (m ≥ (1 : Int)) = true,
      GoodB eb,
      decide (↑eb.length > (5000 : Int)) = false,
      (!true) = false]) by kernel_rfl) (by simp only [all_cons, all_nil]; simp [*])

theorem h4_3 (xb : Bool) (eb : List (List D)) (lv : Int) (m : Int)
    (h0 : decide (↑eb.length > (5000 : Int)) = false)
    (h1 : decide (m ≥ (1 : Int)) = false)
    (h2 : decide (m < (1 : Int)) = true)
    (h3 : GoodB eb) :
    ∃ X, Ev c0.P c0.T (.call 4 [.slice xb eb none, .int .i64 lv, .int .i64 m] [] (D.bool true) ([] ++ X)) :=
  outC_ok cNOk (show outC 0 (q xb eb lv m (.path [false, false, false, true, true, true, true, true, true, true, true])) = some (D.bool true, [],
    [(hashU (bytesD eb) lv == hashU (bytesD eb) lv) = true,
      ((hashU (bytesD eb) lv == hashU (bytesD eb) lv) == true) = true,
      ((hashU (bytesD eb) lv == hashU (bytesD eb) lv) == true) = true,
      decide (m < (1 : Int)) = true,
      ((hashU (bytesD eb) lv == hashU (bytesD eb) lv) == true) = true,
      ((hashU (bytesD eb) lv == hashU (bytesD eb) lv) == true) = true,
      ((hashU (bytesD eb) lv == hashU (bytesD eb) lv) == true) = true,
      ((hashU (bytesD eb) lv == hashU (bytesD eb) lv) == true) = true,
      GoodB eb,
      decide (m ≥ (1 : Int)) = false,
      GoodB eb,
      decide (↑eb.length > (5000 : Int)) = false,
      (!true) = false]) by kernel_rfl) (by simp only [all_cons, all_nil]; simp [*])


/-- The law, of any bytes, level and number of parts. -/
theorem law (xb : Bool) (l : List Int) (hl : l.length ≤ maxLen) (lv m : Int) (hm : -9223372036854775808 ≤ m ∧ m ≤ 9223372036854775807) :
    ∃ H1, Ev c0.P c0.T (.call 4 [.slice xb (rows l) none, .int .i64 lv, .int .i64 m] [] (.bool true) H1) := by
  have g : GoodB (rows l) := ⟨by rw [bytes_rows], by simpa [rows] using hl⟩
  by_cases h : ((rows l).length : Int) > 5000
  · obtain ⟨X, k⟩ := h4_0 xb (rows l) lv m (by simpa using h)
    exact ⟨_, k⟩
  · by_cases h1 : m ≥ 1
    · have w : IntKind.u64.wrap m ≠ 0 := by
        have hs : IntKind.u64.signed = false := rfl
        have hb : (2 ^ IntKind.u64.bits : Int) = 18446744073709551616 := by decide
        unfold IntKind.wrap
        simp only [hs, hb, Bool.false_and, Bool.false_eq_true, if_false]
        omega
      obtain ⟨X, k⟩ := h4_2 xb (rows l) lv m (by simpa using h) (by simpa using h1) (by simp; omega) w g
      rw [beq_self_eq_true] at k
      exact ⟨_, k⟩
    · obtain ⟨X, k⟩ := h4_3 xb (rows l) lv m (by simpa using h) (by simpa using h1) (by simp; omega) g
      exact ⟨_, k⟩

end Go.Proofs.Ytlccdfilbiipmaa.keyHashes
