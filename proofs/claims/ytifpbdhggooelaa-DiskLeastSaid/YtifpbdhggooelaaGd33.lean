/- Loops whose objects are put in another order. -/
import Derived.Test.YtifpbdhggooelaaGd32
namespace Go.Proofs.Ytifpbdhggooelaa.GD
open Go
set_option linter.unusedVariables false
set_option linter.unusedSimpArgs false

def nodupB : List Nat → Bool
  | [] => true
  | x :: r => !(r.contains x) && nodupB r
theorem nodupB_ok : ∀ {l : List Nat}, nodupB l = true → l.Nodup
  | [], _ => List.nodup_nil
  | x :: r, h => by
    simp only [nodupB, Bool.and_eq_true, Bool.not_eq_true'] at h
    refine List.nodup_cons.2 ⟨fun hm => ?_, nodupB_ok h.2⟩
    have := List.contains_iff_mem.2 hm
    rw [h.1] at this
    cases this

/-- What is kept at a loop, the objects of a list alone, in its order. -/
def cutP (F : Nat → Bool) (keep fp : List Nat) (n : Nat) : Option RR → Option (Code × List It × List D × Heap × List Prop)
  | some (.stop c k s _ cs) =>
    match rens (idx fp 0) (maskEnv keep s.env), renHF F (nmOf fp 0) (idx fp 0) 0 (fp.map (hget s.H)) with
    | some env, some H => if nodupB fp && fp.all (fun p => decide (p < s.H.length)) && decide (n ≤ fp.length) && (fp.take n == List.range n) then some (c, k, env, H, flatCs F (nmOf fp 0) 0 (fp.map (hget s.H)) ++ cs) else none
    | _, _ => none
  | _ => none

theorem fin_pack {C : Cf} (hC : CfOk C) {m d f n : Nat} {F : Nat → Bool} {keep fp : List Nat} {fn : Func} {cur : Cur} {k k' : List It} {s : St} {or : Or} {c : Code} {env : List D} {H : Heap} {r : D} {H1 : Heap} {cs : List Prop}
    (hr : cutP F keep fp n (runE C (callE C m d) f m cur k s or []) = some (c, k', env, H, cs)) (hc : ∀ c ∈ cs, c)
    (g : Fin C.P C.T fn n (.code (.loop c)) k' ⟨env, H⟩ r H1) : Fin C.P C.T fn n cur k s r H1 := by
  obtain ⟨e, s', X, ⟨e1, s2, g1, g2⟩, g3⟩ := g
  refine ⟨⟨e, s', X, ?_, g3⟩⟩
  unfold cutP at hr
  split at hr
  · rename_i c0 k0 s0 or' cs' hrun
    split at hr
    · rename_i env0 H0 h1 h2
      split at hr
      · rename_i hb
        simp only [Bool.and_eq_true, decide_eq_true_eq, List.all_eq_true, beq_iff_eq] at hb
        obtain ⟨⟨⟨b1, b2⟩, b3⟩, b4⟩ := hb
        simp only [Option.some.injEq, Prod.mk.injEq] at hr
        obtain ⟨rfl, rfl, rfl, rfl, rfl⟩ := hr
        have hc1 : ∀ x ∈ flatCs F (nmOf fp 0) 0 (fp.map (hget s0.H)), x := fun x hx => hc x (List.mem_append_left _ hx)
        have hc2 : ∀ x ∈ cs', x := fun x hx => hc x (List.mem_append_right _ hx)
        refine (runE_ok hC (callE_ok hC) hrun hc2).2 _ _ ⟨e1, s2, ?_, g2⟩
        exact .pack _ _ _ ⟨env0, H0⟩ _ _ keep fp (nodupB_ok b1) b2 b3 b4 h1 (renHF_ok h2 hc1) g1
      · cases hr
    · cases hr
  · cases hr

/-- A nil slice in an object that was handed over, told as one that may be extended. -/
theorem Ret.tok {P : Program} {T : Tys} {f : FuncId} {args : List D} {H : Heap} {r : D} {H1 : Heap} {o i j sz sz0 : Nat} {es : List (List D)} {cs : List D} (ho : hget H o = some (.row sz0 es)) (hi : es[i]? = some cs) (hj : cs[j]? = some (.slice false [] none))
    (g : Ret P T f args (H.set o (some (.row sz0 (es.set i (cs.set j (.slice false [] (some H.length)))))) ++ [some (.tok 0 sz)]) r H1) : Ret P T f args H r H1 := by
  obtain ⟨X, g⟩ := g
  exact ⟨X, .callTok _ _ _ _ _ o i j sz sz0 es cs ho hi hj g⟩

/-! ### short forms for printed roads -/
theorem ac {p : Prop} {l : List Prop} (h : p) (t : ∀ c ∈ l, c) : ∀ c ∈ p :: l, c := all_cons.2 ⟨h, t⟩
theorem an : ∀ c ∈ ([] : List Prop), c := fun _ h => (List.not_mem_nil h).elim
theorem tru : true = true := rfl
theorem nb0 {b : Bool} (h : b = true) : (!b) = false := by rw [h]; rfl
theorem nb1 {b : Bool} (h : b = false) : (!b) = true := by rw [h]; rfl
abbrev bE : ByteArray := ByteArray.mk #[]
def bitsL : Nat → Nat → List Bool
  | 0, _ => []
  | n + 1, m => Nat.beq (m % 2) 1 :: bitsL n (m / 2)
def pth (n m : Nat) : Or := .path (bitsL n m)
theorem ktt {b : Bool} (h : b = true) : (b == true) = true := by rw [h]; rfl
theorem ktf {b : Bool} (h : b = true) : (b == false) = false := by rw [h]; rfl
theorem kft {b : Bool} (h : b = false) : (b == true) = false := by rw [h]; rfl
theorem kff {b : Bool} (h : b = false) : (b == false) = true := by rw [h]; rfl
theorem fr {C : Cf} (f h : Nat) (hC : CfOk C) (or : Or) {cs : List Prop} (hc : ∀ c ∈ cs, c) {n : Nat} {fn : Func} {cur : Cur} {k : List It} {s : St} {r : D} {H1 : Heap}
    (hr : outF C.T fn h (runE C (callE C 100000 10) f 100000 cur k s or []) = some (r, H1, cs) := by kernel_rfl) : Fin C.P C.T fn n cur k s r H1 := fin_ret hC hr hc
theorem fs {C : Cf} (F : Nat → Bool) (f h : Nat) (keep : List Nat) (hC : CfOk C) (or : Or) {cs : List Prop} (hc : ∀ c ∈ cs, c) {n : Nat} {fn : Func} {cur : Cur} {k k' : List It} {s S : St} {c : Code} {r : D} {H1 : Heap}
    (g : Fin C.P C.T fn n (.code (.loop c)) k' S r H1) (hr : cutX F keep h (runE C (callE C 100000 10) f 100000 cur k s or []) = some (c, k', S.env, S.H, cs) := by kernel_rfl) (hn : n ≤ h := by exact Nat.le_of_ble_eq_true rfl) : Fin C.P C.T fn n cur k s r H1 :=
  fin_stop hC hr hc hn g
theorem fst {C : Cf} (F : Nat → Bool) (f h : Nat) (keep : List Nat) (hC : CfOk C) (or : Or) {cs : List Prop} (hc : ∀ c ∈ cs, c) (env : List D) (H : Heap) {n : Nat} {fn : Func} {cur : Cur} {k k' : List It} {s : St} {c : Code} {r : D} {H1 : Heap}
    (g : Fin C.P C.T fn n (.code (.loop c)) k' ⟨env, H⟩ r H1) (hr : cutX F keep h (runE C (callE C 100000 10) f 100000 cur k s or []) = some (c, k', env, H, cs) := by kernel_rfl) (hn : n ≤ h := by exact Nat.le_of_ble_eq_true rfl) : Fin C.P C.T fn n cur k s r H1 :=
  fin_stop hC hr hc hn g
theorem fpk {C : Cf} (F : Nat → Bool) (f n : Nat) (keep fp : List Nat) (hC : CfOk C) (or : Or) {cs : List Prop} (hc : ∀ c ∈ cs, c) {fn : Func} {cur : Cur} {k k' : List It} {s S : St} {c : Code} {r : D} {H1 : Heap}
    (g : Fin C.P C.T fn n (.code (.loop c)) k' S r H1) (hr : cutP F keep fp n (runE C (callE C 100000 10) f 100000 cur k s or []) = some (c, k', S.env, S.H, cs) := by kernel_rfl) : Fin C.P C.T fn n cur k s r H1 :=
  fin_pack hC hr hc g

end Go.Proofs.Ytifpbdhggooelaa.GD
