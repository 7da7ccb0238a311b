/- An operation looks only at its operands and at the objects that they name. -/
import Derived.Test.YtifpbdhggooelaaGd22
namespace Go.Proofs.Ytifpbdhggooelaa.GD
open Go
set_option linter.unusedVariables false
set_option linter.unusedSimpArgs false

variable {P : Program} {T : Tys} {g g' : Nat → Option HObj}

theorem loadF_congr {t : TypeId} {a : D} {h : Hint} (hg : ∀ p ∈ oidsOf a, g p = g' p) : loadF T t a g h = loadF T t a g' h := by
  unfold loadF
  split
  · rfl
  · split <;> (first | rfl | simp only [hg _ (List.mem_cons_self ..)] | (simp only [oidsOf] at hg; simp only [hg _ (List.mem_cons_self ..)]))

theorem storeF_congr {t : TypeId} {a x : D} {h : Hint} (hg : ∀ p ∈ oidsOf a, g p = g' p) : storeF T t a x g h = storeF T t a x g' h := by
  unfold storeF
  split <;> (first | rfl | simp only [hg _ (List.mem_cons_self ..)] | (simp only [oidsOf] at hg; simp only [hg _ (List.mem_cons_self ..)]))

theorem indexAddrF_congr {t : TypeId} {a x : D} {h : Hint} (hg : ∀ p ∈ oidsOf a, g p = g' p) : indexAddrF T t a x g h = indexAddrF T t a x g' h := by
  unfold indexAddrF
  split
  · split <;> (first | rfl | simp only [hg _ (List.mem_cons_self ..)] | (simp only [oidsOf] at hg; simp only [hg _ (List.mem_cons_self ..)]))
  · rfl

theorem sliceF_congr {t : TypeId} {a : D} {lo hi mx : Option D} {h : Hint} (hg : ∀ p ∈ oidsOf a, g p = g' p) : sliceF T t a lo hi mx g h = sliceF T t a lo hi mx g' h := by
  unfold sliceF
  split
  · split <;> (first | rfl | simp only [hg _ (List.mem_cons_self ..)] | (simp only [oidsOf] at hg; simp only [hg _ (List.mem_cons_self ..)]))
  · rfl

theorem srcEs_congr {a : D} (hg : ∀ p ∈ oidsOf a, g p = g' p) : srcEs a g = srcEs a g' := by
  unfold srcEs
  cases a <;> simp only [oidsOf] at hg <;> try rfl
  rename_i o i off
  simp only [hg o (by simp)]

theorem appCore_congr {y : Ty} {s x : D} {ys : List (List D)} {f : Nat} {h : Hint} (hs : ∀ p ∈ oidsOf s, g p = g' p) : appCore y s x ys g f h = appCore y s x ys g' f h := by
  unfold appCore
  have hg := hs
  split <;> (first | rfl | simp only [hg _ (List.mem_cons_self ..)] | (simp only [oidsOf] at hg; simp only [hg _ (List.mem_cons_self ..)]))

theorem appendF_congr {t : TypeId} {s x : D} {f : Nat} {h : Hint} (hs : ∀ p ∈ oidsOf s, g p = g' p) (hx : ∀ p ∈ oidsOf x, g p = g' p) : appendF T t s x g f h = appendF T t s x g' f h := by
  unfold appendF
  rw [srcEs_congr hx]
  have hg := hs
  split
  · split
    · split
      · split
        · simp only [appCore_congr hs]
        · rfl
      · rfl
    · rfl
  · rfl

theorem copyF_congr {t : TypeId} {d s : D} {h : Hint} (hd : ∀ p ∈ oidsOf d, g p = g' p) (hs : ∀ p ∈ oidsOf s, g p = g' p) : copyF T t d s g h = copyF T t d s g' h := by
  unfold copyF
  rw [srcEs_congr hs]
  have hg := hd
  split <;> (first | rfl | simp only [hg _ (List.mem_cons_self ..)] | (simp only [oidsOf] at hg; simp only [hg _ (List.mem_cons_self ..)]))

theorem lookupF_congr {t : TypeId} {x ix : D} {ok : Bool} {h : Hint} (hg : ∀ p ∈ oidsOf x, g p = g' p) : lookupF T t x ix ok g h = lookupF T t x ix ok g' h := by
  unfold lookupF
  split <;> (first | rfl | (simp only [oidsOf] at hg; simp only [hg _ (List.mem_cons_self ..)]))
theorem mapUpdateF_congr {t : TypeId} {x ix v : D} {h : Hint} (hg : ∀ p ∈ oidsOf x, g p = g' p) : mapUpdateF T t x ix v g h = mapUpdateF T t x ix v g' h := by
  unfold mapUpdateF
  split <;> (first | rfl | (simp only [oidsOf] at hg; simp only [hg _ (List.mem_cons_self ..)]))

theorem builtinF_congr {b : Builtin} {ts : List TypeId} {args : List D} {f : Nat} {h : Hint} (hg : ∀ x ∈ args, ∀ p ∈ oidsOf x, g p = g' p) : builtinF T b ts args g f h = builtinF T b ts args g' f h := by
  unfold builtinF
  split
  · rename_i o _
    simp only [lenMF, hg (.mapp o) (by simp) o (by simp [oidsOf])]
  · rfl
  · rename_i x ix
    have := hg x (by simp)
    unfold deleteF
    split <;> (first | rfl | (simp only [oidsOf] at this; simp only [this _ (List.mem_cons_self ..)]))
  · rename_i t u s x
    rw [appendF_congr (hg s (by simp)) (hg x (by simp))]
  · rename_i d s
    exact copyF_congr (hg d (by simp)) (hg s (by simp))
  · rfl
  · rfl
  · rfl

theorem convertF_congr {s d : TypeId} {x : D} {f : Nat} {h : Hint} (hg : ∀ p ∈ oidsOf x, g p = g' p) : convertF T s d x g f h = convertF T s d x g' f h := by
  unfold convertF
  split
  · split <;> first | rfl | simp only [srcEs_congr hg] | (rw [hg _ (by simp [oidsOf])])
  · rfl

theorem binF_congr {op : BinOp} {t : TypeId} {x y : Operand} {ρ ρ' : Operand → D} {h : Hint} (hx : ρ x = ρ' x) (hy : ρ y = ρ' y) : binF T op t x y ρ h = binF T op t x y ρ' h := by
  unfold binF
  rw [hx, hy]

theorem rdsF_congr {o : Oper} {ρ ρ' : Operand → D} (h : ∀ x ∈ o.op.operands, ρ x = ρ' x) : rdsF o ρ = rdsF o ρ' := by
  obtain ⟨dst, op, type, pos, after, guard⟩ := o
  unfold rdsF
  cases op <;> simp only [Op.operands] at h <;> try rfl
  case load t a => simp only; rw [h a (by simp)]
  case store t a x => simp only; rw [h a (by simp)]
  case indexAddr t a x => simp only; rw [h a (by simp)]
  case slice t x lo hi mx => simp only; rw [h x (by simp)]
  case convert s d x => simp only; rw [h x (by simp)]
  case lookup t x i ok => simp only; rw [h x (by simp)]
  case mapUpdate t x i v => simp only; rw [h x (by simp)]
  case call c =>
    obtain ⟨callee, args, ts⟩ := c
    cases callee <;> try rfl
    simp only
    rw [List.flatMap_def, List.flatMap_def]
    exact congrArg _ (List.map_congr_left (fun x hx => by rw [h x (by simp [Call.operands]; simpa using hx)]))

theorem stepF_congr {o : Oper} {ρ ρ' : Operand → D} {f : Nat} {hh : Hint} (h : ∀ x ∈ o.op.operands, ρ x = ρ' x) (hg : ∀ p ∈ rdsF o ρ, g p = g' p) :
    stepF T o ρ g f hh = stepF T o ρ' g' f hh := by
  obtain ⟨dst, op, type, pos, after, guard⟩ := o
  have lst : ∀ l : List Operand, (∀ x ∈ l, ρ x = ρ' x) → l.map ρ = l.map ρ' := fun l hl => List.map_congr_left hl
  have prs : ∀ l : List (Nat × Operand), (∀ x ∈ l.map (·.2), ρ x = ρ' x) → (l.map fun p => (p.1, ρ p.2)) = (l.map fun p => (p.1, ρ' p.2)) := fun l hl =>
    List.map_congr_left fun p hp => by rw [hl p.2 (List.mem_map.2 ⟨p, hp, rfl⟩)]
  have opt : ∀ x : Option Operand, (∀ y ∈ x, ρ y = ρ' y) → x.map ρ = x.map ρ' := fun x hx => by
    cases x with
    | none => rfl
    | some y => simp [hx y rfl]
  unfold stepF
  cases op <;> simp only [Op.operands] at h <;> simp only [rdsF] at hg <;> try rfl
  case move x => simp only; rw [h x (by simp)]
  case assign x => simp only; rw [h x (by simp)]
  case pick c a b => simp only; rw [h c (by simp), h a (by simp), h b (by simp)]
  case box t x => simp only; rw [h x (by simp)]
  case build t ps => simp only; rw [prs ps.toList (fun x hx => h x (by simpa using hx))]
  case buildSlice t n ps => simp only; rw [prs ps.toList (fun x hx => h x (by simpa using hx))]
  case load t a => simp only; rw [loadF_congr hg, h a (by simp)]
  case store t a x => simp only; rw [storeF_congr hg, h a (by simp), h x (by simp)]
  case nilCheck x => simp only; rw [h x (by simp)]
  case binOp op t x y z => exact binF_congr (h x (by simp)) (h y (by simp))
  case unOp op t x => simp only; rw [h x (by simp)]
  case convert s d x => simp only; rw [convertF_congr hg, h x (by simp)]
  case makeInterface t x => simp only; rw [h x (by simp)]
  case makeFunc fn a b => simp only; rw [lst a.toList (fun x hx => h x (by simp; exact .inl (by simpa using hx))), lst b.toList (fun x hx => h x (by simp; exact .inr (by simpa using hx)))]
  case makeSlice t l c => simp only; rw [h l (by simp), h c (by simp)]
  case slice t x lo hi mx =>
    simp only
    rw [sliceF_congr hg, h x (by simp), opt lo (fun y hy => h y (by simp_all)), opt hi (fun y hy => h y (by simp_all)), opt mx (fun y hy => h y (by simp_all))]
  case fieldAddr s x k => simp only; rw [h x (by simp)]
  case field s x k => simp only; rw [h x (by simp)]
  case indexAddr t x i => simp only; rw [indexAddrF_congr hg, h x (by simp), h i (by simp)]
  case index t x i => simp only; rw [h x (by simp), h i (by simp)]
  case extract x i => simp only; rw [h x (by simp)]
  case typeAssert x t a ok => simp only; rw [h x (by simp)]
  case makeMap t r => simp only; rw [opt r (fun y hy => h y (by simp_all))]
  case lookup t x i ok => simp only; rw [lookupF_congr hg, h x (by simp), h i (by simp)]
  case mapUpdate t x i v => simp only; rw [mapUpdateF_congr hg, h x (by simp), h i (by simp), h v (by simp)]
  case call c =>
    obtain ⟨callee, args, ts⟩ := c
    cases callee <;> try rfl
    simp only at hg ⊢
    rw [builtinF_congr (g := g) (g' := g') (fun x hx p hp => ?_), lst args.toList (fun x hx => h x (by simp [Call.operands]; simpa using hx))]
    obtain ⟨y, hy, rfl⟩ := List.mem_map.1 hx
    exact hg p (List.mem_flatMap.2 ⟨y, hy, hp⟩)

end Go.Proofs.Ytifpbdhggooelaa.GD
