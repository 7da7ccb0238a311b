/- From what the code comes to, to the statement. -/
import Derived.Test.YtifpbdhggooelaaGd27
import Derived.ChangeSame
import Derived.KernelRfl
namespace Go.Proofs.Ytifpbdhggooelaa.GD
open Go Go.ChangeShapes Go.WideShapes Go.RowKit
set_option linter.unusedVariables false
set_option linter.unusedSimpArgs false

section
variable {H : Type} {enc : TypeId × Value → H} {P : Program}

/-- As the kit's lemma for a world that has grown by blocks that are nobody's; here the new blocks may be of any kind. -/
theorem post_of_below {f : Func} {s : ChangeSpec} {apart fresh handsOn again : Bool} {W W' : World} {args : Array Value} {v : Value} {ds gs : List (DataW H)} {before pa pv : List MemPlace}
    (hW : DataW.Whole enc P f.params.toList s.vars apart W args.toList ds gs before)
    (hres : ∀ (b : Nat) (sp : Nat → Bool) (hd : Bool), DataW.TrodAll enc P W' b sp hd f.resultTypes.toList (v.resultList f.resultTypes.size) (s.fn H (ds ++ gs)).results [])
    (hargs : ∀ sp : Nat → Bool, (∀ p ∈ before, sp p.block = true) → DataW.TrodAll enc P W' 0 sp true f.params.toList args.toList (s.fn H (ds ++ gs)).args pa)
    (hvars : ∀ sp : Nat → Bool, (∀ p ∈ before, sp p.block = true) → DataW.TrodVars enc P W' sp s.vars (s.fn H (ds ++ gs)).vars pv)
    (hps : before = pa ++ pv) (hb : Below W.heap.size W W')
    (hok : ∀ (j : Nat) (t : TypeId) (r : Value), f.resultTypes[j]? = some t → (v.resultList f.resultTypes.size)[j]? = some r → Value.okWide P W' .any 0 t r) :
    s.post enc P f apart fresh handsOn again W args v W' := by
  have hold : ∀ p ∈ before, (fun b => decide (b < W.heap.size)) p.block = true := fun p hp => by simpa using hW.lt p hp
  have hlt : ∀ p ∈ before, p.block < W.heap.size := fun p hp => hW.lt p hp
  refine ⟨ds, gs, before, [], pa, pv, hW, hres _ _ _, hargs _ hold, hvars _ hold, World.keptBut_mono (fun p hp => ⟨hp, ?_⟩) (hb.frame (· ∈ before)), fun _ => ?_⟩
  · rw [hps, List.mem_append] at hp
    exact Or.inr hp
  · obtain ⟨_, _, _, _, _, hz, hn⟩ := hW
    refine ⟨hok, _, _, ([] ++ pa) ++ pv, ⟨[] ++ pa, pv, trodAll_append (hargs _ (fun _ _ => rfl)) (hres _ _ _), hvars _ (fun _ _ => rfl), rfl, ?_, ?_⟩, ?_⟩
    · intro b off hp
      have hm : MemPlace.cell b off ∈ before := by rw [hps]; simpa using hp
      rw [hb.frozen (p := ⟨b, off, none⟩) (hlt _ hm)]
      exact hz b off hm
    · intro ha
      have := hn ha
      rw [hps] at this
      simpa using this
    · intro p hp _
      rw [hps]
      simpa using hp

end

/-- A law: it hands back true, and nothing that was there has turned. -/
theorem law_calls {P : Program} {T : Tys} {f : FuncId} {args : List D} {H1 : Heap} (hT : TOk P T) (h : Ev P T (.call f args [] (.bool true) H1)) {I : Im} {w : World} {vs : Array Value}
    (hI : ∀ b k, I b k → b < w.heap.size) (hl : args.length = vs.size) (hr : ∀ (i : Nat) d v, args[i]? = some d → vs[i]? = some v → RepP I w d v) :
    Calls P f vs w fun e w' => e = .returned (.bool true) ∧ Below w.heap.size w w' := by
  have hw : WOk I w [] [] := ⟨rfl, fun o x h => by simp [hget] at h, fun o o' x x' m m' _ h => by simp [hget] at h, hI, fun o m _ hm => by simp at hm⟩
  refine (sound hT h I w [] vs hw hl (fun i d v a b => .pure (hr i d v a b))).mono fun e w' hh => ?_
  obtain ⟨v, I', μ', rfl, hx, _, hR, _⟩ := hh
  exact ⟨by rw [rep_bool hR], Below.of_ext hx (fun b => own_nil)⟩

/-- What the reckoning of a closed law tells. -/
def tells : Option CR → Option (Heap × List Prop)
  | some ⟨.bool true, H, _, cs⟩ => some (H, cs)
  | _ => none

def tellsTrue (x : Option CR) : Bool :=
  match tells x with
  | some (_, []) => true
  | _ => false

theorem tellsTrue_ok {x : Option CR} (h : tellsTrue x = true) : ∃ R, x = some R ∧ R.r = .bool true ∧ R.cs = [] := by
  unfold tellsTrue at h
  split at h
  · rename_i H hx
    unfold tells at hx
    split at hx
    · simp only [Option.some.injEq, Prod.mk.injEq] at hx
      exact ⟨_, rfl, rfl, hx.2⟩
    · cases hx
  · cases h

/-- A law without arguments, reckoned. -/
theorem closed_law {C : Cf} (hC : CfOk C) {P : Program} (hP : C.P = P) {m d : Nat} {f : FuncId} (h : tellsTrue (callE C m d f [] [] .auto) = true) (w : World) :
    Calls P f #[] w fun e w' => e = .returned (.bool true) ∧ Below w.heap.size w w' := by
  subst hP
  obtain ⟨R, h1, h2, h3⟩ := tellsTrue_ok h
  have hev := callE_ok hC _ _ _ _ _ h1 (fun c hc => by rw [h3] at hc; simp at hc)
  rw [h2] at hev
  exact law_calls (I := fun _ _ => False) hC.hT hev (fun _ _ h => h.elim) rfl (fun i d v a b => by simp at a)

end Go.Proofs.Ytifpbdhggooelaa.GD
