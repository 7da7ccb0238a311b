/- PROVED: the law PathBack hands back true, whatever the names: its tied card. No conditions but those of the given row. -/
import Derived.Test.YtlccdfilbiipmaaDoorPwLb
import Derived.Test.YtlccdfilbiipmaaDoorCards
import Derived.Test.YtlccdfilbiipmaaDoorTie
import Derived.WalkKit
import Derived.ProofKit
import Derived.Deep.DeepHandedRow
import Derived.Lay
namespace Go.Proofs.YtlccdfilbiipmaaDoor.pathBack
open Go Go.ChangeShapes Go.WideShapes Go.ChangeAt Go.RowKit YtlccdfilbiipmaaDoor.GD
set_option linter.unusedVariables false

theorem own : ownKnob Tryd.prog.godebug = none := by kernel_rfl
theorem laid : laidOutB Tryd.prog = true := by kernel_rfl

open valk in
theorem names_read {n : Nat} {x : D} (h : shpA Tryd.prog n 23 x) : ∃ xp ps, x = .slice xp (ordk.txE ps) none ∧ ps.length ≤ maxLen := by
  obtain ⟨nn, es, rfl, _, hl, hes⟩ := shpA_slice Tryd.underlying23 h
  have key : ∀ es : List (List D), (∀ r ∈ es, ∃ s, r = [D.str s]) → ∃ ps, es = ordk.txE ps := by
    intro es
    induction es with
    | nil => intro _; exact ⟨[], rfl⟩
    | cons c r ih =>
      intro hh
      obtain ⟨s, rfl⟩ := hh c (by simp)
      obtain ⟨ps, rfl⟩ := ih (fun x hx => hh x (by simp [hx]))
      exact ⟨ordk.bs s :: ps, rfl⟩
  obtain ⟨ps, rfl⟩ := key es (fun r hr => by
    obtain ⟨s, e, hs⟩ := shp_str Tryd.underlying9 (hes r hr)
    exact ⟨s, e⟩)
  exact ⟨nn, ps, rfl, by rw [← ordk.txE_len]; exact hl⟩

theorem weightsAll_mem {H : Type} {P : Program} {e : TypeId} : ∀ (l : List (DataW H)) (d : DataW H), d ∈ l → ∀ x ∈ d.weights P e, x ∈ DataW.weightsAll P e l
  | [], d, h, x, hx => by cases h
  | a :: l, d, h, x, hx => by
    rw [DataW.weightsAll]
    rcases List.mem_cons.1 h with rfl | h
    · exact List.mem_append.2 (.inl hx)
    · exact List.mem_append.2 (.inr (weightsAll_mem l d h x hx))

/-- What a machine can reach bounds each name. -/
theorem names_max {H : Type} {enc : TypeId × Value → H} {w : World} {base : Nat} {spare : Nat → Bool} {held : Bool} {v : Value} {d : DataW H} {pl : List MemPlace} {xp : Bool} {ps : List (List UInt8)}
    (h : DataW.Trod enc Tryd.prog w base spare held 23 v d pl) (r : RepP (fun b _ => b < w.heap.size) w (.slice xp (ordk.txE ps) none) v) (hw : ∀ x ∈ d.weights Tryd.prog 23, x ≤ reachBytes) : ∀ s ∈ ps, s.length ≤ reachBytes := by
  intro s hs
  obtain ⟨i, hi⟩ := List.getElem?_of_mem hs
  have hes : (ordk.txE ps)[i]? = some [D.str (ordk.tx s)] := by rw [ordk.txE, List.getElem?_map, hi]; rfl
  obtain ⟨n, hn⟩ := h
  generalize ordk.txE ps = es0 at r hes
  cases r with
  | sliceN => simp at hes
  | slice es a cap sz f hcap hsz h1 h2 =>
    rcases DataW.trod_slice Tryd.underlying23 hn with ⟨h0, _⟩ | ⟨a', len, cap', elems, rest, m, hm, h0, hx, hb, hlc, hcm, hel, hge, _, _⟩
    · simp [Value.cells] at h0
    · simp only [Value.cells, List.cons.injEq, Value.slice.injEq, Option.some.injEq, and_true] at h0
      obtain ⟨rfl, rfl, rfl⟩ := h0
      have hil : i < es0.length := (List.getElem?_eq_some_iff.1 hes).1
      have hsz1 : sz = 1 := (hsz i _ hes).symm
      subst hsz1
      have hc : Tryd.prog.cellsOf 9 = 1 := by kernel_rfl
      obtain ⟨_, hcell, _⟩ := h1 i 0 hil (by omega)
      have hf : f i 0 = .string (ordk.tx s) := GD.rep_str (μ := []) (.pure (h2 i 0 _ (D.str (ordk.tx s)) hes rfl))
      have hg := hge i hil
      have hi' : i < elems.length := by omega
      rw [List.getElem?_eq_getElem hi', hc] at hg
      obtain ⟨vs, g1, g2⟩ := Option.bind_eq_some_iff.1 hg
      obtain ⟨_, g3, g4⟩ := World.cells?_some g1
      have g5 := g4 0 (by omega)
      have ea : (a.add (i * 1)).add 0 = a.add (i * 1 + 0) := GD.add_add' ..
      rw [ea, hcell, hf] at g5
      match vs, g3, g5 with
      | [u], _, g5 =>
        simp only [List.getElem?_cons_zero, Option.some.injEq] at g5
        subst g5
        have g6 : ∃ q, elems[i] = (.lit (.string s), q) := by
          cases m with
          | zero => simp [DataW.trod] at g2
          | succ m =>
            unfold DataW.trod at g2
            rw [Tryd.underlying9] at g2
            simp only [Option.ite_none_right_eq_some, Option.some.injEq] at g2
            exact ⟨_, g2.2.symm⟩
        obtain ⟨q, hq⟩ := g6
        have hmem : DataW.lit (.string s) ∈ elems.map (·.1) := List.mem_map.2 ⟨elems[i], List.getElem_mem hi', by rw [hq]⟩
        have hd : d = .slice (elems.map (·.1)) (rest.map (·.1)) := congrArg Prod.fst hx
        subst hd
        have := hw s.length (by
          rw [DataW.weights, Tryd.underlying23]
          exact List.mem_cons_of_mem _ (List.mem_append.2 (.inl (weightsAll_mem _ _ hmem _ (by rw [DataW.weights]; simp)))))
        simpa using this
theorem sizes_max : ∀ (ps : List (List UInt8)) (M : Nat), (∀ s ∈ ps, s.length ≤ M) → ordk.sizes ps ≤ ps.length * M
  | [], M, _ => by simp [ordk.sizes]
  | s :: t, M, h => by
    have h1 := sizes_max t M (fun x hx => h x (List.mem_cons_of_mem _ hx))
    have h2 := h s (by simp)
    rw [ordk.sizes, List.length_cons, Nat.succ_mul]
    omega
open valk in
theorem walk {w : World} {v0 : Value} {n0 : Nat} {x0 : D} (h0 : shpA Tryd.prog n0 23 x0) (r0 : RepP (fun b _ => b < w.heap.size) w x0 v0)
    {H : Type} {enc : TypeId × Value → H} {base : Nat} {spare : Nat → Bool} {held : Bool} {d0 : DataW H} {pl : List MemPlace} (t0 : DataW.Trod enc Tryd.prog w base spare held 23 v0 d0 pl) (hw : ∀ x ∈ d0.weights Tryd.prog 23, x ≤ reachBytes) (hL : laidMet Tryd.prog Rows.pathBackRow.laid w) :
    Calls Tryd.prog 6 #[v0] w fun e w' => e = .returned (.bool true) ∧ Below w.heap.size w w' := by
  obtain ⟨xp, ps, rfl, lp⟩ := names_read h0
  have hmx := names_max t0 r0 hw
  obtain ⟨X, hev⟩ := ordk.law6 xp ps (fun h40 => Nat.le_trans (sizes_max ps _ hmx) (Nat.le_trans (Nat.mul_le_mul_right reachBytes h40) (by decide))) lp
  refine law_calls (P := Tryd.prog) (I := fun b _ => b < w.heap.size) valk.c0Ok.hT hev (fun _ _ h => h) rfl (reps_cons r0 reps_nil) (ordk.glb_ok ?_ ?_)
  · have e : (Rows.laid_unicode_utf8_first : DataW Unit) = Lib.firstData := by kernel_rfl
    rw [← e]
    exact Lib.laidMet.reads hL (List.mem_cons_of_mem _ (List.mem_cons_self ..))
  · have e : (Rows.laid_unicode_utf8_acceptRanges : DataW Unit) = Lib.acceptData := by kernel_rfl
    rw [← e]
    exact Lib.laidMet.reads hL (List.mem_cons_self ..)

theorem reads (os : Os) {H : Type} (enc : TypeId × Value → H) : ∃ places, DataW.whole enc Tryd.prog ((World.laidAll Tryd.prog os Rows.pathBackRow.laid).forCall (fun _ _ => 0) ⟨#[], #[.slice none 0 0], []⟩).memory Tryd.f6.params.toList Rows.pathBackSpec.vars false (#[.slice none 0 0] : Array Value).toList 8 = some ([.nil], [], places) := by
  have hw : (DataW.whole enc Tryd.prog ((World.laidAll Tryd.prog os Rows.pathBackRow.laid).forCall (fun _ _ => 0) ⟨#[], #[.slice none 0 0], []⟩).memory Tryd.f6.params.toList Rows.pathBackSpec.vars false (#[.slice none 0 0] : Array Value).toList 8).map (fun x => (x.1, x.2.1)) = some ([.nil], []) := by kernel_rfl
  obtain ⟨⟨x1, x2, x3⟩, hx, hx1⟩ := Option.map_eq_some_iff.1 hw
  simp only [Prod.mk.injEq] at hx1
  obtain ⟨rfl, rfl⟩ := hx1
  exact ⟨x3, hx⟩
set_option maxRecDepth 100000 in
theorem lifted (os : Os) (started : os.Started) (H : Type) (enc : TypeId × Value → H) (F : Stop.Interp) :
    ReturnsInHanded {} Tryd.checked os 6 .any ((OpenSpec.ofChange Rows.pathBackSpec).preRow enc Tryd.prog Tryd.f6 Rows.pathBackRow.domain false Rows.pathBackRow.laid) (((OpenSpec.ofChange Rows.pathBackSpec).at F).post enc Tryd.prog Tryd.f6 false true false false) := by
  obtain ⟨places, hx⟩ := reads os enc
  refine returnsInHanded_of_row (C := Tryd.checked) (s := OpenSpec.ofChange Rows.pathBackSpec) own started (by kernel_rfl) Tryd.func6
    (witness_row_at (enc := enc) (C := Tryd.checked) false (World.laidAll Tryd.prog os Rows.pathBackRow.laid) #[.slice none 0 0] (World.laidAll_os _ _ _) (by kernel_rfl) (by kernel_rfl) (by kernel_rfl)
      (OpenSpec.preRow_of_cond 8 hx (by kernel_rfl) (fun k hk => by cases hk) (by kernel_rfl) (laidMet_laidAll _ (by kernel_rfl) (by kernel_rfl)))) ?_
  intro W base args ds gs before hval0 hW _ _ hwts hL _ _
  have hval : ∀ (j : Nat) t v, Tryd.f6.params[j]? = some t → args[j]? = some v → Value.okWide Tryd.prog W .any base t v := hval0
  have hW' := hW
  obtain ⟨p, q, hA0, hV, rfl, hfz, hnd⟩ := hW
  have hA : DataW.TrodAll enc Tryd.prog W 0 (fun _ => true) true Tryd.f6.params.toList args.toList ds p := hA0
  rw [Tryd.params6] at hA hval
  obtain ⟨v0, d0, rfl, rfl, h0⟩ := trodAll_one hA
  obtain ⟨rfl, rfl⟩ := trodVars_none hV
  obtain ⟨n0, x0, s0, r0⟩ := arg_read laid (by kernel_rfl) (hval 0 23 v0 rfl rfl) h0
  have hwt : ∀ x ∈ d0.weights Tryd.prog 23, x ≤ reachBytes := fun x hx => of_decide_eq_true (List.all_eq_true.1 hwts x (by rw [Tryd.params6]; exact List.mem_append.2 (.inl hx)))
  clear hA0 hval0
  refine (walk s0 r0 h0 hwt hL).mono fun e W' ⟨he, hg⟩ => ?_
  subst he
  exact ⟨_, rfl, law_post laid (by kernel_rfl) rfl (by kernel_rfl) Tryd.underlying4 rfl hW' hg⟩

theorem said : Rows.PathBackSaid :=
  OpenClaim.holds_of_cond 6 Tryd.f6 rfl rfl rfl rfl rfl rfl rfl ⟨rfl, rfl, rfl, rfl, rfl⟩ rfl rfl rfl rfl rfl (by kernel_rfl) Tryd.func6 (by kernel_rfl)
    (of_decide_eq_true (by kernel_rfl)) (by unfold Func.isWrapper; first | (rw [if_pos (by decide +kernel)]; kernel_rfl) | (rw [if_neg (by decide +kernel)]; exact ⟨rfl, rfl⟩))
    (fun os started H enc _ F => by rw [OpenClaim.pre_eq_preRow]; exact lifted os started H enc F)

/-- No parameter wants a stand-in; the program's own looks are off. -/
theorem plain (f : FuncId) (fn : Func) (hf : Tryd.pinned.checked.prog.funcNamed Rows.pathBackRow.func = some f) (hfn : Tryd.pinned.checked.prog.funcs[f]? = some fn) :
    false = Tryd.pinned.checked.prog.looks [] ∧ ∀ (j : Nat) t, fn.params[j]? = some t → Tryd.pinned.checked.prog.wantsStandIn t = false := by
  obtain rfl : f = 6 := Option.some.inj ((show Tryd.prog.funcNamed Rows.pathBackRow.func = some 6 by kernel_rfl).symm.trans hf) |>.symm
  obtain rfl : fn = Tryd.f6 := (Option.some.inj (Tryd.func6.symm.trans hfn)).symm
  refine ⟨by kernel_rfl, fun j t ht => ?_⟩
  rw [Tryd.params6] at ht
  have hm : t ∈ [23] := by simpa using Array.mem_of_getElem? ht
  have hall : ([23].all fun u => !Tryd.prog.wantsStandIn u) = true := by kernel_rfl
  exact (show Tryd.prog.wantsStandIn t = false by simpa using List.all_eq_true.1 hall t hm)

/-- ████ THE CARD ████ -/
theorem proved : Rows.PathBackCardSaid :=
  Claim7.holds_tied_plain_at .later [] _ _ _ _ said (fun _ h => by cases h) (by kernel_rfl) (fun _ h => by cases h) pathBack_row_tie rfl ⟨rfl, rfl⟩ (by kernel_rfl) rfl plain (by kernel_rfl)
#print axioms proved
end Go.Proofs.YtlccdfilbiipmaaDoor.pathBack
