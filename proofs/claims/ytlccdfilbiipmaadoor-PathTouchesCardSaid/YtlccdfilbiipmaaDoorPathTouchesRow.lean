/- PROVED: the law PathTouches hands back true, whatever the two paths and the value: its tied card. No conditions but those of the given row. -/
import Derived.Test.YtlccdfilbiipmaaDoorPwJ
import Derived.Test.YtlccdfilbiipmaaDoorCards
import Derived.Test.YtlccdfilbiipmaaDoorTie
import Derived.WalkKit
import Derived.ProofKit
import Derived.Deep.DeepHandedRow
import Derived.Lay
namespace Go.Proofs.YtlccdfilbiipmaaDoor.pathTouches
open Go Go.ChangeShapes Go.WideShapes Go.ChangeAt Go.RowKit YtlccdfilbiipmaaDoor.GD
set_option linter.unusedVariables false

theorem own : ownKnob Tryd.prog.godebug = none := by kernel_rfl
theorem laid : laidOutB Tryd.prog = true := by kernel_rfl

open valk in
theorem names_read {n : Nat} {x : D} (h : shpA Tryd.prog n 23 x) : ∃ xp ps, x = .slice xp (ordk.nmS ps) none ∧ (∀ s ∈ ps, s.size ≤ maxLen) ∧ ps.length ≤ maxLen := by
  obtain ⟨nn, es, rfl, _, hl, hes⟩ := shpA_slice Tryd.underlying23 h
  obtain ⟨ps, rfl, hp⟩ := ordk.names_of (fun r hr => by
    obtain ⟨s, e, hs⟩ := shp_str Tryd.underlying9 (hes r hr)
    exact ⟨s, e, hs⟩)
  exact ⟨nn, ps, rfl, hp, by rw [← ordk.nmS_len]; exact hl⟩
open valk in
theorem walk {w : World} {v0 v1 v2 : Value} {n0 n1 n2 : Nat} {x0 x1 x2 : D} (h0 : shpA Tryd.prog n0 23 x0) (h1 : shpA Tryd.prog n1 23 x1) (h2 : shpA Tryd.prog n2 32 x2)
    (r0 : RepP (fun b _ => b < w.heap.size) w x0 v0) (r1 : RepP (fun b _ => b < w.heap.size) w x1 v1) (r2 : RepP (fun b _ => b < w.heap.size) w x2 v2) :
    Calls Tryd.prog 8 #[v0, v1, v2] w fun e w' => e = .returned (.bool true) ∧ Below w.heap.size w w' := by
  obtain ⟨xa, pa, rfl, ha, la⟩ := names_read h0
  obtain ⟨xp, ps, rfl, hp, lp⟩ := names_read h1
  obtain ⟨c, rfl, hc⟩ := shpA_agg Tryd.underlying32 h2
  obtain ⟨X, hev⟩ := ordk.law8 xa xp pa ps ha la lp (vs_of _ hc)
  exact law_calls (P := Tryd.prog) (I := fun b _ => b < w.heap.size) valk.c0Ok.hT hev (fun _ _ h => h) rfl (reps_cons r0 (reps_cons r1 (reps_cons r2 reps_nil)))

theorem reads (os : Os) {H : Type} (enc : TypeId × Value → H) : ∃ places, DataW.whole enc Tryd.prog ((World.laidAll Tryd.prog os Rows.pathTouchesRow.laid).forCall (fun _ _ => 0) ⟨#[], #[.slice none 0 0, .slice none 0 0, .agg #[.int .i64 0, .int .i64 0, .string ByteArray.empty, .slice none 0 0, .slice none 0 0, .slice none 0 0]], []⟩).memory Tryd.f8.params.toList Rows.pathTouchesSpec.vars false (#[.slice none 0 0, .slice none 0 0, .agg #[.int .i64 0, .int .i64 0, .string ByteArray.empty, .slice none 0 0, .slice none 0 0, .slice none 0 0]] : Array Value).toList 8 = some ([.nil, .nil, .agg [.lit (.int .i64 0), .lit (.int .i64 0), .lit (.string []), .nil, .nil, .nil]], [], places) := by
  have hw : (DataW.whole enc Tryd.prog ((World.laidAll Tryd.prog os Rows.pathTouchesRow.laid).forCall (fun _ _ => 0) ⟨#[], #[.slice none 0 0, .slice none 0 0, .agg #[.int .i64 0, .int .i64 0, .string ByteArray.empty, .slice none 0 0, .slice none 0 0, .slice none 0 0]], []⟩).memory Tryd.f8.params.toList Rows.pathTouchesSpec.vars false (#[.slice none 0 0, .slice none 0 0, .agg #[.int .i64 0, .int .i64 0, .string ByteArray.empty, .slice none 0 0, .slice none 0 0, .slice none 0 0]] : Array Value).toList 8).map (fun x => (x.1, x.2.1)) = some ([.nil, .nil, .agg [.lit (.int .i64 0), .lit (.int .i64 0), .lit (.string []), .nil, .nil, .nil]], []) := by kernel_rfl
  obtain ⟨⟨x1, x2, x3⟩, hx, hx1⟩ := Option.map_eq_some_iff.1 hw
  simp only [Prod.mk.injEq] at hx1
  obtain ⟨rfl, rfl⟩ := hx1
  exact ⟨x3, hx⟩
set_option maxRecDepth 100000 in
theorem lifted (os : Os) (started : os.Started) (H : Type) (enc : TypeId × Value → H) (F : Stop.Interp) :
    ReturnsInHanded {} Tryd.checked os 8 .any ((OpenSpec.ofChange Rows.pathTouchesSpec).preRow enc Tryd.prog Tryd.f8 Rows.pathTouchesRow.domain false Rows.pathTouchesRow.laid) (((OpenSpec.ofChange Rows.pathTouchesSpec).at F).post enc Tryd.prog Tryd.f8 false true false false) := by
  obtain ⟨places, hx⟩ := reads os enc
  refine returnsInHanded_of_row (C := Tryd.checked) (s := OpenSpec.ofChange Rows.pathTouchesSpec) own started (by kernel_rfl) Tryd.func8
    (witness_row_at (enc := enc) (C := Tryd.checked) false (World.laidAll Tryd.prog os Rows.pathTouchesRow.laid) #[.slice none 0 0, .slice none 0 0, .agg #[.int .i64 0, .int .i64 0, .string ByteArray.empty, .slice none 0 0, .slice none 0 0, .slice none 0 0]] (World.laidAll_os _ _ _) (by kernel_rfl) (by kernel_rfl) (by kernel_rfl)
      (OpenSpec.preRow_of_cond 8 hx (by kernel_rfl) (fun k hk => by cases hk) (by kernel_rfl) (laidMet_laidAll _ (by kernel_rfl) (by kernel_rfl)))) ?_
  intro W base args ds gs before hval0 hW _ _ _ hL _ _
  have hval : ∀ (j : Nat) t v, Tryd.f8.params[j]? = some t → args[j]? = some v → Value.okWide Tryd.prog W .any base t v := hval0
  have hW' := hW
  obtain ⟨p, q, hA0, hV, rfl, hfz, hnd⟩ := hW
  have hA : DataW.TrodAll enc Tryd.prog W 0 (fun _ => true) true Tryd.f8.params.toList args.toList ds p := hA0
  rw [Tryd.params8] at hA hval
  obtain ⟨v0, v1, v2, d0, d1, d2, p0, p1, p2, rfl, rfl, rfl, h0, h1, h2⟩ := trodAll_three hA
  obtain ⟨rfl, rfl⟩ := trodVars_none hV
  obtain ⟨n0, x0, s0, r0⟩ := arg_read laid (by kernel_rfl) (hval 0 23 v0 rfl rfl) h0
  obtain ⟨n1, x1, s1, r1⟩ := arg_read laid (by kernel_rfl) (hval 1 23 v1 rfl rfl) h1
  obtain ⟨n2, x2, s2, r2⟩ := arg_read laid (by kernel_rfl) (hval 2 32 v2 rfl rfl) h2
  clear hA0 hval0
  refine (walk s0 s1 s2 r0 r1 r2).mono fun e W' ⟨he, hg⟩ => ?_
  subst he
  exact ⟨_, rfl, law_post laid (by kernel_rfl) rfl (by kernel_rfl) Tryd.underlying4 rfl hW' hg⟩

theorem said : Rows.PathTouchesSaid :=
  OpenClaim.holds_of_cond 8 Tryd.f8 rfl rfl rfl rfl rfl rfl rfl ⟨rfl, rfl, rfl, rfl, rfl⟩ rfl rfl rfl rfl rfl (by kernel_rfl) Tryd.func8 (by kernel_rfl)
    (of_decide_eq_true (by kernel_rfl)) (by unfold Func.isWrapper; first | (rw [if_pos (by decide +kernel)]; kernel_rfl) | (rw [if_neg (by decide +kernel)]; exact ⟨rfl, rfl⟩))
    (fun os started H enc _ F => by rw [OpenClaim.pre_eq_preRow]; exact lifted os started H enc F)

/-- No parameter wants a stand-in; the program's own looks are off. -/
theorem plain (f : FuncId) (fn : Func) (hf : Tryd.pinned.checked.prog.funcNamed Rows.pathTouchesRow.func = some f) (hfn : Tryd.pinned.checked.prog.funcs[f]? = some fn) :
    false = Tryd.pinned.checked.prog.looks [] ∧ ∀ (j : Nat) t, fn.params[j]? = some t → Tryd.pinned.checked.prog.wantsStandIn t = false := by
  obtain rfl : f = 8 := Option.some.inj ((show Tryd.prog.funcNamed Rows.pathTouchesRow.func = some 8 by kernel_rfl).symm.trans hf) |>.symm
  obtain rfl : fn = Tryd.f8 := (Option.some.inj (Tryd.func8.symm.trans hfn)).symm
  refine ⟨by kernel_rfl, fun j t ht => ?_⟩
  rw [Tryd.params8] at ht
  have hm : t ∈ [23, 23, 32] := by simpa using Array.mem_of_getElem? ht
  have hall : ([23, 23, 32].all fun u => !Tryd.prog.wantsStandIn u) = true := by kernel_rfl
  exact (show Tryd.prog.wantsStandIn t = false by simpa using List.all_eq_true.1 hall t hm)

/-- ████ THE CARD ████ -/
theorem proved : Rows.PathTouchesCardSaid :=
  Claim7.holds_tied_plain_at .later [] _ _ _ _ said (fun _ h => by cases h) (by kernel_rfl) (fun _ h => by cases h) pathTouches_row_tie rfl ⟨rfl, rfl⟩ (by kernel_rfl) rfl plain (by kernel_rfl)
#print axioms proved
end Go.Proofs.YtlccdfilbiipmaaDoor.pathTouches
