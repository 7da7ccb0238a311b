/- The tables of OrderRows and OrderCuts, and whether a list is few. -/
import Derived.Test.YtbkacmcijimbfaaOrdDb
namespace Go.Proofs.Ytbkacmcijimbfaa.ordk
open Go Ytbkacmcijimbfaa.GD valk
set_option linter.unusedVariables false
set_option linter.unusedSimpArgs false
set_option maxRecDepth 100000

def tabL (cV : Cs → Cs → Int) (few : Es → Bool) (byF : Es → Es → Es → Int) (cutF : Cs → Bool → CT) (cS : Cs → Cs → Bool) : Tab := fun k args H =>
  match k with
  | 30 => match args, H with | [], [] => some (.bool true, []) | _, _ => none
  | 31 => match args, H with | [.slice _ es none], [] => some (.bool (few es), []) | _, _ => none
  | 39 => match args, H with | [.slice _ x none, .slice _ y none, .slice _ d none], [] => some (.int .i64 (byF x y d), []) | _, _ => none
  | 41 => match args, H with | [.slice _ x none, .slice _ y none, .slice _ d none], [] => some (.int .i64 (byF x y d), []) | _, _ => none
  | 36 => match args, H with | [.agg v, .bool dn], [] => some (.agg (cellsT (cutF v dn)), []) | _, _ => none
  | 40 => match args, H with | [.agg v, .bool dn], [] => some (.agg (cellsT (cutF v dn)), []) | _, _ => none
  | 17 => match args, H with | [.agg a, .agg b], [] => some (.bool (cS a b), []) | _, _ => none
  | 33 => match args, H with | [.agg a, .agg b], [] => some (.int .i64 (cV a b), []) | _, _ => none
  | _ => none
def aRows (cV : Cs → Cs → Int) (few : Es → Bool) (byF : Es → Es → Es → Int) (cutF : Cs → Bool → CT) (cS : Cs → Cs → Bool) (xa : Bool) (ea : Es) (xb : Bool) (eb : Es) (xd : Bool) (ed : Es) : List D × GD.Heap := ([.slice xa ea none, .slice xb eb none, .slice xd ed none], [])
def tRows (cV : Cs → Cs → Int) (few : Es → Bool) (byF : Es → Es → Es → Int) (cutF : Cs → Bool → CT) (cS : Cs → Cs → Bool) (xa : Bool) (ea : Es) (xb : Bool) (eb : Es) (xd : Bool) (ed : Es) : Tab := tabL cV few byF cutF cS
def aCuts (cV : Cs → Cs → Int) (few : Es → Bool) (byF : Es → Es → Es → Int) (cutF : Cs → Bool → CT) (cS : Cs → Cs → Bool) (xa : Bool) (ea : Es) : List D × GD.Heap := ([.slice xa ea none], [])
def tCuts (cV : Cs → Cs → Int) (few : Es → Bool) (byF : Es → Es → Es → Int) (cutF : Cs → Bool → CT) (cS : Cs → Cs → Bool) (xa : Bool) (ea : Es) : Tab := tabL cV few byF cutF cS

theorem few31' (es : Es) (hl : es.length ≤ maxLen) (hv : ∀ c ∈ es, VS c) : ∃ b, ∀ xb, Ret P T 31 [.slice xb es none] [] (.bool b) [] := by
  have key : ∀ (m i : Nat) (t : Int), i + m = es.length → ∃ b, ∀ xb, few_at0 smallB W xb es t i (.bool b) [] := by
    intro m
    induction m with
    | zero =>
      intro i t hi
      by_cases h : (es.length : Int) ≤ 30
      · exact ⟨_, fun xb => few_0_2 (by omega) h⟩
      · exact ⟨_, fun xb => few_0_3 (by omega) h⟩
    | succ m ih =>
      intro i t hi
      have hlt : i < es.length := by omega
      have hvi := hv _ (List.getElem_mem hlt)
      obtain ⟨ck, cn, cs, yb, cb, yf, cf, yl, cl, hrow⟩ := hvi.get
      have hg : es[((i : Int)).toNat]? = some (valk.val ck cn cs yb cb yf cf yl cl) := by rw [Int.toNat_natCast, List.getElem?_eq_getElem hlt, hrow]
      rw [hrow] at hvi
      have h14 : Ret P T 14 [.agg (valk.val ck cn cs yb cb yf cf yl cl)] [] (.bool (smallB (valk.val ck cn cs yb cb yf cf yl cl))) [] := small hvi
      have h42 : Ret P T 42 [.agg (valk.val ck cn cs yb cb yf cf yl cl), .int .i64 3000] [] (.int .i64 (W (valk.val ck cn cs yb cb yf cf yl cl) 3000)) [] := W_ok (weight hvi 3000)
      cases hs : smallB (valk.val ck cn cs yb cb yf cf yl cl) with
      | false =>
        exact ⟨false, fun xb => few_0_1 (smB := smallB) (by omega) hs h14 (by omega) hg⟩
      | true =>
        obtain ⟨b, g⟩ := ih (i + 1) (IntKind.i64.wrap (t + W (valk.val ck cn cs yb cb yf cf yl cl) 3000)) (by omega)
        refine ⟨b, fun xb => few_0_0 (by omega) hs h42 (by omega) hg h14 hg ?_⟩
        rw [up hlt hl]
        exact g xb
  obtain ⟨b, g⟩ := key es.length 0 0 (by omega)
  exact ⟨b, fun xb => few_in_0 (g xb)⟩
open Classical in
noncomputable def fewE (es : Es) : Bool := if h : es.length ≤ maxLen ∧ ∀ c ∈ es, VS c then (few31' es h.1 h.2).choose else false
theorem few_E (xb : Bool) {es : Es} (hl : es.length ≤ maxLen) (hv : ∀ c ∈ es, VS c) : Ret P T 31 [.slice xb es none] [] (.bool (fewE es)) [] := by
  unfold fewE
  rw [dif_pos ⟨hl, hv⟩]
  exact (few31' es hl hv).choose_spec xb

theorem cells_of {v : Cs} (hv : VS v) : cellsT (ctOf v) = v := by
  obtain ⟨k, n, s, xb, eb, xf, ef, xl, el, rfl⟩ := hv.get
  rfl
def cutC (v : Cs) (dn : Bool) : CT := ctOf (cutV v dn)


end Go.Proofs.Ytbkacmcijimbfaa.ordk
