/- Paths: the law PathDocs hands back true, where the names are not too long for a machine. -/
import Derived.Test.YtlccdfilbiipmaaDoorPwW
import Derived.Test.YtlccdfilbiipmaaDoorPwSw
namespace Go.Proofs.YtlccdfilbiipmaaDoor.ordk
open Go YtlccdfilbiipmaaDoor.GD valk
set_option linter.unusedVariables false
set_option linter.unusedSimpArgs false
set_option maxRecDepth 100000

noncomputable def cA : Cf := { P := Tryd.prog, T := tyOf Tryd.prog, hint := fun _ _ _ => .auto, room := fun _ _ => 1, meth := fun _ _ => none, ct := fun _ _ _ => none, stop := false }
theorem cAOk : CfOk cA where
  hT := fun _ _ h => h
  hm := by kernel_rfl
  meth := fun _ _ _ h => by simp only [cA] at h; cases h
  ct := fun _ _ _ _ _ _ h => by simp only [cA] at h; cases h
theorem awake9 : Ret P T 9 [] [] (.bool true) [] := ret_closed cAOk (show tellsTrue (callE cA 100000 100 9 [] [] .auto) = true by kernel_rfl)

/-- A row of texts. -/
theorem names_of {ep : Es} (h : ∀ r ∈ ep, ∃ s, r = [D.str s] ∧ s.size ≤ maxLen) : ∃ ps, ep = nmS ps ∧ ∀ s ∈ ps, s.size ≤ maxLen := by
  induction ep with
  | nil => exact ⟨[], rfl, fun _ h => by cases h⟩
  | cons r t ih =>
    obtain ⟨s, rfl, hs⟩ := h r (by simp)
    obtain ⟨ps, rfl, hp⟩ := ih (fun r hr => h r (List.mem_cons_of_mem _ hr))
    exact ⟨s :: ps, rfl, fun x hx => by rcases List.mem_cons.1 hx with rfl | hx; exact hs; exact hp x hx⟩
theorem bd_of {v : Cs} (hv : VS v) (h : (encV v).length ≤ 700000) : Bd v := by
  have := cnt_enc hv
  unfold Bd; omega
theorem all_max {ps : List ByteArray} {v : Cs} (hv : VS v) (h : Bd v) : (allN ps v).length ≤ maxLen := by
  have := all_len ps hv
  have hm : (1000000 : Nat) ≤ maxLen := by decide
  unfold Bd at h; omega

def xB : ByteArray := ByteArray.mk #[120]
def xxB : ByteArray := ByteArray.mk #[120, 120]
def nullC : Cs := valk.val 2 0 (ByteArray.mk #[]) false [] false [] false []
def docE (p : ByteArray) (d : Cs) : Es := [D.str (p ++ xB) :: nullC, D.str p :: d]
def docC (p : ByteArray) (d : Cs) : Cs := valk.val 6 0 (ByteArray.mk #[]) false [] true (docE p d) false []
def nest : List ByteArray → Cs → Cs
  | [], v => v
  | p :: ps, v => docC p (nest ps v)
theorem app_ne {a b : ByteArray} (h : a.size ≠ b.size) : a.toList ≠ b.toList := fun e => h (by rw [size_list, size_list, e])
theorem vs_null : VS nullC := .mk 2 0 _ _ _ _ _ _ _ [] (by omega) (by omega) (by decide) rfl (fun x hx => by cases hx) (by decide) (by decide) (by decide) (fun _ => rfl) (fun _ => rfl) (fun _ => rfl) (fun r hr => by cases hr) (fun nm c hc => by cases hc) (fun r hr => by cases hr)
theorem vs_docC {p : ByteArray} {d : Cs} (hd : VS d) (hp : p.size ≤ 1000) : VS (docC p d) := by
  have hm : (1001 : Nat) ≤ maxLen := by decide
  have hs : (p ++ xB).size ≤ maxLen := by rw [ByteArray.size_append]; show p.size + 1 ≤ _; omega
  refine .mk 6 0 _ _ _ _ _ _ _ [] (by omega) (by omega) (by decide) rfl (fun x hx => by cases hx) (by decide) (by show 2 ≤ maxLen; omega) (by decide) (fun _ => rfl) (fun h => by cases h) (fun _ => rfl) (fun r hr => ?_) (fun nm c hc => ?_) (fun r hr => by cases hr)
  · unfold docE at hr
    rcases List.mem_cons.1 hr with rfl | hr
    · exact ⟨_, _, rfl, hs⟩
    · rcases List.mem_cons.1 hr with rfl | hr
      · exact ⟨_, _, rfl, by omega⟩
      · cases hr
  · unfold docE at hc
    rcases List.mem_cons.1 hc with h | hc
    · injection h with h1 h2; subst h2; exact vs_null
    · rcases List.mem_cons.1 hc with h | hc
      · injection h with h1 h2; subst h2; exact hd
      · cases hc
theorem vs_nest : ∀ (ps : List ByteArray) {v : Cs}, VS v → (∀ p ∈ ps, p.size ≤ 1000) → VS (nest ps v)
  | [], v, hv, _ => hv
  | p :: ps, v, hv, h => vs_docC (vs_nest ps hv (fun q hq => h q (List.mem_cons_of_mem _ hq))) (h p (by simp))
theorem cnt_doc (p : ByteArray) (d : Cs) : cntV (docC p d) = 2 + cntV d := by
  unfold docC docE
  rw [cntV_6, cntFs_cons, cntFs_cons, cntF_eq, cntF_eq, cntFs]
  show 1 + (cntV nullC + (cntV d + 0)) = _
  have : cntV nullC = 1 := by unfold nullC; rw [cntV_eq, if_neg (by omega), if_neg (by omega)]
  omega
theorem cnt_nest : ∀ (ps : List ByteArray) (v : Cs), cntV (nest ps v) = 2 * ps.length + cntV v
  | [], v => by simp [nest]
  | p :: ps, v => by rw [nest, cnt_doc, cnt_nest ps v, List.length_cons]; omega
theorem getF_doc (p : ByteArray) (d : Cs) : getF p (docE p d) = d := by
  unfold docE
  rw [getF, if_neg (app_ne (by rw [ByteArray.size_append]; show p.size + 1 ≠ _; omega)), getF, if_pos rfl]
theorem getF_lost (p : ByteArray) (d : Cs) : getF (p ++ xxB) (docE p d) = zeroV := by
  unfold docE
  rw [getF, if_neg (app_ne (by rw [ByteArray.size_append, ByteArray.size_append]; show p.size + 1 ≠ p.size + 2; omega)), getF, if_neg (app_ne (by rw [ByteArray.size_append]; show p.size ≠ p.size + 2; omega)), getF]
theorem reach_nest : ∀ (ps : List ByteArray) (v : Cs), reachN ps (nest ps v) = v
  | [], v => rfl
  | p :: ps, v => by
    have e : docC p (nest ps v) = valk.val 6 0 (ByteArray.mk #[]) false [] true (docE p (nest ps v)) false [] := rfl
    rw [nest, reachN, e, rc1_val, if_pos rfl, getF_doc, reach_nest ps v]
theorem all_nest : ∀ (ps : List ByteArray) (v : Cs), (ps ≠ [] → kindOf v ≠ 0) → allN ps (nest ps v) = allN [] v
  | [], v, _ => rfl
  | p :: ps, v, h => by
    have e : docC p (nest ps v) = valk.val 6 0 (ByteArray.mk #[]) false [] true (docE p (nest ps v)) false [] := rfl
    have hk : kindOf (nest ps v) ≠ 0 := by
      cases ps with
      | nil => exact h (by simp)
      | cons q qs => show (6 : Int) ≠ 0; omega
    rw [nest, show allN (p :: ps) (docC p (nest ps v)) = al1 p (allN ps) (docC p (nest ps v)) from by rw [allN], e, al1_val, if_pos rfl, getF_doc, if_neg hk, all_nest ps v (fun _ => h (by simp))]

theorem flat_nmS (ps : List ByteArray) : FlatEs (nmS ps) := by
  intro c hc
  obtain ⟨s, _, rfl⟩ := List.mem_map.1 hc
  rfl
theorem nmS_at {ps : List ByteArray} {i : Nat} {s : ByteArray} (h : ps[i]? = some s) : (nmS ps)[i]? = some [D.str s] := by
  unfold nmS; rw [List.getElem?_map, h]; rfl
/-- A path of which a name is changed leads to nothing. -/
theorem lost16 : ∀ (ps : List ByteArray) {v : Cs}, VS v → (∀ p ∈ ps, p.size ≤ 1000) → ∀ (all : List ByteArray) (st k : Nat) (q : ByteArray), ps[k]? = some q → all.drop st = ps.set k (q ++ xxB) →
    Ret P T 16 [.agg (nest ps v), .view 0 st ps.length] [some (.row 1 (nmS all))] (.agg zeroV) [some (.row 1 (nmS all))]
  | [], v, hv, hs, all, st, k, q, hq, he => by simp at hq
  | p :: ps, v, hv, hs, all, st, k, q, hq, he => by
    have hvn := vs_nest ps hv (fun q hq => hs q (List.mem_cons_of_mem _ hq))
    have hvd : VS (docC p (nest ps v)) := vs_docC hvn (hs p (by simp))
    have hlen : ((nmS all).length : Int) = st + (ps.length + 1 : Nat) := by
      have := congrArg List.length he
      rw [List.length_drop, List.length_set, List.length_cons] at this
      rw [nmS_len]; omega
    have hd1 : all.drop (st + 1) = (all.drop st).drop 1 := by rw [List.drop_drop]
    have hv0 : ∀ nm, Ret P T 30 [.agg (docC p (nest ps v)), .str nm] [] (.agg (getF nm (docE p (nest ps v)))) [] := fun nm => get30 hvd nm
    have hge : ∀ s, (all.drop st)[0]? = some s → (nmS all)[st + 0]? = some [D.str s] := fun s h => nmS_at (by rw [List.getElem?_drop] at h; exact h)
    cases k with
    | zero =>
      simp only [List.getElem?_cons_zero, Option.some.injEq] at hq
      subst hq
      have hg := hv0 (p ++ xxB)
      rw [getF_lost] at hg
      have hz : Ret P T 16 [.agg zeroV, .view 0 (st + 1) ps.length] [some (.row 1 (nmS all))] (.agg zeroV) [some (.row 1 (nmS all))] := by
        by_cases h0 : (ps.length : Int) = 0
        · exact rchz_in_0 h0
        · exact rchz_in_1 h0
      have e1 : ((((p :: ps).length : Nat) : Int) - 1).toNat = ps.length := by simp
      rw [← e1] at hz
      exact rchv_in_1 (gV := fun _ _ => ctOf zeroV) (rV := fun _ _ => ctOf zeroV) (aX := fun _ _ => true) (aV := fun _ _ => []) (by simp <;> omega) (flat_nmS all) hz ⟨by omega, by simp <;> omega, Int.le_of_eq hlen.symm⟩ hg (hge _ (by rw [he]; rfl)) ⟨by omega, by simp <;> omega⟩
    | succ k =>
      rw [List.getElem?_cons_succ] at hq
      have c1 := cells_of hvn
      have hg : Ret P T 30 [.agg (docC p (nest ps v)), .str p] [] (.agg (cellsT (ctOf (nest ps v)))) [] := by
        have := hv0 p
        rw [getF_doc] at this
        rw [c1]; exact this
      have ih := lost16 ps hv (fun q hq => hs q (List.mem_cons_of_mem _ hq)) all (st + 1) k q hq (by rw [hd1, he]; rfl)
      have e1 : ((((p :: ps).length : Nat) : Int) - 1).toNat = ps.length := by simp
      rw [← e1] at ih
      rw [← c1] at ih
      exact rchv_in_1 (gV := fun _ _ => ctOf (nest ps v)) (rV := fun _ _ => ctOf zeroV) (aX := fun _ _ => true) (aV := fun _ _ => []) (by simp <;> omega) (flat_nmS all) ih ⟨by omega, by simp <;> omega, Int.le_of_eq hlen.symm⟩ hg (hge _ (by rw [he]; rfl)) ⟨by omega, by simp <;> omega⟩
theorem lost19 : ∀ (ps : List ByteArray) {v : Cs}, VS v → (∀ p ∈ ps, p.size ≤ 1000) → ∀ (all : List ByteArray) (st k : Nat) (q : ByteArray), ps[k]? = some q → all.drop st = ps.set k (q ++ xxB) →
    Ret P T 19 [.agg (nest ps v), .view 0 st ps.length] [some (.row 1 (nmS all))] (.slice true [zeroV] none) [some (.row 1 (nmS all))]
  | [], v, hv, hs, all, st, k, q, hq, he => by simp at hq
  | p :: ps, v, hv, hs, all, st, k, q, hq, he => by
    have hvn := vs_nest ps hv (fun q hq => hs q (List.mem_cons_of_mem _ hq))
    have hvd : VS (docC p (nest ps v)) := vs_docC hvn (hs p (by simp))
    have hlen : ((nmS all).length : Int) = st + (ps.length + 1 : Nat) := by
      have := congrArg List.length he
      rw [List.length_drop, List.length_set, List.length_cons] at this
      rw [nmS_len]; omega
    have hd1 : all.drop (st + 1) = (all.drop st).drop 1 := by rw [List.drop_drop]
    have hv0 : ∀ nm, Ret P T 30 [.agg (docC p (nest ps v)), .str nm] [] (.agg (getF nm (docE p (nest ps v)))) [] := fun nm => get30 hvd nm
    have hge : ∀ s, (all.drop st)[0]? = some s → (nmS all)[st + 0]? = some [D.str s] := fun s h => nmS_at (by rw [List.getElem?_drop] at h; exact h)
    cases k with
    | zero =>
      simp only [List.getElem?_cons_zero, Option.some.injEq] at hq
      subst hq
      have hg := hv0 (p ++ xxB)
      rw [getF_lost] at hg
      have g := allv_in_1 (gV := fun _ _ => ctOf zeroV) (rV := fun _ _ => ctOf zeroV) (aX := fun _ _ => true) (aV := fun _ _ => []) (st := st) (len := (p :: ps).length) (by simp <;> omega) rfl hg (hge _ (by rw [he]; rfl)) ⟨by omega, by simp <;> omega⟩
      exact (g.pur rfl).less 1
    | succ k =>
      rw [List.getElem?_cons_succ] at hq
      have c1 := cells_of hvn
      have hg : Ret P T 30 [.agg (docC p (nest ps v)), .str p] [] (.agg (cellsT (ctOf (nest ps v)))) [] := by
        have := hv0 p
        rw [getF_doc] at this
        rw [c1]; exact this
      have ih := lost19 ps hv (fun q hq => hs q (List.mem_cons_of_mem _ hq)) all (st + 1) k q hq (by rw [hd1, he]; rfl)
      have e1 : ((((p :: ps).length : Nat) : Int) - 1).toNat = ps.length := by simp
      rw [← e1] at ih
      have k1 : (ctOf (nest ps v)).1 ≠ 0 := by
        rw [ct_kind hvn]
        cases ps with
        | nil => simp at hq
        | cons a b => show (6 : Int) ≠ 0; omega
      rw [← c1] at ih
      exact allv_in_2 (gV := fun _ _ => ctOf (nest ps v)) (rV := fun _ _ => ctOf zeroV) (aX := fun _ _ => true) (aV := fun _ _ => [zeroV]) (by simp <;> omega) k1 (flat_nmS all) ih ⟨by omega, by simp <;> omega, Int.le_of_eq hlen.symm⟩ hg (hge _ (by rw [he]; rfl)) ⟨by omega, by simp <;> omega⟩

theorem size_le {p : ByteArray} : ∀ {ps : List ByteArray}, p ∈ ps → p.size ≤ sizes ps
  | [], h => by cases h
  | s :: t, h => by
    rw [sizes]
    rcases List.mem_cons.1 h with rfl | h
    · omega
    · have := size_le h; omega
theorem nmS_set (ps : List ByteArray) (k : Nat) (q : ByteArray) : (nmS ps).set k [D.str q] = nmS (ps.set k q) := by
  unfold nmS
  rw [List.map_set]
theorem same18t {l : Es} (n : Nat) (hl : ∀ y ∈ l, VS y) (hlen : l.length ≤ maxLen) : Ret P T 18 [.slice true l none, .slice true l (some 0)] [some (.tok n 6)] (.bool true) [some (.tok n 6)] :=
  (same18 true true hl hlen).skip (F := fun _ => false) rfl rfl (fun _ h => by cases h)

section
variable (xp : Bool) (ps : List ByteArray) (hp : ∀ p ∈ ps, p.size ≤ 1000) (lp : ps.length ≤ 12) (ms : Int) (hms : 0 ≤ ms ∧ ms ≤ 255)
include hp lp hms
/-- Behind the loop. -/
theorem end5 (h0 : ps ≠ []) {v : Cs} (hv : VS v) (hb : (encV v).length ≤ 700000) :
    lpd_at0 (fun _ => true) (fun _ => true) (fun _ _ => ctOf v) (fun _ _ => allN [] v) xp (nmS ps) (ctOf v).1 (ctOf v).2.1 (ctOf v).2.2.1 (ctOf v).2.2.2.1 (ctOf v).2.2.2.2.1 (ctOf v).2.2.2.2.2.1 (ctOf v).2.2.2.2.2.2.1 (ctOf v).2.2.2.2.2.2.2.1 (ctOf v).2.2.2.2.2.2.2.2 ms (-1)
      (ctOf (nest ps v)).1 (ctOf (nest ps v)).2.1 (ctOf (nest ps v)).2.2.1 (ctOf (nest ps v)).2.2.2.1 (ctOf (nest ps v)).2.2.2.2.1 (ctOf (nest ps v)).2.2.2.2.2.1 (ctOf (nest ps v)).2.2.2.2.2.2.1 (ctOf (nest ps v)).2.2.2.2.2.2.2.1 (ctOf (nest ps v)).2.2.2.2.2.2.2.2 (.bool true) [] := by
  have hm : (1000000 : Nat) ≤ maxLen := by decide
  have hlen : ((nmS ps).length : Int) > 0 := by
    rw [nmS_len]
    cases ps with
    | nil => exact absurd rfl h0
    | cons a b => simp <;> omega
  by_cases hk0 : (ctOf v).1 = 0
  · exact lpd_0_1 (by omega) hlen hk0
  have hvn := vs_nest ps hv hp
  have hbn : Bd (nest ps v) := by
    unfold Bd
    rw [cnt_nest]
    have := cnt_enc hv
    omega
  have cv := cells_of hv
  have cn := cells_of hvn
  have hk : kindOf v ≠ 0 := by rw [← ct_kind hv]; exact hk0
  have r1 := reach16 xp ps hvn hbn
  have a1 := all19 xp ps hvn hbn
  rw [reach_nest] at r1
  have r1 : Ret P T 16 [.agg (cellsT (ctOf (nest ps v))), .slice xp (nmS ps) none] [] (.agg (cellsT (ctOf v))) [] := by rw [cells_of hv, cells_of hvn]; exact r1
  rw [all_nest ps v (fun _ => hk)] at a1
  have s1 := same15 hv
  have hbv := bd_of hv hb
  have hal := all_vs [] hv
  have hall := all_max (ps := []) hv hbv
  -- the changed name
  have hl0 : (0 : Nat) + (nmS ps).length = ps.length := by rw [nmS_len]; omega
  have hw : IntKind.i64.wrap ms = ms := wrap_i64 ⟨by omega, by omega⟩
  obtain ⟨kn, hkn⟩ : ∃ kn : Nat, (IntKind.i64.wrap ms).tmod (((0 : Nat) + (nmS ps).length : Nat) : Int) = (kn : Int) ∧ kn < ps.length := by
    have h1 := Int.tmod_nonneg (b := (((0 : Nat) + (nmS ps).length : Nat) : Int)) (a := IntKind.i64.wrap ms) (by rw [hw]; omega)
    have h2 := Int.tmod_lt_of_pos (IntKind.i64.wrap ms) (b := (((0 : Nat) + (nmS ps).length : Nat) : Int)) (by rw [hl0]; rw [nmS_len] at hlen; omega)
    refine ⟨((IntKind.i64.wrap ms).tmod (((0 : Nat) + (nmS ps).length : Nat) : Int)).toNat, by omega, by rw [hl0] at h2 ⊢; omega⟩
  obtain ⟨hkn, hkl⟩ := hkn
  have hix : (0 : Nat) + ((IntKind.i64.wrap ms).tmod (((0 : Nat) + (nmS ps).length : Nat) : Int)).toNat = kn := by rw [hkn]; simp
  have hq : ps[kn]? = some ps[kn] := List.getElem?_eq_getElem hkl
  have hset : (nmS ps).set ((0 : Nat) + ((IntKind.i64.wrap ms).tmod (((0 : Nat) + (nmS ps).length : Nat) : Int)).toNat) [D.str (ps[kn] ++ xxB)] = nmS (ps.set kn (ps[kn] ++ xxB)) := by rw [hix, nmS_set]
  have l1 := lost16 ps hv hp (ps.set kn (ps[kn] ++ xxB)) 0 kn ps[kn] hq rfl
  have l2 := lost19 ps hv hp (ps.set kn (ps[kn] ++ xxB)) 0 kn ps[kn] hq rfl
  rw [← hset, ← hl0] at l1 l2
  have hfl := flat_nmS (ps.set kn (ps[kn] ++ xxB))
  rw [← hset] at hfl
  have hat : (nmS ps)[(0 : Nat) + ((IntKind.i64.wrap ms).tmod (((0 : Nat) + (nmS ps).length : Nat) : Int)).toNat]? = some [D.str ps[kn]] := by rw [hix]; exact nmS_at hq
  have hsz : ((ps[kn].size + 2 : Nat) : Int) ≤ 9223372036854775807 := by
    have := hp ps[kn] (List.getElem_mem hkl)
    omega
  have hrem : (0 : Int) ≤ (IntKind.i64.wrap ms).tmod (((0 : Nat) + (nmS ps).length : Nat) : Int) ∧ (IntKind.i64.wrap ms).tmod (((0 : Nat) + (nmS ps).length : Nat) : Int) < (((0 : Nat) + (nmS ps).length : Nat) : Int) := by
    rw [hkn, hl0]; omega
  have happ : (0 : Nat) = 0 ∧ 0 < 0 + (nmS ps).length ∧ 0 ≤ 0 ∧ (0 + (nmS ps).length) * 16 ≤ 140737488355328 ∧ (List.all (nmS ps) fun c => c.length == 1) = true := by
    rw [nmS_len] at hlen ⊢
    exact ⟨rfl, by omega, Nat.le_refl _, by omega, nmS_all ps⟩
  have hne : (((0 : Nat) + (nmS ps).length : Nat) : Int) ≠ 0 := by omega
  have hpos : (((0 : Nat) + (nmS ps).length : Nat) : Int) > 0 := by omega
  rw [← cv] at s1
  rw [← cn] at a1 l1 l2
  by_cases h7 : (ctOf v).1 = 7
  · have h7' : kindOf v = 7 := by rw [← ct_kind hv]; exact h7
    have hvl : Bd v := hbv
    obtain ⟨k, n, s, xb, eb, xf, ef, xl, el, rfl⟩ := hv.get
    have hel := bd_list (show Bd (valk.val 7 n s xb eb xf ef xl el) from (show k = 7 from h7') ▸ hvl)
    have e : allN [] (valk.val k n s xb eb xf ef xl el) = valk.val k n s xb eb xf ef xl el :: el := by rw [allN, if_pos h7']; rfl
    have s2 := same18t (1 + el.length) hal hall
    rw [e] at s2 a1 hal
    rw [e]
    exact lpd_0_2 (by omega) hlen hk0 h7 hpos rfl s2 s1 r1 rfl hfl l1 l2 hat hrem hsz hat hne happ ⟨rfl, by have := hel.1; show (1 + el.length) * 104 ≤ 140737488355328; omega, all6 (fun y hy => hal y (List.mem_cons_of_mem _ hy))⟩ a1
  · have h7' : ¬ kindOf v = 7 := by rw [← ct_kind hv]; exact h7
    have e : allN [] v = [v] := by rw [allN, if_neg h7']
    have s2 := same18t 1 hal hall
    rw [e] at s2 a1
    rw [e]
    rw [← cv] at s2
    obtain ⟨k, n, s, xb, eb, xf, ef, xl, el, rfl⟩ := hv.get
    exact lpd_0_4 (by omega) hlen hk0 h7 hpos rfl s2 s1 r1 rfl hfl l1 l2 hat hrem hsz hat hne happ a1
theorem loop5 (h0 : ps ≠ []) {v : Cs} (hv : VS v) (hb : (encV v).length ≤ 700000) : ∀ (i : Nat), i ≤ ps.length →
    lpd_at0 (fun _ => true) (fun _ => true) (fun _ _ => ctOf v) (fun _ _ => allN [] v) xp (nmS ps) (ctOf v).1 (ctOf v).2.1 (ctOf v).2.2.1 (ctOf v).2.2.2.1 (ctOf v).2.2.2.2.1 (ctOf v).2.2.2.2.2.1 (ctOf v).2.2.2.2.2.2.1 (ctOf v).2.2.2.2.2.2.2.1 (ctOf v).2.2.2.2.2.2.2.2 ms ((i : Int) - 1)
      (ctOf (nest (ps.drop i) v)).1 (ctOf (nest (ps.drop i) v)).2.1 (ctOf (nest (ps.drop i) v)).2.2.1 (ctOf (nest (ps.drop i) v)).2.2.2.1 (ctOf (nest (ps.drop i) v)).2.2.2.2.1 (ctOf (nest (ps.drop i) v)).2.2.2.2.2.1 (ctOf (nest (ps.drop i) v)).2.2.2.2.2.2.1 (ctOf (nest (ps.drop i) v)).2.2.2.2.2.2.2.1 (ctOf (nest (ps.drop i) v)).2.2.2.2.2.2.2.2 (.bool true) [] := by
  intro i
  induction i with
  | zero =>
    intro _
    exact end5 xp ps hp lp ms hms h0 hv hb
  | succ i ih =>
    intro hi
    have hlt : i < ps.length := by omega
    have g := ih (by omega)
    have e : ps.drop i = ps[i] :: ps.drop (i + 1) := List.drop_eq_getElem_cons hlt
    have hvn : VS (nest (ps.drop (i + 1)) v) := vs_nest _ hv (fun p h => hp p (List.mem_of_mem_drop h))
    have e2 : nest (ps.drop i) v = docC ps[i] (cellsT (ctOf (nest (ps.drop (i + 1)) v))) := by rw [e, nest, cells_of hvn]
    rw [e2] at g
    have w1 : IntKind.i64.wrap (((i + 1 : Nat) : Int) - 1 - 1) = (i : Int) - 1 := by
      rw [wrap_i64 ⟨by omega, by omega⟩]; omega
    have hsz := hp ps[i] (List.getElem_mem hlt)
    have hat : (nmS ps)[(((i + 1 : Nat) : Int) - 1).toNat]? = some [D.str ps[i]] := by
      rw [show (((i + 1 : Nat) : Int) - 1).toNat = i by omega]
      exact nmS_at (List.getElem?_eq_getElem hlt)
    rw [← w1] at g
    exact lpd_0_0 (by omega) (by omega) hat (by omega) hat g
end

/-- The law, of names that fit into a machine. -/
theorem law5 (xp : Bool) (ps : List ByteArray) (hs : ps.length ≤ 40 → sizes ps ≤ 4611686018427387904) (lp : ps.length ≤ maxLen) {v : Cs} (hv : VS v) (ms : Int) (hms : 0 ≤ ms ∧ ms ≤ 255) :
    Ret P T 5 [.slice xp (nmS ps) none, .agg v, .int .u8 ms] [] (.bool true) [] := by
  have hf := few14 xp ps lp
  obtain ⟨b, hb, hok⟩ := valid13 hv
  have cv := cells_of hv
  by_cases h0 : ps = []
  · subst h0
    have hfw : fewW [] = true := rfl
    rw [hfw] at hf
    cases b with
    | false =>
      obtain ⟨k, n, s, xb, eb, xf, ef, xl, el, rfl⟩ := hv.get
      exact lpe_in_1 (vd := fun _ => false) (fw := fun _ => true) (rV := fun _ _ => ctOf zeroV) (aV := fun _ _ => []) rfl rfl hb hf awake9
    | true =>
      have hbv := bd_of hv (hok rfl).2
      have r1 := reach16 xp [] hv hbv
      have a1 := all19 xp [] hv hbv
      have s1 := same15 hv
      have hal := all_vs [] hv
      have hall := all_max (ps := []) hv hbv
      have r1 : Ret P T 16 [.agg (cellsT (ctOf v)), .slice xp [] none] [] (.agg (cellsT (ctOf v))) [] := by rw [cv]; exact r1
      rw [← cv] at s1
      have a1 : Ret P T 19 [.agg (cellsT (ctOf v)), .slice xp [] none] [] (.slice true (allN [] v) none) [] := by rw [cv]; exact a1
      by_cases h7 : (ctOf v).1 = 7
      · have h7' : kindOf v = 7 := by rw [← ct_kind hv]; exact h7
        have hvl : Bd v := hbv
        obtain ⟨k, n, s, xb, eb, xf, ef, xl, el, rfl⟩ := hv.get
        have hel := bd_list (show Bd (valk.val 7 n s xb eb xf ef xl el) from (show k = 7 from h7') ▸ hvl)
        have e : allN [] (valk.val k n s xb eb xf ef xl el) = valk.val k n s xb eb xf ef xl el :: el := by rw [allN, if_pos h7']; rfl
        have s2 := same18t (1 + el.length) hal hall
        rw [e] at s2 a1 hal
        exact lpe_in_0 (vd := fun _ => true) (fw := fun _ => true) (rV := fun _ _ => ctOf (valk.val k n s xb eb xf ef xl el)) (aV := fun _ _ => valk.val k n s xb eb xf ef xl el :: el) rfl rfl hb hf awake9
          (lpe_0_1 (by omega) h7 s2 s1 r1 ⟨rfl, by have := hel.1; show (1 + el.length) * 104 ≤ 140737488355328; omega, all6 (fun y hy => hal y (List.mem_cons_of_mem _ hy))⟩ a1)
      · have h7' : ¬ kindOf v = 7 := by rw [← ct_kind hv]; exact h7
        have e : allN [] v = [v] := by rw [allN, if_neg h7']
        have s2 := same18t 1 hal hall
        rw [e] at s2 a1
        rw [← cv] at s2
        obtain ⟨k, n, s, xb, eb, xf, ef, xl, el, rfl⟩ := hv.get
        exact lpe_in_0 (vd := fun _ => true) (fw := fun _ => true) (rV := fun _ _ => ctOf (valk.val k n s xb eb xf ef xl el)) (aV := fun _ _ => [valk.val k n s xb eb xf ef xl el]) rfl rfl hb hf awake9
          (lpe_0_2 (by omega) h7 s2 s1 r1 a1)
  · cases hw : fewW ps with
    | false =>
      rw [hw] at hf
      obtain ⟨k, n, s, xb, eb, xf, ef, xl, el, rfl⟩ := hv.get
      exact lpd_in_3 (vd := fun _ => false) (fw := fun _ => false) (rV := fun _ _ => ctOf zeroV) (aV := fun _ _ => []) rfl hf awake9
    | true =>
      rw [hw] at hf
      have hfb := few_bd (hs (few_len hw)) hw
      by_cases h12 : ((nmS ps).length : Int) > 12
      · obtain ⟨k, n, s, xb, eb, xf, ef, xl, el, rfl⟩ := hv.get
        exact lpd_in_0 (vd := fun _ => false) (fw := fun _ => true) (rV := fun _ _ => ctOf zeroV) (aV := fun _ _ => []) rfl h12 hf awake9
      · cases b with
        | false =>
          obtain ⟨k, n, s, xb, eb, xf, ef, xl, el, rfl⟩ := hv.get
          exact lpd_in_2 (vd := fun _ => false) (fw := fun _ => true) (rV := fun _ _ => ctOf zeroV) (aV := fun _ _ => []) rfl h12 rfl hb hf awake9
        | true =>
          have hl : ps.length ≤ 12 := by rw [nmS_len] at h12; omega
          have g := loop5 xp ps (fun p h => Nat.le_trans (size_le h) hfb.2) hl ms hms h0 hv (hok rfl).2 ps.length (Nat.le_refl _)
          rw [List.drop_length, nest] at g
          have w1 : IntKind.i64.wrap (((nmS ps).length : Int) - 1) = (ps.length : Int) - 1 := by
            rw [nmS_len, wrap_i64 ⟨by omega, by omega⟩]
          rw [← w1] at g
          obtain ⟨k, n, s, xb, eb, xf, ef, xl, el, rfl⟩ := hv.get
          exact lpd_in_1 (vd := fun _ => true) (fw := fun _ => true) rfl h12 rfl hb hf awake9 g

end Go.Proofs.YtlccdfilbiipmaaDoor.ordk
