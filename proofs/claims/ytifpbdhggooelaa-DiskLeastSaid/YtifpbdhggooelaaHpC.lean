/- heap.Push and heap.Pop of the free numbers: what they come to. -/
import Derived.Test.YtifpbdhggooelaaHpL
namespace Go.Proofs.Ytifpbdhggooelaa.dsk
open Go Ytifpbdhggooelaa.GD
set_option linter.unusedVariables false
set_option linter.unusedSimpArgs false
set_option maxRecDepth 100000

def nE (l : List Int) : Es := l.map fun n => [D.int .i64 n]
theorem nE_len (l : List Int) : (nE l).length = l.length := by simp [nE]
theorem nE_app (a b : List Int) : nE (a ++ b) = nE a ++ nE b := by simp [nE]
theorem nE_flat (l : List Int) : FlatEs (nE l) := by
  intro c hc
  obtain ⟨p, _, rfl⟩ := List.mem_map.1 hc
  rfl
theorem nE_get {l : List Int} {i : Nat} (h : i < l.length) : (nE l)[i]? = some [D.int .i64 (gt l i)] := by
  unfold nE gt
  rw [List.getElem?_map, List.getD_eq_getElem?_getD, List.getElem?_eq_getElem h]
  rfl
theorem nE_set (l : List Int) (i : Nat) (v : Int) : (nE l).set i [D.int .i64 v] = nE (l.set i v) := by
  unfold nE; rw [List.map_set]
/-- The numbers of a row. -/
def nums : Es → List Int
  | [.int _ n] :: r => n :: nums r
  | _ :: r => 0 :: nums r
  | [] => []
theorem nums_nE : ∀ l, nums (nE l) = l
  | [] => rfl
  | a :: r => by show a :: nums (nE r) = _; rw [nums_nE r]
def lsE (e : Es) (i j : Int) : Bool := decide (gt (nums e) i.toNat < gt (nums e) j.toNat)
def swE (e : Es) (i j : Int) : Es := nE (swp (nums e) i.toNat j.toNat)

theorem less82 (l : List Int) (len i j : Nat) (hi : i < len) (hj : j < len) (hl : len ≤ l.length) : Ret P T 82 [.view 0 0 len, .int .i64 i, .int .i64 j] [some (.row 1 (nE l))] (.bool (lsE (nE l) i j)) [some (.row 1 (nE l))] := by
  have e := lss_in_0 (es := nE l) (len := len) (i := i) (j := j) (n1_3 := gt l i) (n1_7 := gt l j)
  simp only [Int.toNat_natCast, Nat.zero_add] at e
  have := e (nE_get (by omega)) (by omega) (nE_get (by omega)) (by omega)
  unfold lsE
  rw [nums_nE]
  exact this
theorem swap85 (l : List Int) (len i j : Nat) (hi : i < len) (hj : j < len) (hl : len ≤ l.length) : Ret P T 85 [.view 0 0 len, .int .i64 i, .int .i64 j] [some (.row 1 (nE l))] (.tuple []) [some (.row 1 (swE (nE l) i j))] := by
  have h1 : (l.set i (gt l j)).length = l.length := by simp
  have e := swp_in_0 (es := nE l) (len := len) (i := i) (j := j) (n0_7 := gt l j) (n0_11 := gt l i) (n0_13 := gt l i) (n0_15 := gt (l.set i (gt l j)) j)
  simp only [Int.toNat_natCast, Nat.zero_add, nE_set] at e
  have := e (nE_get (by omega)) (by omega) (nE_get (by omega)) (by omega) (nE_get (by omega)) (nE_get (by omega))
  unfold swE
  rw [nums_nE]
  exact this
theorem swE_nat (l : List Int) (i j : Nat) : swE (nE l) i j = nE (swp l i j) := by unfold swE; rw [nums_nE]; rfl
theorem lsE_nat (l : List Int) (i j : Nat) : lsE (nE l) i j = decide (gt l i < gt l j) := by unfold lsE; rw [nums_nE]; rfl

/-- The heap's variable and its numbers. -/
def hpO (len : Nat) (l : List Int) : GD.Heap := [some (.row 1 [[.view 1 0 len]]), some (.row 1 (nE l))]

theorem up_val (es : Es) (len : Nat) (j0 : Int) : ∀ (j : Nat) (l : List Int), j < len → len = l.length → len ≤ 1000000 → UP l len j →
    ∃ l', hup_at0 lsE swE es len j0 j (nE l) (.tuple []) (hpO len l') ∧ l'.Perm l ∧ HP l' len := by
  intro j
  induction j using Nat.strongRecOn with
  | _ j ih =>
  intro l hj hl hb hU
  by_cases h0 : j = 0
  · subst h0
    exact ⟨l, hup_0_0 (by decide), List.Perm.refl _, up_zero hU⟩
  have w1 : IntKind.i64.wrap ((j : Int) - (1 : Int)) = ((j - 1 : Nat) : Int) := by rw [wrap_i64 (by omega)]; omega
  have w2 : (((j - 1 : Nat) : Int)).tdiv (2 : Int) = (((j - 1) / 2 : Nat) : Int) := by rw [Int.tdiv_eq_ediv_of_nonneg (by omega)]; omega
  have w3 : IntKind.i64.wrap (IntKind.i64.wrap ((j : Int) - (1 : Int)) |>.tdiv (2 : Int)) = (((j - 1) / 2 : Nat) : Int) := by rw [w1, w2]; exact wrap_i64 (by omega)
  have hls := less82 l len j ((j - 1) / 2) hj (by omega) (by omega)
  by_cases hlt : gt l j < gt l ((j - 1) / 2)
  · obtain ⟨l', g, p1, p2⟩ := ih ((j - 1) / 2) (by omega) (swp l ((j - 1) / 2) j) (by omega) (by rw [swp_len]; exact hl) hb (up_step hU (by omega) (by omega) (by omega) hlt)
    have hsw := swap85 l len ((j - 1) / 2) j (by omega) hj (by omega)
    have hb1 : lsE (nE l) j (((j - 1) / 2 : Nat) : Int) = true := by rw [lsE_nat]; exact decide_eq_true hlt
    refine ⟨l', ?_, p1.trans (swp_perm (by omega) (by omega)), p2⟩
    have e := hup_0_1 (ls := lsE) (sw := swE) (es := es) (len := len) (j := j0) (n1 := j) (eh := nE l) (r := .tuple []) (H1 := hpO len l')
    simp only [w3] at e
    refine e (by omega) hb1 ?_ (nE_flat _) hsw hls ?_
    · rw [swE_nat]; exact nE_flat _
    · rw [swE_nat]; exact g
  · have hb1 : lsE (nE l) j (((j - 1) / 2 : Nat) : Int) = false := by rw [lsE_nat]; exact decide_eq_false hlt
    refine ⟨l, ?_, List.Perm.refl _, up_stop hU (by omega)⟩
    have e := hup_0_2 (ls := lsE) (sw := swE) (es := es) (len := len) (j := j0) (n1 := j) (eh := nE l)
    simp only [w3] at e
    exact e (by omega) hb1 (nE_flat _) hls
theorem up63 (l : List Int) (len j : Nat) (hj : j < len) (hl : len = l.length) (hb : len ≤ 1000000) (hU : UP l len j) :
    ∃ l', Ret P T 63 [.iface 84 (.ptr 0 0 0), .int .i64 j] (hpO len l) (.tuple []) (hpO len l') ∧ l'.Perm l ∧ HP l' len := by
  obtain ⟨l', g, p1, p2⟩ := up_val (nE l) len j j l hj hl hb hU
  exact ⟨l', hup_in_0 (nE_flat _) g, p1, p2⟩

theorem dn_val (es : Es) (len : Nat) (i0 : Int) (n : Nat) (hn : n ≤ len) (hb : len ≤ 1000000) : ∀ (q i : Nat) (l : List Int), i + q = n → i < n ∨ i = 0 → len ≤ l.length → DN l n i →
    ∃ b l', hdn_at0 lsE swE es len i0 n i (nE l) (.bool b) (hpO len l') ∧ l'.Perm l ∧ HP l' n ∧ l'.length = l.length ∧ ∀ k, n ≤ k → gt l' k = gt l k := by
  intro q
  induction q using Nat.strongRecOn with
  | _ q ih =>
  intro i l hi hin hl hD
  have hi2 : i ≤ 1000000 := by omega
  have w0 : IntKind.i64.wrap ((2 : Int) * (i : Int)) = (2 : Int) * (i : Int) := wrap_i64 (by omega)
  have w1 : IntKind.i64.wrap (IntKind.i64.wrap ((2 : Int) * (i : Int)) + (1 : Int)) = ((2 * i + 1 : Nat) : Int) := by
    rw [w0, wrap_i64 (by omega)]; omega
  have w2 : IntKind.i64.wrap (((2 * i + 1 : Nat) : Int) + (1 : Int)) = ((2 * i + 2 : Nat) : Int) := by
    rw [wrap_i64 (by omega)]; omega
  by_cases h1 : n ≤ 2 * i + 1
  · have e := hdn_0_0 (ls := lsE) (sw := swE) (es := es) (len := len) (i0 := i0) (n := n) (n7 := i) (eh := nE l)
    simp only [w1] at e
    exact ⟨_, l, e (by omega), List.Perm.refl _, dn_none hD h1, rfl, fun k _ => rfl⟩
  -- from i to a child j
  have go : ∀ j, (j = 2 * i + 1 ∨ j = 2 * i + 2) → j < n → gt l j < gt l i → (∀ k, 0 < k → k < n → (k - 1) / 2 = i → gt l j ≤ gt l k) →
      ∃ b l', hdn_at0 lsE swE es len i0 n j (nE (swp l i j)) (.bool b) (hpO len l') ∧ l'.Perm l ∧ HP l' n ∧ l'.length = l.length ∧ ∀ k, n ≤ k → gt l' k = gt l k := by
    intro j hj hjn hlt ho
    obtain ⟨b, l', g, p1, p2, p3, p4⟩ := ih (n - j) (by omega) j (swp l i j) (by omega) (.inl hjn) (by rw [swp_len]; exact hl) (dn_step hD (by omega) hj hjn hlt ho)
    refine ⟨b, l', g, p1.trans (swp_perm (by omega) (by omega)), p2, by rw [p3, swp_len], fun k hk => ?_⟩
    rw [p4 k hk, gt_swp (by omega) (by omega), if_neg (by omega), if_neg (by omega)]
  have hls1 := less82 l len (2 * i + 1) i (by omega) (by omega) hl
  by_cases h2 : 2 * i + 2 < n
  · have hls12 := less82 l len (2 * i + 2) (2 * i + 1) (by omega) (by omega) hl
    have hls2 := less82 l len (2 * i + 2) i (by omega) (by omega) hl
    by_cases h3 : gt l (2 * i + 2) < gt l (2 * i + 1)
    · have b3 : lsE (nE l) ((2 * i + 2 : Nat) : Int) ((2 * i + 1 : Nat) : Int) = true := by rw [lsE_nat]; exact decide_eq_true h3
      by_cases h4 : gt l (2 * i + 2) < gt l i
      · have b4 : lsE (nE l) ((2 * i + 2 : Nat) : Int) i = true := by rw [lsE_nat]; exact decide_eq_true h4
        obtain ⟨b, l', g, p⟩ := go (2 * i + 2) (.inr rfl) h2 h4 (fun k k1 k2 k3 => by
          by_cases e : k = 2 * i + 1
          · subst e; omega
          · have : k = 2 * i + 2 := by omega
            subst this; omega)
        refine ⟨b, l', ?_, p⟩
        have hsw := swap85 l len i (2 * i + 2) (by omega) (by omega) hl
        have e := hdn_0_2 (ls := lsE) (sw := swE) (es := es) (len := len) (i0 := i0) (n := n) (n7 := i) (eh := nE l) (r := .bool b) (H1 := hpO len l')
        simp only [w1, w2] at e
        exact e (by omega) (by omega) (by omega) b3 b4 (by rw [swE_nat]; exact nE_flat _) (nE_flat _) hsw hls2 hls12 (by rw [swE_nat]; exact g)
      · have b4 : lsE (nE l) ((2 * i + 2 : Nat) : Int) i = false := by rw [lsE_nat]; exact decide_eq_false h4
        have e := hdn_0_3 (ls := lsE) (sw := swE) (es := es) (len := len) (i0 := i0) (n := n) (n7 := i) (eh := nE l)
        simp only [w1, w2] at e
        exact ⟨_, l, e (by omega) (by omega) (by omega) b3 b4 (nE_flat _) hls2 hls12, List.Perm.refl _, dn_stop hD (by omega) (fun _ => by omega), rfl, fun k _ => rfl⟩
    · have b3 : lsE (nE l) ((2 * i + 2 : Nat) : Int) ((2 * i + 1 : Nat) : Int) = false := by rw [lsE_nat]; exact decide_eq_false h3
      by_cases h4 : gt l (2 * i + 1) < gt l i
      · have b4 : lsE (nE l) ((2 * i + 1 : Nat) : Int) i = true := by rw [lsE_nat]; exact decide_eq_true h4
        obtain ⟨b, l', g, p⟩ := go (2 * i + 1) (.inl rfl) (by omega) h4 (fun k k1 k2 k3 => by
          by_cases e : k = 2 * i + 1
          · subst e; omega
          · have : k = 2 * i + 2 := by omega
            subst this; omega)
        refine ⟨b, l', ?_, p⟩
        have hsw := swap85 l len i (2 * i + 1) (by omega) (by omega) hl
        have e := hdn_0_4 (ls := lsE) (sw := swE) (es := es) (len := len) (i0 := i0) (n := n) (n7 := i) (eh := nE l) (r := .bool b) (H1 := hpO len l')
        simp only [w1, w2] at e
        exact e (by omega) (by omega) (by omega) b3 b4 (by rw [swE_nat]; exact nE_flat _) (nE_flat _) hsw hls1 hls12 (by rw [swE_nat]; exact g)
      · have b4 : lsE (nE l) ((2 * i + 1 : Nat) : Int) i = false := by rw [lsE_nat]; exact decide_eq_false h4
        have e := hdn_0_5 (ls := lsE) (sw := swE) (es := es) (len := len) (i0 := i0) (n := n) (n7 := i) (eh := nE l)
        simp only [w1, w2] at e
        exact ⟨_, l, e (by omega) (by omega) (by omega) b3 b4 (nE_flat _) hls1 hls12, List.Perm.refl _, dn_stop hD (by omega) (fun _ => by omega), rfl, fun k _ => rfl⟩
  · by_cases h4 : gt l (2 * i + 1) < gt l i
    · have b4 : lsE (nE l) ((2 * i + 1 : Nat) : Int) i = true := by rw [lsE_nat]; exact decide_eq_true h4
      obtain ⟨b, l', g, p⟩ := go (2 * i + 1) (.inl rfl) (by omega) h4 (fun k k1 k2 k3 => by
        have : k = 2 * i + 1 := by omega
        subst this; omega)
      refine ⟨b, l', ?_, p⟩
      have hsw := swap85 l len i (2 * i + 1) (by omega) (by omega) hl
      have e := hdn_0_6 (ls := lsE) (sw := swE) (es := es) (len := len) (i0 := i0) (n := n) (n7 := i) (eh := nE l) (r := .bool b) (H1 := hpO len l')
      simp only [w1, w2] at e
      exact e (by omega) (by omega) (by omega) b4 (by rw [swE_nat]; exact nE_flat _) (nE_flat _) hsw hls1 (by rw [swE_nat]; exact g)
    · have b4 : lsE (nE l) ((2 * i + 1 : Nat) : Int) i = false := by rw [lsE_nat]; exact decide_eq_false h4
      have e := hdn_0_7 (ls := lsE) (sw := swE) (es := es) (len := len) (i0 := i0) (n := n) (n7 := i) (eh := nE l)
      simp only [w1, w2] at e
      exact ⟨_, l, e (by omega) (by omega) (by omega) b4 (nE_flat _) hls1, List.Perm.refl _, dn_stop hD (by omega) (fun _ => by omega), rfl, fun k _ => rfl⟩

/-- What heap.Push leaves. -/
def pushed (len : Nat) (l : List Int) : GD.Heap := [some (.row 1 [[.view 9 0 len]]), some .dead, none, none, none, none, none, none, some (.tok 1 1), some (.row 1 (nE l))]
/-- heap.Push: 'l' is the heap, 'r' what may lie behind it. -/
theorem push60 (l r : List Int) (x : Int) (hh : HP l l.length) (hb : l.length < 1000000) :
    ∃ l', Ret P T 60 [.iface 84 (.ptr 0 0 0), .iface 3 (.int .i64 x)] (hpO l.length (l ++ r)) (.tuple []) (pushed (l.length + 1) l') ∧ l'.Perm (l ++ [x]) ∧ HP l' (l.length + 1) := by
  have e1 : (nE (l ++ r)).take l.length ++ [[D.int .i64 x]] = nE (l ++ [x]) := by
    rw [nE_app, List.take_left' (nE_len l), nE_app]; rfl
  have hp := psh_in_0 (es := nE (l ++ r)) (len := l.length) (x := x) ⟨rfl, by omega, by rw [nE_len]; simp, by omega, rfl⟩
  rw [e1] at hp
  obtain ⟨l', g, p1, p2⟩ := up63 (l ++ [x]) (l.length + 1) l.length (by omega) (by simp) (by omega) (up_of hh)
  have w1 : IntKind.i64.wrap (((l.length + 1 : Nat) : Int) - (1 : Int)) = (l.length : Int) := by rw [wrap_i64 (by omega)]; omega
  have e := hps_in_0 (e1 := nE (l ++ [x])) (e2 := nE l') (v := 0) (bd := true) (es := nE (l ++ r)) (len := l.length) (x := x)
  simp only [w1] at e
  exact ⟨l', e (nE_flat _) (nE_flat _) g (nE_flat _) hp, p1, p2⟩

theorem nums_split {l : List Int} {n : Nat} (h : l.length = n + 1) : ∃ m, l = m ++ [gt l n] ∧ m.length = n := by
  refine ⟨l.take n, ?_, by rw [List.length_take]; omega⟩
  have h1 : l.take (n + 1) = l.take n ++ [gt l n] := by
    rw [List.take_add_one]
    unfold gt
    rw [List.getD_eq_getElem?_getD, List.getElem?_eq_getElem (by omega)]
    rfl
  rw [List.take_of_length_le (by omega)] at h1
  exact h1
/-- heap.Pop: the least is handed back; what is left is a heap. -/
theorem pop57 (l r : List Int) (hh : HP l l.length) (h0 : 0 < l.length) (hb : l.length < 1000000) :
    ∃ m, Ret P T 57 [.iface 84 (.ptr 0 0 0)] (hpO l.length (l ++ r)) (.iface 3 (.int .i64 (gt l 0))) (hpO m.length (m ++ gt l 0 :: r)) ∧ (m ++ [gt l 0]).Perm l ∧ HP m m.length ∧ m.length + 1 = l.length := by
  have w1 : IntKind.i64.wrap ((l.length : Int) - (1 : Int)) = ((l.length - 1 : Nat) : Int) := by rw [wrap_i64 (by omega)]; omega
  have hlr : (l ++ r).length = l.length + r.length := by simp
  have hsw := swap85 (l ++ r) l.length 0 (l.length - 1) h0 (by omega) (by omega)
  rw [swE_nat] at hsw
  have e1 : swp (l ++ r) 0 (l.length - 1) = swp l 0 (l.length - 1) ++ r := by
    unfold swp
    rw [gt_app (by omega), gt_app (by omega), List.set_append_left _ _ (by omega), List.set_append_left _ _ (by simp; omega)]
  rw [e1] at hsw
  -- down
  have hD : DN (swp l 0 (l.length - 1) ++ r) (l.length - 1) 0 := by
    have hd := dn_of hh h0
    have hlen := swp_len l 0 (l.length - 1)
    constructor
    · intro k k1 k2 k3
      rw [gt_app (by omega), gt_app (by omega)]
      exact hd.1 k k1 k2 k3
    · intro k k1 k2 k3 k4
      omega
  have hlen := swp_len l 0 (l.length - 1)
  obtain ⟨b, l', g, p1, p2, p3, p4⟩ := dn_val (nE (swp l 0 (l.length - 1) ++ r)) l.length 0 (l.length - 1) (by omega) (by omega) (l.length - 1) 0 (swp l 0 (l.length - 1) ++ r) (by omega) (.inr rfl) (by simp; omega) hD
  have hl'len : l'.length = l.length + r.length := by rw [p3]; simp; omega
  obtain ⟨m, c, em, hm⟩ : ∃ m c, l' = m ++ c ∧ m.length = l.length - 1 := ⟨l'.take (l.length - 1), l'.drop (l.length - 1), (List.take_append_drop ..).symm, by rw [List.length_take]; omega⟩
  -- what is behind stays
  have hc : c = gt l 0 :: r := by
    apply List.ext_getElem?
    intro k
    have hk := p4 (l.length - 1 + k) (by omega)
    have hcl : c.length = r.length + 1 := by
      have := congrArg List.length em
      rw [List.length_append] at this
      omega
    by_cases hkl : k < c.length
    · have h1 : gt l' (l.length - 1 + k) = c[k] := by
        unfold gt
        rw [em, List.getD_eq_getElem?_getD, List.getElem?_append_right (by omega), hm, show l.length - 1 + k - (l.length - 1) = k by omega, List.getElem?_eq_getElem hkl]
        rfl
      rw [List.getElem?_eq_getElem hkl, ← h1, hk]
      cases k with
      | zero =>
        rw [gt_app (by omega), Nat.add_zero, gt_swp (by omega) (by omega), if_pos rfl]
        rfl
      | succ k =>
        have hkr : k < r.length := by omega
        unfold gt
        rw [List.getD_eq_getElem?_getD, List.getElem?_append_right (by omega), hlen, show l.length - 1 + (k + 1) - l.length = k by omega, List.getElem?_eq_getElem hkr, List.getElem?_cons_succ, List.getElem?_eq_getElem hkr]
        rfl
    · rw [List.getElem?_eq_none (by omega), List.getElem?_eq_none (by simp; omega)]
  have hmp : (m ++ [gt l 0]).Perm l := by
    have q1 : (m ++ gt l 0 :: r).Perm (swp l 0 (l.length - 1) ++ r) := by rw [← hc, ← em]; exact p1
    have q2 : (m ++ [gt l 0] ++ r).Perm (swp l 0 (l.length - 1) ++ r) := by rw [List.append_assoc]; exact q1
    exact ((List.perm_append_right_iff r).1 q2).trans (swp_perm (by omega) (by omega))
  have hH : HP m m.length := by
    intro i i1 i2
    have := p2 i i1 (by omega)
    rw [em, gt_app (by omega), gt_app (by omega)] at this
    exact this
  have hg61 : Ret P T 61 [.iface 84 (.ptr 0 0 0), .int .i64 (0 : Int), .int .i64 ((l.length - 1 : Nat) : Int)] (hpO l.length (swp l 0 (l.length - 1) ++ r)) (.bool b) (hpO l.length l') := hdn_in_0 (nE_flat _) g
  have hv : gt l' (l.length - 1) = gt l 0 := by
    rw [p4 _ (Nat.le_refl _), gt_app (by omega), gt_swp (by omega) (by omega), if_pos rfl]
  have hpop : Ret P T 83 [.ptr 0 0 0] (hpO l.length l') (.iface 3 (.int .i64 (gt l 0))) (hpO (l.length - 1) l') := by
    have e := pop_in_0 (es := nE l') (len := l.length) (n2_5 := gt l 0)
    simp only [w1, Int.toNat_natCast, Nat.zero_add] at e
    have := e ⟨by omega, by omega, by rw [nE_len]; omega⟩ (by rw [← hv]; exact nE_get (by omega)) (by omega)
    have e2 : (((l.length - 1 : Nat) : Int) - 0).toNat = l.length - 1 := by omega
    rw [e2] at this
    exact this
  have e := hpp_in_0 (e1 := nE (swp l 0 (l.length - 1) ++ r)) (e2 := nE l') (v := gt l 0) (bd := b) (es := nE (l ++ r)) (len := l.length)
  simp only [w1] at e
  refine ⟨m, ?_, hmp, hH, by omega⟩
  have := e (nE_flat _) hpop (nE_flat _) hg61 (nE_flat _) hsw
  rw [hm, ← hc, ← em]
  exact this

end Go.Proofs.Ytifpbdhggooelaa.dsk
