/- The law DiskLeast hands back true. -/
import Derived.Test.YtifpbdhggooelaaHpE
import Derived.Test.YtifpbdhggooelaaHpF
import Derived.Test.YtifpbdhggooelaaHpG
namespace Go.Proofs.Ytifpbdhggooelaa.dsk
open Go Ytifpbdhggooelaa.GD
set_option linter.unusedVariables false
set_option linter.unusedSimpArgs false
set_option maxRecDepth 100000

/-! ### what heap.Push and heap.Pop leave, by what they are handed -/
noncomputable def feF (e : Es) (ln : Nat) (x : Int) : Es := Classical.epsilon fun e2 => ∃ l', e2 = nE l' ∧
  Ret P T 60 [.iface 84 (.ptr 0 0 0), .iface 3 (.int .i64 x)] [some (.row 1 [[.view 1 0 ln]]), some (.row 1 e)] (.tuple []) (pushed (ln + 1) l') ∧ l'.Perm ((nums e).take ln ++ [x]) ∧ HP l' (ln + 1)
def pvF (e : Es) (ln : Nat) : Int := gt (nums e) 0
noncomputable def peF (e : Es) (ln : Nat) : Es := Classical.epsilon fun e2 => ∃ m, e2 = nE (m ++ gt (nums e) 0 :: (nums e).drop ln) ∧
  Ret P T 57 [.iface 84 (.ptr 0 0 0)] [some (.row 1 [[.view 1 0 ln]]), some (.row 1 e)] (.iface 3 (.int .i64 (gt (nums e) 0))) [some (.row 1 [[.view 1 0 (ln - 1)]]), some (.row 1 e2)] ∧ (m ++ [gt (nums e) 0]).Perm ((nums e).take ln) ∧ HP m m.length ∧ m.length + 1 = ln

theorem feF_spec (l r : List Int) (x : Int) (hh : HP l l.length) (hb : l.length < 1000000) : ∃ l', feF (nE (l ++ r)) l.length x = nE l' ∧
    Ret P T 60 [.iface 84 (.ptr 0 0 0), .iface 3 (.int .i64 x)] [some (.row 1 [[.view 1 0 l.length]]), some (.row 1 (nE (l ++ r)))] (.tuple []) (pushed (l.length + 1) l') ∧ l'.Perm (l ++ [x]) ∧ HP l' (l.length + 1) := by
  obtain ⟨l', g, p1, p2⟩ := push60 l r x hh hb
  have ht : (nums (nE (l ++ r))).take l.length = l := by rw [nums_nE, List.take_left' rfl]
  have := Classical.epsilon_spec (p := fun e2 => ∃ l', e2 = nE l' ∧
    Ret P T 60 [.iface 84 (.ptr 0 0 0), .iface 3 (.int .i64 x)] [some (.row 1 [[.view 1 0 l.length]]), some (.row 1 (nE (l ++ r)))] (.tuple []) (pushed (l.length + 1) l') ∧ l'.Perm ((nums (nE (l ++ r))).take l.length ++ [x]) ∧ HP l' (l.length + 1))
    ⟨nE l', l', rfl, g, by rw [ht]; exact p1, p2⟩
  obtain ⟨l2, q1, q2, q3, q4⟩ := this
  exact ⟨l2, q1, q2, by rw [ht] at q3; exact q3, q4⟩
theorem pvF_eq (l r : List Int) (h0 : 0 < l.length) : pvF (nE (l ++ r)) l.length = gt l 0 := by unfold pvF; rw [nums_nE, gt_app h0]
theorem peF_spec (l r : List Int) (hh : HP l l.length) (h0 : 0 < l.length) (hb : l.length < 1000000) : ∃ m, peF (nE (l ++ r)) l.length = nE (m ++ gt l 0 :: r) ∧
    Ret P T 57 [.iface 84 (.ptr 0 0 0)] [some (.row 1 [[.view 1 0 l.length]]), some (.row 1 (nE (l ++ r)))] (.iface 3 (.int .i64 (gt l 0))) [some (.row 1 [[.view 1 0 (l.length - 1)]]), some (.row 1 (nE (m ++ gt l 0 :: r)))] ∧ (m ++ [gt l 0]).Perm l ∧ HP m m.length ∧ m.length + 1 = l.length := by
  obtain ⟨m, g, p1, p2, p3⟩ := pop57 l r hh h0 hb
  have ht : (nums (nE (l ++ r))).take l.length = l := by rw [nums_nE, List.take_left' rfl]
  have hd : (nums (nE (l ++ r))).drop l.length = r := by rw [nums_nE, List.drop_left' rfl]
  have hg : gt (nums (nE (l ++ r))) 0 = gt l 0 := by rw [nums_nE, gt_app h0]
  have em : m.length = l.length - 1 := by omega
  have g' : Ret P T 57 [.iface 84 (.ptr 0 0 0)] [some (.row 1 [[.view 1 0 l.length]]), some (.row 1 (nE (l ++ r)))] (.iface 3 (.int .i64 (gt l 0))) [some (.row 1 [[.view 1 0 (l.length - 1)]]), some (.row 1 (nE (m ++ gt l 0 :: r)))] := by
    rw [← em]; exact g
  have := Classical.epsilon_spec (p := fun e2 => ∃ m, e2 = nE (m ++ gt (nums (nE (l ++ r))) 0 :: (nums (nE (l ++ r))).drop l.length) ∧
    Ret P T 57 [.iface 84 (.ptr 0 0 0)] [some (.row 1 [[.view 1 0 l.length]]), some (.row 1 (nE (l ++ r)))] (.iface 3 (.int .i64 (gt (nums (nE (l ++ r))) 0))) [some (.row 1 [[.view 1 0 (l.length - 1)]]), some (.row 1 e2)] ∧ (m ++ [gt (nums (nE (l ++ r))) 0]).Perm ((nums (nE (l ++ r))).take l.length) ∧ HP m m.length ∧ m.length + 1 = l.length)
    ⟨nE (m ++ gt l 0 :: r), m, by rw [hg, hd], by rw [hg]; exact g', by rw [hg, ht]; exact p1, p2, p3⟩
  obtain ⟨m2, q1, q2, q3, q4, q5⟩ := this
  have q1' : peF (nE (l ++ r)) l.length = nE (m2 ++ gt l 0 :: r) := Eq.trans q1 (by rw [hg, hd])
  refine ⟨m2, q1', ?_, by rw [hg, ht] at q3; exact q3, q4, q5⟩
  rw [q1, hg, hd] at q2
  exact q2

/-! ### which numbers are in use, as the law keeps them -/
def usE (n : Nat) (ks : List Int) : Es := (List.range n).map fun (j : Nat) => [D.bool (decide ((j : Int) ∈ ks))]
theorem usE_len (n : Nat) (ks : List Int) : (usE n ks).length = n := by simp [usE]
theorem usE_get {n : Nat} {ks : List Int} {j : Nat} (h : j < n) : (usE n ks)[j]? = some [D.bool (decide ((j : Int) ∈ ks))] := by
  unfold usE
  rw [List.getElem?_map, List.getElem?_range h]
  rfl
theorem usE_set {n : Nat} {ks ks' : List Int} {k : Nat} {b : Bool} (h : k < n) (h1 : ∀ j : Nat, j ≠ k → ((j : Int) ∈ ks ↔ (j : Int) ∈ ks')) (h2 : decide ((k : Int) ∈ ks') = b) : (usE n ks).set k [D.bool b] = usE n ks' := by
  apply List.ext_getElem?
  intro j
  by_cases hj : j < n
  · rw [usE_get hj, List.getElem?_set]
    by_cases e : k = j
    · subst e
      rw [if_pos rfl, if_pos (by rw [usE_len]; exact hj), ← h2]
    · rw [if_neg e, usE_get hj]
      have := h1 j (fun h => e h.symm)
      rw [decide_eq_decide.2 this]
  · rw [List.getElem?_eq_none (by rw [List.length_set, usE_len]; omega), List.getElem?_eq_none (by rw [usE_len]; omega)]
theorem usE_flat (n : Nat) (ks : List Int) : FlatEs (usE n ks) := by
  intro c hc
  obtain ⟨j, _, rfl⟩ := List.mem_map.1 hc
  rfl
theorem usE_start (n : Nat) : List.replicate n [D.bool false] = usE n [] := by
  apply List.ext_getElem?
  intro j
  by_cases hj : j < n
  · rw [usE_get hj, List.getElem?_replicate, if_pos hj]
    simp
  · rw [List.getElem?_eq_none (by simp; omega), List.getElem?_eq_none (by rw [usE_len]; omega)]
theorem flat_z : FlatEs z64 := by
  intro c hc
  rw [List.eq_of_mem_replicate hc]; rfl
def z9 : Es := z64.set 9 [.int .u8 9]
theorem flat_z9 : FlatEs z9 := by
  intro c hc
  rcases List.mem_or_eq_of_mem_set hc with h | h
  · exact flat_z c h
  · subst h; rfl
theorem andOne : ∀ b : Fin 256, IntKind.i64.wrap ((b.val : Int).fdiv ((2 : Int) ^ (1 : Nat))) = ((b.val / 2 : Nat) : Int) := by decide +kernel

theorem eb0 : @eb_at0 = @ea_at0 := rfl
theorem ec0 : @ec_at0 = @ea_at0 := rfl
theorem ed0 : @ed_at0 = @ea_at0 := rfl
theorem eb1 : @eb_at1 = @ea_at1 := rfl
theorem ec1 : @ec_at1 = @ea_at1 := rfl

theorem andB : ∀ b : Fin 256, andW IntKind.u8 (b.val : Int) (1 : Int) = (1 : Int) ∨ andW IntKind.u8 (b.val : Int) (1 : Int) ≠ (1 : Int) := fun b => Classical.em _

/-- From the head of the loop over what is asked: true is handed back. -/
theorem least_val (xl : Bool) (el : Es) (hel : ∀ i : Nat, i < el.length → ∃ b : Nat, b < 256 ∧ el[i]? = some [D.int .u8 (b : Int)]) (hlen : el.length ≤ 100) (mo n : Nat) (hN : IntKind.i64.wrap ((1 : Int) + (IntKind.i64.wrap (mo : Int)).tmod (12 : Int)) = (n : Int)) :
    ∀ (q i : Nat), i + q = el.length → ∀ (hi : Nat) (ks l r : List Int) (op wr sn : Int), Inv n hi ks l →
      ea_at0 peF pvF feF (mo : Int) xl el n i hi op wr sn ks l.length (nE (l ++ r)) (usE n ks) (.bool true) [] := by
  intro q
  induction q with
  | zero =>
    intro i hi0 hi ks l r op wr sn hI
    exact ea_0_2 (by omega)
  | succ q ih =>
    intro i hi0 hi ks l r op wr sn hI
    obtain ⟨b, hb, hbe⟩ := hel i (by omega)
    have hn1 := hI.n1
    have hn12 := hI.n12
    have hhn := hI.hn
    have hll := hI.llen
    have hfd := andOne ⟨b, hb⟩
    simp only at hfd
    have hk : (IntKind.i64.wrap ((b : Int).fdiv ((2 : Int) ^ (1 : Nat)))).tmod (n : Int) = (((b / 2) % n : Nat) : Int) := by
      rw [hfd]; exact (Int.ofNat_tmod _ _).symm
    have hkn : (b / 2) % n < n := Nat.mod_lt _ (by omega)
    generalize hkk : (b / 2) % n = k at *
    have wi : IntKind.i64.wrap ((i : Int) + (1 : Int)) = ((i + 1 : Nat) : Int) := by rw [wrap_i64 (by omega)]; omega
    have hus := usE_get (ks := ks) hkn
    by_cases h1 : andW IntKind.u8 (b : Int) (1 : Int) = (1 : Int)
    · by_cases hkk : (k : Int) ∈ ks
      · -- a number that is in use is given back
        obtain ⟨l', q1, q2, q3, q4⟩ := feF_spec l r (k : Int) hI.hp (by omega)
        have hI' := hI.free hkk q3 q4
        have hl' : l'.length = l.length + 1 := by rw [q3.length_eq]; simp
        have g := ih (i + 1) (by omega) hi (delK ks k) l' [] (IntKind.i64.wrap (op + 1)) wr (IntKind.i64.wrap (sn + 1)) hI'
        rw [List.append_nil, hl', ← wi, ← q1] at g
        have hset : (usE n ks).set k [D.bool false] = usE n (delK ks k) := usE_set hkn (fun j hj => by
          rw [delK_erase hkk, hI.kd.mem_erase_iff]
          exact ⟨fun h => ⟨by omega, h⟩, fun h => h.2⟩) (decide_eq_false (fun h => by
          rw [delK_erase hkk, hI.kd.mem_erase_iff] at h
          exact h.1 rfl))
        rw [← hset] at g
        have hfin : FlatEs (feF (nE (l ++ r)) l.length (k : Int)) := by rw [q1]; exact nE_flat _
        have hr : Ret P T 45 [.ptr 0 0 0, .int .i64 (k : Int)] (d0 (n : Int) hi op wr sn ks l.length (nE (l ++ r))) (.int .i64 0) (frP (n : Int) hi op wr sn ks l.length (feF (nE (l ++ r)) l.length (k : Int)) (k : Int)) :=
          free45 (nE_flat _) hfin (fun h => (find_none.1 h) hkk) (by rw [q1]; exact q2)
        have hus' : (usE n ks)[k]? = some [D.bool true] := by rw [hus, decide_eq_true hkk]
        have e := ea_0_0 (pe := peF) (pv := pvF) (fe := feF) (mo := (mo : Int)) (xl := xl) (el := el) (n5 := n) (n9 := i) (nh := hi) (nh_1 := op) (nh_2 := wr) (nh_3 := sn) (ksh := ks) (kh := l.length) (eh := nE (l ++ r)) (eh_1 := usE n ks) (n13_2 := b) (n14_2 := b) (b15_7 := true) (b17_3 := true) (r := .bool true) (H1 := [])
        simp only [hN, hk, Int.toNat_natCast, Nat.zero_add] at e
        exact e (by omega) h1 trivial hfin (by rw [hset]; exact usE_flat _ _) hus' ⟨by omega, by omega⟩ hus' (nE_flat _) hr (by omega) hbe (by omega) hbe g
      · -- a number that is not in use
        have g := ih (i + 1) (by omega) hi ks l r (IntKind.i64.wrap (op + 1)) wr (IntKind.i64.wrap (sn + 1)) hI
        have hset : (usE n ks).set k [D.bool false] = usE n ks := usE_set hkn (fun j hj => Iff.rfl) (decide_eq_false hkk)
        have hr : Ret P T 45 [.ptr 0 0 0, .int .i64 (k : Int)] (d0 (n : Int) hi op wr sn ks l.length (nE (l ++ r))) (.int .i64 20) (d0 (n : Int) hi (IntKind.i64.wrap (op + 1)) wr (IntKind.i64.wrap (sn + 1)) ks l.length (nE (l ++ r))) :=
          none45 (nE_flat _) (find_none.2 hkk)
        have hus' : (usE n ks)[k]? = some [D.bool false] := by rw [hus, decide_eq_false hkk]
        rw [← wi] at g
        have g2 := g
        rw [← hset] at g2
        rw [← ed0] at g2 ⊢
        have e := ed_0_0 (pe := peF) (pv := pvF) (fe := feF) (mo := (mo : Int)) (xl := xl) (el := el) (n5 := n) (n9 := i) (nh := hi) (nh_1 := op) (nh_2 := wr) (nh_3 := sn) (ksh := ks) (kh := l.length) (eh := nE (l ++ r)) (eh_1 := usE n ks) (n13_2 := b) (n14_2 := b) (b15_7 := false) (b17_3 := false) (r := .bool true) (H1 := [])
        simp only [hN, hk, Int.toNat_natCast, Nat.zero_add] at e
        exact e (by omega) h1 trivial (nE_flat _) (by rw [hset]; exact usE_flat _ _) hus' ⟨by omega, by omega⟩ hus' hr (by omega) hbe (by omega) hbe g2
    · -- a number is asked for
      have want : ∀ (p w : Nat), w + p = n → (∀ j : Nat, j < w → (j : Int) ∈ ks) →
          ea_at1 peF pvF feF (mo : Int) xl el n i w hi op wr sn ks l.length (nE (l ++ r)) (usE n ks) (.bool true) [] := by
        intro p
        induction p with
        | zero =>
          intro w hw hall
          have hw' : w = n := by omega
          subst hw'
          have g := ih (i + 1) (by omega) hi ks l r (IntKind.i64.wrap (op + 1)) wr (IntKind.i64.wrap (sn + 1)) hI
          rw [← wi] at g
          have hfl := hI.full.1 hall
          have hr : Ret P T 38 [.ptr 0 0 0] (d0 (w : Int) hi op wr sn ks l.length (nE (l ++ r))) (.tuple [.int .i64 0, .int .i64 17]) (d0 (w : Int) hi (IntKind.i64.wrap (op + 1)) wr (IntKind.i64.wrap (sn + 1)) ks l.length (nE (l ++ r))) :=
            full38 (nE_flat _) (by omega)
          have e := ea_1_2 (pe := peF) (pv := pvF) (fe := feF) (mo := (mo : Int)) (xl := xl) (el := el) (n5 := w) (n9 := i) (n11 := w) (nh := hi) (nh_1 := op) (nh_2 := wr) (nh_3 := sn) (ksh := ks) (kh := l.length) (eh := nE (l ++ r)) (eh_1 := usE w ks) (r := .bool true) (H1 := [])
          simp only [hN] at e
          exact e (by omega) trivial (nE_flat _) (usE_flat _ _) hr g
        | succ p ihp =>
          intro w hw hall
          have husw := usE_get (ks := ks) (show w < n by omega)
          have ww : IntKind.i64.wrap ((w : Int) + (1 : Int)) = ((w + 1 : Nat) : Int) := by rw [wrap_i64 (by omega)]; omega
          by_cases hwk : (w : Int) ∈ ks
          · have g := ihp (w + 1) (by omega) (fun j hj => by
              by_cases e : j = w
              · subst e; exact hwk
              · exact hall j (by omega))
            rw [← ww] at g
            have hus' : (usE n ks)[w]? = some [D.bool true] := by rw [husw, decide_eq_true hwk]
            have e := ea_1_0 (pe := peF) (pv := pvF) (fe := feF) (mo := (mo : Int)) (xl := xl) (el := el) (n5 := n) (n9 := i) (n11 := w) (nh := hi) (nh_1 := op) (nh_2 := wr) (nh_3 := sn) (ksh := ks) (kh := l.length) (eh := nE (l ++ r)) (eh_1 := usE n ks) (b19_7 := true) (r := .bool true) (H1 := [])
            simp only [hN, Int.toNat_natCast, Nat.zero_add] at e
            exact e (by omega) trivial (nE_flat _) (usE_flat _ _) hus' ⟨by omega, by omega⟩ g
          · have hus' : (usE n ks)[w]? = some [D.bool false] := by rw [husw, decide_eq_false hwk]
            have hnf : ¬ ((ks.length : Int) ≥ (n : Int)) := fun h => hwk (hI.full.2 (by omega) w (by omega))
            have hset : (usE n ks).set w [D.bool true] = usE n (ks ++ [(w : Int)]) := usE_set (by omega) (fun j hj => by
              rw [List.mem_append, List.mem_singleton]
              exact ⟨fun h => .inl h, fun h => h.elim id (fun h => absurd h (by omega))⟩) (by simp)
            have hfs : FlatEs ((usE n ks).set w [D.bool true]) := by rw [hset]; exact usE_flat _ _
            by_cases h0 : 0 < l.length
            · obtain ⟨m, q1, q2, q3, q4, q5⟩ := peF_spec l r hI.hp h0 (by omega)
              have htop := hI.top h0 hall hwk
              have hI' := hI.pop h0 q3 q4
              have hpv := pvF_eq l r h0
              rw [htop] at q1 q2 q3 hI' hpv
              have g := ih (i + 1) (by omega) hi (ks ++ [(w : Int)]) m ((w : Int) :: r) (IntKind.i64.wrap (IntKind.i64.wrap (op + 1) + 1)) (IntKind.i64.wrap (wr + 1)) (IntKind.i64.wrap (IntKind.i64.wrap (sn + 1) + 1)) hI'
              rw [← wi, ← hset, ← q1] at g
              have hml : m.length = l.length - 1 := by omega
              rw [hml] at g
              have hfin : FlatEs (peF (nE (l ++ r)) l.length) := by rw [q1]; exact nE_flat _
              have hkn : findI ks (w : Int) 0 = none := find_none.2 hwk
              have hr : Ret P T 38 [.ptr 0 0 0] (d0 (n : Int) hi op wr sn ks l.length (nE (l ++ r))) (.tuple [.int .i64 (w : Int), .int .i64 0]) (alP (n : Int) hi op wr sn ks w (l.length - 1) (peF (nE (l ++ r)) l.length)) :=
                pop38 (nE_flat _) hfin hnf (by omega) hkn (by rw [q1]; exact q2)
              have hlk := look42 (most := (n : Int)) (hi := hi) (op := IntKind.i64.wrap (op + 1)) (wr := wr) (sn := IntKind.i64.wrap (sn + 1)) (len := l.length - 1) hfin hkn
              have hwr := write39 (most := (n : Int)) (hi := hi) (op := IntKind.i64.wrap (op + 1)) (wr := wr) (sn := IntKind.i64.wrap (sn + 1)) (len := l.length - 1) hfin hkn flat_z9 rfl rfl
              rw [← ec0] at g
              rw [← ec1]
              have e := ec_1_1 (pe := peF) (pv := pvF) (fe := feF) (mo := (mo : Int)) (xl := xl) (el := el) (n5 := n) (n9 := i) (n11 := w) (nh := hi) (nh_1 := op) (nh_2 := wr) (nh_3 := sn) (ksh := ks) (kh := l.length) (eh := nE (l ++ r)) (eh_1 := usE n ks) (b19_7 := false) (b28_3 := false) (r := .bool true) (H1 := [])
              simp only [hN, hpv, Int.toNat_natCast, Nat.zero_add] at e
              exact e (by omega) trivial (by omega) trivial hfin hfs flat_z flat_z9 hwr hus' ⟨by omega, by omega⟩ hlk (nE_flat _) hr hus' ⟨by omega, by omega⟩ g
            · have hnx := hI.next (by omega) hall hwk
              subst hnx
              have hI' := hI.high (by omega) (by omega)
              have whi : IntKind.i64.wrap ((hi : Int) + (1 : Int)) = ((hi + 1 : Nat) : Int) := by rw [wrap_i64 (by omega)]; omega
              have g := ih (i + 1) (by omega) (hi + 1) (ks ++ [(hi : Int)]) l r (IntKind.i64.wrap (IntKind.i64.wrap (op + 1) + 1)) (IntKind.i64.wrap (wr + 1)) (IntKind.i64.wrap (IntKind.i64.wrap (sn + 1) + 1)) hI'
              rw [← wi, ← hset, ← whi] at g
              have hkn : findI ks (hi : Int) 0 = none := find_none.2 hwk
              have hr : Ret P T 38 [.ptr 0 0 0] (d0 (n : Int) hi op wr sn ks l.length (nE (l ++ r))) (.tuple [.int .i64 (hi : Int), .int .i64 0]) (alP (n : Int) (IntKind.i64.wrap ((hi : Int) + 1)) op wr sn ks hi l.length (nE (l ++ r))) :=
                high38 (nE_flat _) hnf (by omega) hkn
              have hlk := look42 (most := (n : Int)) (hi := IntKind.i64.wrap ((hi : Int) + 1)) (op := IntKind.i64.wrap (op + 1)) (wr := wr) (sn := IntKind.i64.wrap (sn + 1)) (len := l.length) (es := nE (l ++ r)) (nE_flat _) hkn
              have hwr := write39 (most := (n : Int)) (hi := IntKind.i64.wrap ((hi : Int) + 1)) (op := IntKind.i64.wrap (op + 1)) (wr := wr) (sn := IntKind.i64.wrap (sn + 1)) (len := l.length) (es := nE (l ++ r)) (nE_flat _) hkn flat_z9 rfl rfl
              rw [← eb0] at g
              rw [← eb1]
              have e := eb_1_1 (pe := peF) (pv := pvF) (fe := feF) (mo := (mo : Int)) (xl := xl) (el := el) (n5 := n) (n9 := i) (n11 := hi) (nh := hi) (nh_1 := op) (nh_2 := wr) (nh_3 := sn) (ksh := ks) (kh := l.length) (eh := nE (l ++ r)) (eh_1 := usE n ks) (b19_7 := false) (b28_3 := false) (r := .bool true) (H1 := [])
              simp only [hN, Int.toNat_natCast, Nat.zero_add] at e
              exact e (by omega) trivial (by omega) trivial (nE_flat _) hfs flat_z flat_z9 hwr hus' ⟨by omega, by omega⟩ hlk hr hus' ⟨by omega, by omega⟩ g
      have g := want n 0 (by omega) (fun j hj => by omega)
      have e := ea_0_1 (pe := peF) (pv := pvF) (fe := feF) (mo := (mo : Int)) (xl := xl) (el := el) (n5 := n) (n9 := i) (nh := hi) (nh_1 := op) (nh_2 := wr) (nh_3 := sn) (ksh := ks) (kh := l.length) (eh := nE (l ++ r)) (eh_1 := usE n ks) (n13_2 := b) (n14_2 := b) (r := .bool true) (H1 := [])
      simp only [Int.toNat_natCast] at e
      exact e (by omega) h1 (nE_flat _) (usE_flat _ _) (by omega) hbe (by omega) hbe g

/-- The law DiskLeast. -/
theorem law14 (mo : Nat) (hmo : mo < 256) (xl : Bool) (el : Es) (hel : ∀ i : Nat, i < el.length → ∃ b : Nat, b < 256 ∧ el[i]? = some [D.int .u8 (b : Int)]) :
    Ret P T 14 [.int .u8 (mo : Int), .slice xl el none] [] (.bool true) [] := by
  by_cases h : (el.length : Int) > 100
  · exact ea_in_0 (pe := peF) (pv := pvF) (fe := feF) h awake36
  · have hN : IntKind.i64.wrap ((1 : Int) + (IntKind.i64.wrap (mo : Int)).tmod (12 : Int)) = ((1 + mo % 12 : Nat) : Int) := by
      have w1 : IntKind.i64.wrap (mo : Int) = (mo : Int) := wrap_i64 (by omega)
      have w2 : (mo : Int).tmod (12 : Int) = ((mo % 12 : Nat) : Int) := (Int.ofNat_tmod _ _).symm
      rw [w1, w2, wrap_i64 (by omega)]
      omega
    have hn : 1 + mo % 12 ≤ 12 := by omega
    generalize hnn : 1 + mo % 12 = n at *
    have g := least_val xl el hel (by omega) mo n hN el.length 0 (by omega) 0 [] [] [] 0 0 0 (Inv.start (by omega) hn)
    rw [← usE_start] at g
    have e := ea_in_1 (pe := peF) (pv := pvF) (fe := feF) (mo := (mo : Int)) (xl := xl) (el := el) (r := .bool true) (H1 := [])
    simp only [hN, Int.toNat_natCast] at e
    have hfl : FlatEs (List.replicate n [D.bool false]) := by rw [usE_start]; exact usE_flat _ _
    exact e (by omega) (nE_flat []) hfl ⟨by omega, by omega, by omega, by omega⟩ (new37 _ (by omega) (by omega)) awake36 g

end Go.Proofs.Ytifpbdhggooelaa.dsk
