/- The order of values is one: its law, in plain terms. -/
import Derived.Test.YtlccdfilbiipmaaKvB
namespace Go.Proofs.Ytlccdfilbiipmaa.ordk
open Go Ytlccdfilbiipmaa.GD valk
set_option linter.unusedVariables false
set_option linter.unusedSimpArgs false
set_option maxRecDepth 100000

/-! ### three answers -/
def Q (x y z : Int) : Prop := (x ≤ 0 → y ≤ 0 → z ≤ 0 ∧ (z = 0 → x = 0 ∧ y = 0)) ∧ (x = 0 → y = 0 → z = 0)
def R3 (x : Int) : Prop := x = -1 ∨ x = 0 ∨ x = 1
theorem Q.lx {p q r p' q' r' : Int} (h : Q p q r) (h' : p = 0 → q = 0 → Q p' q' r') : Q (lx p p') (lx q q') (lx r r') := by
  unfold Q ordk.lx at *
  by_cases hp : p = 0
  · by_cases hq : q = 0
    · have hr : r = 0 := h.2 hp hq
      have := h' hp hq
      rw [if_neg (by simpa using hp), if_neg (by simpa using hq), if_neg (by simpa using hr)]
      exact this
    · rw [if_neg (by simpa using hp), if_pos hq]
      refine ⟨fun h1 h2 => ?_, fun h1 h2 => absurd h2 hq⟩
      have h3 := h.1 (by omega) h2
      have hr : r ≠ 0 := fun e => hq (h3.2 e).2
      rw [if_pos hr]
      exact ⟨h3.1, fun e => absurd e hr⟩
  · rw [if_pos hp]
    by_cases hq : q = 0
    · rw [if_neg (by simpa using hq)]
      refine ⟨fun h1 h2 => ?_, fun h1 h2 => absurd h1 hp⟩
      have h3 := h.1 h1 (by omega)
      have hr : r ≠ 0 := fun e => hp (h3.2 e).1
      rw [if_pos hr]
      exact ⟨h3.1, fun e => absurd e hr⟩
    · rw [if_pos hq]
      refine ⟨fun h1 h2 => ?_, fun h1 h2 => absurd h1 hp⟩
      have h3 := h.1 h1 h2
      have hr : r ≠ 0 := fun e => hp (h3.2 e).1
      rw [if_pos hr]
      exact ⟨h3.1, fun e => absurd e hr⟩
theorem R3.lx {p q : Int} (h : R3 p) (h' : R3 q) : R3 (lx p q) := by
  unfold ordk.lx; split
  · exact h
  · exact h'
theorem neg_lx {p q p' q' : Int} (h : p' = -p) (h' : p = 0 → q' = -q) : lx p' q' = -lx p q := by
  unfold lx
  by_cases hp : p = 0
  · rw [if_neg (by omega), if_neg (by omega)]; exact h' hp
  · rw [if_pos (by omega), if_pos hp]; exact h

theorem sgn_Q (a b c : Int) : Q (sgnU a b) (sgnU b c) (sgnU a c) := by
  unfold Q sgnU
  constructor
  · intro h1 h2
    split at h1 <;> split at h2 <;> split <;> (try split at h1) <;> (try split at h2) <;> (try split) <;> (try (simp_all; done)) <;> omega
  · intro h1 h2
    split at h1 <;> split at h2 <;> split <;> (try split at h1) <;> (try split at h2) <;> (try split) <;> (try (simp_all; done)) <;> omega
theorem sgn_R (a b : Int) : R3 (sgnU a b) := by unfold R3 sgnU; split <;> (try split) <;> simp
theorem sgn_neg (a b : Int) : sgnU b a = -sgnU a b := by
  unfold sgnU
  split <;> split <;> (try split) <;> (try split) <;> (try rfl) <;> omega
theorem sgn_zero {a b : Int} (h : sgnU a b = 0) : a = b := by
  unfold sgnU at h
  split at h
  · cases h
  · split at h
    · cases h
    · omega
theorem sgn_self (a : Int) : sgnU a a = 0 := by unfold sgnU; rw [if_neg (by omega), if_neg (by omega)]

/-! ### bytes -/
theorem cb_R (x y : List UInt8) : R3 (Lib.compareBytes x y) := lex_range x y
theorem u8_cases (a b : UInt8) : a < b ∧ ¬ b < a ∨ b < a ∧ ¬ a < b ∨ a = b ∧ ¬ a < b := by
  rcases Nat.lt_trichotomy a.toNat b.toNat with h | h | h
  · exact .inl ⟨UInt8.lt_iff_toNat_lt.2 h, fun h' => by have := UInt8.lt_iff_toNat_lt.1 h'; omega⟩
  · have e := UInt8.toNat_inj.1 h
    subst e
    exact .inr (.inr ⟨rfl, UInt8.lt_irrefl a⟩)
  · exact .inr (.inl ⟨UInt8.lt_iff_toNat_lt.2 h, fun h' => by have := UInt8.lt_iff_toNat_lt.1 h'; omega⟩)
/-- One byte. -/
def cb1 (a b : UInt8) : Int := sgnU a.toNat b.toNat
theorem cb_cons (a b : UInt8) (x y : List UInt8) : Lib.compareBytes (a :: x) (b :: y) = lx (cb1 a b) (Lib.compareBytes x y) := by
  rw [show Lib.compareBytes (a :: x) (b :: y) = if a < b then -1 else if b < a then 1 else Lib.compareBytes x y from rfl]
  rcases u8_cases a b with ⟨h1, h2⟩ | ⟨h1, h2⟩ | ⟨h1, h2⟩
  · have := UInt8.lt_iff_toNat_lt.1 h1
    have e : cb1 a b = -1 := by unfold cb1 sgnU; rw [if_pos (by omega)]
    rw [if_pos h1, e]; rfl
  · have := UInt8.lt_iff_toNat_lt.1 h1
    have e : cb1 a b = 1 := by unfold cb1 sgnU; rw [if_neg (by omega), if_pos (by omega)]
    rw [if_neg h2, if_pos h1, e]; rfl
  · subst h1
    have e : cb1 a a = 0 := sgn_self _
    rw [if_neg h2, if_neg h2, e]; rfl
theorem cb_Q : ∀ x y z : List UInt8, Q (Lib.compareBytes x y) (Lib.compareBytes y z) (Lib.compareBytes x z)
  | [], [], [] => by simp [Q, Lib.compareBytes]
  | [], [], _ :: _ => by simp [Q, Lib.compareBytes]
  | [], _ :: _, [] => by simp [Q, Lib.compareBytes]
  | [], _ :: _, _ :: _ => by
    refine ⟨fun _ _ => ⟨by simp [Lib.compareBytes], fun h => by simp [Lib.compareBytes] at h⟩, fun h => by simp [Lib.compareBytes] at h⟩
  | _ :: _, [], _ => by simp [Q, Lib.compareBytes]
  | _ :: _, _ :: _, [] => by
    refine ⟨fun _ h => by simp [Lib.compareBytes] at h, fun _ h => by simp [Lib.compareBytes] at h⟩
  | a :: x, b :: y, c :: z => by
    rw [cb_cons, cb_cons, cb_cons]
    exact (sgn_Q _ _ _).lx fun _ _ => cb_Q x y z
theorem cb_neg : ∀ x y : List UInt8, Lib.compareBytes y x = -Lib.compareBytes x y
  | [], [] => rfl
  | [], _ :: _ => rfl
  | _ :: _, [] => rfl
  | a :: x, b :: y => by
    rw [cb_cons, cb_cons]
    exact neg_lx (sgn_neg _ _) fun _ => cb_neg x y

/-! ### values -/
def bodyV (k n : Int) (s : ByteArray) (eb ef el : Es) (n' : Int) (s' : ByteArray) (eb' ef' el' : Es) : Int :=
  if k = 3 ∨ k = 4 ∨ k = 10 ∨ k = 11 then sgnU n n' else if k = 5 then lexB s s' else if k = 6 then cmpFs ef ef' else if k = 7 then cmpLs el el'
    else if k = 8 then lx (sgnU eb.length eb'.length) (cbE eb eb') else if k = 9 then cbE eb eb' else 0
theorem cmpV_eq (k n : Int) (s : ByteArray) (xb : Bool) (eb : Es) (xf : Bool) (ef : Es) (xl : Bool) (el : Es) (k' n' : Int) (s' : ByteArray) (xb' : Bool) (eb' : Es) (xf' : Bool) (ef' : Es) (xl' : Bool) (el' : Es) :
    cmpV (valk.val k n s xb eb xf ef xl el) (valk.val k' n' s' xb' eb' xf' ef' xl' el') = lx (sgnU (classU k) (classU k')) (bodyV k n s eb ef el n' s' eb' ef' el') := by
  unfold valk.val bodyV
  rw [cmpV]
/-- Kinds of one class are compared in one way. -/
theorem class_same {k k' : Int} (h : classU k = classU k') : (k = 3 ∨ k = 4 ∨ k = 10 ∨ k = 11) = (k' = 3 ∨ k' = 4 ∨ k' = 10 ∨ k' = 11) ∧ (k = 5) = (k' = 5) ∧ (k = 6) = (k' = 6) ∧ (k = 7) = (k' = 7) ∧ (k = 8) = (k' = 8) ∧ (k = 9) = (k' = 9) := by
  unfold classU at h
  refine ⟨propext ⟨fun hh => ?_, fun hh => ?_⟩, propext ⟨fun hh => ?_, fun hh => ?_⟩, propext ⟨fun hh => ?_, fun hh => ?_⟩, propext ⟨fun hh => ?_, fun hh => ?_⟩, propext ⟨fun hh => ?_, fun hh => ?_⟩, propext ⟨fun hh => ?_, fun hh => ?_⟩⟩
  all_goals (split at h <;> split at h <;> (try split at h) <;> (try split at h) <;> (try split at h) <;> (try split at h) <;> omega)
theorem body_kind {k k' : Int} (h : classU k = classU k') (n : Int) (s : ByteArray) (eb ef el : Es) (n' : Int) (s' : ByteArray) (eb' ef' el' : Es) :
    bodyV k n s eb ef el n' s' eb' ef' el' = bodyV k' n s eb ef el n' s' eb' ef' el' := by
  obtain ⟨h1, h2, h3, h4, h5, h6⟩ := class_same h
  unfold bodyV
  simp only [h1, h2, h3, h4, h5, h6]

theorem ls_Q : ∀ (a b c : Es), (∀ x ∈ a, ∀ y ∈ b, ∀ z ∈ c, Q (cmpV x y) (cmpV y z) (cmpV x z)) → Q (cmpLs a b) (cmpLs b c) (cmpLs a c)
  | [], [], [], _ => by simp [Q, cmpLs]
  | [], [], _ :: _, _ => by simp [Q, cmpLs]
  | [], _ :: _, [], _ => by simp [Q, cmpLs]
  | [], _ :: _, _ :: _, _ => ⟨fun _ _ => ⟨by simp [cmpLs], fun h => by simp [cmpLs] at h⟩, fun h => by simp [cmpLs] at h⟩
  | _ :: _, [], _, _ => ⟨fun h => by simp [cmpLs] at h, fun h => by simp [cmpLs] at h⟩
  | _ :: _, _ :: _, [], _ => ⟨fun _ h => by simp [cmpLs] at h, fun _ h => by simp [cmpLs] at h⟩
  | x :: a, y :: b, z :: c, h => by
    simp only [cmpLs]
    exact (h x (by simp) y (by simp) z (by simp)).lx fun _ _ => ls_Q a b c (fun x hx y hy z hz => h x (by simp [hx]) y (by simp [hy]) z (by simp [hz]))
theorem fs_Q : ∀ (a b c : Es), (∀ x ∈ a, ∀ y ∈ b, ∀ z ∈ c, Q (cmpF x y) (cmpF y z) (cmpF x z)) → Q (cmpFs a b) (cmpFs b c) (cmpFs a c)
  | [], [], [], _ => by simp [Q, cmpFs]
  | [], [], _ :: _, _ => by simp [Q, cmpFs]
  | [], _ :: _, [], _ => by simp [Q, cmpFs]
  | [], _ :: _, _ :: _, _ => ⟨fun _ _ => ⟨by simp [cmpFs], fun h => by simp [cmpFs] at h⟩, fun h => by simp [cmpFs] at h⟩
  | _ :: _, [], _, _ => ⟨fun h => by simp [cmpFs] at h, fun h => by simp [cmpFs] at h⟩
  | _ :: _, _ :: _, [], _ => ⟨fun _ h => by simp [cmpFs] at h, fun _ h => by simp [cmpFs] at h⟩
  | x :: a, y :: b, z :: c, h => by
    simp only [cmpFs]
    exact (h x (by simp) y (by simp) z (by simp)).lx fun _ _ => fs_Q a b c (fun x hx y hy z hz => h x (by simp [hx]) y (by simp [hy]) z (by simp [hz]))
theorem cmpF_eq (nm nm' : ByteArray) (a b : Cs) : cmpF (.str nm :: a) (.str nm' :: b) = lx (sgnU (classU (kindOf a)) (classU (kindOf b))) (lx (lexB nm nm') (cmpV a b)) := by rw [cmpF]

/-- It is one order. -/
theorem cmp_Q {a : Cs} (ha : VS a) : ∀ {b c : Cs}, VS b → VS c → Q (cmpV a b) (cmpV b c) (cmpV a c) := by
  induction ha with
  | mk k n s xb eb xf ef xl el bs hk hn hs hb hb' lb lf ll nb nf nl hf hfv hl ihf ihl =>
    intro b c hvb hvc
    cases hvb with
    | mk k' n' s' xb' eb' xf' ef' xl' el' bs' hk' hn' hs' hb1 hb1' lb' lf' ll' nb' nf' nl' hf' hfv' hl' =>
      cases hvc with
      | mk k2 n2 s2 xb2 eb2 xf2 ef2 xl2 el2 bs2 hk2 hn2 hs2 hb2 hb2' lb2 lf2 ll2 nb2 nf2 nl2 hf2 hfv2 hl2 =>
        rw [cmpV_eq, cmpV_eq, cmpV_eq]
        refine (sgn_Q _ _ _).lx fun h1 h2 => ?_
        rw [← body_kind (sgn_zero h1)]
        unfold bodyV
        split
        · exact sgn_Q _ _ _
        · split
          · exact cb_Q _ _ _
          · split
            · refine fs_Q _ _ _ fun x hx y hy z hz => ?_
              obtain ⟨nx, cx, rfl, _⟩ := hf x hx
              obtain ⟨ny, cy, rfl, _⟩ := hf' y hy
              obtain ⟨nz, cz, rfl, _⟩ := hf2 z hz
              rw [cmpF_eq, cmpF_eq, cmpF_eq]
              exact (sgn_Q _ _ _).lx fun _ _ => (cb_Q _ _ _).lx fun _ _ => ihf nx cx hx (hfv' ny cy hy) (hfv2 nz cz hz)
            · split
              · exact ls_Q _ _ _ fun x hx y hy z hz => ihl x hx (hl' y hy) (hl2 z hz)
              · split
                · exact (sgn_Q _ _ _).lx fun _ _ => cb_Q _ _ _
                · split
                  · exact cb_Q _ _ _
                  · simp [Q]

theorem ls_R : ∀ (a b : Es), (∀ x ∈ a, ∀ y ∈ b, R3 (cmpV x y) ∧ cmpV y x = -cmpV x y) → R3 (cmpLs a b) ∧ cmpLs b a = -cmpLs a b
  | [], [], _ => by simp [cmpLs, R3]
  | [], _ :: _, _ => by simp [cmpLs, R3]
  | _ :: _, [], _ => by simp [cmpLs, R3]
  | x :: a, y :: b, h => by
    obtain ⟨h1, h2⟩ := h x (by simp) y (by simp)
    obtain ⟨h3, h4⟩ := ls_R a b (fun x hx y hy => h x (by simp [hx]) y (by simp [hy]))
    simp only [cmpLs]
    exact ⟨h1.lx h3, neg_lx h2 fun _ => h4⟩
theorem fs_R : ∀ (a b : Es), (∀ x ∈ a, ∀ y ∈ b, R3 (cmpF x y) ∧ cmpF y x = -cmpF x y) → R3 (cmpFs a b) ∧ cmpFs b a = -cmpFs a b
  | [], [], _ => by simp [cmpFs, R3]
  | [], _ :: _, _ => by simp [cmpFs, R3]
  | _ :: _, [], _ => by simp [cmpFs, R3]
  | x :: a, y :: b, h => by
    obtain ⟨h1, h2⟩ := h x (by simp) y (by simp)
    obtain ⟨h3, h4⟩ := fs_R a b (fun x hx y hy => h x (by simp [hx]) y (by simp [hy]))
    simp only [cmpFs]
    exact ⟨h1.lx h3, neg_lx h2 fun _ => h4⟩

/-- Three answers; turned round it is the other one. -/
theorem cmp_R {a : Cs} (ha : VS a) : ∀ {b : Cs}, VS b → R3 (cmpV a b) ∧ cmpV b a = -cmpV a b := by
  induction ha with
  | mk k n s xb eb xf ef xl el bs hk hn hs hb hb' lb lf ll nb nf nl hf hfv hl ihf ihl =>
    intro b hvb
    cases hvb with
    | mk k' n' s' xb' eb' xf' ef' xl' el' bs' hk' hn' hs' hb1 hb1' lb' lf' ll' nb' nf' nl' hf' hfv' hl' =>
      have hF := fs_R ef ef' (fun x hx y hy => by
        obtain ⟨nx, cx, rfl, _⟩ := hf x hx
        obtain ⟨ny, cy, rfl, _⟩ := hf' y hy
        obtain ⟨g1, g2⟩ := ihf nx cx hx (hfv' ny cy hy)
        rw [cmpF_eq, cmpF_eq]
        exact ⟨(sgn_R _ _).lx (R3.lx (cb_R _ _) g1), neg_lx (sgn_neg _ _) fun _ => neg_lx (cb_neg _ _) fun _ => g2⟩)
      have hL := ls_R el el' (fun x hx y hy => ihl x hx (hl' y hy))
      have hB : R3 (bodyV k n s eb ef el n' s' eb' ef' el') := by
        unfold bodyV
        split
        · exact sgn_R _ _
        · split
          · exact cb_R _ _
          · split
            · exact hF.1
            · split
              · exact hL.1
              · split
                · exact (sgn_R _ _).lx (cb_R _ _)
                · split
                  · exact cb_R _ _
                  · simp [R3]
      rw [cmpV_eq, cmpV_eq]
      refine ⟨(sgn_R _ _).lx hB, neg_lx (sgn_neg _ _) fun h => ?_⟩
      rw [← body_kind (sgn_zero h)]
      unfold bodyV
      split
      · exact sgn_neg _ _
      · split
        · exact cb_neg _ _
        · split
          · exact hF.2
          · split
            · exact hL.2
            · split
              · exact neg_lx (sgn_neg _ _) fun _ => cb_neg _ _
              · split
                · exact cb_neg _ _
                · rfl

end Go.Proofs.Ytlccdfilbiipmaa.ordk
