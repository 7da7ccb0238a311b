/- Keys stand in the order of what they are keys of. -/
import Derived.Test.YtlccdfilbiipmaaKvD
import Derived.Test.YtlccdfilbiipmaaKvR
import Derived.Test.YtlccdfilbiipmaaKvP
namespace Go.Proofs.Ytlccdfilbiipmaa.ordk
open Go Ytlccdfilbiipmaa.GD valk
set_option linter.unusedVariables false
set_option linter.unusedSimpArgs false
set_option maxRecDepth 100000

/-- Two rows of bytes. -/
def lexI : List Int → List Int → Int
  | [], [] => 0
  | [], _ :: _ => -1
  | _ :: _, [] => 1
  | x :: a, y :: b => lx (sgnU x y) (lexI a b)

/-- Bytes, as they are or turned round. -/
def Mono (f : Int → Int) (σ : Int) : Prop := (σ = 1 ∨ σ = -1) ∧ ∀ x y, 0 ≤ x ∧ x ≤ 255 → 0 ≤ y ∧ y ≤ 255 → sgnU (f x) (f y) = σ * sgnU x y
/-- Whatever is behind two codes, they decide, by c. -/
def Cod (a b : List Int) (c : Int) : Prop := ∀ f σ, Mono f σ → ∀ R S, lexI (a.map f ++ R) (b.map f ++ S) = lx (σ * c) (lexI R S)

theorem cod_nil : Cod [] [] 0 := fun f σ _ R S => by simp [lx]
theorem cod_one {x y : Int} (hx : 0 ≤ x ∧ x ≤ 255) (hy : 0 ≤ y ∧ y ≤ 255) : Cod [x] [y] (sgnU x y) := fun f σ h R S => by
  simp only [List.map_cons, List.map_nil, List.cons_append, List.nil_append, lexI]
  rw [h.2 x y hx hy]
theorem cod_app {a b a' b' : List Int} {c c' : Int} (h : Cod a b c) (h' : c = 0 → Cod a' b' c') : Cod (a ++ a') (b ++ b') (lx c c') := fun f σ hm R S => by
  rw [List.map_append, List.map_append, List.append_assoc, List.append_assoc, h f σ hm]
  by_cases hc : c = 0
  · rw [h' hc f σ hm]
    subst hc
    simp [lx]
  · have : σ * c ≠ 0 := by rcases hm.1 with h | h <;> (subst h; omega)
    have e : lx c c' = c := lx_pos hc
    rw [e, lx_pos this, lx_pos this]
theorem cod_cons {x y : Int} {a b : List Int} {c : Int} (hx : 0 ≤ x ∧ x ≤ 255) (hy : 0 ≤ y ∧ y ≤ 255) (h : x = y → Cod a b c) : Cod (x :: a) (y :: b) (lx (sgnU x y) c) :=
  cod_app (a := [x]) (b := [y]) (cod_one hx hy) (fun e => h (sgn_zero e))
theorem cod_lt {x y : Int} {a b : List Int} (hx : 0 ≤ x ∧ x ≤ 255) (hy : 0 ≤ y ∧ y ≤ 255) (h : x < y) : Cod (x :: a) (y :: b) (-1) := by
  have := cod_cons (a := a) (b := b) (c := 0) hx hy (fun e => by omega)
  rwa [sgn_lt h] at this
theorem cod_gt {x y : Int} {a b : List Int} (hx : 0 ≤ x ∧ x ≤ 255) (hy : 0 ≤ y ∧ y ≤ 255) (h : y < x) : Cod (x :: a) (y :: b) 1 := by
  have := cod_cons (a := a) (b := b) (c := 0) hx hy (fun e => by omega)
  rwa [sgn_gt h] at this
theorem cod_same {x : Int} {a b : List Int} {c : Int} (hx : 0 ≤ x ∧ x ≤ 255) (h : Cod a b c) : Cod (x :: a) (x :: b) c := by
  have := cod_cons hx hx (fun _ => h)
  rw [sgn_self] at this
  simpa [lx] using this

theorem sgn_digits {a b r q M : Int} (hr : 0 ≤ r ∧ r < M) (hq : 0 ≤ q ∧ q < M) : sgnU (a * M + r) (b * M + q) = lx (sgnU a b) (sgnU r q) := by
  rcases Int.lt_trichotomy a b with h | h | h
  · have h1 : (a + 1) * M ≤ b * M := Int.mul_le_mul_of_nonneg_right (by omega) (by omega)
    rw [Int.add_mul] at h1
    rw [sgn_lt h, sgn_lt (by omega)]; rfl
  · subst h
    rw [sgn_self, lx_zero rfl]
    unfold sgnU
    have e1 : (a * M + r < a * M + q) = (r < q) := by apply propext; omega
    have e2 : (a * M + r > a * M + q) = (r > q) := by apply propext; omega
    simp only [e1, e2]
  · have h1 : (b + 1) * M ≤ a * M := Int.mul_le_mul_of_nonneg_right (by omega) (by omega)
    rw [Int.add_mul] at h1
    rw [sgn_gt h, sgn_gt (by omega)]; rfl
theorem mod_parts {M : Int} (hM : 0 < M) (z : Int) : z % (M * 256) = (z / M % 256) * M + z % M := by
  have e1 := Int.mul_ediv_add_emod z M
  have e2 := Int.mul_ediv_add_emod (z / M) 256
  have h0 : z = ((z / M % 256) * M + z % M) + (M * 256) * (z / M / 256) := by
    have e3 : M * (256 * (z / M / 256) + z / M % 256) + z % M = z := by rw [e2]; exact e1
    rw [Int.mul_add, ← Int.mul_assoc, Int.mul_comm M (z / M % 256)] at e3
    omega
  have h1 : 0 ≤ z / M % 256 ∧ z / M % 256 < 256 := by omega
  have h2 : 0 ≤ z % M ∧ z % M < M := ⟨Int.emod_nonneg _ (by omega), Int.emod_lt_of_pos _ hM⟩
  have h3 : 0 ≤ (z / M % 256) * M := Int.mul_nonneg h1.1 (by omega)
  have h4 : (z / M % 256 + 1) * M ≤ 256 * M := Int.mul_le_mul_of_nonneg_right (by omega) (by omega)
  rw [Int.add_mul] at h4
  have h5 := congrArg (fun x => x % (M * 256)) h0
  rw [h5, Int.add_mul_emod_self_left]
  exact Int.emod_eq_of_lt (by omega) (by omega)
theorem cod_be : ∀ (k : Nat) (x y : Int), Cod (be k x) (be k y) (sgnU (x % 256 ^ k) (y % 256 ^ k))
  | 0, x, y => by
    have e : ∀ z : Int, z % 256 ^ 0 = 0 := fun z => by simp
    rw [e, e, sgn_self]
    exact cod_nil
  | k + 1, x, y => by
    have hM : (0 : Int) < 256 ^ k := Int.pow_pos (by decide)
    have hd : ∀ z : Int, z % 256 ^ (k + 1) = (z / 256 ^ k % 256) * 256 ^ k + z % 256 ^ k := by
      intro z
      rw [Int.pow_succ]
      exact mod_parts hM z
    rw [hd, hd, sgn_digits ⟨Int.emod_nonneg _ (by omega), Int.emod_lt_of_pos _ hM⟩ ⟨Int.emod_nonneg _ (by omega), Int.emod_lt_of_pos _ hM⟩]
    exact cod_app (a := [x / 256 ^ k % 256]) (b := [y / 256 ^ k % 256]) (cod_one (by omega) (by omega)) (fun _ => cod_be k x y)
theorem u8_byte (c : UInt8) : 0 ≤ (c.toNat : Int) ∧ (c.toNat : Int) ≤ 255 := by have := c.toNat_lt; omega
theorem u8_pos {c : UInt8} (h : c ≠ 0) : 0 < (c.toNat : Int) := by
  have : c.toNat ≠ 0 := fun e => h (UInt8.toNat_inj.1 (by simpa using e))
  omega
theorem cod_tx : ∀ s t : List UInt8, Cod (txL s) (txL t) (Lib.compareBytes s t)
  | [], [] => by
    have : Lib.compareBytes [] [] = 0 := rfl
    rw [this]
    exact cod_same (by omega) (cod_same (by omega) cod_nil)
  | [], b :: t => by
    have : Lib.compareBytes [] (b :: t) = -1 := rfl
    rw [this]
    unfold txL
    split
    · exact cod_same (by omega) (cod_lt (by omega) (by omega) (by omega))
    · rename_i h; exact cod_lt (by omega) (u8_byte b) (u8_pos h)
  | a :: s, [] => by
    have : Lib.compareBytes (a :: s) [] = 1 := rfl
    rw [this]
    unfold txL
    split
    · exact cod_same (by omega) (cod_gt (by omega) (by omega) (by omega))
    · rename_i h; exact cod_gt (u8_byte a) (by omega) (u8_pos h)
  | a :: s, b :: t => by
    have ih := cod_tx s t
    rw [cb_cons]
    unfold txL cb1
    by_cases ha : a = 0
    · by_cases hb : b = 0
      · rw [if_pos ha, if_pos hb, ha, hb, sgn_self, lx_zero rfl]
        exact cod_same (by omega) (cod_same (by omega) ih)
      · rw [if_pos ha, if_neg hb, ha]
        have := u8_pos hb
        have e : ((0 : UInt8).toNat : Int) = 0 := rfl
        rw [e, sgn_lt this]
        exact cod_lt (by omega) (u8_byte b) this
    · by_cases hb : b = 0
      · rw [if_neg ha, if_pos hb, hb]
        have := u8_pos ha
        have e : ((0 : UInt8).toNat : Int) = 0 := rfl
        rw [e, sgn_gt this]
        exact cod_gt (u8_byte a) (by omega) this
      · rw [if_neg ha, if_neg hb]
        exact cod_cons (u8_byte a) (u8_byte b) (fun _ => ih)
theorem cod_raw : ∀ x y : List Int, (∀ n ∈ x, 0 ≤ n ∧ n ≤ 255) → (∀ n ∈ y, 0 ≤ n ∧ n ≤ 255) → x.length = y.length → Cod x y (Lib.compareBytes (Lib.bytesOf x) (Lib.bytesOf y))
  | [], [], _, _, _ => by
    have : Lib.compareBytes (Lib.bytesOf []) (Lib.bytesOf []) = 0 := rfl
    rw [this]; exact cod_nil
  | a :: x, b :: y, hx, hy, hl => by
    have ha := hx a (by simp)
    have hb := hy b (by simp)
    have ih := cod_raw x y (fun n h => hx n (List.mem_cons_of_mem _ h)) (fun n h => hy n (List.mem_cons_of_mem _ h)) (by simpa using hl)
    have e : ∀ (z : Int) (l : List Int), Lib.bytesOf (z :: l) = UInt8.ofNat z.toNat :: Lib.bytesOf l := fun z l => rfl
    rw [e, e, cb_cons, cb1]
    have e2 : ∀ z : Int, 0 ≤ z ∧ z ≤ 255 → ((UInt8.ofNat z.toNat).toNat : Int) = z := fun z hz => by
      rw [UInt8.toNat_ofNat']
      omega
    rw [e2 a ha, e2 b hb]
    exact cod_cons ha hb (fun _ => ih)
  | [], _ :: _, _, _, h => by simp at h
  | _ :: _, [], _, _, h => by simp at h

theorem class_le (k : Int) : -1 ≤ classU k ∧ classU k ≤ 11 := by unfold classU; split <;> (try split) <;> (try split) <;> omega
theorem sgn_succ (a b : Int) : sgnU (a + 1) (b + 1) = sgnU a b := by
  unfold sgnU
  have e1 : (a + 1 < b + 1) = (a < b) := by apply propext; omega
  have e2 : (a + 1 > b + 1) = (a > b) := by apply propext; omega
  simp only [e1, e2]

/-- Well formed, or of the kind Missing. -/
def Nice (v : Cs) : Prop := kindOf v = 0 ∨ ∃ q, WF q v

theorem cod_ls : ∀ a b : Es, (∀ x ∈ a, ∀ y ∈ b, Cod (encV x) (encV y) (cmpV x y)) → Cod (encLs a ++ [0]) (encLs b ++ [0]) (cmpLs a b)
  | [], [], _ => by
    have : cmpLs [] [] = 0 := by rw [cmpLs]
    rw [this, encLs]; exact cod_same (by omega) cod_nil
  | [], y :: b, _ => by
    have : cmpLs [] (y :: b) = -1 := by rw [cmpLs]
    rw [this, encLs, encLs]; exact cod_lt (by omega) (by omega) (by omega)
  | x :: a, [], _ => by
    have : cmpLs (x :: a) [] = 1 := by rw [cmpLs]
    rw [this, encLs, encLs]; exact cod_gt (by omega) (by omega) (by omega)
  | x :: a, y :: b, h => by
    rw [cmpLs, encLs, encLs, List.cons_append, List.cons_append, List.append_assoc, List.append_assoc]
    exact cod_same (by omega) (cod_app (h x (by simp) y (by simp)) (fun _ => cod_ls a b (fun p hp r hr => h p (List.mem_cons_of_mem _ hp) r (List.mem_cons_of_mem _ hr))))
theorem cod_fs : ∀ a b : Es, (∀ x ∈ a, ∃ nm c, x = D.str nm :: c) → (∀ y ∈ b, ∃ nm c, y = D.str nm :: c) → (∀ nm c, (D.str nm :: c) ∈ a → ∀ nm' c', (D.str nm' :: c') ∈ b → Cod (encV c) (encV c') (cmpV c c')) → Cod (encFs a ++ [0]) (encFs b ++ [0]) (cmpFs a b)
  | [], [], _, _, _ => by
    have : cmpFs [] [] = 0 := by rw [cmpFs]
    rw [this, encFs]; exact cod_same (by omega) cod_nil
  | [], y :: b, _, hy, _ => by
    obtain ⟨nm, c, rfl⟩ := hy y (by simp)
    have : cmpFs [] ((D.str nm :: c) :: b) = -1 := by rw [cmpFs]
    rw [this, encFs, encFs, encF]; exact cod_lt (by omega) (by omega) (by omega)
  | x :: a, [], hx, _, _ => by
    obtain ⟨nm, c, rfl⟩ := hx x (by simp)
    have : cmpFs ((D.str nm :: c) :: a) [] = 1 := by rw [cmpFs]
    rw [this, encFs, encFs, encF]; exact cod_gt (by omega) (by omega) (by omega)
  | x :: a, y :: b, hx, hy, h => by
    obtain ⟨nm, c, rfl⟩ := hx x (by simp)
    obtain ⟨nm', c', rfl⟩ := hy y (by simp)
    rw [cmpFs, encFs, encFs, List.append_assoc, List.append_assoc]
    refine cod_app ?_ (fun _ => cod_fs a b (fun p hp => hx p (List.mem_cons_of_mem _ hp)) (fun p hp => hy p (List.mem_cons_of_mem _ hp)) (fun p q hp p' q' hp' => h p q (List.mem_cons_of_mem _ hp) p' q' (List.mem_cons_of_mem _ hp')))
    rw [cmpF_eq, encF, encF]
    have c1 := class_le (kindOf c)
    have c2 := class_le (kindOf c')
    have hc := cod_cons (x := classU (kindOf c) + 1) (y := classU (kindOf c') + 1) (a := txL nm.toList ++ encV c) (b := txL nm'.toList ++ encV c') (c := lx (lexB nm nm') (cmpV c c')) (by omega) (by omega)
      (fun _ => cod_app (cod_tx nm.toList nm'.toList) (fun _ => h nm c (by simp) nm' c' (by simp)))
    rw [sgn_succ] at hc
    exact cod_same (by omega) hc

theorem nice_doc {n : Int} {s : ByteArray} {xb : Bool} {eb : Es} {xf : Bool} {ef : Es} {xl : Bool} {el : Es} (h : Nice (valk.val 6 n s xb eb xf ef xl el)) : el = [] ∧ ∀ nm c, (D.str nm :: c) ∈ ef → Nice c := by
  rcases h with h | ⟨q, h⟩
  · exfalso
    simp [kindOf, valk.val] at h
  · cases h with
    | leaf _ _ _ _ _ _ _ _ hk => omega
    | doc b _ _ _ _ _ _ _ h => exact ⟨rfl, fun nm c hm => .inr ⟨b, h nm c hm⟩⟩
theorem nice_list {n : Int} {s : ByteArray} {xb : Bool} {eb : Es} {xf : Bool} {ef : Es} {xl : Bool} {el : Es} (h : Nice (valk.val 7 n s xb eb xf ef xl el)) : ef = [] ∧ ∀ r ∈ el, Nice r := by
  rcases h with h | ⟨q, h⟩
  · exfalso
    simp [kindOf, valk.val] at h
  · cases h with
    | leaf _ _ _ _ _ _ _ _ hk => omega
    | list b _ _ _ _ _ _ _ h => exact ⟨rfl, fun r hr => .inr ⟨b, h r hr⟩⟩

/-- KEYS STAND IN THE ORDER OF VALUES. -/
theorem enc_cod {a : Cs} (ha : VS a) : ∀ {b : Cs}, VS b → Nice a → Nice b → Cod (encV a) (encV b) (cmpV a b) := by
  induction ha with
  | mk k n s xb eb xf ef xl el bs hk hn hs hb hb' lb lf ll nb nf nl hf hfv hl ihf ihl =>
    intro b hvb na nb'
    cases hvb with
    | mk k' n' s' xb' eb' xf' ef' xl' el' bs' hk' hn' hs' hb2 hb2' lb' lf' ll' _ _ _ hf' hfv' hl' =>
      rw [cmpV_eq, encV_eq, encV_eq]
      have c1 := class_le k
      have c2 := class_le k'
      rw [← sgn_succ]
      refine cod_cons (by omega) (by omega) (fun hcl => ?_)
      have hcl' : classU k = classU k' := by omega
      obtain ⟨s1, s2, s3, s4, s5, s6⟩ := class_same hcl'
      unfold bodyV encB
      simp only [← s1, ← s2, ← s3, ← s4, ← s5, ← s6]
      by_cases h1 : k = 3 ∨ k = 4 ∨ k = 10 ∨ k = 11
      · simp only [if_pos h1]
        have := cod_be 8 (n + 9223372036854775808) (n' + 9223372036854775808)
        have e : (256 : Int) ^ 8 = 18446744073709551616 := by decide
        rw [e, Int.emod_eq_of_lt (by omega) (by omega), Int.emod_eq_of_lt (by omega) (by omega)] at this
        have e2 : sgnU (n + 9223372036854775808) (n' + 9223372036854775808) = sgnU n n' := by
          unfold sgnU
          have e1 : (n + 9223372036854775808 < n' + 9223372036854775808) = (n < n') := by apply propext; omega
          have e2 : (n + 9223372036854775808 > n' + 9223372036854775808) = (n > n') := by apply propext; omega
          simp only [e1, e2]
        rwa [e2] at this
      · simp only [if_neg h1]
        by_cases h5 : k = 5
        · simp only [if_pos h5]
          exact cod_tx _ _
        · simp only [if_neg h5]
          by_cases h6 : k = 6
          · have h6' : k' = 6 := by rw [s3] at h6; exact h6
            subst h6
            subst h6'
            obtain ⟨rfl, hca⟩ := nice_doc na
            obtain ⟨rfl, hcb⟩ := nice_doc nb'
            simp only [show ¬ ((6 : Int) = 9) by decide, show ¬ ((6 : Int) = 8) by decide, if_false, if_true, true_or, encLs, List.nil_append]
            exact cod_fs ef ef' (fun x hx => by obtain ⟨nm, c, h, _⟩ := hf x hx; exact ⟨nm, c, h⟩) (fun x hx => by obtain ⟨nm, c, h, _⟩ := hf' x hx; exact ⟨nm, c, h⟩)
              (fun nm c hm nm' c' hm' => ihf nm c hm (hfv' nm' c' hm') (hca nm c hm) (hcb nm' c' hm'))
          · simp only [if_neg h6]
            by_cases h7 : k = 7
            · have h7' : k' = 7 := by rw [s4] at h7; exact h7
              subst h7
              subst h7'
              obtain ⟨rfl, hca⟩ := nice_list na
              obtain ⟨rfl, hcb⟩ := nice_list nb'
              simp only [show ¬ ((7 : Int) = 9) by decide, show ¬ ((7 : Int) = 8) by decide, if_false, if_true, or_true, encFs, List.nil_append]
              exact cod_ls el el' (fun x hx y hy => ihl x hx (hl' y hy) (hca x hx) (hcb y hy))
            · simp only [if_neg h7]
              by_cases h8 : k = 8
              · have h9 : ¬ k = 9 := by omega
                simp only [if_pos h8, if_neg h9]
                have e : (256 : Int) ^ 8 = 18446744073709551616 := by decide
                have hmx : maxLen ≤ 9223372036854775807 := by decide
                have := cod_be 8 ((eb.length : Int) + 9223372036854775808) ((eb'.length : Int) + 9223372036854775808)
                rw [e, Int.emod_eq_of_lt (by omega) (by omega), Int.emod_eq_of_lt (by omega) (by omega)] at this
                have e2 : sgnU ((eb.length : Int) + 9223372036854775808) ((eb'.length : Int) + 9223372036854775808) = sgnU eb.length eb'.length := by
                  unfold sgnU
                  have e1 : ((eb.length : Int) + 9223372036854775808 < (eb'.length : Int) + 9223372036854775808) = ((eb.length : Int) < (eb'.length : Int)) := by apply propext; omega
                  have e2 : ((eb.length : Int) + 9223372036854775808 > (eb'.length : Int) + 9223372036854775808) = ((eb.length : Int) > (eb'.length : Int)) := by apply propext; omega
                  simp only [e1, e2]
                rw [e2] at this
                refine cod_app this (fun hz => ?_)
                have hlen := sgn_zero hz
                have hb1 : eb = rows bs := hb
                have hb1' : eb' = rows bs' := hb2
                rw [hb1, hb1', bI_rows, bI_rows]
                rw [hb1, hb1', rk_len, rk_len] at hlen
                have := cod_raw bs bs' hb' hb2' (by omega)
                unfold cbE
                rw [byteL_rows, byteL_rows]
                exact this
              · simp only [if_neg h8]
                by_cases h9 : k = 9
                · simp only [if_pos h9]
                  have hb1 : eb = rows bs := hb
                  have hb1' : eb' = rows bs' := hb2
                  have := cod_tx (GD.bytesOf eb).toList (GD.bytesOf eb').toList
                  have e : Lib.compareBytes (GD.bytesOf eb).toList (GD.bytesOf eb').toList = cbE eb eb' := by rw [hb1, hb1']; exact lexB_rows bs bs'
                  rwa [e] at this
                · have hk67 : ¬ (k = 6 ∨ k = 7) := by omega
                  simp only [if_neg h9, if_neg hk67]
                  exact cod_nil

end Go.Proofs.Ytlccdfilbiipmaa.ordk
