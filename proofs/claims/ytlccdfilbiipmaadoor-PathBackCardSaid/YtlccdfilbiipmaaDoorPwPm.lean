/- Parse, ParsePath and texts: what they come to. -/
import Derived.Test.YtlccdfilbiipmaaDoorPwPl
namespace Go.Proofs.YtlccdfilbiipmaaDoor.ordk
open Go YtlccdfilbiipmaaDoor.GD
set_option linter.unusedVariables false
set_option linter.unusedSimpArgs false
set_option maxRecDepth 100000

/-- Is a row of texts a path? -/
def goodR (l : List (List UInt8)) : Bool := decide (l.length ≤ 16) && l.all fun p => goodB (tx p)
/-- What is handed back for what lies between points. -/
def resP (l : List (List UInt8)) : D := .tuple [.slice (goodR l) (if goodR l = true then txE l else []) none, .bool (goodR l)]
theorem resP_good {l : List (List UInt8)} (h : goodR l = true) : resP l = .tuple [.slice true (txE l) none, .bool true] := by
  unfold resP; rw [h]; rfl
theorem resP_bad {l : List (List UInt8)} (h : goodR l = false) : resP l = .tuple [.slice false [] none, .bool false] := by
  unfold resP; rw [h]; rfl
theorem goodR_long {l : List (List UInt8)} (h : 16 < l.length) : goodR l = false := by
  unfold goodR; rw [decide_eq_false (by omega)]; rfl
theorem goodR_bad {l : List (List UInt8)} {p : List UInt8} (hp : p ∈ l) (h : goodB (tx p) = false) : goodR l = false := by
  unfold goodR
  have : (l.all fun p => goodB (tx p)) = false := by
    rw [List.all_eq_false]
    exact ⟨p, hp, by rw [h]; simp⟩
  rw [this, Bool.and_false]
theorem goodR_yes {l : List (List UInt8)} (h1 : l.length ≤ 16) (h : ∀ p ∈ l, goodB (tx p) = true) : goodR l = true := by
  unfold goodR; rw [decide_eq_true h1, Bool.true_and, List.all_eq_true]; exact h

theorem txE_get {l : List (List UInt8)} {i : Nat} (h : i < l.length) : (txE l)[i]? = some [D.str (tx l[i])] := by
  unfold txE
  rw [List.getElem?_map, List.getElem?_eq_getElem h]
  rfl
theorem txE_len (l : List (List UInt8)) : (txE l).length = l.length := by unfold txE; rw [List.length_map]

theorem parts_mem (l : List UInt8) : ∀ p ∈ parts l, p.length ≤ l.length := by
  induction l with
  | nil => intro p hp; simp [parts] at hp; subst hp; simp
  | cons b t ih =>
    intro p hp
    obtain ⟨q, r, e⟩ := parts_cons t
    by_cases h : b = 46
    · subst h
      rw [parts_dot] at hp
      rcases List.mem_cons.1 hp with rfl | h1
      · simp
      · have := ih p h1; simp; omega
    · rw [parts_else h e] at hp
      rw [e] at ih
      rcases List.mem_cons.1 hp with rfl | h1
      · have := ih q (by simp); simp; omega
      · have := ih p (by simp [h1]); simp; omega

/-! ### Parse -/
theorem prs_val (hv : ∀ t : ByteArray, t.size ≤ 100000 → Ret P T 34 [.str t] [] (.bool (vd t 0)) []) (s : ByteArray) (l : List (List UInt8)) (hl : l.length ≤ 16) (hsz : ∀ p ∈ l, p.length ≤ 100000) : ∀ (q i : Nat), i + q = l.length → (∀ (k : Nat) p, k < i → l[k]? = some p → goodB (tx p) = true) →
    prs_at0 true (txE l) goodB s i (resP l) [] := by
  intro q
  induction q with
  | zero =>
    intro i hi hk
    have e := prs_0_2 (xl := true) (es := txE l) (nm := goodB) (s := s) (n14 := i) (by rw [txE_len]; omega)
    have hg : goodR l = true := goodR_yes hl (fun p hp => by
      obtain ⟨k, hk1, rfl⟩ := List.getElem_of_mem hp
      exact hk k _ (by omega) (List.getElem?_eq_getElem hk1))
    rw [resP_good hg]; exact e
  | succ q ih =>
    intro i hi hk
    have hi' : i < l.length := by omega
    have hget : (txE l)[((i : Int)).toNat]? = some [D.str (tx l[i])] := txE_get hi'
    by_cases hg : goodB (tx l[i]) = true
    · have g := ih (i + 1) (by omega) (fun k p hkk hp => by
        by_cases e : k = i
        · subst e; rw [List.getElem?_eq_getElem hi'] at hp; obtain rfl := Option.some.inj hp; exact hg
        · exact hk k p (by omega) hp)
      have w1 : IntKind.i64.wrap ((i : Int) + (1 : Int)) = ((i + 1 : Nat) : Int) := by rw [wrap_i64 (by omega)]; omega
      rw [← w1] at g
      exact prs_0_0 (nm := goodB) (by rw [txE_len]; omega) hg (named27 _ (hv _ (by rw [size_bs, bs_tx]; exact hsz _ (List.getElem_mem hi')))) (by omega) hget g
    · have hg' : goodB (tx l[i]) = false := by simpa using hg
      have e := prs_0_1 (xl := true) (es := txE l) (nm := goodB) (s := s) (n14 := i) (by rw [txE_len]; omega) hg' (named27 _ (hv _ (by rw [size_bs, bs_tx]; exact hsz _ (List.getElem_mem hi')))) (by omega) hget
      rw [resP_bad (goodR_bad (List.getElem_mem hi') hg')]; exact e
theorem parse10 (hv : ∀ t : ByteArray, t.size ≤ 100000 → Ret P T 34 [.str t] [] (.bool (vd t 0)) []) (s : ByteArray) (hs : s.size ≤ 100000) : Ret P T 10 [.str s] [] (resP (parts (bs s))) [] := by
  by_cases h : (parts (bs s)).length ≤ 16
  · exact prs_in_1 (xl := true) (es := txE (parts (bs s))) (nm := goodB) (by rw [txE_len]; omega) (split26 s hs) (prs_val hv s _ h (fun p hp => by have := parts_mem _ p hp; rw [← size_bs] at this; omega) (parts (bs s)).length 0 (by omega) (fun k p hk => by omega))
  · rw [resP_bad (goodR_long (by omega))]
    exact prs_in_0 (xl := true) (es := txE (parts (bs s))) (nm := goodB) (by rw [txE_len]; omega) (split26 s hs)

/-! ### ParsePath -/
theorem pur_tok (l : List (List UInt8)) (x : Bool) : pur (.tuple [.slice x (txE l) (some 0), .bool true]) = some (.tuple [.slice x (txE l) none, .bool true]) := rfl

theorem ppt_val (s : ByteArray) (hs : s.size ≤ 100000) : ∀ (q fr i : Nat) (dn : List (List UInt8)) (p : List UInt8) (r : List (List UInt8)), i + q = s.size → fr ≤ i → dn.length ≤ 16 → (∀ x ∈ dn, goodB (tx x) = true) → parts ((bs s).drop i) = p :: r →
    ∃ v H1, ppt_at0 false [] mayB s (!dn.isEmpty) (txE dn) fr i dn.length v H1 ∧ pur v = some (resP (dn ++ (((bs s).drop fr).take (i - fr) ++ p) :: r)) := by
  intro q
  induction q with
  | zero =>
    intro fr i dn p r hi hf hd hg hp
    have hmx : (100000 : Nat) ≤ maxLen := by decide
    have hdr : (bs s).drop i = [] := List.drop_eq_nil_of_le (by rw [← size_bs]; omega)
    rw [hdr] at hp
    obtain ⟨rfl, rfl⟩ : p = [] ∧ r = [] := by
      have : ([] : List UInt8) = p ∧ ([] : List (List UInt8)) = r := by simpa [parts] using hp
      exact ⟨this.1.symm, this.2.symm⟩
    rw [List.append_nil]
    have hx : s.extract fr i = tx (((bs s).drop fr).take (i - fr)) := by rw [← tx_bs (s.extract fr i), bs_ext]
    generalize hcur : ((bs s).drop fr).take (i - fr) = cur at *
    have hsz : (s.extract fr i).size ≤ 100000 := by
      rw [size_bs, hx, bs_tx, ← hcur, List.length_take, List.length_drop, ← size_bs]; omega
    have hfail : ∀ {v : D}, v = .tuple [.slice false [] none, .bool false] → goodB (tx cur) = false → pur v = some (resP (dn ++ [cur])) := by
      intro v hv h
      rw [resP_bad (goodR_bad (by simp) h), hv]; rfl
    have hc0 : ((((s.extract ((fr : Int)).toNat ((i : Int)).toNat).data.getD (Int.toNat (0 : Int)) (0 : UInt8)).toNat : Nat) : Int) = (bt (s.extract fr i) 0 : Int) := rfl
    by_cases h0 : (s.extract fr i).size = 0
    · exact ⟨_, _, ppt_0_6 (by omega) (by omega) ((size_zero _).2 h0) (by omega), hfail rfl (by unfold goodB; rw [← hx, decide_eq_false (fun h => h.1 h0)]; rfl)⟩
    have h0' : (s.extract ((fr : Int)).toNat ((i : Int)).toNat).toList ≠ (ByteArray.mk #[]).toList := fun h => h0 ((size_zero _).1 h)
    have hp0 : (0 : Int) ≤ (0 : Int) ∧ (0 : Int) < ((s.extract ((fr : Int)).toNat ((i : Int)).toNat).size : Int) := by
      refine ⟨by omega, ?_⟩
      show (0 : Int) < ((s.extract fr i).size : Int)
      omega
    by_cases h1 : bt (s.extract fr i) 0 = 36
    · exact ⟨_, _, ppt_0_7 (by omega) (by omega) h0' (by omega) hp0 (by omega), hfail rfl (by unfold goodB; rw [← hx, decide_eq_false (fun h => h.2 h1)]; rfl)⟩
    have e1 : goodB (tx cur) = mayB (s.extract fr i) := by unfold goodB; rw [← hx, decide_eq_true ⟨h0, h1⟩, Bool.true_and]
    have hmay := may21 (s.extract fr i) (by omega)
    by_cases h2 : mayB (s.extract fr i) = true
    · by_cases h3 : dn.length = 16
      · refine ⟨_, _, ppt_0_8 (by omega) (by omega) h0' (by omega) h2 (by rw [txE_len]; omega) hmay hp0 (by omega), ?_⟩
        rw [resP_bad (goodR_long (by rw [List.length_append]; simp; omega))]
        rfl
      · have g := ppt_0_11 (xl := false) (es := []) (nm := mayB) (s := s) (x4 := (!dn.isEmpty || true)) (e4 := txE dn ++ [[D.str (s.extract fr i)]]) (n5 := IntKind.i64.wrap ((i : Int) + (1 : Int))) (n6 := IntKind.i64.wrap ((i : Int) + (1 : Int))) (kh := dn.length + 1) (by rw [wrap_i64 (by omega)]; omega)
        refine ⟨_, _, ppt_0_9 (by omega) (by omega) h0' (by omega) h2 (by rw [txE_len]; omega) ⟨txE_len _, by rw [txE_len]; omega, rfl⟩ hmay hp0 (by omega) g, ?_⟩
        have hgd : goodR (dn ++ [cur]) = true := goodR_yes (by rw [List.length_append]; simp; omega) (fun x hx' => by
          rcases List.mem_append.1 hx' with h | h
          · exact hg x h
          · rw [List.mem_singleton.1 h, e1]; exact h2)
        rw [resP_good hgd, hx]
        have : txE dn ++ [[D.str (tx cur)]] = txE (dn ++ [cur]) := by simp [txE]
        rw [this, Bool.or_true]
        rfl
    · have h2' : mayB (s.extract fr i) = false := by simpa using h2
      exact ⟨_, _, ppt_0_10 (by omega) (by omega) h0' (by omega) h2' hmay hp0 (by omega), hfail rfl (by rw [e1]; exact h2')⟩
  | succ q ih =>
    intro fr i dn p r hi hf hd hg hp
    have hmx : (100000 : Nat) ≤ maxLen := by decide
    have hlen : i < (bs s).length := by rw [← size_bs]; omega
    have hdr : (bs s).drop i = (bs s)[i] :: (bs s).drop (i + 1) := List.drop_eq_getElem_cons hlen
    have hby : ((s.data.getD ((i : Int)).toNat (0 : UInt8)).toNat : Int) = ((bs s)[i].toNat : Int) := by
      show ((bt s i : Nat) : Int) = _
      rw [bt_bs, List.getD_eq_getElem?_getD, List.getElem?_eq_getElem hlen]
      rfl
    have wi : IntKind.i64.wrap ((i : Int) + (1 : Int)) = ((i + 1 : Nat) : Int) := by rw [wrap_i64 (by omega)]; omega
    obtain ⟨p', r', hp'⟩ := parts_cons ((bs s).drop (i + 1))
    by_cases hb : (bs s)[i] = 46
    · have hb' : ((bs s)[i].toNat : Int) = 46 := by rw [hb]; rfl
      rw [hdr, hb, parts_dot, hp'] at hp
      obtain ⟨rfl, rfl⟩ : p = [] ∧ r = p' :: r' := by
        have : ([] : List UInt8) = p ∧ p' :: r' = r := by simpa using hp
        exact ⟨this.1.symm, this.2.symm⟩
      rw [List.append_nil]
      have hx : s.extract fr i = tx (((bs s).drop fr).take (i - fr)) := by rw [← tx_bs (s.extract fr i), bs_ext]
      generalize hcur : ((bs s).drop fr).take (i - fr) = cur at *
      have hsz : (s.extract fr i).size ≤ 100000 := by
        rw [size_bs, hx, bs_tx, ← hcur, List.length_take, List.length_drop, ← size_bs]; omega
      have hfail : ∀ {v : D}, v = .tuple [.slice false [] none, .bool false] → goodB (tx cur) = false → pur v = some (resP (dn ++ cur :: p' :: r')) := by
        intro v hv h
        rw [resP_bad (goodR_bad (by simp) h), hv]; rfl
      have hc0 : ((((s.extract ((fr : Int)).toNat ((i : Int)).toNat).data.getD (Int.toNat (0 : Int)) (0 : UInt8)).toNat : Nat) : Int) = (bt (s.extract fr i) 0 : Int) := rfl
      by_cases h0 : (s.extract fr i).size = 0
      · exact ⟨_, _, ppt_0_1 (by omega) (by omega) (by omega) ((size_zero _).2 h0) (by omega) (by omega), hfail rfl (by unfold goodB; rw [← hx, decide_eq_false (fun h => h.1 h0)]; rfl)⟩
      have h0' : (s.extract ((fr : Int)).toNat ((i : Int)).toNat).toList ≠ (ByteArray.mk #[]).toList := fun h => h0 ((size_zero _).1 h)
      have hp0 : (0 : Int) ≤ (0 : Int) ∧ (0 : Int) < ((s.extract ((fr : Int)).toNat ((i : Int)).toNat).size : Int) := by
        refine ⟨by omega, ?_⟩
        show (0 : Int) < ((s.extract fr i).size : Int)
        omega
      by_cases h1 : bt (s.extract fr i) 0 = 36
      · exact ⟨_, _, ppt_0_2 (by omega) (by omega) (by omega) h0' (by omega) hp0 (by omega) (by omega), hfail rfl (by unfold goodB; rw [← hx, decide_eq_false (fun h => h.2 h1)]; rfl)⟩
      have e1 : goodB (tx cur) = mayB (s.extract fr i) := by unfold goodB; rw [← hx, decide_eq_true ⟨h0, h1⟩, Bool.true_and]
      have hmay := may21 (s.extract fr i) (by omega)
      by_cases h2 : mayB (s.extract fr i) = true
      · by_cases h3 : dn.length = 16
        · refine ⟨_, _, ppt_0_3 (by omega) (by omega) (by omega) h0' (by omega) h2 (by rw [txE_len]; omega) hmay hp0 (by omega) (by omega), ?_⟩
          rw [resP_bad (goodR_long (by rw [List.length_append]; simp; omega))]
          rfl
        · obtain ⟨v, H1, g, hv⟩ := ih (i + 1) (i + 1) (dn ++ [cur]) p' r' (by omega) (Nat.le_refl _) (by rw [List.length_append]; simp; omega) (fun x hx' => by
            rcases List.mem_append.1 hx' with h | h
            · exact hg x h
            · rw [List.mem_singleton.1 h, e1]; exact h2) hp'
          have e5 : txE (dn ++ [cur]) = txE dn ++ [[D.str (s.extract fr i)]] := by rw [hx]; simp [txE]
          have e6 : (!(dn ++ [cur]).isEmpty) = (!dn.isEmpty || true) := by simp
          have e7 : (dn ++ [cur]).length = dn.length + 1 := by simp
          rw [e5, e6, e7, ← wi] at g
          refine ⟨v, H1, ppt_0_4 (by omega) (by omega) (by omega) h0' (by omega) h2 (by rw [txE_len]; omega) ⟨txE_len _, by rw [txE_len]; omega, rfl⟩ hmay hp0 (by omega) (by omega) g, ?_⟩
          rw [hv]
          simp
      · have h2' : mayB (s.extract fr i) = false := by simpa using h2
        exact ⟨_, _, ppt_0_5 (by omega) (by omega) (by omega) h0' (by omega) h2' hmay hp0 (by omega) (by omega), hfail rfl (by rw [e1]; exact h2')⟩
    · have hb' : ((bs s)[i].toNat : Int) ≠ 46 := fun e => hb (UInt8.toNat_inj.1 (by have h46 : (46 : UInt8).toNat = 46 := rfl; omega))
      rw [hdr, parts_else hb hp'] at hp
      obtain ⟨rfl, rfl⟩ : p = (bs s)[i] :: p' ∧ r = r' := by
        have : (bs s)[i] :: p' = p ∧ r' = r := by simpa using hp
        exact ⟨this.1.symm, this.2.symm⟩
      obtain ⟨v, H1, g, hv⟩ := ih fr (i + 1) dn p' r (by omega) (by omega) hd hg hp'
      rw [← wi] at g
      refine ⟨v, H1, ppt_0_0 (by omega) (by omega) (by omega) (by omega) g, ?_⟩
      rw [hv]
      have e8 : ((bs s).drop fr).take (i + 1 - fr) = ((bs s).drop fr).take (i - fr) ++ [(bs s)[i]] := by
        rw [show i + 1 - fr = (i - fr) + 1 by omega, List.take_add_one, List.getElem?_drop, show fr + (i - fr) = i by omega, List.getElem?_eq_getElem hlen]
        rfl
      rw [e8, List.append_assoc]
      rfl
theorem path11 (s : ByteArray) (hs : s.size ≤ 100000) : Ret P T 11 [.str s] [] (resP (parts (bs s))) [] := by
  obtain ⟨p, r, hp⟩ := parts_cons (bs s)
  obtain ⟨v, H1, g, hv⟩ := ppt_val s hs s.size 0 0 [] p r (by omega) (Nat.le_refl _) (by simp) (fun x hx => by cases hx) (by rw [List.drop_zero]; exact hp)
  have := (Ret.less 0 (Ret.pur (ppt_in_0 g) hv))
  simp only [List.take_zero] at this
  rw [hp]
  exact this

/-! ### texts: a row against itself -/
theorem txs_val (xa xb : Bool) (l : List (List UInt8)) (hl : l.length ≤ 100000) : ∀ (q i : Nat), i + q = l.length → txs_at0 xa (txE l) xb (txE l) i (.bool true) [] := by
  intro q
  induction q with
  | zero => intro i hi; exact txs_0_2 (by rw [txE_len]; omega)
  | succ q ih =>
    intro i hi
    have g := ih (i + 1) (by omega)
    have w1 : IntKind.i64.wrap ((i : Int) + (1 : Int)) = ((i + 1 : Nat) : Int) := by rw [wrap_i64 (by omega)]; omega
    rw [← w1] at g
    exact txs_0_0 (by rw [txE_len]; omega) rfl (by omega) (txE_get (by omega)) (txE_get (by omega)) g
theorem same12 (xa xb : Bool) (l : List (List UInt8)) (hl : l.length ≤ 100000) : Ret P T 12 [.slice xa (txE l) none, .slice xb (txE l) none] [] (.bool true) [] :=
  txs_in_1 rfl (txs_val xa xb l hl l.length 0 (by omega))

end Go.Proofs.YtlccdfilbiipmaaDoor.ordk
