/- Paths: the law PathBack hands back true. -/
import Derived.Test.YtlccdfilbiipmaaDoorPwFw
import Derived.Test.YtlccdfilbiipmaaDoorPwLa
namespace Go.Proofs.YtlccdfilbiipmaaDoor.ordk
open Go YtlccdfilbiipmaaDoor.GD
set_option linter.unusedVariables false
set_option linter.unusedSimpArgs false
set_option maxRecDepth 100000

theorem bs_app (a b : ByteArray) : bs (a ++ b) = bs a ++ bs b := by
  show (a ++ b).data.toList = a.data.toList ++ b.data.toList
  rw [ByteArray.data_append, Array.toList_append]
/-- A point ahead of each name. -/
def ptd (l : List (List UInt8)) : List UInt8 := l.flatMap fun p => 46 :: p
theorem ptd_len : ∀ l, (ptd l).length = sizes l + l.length
  | [] => rfl
  | p :: r => by
    have ih := ptd_len r
    unfold ptd at ih ⊢
    rw [List.flatMap_cons, List.length_append, ih, sizes]
    simp; omega
theorem ptd_snoc (l : List (List UInt8)) (p : List UInt8) : ptd (l ++ [p]) = ptd l ++ 46 :: p := by simp [ptd]
theorem parts_clean {p : List UInt8} (h : ∀ b ∈ p, b ≠ 46) : parts p = [p] := by
  induction p with
  | nil => rfl
  | cons b t ih => exact parts_else (h b (by simp)) (ih fun c hc => h c (by simp [hc]))
theorem parts_cut {p : List UInt8} (h : ∀ b ∈ p, b ≠ 46) (t : List UInt8) : parts (p ++ 46 :: t) = p :: parts t := by
  induction p with
  | nil => exact parts_dot t
  | cons b q ih => exact parts_else (h b (by simp)) (ih fun c hc => h c (by simp [hc]))
/-- Names without points, put together with points, are cut into what they were. -/
theorem parts_join : ∀ (l : List (List UInt8)), l ≠ [] → (∀ p ∈ l, ∀ b ∈ p, b ≠ 46) → parts (ptd l).tail = l
  | [], h, _ => absurd rfl h
  | [p], _, hd => by
    have : (ptd [p]).tail = p := by simp [ptd]
    rw [this, parts_clean (hd p (by simp))]
  | p :: q :: r, _, hd => by
    have e : (ptd (p :: q :: r)).tail = p ++ 46 :: (ptd (q :: r)).tail := by simp [ptd]
    rw [e, parts_cut (hd p (by simp)), parts_join (q :: r) (by simp) (fun x hx => hd x (by simp [hx]))]

/-- What was found fine so far. -/
def fineB (ls : List (List UInt8)) (i : Nat) : Bool := decide (0 < ls.length) && decide (ls.length ≤ 16) && (ls.take i).all fun p => goodB (tx p)
theorem fine_step {ls : List (List UInt8)} {i : Nat} (h : i < ls.length) : fineB ls (i + 1) = (fineB ls i && goodB (tx ls[i])) := by
  unfold fineB
  rw [List.take_add_one, List.getElem?_eq_getElem h, List.all_append]
  simp [Bool.and_assoc]
theorem fine_all {ls : List (List UInt8)} (h : ls ≠ []) : fineB ls ls.length = goodR ls := by
  unfold fineB goodR
  rw [List.take_length, decide_eq_true (List.length_pos_iff.2 h), Bool.true_and]

theorem lpb_val (xn : Bool) (ls : List (List UInt8)) (hlen : ls.length ≤ 40) (hsz : sizes ls ≤ 1000) : ∀ (q i : Nat), i + q = ls.length → (∀ p ∈ ls.take i, ∀ b ∈ p, b ≠ 46) →
    lpb_at0 true mayB (goodR (parts (ptd ls).tail)) (if goodR (parts (ptd ls).tail) = true then txE (parts (ptd ls).tail) else []) (goodR (parts (ptd ls).tail)) true xn (txE ls) (tx (ptd (ls.take i)).tail) (fineB ls i) i (.bool true) [] := by
  have hfl : (ptd ls).tail.length ≤ 1040 := by rw [List.length_tail, ptd_len]; omega
  intro q
  induction q with
  | zero =>
    intro i hi hd
    have hi' : i = ls.length := by omega
    subst hi'
    rw [List.take_length] at hd ⊢
    have hsz2 : (tx (ptd ls).tail).size ≤ 100000 := by rw [size_bs, bs_tx]; omega
    have hp : Ret P T 10 [.str (tx (ptd ls).tail)] [] (resP (parts (ptd ls).tail)) [] := parse10 hv34 (tx (ptd ls).tail) hsz2
    have hok : goodR (parts (ptd ls).tail) = fineB ls ls.length := by
      by_cases h0 : ls = []
      · subst h0
        have hb : goodB (tx []) = false := by
          unfold goodB
          rw [decide_eq_false (fun h => h.1 rfl)]
          rfl
        have e1 : goodR (parts (ptd []).tail) = false := goodR_bad (p := []) (by show [] ∈ [[]]; simp) hb
        rw [e1]; rfl
      · rw [fine_all h0, parts_join ls h0 hd]
    by_cases hg : goodR (parts (ptd ls).tail) = true
    · have h0 : ls ≠ [] := by
        intro h0
        rw [hok] at hg
        unfold fineB at hg
        subst h0
        simp at hg
      have hj := parts_join ls h0 hd
      refine lpb_0_8 (tx := true) (by rw [txE_len]; omega) hok hg ?_ hp
      rw [if_pos hg, hj]
      exact same12 _ _ ls (by omega)
    · have hg' : goodR (parts (ptd ls).tail) = false := by simpa using hg
      exact lpb_0_9 (by rw [txE_len]; omega) hok hg' (by rw [if_neg hg]; rfl) hp
  | succ q ih =>
    intro i hi hd
    have hi' : i < ls.length := by omega
    have hget : (txE ls)[i]? = some [D.str (tx ls[i])] := txE_get hi'
    have htk : ls.take (i + 1) = ls.take i ++ [ls[i]] := by rw [List.take_add_one, List.getElem?_eq_getElem hi']; rfl
    have hmem : ls[i] ∈ ls := List.getElem_mem hi'
    have hpl := sizes_mem hmem
    have hps : (tx ls[i]).size = ls[i].length := by rw [size_bs, bs_tx]
    have hsum : sizes (ls.take i) ≤ 1000 := by
      have := sizes_app (ls.take i) (ls.drop i)
      rw [List.take_append_drop] at this
      omega
    have hs3 : (tx (ptd (ls.take i)).tail).size ≤ 1040 := by
      rw [size_bs, bs_tx, List.length_tail, ptd_len, List.length_take]; omega
    generalize hS3 : tx (ptd (ls.take i)).tail = s3 at *
    -- the bytes of a name
    have inner : ∀ (m k : Nat), k + m = ls[i].length → (∀ j, j < k → ls[i].getD j 0 ≠ 46) →
        lpb_at1 true mayB (goodR (parts (ptd ls).tail)) (if goodR (parts (ptd ls).tail) = true then txE (parts (ptd ls).tail) else []) (goodR (parts (ptd ls).tail)) true xn (txE ls) (tx (ptd (ls.take (i + 1))).tail) (fineB ls (i + 1)) i k (.bool true) [] := by
      intro m
      induction m with
      | zero =>
        intro k hk hno
        have g := ih (i + 1) (by omega) (by
          intro p hp b hb
          rw [htk] at hp
          rcases List.mem_append.1 hp with h | h
          · exact hd p h b hb
          · rw [List.mem_singleton.1 h] at hb
            obtain ⟨j, hj, rfl⟩ := List.getElem_of_mem hb
            have := hno j (by omega)
            rwa [List.getD_eq_getElem?_getD, List.getElem?_eq_getElem hj] at this)
        have w1 : IntKind.i64.wrap ((i : Int) + (1 : Int)) = ((i + 1 : Nat) : Int) := by rw [wrap_i64 (by omega)]; omega
        rw [← w1] at g
        have e := lpb_1_2 (fw := true) (nm := mayB) (xp := goodR (parts (ptd ls).tail)) (ep := if goodR (parts (ptd ls).tail) = true then txE (parts (ptd ls).tail) else []) (ok := goodR (parts (ptd ls).tail)) (tx := true) (xn := xn) (en := txE ls) (s3 := tx (ptd (ls.take (i + 1))).tail) (b4 := fineB ls (i + 1)) (n5 := i) (n6 := k) (s14_3 := tx ls[i]) (r := .bool true) (H1 := [])
        simp only [Int.toNat_natCast] at e
        apply e
        all_goals first | with_reducible assumption | omega
      | succ m ihm =>
        intro k hk hno
        have hc : (((tx ls[i]).data.getD k (0 : UInt8)).toNat : Int) = ((ls[i].getD k 0).toNat : Int) := by
          show ((bt (tx ls[i]) k : Nat) : Int) = _
          rw [bt_bs, bs_tx]
        have hc' : ((ls[i].toArray.getD k (0 : UInt8)).toNat : Int) = ((ls[i].getD k 0).toNat : Int) := hc
        by_cases hb : ls[i].getD k 0 = 46
        · have hb2 : ((ls[i].getD k 0).toNat : Int) = 46 := by rw [hb]; rfl
          have e := lpb_1_0 (fw := true) (nm := mayB) (xp := goodR (parts (ptd ls).tail)) (ep := if goodR (parts (ptd ls).tail) = true then txE (parts (ptd ls).tail) else []) (ok := goodR (parts (ptd ls).tail)) (tx := true) (xn := xn) (en := txE ls) (s3 := tx (ptd (ls.take (i + 1))).tail) (b4 := fineB ls (i + 1)) (n5 := i) (n6 := k) (s14_3 := tx ls[i]) (s16_2 := tx ls[i])
          simp only [Int.toNat_natCast] at e
          apply e
          all_goals first | with_reducible assumption | omega
        · have hb2 : ((ls[i].getD k 0).toNat : Int) ≠ 46 := fun e => hb (UInt8.toNat_inj.1 (by have h46 : (46 : UInt8).toNat = 46 := rfl; omega))
          have g := ihm (k + 1) (by omega) (fun j hj => by
            by_cases ej : j = k
            · subst ej; exact hb
            · exact hno j (by omega))
          have w1 : IntKind.i64.wrap ((k : Int) + (1 : Int)) = ((k + 1 : Nat) : Int) := by rw [wrap_i64 (by omega)]; omega
          rw [← w1] at g
          have e := lpb_1_1 (fw := true) (nm := mayB) (xp := goodR (parts (ptd ls).tail)) (ep := if goodR (parts (ptd ls).tail) = true then txE (parts (ptd ls).tail) else []) (ok := goodR (parts (ptd ls).tail)) (tx := true) (xn := xn) (en := txE ls) (s3 := tx (ptd (ls.take (i + 1))).tail) (b4 := fineB ls (i + 1)) (n5 := i) (n6 := k) (s14_3 := tx ls[i]) (s16_2 := tx ls[i]) (r := .bool true) (H1 := [])
          simp only [Int.toNat_natCast] at e
          apply e
          all_goals first | with_reducible assumption | omega
    have g := inner ls[i].length 0 (by omega) (fun j hj => by omega)
    have hst := fine_step hi'
    have hc0 : (((tx ls[i]).data.getD (Int.toNat (0 : Int)) (0 : UInt8)).toNat : Int) = (bt (tx ls[i]) 0 : Int) := rfl
    have hc0' : ((ls[i].toArray.getD (Int.toNat (0 : Int)) (0 : UInt8)).toNat : Int) = (bt (tx ls[i]) 0 : Int) := rfl
    have hmay := may21 (tx ls[i]) (by have : (100000 : Nat) ≤ maxLen := by decide
                                      omega)
    have hz : (tx ls[i]).toList = bE.toList ↔ (tx ls[i]).size = 0 := size_zero _
    have hnow : i > 0 → tx (ptd (ls.take (i + 1))).tail = s3 ++ ByteArray.mk #[46] ++ tx ls[i] := by
      intro h
      rw [← hS3, htk, ptd_snoc]
      have hne : ptd (ls.take i) ≠ [] := by
        intro e
        have := congrArg List.length e
        rw [ptd_len, List.length_take, List.length_nil] at this
        omega
      rw [List.tail_append_of_ne_nil hne]
      rw [← tx_bs (tx (ptd (ls.take i)).tail ++ ByteArray.mk #[46] ++ tx ls[i]), bs_app, bs_app]
      simp
      rfl
    have hnow0 : i = 0 → tx (ptd (ls.take (i + 1))).tail = s3 ++ tx ls[i] := by
      intro h
      rw [← hS3, htk, ptd_snoc]
      subst h
      rw [← tx_bs (tx (ptd (ls.take 0)).tail ++ tx ls[0]), bs_app]
      simp [ptd]
    have hb4 : fineB ls i = true → (tx ls[i]).size = 0 → fineB ls (i + 1) = false := by
      intro h1 h2; rw [hst, h1]; unfold goodB; rw [decide_eq_false (fun h => h.1 h2)]; rfl
    have hb5 : fineB ls i = true → bt (tx ls[i]) 0 = 36 → fineB ls (i + 1) = false := by
      intro h1 h2; rw [hst, h1]; unfold goodB; rw [decide_eq_false (fun h => h.2 h2)]; rfl
    have hb6 : fineB ls i = true → (tx ls[i]).size ≠ 0 → bt (tx ls[i]) 0 ≠ 36 → fineB ls (i + 1) = mayB (tx ls[i]) := by
      intro h1 h2 h3; rw [hst, h1]; unfold goodB; rw [decide_eq_true ⟨h2, h3⟩]; rfl
    have hb7 : fineB ls i = false → fineB ls (i + 1) = false := by intro h; rw [hst, h]; rfl
    have hl0 : (i : Int) < ((txE ls).length : Int) := by rw [txE_len]; omega
    have hsa : (s3 ++ ByteArray.mk #[46]).size = s3.size + 1 := ByteArray.size_append
    by_cases h0 : i > 0
    · rw [hnow h0] at g
      by_cases hf : fineB ls i = true
      · by_cases h1 : (tx ls[i]).size = 0
        · rw [hb4 hf h1] at g
          have h1' := hz.2 h1
          have e := lpb_0_0 (fw := true) (nm := mayB) (xp := goodR (parts (ptd ls).tail)) (ep := if goodR (parts (ptd ls).tail) = true then txE (parts (ptd ls).tail) else []) (ok := goodR (parts (ptd ls).tail)) (tx := true) (xn := xn) (en := txE ls) (s3 := s3) (b4 := fineB ls i) (n5 := i) (s11_3 := tx ls[i]) (s12_4 := tx ls[i]) (r := .bool true) (H1 := [])
          simp only [Int.toNat_natCast] at e
          apply e
          all_goals first | with_reducible assumption | omega
        have h1' : (tx ls[i]).toList ≠ bE.toList := fun h => h1 (hz.1 h)
        by_cases h2 : bt (tx ls[i]) 0 = 36
        · rw [hb5 hf h2] at g
          have e := lpb_0_2 (fw := true) (nm := mayB) (xp := goodR (parts (ptd ls).tail)) (ep := if goodR (parts (ptd ls).tail) = true then txE (parts (ptd ls).tail) else []) (ok := goodR (parts (ptd ls).tail)) (tx := true) (xn := xn) (en := txE ls) (s3 := s3) (b4 := fineB ls i) (n5 := i) (s11_3 := tx ls[i]) (s12_4 := tx ls[i]) (s12_11 := tx ls[i]) (r := .bool true) (H1 := [])
          simp only [Int.toNat_natCast] at e
          apply e
          all_goals first | with_reducible assumption | omega
        · rw [hb6 hf h1 h2] at g
          have e := lpb_0_1 (fw := true) (nm := mayB) (xp := goodR (parts (ptd ls).tail)) (ep := if goodR (parts (ptd ls).tail) = true then txE (parts (ptd ls).tail) else []) (ok := goodR (parts (ptd ls).tail)) (tx := true) (xn := xn) (en := txE ls) (s3 := s3) (b4 := fineB ls i) (n5 := i) (s11_3 := tx ls[i]) (s12_4 := tx ls[i]) (s12_11 := tx ls[i]) (s12_19 := tx ls[i]) (r := .bool true) (H1 := [])
          simp only [Int.toNat_natCast] at e
          apply e
          all_goals first | with_reducible assumption | omega
      · have hf' : fineB ls i = false := by simpa using hf
        rw [hb7 hf'] at g
        have e := lpb_0_3 (fw := true) (nm := mayB) (xp := goodR (parts (ptd ls).tail)) (ep := if goodR (parts (ptd ls).tail) = true then txE (parts (ptd ls).tail) else []) (ok := goodR (parts (ptd ls).tail)) (tx := true) (xn := xn) (en := txE ls) (s3 := s3) (b4 := fineB ls i) (n5 := i) (s11_3 := tx ls[i]) (r := .bool true) (H1 := [])
        simp only [Int.toNat_natCast] at e
        apply e
        all_goals first | with_reducible assumption | omega
    · have h00 : i = 0 := by omega
      rw [hnow0 h00] at g
      by_cases hf : fineB ls i = true
      · by_cases h1 : (tx ls[i]).size = 0
        · rw [hb4 hf h1] at g
          have h1' := hz.2 h1
          have e := lpb_0_4 (fw := true) (nm := mayB) (xp := goodR (parts (ptd ls).tail)) (ep := if goodR (parts (ptd ls).tail) = true then txE (parts (ptd ls).tail) else []) (ok := goodR (parts (ptd ls).tail)) (tx := true) (xn := xn) (en := txE ls) (s3 := s3) (b4 := fineB ls i) (n5 := i) (s11_3 := tx ls[i]) (s12_4 := tx ls[i]) (r := .bool true) (H1 := [])
          simp only [Int.toNat_natCast] at e
          apply e
          all_goals first | with_reducible assumption | omega
        have h1' : (tx ls[i]).toList ≠ bE.toList := fun h => h1 (hz.1 h)
        by_cases h2 : bt (tx ls[i]) 0 = 36
        · rw [hb5 hf h2] at g
          have e := lpb_0_6 (fw := true) (nm := mayB) (xp := goodR (parts (ptd ls).tail)) (ep := if goodR (parts (ptd ls).tail) = true then txE (parts (ptd ls).tail) else []) (ok := goodR (parts (ptd ls).tail)) (tx := true) (xn := xn) (en := txE ls) (s3 := s3) (b4 := fineB ls i) (n5 := i) (s11_3 := tx ls[i]) (s12_4 := tx ls[i]) (s12_11 := tx ls[i]) (r := .bool true) (H1 := [])
          simp only [Int.toNat_natCast] at e
          apply e
          all_goals first | with_reducible assumption | omega
        · rw [hb6 hf h1 h2] at g
          have e := lpb_0_5 (fw := true) (nm := mayB) (xp := goodR (parts (ptd ls).tail)) (ep := if goodR (parts (ptd ls).tail) = true then txE (parts (ptd ls).tail) else []) (ok := goodR (parts (ptd ls).tail)) (tx := true) (xn := xn) (en := txE ls) (s3 := s3) (b4 := fineB ls i) (n5 := i) (s11_3 := tx ls[i]) (s12_4 := tx ls[i]) (s12_11 := tx ls[i]) (s12_19 := tx ls[i]) (r := .bool true) (H1 := [])
          simp only [Int.toNat_natCast] at e
          apply e
          all_goals first | with_reducible assumption | omega
      · have hf' : fineB ls i = false := by simpa using hf
        rw [hb7 hf'] at g
        have e := lpb_0_7 (fw := true) (nm := mayB) (xp := goodR (parts (ptd ls).tail)) (ep := if goodR (parts (ptd ls).tail) = true then txE (parts (ptd ls).tail) else []) (ok := goodR (parts (ptd ls).tail)) (tx := true) (xn := xn) (en := txE ls) (s3 := s3) (b4 := fineB ls i) (n5 := i) (s11_3 := tx ls[i]) (r := .bool true) (H1 := [])
        simp only [Int.toNat_natCast] at e
        apply e
        all_goals first | with_reducible assumption | omega

theorem law6 (xn : Bool) (ls : List (List UInt8)) (h40 : ls.length ≤ 40 → sizes ls ≤ 4611686018427387904) (hl : ls.length ≤ maxLen) : Ret P T 6 [.slice xn (txE ls) none] [] (.bool true) [] := by
  have hf := few14 xn ls hl
  by_cases h : fewW ls = true
  · obtain ⟨b1, b2⟩ := few_bd (h40 (few_len h)) h
    rw [h] at hf
    have g := lpb_val xn ls b1 b2 ls.length 0 (by omega) (fun p hp => by simp at hp)
    by_cases h0 : 0 < ls.length
    · have e : fineB ls 0 = decide (((txE ls).length : Int) ≤ (16 : Int)) := by
        unfold fineB
        rw [decide_eq_true h0, Bool.true_and, List.take_zero, List.all_nil, Bool.and_true, decide_eq_decide, txE_len]
        omega
      rw [e] at g
      exact lpb_in_0 (fw := true) rfl (by rw [txE_len]; omega) hf awake9 g
    · have e : fineB ls 0 = false := by
        unfold fineB
        rw [decide_eq_false h0]; rfl
      rw [e] at g
      exact lpb_in_1 (fw := true) rfl (by rw [txE_len]; omega) hf awake9 g
  · have h' : fewW ls = false := by simpa using h
    rw [h'] at hf
    exact lpb_in_2 (nm := mayB) (xp := false) (ep := []) (ok := false) (tx := true) rfl hf awake9

end Go.Proofs.YtlccdfilbiipmaaDoor.ordk
