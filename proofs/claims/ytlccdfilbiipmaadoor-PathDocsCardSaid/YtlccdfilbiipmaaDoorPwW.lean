/- Paths: Same of a value and itself, May, Valid, Few, Touch come to laws. -/
import Derived.Test.YtlccdfilbiipmaaDoorPwX
import Derived.Test.YtlccdfilbiipmaaDoorPwY
namespace Go.Proofs.YtlccdfilbiipmaaDoor.ordk
open Go YtlccdfilbiipmaaDoor.GD valk
set_option linter.unusedVariables false
set_option linter.unusedSimpArgs false
set_option maxRecDepth 100000

/-! ### Same: a value and itself -/
theorem same15 {a : Cs} (ha : VS a) : Ret P T 15 [.agg a, .agg a] [] (.bool true) [] := by
  induction ha with
  | mk k n s xb eb xf ef xl el bs hk hn hs hb hb' lb lf ll nb nf nl hf hfv hl ihf ihl =>
    have hB : eb.all isByteC = true := by rw [bytes_rows hb]; exact allB_rows hb'
    have kl : ∀ (m i : Nat), i + m = el.length → sm_at1 (fun _ _ => true) k n s xb eb xf ef xl el k n s xb eb xf ef xl el i (.bool true) [] := by
      intro m
      induction m with
      | zero => intro i hi; exact sm_1_2 (by omega)
      | succ m ihm =>
        intro i hi
        have hlt : i < el.length := by omega
        have hih := ihl _ (List.getElem_mem hlt)
        obtain ⟨ck, cn, cs, yb, cb, yf, cf, yl, cl, hrow⟩ := (hl _ (List.getElem_mem hlt)).get
        have hg : el[((i : Int)).toNat]? = some (valk.val ck cn cs yb cb yf cf yl cl) := by rw [Int.toNat_natCast, List.getElem?_eq_getElem hlt, hrow]
        rw [hrow] at hih
        refine sm_1_0 (by omega) rfl hih (by omega) hg hg ?_
        rw [up hlt ll]
        exact ihm (i + 1) (by omega)
    have kf : ∀ (m i : Nat), i + m = ef.length → sm_at0 (fun _ _ => true) k n s xb eb xf ef xl el k n s xb eb xf ef xl el i (.bool true) [] := by
      intro m
      induction m with
      | zero => intro i hi; exact sm_0_3 (by omega) (by simpa using kl el.length 0 (by omega))
      | succ m ihm =>
        intro i hi
        have hlt : i < ef.length := by omega
        obtain ⟨nm, c, hr, hnm⟩ := hf _ (List.getElem_mem hlt)
        have hmem : (.str nm :: c) ∈ ef := hr ▸ List.getElem_mem hlt
        have hih := ihf nm c hmem
        obtain ⟨ck, cn, cs, yb, cb, yf, cf, yl, cl, rfl⟩ := (hfv nm c hmem).get
        have hg : ef[((i : Int)).toNat]? = some (.str nm :: valk.val ck cn cs yb cb yf cf yl cl) := by rw [Int.toNat_natCast, List.getElem?_eq_getElem hlt, hr]
        refine sm_0_0 (by omega) rfl rfl hih (by omega) hg hg hg hg ?_
        rw [up hlt lf]
        exact ihm (i + 1) (by omega)
    exact sm_in_4 rfl rfl rfl rfl rfl rfl hB hB (by simpa using kf ef.length 0 (by omega))
theorem same18 (xa xb : Bool) {l : Es} (hl : ∀ y ∈ l, VS y) (hlen : l.length ≤ maxLen) : Ret P T 18 [.slice xa l none, .slice xb l none] [] (.bool true) [] := by
  have key : ∀ (m i : Nat), i + m = l.length → sal_at0 (fun _ _ => true) xa l xb l i (.bool true) [] := by
    intro m
    induction m with
    | zero => intro i hi; exact sal_0_2 (by omega)
    | succ m ih =>
      intro i hi
      have hlt : i < l.length := by omega
      have hs := same15 (hl _ (List.getElem_mem hlt))
      obtain ⟨ck, cn, cs, yb, cb, yf, cf, yl, cl, he⟩ := (hl _ (List.getElem_mem hlt)).get
      have hg : l[((i : Int)).toNat]? = some (valk.val ck cn cs yb cb yf cf yl cl) := by rw [Int.toNat_natCast, List.getElem?_eq_getElem hlt, he]
      rw [he] at hs
      have g := ih (i + 1) (by omega)
      rw [← up hlt hlen] at g
      exact sal_0_0 (by omega) rfl hs (by omega) hg hg g
  exact sal_in_1 rfl (by simpa using key l.length 0 (by omega))

/-! ### May, Valid -/
/-- A document of one field without a name. -/
abbrev docOf (c : Cs) : Cs := valk.val 6 0 (ByteArray.mk #[]) false [] true [D.str (ByteArray.mk #[]) :: c] false []
theorem vs_doc {c : Cs} (h : VS c) : VS (docOf c) := by
  refine .mk 6 0 _ _ _ _ _ _ _ [] (by omega) (by omega) (by decide) rfl (fun x hx => by cases hx) (by decide) (show 1 ≤ maxLen by decide) (by decide) (fun _ => rfl) (fun hh => by cases hh) (fun _ => rfl) (fun r hr => ?_) (fun nm c' hm => ?_) (fun r hr => by cases hr)
  · simp only [List.mem_singleton] at hr
    exact ⟨_, c, hr, by decide⟩
  · simp only [List.mem_singleton, List.cons.injEq] at hm
    rw [hm.2]; exact h
theorem may29 {c : Cs} (h : VS c) : ∃ b, Ret P T 29 [.agg (docOf c)] [] (.bool b) [] ∧ (b = true → WF 31 c ∧ (encV c).length ≤ 700000) := by
  obtain ⟨⟨x, l, ok⟩, g, hok⟩ := own33 (vs_doc h) 1 (by omega)
  cases ok with
  | true =>
    refine ⟨true, may_in_1 (ox := fun _ _ => x) (oe := fun _ _ => rows l) (oo := fun _ _ => true) rfl rfl g, fun _ => ?_⟩
    obtain ⟨h1, h2, h3⟩ := hok rfl
    have hw := h2 32 (by omega)
    refine ⟨?_, ?_⟩
    · cases hw with
      | doc b _ _ _ _ _ _ _ hh => exact hh (ByteArray.mk #[]) c (by simp)
    · have e : (encV (docOf c)).length = 2 + (encFs [D.str (ByteArray.mk #[]) :: c]).length + (encLs []).length := encL_c (.inl rfl)
      have e2 : (encFs [D.str (ByteArray.mk #[]) :: c]).length ≥ (encV c).length := by
        rw [encFs, encFs, encF]; simp; omega
      have h1' : l.length ≤ 70000 := h1
      have h3' : (encV (docOf c)).length ≤ 9 + 9 * l.length := h3
      omega
  | false => exact ⟨false, may_in_2 (ox := fun _ _ => x) (oe := fun _ _ => rows l) (oo := fun _ _ => false) rfl rfl g, fun hh => by cases hh⟩
theorem valid13 {c : Cs} (h : VS c) : ∃ b, Ret P T 13 [.agg c] [] (.bool b) [] ∧ (b = true → WF 31 c ∧ (encV c).length ≤ 700000) := by
  obtain ⟨b, hb, hok⟩ := may29 h
  have hs : Ret P T 28 [.agg c] [] (.bool (smallB c)) [] := small h
  obtain ⟨k, n, s, xb, eb, xf, ef, xl, el, rfl⟩ := h.get
  cases e : smallB (valk.val k n s xb eb xf ef xl el) with
  | true => rw [e] at hs; exact ⟨b, vld_in_0 (my := fun _ => b) (sl := fun _ => true) rfl hb hs, hok⟩
  | false => rw [e] at hs; exact ⟨false, vld_in_1 (my := fun _ => b) (sl := fun _ => false) rfl hs, fun hh => by cases hh⟩

/-! ### Few -/
def sizes : List ByteArray → Nat
  | [] => 0
  | s :: t => s.size + sizes t
theorem sizes_app : ∀ a b, sizes (a ++ b) = sizes a + sizes b
  | [], b => by simp [sizes]
  | x :: t, b => by rw [List.cons_append, sizes, sizes, sizes_app t b]; omega
theorem sizes_mem {l : List ByteArray} {s : ByteArray} (h : s ∈ l) : s.size ≤ sizes l := by
  induction l with
  | nil => cases h
  | cons x t ih =>
    rw [sizes]
    rcases List.mem_cons.1 h with rfl | h
    · omega
    · have := ih h; omega
theorem nmS_get {ps : List ByteArray} {i : Nat} (h : i < ps.length) : (nmS ps)[((i : Int)).toNat]? = some [D.str ps[i]] := by
  rw [Int.toNat_natCast, nmS, List.getElem?_map, List.getElem?_eq_getElem h]; rfl
def wsum : Int → List ByteArray → Int
  | n, [] => n
  | n, s :: t => wsum (IntKind.i64.wrap (n + (s.size : Int))) t
theorem wsum_eq : ∀ (l : List ByteArray) (n : Nat), n + sizes l ≤ 4611686018427387904 → wsum n l = ((n + sizes l : Nat) : Int)
  | [], n, _ => by simp [wsum, sizes]
  | s :: t, n, h => by
    rw [sizes] at h
    have e : IntKind.i64.wrap ((n : Int) + (s.size : Int)) = ((n + s.size : Nat) : Int) := by rw [wrap_i64 (by omega)]; omega
    rw [wsum, e, wsum_eq t (n + s.size) (by omega), sizes]
    congr 1; omega
def fewW (ps : List ByteArray) : Bool := decide (ps.length ≤ 40) && decide (wsum 0 ps ≤ 1000)
theorem few14 (xp : Bool) (ps : List ByteArray) (hl : ps.length ≤ maxLen) : Ret P T 14 [.slice xp (nmS ps) none] [] (.bool (fewW ps)) [] := by
  have hlen := nmS_len ps
  have key : ∀ (m i : Nat), i + m = ps.length → ∀ n : Int, few_at0 xp (nmS ps) n i (.bool (decide (ps.length ≤ 40) && decide (wsum n (ps.drop i) ≤ 1000))) [] := by
    intro m
    induction m with
    | zero =>
      intro i hi n
      rw [List.drop_of_length_le (by omega), wsum]
      by_cases h : ps.length ≤ 40
      · simp only [h, decide_true, Bool.true_and]
        exact few_0_1 (by omega) (by omega)
      · simp only [h, decide_false, Bool.false_and]
        exact few_0_2 (by omega) (by omega)
    | succ m ih =>
      intro i hi n
      have hlt : i < ps.length := by omega
      have g := ih (i + 1) (by omega) (IntKind.i64.wrap (n + (ps[i].size : Int)))
      rw [← up hlt hl] at g
      rw [List.drop_eq_getElem_cons hlt, wsum]
      exact few_0_0 (by omega) (by omega) (nmS_get hlt) g
  exact few_in_0 (by simpa [fewW] using key ps.length 0 (by omega) 0)
theorem few_len {ps : List ByteArray} (h : fewW ps = true) : ps.length ≤ 40 := by
  rw [fewW, Bool.and_eq_true, decide_eq_true_iff] at h
  exact h.1
theorem few_bd {ps : List ByteArray} (hs : sizes ps ≤ 4611686018427387904) (h : fewW ps = true) : ps.length ≤ 40 ∧ sizes ps ≤ 1000 := by
  rw [fewW, Bool.and_eq_true, decide_eq_true_iff, decide_eq_true_iff] at h
  have := wsum_eq ps 0 (by omega)
  refine ⟨h.1, ?_⟩
  have h2 := h.2
  simp only [Int.natCast_zero] at this
  omega

/-! ### Touch -/
def tcB : List ByteArray → List ByteArray → Bool
  | a :: ta, b :: tb => if a.toList = b.toList then tcB ta tb else false
  | [], _ => true
  | _ :: _, [] => true
theorem tcB_comm : ∀ a b, tcB a b = tcB b a
  | a :: ta, b :: tb => by
    rw [tcB, tcB, tcB_comm ta tb]
    by_cases h : a.toList = b.toList
    · rw [if_pos h, if_pos h.symm]
    · rw [if_neg h, if_neg (fun e => h e.symm)]
  | [], [] => rfl
  | [], _ :: _ => rfl
  | _ :: _, [] => rfl
theorem tcB_nil (a : List ByteArray) : tcB a [] = true := by cases a <;> rfl
theorem touch23 (xa xb : Bool) (a b : List ByteArray) (la : a.length ≤ maxLen) (lb : b.length ≤ maxLen) : Ret P T 23 [.slice xa (nmS a) none, .slice xb (nmS b) none] [] (.bool (tcB a b)) [] := by
  have ha := nmS_len a
  have hb := nmS_len b
  have key : ∀ (m i : Nat), i + m = min a.length b.length → tou_at0 xa (nmS a) xb (nmS b) i (.bool (tcB (a.drop i) (b.drop i))) [] := by
    intro m
    induction m with
    | zero =>
      intro i hi
      have e : tcB (a.drop i) (b.drop i) = true := by
        by_cases h : a.length ≤ i
        · rw [List.drop_of_length_le h]; unfold tcB; rfl
        · rw [List.drop_of_length_le (l := b) (by omega)]; exact tcB_nil _
      rw [e]
      exact tou_0_2 (by split <;> omega)
    | succ m ih =>
      intro i hi
      have h1 : i < a.length := by omega
      have h2 : i < b.length := by omega
      rw [List.drop_eq_getElem_cons h1, List.drop_eq_getElem_cons h2, tcB]
      by_cases h : a[i].toList = b[i].toList
      · rw [if_pos h]
        have g := ih (i + 1) (by omega)
        rw [← up h1 la] at g
        exact tou_0_0 (by split <;> omega) h (by omega) (nmS_get h2) (nmS_get h1) g
      · rw [if_neg h]
        exact tou_0_1 (by split <;> omega) h (by omega) (nmS_get h2) (nmS_get h1)
  exact tou_in_0 (by simpa using key (min a.length b.length) 0 (by omega))
theorem touch24 (xa xb : Bool) (a b : List ByteArray) (la : a.length ≤ maxLen) (lb : b.length ≤ maxLen) : Ret P T 24 [.slice xa (nmS a) none, .slice xb (nmS b) none] [] (.bool (tcB a b)) [] := by
  have ha := nmS_len a
  have hb := nmS_len b
  have key : ∀ (m i : Nat), i + m = min a.length b.length → tor_at0 xa (nmS a) xb (nmS b) i (.bool (tcB (a.drop i) (b.drop i))) [] := by
    intro m
    induction m with
    | zero =>
      intro i hi
      by_cases h : a.length ≤ i
      · rw [List.drop_of_length_le h]
        exact tor_0_3 (by omega)
      · rw [List.drop_of_length_le (l := b) (by omega), tcB_nil]
        exact tor_0_2 (by omega) (by omega)
    | succ m ih =>
      intro i hi
      have h1 : i < a.length := by omega
      have h2 : i < b.length := by omega
      rw [List.drop_eq_getElem_cons h1, List.drop_eq_getElem_cons h2, tcB]
      by_cases h : a[i].toList = b[i].toList
      · rw [if_pos h]
        have g := ih (i + 1) (by omega)
        rw [← up h1 la] at g
        exact tor_0_0 (by omega) (by omega) h (by omega) (nmS_get h2) (nmS_get h1) g
      · rw [if_neg h]
        exact tor_0_1 (by omega) (by omega) h (by omega) (nmS_get h2) (nmS_get h1)
  exact tor_in_0 (by simpa using key (min a.length b.length) 0 (by omega))

end Go.Proofs.YtlccdfilbiipmaaDoor.ordk
