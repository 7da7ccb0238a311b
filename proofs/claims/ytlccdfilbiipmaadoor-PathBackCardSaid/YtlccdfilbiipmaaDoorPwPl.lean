/- Names of a path: strings.Split, named, NameMay: what they come to. -/
import Derived.Test.YtlccdfilbiipmaaDoorPwSp
import Derived.Test.YtlccdfilbiipmaaDoorPwVu
namespace Go.Proofs.YtlccdfilbiipmaaDoor.ordk
open Go YtlccdfilbiipmaaDoor.GD
set_option linter.unusedVariables false
set_option linter.unusedSimpArgs false
set_option maxRecDepth 100000

/-- The bytes of a text. -/
abbrev bs (s : ByteArray) : List UInt8 := s.data.toList
/-- A text of bytes. -/
abbrev tx (l : List UInt8) : ByteArray := ByteArray.mk l.toArray
/-- A row of texts. -/
def txE (l : List (List UInt8)) : Es := l.map fun p => [D.str (tx p)]
theorem tx_bs (s : ByteArray) : tx (bs s) = s := rfl
theorem bs_tx (l : List UInt8) : bs (tx l) = l := rfl
theorem bs_ext (s : ByteArray) (a b : Nat) : bs (s.extract a b) = ((bs s).drop a).take (b - a) := by
  obtain ⟨⟨l⟩⟩ := s
  rw [ByteArray.extract_mk]
theorem size_bs (s : ByteArray) : s.size = (bs s).length := by rw [Array.length_toList]; rfl
theorem bt_bs (s : ByteArray) (i : Nat) : bt s i = ((bs s).getD i 0).toNat := by
  have := bt_drop s 0 i
  simp only [List.drop_zero, Nat.zero_add] at this
  exact this.symm

/-- What lies between points. -/
def parts : List UInt8 → List (List UInt8)
  | [] => [[]]
  | b :: t => if b = 46 then [] :: parts t else match parts t with | p :: r => (b :: p) :: r | [] => [[b]]
theorem parts_cons (l : List UInt8) : ∃ p r, parts l = p :: r := by
  cases l with
  | nil => exact ⟨_, _, rfl⟩
  | cons b t =>
    unfold parts
    by_cases h : b = 46
    · rw [if_pos h]; exact ⟨_, _, rfl⟩
    · rw [if_neg h]
      split
      · exact ⟨_, _, rfl⟩
      · exact ⟨_, _, rfl⟩
theorem parts_dot (t : List UInt8) : parts (46 :: t) = [] :: parts t := by rw [parts, if_pos rfl]
theorem parts_else {b : UInt8} {t p : List UInt8} {r : List (List UInt8)} (h : b ≠ 46) (e : parts t = p :: r) : parts (b :: t) = (b :: p) :: r := by rw [parts, if_neg h, e]
theorem parts_len (l : List UInt8) : (parts l).length = l.count 46 + 1 := by
  induction l with
  | nil => rfl
  | cons b t ih =>
    by_cases h : b = 46
    · subst h; rw [parts_dot, List.count_cons_self, List.length_cons, ih]
    · obtain ⟨p, r, e⟩ := parts_cons t
      rw [parts_else h e, List.count_cons_of_ne h, ← ih, e]
      simp
theorem parts_none {l : List UInt8} (h : Lib.indexByte l 46 < 0) : parts l = [l] := by
  induction l with
  | nil => rfl
  | cons b t ih =>
    unfold Lib.indexByte at h
    by_cases hb : b = 46
    · subst hb; rw [if_pos (by decide)] at h; omega
    · rw [if_neg (by simpa using hb)] at h
      have : Lib.indexByte t 46 < 0 := by
        split at h
        · rename_i he; have := eq_of_beq he; omega
        · omega
      rw [parts_else hb (ih this)]
theorem parts_some {l : List UInt8} : ∀ {m : Int}, Lib.indexByte l 46 = m → 0 ≤ m → m.toNat < l.length ∧ parts l = l.take m.toNat :: parts (l.drop (m.toNat + 1)) := by
  induction l with
  | nil => intro m h h0; unfold Lib.indexByte at h; omega
  | cons b t ih =>
    intro m h h0
    unfold Lib.indexByte at h
    by_cases hb : b = 46
    · subst hb; rw [if_pos (by decide)] at h; subst h; exact ⟨by simp, by rw [parts_dot]; rfl⟩
    · rw [if_neg (by simpa using hb)] at h
      split at h
      · omega
      · rename_i hn
        have hn' : Lib.indexByte t 46 ≠ -1 := by simpa using hn
        have hge := Lib.indexByte_ge t 46
        obtain ⟨h1, h2⟩ := ih rfl (show 0 ≤ Lib.indexByte t 46 by omega)
        have em : m.toNat = (Lib.indexByte t 46).toNat + 1 := by omega
        refine ⟨by rw [em, List.length_cons]; omega, ?_⟩
        rw [parts_else hb h2, em]
        rfl
/-- A byte is not in a row. -/
theorem index_none {l : List UInt8} {c : UInt8} : Lib.indexByte l c < 0 ↔ ∀ k, k < l.length → l.getD k 0 ≠ c := by
  induction l with
  | nil => simp [Lib.indexByte]
  | cons b t ih =>
    unfold Lib.indexByte
    by_cases hb : b = c
    · rw [if_pos (by simpa using hb)]
      constructor
      · intro h; omega
      · intro h; exact absurd hb (h 0 (by simp))
    · rw [if_neg (by simpa using hb)]
      have hge := Lib.indexByte_ge t c
      have : (if (Lib.indexByte t c == -1) = true then (-1 : Int) else Lib.indexByte t c + 1) < 0 ↔ Lib.indexByte t c < 0 := by
        split
        · rename_i he; have := eq_of_beq he; omega
        · rename_i he; have : Lib.indexByte t c ≠ -1 := by simpa using he
          omega
      rw [this, ih]
      constructor
      · intro h k hk
        cases k with
        | zero => exact hb
        | succ k => exact h k (by simpa using hk)
      · intro h k hk
        exact h (k + 1) (by simpa using hk)

/-- May it be a field's name? -/
def mayB (x : ByteArray) : Bool := decide (x.size ≤ 120 ∧ vd x 0 = true ∧ ∀ k, k < x.size → bt x k ≠ 0)
/-- May it be a name of a path? -/
def goodB (x : ByteArray) : Bool := decide (x.size ≠ 0 ∧ bt x 0 ≠ 36) && mayB x

theorem ext52 (s : ByteArray) (c : Int) : ExtOk Tryd.prog 52 [.str s, .int .u8 c] (.int .i64 (Lib.indexByte (bs s) c.toNat.toUInt8)) := by
  refine extE_ok ?_
  have h1 : extE Tryd.prog 52 [.str s, .int .u8 c] = extN "internal/bytealg.IndexByteString" [.str s, .int .u8 c] := by kernel_rfl
  rw [h1]
  rfl
theorem ext50 (s : ByteArray) (c : Int) : ExtOk Tryd.prog 50 [.str s, .int .u8 c] (.int .i64 (Lib.countByte (bs s) c.toNat.toUInt8)) := by
  refine extE_ok ?_
  have h1 : extE Tryd.prog 50 [.str s, .int .u8 c] = extN "internal/bytealg.CountString" [.str s, .int .u8 c] := by kernel_rfl
  rw [h1]
  rfl
theorem cnt41 (s : ByteArray) : Ret P T 41 [.str s, .str (ByteArray.mk #[46])] [] (.int .i64 ((bs s).count 46 : Nat)) [] :=
  cnt_in_0 (cn := fun s => ((bs s).count 46 : Nat)) (ix := fun _ => 0) (ext50 s 46)
theorem idx42 (s : ByteArray) : Ret P T 42 [.str s, .str (ByteArray.mk #[46])] [] (.int .i64 (Lib.indexByte (bs s) 46)) [] := by
  by_cases h : (ByteArray.mk #[(46 : UInt8)]).toList = s.toList
  · have e : s = ByteArray.mk #[46] := by
      have h2 := h
      rw [ByteArray.toList_eq, ByteArray.toList_eq] at h2
      obtain ⟨⟨l⟩⟩ := s
      simp only at h2
      rw [← h2]
    have g := idx_in_0 (cn := fun _ => 0) (ix := fun _ => 0) (s := s) h
    subst e
    exact g
  · exact idx_in_1 (cn := fun _ => 0) (ix := fun s => Lib.indexByte (bs s) 46) h (ext52 s 46)
theorem ixb35 (s : ByteArray) : Ret P T 35 [.str s, .int .u8 0] [] (.int .i64 (Lib.indexByte (bs s) 0)) [] :=
  ixb_in_0 (cn := fun _ => 0) (ix := fun s => Lib.indexByte (bs s) 0) (ext52 s 0)

theorem zero_none (s : ByteArray) : Lib.indexByte (bs s) 0 < 0 ↔ ∀ k, k < s.size → bt s k ≠ 0 := by
  rw [index_none, ← size_bs]
  constructor
  · intro h k hk e
    refine h k hk ?_
    rw [bt_bs] at e
    exact UInt8.toNat_inj.1 (by rw [e]; rfl)
  · intro h k hk e
    refine h k hk ?_
    rw [bt_bs, e]
    rfl

theorem nmy_val (s : ByteArray) : ∀ (q i : Nat), i + q = s.size → (∀ k, k < i → bt s k ≠ 0) → s.size ≤ maxLen → nmy_at0 (vd s 0) 0 s i (.bool (mayB s)) [] := by
  intro q
  induction q with
  | zero =>
    intro i hi hk hs
    have hmx : maxLen ≤ 9223372036854775807 := by decide
    by_cases h1 : (s.size : Int) ≤ 120
    · have e := nmy_0_2 (ok := vd s 0) (zi := 0) (s := s) (n3 := i) (by omega) h1 (utf_is s hs)
      have e2 : mayB s = vd s 0 := by
        unfold mayB
        by_cases hv : vd s 0 = true
        · rw [hv, decide_eq_true]; exact ⟨by omega, rfl, fun k hkk => hk k (by omega)⟩
        · rw [decide_eq_false (fun h => hv h.2.1)]; simpa using hv
      rw [e2]; exact e
    · have e := nmy_0_3 (ok := vd s 0) (zi := 0) (s := s) (n3 := i) (by omega) h1
      have e2 : mayB s = false := by unfold mayB; exact decide_eq_false (fun h => h1 (by omega))
      rw [e2]; exact e
  | succ q ih =>
    intro i hi hk hs
    have hmx : maxLen ≤ 9223372036854775807 := by decide
    have hc : ((s.data.getD ((i : Int)).toNat (0 : UInt8)).toNat : Int) = (bt s i : Int) := rfl
    by_cases h1 : bt s i = 0
    · have e := nmy_0_0 (ok := vd s 0) (zi := 0) (s := s) (n3 := i) (by omega) (by omega) (by omega)
      have e2 : mayB s = false := by unfold mayB; exact decide_eq_false (fun h => h.2.2 i (by omega) h1)
      rw [e2]; exact e
    · have g := ih (i + 1) (by omega) (fun k hkk => by
        by_cases e : k = i
        · subst e; exact h1
        · exact hk k (by omega)) hs
      have w1 : IntKind.i64.wrap ((i : Int) + (1 : Int)) = ((i + 1 : Nat) : Int) := by rw [wrap_i64 (by omega)]; omega
      rw [← w1] at g
      exact nmy_0_1 (by omega) (by omega) (by omega) g
theorem may21 (s : ByteArray) (hs : s.size ≤ maxLen) : Ret P T 21 [.str s] [] (.bool (mayB s)) [] :=
  nmy_in_0 (nmy_val s s.size 0 (by omega) (fun k h => by omega) hs)

theorem size_zero (s : ByteArray) : s.toList = (ByteArray.mk #[]).toList ↔ s.size = 0 := by
  rw [ByteArray.toList_eq, ByteArray.toList_eq, size_bs]
  exact List.length_eq_zero_iff.symm

theorem named27 (s : ByteArray) (hv : Ret P T 34 [.str s] [] (.bool (vd s 0)) []) : Ret P T 27 [.str s] [] (.bool (goodB s)) [] := by
  have hc : ((s.data.getD (Int.toNat (0 : Int)) (0 : UInt8)).toNat : Int) = (bt s 0 : Int) := rfl
  by_cases h0 : s.size = 0
  · have e := nmd_in_0 (ok := true) (zi := 0) (s := s) ((size_zero s).2 h0)
    have e2 : goodB s = false := by unfold goodB; rw [decide_eq_false (fun h => h.1 h0)]; rfl
    rw [e2]; exact e
  have h0' : s.toList ≠ (ByteArray.mk #[]).toList := fun h => h0 ((size_zero s).1 h)
  by_cases h1 : bt s 0 = 36
  · have e := nmd_in_4 (ok := true) (zi := 0) (s := s) h0' (by omega) (by omega)
    have e2 : goodB s = false := by unfold goodB; rw [decide_eq_false (fun h => h.2 h1)]; rfl
    rw [e2]; exact e
  have e1 : goodB s = mayB s := by unfold goodB; rw [decide_eq_true ⟨h0, h1⟩, Bool.true_and]
  rw [e1]
  by_cases h2 : (s.size : Int) ≤ 120
  · by_cases h3 : vd s 0 = true
    · rw [h3] at hv
      have e := nmd_in_1 (ok := true) (zi := Lib.indexByte (bs s) 0) (s := s) h0' (by omega) h2 rfl (ixb35 s) hv (by omega)
      have e2 : mayB s = decide (Lib.indexByte (bs s) 0 < 0) := by
        unfold mayB
        rw [decide_eq_decide, zero_none]
        exact ⟨fun h => h.2.2, fun h => ⟨by omega, h3, h⟩⟩
      rw [e2]; exact e
    · have h3' : vd s 0 = false := by simpa using h3
      rw [h3'] at hv
      have e := nmd_in_2 (ok := false) (zi := 0) (s := s) h0' (by omega) h2 rfl hv (by omega)
      have e2 : mayB s = false := by unfold mayB; exact decide_eq_false (fun h => h3 h.2.1)
      rw [e2]; exact e
  · have e := nmd_in_3 (ok := true) (zi := 0) (s := s) h0' (by omega) h2 (by omega)
    have e2 : mayB s = false := by unfold mayB; exact decide_eq_false (fun h => h2 (by omega))
    rw [e2]; exact e

/-! ### strings.Split -/
theorem flat_tx (l : List (List UInt8)) : FlatEs (txE l) := by
  intro c hc
  obtain ⟨p, _, rfl⟩ := List.mem_map.1 hc
  rfl
/-- A row's cells are all texts. -/
def Txs (es : Es) : Prop := ∀ c ∈ es, ∃ x, c = [D.str x]
theorem Txs.flat {es : Es} (h : Txs es) : FlatEs es := by
  intro c hc
  obtain ⟨x, rfl⟩ := h c hc
  rfl
theorem Txs.set {es : Es} (h : Txs es) (i : Nat) (x : ByteArray) : Txs (es.set i [D.str x]) := by
  intro c hc
  rcases List.mem_or_eq_of_mem_set hc with h1 | h1
  · exact h c h1
  · exact ⟨x, h1⟩
theorem Txs.get {es : Es} (h : Txs es) {i : Nat} (hi : i < es.length) : ∃ x, es[i]? = some [D.str x] := by
  obtain ⟨x, hx⟩ := h es[i] (List.getElem_mem hi)
  exact ⟨x, by rw [List.getElem?_eq_getElem hi, hx]⟩
theorem set_last {α : Type} {es : List α} {i : Nat} {x : α} (h : i + 1 = es.length) : es.set i x = es.take i ++ [x] := by
  rw [List.set_eq_take_append_cons_drop, if_pos (by omega), List.drop_eq_nil_of_le (by omega)]
theorem take_set {α : Type} {es : List α} {i : Nat} {x : α} (h : i < es.length) : (es.set i x).take (i + 1) = es.take i ++ [x] := by
  rw [List.take_add_one, List.take_set_of_le (Nat.le_refl _), List.getElem?_set_self h]
  rfl

theorem gsp_val (s : ByteArray) (hs : s.size ≤ 100000) (N : Nat) (hN : N = (bs s).count 46 + 1) : ∀ (q : Nat) (t : ByteArray) (i : Nat) (eh : Es), (bs t).count 46 = q → i + q + 1 = N → eh.length = N → Txs eh → t.size ≤ s.size →
    gsp_at0 (fun s => ((bs s).count 46 : Nat)) (fun s => Lib.indexByte (bs s) 46) s t i eh (.view 0 0 N) [some (.row 1 (eh.take i ++ txE (parts (bs t))))] := by
  have hcl : (bs s).count 46 ≤ s.size := by rw [size_bs]; exact List.count_le_length
  have w1 : IntKind.i64.wrap ((s.size : Int) + (1 : Int)) = (s.size : Int) + 1 := wrap_i64 (by omega)
  have w2 : IntKind.i64.wrap ((((bs s).count 46 : Nat) : Int) + (1 : Int)) = (N : Int) := by rw [wrap_i64 (by omega)]; omega
  have wN : (if IntKind.i64.wrap ((s.size : Int) + (1 : Int)) < IntKind.i64.wrap ((((bs s).count 46 : Nat) : Int) + (1 : Int)) then IntKind.i64.wrap ((s.size : Int) + (1 : Int)) else IntKind.i64.wrap ((((bs s).count 46 : Nat) : Int) + (1 : Int))) = (N : Int) := by
    rw [w1, w2]
    by_cases h : (s.size : Int) + 1 < (N : Int)
    · rw [if_pos h]; omega
    · rw [if_neg h]
  have wM : IntKind.i64.wrap ((N : Int) - 1) = (N : Int) - 1 := wrap_i64 (by omega)
  intro q
  induction q with
  | zero =>
    intro t i eh hq hi hl hx ht
    obtain ⟨x, hx1⟩ := hx.get (i := i) (by omega)
    have wi : IntKind.i64.wrap ((i : Int) + (1 : Int)) = (i : Int) + 1 := wrap_i64 (by omega)
    have e := @gsp_0_2 (fun s => ((bs s).count 46 : Nat)) (fun s => Lib.indexByte (bs s) 46) s t i eh x
    simp only [wN, wM, wi, Int.toNat_natCast, Nat.zero_add] at e
    have e3 := e (by omega) ⟨by omega, by omega, by rw [List.length_set]; omega⟩ hx1 (by omega)
    have hp : parts (bs t) = [bs t] := by
      have := parts_len (bs t)
      obtain ⟨p, r, hpr⟩ := parts_cons (bs t)
      by_cases hix : Lib.indexByte (bs t) 46 < 0
      · exact parts_none hix
      · obtain ⟨h1, h2⟩ := parts_some (l := bs t) rfl (by omega)
        obtain ⟨p', r', hpr'⟩ := parts_cons ((bs t).drop ((Lib.indexByte (bs t) 46).toNat + 1))
        rw [h2, hpr', hq] at this
        simp at this
    rw [hp]
    have h4 : ((i : Int) + 1 - 0).toNat = N := by omega
    rw [h4, set_last (by omega)] at e3
    exact e3
  | succ q ih =>
    intro t i eh hq hi hl hx ht
    obtain ⟨x, hx1⟩ := hx.get (i := i) (by omega)
    have wi : IntKind.i64.wrap ((i : Int) + (1 : Int)) = ((i + 1 : Nat) : Int) := by rw [wrap_i64 (by omega)]; omega
    have hix : ¬ (Lib.indexByte (bs t) 46 < 0) := by
      intro h
      have h1 := parts_none h
      have h2 := parts_len (bs t)
      rw [h1, hq] at h2
      simp at h2
    obtain ⟨h1, h2⟩ := parts_some (l := bs t) rfl (by omega)
    generalize hm : Lib.indexByte (bs t) 46 = m at *
    obtain ⟨k, rfl⟩ : ∃ k : Nat, m = k := ⟨m.toNat, by omega⟩
    rw [Int.toNat_natCast] at h1 h2
    rw [← size_bs] at h1
    have wk0 : IntKind.i64.wrap ((k : Int) + (0 : Int)) = (k : Int) := by rw [wrap_i64 (by omega)]; omega
    have wk1 : IntKind.i64.wrap ((k : Int) + ((1 : Nat) : Int)) = ((k + 1 : Nat) : Int) := by rw [wrap_i64 (by omega)]; omega
    have hcnt : (bs (t.extract (k + 1) t.size)).count 46 = q := by
      have h5 := parts_len (bs t)
      have h6 := parts_len ((bs t).drop (k + 1))
      rw [h2, List.length_cons, h6, hq] at h5
      rw [bs_ext, List.take_of_length_le (by rw [List.length_drop, ← size_bs]; omega)]
      omega
    have g := ih (t.extract (k + 1) t.size) (i + 1) (eh.set i [D.str (t.extract 0 k)]) hcnt (by omega) (by rw [List.length_set]; exact hl) (hx.set _ _) (by
      rw [size_bs, bs_ext, List.length_take, List.length_drop, ← size_bs]; omega)
    have e := @gsp_0_1 (fun s => ((bs s).count 46 : Nat)) (fun s => Lib.indexByte (bs s) 46) s t i eh x (.view 0 0 N) [some (.row 1 (eh.take i ++ txE (parts (bs t))))]
    simp only [hm, wN, wM, wi, wk0, wk1, Int.toNat_natCast, Nat.zero_add] at e
    refine e (by omega) (by omega) (hx.set _ _).flat (by omega) hx1 (by omega) (by omega) (by rw [← hm]; exact idx42 t) ?_
    have e5 : (eh.set i [D.str (t.extract 0 k)]).take (i + 1) ++ txE (parts (bs (t.extract (k + 1) t.size))) = eh.take i ++ txE (parts (bs t)) := by
      rw [take_set (by omega), h2, bs_ext, List.take_of_length_le (l := (bs t).drop (k + 1)) (by rw [List.length_drop, ← size_bs]; omega)]
      have e6 : t.extract 0 k = tx ((bs t).take k) := by
        rw [← tx_bs (t.extract 0 k), bs_ext]; rfl
      rw [e6]
      simp [txE]
    rw [e5] at g
    exact g
theorem split33 (s : ByteArray) (hs : s.size ≤ 100000) : Ret P T 33 [.str s, .str (ByteArray.mk #[46]), .int .i64 0, .int .i64 (-1)] [] (.slice true (txE (parts (bs s))) none) [] := by
  have hcl : (bs s).count 46 ≤ s.size := by rw [size_bs]; exact List.count_le_length
  have w1 : IntKind.i64.wrap ((s.size : Int) + (1 : Int)) = (s.size : Int) + 1 := wrap_i64 (by omega)
  have w2 : IntKind.i64.wrap ((((bs s).count 46 : Nat) : Int) + (1 : Int)) = (((bs s).count 46 + 1 : Nat) : Int) := by rw [wrap_i64 (by omega)]; omega
  have wN : (if IntKind.i64.wrap ((s.size : Int) + (1 : Int)) < IntKind.i64.wrap ((((bs s).count 46 : Nat) : Int) + (1 : Int)) then IntKind.i64.wrap ((s.size : Int) + (1 : Int)) else IntKind.i64.wrap ((((bs s).count 46 : Nat) : Int) + (1 : Int))) = (((bs s).count 46 + 1 : Nat) : Int) := by
    rw [w1, w2]
    by_cases h : (s.size : Int) + 1 < (((bs s).count 46 + 1 : Nat) : Int)
    · rw [if_pos h]; omega
    · rw [if_neg h]
  have e := @gsp_in_0 (fun s => ((bs s).count 46 : Nat)) (fun s => Lib.indexByte (bs s) 46) s (.view 0 0 ((bs s).count 46 + 1)) [some (.row 1 (txE (parts (bs s))))]
  simp only [wN, Int.toNat_natCast] at e
  have hT : Txs (List.replicate ((bs s).count 46 + 1) [D.str (ByteArray.mk #[])]) := fun c hc => ⟨_, (List.eq_of_mem_replicate hc)⟩
  have g := gsp_val s hs _ rfl ((bs s).count 46) s 0 (List.replicate ((bs s).count 46 + 1) [D.str (ByteArray.mk #[])]) rfl (by omega) (by simp) hT (Nat.le_refl _)
  rw [List.take_zero, List.nil_append] at g
  have r := e hT.flat (by omega) (cnt41 s) g
  have hl : (txE (parts (bs s))).length = (bs s).count 46 + 1 := by rw [txE, List.length_map, parts_len]
  refine Ret.froz (F := fun _ => true) r rfl (cs := [0 + ((bs s).count 46 + 1) ≤ (txE (parts (bs s))).length, FlatEs (txE (parts (bs s)))]) ?_ ?_
  · show some _ = _
    rw [List.drop_zero, List.take_of_length_le (by rw [hl]; exact Nat.le_refl _)]
  · intro c hc
    simp only [List.mem_cons, List.not_mem_nil, or_false] at hc
    rcases hc with rfl | rfl
    · omega
    · exact flat_tx _
theorem split26 (s : ByteArray) (hs : s.size ≤ 100000) : Ret P T 26 [.str s, .str (ByteArray.mk #[46])] [] (.slice true (txE (parts (bs s))) none) [] :=
  spl_in_0 (split33 s hs)

end Go.Proofs.YtlccdfilbiipmaaDoor.ordk
