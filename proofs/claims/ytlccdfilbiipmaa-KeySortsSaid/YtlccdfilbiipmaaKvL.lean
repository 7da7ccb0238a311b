/- The laws KeySorts and KeyAlike. -/
import Derived.Test.YtlccdfilbiipmaaKvST
import Derived.Test.YtlccdfilbiipmaaKvI
namespace Go.Proofs.Ytlccdfilbiipmaa.ordk
open Go Ytlccdfilbiipmaa.GD valk
set_option linter.unusedVariables false
set_option linter.unusedSimpArgs false
set_option maxRecDepth 100000

/-! ### bytes turned round -/
theorem xor8_nat {a b : Nat} (ha : a < 256) (hb : b < 256) : xorW .u8 (a : Int) (b : Int) = ((a ^^^ b : Nat) : Int) := by
  have hlt : a ^^^ b < 2 ^ 8 := Nat.xor_lt_two_pow (by omega) (by omega)
  have hs : IntKind.u8.signed = false := rfl
  have hb2 : (2 ^ IntKind.u8.bits : Int) = 256 := by decide
  have h8 : IntKind.u8.bits = 8 := rfl
  unfold xorW IntKind.wrap
  simp only [hs, hb2, Bool.false_and, Bool.false_eq_true, if_false]
  rw [BitVec.toNat_xor, BitVec.toNat_ofInt, BitVec.toNat_ofInt, h8]
  have e1 : ((a : Int) % ((2 ^ 8 : Nat) : Int)).toNat = a := by omega
  have e2 : ((b : Int) % ((2 ^ 8 : Nat) : Int)).toNat = b := by omega
  rw [e1, e2]
  omega
theorem xor8_le (a b : Int) : 0 ≤ xorW .u8 a b ∧ xorW .u8 a b ≤ 255 := by
  have hs : IntKind.u8.signed = false := rfl
  have hb2 : (2 ^ IntKind.u8.bits : Int) = 256 := by decide
  unfold xorW IntKind.wrap
  simp only [hs, hb2, Bool.false_and, Bool.false_eq_true, if_false]
  omega
theorem flip_nat : ∀ a : Fin 256, a.val ^^^ 255 = 255 - a.val := by decide
theorem flip {x : Int} (h : 0 ≤ x ∧ x ≤ 255) : xorW .u8 x 255 = 255 - x := by
  have e := xor8_nat (a := x.toNat) (b := 255) (by omega) (by omega)
  have e2 : (x.toNat : Int) = x := by omega
  rw [e2] at e
  have e3 := flip_nat ⟨x.toNat, by omega⟩
  simp only at e3
  have e4 : ((255 : Nat) : Int) = 255 := rfl
  rw [e4] at e
  rw [e, e3]
  omega
theorem same8 {x : Int} (h : 0 ≤ x ∧ x ≤ 255) : xorW .u8 x 0 = x := by
  have e := xor8_nat (a := x.toNat) (b := 0) (by omega) (by omega)
  have e2 : (x.toNat : Int) = x := by omega
  rw [e2, Nat.xor_zero] at e
  have e4 : ((0 : Nat) : Int) = 0 := rfl
  rw [e4, e2] at e
  exact e
theorem mono_tn (ed : Es) (i : Nat) : Mono (fun x => xorW .u8 x (tnO ed i)) (if isDn ed i then -1 else 1) := by
  unfold tnO
  cases isDn ed i with
  | true =>
    refine ⟨.inr rfl, fun x y hx hy => ?_⟩
    simp only [if_true]
    rw [flip hx, flip hy]
    unfold sgnU
    by_cases h : x < y
    · have h1 : ¬ 255 - x < 255 - y := by omega
      have h2 : 255 - x > 255 - y := by omega
      rw [if_neg h1, if_pos h2, if_pos h]; rfl
    · by_cases h' : x > y
      · have h1 : 255 - x < 255 - y := by omega
        rw [if_pos h1, if_neg h, if_pos h']; rfl
      · have h1 : ¬ 255 - x < 255 - y := by omega
        have h2 : ¬ 255 - x > 255 - y := by omega
        rw [if_neg h1, if_neg h2, if_neg h, if_neg h']; rfl
  | false =>
    refine ⟨.inl rfl, fun x y hx hy => ?_⟩
    simp only [Bool.false_eq_true, if_false]
    rw [same8 hx, same8 hy]
    omega

/-! ### rows -/
theorem PlainV.nice {c : Cs} (h : PlainV c) : Nice c := by
  rcases h with ⟨h, _⟩ | ⟨h, _⟩
  · exact .inl h
  · exact .inr ⟨31, h⟩
theorem PlainV.len {c : Cs} (h : PlainV c) : (encV c).length ≤ 700000 := by
  rcases h with ⟨_, h⟩ | ⟨_, h⟩ <;> omega
theorem plain_ok {c : Cs} (hv : VS c) (h : PlainV c) : ValOk c 0 := by
  refine val21 hv 0 (by omega) ?_
  rcases h with ⟨h, _⟩ | ⟨h, _⟩
  · exact .inl h
  · exact .inr ⟨31, h, by omega⟩
theorem encRow_len (ed : Es) : ∀ (i : Nat) (l : Es), (∀ c ∈ l, PlainV c) → (encRow ed i l).length ≤ l.length * 700000
  | _, [], _ => by simp [encRow]
  | i, c :: r, h => by
    have h1 := (h c (by simp)).len
    have h2 := encRow_len ed (i + 1) r (fun x hx => h x (List.mem_cons_of_mem _ hx))
    rw [encRow, List.length_append, turnI_len, List.length_cons, Nat.add_mul]
    omega
theorem encRow_bytes (ed : Es) : ∀ (i : Nat) (l : Es), ∀ x ∈ encRow ed i l, 0 ≤ x ∧ x ≤ 255
  | _, [], x, hx => by simp [encRow] at hx
  | i, c :: r, x, hx => by
    rw [encRow, List.mem_append] at hx
    rcases hx with hx | hx
    · obtain ⟨y, _, rfl⟩ := List.mem_map.1 hx
      exact xor8_le _ _
    · exact encRow_bytes ed (i + 1) r x hx
theorem row_lex (ed ea eb : Es) (hl : ea.length = eb.length) (ha : ∀ r ∈ ea, VS r ∧ PlainV r) (hb : ∀ r ∈ eb, VS r ∧ PlainV r) : ∀ (m i : Nat), i + m = ea.length → lexI (encRow ed i (ea.drop i)) (encRow ed i (eb.drop i)) = byN ea eb ed m i := by
  intro m
  induction m with
  | zero =>
    intro i hi
    rw [List.drop_of_length_le (by omega), List.drop_of_length_le (by omega), encRow, lexI, byN]
  | succ m ih =>
    intro i hi
    have h1 : i < ea.length := by omega
    have h2 : i < eb.length := by omega
    have pa := ha _ (List.getElem_mem h1)
    have pb := hb _ (List.getElem_mem h2)
    rw [List.drop_eq_getElem_cons h1, List.drop_eq_getElem_cons h2, encRow, encRow, byN]
    have hc := enc_cod pa.1 pb.1 pa.2.nice pb.2.nice _ _ (mono_tn ed i) (encRow ed (i + 1) (ea.drop (i + 1))) (encRow ed (i + 1) (eb.drop (i + 1)))
    have e : ∀ l : List Int, turnI (tnO ed i) l = l.map fun x => xorW .u8 x (tnO ed i) := fun l => rfl
    rw [e, e, hc, ih (i + 1) (by omega)]
    congr 1
    unfold byI
    rw [val_lt h1, val_lt h2]
    cases isDn ed i <;> simp

theorem key9 (xl : Bool) (el : Es) (xd : Bool) (ed : Es) (h31 : el.length ≤ 31) (hv : ∀ r ∈ el, VS r ∧ PlainV r) (hd : ∀ r ∈ ed, ∃ b, r = [D.bool b]) :
    Ret P T 9 [.slice xl el none, .slice xd ed none] [] (.slice (decide (0 < el.length)) (rows (encRow ed 0 el)) none) [] := by
  have hmx : (31 : Nat) ≤ maxLen := by decide
  have hlen := encRow_len ed 0 el (fun c hc => (hv c hc).2)
  obtain ⟨x, rfl, g⟩ := ken_key xl el xd ed (by omega) hd (fun r hr => ⟨(hv r hr).1, plain_ok (hv r hr).1 (hv r hr).2⟩) (encRow ed 0 el) (by omega) rfl
  exact g

open Classical in
noncomputable def plR (es : Es) : Bool := if h : es.length ≤ maxLen ∧ ∀ c ∈ es, VS c then (plain8 es h.1 h.2).choose else false
theorem plR_ok {es : Es} (hl : es.length ≤ maxLen) (hv : ∀ c ∈ es, VS c) : (plR es = true → es.length ≤ 30 ∧ ∀ c ∈ es, PlainV c) ∧ ∀ xb, Ret P T 8 [.slice xb es none] [] (.bool (plR es)) [] := by
  unfold plR
  rw [dif_pos ⟨hl, hv⟩]
  exact (plain8 es hl hv).choose_spec

theorem bytes_len_ok (l : List Int) (h : l.length ≤ 21700000) : l.length ≤ maxLen := by
  have : maxLen = 9223372036854775807 := rfl
  omega

/-- KeySorts. -/
theorem law3 (xa : Bool) {ea : Es} (xb : Bool) {eb : Es} (xd : Bool) {ed : Es} (ha : ∀ r ∈ ea, VS r) (hb : ∀ r ∈ eb, VS r) (hd : ∀ r ∈ ed, ∃ b, r = [D.bool b]) (la : ea.length ≤ maxLen) (lb : eb.length ≤ maxLen) :
    Ret P T 3 [.slice xa ea none, .slice xb eb none, .slice xd ed none] [] (.bool true) [] := by
  have pa := plR_ok la ha
  have pb := plR_ok lb hb
  let enX : Es → Bool := fun es => decide (0 < es.length)
  let enE : Es → Es → Es := fun es ed => rows (encRow ed 0 es)
  let sg : Es → Es → Int := fun a b => lexI (bI a) (bI b)
  cases h1 : plR ea with
  | false => exact lso_in_3 (pl := plR) (enX := enX) (enE := enE) (sg := sg) (by_ := byE) (cV := cmpV) h1 (pa.2 xa) awake7
  | true =>
    cases h2 : plR eb with
    | false => exact lso_in_2 (pl := plR) (enX := enX) (enE := enE) (sg := sg) (by_ := byE) (cV := cmpV) h1 h2 (pb.2 xb) (pa.2 xa) awake7
    | true =>
      by_cases h3 : ((List.length ed : Nat) : Int) > 50
      · exact lso_in_0 (pl := plR) (enX := enX) (enE := enE) (sg := sg) (by_ := byE) (cV := cmpV) h1 h2 h3 (pb.2 xb) (pa.2 xa) awake7
      · obtain ⟨la30, qa⟩ := pa.1 h1
        obtain ⟨lb30, qb⟩ := pb.1 h2
        have hmin : (if ((List.length eb : Nat) : Int) < ((List.length ea : Nat) : Int) then ((List.length eb : Nat) : Int) else ((List.length ea : Nat) : Int)) = ((min ea.length eb.length : Nat) : Int) := by split <;> omega
        have e := @lso_in_1 plR enX enE sg byE cmpV xa ea xb eb xd ed
        simp only [hmin, Int.toNat_natCast] at e
        have hA : ∀ r ∈ ea.take (min ea.length eb.length), VS r ∧ PlainV r := fun r hr => ⟨ha r (List.mem_of_mem_take hr), qa r (List.mem_of_mem_take hr)⟩
        have hB : ∀ r ∈ eb.take (min ea.length eb.length), VS r ∧ PlainV r := fun r hr => ⟨hb r (List.mem_of_mem_take hr), qb r (List.mem_of_mem_take hr)⟩
        have lA : (ea.take (min ea.length eb.length)).length = min ea.length eb.length := by simp
        have lB : (eb.take (min ea.length eb.length)).length = min ea.length eb.length := by simp
        have kA := key9 xa _ xd ed (by omega) hA hd
        have kB := key9 xb _ xd ed (by omega) hB hd
        have hlenA := encRow_len ed 0 _ (fun c hc => (hA c hc).2)
        have hA2 : (encRow ed 0 (ea.take (min ea.length eb.length))).length ≤ 21700000 := by rw [lA] at hlenA; omega
        have s10 := sign10 (decide (0 < (ea.take (min ea.length eb.length)).length)) (encRow ed 0 (ea.take (min ea.length eb.length))) (decide (0 < (eb.take (min ea.length eb.length)).length)) (encRow ed 0 (eb.take (min ea.length eb.length))) (bytes_len_ok _ hA2)
        have b11 := by41 xa xb xd (fun r hr => (hA r hr).1) (fun r hr => (hB r hr).1) hd (by omega) (by omega)
        have hlex := row_lex ed _ _ (lA.trans lB.symm) hA hB (min ea.length eb.length) 0 (by omega)
        rw [List.drop_zero, List.drop_zero] at hlex
        have hby : byE (ea.take (min ea.length eb.length)) (eb.take (min ea.length eb.length)) ed = byN (ea.take (min ea.length eb.length)) (eb.take (min ea.length eb.length)) ed (min ea.length eb.length) 0 := by
          unfold byE; rw [lA, lB, Nat.max_self]
        have hsg : ∀ A B : List Int, sg (rows A) (rows B) = lexI A B := fun A B => by show lexI (bI (rows A)) (bI (rows B)) = _; rw [bI_rows, bI_rows]
        have g := e h1 h2 h3 (by rw [hsg, hlex, hby]) (allB_rows (encRow_bytes ed 0 _)) kA ⟨by omega, by omega⟩ b11 ⟨by omega, by omega⟩ (by rw [hsg]; exact s10) kB (pb.2 xb) (pa.2 xa) awake7
        simp only [beq_self_eq_true] at g
        exact g

/-! ### KeyAlike -/
theorem lexI_pre : ∀ (p a b : List Int), lexI (p ++ a) (p ++ b) = lexI a b
  | [], a, b => rfl
  | x :: p, a, b => by rw [List.cons_append, List.cons_append, lexI, sgn_self, lx_zero rfl]; exact lexI_pre p a b
theorem encRow_app (ed : Es) : ∀ (i : Nat) (a b : Es), encRow ed i (a ++ b) = encRow ed i a ++ encRow ed (i + a.length) b
  | i, [], b => by simp [encRow]
  | i, x :: a, b => by
    rw [List.cons_append, encRow, encRow, encRow_app ed (i + 1) a b, List.append_assoc, List.length_cons]
    congr 3
    omega
theorem tail_lex (ed ea : Es) {u v : Cs} (hu : VS u) (hv : VS v) (pu : PlainV u) (pv : PlainV v) :
    lexI (encRow ed 0 (ea ++ [u])) (encRow ed 0 (ea ++ [v])) = (if isDn ed ea.length then -1 else 1) * cmpV u v := by
  rw [encRow_app, encRow_app, lexI_pre, Nat.zero_add, encRow, encRow, encRow, encRow]
  have hc := enc_cod hu hv pu.nice pv.nice _ _ (mono_tn ed ea.length) [] []
  have e : ∀ l : List Int, turnI (tnO ed ea.length) l = l.map fun x => xorW .u8 x (tnO ed ea.length) := fun l => rfl
  rw [e, e, hc, lexI]
  generalize (if isDn ed ea.length = true then (-1 : Int) else 1) * cmpV u v = z
  unfold lx
  split
  · rfl
  · rename_i h; simp at h; rw [h]

theorem vs_num (k : Int) (hk : k = 3 ∨ k = 4) {n : Int} (hn : -9223372036854775808 ≤ n ∧ n ≤ 9223372036854775807) : VS (valk.val k n (ByteArray.mk #[]) false [] false [] false []) :=
  .mk k n _ _ _ _ _ _ _ [] (by omega) hn (by decide) rfl (fun x hx => by cases hx) (by decide) (by decide) (by decide) (fun _ => rfl) (fun _ => rfl) (fun _ => rfl) (fun r hr => by cases hr) (fun nm c hm => by cases hm) (fun r hr => by cases hr)
theorem plain_num (k : Int) (hk : k = 3 ∨ k = 4) (n : Int) : PlainV (valk.val k n (ByteArray.mk #[]) false [] false [] false []) :=
  .inr ⟨.leaf 31 k n _ _ _ _ _ (by omega), by rw [encL_n (by omega)]; omega⟩

section
variable (n0 : Int) (hn0 : -2147483648 ≤ n0 ∧ n0 ≤ 2147483647) (xa : Bool) {ea : Es} {u v : Cs} (ha : ∀ r ∈ ea, VS r) (hu : VS u) (hv : VS v) (la : ea.length ≤ maxLen)
include hn0 ha hu hv la
theorem law15 : Ret P T 15 [.int .i32 n0, .slice xa ea none, .agg u, .agg v] [] (.bool true) [] := by
  have hmx : (31 : Nat) ≤ maxLen := by decide
  have hvu := hu
  have hvv := hv
  obtain ⟨k, n, s, xb, eb, xf, ef, xl, el, rfl⟩ := hu.get
  obtain ⟨k', n', s', xb', eb', xf', ef', xl', el', rfl⟩ := hv.get
  have hbc : ∀ r ∈ [valk.val k n s xb eb xf ef xl el, valk.val k' n' s' xb' eb' xf' ef' xl' el'], VS r := fun r hr => by
    simp only [List.mem_cons, List.not_mem_nil, or_false] at hr
    rcases hr with rfl | rfl <;> assumption
  have pa := plR_ok la ha
  have pb := plR_ok (es := [valk.val k n s xb eb xf ef xl el, valk.val k' n' s' xb' eb' xf' ef' xl' el']) (show 2 ≤ maxLen by decide) hbc
  let enX : Es → Bool := fun es => decide (0 < es.length)
  let enE : Es → Es → Es := fun es ed => rows (encRow ed 0 es)
  let sg : Es → Es → Int := fun a b => lexI (bI a) (bI b)
  cases h1 : plR ea with
  | false => exact lal_in_2 (pl := plR) (enX := enX) (enE := enE) (sg := sg) (by_ := byE) (cV := cmpV) h1 awake7 (pa.2 xa)
  | true =>
    cases h2 : plR [valk.val k n s xb eb xf ef xl el, valk.val k' n' s' xb' eb' xf' ef' xl' el'] with
    | false => exact lal_in_1 (pl := plR) (enX := enX) (enE := enE) (sg := sg) (by_ := byE) (cV := cmpV) h1 h2 awake7 (pb.2 true) (pa.2 xa)
    | true =>
      obtain ⟨la30, qa⟩ := pa.1 h1
      obtain ⟨_, qb⟩ := pb.1 h2
      have pu := qb (valk.val k n s xb eb xf ef xl el) (by simp)
      have pv := qb (valk.val k' n' s' xb' eb' xf' ef' xl' el') (by simp)
      generalize hU : valk.val k n s xb eb xf ef xl el = U at *
      generalize hV : valk.val k' n' s' xb' eb' xf' ef' xl' el' = V at *
      have hUA : ∀ r ∈ ea ++ [U], VS r ∧ PlainV r := fun r hr => by
        rcases List.mem_append.1 hr with h | h
        · exact ⟨ha r h, qa r h⟩
        · simp only [List.mem_singleton] at h; subst h; exact ⟨hvu, pu⟩
      have hVA : ∀ r ∈ ea ++ [V], VS r ∧ PlainV r := fun r hr => by
        rcases List.mem_append.1 hr with h | h
        · exact ⟨ha r h, qa r h⟩
        · simp only [List.mem_singleton] at h; subst h; exact ⟨hvv, pv⟩
      have lU : (ea ++ [U]).length = ea.length + 1 := by simp
      have lV : (ea ++ [V]).length = ea.length + 1 := by simp
      let dn : Es := (List.replicate (ea.length + 1) [D.bool false]).set ea.length [D.bool true]
      have hdl : dn.length = ea.length + 1 := by simp [dn]
      have hdb : ∀ r ∈ dn, ∃ b, r = [D.bool b] := by
        intro r hr
        rcases List.mem_or_eq_of_mem_set hr with h | h
        · exact ⟨false, (List.mem_replicate.1 h).2⟩
        · exact ⟨true, h⟩
      have hdn : isDn dn ea.length = true := by simp [isDn, dn]
      have hn1 : isDn [] ea.length = false := rfl
      have hw0 : IntKind.i64.wrap n0 = n0 := wrap_i64 (by omega)
      have v3 := vs_num 3 (.inl rfl) (n := n0) (by omega)
      have v4 := vs_num 4 (.inr rfl) (n := n0) (by omega)
      have p3 := plain_num 3 (.inl rfl) n0
      have p4 := plain_num 4 (.inr rfl) n0
      have one : ∀ {c : Cs}, VS c → PlainV c → ∀ r ∈ [c], VS r ∧ PlainV r := fun h h' r hr => by simp only [List.mem_singleton] at hr; subst hr; exact ⟨h, h'⟩
      have nod : ∀ r ∈ ([] : Es), ∃ b, r = [D.bool b] := fun r hr => by cases hr
      have k3 := key9 true [valk.val 3 n0 (ByteArray.mk #[]) false [] false [] false []] false [] (by simp) (one v3 p3) nod
      have k4 := key9 true [valk.val 4 n0 (ByteArray.mk #[]) false [] false [] false []] false [] (by simp) (one v4 p4) nod
      have kU := key9 true (ea ++ [U]) false [] (by omega) hUA nod
      have kV := key9 true (ea ++ [V]) false [] (by omega) hVA nod
      have skip : ∀ {es : Es} {x : Bool} {r : Es} (t : Nat), Ret P T 9 [.slice true es none, .slice false [] none] [] (.slice x r none) [] → Ret P T 9 [.slice true es (some 0), .slice false [] none] [some (.tok t 6)] (.slice x r none) [some (.tok t 6)] :=
        fun t g => g.skip (F := fun _ => false) (args := [.slice true _ (some 0), .slice false [] none]) rfl rfl (fun c hc => (List.not_mem_nil hc).elim)
      have hsame : (GD.bytesOf (enE [valk.val 3 n0 (ByteArray.mk #[]) false [] false [] false []] [])).toList = (GD.bytesOf (enE [valk.val 4 n0 (ByteArray.mk #[]) false [] false [] false []] [])).toList := by
        have e3 : encV (valk.val 3 n0 (ByteArray.mk #[]) false [] false [] false []) = encV (valk.val 4 n0 (ByteArray.mk #[]) false [] false [] false []) := by
          rw [encV_eq, encV_eq]; unfold encB; rw [if_pos (by omega), if_pos (by omega)]; rfl
        show (GD.bytesOf (rows (encRow [] 0 [_]))).toList = (GD.bytesOf (rows (encRow [] 0 [_]))).toList
        simp only [encRow, e3]
      have hlU := encRow_len [] 0 _ (fun c hc => (hUA c hc).2)
      have hlU2 := encRow_len dn 0 _ (fun c hc => (hUA c hc).2)
      have hU2 : (encRow [] 0 (ea ++ [U])).length ≤ 21700000 := by rw [lU] at hlU; omega
      have hU3 : (encRow dn 0 (ea ++ [U])).length ≤ 21700000 := by rw [lU] at hlU2; omega
      have s1 := sign10 (decide (0 < (ea ++ [U]).length)) (encRow [] 0 (ea ++ [U])) (decide (0 < (ea ++ [V]).length)) (encRow [] 0 (ea ++ [V])) (bytes_len_ok _ hU2)
      have s2 := sign10 (decide (0 < (ea ++ [U]).length)) (encRow dn 0 (ea ++ [U])) (decide (0 < (ea ++ [V]).length)) (encRow dn 0 (ea ++ [V])) (bytes_len_ok _ hU3)
      have hsg : ∀ A B : List Int, sg (rows A) (rows B) = lexI A B := fun A B => by show lexI (bI (rows A)) (bI (rows B)) = _; rw [bI_rows, bI_rows]
      have t1 := tail_lex [] ea hvu hvv pu pv
      have t2 := tail_lex dn ea hvu hvv pu pv
      rw [hn1] at t1
      rw [hdn] at t2
      simp only [Bool.false_eq_true, if_false, if_true, Int.one_mul] at t1 t2
      have hfl : FlatEs dn := fun c hc => by obtain ⟨b, rfl⟩ := hdb c hc; rfl
      obtain ⟨xU, rfl, gU⟩ := kew_key true (ea ++ [U]) (ea.length + 1) dn hfl (by omega) hdb (fun r hr => ⟨(hUA r hr).1, plain_ok (hUA r hr).1 (hUA r hr).2⟩) (encRow dn 0 (ea ++ [U])) (by omega) rfl
      have hlV2 := encRow_len dn 0 _ (fun c hc => (hVA c hc).2)
      obtain ⟨xV, rfl, gV⟩ := kew_key true (ea ++ [V]) (ea.length + 1) dn hfl (by omega) hdb (fun r hr => ⟨(hVA r hr).1, plain_ok (hVA r hr).1 (hVA r hr).2⟩) (encRow dn 0 (ea ++ [V])) (by omega) rfl
      have c22 := cmp33 hvu hvv
      have hall6 : (List.all ea fun c => c.length == (6 : Nat)) = true := List.all_eq_true.2 fun c hc => by
        obtain ⟨a1, a2, a3, a4, a5, a6, a7, a8, a9, rfl⟩ := (ha c hc).get
        rfl
      rw [hdl] at gU gV
      subst hU
      subst hV
      have e := @lal_in_0 plR enX enE sg byE cmpV n0 xa ea k n s xb eb xf ef xl el k' n' s' xb' eb' xf' ef' xl' el'
      have hset : ((List.replicate (((ea ++ [valk.val k n s xb eb xf ef xl el]).length : Nat) : Int).toNat [D.bool false]).set ((0 : Nat) + ((ea.length : Nat) : Int).toNat) [D.bool true] : Es) = dn := by
        simp [dn]
      have hlenU : (((ea ++ [valk.val k n s xb eb xf ef xl el]).length : Nat) : Int).toNat = ea.length + 1 := by simp
      have htake : (List.take (ea.length + 1) (List.drop 0 dn)) = dn := by rw [List.drop_zero, List.take_of_length_le (by omega)]
      rw [hset] at e
      simp only [hlenU, htake, hw0] at e
      have g := e h1 h2 hsame (by rw [hsg]; exact t1) (by rw [hsg]; exact s2) hfl (by rw [Nat.zero_add]; exact gV) (by rw [Nat.zero_add]; exact gU) c22 (allB_rows (encRow_bytes [] 0 _)) (allB_rows (encRow_bytes [] 0 _)) awake7 (by rw [hsg]; exact s1)
        (skip _ kV) (skip _ kU) (b7_4 := false) (by simp) ⟨by omega, by omega⟩ ⟨by omega, by simp, by simp; omega, by simp; omega⟩ ⟨by omega, by omega, trivial⟩ ⟨trivial, by omega, hall6⟩ (skip 1 k4) (skip 1 k3) (pb.2 true) (pa.2 xa)
      have hR := cmp_R hvu hvv
      have hwr : IntKind.i64.wrap ((0 : Int) - cmpV (valk.val k n s xb eb xf ef xl el) (valk.val k' n' s' xb' eb' xf' ef' xl' el')) = -cmpV (valk.val k n s xb eb xf ef xl el) (valk.val k' n' s' xb' eb' xf' ef' xl' el') := wrap_neg hR.1
      have fin : (sg (enE (ea ++ [valk.val k n s xb eb xf ef xl el]) dn) (enE (ea ++ [valk.val k' n' s' xb' eb' xf' ef' xl' el']) dn) == IntKind.i64.wrap ((0 : Int) - sg (enE (ea ++ [valk.val k n s xb eb xf ef xl el]) []) (enE (ea ++ [valk.val k' n' s' xb' eb' xf' ef' xl' el']) []))) = true := by
        rw [hsg, hsg, t1, t2, hwr]
        simp
      have fin' : Ret P T 15 [.int .i32 n0, .slice xa ea none, .agg (valk.val k n s xb eb xf ef xl el), .agg (valk.val k' n' s' xb' eb' xf' ef' xl' el')] [] (.bool (sg (enE (ea ++ [valk.val k n s xb eb xf ef xl el]) dn) (enE (ea ++ [valk.val k' n' s' xb' eb' xf' ef' xl' el']) dn) == IntKind.i64.wrap ((0 : Int) - sg (enE (ea ++ [valk.val k n s xb eb xf ef xl el]) []) (enE (ea ++ [valk.val k' n' s' xb' eb' xf' ef' xl' el']) [])))) [] := g
      rw [fin] at fin'
      exact fin'
theorem law5 : Ret P T 5 [.int .i32 n0, .slice xa ea none, .agg (u ++ v)] [] (.bool true) [] := by
  have g := law15 n0 hn0 xa ha hu hv la
  obtain ⟨k, n, s, xb, eb, xf, ef, xl, el, rfl⟩ := hu.get
  obtain ⟨k', n', s', xb', eb', xf', ef', xl', el', rfl⟩ := hv.get
  exact lka_in_0 g awake7
end

end Go.Proofs.Ytlccdfilbiipmaa.ordk
