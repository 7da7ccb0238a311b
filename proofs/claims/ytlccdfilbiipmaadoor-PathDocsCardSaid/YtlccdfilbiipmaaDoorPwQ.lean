/- May: of any value it tells something; what may be is well formed. -/
import Derived.Test.YtlccdfilbiipmaaDoorPwP
namespace Go.Proofs.YtlccdfilbiipmaaDoor.ordk
open Go YtlccdfilbiipmaaDoor.GD valk
set_option linter.unusedVariables false
set_option linter.unusedSimpArgs false
set_option maxRecDepth 100000

/-- A list's items as fields. -/
def itF (dg : Int → ByteArray) : Nat → Es → Es
  | _, [] => []
  | i, c :: r => (D.str (dg i) :: c) :: itF dg (i + 1) r
theorem itF_len (dg : Int → ByteArray) : ∀ (i : Nat) (l : Es), (itF dg i l).length = l.length
  | _, [] => rfl
  | i, c :: r => by simp [itF, itF_len dg (i + 1) r]
theorem itF_get (dg : Int → ByteArray) : ∀ (i : Nat) (l : Es) (j : Nat), (itF dg i l)[j]? = (l[j]?).map fun c => D.str (dg ((i + j : Nat) : Int)) :: c
  | _, [], j => by simp [itF]
  | i, c :: r, 0 => by simp [itF]
  | i, c :: r, j + 1 => by
    simp only [itF, List.getElem?_cons_succ]
    rw [itF_get dg (i + 1) r j]
    congr 2
    funext c
    rw [show i + 1 + j = i + (j + 1) by omega]
theorem itF_mem (dg : Int → ByteArray) {i : Nat} {l : Es} {r : Cs} (h : r ∈ itF dg i l) : ∃ (j : Nat) (c : Cs), j < l.length ∧ r = D.str (dg ((i + j : Nat) : Int)) :: c ∧ c ∈ l := by
  obtain ⟨j, hj, e⟩ := List.getElem_of_mem h
  rw [itF_len] at hj
  have h1 := itF_get dg i l j
  rw [List.getElem?_eq_getElem (by rw [itF_len]; exact hj), List.getElem?_eq_getElem hj, e] at h1
  simp only [Option.map_some, Option.some.injEq] at h1
  exact ⟨j, l[j], hj, h1, List.getElem_mem hj⟩
theorem itF_of {dg : Int → ByteArray} {l : Es} {c : Cs} (h : c ∈ l) : ∃ nm, (D.str nm :: c) ∈ itF dg 0 l := by
  obtain ⟨j, hj, e⟩ := List.getElem_of_mem h
  have h1 := itF_get dg 0 l j
  rw [List.getElem?_eq_getElem hj, e] at h1
  exact ⟨_, List.mem_of_getElem? h1⟩

open Classical in
noncomputable def dgR (n : Int) : ByteArray := if h : ∃ t : ByteArray, t.size ≤ 100 ∧ Ret P T 56 [.int .i64 n] [] (.str t) [] then h.choose else (ByteArray.mk #[])
theorem dgR_ok {n : Int} (h0 : 0 ≤ n) (h1 : n < 1000000000000000000) : (dgR n).size ≤ 100 ∧ Ret P T 56 [.int .i64 n] [] (.str (dgR n)) [] := by
  have h := dig40 n h0 h1
  unfold dgR
  rw [dif_pos h]
  exact h.choose_spec
open Classical in
noncomputable def u8R (s : ByteArray) : Bool := if h : ∃ b, Ret P T 31 [.str s] [] (.bool b) [] then h.choose else false
theorem u8R_ok {s : ByteArray} (hs : s.size ≤ maxLen) : Ret P T 31 [.str s] [] (.bool (u8R s)) [] := by
  have h := utf38 s hs
  unfold u8R
  rw [dif_pos h]
  exact h.choose_spec

theorem encLs_it (dg : Int → ByteArray) : ∀ (i : Nat) (l : Es), (encLs l).length ≤ (encFs (itF dg i l)).length
  | _, [] => by simp [encLs]
  | i, c :: r => by
    have := encLs_it dg (i + 1) r
    rw [encLs, itF, encFs, encF]
    simp
    omega
section
variable {k n : Int} {s : ByteArray} {xb : Bool} {eb : Es} {xf : Bool} {ef : Es} {xl : Bool} {el : Es}
theorem encL_0 (hk : k = 1 ∨ k = 2 ∨ k = 12) : (encV (valk.val k n s xb eb xf ef xl el)).length = 1 := by
  rw [encV_eq]; unfold encB; rw [if_neg (by omega), if_neg (by omega), if_neg (by omega), if_neg (by omega), if_neg (by omega)]; rfl
theorem encL_n (hk : k = 3 ∨ k = 4 ∨ k = 10 ∨ k = 11) : (encV (valk.val k n s xb eb xf ef xl el)).length = 9 := by
  rw [encV_eq]; unfold encB; rw [if_pos hk, List.length_cons, be_len]
theorem encL_t (hk : k = 5) : (encV (valk.val k n s xb eb xf ef xl el)).length ≤ 2 * s.size + 3 := by
  have := txL_len s.toList
  have h2 : s.toList.length = s.size := (size_list s).symm
  rw [encV_eq]; unfold encB; rw [if_neg (by omega), if_pos hk, List.length_cons]; omega
theorem encL_i (hk : k = 9) : (encV (valk.val k n s xb eb xf ef xl el)).length ≤ 2 * eb.length + 3 := by
  have := txL_len (GD.bytesOf eb).toList
  have h2 : (GD.bytesOf eb).toList.length = (GD.bytesOf eb).size := (size_list _).symm
  have h3 : (GD.bytesOf eb).size = eb.length := by simp [GD.bytesOf, ByteArray.size]
  rw [encV_eq]; unfold encB; rw [if_neg (by omega), if_neg (by omega), if_pos hk, List.length_cons]; omega
theorem encL_b (hk : k = 8) : (encV (valk.val k n s xb eb xf ef xl el)).length = 9 + eb.length := by
  rw [encV_eq]; unfold encB; rw [if_neg (by omega), if_neg (by omega), if_neg (by omega), if_pos hk, List.length_cons, List.length_append, be_len]; simp [bI]; omega
theorem encL_c (hk : k = 6 ∨ k = 7) : (encV (valk.val k n s xb eb xf ef xl el)).length = 2 + (encFs ef).length + (encLs el).length := by
  rw [encV_eq]; unfold encB; rw [if_neg (by omega), if_neg (by omega), if_neg (by omega), if_neg (by omega), if_pos hk]; simp; omega
end

theorem bare_F {bn bs bb : Bool} {k n : Int} {s : ByteArray} {xb : Bool} {eb : Es} {xf : Bool} {ef : Es} {xl : Bool} {el : Es} {bf bl : Bool} (h : bareB bn bs bb bf bl (valk.val k n s xb eb xf ef xl el) = true) :
    (bf = false → ef = []) ∧ (bl = false → el = []) := by
  simp only [bareB, valk.val, Bool.and_eq_true] at h
  obtain ⟨_, _, _, h1, h2⟩ := h
  refine ⟨fun e => ?_, fun e => ?_⟩
  · subst e; simpa using h1
  · subst e; simpa using h2

section
variable (k n : Int) (s : ByteArray) (xb : Bool) (eb : Es) (xf : Bool) (ef : Es) (xl : Bool) (el : Es) (bs : List Int) (hs : s.size ≤ maxLen)
  (hb : eb = bs.map fun x => [D.int .u8 x]) (lb : eb.length ≤ maxLen) (lf : ef.length ≤ maxLen) (ll : el.length ≤ maxLen)
  (d : Int) (hd : 1 ≤ d ∧ d ≤ 33)
  (hf : d ≤ 32 → ∀ r ∈ ef, ∃ nm c, r = D.str nm :: c ∧ nm.size ≤ maxLen ∧ VS c ∧ ∃ p, Own c (d + 1) p)
  (hl : d ≤ 32 → ∀ r ∈ el, VS r ∧ ∃ p, Own r (d + 1) p)
include hs hb lb lf ll hd hf hl

omit hs hb lb lf hf in
theorem own_list (h32 : d ≤ 32) (h65 : el.length ≤ 65536) : ∃ x l ok, (ok = true → l.length ≤ 70000 ∧ (∀ r ∈ el, ∀ b : Nat, (b : Int) = 32 - d → WF b r) ∧ (encLs el).length + 45 ≤ 9 * l.length) ∧
    own_at0 bareB u8R (fun n w => rows (nums n w.toNat)) dgR (fun _ _ => x) (fun _ _ => rows l) (fun _ _ => ok) k n s xb eb xf ef xl el d false [] 0 0 (.tuple [.slice x (rows l) none, .bool ok]) [] := by
  have hmx : maxLen ≤ 9223372036854775807 := by decide
  have hx : ∀ (j : Nat), j < el.length → 0 ≤ (j : Int) ∧ (j : Int) < 1000000000000000000 := fun j hj => ⟨by omega, by omega⟩
  obtain ⟨x, l, ok, g0, hok⟩ := fields39 (decide (0 < el.length)) (itF dgR 0 el) d ⟨by omega, h32⟩ (by rw [itF_len]; exact ll) (fun r hr => by
    obtain ⟨j, c, hj, rfl, hc⟩ := itF_mem dgR hr
    have h1 := dgR_ok (n := ((0 + j : Nat) : Int)) (by omega) (by omega)
    exact ⟨_, c, rfl, Nat.le_trans h1.1 (by decide), (hl h32 c hc).1, (hl h32 c hc).2⟩)
  refine ⟨x, l, ok, fun h => ⟨(hok h).1, fun r hr b hb' => ?_, Nat.le_trans (Nat.add_le_add_right (encLs_it dgR 0 el) 45) (hok h).2.2⟩, ?_⟩
  · obtain ⟨nm, hm⟩ := itF_of (dg := dgR) hr
    exact (hok h).2.1 nm r hm b hb'
  · have key : ∀ (m i : Nat), i + m = el.length → ∀ xx : Bool, xx = decide (0 < i) → own_at0 bareB u8R (fun n w => rows (nums n w.toNat)) dgR (fun _ _ => x) (fun _ _ => rows l) (fun _ _ => ok) k n s xb eb xf ef xl el d xx ((itF dgR 0 el).take i) (i : Int) i (.tuple [.slice x (rows l) none, .bool ok]) [] := by
      intro m
      induction m with
      | zero =>
        intro i hi xx hxx
        have : i = el.length := by omega
        subst this
        subst hxx
        rw [List.take_of_length_le (by rw [itF_len]; omega)]
        refine own_0_1 (by omega) ?_
        exact g0.skip (F := fun _ => false) (args := [.slice (decide (0 < el.length)) (itF dgR 0 el) (some 0), .int .i64 d]) rfl rfl (fun c hc => (List.not_mem_nil hc).elim)
      | succ m ih =>
        intro i hi xx hxx
        have hlt : i < el.length := by omega
        have hg := itF_get dgR 0 el i
        rw [List.getElem?_eq_getElem hlt, Option.map_some, Nat.zero_add] at hg
        have htk : (itF dgR 0 el).take (i + 1) = (itF dgR 0 el).take i ++ [D.str (dgR (i : Int)) :: el[i]] := by
          rw [List.take_add_one, hg]; rfl
        have w1 : IntKind.i64.wrap ((i : Int) + 1) = ((i + 1 : Nat) : Int) := by rw [wrap_i64 (by omega)]; omega
        have g := ih (i + 1) (by omega) true (by simp)
        obtain ⟨ck, cn, cs, yb, cb, yf, cf, yl, cl, he⟩ := (hl h32 el[i] (List.getElem_mem hlt)).1.get
        rw [← w1, htk, he] at g
        have hgi : el[((i : Int)).toNat]? = some (valk.val ck cn cs yb cb yf cf yl cl) := by rw [Int.toNat_natCast, List.getElem?_eq_getElem hlt, he]
        have hdg := dgR_ok (n := (i : Int)) (by omega) (by omega)
        have hlen : ((itF dgR 0 el).take i).length = i := by rw [List.length_take, itF_len]; omega
        refine own_0_0 (by omega) ⟨hlen, by rw [hlen]; omega, rfl⟩ (by omega) hgi hdg.2 ?_
        rw [Bool.or_true]
        exact g
    exact key el.length 0 (by omega) false (by simp)

omit lb in
theorem own_one : ∃ p, Own (valk.val k n s xb eb xf ef xl el) d p := by
  have hmx : maxLen ≤ 9223372036854775807 := by decide
  have hbr := fun a b c e f => bare36 k n s xb eb xf ef xl el a b c e f
  have hu := u8R_ok hs
  let fxT : Es → Int → Bool := fun _ _ => false
  let feT : Es → Int → Es := fun _ _ => []
  let foT : Es → Int → Bool := fun _ _ => false
  have leafW : ∀ {a b c : Bool} (hk : k = 1 ∨ k = 2 ∨ k = 3 ∨ k = 4 ∨ k = 5 ∨ k = 8 ∨ k = 9 ∨ k = 10 ∨ k = 11 ∨ k = 12), bareB a b c false false (valk.val k n s xb eb xf ef xl el) = true → ∀ q : Nat, (q : Int) = 33 - d → WF q (valk.val k n s xb eb xf ef xl el) := by
    intro a b c hk hB q _
    obtain ⟨h1, h2⟩ := bare_F hB
    obtain rfl := h1 rfl
    obtain rfl := h2 rfl
    exact .leaf q k n s xb eb xf xl hk
  have n4 := num37 n 4 (by omega) (by omega)
  have n8 := num37 n 8 (by omega) (by omega)
  have n1 := num37 n 1 (by omega) (by omega)
  have l4 : ∀ m : Int, (rows (nums m 4)).length = 4 := fun m => by rw [rk_len, nums_len]
  by_cases k1 : k = 1
  · exact ⟨(false, [], bareB false false false false false (valk.val k n s xb eb xf ef xl el)), own_in_0 (u8 := u8R) (nmE := fun n w => rows (nums n w.toNat)) (dg := dgR) (fx := fxT) (fe := feT) (fo := foT) k1 (hbr _ _ _ _ _), fun h => ⟨by simp, leafW (by omega) h, by rw [encL_0 (by omega)]; omega⟩⟩
  by_cases k2 : k = 2
  · exact ⟨(false, [], bareB false false false false false (valk.val k n s xb eb xf ef xl el)), own_in_1 (u8 := u8R) (nmE := fun n w => rows (nums n w.toNat)) (dg := dgR) (fx := fxT) (fe := feT) (fo := foT) k1 k2 (hbr _ _ _ _ _), fun h => ⟨by simp, leafW (by omega) h, by rw [encL_0 (by omega)]; omega⟩⟩
  by_cases k12 : k = 12
  · exact ⟨(false, [], bareB false false false false false (valk.val k n s xb eb xf ef xl el)), own_in_2 (u8 := u8R) (nmE := fun n w => rows (nums n w.toNat)) (dg := dgR) (fx := fxT) (fe := feT) (fo := foT) k1 k2 k12 (hbr _ _ _ _ _), fun h => ⟨by simp, leafW (by omega) h, by rw [encL_0 (by omega)]; omega⟩⟩
  by_cases k3 : k = 3
  · cases hB : bareB true false false false false (valk.val k n s xb eb xf ef xl el) with
    | true =>
      by_cases hn : n ≥ (-2147483648 : Int)
      · exact ⟨(true, nums n 4, decide (n < 2147483648)), (own_in_3 (u8 := u8R) (nmE := fun n w => rows (nums n w.toNat)) (dg := dgR) (fx := fxT) (fe := feT) (fo := foT) k1 k2 k12 k3 hB hn (hbr _ _ _ _ _) n4).pure rfl, fun h => ⟨by simp [nums_len], leafW (by omega) hB, by rw [encL_n (by omega)]; omega⟩⟩
      · exact ⟨(true, nums n 4, false), (own_in_4 (u8 := u8R) (nmE := fun n w => rows (nums n w.toNat)) (dg := dgR) (fx := fxT) (fe := feT) (fo := foT) k1 k2 k12 k3 hB hn (hbr _ _ _ _ _) n4).pure rfl, fun h => by cases h⟩
    | false => exact ⟨(true, nums n 4, false), (own_in_5 (u8 := u8R) (nmE := fun n w => rows (nums n w.toNat)) (dg := dgR) (fx := fxT) (fe := feT) (fo := foT) k1 k2 k12 k3 hB (hbr _ _ _ _ _) n4).pure rfl, fun h => by cases h⟩
  by_cases k4 : k = 4
  · exact ⟨(true, nums n 8, bareB true false false false false (valk.val k n s xb eb xf ef xl el)), (own_in_6 (u8 := u8R) (nmE := fun n w => rows (nums n w.toNat)) (dg := dgR) (fx := fxT) (fe := feT) (fo := foT) k1 k2 k12 k3 k4 (hbr _ _ _ _ _) n8).pure rfl, fun h => ⟨by simp [nums_len], leafW (a := true) (b := false) (c := false) (by omega) h, by rw [encL_n (by omega)]; omega⟩⟩
  by_cases k11 : k = 11
  · exact ⟨(true, nums n 8, bareB true false false false false (valk.val k n s xb eb xf ef xl el)), (own_in_7 (u8 := u8R) (nmE := fun n w => rows (nums n w.toNat)) (dg := dgR) (fx := fxT) (fe := feT) (fo := foT) k1 k2 k12 k3 k4 k11 (hbr _ _ _ _ _) n8).pure rfl, fun h => ⟨by simp [nums_len], leafW (a := true) (b := false) (c := false) (by omega) h, by rw [encL_n (by omega)]; omega⟩⟩
  by_cases k10 : k = 10
  · cases hB : bareB true false false false false (valk.val k n s xb eb xf ef xl el) with
    | true =>
      by_cases hn : n = 0
      · exact ⟨(true, nums n 1, true), (own_in_8 (u8 := u8R) (nmE := fun n w => rows (nums n w.toNat)) (dg := dgR) (fx := fxT) (fe := feT) (fo := foT) k1 k2 k12 k3 k4 k11 k10 hB hn (hbr _ _ _ _ _) n1).pure rfl, fun h => ⟨by simp [nums_len], leafW (by omega) hB, by rw [encL_n (by omega)]; omega⟩⟩
      · exact ⟨(true, nums n 1, (n == 1)), (own_in_9 (u8 := u8R) (nmE := fun n w => rows (nums n w.toNat)) (dg := dgR) (fx := fxT) (fe := feT) (fo := foT) k1 k2 k12 k3 k4 k11 k10 hB hn (hbr _ _ _ _ _) n1).pure rfl, fun h => ⟨by simp [nums_len], leafW (by omega) hB, by rw [encL_n (by omega)]; omega⟩⟩
    | false => exact ⟨(true, nums n 1, false), (own_in_10 (u8 := u8R) (nmE := fun n w => rows (nums n w.toNat)) (dg := dgR) (fx := fxT) (fe := feT) (fo := foT) k1 k2 k12 k3 k4 k11 k10 hB (hbr _ _ _ _ _) n1).pure rfl, fun h => by cases h⟩
  by_cases k5 : k = 5
  · by_cases hbig : (s.size : Int) > 65536
    · exact ⟨(false, [], false), own_in_11 (br := bareB) (u8 := u8R) (nmE := fun n w => rows (nums n w.toNat)) (dg := dgR) (fx := fxT) (fe := feT) (fo := foT) k1 k2 k12 k3 k4 k11 k10 k5 hbig, fun h => by cases h⟩
    · have hw : IntKind.i64.wrap ((s.size : Int) + 1) = (s.size : Int) + 1 := wrap_i64 (by omega)
      have n4' := num37 (IntKind.i64.wrap ((s.size : Int) + 1)) 4 (by omega) (by omega)
      have hsz : (s.data.toList.map byteC).length = s.size := by rw [byteC_rows, rk_len, strL_len]
      have hall : ((s.data.toList.map byteC).all fun c => c.length == (1 : Nat)) = true := by rw [byteC_rows]; exact rk_one _
      have eR : (rows (nums (IntKind.i64.wrap ((s.size : Int) + 1)) 4) ++ s.data.toList.map byteC ++ [[D.int IntKind.u8 (0 : Int)]] : Es) = rows (nums (IntKind.i64.wrap ((s.size : Int) + 1)) 4 ++ strL s ++ [0]) := by
        rw [byteC_rows]; simp [rows]
      have c1 : (rows (nums (IntKind.i64.wrap ((s.size : Int) + 1)) 4) ++ s.data.toList.map byteC : Es).length = 4 + (s.data.toList.map byteC).length := by rw [List.length_append, l4]
      cases hB : bareB false true false false false (valk.val k n s xb eb xf ef xl el) with
      | true =>
        have g := own_in_12 (dp := d) (u8 := u8R) (nmE := fun n w => rows (nums n w.toNat)) (dg := dgR) (fx := fxT) (fe := feT) (fo := foT) k1 k2 k12 k3 k4 k11 k10 k5 hbig hB hu (hbr _ _ _ _ _) ⟨c1, by (show (List.length (rows (nums (IntKind.i64.wrap ((s.size : Int) + 1)) 4) ++ s.data.toList.map byteC : Es) + 1) * 1 ≤ _); rw [c1, hsz]; omega, rfl⟩ ⟨l4 _, by (show (List.length (rows (nums (IntKind.i64.wrap ((s.size : Int) + 1)) 4)) + _) * 1 ≤ _); rw [l4, hsz]; omega, hall⟩ n4'
        refine ⟨(true, nums (IntKind.i64.wrap ((s.size : Int) + 1)) 4 ++ strL s ++ [0], u8R s), ?_, fun h => ⟨by simp [nums_len, strL_len]; omega, leafW (by omega) hB, Nat.le_trans (encL_t k5) (by simp [nums_len, strL_len]; omega)⟩⟩
        have := g.pure rfl
        rw [← eR]
        exact this
      | false =>
        have g := own_in_13 (dp := d) (u8 := u8R) (nmE := fun n w => rows (nums n w.toNat)) (dg := dgR) (fx := fxT) (fe := feT) (fo := foT) k1 k2 k12 k3 k4 k11 k10 k5 hbig hB (hbr _ _ _ _ _) ⟨c1, by (show (List.length (rows (nums (IntKind.i64.wrap ((s.size : Int) + 1)) 4) ++ s.data.toList.map byteC : Es) + 1) * 1 ≤ _); rw [c1, hsz]; omega, rfl⟩ ⟨l4 _, by (show (List.length (rows (nums (IntKind.i64.wrap ((s.size : Int) + 1)) 4)) + _) * 1 ≤ _); rw [l4, hsz]; omega, hall⟩ n4'
        refine ⟨(true, nums (IntKind.i64.wrap ((s.size : Int) + 1)) 4 ++ strL s ++ [0], false), ?_, fun h => by cases h⟩
        have := g.pure rfl
        rw [← eR]
        exact this
  by_cases k8 : k = 8
  · by_cases hbig : (eb.length : Int) > 65536
    · exact ⟨(false, [], false), own_in_14 (br := bareB) (u8 := u8R) (nmE := fun n w => rows (nums n w.toNat)) (dg := dgR) (fx := fxT) (fe := feT) (fo := foT) k1 k2 k12 k3 k4 k11 k10 k5 k8 hbig, fun h => by cases h⟩
    · have n4' := num37 (eb.length : Int) 4 (by omega) (by omega)
      have hbl : eb = rows bs := hb
      have hall : (eb.all fun c => c.length == (1 : Nat)) = true := by rw [hbl]; exact rk_one _
      have c1 : (rows (nums (eb.length : Int) 4) ++ [[D.int IntKind.u8 (0 : Int)]] : Es).length = 5 := by rw [List.length_append, l4]; rfl
      have g := own_in_15 (dp := d) (u8 := u8R) (nmE := fun n w => rows (nums n w.toNat)) (dg := dgR) (fx := fxT) (fe := feT) (fo := foT) k1 k2 k12 k3 k4 k11 k10 k5 k8 hbig (hbr _ _ _ _ _) ⟨c1, by (show (List.length (rows (nums (eb.length : Int) 4) ++ [[D.int IntKind.u8 (0 : Int)]] : Es) + _) * 1 ≤ _); rw [c1]; omega, hall⟩ ⟨l4 _, by (show (List.length (rows (nums (eb.length : Int) 4)) + _) * 1 ≤ _); rw [l4]; omega, rfl⟩ n4'
      refine ⟨(true, nums (eb.length : Int) 4 ++ [0] ++ bs, bareB false false true false false (valk.val k n s xb eb xf ef xl el)), ?_, fun h => ⟨?_, leafW (a := false) (b := false) (c := true) (by omega) h, ?_⟩⟩
      · have := g.pure rfl
        have eR : rows (nums (eb.length : Int) 4 ++ [0] ++ bs) = rows (nums (eb.length : Int) 4) ++ [[D.int IntKind.u8 (0 : Int)]] ++ eb := by rw [hbl]; simp [rows]
        rw [eR]
        exact this
      · have : eb.length = bs.length := by rw [hbl, rk_len]
        simp [nums_len]; omega
      · have : eb.length = bs.length := by rw [hbl, rk_len]
        rw [encL_b k8]
        simp [nums_len]; omega
  by_cases k9 : k = 9
  · have hbl : eb = rows bs := hb
    cases hB : bareB false false true false false (valk.val k n s xb eb xf ef xl el) with
    | true =>
      refine ⟨(xb, bs, decide (eb.length = 12)), ?_, fun h => ⟨?_, leafW (by omega) hB, ?_⟩⟩
      · have g := own_in_16 (dp := d) (u8 := u8R) (nmE := fun n w => rows (nums n w.toNat)) (dg := dgR) (fx := fxT) (fe := feT) (fo := foT) k1 k2 k12 k3 k4 k11 k10 k5 k8 k9 hB (hbr _ _ _ _ _)
        have e : ((eb.length : Int) == (12 : Int)) = decide (eb.length = 12) := by
          by_cases h : eb.length = 12
          · simp [h]
          · have : ¬ (eb.length : Int) = 12 := by omega
            simp [h, this]
        rw [← hbl, ← e]
        exact g
      · have : eb.length = bs.length := by rw [hbl, rk_len]
        have := of_decide_eq_true h
        show bs.length ≤ 70000
        omega
      · have : eb.length = bs.length := by rw [hbl, rk_len]
        have := encL_i (n := n) (s := s) (xb := xb) (eb := eb) (xf := xf) (ef := ef) (xl := xl) (el := el) k9
        show (encV (valk.val k n s xb eb xf ef xl el)).length ≤ 9 + 9 * bs.length
        omega
    | false => exact ⟨(xb, bs, false), by rw [← hbl]; exact own_in_17 (u8 := u8R) (nmE := fun n w => rows (nums n w.toNat)) (dg := dgR) (fx := fxT) (fe := feT) (fo := foT) k1 k2 k12 k3 k4 k11 k10 k5 k8 k9 hB (hbr _ _ _ _ _), fun h => by cases h⟩
  by_cases k6 : k = 6
  · cases hB : bareB false false false true false (valk.val k n s xb eb xf ef xl el) with
    | true =>
      by_cases hdp : d > 32
      · exact ⟨(false, [], false), own_in_18 (u8 := u8R) (nmE := fun n w => rows (nums n w.toNat)) (dg := dgR) (fx := fxT) (fe := feT) (fo := foT) k1 k2 k12 k3 k4 k11 k10 k5 k8 k9 k6 hB hdp (hbr _ _ _ _ _), fun h => by cases h⟩
      · obtain ⟨x, l, ok, g0, hok⟩ := fields39 xf ef d ⟨by omega, by omega⟩ lf (hf (by omega))
        refine ⟨(x, l, ok), own_in_19 (u8 := u8R) (nmE := fun n w => rows (nums n w.toNat)) (dg := dgR) (fx := fun _ _ => x) (fe := fun _ _ => rows l) (fo := fun _ _ => ok) k1 k2 k12 k3 k4 k11 k10 k5 k8 k9 k6 hB hdp g0 (hbr _ _ _ _ _), fun h => ⟨(hok h).1, fun q hq => ?_, ?_⟩⟩
        · obtain rfl := (bare_F hB).2 rfl
          subst k6
          cases q with
          | zero => omega
          | succ q => exact .doc q n s xb eb xf ef xl (fun nm c hm => (hok h).2.1 nm c hm q (by omega))
        · have h9 := (hok h).2.2
          obtain rfl := (bare_F hB).2 rfl
          rw [encL_c (by omega)]
          simp only [encLs, List.length_nil]
          omega
    | false => exact ⟨(false, [], false), own_in_20 (u8 := u8R) (nmE := fun n w => rows (nums n w.toNat)) (dg := dgR) (fx := fxT) (fe := feT) (fo := foT) k1 k2 k12 k3 k4 k11 k10 k5 k8 k9 k6 hB (hbr _ _ _ _ _), fun h => by cases h⟩
  by_cases k7 : k = 7
  · cases hB : bareB false false false false true (valk.val k n s xb eb xf ef xl el) with
    | true =>
      by_cases hdp : d > 32
      · exact ⟨(false, [], false), own_in_21 (u8 := u8R) (nmE := fun n w => rows (nums n w.toNat)) (dg := dgR) (fx := fxT) (fe := feT) (fo := foT) k1 k2 k12 k3 k4 k11 k10 k5 k8 k9 k6 k7 hB hdp (hbr _ _ _ _ _), fun h => by cases h⟩
      · by_cases h65 : (el.length : Int) > 65536
        · exact ⟨(false, [], false), own_in_22 (u8 := u8R) (nmE := fun n w => rows (nums n w.toNat)) (dg := dgR) (fx := fxT) (fe := feT) (fo := foT) k1 k2 k12 k3 k4 k11 k10 k5 k8 k9 k6 k7 hB hdp h65 (hbr _ _ _ _ _), fun h => by cases h⟩
        · obtain ⟨x, l, ok, hok, g⟩ := own_list k n s xb eb xf ef xl el ll d hd hl (by omega) (by omega)
          refine ⟨(x, l, ok), own_in_23 k1 k2 k12 k3 k4 k11 k10 k5 k8 k9 k6 k7 hB hdp h65 (hbr _ _ _ _ _) g, fun h => ⟨(hok h).1, fun q hq => ?_, ?_⟩⟩
          · obtain rfl := (bare_F hB).1 rfl
            subst k7
            cases q with
            | zero => omega
            | succ q => exact .list q n s xb eb xf xl el (fun r hr => (hok h).2.1 r hr q (by omega))
          · have h9 := (hok h).2.2
            obtain rfl := (bare_F hB).1 rfl
            rw [encL_c (by omega)]
            simp only [encFs, List.length_nil]
            omega
    | false => exact ⟨(false, [], false), own_in_24 (u8 := u8R) (nmE := fun n w => rows (nums n w.toNat)) (dg := dgR) (fx := fxT) (fe := feT) (fo := foT) k1 k2 k12 k3 k4 k11 k10 k5 k8 k9 k6 k7 hB (hbr _ _ _ _ _), fun h => by cases h⟩
  exact ⟨(false, [], false), own_in_25 (br := bareB) (u8 := u8R) (nmE := fun n w => rows (nums n w.toNat)) (dg := dgR) (fx := fxT) (fe := feT) (fo := foT) k1 k2 k12 k3 k4 k11 k10 k5 k8 k9 k6 k7, fun h => by cases h⟩
end

theorem own33 {v : Cs} (hv : VS v) : ∀ d : Int, 1 ≤ d ∧ d ≤ 33 → ∃ p, Own v d p := by
  induction hv with
  | mk k n s xb eb xf ef xl el bs hk hn hs hb hb' lb lf ll nb nf nl hf hfv hl ihf ihl =>
    intro d hd
    refine own_one k n s xb eb xf ef xl el bs hs hb lf ll d hd (fun h32 r hr => ?_) (fun h32 r hr => ⟨hl r hr, ihl r hr (d + 1) (by omega)⟩)
    obtain ⟨nm, c, rfl, hnm⟩ := hf r hr
    exact ⟨nm, c, rfl, hnm, hfv nm c hr, ihf nm c hr (d + 1) (by omega)⟩

end Go.Proofs.YtlccdfilbiipmaaDoor.ordk
