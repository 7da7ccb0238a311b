/- What may stand in a document: a value's own bytes, or that it may not be; what may be is well formed. -/
import Derived.Test.YtlccdfilbiipmaaDoorPwN
import Derived.Test.YtlccdfilbiipmaaDoorPwO
import Derived.Test.YtlccdfilbiipmaaDoorPwD
namespace Go.Proofs.YtlccdfilbiipmaaDoor.ordk
open Go YtlccdfilbiipmaaDoor.GD valk
set_option linter.unusedVariables false
set_option linter.unusedSimpArgs false
set_option maxRecDepth 100000

theorem rk_len (l : List Int) : (rows l).length = l.length := by simp [rows]
theorem rk_app (a b : List Int) : rows (a ++ b) = rows a ++ rows b := by simp [rows]
theorem rk_take (a : List Int) (k : Nat) : (rows a).take k = rows (a.take k) := by simp [rows, List.map_take]
theorem rk_drop (a : List Int) (k : Nat) : (rows a).drop k = rows (a.drop k) := by simp [rows, List.map_drop]
theorem rk_flat (l : List Int) : FlatEs (rows l) := by
  intro c hc
  obtain ⟨x, _, rfl⟩ := List.mem_map.1 hc
  rfl
theorem rk_one (l : List Int) : ((rows l).all fun c => c.length == (1 : Nat)) = true := by
  refine List.all_eq_true.2 fun c hc => ?_
  obtain ⟨x, _, rfl⟩ := List.mem_map.1 hc
  rfl
def strL (s : ByteArray) : List Int := s.data.toList.map fun b => (b.toNat : Int)
theorem strL_len (s : ByteArray) : (strL s).length = s.size := by simp [strL]
theorem byteC_rows (s : ByteArray) : s.data.toList.map byteC = rows (strL s) := by simp [rows, strL, byteC]
theorem nums_len (n : Int) (w : Nat) : (nums n w).length = w := by simp [nums]

/-- Well formed, so many levels being left. -/
inductive WF : Nat → Cs → Prop
  | leaf (b : Nat) (k n : Int) (s : ByteArray) (xb : Bool) (eb : Es) (xf xl : Bool) (hk : k = 1 ∨ k = 2 ∨ k = 3 ∨ k = 4 ∨ k = 5 ∨ k = 8 ∨ k = 9 ∨ k = 10 ∨ k = 11 ∨ k = 12) : WF b (valk.val k n s xb eb xf [] xl [])
  | doc (b : Nat) (n : Int) (s : ByteArray) (xb : Bool) (eb : Es) (xf : Bool) (ef : Es) (xl : Bool) (h : ∀ nm c, (D.str nm :: c) ∈ ef → WF b c) : WF (b + 1) (valk.val 6 n s xb eb xf ef xl [])
  | list (b : Nat) (n : Int) (s : ByteArray) (xb : Bool) (eb : Es) (xf : Bool) (xl : Bool) (el : Es) (h : ∀ r ∈ el, WF b r) : WF (b + 1) (valk.val 7 n s xb eb xf [] xl el)

/-- What 'own' comes to. -/
def Own (v : Cs) (d : Int) (p : Bool × List Int × Bool) : Prop :=
  Ret P T 45 [.agg v, .int .i64 d] [] (.tuple [.slice p.1 (rows p.2.1) none, .bool p.2.2]) [] ∧ (p.2.2 = true → p.2.1.length ≤ 70000 ∧ (∀ b : Nat, (b : Int) = 33 - d → WF b v) ∧ (encV v).length ≤ 9 + 9 * p.2.1.length)
open Classical in
noncomputable def ownR (v : Cs) (d : Int) : Bool × List Int × Bool := if h : ∃ p, Own v d p then h.choose else (false, [], false)
theorem ownR_ok {v : Cs} {d : Int} (h : ∃ p, Own v d p) : Own v d (ownR v d) := by
  unfold ownR
  rw [dif_pos h]
  exact h.choose_spec
open Classical in
noncomputable def nmR (s : ByteArray) : Bool := if h : ∃ b, (b = true → s.size ≤ 120) ∧ Ret P T 21 [.str s] [] (.bool b) [] then h.choose else false
theorem nmR_ok {s : ByteArray} (hs : s.size ≤ maxLen) : (nmR s = true → s.size ≤ 120) ∧ Ret P T 21 [.str s] [] (.bool (nmR s)) [] := by
  have h := name41 s hs
  unfold nmR
  rw [dif_pos h]
  exact h.choose_spec
open Classical in
noncomputable def cdR (k : Int) : Int := if h : ∃ c : Int, (0 ≤ c ∧ c ≤ 255) ∧ Ret P T 61 [.int .i64 k] [] (.int .u8 c) [] then h.choose else 0
theorem cdR_ok (k : Int) : (0 ≤ cdR k ∧ cdR k ≤ 255) ∧ Ret P T 61 [.int .i64 k] [] (.int .u8 (cdR k)) [] := by
  have h := code42 k
  unfold cdR
  rw [dif_pos h]
  exact h.choose_spec

theorem encFs_app : ∀ a b : Es, encFs (a ++ b) = encFs a ++ encFs b
  | [], b => by simp [encFs]
  | x :: a, b => by rw [List.cons_append, encFs, encFs, encFs_app a b, List.append_assoc]
theorem encF_len (nm : ByteArray) (c : Cs) : (encF (D.str nm :: c)).length ≤ 4 + 2 * nm.size + (encV c).length := by
  have := txL_len nm.toList
  have h2 : nm.toList.length = nm.size := (size_list nm).symm
  rw [encF]
  simp
  omega
theorem encFs_step {ef : Es} {i : Nat} {nm : ByteArray} {c : Cs} (h : ef[i]? = some (D.str nm :: c)) : (encFs (ef.take (i + 1))).length ≤ (encFs (ef.take i)).length + (4 + 2 * nm.size + (encV c).length) := by
  rw [List.take_add_one, h, encFs_app, List.length_append]
  have e : encFs (some (D.str nm :: c)).toList = encF (D.str nm :: c) := by simp [encFs]
  rw [e]
  have := encF_len nm c
  omega

/-! ### fields -/
section
variable (xf : Bool) (ef : Es) (d : Int) (hd : 1 ≤ d ∧ d ≤ 32) (hlen : ef.length ≤ maxLen)
  (h : ∀ r ∈ ef, ∃ nm c, r = D.str nm :: c ∧ nm.size ≤ maxLen ∧ VS c ∧ ∃ p, Own c (d + 1) p)
include hd hlen h

def FGood (ef : Es) (d : Int) (r : D) (H1 : GD.Heap) : Prop := ∃ x l ok cs, frozE (fun z => Nat.beq 1 z) H1 r = some (.tuple [.slice x (rows l) none, .bool ok], cs) ∧ (∀ c ∈ cs, c) ∧
  (ok = true → l.length ≤ 70000 ∧ (∀ nm c, (D.str nm :: c) ∈ ef → ∀ b : Nat, (b : Int) = 32 - d → WF b c) ∧ (encFs ef).length + 45 ≤ 9 * l.length)
omit hd hlen h in
theorem fgood_nil : FGood ef d (.tuple [.slice false [] none, .bool false]) [] := ⟨false, [], false, [], rfl, fun c hc => (List.not_mem_nil hc).elim, fun h => by cases h⟩

omit hd hlen in
theorem fld_get {i : Nat} (hi : i < ef.length) : ∃ nm ck cn cs yb cb yf cf yl cl, ef[((i : Int)).toNat]? = some (D.str nm :: valk.val ck cn cs yb cb yf cf yl cl) ∧ nm.size ≤ maxLen ∧ Own (valk.val ck cn cs yb cb yf cf yl cl) (d + 1) (ownR (valk.val ck cn cs yb cb yf cf yl cl) (d + 1)) := by
  obtain ⟨nm, c, e, hn, hv, ho⟩ := h ef[i] (List.getElem_mem hi)
  obtain ⟨ck, cn, cs, yb, cb, yf, cf, yl, cl, rfl⟩ := hv.get
  exact ⟨nm, ck, cn, cs, yb, cb, yf, cf, yl, cl, by rw [Int.toNat_natCast, List.getElem?_eq_getElem hi, e], hn, ownR_ok ho⟩

theorem fls_loop : ∀ (m i : Nat), i + m = ef.length → ∀ L : List Int, 0 < L.length → L.length ≤ 65536 → (encFs (ef.take i)).length + 36 ≤ 9 * L.length → (∀ (j : Nat) nm c, j < i → ef[j]? = some (D.str nm :: c) → ∀ b : Nat, (b : Int) = 32 - d → WF b c) →
    ∃ r H1, fls_at0 (fun c _ => (ownR c (d + 1)).1) (fun c _ => rows (ownR c (d + 1)).2.1) (fun c _ => (ownR c (d + 1)).2.2) nmR cdR (fun n w => rows (nums n w.toNat)) xf ef d 0 L.length (i : Int) (rows L) r H1 ∧ FGood ef d r H1 := by
  have hmx : maxLen ≤ 9223372036854775807 := by decide
  have wd : IntKind.i64.wrap (d + 1) = d + 1 := wrap_i64 (by omega)
  intro m
  induction m with
  | zero =>
    intro i hi L hL hL2 hE hw
    have hnum := num37 ((L.length + 1 : Nat) : Int) 4 (by omega) (by omega)
    refine ⟨_, _, fls_0_3 (by omega) ⟨by rw [List.length_append, rk_len]; simp, by exact rk_one _⟩ hnum ⟨rfl, rk_len L, hL, by omega, rfl⟩, ?_⟩
    have e : ([] ++ List.take (L.length + 1) (rows (nums ((L.length + 1 : Nat) : Int) 4)) ++ List.drop (0 + min (List.length (rows (nums ((L.length + 1 : Nat) : Int) 4))) (L.length + 1)) (rows L ++ [[D.int IntKind.u8 (0 : Int)]]) : Es) =
        rows ((nums ((L.length + 1 : Nat) : Int) 4).take (L.length + 1) ++ (L ++ [0]).drop (min 4 (L.length + 1))) := by
      rw [rk_app, ← rk_take, ← rk_drop, rk_app, rk_len, nums_len]
      simp [rows]
    have hl2 : ((nums ((L.length + 1 : Nat) : Int) 4).take (L.length + 1) ++ (L ++ [0]).drop (min 4 (L.length + 1))).length = L.length + 1 := by
      simp [nums_len]; omega
    refine ⟨true, (nums ((L.length + 1 : Nat) : Int) 4).take (L.length + 1) ++ (L ++ [0]).drop (min 4 (L.length + 1)), decide (((L.length + 1 : Nat) : Int) ≤ 65536),
      [0 + (L.length + 1) ≤ (rows ((nums ((L.length + 1 : Nat) : Int) 4).take (L.length + 1) ++ (L ++ [0]).drop (min 4 (L.length + 1)))).length, FlatEs (rows ((nums ((L.length + 1 : Nat) : Int) 4).take (L.length + 1) ++ (L ++ [0]).drop (min 4 (L.length + 1))))], ?_, ?_, ?_⟩
    · show frozE _ [some HObj.dead, some (HObj.tok 1 1), some (HObj.row 1 _)] _ = _
      rw [show ((4 : Int)).toNat = 4 from rfl] at *
      rw [e]
      simp only [frozE, frozEs, hget, List.getD_cons_succ, List.getD_cons_zero, Nat.beq, cond_true, pur, List.drop_zero, List.append_nil, List.nil_append]
      rw [List.take_of_length_le (by rw [rk_len, hl2]; omega)]
    · intro c hc
      simp only [List.mem_cons, List.not_mem_nil, or_false] at hc
      rcases hc with rfl | rfl
      · rw [rk_len, hl2]; omega
      · exact rk_flat _
    · intro hok
      refine ⟨by rw [hl2]; omega, fun nm c hm => ?_, by rw [hl2]; rw [List.take_of_length_le (by omega)] at hE; omega⟩
      obtain ⟨j, hj, e⟩ := List.getElem_of_mem hm
      exact hw j nm c (by omega) (by rw [List.getElem?_eq_getElem hj, e])
  | succ m ih =>
    intro i hi L hL hL2 hE hw
    have hlt : i < ef.length := by omega
    obtain ⟨nm, ck, cn, cs, yb, cb, yf, cf, yl, cl, hg, hn, ho⟩ := fld_get ef d h hlt
    have hnm := nmR_ok hn
    by_cases h1 : (ownR (valk.val ck cn cs yb cb yf cf yl cl) (d + 1)).2.2 = true
    · by_cases h2 : nmR nm = true
      · -- the names ahead
        have key : ∀ (q k : Nat), k + q = i → ∃ r H1, fls_at1 (fun c _ => (ownR c (d + 1)).1) (fun c _ => rows (ownR c (d + 1)).2.1) (fun c _ => (ownR c (d + 1)).2.2) nmR cdR (fun n w => rows (nums n w.toNat)) xf ef d 0 L.length (i : Int)
            (ownR (valk.val ck cn cs yb cb yf cf yl cl) (d + 1)).1 (rows (ownR (valk.val ck cn cs yb cb yf cf yl cl) (d + 1)).2.1) (k : Int) (rows L) r H1 ∧ FGood ef d r H1 := by
          intro q
          induction q with
          | zero =>
            intro k hk
            have hcd := cdR_ok ck
            have hol := (ho.2 h1).1
            have hns := hnm.1 h2
            have hsz : nm.data.toList.length = nm.size := by simp
            have hor := rk_len (ownR (valk.val ck cn cs yb cb yf cf yl cl) (d + 1)).2.1
            have hall : ((nm.data.toList.map byteC).all fun c => c.length == (1 : Nat)) = true := by rw [byteC_rows]; exact rk_one _
            have eR : (rows L ++ [[D.int IntKind.u8 (cdR ck)]] ++ nm.data.toList.map byteC ++ [[D.int IntKind.u8 (0 : Int)]] ++ rows (ownR (valk.val ck cn cs yb cb yf cf yl cl) (d + 1)).2.1 : Es) =
                rows (L ++ [cdR ck] ++ strL nm ++ [0] ++ (ownR (valk.val ck cn cs yb cb yf cf yl cl) (d + 1)).2.1) := by
              rw [byteC_rows]; simp [rows]
            have eL : (L ++ [cdR ck] ++ strL nm ++ [0] ++ (ownR (valk.val ck cn cs yb cb yf cf yl cl) (d + 1)).2.1).length = L.length + 1 + (nm.data.toList.map byteC).length + 1 + (rows (ownR (valk.val ck cn cs yb cb yf cf yl cl) (d + 1)).2.1).length := by
              simp [rk_len, strL_len]; omega
            by_cases hbig : ((L.length + 1 + (nm.data.toList.map byteC).length + 1 + (rows (ownR (valk.val ck cn cs yb cb yf cf yl cl) (d + 1)).2.1).length : Nat) : Int) > 65536
            · refine ⟨_, _, fls_1_2 (by omega) hbig (decide_eq_true hbig) ⟨rfl, ?_, ?_, ?_, rk_one _⟩ ⟨rfl, ?_, ?_, ?_, rfl⟩ ⟨rfl, ?_, ?_, ?_, hall⟩ (by omega) hg ⟨rfl, rk_len L, hL, by omega, rfl⟩ hcd.2 hg, fgood_nil ef d⟩
              all_goals first | omega | (simp [rk_len] <;> omega) | (simp [rk_len, hsz] <;> omega)
            · have hE' : (encFs (ef.take (i + 1))).length + 36 ≤ 9 * (L ++ [cdR ck] ++ strL nm ++ [0] ++ (ownR (valk.val ck cn cs yb cb yf cf yl cl) (d + 1)).2.1).length := by
                have h5 := encFs_step (by rwa [Int.toNat_natCast] at hg : ef[i]? = some (D.str nm :: valk.val ck cn cs yb cb yf cf yl cl))
                have h6 := (ho.2 h1).2.2
                rw [eL, hor, byteC_rows, rk_len, strL_len]
                omega
              obtain ⟨r, H1, g, hgd⟩ := ih (i + 1) (by omega) (L ++ [cdR ck] ++ strL nm ++ [0] ++ (ownR (valk.val ck cn cs yb cb yf cf yl cl) (d + 1)).2.1) (by rw [eL]; omega) (by rw [eL]; omega) hE'
                (fun j nm' c' hj hj' => by
                  rcases Nat.lt_succ_iff_lt_or_eq.1 hj with hj2 | rfl
                  · exact hw j nm' c' hj2 hj'
                  · rw [Int.toNat_natCast] at hg
                    rw [hg] at hj'
                    simp only [Option.some.injEq, List.cons.injEq, D.str.injEq] at hj'
                    obtain ⟨_, rfl⟩ := hj'
                    intro b hb
                    exact (ho.2 h1).2.1 b (by omega))
              have w1 : IntKind.i64.wrap ((i : Int) + 1) = ((i + 1 : Nat) : Int) := by rw [wrap_i64 (by omega)]; omega
              rw [← w1, ← eR, eL] at g
              refine ⟨r, H1, fls_1_3 (by omega) hbig (by rw [eR]; exact rk_flat _) (decide_eq_false hbig) ⟨rfl, ?_, ?_, ?_, rk_one _⟩ ⟨rfl, ?_, ?_, ?_, rfl⟩ ⟨rfl, ?_, ?_, ?_, hall⟩ (by omega) hg ⟨rfl, rk_len L, hL, by omega, rfl⟩ hcd.2 hg g, hgd⟩
              all_goals first | omega | (simp [rk_len] <;> omega) | (simp [rk_len, hsz] <;> omega)
          | succ q ihq =>
            intro k hk
            obtain ⟨nm2, ck2, cn2, cs2, yb2, cb2, yf2, cf2, yl2, cl2, hg2, _, _⟩ := fld_get ef d h (show k < ef.length by omega)
            obtain ⟨r, H1, g, hgd⟩ := ihq (k + 1) (by omega)
            have w1 : IntKind.i64.wrap ((k : Int) + 1) = ((k + 1 : Nat) : Int) := by rw [wrap_i64 (by omega)]; omega
            rw [← w1] at g
            by_cases hs : nm2.toList = nm.toList
            · exact ⟨_, _, fls_1_0 (by omega) hs (by omega) hg (by omega) hg2, fgood_nil ef d⟩
            · exact ⟨r, H1, fls_1_1 (by omega) hs (rk_flat _) (by omega) hg (by omega) hg2 g, hgd⟩
        obtain ⟨r, H1, g, hgd⟩ := key i 0 (by omega)
        exact ⟨r, H1, fls_0_0 (by omega) h1 h2 (rk_flat _) hnm.2 (by omega) hg (by rw [wd]; exact ho.1) hg g, hgd⟩
      · exact ⟨_, _, fls_0_1 (by omega) h1 (Bool.eq_false_iff.2 h2) hnm.2 (by omega) hg (by rw [wd]; exact ho.1) hg, fgood_nil ef d⟩
    · exact ⟨_, _, fls_0_2 (by omega) (Bool.eq_false_iff.2 h1) (by rw [wd]; exact ho.1) (by omega) hg, fgood_nil ef d⟩

theorem fields39 : ∃ x l ok, Ret P T 55 [.slice xf ef none, .int .i64 d] [] (.tuple [.slice x (rows l) none, .bool ok]) [] ∧
    (ok = true → l.length ≤ 70000 ∧ (∀ nm c, (D.str nm :: c) ∈ ef → ∀ b : Nat, (b : Int) = 32 - d → WF b c) ∧ (encFs ef).length + 45 ≤ 9 * l.length) := by
  obtain ⟨r, H1, g, x, l, ok, cs, h1, h2, h3⟩ := fls_loop xf ef d hd hlen h ef.length 0 (by omega) [0, 0, 0, 0] (by decide) (by decide) (by simp [encFs]) (fun j nm c hj => by omega)
  have g1 := fls_in_0 (rk_flat [0, 0, 0, 0]) g
  exact ⟨x, l, ok, g1.froz rfl h1 h2, h3⟩
end

end Go.Proofs.YtlccdfilbiipmaaDoor.ordk
