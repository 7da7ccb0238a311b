/- The shape of values; the measures of the laws' package (weight, depth) hand back a number, a truth value, whatever the value. -/
import Derived.Test.YtlccdfilbiipmaaDoorRows
import Derived.Test.YtlccdfilbiipmaaDoorGd30
namespace Go.Proofs.YtlccdfilbiipmaaDoor.valk
open Go YtlccdfilbiipmaaDoor.GD
set_option linter.unusedVariables false
set_option linter.unusedSimpArgs false

abbrev Es := List (List D)
def val (k n : Int) (s : ByteArray) (xb : Bool) (eb : Es) (xf : Bool) (ef : Es) (xl : Bool) (el : Es) : List D := [.int .i64 k, .int .i64 n, .str s, .slice xb eb none, .slice xf ef none, .slice xl el none]
def obj (k n : Int) (s : ByteArray) (xb : Bool) (eb : Es) (xf : Bool) (ef : Es) (xl : Bool) (el : Es) : Option HObj := some (.row 6 [val k n s xb eb xf ef xl el])

/-- What a value's cells are. -/
inductive VS : List D → Prop
  | mk (k n : Int) (s : ByteArray) (xb : Bool) (eb : Es) (xf : Bool) (ef : Es) (xl : Bool) (el : Es) (bs : List Int) (hk : -9223372036854775808 ≤ k ∧ k ≤ 9223372036854775807) (hn : -9223372036854775808 ≤ n ∧ n ≤ 9223372036854775807) (hs : s.size ≤ maxLen)
      (hb : eb = bs.map fun x => [D.int .u8 x]) (hb' : ∀ x ∈ bs, 0 ≤ x ∧ x ≤ 255) (lb : eb.length ≤ maxLen) (lf : ef.length ≤ maxLen) (ll : el.length ≤ maxLen)
      (nb : xb = false → eb = []) (nf : xf = false → ef = []) (nl : xl = false → el = [])
      (hf : ∀ r ∈ ef, ∃ nm c, r = .str nm :: c ∧ nm.size ≤ maxLen) (hfv : ∀ nm c, (D.str nm :: c) ∈ ef → VS c) (hl : ∀ r ∈ el, VS r) : VS (val k n s xb eb xf ef xl el)

theorem wf_i64 {m : Int} (h : (Lit.int .i64 m).wf = true) : -9223372036854775808 ≤ m ∧ m ≤ 9223372036854775807 := by
  simp only [Lit.wf, Bool.and_eq_true, decide_eq_true_eq] at h
  exact h
theorem wf_u8 {m : Int} (h : (Lit.int .u8 m).wf = true) : 0 ≤ m ∧ m ≤ 255 := by
  simp only [Lit.wf, Bool.and_eq_true, decide_eq_true_eq] at h
  exact h

theorem bytes_of {P : Program} {n : Nat} {t : TypeId} (ht : P.underlying t = some (.int .u8)) : ∀ (es : Es), (∀ c ∈ es, shp P n t c) → ∃ l : List Int, es = l.map (fun x => [D.int .u8 x]) ∧ ∀ p ∈ l, 0 ≤ p ∧ p ≤ 255
  | [], _ => ⟨[], rfl, fun p hp => by simp at hp⟩
  | c :: es, h => by
    obtain ⟨p, hp1, hp⟩ := shp_int ht (h c (by simp))
    obtain ⟨l, hl1, hl⟩ := bytes_of ht es (fun c hc => h c (List.mem_cons_of_mem _ hc))
    refine ⟨p :: l, by rw [hp1, hl1]; rfl, fun q hq => ?_⟩
    rcases List.mem_cons.1 hq with rfl | hq
    · exact wf_u8 hp
    · exact hl q hq

theorem vs_of : ∀ (n : Nat) {ds : List D}, shp Tryd.prog n 32 ds → VS ds := by
  intro n
  induction n using Nat.strongRecOn with
  | ind n ih =>
    intro ds h
    have hn : n ≠ 0 := by rintro rfl; exact h.elim
    obtain ⟨d1, r1, e1, h1, d2, r2, e2, h2, d3, r3, e3, h3, d4, r4, e4, h4, d5, r5, e5, h5, d6, r6, e6, h6, h7⟩ := shp_struct Tryd.underlying32 h
    obtain ⟨k, q1, w1⟩ := shp_int Tryd.underlying3 h1
    obtain ⟨m, q2, w2⟩ := shp_int Tryd.underlying2 h2
    obtain ⟨s, q3, w3⟩ := shp_str Tryd.underlying9 h3
    obtain ⟨xb, eb, q4, nb, lb, hb⟩ := shp_slice Tryd.underlying28 h4
    obtain ⟨xf, ef, q5, nf, lf, hf⟩ := shp_slice Tryd.underlying29 h5
    obtain ⟨xl, el, q6, nl, ll, hl⟩ := shp_slice Tryd.underlying30 h6
    obtain ⟨bs, hbs, hbs'⟩ := bytes_of Tryd.underlying5 eb hb
    have hrow : ∀ r ∈ ef, ∃ nm c, r = .str nm :: c ∧ nm.size ≤ maxLen ∧ VS c := by
      intro r hr
      obtain ⟨a1, t1, f1, g1, a2, t2, f2, g2, g3⟩ := shp_struct Tryd.underlying41 (hf r hr)
      obtain ⟨nm, f3, w4⟩ := shp_str Tryd.underlying9 g1
      refine ⟨nm, a2, by rw [f1, f2, f3, g3]; simp, w4, ih _ ?_ g2⟩
      omega
    have : ds = val k m s xb eb xf ef xl el := by rw [e1, e2, e3, e4, e5, e6, h7, q1, q2, q3, q4, q5, q6]; rfl
    rw [this]
    refine .mk k m s xb eb xf ef xl el bs (wf_i64 w1) (wf_i64 w2) w3 hbs hbs' lb lf ll nb nf nl (fun r hr => ?_) (fun nm c hc => ?_) (fun r hr => ih _ (by omega) (hl r hr))
    · obtain ⟨nm, c, g1, g2, _⟩ := hrow r hr
      exact ⟨nm, c, g1, g2⟩
    · obtain ⟨nm', c', g1, _, g2⟩ := hrow _ hc
      simp only [List.cons.injEq, D.str.injEq] at g1
      obtain ⟨_, rfl⟩ := g1
      exact g2

noncomputable def c0 : Cf := { P := Tryd.prog, T := tyOf Tryd.prog, hint := fun _ _ _ => .sym, room := fun _ _ => 2, meth := fun _ _ => none, ct := fun _ _ _ => none, stop := true }
theorem c0Ok : CfOk c0 where
  hT := fun _ _ h => h
  hm := by kernel_rfl
  meth := fun _ _ _ h => by simp only [c0] at h; cases h
  ct := fun _ _ _ _ _ _ h => by simp only [c0] at h; cases h

/-- A call comes to a number, to a truth value. -/
def Wk (c : List D) (m : Int) : Prop := ∃ r H1, Ev c0.P c0.T (.call 36 [.agg c, .int .i64 m] [] (.int .i64 r) H1)
def Sk (c : List D) (m : Int) : Prop := ∃ r H1, Ev c0.P c0.T (.call 37 [.agg c, .int .i64 m] [] (.bool r) H1)
open Classical in
noncomputable def W (c : List D) (m : Int) : Int := if h : Wk c m then h.choose else 0
open Classical in
noncomputable def Sh (c : List D) (m : Int) : Bool := if h : Sk c m then h.choose else false
theorem W_ok {c : List D} {m : Int} (h : Wk c m) : ∃ X, Ev c0.P c0.T (.call 36 [.agg c, .int .i64 m] [] (.int .i64 (W c m)) ([] ++ X)) := by
  unfold W
  rw [dif_pos h]
  exact h.choose_spec
theorem Sh_ok {c : List D} {m : Int} (h : Sk c m) : ∃ X, Ev c0.P c0.T (.call 37 [.agg c, .int .i64 m] [] (.bool (Sh c m)) ([] ++ X)) := by
  unfold Sh
  rw [dif_pos h]
  exact h.choose_spec

noncomputable def ct : FuncId → List D → GD.Heap → Option (D × GD.Heap × List Prop)
  | 36, [.agg c, .int .i64 m], [] => some (.int .i64 (W c m), [], [Wk c m])
  | 37, [.agg c, .int .i64 m], [] => some (.bool (Sh c m), [], [Sk c m])
  | _, _, _ => none
theorem ct_ok (k : FuncId) (args : List D) (H : GD.Heap) (r : D) (H1 : GD.Heap) (cs : List Prop) (he : ct k args H = some (r, H1, cs)) (hc : ∀ c ∈ cs, c) : ∃ X, Ev c0.P c0.T (.call k args H r (H1 ++ X)) := by
  unfold ct at he
  split at he <;> (try (simp only [Option.some.injEq, Prod.mk.injEq] at he; obtain ⟨rfl, rfl, rfl⟩ := he))
  · exact W_ok (hc _ (by simp))
  · exact Sh_ok (hc _ (by simp))
  · cases he

noncomputable def cf (h : List D) : Cf := { P := Tryd.prog, T := tyOf Tryd.prog, hint := fun f r o => match f, r, o with | 36, 5, 4 => .c h | 36, 5, 12 => .c h | 36, 9, 4 => .c h | 37, 4, 6 => .c h | 37, 9, 6 => .c h | _, _, _ => .sym, room := fun _ _ => 2, meth := fun _ _ => none, ct := ct, stop := true }
theorem cfOk (h : List D) : CfOk (cf h) where
  hT := fun _ _ h => h
  hm := by kernel_rfl
  meth := fun _ _ _ h => by simp only [cf] at h; cases h
  ct := ct_ok
noncomputable def bodyOf (f : Nat) : Code := match Tryd.prog.funcs[f]? with | some fn => (match fn.body with | some c => c | none => .skip) | none => .skip
noncomputable def fnOf (f : Nat) : Func := match Tryd.prog.funcs[f]? with | some fn => fn | none => default
noncomputable def go (f : Nat) (h : List D) (cur : Cur) (k : List It) (s : St) (or : GD.Or) := runE (cf h) (callE (cf h) 100000 10) f 100000 cur k s or []
noncomputable def st0 (f : Nat) : Option RR := go f [] (.code (bodyOf f)) [] (beginE (fnOf f) [.agg (val 0 0 ⟨#[]⟩ false [] false [] false []), .int .i64 0] []) (.path [])
noncomputable def lc1 (f : Nat) : Code := stC (st0 f)
noncomputable def lk1 (f : Nat) : List It := stK (st0 f)

/-! ### Weight -/
def i1 (k n : Int) (s : ByteArray) (xb : Bool) (eb : Es) (xf : Bool) (ef : Es) (xl : Bool) (el : Es) (m r i : Int) : St := ⟨[.undef, .int .i64 m, .ptr 0 0 0, .undef, .undef, .int .i64 r, .int .i64 i] ++ List.replicate 65 .undef, [obj k n s xb eb xf ef xl el]⟩
def i2 (k n : Int) (s : ByteArray) (xb : Bool) (eb : Es) (xf : Bool) (ef : Es) (xl : Bool) (el : Es) (m r i : Int) : St := ⟨[.undef, .int .i64 m, .ptr 0 0 0, .undef, .undef, .int .i64 r, .undef, .int .i64 i] ++ List.replicate 64 .undef, [obj k n s xb eb xf ef xl el]⟩
noncomputable def st1 : Option RR := go 36 [] (.done (.exit 0)) (lk1 36) (i1 0 0 ⟨#[]⟩ false [] false [] false [] 0 0 0) (.path [])
noncomputable def lc2 : Code := stC st1
noncomputable def lk2 : List It := stK st1
def wout (r : Int) : List D := [.undef, .undef, .undef, .undef, .int .i64 r] ++ List.replicate 67 .undef

theorem w_in (k n : Int) (s : ByteArray) (xb : Bool) (eb : Es) (xf : Bool) (ef : Es) (xl : Bool) (el : Es) (m : Int) : cutS [1, 2, 5, 6] 1 (go 36 [] (.code (bodyOf 36)) [] (beginE (fnOf 36) [.agg (val k n s xb eb xf ef xl el), .int .i64 m] []) (.path [])) =
    some (lc1 36, lk1 36, (i1 k n s xb eb xf ef xl el m (IntKind.i64.wrap (IntKind.i64.wrap (1 + s.size) + eb.length)) 0).env, (i1 k n s xb eb xf ef xl el m (IntKind.i64.wrap (IntKind.i64.wrap (1 + s.size) + eb.length)) 0).H, []) := by kernel_rfl
theorem w_mid (k n : Int) (s : ByteArray) (xb : Bool) (eb : Es) (xf : Bool) (ef : Es) (xl : Bool) (el : Es) (m r i : Int) : cutS [1, 2, 5, 7] 1 (go 36 [] (.done (.exit 0)) (lk1 36) (i1 k n s xb eb xf ef xl el m r i) (.path [])) = some (lc2, lk2, (i2 k n s xb eb xf ef xl el m r 0).env, (i2 k n s xb eb xf ef xl el m r 0).H, []) := by kernel_rfl
theorem w_out (k n : Int) (s : ByteArray) (xb : Bool) (eb : Es) (xf : Bool) (ef : Es) (xl : Bool) (el : Es) (m r i : Int) : cutF [4] 0 (go 36 [] (.done (.exit 2)) lk2 (i2 k n s xb eb xf ef xl el m r i) (.path [])) = some (.ret, wout r, [], []) := by kernel_rfl
theorem ran1 : runsK (.exit 0) (lk1 36) = true := by kernel_rfl
theorem ran2 : runsK (.exit 2) lk2 = true := by kernel_rfl
noncomputable def b1 (k n : Int) (s : ByteArray) (xb : Bool) (eb : Es) (xf : Bool) (ef : Es) (xl : Bool) (el : Es) (m r i : Int) (nm : ByteArray) (c : List D) (ck cn : Int) (cs : ByteArray) (yb : Bool) (cb : Es) (yf : Bool) (cf : Es) (yl : Bool) (cl : Es) (or : GD.Or) := go 36 (.str nm :: val ck cn cs yb cb yf cf yl cl) (.code (lc1 36)) [] (i1 k n s xb eb xf ef xl el m r i) or
noncomputable def b2 (k n : Int) (s : ByteArray) (xb : Bool) (eb : Es) (xf : Bool) (ef : Es) (xl : Bool) (el : Es) (m r i : Int) (c : List D) (ck cn : Int) (cs : ByteArray) (yb : Bool) (cb : Es) (yf : Bool) (cf : Es) (yl : Bool) (cl : Es) (or : GD.Or) := go 36 (val ck cn cs yb cb yf cf yl cl) (.code lc2) [] (i2 k n s xb eb xf ef xl el m r i) or

theorem b1_0 (k n : Int) (s : ByteArray) (xb : Bool) (eb : Es) (xf : Bool) (ef : Es) (xl : Bool) (el : Es) (m r i : Int) (nm : ByteArray) (c : List D) (ck : Int) (cn : Int) (cs : ByteArray) (yb : Bool) (cb : Es) (yf : Bool) (cf : Es) (yl : Bool) (cl : Es)
    (h0 : decide (i < ↑(List.length ef)) = true)
    (h1 : decide (r ≤ m) = true)
    (h2 : Wk [D.int IntKind.i64 ck, D.int IntKind.i64 cn, D.str cs, D.slice yb cb none, D.slice yf cf none, D.slice yl cl none]
  (IntKind.i64.wrap (m - r)))
    (h3 : (0 : Int) ≤ i)
    (h4 : ef[i.toNat]? = some (D.str nm :: val ck cn cs yb cb yf cf yl cl)) :
    RoadOk c0.P c0.T 0 (.code (lc1 36)) [] (i1 k n s xb eb xf ef xl el m r i) (Ex.normal) [1, 2, 5, 6] 1 ([D.undef, D.int IntKind.i64 m, D.ptr (0 : Nat) (0 : Nat) (0 : Nat), D.undef, D.undef,
  D.int IntKind.i64
    (IntKind.i64.wrap
      (IntKind.i64.wrap (r + ↑nm.size) +
        W
          [D.int IntKind.i64 ck, D.int IntKind.i64 cn, D.str cs, D.slice yb cb none, D.slice yf cf none,
            D.slice yl cl none]
          (IntKind.i64.wrap (m - r)))),
  D.int IntKind.i64 (IntKind.i64.wrap (i + (1 : Int)))] ++ List.replicate 65 .undef) ([some
    (HObj.row (6 : Nat)
      [[D.int IntKind.i64 k, D.int IntKind.i64 n, D.str s, D.slice xb eb none, D.slice xf ef none,
          D.slice xl el none]])]) :=
  road_fin (cfOk _) (show cutF [1, 2, 5, 6] 1 (b1 k n s xb eb xf ef xl el m r i nm c ck cn cs yb cb yf cf yl cl (.path [true, true, true, true, true])) = some (Ex.normal, [D.undef, D.int IntKind.i64 m, D.ptr (0 : Nat) (0 : Nat) (0 : Nat), D.undef, D.undef,
  D.int IntKind.i64
    (IntKind.i64.wrap
      (IntKind.i64.wrap (r + ↑nm.size) +
        W
          [D.int IntKind.i64 ck, D.int IntKind.i64 cn, D.str cs, D.slice yb cb none, D.slice yf cf none,
            D.slice yl cl none]
          (IntKind.i64.wrap (m - r)))),
  D.int IntKind.i64 (IntKind.i64.wrap (i + (1 : Int)))] ++ List.replicate 65 .undef, [some
    (HObj.row (6 : Nat)
      [[D.int IntKind.i64 k, D.int IntKind.i64 n, D.str s, D.slice xb eb none, D.slice xf ef none,
          D.slice xl el none]])],
    [Wk [D.int IntKind.i64 ck, D.int IntKind.i64 cn, D.str cs, D.slice yb cb none, D.slice yf cf none, D.slice yl cl none]
  (IntKind.i64.wrap (m - r)),
      (0 : Int) ≤ i,
      ef[i.toNat]? = some (D.str nm :: val ck cn cs yb cb yf cf yl cl),
      (0 : Int) ≤ i,
      ef[i.toNat]? = some (D.str nm :: val ck cn cs yb cb yf cf yl cl),
      decide (r ≤ m) = true,
      decide (i < ↑(List.length ef)) = true,
      (decide (i < ↑(List.length ef)) == true) = true,
      (decide (i < ↑(List.length ef)) == true) = true,
      (decide (i < ↑(List.length ef)) == true) = true]) by kernel_rfl) (by simp only [all_cons, all_nil]; simp [*])

theorem b1_1 (k n : Int) (s : ByteArray) (xb : Bool) (eb : Es) (xf : Bool) (ef : Es) (xl : Bool) (el : Es) (m r i : Int) (nm : ByteArray) (c : List D) (ck : Int) (cn : Int) (cs : ByteArray) (yb : Bool) (cb : Es) (yf : Bool) (cf : Es) (yl : Bool) (cl : Es)
    (h0 : decide (i < ↑(List.length ef)) = true)
    (h1 : decide (r ≤ m) = false) :
    RoadOk c0.P c0.T 0 (.code (lc1 36)) [] (i1 k n s xb eb xf ef xl el m r i) (Ex.exit (0 : Nat)) [1, 2, 5, 6] 1 ([D.undef, D.int IntKind.i64 m, D.ptr (0 : Nat) (0 : Nat) (0 : Nat), D.undef, D.undef, D.int IntKind.i64 r,
  D.int IntKind.i64 i] ++ List.replicate 65 .undef) ([some
    (HObj.row (6 : Nat)
      [[D.int IntKind.i64 k, D.int IntKind.i64 n, D.str s, D.slice xb eb none, D.slice xf ef none,
          D.slice xl el none]])]) :=
  road_fin (cfOk _) (show cutF [1, 2, 5, 6] 1 (b1 k n s xb eb xf ef xl el m r i nm c ck cn cs yb cb yf cf yl cl (.path [true, true, true, true, false])) = some (Ex.exit (0 : Nat), [D.undef, D.int IntKind.i64 m, D.ptr (0 : Nat) (0 : Nat) (0 : Nat), D.undef, D.undef, D.int IntKind.i64 r,
  D.int IntKind.i64 i] ++ List.replicate 65 .undef, [some
    (HObj.row (6 : Nat)
      [[D.int IntKind.i64 k, D.int IntKind.i64 n, D.str s, D.slice xb eb none, D.slice xf ef none,
          D.slice xl el none]])],
    [decide (r ≤ m) = false,
      decide (i < ↑(List.length ef)) = true,
      (decide (i < ↑(List.length ef)) == true) = true,
      (decide (i < ↑(List.length ef)) == true) = true,
      (decide (i < ↑(List.length ef)) == true) = true]) by kernel_rfl) (by simp only [all_cons, all_nil]; simp [*])

theorem b1_2 (k n : Int) (s : ByteArray) (xb : Bool) (eb : Es) (xf : Bool) (ef : Es) (xl : Bool) (el : Es) (m r i : Int) (nm : ByteArray) (c : List D) (ck : Int) (cn : Int) (cs : ByteArray) (yb : Bool) (cb : Es) (yf : Bool) (cf : Es) (yl : Bool) (cl : Es)
    (h0 : decide (i < ↑(List.length ef)) = false) :
    RoadOk c0.P c0.T 0 (.code (lc1 36)) [] (i1 k n s xb eb xf ef xl el m r i) (Ex.exit (0 : Nat)) [1, 2, 5, 6] 1 ([D.undef, D.int IntKind.i64 m, D.ptr (0 : Nat) (0 : Nat) (0 : Nat), D.undef, D.undef, D.int IntKind.i64 r,
  D.int IntKind.i64 i] ++ List.replicate 65 .undef) ([some
    (HObj.row (6 : Nat)
      [[D.int IntKind.i64 k, D.int IntKind.i64 n, D.str s, D.slice xb eb none, D.slice xf ef none,
          D.slice xl el none]])]) :=
  road_fin (cfOk _) (show cutF [1, 2, 5, 6] 1 (b1 k n s xb eb xf ef xl el m r i nm c ck cn cs yb cb yf cf yl cl (.path [false, false, false, false, false])) = some (Ex.exit (0 : Nat), [D.undef, D.int IntKind.i64 m, D.ptr (0 : Nat) (0 : Nat) (0 : Nat), D.undef, D.undef, D.int IntKind.i64 r,
  D.int IntKind.i64 i] ++ List.replicate 65 .undef, [some
    (HObj.row (6 : Nat)
      [[D.int IntKind.i64 k, D.int IntKind.i64 n, D.str s, D.slice xb eb none, D.slice xf ef none,
          D.slice xl el none]])],
    [false = false,
      decide (i < ↑(List.length ef)) = false,
      (decide (i < ↑(List.length ef)) == true) = false,
      (decide (i < ↑(List.length ef)) == true) = false,
      (decide (i < ↑(List.length ef)) == true) = false]) by kernel_rfl) (by simp only [all_cons, all_nil]; simp [*])

theorem b2_0 (k n : Int) (s : ByteArray) (xb : Bool) (eb : Es) (xf : Bool) (ef : Es) (xl : Bool) (el : Es) (m r i : Int) (c : List D) (ck : Int) (cn : Int) (cs : ByteArray) (yb : Bool) (cb : Es) (yf : Bool) (cf : Es) (yl : Bool) (cl : Es)
    (h0 : decide (i < ↑(List.length el)) = true)
    (h1 : decide (r ≤ m) = true)
    (h2 : Wk [D.int IntKind.i64 ck, D.int IntKind.i64 cn, D.str cs, D.slice yb cb none, D.slice yf cf none, D.slice yl cl none]
  (IntKind.i64.wrap (m - r)))
    (h3 : (0 : Int) ≤ i)
    (h4 : el[i.toNat]? = some (val ck cn cs yb cb yf cf yl cl)) :
    RoadOk c0.P c0.T 0 (.code lc2) [] (i2 k n s xb eb xf ef xl el m r i) (Ex.normal) [1, 2, 5, 7] 1 ([D.undef, D.int IntKind.i64 m, D.ptr (0 : Nat) (0 : Nat) (0 : Nat), D.undef, D.undef,
  D.int IntKind.i64
    (IntKind.i64.wrap
      (r +
        W
          [D.int IntKind.i64 ck, D.int IntKind.i64 cn, D.str cs, D.slice yb cb none, D.slice yf cf none,
            D.slice yl cl none]
          (IntKind.i64.wrap (m - r)))),
  D.undef, D.int IntKind.i64 (IntKind.i64.wrap (i + (1 : Int)))] ++ List.replicate 64 .undef) ([some
    (HObj.row (6 : Nat)
      [[D.int IntKind.i64 k, D.int IntKind.i64 n, D.str s, D.slice xb eb none, D.slice xf ef none,
          D.slice xl el none]])]) :=
  road_fin (cfOk _) (show cutF [1, 2, 5, 7] 1 (b2 k n s xb eb xf ef xl el m r i c ck cn cs yb cb yf cf yl cl (.path [true, true, true, true, true])) = some (Ex.normal, [D.undef, D.int IntKind.i64 m, D.ptr (0 : Nat) (0 : Nat) (0 : Nat), D.undef, D.undef,
  D.int IntKind.i64
    (IntKind.i64.wrap
      (r +
        W
          [D.int IntKind.i64 ck, D.int IntKind.i64 cn, D.str cs, D.slice yb cb none, D.slice yf cf none,
            D.slice yl cl none]
          (IntKind.i64.wrap (m - r)))),
  D.undef, D.int IntKind.i64 (IntKind.i64.wrap (i + (1 : Int)))] ++ List.replicate 64 .undef, [some
    (HObj.row (6 : Nat)
      [[D.int IntKind.i64 k, D.int IntKind.i64 n, D.str s, D.slice xb eb none, D.slice xf ef none,
          D.slice xl el none]])],
    [Wk [D.int IntKind.i64 ck, D.int IntKind.i64 cn, D.str cs, D.slice yb cb none, D.slice yf cf none, D.slice yl cl none]
  (IntKind.i64.wrap (m - r)),
      (0 : Int) ≤ i,
      el[i.toNat]? = some (val ck cn cs yb cb yf cf yl cl),
      decide (r ≤ m) = true,
      decide (i < ↑(List.length el)) = true,
      (decide (i < ↑(List.length el)) == true) = true,
      (decide (i < ↑(List.length el)) == true) = true,
      (decide (i < ↑(List.length el)) == true) = true]) by kernel_rfl) (by simp only [all_cons, all_nil]; simp [*])

theorem b2_1 (k n : Int) (s : ByteArray) (xb : Bool) (eb : Es) (xf : Bool) (ef : Es) (xl : Bool) (el : Es) (m r i : Int) (c : List D) (ck : Int) (cn : Int) (cs : ByteArray) (yb : Bool) (cb : Es) (yf : Bool) (cf : Es) (yl : Bool) (cl : Es)
    (h0 : decide (i < ↑(List.length el)) = true)
    (h1 : decide (r ≤ m) = false) :
    RoadOk c0.P c0.T 0 (.code lc2) [] (i2 k n s xb eb xf ef xl el m r i) (Ex.exit (2 : Nat)) [1, 2, 5, 7] 1 ([D.undef, D.int IntKind.i64 m, D.ptr (0 : Nat) (0 : Nat) (0 : Nat), D.undef, D.undef, D.int IntKind.i64 r, D.undef,
  D.int IntKind.i64 i] ++ List.replicate 64 .undef) ([some
    (HObj.row (6 : Nat)
      [[D.int IntKind.i64 k, D.int IntKind.i64 n, D.str s, D.slice xb eb none, D.slice xf ef none,
          D.slice xl el none]])]) :=
  road_fin (cfOk _) (show cutF [1, 2, 5, 7] 1 (b2 k n s xb eb xf ef xl el m r i c ck cn cs yb cb yf cf yl cl (.path [true, true, true, true, false])) = some (Ex.exit (2 : Nat), [D.undef, D.int IntKind.i64 m, D.ptr (0 : Nat) (0 : Nat) (0 : Nat), D.undef, D.undef, D.int IntKind.i64 r, D.undef,
  D.int IntKind.i64 i] ++ List.replicate 64 .undef, [some
    (HObj.row (6 : Nat)
      [[D.int IntKind.i64 k, D.int IntKind.i64 n, D.str s, D.slice xb eb none, D.slice xf ef none,
          D.slice xl el none]])],
    [decide (r ≤ m) = false,
      decide (i < ↑(List.length el)) = true,
      (decide (i < ↑(List.length el)) == true) = true,
      (decide (i < ↑(List.length el)) == true) = true,
      (decide (i < ↑(List.length el)) == true) = true]) by kernel_rfl) (by simp only [all_cons, all_nil]; simp [*])

theorem b2_2 (k n : Int) (s : ByteArray) (xb : Bool) (eb : Es) (xf : Bool) (ef : Es) (xl : Bool) (el : Es) (m r i : Int) (c : List D) (ck : Int) (cn : Int) (cs : ByteArray) (yb : Bool) (cb : Es) (yf : Bool) (cf : Es) (yl : Bool) (cl : Es)
    (h0 : decide (i < ↑(List.length el)) = false) :
    RoadOk c0.P c0.T 0 (.code lc2) [] (i2 k n s xb eb xf ef xl el m r i) (Ex.exit (2 : Nat)) [1, 2, 5, 7] 1 ([D.undef, D.int IntKind.i64 m, D.ptr (0 : Nat) (0 : Nat) (0 : Nat), D.undef, D.undef, D.int IntKind.i64 r, D.undef,
  D.int IntKind.i64 i] ++ List.replicate 64 .undef) ([some
    (HObj.row (6 : Nat)
      [[D.int IntKind.i64 k, D.int IntKind.i64 n, D.str s, D.slice xb eb none, D.slice xf ef none,
          D.slice xl el none]])]) :=
  road_fin (cfOk _) (show cutF [1, 2, 5, 7] 1 (b2 k n s xb eb xf ef xl el m r i c ck cn cs yb cb yf cf yl cl (.path [false, false, false, false, false])) = some (Ex.exit (2 : Nat), [D.undef, D.int IntKind.i64 m, D.ptr (0 : Nat) (0 : Nat) (0 : Nat), D.undef, D.undef, D.int IntKind.i64 r, D.undef,
  D.int IntKind.i64 i] ++ List.replicate 64 .undef, [some
    (HObj.row (6 : Nat)
      [[D.int IntKind.i64 k, D.int IntKind.i64 n, D.str s, D.slice xb eb none, D.slice xf ef none,
          D.slice xl el none]])],
    [false = false,
      decide (i < ↑(List.length el)) = false,
      (decide (i < ↑(List.length el)) == true) = false,
      (decide (i < ↑(List.length el)) == true) = false,
      (decide (i < ↑(List.length el)) == true) = false]) by kernel_rfl) (by simp only [all_cons, all_nil]; simp [*])



theorem VS.get {c : List D} (h : VS c) : ∃ ck cn cs yb cb yf cf yl cl, c = val ck cn cs yb cb yf cf yl cl := by
  cases h
  exact ⟨_, _, _, _, _, _, _, _, _, rfl⟩

theorem up {i n : Nat} (h : i < n) (hn : n ≤ maxLen) : IntKind.i64.wrap ((i : Int) + 1) = ((i + 1 : Nat) : Int) := by
  have : maxLen ≤ 9223372036854775807 := by decide
  rw [wrap_i64 (by omega)]
  omega

section
variable (k n : Int) (s : ByteArray) (xb : Bool) (eb : Es) (xf : Bool) (ef : Es) (xl : Bool) (el : Es) (m : Int)

theorem loop2 (le : el.length ≤ maxLen) (hv : ∀ row ∈ el, VS row) (ih : ∀ row ∈ el, ∀ m, Wk row m) : ∀ (j i : Nat) (r : Int), i + j = el.length →
    ∃ s2 r', Ev c0.P c0.T (.code 0 (.loop lc2) (i2 k n s xb eb xf ef xl el m r i) (.exit 2) s2) ∧ RestOk c0.P c0.T 0 (.exit 2) lk2 s2 .ret [4] 0 (wout r') [] := by
  intro j
  induction j with
  | zero =>
    intro i r hi
    have e := b2_2 k n s xb eb xf ef xl el m r i [] 0 0 ⟨#[]⟩ false [] false [] false [] (by simp; omega)
    obtain ⟨s2, g1, g2⟩ := loop_left (cfOk []) e (by simp) (Nat.zero_le _) ran2 (w_out k n s xb eb xf ef xl el m r i) (by simp)
    exact ⟨s2, r, g1, g2⟩
  | succ j ihj =>
    intro i r hi
    have hlt : i < el.length := by omega
    by_cases hr : r ≤ m
    · obtain ⟨ck, cn, cs, yb, cb, yf, cf, yl, cl, hrow⟩ := (hv _ (List.getElem_mem hlt)).get
      have hget : el[i]? = some (val ck cn cs yb cb yf cf yl cl) := by rw [List.getElem?_eq_getElem hlt, hrow]
      have hw := ih _ (List.getElem_mem hlt) (IntKind.i64.wrap (m - r))
      rw [hrow] at hw
      have e := b2_0 k n s xb eb xf ef xl el m r i [] ck cn cs yb cb yf cf yl cl (by simp; omega) (by simpa using hr) hw (by omega) (by simpa using hget)
      rw [up hlt le] at e
      obtain ⟨s2, r', g1, g2⟩ := ihj (i + 1) _ (by omega)
      exact ⟨s2, r', loop_again e (Nat.zero_le _) g1, g2⟩
    · have e := b2_1 k n s xb eb xf ef xl el m r i [] 0 0 ⟨#[]⟩ false [] false [] false [] (by simp; omega) (by simpa using hr)
      obtain ⟨s2, g1, g2⟩ := loop_left (cfOk []) e (by simp) (Nat.zero_le _) ran2 (w_out k n s xb eb xf ef xl el m r i) (by simp)
      exact ⟨s2, r, g1, g2⟩

theorem loop1 (le : el.length ≤ maxLen) (lf : ef.length ≤ maxLen) (hv : ∀ row ∈ el, VS row) (ih : ∀ row ∈ el, ∀ m, Wk row m)
    (hf : ∀ r ∈ ef, ∃ nm c, r = .str nm :: c ∧ VS c ∧ ∀ m, Wk c m) : ∀ (j i : Nat) (r : Int), i + j = ef.length →
    ∃ s2 r', Ev c0.P c0.T (.code 0 (.loop (lc1 36)) (i1 k n s xb eb xf ef xl el m r i) (.exit 0) s2) ∧ RestOk c0.P c0.T 0 (.exit 0) (lk1 36) s2 .ret [4] 0 (wout r') [] := by
  have out : ∀ (r : Int) (i : Nat) {env H}, RoadOk c0.P c0.T 0 (.code (lc1 36)) [] (i1 k n s xb eb xf ef xl el m r i) (.exit 0) [1, 2, 5, 6] 1 env H → env = (i1 k n s xb eb xf ef xl el m r i).env → H = (i1 k n s xb eb xf ef xl el m r i).H →
      ∃ s2 r', Ev c0.P c0.T (.code 0 (.loop (lc1 36)) (i1 k n s xb eb xf ef xl el m r i) (.exit 0) s2) ∧ RestOk c0.P c0.T 0 (.exit 0) (lk1 36) s2 .ret [4] 0 (wout r') [] := by
    intro r i env H e h1 h2
    subst h1; subst h2
    obtain ⟨s2, r', g1, g2⟩ := loop2 k n s xb eb xf ef xl el m le hv ih el.length 0 r (by omega)
    obtain ⟨s1, k1, k2⟩ := loop_left_loop (cfOk []) e (by simp) (Nat.zero_le _) ran1 (w_mid k n s xb eb xf ef xl el m r i) (by simp) (Nat.zero_le _) g1 g2
    exact ⟨s1, r', k1, k2⟩
  intro j
  induction j with
  | zero =>
    intro i r hi
    exact out r i (b1_2 k n s xb eb xf ef xl el m r i ⟨#[]⟩ [] 0 0 ⟨#[]⟩ false [] false [] false [] (by simp; omega)) rfl rfl
  | succ j ihj =>
    intro i r hi
    have hlt : i < ef.length := by omega
    by_cases hr : r ≤ m
    · obtain ⟨nm, c, hc, hvc, hwc⟩ := hf _ (List.getElem_mem hlt)
      obtain ⟨ck, cn, cs, yb, cb, yf, cf, yl, cl, hrow⟩ := hvc.get
      have hget : ef[i]? = some (.str nm :: val ck cn cs yb cb yf cf yl cl) := by rw [List.getElem?_eq_getElem hlt, hc, hrow]
      have hw := hwc (IntKind.i64.wrap (m - r))
      rw [hrow] at hw
      have e := b1_0 k n s xb eb xf ef xl el m r i nm [] ck cn cs yb cb yf cf yl cl (by simp; omega) (by simpa using hr) hw (by omega) (by simpa using hget)
      rw [up hlt lf] at e
      obtain ⟨s2, r', g1, g2⟩ := ihj (i + 1) _ (by omega)
      exact ⟨s2, r', loop_again e (Nat.zero_le _) g1, g2⟩
    · exact out r i (b1_1 k n s xb eb xf ef xl el m r i ⟨#[]⟩ [] 0 0 ⟨#[]⟩ false [] false [] false [] (by simp; omega) (by simpa using hr)) rfl rfl

end

theorem w_body : Tryd.prog.funcs[36]? = some (fnOf 36) := by kernel_rfl
theorem w_code : (fnOf 36).body = some (bodyOf 36) := by kernel_rfl
theorem w_name : ((fnOf 36).name == "runtime.NumGoroutine") = false := by kernel_rfl
theorem w_res : (fnOf 36).results = #[.tmp 4] := by kernel_rfl
theorem w_get (r : Int) : (wout r).getD 4 .undef = .int .i64 r := by kernel_rfl

/-- Weight hands back a number, whatever the value. -/
theorem weight {c : List D} (h : VS c) : ∀ m, Wk c m := by
  induction h with
  | mk k n s xb eb xf ef xl el bs hk hn hs hb hb' lb lf ll nb nf nl hf hfv hl ihf ihl =>
    intro m
    obtain ⟨s2, r', g1, g2⟩ := loop1 k n s xb eb xf ef xl el m ll lf hl ihl (fun r hr => by
      obtain ⟨nm, c, rfl, _⟩ := hf r hr
      exact ⟨nm, c, rfl, hfv nm c hr, ihf nm c hr⟩) ef.length 0 (IntKind.i64.wrap (IntKind.i64.wrap (1 + s.size) + eb.length)) (by omega)
    have := call_road (H0 := []) w_body w_code w_name (.inr rfl) w_res rfl (road_loop (n := 0) (cfOk []) (w_in k n s xb eb xf ef xl el m) (by simp) (Nat.zero_le _) g1 g2)
    rw [w_get] at this
    obtain ⟨H1, hev⟩ := this
    exact ⟨r', H1, hev⟩

/-! ### Shallow -/
def j1 (k n : Int) (s : ByteArray) (xb : Bool) (eb : Es) (xf : Bool) (ef : Es) (xl : Bool) (el : Es) (m i : Int) : St := ⟨[.undef, .int .i64 m, .ptr 0 0 0, .undef, .undef, .int .i64 i] ++ List.replicate 42 .undef, [obj k n s xb eb xf ef xl el]⟩
def j2 (k n : Int) (s : ByteArray) (xb : Bool) (eb : Es) (xf : Bool) (ef : Es) (xl : Bool) (el : Es) (m i : Int) : St := ⟨[.undef, .int .i64 m, .ptr 0 0 0, .undef, .undef, .undef, .int .i64 i] ++ List.replicate 41 .undef, [obj k n s xb eb xf ef xl el]⟩
noncomputable def st3 : Option RR := go 37 [] (.done (.exit 0)) (lk1 37) (j1 0 0 ⟨#[]⟩ false [] false [] false [] 0 0) (.path [])
noncomputable def lc3 : Code := stC st3
noncomputable def lk3 : List It := stK st3
def sout (r : Bool) : List D := [.undef, .undef, .undef, .undef, .bool r] ++ List.replicate 43 .undef
theorem s_in (k n : Int) (s : ByteArray) (xb : Bool) (eb : Es) (xf : Bool) (ef : Es) (xl : Bool) (el : Es) (m : Int) : cutS [1, 2, 5] 1 (go 37 [] (.code (bodyOf 37)) [] (beginE (fnOf 37) [.agg (val k n s xb eb xf ef xl el), .int .i64 m] []) (.path [])) = some (lc1 37, lk1 37, (j1 k n s xb eb xf ef xl el m 0).env, (j1 k n s xb eb xf ef xl el m 0).H, []) := by kernel_rfl
theorem s_mid (k n : Int) (s : ByteArray) (xb : Bool) (eb : Es) (xf : Bool) (ef : Es) (xl : Bool) (el : Es) (m i : Int) : cutS [1, 2, 6] 1 (go 37 [] (.done (.exit 0)) (lk1 37) (j1 k n s xb eb xf ef xl el m i) (.path [])) = some (lc3, lk3, (j2 k n s xb eb xf ef xl el m 0).env, (j2 k n s xb eb xf ef xl el m 0).H, []) := by kernel_rfl
theorem s_out (k n : Int) (s : ByteArray) (xb : Bool) (eb : Es) (xf : Bool) (ef : Es) (xl : Bool) (el : Es) (m i : Int) : cutF [4] 0 (go 37 [] (.done (.exit 2)) lk3 (j2 k n s xb eb xf ef xl el m i) (.path [])) = some (.ret, sout true, [], []) := by kernel_rfl
theorem ran3 : runsK (.exit 0) (lk1 37) = true := by kernel_rfl
theorem ran4 : runsK (.exit 2) lk3 = true := by kernel_rfl
noncomputable def b3 (k n : Int) (s : ByteArray) (xb : Bool) (eb : Es) (xf : Bool) (ef : Es) (xl : Bool) (el : Es) (m i : Int) (nm : ByteArray) (ck cn : Int) (cs : ByteArray) (yb : Bool) (cb : Es) (yf : Bool) (cf : Es) (yl : Bool) (cl : Es) (or : GD.Or) := go 37 (.str nm :: val ck cn cs yb cb yf cf yl cl) (.code (lc1 37)) [] (j1 k n s xb eb xf ef xl el m i) or
noncomputable def b4 (k n : Int) (s : ByteArray) (xb : Bool) (eb : Es) (xf : Bool) (ef : Es) (xl : Bool) (el : Es) (m i : Int) (ck cn : Int) (cs : ByteArray) (yb : Bool) (cb : Es) (yf : Bool) (cf : Es) (yl : Bool) (cl : Es) (or : GD.Or) := go 37 (val ck cn cs yb cb yf cf yl cl) (.code lc3) [] (j2 k n s xb eb xf ef xl el m i) or

theorem b3_0 (k n : Int) (s : ByteArray) (xb : Bool) (eb : Es) (xf : Bool) (ef : Es) (xl : Bool) (el : Es) (m i : Int) (nm : ByteArray) (ck : Int) (cn : Int) (cs : ByteArray) (yb : Bool) (cb : Es) (yf : Bool) (cf : Es) (yl : Bool) (cl : Es)
    (h0 : decide (i < ↑(List.length ef)) = true)
    (h1 : (m == (0 : Int)) = true) :
    RoadOk c0.P c0.T 0 (.code (lc1 37)) [] (j1 k n s xb eb xf ef xl el m i) .ret [4] 0 (sout false) [] :=
  road_fin (cfOk _) (show cutF [4] 0 (b3 k n s xb eb xf ef xl el m i nm ck cn cs yb cb yf cf yl cl (.path [true, false, false, false, false, false, false, false, false, false, false, true, true])) = some (.ret, sout false, [],
    [true = true,
      (m == (0 : Int)) = true,
      ((m == (0 : Int)) == false) = false,
      ((m == (0 : Int)) == false) = false,
      ((m == (0 : Int)) == false) = false,
      ((m == (0 : Int)) == false) = false,
      ((m == (0 : Int)) == false) = false,
      ((m == (0 : Int)) == false) = false,
      ((m == (0 : Int)) == false) = false,
      ((m == (0 : Int)) == false) = false,
      ((m == (0 : Int)) == false) = false,
      ((m == (0 : Int)) == false) = false,
      decide (i < ↑(List.length ef)) = true]) by kernel_rfl) (by simp only [all_cons, all_nil]; simp [*])

theorem b3_1 (k n : Int) (s : ByteArray) (xb : Bool) (eb : Es) (xf : Bool) (ef : Es) (xl : Bool) (el : Es) (m i : Int) (nm : ByteArray) (ck : Int) (cn : Int) (cs : ByteArray) (yb : Bool) (cb : Es) (yf : Bool) (cf : Es) (yl : Bool) (cl : Es)
    (h0 : decide (i < ↑(List.length ef)) = true)
    (h1 : (m == (0 : Int)) = false)
    (h2 : Sh [D.int IntKind.i64 ck, D.int IntKind.i64 cn, D.str cs, D.slice yb cb none, D.slice yf cf none, D.slice yl cl none]
    (IntKind.i64.wrap (m - (1 : Int))) =
  true)
    (h3 : Sk [D.int IntKind.i64 ck, D.int IntKind.i64 cn, D.str cs, D.slice yb cb none, D.slice yf cf none, D.slice yl cl none]
  (IntKind.i64.wrap (m - (1 : Int))))
    (h4 : (0 : Int) ≤ i)
    (h5 : ef[i.toNat]? = some (D.str nm :: val ck cn cs yb cb yf cf yl cl)) :
    RoadOk c0.P c0.T 0 (.code (lc1 37)) [] (j1 k n s xb eb xf ef xl el m i) (Ex.normal) [1, 2, 5] 1 ([D.undef, D.int IntKind.i64 m, D.ptr (0 : Nat) (0 : Nat) (0 : Nat), D.undef, D.undef,
  D.int IntKind.i64 (IntKind.i64.wrap (i + (1 : Int)))] ++ List.replicate 42 .undef) ([some
    (HObj.row (6 : Nat)
      [[D.int IntKind.i64 k, D.int IntKind.i64 n, D.str s, D.slice xb eb none, D.slice xf ef none,
          D.slice xl el none]])]) :=
  road_fin (cfOk _) (show cutF [1, 2, 5] 1 (b3 k n s xb eb xf ef xl el m i nm ck cn cs yb cb yf cf yl cl (.path [true, true, true, true, true, true, true, true, true, true, true, false, false])) = some (Ex.normal, [D.undef, D.int IntKind.i64 m, D.ptr (0 : Nat) (0 : Nat) (0 : Nat), D.undef, D.undef,
  D.int IntKind.i64 (IntKind.i64.wrap (i + (1 : Int)))] ++ List.replicate 42 .undef, [some
    (HObj.row (6 : Nat)
      [[D.int IntKind.i64 k, D.int IntKind.i64 n, D.str s, D.slice xb eb none, D.slice xf ef none,
          D.slice xl el none]])],
    [(!Sh [D.int IntKind.i64 ck, D.int IntKind.i64 cn, D.str cs, D.slice yb cb none, D.slice yf cf none, D.slice yl cl none]
      (IntKind.i64.wrap (m - (1 : Int)))) =
  false,
      (m == (0 : Int)) = false,
      ((m == (0 : Int)) == false) = true,
      Sk [D.int IntKind.i64 ck, D.int IntKind.i64 cn, D.str cs, D.slice yb cb none, D.slice yf cf none, D.slice yl cl none]
  (IntKind.i64.wrap (m - (1 : Int))),
      ((m == (0 : Int)) == false) = true,
      ((m == (0 : Int)) == false) = true,
      ((m == (0 : Int)) == false) = true,
      ((m == (0 : Int)) == false) = true,
      ((m == (0 : Int)) == false) = true,
      (0 : Int) ≤ i,
      ef[i.toNat]? = some (D.str nm :: val ck cn cs yb cb yf cf yl cl),
      ((m == (0 : Int)) == false) = true,
      ((m == (0 : Int)) == false) = true,
      ((m == (0 : Int)) == false) = true,
      ((m == (0 : Int)) == false) = true,
      decide (i < ↑(List.length ef)) = true]) by kernel_rfl) (by simp only [all_cons, all_nil]; simp [*])

theorem b3_2 (k n : Int) (s : ByteArray) (xb : Bool) (eb : Es) (xf : Bool) (ef : Es) (xl : Bool) (el : Es) (m i : Int) (nm : ByteArray) (ck : Int) (cn : Int) (cs : ByteArray) (yb : Bool) (cb : Es) (yf : Bool) (cf : Es) (yl : Bool) (cl : Es)
    (h0 : decide (i < ↑(List.length ef)) = true)
    (h1 : (m == (0 : Int)) = false)
    (h2 : Sh [D.int IntKind.i64 ck, D.int IntKind.i64 cn, D.str cs, D.slice yb cb none, D.slice yf cf none, D.slice yl cl none]
    (IntKind.i64.wrap (m - (1 : Int))) =
  false)
    (h3 : Sk [D.int IntKind.i64 ck, D.int IntKind.i64 cn, D.str cs, D.slice yb cb none, D.slice yf cf none, D.slice yl cl none]
  (IntKind.i64.wrap (m - (1 : Int))))
    (h4 : (0 : Int) ≤ i)
    (h5 : ef[i.toNat]? = some (D.str nm :: val ck cn cs yb cb yf cf yl cl)) :
    RoadOk c0.P c0.T 0 (.code (lc1 37)) [] (j1 k n s xb eb xf ef xl el m i) .ret [4] 0 (sout false) [] :=
  road_fin (cfOk _) (show cutF [4] 0 (b3 k n s xb eb xf ef xl el m i nm ck cn cs yb cb yf cf yl cl (.path [true, true, true, true, true, true, true, true, true, true, true, false, true])) = some (.ret, sout false, [],
    [(!Sh [D.int IntKind.i64 ck, D.int IntKind.i64 cn, D.str cs, D.slice yb cb none, D.slice yf cf none, D.slice yl cl none]
      (IntKind.i64.wrap (m - (1 : Int)))) =
  true,
      (m == (0 : Int)) = false,
      ((m == (0 : Int)) == false) = true,
      Sk [D.int IntKind.i64 ck, D.int IntKind.i64 cn, D.str cs, D.slice yb cb none, D.slice yf cf none, D.slice yl cl none]
  (IntKind.i64.wrap (m - (1 : Int))),
      ((m == (0 : Int)) == false) = true,
      ((m == (0 : Int)) == false) = true,
      ((m == (0 : Int)) == false) = true,
      ((m == (0 : Int)) == false) = true,
      ((m == (0 : Int)) == false) = true,
      (0 : Int) ≤ i,
      ef[i.toNat]? = some (D.str nm :: val ck cn cs yb cb yf cf yl cl),
      ((m == (0 : Int)) == false) = true,
      ((m == (0 : Int)) == false) = true,
      ((m == (0 : Int)) == false) = true,
      ((m == (0 : Int)) == false) = true,
      decide (i < ↑(List.length ef)) = true]) by kernel_rfl) (by simp only [all_cons, all_nil]; simp [*])

theorem b3_3 (k n : Int) (s : ByteArray) (xb : Bool) (eb : Es) (xf : Bool) (ef : Es) (xl : Bool) (el : Es) (m i : Int) (nm : ByteArray) (ck : Int) (cn : Int) (cs : ByteArray) (yb : Bool) (cb : Es) (yf : Bool) (cf : Es) (yl : Bool) (cl : Es)
    (h0 : decide (i < ↑(List.length ef)) = false) :
    RoadOk c0.P c0.T 0 (.code (lc1 37)) [] (j1 k n s xb eb xf ef xl el m i) (Ex.exit (0 : Nat)) [1, 2, 5] 1 ([D.undef, D.int IntKind.i64 m, D.ptr (0 : Nat) (0 : Nat) (0 : Nat), D.undef, D.undef, D.int IntKind.i64 i] ++ List.replicate 42 .undef) ([some
    (HObj.row (6 : Nat)
      [[D.int IntKind.i64 k, D.int IntKind.i64 n, D.str s, D.slice xb eb none, D.slice xf ef none,
          D.slice xl el none]])]) :=
  road_fin (cfOk _) (show cutF [1, 2, 5] 1 (b3 k n s xb eb xf ef xl el m i nm ck cn cs yb cb yf cf yl cl (.path [false])) = some (Ex.exit (0 : Nat), [D.undef, D.int IntKind.i64 m, D.ptr (0 : Nat) (0 : Nat) (0 : Nat), D.undef, D.undef, D.int IntKind.i64 i] ++ List.replicate 42 .undef, [some
    (HObj.row (6 : Nat)
      [[D.int IntKind.i64 k, D.int IntKind.i64 n, D.str s, D.slice xb eb none, D.slice xf ef none,
          D.slice xl el none]])],
    [decide (i < ↑(List.length ef)) = false]) by kernel_rfl) (by simp only [all_cons, all_nil]; simp [*])

theorem b4_0 (k n : Int) (s : ByteArray) (xb : Bool) (eb : Es) (xf : Bool) (ef : Es) (xl : Bool) (el : Es) (m i : Int) (ck : Int) (cn : Int) (cs : ByteArray) (yb : Bool) (cb : Es) (yf : Bool) (cf : Es) (yl : Bool) (cl : Es)
    (h0 : decide (i < ↑(List.length el)) = true)
    (h1 : (m == (0 : Int)) = true) :
    RoadOk c0.P c0.T 0 (.code lc3) [] (j2 k n s xb eb xf ef xl el m i) .ret [4] 0 (sout false) [] :=
  road_fin (cfOk _) (show cutF [4] 0 (b4 k n s xb eb xf ef xl el m i ck cn cs yb cb yf cf yl cl (.path [true, false, false, false, false, false, false, false, false, false, true, true])) = some (.ret, sout false, [],
    [true = true,
      (m == (0 : Int)) = true,
      ((m == (0 : Int)) == false) = false,
      ((m == (0 : Int)) == false) = false,
      ((m == (0 : Int)) == false) = false,
      ((m == (0 : Int)) == false) = false,
      ((m == (0 : Int)) == false) = false,
      ((m == (0 : Int)) == false) = false,
      ((m == (0 : Int)) == false) = false,
      ((m == (0 : Int)) == false) = false,
      ((m == (0 : Int)) == false) = false,
      decide (i < ↑(List.length el)) = true]) by kernel_rfl) (by simp only [all_cons, all_nil]; simp [*])

theorem b4_1 (k n : Int) (s : ByteArray) (xb : Bool) (eb : Es) (xf : Bool) (ef : Es) (xl : Bool) (el : Es) (m i : Int) (ck : Int) (cn : Int) (cs : ByteArray) (yb : Bool) (cb : Es) (yf : Bool) (cf : Es) (yl : Bool) (cl : Es)
    (h0 : decide (i < ↑(List.length el)) = true)
    (h1 : (m == (0 : Int)) = false)
    (h2 : Sh [D.int IntKind.i64 ck, D.int IntKind.i64 cn, D.str cs, D.slice yb cb none, D.slice yf cf none, D.slice yl cl none]
    (IntKind.i64.wrap (m - (1 : Int))) =
  true)
    (h3 : Sk [D.int IntKind.i64 ck, D.int IntKind.i64 cn, D.str cs, D.slice yb cb none, D.slice yf cf none, D.slice yl cl none]
  (IntKind.i64.wrap (m - (1 : Int))))
    (h4 : (0 : Int) ≤ i)
    (h5 : el[i.toNat]? = some (val ck cn cs yb cb yf cf yl cl)) :
    RoadOk c0.P c0.T 0 (.code lc3) [] (j2 k n s xb eb xf ef xl el m i) (Ex.normal) [1, 2, 6] 1 ([D.undef, D.int IntKind.i64 m, D.ptr (0 : Nat) (0 : Nat) (0 : Nat), D.undef, D.undef, D.undef,
  D.int IntKind.i64 (IntKind.i64.wrap (i + (1 : Int)))] ++ List.replicate 41 .undef) ([some
    (HObj.row (6 : Nat)
      [[D.int IntKind.i64 k, D.int IntKind.i64 n, D.str s, D.slice xb eb none, D.slice xf ef none,
          D.slice xl el none]])]) :=
  road_fin (cfOk _) (show cutF [1, 2, 6] 1 (b4 k n s xb eb xf ef xl el m i ck cn cs yb cb yf cf yl cl (.path [true, true, true, true, true, true, true, true, true, true, false, false])) = some (Ex.normal, [D.undef, D.int IntKind.i64 m, D.ptr (0 : Nat) (0 : Nat) (0 : Nat), D.undef, D.undef, D.undef,
  D.int IntKind.i64 (IntKind.i64.wrap (i + (1 : Int)))] ++ List.replicate 41 .undef, [some
    (HObj.row (6 : Nat)
      [[D.int IntKind.i64 k, D.int IntKind.i64 n, D.str s, D.slice xb eb none, D.slice xf ef none,
          D.slice xl el none]])],
    [(!Sh [D.int IntKind.i64 ck, D.int IntKind.i64 cn, D.str cs, D.slice yb cb none, D.slice yf cf none, D.slice yl cl none]
      (IntKind.i64.wrap (m - (1 : Int)))) =
  false,
      (m == (0 : Int)) = false,
      ((m == (0 : Int)) == false) = true,
      Sk [D.int IntKind.i64 ck, D.int IntKind.i64 cn, D.str cs, D.slice yb cb none, D.slice yf cf none, D.slice yl cl none]
  (IntKind.i64.wrap (m - (1 : Int))),
      ((m == (0 : Int)) == false) = true,
      ((m == (0 : Int)) == false) = true,
      ((m == (0 : Int)) == false) = true,
      ((m == (0 : Int)) == false) = true,
      (0 : Int) ≤ i,
      el[i.toNat]? = some (val ck cn cs yb cb yf cf yl cl),
      ((m == (0 : Int)) == false) = true,
      ((m == (0 : Int)) == false) = true,
      ((m == (0 : Int)) == false) = true,
      ((m == (0 : Int)) == false) = true,
      decide (i < ↑(List.length el)) = true]) by kernel_rfl) (by simp only [all_cons, all_nil]; simp [*])

theorem b4_2 (k n : Int) (s : ByteArray) (xb : Bool) (eb : Es) (xf : Bool) (ef : Es) (xl : Bool) (el : Es) (m i : Int) (ck : Int) (cn : Int) (cs : ByteArray) (yb : Bool) (cb : Es) (yf : Bool) (cf : Es) (yl : Bool) (cl : Es)
    (h0 : decide (i < ↑(List.length el)) = true)
    (h1 : (m == (0 : Int)) = false)
    (h2 : Sh [D.int IntKind.i64 ck, D.int IntKind.i64 cn, D.str cs, D.slice yb cb none, D.slice yf cf none, D.slice yl cl none]
    (IntKind.i64.wrap (m - (1 : Int))) =
  false)
    (h3 : Sk [D.int IntKind.i64 ck, D.int IntKind.i64 cn, D.str cs, D.slice yb cb none, D.slice yf cf none, D.slice yl cl none]
  (IntKind.i64.wrap (m - (1 : Int))))
    (h4 : (0 : Int) ≤ i)
    (h5 : el[i.toNat]? = some (val ck cn cs yb cb yf cf yl cl)) :
    RoadOk c0.P c0.T 0 (.code lc3) [] (j2 k n s xb eb xf ef xl el m i) .ret [4] 0 (sout false) [] :=
  road_fin (cfOk _) (show cutF [4] 0 (b4 k n s xb eb xf ef xl el m i ck cn cs yb cb yf cf yl cl (.path [true, true, true, true, true, true, true, true, true, true, false, true])) = some (.ret, sout false, [],
    [(!Sh [D.int IntKind.i64 ck, D.int IntKind.i64 cn, D.str cs, D.slice yb cb none, D.slice yf cf none, D.slice yl cl none]
      (IntKind.i64.wrap (m - (1 : Int)))) =
  true,
      (m == (0 : Int)) = false,
      ((m == (0 : Int)) == false) = true,
      Sk [D.int IntKind.i64 ck, D.int IntKind.i64 cn, D.str cs, D.slice yb cb none, D.slice yf cf none, D.slice yl cl none]
  (IntKind.i64.wrap (m - (1 : Int))),
      ((m == (0 : Int)) == false) = true,
      ((m == (0 : Int)) == false) = true,
      ((m == (0 : Int)) == false) = true,
      ((m == (0 : Int)) == false) = true,
      (0 : Int) ≤ i,
      el[i.toNat]? = some (val ck cn cs yb cb yf cf yl cl),
      ((m == (0 : Int)) == false) = true,
      ((m == (0 : Int)) == false) = true,
      ((m == (0 : Int)) == false) = true,
      ((m == (0 : Int)) == false) = true,
      decide (i < ↑(List.length el)) = true]) by kernel_rfl) (by simp only [all_cons, all_nil]; simp [*])

theorem b4_3 (k n : Int) (s : ByteArray) (xb : Bool) (eb : Es) (xf : Bool) (ef : Es) (xl : Bool) (el : Es) (m i : Int) (ck : Int) (cn : Int) (cs : ByteArray) (yb : Bool) (cb : Es) (yf : Bool) (cf : Es) (yl : Bool) (cl : Es)
    (h0 : decide (i < ↑(List.length el)) = false) :
    RoadOk c0.P c0.T 0 (.code lc3) [] (j2 k n s xb eb xf ef xl el m i) (Ex.exit (2 : Nat)) [1, 2, 6] 1 ([D.undef, D.int IntKind.i64 m, D.ptr (0 : Nat) (0 : Nat) (0 : Nat), D.undef, D.undef, D.undef, D.int IntKind.i64 i] ++ List.replicate 41 .undef) ([some
    (HObj.row (6 : Nat)
      [[D.int IntKind.i64 k, D.int IntKind.i64 n, D.str s, D.slice xb eb none, D.slice xf ef none,
          D.slice xl el none]])]) :=
  road_fin (cfOk _) (show cutF [1, 2, 6] 1 (b4 k n s xb eb xf ef xl el m i ck cn cs yb cb yf cf yl cl (.path [false])) = some (Ex.exit (2 : Nat), [D.undef, D.int IntKind.i64 m, D.ptr (0 : Nat) (0 : Nat) (0 : Nat), D.undef, D.undef, D.undef, D.int IntKind.i64 i] ++ List.replicate 41 .undef, [some
    (HObj.row (6 : Nat)
      [[D.int IntKind.i64 k, D.int IntKind.i64 n, D.str s, D.slice xb eb none, D.slice xf ef none,
          D.slice xl el none]])],
    [decide (i < ↑(List.length el)) = false]) by kernel_rfl) (by simp only [all_cons, all_nil]; simp [*])



section
variable (k n : Int) (s : ByteArray) (xb : Bool) (eb : Es) (xf : Bool) (ef : Es) (xl : Bool) (el : Es) (m : Int)

theorem sloop2 (le : el.length ≤ maxLen) (hv : ∀ row ∈ el, VS row) (ih : ∀ row ∈ el, ∀ m, Sk row m) : ∀ (j i : Nat), i + j = el.length →
    ∃ e1 s2 r', Ev c0.P c0.T (.code 0 (.loop lc3) (j2 k n s xb eb xf ef xl el m i) e1 s2) ∧ RestOk c0.P c0.T 0 e1 lk3 s2 .ret [4] 0 (sout r') [] := by
  intro j
  induction j with
  | zero =>
    intro i hi
    have e := b4_3 k n s xb eb xf ef xl el m i 0 0 ⟨#[]⟩ false [] false [] false [] (by simp; omega)
    obtain ⟨s2, g1, g2⟩ := loop_left (cfOk []) e (by simp) (Nat.zero_le _) ran4 (s_out k n s xb eb xf ef xl el m i) (by simp)
    exact ⟨_, s2, true, g1, g2⟩
  | succ j ihj =>
    intro i hi
    have hlt : i < el.length := by omega
    by_cases hm : m = 0
    · have e := b4_0 k n s xb eb xf ef xl el m i 0 0 ⟨#[]⟩ false [] false [] false [] (by simp; omega) (by simp [hm])
      obtain ⟨s2, g1, g2⟩ := loop_ret lk3 e
      exact ⟨_, s2, false, g1, g2⟩
    · obtain ⟨ck, cn, cs, yb, cb, yf, cf, yl, cl, hrow⟩ := (hv _ (List.getElem_mem hlt)).get
      have hget : el[i]? = some (val ck cn cs yb cb yf cf yl cl) := by rw [List.getElem?_eq_getElem hlt, hrow]
      have hw := ih _ (List.getElem_mem hlt) (IntKind.i64.wrap (m - 1))
      rw [hrow] at hw
      cases hb : Sh (val ck cn cs yb cb yf cf yl cl) (IntKind.i64.wrap (m - 1)) with
      | true =>
        have e := b4_1 k n s xb eb xf ef xl el m i ck cn cs yb cb yf cf yl cl (by simp; omega) (by simpa using hm) hb hw (by omega) (by simpa using hget)
        rw [up hlt le] at e
        obtain ⟨e1, s2, r', g1, g2⟩ := ihj (i + 1) (by omega)
        exact ⟨e1, s2, r', loop_again e (Nat.zero_le _) g1, g2⟩
      | false =>
        have e := b4_2 k n s xb eb xf ef xl el m i ck cn cs yb cb yf cf yl cl (by simp; omega) (by simpa using hm) hb hw (by omega) (by simpa using hget)
        obtain ⟨s2, g1, g2⟩ := loop_ret lk3 e
        exact ⟨_, s2, false, g1, g2⟩

theorem sloop1 (le : el.length ≤ maxLen) (lf : ef.length ≤ maxLen) (hv : ∀ row ∈ el, VS row) (ih : ∀ row ∈ el, ∀ m, Sk row m)
    (hf : ∀ r ∈ ef, ∃ nm c, r = .str nm :: c ∧ VS c ∧ ∀ m, Sk c m) : ∀ (j i : Nat), i + j = ef.length →
    ∃ e1 s2 r', Ev c0.P c0.T (.code 0 (.loop (lc1 37)) (j1 k n s xb eb xf ef xl el m i) e1 s2) ∧ RestOk c0.P c0.T 0 e1 (lk1 37) s2 .ret [4] 0 (sout r') [] := by
  intro j
  induction j with
  | zero =>
    intro i hi
    have e := b3_3 k n s xb eb xf ef xl el m i ⟨#[]⟩ 0 0 ⟨#[]⟩ false [] false [] false [] (by simp; omega)
    obtain ⟨e2, s2, r', g1, g2⟩ := sloop2 k n s xb eb xf ef xl el m le hv ih el.length 0 (by omega)
    obtain ⟨s1, k1, k2⟩ := loop_left_loop (cfOk []) e (by simp) (Nat.zero_le _) ran3 (s_mid k n s xb eb xf ef xl el m i) (by simp) (Nat.zero_le _) g1 g2
    exact ⟨_, s1, r', k1, k2⟩
  | succ j ihj =>
    intro i hi
    have hlt : i < ef.length := by omega
    by_cases hm : m = 0
    · have e := b3_0 k n s xb eb xf ef xl el m i ⟨#[]⟩ 0 0 ⟨#[]⟩ false [] false [] false [] (by simp; omega) (by simp [hm])
      obtain ⟨s2, g1, g2⟩ := loop_ret (lk1 37) e
      exact ⟨_, s2, false, g1, g2⟩
    · obtain ⟨nm, c, hc, hvc, hwc⟩ := hf _ (List.getElem_mem hlt)
      obtain ⟨ck, cn, cs, yb, cb, yf, cf, yl, cl, hrow⟩ := hvc.get
      have hget : ef[i]? = some (.str nm :: val ck cn cs yb cb yf cf yl cl) := by rw [List.getElem?_eq_getElem hlt, hc, hrow]
      have hw := hwc (IntKind.i64.wrap (m - 1))
      rw [hrow] at hw
      cases hb : Sh (val ck cn cs yb cb yf cf yl cl) (IntKind.i64.wrap (m - 1)) with
      | true =>
        have e := b3_1 k n s xb eb xf ef xl el m i nm ck cn cs yb cb yf cf yl cl (by simp; omega) (by simpa using hm) hb hw (by omega) (by simpa using hget)
        rw [up hlt lf] at e
        obtain ⟨e1, s2, r', g1, g2⟩ := ihj (i + 1) (by omega)
        exact ⟨e1, s2, r', loop_again e (Nat.zero_le _) g1, g2⟩
      | false =>
        have e := b3_2 k n s xb eb xf ef xl el m i nm ck cn cs yb cb yf cf yl cl (by simp; omega) (by simpa using hm) hb hw (by omega) (by simpa using hget)
        obtain ⟨s2, g1, g2⟩ := loop_ret (lk1 37) e
        exact ⟨_, s2, false, g1, g2⟩

end

theorem s_body : Tryd.prog.funcs[37]? = some (fnOf 37) := by kernel_rfl
theorem s_code : (fnOf 37).body = some (bodyOf 37) := by kernel_rfl
theorem s_name : ((fnOf 37).name == "runtime.NumGoroutine") = false := by kernel_rfl
theorem s_res : (fnOf 37).results = #[.tmp 4] := by kernel_rfl
theorem s_get (r : Bool) : (sout r).getD 4 .undef = .bool r := by kernel_rfl

/-- Shallow hands back a truth value, whatever the value. -/
theorem shallow {c : List D} (h : VS c) : ∀ m, Sk c m := by
  induction h with
  | mk k n s xb eb xf ef xl el bs hk hn hs hb hb' lb lf ll nb nf nl hf hfv hl ihf ihl =>
    intro m
    obtain ⟨e1, s2, r', g1, g2⟩ := sloop1 k n s xb eb xf ef xl el m ll lf hl ihl (fun r hr => by
      obtain ⟨nm, c, rfl, _⟩ := hf r hr
      exact ⟨nm, c, rfl, hfv nm c hr, ihf nm c hr⟩) ef.length 0 (by omega)
    have := call_road (H0 := []) s_body s_code s_name (.inr rfl) s_res rfl (road_loop (n := 0) (cfOk []) (s_in k n s xb eb xf ef xl el m) (by simp) (Nat.zero_le _) g1 g2)
    rw [s_get] at this
    obtain ⟨H1, hev⟩ := this
    exact ⟨r', H1, hev⟩

/-! ### Small -/
noncomputable def sm (k n : Int) (s : ByteArray) (xb : Bool) (eb : Es) (xf : Bool) (ef : Es) (xl : Bool) (el : Es) (or : GD.Or) := callE (cf []) 100000 10 28 [.agg (val k n s xb eb xf ef xl el)] [] or

theorem sm_0 (k n : Int) (s : ByteArray) (xb : Bool) (eb : Es) (xf : Bool) (ef : Es) (xl : Bool) (el : Es)
    (h0 : decide
    (W [D.int IntKind.i64 k, D.int IntKind.i64 n, D.str s, D.slice xb eb none, D.slice xf ef none, D.slice xl el none]
        (3000 : Int) ≤
      (3000 : Int)) =
  true)
    (h1 : Sk [D.int IntKind.i64 k, D.int IntKind.i64 n, D.str s, D.slice xb eb none, D.slice xf ef none, D.slice xl el none]
  (60 : Int))
    (h2 : Wk [D.int IntKind.i64 k, D.int IntKind.i64 n, D.str s, D.slice xb eb none, D.slice xf ef none, D.slice xl el none]
  (3000 : Int)) :
    ∃ X, Ev c0.P c0.T (.call 28 [.agg (val k n s xb eb xf ef xl el)] [] (D.bool
  (Sh [D.int IntKind.i64 k, D.int IntKind.i64 n, D.str s, D.slice xb eb none, D.slice xf ef none, D.slice xl el none]
    (60 : Int))) ([] ++ X)) :=
  outC_ok (cfOk []) (show outC 0 (sm k n s xb eb xf ef xl el (.path [true, true, true])) = some (D.bool
  (Sh [D.int IntKind.i64 k, D.int IntKind.i64 n, D.str s, D.slice xb eb none, D.slice xf ef none, D.slice xl el none]
    (60 : Int)), [],
    [decide
    (W [D.int IntKind.i64 k, D.int IntKind.i64 n, D.str s, D.slice xb eb none, D.slice xf ef none, D.slice xl el none]
        (3000 : Int) ≤
      (3000 : Int)) =
  true,
      Sk [D.int IntKind.i64 k, D.int IntKind.i64 n, D.str s, D.slice xb eb none, D.slice xf ef none, D.slice xl el none]
  (60 : Int),
      (decide
      (W [D.int IntKind.i64 k, D.int IntKind.i64 n, D.str s, D.slice xb eb none, D.slice xf ef none, D.slice xl el none]
          (3000 : Int) ≤
        (3000 : Int)) ==
    true) =
  true,
      (decide
      (W [D.int IntKind.i64 k, D.int IntKind.i64 n, D.str s, D.slice xb eb none, D.slice xf ef none, D.slice xl el none]
          (3000 : Int) ≤
        (3000 : Int)) ==
    true) =
  true,
      Wk [D.int IntKind.i64 k, D.int IntKind.i64 n, D.str s, D.slice xb eb none, D.slice xf ef none, D.slice xl el none]
  (3000 : Int)]) by kernel_rfl) (by simp only [all_cons, all_nil]; simp [*])

theorem sm_1 (k n : Int) (s : ByteArray) (xb : Bool) (eb : Es) (xf : Bool) (ef : Es) (xl : Bool) (el : Es)
    (h0 : decide
    (W [D.int IntKind.i64 k, D.int IntKind.i64 n, D.str s, D.slice xb eb none, D.slice xf ef none, D.slice xl el none]
        (3000 : Int) ≤
      (3000 : Int)) =
  false)
    (h1 : Wk [D.int IntKind.i64 k, D.int IntKind.i64 n, D.str s, D.slice xb eb none, D.slice xf ef none, D.slice xl el none]
  (3000 : Int)) :
    ∃ X, Ev c0.P c0.T (.call 28 [.agg (val k n s xb eb xf ef xl el)] [] (D.bool false) ([] ++ X)) :=
  outC_ok (cfOk []) (show outC 0 (sm k n s xb eb xf ef xl el (.path [false, false, false])) = some (D.bool false, [],
    [decide
    (W [D.int IntKind.i64 k, D.int IntKind.i64 n, D.str s, D.slice xb eb none, D.slice xf ef none, D.slice xl el none]
        (3000 : Int) ≤
      (3000 : Int)) =
  false,
      (decide
      (W [D.int IntKind.i64 k, D.int IntKind.i64 n, D.str s, D.slice xb eb none, D.slice xf ef none, D.slice xl el none]
          (3000 : Int) ≤
        (3000 : Int)) ==
    true) =
  false,
      (decide
      (W [D.int IntKind.i64 k, D.int IntKind.i64 n, D.str s, D.slice xb eb none, D.slice xf ef none, D.slice xl el none]
          (3000 : Int) ≤
        (3000 : Int)) ==
    true) =
  false,
      Wk [D.int IntKind.i64 k, D.int IntKind.i64 n, D.str s, D.slice xb eb none, D.slice xf ef none, D.slice xl el none]
  (3000 : Int)]) by kernel_rfl) (by simp only [all_cons, all_nil]; simp [*])


/-- What Small answers. -/
noncomputable def smallB (c : List D) : Bool := cond (decide (W c 3000 ≤ 3000)) (Sh c 60) false

theorem small {c : List D} (h : VS c) : ∃ X, Ev c0.P c0.T (.call 28 [.agg c] [] (.bool (smallB c)) ([] ++ X)) := by
  have hw := weight h 3000
  have hs := shallow h 60
  obtain ⟨k, n, s, xb, eb, xf, ef, xl, el, rfl⟩ := h.get
  unfold smallB
  cases g : decide (W (val k n s xb eb xf ef xl el) 3000 ≤ 3000) with
  | true => exact sm_0 k n s xb eb xf ef xl el g hs hw
  | false => exact sm_1 k n s xb eb xf ef xl el g hw

end Go.Proofs.YtlccdfilbiipmaaDoor.valk
