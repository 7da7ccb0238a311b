/- One operation on data is what the machine does: operations that write nothing, the rest. -/
import Derived.Test.YtifpbdhggooelaaGd5
namespace Go.Proofs.Ytifpbdhggooelaa.GD
open Go
set_option linter.unusedVariables false
set_option linter.unusedSimpArgs false

variable {P : Program} {T : Tys}
section
variable {I : Im} {w : World} {μ : List Loc} {H : Heap}

theorem binNil {op : BinOp} {t : TypeId} {x y : Operand} {va vb : Value} {a b : D} {yt : Ty} {c : Bool} (hT : TOk P T) (ht : T t = some yt)
    (ha : Rep I w μ a va) (hb : Rep I w μ b vb) (hnil : isNilV y = true ∨ isNilV x = true) (hn : nilEq yt.k a b = some c) (hop : op = .eql ∨ op = .neq) :
    (do eqGuard op t x y va vb; binOp op t va vb : Sem Value).run P w = .ok (.bool (eqOut op c)) w := by
  have hq := nilEq_ok hT ht ha hb hn
  have hf := nilEq_form (P := P) hn ha hb op t hop
  have hg : (eqGuard op t x y va vb).run P w = .ok () w := by
    have hna : ∀ cs, va ≠ .agg cs := by
      rintro cs rfl
      cases ha with
      | pure h' => cases h' with
        | agg => revert hn; cases yt.k <;> simp [nilEq]
        | undef => revert hn; cases yt.k <;> simp [nilEq]
      | agg => revert hn; cases yt.k <;> simp [nilEq]
    rcases hnil with hnil | hnil <;> obtain ⟨v, rfl⟩ := isNil_const hnil <;> rcases hop with rfl | rfl <;> unfold eqGuard <;>
      (cases va <;> first | rfl | (exact absurd rfl (hna _)) | (cases vb <;> first | rfl | simp))
  simp [hg, hf, hq]

theorem isInt_of {t : TypeId} (h : isIntT P t = true) : ∃ k, P.underlying t = some (.int k) := by
  unfold isIntT at h
  split at h
  · rename_i k hk; exact ⟨k, hk⟩
  · cases h
theorem two_of (hT : TOk P T) {t : TypeId} {y : Ty} (h : T t = some y) (h2 : y.two = true) :
    ∃ (f g : Field) (kf kg : IntKind), P.underlying t = some (.struct #[f, g]) ∧ (f.name == "_") = false ∧ (g.name == "_") = false ∧ P.underlying f.type = some (.int kf) ∧ P.underlying g.type = some (.int kg) ∧
      f.offset = 0 ∧ g.offset = 1 ∧ P.stoodInHeld t = false ∧ P.eqGuardType P.depth t = false := by
  have := hT t y h
  unfold tyOf at this
  split at this
  · rename_i i d hi hd
    obtain rfl := Option.some.inj this
    simp only at h2
    unfold twoInts at h2
    split at h2
    · rename_i fs
      split at h2
      · rename_i f g hfs
        simp only [Bool.and_eq_true, Bool.not_eq_true', bne_iff_ne, beq_iff_eq] at h2
        obtain ⟨⟨⟨⟨⟨⟨⟨a1, a2⟩, a3⟩, a4⟩, a5⟩, a6⟩, a7⟩, a8⟩ := h2
        obtain ⟨kf, b1⟩ := isInt_of a3
        obtain ⟨kg, b2⟩ := isInt_of a4
        have e : fs = #[f, g] := by apply Array.ext'; rw [hfs]
        subst e
        exact ⟨f, g, kf, kg, hd, by simpa using a1, by simpa using a2, b1, b2, a5, a6, a7, a8⟩
      · cases h2
    · cases h2
  · cases this
theorem run_part_int {t : TypeId} {k : IntKind} (hk : P.underlying t = some (.int k)) {vs : Array Value} {off : Nat} {v : Value} (hv : vs[off]? = some v) (w : World) : (part t vs off).run P w = .ok v w := by
  simp [part, isAgg, run_underlying hk w, hv]
theorem agg_two {k0 k1 : IntKind} {a0 a1 : Int} {v : Value} (h : Rep I w μ (.agg [.int k0 a0, .int k1 a1]) v) : v = .agg #[.int k0 a0, .int k1 a1] := by
  obtain ⟨vs, rfl, hl, hr⟩ := rep_agg h
  have hs : vs.size = 2 := by rw [← hl]; rfl
  have e0 := rep_int (hr 0 _ vs[0] rfl (by simp))
  have e1 := rep_int (hr 1 _ vs[1] rfl (by simp))
  congr 1
  apply Array.ext
  · simp [hs]
  · intro i h1 h2
    match i with
    | 0 => exact e0
    | 1 => exact e1
    | i + 2 => simp at h2; omega
theorem binTwo {op : BinOp} {t : TypeId} {x y : Operand} {yt : Ty} {k0 k1 : IntKind} {a0 a1 b0 b1 : Int} (hT : TOk P T) (hty : T t = some yt) (h2 : yt.two = true) (hop : op = .eql ∨ op = .neq) (w : World) :
    (do eqGuard op t x y (.agg #[.int k0 a0, .int k1 a1]) (.agg #[.int k0 b0, .int k1 b1]); binOp op t (.agg #[.int k0 a0, .int k1 a1]) (.agg #[.int k0 b0, .int k1 b1])).run P w = .ok (.bool (eqOut op (a0 == b0 && a1 == b1))) w := by
  obtain ⟨f, g, kf, kg, hd, n1, n2, u1, u2, o1, o2, hs, hg⟩ := two_of hT hty h2
  have he : (Op.equal t (.agg #[.int k0 a0, .int k1 a1]) (.agg #[.int k0 b0, .int k1 b1])).run P w = .ok (a0 == b0 && a1 == b1) w := by
    have hi : ∀ (e : TypeId) (k k' : IntKind) (a b : Int), P.underlying e = some (.int k') → (Op.equalIn 9999 e (.int k a) (.int k b)).run P w = .ok (a == b) w := by
      intro e k k' a b hu
      rw [show Op.equalIn 9999 e (.int k a) (.int k b) = Op.equalIn (9998 + 1) e (.int k a) (.int k b) from rfl]
      unfold Op.equalIn
      simp [run_underlying hu w]
    rw [show Op.equal t (.agg #[.int k0 a0, .int k1 a1]) (.agg #[.int k0 b0, .int k1 b1]) = Op.equalIn (9999 + 1) t (.agg #[.int k0 a0, .int k1 a1]) (.agg #[.int k0 b0, .int k1 b1]) from rfl]
    unfold Op.equalIn
    have p1 := run_part_int (vs := #[.int k0 a0, .int k1 a1]) (off := 0) u1 rfl w
    have p2 := run_part_int (vs := #[.int k0 a0, .int k1 a1]) (off := 1) u2 rfl w
    have q1 := run_part_int (vs := #[.int k0 b0, .int k1 b1]) (off := 0) u1 rfl w
    have q2 := run_part_int (vs := #[.int k0 b0, .int k1 b1]) (off := 1) u2 rfl w
    have n1' : f.name ≠ "_" := by simpa using n1
    have n2' : g.name ≠ "_" := by simpa using n2
    cases hab : (a0 == b0) <;> cases hcd : (a1 == b1) <;> simp [run_underlying hd w, hs, o1, o2, p1, p2, q1, q2, n1', n2', hi _ _ _ _ _ u1, hi _ _ _ _ _ u2, hab, hcd]
  have hgd : (eqGuard op t x y (.agg #[.int k0 a0, .int k1 a1]) (.agg #[.int k0 b0, .int k1 b1])).run P w = .ok () w := by
    unfold eqGuard
    rcases hop with rfl | rfl <;> simp [hg]
  rcases hop with rfl | rfl <;> simp [hgd, binOp, he, eqOut]

theorem good_bin {h : Hint} {op : BinOp} {t : TypeId} {x y : Operand} {ρ : Operand → D} {va vb : Value} {r : SR} (hT : TOk P T) (hw : WOk I w μ H)
    (ha : Rep I w μ (ρ x) va) (hb : Rep I w μ (ρ y) vb) (hr : binF T op t x y ρ h = some r) (hc : ∀ c ∈ r.cs, c) :
    GoodV P (do eqGuard op t x y va vb; binOp op t va vb) I w μ H r := by
  by_cases h1 : ∃ k a k' b, ρ x = .int k a ∧ ρ y = .int k' b
  · obtain ⟨k, a, k', b, ex, ey⟩ := h1
    rw [ex] at ha; rw [ey] at hb
    obtain rfl := rep_int ha
    obtain rfl := rep_int hb
    exact binInt hw ex ey hr hc
  by_cases h2 : ∃ a b, ρ x = .str a ∧ ρ y = .str b
  · obtain ⟨a, b, ex, ey⟩ := h2
    rw [ex] at ha; rw [ey] at hb
    obtain rfl := rep_str ha
    obtain rfl := rep_str hb
    exact binStr hw ex ey hr hc
  unfold binF at hr
  split at hr
  · rename_i k a k' b ex ey; exact absurd ⟨k, a, k', b, ex, ey⟩ h1
  · rename_i a b ex ey; exact absurd ⟨a, b, ex, ey⟩ h2
  · rename_i a b ex ey
    rw [ex] at ha; rw [ey] at hb
    obtain rfl := rep_bool ha
    obtain rfl := rep_bool hb
    split at hr
    · rename_i sz by_ z hty
      obtain ⟨i, d, hi, hd, hk, _⟩ := ty_of hT hty
      obtain rfl := tk_bool hk
      have he : (Op.equal t (.bool a) (.bool b)).run P w = .ok (a == b) w := by
        rw [show Op.equal t (.bool a) (.bool b) = Op.equalIn (9999 + 1) t (.bool a) (.bool b) from rfl]
        unfold Op.equalIn
        simp [run_underlying hd w]
      have hg : (eqGuard op t x y (.bool a) (.bool b)).run P w = .ok () w := by unfold eqGuard; cases op <;> rfl
      split at hr
      · obtain rfl := Option.some.inj hr
        refine good_bool hw ?_
        simp [hg, binOp, he]
      · obtain rfl := Option.some.inj hr
        refine good_bool hw ?_
        simp [hg, binOp, he]
      · cases hr
    · cases hr
  · rename_i k0 a0 k1 a1 l0 b0 l1 b1 ex ey
    rw [ex] at ha; rw [ey] at hb
    split at hr
    · rename_i yt hty
      split at hr
      · rename_i hc2
        obtain ⟨h2, rfl, rfl⟩ := hc2
        obtain rfl := agg_two ha
        obtain rfl := agg_two hb
        split at hr
        · obtain rfl := Option.some.inj hr
          exact good_bool hw (binTwo hT hty h2 (.inl rfl) w)
        · obtain rfl := Option.some.inj hr
          exact good_bool hw (binTwo hT hty h2 (.inr rfl) w)
        · cases hr
      · cases hr
    · cases hr
  · split at hr
    · rename_i yt hty
      split at hr
      · rename_i hnil
        have hnil' : isNilV y = true ∨ isNilV x = true := by simpa [binF.y'] using hnil
        split at hr
        · obtain ⟨c, hn, rfl⟩ := Option.map_eq_some_iff.1 hr
          exact good_bool hw (binNil hT hty ha hb hnil' hn (.inl rfl))
        · obtain ⟨c, hn, rfl⟩ := Option.map_eq_some_iff.1 hr
          exact good_bool hw (binNil hT hty ha hb hnil' hn (.inr rfl))
        · cases hr
      · cases hr
    · cases hr

theorem good_un {op : UnOp} {d : D} {v : Value} {r : SR} (hw : WOk I w μ H) (hd : Rep I w μ d v) (hr : unF op d = some r) : GoodV P (Op.unary op v) I w μ H r := by
  unfold unF at hr
  split at hr
  · obtain rfl := Option.some.inj hr; obtain rfl := rep_int hd
    exact good_int hw rfl
  · obtain ⟨m, hm, rfl⟩ := Option.map_eq_some_iff.1 hr; obtain rfl := rep_int hd
    exact good_int hw (bits_ok hm w)
  · obtain rfl := Option.some.inj hr; obtain rfl := rep_bool hd
    exact good_bool hw rfl
  · cases hr

theorem good_pick {c a b : D} {vc va vb : Value} {h : Hint} {r : SR} (hw : WOk I w μ H) (h1 : Rep I w μ c vc) (h2 : Rep I w μ a va) (h3 : Rep I w μ b vb)
    (hr : pickF c a b h = some r) (hc : ∀ c ∈ r.cs, c) : Good P (do pure (Next.value (if ← asBool vc then va else vb))) I w μ H r := by
  unfold pickF at hr
  split at hr
  · rename_i x k
    obtain rfl := Option.some.inj hr
    obtain rfl := rep_bool h1
    have hxk := hc _ (List.mem_cons_self ..)
    subst hxk
    refine good_pure (v := if x = true then va else vb) hw (by simp [asBool]) rfl ?_
    cases x
    · exact h3
    · exact h2
  · rename_i x _
    split at hr
    · obtain rfl := Option.some.inj hr
      obtain rfl := rep_bool h1
      refine good_pure (v := if x = true then va else vb) hw (by simp [asBool]) rfl ?_
      cases x
      · exact h3
      · exact h2
    · cases hr
  · cases hr

theorem good_extract {x : D} {v : Value} {i : Nat} {r : SR} (hw : WOk I w μ H) (hx : Rep I w μ x v) (hr : extractF x i = some r) : GoodV P (Instr.extract v i) I w μ H r := by
  unfold extractF at hr
  split at hr
  · split at hr
    · rename_i d hd
      obtain rfl := Option.some.inj hr
      obtain ⟨vs, rfl, hl, hc⟩ := rep_tuple hx
      have hi : i < vs.size := by rw [← hl]; exact (List.getElem?_eq_some_iff.1 hd).1
      refine goodV_same (v := vs[i]) hw ?_ rfl (hc i d _ hd (Array.getElem?_eq_getElem hi))
      simp [Instr.extract, Array.getElem?_eq_getElem hi]
    · cases hr
  · cases hr

theorem good_makeInterface {t : TypeId} {x : D} {v : Value} {r : SR} (hT : TOk P T) (hw : WOk I w μ H) (hx : Rep I w μ x v)
    (hr : (match T t with | some y => (match y.k with | .iface => none | _ => some { v := .iface t x }) | none => none : Option SR) = some r) :
    GoodV P (Instr.makeInterface t v) I w μ H r := by
  split at hr
  · rename_i y hy
    obtain ⟨i, d, hi, hd, hk, _⟩ := ty_of hT hy
    split at hr
    · cases hr
    · rename_i hne
      obtain rfl := Option.some.inj hr
      refine goodV_same (v := .iface t v) hw ?_ rfl (.iface t x v hx)
      cases d <;> simp [Instr.makeInterface, run_underlying hd w]
      exact hne (by rw [hk]; rfl)
  · cases hr

theorem rep_list {xs : List Operand} {ρ : Operand → D} {ev : Operand → Value} (h : ∀ x ∈ xs, Rep I w μ (ρ x) (ev x)) :
    ∀ (i : Nat) d u, (xs.map ρ)[i]? = some d → (xs.map ev)[i]? = some u → Rep I w μ d u := by
  intro i d u hd hu
  rw [List.getElem?_map] at hd hu
  cases hx : xs[i]? with
  | none => rw [hx] at hd; cases hd
  | some x =>
    rw [hx] at hd hu
    obtain rfl := Option.some.inj hd
    obtain rfl := Option.some.inj hu
    exact h x (List.mem_of_getElem? hx)

theorem good_makeFunc {fn : Fn} {a b : Array Operand} {ρ : Operand → D} {ev : Operand → Value} (hw : WOk I w μ H)
    (ha : ∀ x ∈ a.toList, Rep I w μ (ρ x) (ev x)) (hb : ∀ x ∈ b.toList, Rep I w μ (ρ x) (ev x)) :
    GoodV P (Instr.makeFunc fn (a.map ev) (b.map ev)) I w μ H { v := .func fn (a.toList.map ρ) (b.toList.map ρ) } := by
  refine goodV_same (v := .func fn (a.map ev) (b.map ev)) hw rfl rfl (.func fn _ _ _ _ (by simp) (by simp) (fun i d u h1 h2 => ?_) (fun i d u h1 h2 => ?_))
  · exact rep_list ha i d u h1 (by simpa using h2)
  · exact rep_list hb i d u h1 (by simpa using h2)

theorem addr_add (a : Addr) (x y : Nat) : (a.add x).add y = a.add (x + y) := by
  unfold Addr.add
  by_cases hx : x = 0
  · subst hx; simp
  · by_cases hy : y = 0
    · subst hy; simp
    · simp [hx, hy, Nat.add_assoc]

theorem add_lit (b k n : Nat) : (⟨b, k, none⟩ : Addr).add n = ⟨b, k + n, none⟩ := by unfold Addr.add; split <;> simp_all

theorem repP_drop {cs : List D} {a : Addr} {f : Nat → Value} (off : Nat) (h1 : ∀ j, j < cs.length → I (a.add j).block (a.add j).off ∧ w.cell? (a.add j) = some (f j))
    (h2 : ∀ (j : Nat) d, cs[j]? = some d → RepP I w d (f j)) : RepP I w (.sptr (cs.drop off)) (.pointer (some (a.add off))) := by
  refine .sptr _ _ (fun j => f (off + j)) (fun j hj => ?_) (fun j d hd => ?_)
  · rw [addr_add]; exact h1 _ (by simp at hj; omega)
  · rw [List.getElem?_drop] at hd; exact h2 _ _ hd

theorem run_sizeOf {t : TypeId} {i : TypeInfo} (hi : P.info? t = some i) (w : World) : (sizeOf t).run P w = .ok i.size w := by
  simp [sizeOf, typeInfo, hi]

theorem good_fieldAddr {s f : Nat} {x : D} {v : Value} {r : SR} (hT : TOk P T) (hw : WOk I w μ H) (hx : Rep I w μ x v) (hr : fieldAddrF T s x f = some r) :
    GoodV P (Instr.fieldAt s v f) I w μ H r := by
  unfold fieldAddrF at hr
  have key : ∀ off, fieldOff T s f = some off → ∀ a : Addr, (Instr.fieldAt s (.pointer (some a)) f).run P w = .ok (.pointer (some (a.add off))) w := by
    intro off ho a
    unfold fieldOff at ho
    split at ho
    · rename_i fs sz by_ z hs
      obtain ⟨i, d, hi, hd, hk, _⟩ := ty_of hT hs
      obtain ⟨gs, rfl, rfl⟩ := tk_struct hk
      split at ho
      · rename_i ft off' hf
        split at ho
        · rename_i y hy
          split at ho
          · cases ho
          · rename_i hsz
            obtain rfl := Option.some.inj ho
            rw [List.getElem?_map] at hf
            obtain ⟨g, hg, he⟩ := Option.map_eq_some_iff.1 hf
            simp only [Prod.mk.injEq] at he
            obtain ⟨rfl, rfl⟩ := he
            obtain ⟨i', d', hi', hd', _, hs', _⟩ := ty_of hT hy
            have hg' : gs[f]? = some g := by simpa using hg
            simp [Instr.fieldAt, run_underlying hd w, hg', Instr.sureAddr, fieldPlace, run_sizeOf hi' w, ← hs', hsz]
        · cases ho
      · cases ho
    · cases ho
  split at hr
  · rename_i off o i k ho
    obtain rfl := Option.some.inj hr
    obtain ⟨m, hm, hf, rfl⟩ := rep_ptr hx
    refine goodV_same hw (key off ho _) rfl ?_
    rw [add_lit, Nat.add_assoc]
    exact .ptr o i _ m hm hf
  · rename_i off cs ho
    obtain rfl := Option.some.inj hr
    obtain ⟨a, g, rfl, h1, h2⟩ := rep_sptr hx
    exact goodV_same hw (key off ho _) rfl (.pure (repP_drop off h1 h2))
  · cases hr

theorem isAgg_run {t : TypeId} {y : Ty} (hT : TOk P T) (hy : T t = some y) (w : World) : (isAgg t).run P w = .ok y.k.isAgg w := by
  obtain ⟨i, d, hi, hd, hk, _⟩ := ty_of hT hy
  rw [hk]
  cases d <;> simp [isAgg, run_underlying hd w, tkOf, TK.isAgg]

/-- A part of an aggregate. -/
theorem part_ok {t : TypeId} {y : Ty} {cs : List D} {vs : Array Value} {off : Nat} {d : D} (hT : TOk P T) (hy : T t = some y) (hl : cs.length = vs.size)
    (hr : ∀ (i : Nat) c u, cs[i]? = some c → vs[i]? = some u → Rep I w μ c u) (hp : pickCells y (cs.drop off) = some d) :
    ∃ v, (part t vs off).run P w = .ok v w ∧ Rep I w μ d v := by
  obtain ⟨i, td, hi, hd, hk, hsz, _⟩ := ty_of hT hy
  unfold pickCells at hp
  split at hp
  · rename_i hagg
    split at hp
    · rename_i hle
      obtain rfl := Option.some.inj hp
      simp at hle
      refine ⟨.agg (vs.extract off (off + y.size)), by simp [part, isAgg_run hT hy w, hagg, run_sizeOf hi w, hsz], .agg _ _ ?_ (fun j c u hc hu => ?_)⟩
      · simp; omega
      · rw [List.getElem?_take] at hc
        split at hc
        · rename_i hj
          rw [List.getElem?_drop] at hc
          rw [Array.getElem?_extract] at hu
          split at hu
          · exact hr (off + j) c u hc hu
          · cases hu
        · cases hc
    · cases hp
  · rename_i hagg
    split at hp
    · rename_i c rest hcs
      obtain rfl := Option.some.inj hp
      have h0 : cs[off]? = some c := by
        have : (cs.drop off)[0]? = some c := by rw [hcs]; rfl
        rw [List.getElem?_drop] at this; simpa using this
      have hlt : off < vs.size := by rw [← hl]; exact (List.getElem?_eq_some_iff.1 h0).1
      refine ⟨vs[off], ?_, hr off c _ h0 (Array.getElem?_eq_getElem hlt)⟩
      simp [part, isAgg_run hT hy w, hagg, Array.getElem?_eq_getElem hlt]
    · cases hp

theorem good_field {s f : Nat} {x : D} {v : Value} {r : SR} (hT : TOk P T) (hw : WOk I w μ H) (hx : Rep I w μ x v) (hr : fieldF T s x f = some r) :
    GoodV P (Instr.field s v f) I w μ H r := by
  unfold fieldF at hr
  split at hr
  · rename_i fs sz by_ z cs hs
    obtain ⟨i, d, hi, hd, hk, _⟩ := ty_of hT hs
    obtain ⟨gs, rfl, rfl⟩ := tk_struct hk
    obtain ⟨vs, rfl, hl, hrep⟩ := rep_agg hx
    split at hr
    · rename_i ft off hf
      split at hr
      · rename_i y hy
        obtain ⟨e, hp, rfl⟩ := Option.map_eq_some_iff.1 hr
        rw [List.getElem?_map] at hf
        obtain ⟨g, hg, he⟩ := Option.map_eq_some_iff.1 hf
        simp only [Prod.mk.injEq] at he
        obtain ⟨rfl, rfl⟩ := he
        obtain ⟨u, hu, hR⟩ := part_ok hT hy hl hrep hp
        have hg' : gs[f]? = some g := by simpa using hg
        exact goodV_same hw (by simp [Instr.field, run_underlying hd w, hg', asAgg, hu]) rfl hR
      · cases hr
    · cases hr
  · cases hr

theorem row_get {h : Hint} {es : List (List D)} {i : Nat} {c : List D} {p : List Prop} (hg : rowGet h es i = some (c, p)) (hp : ∀ q ∈ p, q) : es[i]? = some c := by
  unfold rowGet at hg
  split at hg
  · simp only [Option.some.injEq, Prod.mk.injEq] at hg
    obtain ⟨rfl, rfl⟩ := hg
    exact hp _ (by simp)
  · split at hg
    · rename_i hc
      simp only [Option.some.injEq, Prod.mk.injEq] at hg
      obtain ⟨rfl, rfl⟩ := hg
      exact hc
    · cases hg

end
end Go.Proofs.Ytifpbdhggooelaa.GD
