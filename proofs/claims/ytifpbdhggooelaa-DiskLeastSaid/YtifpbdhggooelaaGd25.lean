/- Regions that may be carried out in more than one order: any order comes to the same. -/
import Derived.Test.YtifpbdhggooelaaGd24
namespace Go.Proofs.Ytifpbdhggooelaa.GD
open Go
set_option linter.unusedVariables false
set_option linter.unusedSimpArgs false

variable {P : Program} {T : Tys}

theorem runSet_congr : ∀ {l : List (Nat × Oper × Lab)} {E E' : Nat → Bool} {s : St}, (∀ p ∈ l, E p.1 = E' p.1) → runSet l E s = runSet l E' s
  | [], E, E', s, _ => rfl
  | p :: l, E, E', s, h => by
    simp only [runSet]
    rw [h p (by simp)]
    exact runSet_congr (fun q hq => h q (List.mem_cons_of_mem _ hq))

section
variable {I : Im} {w : World} {μ : List Loc} {H : Heap}

theorem drawn_ok (k n : Nat) (hw : WOk I w μ H) : WOk I { w with drawn := k } μ H ∧ Ext n I w μ H I { w with drawn := k } μ H := by
  have hk : Keeps I w I { w with drawn := k } := ⟨fun b j h => ⟨h, rfl⟩⟩
  refine ⟨⟨hw.len, fun o x hx => ?_, hw.inj, hw.imm, hw.dum, fun g => (hw.glb g).keeps hk⟩, ⟨hk.imm, fun o m _ hm => ⟨m, hm, Nat.le_refl _, fun _ => rfl, fun _ => rfl⟩, Nat.le_refl _, fun _ h => .inl h, fun _ _ _ => rfl, rfl, rfl, rfl, fun _ _ h => .inl h⟩⟩
  obtain ⟨m, hm, hok⟩ := hw.obj o x hx
  exact ⟨m, hm, objOk_keep hok hk (MuExt.refl _) (fun _ => ⟨rfl, fun _ h => h⟩)⟩

end

theorem draw_any {ops : Array Oper} {c K n : Nat} {Ls : List Lab} {m : List Nat} {s0 : St} {I : Im} {w : World} {μ : List Loc} {Hb : Heap} {Q : Exit → Act → World → Prop}
    (hO : OrderOk ops c K (labList 0 ops.toList Ls) m) (hl : Ls.length = ops.size) (hK : 0 < K)
    (hlab : ∀ (i : Nat) (o : Oper) (L : Lab), ops[i]? = some o → Ls[i]? = some L → Sound P (.lab ops o (c + i * K) K (runSet (labList 0 ops.toList Ls) (below i) s0) L))
    (hlen : s0.H.length = c + ops.size * K) (hfree : ∀ x, c ≤ x → hget s0.H x = none) (hn : n ≤ c)
    (hQ : ∀ I' w' μ' a', Ext n I w μ Hb I' w' μ' (runSet (labList 0 ops.toList Ls) (fun _ => true) s0).H → WOk I' w' μ' (runSet (labList 0 ops.toList Ls) (fun _ => true) s0).H →
      EnvOk I' w' μ' (runSet (labList 0 ops.toList Ls) (fun _ => true) s0).env a' → Q .normal a' w') :
    ∀ (fuel : Nat) (listed : Array Bool) (I' : Im) (w' : World) (μ' : List Loc) (a' : Act), listed.size = ops.size → listed.toList.count false ≤ fuel → Down m (fun k => listed.getD k false) →
      Ext n I w μ Hb I' w' μ' (runSet (labList 0 ops.toList Ls) (fun k => listed.getD k false) s0).H → WOk I' w' μ' (runSet (labList 0 ops.toList Ls) (fun k => listed.getD k false) s0).H →
      EnvOk I' w' μ' (runSet (labList 0 ops.toList Ls) (fun k => listed.getD k false) s0).env a' → wpAny P .any ops Q fuel listed a' w' := by
  have hget : ∀ i o, ops[i]? = some o → ∃ L, Ls[i]? = some L ∧ (i, o, L) ∈ labList 0 ops.toList Ls := by
    intro i o ho
    have hi : i < Ls.length := by rw [hl]; exact (Array.getElem?_eq_some_iff.1 ho).1
    have hL : Ls[i]? = some Ls[i] := List.getElem?_eq_getElem hi
    obtain ⟨l1, l2, e, _⟩ := labList_split (n := 0) (os := ops.toList) (by rw [Array.getElem?_toList]; exact ho) hL
    refine ⟨_, hL, ?_⟩
    rw [e]; simp
  have hfin : ∀ (listed : Array Bool) (I' : Im) (w' : World) (μ' : List Loc) (a' : Act), listed.size = ops.size → Region.ready .any ops listed = [] →
      Ext n I w μ Hb I' w' μ' (runSet (labList 0 ops.toList Ls) (fun k => listed.getD k false) s0).H → WOk I' w' μ' (runSet (labList 0 ops.toList Ls) (fun k => listed.getD k false) s0).H →
      EnvOk I' w' μ' (runSet (labList 0 ops.toList Ls) (fun k => listed.getD k false) s0).env a' → Q .normal a' w' := by
    intro listed I' w' μ' a' hs hr h1 h2 h3
    have hall : ∀ i, i < ops.size → listed.getD i false = true := by
      intro i
      induction i using Nat.strongRecOn with
      | ind i ih =>
        intro hi
        cases hb : listed.getD i false with
        | true => rfl
        | false =>
          exfalso
          have ho : ops[i]? = some ops[i] := Array.getElem?_eq_getElem hi
          obtain ⟨L, _, hmem⟩ := hget i _ ho
          have : i ∈ Region.ready .any ops listed := by
            rw [mem_ready]
            refine ⟨?_, _, ho, fun e he hbd => ?_⟩
            · have hi' : i < listed.size := by omega
              simp only [Array.getD, hi', dif_pos] at hb ⊢
              exact hb
            · have hlt := hO.lt _ hmem e he hbd
              simp only at hlt
              exact ih e.on hlt (by omega)
          rw [hr] at this
          cases this
    have he : runSet (labList 0 ops.toList Ls) (fun k => listed.getD k false) s0 = runSet (labList 0 ops.toList Ls) (fun _ => true) s0 := by
      refine runSet_congr (fun p hp => ?_)
      have := (labList_mem (i := p.1) (o := p.2.1) (L := p.2.2) hp).2.1
      have := (List.getElem?_eq_some_iff.1 this).1
      exact hall _ (by simpa using this)
    rw [he] at h1 h2 h3
    exact hQ I' w' μ' a' h1 h2 h3
  intro fuel
  induction fuel with
  | zero =>
    intro listed I' w' μ' a' hs hcount hD h1 h2 h3
    have hr : Region.ready .any ops listed = [] := by
      cases hre : Region.ready .any ops listed with
      | nil => rfl
      | cons i rest =>
        exfalso
        have hi : i ∈ Region.ready .any ops listed := by rw [hre]; simp
        have h0 := (mem_ready.1 hi).1
        have hi' : i < listed.size := by
          rcases Nat.lt_or_ge i listed.size with h | h
          · exact h
          · simp [Array.getD, Nat.not_lt.2 h] at h0
        simp only [Array.getD, hi', dif_pos] at h0
        have hmem : false ∈ listed.toList := by
          rw [← h0]
          simp
        have := List.count_pos_iff.2 hmem
        omega
    exact ⟨hr, hfin listed I' w' μ' a' hs hr h1 h2 h3⟩
  | succ fuel ih =>
    intro listed I' w' μ' a' hs hcount hD h1 h2 h3
    refine ⟨fun hr => hfin listed I' w' μ' a' hs hr h1 h2 h3, fun i hi => ?_⟩
    obtain ⟨h0, o, ho, hall⟩ := mem_ready.1 hi
    have hi' : i < listed.size := by
      rcases Nat.lt_or_ge i listed.size with h | h
      · exact h
      · simp [Array.getD, Nat.not_lt.2 h] at h0
    have hE : listed.getD i false = false := by
      simp only [Array.getD, hi', dif_pos] at h0 ⊢
      exact h0
    obtain ⟨L, hL, hmem⟩ := hget i o ho
    have hpre : ∀ j, (m.getD i 0).testBit j = true → listed.getD j false = true := by
      intro j hj
      rw [hO.mask _ hmem] at hj
      obtain ⟨e, he, hb, hj⟩ := maskOf_bits hj
      have := hall e he hb
      rcases hj with rfl | hj
      · exact this
      · exact hD e.on this j hj
    have hEq : (fun k => (listed.setIfInBounds i true).getD k false) = addE (fun k => listed.getD k false) i := by
      funext k
      unfold addE
      by_cases hk : k = i
      · subst hk
        simp [Array.getD, hi']
      · simp only [beq_eq_false_iff_ne.2 hk, Bool.false_or]
        exact getD_set_ne false (fun e => hk e.symm)
    have hstep := next_upd (s := s0) hO hD (by rw [Array.getElem?_toList]; exact ho) hL hE
    have hD' : Down m (fun k => (listed.setIfInBounds i true).getD k false) := by
      rw [hEq]
      intro k hk j hj
      simp only [addE, Bool.or_eq_true, beq_iff_eq] at hk ⊢
      right
      rcases hk with rfl | hk
      · exact hpre j hj
      · exact hD k hk j hj
    have hcount' : (listed.setIfInBounds i true).toList.count false ≤ fuel := by
      rw [Array.toList_setIfInBounds, List.count_set (by simpa using hi')]
      have hx : listed.toList[i]'(by simpa using hi') = false := by
        simp only [Array.getD, hi', dif_pos] at hE
        simpa using hE
      have hpos : 0 < listed.toList.count false := List.count_pos_iff.2 (by rw [← hx]; exact List.getElem_mem _)
      rw [hx, if_pos (by decide), if_neg (by decide)]
      omega
    have hlen' : (runSet (labList 0 ops.toList Ls) (fun k => listed.getD k false) s0).H.length = c + ops.size * K := by rw [(runSet_len _ _ _).2, hlen]
    have hiK : i * K + K ≤ ops.size * K := by rw [← Nat.succ_mul]; exact Nat.mul_le_mul_right _ (by omega)
    have hsound := hlab i o L ho hL (runSet (labList 0 ops.toList Ls) (fun k => listed.getD k false) s0) (by rw [(runSet_len _ _ _).2, (runSet_len _ _ _).2])
      (next_env hO hD hmem hE hpre) (next_rd hO hD hmem hE hpre) I' w' μ' a' h2 h3 hK (by rw [hlen']; omega) (fun x hx1 hx2 => next_free hO hD hE hK hfree hx1 hx2)
    unfold wpOp
    simp only [ho]
    rcases hsound with ⟨hw0, hv, hwr⟩ | ⟨hw0, hrun⟩
    · rw [if_neg (by rw [hw0]; decide)]
      refine ih _ I' w' μ' _ (by simpa using hs) hcount' hD' ?_ ?_ ?_
      · rw [hEq, hstep]; simp only [updSt, hwr, setAll]; exact h1
      · rw [hEq, hstep]; simp only [updSt, hwr, setAll]; exact h2
      · rw [hEq, hstep]; simp only [updSt, hv]; exact h3.put (.pure .non)
    · rw [if_pos hw0]
      refine .inl (hrun _ _ (fun v I'' w'' μ'' hx hw'' hR => ?_))
      refine ih _ I'' w'' μ'' _ (by simpa using hs) hcount' hD' ?_ ?_ ?_
      · rw [hEq, hstep]; exact h1.trans hx (by rw [hlen']; omega)
      · rw [hEq, hstep]; exact hw''
      · rw [hEq, hstep]; exact (h3.keeps hx.keeps (hx.muExt (by rw [h2.len]; exact Nat.le_refl _))).put hR

/-! ### the operations of such a region -/
theorem applyWr_eq : ∀ {W : List (Nat × Option HObj)} {H : Heap}, (∀ x ∈ W, x.1 < H.length) → applyWr H W = setAll H W
  | [], H, _ => rfl
  | (o, x) :: r, H, h => by
    have h1 := h (o, x) (by simp)
    simp only at h1
    have : hset H o x = H.set o x := by unfold hset; rw [if_neg (by omega)]
    simp only [applyWr, setAll, this]
    exact applyWr_eq (fun y hy => by rw [List.length_set]; exact h y (List.mem_cons_of_mem _ hy))

theorem opd_looks {all : Array Oper} {o : Oper} {env env' : List D} (h : ∀ t ∈ looksOf all o, env[t]? = env'[t]?) : ∀ x ∈ o.op.operands, opd env x = opd env' x := by
  intro x hx
  cases x with
  | tmp t =>
    have : t ∈ looksOf all o := List.mem_append_left _ (List.mem_filterMap.2 ⟨.tmp t, by simpa using hx, rfl⟩)
    simp only [opd, List.getD_eq_getElem?_getD, h t this]
  | const v => rfl
  | global g => rfl
  | func f => rfl

theorem guard_looks {all : Array Oper} {o : Oper} {env env' : List D} {c : Bool} (h : ∀ t ∈ looksOf all o, env[t]? = env'[t]?) (hg : GuardOk all o env' c) : GuardOk all o env c := by
  rcases hg with hg | ⟨j, want, d, b, h1, h2, h3, h4⟩ | ⟨j, want, d, h1, h2, h3, h4⟩
  · exact .inl hg
  · refine .inr (.inl ⟨j, want, d, b, h1, h2, ?_, h4⟩)
    rw [h d (List.mem_append_right _ (by simp [h1, h2]))]
    exact h3
  · refine .inr (.inr ⟨j, want, d, h1, h2, ?_, h4⟩)
    rw [h d (List.mem_append_right _ (by simp [h1, h2]))]
    exact h3

theorem tgt_congr {ρ ρ' : Operand → D} {ld : TypeId → D → Option D} {c : Call} {k : FuncId} {args : List D} (h : ∀ x ∈ c.operands, ρ x = ρ' x) (ht : Tgt P ρ' ld c k args) : Tgt P ρ ld c k args := by
  have hm : ∀ as : Array Operand, (∀ x ∈ as.toList, ρ x = ρ' x) → as.toList.map ρ = as.toList.map ρ' := fun as ha => List.map_congr_left ha
  cases ht with
  | value f as ts _ fi ca hf =>
    rw [← hm as (fun x hx => h x (by simp [Call.operands]; right; simpa using hx))]
    exact .value f as ts k fi ca ((h f (by simp [Call.operands])).trans hf)
  | invoke r nm as ts t v _ hr hM =>
    rw [← hm as (fun x hx => h x (by simp [Call.operands]; right; simpa using hx))]
    exact .invoke r nm as ts t v k ((h r (by simp [Call.operands])).trans hr) hM
  | invokeL r nm as ts t v _ e d hr hM hd =>
    rw [← hm as (fun x hx => h x (by simp [Call.operands]; right; simpa using hx))]
    exact .invokeL r nm as ts t v k e d ((h r (by simp [Call.operands])).trans hr) hM hd

theorem hget_of {H H' : Heap} {x : Nat} (h : H[x]? = H'[x]?) : hget H x = hget H' x := by
  unfold hget
  rw [List.getD_eq_getElem?_getD, List.getD_eq_getElem?_getD, h]

theorem framed_congr {s s' : St} {f h : Nat} {args args' : List D} {r r' : D} {H1 H0 : Heap} {fp : List Nat} {W : List (Nat × Option HObj)}
    (hl : s.H.length ≤ s'.H.length) (he : ∀ p ∈ fp, hget s'.H p = hget s.H p) (F : Framed s f args r H1 fp h args' H0 r' W) : Framed s' f args r H1 fp h args' H0 r' W :=
  ⟨F.nd, fun p hp => Nat.lt_of_lt_of_le (F.lt p hp) hl, F.out, F.hle, F.ha, by rw [List.map_congr_left he]; exact F.h0, F.hr, F.hw⟩

theorem upon_enter {o : Oper} {a : Act} {w : World} {next : Act → World → Prop} {Q : Exit → Act → World → Prop} {f : FuncId} {vs : Array Value} {c : Call} (ho : o.op = .call c)
    (hrun : ((do let d ← resolve a.eval c o.type; invoke d.target d.args) : Sem Next).run P w = .ok (.enter f vs) w)
    (hc : Calls P f vs w fun e w' => ∃ v, e = .returned v ∧ next (a.put o.dst v) w') : o.wp P a w next Q := by
  unfold Oper.wp
  have : execOp a.eval o = (do let d ← resolve a.eval c o.type; invoke d.target d.args) := by unfold execOp; rw [ho]
  rw [this, hrun]
  refine hc.mono fun e w' h => ?_
  obtain ⟨v, rfl, hn⟩ := h
  exact hn

theorem callee_runs {f : FuncId} {args : List D} {H : Heap} {r : D} {H' : Heap} (h : Ev P T (.call f args H r H')) {vs : Array Value} {w : World} :
    (callFunc f vs).run P w = .ok (.enter f vs) w := by
  generalize hj : Jd.call f args H r H' = j at h
  induction h generalizing args H r H' with
  | call _ _ _ fn code e s1 _ hf hb hnum he hr _ => cases hj; exact run_callFunc hf hb hnum vs w
  | callPur _ _ _ _ _ _ _ _ ih => cases hj; exact ih rfl
  | callTok _ _ _ _ _ _ _ _ _ _ _ _ _ _ _ _ ih => cases hj; exact ih rfl
  | callSkip _ _ _ _ _ _ _ ha _ _ ih => cases hj; exact ih rfl
  | callCut _ _ _ _ _ _ _ _ _ _ ih => cases hj; exact ih rfl
  | _ => cases hj

/-- A call that is handed some of the objects. -/
theorem frame_call {I : Im} {w : World} {μ : List Loc} {s : St} {f h : Nat} {args args' : List D} {r r' : D} {H1 H0 : Heap} {fp : List Nat} {W : List (Nat × Option HObj)} {o : Oper} {c : Call} {k : FuncId} {a : Act}
    {ρ : Operand → D} {ld : TypeId → D → Option D} (hw : WOk I w μ s.H) (hr : ∀ x, Rep I w μ (ρ x) (a.eval x)) (ho : o.op = .call c) (ht : Tgt P ρ ld c k args) (hld : LdOk P I w μ ld) (F : Framed s f args r H1 fp h args' H0 r' W)
    (hfree : ∀ x, f ≤ x → x < f + (h - fp.length) → x < s.H.length ∧ hget s.H x = none) (hev : Ev P T (.call k args' H0 r H1)) (hs : Sound P (.call k args' H0 r H1))
    {next : Act → World → Prop} {Q : Exit → Act → World → Prop}
    (hnext : ∀ v I' w' μ', Ext s.H.length I w μ s.H I' w' μ' (setAll s.H W) → WOk I' w' μ' (setAll s.H W) → Rep I' w' μ' r' v → next (a.put o.dst v) w') : o.wp P a w next Q := by
  obtain ⟨vs, q1, q2, q3⟩ := tgt_ok ht hr hld o.type
  obtain ⟨p1, p2⟩ := frame_args hw F.lt q1 q2 F.ha
  have hw0 := sub_ok hw F.nd F.lt F.h0
  obtain ⟨H1', hH1, rfl⟩ := F.hw
  refine upon_enter ho ?_ ((hs I w (subMu μ fp) vs hw0 p1 p2).mono fun e w' hh => ?_)
  · rw [q3]; exact callee_runs hev
  · obtain ⟨v, I', μ1, rfl, k1, k2, k3, k4⟩ := hh
    obtain ⟨μ', g1, g2, g3⟩ := join_ok hw k1 k2 F.nd F.lt F.out F.hle F.h0 hfree k4 hH1
    exact ⟨v, rfl, hnext v I' w' μ' g2 g1 (g3 r v r' k3 F.hr)⟩

/-! ### a state with its objects in another order -/
theorem ext_pack {I : Im} {w : World} {μ : List Loc} {H H0 : Heap} {fp : List Nat} {n : Nat} (hw : WOk I w μ H) (hlt : ∀ p ∈ fp, p < H.length) (hn : n ≤ fp.length) (hp : fp.take n = List.range n)
    (h0 : renH (idx fp 0) (fp.map (hget H)) = some H0) : Ext n I w μ H I w (subMu μ fp) H0 := by
  have hlt' : ∀ p ∈ fp, p < μ.length := fun p hp => by rw [hw.len]; exact hlt p hp
  refine ⟨fun _ _ h => ⟨h, rfl⟩, fun o m ho hm => ⟨m, ?_, Nat.le_refl _, fun _ => rfl, fun _ => rfl⟩, Nat.le_refl _, fun b hb => ?_, fun _ _ _ => rfl, rfl, rfl, rfl, fun _ _ h => .inl h⟩
  · have h1 : fp[o]? = some o := by
      have : (fp.take n)[o]? = some o := by rw [hp]; simp [ho]
      rw [List.getElem?_take, if_pos ho] at this
      exact this
    rw [subMu_get hlt' h1, hm]
  · obtain ⟨p, y, m, _, a, b', c, d⟩ := sub_own hw hlt h0 hb
    exact .inl ⟨p, y, m, a, b', c, d⟩

theorem env_pack {I : Im} {w : World} {μ : List Loc} {H : Heap} {fp keep : List Nat} {env env' : List D} {a : Act} (hw : WOk I w μ H) (he : EnvOk I w μ env a) (hlt : ∀ p ∈ fp, p < H.length)
    (hr : rens (idx fp 0) (maskEnv keep env) = some env') : EnvOk I w (subMu μ fp) env' a := by
  obtain ⟨h1, h2⟩ := rens_get hr
  refine ⟨by rw [h1]; simp [maskEnv, he.len], he.def_, fun t d v hd hv => ?_⟩
  obtain ⟨d0, g1, g2⟩ := h2 t d hd
  refine ren_ok (sub_hmu hw hlt) (?_ : Rep I w μ d0 v) g2
  simp only [maskEnv, List.getElem?_mapIdx] at g1
  obtain ⟨d1, k1, rfl⟩ := Option.map_eq_some_iff.1 g1
  split
  · exact he.rep t d1 v k1 hv
  · exact .pure (.undef _)

end Go.Proofs.Ytifpbdhggooelaa.GD
