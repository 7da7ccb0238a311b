/- The code of a function on data: what it comes to is what the machine comes to. -/
import Derived.Test.YtifpbdhggooelaaGd15
namespace Go.Proofs.Ytifpbdhggooelaa.GD
open Go
set_option linter.unusedVariables false
set_option linter.unusedSimpArgs false

variable {P : Program} {T : Tys}

structure EnvOk (I : Im) (w : World) (μ : List Loc) (env : List D) (a : Act) : Prop where
  len : env.length = a.tmps.size
  def_ : a.defers = []
  rep : ∀ (t : Nat) d v, env[t]? = some d → a.tmps[t]? = some v → Rep I w μ d v

section
variable {I : Im} {w : World} {μ : List Loc} {H : Heap}

theorem EnvOk.opd {env : List D} {a : Act} (h : EnvOk I w μ env a) (hw : WOk I w μ H) (x : Operand) : Rep I w μ (opd env x) (a.eval x) := by
  cases x with
  | tmp t =>
    simp only [GD.opd, Act.eval]
    by_cases ht : t < env.length
    · have h1 : env[t]? = some env[t] := List.getElem?_eq_getElem ht
      have h2 : t < a.tmps.size := by rw [← h.len]; exact ht
      have := h.rep t _ _ h1 (Array.getElem?_eq_getElem h2)
      simpa [List.getD_eq_getElem?_getD, h1, Array.getD, h2] using this
    · have : env.getD t .undef = .undef := by rw [List.getD_eq_getElem?_getD, List.getElem?_eq_none (Nat.le_of_not_lt ht)]; rfl
      rw [this]; exact .pure (.undef _)
  | const v => exact .pure (rep_ofV v)
  | global g => exact .pure (hw.glb g)
  | func f => exact .pure (.func _ _ _ _ _ rfl rfl (fun i d v h => by simp at h) (fun i d v h => by simp at h))

theorem EnvOk.put {env : List D} {a : Act} {dst : Option Nat} {d : D} {v : Value} (h : EnvOk I w μ env a) (hv : Rep I w μ d v) : EnvOk I w μ (putEnv env dst d) (a.put dst v) := by
  cases dst with
  | none => exact h
  | some t =>
    refine ⟨by simp [putEnv, Act.put, h.len], h.def_, fun i e u he hu => ?_⟩
    simp only [putEnv, Act.put] at he hu
    rw [List.getElem?_set] at he
    rw [Array.getElem?_setIfInBounds] at hu
    split at he
    · rename_i hti
      rw [if_pos hti] at hu
      split at he
      · split at hu
        · obtain rfl := Option.some.inj he
          obtain rfl := Option.some.inj hu
          exact hv
        · cases hu
      · cases he
    · rename_i hti
      rw [if_neg hti] at hu
      exact h.rep i e u he hu

theorem EnvOk.keeps {I' : Im} {w' : World} {μ' : List Loc} {env : List D} {a : Act} (h : EnvOk I w μ env a) (k : Keeps I w I' w') (mu : MuExt μ μ') : EnvOk I' w' μ' env a :=
  ⟨h.len, h.def_, fun t d v a b => (h.rep t d v a b).keeps k mu⟩

theorem guard_ok {all : Array Oper} {o : Oper} {env : List D} {a : Act} {c : Bool} (h : EnvOk I w μ env a) (hg : GuardOk all o env c) : Region.wanted o (yielded all a.tmps) = c := by
  rcases hg with ⟨h1, rfl⟩ | ⟨j, want, d, b, h1, h2, h3, rfl⟩ | ⟨j, want, d, h1, h2, h3, rfl⟩
  · simp [Region.wanted, h1]
  · have hd : d < a.tmps.size := by rw [← h.len]; exact (List.getElem?_eq_some_iff.1 h3).1
    have hv := rep_bool (h.rep d _ _ h3 (Array.getElem?_eq_getElem hd))
    have : a.tmps[d]? = some (.bool b) := by rw [Array.getElem?_eq_getElem hd, hv]
    simp [Region.wanted, h1, yielded, h2, this]
  · have hd : d < a.tmps.size := by rw [← h.len]; exact (List.getElem?_eq_some_iff.1 h3).1
    have hv := rep_non (h.rep d _ _ h3 (Array.getElem?_eq_getElem hd))
    have : a.tmps[d]? = some Go.undef := by rw [Array.getElem?_eq_getElem hd, hv]
    simp [Region.wanted, h1, yielded, h2, this, Go.undef]

theorem refsAll_get {n : Nat → Bool} : ∀ {l : List D}, refsAll n l = true → ∀ (i : Nat) d, l[i]? = some d → refsOk n d = true
  | [], h, i, d, hd => by simp at hd
  | x :: l, h, i, d, hd => by
    simp only [refsAll, Bool.and_eq_true] at h
    cases i with
    | zero => simp at hd; subst hd; exact h.1
    | succ i => exact refsAll_get h.2 i d (by simpa using hd)

theorem take_get {h o : Nat} {m : Loc} (hm : μ[o]? = some m) (ho : o < h) : (μ.take h)[o]? = some m := by
  rw [List.getElem?_take, if_pos ho, hm]

/-- A datum whose names are of a kind reads in whatever agrees there. -/
theorem rep_refs {p : Nat → Bool} {μ' : List Loc} (hμ : ∀ o m, p o = true → μ[o]? = some m → μ'[o]? = some m) {d : D} {v : Value} (hr : Rep I w μ d v) (hn : refsOk p d = true) : Rep I w μ' d v := by
  induction hr with
  | pure h => exact .pure h
  | agg ds vs hl _ ih =>
    simp only [refsOk] at hn
    exact .agg ds vs hl (fun i d v a b => ih i d v a b (refsAll_get hn i d a))
  | tuple ds vs hl _ ih =>
    simp only [refsOk] at hn
    exact .tuple ds vs hl (fun i d v a b => ih i d v a b (refsAll_get hn i d a))
  | ptr o i off m hm hx => simp only [refsOk] at hn; exact .ptr o i off m (hμ o m hn hm) hx
  | tokN t m hm h1 h0 => simp only [refsOk] at hn; exact .tokN t m (hμ t m hn hm) h1 h0
  | tok es a cap t m hm hst hat hp hsz => simp only [refsOk] at hn; exact .tok es a cap t m (hμ t m hn hm) hst hat hp hsz
  | view o st len m a hm hx hle ha => simp only [refsOk] at hn; exact .view o st len m a (hμ o m hn hm) hx hle ha
  | func fn ds es vs us hl hm _ _ ih ih' =>
    simp only [refsOk, Bool.and_eq_true] at hn
    exact .func fn ds es vs us hl hm (fun i d v a b => ih i d v a b (refsAll_get hn.1 i d a)) (fun i d v a b => ih' i d v a b (refsAll_get hn.2 i d a))
  | iface t d v _ ih => simp only [refsOk] at hn; exact .iface t d v (ih hn)
  | mapp o m hm hx => simp only [refsOk] at hn; exact .mapp o m (hμ o m hn hm) hx
  | iter o m hm hx => simp only [refsOk] at hn; exact .iter o m (hμ o m hn hm) hx

theorem rep_take {h : Nat} {d : D} {v : Value} (hr : Rep I w μ d v) (hn : refsOk (below h) d = true) : Rep I w (μ.take h) d v :=
  rep_refs (fun o m ho hm => take_get hm (by simpa [below] using ho)) hr hn

theorem hget_take {h o : Nat} : hget (H.take h) o = if o < h then hget H o else none := by
  unfold hget
  rw [List.getD_eq_getElem?_getD, List.getD_eq_getElem?_getD, List.getElem?_take]
  split <;> rfl

theorem wok_take {h : Nat} (hw : WOk I w μ H) (hh : h ≤ H.length) (hk : (H.take h).all (objRefs (below h)) = true) : WOk I w (μ.take h) (H.take h) := by
  have hsome : ∀ o x, hget (H.take h) o = some x → o < h ∧ hget H o = some x := by
    intro o x ho
    rw [hget_take] at ho
    split at ho
    · rename_i h'; exact ⟨h', ho⟩
    · cases ho
  have hmu : ∀ o m, (μ.take h)[o]? = some m → o < h ∧ μ[o]? = some m := by
    intro o m hm
    rw [List.getElem?_take] at hm
    split at hm
    · rename_i h'; exact ⟨h', hm⟩
    · cases hm
  refine ⟨by simp [hw.len], fun o x ho => ?_, fun o o' x x' m m' hne hx hx' hm hm' h1 h2 => ?_, hw.imm, fun o m ho hm => ?_, hw.glb⟩
  · obtain ⟨hlt, hx⟩ := hsome o x ho
    obtain ⟨m, hm, hok⟩ := hw.obj o x hx
    refine ⟨m, take_get hm hlt, ?_⟩
    cases x with
    | row sz es =>
      obtain ⟨a, b, c, d, E, fr, e1, e2, e3, e4, e5⟩ := hok
      have hrefs : es.all (refsAll (below h)) = true := by
        have hlt2 : o < (H.take h).length := by rw [List.length_take]; have := (List.getElem?_eq_some_iff.1 hm).1; have := hw.len; omega
        have := List.all_eq_true.1 hk _ (List.getElem_mem hlt2)
        have he : (H.take h)[o] = some (.row sz es) := by
          have h3 : (H.take h)[o]? = some (H.take h)[o] := List.getElem?_eq_getElem hlt2
          rw [hget, List.getD_eq_getElem?_getD, h3] at ho
          simpa using ho
        rw [he] at this
        exact this
      refine ⟨a, b, c, d, E, fr, e1, e2, e3, fun i j cs dd q1 q2 => ?_, e5⟩
      obtain ⟨v, p1, p2, p3⟩ := e4 i j cs dd q1 q2
      exact ⟨v, p1, rep_take p2 (refsAll_get (List.all_eq_true.1 hrefs _ (List.mem_of_getElem? q1)) j dd q2), p3⟩
    | fro sz es => exact hok
    | tok n sz => exact hok
    | sit s p => exact hok
    | mp k ks vs =>
      obtain ⟨a, b, E, cl, e1, e2, e3, e4⟩ := hok
      have hrefs : refsAll (below h) vs = true := by
        have hlt2 : o < (H.take h).length := by rw [List.length_take]; have := (List.getElem?_eq_some_iff.1 hm).1; have := hw.len; omega
        have := List.all_eq_true.1 hk _ (List.getElem_mem hlt2)
        have he : (H.take h)[o] = some (.mp k ks vs) := by
          have h3 : (H.take h)[o]? = some (H.take h)[o] := List.getElem?_eq_getElem hlt2
          rw [hget, List.getD_eq_getElem?_getD, h3] at ho
          simpa using ho
        rw [he] at this
        exact this
      refine ⟨a, b, E, cl, e1, e2, e3, fun i d hd => ?_⟩
      obtain ⟨x, p1, p2⟩ := e4 i d hd
      exact ⟨x, p1, rep_take p2 (refsAll_get hrefs i d hd)⟩
    | dead => trivial
  · exact hw.inj o o' x x' m m' hne (hsome o x hx).2 (hsome o' x' hx').2 (hmu o m hm).2 (hmu o' m' hm').2 h1 h2
  · obtain ⟨hlt, hm'⟩ := hmu o m hm
    rw [hget_take, if_pos hlt] at ho
    exact hw.dum o m ho hm'

theorem ext_take {n h : Nat} (hn : n ≤ h) (hw : WOk I w μ H) : Ext n I w μ H I w (μ.take h) (H.take h) := by
  refine ⟨fun _ _ h => ⟨h, rfl⟩, fun o m ho hm => ⟨m, take_get hm (by omega), Nat.le_refl _, fun _ => rfl, fun _ => rfl⟩, Nat.le_refl _, fun b hb => ?_, fun _ _ _ => rfl, rfl, rfl, rfl, fun _ _ h => .inl h⟩
  obtain ⟨o, x, m, hg, hm, ho, rfl⟩ := hb
  rw [hget_take] at hg
  split at hg
  · rename_i hlt
    rw [List.getElem?_take, if_pos hlt] at hm
    exact .inl ⟨o, x, m, hg, hm, ho, rfl⟩
  · cases hg

theorem env_mask {keep : List Nat} {h : Nat} {env : List D} {a : Act} (he : EnvOk I w μ env a) (hk : refsAll (below h) (maskEnv keep env) = true) : EnvOk I w (μ.take h) (maskEnv keep env) a := by
  refine ⟨by simp [maskEnv, he.len], he.def_, fun t d v hd hv => ?_⟩
  have hr := refsAll_get hk t d hd
  refine rep_take ?_ hr
  simp only [maskEnv, List.getElem?_mapIdx] at hd
  obtain ⟨d0, h0, rfl⟩ := Option.map_eq_some_iff.1 hd
  split
  · exact he.rep t d0 v h0 hv
  · exact .pure (.undef _)

/-! ### calls -/
theorem run_method {t : TypeId} {name : String} {f : FuncId} (hm : MethOk P t name f) (v : Value) (w : World) :
    (method (P.types.size + Made.depth) t v name).run P w = .ok (f, v) w := by
  obtain ⟨i, m, pr, hi, hfind, hpath, hfn, hcase⟩ := hm
  have hd : ∃ k, P.types.size + Made.depth = k + 1 := ⟨P.types.size + Made.depth - 1, by have h0 : 0 < Made.depth := (by decide)
                                                                                         omega⟩
  obtain ⟨k, hk⟩ := hd
  rw [hk]
  have hinfo : (typeInfo t).run P w = .ok i w := by simp [typeInfo, hi]
  rcases hcase with ⟨e, hu, rfl⟩ | ⟨d, hu, hne, rfl⟩
  · simp [method, hinfo, hfind, hpath, follow, hfn, receiverAt, run_underlying hu, Place.get]
  · have hcase : ∀ x : Place, (receiverAt t x false (if m.path.isEmpty then some ((name.splitOn ".").getLastD name) else none)).run P w = (x.get t).run P w := by
      intro x
      simp only [receiverAt, Sem.run_bind, run_underlying hu, Result.andThen_ok]
    have hc2 := hcase (.val v)
    simp only [hpath] at hc2
    simp [method, hinfo, hfind, hpath, follow, hfn]
    simp [Place.get] at hc2
    rw [hc2]
    rfl

theorem run_wrap {ts : Array TypeId} {t : TypeId} {a : Addr} {x y : ByteArray} {w : World} : (Builtin.ssaWrapNilChk_ ts t #[.pointer (some a), .string x, .string y]).run P w = .ok (.pointer (some a)) w := rfl
theorem run_methodL {t e : TypeId} {name : String} {f : FuncId} (hm : MethL P t name f e) {a : Addr} {x : Value} {w : World} (hx : (loadVar e a).run P w = .ok x w) :
    (method (P.types.size + Made.depth) t (.pointer (some a)) name).run P w = .ok (f, x) w := by
  obtain ⟨i, m, hi, hfind, hpath, hfn, hu⟩ := hm
  have hd : ∃ k, P.types.size + Made.depth = k + 1 := ⟨P.types.size + Made.depth - 1, by have h0 : 0 < Made.depth := (by decide)
                                                                                         omega⟩
  obtain ⟨k, hk⟩ := hd
  rw [hk]
  have hinfo : (typeInfo t).run P w = .ok i w := by simp [typeInfo, hi]
  simp [method, hinfo, hfind, hpath, follow, hfn, receiverAt, run_underlying hu, Place.get, strVal, run_wrap, asAddr, hx]

/-- What is loaded is what lies there. -/
def LdOk (P : Program) (I : Im) (w : World) (μ : List Loc) (ld : TypeId → D → Option D) : Prop :=
  ∀ e v d u, ld e v = some d → Rep I w μ v u → ∃ ad x, u = .pointer (some ad) ∧ (loadVar e ad).run P w = .ok x w ∧ Rep I w μ d x
theorem noLd_ok : LdOk P I w μ noLd := fun _ _ _ _ h => by cases h

/-- The arguments of a call, and the call itself. -/
theorem tgt_ok {ρ : Operand → D} {ld : TypeId → D → Option D} {ev : Operand → Value} {c : Call} {f : FuncId} {args : List D} (ht : Tgt P ρ ld c f args) (hr : ∀ x, Rep I w μ (ρ x) (ev x)) (hld : LdOk P I w μ ld) (ty : TypeId) :
    ∃ vs : Array Value, args.length = vs.size ∧ (∀ (i : Nat) d v, args[i]? = some d → vs[i]? = some v → Rep I w μ d v) ∧
      ((do let d ← resolve ev c ty; invoke d.target d.args) : Sem Next).run P w = (callFunc f vs).run P w := by
  have hmap : ∀ as : Array Operand, (as.toList.map ρ).length = (as.map ev).size ∧ ∀ (i : Nat) d v, (as.toList.map ρ)[i]? = some d → (as.map ev)[i]? = some v → Rep I w μ d v := by
    intro as
    refine ⟨by simp, fun i d v hd hv => rep_list (fun x _ => hr x) i d v hd ?_⟩
    rw [← Array.getElem?_toList, Array.toList_map] at hv
    exact hv
  cases ht with
  | value g as ts k fi ca h =>
    have hg := hr g
    rw [h] at hg
    obtain ⟨vs, us, hv, hl1, hl2, h1, h2⟩ := rep_func hg
    obtain ⟨m1, m2⟩ := hmap as
    refine ⟨vs ++ as.map ev ++ us, by simp at m1 ⊢; omega, fun i d v hd hv' => ?_, ?_⟩
    · rw [List.append_assoc] at hd
      rw [Array.append_assoc] at hv'
      rw [List.getElem?_append] at hd
      rw [Array.getElem?_append] at hv'
      split at hd
      · rename_i hlt; rw [if_pos (by omega)] at hv'; exact h1 i d v hd hv'
      · rename_i hge
        rw [if_neg (by omega), ← hl1] at hv'
        rw [List.getElem?_append] at hd
        rw [Array.getElem?_append] at hv'
        split at hd
        · rename_i hlt; rw [if_pos (by rw [← m1]; exact hlt)] at hv'; exact m2 _ d v hd hv'
        · rename_i hge2
          rw [if_neg (by rw [← m1]; exact hge2), ← m1] at hv'
          exact h2 _ d v hd hv'
    · simp [resolve, hv, Deferred.ofValue, invoke]
  | invoke recv name as ts t v k h hm =>
    have hg := hr recv
    rw [h] at hg
    obtain ⟨u, hv, hu⟩ := rep_iface hg
    obtain ⟨m1, m2⟩ := hmap as
    refine ⟨#[u] ++ as.map ev, by simp at m1 ⊢; omega, fun i d x hd hx => ?_, ?_⟩
    · rw [Array.getElem?_append] at hx
      cases i with
      | zero => simp at hd hx; subst hd; subst hx; exact hu
      | succ i =>
        rw [if_neg (by simp)] at hx
        exact m2 i d x (by simpa using hd) (by simpa using hx)
    · have hex : ((#[Value.iface t u] ++ as.map ev).extract 1 (#[Value.iface t u] ++ as.map ev).size) = as.map ev := by
        apply Array.ext'
        simp
        exact List.take_of_length_le (by simp)
      simp only [resolve, hv, Sem.run_bind, Sem.run_pure, Result.andThen_ok, invoke]
      have h0 : (#[Value.iface t u] ++ as.map ev)[0]? = some (Value.iface t u) := by simp [Array.getElem?_append]
      rw [h0]
      simp only [callMethod, hex]
      simp [run_method hm]
  | invokeL recv name as ts t v k e d h hm hd0 =>
    have hg := hr recv
    rw [h] at hg
    obtain ⟨u, hv, hu⟩ := rep_iface hg
    obtain ⟨ad, x0, rfl, hx0, hR0⟩ := hld _ _ _ _ hd0 hu
    obtain ⟨m1, m2⟩ := hmap as
    refine ⟨#[x0] ++ as.map ev, by simp at m1 ⊢; omega, fun i d x hd hx => ?_, ?_⟩
    · rw [Array.getElem?_append] at hx
      cases i with
      | zero => simp at hd hx; subst hd; subst hx; exact hR0
      | succ i =>
        rw [if_neg (by simp)] at hx
        exact m2 i d x (by simpa using hd) (by simpa using hx)
    · have hex : ((#[Value.iface t (.pointer (some ad))] ++ as.map ev).extract 1 (#[Value.iface t (.pointer (some ad))] ++ as.map ev).size) = as.map ev := by
        apply Array.ext'
        simp
        exact List.take_of_length_le (by simp)
      simp only [resolve, hv, Sem.run_bind, Sem.run_pure, Result.andThen_ok, invoke]
      have h0 : (#[Value.iface t (.pointer (some ad))] ++ as.map ev)[0]? = some (Value.iface t (.pointer (some ad))) := by simp [Array.getElem?_append]
      rw [h0]
      simp only [callMethod, hex]
      simp [run_methodL hm hx0]

theorem run_callFunc {f : FuncId} {fn : Func} {code : Code} (hf : P.funcs[f]? = some fn) (hb : fn.body = some code) (hn : (fn.name == "runtime.NumGoroutine") = false) (vs : Array Value) (w : World) :
    (callFunc f vs).run P w = .ok (.enter f vs) w := by
  have hn' : ¬ fn.name = "runtime.NumGoroutine" := by simpa using hn
  simp [callFunc, hf, hn', hb]

end
end Go.Proofs.Ytifpbdhggooelaa.GD
