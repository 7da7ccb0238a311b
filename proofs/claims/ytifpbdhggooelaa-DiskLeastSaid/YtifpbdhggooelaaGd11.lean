/- One operation on data is what the machine does: append. -/
import Derived.Test.YtifpbdhggooelaaGd10
import Derived.Laws.Append
namespace Go.Proofs.Ytifpbdhggooelaa.GD
open Go
set_option linter.unusedVariables false
set_option linter.unusedSimpArgs false

variable {P : Program} {T : Tys}
section
variable {I : Im} {w : World} {μ : List Loc} {H : Heap}

theorem keeps_drew : Keeps I w I w.drew := ⟨fun _ _ h => ⟨h, rfl⟩⟩
theorem wok_drew (hw : WOk I w μ H) : WOk I w.drew μ H :=
  ⟨hw.len, fun o x h => by
    obtain ⟨m, hm, hok⟩ := hw.obj o x h
    exact ⟨m, hm, objOk_keep hok keeps_drew (MuExt.refl _) (fun _ => ⟨rfl, fun _ h => h⟩)⟩, hw.inj, hw.imm, hw.dum, fun g => (hw.glb g).keeps keeps_drew⟩
theorem ext_drew (n : Nat) : Ext n I w μ H I w.drew μ H :=
  ⟨fun _ _ h => ⟨h, rfl⟩, fun _ m _ h => ⟨m, h, Nat.le_refl _, fun _ => rfl, fun _ => rfl⟩, Nat.le_refl _, fun _ h => .inl h, fun _ _ _ => rfl, rfl, rfl, rfl, fun _ _ h => .inl h⟩
theorem rep_drew {d : D} {v : Value} (h : Rep I w μ d v) : Rep I w.drew μ d v := h.keeps keeps_drew (MuExt.refl _)

theorem run_app_fit {t u ty e : TypeId} {i : TypeInfo} {du : TypeDesc} {base : Option Addr} {sLen sCap n : Nat} {x : Value} {arr : Array Value} {w' : World}
    (hu : P.underlying t = some (.slice e)) (hd : P.underlying u = some du) (hnu : ∀ k, du ≠ .int k) (hi : P.info? e = some i)
    (hl : (Builtin.lenOf x).run P w = .ok n w) (hfit : sLen + n ≤ sCap) (hf : (Builtin.firstCells i.size n x).run P w = .ok arr w)
    (hst : ∀ a, base = some a → (storeCells (a.add (sLen * i.size)) arr.toList).run P w = .ok () w') (hn : base = none → w' = w) :
    (Builtin.append_ #[t, u] ty #[.slice base sLen sCap, x]).run P w = .ok (.slice base (sLen + n) sCap) w' := by
  have hz : ((match du with | .int _ => true | _ => false) : Bool) = false := by cases du <;> first | rfl | exact absurd rfl (hnu _)
  cases base with
  | none =>
    obtain rfl := hn rfl
    simp [Builtin.append_, run_underlying hu, run_underlying hd, run_sizeOf hi, hz, hl, hfit, hf]
  | some a =>
    have := hst a rfl
    simp [Builtin.append_, run_underlying hu, run_underlying hd, run_sizeOf hi, hz, hl, hfit, hf, this]

theorem run_app_grow {t u ty e : TypeId} {i : TypeInfo} {du : TypeDesc} {base : Option Addr} {sLen sCap n : Nat} {x z : Value} {old new : Array Value}
    (hu : P.underlying t = some (.slice e)) (hd : P.underlying u = some du) (hnu : ∀ k, du ≠ .int k) (hi : P.info? e = some i) (hz : i.zero = some z) (hb0 : 0 < i.bytes)
    (hl : (Builtin.lenOf x).run P w = .ok n w) (hfit : ¬ sLen + n ≤ sCap) (hbytes : (sLen + n) * i.bytes ≤ 140737488355328)
    (ho : (Builtin.firstCells i.size sLen (.slice base sLen sCap)).run P w.drew = .ok old w.drew) (hf : (Builtin.firstCells i.size n x).run P w.drew = .ok new w.drew) :
    ∃ cap, sLen + n ≤ cap ∧ (Builtin.append_ #[t, u] ty #[.slice base sLen sCap, x]).run P w =
      .ok (.slice (some ⟨w.heap.size, 0, none⟩) (sLen + n) cap) (w.drew.alloc (.cells (old ++ new ++ Builtin.zeroCells z.cells (cap - (sLen + n))) e)) := by
  have hz' : ((match du with | .int _ => true | _ => false) : Bool) = false := by cases du <;> first | rfl | exact absurd rfl (hnu _)
  have hcap : sLen + n ≤ Question.cut (.appendCap (sLen + n) sCap e) (w.tape w.drawn (.appendCap (sLen + n) sCap e)) := by simp [Question.cut]
  refine ⟨_, hcap, ?_⟩
  have hgrow := growslice_fits (need := sLen + n) (old := sCap) (bytes := i.bytes) (by omega) hbytes
  have hng : ¬ (Builtin.nextslicecap (sLen + n) sCap * i.bytes > 2 ^ 48) := by omega
  have hinfo : ∀ w : World, (typeInfo e).run P w = .ok i w := fun w => by simp [typeInfo, hi]
  have hzero : ∀ w : World, (zeroValue e).run P w = .ok z w := fun w => by simp [zeroValue, typeInfo, hi, hz]
  have hsz : ∀ w : World, (sizeOf e).run P w = .ok i.size w := fun w => run_sizeOf hi w
  have hch : ∀ w : World, (choose (.appendCap (sLen + n) sCap e)).run P w = .ok (Question.cut (.appendCap (sLen + n) sCap e) (w.tape w.drawn (.appendCap (sLen + n) sCap e))) w.drew := fun w => by
    simp [choose, Sem.run, Question.forced]
  have hask : ∀ (m : Nat) (w : World), (askRoom m).run P w = .ok () w := fun m w => by unfold askRoom; split <;> simp [mark, Sem.run]
  have hbne : i.bytes ≠ 0 := by omega
  simp only [Builtin.append_, List.getElem?_toArray, List.getElem?_cons_zero, List.getElem?_cons_succ, Sem.run_bind, Sem.run_pure, Result.andThen_ok, run_underlying hu, run_underlying hd, hsz, hz', hl, if_neg hfit, Bool.false_eq_true, if_false,
    hinfo, hbne, or_self, and_false, hng, Sem.run_ite, hch, hask, ho, hf, Bool.not_false, if_true, hzero, run_newRow, false_or]
  rfl

theorem all_len {ys : List (List D)} {n : Nat} (h : ys.all (fun c => c.length == n) = true) : ∀ c ∈ ys, c.length = n := by
  intro c hc
  have := List.all_eq_true.1 h c hc
  simpa using this

theorem strip_ok {ys : List (List D)} (h : ys.all purC = true) {sz : Nat} {arr : Array Value} (hr : RowOk I w μ sz ys arr) (hs : arr.size = ys.length * sz) : PureRow I w sz (purStrip ys) arr ∧ (purStrip ys).length = ys.length := by
  have key : ∀ (i : Nat) c', (purStrip ys)[i]? = some c' → ∃ c, ys[i]? = some c ∧ purs c = some c' := by
    intro i c' hi
    unfold purStrip at hi
    rw [List.getElem?_map] at hi
    obtain ⟨c, hc, rfl⟩ := Option.map_eq_some_iff.1 hi
    have := List.all_eq_true.1 h c (List.mem_of_getElem? hc)
    unfold purC at this
    split at this
    · rename_i d hd; exact ⟨c, hc, by rw [hd]; rfl⟩
    · cases this
  refine ⟨⟨fun i c' hi => ?_, fun i j c' d hi hj => ?_⟩, by simp [purStrip]⟩
  · obtain ⟨c, hc, hp⟩ := key i c' hi
    have hl := hr.1 i c hc
    have hvs : ∀ (j : Nat) d u, c[j]? = some d → ((arr.toList.drop (i * sz)).take sz)[j]? = some u → Rep I w μ d u := by
      intro j d u hd hu
      obtain ⟨v, hv, hR, _⟩ := hr.2 i j c d hc hd
      rw [List.getElem?_take] at hu
      split at hu
      · rw [List.getElem?_drop] at hu
        have : arr[i * sz + j]? = some u := by simpa using hu
        rw [hv] at this
        obtain rfl := Option.some.inj this
        exact hR
      · cases hu
    have hil : i < ys.length := (List.getElem?_eq_some_iff.1 hc).1
    have hlen : ((arr.toList.drop (i * sz)).take sz).length = sz := by
      have : i * sz + sz ≤ ys.length * sz := by rw [← Nat.succ_mul]; exact Nat.mul_le_mul_right _ hil
      simp; omega
    exact ((purs_ok hp (by rw [hl, hlen]) hvs).1).trans hlen
  · obtain ⟨c, hc, hp⟩ := key i c' hi
    have hl := hr.1 i c hc
    have hil : i < ys.length := (List.getElem?_eq_some_iff.1 hc).1
    have hlen : ((arr.toList.drop (i * sz)).take sz).length = sz := by
      have : i * sz + sz ≤ ys.length * sz := by rw [← Nat.succ_mul]; exact Nat.mul_le_mul_right _ hil
      simp; omega
    have hvs : ∀ (j : Nat) d u, c[j]? = some d → ((arr.toList.drop (i * sz)).take sz)[j]? = some u → Rep I w μ d u := by
      intro j d u hd hu
      obtain ⟨v, hv, hR, _⟩ := hr.2 i j c d hc hd
      rw [List.getElem?_take] at hu
      split at hu
      · rw [List.getElem?_drop] at hu
        have : arr[i * sz + j]? = some u := by simpa using hu
        rw [hv] at this
        obtain rfl := Option.some.inj this
        exact hR
      · cases hu
    obtain ⟨q1, q2⟩ := purs_ok hp (by rw [hl, hlen]) hvs
    have hjl : j < sz := by
      have := (List.getElem?_eq_some_iff.1 hj).1
      omega
    have hjc : j < c.length := by omega
    obtain ⟨v, hv, _, hone⟩ := hr.2 i j c _ hc (List.getElem?_eq_getElem hjc)
    refine ⟨v, hv, q2 j d v hj ?_, hone⟩
    rw [List.getElem?_take, if_pos hjl, List.getElem?_drop]
    simpa using hv

theorem pureRow_append {sz : Nat} {es ys : List (List D)} {old new rest : List Value} (h1 : PureRow I w sz es old.toArray) (h2 : PureRow I w sz ys new.toArray) (hl : old.length = es.length * sz) (hn : new.length = ys.length * sz) :
    PureRow I w sz (es ++ ys) (old ++ new ++ rest).toArray := by
  refine ⟨fun i c hi => ?_, fun i j c d hi hj => ?_⟩
  · rw [List.getElem?_append] at hi
    split at hi
    · exact h1.1 i c hi
    · exact h2.1 _ c hi
  · rw [List.getElem?_append] at hi
    split at hi
    · rename_i hlt
      have hjl : j < sz := by rw [← h1.1 i c hi]; exact (List.getElem?_eq_some_iff.1 hj).1
      obtain ⟨v, hv, hR, ho⟩ := h1.2 i j c d hi hj
      refine ⟨v, ?_, hR, ho⟩
      have : i * sz + j < old.length := by
        have : i * sz + sz ≤ es.length * sz := by rw [← Nat.succ_mul]; exact Nat.mul_le_mul_right _ hlt
        omega
      simp only [List.getElem?_toArray] at hv ⊢
      rw [List.append_assoc, List.getElem?_append_left this, hv]
    · rename_i hge
      obtain ⟨v, hv, hR, ho⟩ := h2.2 _ j c d hi hj
      refine ⟨v, ?_, hR, ho⟩
      have e : i * sz + j = old.length + ((i - es.length) * sz + j) := by
        rw [hl, Nat.sub_mul]
        have : es.length * sz ≤ i * sz := Nat.mul_le_mul_right _ (by omega)
        omega
      simp only [List.getElem?_toArray] at hv ⊢
      have hlt : (i - es.length) * sz + j < new.length := (List.getElem?_eq_some_iff.1 hv).1
      rw [e, List.append_assoc, List.getElem?_append_right (by omega), Nat.add_sub_cancel_left, List.getElem?_append_left hlt, hv]

end
end Go.Proofs.Ytifpbdhggooelaa.GD
