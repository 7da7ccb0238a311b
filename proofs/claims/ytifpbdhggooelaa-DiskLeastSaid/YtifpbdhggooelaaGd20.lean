/- Calls that are handed some of the objects, under other names. -/
import Derived.Test.YtifpbdhggooelaaGd18
namespace Go.Proofs.Ytifpbdhggooelaa.GD
open Go
set_option linter.unusedVariables false
set_option linter.unusedSimpArgs false

variable {P : Program} {T : Tys}

theorem rens_get {f : Nat → Option Nat} : ∀ {l l' : List D}, rens f l = some l' → l'.length = l.length ∧ ∀ (i : Nat) d', l'[i]? = some d' → ∃ d, l[i]? = some d ∧ ren f d = some d'
  | [], l', h => by
    simp only [rens, Option.some.injEq] at h
    subst h
    exact ⟨rfl, fun i d' h => by simp at h⟩
  | x :: l, l', h => by
    simp only [rens] at h
    split at h
    · rename_i y r h1 h2
      obtain rfl := Option.some.inj h
      obtain ⟨e, k⟩ := rens_get h2
      refine ⟨by simp [e], fun i d' hd => ?_⟩
      cases i with
      | zero => simp at hd; subst hd; exact ⟨x, rfl, h1⟩
      | succ i => simpa using k i d' (by simpa using hd)
    · cases h

section
variable {I : Im} {w : World} {μ : List Loc} {H : Heap}

theorem ren_pure {f : Nat → Option Nat} {d : D} {v : Value} (hr : RepP I w d v) : ∀ {d' : D}, ren f d = some d' → RepP I w d' v := by
  induction hr with
  | agg ds vs hl _ ih =>
    intro d' h
    simp only [ren] at h
    split at h
    · rename_i l hl'
      obtain rfl := Option.some.inj h
      obtain ⟨e, k⟩ := rens_get hl'
      refine .agg l vs (by omega) (fun i d v a b => ?_)
      obtain ⟨d0, h0, h1⟩ := k i d a
      exact ih i d0 v h0 b h1
    · cases h
  | tuple ds vs hl _ ih =>
    intro d' h
    simp only [ren] at h
    split at h
    · rename_i l hl'
      obtain rfl := Option.some.inj h
      obtain ⟨e, k⟩ := rens_get hl'
      refine .tuple l vs (by omega) (fun i d v a b => ?_)
      obtain ⟨d0, h0, h1⟩ := k i d a
      exact ih i d0 v h0 b h1
    · cases h
  | func fn ds es vs us hl hm _ _ ih ih' =>
    intro d' h
    simp only [ren] at h
    split at h
    · rename_i x y hx hy
      obtain rfl := Option.some.inj h
      obtain ⟨e, k⟩ := rens_get hx
      obtain ⟨e', k'⟩ := rens_get hy
      refine .func fn x y vs us (by omega) (by omega) (fun i d v a b => ?_) (fun i d v a b => ?_)
      · obtain ⟨d0, h0, h1⟩ := k i d a
        exact ih i d0 v h0 b h1
      · obtain ⟨d0, h0, h1⟩ := k' i d a
        exact ih' i d0 v h0 b h1
    · cases h
  | iface t d v _ ih =>
    intro d' h
    simp only [ren] at h
    split at h
    · rename_i x hx
      obtain rfl := Option.some.inj h
      exact .iface t x v (ih hx)
    · cases h
  | undef v => intro d' h; simp only [ren, Option.some.injEq] at h; subst h; exact .undef v
  | bool b => intro d' h; simp only [ren, Option.some.injEq] at h; subst h; exact .bool b
  | int k n => intro d' h; simp only [ren, Option.some.injEq] at h; subst h; exact .int k n
  | str s => intro d' h; simp only [ren, Option.some.injEq] at h; subst h; exact .str s
  | pnil => intro d' h; simp only [ren, Option.some.injEq] at h; subst h; exact .pnil
  | sptr cs a f h1 h2 _ => intro d' h; simp only [ren, Option.some.injEq] at h; subst h; exact .sptr cs a f h1 h2
  | sliceN => intro d' h; simp only [ren, Option.some.injEq] at h; subst h; exact .sliceN
  | slice es a cap sz f hcap hsz h1 h2 _ => intro d' h; simp only [ren, Option.some.injEq] at h; subst h; exact .slice es a cap sz f hcap hsz h1 h2
  | fnil => intro d' h; simp only [ren, Option.some.injEq] at h; subst h; exact .fnil
  | inil => intro d' h; simp only [ren, Option.some.injEq] at h; subst h; exact .inil
  | non => intro d' h; simp only [ren, Option.some.injEq] at h; subst h; exact .non
  | mnil => intro d' h; simp only [ren, Option.some.injEq] at h; subst h; exact .mnil

theorem ren_ok {f : Nat → Option Nat} {μ' : List Loc} (hμ : ∀ o j m, f o = some j → μ[o]? = some m → μ'[j]? = some m) {d : D} {v : Value} (hr : Rep I w μ d v) :
    ∀ {d' : D}, ren f d = some d' → Rep I w μ' d' v := by
  induction hr with
  | pure h => intro d' hd; exact .pure (ren_pure h hd)
  | agg ds vs hl _ ih =>
    intro d' h
    simp only [ren] at h
    split at h
    · rename_i l hl'
      obtain rfl := Option.some.inj h
      obtain ⟨e, k⟩ := rens_get hl'
      refine .agg l vs (by omega) (fun i d v a b => ?_)
      obtain ⟨d0, h0, h1⟩ := k i d a
      exact ih i d0 v h0 b h1
    · cases h
  | tuple ds vs hl _ ih =>
    intro d' h
    simp only [ren] at h
    split at h
    · rename_i l hl'
      obtain rfl := Option.some.inj h
      obtain ⟨e, k⟩ := rens_get hl'
      refine .tuple l vs (by omega) (fun i d v a b => ?_)
      obtain ⟨d0, h0, h1⟩ := k i d a
      exact ih i d0 v h0 b h1
    · cases h
  | func fn ds es vs us hl hm _ _ ih ih' =>
    intro d' h
    simp only [ren] at h
    split at h
    · rename_i x y hx hy
      obtain rfl := Option.some.inj h
      obtain ⟨e, k⟩ := rens_get hx
      obtain ⟨e', k'⟩ := rens_get hy
      refine .func fn x y vs us (by omega) (by omega) (fun i d v a b => ?_) (fun i d v a b => ?_)
      · obtain ⟨d0, h0, h1⟩ := k i d a
        exact ih i d0 v h0 b h1
      · obtain ⟨d0, h0, h1⟩ := k' i d a
        exact ih' i d0 v h0 b h1
    · cases h
  | iface t d v _ ih =>
    intro d' h
    simp only [ren] at h
    split at h
    · rename_i x hx
      obtain rfl := Option.some.inj h
      exact .iface t x v (ih hx)
    · cases h
  | ptr o i off m hm hx =>
    intro d' h
    simp only [ren] at h
    split at h
    · rename_i j hj
      obtain rfl := Option.some.inj h
      exact .ptr j i off m (hμ o j m hj hm) hx
    · cases h
  | tokN t m hm h1 h0 =>
    intro d' h
    simp only [ren, Option.some.injEq] at h
    subst h
    cases hj : f t with
    | none => exact .pure .sliceN
    | some j => exact .tokN j m (hμ t j m hj hm) h1 h0
  | tok es a cap t m hm hst hat hp hsz =>
    intro d' h
    simp only [ren, Option.some.injEq] at h
    subst h
    cases hj : f t with
    | none => exact .pure hp
    | some j => exact .tok es a cap j m (hμ t j m hj hm) hst hat hp hsz
  | view o st len m a hm hx hle ha =>
    intro d' h
    simp only [ren] at h
    split at h
    · rename_i j hj
      obtain rfl := Option.some.inj h
      exact .view j st len m a (hμ o j m hj hm) hx hle ha
    · cases h
  | mapp o m hm hx =>
    intro d' h
    simp only [ren] at h
    split at h
    · rename_i j hj
      obtain rfl := Option.some.inj h
      exact .mapp j m (hμ o j m hj hm) hx
    · cases h
  | iter o m hm hx =>
    intro d' h
    simp only [ren] at h
    split at h
    · rename_i j hj
      obtain rfl := Option.some.inj h
      exact .iter j m (hμ o j m hj hm) hx
    · cases h

theorem renEs_get {f : Nat → Option Nat} : ∀ {l l' : List (List D)}, renEs f l = some l' → l'.length = l.length ∧ ∀ (i : Nat) d', l'[i]? = some d' → ∃ d, l[i]? = some d ∧ rens f d = some d'
  | [], l', h => by
    simp only [renEs, Option.some.injEq] at h
    subst h
    exact ⟨rfl, fun i d' h => by simp at h⟩
  | x :: l, l', h => by
    simp only [renEs] at h
    split at h
    · rename_i y r h1 h2
      obtain rfl := Option.some.inj h
      obtain ⟨e, k⟩ := renEs_get h2
      refine ⟨by simp [e], fun i d' hd => ?_⟩
      cases i with
      | zero => simp at hd; subst hd; exact ⟨x, rfl, h1⟩
      | succ i => simpa using k i d' (by simpa using hd)
    · cases h

theorem renH_get {f : Nat → Option Nat} : ∀ {l l' : Heap}, renH f l = some l' → l'.length = l.length ∧ ∀ (i : Nat) d', l'[i]? = some d' → ∃ d, l[i]? = some d ∧ renO f d = some d'
  | [], l', h => by
    simp only [renH, Option.some.injEq] at h
    subst h
    exact ⟨rfl, fun i d' h => by simp at h⟩
  | x :: l, l', h => by
    simp only [renH] at h
    split at h
    · rename_i y r h1 h2
      obtain rfl := Option.some.inj h
      obtain ⟨e, k⟩ := renH_get h2
      refine ⟨by simp [e], fun i d' hd => ?_⟩
      cases i with
      | zero => simp at hd; subst hd; exact ⟨x, rfl, h1⟩
      | succ i => simpa using k i d' (by simpa using hd)
    · cases h

/-- An object with other names in it. -/
theorem renO_ok {f : Nat → Option Nat} {μ' : List Loc} (hμ : ∀ o j m, f o = some j → μ[o]? = some m → μ'[j]? = some m) {m : Loc} {x x' : HObj} (h : renO f (some x) = some (some x')) (hx : ObjOk I w μ m x) :
    ObjOk I w μ' m x' ∧ x'.owns m = x.owns m := by
  cases x with
  | row sz es =>
    simp only [renO] at h
    split at h
    · rename_i l hl
      simp only [Option.some.injEq] at h
      subst h
      obtain ⟨e, k⟩ := renEs_get hl
      obtain ⟨a, b, c, arr, E, fr, e1, e2, e3, e4, e5⟩ := hx
      refine ⟨⟨a, b, by omega, arr, E, fr, e1, e2, fun i cs hi => ?_, fun i j cs d hi hj => ?_, e5⟩, rfl⟩
      · obtain ⟨c0, h0, h1⟩ := k i cs hi
        rw [(rens_get h1).1]
        exact e3 i c0 h0
      · obtain ⟨c0, h0, h1⟩ := k i cs hi
        obtain ⟨d0, g0, g1⟩ := (rens_get h1).2 j d hj
        obtain ⟨v, p1, p2, p3⟩ := e4 i j c0 d0 h0 g0
        exact ⟨v, p1, ren_ok hμ p2 g1, p3⟩
    · cases h
  | fro sz es => simp only [renO, Option.some.injEq] at h; subst h; exact ⟨hx, rfl⟩
  | tok n sz => simp only [renO, Option.some.injEq] at h; subst h; exact ⟨hx, rfl⟩
  | sit s p => simp only [renO, Option.some.injEq] at h; subst h; exact ⟨hx, rfl⟩
  | mp k ks vs =>
    simp only [renO] at h
    split at h
    · rename_i l hl
      simp only [Option.some.injEq] at h
      subst h
      obtain ⟨a, b, E, cl, e1, e2, e3, e4⟩ := hx
      refine ⟨⟨a, by rw [(rens_get hl).1]; exact b, E, cl, e1, e2, e3, fun i d hd => ?_⟩, rfl⟩
      obtain ⟨d0, g0, g1⟩ := (rens_get hl).2 i d hd
      obtain ⟨x, p1, p2⟩ := e4 i d0 g0
      exact ⟨x, by rw [(rens_get hl).1]; exact p1, ren_ok hμ p2 g1⟩
    · cases h
  | dead => simp only [renO, Option.some.injEq] at h; subst h; exact ⟨trivial, rfl⟩

theorem renO_none {f : Nat → Option Nat} {x : Option HObj} (h : renO f x = some none) : x = none := by
  cases x with
  | none => rfl
  | some x =>
    cases x with
    | row sz es => simp only [renO] at h; split at h <;> simp at h
    | mp k ks vs => simp only [renO] at h; split at h <;> simp at h
    | _ => simp [renO] at h

theorem renO_some {f : Nat → Option Nat} {x : Option HObj} {x' : HObj} (h : renO f x = some (some x')) : ∃ y, x = some y ∧ renO f (some y) = some (some x') := by
  cases x with
  | none => simp [renO] at h
  | some x => exact ⟨x, rfl, h⟩

end
end Go.Proofs.Ytifpbdhggooelaa.GD
