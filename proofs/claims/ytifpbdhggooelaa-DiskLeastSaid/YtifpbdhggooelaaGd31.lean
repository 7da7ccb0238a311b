/- Library functions without a body that only look: what they hand back. -/
import Derived.Test.YtifpbdhggooelaaGd15
import Derived.Lib.Bytealg
import Derived.Lib.Bytes
import Derived.KernelRfl
namespace Go.Proofs.Ytifpbdhggooelaa.GD
open Go
set_option linter.unusedVariables false
set_option linter.unusedSimpArgs false

/-- The numbers of a row of bytes. -/
def byteNums : List (List D) → Option (List Int)
  | [] => some []
  | [.int .u8 n] :: r => (byteNums r).map (n :: ·)
  | _ => none

/-- Bytes of a string or of a slice of bytes. -/
def bytesD : D → Option (List UInt8)
  | .str s => some s.data.toList
  | .slice _ es _ => (byteNums es).map Lib.bytesOf
  | _ => none

def extN (name : String) (args : List D) : Option D :=
  if name == "internal/bytealg.Compare" then
    match args with
    | [a, b] => match bytesD a, bytesD b with | some x, some y => some (.int .i64 (Lib.compareBytes x y)) | _, _ => none
    | _ => none
  else if name == "internal/bytealg.abigen_runtime_cmpstring" then
    match args with
    | [a, b] => match bytesD a, bytesD b with | some x, some y => some (.int .i64 (Lib.compareBytes x y)) | _, _ => none
    | _ => none
  else if name == "internal/bytealg.IndexByteString" then
    match args with
    | [.str s, .int .u8 c] => some (.int .i64 (Lib.indexByte s.data.toList c.toNat.toUInt8))
    | _ => none
  else if name == "internal/bytealg.CountString" then
    match args with
    | [.str s, .int .u8 c] => some (.int .i64 (Lib.countByte s.data.toList c.toNat.toUInt8))
    | _ => none
  else none

/-- A call of such a function. -/
def extE (P : Program) (f : FuncId) (args : List D) : Option D :=
  match P.funcs[f]? with
  | some fn => if fn.body.isNone && (fn.origin == "" || fn.origin == fn.name) then extN fn.name args else none
  | none => none

theorem byteNums_rows : ∀ {es : List (List D)} {xs : List Int}, byteNums es = some xs → es = xs.map fun n => [D.int .u8 n]
  | [], xs, h => by simp [byteNums] at h; subst h; rfl
  | c :: es, xs, h => by
    unfold byteNums at h
    split at h
    · rename_i heq; cases heq
    · rename_i n r heq
      simp only [List.cons.injEq] at heq
      obtain ⟨rfl, rfl⟩ := heq
      obtain ⟨ys, hy, rfl⟩ := Option.map_eq_some_iff.1 h
      rw [byteNums_rows hy]
      rfl
    · cases h

theorem ext_push (acc : List UInt8) (b : UInt8) : (ByteArray.mk acc.toArray).push b = ByteArray.mk (acc ++ [b]).toArray := by
  simp [ByteArray.push]

theorem loadBytes_run {P : Program} {w : World} : ∀ (xs : List Int) (a : Addr) (acc : List UInt8), (∀ j (h : j < xs.length), w.cell? (a.add j) = some (.int .u8 xs[j])) →
    (Extern.Bytes.loadBytes a xs.length ⟨acc.toArray⟩).run P w = .ok ⟨(acc ++ Lib.bytesOf xs).toArray⟩ w
  | [], a, acc, _ => by simp [Extern.Bytes.loadBytes, Lib.bytesOf, Sem.run]
  | x :: xs, a, acc, h => by
    have h0 := h 0 (by simp)
    have ha : a.add 0 = a := by
      cases a
      simp [Addr.add]
    rw [ha] at h0
    simp only [List.getElem_cons_zero] at h0
    have ih := loadBytes_run (P := P) (w := w) xs (a.add 1) (acc ++ [UInt8.ofNat x.toNat]) (fun j hj => by
      have := h (j + 1) (by simp; omega)
      simp only [List.getElem_cons_succ] at this
      rw [← this]
      congr 1
      cases a
      simp only [Addr.add]
      split <;> simp_all [Nat.add_assoc, Nat.add_comm]
      omega)
    simp only [List.length_cons, Extern.Bytes.loadBytes, Sem.run_bind, run_load, h0, Result.andThen_ok]
    rw [ext_push]
    rw [show x.toNat.toUInt8 = UInt8.ofNat x.toNat from rfl, ih]
    simp [Lib.bytesOf]

theorem bytesOf_run {P : Program} {I : Im} {w : World} {d : D} {v : Value} {x : List UInt8} (hR : RepP I w d v) (h : bytesD d = some x) :
    (Extern.Bytes.bytesOf v).run P w = .ok ⟨x.toArray⟩ w := by
  unfold bytesD at h
  split at h
  · obtain rfl := Option.some.inj h
    cases hR
    simp [Extern.Bytes.bytesOf, Sem.run]
  · rename_i nn es tk
    obtain ⟨xs, hx, rfl⟩ := Option.map_eq_some_iff.1 h
    have hes := byteNums_rows hx
    cases hR with
    | sliceN =>
      simp [byteNums] at hx
      subst hx
      simp [Extern.Bytes.bytesOf, Lib.bytesOf, Sem.run]
      rfl
    | slice es a cap sz f hcap hsz h1 h2 =>
      subst hes
      have hlen : (xs.map fun n => [D.int .u8 n]).length = xs.length := by simp
      have hz : ∀ j, j < xs.length → sz = 1 := fun j hj => by
        have := hsz j [D.int .u8 xs[j]] (by simp [hj])
        simpa using this.symm
      simp only [Extern.Bytes.bytesOf]
      rw [hlen]
      have := loadBytes_run (P := P) (w := w) xs a [] (fun j hj => by
        have z := hz j hj
        subst z
        obtain ⟨_, c1, _⟩ := h1 j 0 (by simpa using hj) (by omega)
        have c2 := h2 j 0 [D.int .u8 xs[j]] (D.int .u8 xs[j]) (by simp [hj]) rfl
        simp only [Nat.mul_one, Nat.add_zero] at c1
        rw [c1]
        cases hf : f j 0 <;> rw [hf] at c2 <;> cases c2
        rfl)
      exact this
  · cases h

theorem fnext_none {fn : Func} {s : String} (hn : fn.name = s) (ho : (fn.origin == "" || fn.origin == fn.name) = true) (h1 : Extern.allNextRows.lookup s = none) (h2 : Extern.allNextRows.lookup "" = none) : Extern.findNext fn = none := by
  unfold Extern.findNext
  simp only [Bool.or_eq_true, beq_iff_eq] at ho
  rcases ho with ho | ho
  · simp only [hn, ho, h1, h2, Option.map_none]
    rfl
  · simp only [ho, hn, h1, Option.map_none]
    rfl

theorem find_some {fn : Func} {s : String} {e : Array Value → Sem Value} (hn : fn.name = s) (h1 : Extern.allGenericRows.lookup s = none) (h2 : Extern.allTypedRows.lookup s = none) (h3 : Extern.allRows.lookup s = some e) : Extern.find fn = some e := by
  unfold Extern.find
  simp only [hn, h1, h2, h3, Option.map_none]
  rfl

/-- The entry's run, for the names of the table. -/
theorem ext_run {P : Program} {f : FuncId} {fn : Func} {s : String} {e : Array Value → Sem Value} (hf : P.funcs[f]? = some fn) (hb : fn.body.isNone = true) (ho : (fn.origin == "" || fn.origin == fn.name) = true) (hn : fn.name = s)
    (h0 : (s == "runtime.NumGoroutine") = false) (k1 : Extern.allNextRows.lookup s = none) (k2 : Extern.allNextRows.lookup "" = none) (h1 : Extern.allGenericRows.lookup s = none) (h2 : Extern.allTypedRows.lookup s = none)
    (h3 : Extern.allRows.lookup s = some e) (vs : Array Value) (w : World) {v : Value} (hr : (e vs).run P w = .ok v w) : (callFunc f vs).run P w = .ok (.value v) w := by
  rw [run_callFunc_extern hf (by rw [hn]; exact h0) hb (fnext_none hn ho k1 k2) (find_some hn h1 h2 h3), hr]
  rfl

theorem two {I : Im} {w : World} {a b : D} {vs : Array Value} (hl : [a, b].length = vs.size) (h : ∀ (i : Nat) d v, [a, b][i]? = some d → vs[i]? = some v → RepP I w d v) : ∃ u v, vs = #[u, v] ∧ RepP I w a u ∧ RepP I w b v := by
  obtain ⟨l⟩ := vs
  match l, hl with
  | [u, v], _ => exact ⟨u, v, rfl, h 0 a u rfl rfl, h 1 b v rfl rfl⟩

theorem cmp_run {P : Program} {w : World} {u v : Value} {x y : List UInt8} (hu : (Extern.Bytes.bytesOf u).run P w = .ok ⟨x.toArray⟩ w) (hv : (Extern.Bytes.bytesOf v).run P w = .ok ⟨y.toArray⟩ w) :
    (Extern.BytealgCompare.compare #[u, v]).run P w = .ok (.int .i64 (Lib.compareBytes x y)) w := by
  change Sem.run P (do pure (goInt (Extern.BytealgCompare.cmp (← Extern.Bytes.bytesOf u) (← Extern.Bytes.bytesOf v)))) w = _
  simp only [Sem.run_bind, hu, hv, Result.andThen_ok, Sem.run_pure]
  rw [Lib.cmp_eq]
  rfl

theorem extE_ok {P : Program} {f : FuncId} {args : List D} {r : D} (h : extE P f args = some r) : ExtOk P f args r := by
  intro I w vs hl hrep
  unfold extE at h
  split at h
  · rename_i fn hf
    split at h
    · rename_i hb
      simp only [Bool.and_eq_true] at hb
      obtain ⟨hb, ho⟩ := hb
      unfold extN at h
      split at h
      · rename_i hn
        have hn' : fn.name = "internal/bytealg.Compare" := by simpa using hn
        split at h
        · rename_i a b
          split at h
          · rename_i x y hx hy
            obtain rfl := Option.some.inj h
            obtain ⟨u, v, rfl, hu, hv⟩ := two hl hrep
            exact ⟨_, ext_run hf hb ho hn' (by decide) (by kernel_rfl) (by kernel_rfl) (by kernel_rfl) (by kernel_rfl) (e := Extern.BytealgCompare.compare) (by kernel_rfl) _ w (cmp_run (bytesOf_run hu hx) (bytesOf_run hv hy)), .int ..⟩
          · cases h
        · cases h
      split at h
      · rename_i hn
        have hn' : fn.name = "internal/bytealg.abigen_runtime_cmpstring" := by simpa using hn
        split at h
        · rename_i a b
          split at h
          · rename_i x y hx hy
            obtain rfl := Option.some.inj h
            obtain ⟨u, v, rfl, hu, hv⟩ := two hl hrep
            exact ⟨_, ext_run hf hb ho hn' (by decide) (by kernel_rfl) (by kernel_rfl) (by kernel_rfl) (by kernel_rfl) (e := Extern.BytealgCompare.compare) (by kernel_rfl) _ w (cmp_run (bytesOf_run hu hx) (bytesOf_run hv hy)), .int ..⟩
          · cases h
        · cases h
      split at h
      · rename_i hn
        have hn' : fn.name = "internal/bytealg.IndexByteString" := by simpa using hn
        split at h
        · rename_i s c
          obtain rfl := Option.some.inj h
          obtain ⟨u, v, rfl, hu, hv⟩ := two hl hrep
          cases hu
          cases hv
          exact ⟨_, ext_run hf hb ho hn' (by decide) (by kernel_rfl) (by kernel_rfl) (by kernel_rfl) (by kernel_rfl) (e := Extern.BytealgIndexByte.indexByte) (by kernel_rfl) _ w (Lib.run_indexByteString s c w), .int ..⟩
        · cases h
      split at h
      · rename_i hn
        have hn' : fn.name = "internal/bytealg.CountString" := by simpa using hn
        split at h
        · rename_i s c
          obtain rfl := Option.some.inj h
          obtain ⟨u, v, rfl, hu, hv⟩ := two hl hrep
          cases hu
          cases hv
          exact ⟨_, ext_run hf hb ho hn' (by decide) (by kernel_rfl) (by kernel_rfl) (by kernel_rfl) (by kernel_rfl) (e := Extern.BytealgCount.count) (by kernel_rfl) _ w (Lib.run_countString s c w), .int ..⟩
        · cases h
      · cases h
    · cases h
  · cases h

end Go.Proofs.Ytifpbdhggooelaa.GD
