/- PathParses, PathBack: the laws' roads. -/
import Derived.Test.YtlccdfilbiipmaaDoorPwA
namespace Go.Proofs.YtlccdfilbiipmaaDoor.ordk
open Go YtlccdfilbiipmaaDoor.GD
set_option linter.unusedVariables false
set_option linter.unusedSimpArgs false
set_option maxRecDepth 100000

def aL3 (xp : Bool) (ep : Es) (ok : Bool) (s : ByteArray) : List D × GD.Heap := ([.str s], [])
def tL3 (xp : Bool) (ep : Es) (ok : Bool) (s : ByteArray) : Tab := fun k args H =>
  match k with
  | 9 => match args, H with | [], [] => some (.bool true, []) | _, _ => none
  | 10 => match args, H with | [.str t], [] => some (.tuple [.slice xp ep none, .bool ok], []) | _, _ => none
  | 11 => match args, H with | [.str t], [] => some (.tuple [.slice xp ep none, .bool ok], []) | _, _ => none
  | 12 => match args, H with | [.slice xa ea none, .slice xb eb none], [] => some (.bool true, []) | _, _ => none
  | _ => none
def aL6 (fw : Bool) (nm : ByteArray → Bool) (xp : Bool) (ep : Es) (ok tx : Bool) (xn : Bool) (en : Es) : List D × GD.Heap := ([.slice xn en none], [])
def tL6 (fw : Bool) (nm : ByteArray → Bool) (xp : Bool) (ep : Es) (ok tx : Bool) (xn : Bool) (en : Es) : Tab := fun k args H =>
  match k with
  | 9 => match args, H with | [], [] => some (.bool true, []) | _, _ => none
  | 14 => match args, H with | [.slice xa ea none], [] => some (.bool fw, []) | _, _ => none
  | 21 => match args, H with | [.str t], [] => some (.bool (nm t), []) | _, _ => none
  | 10 => match args, H with | [.str t], [] => some (.tuple [.slice xp ep none, .bool ok], []) | _, _ => none
  | 12 => match args, H with | [.slice xa ea none, .slice xb eb none], [] => some (.bool tx, []) | _, _ => none
  | _ => none
/-! ### function 3 -/
theorem lpp_fn : Tryd.prog.funcs[(3 : Nat)]? = some (fnAt P 3) := by kernel_rfl
theorem lpp_body : (fnAt P 3).body = some (bodyAt P 3) := by kernel_rfl
theorem lpp_name : ((fnAt P 3).name == "runtime.NumGoroutine") = false := by kernel_rfl
noncomputable def lpp_C (xp : Bool) (ep : Es) (ok : Bool) (s : ByteArray) : Cf := cfg Tryd.prog (hintOf []) (tL3 xp ep ok s) (fun _ => false) 2 true (fun _ => false)
theorem lpp_ok (xp : Bool) (ep : Es) (ok : Bool) (s : ByteArray) : CfOk (lpp_C xp ep ok s) := cfg_ok (by kernel_rfl)
noncomputable def lpp_run (xp : Bool) (ep : Es) (ok : Bool) (s : ByteArray) (qcur : Cur) (qk : List It) (qs : St) (qor : GD.Or) := runE (lpp_C xp ep ok s) (callE (lpp_C xp ep ok s) 100000 10) 3 100000 qcur qk qs qor []

theorem lpp_in_0 {xp : Bool} {ep : Es} {ok : Bool} {s : ByteArray} (h0 : (↑s.size : Int) > (3000 : Int)) (h1 : Ret P T 9 [] [] (D.bool true) []) : Ret P T 3 [D.str s] [] (D.bool true) [] :=
  have bq0 := decide_eq_true h0
  fin_call lpp_fn lpp_body lpp_name (fr 3 0 (lpp_ok xp ep ok s) (pth 2 2) (ac bq0 (ac (show false = false from rfl) (ac h1 an))))

theorem lpp_in_1 {xp : Bool} {ep : Es} {ok : Bool} {s : ByteArray} (h0 : ¬ ((↑s.size : Int) > (3000 : Int))) (h1 : Ret P T 12 [D.slice xp ep none, D.slice xp ep none] [] (D.bool true) []) (h2 : Ret P T 11 [D.str s] [] (D.tuple [D.slice xp ep none, D.bool ok]) []) (h3 : Ret P T 10 [D.str s] [] (D.tuple [D.slice xp ep none, D.bool ok]) []) (h4 : Ret P T 9 [] [] (D.bool true) []) : Ret P T 3 [D.str s] [] (D.bool true) [] :=
  have bq0 := decide_eq_false h0
  fin_call lpp_fn lpp_body lpp_name (fr 3 0 (lpp_ok xp ep ok s) (pth 6 60) (ac (show (ok == ok) = true by simp) (ac h1 (ac (show ((ok == ok) == true) = true by simp) (ac (show ((ok == ok) == true) = true by simp) (ac (show ((ok == ok) == true) = true by simp) (ac h2 (ac h3 (ac bq0 (ac (show false = false from rfl) (ac h4 an)))))))))))


/-! ### function 6 -/
theorem lpb_fn : Tryd.prog.funcs[(6 : Nat)]? = some (fnAt P 6) := by kernel_rfl
theorem lpb_body : (fnAt P 6).body = some (bodyAt P 6) := by kernel_rfl
theorem lpb_name : ((fnAt P 6).name == "runtime.NumGoroutine") = false := by kernel_rfl
noncomputable def lpb_C (fw : Bool) (nm : ByteArray → Bool) (xp : Bool) (ep : Es) (ok tx xn : Bool) (en : Es) (s11_3 s12_4 : ByteArray) (s12_11 s12_19 : ByteArray) (s14_3 s16_2 : ByteArray) : Cf := cfg Tryd.prog (hintOf [((6 : Nat), (11 : Nat), (3 : Nat), Hint.c [D.str s11_3]), ((6 : Nat), (12 : Nat), (4 : Nat), Hint.c [D.str s12_4]), ((6 : Nat), (12 : Nat), (11 : Nat), Hint.c [D.str s12_11]), ((6 : Nat), (12 : Nat), (19 : Nat), Hint.c [D.str s12_19]), ((6 : Nat), (14 : Nat), (3 : Nat), Hint.c [D.str s14_3]), ((6 : Nat), (16 : Nat), (2 : Nat), Hint.c [D.str s16_2])]) (tL6 fw nm xp ep ok tx xn en) (fun _ => false) 2 true (fun z => Nat.beq 1 z)
theorem lpb_ok (fw : Bool) (nm : ByteArray → Bool) (xp : Bool) (ep : Es) (ok tx xn : Bool) (en : Es) (s11_3 s12_4 : ByteArray) (s12_11 s12_19 : ByteArray) (s14_3 s16_2 : ByteArray) : CfOk (lpb_C fw nm xp ep ok tx xn en s11_3 s12_4 s12_11 s12_19 s14_3 s16_2) := cfg_ok (by kernel_rfl)
noncomputable def lpb_run (fw : Bool) (nm : ByteArray → Bool) (xp : Bool) (ep : Es) (ok tx xn : Bool) (en : Es) (s11_3 s12_4 : ByteArray) (s12_11 s12_19 : ByteArray) (s14_3 s16_2 : ByteArray) (qcur : Cur) (qk : List It) (qs : St) (qor : GD.Or) := runE (lpb_C fw nm xp ep ok tx xn en s11_3 s12_4 s12_11 s12_19 s14_3 s16_2) (callE (lpb_C fw nm xp ep ok tx xn en s11_3 s12_4 s12_11 s12_19 s14_3 s16_2) 100000 10) 6 100000 qcur qk qs qor []
noncomputable def lpb_l0 : Code := (loopAt Tryd.prog 6 0).1
noncomputable def lpb_k0 : List It := (loopAt Tryd.prog 6 0).2
noncomputable def lpb_l1 : Code := (loopAt Tryd.prog 6 1).1
noncomputable def lpb_k1 : List It := (loopAt Tryd.prog 6 1).2
/- loop 0: s3:=bE; b4:=decide ((↑(List.length en) : Int) ≤ (16 : Int)); n5:=(0 : Int); -/
noncomputable def lpb_s0 (fw : Bool) (nm : ByteArray → Bool) (xp : Bool) (ep : Es) (ok tx xn : Bool) (en : Es) (s3 : ByteArray) (b4 : Bool) (n5 : Int) : St := ⟨envOf 102 [(0, D.slice xn en none), (3, D.str s3), (4, D.bool b4), (5, D.int .i64 n5)], []⟩
def lpb_at0 (fw : Bool) (nm : ByteArray → Bool) (xp : Bool) (ep : Es) (ok tx xn : Bool) (en : Es) (s3 : ByteArray) (b4 : Bool) (n5 : Int) (r : D) (H1 : GD.Heap) : Prop := GD.Fin Tryd.prog (tyOf Tryd.prog) (fnAt P 6) 0 (.code (.loop lpb_l0)) lpb_k0 (lpb_s0 fw nm xp ep ok tx xn en s3 b4 n5) r H1
/- loop 1: s3:=s3 ++ (ByteArray.mk #[(46 : UInt8)]) ++ s11_3; b4:=false; n5:=n5; n6:=(0 : Int); -/
noncomputable def lpb_s1 (fw : Bool) (nm : ByteArray → Bool) (xp : Bool) (ep : Es) (ok tx xn : Bool) (en : Es) (s3 : ByteArray) (b4 : Bool) (n5 n6 : Int) : St := ⟨envOf 102 [(0, D.slice xn en none), (3, D.str s3), (4, D.bool b4), (5, D.int .i64 n5), (6, D.int .i64 n6)], []⟩
def lpb_at1 (fw : Bool) (nm : ByteArray → Bool) (xp : Bool) (ep : Es) (ok tx xn : Bool) (en : Es) (s3 : ByteArray) (b4 : Bool) (n5 n6 : Int) (r : D) (H1 : GD.Heap) : Prop := GD.Fin Tryd.prog (tyOf Tryd.prog) (fnAt P 6) 0 (.code (.loop lpb_l1)) lpb_k1 (lpb_s1 fw nm xp ep ok tx xn en s3 b4 n5 n6) r H1

theorem lpb_in_0 {fw : Bool} {nm : ByteArray → Bool} {xp : Bool} {ep : Es} {ok tx xn : Bool} {en : Es} {r : D} {H1 : GD.Heap} (h0 : fw = true) (h1 : (↑(List.length en) : Int) > (0 : Int)) (h2 : Ret P T 14 [D.slice xn en none] [] (D.bool fw) []) (h3 : Ret P T 9 [] [] (D.bool true) []) (g : lpb_at0 fw nm xp ep ok tx xn en (bE) (decide ((↑(List.length en) : Int) ≤ (16 : Int))) ((0 : Int)) r H1) : Ret P T 6 [D.slice xn en none] [] r H1 :=
  have bq0 := h0
  have bq1 := decide_eq_true h1
  fin_call lpb_fn lpb_body lpb_name (fs (fun z => Nat.beq 1 z) 6 0 [0, 3, 4, 5] (lpb_ok fw nm xp ep ok tx xn en bE bE bE bE bE bE) (pth 6 60) (ac bq1 (ac (ktt bq1) (ac (ktt bq1) (ac (ktt bq1) (ac (nb0 bq0) (ac h2 (ac (show false = false from rfl) (ac h3 an)))))))) g)

theorem lpb_in_1 {fw : Bool} {nm : ByteArray → Bool} {xp : Bool} {ep : Es} {ok tx xn : Bool} {en : Es} {r : D} {H1 : GD.Heap} (h0 : fw = true) (h1 : ¬ ((↑(List.length en) : Int) > (0 : Int))) (h2 : Ret P T 14 [D.slice xn en none] [] (D.bool fw) []) (h3 : Ret P T 9 [] [] (D.bool true) []) (g : lpb_at0 fw nm xp ep ok tx xn en (bE) (false) ((0 : Int)) r H1) : Ret P T 6 [D.slice xn en none] [] r H1 :=
  have bq0 := h0
  have bq1 := decide_eq_false h1
  fin_call lpb_fn lpb_body lpb_name (fs (fun z => Nat.beq 1 z) 6 0 [0, 3, 4, 5] (lpb_ok fw nm xp ep ok tx xn en bE bE bE bE bE bE) (pth 6 0) (ac bq1 (ac (kft bq1) (ac (kft bq1) (ac (kft bq1) (ac (nb0 bq0) (ac h2 (ac (show false = false from rfl) (ac h3 an)))))))) g)

theorem lpb_in_2 {fw : Bool} {nm : ByteArray → Bool} {xp : Bool} {ep : Es} {ok tx xn : Bool} {en : Es} (h0 : fw = false) (h1 : Ret P T 14 [D.slice xn en none] [] (D.bool fw) []) (h2 : Ret P T 9 [] [] (D.bool true) []) : Ret P T 6 [D.slice xn en none] [] (D.bool true) [] :=
  have bq0 := h0
  fin_call lpb_fn lpb_body lpb_name (fr 6 0 (lpb_ok fw nm xp ep ok tx xn en bE bE bE bE bE bE) (pth 2 2) (ac (nb1 bq0) (ac h1 (ac (show false = false from rfl) (ac h2 an)))))

theorem lpb_0_0 {fw : Bool} {nm : ByteArray → Bool} {xp : Bool} {ep : Es} {ok tx xn : Bool} {en : Es} {s3 : ByteArray} {b4 : Bool} {n5 : Int} {s11_3 s12_4 : ByteArray} {r : D} {H1 : GD.Heap} (h0 : n5 < (↑(List.length en) : Int)) (h1 : n5 > (0 : Int)) (h2 : b4 = true) (h3 : s12_4.toList = bE.toList) (h4 : (0 : Int) ≤ n5) (h5 : en[n5.toNat]? = some [D.str s12_4]) (h6 : (↑((s3 ++ (ByteArray.mk #[(46 : UInt8)])).size + s11_3.size) : Int) ≤ (9223372036854775807 : Int)) (h7 : en[n5.toNat]? = some [D.str s11_3]) (h8 : (↑(s3.size + (1 : Nat)) : Int) ≤ (9223372036854775807 : Int)) (g : lpb_at1 fw nm xp ep ok tx xn en (s3 ++ (ByteArray.mk #[(46 : UInt8)]) ++ s11_3) (false) (n5) ((0 : Int)) r H1) : lpb_at0 fw nm xp ep ok tx xn en s3 b4 n5 r H1 :=
  have bq0 := decide_eq_true h0
  have bq1 := decide_eq_true h1
  have bq2 := h2
  have bq3 := beq_iff_eq.2 h3
  fin_loop (fs (fun z => Nat.beq 1 z) 6 0 [0, 3, 4, 5, 6] (lpb_ok fw nm xp ep ok tx xn en s11_3 s12_4 bE bE bE bE) (pth 21 255) (ac (show false = false from rfl) (ac (show false = false from rfl) (ac (show false = false from rfl) (ac (show false = false from rfl) (ac (show false = false from rfl) (ac (show false = false from rfl) (ac (nb0 bq3) (ac (kft (nb0 bq3)) (ac (kft (nb0 bq3)) (ac (kft (nb0 bq3)) (ac (kft (nb0 bq3)) (ac (kft (nb0 bq3)) (ac (kft (nb0 bq3)) (ac bq2 (ac (ktt bq2) (ac (ktt bq2) (ac h4 (ac h5 (ac (ktt bq2) (ac (ktt bq2) (ac (ktt bq2) (ac h6 (ac h4 (ac h7 (ac h8 (ac bq1 (ac bq0 an))))))))))))))))))))))))))) g)

theorem lpb_0_1 {fw : Bool} {nm : ByteArray → Bool} {xp : Bool} {ep : Es} {ok tx xn : Bool} {en : Es} {s3 : ByteArray} {b4 : Bool} {n5 : Int} {s11_3 s12_4 : ByteArray} {s12_11 s12_19 : ByteArray} {r : D} {H1 : GD.Heap} (h0 : n5 < (↑(List.length en) : Int)) (h1 : n5 > (0 : Int)) (h2 : b4 = true) (h3 : s12_4.toList ≠ bE.toList) (h4 : (↑(s12_11.data.getD (Int.toNat (0 : Int)) (0 : UInt8)).toNat : Int) ≠ (36 : Int)) (h5 : Ret P T 21 [D.str s12_19] [] (D.bool (nm s12_19)) []) (h6 : (0 : Int) ≤ n5) (h7 : en[n5.toNat]? = some [D.str s12_19]) (h8 : (0 : Int) ≤ (0 : Int) ∧ (0 : Int) < (↑s12_11.size : Int)) (h9 : en[n5.toNat]? = some [D.str s12_11]) (h10 : en[n5.toNat]? = some [D.str s12_4]) (h11 : (↑((s3 ++ (ByteArray.mk #[(46 : UInt8)])).size + s11_3.size) : Int) ≤ (9223372036854775807 : Int)) (h12 : en[n5.toNat]? = some [D.str s11_3]) (h13 : (↑(s3.size + (1 : Nat)) : Int) ≤ (9223372036854775807 : Int)) (g : lpb_at1 fw nm xp ep ok tx xn en (s3 ++ (ByteArray.mk #[(46 : UInt8)]) ++ s11_3) (nm s12_19) (n5) ((0 : Int)) r H1) : lpb_at0 fw nm xp ep ok tx xn en s3 b4 n5 r H1 :=
  have bq0 := decide_eq_true h0
  have bq1 := decide_eq_true h1
  have bq2 := h2
  have bq3 := beq_eq_false_iff_ne.2 h3
  have bq4 : ((↑(s12_11.data.getD (Int.toNat (0 : Int)) (0 : UInt8)).toNat : Int) != (36 : Int)) = true := bne_iff_ne.2 h4
  fin_loop (fs (fun z => Nat.beq 1 z) 6 0 [0, 3, 4, 5, 6] (lpb_ok fw nm xp ep ok tx xn en s11_3 s12_4 s12_11 s12_19 bE bE) (pth 21 2097151) (ac bq4 (ac h5 (ac (ktt bq4) (ac (ktt bq4) (ac h6 (ac h7 (ac (ktt bq4) (ac (ktt bq4) (ac (ktt bq4) (ac (nb1 bq3) (ac (ktt (nb1 bq3)) (ac h8 (ac (ktt (nb1 bq3)) (ac (ktt (nb1 bq3)) (ac h6 (ac h9 (ac (ktt (nb1 bq3)) (ac (ktt (nb1 bq3)) (ac (ktt (nb1 bq3)) (ac bq2 (ac (ktt bq2) (ac (ktt bq2) (ac h6 (ac h10 (ac (ktt bq2) (ac (ktt bq2) (ac (ktt bq2) (ac h11 (ac h6 (ac h12 (ac h13 (ac bq1 (ac bq0 an))))))))))))))))))))))))))))))))) g)

theorem lpb_0_2 {fw : Bool} {nm : ByteArray → Bool} {xp : Bool} {ep : Es} {ok tx xn : Bool} {en : Es} {s3 : ByteArray} {b4 : Bool} {n5 : Int} {s11_3 s12_4 s12_11 : ByteArray} {r : D} {H1 : GD.Heap} (h0 : n5 < (↑(List.length en) : Int)) (h1 : n5 > (0 : Int)) (h2 : b4 = true) (h3 : s12_4.toList ≠ bE.toList) (h4 : (↑(s12_11.data.getD (Int.toNat (0 : Int)) (0 : UInt8)).toNat : Int) = (36 : Int)) (h5 : (0 : Int) ≤ (0 : Int) ∧ (0 : Int) < (↑s12_11.size : Int)) (h6 : (0 : Int) ≤ n5) (h7 : en[n5.toNat]? = some [D.str s12_11]) (h8 : en[n5.toNat]? = some [D.str s12_4]) (h9 : (↑((s3 ++ (ByteArray.mk #[(46 : UInt8)])).size + s11_3.size) : Int) ≤ (9223372036854775807 : Int)) (h10 : en[n5.toNat]? = some [D.str s11_3]) (h11 : (↑(s3.size + (1 : Nat)) : Int) ≤ (9223372036854775807 : Int)) (g : lpb_at1 fw nm xp ep ok tx xn en (s3 ++ (ByteArray.mk #[(46 : UInt8)]) ++ s11_3) (false) (n5) ((0 : Int)) r H1) : lpb_at0 fw nm xp ep ok tx xn en s3 b4 n5 r H1 :=
  have bq0 := decide_eq_true h0
  have bq1 := decide_eq_true h1
  have bq2 := h2
  have bq3 := beq_eq_false_iff_ne.2 h3
  have bq4 : ((↑(s12_11.data.getD (Int.toNat (0 : Int)) (0 : UInt8)).toNat : Int) != (36 : Int)) = false := (by rw [bne, Bool.not_eq_false']; exact beq_iff_eq.2 h4)
  fin_loop (fs (fun z => Nat.beq 1 z) 6 0 [0, 3, 4, 5, 6] (lpb_ok fw nm xp ep ok tx xn en s11_3 s12_4 s12_11 bE bE bE) (pth 21 32767) (ac bq4 (ac (kft bq4) (ac (kft bq4) (ac (kft bq4) (ac (kft bq4) (ac (kft bq4) (ac (nb1 bq3) (ac (ktt (nb1 bq3)) (ac h5 (ac (ktt (nb1 bq3)) (ac (ktt (nb1 bq3)) (ac h6 (ac h7 (ac (ktt (nb1 bq3)) (ac (ktt (nb1 bq3)) (ac (ktt (nb1 bq3)) (ac bq2 (ac (ktt bq2) (ac (ktt bq2) (ac h6 (ac h8 (ac (ktt bq2) (ac (ktt bq2) (ac (ktt bq2) (ac h9 (ac h6 (ac h10 (ac h11 (ac bq1 (ac bq0 an)))))))))))))))))))))))))))))) g)

theorem lpb_0_3 {fw : Bool} {nm : ByteArray → Bool} {xp : Bool} {ep : Es} {ok tx xn : Bool} {en : Es} {s3 : ByteArray} {b4 : Bool} {n5 : Int} {s11_3 : ByteArray} {r : D} {H1 : GD.Heap} (h0 : n5 < (↑(List.length en) : Int)) (h1 : n5 > (0 : Int)) (h2 : b4 = false) (h3 : (↑((s3 ++ (ByteArray.mk #[(46 : UInt8)])).size + s11_3.size) : Int) ≤ (9223372036854775807 : Int)) (h4 : (0 : Int) ≤ n5) (h5 : en[n5.toNat]? = some [D.str s11_3]) (h6 : (↑(s3.size + (1 : Nat)) : Int) ≤ (9223372036854775807 : Int)) (g : lpb_at1 fw nm xp ep ok tx xn en (s3 ++ (ByteArray.mk #[(46 : UInt8)]) ++ s11_3) (false) (n5) ((0 : Int)) r H1) : lpb_at0 fw nm xp ep ok tx xn en s3 b4 n5 r H1 :=
  have bq0 := decide_eq_true h0
  have bq1 := decide_eq_true h1
  have bq2 := h2
  fin_loop (fs (fun z => Nat.beq 1 z) 6 0 [0, 3, 4, 5, 6] (lpb_ok fw nm xp ep ok tx xn en s11_3 bE bE bE bE bE) (pth 21 3) (ac (show false = false from rfl) (ac (show false = false from rfl) (ac (show false = false from rfl) (ac (show false = false from rfl) (ac (show false = false from rfl) (ac (show false = false from rfl) (ac (show false = false from rfl) (ac (show false = false from rfl) (ac (show false = false from rfl) (ac (show false = false from rfl) (ac (show false = false from rfl) (ac (show false = false from rfl) (ac (show false = false from rfl) (ac bq2 (ac (kft bq2) (ac (kft bq2) (ac (kft bq2) (ac (kft bq2) (ac (kft bq2) (ac h3 (ac h4 (ac h5 (ac h6 (ac bq1 (ac bq0 an))))))))))))))))))))))))) g)

theorem lpb_0_4 {fw : Bool} {nm : ByteArray → Bool} {xp : Bool} {ep : Es} {ok tx xn : Bool} {en : Es} {s3 : ByteArray} {b4 : Bool} {n5 : Int} {s11_3 s12_4 : ByteArray} {r : D} {H1 : GD.Heap} (h0 : n5 < (↑(List.length en) : Int)) (h1 : ¬ (n5 > (0 : Int))) (h2 : b4 = true) (h3 : s12_4.toList = bE.toList) (h4 : (0 : Int) ≤ n5) (h5 : en[n5.toNat]? = some [D.str s12_4]) (h6 : (↑(s3.size + s11_3.size) : Int) ≤ (9223372036854775807 : Int)) (h7 : en[n5.toNat]? = some [D.str s11_3]) (g : lpb_at1 fw nm xp ep ok tx xn en (s3 ++ s11_3) (false) (n5) ((0 : Int)) r H1) : lpb_at0 fw nm xp ep ok tx xn en s3 b4 n5 r H1 :=
  have bq0 := decide_eq_true h0
  have bq1 := decide_eq_false h1
  have bq2 := h2
  have bq3 := beq_iff_eq.2 h3
  fin_loop (fs (fun z => Nat.beq 1 z) 6 0 [0, 3, 4, 5, 6] (lpb_ok fw nm xp ep ok tx xn en s11_3 s12_4 bE bE bE bE) (pth 21 253) (ac (show false = false from rfl) (ac (show false = false from rfl) (ac (show false = false from rfl) (ac (show false = false from rfl) (ac (show false = false from rfl) (ac (show false = false from rfl) (ac (nb0 bq3) (ac (kft (nb0 bq3)) (ac (kft (nb0 bq3)) (ac (kft (nb0 bq3)) (ac (kft (nb0 bq3)) (ac (kft (nb0 bq3)) (ac (kft (nb0 bq3)) (ac bq2 (ac (ktt bq2) (ac (ktt bq2) (ac h4 (ac h5 (ac (ktt bq2) (ac (ktt bq2) (ac (ktt bq2) (ac h6 (ac h4 (ac h7 (ac bq1 (ac bq0 an)))))))))))))))))))))))))) g)

theorem lpb_0_5 {fw : Bool} {nm : ByteArray → Bool} {xp : Bool} {ep : Es} {ok tx xn : Bool} {en : Es} {s3 : ByteArray} {b4 : Bool} {n5 : Int} {s11_3 s12_4 : ByteArray} {s12_11 s12_19 : ByteArray} {r : D} {H1 : GD.Heap} (h0 : n5 < (↑(List.length en) : Int)) (h1 : ¬ (n5 > (0 : Int))) (h2 : b4 = true) (h3 : s12_4.toList ≠ bE.toList) (h4 : (↑(s12_11.data.getD (Int.toNat (0 : Int)) (0 : UInt8)).toNat : Int) ≠ (36 : Int)) (h5 : Ret P T 21 [D.str s12_19] [] (D.bool (nm s12_19)) []) (h6 : (0 : Int) ≤ n5) (h7 : en[n5.toNat]? = some [D.str s12_19]) (h8 : (0 : Int) ≤ (0 : Int) ∧ (0 : Int) < (↑s12_11.size : Int)) (h9 : en[n5.toNat]? = some [D.str s12_11]) (h10 : en[n5.toNat]? = some [D.str s12_4]) (h11 : (↑(s3.size + s11_3.size) : Int) ≤ (9223372036854775807 : Int)) (h12 : en[n5.toNat]? = some [D.str s11_3]) (g : lpb_at1 fw nm xp ep ok tx xn en (s3 ++ s11_3) (nm s12_19) (n5) ((0 : Int)) r H1) : lpb_at0 fw nm xp ep ok tx xn en s3 b4 n5 r H1 :=
  have bq0 := decide_eq_true h0
  have bq1 := decide_eq_false h1
  have bq2 := h2
  have bq3 := beq_eq_false_iff_ne.2 h3
  have bq4 : ((↑(s12_11.data.getD (Int.toNat (0 : Int)) (0 : UInt8)).toNat : Int) != (36 : Int)) = true := bne_iff_ne.2 h4
  fin_loop (fs (fun z => Nat.beq 1 z) 6 0 [0, 3, 4, 5, 6] (lpb_ok fw nm xp ep ok tx xn en s11_3 s12_4 s12_11 s12_19 bE bE) (pth 21 2097149) (ac bq4 (ac h5 (ac (ktt bq4) (ac (ktt bq4) (ac h6 (ac h7 (ac (ktt bq4) (ac (ktt bq4) (ac (ktt bq4) (ac (nb1 bq3) (ac (ktt (nb1 bq3)) (ac h8 (ac (ktt (nb1 bq3)) (ac (ktt (nb1 bq3)) (ac h6 (ac h9 (ac (ktt (nb1 bq3)) (ac (ktt (nb1 bq3)) (ac (ktt (nb1 bq3)) (ac bq2 (ac (ktt bq2) (ac (ktt bq2) (ac h6 (ac h10 (ac (ktt bq2) (ac (ktt bq2) (ac (ktt bq2) (ac h11 (ac h6 (ac h12 (ac bq1 (ac bq0 an)))))))))))))))))))))))))))))))) g)

theorem lpb_0_6 {fw : Bool} {nm : ByteArray → Bool} {xp : Bool} {ep : Es} {ok tx xn : Bool} {en : Es} {s3 : ByteArray} {b4 : Bool} {n5 : Int} {s11_3 s12_4 s12_11 : ByteArray} {r : D} {H1 : GD.Heap} (h0 : n5 < (↑(List.length en) : Int)) (h1 : ¬ (n5 > (0 : Int))) (h2 : b4 = true) (h3 : s12_4.toList ≠ bE.toList) (h4 : (↑(s12_11.data.getD (Int.toNat (0 : Int)) (0 : UInt8)).toNat : Int) = (36 : Int)) (h5 : (0 : Int) ≤ (0 : Int) ∧ (0 : Int) < (↑s12_11.size : Int)) (h6 : (0 : Int) ≤ n5) (h7 : en[n5.toNat]? = some [D.str s12_11]) (h8 : en[n5.toNat]? = some [D.str s12_4]) (h9 : (↑(s3.size + s11_3.size) : Int) ≤ (9223372036854775807 : Int)) (h10 : en[n5.toNat]? = some [D.str s11_3]) (g : lpb_at1 fw nm xp ep ok tx xn en (s3 ++ s11_3) (false) (n5) ((0 : Int)) r H1) : lpb_at0 fw nm xp ep ok tx xn en s3 b4 n5 r H1 :=
  have bq0 := decide_eq_true h0
  have bq1 := decide_eq_false h1
  have bq2 := h2
  have bq3 := beq_eq_false_iff_ne.2 h3
  have bq4 : ((↑(s12_11.data.getD (Int.toNat (0 : Int)) (0 : UInt8)).toNat : Int) != (36 : Int)) = false := (by rw [bne, Bool.not_eq_false']; exact beq_iff_eq.2 h4)
  fin_loop (fs (fun z => Nat.beq 1 z) 6 0 [0, 3, 4, 5, 6] (lpb_ok fw nm xp ep ok tx xn en s11_3 s12_4 s12_11 bE bE bE) (pth 21 32765) (ac bq4 (ac (kft bq4) (ac (kft bq4) (ac (kft bq4) (ac (kft bq4) (ac (kft bq4) (ac (nb1 bq3) (ac (ktt (nb1 bq3)) (ac h5 (ac (ktt (nb1 bq3)) (ac (ktt (nb1 bq3)) (ac h6 (ac h7 (ac (ktt (nb1 bq3)) (ac (ktt (nb1 bq3)) (ac (ktt (nb1 bq3)) (ac bq2 (ac (ktt bq2) (ac (ktt bq2) (ac h6 (ac h8 (ac (ktt bq2) (ac (ktt bq2) (ac (ktt bq2) (ac h9 (ac h6 (ac h10 (ac bq1 (ac bq0 an))))))))))))))))))))))))))))) g)

theorem lpb_0_7 {fw : Bool} {nm : ByteArray → Bool} {xp : Bool} {ep : Es} {ok tx xn : Bool} {en : Es} {s3 : ByteArray} {b4 : Bool} {n5 : Int} {s11_3 : ByteArray} {r : D} {H1 : GD.Heap} (h0 : n5 < (↑(List.length en) : Int)) (h1 : ¬ (n5 > (0 : Int))) (h2 : b4 = false) (h3 : (↑(s3.size + s11_3.size) : Int) ≤ (9223372036854775807 : Int)) (h4 : (0 : Int) ≤ n5) (h5 : en[n5.toNat]? = some [D.str s11_3]) (g : lpb_at1 fw nm xp ep ok tx xn en (s3 ++ s11_3) (false) (n5) ((0 : Int)) r H1) : lpb_at0 fw nm xp ep ok tx xn en s3 b4 n5 r H1 :=
  have bq0 := decide_eq_true h0
  have bq1 := decide_eq_false h1
  have bq2 := h2
  fin_loop (fs (fun z => Nat.beq 1 z) 6 0 [0, 3, 4, 5, 6] (lpb_ok fw nm xp ep ok tx xn en s11_3 bE bE bE bE bE) (pth 21 1) (ac (show false = false from rfl) (ac (show false = false from rfl) (ac (show false = false from rfl) (ac (show false = false from rfl) (ac (show false = false from rfl) (ac (show false = false from rfl) (ac (show false = false from rfl) (ac (show false = false from rfl) (ac (show false = false from rfl) (ac (show false = false from rfl) (ac (show false = false from rfl) (ac (show false = false from rfl) (ac (show false = false from rfl) (ac bq2 (ac (kft bq2) (ac (kft bq2) (ac (kft bq2) (ac (kft bq2) (ac (kft bq2) (ac h3 (ac h4 (ac h5 (ac bq1 (ac bq0 an)))))))))))))))))))))))) g)

theorem lpb_0_8 {fw : Bool} {nm : ByteArray → Bool} {xp : Bool} {ep : Es} {ok tx xn : Bool} {en : Es} {s3 : ByteArray} {b4 : Bool} {n5 : Int} (h0 : ¬ (n5 < (↑(List.length en) : Int))) (h1 : ok = b4) (h2 : ok = true) (h3 : Ret P T 12 [D.slice xp ep none, D.slice xn en none] [] (D.bool tx) []) (h4 : Ret P T 10 [D.str s3] [] (D.tuple [D.slice xp ep none, D.bool ok]) []) : lpb_at0 fw nm xp ep ok tx xn en s3 b4 n5 (D.bool tx) [] :=
  have bq0 := decide_eq_false h0
  have bq1 := beq_iff_eq.2 h1
  have bq2 := h2
  fin_loop (fr 6 0 (lpb_ok fw nm xp ep ok tx xn en bE bE bE bE bE bE) (pth 20 786062) (ac bq1 (ac (show false = false from rfl) (ac (ktt bq1) (ac bq2 (ac tru (ac h3 (ac (ktt bq2) (ac (ktt bq2) (ac (ktt bq2) (ac tru (ac tru (ac (ktt bq1) (ac (nb0 bq2) (ac (ktt bq1) (ac (kft (nb0 bq2)) (ac (kft (nb0 bq2)) (ac (kft (nb0 bq2)) (ac (ktt bq1) (ac (ktt bq1) (ac (ktt bq1) (ac h4 (ac bq0 an)))))))))))))))))))))))

theorem lpb_0_9 {fw : Bool} {nm : ByteArray → Bool} {xp : Bool} {ep : Es} {ok tx xn : Bool} {en : Es} {s3 : ByteArray} {b4 : Bool} {n5 : Int} (h0 : ¬ (n5 < (↑(List.length en) : Int))) (h1 : ok = b4) (h2 : ok = false) (h3 : (↑(List.length ep) : Int) = (0 : Int)) (h4 : Ret P T 10 [D.str s3] [] (D.tuple [D.slice xp ep none, D.bool ok]) []) : lpb_at0 fw nm xp ep ok tx xn en s3 b4 n5 (D.bool true) [] :=
  have bq0 := decide_eq_false h0
  have bq1 := beq_iff_eq.2 h1
  have bq2 := h2
  have bq3 := beq_iff_eq.2 h3
  fin_loop (fr 6 0 (lpb_ok fw nm xp ep ok tx xn en bE bE bE bE bE bE) (pth 16 58366) (ac bq1 (ac bq3 (ac (ktt bq1) (ac (ktf bq3) (ac (ktf bq3) (ac (ktf bq3) (ac (ktt bq1) (ac (nb1 bq2) (ac (ktt bq1) (ac (ktt (nb1 bq2)) (ac (ktt (nb1 bq2)) (ac (ktt (nb1 bq2)) (ac (ktt bq1) (ac (ktt bq1) (ac (ktt bq1) (ac h4 (ac bq0 an))))))))))))))))))

theorem lpb_1_0 {fw : Bool} {nm : ByteArray → Bool} {xp : Bool} {ep : Es} {ok tx xn : Bool} {en : Es} {s3 : ByteArray} {b4 : Bool} {n5 n6 : Int} {s14_3 s16_2 : ByteArray} (h0 : n6 < (↑s14_3.size : Int)) (h1 : (↑(s16_2.data.getD n6.toNat (0 : UInt8)).toNat : Int) = (46 : Int)) (h2 : (0 : Int) ≤ n6 ∧ n6 < (↑s16_2.size : Int)) (h3 : (0 : Int) ≤ n5) (h4 : en[n5.toNat]? = some [D.str s16_2]) (h5 : en[n5.toNat]? = some [D.str s14_3]) : lpb_at1 fw nm xp ep ok tx xn en s3 b4 n5 n6 (D.bool true) [] :=
  have bq0 := decide_eq_true h0
  have bq1 := beq_iff_eq.2 h1
  fin_loop (fr 6 0 (lpb_ok fw nm xp ep ok tx xn en bE bE bE bE s14_3 s16_2) (pth 2 3) (ac bq1 (ac h2 (ac h3 (ac h4 (ac bq0 (ac h3 (ac h5 an))))))))

theorem lpb_1_1 {fw : Bool} {nm : ByteArray → Bool} {xp : Bool} {ep : Es} {ok tx xn : Bool} {en : Es} {s3 : ByteArray} {b4 : Bool} {n5 n6 : Int} {s14_3 s16_2 : ByteArray} {r : D} {H1 : GD.Heap} (h0 : n6 < (↑s14_3.size : Int)) (h1 : (↑(s16_2.data.getD n6.toNat (0 : UInt8)).toNat : Int) ≠ (46 : Int)) (h2 : (0 : Int) ≤ n6 ∧ n6 < (↑s16_2.size : Int)) (h3 : (0 : Int) ≤ n5) (h4 : en[n5.toNat]? = some [D.str s16_2]) (h5 : en[n5.toNat]? = some [D.str s14_3]) (g : lpb_at1 fw nm xp ep ok tx xn en (s3) (b4) (n5) (IntKind.i64.wrap (n6 + (1 : Int))) r H1) : lpb_at1 fw nm xp ep ok tx xn en s3 b4 n5 n6 r H1 :=
  have bq0 := decide_eq_true h0
  have bq1 := beq_eq_false_iff_ne.2 h1
  fin_loop (fs (fun z => Nat.beq 1 z) 6 0 [0, 3, 4, 5, 6] (lpb_ok fw nm xp ep ok tx xn en bE bE bE bE s14_3 s16_2) (pth 2 1) (ac bq1 (ac h2 (ac h3 (ac h4 (ac bq0 (ac h3 (ac h5 an))))))) g)

theorem lpb_1_2 {fw : Bool} {nm : ByteArray → Bool} {xp : Bool} {ep : Es} {ok tx xn : Bool} {en : Es} {s3 : ByteArray} {b4 : Bool} {n5 n6 : Int} {s14_3 : ByteArray} {r : D} {H1 : GD.Heap} (h0 : ¬ (n6 < (↑s14_3.size : Int))) (h1 : (0 : Int) ≤ n5) (h2 : en[n5.toNat]? = some [D.str s14_3]) (g : lpb_at0 fw nm xp ep ok tx xn en (s3) (b4) (IntKind.i64.wrap (n5 + (1 : Int))) r H1) : lpb_at1 fw nm xp ep ok tx xn en s3 b4 n5 n6 r H1 :=
  have bq0 := decide_eq_false h0
  fin_loop (fs (fun z => Nat.beq 1 z) 6 0 [0, 3, 4, 5] (lpb_ok fw nm xp ep ok tx xn en bE bE bE bE s14_3 bE) (pth 1 0) (ac bq0 (ac h1 (ac h2 an))) g)



end Go.Proofs.YtlccdfilbiipmaaDoor.ordk
