import Derived.Test.YtlckkpjbkjbdcaaZc3
import Derived.KernelRfl
import Derived.ChangeArms
import Derived.OpenShut
import Derived.Test.YtlckkpjbkjbdcaaRows
import Derived.WideKeyArgs
import Derived.ChangeSame
import Derived.ProofKit
import Derived.JoinedCond

/-! text W4 -/
set_option linter.unusedVariables false
namespace Go.Ev
open Go.Proofs (Try.prog)
theorem Filters_next (a : List TLV) (X Y Z c : List (List UInt8)) (s i : Nat) (k : UInt8)
    (h1 : decide ((↑i : Int) < (256 : Int)) = true)
    (h2 : AV.int IntKind.u8 (IntKind.u8.wrap (↑i : Int)) = AV.int IntKind.u8 (↑k.toNat : Int))
    (h3 : FnW Try.prog (8 : FuncId) [AV.sl false false (2 : Nat) (stale.sL (tsS a)), AV.int IntKind.u8 (↑k.toNat : Int)] [slT a, bA k] (AV.own true (1 : Nat) (vsF c)))
    (h4 : freshA (AV.own true (1 : Nat) (vsF c)) = true)
    (h5 : IntKind.i64.wrap ((↑s : Int) + (↑(deepen.dL (vsF c)).length : Int)) = (↑(s + c.length) : Int))
    (h6 : IntKind.i64.wrap ((↑i : Int) + (1 : Int)) = (↑(i + (1 : Nat)) : Int)) :
    WayR Try.prog T3 51 lp3x0 [(30, .b true), (35, .n (bA k)), (36, .c [slT a, bA k] (.own true 1 (vsF c))), (38, .i (s + c.length : Nat)), (39, .i (i + 1 : Nat))] (sF a X Y Z s i) .normal (sF a X Y Z (s + c.length) (i + 1)) :=
  runs_of_pr hfol (show prR Try.prog T3 51 lp3x0 [(30, .b true), (35, .n (bA k)), (36, .c [slT a, bA k] (.own true 1 (vsF c))), (38, .i (s + c.length : Nat)), (39, .i (i + 1 : Nat))] (sF a X Y Z s i) .normal (sF a X Y Z (s + c.length) (i + 1)) = some _ by kernel_rfl) (AllP.c h1 (AllP.c h2 (AllP.c h3 (AllP.c h4 (AllP.c h5 (AllP.c h6 (AllP.c (LeR.refl (x := AV.sl false false (2 : Nat) (tsS a))) (AllP.c (LeR.refl (x := AV.own true (1 : Nat) (vsD X))) (AllP.c (LeR.refl (x := AV.own true (1 : Nat) (vsD Y))) (AllP.c (LeR.refl (x := AV.own true (1 : Nat) (vsD Z))) (AllP.c (LeR.refl (x := AV.int IntKind.i64 (↑(s + c.length) : Int))) (AllP.c (LeR.refl (x := AV.int IntKind.i64 (↑(i + (1 : Nat)) : Int))) (AllP.c (LeR.refl (x := AV.mem [])) AllP.n)))))))))))))
theorem Filters_end (a : List TLV) (X Y Z : List (List UInt8)) (s i : Nat)
    (h1 : decide ((↑i : Int) < (256 : Int)) = false) :
    WayR Try.prog T3 51 lp3x0 [(30, .b false)] (sF a X Y Z s i) (.exit 0) (st 51 [(0, slT a), (7, .own true 1 (vsD X)), (8, .own true 1 (vsD Y)), (9, .own true 1 (vsD Z)), (10, ni s)]) :=
  runs_of_pr hfol (show prR Try.prog T3 51 lp3x0 [(30, .b false)] (sF a X Y Z s i) (.exit 0) (st 51 [(0, slT a), (7, .own true 1 (vsD X)), (8, .own true 1 (vsD Y)), (9, .own true 1 (vsD Z)), (10, ni s)]) = some _ by kernel_rfl) (AllP.c h1 (AllP.c (LeR.refl (x := AV.sl false false (2 : Nat) (tsS a))) (AllP.c (LeR.refl (x := AV.own true (1 : Nat) (vsD X))) (AllP.c (LeR.refl (x := AV.own true (1 : Nat) (vsD Y))) (AllP.c (LeR.refl (x := AV.own true (1 : Nat) (vsD Z))) (AllP.c (LeR.refl (x := AV.int IntKind.i64 (↑s : Int))) (AllP.c (LeR.refl (x := AV.mem [])) AllP.n)))))))
theorem Filters_way (a b : List TLV) (k : UInt8) (X Y Z : List (List UInt8)) (s : Nat)
    (h1 : FnW Try.prog (7 : FuncId) [] [] (AV.bool true))
    (h2 : FnW Try.prog (9 : FuncId) [AV.sl false false (2 : Nat) (stale.sL (tsS a))] [slT a] (AV.own true (2 : Nat) (tsF a)))
    (h3 : freshA (AV.own true (2 : Nat) (tsF a)) = true)
    (h4 : FnW Try.prog (8 : FuncId) [AV.sl false false (2 : Nat) (stale.sL (undeep.uL (deepen.dL (tsF a)))), AV.int IntKind.u8 (↑k.toNat : Int)] [slT a, bA k] (AV.own true (1 : Nat) (vsF X)))
    (h5 : freshA (AV.own true (1 : Nat) (vsF X)) = true)
    (h6 : FnW Try.prog (9 : FuncId) [AV.sl false false (2 : Nat) (stale.sL (tsS b))] [slT b] (AV.own true (2 : Nat) (tsF b)))
    (h7 : freshA (AV.own true (2 : Nat) (tsF b)) = true)
    (h8 : FnW Try.prog (8 : FuncId) [AV.sl false false (2 : Nat) (stale.sL (undeep.uL (deepen.dL (tsF b)))), AV.int IntKind.u8 (↑k.toNat : Int)] [slT b, bA k] (AV.own true (1 : Nat) (vsF Y)))
    (h9 : freshA (AV.own true (1 : Nat) (vsF Y)) = true)
    (h10 : (deepen.dL (tsF b)).all flat = false)
    (h11 : (undeep.uL (deepen.dL (tsF b))).all (okElem (2 : Nat)) = true)
    (h12 : ((deepen.dL (tsF a)).length + (undeep.uL (deepen.dL (tsF b))).length) * (32 : Nat) ≤ (140737488355328 : Nat))
    (h13 : FnW Try.prog (8 : FuncId) [AV.sl false false (2 : Nat) (stale.sL (undeep.uL (deepen.dL (tsF a) ++ undeep.uL (deepen.dL (tsF b))))), AV.int IntKind.u8 (↑k.toNat : Int)] [slT (a ++ b), bA k] (AV.own true (1 : Nat) (vsF Z)))
    (h14 : freshA (AV.own true (1 : Nat) (vsF Z)) = true)
    (h15 : LeR (AV.own true (1 : Nat) (deepen.dL (vsF X))) (AV.own true (1 : Nat) (vsD X)))
    (h16 : LeR (AV.own true (1 : Nat) (deepen.dL (vsF Y))) (AV.own true (1 : Nat) (vsD Y)))
    (h17 : LeR (AV.own true (1 : Nat) (deepen.dL (vsF Z))) (AV.own true (1 : Nat) (vsD Z)))
    (h18 : Runs Try.prog T3 (51 : Nat) (Cd.loop [] lp3x0) (sF a X Y Z (0 : Nat) (0 : Nat)) fun x => x = (Ex.exit (0 : Nat), st (51 : Nat) [((0 : Nat), slT a), ((7 : Nat), AV.own true (1 : Nat) (vsD X)), ((8 : Nat), AV.own true (1 : Nat) (vsD Y)), ((9 : Nat), AV.own true (1 : Nat) (vsD Z)), ((10 : Nat), ni s)]))
    (h19 : (vsD Y).all flat = false)
    (h20 : (undeep.uL (vsD Y)).all (okElem (1 : Nat)) = true)
    (h21 : ((vsD X).length + (undeep.uL (vsD Y)).length) * (24 : Nat) ≤ (140737488355328 : Nat))
    (h22 : FnW Try.prog (10 : FuncId) [AV.sl false false (1 : Nat) (stale.sL (undeep.uL (vsD Z))), AV.sl false false (1 : Nat) (stale.sL (undeep.uL (vsD X ++ undeep.uL (vsD Y))))] [slV Z, slV (X ++ Y)] (AV.bool true))
    (h23 : ((↑s : Int) == (↑(tsS a).length : Int)) = true) :
    WayF Try.prog 3 T3 fd3 [(12, .c [] (.bool true)), (15, .c [slT a] (.own true 2 (tsF a))), (17, .c [slT a, bA k] (.own true 1 (vsF X))), (19, .c [slT b] (.own true 2 (tsF b))), (21, .c [slT b, bA k] (.own true 1 (vsF Y))), (23, .c [slT a] (.own true 2 (tsF a))), (25, .c [slT b] (.own true 2 (tsF b))), (26, .q2), (28, .c [slT (a ++ b), bA k] (.own true 1 (vsF Z))), (0, .lp (sF a X Y Z 0 0) (.exit 0) (st 51 [(0, slT a), (7, .own true 1 (vsD X)), (8, .own true 1 (vsD Y)), (9, .own true 1 (vsD Z)), (10, ni s)])), (43, .q2), (44, .c [slV Z, slV (X ++ Y)] (.bool true)), (49, .b true)] [slT a, slT b, bA k] (.bool true) :=
  fn_of_pr hfol ok3 hT3 (show prF Try.prog 3 T3 fd3 [(12, .c [] (.bool true)), (15, .c [slT a] (.own true 2 (tsF a))), (17, .c [slT a, bA k] (.own true 1 (vsF X))), (19, .c [slT b] (.own true 2 (tsF b))), (21, .c [slT b, bA k] (.own true 1 (vsF Y))), (23, .c [slT a] (.own true 2 (tsF a))), (25, .c [slT b] (.own true 2 (tsF b))), (26, .q2), (28, .c [slT (a ++ b), bA k] (.own true 1 (vsF Z))), (0, .lp (sF a X Y Z 0 0) (.exit 0) (st 51 [(0, slT a), (7, .own true 1 (vsD X)), (8, .own true 1 (vsD Y)), (9, .own true 1 (vsD Z)), (10, ni s)])), (43, .q2), (44, .c [slV Z, slV (X ++ Y)] (.bool true)), (49, .b true)] [slT a, slT b, bA k] (.bool true) = some _ by kernel_rfl) (AllP.c h1 (AllP.c (show freshA (AV.bool true) = true by kernel_rfl) (AllP.c h2 (AllP.c h3 (AllP.c h4 (AllP.c h5 (AllP.c h6 (AllP.c h7 (AllP.c h8 (AllP.c h9 (AllP.c h2 (AllP.c h3 (AllP.c h6 (AllP.c h7 (AllP.c h10 (AllP.c h11 (AllP.c h12 (AllP.c h13 (AllP.c h14 (AllP.c (LeR.refl (x := AV.sl false false (2 : Nat) (tsS a))) (AllP.c h15 (AllP.c h16 (AllP.c h17 (AllP.c (LeR.refl (x := AV.int IntKind.i64 (↑(0 : Nat) : Int))) (AllP.c (LeR.refl (x := AV.int IntKind.i64 (↑(0 : Nat) : Int))) (AllP.c (LeR.refl (x := AV.mem [])) (AllP.c h18 (AllP.c h19 (AllP.c h20 (AllP.c h21 (AllP.c h22 (AllP.c (show freshA (AV.bool true) = true by kernel_rfl) (AllP.c h23 (AllP.c (show AV.bool true = AV.bool true by kernel_rfl) AllP.n))))))))))))))))))))))))))))))))))
theorem SplitsIn_first (p : List UInt8) (l : List TLV) (i j m : Nat) (v : List UInt8) (b : UInt8)
    (h1 : decide ((↑j : Int) < (↑m : Int)) = true)
    (h2 : (↑i : Int) < (↑(tsD l).length : Int))
    (h3 : cellOf (2 : Nat) (tsD l) (i * (2 : Nat) + (1 : Nat)) = some (vD v))
    (h4 : (bsA v)[j]? = some (bA b))
    (h5 : IntKind.i64.wrap ((↑j : Int) + (1 : Int)) = (↑(j + (1 : Nat)) : Int))
    (h6 : LeR (AV.own true (2 : Nat) (hv.hvL (tsD l))) (AV.own true (2 : Nat) (tsX l))) :
    WayR Try.prog T4 83 lp4x0 [(66, .b true), (70, .q), (72, .v (vD v)), (74, .v (bA b)), (77, .v (bA b)), (78, .i (j + 1 : Nat))] (sS0 p (tsD l) l.length i m j) .normal (sS0 p (tsX l) l.length i m (j + 1)) :=
  runs_of_pr hfol (show prR Try.prog T4 83 lp4x0 [(66, .b true), (70, .q), (72, .v (vD v)), (74, .v (bA b)), (77, .v (bA b)), (78, .i (j + 1 : Nat))] (sS0 p (tsD l) l.length i m j) .normal (sS0 p (tsX l) l.length i m (j + 1)) = some _ by kernel_rfl) (AllP.c h1 (AllP.c (show (0 : Int) ≤ (↑i : Int) from Int.natCast_nonneg _) (AllP.c h2 (AllP.c h3 (AllP.c (show (0 : Int) ≤ (↑j : Int) from Int.natCast_nonneg _) (AllP.c h4 (AllP.c (show (0 : Int) ≤ (↑j : Int) from Int.natCast_nonneg _) (AllP.c h4 (AllP.c h5 (AllP.c (LeR.refl (x := AV.sl false false (1 : Nat) (bsA p))) (AllP.c (LeR.refl (x := AV.own false (1 : Nat) (bsA (spare p)))) (AllP.c h6 (AllP.c (LeR.refl (x := AV.int IntKind.i64 (↑i : Int))) (AllP.c (LeR.refl (x := AV.int IntKind.i64 (↑l.length : Int))) (AllP.c (LeR.refl (x := AV.int IntKind.i64 (↑i : Int))) (AllP.c (LeR.refl (x := AV.int IntKind.i64 (↑m : Int))) (AllP.c (LeR.refl (x := AV.int IntKind.i64 (↑(j + (1 : Nat)) : Int))) (AllP.c (LeR.refl (x := AV.mem [])) AllP.n))))))))))))))))))
theorem SplitsIn_next (p : List UInt8) (l : List TLV) (i j m : Nat) (v : List UInt8)
    (h1 : decide ((↑j : Int) < (↑m : Int)) = true)
    (h2 : (↑i : Int) < (↑(tsX l).length : Int))
    (h3 : cellOf (2 : Nat) (tsX l) (i * (2 : Nat) + (1 : Nat)) = some (vX v))
    (h4 : (List.map (fun x => anyB) v)[j]? = some anyB)
    (h5 : IntKind.i64.wrap ((↑j : Int) + (1 : Int)) = (↑(j + (1 : Nat)) : Int))
    (h6 : LeR (AV.own true (2 : Nat) (hv.hvL (tsX l))) (AV.own true (2 : Nat) (tsX l))) :
    WayR Try.prog T4 83 lp4x0 [(66, .b true), (70, .q), (72, .v (vX v)), (74, .v anyB), (77, .v anyB), (78, .i (j + 1 : Nat))] (sS0 p (tsX l) l.length i m j) .normal (sS0 p (tsX l) l.length i m (j + 1)) :=
  runs_of_pr hfol (show prR Try.prog T4 83 lp4x0 [(66, .b true), (70, .q), (72, .v (vX v)), (74, .v anyB), (77, .v anyB), (78, .i (j + 1 : Nat))] (sS0 p (tsX l) l.length i m j) .normal (sS0 p (tsX l) l.length i m (j + 1)) = some _ by kernel_rfl) (AllP.c h1 (AllP.c (show (0 : Int) ≤ (↑i : Int) from Int.natCast_nonneg _) (AllP.c h2 (AllP.c h3 (AllP.c (show (0 : Int) ≤ (↑j : Int) from Int.natCast_nonneg _) (AllP.c h4 (AllP.c (show (0 : Int) ≤ (↑j : Int) from Int.natCast_nonneg _) (AllP.c h4 (AllP.c h5 (AllP.c (LeR.refl (x := AV.sl false false (1 : Nat) (bsA p))) (AllP.c (LeR.refl (x := AV.own false (1 : Nat) (bsA (spare p)))) (AllP.c h6 (AllP.c (LeR.refl (x := AV.int IntKind.i64 (↑i : Int))) (AllP.c (LeR.refl (x := AV.int IntKind.i64 (↑l.length : Int))) (AllP.c (LeR.refl (x := AV.int IntKind.i64 (↑i : Int))) (AllP.c (LeR.refl (x := AV.int IntKind.i64 (↑m : Int))) (AllP.c (LeR.refl (x := AV.int IntKind.i64 (↑(j + (1 : Nat)) : Int))) (AllP.c (LeR.refl (x := AV.mem [])) AllP.n))))))))))))))))))
theorem SplitsIn_end (p : List UInt8) (L : List AV) (i j m n : Nat)
    (h1 : decide ((↑j : Int) < (↑m : Int)) = false) :
    WayR Try.prog T4 83 lp4x0 [(66, .b false)] (sS0 p L n i m j) (.exit 2) (sS1 p L n i) :=
  runs_of_pr hfol (show prR Try.prog T4 83 lp4x0 [(66, .b false)] (sS0 p L n i m j) (.exit 2) (sS1 p L n i) = some _ by kernel_rfl) (AllP.c h1 (AllP.c (LeR.refl (x := AV.sl false false (1 : Nat) (bsA p))) (AllP.c (LeR.refl (x := AV.own false (1 : Nat) (bsA (spare p)))) (AllP.c (LeR.refl (x := AV.own true (2 : Nat) L)) (AllP.c (LeR.refl (x := AV.int IntKind.i64 (↑n : Int))) (AllP.c (LeR.refl (x := AV.int IntKind.i64 (↑i : Int))) (AllP.c (LeR.refl (x := AV.mem [])) AllP.n)))))))
theorem SplitsOut_d (p : List UInt8) (l : List TLV) (L : List AV) (i : Nat) (v : List UInt8)
    (h1 : decide ((↑i : Int) < (↑l.length : Int)) = true)
    (h2 : (↑i : Int) < (↑(tsD l).length : Int))
    (h3 : cellOf (2 : Nat) (tsD l) (i * (2 : Nat) + (1 : Nat)) = some (vD v))
    (h4 : (↑(bsA v).length : Int) = (↑v.length : Int))
    (h5 : Runs Try.prog T4 (83 : Nat) (Cd.loop [] lp4x0) (sS0 p (tsD l) l.length i v.length (0 : Nat)) fun x => x = (Ex.exit (2 : Nat), sS1 p L l.length i))
    (h6 : IntKind.i64.wrap ((↑i : Int) + (1 : Int)) = (↑(i + (1 : Nat)) : Int)) :
    WayR Try.prog T4 83 lp4x1 [(57, .b true), (61, .q), (63, .v (vD v)), (64, .i v.length), (0, .lp (sS0 p (tsD l) l.length i v.length 0) (.exit 2) (sS1 p L l.length i)), (79, .i (i + 1 : Nat))] (sS1 p (tsD l) l.length i) .normal (sS1 p L l.length (i + 1)) :=
  runs_of_pr hfol (show prR Try.prog T4 83 lp4x1 [(57, .b true), (61, .q), (63, .v (vD v)), (64, .i v.length), (0, .lp (sS0 p (tsD l) l.length i v.length 0) (.exit 2) (sS1 p L l.length i)), (79, .i (i + 1 : Nat))] (sS1 p (tsD l) l.length i) .normal (sS1 p L l.length (i + 1)) = some _ by kernel_rfl) (AllP.c h1 (AllP.c (show (0 : Int) ≤ (↑i : Int) from Int.natCast_nonneg _) (AllP.c h2 (AllP.c h3 (AllP.c h4 (AllP.c (LeR.refl (x := AV.sl false false (1 : Nat) (bsA p))) (AllP.c (LeR.refl (x := AV.own false (1 : Nat) (bsA (spare p)))) (AllP.c (LeR.refl (x := AV.own true (2 : Nat) (tsD l))) (AllP.c (LeR.refl (x := AV.int IntKind.i64 (↑i : Int))) (AllP.c (LeR.refl (x := AV.int IntKind.i64 (↑l.length : Int))) (AllP.c (LeR.refl (x := AV.int IntKind.i64 (↑i : Int))) (AllP.c (LeR.refl (x := AV.int IntKind.i64 (↑v.length : Int))) (AllP.c (LeR.refl (x := AV.int IntKind.i64 (↑(0 : Nat) : Int))) (AllP.c (LeR.refl (x := AV.mem [])) (AllP.c h5 (AllP.c h6 (AllP.c (LeR.refl (x := AV.sl false false (1 : Nat) (bsA p))) (AllP.c (LeR.refl (x := AV.own false (1 : Nat) (bsA (spare p)))) (AllP.c (LeR.refl (x := AV.own true (2 : Nat) L)) (AllP.c (LeR.refl (x := AV.int IntKind.i64 (↑l.length : Int))) (AllP.c (LeR.refl (x := AV.int IntKind.i64 (↑(i + (1 : Nat)) : Int))) (AllP.c (LeR.refl (x := AV.mem [])) AllP.n))))))))))))))))))))))
theorem SplitsOut_x (p : List UInt8) (l : List TLV) (i : Nat) (v : List UInt8)
    (h1 : decide ((↑i : Int) < (↑l.length : Int)) = true)
    (h2 : (↑i : Int) < (↑(tsX l).length : Int))
    (h3 : cellOf (2 : Nat) (tsX l) (i * (2 : Nat) + (1 : Nat)) = some (vX v))
    (h4 : (↑(List.map (fun x => anyB) v).length : Int) = (↑v.length : Int))
    (h5 : Runs Try.prog T4 (83 : Nat) (Cd.loop [] lp4x0) (sS0 p (tsX l) l.length i v.length (0 : Nat)) fun x => x = (Ex.exit (2 : Nat), sS1 p (tsX l) l.length i))
    (h6 : IntKind.i64.wrap ((↑i : Int) + (1 : Int)) = (↑(i + (1 : Nat)) : Int)) :
    WayR Try.prog T4 83 lp4x1 [(57, .b true), (61, .q), (63, .v (vX v)), (64, .i v.length), (0, .lp (sS0 p (tsX l) l.length i v.length 0) (.exit 2) (sS1 p (tsX l) l.length i)), (79, .i (i + 1 : Nat))] (sS1 p (tsX l) l.length i) .normal (sS1 p (tsX l) l.length (i + 1)) :=
  runs_of_pr hfol (show prR Try.prog T4 83 lp4x1 [(57, .b true), (61, .q), (63, .v (vX v)), (64, .i v.length), (0, .lp (sS0 p (tsX l) l.length i v.length 0) (.exit 2) (sS1 p (tsX l) l.length i)), (79, .i (i + 1 : Nat))] (sS1 p (tsX l) l.length i) .normal (sS1 p (tsX l) l.length (i + 1)) = some _ by kernel_rfl) (AllP.c h1 (AllP.c (show (0 : Int) ≤ (↑i : Int) from Int.natCast_nonneg _) (AllP.c h2 (AllP.c h3 (AllP.c h4 (AllP.c (LeR.refl (x := AV.sl false false (1 : Nat) (bsA p))) (AllP.c (LeR.refl (x := AV.own false (1 : Nat) (bsA (spare p)))) (AllP.c (LeR.refl (x := AV.own true (2 : Nat) (tsX l))) (AllP.c (LeR.refl (x := AV.int IntKind.i64 (↑i : Int))) (AllP.c (LeR.refl (x := AV.int IntKind.i64 (↑l.length : Int))) (AllP.c (LeR.refl (x := AV.int IntKind.i64 (↑i : Int))) (AllP.c (LeR.refl (x := AV.int IntKind.i64 (↑v.length : Int))) (AllP.c (LeR.refl (x := AV.int IntKind.i64 (↑(0 : Nat) : Int))) (AllP.c (LeR.refl (x := AV.mem [])) (AllP.c h5 (AllP.c h6 (AllP.c (LeR.refl (x := AV.sl false false (1 : Nat) (bsA p))) (AllP.c (LeR.refl (x := AV.own false (1 : Nat) (bsA (spare p)))) (AllP.c (LeR.refl (x := AV.own true (2 : Nat) (tsX l))) (AllP.c (LeR.refl (x := AV.int IntKind.i64 (↑l.length : Int))) (AllP.c (LeR.refl (x := AV.int IntKind.i64 (↑(i + (1 : Nat)) : Int))) (AllP.c (LeR.refl (x := AV.mem [])) AllP.n))))))))))))))))))))))
theorem SplitsOut_end (p : List UInt8) (L : List AV) (n i : Nat)
    (h1 : decide ((↑i : Int) < (↑n : Int)) = false) :
    WayR Try.prog T4 83 lp4x1 [(57, .b false)] (sS1 p L n i) (.exit 0) (st 83 [(0, slB p), (4, .own false 1 (bsA (spare p)))]) :=
  runs_of_pr hfol (show prR Try.prog T4 83 lp4x1 [(57, .b false)] (sS1 p L n i) (.exit 0) (st 83 [(0, slB p), (4, .own false 1 (bsA (spare p)))]) = some _ by kernel_rfl) (AllP.c h1 (AllP.c (LeR.refl (x := AV.sl false false (1 : Nat) (bsA p))) (AllP.c (LeR.refl (x := AV.own false (1 : Nat) (bsA (spare p)))) (AllP.c (LeR.refl (x := AV.mem [])) AllP.n))))
theorem Splits_err (p : List UInt8) (e : Nat)
    (h1 : FnW Try.prog (7 : FuncId) [] [] (AV.bool true))
    (h2 : FnW Try.prog (11 : FuncId) [AV.sl false false (1 : Nat) (stale.sL (bsA p))] [slB p] (AV.tup [AV.sl true true (1 : Nat) (bsA p), AV.own false (1 : Nat) (bsA (spare p))]))
    (h3 : freshA (AV.tup [AV.sl true true (1 : Nat) (bsA p), AV.own false (1 : Nat) (bsA (spare p))]) = true)
    (h4 : FnW Try.prog (12 : FuncId) [AV.sl false true (1 : Nat) (stale.sL (bsA p))] [slB p] (AV.tup [AV.nils, ni e]))
    (h5 : FnW Try.prog (13 : FuncId) [AV.sl false false (1 : Nat) (stale.sL (bsA p))] [slB p] (AV.tup [AV.nils, ni e]))
    (h6 : FnW Try.prog (14 : FuncId) [AV.nils, AV.nils] [slT [], slT []] (AV.bool true))
    (h7 : ((↑e : Int) != (↑e : Int)) = false)
    (h8 : ((↑e : Int) == (0 : Int)) = false)
    (h9 : Runs Try.prog T4 (83 : Nat) (Cd.loop [] lp4x1) (sS1 p [] (0 : Nat) (0 : Nat)) fun x => x = (Ex.exit (0 : Nat), st (83 : Nat) [((0 : Nat), slB p), ((4 : Nat), AV.own false (1 : Nat) (bsA (spare p)))]))
    (h10 : FnW Try.prog (17 : FuncId) [AV.sl false false (1 : Nat) (stale.sL (bsA (spare p))), AV.sl false false (1 : Nat) (stale.sL (bsA p))] [slB (spare p), slB p] (AV.bool true)) :
    WayF Try.prog 4 T4 fd4 [(13, .c [] (.bool true)), (17, .c [slB p] (.tup [.sl true true 1 (bsA p), .own false 1 (bsA (spare p))])), (22, .c [slB p] (.tup [.nils, ni e])), (27, .c [slB p] (.tup [.nils, ni e])), (32, .c [slT [], slT []] (.bool true)), (37, .b false), (40, .b false), (0, .lp (sS1 p [] 0 0) (.exit 0) (st 83 [(0, slB p), (4, .own false 1 (bsA (spare p)))])), (82, .c [slB (spare p), slB p] (.bool true))] [slB p] (.bool true) :=
  fn_of_pr hfol ok4 hT4 (show prF Try.prog 4 T4 fd4 [(13, .c [] (.bool true)), (17, .c [slB p] (.tup [.sl true true 1 (bsA p), .own false 1 (bsA (spare p))])), (22, .c [slB p] (.tup [.nils, ni e])), (27, .c [slB p] (.tup [.nils, ni e])), (32, .c [slT [], slT []] (.bool true)), (37, .b false), (40, .b false), (0, .lp (sS1 p [] 0 0) (.exit 0) (st 83 [(0, slB p), (4, .own false 1 (bsA (spare p)))])), (82, .c [slB (spare p), slB p] (.bool true))] [slB p] (.bool true) = some _ by kernel_rfl) (AllP.c h1 (AllP.c (show freshA (AV.bool true) = true by kernel_rfl) (AllP.c h2 (AllP.c h3 (AllP.c h4 (AllP.c (show freshA (AV.tup [AV.nils, ni e]) = true by kernel_rfl) (AllP.c h5 (AllP.c (show freshA (AV.tup [AV.nils, ni e]) = true by kernel_rfl) (AllP.c h6 (AllP.c (show freshA (AV.bool true) = true by kernel_rfl) (AllP.c h7 (AllP.c h8 (AllP.c (LeR.refl (x := AV.sl false false (1 : Nat) (bsA p))) (AllP.c (LeR.refl (x := AV.own false (1 : Nat) (bsA (spare p)))) (AllP.c (LeR.nilsOwn : LeR AV.nils (AV.own true (2 : Nat) [])) (AllP.c (LeR.refl (x := AV.int IntKind.i64 (↑(0 : Nat) : Int))) (AllP.c (LeR.refl (x := AV.int IntKind.i64 (↑(0 : Nat) : Int))) (AllP.c (LeR.refl (x := AV.mem [])) (AllP.c h9 (AllP.c h10 (AllP.c (show freshA (AV.bool true) = true by kernel_rfl) (AllP.c (show AV.bool true = AV.bool true by kernel_rfl) AllP.n))))))))))))))))))))))
theorem Splits_ok (p : List UInt8) (l : List TLV)
    (h1 : FnW Try.prog (7 : FuncId) [] [] (AV.bool true))
    (h2 : FnW Try.prog (11 : FuncId) [AV.sl false false (1 : Nat) (stale.sL (bsA p))] [slB p] (AV.tup [AV.sl true true (1 : Nat) (bsA p), AV.own false (1 : Nat) (bsA (spare p))]))
    (h3 : freshA (AV.tup [AV.sl true true (1 : Nat) (bsA p), AV.own false (1 : Nat) (bsA (spare p))]) = true)
    (h4 : FnW Try.prog (12 : FuncId) [AV.sl false true (1 : Nat) (stale.sL (bsA p))] [slB p] (AV.tup [AV.own true (2 : Nat) (tsF l), ni (0 : Nat)]))
    (h5 : freshA (AV.tup [AV.own true (2 : Nat) (tsF l), ni (0 : Nat)]) = true)
    (h6 : AV.tup (deepT [AV.own true (2 : Nat) (tsF l), ni (0 : Nat)]) = AV.tup [AV.own true (2 : Nat) (tsD l), ni (0 : Nat)])
    (h7 : FnW Try.prog (13 : FuncId) [AV.sl false false (1 : Nat) (stale.sL (bsA p))] [slB p] (AV.tup [AV.own true (2 : Nat) (tsF l), ni (0 : Nat)]))
    (h8 : FnW Try.prog (14 : FuncId) [AV.sl false false (2 : Nat) (stale.sL (undeep.uL (tsD l))), AV.sl false false (2 : Nat) (stale.sL (undeep.uL (tsD l)))] [slT l, slT l] (AV.bool true))
    (h9 : FnW Try.prog (15 : FuncId) [AV.sl false false (2 : Nat) (stale.sL (undeep.uL (tsD l)))] [slT l] (AV.tup [AV.own true (1 : Nat) (bsA p), ni (0 : Nat)]))
    (h10 : freshA (AV.tup [AV.own true (1 : Nat) (bsA p), ni (0 : Nat)]) = true)
    (h11 : AV.tup (deepT [AV.own true (1 : Nat) (bsA p), ni (0 : Nat)]) = AV.tup [AV.own true (1 : Nat) (bsA p), ni (0 : Nat)])
    (h12 : FnW Try.prog (16 : FuncId) [AV.sl false false (1 : Nat) (stale.sL (undeep.uL (bsA p))), AV.sl false false (1 : Nat) (stale.sL (bsA p))] [slB p, slB p] (AV.bool true))
    (h13 : LeR (AV.int IntKind.i64 (↑(tsD l).length : Int)) (AV.int IntKind.i64 (↑l.length : Int)))
    (h14 : Runs Try.prog T4 (83 : Nat) (Cd.loop [] lp4x1) (sS1 p (tsD l) l.length (0 : Nat)) fun x => x = (Ex.exit (0 : Nat), st (83 : Nat) [((0 : Nat), slB p), ((4 : Nat), AV.own false (1 : Nat) (bsA (spare p)))]))
    (h15 : FnW Try.prog (17 : FuncId) [AV.sl false false (1 : Nat) (stale.sL (bsA (spare p))), AV.sl false false (1 : Nat) (stale.sL (bsA p))] [slB (spare p), slB p] (AV.bool true)) :
    WayF Try.prog 4 T4 fd4 [(13, .c [] (.bool true)), (17, .c [slB p] (.tup [.sl true true 1 (bsA p), .own false 1 (bsA (spare p))])), (22, .c [slB p] (.tup [.own true 2 (tsF l), ni 0])), (22, .n (.tup [.own true 2 (tsD l), ni 0])), (27, .c [slB p] (.tup [.own true 2 (tsF l), ni 0])), (27, .n (.tup [.own true 2 (tsD l), ni 0])), (32, .c [slT l, slT l] (.bool true)), (43, .c [slT l] (.tup [.own true 1 (bsA p), ni 0])), (43, .n (.tup [.own true 1 (bsA p), ni 0])), (51, .c [slB p, slB p] (.bool true)), (0, .lp (sS1 p (tsD l) l.length 0) (.exit 0) (st 83 [(0, slB p), (4, .own false 1 (bsA (spare p)))])), (82, .c [slB (spare p), slB p] (.bool true))] [slB p] (.bool true) :=
  fn_of_pr hfol ok4 hT4 (show prF Try.prog 4 T4 fd4 [(13, .c [] (.bool true)), (17, .c [slB p] (.tup [.sl true true 1 (bsA p), .own false 1 (bsA (spare p))])), (22, .c [slB p] (.tup [.own true 2 (tsF l), ni 0])), (22, .n (.tup [.own true 2 (tsD l), ni 0])), (27, .c [slB p] (.tup [.own true 2 (tsF l), ni 0])), (27, .n (.tup [.own true 2 (tsD l), ni 0])), (32, .c [slT l, slT l] (.bool true)), (43, .c [slT l] (.tup [.own true 1 (bsA p), ni 0])), (43, .n (.tup [.own true 1 (bsA p), ni 0])), (51, .c [slB p, slB p] (.bool true)), (0, .lp (sS1 p (tsD l) l.length 0) (.exit 0) (st 83 [(0, slB p), (4, .own false 1 (bsA (spare p)))])), (82, .c [slB (spare p), slB p] (.bool true))] [slB p] (.bool true) = some _ by kernel_rfl) (AllP.c h1 (AllP.c (show freshA (AV.bool true) = true by kernel_rfl) (AllP.c h2 (AllP.c h3 (AllP.c h4 (AllP.c h5 (AllP.c h6 (AllP.c h7 (AllP.c h5 (AllP.c h6 (AllP.c h8 (AllP.c (show freshA (AV.bool true) = true by kernel_rfl) (AllP.c h9 (AllP.c h10 (AllP.c h11 (AllP.c h12 (AllP.c (show freshA (AV.bool true) = true by kernel_rfl) (AllP.c (LeR.refl (x := AV.sl false false (1 : Nat) (bsA p))) (AllP.c (LeR.refl (x := AV.own false (1 : Nat) (bsA (spare p)))) (AllP.c (LeR.refl (x := AV.own true (2 : Nat) (tsD l))) (AllP.c h13 (AllP.c (LeR.refl (x := AV.int IntKind.i64 (↑(0 : Nat) : Int))) (AllP.c (LeR.refl (x := AV.mem [])) (AllP.c h14 (AllP.c h15 (AllP.c (show freshA (AV.bool true) = true by kernel_rfl) (AllP.c (show AV.bool true = AV.bool true by kernel_rfl) AllP.n)))))))))))))))))))))))))))
end Go.Ev

/-! text T5 -/
set_option linter.unusedVariables false
namespace Go.Ev
open Go.Proofs (Try.prog)
abbrev m77 : AV := .agg [.int .u8 77, .nils]
/-- Behind Join: 'o': its bytes; 'l': too long. -/
abbrev sJo1 (l : List TLV) (p : List UInt8) (L : List AV) (n i : Nat) : List AV := st 116 [(0, slT l), (5, .own false 2 (tsF l ++ [m77])), (6, .own true 1 (bsA p)), (7, ni 0), (8, .own true 1 (bsA p)), (9, ni 0), (10, .own true 1 L), (11, .bool true), (48, ni n), (49, ni i)]
abbrev sJo0 (l : List TLV) (p : List UInt8) (L : List AV) (n i m j : Nat) : List AV := st 116 [(0, slT l), (5, .own false 2 (tsF l ++ [m77])), (6, .own true 1 (bsA p)), (7, ni 0), (8, .own true 1 (bsA p)), (9, ni 0), (10, .own true 1 L), (11, .bool true), (12, ni i), (48, ni n), (49, ni i), (56, ni m), (57, ni j)]
abbrev sJo2 (l : List TLV) (p : List UInt8) : List AV := st 116 [(0, slT l), (5, .own false 2 (tsF l ++ [m77])), (6, .own true 1 (bsA p)), (7, ni 0), (8, .own true 1 (bsA p)), (9, ni 0), (11, .bool true)]
abbrev sJl1 (l : List TLV) (p : List UInt8) (L : List AV) (n i : Nat) : List AV := st 116 [(0, slT l), (5, .own false 2 (tsF l ++ [m77])), (6, .nils), (7, ni 2), (8, .nils), (9, ni 2), (10, .own true 1 L), (11, .bool true), (48, ni n), (49, ni i)]
abbrev sJl0 (l : List TLV) (p : List UInt8) (L : List AV) (n i m j : Nat) : List AV := st 116 [(0, slT l), (5, .own false 2 (tsF l ++ [m77])), (6, .nils), (7, ni 2), (8, .nils), (9, ni 2), (10, .own true 1 L), (11, .bool true), (12, ni i), (48, ni n), (49, ni i), (56, ni m), (57, ni j)]
abbrev sJl2 (l : List TLV) (p : List UInt8) : List AV := st 116 [(0, slT l), (5, .own false 2 (tsF l ++ [m77])), (6, .nils), (7, ni 2), (8, .nils), (9, ni 2), (11, .bool true)]
end Go.Ev

/-! text W5 -/
set_option linter.unusedVariables false
namespace Go.Ev
open Go.Proofs (Try.prog)
theorem Filters_way00 (a b : List TLV) (k : UInt8) (X Y Z : List (List UInt8)) (s : Nat)
    (h1 : FnW Try.prog (7 : FuncId) [] [] (AV.bool true))
    (h2 : FnW Try.prog (9 : FuncId) [AV.sl false false (2 : Nat) (stale.sL (tsS a))] [slT a] (AV.own true (2 : Nat) (tsF a)))
    (h3 : freshA (AV.own true (2 : Nat) (tsF a)) = true)
    (h4 : FnW Try.prog (8 : FuncId) [AV.sl false false (2 : Nat) (stale.sL (undeep.uL (deepen.dL (tsF a)))), AV.int IntKind.u8 (↑k.toNat : Int)] [slT a, bA k] (AV.own true (1 : Nat) (vsF X)))
    (h5 : freshA (AV.own true (1 : Nat) (vsF X)) = true)
    (h6 : FnW Try.prog (9 : FuncId) [AV.sl false false (2 : Nat) (stale.sL (tsS b))] [slT b] (AV.own true (2 : Nat) (tsF b)))
    (h7 : freshA (AV.own true (2 : Nat) (tsF b)) = true)
    (h8 : FnW Try.prog (8 : FuncId) [AV.sl false false (2 : Nat) (stale.sL (undeep.uL (deepen.dL (tsF b)))), AV.int IntKind.u8 (↑k.toNat : Int)] [slT b, bA k] (AV.own true (1 : Nat) (vsF Y)))
    (h9 : freshA (AV.own true (1 : Nat) (vsF Y)) = true)
    (h10 : (deepen.dL (tsF b)).all flat = true)
    (h11 : (deepen.dL (tsF b)).all (okElem (2 : Nat)) = true)
    (h12 : ((deepen.dL (tsF a)).length + (deepen.dL (tsF b)).length) * (32 : Nat) ≤ (140737488355328 : Nat))
    (h13 : FnW Try.prog (8 : FuncId) [AV.sl false false (2 : Nat) (stale.sL (undeep.uL (deepen.dL (tsF a) ++ deepen.dL (tsF b)))), AV.int IntKind.u8 (↑k.toNat : Int)] [slT (a ++ b), bA k] (AV.own true (1 : Nat) (vsF Z)))
    (h14 : freshA (AV.own true (1 : Nat) (vsF Z)) = true)
    (h15 : LeR (AV.own true (1 : Nat) (deepen.dL (vsF X))) (AV.own true (1 : Nat) (vsD X)))
    (h16 : LeR (AV.own true (1 : Nat) (deepen.dL (vsF Y))) (AV.own true (1 : Nat) (vsD Y)))
    (h17 : LeR (AV.own true (1 : Nat) (deepen.dL (vsF Z))) (AV.own true (1 : Nat) (vsD Z)))
    (h18 : Runs Try.prog T3 (51 : Nat) (Cd.loop [] lp3x0) (sF a X Y Z (0 : Nat) (0 : Nat)) fun x => x = (Ex.exit (0 : Nat), st (51 : Nat) [((0 : Nat), slT a), ((7 : Nat), AV.own true (1 : Nat) (vsD X)), ((8 : Nat), AV.own true (1 : Nat) (vsD Y)), ((9 : Nat), AV.own true (1 : Nat) (vsD Z)), ((10 : Nat), ni s)]))
    (h19 : (vsD Y).all flat = true)
    (h20 : (vsD Y).all (okElem (1 : Nat)) = true)
    (h21 : ((vsD X).length + (vsD Y).length) * (24 : Nat) ≤ (140737488355328 : Nat))
    (h22 : FnW Try.prog (10 : FuncId) [AV.sl false false (1 : Nat) (stale.sL (undeep.uL (vsD Z))), AV.sl false false (1 : Nat) (stale.sL (undeep.uL (vsD X ++ vsD Y)))] [slV Z, slV (X ++ Y)] (AV.bool true))
    (h23 : ((↑s : Int) == (↑(tsS a).length : Int)) = true) :
    WayF Try.prog 3 T3 fd3 [(12, .c [] (.bool true)), (15, .c [slT a] (.own true 2 (tsF a))), (17, .c [slT a, bA k] (.own true 1 (vsF X))), (19, .c [slT b] (.own true 2 (tsF b))), (21, .c [slT b, bA k] (.own true 1 (vsF Y))), (23, .c [slT a] (.own true 2 (tsF a))), (25, .c [slT b] (.own true 2 (tsF b))), (26, .q), (28, .c [slT (a ++ b), bA k] (.own true 1 (vsF Z))), (0, .lp (sF a X Y Z 0 0) (.exit 0) (st 51 [(0, slT a), (7, .own true 1 (vsD X)), (8, .own true 1 (vsD Y)), (9, .own true 1 (vsD Z)), (10, ni s)])), (43, .q), (44, .c [slV Z, slV (X ++ Y)] (.bool true)), (49, .b true)] [slT a, slT b, bA k] (.bool true) :=
  fn_of_pr hfol ok3 hT3 (show prF Try.prog 3 T3 fd3 [(12, .c [] (.bool true)), (15, .c [slT a] (.own true 2 (tsF a))), (17, .c [slT a, bA k] (.own true 1 (vsF X))), (19, .c [slT b] (.own true 2 (tsF b))), (21, .c [slT b, bA k] (.own true 1 (vsF Y))), (23, .c [slT a] (.own true 2 (tsF a))), (25, .c [slT b] (.own true 2 (tsF b))), (26, .q), (28, .c [slT (a ++ b), bA k] (.own true 1 (vsF Z))), (0, .lp (sF a X Y Z 0 0) (.exit 0) (st 51 [(0, slT a), (7, .own true 1 (vsD X)), (8, .own true 1 (vsD Y)), (9, .own true 1 (vsD Z)), (10, ni s)])), (43, .q), (44, .c [slV Z, slV (X ++ Y)] (.bool true)), (49, .b true)] [slT a, slT b, bA k] (.bool true) = some _ by kernel_rfl) (AllP.c h1 (AllP.c (show freshA (AV.bool true) = true by kernel_rfl) (AllP.c h2 (AllP.c h3 (AllP.c h4 (AllP.c h5 (AllP.c h6 (AllP.c h7 (AllP.c h8 (AllP.c h9 (AllP.c h2 (AllP.c h3 (AllP.c h6 (AllP.c h7 (AllP.c h10 (AllP.c h11 (AllP.c h12 (AllP.c h13 (AllP.c h14 (AllP.c (LeR.refl (x := AV.sl false false (2 : Nat) (tsS a))) (AllP.c h15 (AllP.c h16 (AllP.c h17 (AllP.c (LeR.refl (x := AV.int IntKind.i64 (↑(0 : Nat) : Int))) (AllP.c (LeR.refl (x := AV.int IntKind.i64 (↑(0 : Nat) : Int))) (AllP.c (LeR.refl (x := AV.mem [])) (AllP.c h18 (AllP.c h19 (AllP.c h20 (AllP.c h21 (AllP.c h22 (AllP.c (show freshA (AV.bool true) = true by kernel_rfl) (AllP.c h23 (AllP.c (show AV.bool true = AV.bool true by kernel_rfl) AllP.n))))))))))))))))))))))))))))))))))
theorem Filters_way10 (a b : List TLV) (k : UInt8) (X Y Z : List (List UInt8)) (s : Nat)
    (h1 : FnW Try.prog (7 : FuncId) [] [] (AV.bool true))
    (h2 : FnW Try.prog (9 : FuncId) [AV.sl false false (2 : Nat) (stale.sL (tsS a))] [slT a] (AV.own true (2 : Nat) (tsF a)))
    (h3 : freshA (AV.own true (2 : Nat) (tsF a)) = true)
    (h4 : FnW Try.prog (8 : FuncId) [AV.sl false false (2 : Nat) (stale.sL (undeep.uL (deepen.dL (tsF a)))), AV.int IntKind.u8 (↑k.toNat : Int)] [slT a, bA k] (AV.own true (1 : Nat) (vsF X)))
    (h5 : freshA (AV.own true (1 : Nat) (vsF X)) = true)
    (h6 : FnW Try.prog (9 : FuncId) [AV.sl false false (2 : Nat) (stale.sL (tsS b))] [slT b] (AV.own true (2 : Nat) (tsF b)))
    (h7 : freshA (AV.own true (2 : Nat) (tsF b)) = true)
    (h8 : FnW Try.prog (8 : FuncId) [AV.sl false false (2 : Nat) (stale.sL (undeep.uL (deepen.dL (tsF b)))), AV.int IntKind.u8 (↑k.toNat : Int)] [slT b, bA k] (AV.own true (1 : Nat) (vsF Y)))
    (h9 : freshA (AV.own true (1 : Nat) (vsF Y)) = true)
    (h10 : (deepen.dL (tsF b)).all flat = false)
    (h11 : (undeep.uL (deepen.dL (tsF b))).all (okElem (2 : Nat)) = true)
    (h12 : ((deepen.dL (tsF a)).length + (undeep.uL (deepen.dL (tsF b))).length) * (32 : Nat) ≤ (140737488355328 : Nat))
    (h13 : FnW Try.prog (8 : FuncId) [AV.sl false false (2 : Nat) (stale.sL (undeep.uL (deepen.dL (tsF a) ++ undeep.uL (deepen.dL (tsF b))))), AV.int IntKind.u8 (↑k.toNat : Int)] [slT (a ++ b), bA k] (AV.own true (1 : Nat) (vsF Z)))
    (h14 : freshA (AV.own true (1 : Nat) (vsF Z)) = true)
    (h15 : LeR (AV.own true (1 : Nat) (deepen.dL (vsF X))) (AV.own true (1 : Nat) (vsD X)))
    (h16 : LeR (AV.own true (1 : Nat) (deepen.dL (vsF Y))) (AV.own true (1 : Nat) (vsD Y)))
    (h17 : LeR (AV.own true (1 : Nat) (deepen.dL (vsF Z))) (AV.own true (1 : Nat) (vsD Z)))
    (h18 : Runs Try.prog T3 (51 : Nat) (Cd.loop [] lp3x0) (sF a X Y Z (0 : Nat) (0 : Nat)) fun x => x = (Ex.exit (0 : Nat), st (51 : Nat) [((0 : Nat), slT a), ((7 : Nat), AV.own true (1 : Nat) (vsD X)), ((8 : Nat), AV.own true (1 : Nat) (vsD Y)), ((9 : Nat), AV.own true (1 : Nat) (vsD Z)), ((10 : Nat), ni s)]))
    (h19 : (vsD Y).all flat = true)
    (h20 : (vsD Y).all (okElem (1 : Nat)) = true)
    (h21 : ((vsD X).length + (vsD Y).length) * (24 : Nat) ≤ (140737488355328 : Nat))
    (h22 : FnW Try.prog (10 : FuncId) [AV.sl false false (1 : Nat) (stale.sL (undeep.uL (vsD Z))), AV.sl false false (1 : Nat) (stale.sL (undeep.uL (vsD X ++ vsD Y)))] [slV Z, slV (X ++ Y)] (AV.bool true))
    (h23 : ((↑s : Int) == (↑(tsS a).length : Int)) = true) :
    WayF Try.prog 3 T3 fd3 [(12, .c [] (.bool true)), (15, .c [slT a] (.own true 2 (tsF a))), (17, .c [slT a, bA k] (.own true 1 (vsF X))), (19, .c [slT b] (.own true 2 (tsF b))), (21, .c [slT b, bA k] (.own true 1 (vsF Y))), (23, .c [slT a] (.own true 2 (tsF a))), (25, .c [slT b] (.own true 2 (tsF b))), (26, .q2), (28, .c [slT (a ++ b), bA k] (.own true 1 (vsF Z))), (0, .lp (sF a X Y Z 0 0) (.exit 0) (st 51 [(0, slT a), (7, .own true 1 (vsD X)), (8, .own true 1 (vsD Y)), (9, .own true 1 (vsD Z)), (10, ni s)])), (43, .q), (44, .c [slV Z, slV (X ++ Y)] (.bool true)), (49, .b true)] [slT a, slT b, bA k] (.bool true) :=
  fn_of_pr hfol ok3 hT3 (show prF Try.prog 3 T3 fd3 [(12, .c [] (.bool true)), (15, .c [slT a] (.own true 2 (tsF a))), (17, .c [slT a, bA k] (.own true 1 (vsF X))), (19, .c [slT b] (.own true 2 (tsF b))), (21, .c [slT b, bA k] (.own true 1 (vsF Y))), (23, .c [slT a] (.own true 2 (tsF a))), (25, .c [slT b] (.own true 2 (tsF b))), (26, .q2), (28, .c [slT (a ++ b), bA k] (.own true 1 (vsF Z))), (0, .lp (sF a X Y Z 0 0) (.exit 0) (st 51 [(0, slT a), (7, .own true 1 (vsD X)), (8, .own true 1 (vsD Y)), (9, .own true 1 (vsD Z)), (10, ni s)])), (43, .q), (44, .c [slV Z, slV (X ++ Y)] (.bool true)), (49, .b true)] [slT a, slT b, bA k] (.bool true) = some _ by kernel_rfl) (AllP.c h1 (AllP.c (show freshA (AV.bool true) = true by kernel_rfl) (AllP.c h2 (AllP.c h3 (AllP.c h4 (AllP.c h5 (AllP.c h6 (AllP.c h7 (AllP.c h8 (AllP.c h9 (AllP.c h2 (AllP.c h3 (AllP.c h6 (AllP.c h7 (AllP.c h10 (AllP.c h11 (AllP.c h12 (AllP.c h13 (AllP.c h14 (AllP.c (LeR.refl (x := AV.sl false false (2 : Nat) (tsS a))) (AllP.c h15 (AllP.c h16 (AllP.c h17 (AllP.c (LeR.refl (x := AV.int IntKind.i64 (↑(0 : Nat) : Int))) (AllP.c (LeR.refl (x := AV.int IntKind.i64 (↑(0 : Nat) : Int))) (AllP.c (LeR.refl (x := AV.mem [])) (AllP.c h18 (AllP.c h19 (AllP.c h20 (AllP.c h21 (AllP.c h22 (AllP.c (show freshA (AV.bool true) = true by kernel_rfl) (AllP.c h23 (AllP.c (show AV.bool true = AV.bool true by kernel_rfl) AllP.n))))))))))))))))))))))))))))))))))
theorem JoinsIn_first_o (l : List TLV) (p : List UInt8) (X : List (List UInt8)) (i j m : Nat) (v : List UInt8) (b : UInt8)
    (h1 : decide ((↑j : Int) < (↑m : Int)) = true)
    (h2 : (↑i : Int) < (↑(vsD X).length : Int))
    (h3 : cellOf (1 : Nat) (vsD X) (i * (1 : Nat)) = some (vD v))
    (h4 : (bsA v)[j]? = some (bA b))
    (h5 : IntKind.i64.wrap ((↑j : Int) + (1 : Int)) = (↑(j + (1 : Nat)) : Int))
    (h6 : LeR (AV.own true (1 : Nat) (hv.hvL (vsD X))) (AV.own true (1 : Nat) (vsX X))) :
    WayR Try.prog T6 116 lp6x0 [(58, .b true), (62, .q), (63, .v (vD v)), (65, .v (bA b)), (68, .v (bA b)), (69, .i (j + 1 : Nat))] (sJo0 l p (vsD X) X.length i m j) .normal (sJo0 l p (vsX X) X.length i m (j + 1)) :=
  runs_of_pr hfol (show prR Try.prog T6 116 lp6x0 [(58, .b true), (62, .q), (63, .v (vD v)), (65, .v (bA b)), (68, .v (bA b)), (69, .i (j + 1 : Nat))] (sJo0 l p (vsD X) X.length i m j) .normal (sJo0 l p (vsX X) X.length i m (j + 1)) = some _ by kernel_rfl) (AllP.c h1 (AllP.c (show (0 : Int) ≤ (↑i : Int) from Int.natCast_nonneg _) (AllP.c h2 (AllP.c h3 (AllP.c (show (0 : Int) ≤ (↑j : Int) from Int.natCast_nonneg _) (AllP.c h4 (AllP.c (show (0 : Int) ≤ (↑j : Int) from Int.natCast_nonneg _) (AllP.c h4 (AllP.c h5 (AllP.c (LeR.refl (x := AV.sl false false (2 : Nat) (tsS l))) (AllP.c (LeR.refl (x := AV.own false (2 : Nat) (tsF l ++ [m77]))) (AllP.c (LeR.refl (x := AV.own true (1 : Nat) (bsA p))) (AllP.c (LeR.refl (x := AV.int IntKind.i64 (↑(0 : Nat) : Int))) (AllP.c (LeR.refl (x := AV.own true (1 : Nat) (bsA p))) (AllP.c (LeR.refl (x := AV.int IntKind.i64 (↑(0 : Nat) : Int))) (AllP.c h6 (AllP.c (LeR.refl (x := AV.bool true)) (AllP.c (LeR.refl (x := AV.int IntKind.i64 (↑i : Int))) (AllP.c (LeR.refl (x := AV.int IntKind.i64 (↑X.length : Int))) (AllP.c (LeR.refl (x := AV.int IntKind.i64 (↑i : Int))) (AllP.c (LeR.refl (x := AV.int IntKind.i64 (↑m : Int))) (AllP.c (LeR.refl (x := AV.int IntKind.i64 (↑(j + (1 : Nat)) : Int))) (AllP.c (LeR.refl (x := AV.mem [])) AllP.n)))))))))))))))))))))))
theorem JoinsIn_next_o (l : List TLV) (p : List UInt8) (X : List (List UInt8)) (i j m : Nat) (v : List UInt8)
    (h1 : decide ((↑j : Int) < (↑m : Int)) = true)
    (h2 : (↑i : Int) < (↑(vsX X).length : Int))
    (h3 : cellOf (1 : Nat) (vsX X) (i * (1 : Nat)) = some (vX v))
    (h4 : (List.map (fun x => anyB) v)[j]? = some anyB)
    (h5 : IntKind.i64.wrap ((↑j : Int) + (1 : Int)) = (↑(j + (1 : Nat)) : Int))
    (h6 : LeR (AV.own true (1 : Nat) (hv.hvL (vsX X))) (AV.own true (1 : Nat) (vsX X))) :
    WayR Try.prog T6 116 lp6x0 [(58, .b true), (62, .q), (63, .v (vX v)), (65, .v anyB), (68, .v anyB), (69, .i (j + 1 : Nat))] (sJo0 l p (vsX X) X.length i m j) .normal (sJo0 l p (vsX X) X.length i m (j + 1)) :=
  runs_of_pr hfol (show prR Try.prog T6 116 lp6x0 [(58, .b true), (62, .q), (63, .v (vX v)), (65, .v anyB), (68, .v anyB), (69, .i (j + 1 : Nat))] (sJo0 l p (vsX X) X.length i m j) .normal (sJo0 l p (vsX X) X.length i m (j + 1)) = some _ by kernel_rfl) (AllP.c h1 (AllP.c (show (0 : Int) ≤ (↑i : Int) from Int.natCast_nonneg _) (AllP.c h2 (AllP.c h3 (AllP.c (show (0 : Int) ≤ (↑j : Int) from Int.natCast_nonneg _) (AllP.c h4 (AllP.c (show (0 : Int) ≤ (↑j : Int) from Int.natCast_nonneg _) (AllP.c h4 (AllP.c h5 (AllP.c (LeR.refl (x := AV.sl false false (2 : Nat) (tsS l))) (AllP.c (LeR.refl (x := AV.own false (2 : Nat) (tsF l ++ [m77]))) (AllP.c (LeR.refl (x := AV.own true (1 : Nat) (bsA p))) (AllP.c (LeR.refl (x := AV.int IntKind.i64 (↑(0 : Nat) : Int))) (AllP.c (LeR.refl (x := AV.own true (1 : Nat) (bsA p))) (AllP.c (LeR.refl (x := AV.int IntKind.i64 (↑(0 : Nat) : Int))) (AllP.c h6 (AllP.c (LeR.refl (x := AV.bool true)) (AllP.c (LeR.refl (x := AV.int IntKind.i64 (↑i : Int))) (AllP.c (LeR.refl (x := AV.int IntKind.i64 (↑X.length : Int))) (AllP.c (LeR.refl (x := AV.int IntKind.i64 (↑i : Int))) (AllP.c (LeR.refl (x := AV.int IntKind.i64 (↑m : Int))) (AllP.c (LeR.refl (x := AV.int IntKind.i64 (↑(j + (1 : Nat)) : Int))) (AllP.c (LeR.refl (x := AV.mem [])) AllP.n)))))))))))))))))))))))
theorem JoinsIn_end_o (l : List TLV) (p : List UInt8) (L : List AV) (i j m n : Nat)
    (h1 : decide ((↑j : Int) < (↑m : Int)) = false) :
    WayR Try.prog T6 116 lp6x0 [(58, .b false)] (sJo0 l p L n i m j) (.exit 2) (sJo1 l p L n i) :=
  runs_of_pr hfol (show prR Try.prog T6 116 lp6x0 [(58, .b false)] (sJo0 l p L n i m j) (.exit 2) (sJo1 l p L n i) = some _ by kernel_rfl) (AllP.c h1 (AllP.c (LeR.refl (x := AV.sl false false (2 : Nat) (tsS l))) (AllP.c (LeR.refl (x := AV.own false (2 : Nat) (tsF l ++ [m77]))) (AllP.c (LeR.refl (x := AV.own true (1 : Nat) (bsA p))) (AllP.c (LeR.refl (x := AV.int IntKind.i64 (↑(0 : Nat) : Int))) (AllP.c (LeR.refl (x := AV.own true (1 : Nat) (bsA p))) (AllP.c (LeR.refl (x := AV.int IntKind.i64 (↑(0 : Nat) : Int))) (AllP.c (LeR.refl (x := AV.own true (1 : Nat) L)) (AllP.c (LeR.refl (x := AV.bool true)) (AllP.c (LeR.refl (x := AV.int IntKind.i64 (↑n : Int))) (AllP.c (LeR.refl (x := AV.int IntKind.i64 (↑i : Int))) (AllP.c (LeR.refl (x := AV.mem [])) AllP.n))))))))))))
theorem JoinsOut_d_o (l : List TLV) (p : List UInt8) (X : List (List UInt8)) (L : List AV) (i : Nat) (v : List UInt8)
    (h1 : decide ((↑i : Int) < (↑X.length : Int)) = true)
    (h2 : (↑i : Int) < (↑(vsD X).length : Int))
    (h3 : cellOf (1 : Nat) (vsD X) (i * (1 : Nat)) = some (vD v))
    (h4 : (↑(bsA v).length : Int) = (↑v.length : Int))
    (h5 : Runs Try.prog T6 (116 : Nat) (Cd.loop [] lp6x0) (sJo0 l p (vsD X) X.length i v.length (0 : Nat)) fun x => x = (Ex.exit (2 : Nat), sJo1 l p L X.length i))
    (h6 : IntKind.i64.wrap ((↑i : Int) + (1 : Int)) = (↑(i + (1 : Nat)) : Int)) :
    WayR Try.prog T6 116 lp6x1 [(50, .b true), (54, .q), (55, .v (vD v)), (56, .i v.length), (0, .lp (sJo0 l p (vsD X) X.length i v.length 0) (.exit 2) (sJo1 l p L X.length i)), (70, .i (i + 1 : Nat))] (sJo1 l p (vsD X) X.length i) .normal (sJo1 l p L X.length (i + 1)) :=
  runs_of_pr hfol (show prR Try.prog T6 116 lp6x1 [(50, .b true), (54, .q), (55, .v (vD v)), (56, .i v.length), (0, .lp (sJo0 l p (vsD X) X.length i v.length 0) (.exit 2) (sJo1 l p L X.length i)), (70, .i (i + 1 : Nat))] (sJo1 l p (vsD X) X.length i) .normal (sJo1 l p L X.length (i + 1)) = some _ by kernel_rfl) (AllP.c h1 (AllP.c (show (0 : Int) ≤ (↑i : Int) from Int.natCast_nonneg _) (AllP.c h2 (AllP.c h3 (AllP.c h4 (AllP.c (LeR.refl (x := AV.sl false false (2 : Nat) (tsS l))) (AllP.c (LeR.refl (x := AV.own false (2 : Nat) (tsF l ++ [m77]))) (AllP.c (LeR.refl (x := AV.own true (1 : Nat) (bsA p))) (AllP.c (LeR.refl (x := AV.int IntKind.i64 (↑(0 : Nat) : Int))) (AllP.c (LeR.refl (x := AV.own true (1 : Nat) (bsA p))) (AllP.c (LeR.refl (x := AV.int IntKind.i64 (↑(0 : Nat) : Int))) (AllP.c (LeR.refl (x := AV.own true (1 : Nat) (vsD X))) (AllP.c (LeR.refl (x := AV.bool true)) (AllP.c (LeR.refl (x := AV.int IntKind.i64 (↑i : Int))) (AllP.c (LeR.refl (x := AV.int IntKind.i64 (↑X.length : Int))) (AllP.c (LeR.refl (x := AV.int IntKind.i64 (↑i : Int))) (AllP.c (LeR.refl (x := AV.int IntKind.i64 (↑v.length : Int))) (AllP.c (LeR.refl (x := AV.int IntKind.i64 (↑(0 : Nat) : Int))) (AllP.c (LeR.refl (x := AV.mem [])) (AllP.c h5 (AllP.c h6 (AllP.c (LeR.refl (x := AV.sl false false (2 : Nat) (tsS l))) (AllP.c (LeR.refl (x := AV.own false (2 : Nat) (tsF l ++ [m77]))) (AllP.c (LeR.refl (x := AV.own true (1 : Nat) (bsA p))) (AllP.c (LeR.refl (x := AV.int IntKind.i64 (↑(0 : Nat) : Int))) (AllP.c (LeR.refl (x := AV.own true (1 : Nat) (bsA p))) (AllP.c (LeR.refl (x := AV.int IntKind.i64 (↑(0 : Nat) : Int))) (AllP.c (LeR.refl (x := AV.own true (1 : Nat) L)) (AllP.c (LeR.refl (x := AV.bool true)) (AllP.c (LeR.refl (x := AV.int IntKind.i64 (↑X.length : Int))) (AllP.c (LeR.refl (x := AV.int IntKind.i64 (↑(i + (1 : Nat)) : Int))) (AllP.c (LeR.refl (x := AV.mem [])) AllP.n))))))))))))))))))))))))))))))))
theorem JoinsOut_x_o (l : List TLV) (p : List UInt8) (X : List (List UInt8)) (i : Nat) (v : List UInt8)
    (h1 : decide ((↑i : Int) < (↑X.length : Int)) = true)
    (h2 : (↑i : Int) < (↑(vsX X).length : Int))
    (h3 : cellOf (1 : Nat) (vsX X) (i * (1 : Nat)) = some (vX v))
    (h4 : (↑(List.map (fun x => anyB) v).length : Int) = (↑v.length : Int))
    (h5 : Runs Try.prog T6 (116 : Nat) (Cd.loop [] lp6x0) (sJo0 l p (vsX X) X.length i v.length (0 : Nat)) fun x => x = (Ex.exit (2 : Nat), sJo1 l p (vsX X) X.length i))
    (h6 : IntKind.i64.wrap ((↑i : Int) + (1 : Int)) = (↑(i + (1 : Nat)) : Int)) :
    WayR Try.prog T6 116 lp6x1 [(50, .b true), (54, .q), (55, .v (vX v)), (56, .i v.length), (0, .lp (sJo0 l p (vsX X) X.length i v.length 0) (.exit 2) (sJo1 l p (vsX X) X.length i)), (70, .i (i + 1 : Nat))] (sJo1 l p (vsX X) X.length i) .normal (sJo1 l p (vsX X) X.length (i + 1)) :=
  runs_of_pr hfol (show prR Try.prog T6 116 lp6x1 [(50, .b true), (54, .q), (55, .v (vX v)), (56, .i v.length), (0, .lp (sJo0 l p (vsX X) X.length i v.length 0) (.exit 2) (sJo1 l p (vsX X) X.length i)), (70, .i (i + 1 : Nat))] (sJo1 l p (vsX X) X.length i) .normal (sJo1 l p (vsX X) X.length (i + 1)) = some _ by kernel_rfl) (AllP.c h1 (AllP.c (show (0 : Int) ≤ (↑i : Int) from Int.natCast_nonneg _) (AllP.c h2 (AllP.c h3 (AllP.c h4 (AllP.c (LeR.refl (x := AV.sl false false (2 : Nat) (tsS l))) (AllP.c (LeR.refl (x := AV.own false (2 : Nat) (tsF l ++ [m77]))) (AllP.c (LeR.refl (x := AV.own true (1 : Nat) (bsA p))) (AllP.c (LeR.refl (x := AV.int IntKind.i64 (↑(0 : Nat) : Int))) (AllP.c (LeR.refl (x := AV.own true (1 : Nat) (bsA p))) (AllP.c (LeR.refl (x := AV.int IntKind.i64 (↑(0 : Nat) : Int))) (AllP.c (LeR.refl (x := AV.own true (1 : Nat) (vsX X))) (AllP.c (LeR.refl (x := AV.bool true)) (AllP.c (LeR.refl (x := AV.int IntKind.i64 (↑i : Int))) (AllP.c (LeR.refl (x := AV.int IntKind.i64 (↑X.length : Int))) (AllP.c (LeR.refl (x := AV.int IntKind.i64 (↑i : Int))) (AllP.c (LeR.refl (x := AV.int IntKind.i64 (↑v.length : Int))) (AllP.c (LeR.refl (x := AV.int IntKind.i64 (↑(0 : Nat) : Int))) (AllP.c (LeR.refl (x := AV.mem [])) (AllP.c h5 (AllP.c h6 (AllP.c (LeR.refl (x := AV.sl false false (2 : Nat) (tsS l))) (AllP.c (LeR.refl (x := AV.own false (2 : Nat) (tsF l ++ [m77]))) (AllP.c (LeR.refl (x := AV.own true (1 : Nat) (bsA p))) (AllP.c (LeR.refl (x := AV.int IntKind.i64 (↑(0 : Nat) : Int))) (AllP.c (LeR.refl (x := AV.own true (1 : Nat) (bsA p))) (AllP.c (LeR.refl (x := AV.int IntKind.i64 (↑(0 : Nat) : Int))) (AllP.c (LeR.refl (x := AV.own true (1 : Nat) (vsX X))) (AllP.c (LeR.refl (x := AV.bool true)) (AllP.c (LeR.refl (x := AV.int IntKind.i64 (↑X.length : Int))) (AllP.c (LeR.refl (x := AV.int IntKind.i64 (↑(i + (1 : Nat)) : Int))) (AllP.c (LeR.refl (x := AV.mem [])) AllP.n))))))))))))))))))))))))))))))))
theorem JoinsOut_end_o (l : List TLV) (p : List UInt8) (L : List AV) (n i : Nat)
    (h1 : decide ((↑i : Int) < (↑n : Int)) = false) :
    WayR Try.prog T6 116 lp6x1 [(50, .b false)] (sJo1 l p L n i) (.exit 0) (sJo2 l p) :=
  runs_of_pr hfol (show prR Try.prog T6 116 lp6x1 [(50, .b false)] (sJo1 l p L n i) (.exit 0) (sJo2 l p) = some _ by kernel_rfl) (AllP.c h1 (AllP.c (LeR.refl (x := AV.sl false false (2 : Nat) (tsS l))) (AllP.c (LeR.refl (x := AV.own false (2 : Nat) (tsF l ++ [m77]))) (AllP.c (LeR.refl (x := AV.own true (1 : Nat) (bsA p))) (AllP.c (LeR.refl (x := AV.int IntKind.i64 (↑(0 : Nat) : Int))) (AllP.c (LeR.refl (x := AV.own true (1 : Nat) (bsA p))) (AllP.c (LeR.refl (x := AV.int IntKind.i64 (↑(0 : Nat) : Int))) (AllP.c (LeR.refl (x := AV.bool true)) (AllP.c (LeR.refl (x := AV.mem [])) AllP.n)))))))))
theorem Joins_o0 (l : List TLV) (p : List UInt8) (k : UInt8)
    (h1 : FnW Try.prog (7 : FuncId) [] [] (AV.bool true))
    (h2 : FnW Try.prog (9 : FuncId) [AV.sl false false (2 : Nat) (stale.sL (tsS l))] [slT l] (AV.own true (2 : Nat) (tsF l)))
    (h3 : freshA (AV.own true (2 : Nat) (tsF l)) = true)
    (h4 : ((deepen.dL (tsF l)).length + (1 : Nat)) * (32 : Nat) ≤ (140737488355328 : Nat))
    (h5 : AV.own true (2 : Nat) (deepen.dL (tsF l) ++ [AV.agg [AV.int IntKind.u8 (77 : Int), AV.nils]]) = AV.own true (2 : Nat) (tsD l ++ [m77]))
    (h6 : (↑(tsS l).length : Int) ≤ (↑(undeep.uL (tsD l ++ [m77])).length : Int))
    (h7 : AV.own false (2 : Nat) (undeep.uL (tsD l ++ [m77])) = AV.own false (2 : Nat) (tsF l ++ [m77]))
    (h8 : AV.sl true (false || !(undeep.uL (tsD l ++ [m77])).isEmpty) (2 : Nat) (List.drop (0 : Nat) (List.take (tsS l).length (undeep.uL (tsD l ++ [m77])))) = AV.sl true true (2 : Nat) (tsF l))
    (h9 : FnW Try.prog (15 : FuncId) [AV.sl false true (2 : Nat) (stale.sL (tsF l))] [slT l] (AV.tup [AV.own true (1 : Nat) (bsA p), ni (0 : Nat)]))
    (h10 : freshA (AV.tup [AV.own true (1 : Nat) (bsA p), ni (0 : Nat)]) = true)
    (h11 : AV.tup (deepT [AV.own true (1 : Nat) (bsA p), ni (0 : Nat)]) = AV.tup [AV.own true (1 : Nat) (bsA p), ni (0 : Nat)])
    (h12 : FnW Try.prog (19 : FuncId) [AV.sl false false (2 : Nat) (stale.sL (tsS l))] [slT l] (AV.tup [AV.own true (1 : Nat) (bsA p), ni (0 : Nat)]))
    (h13 : (↑(tsS l).length : Int) ≤ (↑(tsF l ++ [m77]).length : Int))
    (h14 : AV.sl true (false || !(tsF l ++ [m77]).isEmpty) (2 : Nat) (List.drop (0 : Nat) (List.take (tsS l).length (tsF l ++ [m77]))) = AV.sl true true (2 : Nat) (tsF l))
    (h15 : FnW Try.prog (8 : FuncId) [AV.sl false true (2 : Nat) (stale.sL (tsF l)), AV.int IntKind.u8 (↑k.toNat : Int)] [slT l, bA k] (AV.own true (1 : Nat) (vsF [])))
    (h16 : FnW Try.prog (20 : FuncId) [AV.sl false false (2 : Nat) (stale.sL (tsS l)), AV.int IntKind.u8 (↑k.toNat : Int)] [slT l, bA k] (AV.own true (1 : Nat) (vsS [])))
    (h17 : FnW Try.prog (10 : FuncId) [AV.sl false false (1 : Nat) [], AV.sl false false (1 : Nat) []] [slV [], slV []] (AV.bool true))
    (h18 : Runs Try.prog T6 (116 : Nat) (Cd.loop [] lp6x1) (sJo1 l p (vsD []) (0 : Nat) (0 : Nat)) fun x => x = (Ex.exit (0 : Nat), sJo2 l p))
    (h19 : FnW Try.prog (16 : FuncId) [AV.sl false false (1 : Nat) (stale.sL (undeep.uL (bsA p))), AV.sl false false (1 : Nat) (stale.sL (undeep.uL (bsA p)))] [slB p, slB p] (AV.bool true))
    (h20 : FnW Try.prog (14 : FuncId) [AV.sl false true (2 : Nat) (stale.sL (tsF l)), AV.sl false false (2 : Nat) (stale.sL (tsS l))] [slT l, slT l] (AV.bool true))
    (h21 : (tsF l ++ [m77])[(tsS l).length]? = some m77)
    (h22 : FnW Try.prog (12 : FuncId) [AV.sl false false (1 : Nat) (stale.sL (undeep.uL (bsA p)))] [slB p] (AV.tup [AV.own true (2 : Nat) (tsF l), ni (0 : Nat)]))
    (h23 : freshA (AV.tup [AV.own true (2 : Nat) (tsF l), ni (0 : Nat)]) = true)
    (h24 : AV.tup (deepT [AV.own true (2 : Nat) (tsF l), ni (0 : Nat)]) = AV.tup [AV.own true (2 : Nat) (tsD l), ni (0 : Nat)])
    (h25 : FnW Try.prog (14 : FuncId) [AV.sl false false (2 : Nat) (stale.sL (undeep.uL (tsD l))), AV.sl false false (2 : Nat) (stale.sL (tsS l))] [slT l, slT l] (AV.bool true)) :
    WayF Try.prog 6 T6 fd6 [(16, .c [] (.bool true)), (19, .c [slT l] (.own true 2 (tsF l))), (22, .q2), (22, .n (.own true 2 (tsD l ++ [m77]))), (27, .q), (5, .n (.own false 2 (tsF l ++ [m77]))), (27, .n (.sl true true 2 (tsF l))), (28, .c [slT l] (.tup [.own true 1 (bsA p), ni 0])), (28, .n (.tup [.own true 1 (bsA p), ni 0])), (33, .c [slT l] (.tup [.own true 1 (bsA p), ni 0])), (33, .n (.tup [.own true 1 (bsA p), ni 0])), (39, .q), (39, .n (.sl true true 2 (tsF l))), (41, .c [slT l, bA k] (.own true 1 (vsF ([] : List (List UInt8))))), (41, .n (.own true 1 (vsD ([] : List (List UInt8))))), (45, .c [slT l, bA k] (.own true 1 (vsS ([] : List (List UInt8))))), (46, .c [slV ([] : List (List UInt8)), slV ([] : List (List UInt8))] (.bool true)), (0, .lp (sJo1 l p (vsD ([] : List (List UInt8))) ([] : List (List UInt8)).length 0) (.exit 0) (sJo2 l p)), (73, .c [slB p, slB p] (.bool true)), (88, .q), (88, .n (.sl true true 2 (tsF l))), (90, .c [slT l, slT l] (.bool true)), (97, .v m77), (106, .c [slB p] (.tup [.own true 2 (tsF l), ni 0])), (106, .n (.tup [.own true 2 (tsD l), ni 0])), (114, .c [slT l, slT l] (.bool true))] [slT l, bA k] (.bool true) :=
  fn_of_pr hfol ok6 hT6 (show prF Try.prog 6 T6 fd6 [(16, .c [] (.bool true)), (19, .c [slT l] (.own true 2 (tsF l))), (22, .q2), (22, .n (.own true 2 (tsD l ++ [m77]))), (27, .q), (5, .n (.own false 2 (tsF l ++ [m77]))), (27, .n (.sl true true 2 (tsF l))), (28, .c [slT l] (.tup [.own true 1 (bsA p), ni 0])), (28, .n (.tup [.own true 1 (bsA p), ni 0])), (33, .c [slT l] (.tup [.own true 1 (bsA p), ni 0])), (33, .n (.tup [.own true 1 (bsA p), ni 0])), (39, .q), (39, .n (.sl true true 2 (tsF l))), (41, .c [slT l, bA k] (.own true 1 (vsF ([] : List (List UInt8))))), (41, .n (.own true 1 (vsD ([] : List (List UInt8))))), (45, .c [slT l, bA k] (.own true 1 (vsS ([] : List (List UInt8))))), (46, .c [slV ([] : List (List UInt8)), slV ([] : List (List UInt8))] (.bool true)), (0, .lp (sJo1 l p (vsD ([] : List (List UInt8))) ([] : List (List UInt8)).length 0) (.exit 0) (sJo2 l p)), (73, .c [slB p, slB p] (.bool true)), (88, .q), (88, .n (.sl true true 2 (tsF l))), (90, .c [slT l, slT l] (.bool true)), (97, .v m77), (106, .c [slB p] (.tup [.own true 2 (tsF l), ni 0])), (106, .n (.tup [.own true 2 (tsD l), ni 0])), (114, .c [slT l, slT l] (.bool true))] [slT l, bA k] (.bool true) = some _ by kernel_rfl) (AllP.c h1 (AllP.c (show freshA (AV.bool true) = true by kernel_rfl) (AllP.c h2 (AllP.c h3 (AllP.c (show [AV.agg [AV.int IntKind.u8 (77 : Int), AV.nils]].all flat = false by kernel_rfl) (AllP.c (show [AV.agg [AV.int IntKind.u8 (77 : Int), AV.nils]].all (okElem (2 : Nat)) = true by kernel_rfl) (AllP.c h4 (AllP.c h5 (AllP.c (show (0 : Int) ≤ (0 : Int) by decide) (AllP.c (show (0 : Int) ≤ (↑(tsS l).length : Int) from Int.natCast_nonneg _) (AllP.c h6 (AllP.c h7 (AllP.c h8 (AllP.c h9 (AllP.c h10 (AllP.c h11 (AllP.c h12 (AllP.c h10 (AllP.c h11 (AllP.c (show (0 : Int) ≤ (0 : Int) by decide) (AllP.c (show (0 : Int) ≤ (↑(tsS l).length : Int) from Int.natCast_nonneg _) (AllP.c h13 (AllP.c h14 (AllP.c h15 (AllP.c (show freshA (AV.own true (1 : Nat) (vsF [])) = true by kernel_rfl) (AllP.c (show AV.own true (1 : Nat) [] = AV.own true (1 : Nat) (vsD []) by kernel_rfl) (AllP.c h16 (AllP.c (show freshA (AV.own true (1 : Nat) (vsS [])) = true by kernel_rfl) (AllP.c h17 (AllP.c (show freshA (AV.bool true) = true by kernel_rfl) (AllP.c (LeR.refl (x := AV.sl false false (2 : Nat) (tsS l))) (AllP.c (LeR.refl (x := AV.own false (2 : Nat) (tsF l ++ [m77]))) (AllP.c (LeR.refl (x := AV.own true (1 : Nat) (bsA p))) (AllP.c (LeR.refl (x := AV.int IntKind.i64 (↑(0 : Nat) : Int))) (AllP.c (LeR.refl (x := AV.own true (1 : Nat) (bsA p))) (AllP.c (LeR.refl (x := AV.int IntKind.i64 (↑(0 : Nat) : Int))) (AllP.c (LeR.refl (x := AV.own true (1 : Nat) (vsD []))) (AllP.c (LeR.refl (x := AV.bool true)) (AllP.c (LeR.refl (x := AV.int IntKind.i64 (↑(0 : Nat) : Int))) (AllP.c (LeR.refl (x := AV.int IntKind.i64 (↑(0 : Nat) : Int))) (AllP.c (LeR.refl (x := AV.mem [])) (AllP.c h18 (AllP.c h19 (AllP.c (show freshA (AV.bool true) = true by kernel_rfl) (AllP.c (show (0 : Int) ≤ (0 : Int) by decide) (AllP.c (show (0 : Int) ≤ (↑(tsS l).length : Int) from Int.natCast_nonneg _) (AllP.c h13 (AllP.c h14 (AllP.c h20 (AllP.c (show freshA (AV.bool true) = true by kernel_rfl) (AllP.c (show (0 : Int) ≤ (↑(tsS l).length : Int) from Int.natCast_nonneg _) (AllP.c h21 (AllP.c h22 (AllP.c h23 (AllP.c h24 (AllP.c h25 (AllP.c (show freshA (AV.bool true) = true by kernel_rfl) (AllP.c (show AV.bool true = AV.bool true by kernel_rfl) AllP.n))))))))))))))))))))))))))))))))))))))))))))))))))))))))))
theorem Joins_o1 (l : List TLV) (p : List UInt8) (X : List (List UInt8)) (k : UInt8)
    (h1 : FnW Try.prog (7 : FuncId) [] [] (AV.bool true))
    (h2 : FnW Try.prog (9 : FuncId) [AV.sl false false (2 : Nat) (stale.sL (tsS l))] [slT l] (AV.own true (2 : Nat) (tsF l)))
    (h3 : freshA (AV.own true (2 : Nat) (tsF l)) = true)
    (h4 : ((deepen.dL (tsF l)).length + (1 : Nat)) * (32 : Nat) ≤ (140737488355328 : Nat))
    (h5 : AV.own true (2 : Nat) (deepen.dL (tsF l) ++ [AV.agg [AV.int IntKind.u8 (77 : Int), AV.nils]]) = AV.own true (2 : Nat) (tsD l ++ [m77]))
    (h6 : (↑(tsS l).length : Int) ≤ (↑(undeep.uL (tsD l ++ [m77])).length : Int))
    (h7 : AV.own false (2 : Nat) (undeep.uL (tsD l ++ [m77])) = AV.own false (2 : Nat) (tsF l ++ [m77]))
    (h8 : AV.sl true (false || !(undeep.uL (tsD l ++ [m77])).isEmpty) (2 : Nat) (List.drop (0 : Nat) (List.take (tsS l).length (undeep.uL (tsD l ++ [m77])))) = AV.sl true true (2 : Nat) (tsF l))
    (h9 : FnW Try.prog (15 : FuncId) [AV.sl false true (2 : Nat) (stale.sL (tsF l))] [slT l] (AV.tup [AV.own true (1 : Nat) (bsA p), ni (0 : Nat)]))
    (h10 : freshA (AV.tup [AV.own true (1 : Nat) (bsA p), ni (0 : Nat)]) = true)
    (h11 : AV.tup (deepT [AV.own true (1 : Nat) (bsA p), ni (0 : Nat)]) = AV.tup [AV.own true (1 : Nat) (bsA p), ni (0 : Nat)])
    (h12 : FnW Try.prog (19 : FuncId) [AV.sl false false (2 : Nat) (stale.sL (tsS l))] [slT l] (AV.tup [AV.own true (1 : Nat) (bsA p), ni (0 : Nat)]))
    (h13 : (↑(tsS l).length : Int) ≤ (↑(tsF l ++ [m77]).length : Int))
    (h14 : AV.sl true (false || !(tsF l ++ [m77]).isEmpty) (2 : Nat) (List.drop (0 : Nat) (List.take (tsS l).length (tsF l ++ [m77]))) = AV.sl true true (2 : Nat) (tsF l))
    (h15 : FnW Try.prog (8 : FuncId) [AV.sl false true (2 : Nat) (stale.sL (tsF l)), AV.int IntKind.u8 (↑k.toNat : Int)] [slT l, bA k] (AV.own true (1 : Nat) (vsF X)))
    (h16 : freshA (AV.own true (1 : Nat) (vsF X)) = true)
    (h17 : AV.own true (1 : Nat) (deepen.dL (vsF X)) = AV.own true (1 : Nat) (vsD X))
    (h18 : FnW Try.prog (20 : FuncId) [AV.sl false false (2 : Nat) (stale.sL (tsS l)), AV.int IntKind.u8 (↑k.toNat : Int)] [slT l, bA k] (AV.own true (1 : Nat) (vsS X)))
    (h19 : freshA (AV.own true (1 : Nat) (vsS X)) = false)
    (h20 : FnW Try.prog (10 : FuncId) [AV.sl false false (1 : Nat) (stale.sL (undeep.uL (vsD X))), AV.sl false false (1 : Nat) (stale.sL (undeep.uL (vsS X)))] [slV X, slV X] (AV.bool true))
    (h21 : LeR (AV.int IntKind.i64 (↑(vsD X).length : Int)) (AV.int IntKind.i64 (↑X.length : Int)))
    (h22 : Runs Try.prog T6 (116 : Nat) (Cd.loop [] lp6x1) (sJo1 l p (vsD X) X.length (0 : Nat)) fun x => x = (Ex.exit (0 : Nat), sJo2 l p))
    (h23 : FnW Try.prog (16 : FuncId) [AV.sl false false (1 : Nat) (stale.sL (undeep.uL (bsA p))), AV.sl false false (1 : Nat) (stale.sL (undeep.uL (bsA p)))] [slB p, slB p] (AV.bool true))
    (h24 : FnW Try.prog (14 : FuncId) [AV.sl false true (2 : Nat) (stale.sL (tsF l)), AV.sl false false (2 : Nat) (stale.sL (tsS l))] [slT l, slT l] (AV.bool true))
    (h25 : (tsF l ++ [m77])[(tsS l).length]? = some m77)
    (h26 : FnW Try.prog (12 : FuncId) [AV.sl false false (1 : Nat) (stale.sL (undeep.uL (bsA p)))] [slB p] (AV.tup [AV.own true (2 : Nat) (tsF l), ni (0 : Nat)]))
    (h27 : freshA (AV.tup [AV.own true (2 : Nat) (tsF l), ni (0 : Nat)]) = true)
    (h28 : AV.tup (deepT [AV.own true (2 : Nat) (tsF l), ni (0 : Nat)]) = AV.tup [AV.own true (2 : Nat) (tsD l), ni (0 : Nat)])
    (h29 : FnW Try.prog (14 : FuncId) [AV.sl false false (2 : Nat) (stale.sL (undeep.uL (tsD l))), AV.sl false false (2 : Nat) (stale.sL (tsS l))] [slT l, slT l] (AV.bool true)) :
    WayF Try.prog 6 T6 fd6 [(16, .c [] (.bool true)), (19, .c [slT l] (.own true 2 (tsF l))), (22, .q2), (22, .n (.own true 2 (tsD l ++ [m77]))), (27, .q), (5, .n (.own false 2 (tsF l ++ [m77]))), (27, .n (.sl true true 2 (tsF l))), (28, .c [slT l] (.tup [.own true 1 (bsA p), ni 0])), (28, .n (.tup [.own true 1 (bsA p), ni 0])), (33, .c [slT l] (.tup [.own true 1 (bsA p), ni 0])), (33, .n (.tup [.own true 1 (bsA p), ni 0])), (39, .q), (39, .n (.sl true true 2 (tsF l))), (41, .c [slT l, bA k] (.own true 1 (vsF X))), (41, .n (.own true 1 (vsD X))), (45, .cs [slT l, bA k] (.own true 1 (vsS X))), (46, .c [slV X, slV X] (.bool true)), (0, .lp (sJo1 l p (vsD X) X.length 0) (.exit 0) (sJo2 l p)), (73, .c [slB p, slB p] (.bool true)), (88, .q), (88, .n (.sl true true 2 (tsF l))), (90, .c [slT l, slT l] (.bool true)), (97, .v m77), (106, .c [slB p] (.tup [.own true 2 (tsF l), ni 0])), (106, .n (.tup [.own true 2 (tsD l), ni 0])), (114, .c [slT l, slT l] (.bool true))] [slT l, bA k] (.bool true) :=
  fn_of_pr hfol ok6 hT6 (show prF Try.prog 6 T6 fd6 [(16, .c [] (.bool true)), (19, .c [slT l] (.own true 2 (tsF l))), (22, .q2), (22, .n (.own true 2 (tsD l ++ [m77]))), (27, .q), (5, .n (.own false 2 (tsF l ++ [m77]))), (27, .n (.sl true true 2 (tsF l))), (28, .c [slT l] (.tup [.own true 1 (bsA p), ni 0])), (28, .n (.tup [.own true 1 (bsA p), ni 0])), (33, .c [slT l] (.tup [.own true 1 (bsA p), ni 0])), (33, .n (.tup [.own true 1 (bsA p), ni 0])), (39, .q), (39, .n (.sl true true 2 (tsF l))), (41, .c [slT l, bA k] (.own true 1 (vsF X))), (41, .n (.own true 1 (vsD X))), (45, .cs [slT l, bA k] (.own true 1 (vsS X))), (46, .c [slV X, slV X] (.bool true)), (0, .lp (sJo1 l p (vsD X) X.length 0) (.exit 0) (sJo2 l p)), (73, .c [slB p, slB p] (.bool true)), (88, .q), (88, .n (.sl true true 2 (tsF l))), (90, .c [slT l, slT l] (.bool true)), (97, .v m77), (106, .c [slB p] (.tup [.own true 2 (tsF l), ni 0])), (106, .n (.tup [.own true 2 (tsD l), ni 0])), (114, .c [slT l, slT l] (.bool true))] [slT l, bA k] (.bool true) = some _ by kernel_rfl) (AllP.c h1 (AllP.c (show freshA (AV.bool true) = true by kernel_rfl) (AllP.c h2 (AllP.c h3 (AllP.c (show [AV.agg [AV.int IntKind.u8 (77 : Int), AV.nils]].all flat = false by kernel_rfl) (AllP.c (show [AV.agg [AV.int IntKind.u8 (77 : Int), AV.nils]].all (okElem (2 : Nat)) = true by kernel_rfl) (AllP.c h4 (AllP.c h5 (AllP.c (show (0 : Int) ≤ (0 : Int) by decide) (AllP.c (show (0 : Int) ≤ (↑(tsS l).length : Int) from Int.natCast_nonneg _) (AllP.c h6 (AllP.c h7 (AllP.c h8 (AllP.c h9 (AllP.c h10 (AllP.c h11 (AllP.c h12 (AllP.c h10 (AllP.c h11 (AllP.c (show (0 : Int) ≤ (0 : Int) by decide) (AllP.c (show (0 : Int) ≤ (↑(tsS l).length : Int) from Int.natCast_nonneg _) (AllP.c h13 (AllP.c h14 (AllP.c h15 (AllP.c h16 (AllP.c h17 (AllP.c h18 (AllP.c h19 (AllP.c h20 (AllP.c (show freshA (AV.bool true) = true by kernel_rfl) (AllP.c (LeR.refl (x := AV.sl false false (2 : Nat) (tsS l))) (AllP.c (LeR.refl (x := AV.own false (2 : Nat) (tsF l ++ [m77]))) (AllP.c (LeR.refl (x := AV.own true (1 : Nat) (bsA p))) (AllP.c (LeR.refl (x := AV.int IntKind.i64 (↑(0 : Nat) : Int))) (AllP.c (LeR.refl (x := AV.own true (1 : Nat) (bsA p))) (AllP.c (LeR.refl (x := AV.int IntKind.i64 (↑(0 : Nat) : Int))) (AllP.c (LeR.refl (x := AV.own true (1 : Nat) (vsD X))) (AllP.c (LeR.refl (x := AV.bool true)) (AllP.c h21 (AllP.c (LeR.refl (x := AV.int IntKind.i64 (↑(0 : Nat) : Int))) (AllP.c (LeR.refl (x := AV.mem [])) (AllP.c h22 (AllP.c h23 (AllP.c (show freshA (AV.bool true) = true by kernel_rfl) (AllP.c (show (0 : Int) ≤ (0 : Int) by decide) (AllP.c (show (0 : Int) ≤ (↑(tsS l).length : Int) from Int.natCast_nonneg _) (AllP.c h13 (AllP.c h14 (AllP.c h24 (AllP.c (show freshA (AV.bool true) = true by kernel_rfl) (AllP.c (show (0 : Int) ≤ (↑(tsS l).length : Int) from Int.natCast_nonneg _) (AllP.c h25 (AllP.c h26 (AllP.c h27 (AllP.c h28 (AllP.c h29 (AllP.c (show freshA (AV.bool true) = true by kernel_rfl) (AllP.c (show AV.bool true = AV.bool true by kernel_rfl) AllP.n))))))))))))))))))))))))))))))))))))))))))))))))))))))))))
theorem JoinsIn_first_l (l : List TLV) (p : List UInt8) (X : List (List UInt8)) (i j m : Nat) (v : List UInt8) (b : UInt8)
    (h1 : decide ((↑j : Int) < (↑m : Int)) = true)
    (h2 : (↑i : Int) < (↑(vsD X).length : Int))
    (h3 : cellOf (1 : Nat) (vsD X) (i * (1 : Nat)) = some (vD v))
    (h4 : (bsA v)[j]? = some (bA b))
    (h5 : IntKind.i64.wrap ((↑j : Int) + (1 : Int)) = (↑(j + (1 : Nat)) : Int))
    (h6 : LeR (AV.own true (1 : Nat) (hv.hvL (vsD X))) (AV.own true (1 : Nat) (vsX X))) :
    WayR Try.prog T6 116 lp6x0 [(58, .b true), (62, .q), (63, .v (vD v)), (65, .v (bA b)), (68, .v (bA b)), (69, .i (j + 1 : Nat))] (sJl0 l p (vsD X) X.length i m j) .normal (sJl0 l p (vsX X) X.length i m (j + 1)) :=
  runs_of_pr hfol (show prR Try.prog T6 116 lp6x0 [(58, .b true), (62, .q), (63, .v (vD v)), (65, .v (bA b)), (68, .v (bA b)), (69, .i (j + 1 : Nat))] (sJl0 l p (vsD X) X.length i m j) .normal (sJl0 l p (vsX X) X.length i m (j + 1)) = some _ by kernel_rfl) (AllP.c h1 (AllP.c (show (0 : Int) ≤ (↑i : Int) from Int.natCast_nonneg _) (AllP.c h2 (AllP.c h3 (AllP.c (show (0 : Int) ≤ (↑j : Int) from Int.natCast_nonneg _) (AllP.c h4 (AllP.c (show (0 : Int) ≤ (↑j : Int) from Int.natCast_nonneg _) (AllP.c h4 (AllP.c h5 (AllP.c (LeR.refl (x := AV.sl false false (2 : Nat) (tsS l))) (AllP.c (LeR.refl (x := AV.own false (2 : Nat) (tsF l ++ [m77]))) (AllP.c (LeR.refl (x := AV.nils)) (AllP.c (LeR.refl (x := AV.int IntKind.i64 (↑(2 : Nat) : Int))) (AllP.c (LeR.refl (x := AV.nils)) (AllP.c (LeR.refl (x := AV.int IntKind.i64 (↑(2 : Nat) : Int))) (AllP.c h6 (AllP.c (LeR.refl (x := AV.bool true)) (AllP.c (LeR.refl (x := AV.int IntKind.i64 (↑i : Int))) (AllP.c (LeR.refl (x := AV.int IntKind.i64 (↑X.length : Int))) (AllP.c (LeR.refl (x := AV.int IntKind.i64 (↑i : Int))) (AllP.c (LeR.refl (x := AV.int IntKind.i64 (↑m : Int))) (AllP.c (LeR.refl (x := AV.int IntKind.i64 (↑(j + (1 : Nat)) : Int))) (AllP.c (LeR.refl (x := AV.mem [])) AllP.n)))))))))))))))))))))))
theorem JoinsIn_next_l (l : List TLV) (p : List UInt8) (X : List (List UInt8)) (i j m : Nat) (v : List UInt8)
    (h1 : decide ((↑j : Int) < (↑m : Int)) = true)
    (h2 : (↑i : Int) < (↑(vsX X).length : Int))
    (h3 : cellOf (1 : Nat) (vsX X) (i * (1 : Nat)) = some (vX v))
    (h4 : (List.map (fun x => anyB) v)[j]? = some anyB)
    (h5 : IntKind.i64.wrap ((↑j : Int) + (1 : Int)) = (↑(j + (1 : Nat)) : Int))
    (h6 : LeR (AV.own true (1 : Nat) (hv.hvL (vsX X))) (AV.own true (1 : Nat) (vsX X))) :
    WayR Try.prog T6 116 lp6x0 [(58, .b true), (62, .q), (63, .v (vX v)), (65, .v anyB), (68, .v anyB), (69, .i (j + 1 : Nat))] (sJl0 l p (vsX X) X.length i m j) .normal (sJl0 l p (vsX X) X.length i m (j + 1)) :=
  runs_of_pr hfol (show prR Try.prog T6 116 lp6x0 [(58, .b true), (62, .q), (63, .v (vX v)), (65, .v anyB), (68, .v anyB), (69, .i (j + 1 : Nat))] (sJl0 l p (vsX X) X.length i m j) .normal (sJl0 l p (vsX X) X.length i m (j + 1)) = some _ by kernel_rfl) (AllP.c h1 (AllP.c (show (0 : Int) ≤ (↑i : Int) from Int.natCast_nonneg _) (AllP.c h2 (AllP.c h3 (AllP.c (show (0 : Int) ≤ (↑j : Int) from Int.natCast_nonneg _) (AllP.c h4 (AllP.c (show (0 : Int) ≤ (↑j : Int) from Int.natCast_nonneg _) (AllP.c h4 (AllP.c h5 (AllP.c (LeR.refl (x := AV.sl false false (2 : Nat) (tsS l))) (AllP.c (LeR.refl (x := AV.own false (2 : Nat) (tsF l ++ [m77]))) (AllP.c (LeR.refl (x := AV.nils)) (AllP.c (LeR.refl (x := AV.int IntKind.i64 (↑(2 : Nat) : Int))) (AllP.c (LeR.refl (x := AV.nils)) (AllP.c (LeR.refl (x := AV.int IntKind.i64 (↑(2 : Nat) : Int))) (AllP.c h6 (AllP.c (LeR.refl (x := AV.bool true)) (AllP.c (LeR.refl (x := AV.int IntKind.i64 (↑i : Int))) (AllP.c (LeR.refl (x := AV.int IntKind.i64 (↑X.length : Int))) (AllP.c (LeR.refl (x := AV.int IntKind.i64 (↑i : Int))) (AllP.c (LeR.refl (x := AV.int IntKind.i64 (↑m : Int))) (AllP.c (LeR.refl (x := AV.int IntKind.i64 (↑(j + (1 : Nat)) : Int))) (AllP.c (LeR.refl (x := AV.mem [])) AllP.n)))))))))))))))))))))))
theorem JoinsIn_end_l (l : List TLV) (p : List UInt8) (L : List AV) (i j m n : Nat)
    (h1 : decide ((↑j : Int) < (↑m : Int)) = false) :
    WayR Try.prog T6 116 lp6x0 [(58, .b false)] (sJl0 l p L n i m j) (.exit 2) (sJl1 l p L n i) :=
  runs_of_pr hfol (show prR Try.prog T6 116 lp6x0 [(58, .b false)] (sJl0 l p L n i m j) (.exit 2) (sJl1 l p L n i) = some _ by kernel_rfl) (AllP.c h1 (AllP.c (LeR.refl (x := AV.sl false false (2 : Nat) (tsS l))) (AllP.c (LeR.refl (x := AV.own false (2 : Nat) (tsF l ++ [m77]))) (AllP.c (LeR.refl (x := AV.nils)) (AllP.c (LeR.refl (x := AV.int IntKind.i64 (↑(2 : Nat) : Int))) (AllP.c (LeR.refl (x := AV.nils)) (AllP.c (LeR.refl (x := AV.int IntKind.i64 (↑(2 : Nat) : Int))) (AllP.c (LeR.refl (x := AV.own true (1 : Nat) L)) (AllP.c (LeR.refl (x := AV.bool true)) (AllP.c (LeR.refl (x := AV.int IntKind.i64 (↑n : Int))) (AllP.c (LeR.refl (x := AV.int IntKind.i64 (↑i : Int))) (AllP.c (LeR.refl (x := AV.mem [])) AllP.n))))))))))))
theorem JoinsOut_d_l (l : List TLV) (p : List UInt8) (X : List (List UInt8)) (L : List AV) (i : Nat) (v : List UInt8)
    (h1 : decide ((↑i : Int) < (↑X.length : Int)) = true)
    (h2 : (↑i : Int) < (↑(vsD X).length : Int))
    (h3 : cellOf (1 : Nat) (vsD X) (i * (1 : Nat)) = some (vD v))
    (h4 : (↑(bsA v).length : Int) = (↑v.length : Int))
    (h5 : Runs Try.prog T6 (116 : Nat) (Cd.loop [] lp6x0) (sJl0 l p (vsD X) X.length i v.length (0 : Nat)) fun x => x = (Ex.exit (2 : Nat), sJl1 l p L X.length i))
    (h6 : IntKind.i64.wrap ((↑i : Int) + (1 : Int)) = (↑(i + (1 : Nat)) : Int)) :
    WayR Try.prog T6 116 lp6x1 [(50, .b true), (54, .q), (55, .v (vD v)), (56, .i v.length), (0, .lp (sJl0 l p (vsD X) X.length i v.length 0) (.exit 2) (sJl1 l p L X.length i)), (70, .i (i + 1 : Nat))] (sJl1 l p (vsD X) X.length i) .normal (sJl1 l p L X.length (i + 1)) :=
  runs_of_pr hfol (show prR Try.prog T6 116 lp6x1 [(50, .b true), (54, .q), (55, .v (vD v)), (56, .i v.length), (0, .lp (sJl0 l p (vsD X) X.length i v.length 0) (.exit 2) (sJl1 l p L X.length i)), (70, .i (i + 1 : Nat))] (sJl1 l p (vsD X) X.length i) .normal (sJl1 l p L X.length (i + 1)) = some _ by kernel_rfl) (AllP.c h1 (AllP.c (show (0 : Int) ≤ (↑i : Int) from Int.natCast_nonneg _) (AllP.c h2 (AllP.c h3 (AllP.c h4 (AllP.c (LeR.refl (x := AV.sl false false (2 : Nat) (tsS l))) (AllP.c (LeR.refl (x := AV.own false (2 : Nat) (tsF l ++ [m77]))) (AllP.c (LeR.refl (x := AV.nils)) (AllP.c (LeR.refl (x := AV.int IntKind.i64 (↑(2 : Nat) : Int))) (AllP.c (LeR.refl (x := AV.nils)) (AllP.c (LeR.refl (x := AV.int IntKind.i64 (↑(2 : Nat) : Int))) (AllP.c (LeR.refl (x := AV.own true (1 : Nat) (vsD X))) (AllP.c (LeR.refl (x := AV.bool true)) (AllP.c (LeR.refl (x := AV.int IntKind.i64 (↑i : Int))) (AllP.c (LeR.refl (x := AV.int IntKind.i64 (↑X.length : Int))) (AllP.c (LeR.refl (x := AV.int IntKind.i64 (↑i : Int))) (AllP.c (LeR.refl (x := AV.int IntKind.i64 (↑v.length : Int))) (AllP.c (LeR.refl (x := AV.int IntKind.i64 (↑(0 : Nat) : Int))) (AllP.c (LeR.refl (x := AV.mem [])) (AllP.c h5 (AllP.c h6 (AllP.c (LeR.refl (x := AV.sl false false (2 : Nat) (tsS l))) (AllP.c (LeR.refl (x := AV.own false (2 : Nat) (tsF l ++ [m77]))) (AllP.c (LeR.refl (x := AV.nils)) (AllP.c (LeR.refl (x := AV.int IntKind.i64 (↑(2 : Nat) : Int))) (AllP.c (LeR.refl (x := AV.nils)) (AllP.c (LeR.refl (x := AV.int IntKind.i64 (↑(2 : Nat) : Int))) (AllP.c (LeR.refl (x := AV.own true (1 : Nat) L)) (AllP.c (LeR.refl (x := AV.bool true)) (AllP.c (LeR.refl (x := AV.int IntKind.i64 (↑X.length : Int))) (AllP.c (LeR.refl (x := AV.int IntKind.i64 (↑(i + (1 : Nat)) : Int))) (AllP.c (LeR.refl (x := AV.mem [])) AllP.n))))))))))))))))))))))))))))))))
theorem JoinsOut_x_l (l : List TLV) (p : List UInt8) (X : List (List UInt8)) (i : Nat) (v : List UInt8)
    (h1 : decide ((↑i : Int) < (↑X.length : Int)) = true)
    (h2 : (↑i : Int) < (↑(vsX X).length : Int))
    (h3 : cellOf (1 : Nat) (vsX X) (i * (1 : Nat)) = some (vX v))
    (h4 : (↑(List.map (fun x => anyB) v).length : Int) = (↑v.length : Int))
    (h5 : Runs Try.prog T6 (116 : Nat) (Cd.loop [] lp6x0) (sJl0 l p (vsX X) X.length i v.length (0 : Nat)) fun x => x = (Ex.exit (2 : Nat), sJl1 l p (vsX X) X.length i))
    (h6 : IntKind.i64.wrap ((↑i : Int) + (1 : Int)) = (↑(i + (1 : Nat)) : Int)) :
    WayR Try.prog T6 116 lp6x1 [(50, .b true), (54, .q), (55, .v (vX v)), (56, .i v.length), (0, .lp (sJl0 l p (vsX X) X.length i v.length 0) (.exit 2) (sJl1 l p (vsX X) X.length i)), (70, .i (i + 1 : Nat))] (sJl1 l p (vsX X) X.length i) .normal (sJl1 l p (vsX X) X.length (i + 1)) :=
  runs_of_pr hfol (show prR Try.prog T6 116 lp6x1 [(50, .b true), (54, .q), (55, .v (vX v)), (56, .i v.length), (0, .lp (sJl0 l p (vsX X) X.length i v.length 0) (.exit 2) (sJl1 l p (vsX X) X.length i)), (70, .i (i + 1 : Nat))] (sJl1 l p (vsX X) X.length i) .normal (sJl1 l p (vsX X) X.length (i + 1)) = some _ by kernel_rfl) (AllP.c h1 (AllP.c (show (0 : Int) ≤ (↑i : Int) from Int.natCast_nonneg _) (AllP.c h2 (AllP.c h3 (AllP.c h4 (AllP.c (LeR.refl (x := AV.sl false false (2 : Nat) (tsS l))) (AllP.c (LeR.refl (x := AV.own false (2 : Nat) (tsF l ++ [m77]))) (AllP.c (LeR.refl (x := AV.nils)) (AllP.c (LeR.refl (x := AV.int IntKind.i64 (↑(2 : Nat) : Int))) (AllP.c (LeR.refl (x := AV.nils)) (AllP.c (LeR.refl (x := AV.int IntKind.i64 (↑(2 : Nat) : Int))) (AllP.c (LeR.refl (x := AV.own true (1 : Nat) (vsX X))) (AllP.c (LeR.refl (x := AV.bool true)) (AllP.c (LeR.refl (x := AV.int IntKind.i64 (↑i : Int))) (AllP.c (LeR.refl (x := AV.int IntKind.i64 (↑X.length : Int))) (AllP.c (LeR.refl (x := AV.int IntKind.i64 (↑i : Int))) (AllP.c (LeR.refl (x := AV.int IntKind.i64 (↑v.length : Int))) (AllP.c (LeR.refl (x := AV.int IntKind.i64 (↑(0 : Nat) : Int))) (AllP.c (LeR.refl (x := AV.mem [])) (AllP.c h5 (AllP.c h6 (AllP.c (LeR.refl (x := AV.sl false false (2 : Nat) (tsS l))) (AllP.c (LeR.refl (x := AV.own false (2 : Nat) (tsF l ++ [m77]))) (AllP.c (LeR.refl (x := AV.nils)) (AllP.c (LeR.refl (x := AV.int IntKind.i64 (↑(2 : Nat) : Int))) (AllP.c (LeR.refl (x := AV.nils)) (AllP.c (LeR.refl (x := AV.int IntKind.i64 (↑(2 : Nat) : Int))) (AllP.c (LeR.refl (x := AV.own true (1 : Nat) (vsX X))) (AllP.c (LeR.refl (x := AV.bool true)) (AllP.c (LeR.refl (x := AV.int IntKind.i64 (↑X.length : Int))) (AllP.c (LeR.refl (x := AV.int IntKind.i64 (↑(i + (1 : Nat)) : Int))) (AllP.c (LeR.refl (x := AV.mem [])) AllP.n))))))))))))))))))))))))))))))))
theorem JoinsOut_end_l (l : List TLV) (p : List UInt8) (L : List AV) (n i : Nat)
    (h1 : decide ((↑i : Int) < (↑n : Int)) = false) :
    WayR Try.prog T6 116 lp6x1 [(50, .b false)] (sJl1 l p L n i) (.exit 0) (sJl2 l p) :=
  runs_of_pr hfol (show prR Try.prog T6 116 lp6x1 [(50, .b false)] (sJl1 l p L n i) (.exit 0) (sJl2 l p) = some _ by kernel_rfl) (AllP.c h1 (AllP.c (LeR.refl (x := AV.sl false false (2 : Nat) (tsS l))) (AllP.c (LeR.refl (x := AV.own false (2 : Nat) (tsF l ++ [m77]))) (AllP.c (LeR.refl (x := AV.nils)) (AllP.c (LeR.refl (x := AV.int IntKind.i64 (↑(2 : Nat) : Int))) (AllP.c (LeR.refl (x := AV.nils)) (AllP.c (LeR.refl (x := AV.int IntKind.i64 (↑(2 : Nat) : Int))) (AllP.c (LeR.refl (x := AV.bool true)) (AllP.c (LeR.refl (x := AV.mem [])) AllP.n)))))))))
theorem Joins_l0 (l : List TLV) (p : List UInt8) (k : UInt8)
    (h1 : FnW Try.prog (7 : FuncId) [] [] (AV.bool true))
    (h2 : FnW Try.prog (9 : FuncId) [AV.sl false false (2 : Nat) (stale.sL (tsS l))] [slT l] (AV.own true (2 : Nat) (tsF l)))
    (h3 : freshA (AV.own true (2 : Nat) (tsF l)) = true)
    (h4 : ((deepen.dL (tsF l)).length + (1 : Nat)) * (32 : Nat) ≤ (140737488355328 : Nat))
    (h5 : AV.own true (2 : Nat) (deepen.dL (tsF l) ++ [AV.agg [AV.int IntKind.u8 (77 : Int), AV.nils]]) = AV.own true (2 : Nat) (tsD l ++ [m77]))
    (h6 : (↑(tsS l).length : Int) ≤ (↑(undeep.uL (tsD l ++ [m77])).length : Int))
    (h7 : AV.own false (2 : Nat) (undeep.uL (tsD l ++ [m77])) = AV.own false (2 : Nat) (tsF l ++ [m77]))
    (h8 : AV.sl true (false || !(undeep.uL (tsD l ++ [m77])).isEmpty) (2 : Nat) (List.drop (0 : Nat) (List.take (tsS l).length (undeep.uL (tsD l ++ [m77])))) = AV.sl true true (2 : Nat) (tsF l))
    (h9 : FnW Try.prog (15 : FuncId) [AV.sl false true (2 : Nat) (stale.sL (tsF l))] [slT l] (AV.tup [AV.nils, ni (2 : Nat)]))
    (h10 : FnW Try.prog (19 : FuncId) [AV.sl false false (2 : Nat) (stale.sL (tsS l))] [slT l] (AV.tup [AV.nils, ni (2 : Nat)]))
    (h11 : (↑(tsS l).length : Int) ≤ (↑(tsF l ++ [m77]).length : Int))
    (h12 : AV.sl true (false || !(tsF l ++ [m77]).isEmpty) (2 : Nat) (List.drop (0 : Nat) (List.take (tsS l).length (tsF l ++ [m77]))) = AV.sl true true (2 : Nat) (tsF l))
    (h13 : FnW Try.prog (8 : FuncId) [AV.sl false true (2 : Nat) (stale.sL (tsF l)), AV.int IntKind.u8 (↑k.toNat : Int)] [slT l, bA k] (AV.own true (1 : Nat) (vsF [])))
    (h14 : FnW Try.prog (20 : FuncId) [AV.sl false false (2 : Nat) (stale.sL (tsS l)), AV.int IntKind.u8 (↑k.toNat : Int)] [slT l, bA k] (AV.own true (1 : Nat) (vsS [])))
    (h15 : FnW Try.prog (10 : FuncId) [AV.sl false false (1 : Nat) [], AV.sl false false (1 : Nat) []] [slV [], slV []] (AV.bool true))
    (h16 : Runs Try.prog T6 (116 : Nat) (Cd.loop [] lp6x1) (sJl1 l p (vsD []) (0 : Nat) (0 : Nat)) fun x => x = (Ex.exit (0 : Nat), sJl2 l p))
    (h17 : FnW Try.prog (16 : FuncId) [AV.nils, AV.nils] [slB [], slB []] (AV.bool true))
    (h18 : FnW Try.prog (14 : FuncId) [AV.sl false true (2 : Nat) (stale.sL (tsF l)), AV.sl false false (2 : Nat) (stale.sL (tsS l))] [slT l, slT l] (AV.bool true))
    (h19 : (tsF l ++ [m77])[(tsS l).length]? = some m77) :
    WayF Try.prog 6 T6 fd6 [(16, .c [] (.bool true)), (19, .c [slT l] (.own true 2 (tsF l))), (22, .q2), (22, .n (.own true 2 (tsD l ++ [m77]))), (27, .q), (5, .n (.own false 2 (tsF l ++ [m77]))), (27, .n (.sl true true 2 (tsF l))), (28, .c [slT l] (.tup [.nils, ni 2])), (28, .n (.tup [.nils, ni 2])), (33, .c [slT l] (.tup [.nils, ni 2])), (33, .n (.tup [.nils, ni 2])), (39, .q), (39, .n (.sl true true 2 (tsF l))), (41, .c [slT l, bA k] (.own true 1 (vsF ([] : List (List UInt8))))), (41, .n (.own true 1 (vsD ([] : List (List UInt8))))), (45, .c [slT l, bA k] (.own true 1 (vsS ([] : List (List UInt8))))), (46, .c [slV ([] : List (List UInt8)), slV ([] : List (List UInt8))] (.bool true)), (0, .lp (sJl1 l p (vsD ([] : List (List UInt8))) ([] : List (List UInt8)).length 0) (.exit 0) (sJl2 l p)), (73, .c [slB ([] : List UInt8), slB ([] : List UInt8)] (.bool true)), (88, .q), (88, .n (.sl true true 2 (tsF l))), (90, .c [slT l, slT l] (.bool true)), (97, .v m77)] [slT l, bA k] (.bool true) :=
  fn_of_pr hfol ok6 hT6 (show prF Try.prog 6 T6 fd6 [(16, .c [] (.bool true)), (19, .c [slT l] (.own true 2 (tsF l))), (22, .q2), (22, .n (.own true 2 (tsD l ++ [m77]))), (27, .q), (5, .n (.own false 2 (tsF l ++ [m77]))), (27, .n (.sl true true 2 (tsF l))), (28, .c [slT l] (.tup [.nils, ni 2])), (28, .n (.tup [.nils, ni 2])), (33, .c [slT l] (.tup [.nils, ni 2])), (33, .n (.tup [.nils, ni 2])), (39, .q), (39, .n (.sl true true 2 (tsF l))), (41, .c [slT l, bA k] (.own true 1 (vsF ([] : List (List UInt8))))), (41, .n (.own true 1 (vsD ([] : List (List UInt8))))), (45, .c [slT l, bA k] (.own true 1 (vsS ([] : List (List UInt8))))), (46, .c [slV ([] : List (List UInt8)), slV ([] : List (List UInt8))] (.bool true)), (0, .lp (sJl1 l p (vsD ([] : List (List UInt8))) ([] : List (List UInt8)).length 0) (.exit 0) (sJl2 l p)), (73, .c [slB ([] : List UInt8), slB ([] : List UInt8)] (.bool true)), (88, .q), (88, .n (.sl true true 2 (tsF l))), (90, .c [slT l, slT l] (.bool true)), (97, .v m77)] [slT l, bA k] (.bool true) = some _ by kernel_rfl) (AllP.c h1 (AllP.c (show freshA (AV.bool true) = true by kernel_rfl) (AllP.c h2 (AllP.c h3 (AllP.c (show [AV.agg [AV.int IntKind.u8 (77 : Int), AV.nils]].all flat = false by kernel_rfl) (AllP.c (show [AV.agg [AV.int IntKind.u8 (77 : Int), AV.nils]].all (okElem (2 : Nat)) = true by kernel_rfl) (AllP.c h4 (AllP.c h5 (AllP.c (show (0 : Int) ≤ (0 : Int) by decide) (AllP.c (show (0 : Int) ≤ (↑(tsS l).length : Int) from Int.natCast_nonneg _) (AllP.c h6 (AllP.c h7 (AllP.c h8 (AllP.c h9 (AllP.c (show freshA (AV.tup [AV.nils, ni (2 : Nat)]) = true by kernel_rfl) (AllP.c (show AV.tup [AV.nils, ni (2 : Nat)] = AV.tup [AV.nils, ni (2 : Nat)] by kernel_rfl) (AllP.c h10 (AllP.c (show freshA (AV.tup [AV.nils, ni (2 : Nat)]) = true by kernel_rfl) (AllP.c (show AV.tup [AV.nils, ni (2 : Nat)] = AV.tup [AV.nils, ni (2 : Nat)] by kernel_rfl) (AllP.c (show (0 : Int) ≤ (0 : Int) by decide) (AllP.c (show (0 : Int) ≤ (↑(tsS l).length : Int) from Int.natCast_nonneg _) (AllP.c h11 (AllP.c h12 (AllP.c h13 (AllP.c (show freshA (AV.own true (1 : Nat) (vsF [])) = true by kernel_rfl) (AllP.c (show AV.own true (1 : Nat) [] = AV.own true (1 : Nat) (vsD []) by kernel_rfl) (AllP.c h14 (AllP.c (show freshA (AV.own true (1 : Nat) (vsS [])) = true by kernel_rfl) (AllP.c h15 (AllP.c (show freshA (AV.bool true) = true by kernel_rfl) (AllP.c (LeR.refl (x := AV.sl false false (2 : Nat) (tsS l))) (AllP.c (LeR.refl (x := AV.own false (2 : Nat) (tsF l ++ [m77]))) (AllP.c (LeR.refl (x := AV.nils)) (AllP.c (LeR.refl (x := AV.int IntKind.i64 (↑(2 : Nat) : Int))) (AllP.c (LeR.refl (x := AV.nils)) (AllP.c (LeR.refl (x := AV.int IntKind.i64 (↑(2 : Nat) : Int))) (AllP.c (LeR.refl (x := AV.own true (1 : Nat) (vsD []))) (AllP.c (LeR.refl (x := AV.bool true)) (AllP.c (LeR.refl (x := AV.int IntKind.i64 (↑(0 : Nat) : Int))) (AllP.c (LeR.refl (x := AV.int IntKind.i64 (↑(0 : Nat) : Int))) (AllP.c (LeR.refl (x := AV.mem [])) (AllP.c h16 (AllP.c h17 (AllP.c (show freshA (AV.bool true) = true by kernel_rfl) (AllP.c (show (0 : Int) ≤ (0 : Int) by decide) (AllP.c (show (0 : Int) ≤ (↑(tsS l).length : Int) from Int.natCast_nonneg _) (AllP.c h11 (AllP.c h12 (AllP.c h18 (AllP.c (show freshA (AV.bool true) = true by kernel_rfl) (AllP.c (show (0 : Int) ≤ (↑(tsS l).length : Int) from Int.natCast_nonneg _) (AllP.c h19 (AllP.c (show AV.bool true = AV.bool true by kernel_rfl) AllP.n)))))))))))))))))))))))))))))))))))))))))))))))))))))
theorem Joins_l1 (l : List TLV) (p : List UInt8) (X : List (List UInt8)) (k : UInt8)
    (h1 : FnW Try.prog (7 : FuncId) [] [] (AV.bool true))
    (h2 : FnW Try.prog (9 : FuncId) [AV.sl false false (2 : Nat) (stale.sL (tsS l))] [slT l] (AV.own true (2 : Nat) (tsF l)))
    (h3 : freshA (AV.own true (2 : Nat) (tsF l)) = true)
    (h4 : ((deepen.dL (tsF l)).length + (1 : Nat)) * (32 : Nat) ≤ (140737488355328 : Nat))
    (h5 : AV.own true (2 : Nat) (deepen.dL (tsF l) ++ [AV.agg [AV.int IntKind.u8 (77 : Int), AV.nils]]) = AV.own true (2 : Nat) (tsD l ++ [m77]))
    (h6 : (↑(tsS l).length : Int) ≤ (↑(undeep.uL (tsD l ++ [m77])).length : Int))
    (h7 : AV.own false (2 : Nat) (undeep.uL (tsD l ++ [m77])) = AV.own false (2 : Nat) (tsF l ++ [m77]))
    (h8 : AV.sl true (false || !(undeep.uL (tsD l ++ [m77])).isEmpty) (2 : Nat) (List.drop (0 : Nat) (List.take (tsS l).length (undeep.uL (tsD l ++ [m77])))) = AV.sl true true (2 : Nat) (tsF l))
    (h9 : FnW Try.prog (15 : FuncId) [AV.sl false true (2 : Nat) (stale.sL (tsF l))] [slT l] (AV.tup [AV.nils, ni (2 : Nat)]))
    (h10 : FnW Try.prog (19 : FuncId) [AV.sl false false (2 : Nat) (stale.sL (tsS l))] [slT l] (AV.tup [AV.nils, ni (2 : Nat)]))
    (h11 : (↑(tsS l).length : Int) ≤ (↑(tsF l ++ [m77]).length : Int))
    (h12 : AV.sl true (false || !(tsF l ++ [m77]).isEmpty) (2 : Nat) (List.drop (0 : Nat) (List.take (tsS l).length (tsF l ++ [m77]))) = AV.sl true true (2 : Nat) (tsF l))
    (h13 : FnW Try.prog (8 : FuncId) [AV.sl false true (2 : Nat) (stale.sL (tsF l)), AV.int IntKind.u8 (↑k.toNat : Int)] [slT l, bA k] (AV.own true (1 : Nat) (vsF X)))
    (h14 : freshA (AV.own true (1 : Nat) (vsF X)) = true)
    (h15 : AV.own true (1 : Nat) (deepen.dL (vsF X)) = AV.own true (1 : Nat) (vsD X))
    (h16 : FnW Try.prog (20 : FuncId) [AV.sl false false (2 : Nat) (stale.sL (tsS l)), AV.int IntKind.u8 (↑k.toNat : Int)] [slT l, bA k] (AV.own true (1 : Nat) (vsS X)))
    (h17 : freshA (AV.own true (1 : Nat) (vsS X)) = false)
    (h18 : FnW Try.prog (10 : FuncId) [AV.sl false false (1 : Nat) (stale.sL (undeep.uL (vsD X))), AV.sl false false (1 : Nat) (stale.sL (undeep.uL (vsS X)))] [slV X, slV X] (AV.bool true))
    (h19 : LeR (AV.int IntKind.i64 (↑(vsD X).length : Int)) (AV.int IntKind.i64 (↑X.length : Int)))
    (h20 : Runs Try.prog T6 (116 : Nat) (Cd.loop [] lp6x1) (sJl1 l p (vsD X) X.length (0 : Nat)) fun x => x = (Ex.exit (0 : Nat), sJl2 l p))
    (h21 : FnW Try.prog (16 : FuncId) [AV.nils, AV.nils] [slB [], slB []] (AV.bool true))
    (h22 : FnW Try.prog (14 : FuncId) [AV.sl false true (2 : Nat) (stale.sL (tsF l)), AV.sl false false (2 : Nat) (stale.sL (tsS l))] [slT l, slT l] (AV.bool true))
    (h23 : (tsF l ++ [m77])[(tsS l).length]? = some m77) :
    WayF Try.prog 6 T6 fd6 [(16, .c [] (.bool true)), (19, .c [slT l] (.own true 2 (tsF l))), (22, .q2), (22, .n (.own true 2 (tsD l ++ [m77]))), (27, .q), (5, .n (.own false 2 (tsF l ++ [m77]))), (27, .n (.sl true true 2 (tsF l))), (28, .c [slT l] (.tup [.nils, ni 2])), (28, .n (.tup [.nils, ni 2])), (33, .c [slT l] (.tup [.nils, ni 2])), (33, .n (.tup [.nils, ni 2])), (39, .q), (39, .n (.sl true true 2 (tsF l))), (41, .c [slT l, bA k] (.own true 1 (vsF X))), (41, .n (.own true 1 (vsD X))), (45, .cs [slT l, bA k] (.own true 1 (vsS X))), (46, .c [slV X, slV X] (.bool true)), (0, .lp (sJl1 l p (vsD X) X.length 0) (.exit 0) (sJl2 l p)), (73, .c [slB ([] : List UInt8), slB ([] : List UInt8)] (.bool true)), (88, .q), (88, .n (.sl true true 2 (tsF l))), (90, .c [slT l, slT l] (.bool true)), (97, .v m77)] [slT l, bA k] (.bool true) :=
  fn_of_pr hfol ok6 hT6 (show prF Try.prog 6 T6 fd6 [(16, .c [] (.bool true)), (19, .c [slT l] (.own true 2 (tsF l))), (22, .q2), (22, .n (.own true 2 (tsD l ++ [m77]))), (27, .q), (5, .n (.own false 2 (tsF l ++ [m77]))), (27, .n (.sl true true 2 (tsF l))), (28, .c [slT l] (.tup [.nils, ni 2])), (28, .n (.tup [.nils, ni 2])), (33, .c [slT l] (.tup [.nils, ni 2])), (33, .n (.tup [.nils, ni 2])), (39, .q), (39, .n (.sl true true 2 (tsF l))), (41, .c [slT l, bA k] (.own true 1 (vsF X))), (41, .n (.own true 1 (vsD X))), (45, .cs [slT l, bA k] (.own true 1 (vsS X))), (46, .c [slV X, slV X] (.bool true)), (0, .lp (sJl1 l p (vsD X) X.length 0) (.exit 0) (sJl2 l p)), (73, .c [slB ([] : List UInt8), slB ([] : List UInt8)] (.bool true)), (88, .q), (88, .n (.sl true true 2 (tsF l))), (90, .c [slT l, slT l] (.bool true)), (97, .v m77)] [slT l, bA k] (.bool true) = some _ by kernel_rfl) (AllP.c h1 (AllP.c (show freshA (AV.bool true) = true by kernel_rfl) (AllP.c h2 (AllP.c h3 (AllP.c (show [AV.agg [AV.int IntKind.u8 (77 : Int), AV.nils]].all flat = false by kernel_rfl) (AllP.c (show [AV.agg [AV.int IntKind.u8 (77 : Int), AV.nils]].all (okElem (2 : Nat)) = true by kernel_rfl) (AllP.c h4 (AllP.c h5 (AllP.c (show (0 : Int) ≤ (0 : Int) by decide) (AllP.c (show (0 : Int) ≤ (↑(tsS l).length : Int) from Int.natCast_nonneg _) (AllP.c h6 (AllP.c h7 (AllP.c h8 (AllP.c h9 (AllP.c (show freshA (AV.tup [AV.nils, ni (2 : Nat)]) = true by kernel_rfl) (AllP.c (show AV.tup [AV.nils, ni (2 : Nat)] = AV.tup [AV.nils, ni (2 : Nat)] by kernel_rfl) (AllP.c h10 (AllP.c (show freshA (AV.tup [AV.nils, ni (2 : Nat)]) = true by kernel_rfl) (AllP.c (show AV.tup [AV.nils, ni (2 : Nat)] = AV.tup [AV.nils, ni (2 : Nat)] by kernel_rfl) (AllP.c (show (0 : Int) ≤ (0 : Int) by decide) (AllP.c (show (0 : Int) ≤ (↑(tsS l).length : Int) from Int.natCast_nonneg _) (AllP.c h11 (AllP.c h12 (AllP.c h13 (AllP.c h14 (AllP.c h15 (AllP.c h16 (AllP.c h17 (AllP.c h18 (AllP.c (show freshA (AV.bool true) = true by kernel_rfl) (AllP.c (LeR.refl (x := AV.sl false false (2 : Nat) (tsS l))) (AllP.c (LeR.refl (x := AV.own false (2 : Nat) (tsF l ++ [m77]))) (AllP.c (LeR.refl (x := AV.nils)) (AllP.c (LeR.refl (x := AV.int IntKind.i64 (↑(2 : Nat) : Int))) (AllP.c (LeR.refl (x := AV.nils)) (AllP.c (LeR.refl (x := AV.int IntKind.i64 (↑(2 : Nat) : Int))) (AllP.c (LeR.refl (x := AV.own true (1 : Nat) (vsD X))) (AllP.c (LeR.refl (x := AV.bool true)) (AllP.c h19 (AllP.c (LeR.refl (x := AV.int IntKind.i64 (↑(0 : Nat) : Int))) (AllP.c (LeR.refl (x := AV.mem [])) (AllP.c h20 (AllP.c h21 (AllP.c (show freshA (AV.bool true) = true by kernel_rfl) (AllP.c (show (0 : Int) ≤ (0 : Int) by decide) (AllP.c (show (0 : Int) ≤ (↑(tsS l).length : Int) from Int.natCast_nonneg _) (AllP.c h11 (AllP.c h12 (AllP.c h22 (AllP.c (show freshA (AV.bool true) = true by kernel_rfl) (AllP.c (show (0 : Int) ≤ (↑(tsS l).length : Int) from Int.natCast_nonneg _) (AllP.c h23 (AllP.c (show AV.bool true = AV.bool true by kernel_rfl) AllP.n)))))))))))))))))))))))))))))))))))))))))))))))))))))
end Go.Ev

/-! text P6 -/
set_option linter.unusedVariables false
namespace Go.Ev
open Go.Proofs (Try.prog)

/-! ### Rights, of whole lists -/
theorem map_uL {α : Type} {f g : α → AV} (h : ∀ t, undeep (f t) = g t) : ∀ l : List α, undeep.uL (l.map f) = l.map g
  | [] => rfl
  | t :: l => by simp only [List.map_cons, undeep.uL, h, map_uL h l]
theorem map_dL {α : Type} {f g : α → AV} (h : ∀ t, deepen (f t) = g t) : ∀ l : List α, deepen.dL (l.map f) = l.map g
  | [] => rfl
  | t :: l => by simp only [List.map_cons, deepen.dL, h, map_dL h l]
theorem map_sL {α : Type} {f g : α → AV} (h : ∀ t, stale (f t) = g t) : ∀ l : List α, stale.sL (l.map f) = l.map g
  | [] => rfl
  | t :: l => by simp only [List.map_cons, stale.sL, h, map_sL h l]
theorem map_hvL {α : Type} {f g : α → AV} (h : ∀ t, hv (f t) = g t) : ∀ l : List α, hv.hvL (l.map f) = l.map g
  | [] => rfl
  | t :: l => by simp only [List.map_cons, hv.hvL, h, map_hvL h l]
theorem map_freshL {α : Type} {f : α → AV} (h : ∀ t, freshA (f t) = true) : ∀ l : List α, freshA.freshL (l.map f) = true
  | [] => rfl
  | t :: l => by simp only [List.map_cons, freshA.freshL, h, map_freshL h l, Bool.and_self]
theorem uL_app : ∀ (xs ys : List AV), undeep.uL (xs ++ ys) = undeep.uL xs ++ undeep.uL ys
  | [], ys => rfl
  | x :: xs, ys => by simp only [List.cons_append, undeep.uL, uL_app xs ys]
@[simp] theorem tsS_sL (l : List TLV) : stale.sL (tsS l) = tsS l := map_sL (fun t => by simp only [tS, bA, stale, stale.sL, bsA_sL]) l
@[simp] theorem tsF_sL (l : List TLV) : stale.sL (tsF l) = tsS l := map_sL (fun t => by simp only [tF, tS, bA, stale, stale.sL, bsA_sL]) l
@[simp] theorem tsF_uL (l : List TLV) : undeep.uL (tsF l) = tsF l := map_uL (fun t => by simp only [tF, bA, undeep, undeep.uL, bsA_uL]) l
@[simp] theorem tsD_uL (l : List TLV) : undeep.uL (tsD l) = tsF l := map_uL (fun t => by simp only [tF, tD, bA, undeep, undeep.uL, bsA_uL]) l
@[simp] theorem tsF_dL (l : List TLV) : deepen.dL (tsF l) = tsD l := map_dL (fun t => by simp only [tF, tD, bA, deepen, deepen.dL, bsA_dL]) l
@[simp] theorem tsF_freshL (l : List TLV) : freshA.freshL (tsF l) = true := map_freshL (fun t => by simp only [tF, bA, freshA, freshA.freshL, bsA_freshL, Bool.and_self]) l
@[simp] theorem vsS_sL (l : List (List UInt8)) : stale.sL (vsS l) = vsS l := map_sL (fun t => by simp only [vS, stale, bsA_sL]) l
@[simp] theorem vsF_sL (l : List (List UInt8)) : stale.sL (vsF l) = vsS l := map_sL (fun t => by simp only [vF, vS, stale, bsA_sL]) l
@[simp] theorem vsS_uL (l : List (List UInt8)) : undeep.uL (vsS l) = vsS l := map_uL (fun t => by simp only [vS, undeep, bsA_uL]) l
@[simp] theorem vsF_uL (l : List (List UInt8)) : undeep.uL (vsF l) = vsF l := map_uL (fun t => by simp only [vF, undeep, bsA_uL]) l
@[simp] theorem vsD_uL (l : List (List UInt8)) : undeep.uL (vsD l) = vsF l := map_uL (fun t => by simp only [vF, vD, undeep, bsA_uL]) l
@[simp] theorem vsF_dL (l : List (List UInt8)) : deepen.dL (vsF l) = vsD l := map_dL (fun t => by simp only [vF, vD, deepen, bsA_dL]) l
@[simp] theorem vsF_freshL (l : List (List UInt8)) : freshA.freshL (vsF l) = true := map_freshL (fun t => by simp only [vF, freshA, bsA_freshL, Bool.and_self]) l
@[simp] theorem tsF_ok (l : List TLV) : (tsF l).all (okElem 2) = true := by simp [tsF, tF, bA, okElem, cellsOf, okCell]
@[simp] theorem vsF_ok (l : List (List UInt8)) : (vsF l).all (okElem 1) = true := by simp [vsF, vF, okElem, cellsOf, okCell]
theorem tsD_flat {l : List TLV} (h : l ≠ []) : (tsD l).all flat = false := by
  cases l with
  | nil => exact absurd rfl h
  | cons t l => rfl
theorem vsD_flat {l : List (List UInt8)} (h : l ≠ []) : (vsD l).all flat = false := by
  cases l with
  | nil => exact absurd rfl h
  | cons t l => rfl
theorem tsF_app (l m : List TLV) : tsF (l ++ m) = tsF l ++ tsF m := by simp [tsF]
theorem vsF_app (l m : List (List UInt8)) : vsF (l ++ m) = vsF l ++ vsF m := by simp [vsF]

/-! ### TlvFilters -/
theorem ofK_app (a b : List TLV) (k : UInt8) : ofK (a ++ b) k = ofK a k ++ ofK b k := by simp [ofK]
def cnt (a : List TLV) (n : Nat) : Nat := ((List.range n).map fun k => (ofK a (UInt8.ofNat k)).length).sum
theorem cnt_succ (a : List TLV) (n : Nat) : cnt a (n + 1) = cnt a n + (ofK a (UInt8.ofNat n)).length := by simp [cnt, List.range_succ]
theorem cnt_cons (t : TLV) (a : List TLV) : ∀ n, n ≤ 256 → cnt (t :: a) n = cnt a n + if t.1.toNat < n then 1 else 0
  | 0, _ => by simp [cnt]
  | n + 1, h => by
    rw [cnt_succ, cnt_succ, cnt_cons t a n (by omega)]
    have hk : (t.1 == UInt8.ofNat n) = decide (t.1.toNat = n) := by
      rw [Bool.eq_iff_iff]
      simp only [beq_iff_eq, decide_eq_true_eq]
      constructor
      · intro e; rw [e]; simp; omega
      · intro e; rw [← e]; simp
    have e : (ofK (t :: a) (UInt8.ofNat n)).length = (ofK a (UInt8.ofNat n)).length + if t.1.toNat = n then 1 else 0 := by
      unfold ofK
      rw [List.filter_cons, hk]
      by_cases hc : t.1.toNat = n <;> simp [hc]
    rw [e]
    by_cases h1 : t.1.toNat < n
    · rw [if_pos h1, if_neg (by omega), if_pos (by omega)]; omega
    · by_cases h2 : t.1.toNat = n
      · rw [if_neg h1, if_pos h2, if_pos (by omega)]; omega
      · rw [if_neg h1, if_neg h2, if_neg (by omega)]; omega
theorem cnt_all : ∀ a : List TLV, cnt a 256 = a.length
  | [] => by
    have : ∀ n, cnt [] n = 0 := by
      intro n
      induction n with
      | zero => rfl
      | succ n ih => rw [cnt_succ, ih]; rfl
    rw [this]; rfl
  | t :: a => by
    have := t.1.toNat_lt
    rw [cnt_cons t a 256 (by omega), cnt_all a, if_pos (by omega)]
    rfl
theorem cnt_le (a : List TLV) (n : Nat) (h : n ≤ 256) : cnt a n ≤ a.length := by
  rw [← cnt_all a]
  have : ∀ d n, n + d = 256 → cnt a n ≤ cnt a 256 := by
    intro d
    induction d with
    | zero => intro n hn; rw [show n = 256 by omega]; exact Nat.le_refl _
    | succ d ih => intro n hn; exact Nat.le_trans (by rw [cnt_succ]; omega) (ih (n + 1) (by omega))
  exact this (256 - n) n (by omega)
theorem small_app {a b : List TLV} (ha : Small a) (hb : Small b) (hl : a.length + b.length < 1073741824) : Small (a ++ b) :=
  ⟨by simpa using hl, fun t ht => (List.mem_append.1 ht).elim (ha.2 t) (hb.2 t)⟩
theorem Filters_ok (a b : List TLV) (k : UInt8) (ha : Small a) (hb : Small b) (hl : a.length + b.length < 1073741824) : FnOk Try.prog 3 [slT a, slT b, bA k] (.bool true) := by
  have hla := ofK_len a k
  have hlb := ofK_len b k
  have cT : ∀ l : List TLV, Small l → FnW Try.prog 9 [AV.sl false false 2 (stale.sL (tsS l))] [slT l] (AV.own true 2 (tsF l)) := fun l h => .of (.cons (.sl_eq (by simp)) .nil) (Twin_ok l h)
  have cO : ∀ l : List TLV, Small l → FnW Try.prog 8 [AV.sl false false 2 (stale.sL (undeep.uL (deepen.dL (tsF l)))), AV.int IntKind.u8 (k.toNat : Int)] [slT l, bA k] (AV.own true 1 (vsF (ofK l k))) := fun l h => .of (.cons (.sl_eq (by simp)) (.cons .refl .nil)) (Of_ok l k h)
  have cZ : FnW Try.prog 8 [AV.sl false false 2 (stale.sL (undeep.uL (deepen.dL (tsF a) ++ undeep.uL (deepen.dL (tsF b))))), AV.int IntKind.u8 (k.toNat : Int)] [slT (a ++ b), bA k] (AV.own true 1 (vsF (ofK (a ++ b) k))) :=
    .of (.cons (.sl_eq (by rw [tsF_dL, tsF_dL, tsD_uL, uL_app, tsD_uL, tsF_uL, ← tsF_app, tsF_sL])) (.cons .refl .nil)) (Of_ok _ k (small_app ha hb hl))
  have cV : FnW Try.prog 10 [AV.sl false false 1 (stale.sL (undeep.uL (vsD (ofK (a ++ b) k)))), AV.sl false false 1 (stale.sL (undeep.uL (vsD (ofK a k) ++ undeep.uL (vsD (ofK b k)))))] [slV (ofK (a ++ b) k), slV (ofK a k ++ ofK b k)] (AV.bool true) := by
    refine .of (.cons (.sl_eq (by simp)) (.cons (.sl_eq (by rw [vsD_uL, uL_app, vsD_uL, vsF_uL, ← vsF_app, vsF_sL])) .nil)) ?_
    have := SameValues_ok (ofK (a ++ b) k) (ofK a k ++ ofK b k) (by rw [ofK_app]; simp; omega) fun v hv => by
      obtain ⟨t, ht, e⟩ := ofK_mem hv
      rw [← e]
      exact (small_app ha hb hl).2 t ht
    rwa [decide_eq_true (ofK_app a b k)] at this
  have L : Runs Try.prog T3 51 (Cd.loop [] lp3x0) (sF a (ofK a k) (ofK b k) (ofK (a ++ b) k) 0 0) fun x => x = (Ex.exit 0, st 51 [(0, slT a), (7, AV.own true 1 (vsD (ofK a k))), (8, AV.own true 1 (vsD (ofK b k))), (9, AV.own true 1 (vsD (ofK (a ++ b) k))), (10, ni a.length)]) := by
    refine Runs.upto (S := fun i => sF a (ofK a k) (ofK b k) (ofK (a ++ b) k) (cnt a i) i) (j := 256) (fun i hi => ?_) ?_ (by simp)
    · have h1 := cnt_le a (i + 1) (by omega)
      have h2 := ha.1
      rw [cnt_succ] at h1
      simp only [cnt_succ]
      exact Filters_next a _ _ _ (ofK a (UInt8.ofNat i)) (cnt a i) i (UInt8.ofNat i) (decide_eq_true (by omega)) (by rw [wrap8_eq (by omega) (by omega), UInt8.toNat_ofNat_of_lt' (by simpa using hi)]) (.of (.cons (.sl_eq (by simp)) (.cons .refl .nil)) (Of_ok a _ ha)) (by simp [freshA]) (by rw [vsF_dL, vsD_len, wrap64_eq (by omega) (by omega)]; omega) (wrap_succ (by omega))
    · have := Filters_end a (ofK a k) (ofK b k) (ofK (a ++ b) k) (cnt a 256) 256 (by simp)
      rw [cnt_all] at this
      simp only [cnt_all]
      exact this
  have s1 : ((deepen.dL (tsF a)).length + (undeep.uL (deepen.dL (tsF b))).length) * 32 ≤ 140737488355328 := by simp; omega
  have s2 : ((vsD (ofK a k)).length + (undeep.uL (vsD (ofK b k))).length) * 24 ≤ 140737488355328 := by simp; omega
  by_cases hb0 : b = []
  · subst hb0
    exact Filters_way00 a [] k _ _ _ _ ⟨.refl, awake_ok⟩ (cT a ha) (by simp [freshA]) (cO a ha) (by simp [freshA]) (cT [] hb) rfl (cO [] hb) rfl rfl rfl (by simpa [deepen.dL, undeep.uL, tsF] using s1) (by simpa [tsF, deepen.dL, undeep.uL] using cZ) (by simp [freshA]) (LeR.of_eq (by simp)) (LeR.of_eq (by simp)) (LeR.of_eq (by simp)) L rfl rfl (by simpa [ofK, vsD, undeep.uL] using s2) (by simpa [ofK, vsD, undeep.uL] using cV) (by simp)
  · by_cases hY : ofK b k = []
    · exact Filters_way10 a b k _ _ _ _ ⟨.refl, awake_ok⟩ (cT a ha) (by simp [freshA]) (cO a ha) (by simp [freshA]) (cT b hb) (by simp [freshA]) (cO b hb) (by simp [freshA]) (by rw [tsF_dL]; exact tsD_flat hb0) (by simp) s1 cZ (by simp [freshA]) (LeR.of_eq (by simp)) (LeR.of_eq (by simp)) (LeR.of_eq (by simp)) L (by rw [hY]; rfl) (by rw [hY]; rfl) (by rw [hY] at s2 ⊢; exact s2) (by rw [hY] at cV ⊢; exact cV) (by simp)
    · exact Filters_way a b k _ _ _ _ ⟨.refl, awake_ok⟩ (cT a ha) (by simp [freshA]) (cO a ha) (by simp [freshA]) (cT b hb) (by simp [freshA]) (cO b hb) (by simp [freshA]) (by rw [tsF_dL]; exact tsD_flat hb0) (by simp) s1 cZ (by simp [freshA]) (LeR.of_eq (by simp)) (LeR.of_eq (by simp)) (LeR.of_eq (by simp)) L (vsD_flat hY) (by simp) s2 cV (by simp)
end Go.Ev

/-! text P7 -/
set_option linter.unusedVariables false
namespace Go.Ev
open Go.Proofs (Try.prog)

/-! ### Bytes and lists, both ways -/
theorem lenB_ok {v : List UInt8} {k : UInt8} (h : v.length = k.toNat) : lenB v = k := by
  unfold lenB
  rw [h]
  simp
theorem parse_enc : ∀ (n : Nat) (p : List UInt8) (l : List TLV), p.length ≤ n → parse p = some l → enc l = p ∧ ∀ t ∈ l, t.2.length ≤ 255
  | n, [], l, _, h => by
    simp only [parse, Option.some.injEq] at h
    subst h
    exact ⟨rfl, fun t ht => by cases ht⟩
  | n, [t], l, _, h => by simp [parse] at h
  | 0, t :: k :: r, l, hn, _ => by simp at hn
  | n + 1, t :: k :: r, l, hn, h => by
    simp only [List.length_cons] at hn
    rw [parse] at h
    split at h
    · cases h
    · rename_i hr
      obtain ⟨l', h1, rfl⟩ := map_some h
      obtain ⟨e1, e2⟩ := parse_enc n (r.drop k.toNat) l' (by simp; omega) h1
      have hv : (r.take k.toNat).length = k.toNat := by rw [List.length_take]; omega
      have hk := k.toNat_lt
      refine ⟨?_, fun t ht => ?_⟩
      · show t :: lenB (r.take k.toNat) :: (r.take k.toNat) ++ enc l' = _
        rw [lenB_ok hv, e1, List.cons_append, List.cons_append, List.take_append_drop]
      · rcases List.mem_cons.1 ht with rfl | ht
        · show (r.take k.toNat).length ≤ 255
          omega
        · exact e2 t ht
theorem enc_parse : ∀ (l : List TLV), (∀ t ∈ l, t.2.length ≤ 255) → parse (enc l) = some l
  | [], _ => by simp [enc, parse]
  | t :: l, h => by
    have ht := h t (List.mem_cons_self ..)
    have ih := enc_parse l fun u hu => h u (List.mem_cons_of_mem _ hu)
    have e : enc (t :: l) = t.1 :: lenB t.2 :: (t.2 ++ enc l) := by simp [enc, enc1]
    have hb : (lenB t.2).toNat = t.2.length := by
      unfold lenB
      exact UInt8.toNat_ofNat_of_lt' (by show _ < 256; omega)
    rw [e, parse, hb, if_neg (by simp), List.drop_left, List.take_left, ih]
    rfl
theorem parse_fits {p : List UInt8} {l : List TLV} (hp : p.length ≤ 1492) (h : parse p = some l) : fits l ∧ enc l = p ∧ Small l := by
  obtain ⟨h1, h2⟩ := parse_enc p.length p l (Nat.le_refl _) h
  have hl : l.length ≤ (enc l).length := by
    clear h1 h2 h
    induction l with
    | nil => simp
    | cons t l ih =>
      have : enc (t :: l) = enc1 t ++ enc l := by simp [enc]
      rw [this, List.length_append, enc1_len, List.length_cons]
      omega
  rw [h1] at hl
  exact ⟨⟨h2, by rw [h1]; exact hp⟩, h1, by omega, fun t ht => by have := h2 t ht; omega⟩

/-! ### What is left where numbers are turned -/
theorem bsA_hv : ∀ v : List UInt8, hv.hvL (bsA v) = v.map fun _ => anyB
  | [] => rfl
  | b :: v => by
    show hv (bA b) :: hv.hvL (bsA v) = _
    rw [bsA_hv v]
    rfl
theorem any_hv : ∀ v : List UInt8, hv.hvL (v.map fun _ => anyB) = v.map fun _ => anyB
  | [] => rfl
  | b :: v => by
    show hv anyB :: hv.hvL (v.map fun _ => anyB) = _
    rw [any_hv v]
    rfl
theorem tsD_hv (l : List TLV) : hv.hvL (tsD l) = tsX l := map_hvL (fun t => by simp only [tD, tX, hv, hv.hvL, bsA_hv]; rfl) l
theorem tsX_hv (l : List TLV) : hv.hvL (tsX l) = tsX l := map_hvL (fun t => by simp only [tX, hv, hv.hvL, any_hv]) l
theorem vsD_hv (l : List (List UInt8)) : hv.hvL (vsD l) = vsX l := map_hvL (fun t => by simp only [vD, vX, hv, bsA_hv]) l
theorem vsX_hv (l : List (List UInt8)) : hv.hvL (vsX l) = vsX l := map_hvL (fun t => by simp only [vX, hv, any_hv]) l
theorem cell_tD {l : List TLV} {i : Nat} (h : i < l.length) : cellOf 2 (tsD l) (i * 2 + 1) = some (vD l[i].2) := by
  unfold cellOf
  rw [show (i * 2 + 1) / 2 = i by omega, show (i * 2 + 1) % 2 = 1 by omega]
  simp only [tsD, List.getElem?_map, List.getElem?_eq_getElem h]
  rfl
theorem cell_tX {l : List TLV} {i : Nat} (h : i < l.length) : cellOf 2 (tsX l) (i * 2 + 1) = some (vX l[i].2) := by
  unfold cellOf
  rw [show (i * 2 + 1) / 2 = i by omega, show (i * 2 + 1) % 2 = 1 by omega]
  simp only [tsX, List.getElem?_map, List.getElem?_eq_getElem h]
  rfl
theorem cell_vD {l : List (List UInt8)} {i : Nat} (h : i < l.length) : cellOf 1 (vsD l) (i * 1) = some (vD l[i]) := by
  unfold cellOf
  rw [show (i * 1) / 1 = i by omega, show (i * 1) % 1 = 0 by omega]
  simp only [vsD, List.getElem?_map, List.getElem?_eq_getElem h]
  rfl
theorem cell_vX {l : List (List UInt8)} {i : Nat} (h : i < l.length) : cellOf 1 (vsX l) (i * 1) = some (vX l[i]) := by
  unfold cellOf
  rw [show (i * 1) / 1 = i by omega, show (i * 1) % 1 = 0 by omega]
  simp only [vsX, List.getElem?_map, List.getElem?_eq_getElem h]
  rfl
theorem get_any {v : List UInt8} {j : Nat} (h : j < v.length) : (v.map fun _ => anyB)[j]? = some anyB := by
  rw [List.getElem?_map, List.getElem?_eq_getElem h]; rfl
theorem tsX_len (l : List TLV) : (tsX l).length = l.length := by simp [tsX]
theorem vsX_len (l : List (List UInt8)) : (vsX l).length = l.length := by simp [vsX]

/-! ### TlvSplits -/
theorem inT_x (p : List UInt8) (l : List TLV) (i : Nat) (hi : i < l.length) (hs : l[i].2.length < 1073741824) : Runs Try.prog T4 83 (Cd.loop [] lp4x0) (sS0 p (tsX l) l.length i l[i].2.length 0) fun x => x = (Ex.exit 2, sS1 p (tsX l) l.length i) :=
  Runs.upto (S := fun j => sS0 p (tsX l) l.length i l[i].2.length j) (j := l[i].2.length) (fun j hj => SplitsIn_next p l i j _ l[i].2 (by simpa using hj) (by rw [tsX_len]; omega) (cell_tX hi) (get_any hj) (wrap_succ (by omega)) (LeR.of_eq (by rw [tsX_hv]))) (SplitsIn_end p _ i _ _ _ (by simp)) (by simp)
theorem inT_d (p : List UInt8) (l : List TLV) (i : Nat) (hi : i < l.length) (hs : l[i].2.length < 1073741824) : Runs Try.prog T4 83 (Cd.loop [] lp4x0) (sS0 p (tsD l) l.length i l[i].2.length 0) fun x => x = (Ex.exit 2, sS1 p (if l[i].2 = [] then tsD l else tsX l) l.length i) := by
  by_cases he : l[i].2 = []
  · rw [if_pos he]
    exact Runs.upto (S := fun j => sS0 p (tsD l) l.length i l[i].2.length j) (j := 0) (fun j hj => by omega) (SplitsIn_end p _ i _ _ _ (by simp [he])) (by simp)
  · rw [if_neg he]
    have hpos : 0 < l[i].2.length := List.length_pos_iff.2 he
    refine Runs.upto (S := fun j => sS0 p (if j = 0 then tsD l else tsX l) l.length i l[i].2.length j) (j := l[i].2.length) (fun j hj => ?_) ?_ (by simp)
    · rw [if_neg (by omega : ¬ j + 1 = 0)]
      by_cases hj0 : j = 0
      · subst hj0
        rw [if_pos rfl]
        exact SplitsIn_first p l i 0 _ l[i].2 l[i].2[0] (by simpa using hpos) (by rw [tsD_len]; omega) (cell_tD hi) (get_bA hpos) (wrap_succ (by omega)) (LeR.of_eq (by rw [tsD_hv]))
      · rw [if_neg hj0]
        exact SplitsIn_next p l i j _ l[i].2 (by simpa using hj) (by rw [tsX_len]; omega) (cell_tX hi) (get_any hj) (wrap_succ (by omega)) (LeR.of_eq (by rw [tsX_hv]))
    · rw [if_neg (by omega)]
      exact SplitsIn_end p _ i _ _ _ (by simp)
theorem outT (p : List UInt8) (l : List TLV) (hs : Small l) : Runs Try.prog T4 83 (Cd.loop [] lp4x1) (sS1 p (tsD l) l.length 0) fun x => x = (Ex.exit 0, st 83 [(0, slB p), (4, AV.own false 1 (bsA (spare p)))]) := by
  obtain ⟨hs, hv⟩ := hs
  refine Runs.upto (S := fun i => sS1 p (if ∀ t ∈ l.take i, t.2 = [] then tsD l else tsX l) l.length i) (j := l.length) (fun i hi => ?_) (SplitsOut_end p _ _ _ (by simp)) (by simp)
  have h2 := hv l[i] (List.getElem_mem _)
  have hw : IntKind.i64.wrap ((i : Int) + 1) = ((i + 1 : Nat) : Int) := wrap_succ (by omega)
  have key : (∀ t ∈ l.take (i + 1), t.2 = []) ↔ (∀ t ∈ l.take i, t.2 = []) ∧ l[i].2 = [] := by
    rw [List.take_succ_eq_append_getElem hi]
    simp only [List.mem_append, List.mem_singleton]
    exact ⟨fun h => ⟨fun t ht => h t (.inl ht), h _ (.inr rfl)⟩, fun h t ht => ht.elim (h.1 t) (fun e => by rw [e]; exact h.2)⟩
  by_cases hd : ∀ t ∈ l.take i, t.2 = []
  · have := SplitsOut_d p l _ i l[i].2 (by simpa using hi) (by rw [tsD_len]; omega) (cell_tD hi) (by simp) (inT_d p l i hi (by omega)) hw
    simp only [if_pos hd]
    by_cases he : l[i].2 = []
    · rw [if_pos he] at this
      simp only [if_pos (key.2 ⟨hd, he⟩)]
      exact this
    · rw [if_neg he] at this
      simp only [if_neg (fun h => he (key.1 h).2)]
      exact this
  · simp only [if_neg hd, if_neg (fun h => hd (key.1 h).1)]
    exact SplitsOut_x p l i l[i].2 (by simpa using hi) (by rw [tsX_len]; omega) (cell_tX hi) (by simp) (inT_x p l i hi (by omega)) hw
theorem deepT_ts (l : List TLV) (e : Nat) : AV.tup (deepT [AV.own true 2 (tsF l), ni e]) = AV.tup [AV.own true 2 (tsD l), ni e] := by
  cases l with
  | nil => rfl
  | cons t l =>
    show AV.tup [AV.own true 2 (deepen.dL (tsF (t :: l))), ni e] = _
    rw [tsF_dL]
theorem deepT_bs (v : List UInt8) (e : Nat) : AV.tup (deepT [AV.own true 1 (bsA v), ni e]) = AV.tup [AV.own true 1 (bsA v), ni e] := by
  simp [deepT, flatR, flat]
theorem Splits_ok' (p : List UInt8) (hs : p.length < 1073741824) : FnOk Try.prog 4 [slB p] (.bool true) := by
  have cK : FnW Try.prog 17 [AV.sl false false 1 (stale.sL (bsA (spare p))), AV.sl false false 1 (stale.sL (bsA p))] [slB (spare p), slB p] (AV.bool true) := .of (.cons (slB_arg _) (.cons (slB_arg _) .nil)) (Kept_ok p hs)
  have cA : FnW Try.prog 7 [] [] (AV.bool true) := ⟨.refl, awake_ok⟩
  have cS : FnW Try.prog 11 [AV.sl false false 1 (stale.sL (bsA p))] [slB p] (AV.tup [AV.sl true true 1 (bsA p), AV.own false 1 (bsA (spare p))]) := .of (.cons (slB_arg _) .nil) (Spare_ok p hs)
  have fS : freshA (AV.tup [AV.sl true true 1 (bsA p), AV.own false 1 (bsA (spare p))]) = true := by simp [freshA, freshA.freshL]
  have c12 : FnW Try.prog 12 [AV.sl false true 1 (stale.sL (bsA p))] [slB p] (splitS p) := .of (.cons (.sl_eq (by simp)) .nil) (Split_ok' p)
  have c13 : FnW Try.prog 13 [AV.sl false false 1 (stale.sL (bsA p))] [slB p] (splitS p) := .of (.cons (slB_arg _) .nil) (DSplit_ok' p)
  have err : ∀ e : Nat, e ≠ 0 → splitS p = .tup [.nils, ni e] → FnOk Try.prog 4 [slB p] (.bool true) := by
    intro e he h
    rw [h] at c12 c13
    refine Splits_err p e cA cS fS c12 c13 (.of (.cons .nils (.cons .nils .nil)) (by have := Same_ok [] [] ⟨by simp, by simp⟩; rwa [decide_eq_true rfl] at this)) (by simp) (by simp; omega) ?_ cK
    exact Runs.upto (S := fun i => sS1 p [] 0 i) (j := 0) (fun i hi => by omega) (SplitsOut_end p [] 0 0 (by simp)) (by simp)
  unfold splitS at err c12 c13
  by_cases hl : p.length > 1492
  · exact err 2 (by simp) (by rw [if_pos hl])
  · rw [if_neg hl] at err c12 c13
    cases h : parse p with
    | none =>
      rw [h] at err
      exact err 3 (by simp) rfl
    | some l =>
      rw [h] at c12 c13
      obtain ⟨hf, he, hS⟩ := parse_fits (by omega) h
      have hj := Join_ok' l hS
      unfold joinS at hj
      rw [if_pos hf, he] at hj
      exact Splits_ok p l cA cS fS c12 (by simp [freshA, freshA.freshL]) (deepT_ts l 0) c13
        (.of (.cons (.sl_eq (by simp)) (.cons (.sl_eq (by simp)) .nil)) (by have := Same_ok l l hS; rwa [decide_eq_true rfl] at this))
        (.of (.cons (.sl_eq (by simp)) .nil) hj) (by simp [freshA, freshA.freshL]) (deepT_bs p 0) (.of (.cons (.sl_eq (by simp)) (.cons (.sl_eq (by simp)) .nil)) (by have := SameBytes_ok p p (by omega); rwa [decide_eq_true rfl] at this))
        (LeR.of_eq (by simp)) (outT p l hS) cK
end Go.Ev

/-! text P8 -/
set_option linter.unusedVariables false
namespace Go.Ev
open Go.Proofs (Try.prog)

/-! ### TlvJoins -/
theorem inV_x_o (l : List TLV) (p : List UInt8) (X : List (List UInt8)) (i : Nat) (hi : i < X.length) (hs : X[i].length < 1073741824) : Runs Try.prog T6 116 (Cd.loop [] lp6x0) (sJo0 l p (vsX X) X.length i X[i].length 0) fun x => x = (Ex.exit 2, sJo1 l p (vsX X) X.length i) :=
  Runs.upto (S := fun j => sJo0 l p (vsX X) X.length i X[i].length j) (j := X[i].length) (fun j hj => JoinsIn_next_o l p X i j _ X[i] (by simpa using hj) (by rw [vsX_len]; omega) (cell_vX hi) (get_any hj) (wrap_succ (by omega)) (LeR.of_eq (by rw [vsX_hv]))) (JoinsIn_end_o l p _ i _ _ _ (by simp)) (by simp)
theorem inV_d_o (l : List TLV) (p : List UInt8) (X : List (List UInt8)) (i : Nat) (hi : i < X.length) (hs : X[i].length < 1073741824) : Runs Try.prog T6 116 (Cd.loop [] lp6x0) (sJo0 l p (vsD X) X.length i X[i].length 0) fun x => x = (Ex.exit 2, sJo1 l p (if X[i] = [] then vsD X else vsX X) X.length i) := by
  by_cases he : X[i] = []
  · rw [if_pos he]
    exact Runs.upto (S := fun j => sJo0 l p (vsD X) X.length i X[i].length j) (j := 0) (fun j hj => by omega) (JoinsIn_end_o l p _ i _ _ _ (by simp [he])) (by simp)
  · rw [if_neg he]
    have hpos : 0 < X[i].length := List.length_pos_iff.2 he
    refine Runs.upto (S := fun j => sJo0 l p (if j = 0 then vsD X else vsX X) X.length i X[i].length j) (j := X[i].length) (fun j hj => ?_) ?_ (by simp)
    · rw [if_neg (by omega : ¬ j + 1 = 0)]
      by_cases hj0 : j = 0
      · subst hj0
        rw [if_pos rfl]
        exact JoinsIn_first_o l p X i 0 _ X[i] X[i][0] (by simpa using hpos) (by rw [vsD_len]; omega) (cell_vD hi) (get_bA hpos) (wrap_succ (by omega)) (LeR.of_eq (by rw [vsD_hv]))
      · rw [if_neg hj0]
        exact JoinsIn_next_o l p X i j _ X[i] (by simpa using hj) (by rw [vsX_len]; omega) (cell_vX hi) (get_any hj) (wrap_succ (by omega)) (LeR.of_eq (by rw [vsX_hv]))
    · rw [if_neg (by omega)]
      exact JoinsIn_end_o l p _ i _ _ _ (by simp)
theorem outV_o (l : List TLV) (p : List UInt8) (X : List (List UInt8)) (hs : X.length < 1073741824) (hv : ∀ v ∈ X, v.length < 1073741824) : Runs Try.prog T6 116 (Cd.loop [] lp6x1) (sJo1 l p (vsD X) X.length 0) fun x => x = (Ex.exit 0, sJo2 l p) := by
  refine Runs.upto (S := fun i => sJo1 l p (if ∀ t ∈ X.take i, t = [] then vsD X else vsX X) X.length i) (j := X.length) (fun i hi => ?_) (JoinsOut_end_o l p _ _ _ (by simp)) (by simp)
  have h2 := hv X[i] (List.getElem_mem _)
  have hw : IntKind.i64.wrap ((i : Int) + 1) = ((i + 1 : Nat) : Int) := wrap_succ (by omega)
  have key : (∀ t ∈ X.take (i + 1), t = []) ↔ (∀ t ∈ X.take i, t = []) ∧ X[i] = [] := by
    rw [List.take_succ_eq_append_getElem hi]
    simp only [List.mem_append, List.mem_singleton]
    exact ⟨fun h => ⟨fun t ht => h t (.inl ht), h _ (.inr rfl)⟩, fun h t ht => ht.elim (h.1 t) (fun e => by rw [e]; exact h.2)⟩
  by_cases hd : ∀ t ∈ X.take i, t = []
  · have := JoinsOut_d_o l p X _ i X[i] (by simpa using hi) (by rw [vsD_len]; omega) (cell_vD hi) (by simp) (inV_d_o l p X i hi (by omega)) hw
    simp only [if_pos hd]
    by_cases he : X[i] = []
    · rw [if_pos he] at this
      simp only [if_pos (key.2 ⟨hd, he⟩)]
      exact this
    · rw [if_neg he] at this
      simp only [if_neg (fun h => he (key.1 h).2)]
      exact this
  · simp only [if_neg hd, if_neg (fun h => hd (key.1 h).1)]
    exact JoinsOut_x_o l p X i X[i] (by simpa using hi) (by rw [vsX_len]; omega) (cell_vX hi) (by simp) (inV_x_o l p X i hi (by omega)) hw
theorem inV_x_l (l : List TLV) (p : List UInt8) (X : List (List UInt8)) (i : Nat) (hi : i < X.length) (hs : X[i].length < 1073741824) : Runs Try.prog T6 116 (Cd.loop [] lp6x0) (sJl0 l p (vsX X) X.length i X[i].length 0) fun x => x = (Ex.exit 2, sJl1 l p (vsX X) X.length i) :=
  Runs.upto (S := fun j => sJl0 l p (vsX X) X.length i X[i].length j) (j := X[i].length) (fun j hj => JoinsIn_next_l l p X i j _ X[i] (by simpa using hj) (by rw [vsX_len]; omega) (cell_vX hi) (get_any hj) (wrap_succ (by omega)) (LeR.of_eq (by rw [vsX_hv]))) (JoinsIn_end_l l p _ i _ _ _ (by simp)) (by simp)
theorem inV_d_l (l : List TLV) (p : List UInt8) (X : List (List UInt8)) (i : Nat) (hi : i < X.length) (hs : X[i].length < 1073741824) : Runs Try.prog T6 116 (Cd.loop [] lp6x0) (sJl0 l p (vsD X) X.length i X[i].length 0) fun x => x = (Ex.exit 2, sJl1 l p (if X[i] = [] then vsD X else vsX X) X.length i) := by
  by_cases he : X[i] = []
  · rw [if_pos he]
    exact Runs.upto (S := fun j => sJl0 l p (vsD X) X.length i X[i].length j) (j := 0) (fun j hj => by omega) (JoinsIn_end_l l p _ i _ _ _ (by simp [he])) (by simp)
  · rw [if_neg he]
    have hpos : 0 < X[i].length := List.length_pos_iff.2 he
    refine Runs.upto (S := fun j => sJl0 l p (if j = 0 then vsD X else vsX X) X.length i X[i].length j) (j := X[i].length) (fun j hj => ?_) ?_ (by simp)
    · rw [if_neg (by omega : ¬ j + 1 = 0)]
      by_cases hj0 : j = 0
      · subst hj0
        rw [if_pos rfl]
        exact JoinsIn_first_l l p X i 0 _ X[i] X[i][0] (by simpa using hpos) (by rw [vsD_len]; omega) (cell_vD hi) (get_bA hpos) (wrap_succ (by omega)) (LeR.of_eq (by rw [vsD_hv]))
      · rw [if_neg hj0]
        exact JoinsIn_next_l l p X i j _ X[i] (by simpa using hj) (by rw [vsX_len]; omega) (cell_vX hi) (get_any hj) (wrap_succ (by omega)) (LeR.of_eq (by rw [vsX_hv]))
    · rw [if_neg (by omega)]
      exact JoinsIn_end_l l p _ i _ _ _ (by simp)
theorem outV_l (l : List TLV) (p : List UInt8) (X : List (List UInt8)) (hs : X.length < 1073741824) (hv : ∀ v ∈ X, v.length < 1073741824) : Runs Try.prog T6 116 (Cd.loop [] lp6x1) (sJl1 l p (vsD X) X.length 0) fun x => x = (Ex.exit 0, sJl2 l p) := by
  refine Runs.upto (S := fun i => sJl1 l p (if ∀ t ∈ X.take i, t = [] then vsD X else vsX X) X.length i) (j := X.length) (fun i hi => ?_) (JoinsOut_end_l l p _ _ _ (by simp)) (by simp)
  have h2 := hv X[i] (List.getElem_mem _)
  have hw : IntKind.i64.wrap ((i : Int) + 1) = ((i + 1 : Nat) : Int) := wrap_succ (by omega)
  have key : (∀ t ∈ X.take (i + 1), t = []) ↔ (∀ t ∈ X.take i, t = []) ∧ X[i] = [] := by
    rw [List.take_succ_eq_append_getElem hi]
    simp only [List.mem_append, List.mem_singleton]
    exact ⟨fun h => ⟨fun t ht => h t (.inl ht), h _ (.inr rfl)⟩, fun h t ht => ht.elim (h.1 t) (fun e => by rw [e]; exact h.2)⟩
  by_cases hd : ∀ t ∈ X.take i, t = []
  · have := JoinsOut_d_l l p X _ i X[i] (by simpa using hi) (by rw [vsD_len]; omega) (cell_vD hi) (by simp) (inV_d_l l p X i hi (by omega)) hw
    simp only [if_pos hd]
    by_cases he : X[i] = []
    · rw [if_pos he] at this
      simp only [if_pos (key.2 ⟨hd, he⟩)]
      exact this
    · rw [if_neg he] at this
      simp only [if_neg (fun h => he (key.1 h).2)]
      exact this
  · simp only [if_neg hd, if_neg (fun h => hd (key.1 h).1)]
    exact JoinsOut_x_l l p X i X[i] (by simpa using hi) (by rw [vsX_len]; omega) (cell_vX hi) (by simp) (inV_x_l l p X i hi (by omega)) hw
theorem m77_uL (l : List TLV) : undeep.uL (tsD l ++ [m77]) = tsF l ++ [m77] := by rw [uL_app, tsD_uL]; rfl
theorem m77_cut (l : List TLV) (b : Bool) : AV.sl true (false || !(tsF l ++ [m77]).isEmpty) 2 (List.drop 0 (List.take (tsS l).length (tsF l ++ [m77]))) = AV.sl true true 2 (tsF l) := by
  rw [tsS_len, ← tsF_len l, List.take_left]
  simp
theorem Joins_ok' (l : List TLV) (k : UInt8) (hS : Small l) : FnOk Try.prog 6 [slT l, bA k] (.bool true) := by
  have hla := ofK_len l k
  have hl := hS.1
  have cA : FnW Try.prog 7 [] [] (AV.bool true) := ⟨.refl, awake_ok⟩
  have cT : FnW Try.prog 9 [AV.sl false false 2 (stale.sL (tsS l))] [slT l] (AV.own true 2 (tsF l)) := .of (.cons (.sl_eq (by simp)) .nil) (Twin_ok l hS)
  have h4 : ((deepen.dL (tsF l)).length + 1) * 32 ≤ 140737488355328 := by simp; omega
  have h5 : AV.own true 2 (deepen.dL (tsF l) ++ [AV.agg [AV.int IntKind.u8 77, AV.nils]]) = AV.own true 2 (tsD l ++ [m77]) := by rw [tsF_dL]
  have h6 : ((tsS l).length : Int) ≤ ((undeep.uL (tsD l ++ [m77])).length : Int) := by rw [m77_uL]; simp; omega
  have h7 : AV.own false 2 (undeep.uL (tsD l ++ [m77])) = AV.own false 2 (tsF l ++ [m77]) := by rw [m77_uL]
  have h8 : AV.sl true (false || !(undeep.uL (tsD l ++ [m77])).isEmpty) 2 (List.drop 0 (List.take (tsS l).length (undeep.uL (tsD l ++ [m77])))) = AV.sl true true 2 (tsF l) := by rw [m77_uL]; exact m77_cut l true
  have c15 : FnW Try.prog 15 [AV.sl false true 2 (stale.sL (tsF l))] [slT l] (joinS l) := .of (.cons (.sl_eq (by simp)) .nil) (Join_ok' l hS)
  have c19 : FnW Try.prog 19 [AV.sl false false 2 (stale.sL (tsS l))] [slT l] (joinS l) := .of (.cons (.sl_eq (by simp)) .nil) (DJoin_ok' l hS)
  have h13 : ((tsS l).length : Int) ≤ ((tsF l ++ [m77]).length : Int) := by simp; omega
  have h14 := m77_cut l true
  have c8 : FnW Try.prog 8 [AV.sl false true 2 (stale.sL (tsF l)), AV.int IntKind.u8 (k.toNat : Int)] [slT l, bA k] (AV.own true 1 (vsF (ofK l k))) := .of (.cons (.sl_eq (by simp)) (.cons .refl .nil)) (Of_ok l k hS)
  have c20 : FnW Try.prog 20 [AV.sl false false 2 (stale.sL (tsS l)), AV.int IntKind.u8 (k.toNat : Int)] [slT l, bA k] (AV.own true 1 (vsS (ofK l k))) := .of (.cons (.sl_eq (by simp)) (.cons .refl .nil)) (ROf_ok l k hS)
  have hX : ∀ v ∈ ofK l k, v.length < 1073741824 := fun v hv => by
    obtain ⟨t, ht, e⟩ := ofK_mem hv
    rw [← e]
    exact hS.2 t ht
  have c10 : FnW Try.prog 10 [AV.sl false false 1 (stale.sL (undeep.uL (vsD (ofK l k)))), AV.sl false false 1 (stale.sL (undeep.uL (vsS (ofK l k))))] [slV (ofK l k), slV (ofK l k)] (AV.bool true) :=
    .of (.cons (.sl_eq (by simp)) (.cons (.sl_eq (by simp)) .nil)) (by have := SameValues_ok (ofK l k) (ofK l k) (by omega) hX; rwa [decide_eq_true rfl] at this)
  have c14 : FnW Try.prog 14 [AV.sl false true 2 (stale.sL (tsF l)), AV.sl false false 2 (stale.sL (tsS l))] [slT l, slT l] (AV.bool true) := .of (.cons (.sl_eq (by simp)) (.cons (.sl_eq (by simp)) .nil)) (by have := Same_ok l l hS; rwa [decide_eq_true rfl] at this)
  have h25 : (tsF l ++ [m77])[(tsS l).length]? = some m77 := by rw [tsS_len, ← tsF_len l]; simp
  have o := outV_o l (enc l) (ofK l k) (by omega) hX
  have o' := outV_l l (enc l) (ofK l k) (by omega) hX
  have fT : freshA (AV.own true 2 (tsF l)) = true := by simp [freshA]
  unfold joinS at c15 c19
  have fX : ofK l k ≠ [] → freshA (AV.own true 1 (vsS (ofK l k))) = false := by
    intro h
    cases hx : ofK l k with
    | nil => exact absurd hx h
    | cons v r => rfl
  by_cases hf : fits l
  · rw [if_pos hf] at c15 c19
    have cB : FnW Try.prog 16 [AV.sl false false 1 (stale.sL (undeep.uL (bsA (enc l)))), AV.sl false false 1 (stale.sL (undeep.uL (bsA (enc l))))] [slB (enc l), slB (enc l)] (AV.bool true) := .of (.cons (.sl_eq (by simp)) (.cons (.sl_eq (by simp)) .nil)) (by have := SameBytes_ok (enc l) (enc l) (by have := hf.2; omega); rwa [decide_eq_true rfl] at this)
    have c12 : FnW Try.prog 12 [AV.sl false false 1 (stale.sL (undeep.uL (bsA (enc l))))] [slB (enc l)] (AV.tup [AV.own true 2 (tsF l), ni 0]) := by
      have h := Split_ok' (enc l)
      unfold splitS at h
      rw [if_neg (by have := hf.2; omega), enc_parse l hf.1] at h
      exact .of (.cons (.sl_eq (by simp)) .nil) h
    have c14' : FnW Try.prog 14 [AV.sl false false 2 (stale.sL (undeep.uL (tsD l))), AV.sl false false 2 (stale.sL (tsS l))] [slT l, slT l] (AV.bool true) := .of (.cons (.sl_eq (by simp)) (.cons (.sl_eq (by simp)) .nil)) c14.2
    have fB : freshA (AV.tup [AV.own true 1 (bsA (enc l)), ni 0]) = true := by simp [freshA, freshA.freshL]
    have fS : freshA (AV.tup [AV.own true 2 (tsF l), ni 0]) = true := by simp [freshA, freshA.freshL]
    by_cases hx : ofK l k = []
    · rw [hx] at c8 c20 c10 o
      exact Joins_o0 l (enc l) k cA cT fT h4 h5 h6 h7 h8 c15 fB (deepT_bs _ 0) c19 h13 h14 c8 c20 c10 o cB c14 h25 c12 fS (deepT_ts l 0) c14'
    · exact Joins_o1 l (enc l) (ofK l k) k cA cT fT h4 h5 h6 h7 h8 c15 fB (deepT_bs _ 0) c19 h13 h14 c8 (by simp [freshA]) (by rw [vsF_dL]) c20 (fX hx) c10 (LeR.of_eq (by simp)) o cB c14 h25 c12 fS (deepT_ts l 0) c14'
  · rw [if_neg hf] at c15 c19
    have cB : FnW Try.prog 16 [AV.nils, AV.nils] [slB [], slB []] (AV.bool true) := .of (.cons .nils (.cons .nils .nil)) (by have := SameBytes_ok [] [] (by simp); rwa [decide_eq_true rfl] at this)
    by_cases hx : ofK l k = []
    · rw [hx] at c8 c20 c10 o'
      exact Joins_l0 l (enc l) k cA cT fT h4 h5 h6 h7 h8 c15 c19 h13 h14 c8 c20 c10 o' cB c14 h25
    · exact Joins_l1 l (enc l) (ofK l k) k cA cT fT h4 h5 h6 h7 h8 c15 c19 h13 h14 c8 (by simp [freshA]) (by rw [vsF_dL]) c20 (fX hx) c10 (LeR.of_eq (by simp)) o' cB c14 h25
end Go.Ev

/-! text E35 -/
set_option linter.unusedVariables false
set_option linter.unusedSimpArgs false
namespace Go.Ev
open Go.RowKit

/-! ### What comes in: from a reading to abstract values -/
/-- An element, by its cells. -/
def elD (g : Option Nat) (ys : List AV) : Option AV :=
  match g, ys with
  | some _, ys => some (.agg ys)
  | none, [y] => if single y then some y else none
  | _, _ => none
def fsD {H : Type} (P : Program) (f : TypeId → DataW H → Option (List AV)) : Nat → List Field → List (DataW H) → Option (List AV)
  | _, [], [] => some []
  | off, fl :: fs, d :: ds => match f fl.type d, fsD P f (off + P.cellsOf fl.type) fs ds with
    | some xs, some ys => if fl.offset = off ∧ xs.length = P.cellsOf fl.type then some (xs ++ ys) else none
    | _, _ => none
  | _, _, _ => none
/-- The cells of a value of a type, by what was read. -/
def avD {H : Type} (P : Program) : Nat → TypeId → DataW H → Option (List AV)
  | 0, _, _ => none
  | n + 1, t, d => match P.underlying t, d with
    | some .bool, .lit (.bool b) => some [.bool b]
    | some (.int _), .lit (.int k m) => some [.int k m]
    | some .string, .lit (.string bs) => some [.str ⟨bs.toArray⟩]
    | some (.pointer _), .nil => some [.nilp]
    | some (.slice e), .nil => some [.sl false false (P.cellsOf e) []]
    | some (.slice e), .slice elems _ => match aggOf P e with
      | some g => if 0 < P.cellsOf e then (mapOpt (fun d => match avD P n e d with
        | some ys => if ys.length = P.cellsOf e then elD g ys else none
        | none => none) elems).map fun xs => [.sl false false (P.cellsOf e) xs] else none
      | none => none
    | some (.struct fs), .agg ds => fsD P (avD P n) 0 fs.toList ds
    | some (.array m e), .agg ds => (mapOpt (fun d => match avD P n e d with
        | some ys => if ys.length = P.cellsOf e then some ys else none
        | none => none) ds).map List.flatten
    | _, _ => none

/-- All that is there stays as it is. -/
def cellsIn (W : World) (g : Nat) : Nat :=
  match W.heap[g]? with
  | some (.cells cs _ _) => cs.size
  | _ => 0
def ghIn (W : World) : Gh := ⟨W.heap.size, cellsIn W, fun _ => none, fun _ => none, fun _ => False⟩
theorem cellsIn_new (W : World) : ∀ g, W.heap.size ≤ g → cellsIn W g = 0 := by
  intro g hg
  unfold cellsIn
  rw [Array.getElem?_eq_none hg]
theorem cell_in {W : World} {a : Addr} {v : Value} (h : W.cell? a = some v) : a = ⟨a.block, a.off, none⟩ ∧ a.off < cellsIn W a.block := by
  unfold World.cell? at h
  unfold cellsIn
  cases hb : W.heap[a.block]? with
  | none => simp [hb] at h
  | some ob =>
    cases ob with
    | cells cs e f =>
      simp only [hb] at h ⊢
      split at h
      · cases h
      · rename_i hs
        refine ⟨?_, (Array.getElem?_eq_some_iff.1 h).1⟩
        cases a with
        | mk b o s =>
          cases s with
          | none => rfl
          | some _ => simp at hs
    | _ => simp [hb] at h

theorem mapM_some {α β : Type} {f : α → Option β} : ∀ {l : List α} {r : List β}, l.mapM f = some r → r.length = l.length ∧ ∀ (j : Nat) (x : α), l[j]? = some x → ∃ y, r[j]? = some y ∧ f x = some y
  | [], r, h => by
    simp at h
    subst h
    exact ⟨rfl, fun j x h => by simp at h⟩
  | x :: l, r, h => by
    rw [List.mapM_cons] at h
    cases h1 : f x with
    | none => simp [h1] at h
    | some y =>
      cases h2 : l.mapM f with
      | none => simp [h1, h2] at h
      | some ys =>
        simp [h1, h2] at h
        subst h
        obtain ⟨e1, e2⟩ := mapM_some h2
        refine ⟨by simp [e1], fun j z hz => ?_⟩
        cases j with
        | zero => simp at hz; subst hz; exact ⟨y, rfl, h1⟩
        | succ j => simpa using e2 j z (by simpa using hz)
theorem cells_in {W : World} {base n : Nat} {a : Addr} {cs : List Value} (h : W.cells? base a n = some cs) : cs.length = n ∧ ∀ (j : Nat), j < n → ∃ u, cs[j]? = some u ∧ W.cell? (a.add j) = some u := by
  unfold World.cells? at h
  split at h
  · obtain ⟨e1, e2⟩ := mapM_some h
    refine ⟨by simpa using e1, fun j hj => ?_⟩
    obtain ⟨u, h1, h2⟩ := e2 j j (by simp [hj])
    exact ⟨u, h1, h2⟩
  · cases h
theorem fsD_V {H : Type} {P : Program} {W : World} {f : TypeId → DataW H → Option (List AV)} {tr : TypeId → List Value → Option (DataW H × List MemPlace)} (hf : ∀ t cs d ps ys, tr t cs = some (d, ps) → f t d = some ys → cs.length = ys.length → VL (ghIn W) W ys cs) :
    ∀ (fs : List Field) (off : Nat) (cs : List Value) (xs : List (DataW H × List MemPlace)) (ys : List AV), (∀ (i : Nat) (fl : Field), fs[i]? = some fl → tr fl.type ((cs.drop fl.offset).take (P.cellsOf fl.type)) = xs[i]?) → fsD P f off fs (xs.map (·.1)) = some ys → cs.length = off + ys.length → VL (ghIn W) W ys (cs.drop off)
  | [], off, cs, xs, ys, h1, h2, hl => by
    cases xs with
    | cons _ _ => simp [fsD] at h2
    | nil =>
      simp only [List.map_nil, fsD, Option.some.injEq] at h2
      subst h2
      rw [List.drop_eq_nil_of_le (by simp at hl; omega)]
      rfl
  | fl :: fs, off, cs, xs, ys, h1, h2, hl => by
    cases xs with
    | nil => simp [fsD] at h2
    | cons x xs' =>
      have h3 : tr fl.type ((cs.drop fl.offset).take (P.cellsOf fl.type)) = some x := h1 0 fl rfl
      simp only [List.map_cons, fsD] at h2
      cases h5 : f fl.type x.1 with
      | none => simp [h5] at h2
      | some y1 =>
        cases h6 : fsD P f (off + P.cellsOf fl.type) fs (xs'.map (·.1)) with
        | none => simp [h5, h6] at h2
        | some y2 =>
          simp only [h5, h6] at h2
          split at h2
          · rename_i hc
            obtain ⟨c1, c2⟩ := hc
            simp only [Option.some.injEq] at h2
            subst h2
            have v1 := hf fl.type _ x.1 x.2 y1 h3 h5 (by rw [List.length_take, List.length_drop, c1, c2]; simp at hl; omega)
            have v2 := fsD_V hf fs (off + P.cellsOf fl.type) cs xs' y2 (fun i f' hi => by simpa using h1 (i + 1) f' (by simpa using hi)) h6 (by simp at hl; omega)
            rw [c1] at v1
            have hsplit : cs.drop off = (cs.drop off).take (P.cellsOf fl.type) ++ cs.drop (off + P.cellsOf fl.type) := by
              rw [← List.drop_drop, List.take_append_drop]
            rw [hsplit]
            exact VL_app v1 v2
          · cases h2
where
  VL_app {γ : Gh} {w : World} : ∀ {xs ys : List AV} {us vs : List Value}, VL γ w xs us → VL γ w ys vs → VL γ w (xs ++ ys) (us ++ vs)
    | [], _, _, _, h, h2 => by cases h; exact h2
    | x :: xs, _, _, _, ⟨v, r, e, h1, h2⟩, h3 => by subst e; exact ⟨v, r ++ _, rfl, h1, VL_app h2 h3⟩

theorem VL_flat {γ : Gh} {w : World} {z : Nat} : ∀ {yss : List (List AV)} {us : List Value}, (∀ y ∈ yss, y.length = z) → us.length = yss.length * z → (∀ (i : Nat) (y : List AV), yss[i]? = some y → VL γ w y ((us.drop (i * z)).take z)) → VL γ w yss.flatten us
  | [], us, _, hl, _ => by
    have : us = [] := List.eq_nil_of_length_eq_zero (by simpa using hl)
    subst this
    rfl
  | y :: yss, us, hz, hl, h => by
    have h0 := h 0 y rfl
    rw [Nat.zero_mul, List.drop_zero] at h0
    have hl' : us.length = yss.length * z + z := by rw [hl, List.length_cons, Nat.add_mul, Nat.one_mul]
    have h1 := VL_flat (γ := γ) (w := w) (z := z) (yss := yss) (us := us.drop z) (fun y hy => hz y (List.mem_cons_of_mem _ hy)) (by rw [List.length_drop, hl']; omega) (fun i y hy => by
      have := h (i + 1) y (by simpa using hy)
      rwa [List.drop_drop, show z + i * z = (i + 1) * z by rw [Nat.add_mul]; omega])
    rw [List.flatten_cons, ← List.take_append_drop z us]
    exact fsD_V.VL_app h0 h1

/-- What is read at the call's begin, as abstract values. -/
theorem open_V {H : Type} {enc : TypeId × Value → H} {P : Program} {W : World} {base : Nat} {sp : Nat → Bool} {held : Bool} : ∀ (m n : Nat) (t : TypeId) (cs : List Value) (d : DataW H) (ps : List MemPlace) (ys : List AV),
    DataW.trod enc P W base sp held n t cs = some (d, ps) → avD P m t d = some ys → cs.length = ys.length → VL (ghIn W) W ys cs
  | 0, n, t, cs, d, ps, ys, _, h, _ => by simp [avD] at h
  | m + 1, n, t, cs, d, ps, ys, h, ha, hcl => by
    have IH := fun n => open_V (enc := enc) (P := P) (W := W) (base := base) (sp := sp) (held := held) m n
    simp only [avD] at ha
    cases hu : P.underlying t with
    | none => simp [hu] at ha
    | some td =>
      rw [hu] at ha
      cases td with
      | bool =>
        obtain ⟨b, rfl, e⟩ := DataW.trod_bool hu h
        cases e
        simp only [Option.some.injEq] at ha
        subst ha
        exact ⟨_, _, rfl, rfl, rfl⟩
      | int k =>
        obtain ⟨b, rfl, e, _⟩ := DataW.trod_int hu h
        cases e
        simp only [Option.some.injEq] at ha
        subst ha
        exact ⟨_, _, rfl, rfl, rfl⟩
      | string =>
        obtain ⟨b, rfl, e, _⟩ := DataW.trod_string hu h
        cases e
        simp only [Option.some.injEq] at ha
        subst ha
        exact ⟨_, _, rfl, by show _ = _; simp, rfl⟩
      | pointer e =>
        rcases DataW.trod_pointer hu h with ⟨rfl, e⟩ | ⟨a, cs', y, n', _, rfl, e, _⟩
        · cases e
          simp only [Option.some.injEq] at ha
          subst ha
          exact ⟨_, _, rfl, rfl, rfl⟩
        · cases e; cases ha
      | slice e =>
        rcases DataW.trod_slice hu h with ⟨rfl, e⟩ | ⟨a, len, cap, elems, rest, n', _, rfl, e1, hb, hlc, _, hel, helem, _⟩
        · cases e
          simp only [Option.some.injEq] at ha
          subst ha
          exact ⟨_, _, rfl, ⟨none, 0, rfl, Nat.le_refl _, fun _ => ⟨rfl, rfl, rfl⟩, (fun _ _ h => nomatch h), fun h => absurd rfl h⟩, rfl⟩
        · cases e1
          simp only at ha
          cases hg : aggOf P e with
          | none => simp [hg] at ha
          | some g =>
            simp only [hg] at ha
            split at ha
            · rename_i hz
              obtain ⟨xs, hxs, rfl⟩ := map_some ha
              obtain ⟨m1, m2⟩ := mapOpt_get hxs
              rw [List.length_map] at m1
              -- element i, its cells
              have hi : ∀ (i : Nat) (x : AV), xs[i]? = some x → ∃ ys cs, cs.length = P.cellsOf e ∧ ys.length = P.cellsOf e ∧ elD g ys = some x ∧ VL (ghIn W) W ys cs ∧ ∀ j, j < P.cellsOf e → ∃ u, cs[j]? = some u ∧ W.cell? ((a.add (i * P.cellsOf e)).add j) = some u := by
                intro i x hx
                have hlt : i < len := by
                  have := (List.getElem?_eq_some_iff.1 hx).1
                  omega
                obtain ⟨d, hd, hdx⟩ := m2 i x hx
                rw [List.getElem?_map] at hd
                have hE := helem i hlt
                cases he : elems[i]? with
                | none => rw [he] at hd; cases hd
                | some z =>
                  rw [he] at hd hE
                  simp only [Option.map_some, Option.some.injEq] at hd
                  subst hd
                  obtain ⟨cs, hc, ht⟩ := bind_some hE
                  obtain ⟨hcl', hcc⟩ := cells_in hc
                  cases hy : avD P m e z.1 with
                  | none => simp [hy] at hdx
                  | some ys =>
                    simp only [hy] at hdx
                    split at hdx
                    · rename_i hyl
                      exact ⟨ys, cs, hcl', hyl, hdx, IH n' e cs z.1 z.2 ys ht hy (by rw [hcl', hyl]), hcc⟩
                    · cases hdx
              refine ⟨_, _, rfl, ⟨some a, cap, by rw [m1, hel], by rw [m1, hel]; exact hlc, (fun e => by cases e), (fun _ _ e => nomatch e), fun hne => ?_⟩, rfl⟩
              have hpos : 0 < xs.length := List.length_pos_iff.2 hne
              obtain ⟨ys0, cs0, _, _, _, _, hc0⟩ := hi 0 _ (List.getElem?_eq_getElem hpos)
              obtain ⟨u0, _, hu0⟩ := hc0 0 hz
              have ha : a = ⟨a.block, a.off, none⟩ := by
                have := (cell_in hu0).1
                rw [Nat.zero_mul] at this
                simpa [Addr.add] using this
              refine ⟨a.block, a.off, by rw [← ha], ?_, VS_mk fun i x hx => ?_⟩
              · obtain ⟨ys1, cs1, _, _, _, _, hc1⟩ := hi (xs.length - 1) _ (List.getElem?_eq_getElem (by omega))
                obtain ⟨u1, _, hu1⟩ := hc1 (P.cellsOf e - 1) (by omega)
                rw [ha, add_none, add_none] at hu1
                have := (cell_in hu1).2
                simp only at this
                show a.off + xs.length * P.cellsOf e ≤ cellsIn W a.block
                have e1 : xs.length * P.cellsOf e = (xs.length - 1) * P.cellsOf e + P.cellsOf e := by
                  rw [← Nat.succ_mul]; congr 1; omega
                omega
              · obtain ⟨ys, cs, l1, l2, hel', hv, hc⟩ := hi i x hx
                have hvc : VC (ghIn W) W ys a.block (a.off + i * P.cellsOf e) := VC_of_VL hv fun j u hj => by
                  obtain ⟨u', h1, h2⟩ := hc j (by have := (List.getElem?_eq_some_iff.1 hj).1; omega)
                  rw [hj] at h1
                  cases h1
                  rw [ha, add_none, add_none] at h2
                  exact h2
                have hcx : cellsOf x = ys := by
                  cases g with
                  | some k => simp only [elD, Option.some.injEq] at hel'; subst hel'; rfl
                  | none =>
                    match ys, hel' with
                    | [y], hel' =>
                      simp only [elD] at hel'
                      split at hel'
                      · rename_i hs
                        cases hel'
                        cases x <;> first | rfl | cases hs
                      · cases hel'
                exact VE_of (by rw [hcx]; exact l2) (by rw [hcx]; exact hvc)
            · cases ha
      | struct fs =>
        obtain ⟨xs, n', rfl, e, hcs, hxl, hx⟩ := DataW.trod_struct hu h
        cases e
        simp only at ha
        have := fsD_V (P := P) (W := W) (f := avD P m) (tr := DataW.trod enc P W base sp held n') (fun t cs d ps ys h1 h2 h3 => IH n' t cs d ps ys h1 h2 h3) fs.toList 0 cs xs ys (fun i f hf => hx i f (by simpa using hf)) ha (by rw [Nat.zero_add]; exact hcl)
        simpa using this
      | array k e =>
        obtain ⟨xs, n', rfl, e1, hcs, hxl, hx⟩ := DataW.trod_array hu h
        cases e1
        simp only at ha
        obtain ⟨yss, hy, rfl⟩ := map_some ha
        obtain ⟨m1, m2⟩ := mapOpt_get hy
        rw [List.length_map] at m1
        have hall : ∀ (i : Nat) (y : List AV), yss[i]? = some y → ∃ z, xs[i]? = some z ∧ avD P m e z.1 = some y ∧ y.length = P.cellsOf e := by
          intro i y hyi
          obtain ⟨d, hd, hdx⟩ := m2 i y hyi
          rw [List.getElem?_map] at hd
          cases hz : xs[i]? with
          | none => rw [hz] at hd; cases hd
          | some z =>
            rw [hz] at hd
            simp only [Option.map_some, Option.some.injEq] at hd
            subst hd
            cases hav : avD P m e z.1 with
            | none => simp [hav] at hdx
            | some y' =>
              simp only [hav] at hdx
              split at hdx
              · rename_i hl; cases hdx; exact ⟨z, rfl, hav, hl⟩
              · cases hdx
        have hlen : cs.length = yss.length * P.cellsOf e := by
          rw [hcl]
          have : ∀ (l : List (List AV)), (∀ y ∈ l, y.length = P.cellsOf e) → l.flatten.length = l.length * P.cellsOf e := by
            intro l
            induction l with
            | nil => intro _; simp
            | cons y l ih => intro h; rw [List.flatten_cons, List.length_append, ih fun y hy => h y (List.mem_cons_of_mem _ hy), h y (List.mem_cons_self ..), List.length_cons, Nat.add_mul]; omega
          exact this yss fun y hy => by
            obtain ⟨i, hi, e⟩ := List.getElem_of_mem hy
            obtain ⟨z, _, _, hl⟩ := hall i y (by rw [← e]; exact List.getElem?_eq_getElem hi)
            exact hl
        refine VL_flat (z := P.cellsOf e) (fun y hy => ?_) hlen fun i y hyi => ?_
        · obtain ⟨i, hi, e⟩ := List.getElem_of_mem hy
          obtain ⟨z, _, _, hl⟩ := hall i y (by rw [← e]; exact List.getElem?_eq_getElem hi)
          exact hl
        · obtain ⟨z, hz, hav, hl⟩ := hall i y hyi
          have hik : i < k := by
            have := (List.getElem?_eq_some_iff.1 hz).1
            omega
          have ht := hx i hik
          rw [hz] at ht
          refine IH n' e _ z.1 z.2 y ht hav ?_
          rw [List.length_take, List.length_drop, hl, hlen]
          have hi2 := (List.getElem?_eq_some_iff.1 hyi).1
          have : (i + 1) * P.cellsOf e ≤ yss.length * P.cellsOf e := Nat.mul_le_mul_right _ hi2
          rw [Nat.add_mul] at this
          omega
      | _ => simp at ha
end Go.Ev

/-! text E36 -/
set_option linter.unusedVariables false
set_option linter.unusedSimpArgs false
namespace Go.Ev
open Go.RowKit
open Go.Proofs.Ytlckkpjbkjbdcaa (Rows.uptoBulk Rows.uptoBulkAll)

/-! ### What comes in: its shape, and how much it is -/
def okFs (P : Program) (ok : TypeId → Bool) : Nat → List Field → Bool
  | _, [] => true
  | off, f :: fs => f.offset == off && ok f.type && okFs P ok (off + P.cellsOf f.type) fs
def sumFs (P : Program) : List Field → Nat
  | [] => 0
  | f :: fs => P.cellsOf f.type + sumFs P fs
/-- Types whose readings have their abstract values. -/
def okT (P : Program) : Nat → TypeId → Bool
  | 0, _ => false
  | m + 1, t => match P.underlying t with
    | some .bool | some (.int _) | some .string => P.cellsOf t == 1
    | some (.slice e) => P.cellsOf t == 1 && okT P m e && decide (0 < P.cellsOf e) && (match aggOf P e with
      | some (some _) => true
      | some none => P.cellsOf e == 1
      | none => false)
    | some (.struct fs) => okFs P (okT P m) 0 fs.toList && sumFs P fs.toList == P.cellsOf t
    | some (.array k e) => okT P m e && k * P.cellsOf e == P.cellsOf t
    | _ => false
def TyFs (ty : TypeId → List AV → Prop) : List Field → List AV → Prop
  | [], ys => ys = []
  | f :: fs, ys => ∃ a b, ys = a ++ b ∧ ty f.type a ∧ TyFs ty fs b
/-- Abstract values of a type. -/
def Ty (P : Program) : Nat → TypeId → List AV → Prop
  | 0, _, _ => False
  | m + 1, t, ys => match P.underlying t with
    | some .bool => ∃ b, ys = [.bool b]
    | some (.int k) => ∃ n, k.min ≤ n ∧ n ≤ k.max ∧ ys = [.int k n]
    | some .string => ∃ s, ys = [.str s]
    | some (.slice e) => ∃ xs, ys = [.sl false false (P.cellsOf e) xs] ∧ ∀ x ∈ xs, ∃ zs, Ty P m e zs ∧ elD ((aggOf P e).getD none) zs = some x
    | some (.struct fs) => TyFs (Ty P m) fs.toList ys
    | some (.array k e) => ∃ yss : List (List AV), yss.length = k ∧ ys = yss.flatten ∧ ∀ y ∈ yss, Ty P m e y
    | _ => False

/-- How much an abstract value holds. -/
def szA : AV → Nat
  | .str s => s.size + 1
  | .sl _ _ _ xs => szL xs + 1
  | .agg cs => szL cs
  | _ => 1
where
  szL : List AV → Nat
    | [] => 0
    | x :: xs => szA x + szL xs
theorem szL_append : ∀ (xs ys : List AV), szA.szL (xs ++ ys) = szA.szL xs + szA.szL ys
  | [], ys => by simp [szA.szL]
  | x :: xs, ys => by simp [szA.szL, szL_append xs ys]; omega

theorem mapOpt_some {α β : Type} {f : α → Option β} : ∀ {l : List α}, (∀ x ∈ l, ∃ y, f x = some y) → ∃ r, mapOpt f l = some r
  | [], _ => ⟨[], rfl⟩
  | x :: l, h => by
    obtain ⟨y, hy⟩ := h x (List.mem_cons_self ..)
    obtain ⟨r, hr⟩ := mapOpt_some (l := l) fun z hz => h z (List.mem_cons_of_mem _ hz)
    exact ⟨y :: r, by simp [mapOpt, hy, hr]⟩
theorem Ty_single {P : Program} {m : Nat} {e : TypeId} {ys : List AV} (hg : aggOf P e = some none) (h : Ty P m e ys) : ∃ y, ys = [y] ∧ single y = true := by
  obtain ⟨d, i, h1, h2, h3, h4⟩ := aggOf_cases hg
  cases m with
  | zero => exact h.elim
  | succ m =>
    simp only [Ty, h1] at h
    cases d with
    | struct fs => exact absurd rfl (h3 fs)
    | array n e => exact absurd rfl (h4 n e)
    | bool => obtain ⟨b, rfl⟩ := h; exact ⟨_, rfl, rfl⟩
    | int k => obtain ⟨b, _, _, rfl⟩ := h; exact ⟨_, rfl, rfl⟩
    | string => obtain ⟨b, rfl⟩ := h; exact ⟨_, rfl, rfl⟩
    | slice e => obtain ⟨xs, rfl, _⟩ := h; exact ⟨_, rfl, rfl⟩
    | _ => exact h.elim

variable {H : Type} {enc : TypeId × Value → H} {P : Program} {W : World} {base : Nat} {sp : Nat → Bool} {held : Bool}

/-- One reading's abstract values, their shape and size. -/
def Opened (P : Program) (m : Nat) (t : TypeId) (d : DataW H) : Prop := ∃ ys, avD P m t d = some ys ∧ Ty P m t ys ∧ ys.length = P.cellsOf t ∧ szA.szL ys ≤ Rows.uptoBulk d

theorem fs_open {m : Nat} : ∀ (fs : List Field) (off : Nat) (ds : List (DataW H)), okFs P (okT P m) off fs = true → ds.length = fs.length → (∀ (i : Nat) (f : Field) (d : DataW H), fs[i]? = some f → ds[i]? = some d → Opened P m f.type d) →
    ∃ ys, fsD P (avD P m) off fs ds = some ys ∧ TyFs (Ty P m) fs ys ∧ ys.length = sumFs P fs ∧ szA.szL ys ≤ Rows.uptoBulkAll ds
  | [], off, [], _, _, _ => ⟨[], rfl, rfl, rfl, by simp [szA.szL]⟩
  | [], _, _ :: _, _, h, _ => by simp at h
  | _ :: _, _, [], _, h, _ => by simp at h
  | f :: fs, off, d :: ds, h, hl, ho => by
    simp only [okFs, Bool.and_eq_true, beq_iff_eq] at h
    obtain ⟨xs, a1, a2, a3, a4⟩ := ho 0 f d rfl rfl
    obtain ⟨ys, b1, b2, b3, b4⟩ := fs_open fs (off + P.cellsOf f.type) ds h.2 (by simpa using hl) fun i f' d' h1 h2 => ho (i + 1) f' d' (by simpa using h1) (by simpa using h2)
    refine ⟨xs ++ ys, ?_, ⟨xs, ys, rfl, a2, b2⟩, by simp [sumFs, a3, b3], ?_⟩
    · simp only [fsD, a1, b1]
      rw [if_pos ⟨h.1.1, a3⟩]
    · rw [szL_append]
      simp only [Rows.uptoBulkAll]
      omega
theorem list_open {m : Nat} {e : TypeId} : ∀ (ds : List (DataW H)), (∀ d ∈ ds, Opened P m e d) → ∀ (g : List AV → Option AV), (∀ ys, Ty P m e ys → ys.length = P.cellsOf e → ∃ x, g ys = some x ∧ szA x ≤ szA.szL ys) →
    ∃ xs, mapOpt (fun d => match avD P m e d with
      | some ys => if ys.length = P.cellsOf e then g ys else none
      | none => none) ds = some xs ∧ (∀ x ∈ xs, ∃ zs, Ty P m e zs ∧ g zs = some x) ∧ szA.szL xs ≤ Rows.uptoBulkAll ds
  | [], _, g, _ => ⟨[], rfl, (fun x h => nomatch h), by simp [szA.szL]⟩
  | d :: ds, h, g, hg => by
    obtain ⟨ys, a1, a2, a3, a4⟩ := h d (List.mem_cons_self ..)
    obtain ⟨x, g1, g2⟩ := hg ys a2 a3
    obtain ⟨xs, b1, b2, b3⟩ := list_open ds (fun d hd => h d (List.mem_cons_of_mem _ hd)) g hg
    refine ⟨x :: xs, ?_, fun z hz => ?_, ?_⟩
    · simp only [mapOpt, a1, if_pos a3, g1, b1]
    · rcases List.mem_cons.1 hz with rfl | hz
      · exact ⟨ys, a2, g1⟩
      · exact b2 z hz
    · simp only [szA.szL, Rows.uptoBulkAll]
      omega
theorem arr_open {m : Nat} {e : TypeId} : ∀ (ds : List (DataW H)), (∀ d ∈ ds, Opened P m e d) →
    ∃ yss, mapOpt (fun d => match avD P m e d with
      | some ys => if ys.length = P.cellsOf e then some ys else none
      | none => none) ds = some yss ∧ yss.length = ds.length ∧ (∀ y ∈ yss, Ty P m e y) ∧ yss.flatten.length = ds.length * P.cellsOf e ∧ szA.szL yss.flatten ≤ Rows.uptoBulkAll ds
  | [], _ => ⟨[], rfl, rfl, (fun x h => nomatch h), by simp, by simp [szA.szL]⟩
  | d :: ds, h => by
    obtain ⟨ys, a1, a2, a3, a4⟩ := h d (List.mem_cons_self ..)
    obtain ⟨xs, b1, b2, b3, b4, b5⟩ := arr_open ds (fun d hd => h d (List.mem_cons_of_mem _ hd))
    refine ⟨ys :: xs, ?_, by simp [b2], fun z hz => ?_, by simp [a3, b4, Nat.add_mul]; omega, ?_⟩
    · simp only [mapOpt, a1, if_pos a3, b1]
    · rcases List.mem_cons.1 hz with rfl | hz
      · exact a2
      · exact b3 z hz
    · rw [List.flatten_cons, szL_append]
      simp only [Rows.uptoBulkAll]
      omega

theorem open_Ty : ∀ (m n : Nat) (t : TypeId) (cs : List Value) (d : DataW H) (ps : List MemPlace), DataW.trod enc P W base sp held n t cs = some (d, ps) → okT P m t = true → Opened P m t d
  | 0, _, _, _, _, _, _, h => by simp [okT] at h
  | m + 1, n, t, cs, d, ps, h, hok => by
    have IH := fun n => open_Ty m n
    simp only [okT] at hok
    unfold Opened
    simp only [avD, Ty]
    cases hu : P.underlying t with
    | none => simp [hu] at hok
    | some td =>
      rw [hu] at hok
      cases td with
      | bool =>
        obtain ⟨b, rfl, e⟩ := DataW.trod_bool hu h
        cases e
        exact ⟨_, rfl, ⟨b, rfl⟩, (beq_iff_eq.1 hok).symm, by simp [szA.szL, szA, Rows.uptoBulk]⟩
      | int k =>
        obtain ⟨b, rfl, e, hw⟩ := DataW.trod_int hu h
        cases e
        simp only [Lit.wf, Bool.and_eq_true, decide_eq_true_eq] at hw
        exact ⟨_, rfl, ⟨b, hw.1, hw.2, rfl⟩, (beq_iff_eq.1 hok).symm, by simp [szA.szL, szA, Rows.uptoBulk]⟩
      | string =>
        obtain ⟨b, rfl, e, _⟩ := DataW.trod_string hu h
        cases e
        refine ⟨_, rfl, ⟨_, rfl⟩, (beq_iff_eq.1 hok).symm, ?_⟩
        simp only [szA.szL, szA, Rows.uptoBulk]
        have : (⟨b.data.toList.toArray⟩ : ByteArray).size = b.data.toList.length := by
          show b.data.toList.toArray.size = _
          rw [List.size_toArray]
        rw [this]
        omega
      | slice e =>
        simp only [Bool.and_eq_true, decide_eq_true_eq, beq_iff_eq] at hok
        obtain ⟨⟨⟨o1, o2⟩, o3⟩, o4⟩ := hok
        rcases DataW.trod_slice hu h with ⟨rfl, e⟩ | ⟨a, len, cap, elems, rest, n', _, rfl, e1, _, _, _, hel, helem, _⟩
        · cases e
          exact ⟨_, rfl, ⟨[], rfl, fun x h => nomatch h⟩, o1.symm, by simp [szA.szL, szA, Rows.uptoBulk]⟩
        · cases e1
          cases hg : aggOf P e with
          | none => simp [hg] at o4
          | some g =>
            simp only [hg] at o4
            have hop : ∀ d ∈ elems.map (·.1), Opened P m e d := by
              intro d hd
              obtain ⟨z, hz, rfl⟩ := List.mem_map.1 hd
              obtain ⟨i, hi, rfl⟩ := List.getElem_of_mem hz
              have hE := helem i (by omega)
              rw [List.getElem?_eq_getElem hi] at hE
              obtain ⟨cs, hc, ht⟩ := bind_some hE
              exact IH n' e cs _ _ ht o2
            obtain ⟨xs, x1, x2, x3⟩ := list_open (elems.map (·.1)) hop (elD g) fun ys hty hys => by
              cases g with
              | some k => exact ⟨.agg ys, rfl, by simp [szA]⟩
              | none =>
                obtain ⟨y, rfl, hs⟩ := Ty_single hg hty
                exact ⟨y, by simp [elD, hs], by simp [szA.szL]⟩
            refine ⟨[.sl false false (P.cellsOf e) xs], by simp only [hg, if_pos o3]; exact congrArg (Option.map fun xs => [AV.sl false false (P.cellsOf e) xs]) x1, ⟨xs, rfl, by simpa [hg] using x2⟩, o1.symm, ?_⟩
            simp only [szA.szL, szA, Rows.uptoBulk]
            omega
      | struct fs =>
        simp only [Bool.and_eq_true, beq_iff_eq] at hok
        obtain ⟨xs, n', rfl, e, hcs, hxl, hx⟩ := DataW.trod_struct hu h
        cases e
        obtain ⟨ys, y1, y2, y3, y4⟩ := fs_open (P := P) (m := m) fs.toList 0 (xs.map (·.1)) hok.1 (by simp [hxl]) fun i f d hf hd => by
          rw [List.getElem?_map] at hd
          cases hz : xs[i]? with
          | none => rw [hz] at hd; cases hd
          | some z =>
            rw [hz] at hd
            simp only [Option.map_some, Option.some.injEq] at hd
            subst hd
            have ht := hx i f (by simpa using hf)
            rw [hz] at ht
            have hokf : ∀ (l : List Field) (off i : Nat) (f : Field), okFs P (okT P m) off l = true → l[i]? = some f → okT P m f.type = true := by
              intro l
              induction l with
              | nil => intro off i f _ h; simp at h
              | cons g l ih =>
                intro off i f h hf
                simp only [okFs, Bool.and_eq_true] at h
                cases i with
                | zero => simp at hf; subst hf; exact h.1.2
                | succ i => exact ih _ i f h.2 (by simpa using hf)
            exact IH n' f.type _ _ _ ht (hokf fs.toList 0 i f hok.1 hf)
        refine ⟨ys, y1, y2, by rw [y3]; exact hok.2, ?_⟩
        simp only [Rows.uptoBulk]
        omega
      | array k e =>
        simp only [Bool.and_eq_true, beq_iff_eq] at hok
        obtain ⟨xs, n', rfl, e1, hcs, hxl, hx⟩ := DataW.trod_array hu h
        cases e1
        obtain ⟨yss, y1, y2, y3, y4, y5⟩ := arr_open (P := P) (m := m) (e := e) (xs.map (·.1)) fun d hd => by
          obtain ⟨z, hz, rfl⟩ := List.mem_map.1 hd
          obtain ⟨i, hi, rfl⟩ := List.getElem_of_mem hz
          have ht := hx i (by omega)
          rw [List.getElem?_eq_getElem hi] at ht
          exact IH n' e _ _ _ ht hok.1
        refine ⟨yss.flatten, congrArg (Option.map List.flatten) y1, ⟨yss, by simpa [hxl] using y2, rfl, y3⟩, by rw [y4]; simp [hxl, hok.2], ?_⟩
        simp only [Rows.uptoBulk]
        omega
      | _ => simp at hok
end Go.Ev

/-! text E45 -/
set_option linter.unusedVariables false
set_option linter.unusedSimpArgs false
namespace Go.Ev
open Go.RowKit Go.WideShapes Go.ChangeShapes
open Go.Proofs.Ytlckkpjbkjbdcaa (Rows.uptoBulk Rows.uptoBulkAll Rows.uptoSmall)

/-! ### A law: what comes in is opened; behind the call it reads as it did -/
/-- A value of a type, by its cells. -/
def argOf (P : Program) (t : TypeId) (ys : List AV) : AV :=
  match P.underlying t with
  | some (.struct _) | some (.array _ _) => .agg ys
  | _ => ys.headD .junk
/-- Arguments of their types. -/
def TyAll (P : Program) (m : Nat) : List TypeId → List AV → Prop
  | [], xs => xs = []
  | t :: ts, xs => ∃ ys rest, xs = argOf P t ys :: rest ∧ Ty P m t ys ∧ ys.length = P.cellsOf t ∧ TyAll P m ts rest

variable {H : Type} {enc : TypeId × Value → H} {P : Program} {W W' : World} {base : Nat} {sp : Nat → Bool} {held : Bool}

theorem arg_open {m : Nat} {t : TypeId} {v : Value} {d : DataW H} {p : List MemPlace} {b0 : Nat} (h : DataW.Trod enc P W base sp held t v d p) (hok : okT P m t = true) (hv : Value.okWide P W .any b0 t v) :
    ∃ ys, V (ghIn W) W (argOf P t ys) v ∧ Ty P m t ys ∧ ys.length = P.cellsOf t ∧ szA (argOf P t ys) ≤ Rows.uptoBulk d := by
  obtain ⟨n, hn⟩ := h
  obtain ⟨ys, h1, h2, h3, h4⟩ := open_Ty m n t _ d p hn hok
  have hlen : v.cells.toList.length = ys.length → VL (ghIn W) W ys v.cells.toList := fun hl => open_V m n t _ d p ys hn h1 hl
  cases m with
  | zero => simp [okT] at hok
  | succ m =>
    simp only [okT] at hok
    unfold Value.okWide at hv
    have one : ∀ {z : AV}, ys = [z] → (∀ cs, v ≠ .agg cs) → argOf P t ys = z → V (ghIn W) W (argOf P t ys) v ∧ szA (argOf P t ys) ≤ Rows.uptoBulk d := by
      intro z hz hne ha
      have hc : v.cells.toList = [v] := by
        cases v <;> first | rfl | exact absurd rfl (hne _)
      have hvl := hlen (by rw [hc, hz]; rfl)
      rw [hc, hz] at hvl
      obtain ⟨u, r, e, g1, g2⟩ := hvl
      cases e
      rw [ha]
      refine ⟨g1, ?_⟩
      rw [hz] at h4
      simpa [szA.szL] using h4
    cases hu : P.underlying t with
    | none => simp [hu] at hok
    | some td =>
      rw [hu] at hok hv
      have cell : (match td with | .struct _ | .array _ _ => False | _ => True) → (∀ cs, v ≠ .agg cs) := by
        intro hs cs e
        subst e
        cases td <;> first | exact hs.elim | (simp only [Cell.okWide, Cell.ok, hu] at hv)
      cases td with
      | bool =>
        have h2' := h2
        simp only [Ty, hu] at h2'
        obtain ⟨b, e⟩ := h2'
        obtain ⟨g1, g2⟩ := one e (cell trivial) (by simp [argOf, hu, e])
        exact ⟨ys, g1, h2, h3, g2⟩
      | int k =>
        have h2' := h2
        simp only [Ty, hu] at h2'
        obtain ⟨b, _, _, e⟩ := h2'
        obtain ⟨g1, g2⟩ := one e (cell trivial) (by simp [argOf, hu, e])
        exact ⟨ys, g1, h2, h3, g2⟩
      | string =>
        have h2' := h2
        simp only [Ty, hu] at h2'
        obtain ⟨b, e⟩ := h2'
        obtain ⟨g1, g2⟩ := one e (cell trivial) (by simp [argOf, hu, e])
        exact ⟨ys, g1, h2, h3, g2⟩
      | slice e0 =>
        have h2' := h2
        simp only [Ty, hu] at h2'
        obtain ⟨b, e, _⟩ := h2'
        obtain ⟨g1, g2⟩ := one e (cell trivial) (by simp [argOf, hu, e])
        exact ⟨ys, g1, h2, h3, g2⟩
      | struct fs =>
        simp only at hv
        obtain ⟨cs, rfl, hs, _⟩ := hv
        refine ⟨ys, ?_, h2, h3, by simp only [argOf, hu, szA]; exact h4⟩
        simp only [argOf, hu]
        exact ⟨cs.toList, by simp, hlen (by simp [Value.cells, hs, h3])⟩
      | array k e =>
        simp only at hv
        obtain ⟨cs, rfl, hs, _⟩ := hv
        refine ⟨ys, ?_, h2, h3, by simp only [argOf, hu, szA]; exact h4⟩
        simp only [argOf, hu]
        exact ⟨cs.toList, by simp, hlen (by simp [Value.cells, hs, h3])⟩
      | _ => simp at hok
theorem args_open {m : Nat} {b0 : Nat} : ∀ (ts : List TypeId) (vs : List Value) (ds : List (DataW H)) (p : List MemPlace), DataW.TrodAll enc P W base sp held ts vs ds p → ts.all (okT P m) = true →
    (∀ (j : Nat) t v, ts[j]? = some t → vs[j]? = some v → Value.okWide P W .any b0 t v) → ∃ xs, VL (ghIn W) W xs vs ∧ TyAll P m ts xs ∧ szA.szL xs ≤ Rows.uptoBulkAll ds
  | [], vs, ds, p, h, _, _ => by
    obtain ⟨rfl, rfl, rfl⟩ := trodAll_nil h
    exact ⟨[], rfl, rfl, by simp [szA.szL]⟩
  | t :: ts, vs, ds, p, h, hok, hv => by
    obtain ⟨v, vs', d, ds', p1, p2, rfl, rfl, rfl, h1, h2⟩ := trodAll_cons h
    simp only [List.all_cons, Bool.and_eq_true] at hok
    obtain ⟨ys, a1, a2, a3, a4⟩ := arg_open h1 hok.1 (hv 0 t v rfl rfl)
    obtain ⟨xs, b1, b2, b3⟩ := args_open ts vs' ds' p2 h2 hok.2 fun j t' v' e1 e2 => hv (j + 1) t' v' (by simpa using e1) (by simpa using e2)
    exact ⟨argOf P t ys :: xs, ⟨v, vs', rfl, a1, b1⟩, ⟨ys, xs, rfl, a2, a3, b2⟩, by simp only [szA.szL, Rows.uptoBulkAll]; omega⟩
theorem args_stay (hl : laidOutB P = true) {sp' : Nat → Bool} : ∀ (ts : List TypeId) (vs : List Value) (ds : List (DataW H)) (p : List MemPlace), DataW.TrodAll enc P W 0 (fun _ => true) true ts vs ds p → ts.all (fun t => P.readableRec t && decide (t < P.types.size)) = true →
    (∀ x ∈ p, W.sameAt W' x) → (∀ x ∈ p, sp' x.block = true) → DataW.TrodAll enc P W' 0 sp' true ts vs ds p
  | [], vs, ds, p, h, _, _, _ => by
    obtain ⟨rfl, rfl, rfl⟩ := trodAll_nil h
    exact trodAll_mk0
  | t :: ts, vs, ds, p, h, hok, hs, hp => by
    obtain ⟨v, vs', d, ds', p1, p2, rfl, rfl, rfl, h1, h2⟩ := trodAll_cons h
    simp only [List.all_cons, Bool.and_eq_true, decide_eq_true_eq] at hok
    exact trodAll_cons_mk (WideElems.Trod_stays hl hok.1.1 hok.1.2 h1 (fun x hx => hs x (List.mem_append.2 (.inl hx))) (fun x hx => hp x (List.mem_append.2 (.inl hx))))
      (args_stay hl ts vs' ds' p2 h2 hok.2 (fun x hx => hs x (List.mem_append.2 (.inr hx))) (fun x hx => hp x (List.mem_append.2 (.inr hx))))

theorem post_below {f : Func} {s : ChangeSpec} {apart fresh handsOn again : Bool} {args : Array Value} {v : Value} {ds gs : List (DataW H)} {before pa pv : List MemPlace}
    (hW : DataW.Whole enc P f.params.toList s.vars apart W args.toList ds gs before)
    (hres : ∀ (b : Nat) (sp : Nat → Bool) (hd : Bool), DataW.TrodAll enc P W' b sp hd f.resultTypes.toList (v.resultList f.resultTypes.size) (s.fn H (ds ++ gs)).results [])
    (hargs : ∀ sp : Nat → Bool, (∀ p ∈ before, sp p.block = true) → DataW.TrodAll enc P W' 0 sp true f.params.toList args.toList (s.fn H (ds ++ gs)).args pa)
    (hvars : ∀ sp : Nat → Bool, (∀ p ∈ before, sp p.block = true) → DataW.TrodVars enc P W' sp s.vars (s.fn H (ds ++ gs)).vars pv)
    (hps : before = pa ++ pv) (hb : Below W.heap.size W W')
    (hok : ∀ (j : Nat) (t : TypeId) (r : Value), f.resultTypes[j]? = some t → (v.resultList f.resultTypes.size)[j]? = some r → Value.okWide P W' .any 0 t r) :
    s.post enc P f apart fresh handsOn again W args v W' := by
  have hlt : ∀ p ∈ before, p.block < W.heap.size := fun p hp => hW.lt p hp
  have hold : ∀ p ∈ before, (fun b => decide (b < W.heap.size)) p.block = true := fun p hp => by simpa using hlt p hp
  refine ⟨ds, gs, before, [], pa, pv, hW, hres _ _ _, hargs _ hold, hvars _ hold, World.keptBut_mono (fun p hp => ⟨hp, ?_⟩) (hb.frame (· ∈ before)), fun _ => ?_⟩
  · rw [hps, List.mem_append] at hp
    exact Or.inr hp
  · obtain ⟨_, _, _, _, _, hz, hn⟩ := hW
    refine ⟨hok, _, _, ([] ++ pa) ++ pv, ⟨[] ++ pa, pv, trodAll_append (hargs _ (fun _ _ => rfl)) (hres _ _ _), hvars _ (fun _ _ => rfl), rfl, ?_, ?_⟩, ?_⟩
    · intro b off hp
      have hin : MemPlace.cell b off ∈ before := by rw [hps]; simpa using hp
      rw [hb.frozen (hlt _ hin)]
      exact hz b off hin
    · intro ha
      have := hn ha
      rw [hps] at this
      simpa using this
    · intro p hp _
      rw [hps]
      simpa using hp

/-- The contract of a law, as its row asks it. -/
theorem law_contract {fid : FuncId} {f : Func} {s : ChangeSpec} {tb : TypeId} {m : Nat} {apart fresh handsOn again : Bool}
    (hl : laidOutB P = true) (hf : P.funcs[fid]? = some f) (hn : f.name ≠ "runtime.NumGoroutine") (hb : f.body.isSome = true)
    (hts : f.params.toList.all (fun t => P.readableRec t && decide (t < P.types.size)) = true) (hto : f.params.toList.all (okT P m) = true)
    (hres : f.resultTypes = #[tb]) (hbool : P.underlying tb = some .bool) (hvars : s.vars = [])
    (hs : ∀ (ds : List (DataW H)), ds.length = f.params.toList.length → (s.fn H ds).results = [.lit (.bool true)] ∧ (s.fn H ds).args = ds ∧ (s.fn H ds).vars = [])
    (law : ∀ ys, TyAll P m f.params.toList ys → szA.szL ys ≤ 1048576 → FnOk P fid ys (.bool true))
    {args : Array Value} {ds gs : List (DataW H)} {before : List MemPlace}
    (hval : ∀ (j : Nat) t v, f.params[j]? = some t → args[j]? = some v → Value.okWide P W .any base t v)
    (hW : DataW.Whole enc P f.params.toList s.vars apart W args.toList ds gs before) (hk : Rows.uptoSmall H (ds ++ gs) = true) :
    Calls P fid args W fun e W' => ∃ v, e = .returned v ∧ s.post enc P f apart fresh handsOn again W args v W' := by
  have hW' := hW
  obtain ⟨p, q, hA, hV, rfl, hfz, hnd⟩ := hW
  rw [hvars] at hV
  obtain ⟨rfl, rfl⟩ := trodVars_none hV
  rw [List.append_nil] at hk
  obtain ⟨xs, x1, x2, x3⟩ := args_open _ _ _ _ hA hto fun j t v h1 h2 => hval j t v (by simpa using h1) (by simpa using h2)
  have hbulk : Rows.uptoBulkAll ds ≤ 1048576 := of_decide_eq_true hk
  have hok := law xs x2 (by omega)
  have hlen : ds.length = f.params.toList.length := by
    have : ∀ (ts : List TypeId) (vs : List Value) (ds : List (DataW H)) (p : List MemPlace), DataW.TrodAll enc P W 0 (fun _ => true) true ts vs ds p → ds.length = ts.length := by
      intro ts
      induction ts with
      | nil => intro vs ds p h; obtain ⟨_, rfl, _⟩ := trodAll_nil h; rfl
      | cons t ts ih => intro vs ds p h; obtain ⟨_, vs', _, ds', _, p2, _, rfl, _, _, h2⟩ := trodAll_cons h; simp [ih vs' ds' p2 h2]
    exact this _ _ _ _ hA
  obtain ⟨s1, s2, s3⟩ := hs ds hlen
  have h := hok W args.toList (cellsIn W) (cellsIn_new W) x1
  cases hbd : f.body with
  | none => rw [hbd] at hb; cases hb
  | some c =>
    have hrun := callFunc_run (P := P) hf hn hbd args W
    have ha : args.toList.toArray = args := by simp
    rw [ha, hrun] at h
    refine Calls.mono h fun e W' hq => ?_
    cases e with
    | returned v =>
      obtain ⟨_, T, γ, G⟩ := hq
      have hv : v = .bool true := G.slots 0 (.bool true) v rfl rfl
      subst hv
      have hbl : Below W.heap.size W W' := by
        have := G.frm.below G.fn
        rwa [G.hB] at this
      refine ⟨_, rfl, post_below (pa := p) (pv := []) hW' (fun b sp hd => ?_) (fun sp hsp => ?_) (fun sp hsp => ?_) rfl hbl (ok_one hres rfl (okWide_bool_mk hbool _))⟩
      · rw [List.append_nil, s1, hres]
        exact trodAll_cons_mk (shut_bool hbool true) trodAll_mk0
      · rw [List.append_nil, s2]
        exact args_stay hl _ _ _ _ hA hts (fun x hx => hbl.same (hW'.lt x (List.mem_append.2 (.inl hx)))) fun x hx => hsp x (List.mem_append.2 (.inl hx))
      · rw [List.append_nil, s3, hvars]
        rfl
    | panicked c => exact hq.elim
    | outgrown => exact hq.elim
end Go.Ev

/-! text E46 -/
set_option linter.unusedVariables false
set_option linter.unusedSimpArgs false
namespace Go.Ev
open Go.RowKit

/-! ### Abstract values of a type, as values of Lean's own -/
variable {P : Program} {m : Nat} {t e : TypeId} {ys : List AV}
theorem Ty_u8 (hu : P.underlying t = some (.int .u8)) (h : Ty P (m + 1) t ys) : ∃ b : UInt8, ys = [bA b] := by
  simp only [Ty, hu] at h
  obtain ⟨n, h1, h2, e⟩ := h
  simp only [IntKind.min, IntKind.max, IntKind.signed, IntKind.bits] at h1 h2
  refine ⟨UInt8.ofNat n.toNat, ?_⟩
  rw [e]
  unfold bA
  have h1' : 0 ≤ n := h1
  have h2' : n ≤ 255 := h2
  have : ((UInt8.ofNat n.toNat).toNat : Int) = n := by
    rw [UInt8.toNat_ofNat_of_lt' (by simp; omega)]
    omega
  rw [this]
theorem Ty_int {k : IntKind} (hu : P.underlying t = some (.int k)) (h : Ty P (m + 1) t ys) : ∃ n : Int, k.min ≤ n ∧ n ≤ k.max ∧ ys = [.int k n] := by
  simpa only [Ty, hu] using h
theorem Ty_bool (hu : P.underlying t = some .bool) (h : Ty P (m + 1) t ys) : ∃ b, ys = [.bool b] := by
  simpa only [Ty, hu] using h
theorem list_of {α : Type} {f : α → AV} : ∀ {xs : List AV}, (∀ x ∈ xs, ∃ a, x = f a) → ∃ l : List α, xs = l.map f
  | [], _ => ⟨[], rfl⟩
  | x :: xs, h => by
    obtain ⟨a, rfl⟩ := h x (List.mem_cons_self ..)
    obtain ⟨l, rfl⟩ := list_of (f := f) fun y hy => h y (List.mem_cons_of_mem _ hy)
    exact ⟨a :: l, rfl⟩
theorem Ty_slice {α : Type} {f : α → AV} (hu : P.underlying t = some (.slice e)) (hf : ∀ zs x, Ty P m e zs → elD ((aggOf P e).getD none) zs = some x → ∃ a, x = f a) (h : Ty P (m + 1) t ys) : ∃ l : List α, ys = [.sl false false (P.cellsOf e) (l.map f)] := by
  simp only [Ty, hu] at h
  obtain ⟨xs, rfl, hx⟩ := h
  obtain ⟨l, rfl⟩ := list_of (f := f) (xs := xs) fun x hx' => by
    obtain ⟨zs, h1, h2⟩ := hx x hx'
    exact hf zs x h1 h2
  exact ⟨l, rfl⟩
theorem Ty_bytes (hu : P.underlying t = some (.slice e)) (he : P.underlying e = some (.int .u8)) (hc : P.cellsOf e = 1) (hg : aggOf P e = some none) (h : Ty P (m + 2) t ys) : ∃ l, ys = [slB l] := by
  obtain ⟨l, rfl⟩ := Ty_slice (f := bA) hu (fun zs x hz hx => by
    obtain ⟨b, rfl⟩ := Ty_u8 he hz
    rw [hg] at hx
    simp only [Option.getD_some, elD] at hx
    split at hx
    · cases hx; exact ⟨b, rfl⟩
    · cases hx) h
  exact ⟨l, by rw [hc]; rfl⟩
theorem TyFs_nil {ty : TypeId → List AV → Prop} (h : TyFs ty [] ys) : ys = [] := h
theorem Ty_struct {fs : Array Field} (hu : P.underlying t = some (.struct fs)) (h : Ty P (m + 1) t ys) : TyFs (Ty P m) fs.toList ys := by
  simpa only [Ty, hu] using h
theorem Ty_array {k : Nat} (hu : P.underlying t = some (.array k e)) (h : Ty P (m + 1) t ys) : ∃ yss : List (List AV), yss.length = k ∧ ys = yss.flatten ∧ ∀ y ∈ yss, Ty P m e y := by
  simpa only [Ty, hu] using h

@[simp] theorem szL_bs : ∀ l : List UInt8, szA.szL (bsA l) = l.length
  | [] => rfl
  | b :: l => by
    show szA (bA b) + szA.szL (bsA l) = _
    rw [szL_bs l]
    simp only [bA, szA, List.length_cons]
    omega
theorem szL_mem {x : AV} : ∀ {xs : List AV}, x ∈ xs → szA x ≤ szA.szL xs
  | y :: xs, h => by
    rcases List.mem_cons.1 h with rfl | h
    · simp only [szA.szL]; omega
    · have := szL_mem h
      simp only [szA.szL]; omega
theorem szL_len {xs : List AV} (h : ∀ x ∈ xs, 1 ≤ szA x) : xs.length ≤ szA.szL xs := by
  induction xs with
  | nil => simp
  | cons x xs ih =>
    have h1 := h x (List.mem_cons_self ..)
    have h2 := ih fun y hy => h y (List.mem_cons_of_mem _ hy)
    simp only [szA.szL, List.length_cons]
    omega
end Go.Ev

/-! text O1 -/
set_option linter.unusedVariables false
namespace Go.Ev
open Go.Proofs (Try.prog)

/-! ### What comes in, of this program's types -/
theorem u5 : Try.prog.underlying 5 = some (.int .u8) := by kernel_rfl
theorem u29 : Try.prog.underlying 29 = some (.slice 5) := by kernel_rfl
theorem u22 : Try.prog.underlying 22 = some (.slice 42) := by kernel_rfl
theorem u4 : Try.prog.underlying 4 = some .bool := by kernel_rfl
theorem c5 : Try.prog.cellsOf 5 = 1 := by kernel_rfl
theorem c42 : Try.prog.cellsOf 42 = 2 := by kernel_rfl
theorem g5 : aggOf Try.prog 5 = some none := by kernel_rfl
theorem g42 : aggOf Try.prog 42 = some (some 2) := by kernel_rfl
theorem u42 : Try.prog.underlying 42 = some (.struct #[{ name := "Type", type := 5, offset := 0, embedded := false, tag := "", pkgPath := "", byteOffset := 0 }, { name := "Value", type := 29, offset := 1, embedded := false, tag := "", pkgPath := "", byteOffset := 8 }]) := by kernel_rfl
theorem laid : laidOutB Try.prog = true := by kernel_rfl
theorem Ty_tlvs {m : Nat} {ys : List AV} (h : Ty Try.prog (m + 4) 22 ys) : ∃ l : List TLV, ys = [slT l] := by
  obtain ⟨l, rfl⟩ := Ty_slice (f := tS) u22 (fun zs x hz hx => by
    obtain ⟨a, b, rfl, h1, c, d, rfl, h2, h3⟩ := Ty_struct u42 hz
    cases TyFs_nil h3
    obtain ⟨t, rfl⟩ := Ty_u8 u5 h1
    obtain ⟨v, rfl⟩ := Ty_bytes u29 u5 c5 g5 h2
    rw [g42] at hx
    cases hx
    exact ⟨(t, v), rfl⟩) h
  exact ⟨l, by rw [c42]; rfl⟩
theorem sz_tlvs {l : List TLV} {n : Nat} (h : szA (slT l) ≤ n) : l.length ≤ n ∧ ∀ t ∈ l, t.2.length ≤ n := by
  have e : szA (slT l) = szA.szL (tsS l) + 1 := rfl
  rw [e] at h
  have ht : ∀ t : TLV, szA (tS t) = t.2.length + 2 := fun t => by
    show szA (bA t.1) + (szA (.sl false false 1 (bsA t.2)) + 0) = _
    simp only [bA, szA, szL_bs]
    omega
  refine ⟨?_, fun t hm => ?_⟩
  · have := szL_len (xs := tsS l) fun x hx => by
      obtain ⟨t, _, rfl⟩ := List.mem_map.1 hx
      rw [ht]; omega
    rw [show (tsS l).length = l.length by simp [tsS]] at this
    omega
  · have := szL_mem (x := tS t) (xs := tsS l) (List.mem_map.2 ⟨t, hm, rfl⟩)
    rw [ht] at this
    omega
end Go.Ev
