import Derived.Test.YtlckkpjbkjbdcaaZd3
import Derived.KernelRfl

/-! text W4 -/
set_option linter.unusedVariables false
namespace Go.Ev
open Go.Proofs (Try.prog)
theorem Filters_next (a : List TLV) (X Y Z c : List (List UInt8)) (s i : Nat) (k : UInt8)
    (h1 : decide ((↑i : Int) < (256 : Int)) = true)
    (h2 : AV.int IntKind.u8 (IntKind.u8.wrap (↑i : Int)) = AV.int IntKind.u8 (↑k.toNat : Int))
    (h3 : FnW Try.prog (8 : FuncId) [AV.sl false false (2 : Nat) (stale.sL (tsS a)), AV.int IntKind.u8 (↑k.toNat : Int)] [slT a, bA k] (AV.own true (1 : Nat) (vsF c)))
    (h4 : freshA (AV.own true (1 : Nat) (vsF c)) = true)
    (h5 : IntKind.i64.wrap ((↑s : Int) + (↑(deepen.dL (vsF c)).length : Int)) = (↑(s + c.length) : Int))
    (h6 : IntKind.i64.wrap ((↑i : Int) + (1 : Int)) = (↑(i + (1 : Nat)) : Int)) :
    WayR Try.prog T3 51 lp3x0 [(30, .b true), (35, .n (bA k)), (36, .c [slT a, bA k] (.own true 1 (vsF c))), (38, .i (s + c.length : Nat)), (39, .i (i + 1 : Nat))] (sF a X Y Z s i) .normal (sF a X Y Z (s + c.length) (i + 1)) :=
  runs_of_pr hfol (show prR Try.prog T3 51 lp3x0 [(30, .b true), (35, .n (bA k)), (36, .c [slT a, bA k] (.own true 1 (vsF c))), (38, .i (s + c.length : Nat)), (39, .i (i + 1 : Nat))] (sF a X Y Z s i) .normal (sF a X Y Z (s + c.length) (i + 1)) = some _ by kernel_rfl) (AllP.c h1 (AllP.c h2 (AllP.c h3 (AllP.c h4 (AllP.c h5 (AllP.c h6 (AllP.c (LeR.refl (x := AV.sl false false (2 : Nat) (tsS a))) (AllP.c (LeR.refl (x := AV.own true (1 : Nat) (vsD X))) (AllP.c (LeR.refl (x := AV.own true (1 : Nat) (vsD Y))) (AllP.c (LeR.refl (x := AV.own true (1 : Nat) (vsD Z))) (AllP.c (LeR.refl (x := AV.int IntKind.i64 (↑(s + c.length) : Int))) (AllP.c (LeR.refl (x := AV.int IntKind.i64 (↑(i + (1 : Nat)) : Int))) (AllP.c (LeR.refl (x := AV.mem [])) AllP.n)))))))))))))
theorem Filters_end (a : List TLV) (X Y Z : List (List UInt8)) (s i : Nat)
    (h1 : decide ((↑i : Int) < (256 : Int)) = false) :
    WayR Try.prog T3 51 lp3x0 [(30, .b false)] (sF a X Y Z s i) (.exit 0) (st 51 [(0, slT a), (7, .own true 1 (vsD X)), (8, .own true 1 (vsD Y)), (9, .own true 1 (vsD Z)), (10, ni s)]) :=
  runs_of_pr hfol (show prR Try.prog T3 51 lp3x0 [(30, .b false)] (sF a X Y Z s i) (.exit 0) (st 51 [(0, slT a), (7, .own true 1 (vsD X)), (8, .own true 1 (vsD Y)), (9, .own true 1 (vsD Z)), (10, ni s)]) = some _ by kernel_rfl) (AllP.c h1 (AllP.c (LeR.refl (x := AV.sl false false (2 : Nat) (tsS a))) (AllP.c (LeR.refl (x := AV.own true (1 : Nat) (vsD X))) (AllP.c (LeR.refl (x := AV.own true (1 : Nat) (vsD Y))) (AllP.c (LeR.refl (x := AV.own true (1 : Nat) (vsD Z))) (AllP.c (LeR.refl (x := AV.int IntKind.i64 (↑s : Int))) (AllP.c (LeR.refl (x := AV.mem [])) AllP.n)))))))
theorem Filters_way (a b : List TLV) (k : UInt8) (X Y Z : List (List UInt8)) (s : Nat)
    (h1 : FnW Try.prog (7 : FuncId) [] [] (AV.bool true))
    (h2 : FnW Try.prog (9 : FuncId) [AV.sl false false (2 : Nat) (stale.sL (tsS a))] [slT a] (AV.own true (2 : Nat) (tsF a)))
    (h3 : freshA (AV.own true (2 : Nat) (tsF a)) = true)
    (h4 : FnW Try.prog (8 : FuncId) [AV.sl false false (2 : Nat) (stale.sL (undeep.uL (deepen.dL (tsF a)))), AV.int IntKind.u8 (↑k.toNat : Int)] [slT a, bA k] (AV.own true (1 : Nat) (vsF X)))
    (h5 : freshA (AV.own true (1 : Nat) (vsF X)) = true)
    (h6 : FnW Try.prog (9 : FuncId) [AV.sl false false (2 : Nat) (stale.sL (tsS b))] [slT b] (AV.own true (2 : Nat) (tsF b)))
    (h7 : freshA (AV.own true (2 : Nat) (tsF b)) = true)
    (h8 : FnW Try.prog (8 : FuncId) [AV.sl false false (2 : Nat) (stale.sL (undeep.uL (deepen.dL (tsF b)))), AV.int IntKind.u8 (↑k.toNat : Int)] [slT b, bA k] (AV.own true (1 : Nat) (vsF Y)))
    (h9 : freshA (AV.own true (1 : Nat) (vsF Y)) = true)
    (h10 : (deepen.dL (tsF b)).all flat = false)
    (h11 : (undeep.uL (deepen.dL (tsF b))).all (okElem (2 : Nat)) = true)
    (h12 : ((deepen.dL (tsF a)).length + (undeep.uL (deepen.dL (tsF b))).length) * (32 : Nat) ≤ (140737488355328 : Nat))
    (h13 : FnW Try.prog (8 : FuncId) [AV.sl false false (2 : Nat) (stale.sL (undeep.uL (deepen.dL (tsF a) ++ undeep.uL (deepen.dL (tsF b))))), AV.int IntKind.u8 (↑k.toNat : Int)] [slT (a ++ b), bA k] (AV.own true (1 : Nat) (vsF Z)))
    (h14 : freshA (AV.own true (1 : Nat) (vsF Z)) = true)
    (h15 : LeR (AV.own true (1 : Nat) (deepen.dL (vsF X))) (AV.own true (1 : Nat) (vsD X)))
    (h16 : LeR (AV.own true (1 : Nat) (deepen.dL (vsF Y))) (AV.own true (1 : Nat) (vsD Y)))
    (h17 : LeR (AV.own true (1 : Nat) (deepen.dL (vsF Z))) (AV.own true (1 : Nat) (vsD Z)))
    (h18 : Runs Try.prog T3 (51 : Nat) (Cd.loop [] lp3x0) (sF a X Y Z (0 : Nat) (0 : Nat)) fun x => x = (Ex.exit (0 : Nat), st (51 : Nat) [((0 : Nat), slT a), ((7 : Nat), AV.own true (1 : Nat) (vsD X)), ((8 : Nat), AV.own true (1 : Nat) (vsD Y)), ((9 : Nat), AV.own true (1 : Nat) (vsD Z)), ((10 : Nat), ni s)]))
    (h19 : (vsD Y).all flat = false)
    (h20 : (undeep.uL (vsD Y)).all (okElem (1 : Nat)) = true)
    (h21 : ((vsD X).length + (undeep.uL (vsD Y)).length) * (24 : Nat) ≤ (140737488355328 : Nat))
    (h22 : FnW Try.prog (10 : FuncId) [AV.sl false false (1 : Nat) (stale.sL (undeep.uL (vsD Z))), AV.sl false false (1 : Nat) (stale.sL (undeep.uL (vsD X ++ undeep.uL (vsD Y))))] [slV Z, slV (X ++ Y)] (AV.bool true))
    (h23 : ((↑s : Int) == (↑(tsS a).length : Int)) = true) :
    WayF Try.prog 3 T3 fd3 [(12, .c [] (.bool true)), (15, .c [slT a] (.own true 2 (tsF a))), (17, .c [slT a, bA k] (.own true 1 (vsF X))), (19, .c [slT b] (.own true 2 (tsF b))), (21, .c [slT b, bA k] (.own true 1 (vsF Y))), (23, .c [slT a] (.own true 2 (tsF a))), (25, .c [slT b] (.own true 2 (tsF b))), (26, .q2), (28, .c [slT (a ++ b), bA k] (.own true 1 (vsF Z))), (0, .lp (sF a X Y Z 0 0) (.exit 0) (st 51 [(0, slT a), (7, .own true 1 (vsD X)), (8, .own true 1 (vsD Y)), (9, .own true 1 (vsD Z)), (10, ni s)])), (43, .q2), (44, .c [slV Z, slV (X ++ Y)] (.bool true)), (49, .b true)] [slT a, slT b, bA k] (.bool true) :=
  fn_of_pr hfol ok3 hT3 (show prF Try.prog 3 T3 fd3 [(12, .c [] (.bool true)), (15, .c [slT a] (.own true 2 (tsF a))), (17, .c [slT a, bA k] (.own true 1 (vsF X))), (19, .c [slT b] (.own true 2 (tsF b))), (21, .c [slT b, bA k] (.own true 1 (vsF Y))), (23, .c [slT a] (.own true 2 (tsF a))), (25, .c [slT b] (.own true 2 (tsF b))), (26, .q2), (28, .c [slT (a ++ b), bA k] (.own true 1 (vsF Z))), (0, .lp (sF a X Y Z 0 0) (.exit 0) (st 51 [(0, slT a), (7, .own true 1 (vsD X)), (8, .own true 1 (vsD Y)), (9, .own true 1 (vsD Z)), (10, ni s)])), (43, .q2), (44, .c [slV Z, slV (X ++ Y)] (.bool true)), (49, .b true)] [slT a, slT b, bA k] (.bool true) = some _ by kernel_rfl) (AllP.c h1 (AllP.c (show freshA (AV.bool true) = true by kernel_rfl) (AllP.c h2 (AllP.c h3 (AllP.c h4 (AllP.c h5 (AllP.c h6 (AllP.c h7 (AllP.c h8 (AllP.c h9 (AllP.c h2 (AllP.c h3 (AllP.c h6 (AllP.c h7 (AllP.c h10 (AllP.c h11 (AllP.c h12 (AllP.c h13 (AllP.c h14 (AllP.c (LeR.refl (x := AV.sl false false (2 : Nat) (tsS a))) (AllP.c h15 (AllP.c h16 (AllP.c h17 (AllP.c (LeR.refl (x := AV.int IntKind.i64 (↑(0 : Nat) : Int))) (AllP.c (LeR.refl (x := AV.int IntKind.i64 (↑(0 : Nat) : Int))) (AllP.c (LeR.refl (x := AV.mem [])) (AllP.c h18 (AllP.c h19 (AllP.c h20 (AllP.c h21 (AllP.c h22 (AllP.c (show freshA (AV.bool true) = true by kernel_rfl) (AllP.c h23 (AllP.c (show AV.bool true = AV.bool true by kernel_rfl) AllP.n))))))))))))))))))))))))))))))))))
theorem SplitsIn_first (p : List UInt8) (l : List TLV) (i j m : Nat) (v : List UInt8) (b : UInt8)
    (h1 : decide ((↑j : Int) < (↑m : Int)) = true)
    (h2 : (↑i : Int) < (↑(tsD l).length : Int))
    (h3 : cellOf (2 : Nat) (tsD l) (i * (2 : Nat) + (1 : Nat)) = some (vD v))
    (h4 : (bsA v)[j]? = some (bA b))
    (h5 : IntKind.i64.wrap ((↑j : Int) + (1 : Int)) = (↑(j + (1 : Nat)) : Int))
    (h6 : LeR (AV.own true (2 : Nat) (hv.hvL (tsD l))) (AV.own true (2 : Nat) (tsX l))) :
    WayR Try.prog T4 83 lp4x0 [(66, .b true), (70, .q), (72, .v (vD v)), (74, .v (bA b)), (77, .v (bA b)), (78, .i (j + 1 : Nat))] (sS0 p (tsD l) l.length i m j) .normal (sS0 p (tsX l) l.length i m (j + 1)) :=
  runs_of_pr hfol (show prR Try.prog T4 83 lp4x0 [(66, .b true), (70, .q), (72, .v (vD v)), (74, .v (bA b)), (77, .v (bA b)), (78, .i (j + 1 : Nat))] (sS0 p (tsD l) l.length i m j) .normal (sS0 p (tsX l) l.length i m (j + 1)) = some _ by kernel_rfl) (AllP.c h1 (AllP.c (show (0 : Int) ≤ (↑i : Int) from Int.natCast_nonneg _) (AllP.c h2 (AllP.c h3 (AllP.c (show (0 : Int) ≤ (↑j : Int) from Int.natCast_nonneg _) (AllP.c h4 (AllP.c (show (0 : Int) ≤ (↑j : Int) from Int.natCast_nonneg _) (AllP.c h4 (AllP.c h5 (AllP.c (LeR.refl (x := AV.sl false false (1 : Nat) (bsA p))) (AllP.c (LeR.refl (x := AV.own false (1 : Nat) (bsA (spare p)))) (AllP.c h6 (AllP.c (LeR.refl (x := AV.int IntKind.i64 (↑i : Int))) (AllP.c (LeR.refl (x := AV.int IntKind.i64 (↑l.length : Int))) (AllP.c (LeR.refl (x := AV.int IntKind.i64 (↑i : Int))) (AllP.c (LeR.refl (x := AV.int IntKind.i64 (↑m : Int))) (AllP.c (LeR.refl (x := AV.int IntKind.i64 (↑(j + (1 : Nat)) : Int))) (AllP.c (LeR.refl (x := AV.mem [])) AllP.n))))))))))))))))))
theorem SplitsIn_next (p : List UInt8) (l : List TLV) (i j m : Nat) (v : List UInt8)
    (h1 : decide ((↑j : Int) < (↑m : Int)) = true)
    (h2 : (↑i : Int) < (↑(tsX l).length : Int))
    (h3 : cellOf (2 : Nat) (tsX l) (i * (2 : Nat) + (1 : Nat)) = some (vX v))
    (h4 : (List.map (fun x => anyB) v)[j]? = some anyB)
    (h5 : IntKind.i64.wrap ((↑j : Int) + (1 : Int)) = (↑(j + (1 : Nat)) : Int))
    (h6 : LeR (AV.own true (2 : Nat) (hv.hvL (tsX l))) (AV.own true (2 : Nat) (tsX l))) :
    WayR Try.prog T4 83 lp4x0 [(66, .b true), (70, .q), (72, .v (vX v)), (74, .v anyB), (77, .v anyB), (78, .i (j + 1 : Nat))] (sS0 p (tsX l) l.length i m j) .normal (sS0 p (tsX l) l.length i m (j + 1)) :=
  runs_of_pr hfol (show prR Try.prog T4 83 lp4x0 [(66, .b true), (70, .q), (72, .v (vX v)), (74, .v anyB), (77, .v anyB), (78, .i (j + 1 : Nat))] (sS0 p (tsX l) l.length i m j) .normal (sS0 p (tsX l) l.length i m (j + 1)) = some _ by kernel_rfl) (AllP.c h1 (AllP.c (show (0 : Int) ≤ (↑i : Int) from Int.natCast_nonneg _) (AllP.c h2 (AllP.c h3 (AllP.c (show (0 : Int) ≤ (↑j : Int) from Int.natCast_nonneg _) (AllP.c h4 (AllP.c (show (0 : Int) ≤ (↑j : Int) from Int.natCast_nonneg _) (AllP.c h4 (AllP.c h5 (AllP.c (LeR.refl (x := AV.sl false false (1 : Nat) (bsA p))) (AllP.c (LeR.refl (x := AV.own false (1 : Nat) (bsA (spare p)))) (AllP.c h6 (AllP.c (LeR.refl (x := AV.int IntKind.i64 (↑i : Int))) (AllP.c (LeR.refl (x := AV.int IntKind.i64 (↑l.length : Int))) (AllP.c (LeR.refl (x := AV.int IntKind.i64 (↑i : Int))) (AllP.c (LeR.refl (x := AV.int IntKind.i64 (↑m : Int))) (AllP.c (LeR.refl (x := AV.int IntKind.i64 (↑(j + (1 : Nat)) : Int))) (AllP.c (LeR.refl (x := AV.mem [])) AllP.n))))))))))))))))))
theorem SplitsIn_end (p : List UInt8) (L : List AV) (i j m n : Nat)
    (h1 : decide ((↑j : Int) < (↑m : Int)) = false) :
    WayR Try.prog T4 83 lp4x0 [(66, .b false)] (sS0 p L n i m j) (.exit 2) (sS1 p L n i) :=
  runs_of_pr hfol (show prR Try.prog T4 83 lp4x0 [(66, .b false)] (sS0 p L n i m j) (.exit 2) (sS1 p L n i) = some _ by kernel_rfl) (AllP.c h1 (AllP.c (LeR.refl (x := AV.sl false false (1 : Nat) (bsA p))) (AllP.c (LeR.refl (x := AV.own false (1 : Nat) (bsA (spare p)))) (AllP.c (LeR.refl (x := AV.own true (2 : Nat) L)) (AllP.c (LeR.refl (x := AV.int IntKind.i64 (↑n : Int))) (AllP.c (LeR.refl (x := AV.int IntKind.i64 (↑i : Int))) (AllP.c (LeR.refl (x := AV.mem [])) AllP.n)))))))
theorem SplitsOut_d (p : List UInt8) (l : List TLV) (L : List AV) (i : Nat) (v : List UInt8)
    (h1 : decide ((↑i : Int) < (↑l.length : Int)) = true)
    (h2 : (↑i : Int) < (↑(tsD l).length : Int))
    (h3 : cellOf (2 : Nat) (tsD l) (i * (2 : Nat) + (1 : Nat)) = some (vD v))
    (h4 : (↑(bsA v).length : Int) = (↑v.length : Int))
    (h5 : Runs Try.prog T4 (83 : Nat) (Cd.loop [] lp4x0) (sS0 p (tsD l) l.length i v.length (0 : Nat)) fun x => x = (Ex.exit (2 : Nat), sS1 p L l.length i))
    (h6 : IntKind.i64.wrap ((↑i : Int) + (1 : Int)) = (↑(i + (1 : Nat)) : Int)) :
    WayR Try.prog T4 83 lp4x1 [(57, .b true), (61, .q), (63, .v (vD v)), (64, .i v.length), (0, .lp (sS0 p (tsD l) l.length i v.length 0) (.exit 2) (sS1 p L l.length i)), (79, .i (i + 1 : Nat))] (sS1 p (tsD l) l.length i) .normal (sS1 p L l.length (i + 1)) :=
  runs_of_pr hfol (show prR Try.prog T4 83 lp4x1 [(57, .b true), (61, .q), (63, .v (vD v)), (64, .i v.length), (0, .lp (sS0 p (tsD l) l.length i v.length 0) (.exit 2) (sS1 p L l.length i)), (79, .i (i + 1 : Nat))] (sS1 p (tsD l) l.length i) .normal (sS1 p L l.length (i + 1)) = some _ by kernel_rfl) (AllP.c h1 (AllP.c (show (0 : Int) ≤ (↑i : Int) from Int.natCast_nonneg _) (AllP.c h2 (AllP.c h3 (AllP.c h4 (AllP.c (LeR.refl (x := AV.sl false false (1 : Nat) (bsA p))) (AllP.c (LeR.refl (x := AV.own false (1 : Nat) (bsA (spare p)))) (AllP.c (LeR.refl (x := AV.own true (2 : Nat) (tsD l))) (AllP.c (LeR.refl (x := AV.int IntKind.i64 (↑i : Int))) (AllP.c (LeR.refl (x := AV.int IntKind.i64 (↑l.length : Int))) (AllP.c (LeR.refl (x := AV.int IntKind.i64 (↑i : Int))) (AllP.c (LeR.refl (x := AV.int IntKind.i64 (↑v.length : Int))) (AllP.c (LeR.refl (x := AV.int IntKind.i64 (↑(0 : Nat) : Int))) (AllP.c (LeR.refl (x := AV.mem [])) (AllP.c h5 (AllP.c h6 (AllP.c (LeR.refl (x := AV.sl false false (1 : Nat) (bsA p))) (AllP.c (LeR.refl (x := AV.own false (1 : Nat) (bsA (spare p)))) (AllP.c (LeR.refl (x := AV.own true (2 : Nat) L)) (AllP.c (LeR.refl (x := AV.int IntKind.i64 (↑l.length : Int))) (AllP.c (LeR.refl (x := AV.int IntKind.i64 (↑(i + (1 : Nat)) : Int))) (AllP.c (LeR.refl (x := AV.mem [])) AllP.n))))))))))))))))))))))
theorem SplitsOut_x (p : List UInt8) (l : List TLV) (i : Nat) (v : List UInt8)
    (h1 : decide ((↑i : Int) < (↑l.length : Int)) = true)
    (h2 : (↑i : Int) < (↑(tsX l).length : Int))
    (h3 : cellOf (2 : Nat) (tsX l) (i * (2 : Nat) + (1 : Nat)) = some (vX v))
    (h4 : (↑(List.map (fun x => anyB) v).length : Int) = (↑v.length : Int))
    (h5 : Runs Try.prog T4 (83 : Nat) (Cd.loop [] lp4x0) (sS0 p (tsX l) l.length i v.length (0 : Nat)) fun x => x = (Ex.exit (2 : Nat), sS1 p (tsX l) l.length i))
    (h6 : IntKind.i64.wrap ((↑i : Int) + (1 : Int)) = (↑(i + (1 : Nat)) : Int)) :
    WayR Try.prog T4 83 lp4x1 [(57, .b true), (61, .q), (63, .v (vX v)), (64, .i v.length), (0, .lp (sS0 p (tsX l) l.length i v.length 0) (.exit 2) (sS1 p (tsX l) l.length i)), (79, .i (i + 1 : Nat))] (sS1 p (tsX l) l.length i) .normal (sS1 p (tsX l) l.length (i + 1)) :=
  runs_of_pr hfol (show prR Try.prog T4 83 lp4x1 [(57, .b true), (61, .q), (63, .v (vX v)), (64, .i v.length), (0, .lp (sS0 p (tsX l) l.length i v.length 0) (.exit 2) (sS1 p (tsX l) l.length i)), (79, .i (i + 1 : Nat))] (sS1 p (tsX l) l.length i) .normal (sS1 p (tsX l) l.length (i + 1)) = some _ by kernel_rfl) (AllP.c h1 (AllP.c (show (0 : Int) ≤ (↑i : Int) from Int.natCast_nonneg _) (AllP.c h2 (AllP.c h3 (AllP.c h4 (AllP.c (LeR.refl (x := AV.sl false false (1 : Nat) (bsA p))) (AllP.c (LeR.refl (x := AV.own false (1 : Nat) (bsA (spare p)))) (AllP.c (LeR.refl (x := AV.own true (2 : Nat) (tsX l))) (AllP.c (LeR.refl (x := AV.int IntKind.i64 (↑i : Int))) (AllP.c (LeR.refl (x := AV.int IntKind.i64 (↑l.length : Int))) (AllP.c (LeR.refl (x := AV.int IntKind.i64 (↑i : Int))) (AllP.c (LeR.refl (x := AV.int IntKind.i64 (↑v.length : Int))) (AllP.c (LeR.refl (x := AV.int IntKind.i64 (↑(0 : Nat) : Int))) (AllP.c (LeR.refl (x := AV.mem [])) (AllP.c h5 (AllP.c h6 (AllP.c (LeR.refl (x := AV.sl false false (1 : Nat) (bsA p))) (AllP.c (LeR.refl (x := AV.own false (1 : Nat) (bsA (spare p)))) (AllP.c (LeR.refl (x := AV.own true (2 : Nat) (tsX l))) (AllP.c (LeR.refl (x := AV.int IntKind.i64 (↑l.length : Int))) (AllP.c (LeR.refl (x := AV.int IntKind.i64 (↑(i + (1 : Nat)) : Int))) (AllP.c (LeR.refl (x := AV.mem [])) AllP.n))))))))))))))))))))))
theorem SplitsOut_end (p : List UInt8) (L : List AV) (n i : Nat)
    (h1 : decide ((↑i : Int) < (↑n : Int)) = false) :
    WayR Try.prog T4 83 lp4x1 [(57, .b false)] (sS1 p L n i) (.exit 0) (st 83 [(0, slB p), (4, .own false 1 (bsA (spare p)))]) :=
  runs_of_pr hfol (show prR Try.prog T4 83 lp4x1 [(57, .b false)] (sS1 p L n i) (.exit 0) (st 83 [(0, slB p), (4, .own false 1 (bsA (spare p)))]) = some _ by kernel_rfl) (AllP.c h1 (AllP.c (LeR.refl (x := AV.sl false false (1 : Nat) (bsA p))) (AllP.c (LeR.refl (x := AV.own false (1 : Nat) (bsA (spare p)))) (AllP.c (LeR.refl (x := AV.mem [])) AllP.n))))
theorem Splits_err (p : List UInt8) (e : Nat)
    (h1 : FnW Try.prog (7 : FuncId) [] [] (AV.bool true))
    (h2 : FnW Try.prog (11 : FuncId) [AV.sl false false (1 : Nat) (stale.sL (bsA p))] [slB p] (AV.tup [AV.sl true true (1 : Nat) (bsA p), AV.own false (1 : Nat) (bsA (spare p))]))
    (h3 : freshA (AV.tup [AV.sl true true (1 : Nat) (bsA p), AV.own false (1 : Nat) (bsA (spare p))]) = true)
    (h4 : FnW Try.prog (12 : FuncId) [AV.sl false true (1 : Nat) (stale.sL (bsA p))] [slB p] (AV.tup [AV.nils, ni e]))
    (h5 : FnW Try.prog (13 : FuncId) [AV.sl false false (1 : Nat) (stale.sL (bsA p))] [slB p] (AV.tup [AV.nils, ni e]))
    (h6 : FnW Try.prog (14 : FuncId) [AV.nils, AV.nils] [slT [], slT []] (AV.bool true))
    (h7 : ((↑e : Int) != (↑e : Int)) = false)
    (h8 : ((↑e : Int) == (0 : Int)) = false)
    (h9 : Runs Try.prog T4 (83 : Nat) (Cd.loop [] lp4x1) (sS1 p [] (0 : Nat) (0 : Nat)) fun x => x = (Ex.exit (0 : Nat), st (83 : Nat) [((0 : Nat), slB p), ((4 : Nat), AV.own false (1 : Nat) (bsA (spare p)))]))
    (h10 : FnW Try.prog (17 : FuncId) [AV.sl false false (1 : Nat) (stale.sL (bsA (spare p))), AV.sl false false (1 : Nat) (stale.sL (bsA p))] [slB (spare p), slB p] (AV.bool true)) :
    WayF Try.prog 4 T4 fd4 [(13, .c [] (.bool true)), (17, .c [slB p] (.tup [.sl true true 1 (bsA p), .own false 1 (bsA (spare p))])), (22, .c [slB p] (.tup [.nils, ni e])), (27, .c [slB p] (.tup [.nils, ni e])), (32, .c [slT [], slT []] (.bool true)), (37, .b false), (40, .b false), (0, .lp (sS1 p [] 0 0) (.exit 0) (st 83 [(0, slB p), (4, .own false 1 (bsA (spare p)))])), (82, .c [slB (spare p), slB p] (.bool true))] [slB p] (.bool true) :=
  fn_of_pr hfol ok4 hT4 (show prF Try.prog 4 T4 fd4 [(13, .c [] (.bool true)), (17, .c [slB p] (.tup [.sl true true 1 (bsA p), .own false 1 (bsA (spare p))])), (22, .c [slB p] (.tup [.nils, ni e])), (27, .c [slB p] (.tup [.nils, ni e])), (32, .c [slT [], slT []] (.bool true)), (37, .b false), (40, .b false), (0, .lp (sS1 p [] 0 0) (.exit 0) (st 83 [(0, slB p), (4, .own false 1 (bsA (spare p)))])), (82, .c [slB (spare p), slB p] (.bool true))] [slB p] (.bool true) = some _ by kernel_rfl) (AllP.c h1 (AllP.c (show freshA (AV.bool true) = true by kernel_rfl) (AllP.c h2 (AllP.c h3 (AllP.c h4 (AllP.c (show freshA (AV.tup [AV.nils, ni e]) = true by kernel_rfl) (AllP.c h5 (AllP.c (show freshA (AV.tup [AV.nils, ni e]) = true by kernel_rfl) (AllP.c h6 (AllP.c (show freshA (AV.bool true) = true by kernel_rfl) (AllP.c h7 (AllP.c h8 (AllP.c (LeR.refl (x := AV.sl false false (1 : Nat) (bsA p))) (AllP.c (LeR.refl (x := AV.own false (1 : Nat) (bsA (spare p)))) (AllP.c (LeR.nilsOwn : LeR AV.nils (AV.own true (2 : Nat) [])) (AllP.c (LeR.refl (x := AV.int IntKind.i64 (↑(0 : Nat) : Int))) (AllP.c (LeR.refl (x := AV.int IntKind.i64 (↑(0 : Nat) : Int))) (AllP.c (LeR.refl (x := AV.mem [])) (AllP.c h9 (AllP.c h10 (AllP.c (show freshA (AV.bool true) = true by kernel_rfl) (AllP.c (show AV.bool true = AV.bool true by kernel_rfl) AllP.n))))))))))))))))))))))
theorem Splits_ok (p : List UInt8) (l : List TLV)
    (h1 : FnW Try.prog (7 : FuncId) [] [] (AV.bool true))
    (h2 : FnW Try.prog (11 : FuncId) [AV.sl false false (1 : Nat) (stale.sL (bsA p))] [slB p] (AV.tup [AV.sl true true (1 : Nat) (bsA p), AV.own false (1 : Nat) (bsA (spare p))]))
    (h3 : freshA (AV.tup [AV.sl true true (1 : Nat) (bsA p), AV.own false (1 : Nat) (bsA (spare p))]) = true)
    (h4 : FnW Try.prog (12 : FuncId) [AV.sl false true (1 : Nat) (stale.sL (bsA p))] [slB p] (AV.tup [AV.own true (2 : Nat) (tsF l), ni (0 : Nat)]))
    (h5 : freshA (AV.tup [AV.own true (2 : Nat) (tsF l), ni (0 : Nat)]) = true)
    (h6 : AV.tup (deepT [AV.own true (2 : Nat) (tsF l), ni (0 : Nat)]) = AV.tup [AV.own true (2 : Nat) (tsD l), ni (0 : Nat)])
    (h7 : FnW Try.prog (13 : FuncId) [AV.sl false false (1 : Nat) (stale.sL (bsA p))] [slB p] (AV.tup [AV.own true (2 : Nat) (tsF l), ni (0 : Nat)]))
    (h8 : FnW Try.prog (14 : FuncId) [AV.sl false false (2 : Nat) (stale.sL (undeep.uL (tsD l))), AV.sl false false (2 : Nat) (stale.sL (undeep.uL (tsD l)))] [slT l, slT l] (AV.bool true))
    (h9 : FnW Try.prog (15 : FuncId) [AV.sl false false (2 : Nat) (stale.sL (undeep.uL (tsD l)))] [slT l] (AV.tup [AV.own true (1 : Nat) (bsA p), ni (0 : Nat)]))
    (h10 : freshA (AV.tup [AV.own true (1 : Nat) (bsA p), ni (0 : Nat)]) = true)
    (h11 : AV.tup (deepT [AV.own true (1 : Nat) (bsA p), ni (0 : Nat)]) = AV.tup [AV.own true (1 : Nat) (bsA p), ni (0 : Nat)])
    (h12 : FnW Try.prog (16 : FuncId) [AV.sl false false (1 : Nat) (stale.sL (undeep.uL (bsA p))), AV.sl false false (1 : Nat) (stale.sL (bsA p))] [slB p, slB p] (AV.bool true))
    (h13 : LeR (AV.int IntKind.i64 (↑(tsD l).length : Int)) (AV.int IntKind.i64 (↑l.length : Int)))
    (h14 : Runs Try.prog T4 (83 : Nat) (Cd.loop [] lp4x1) (sS1 p (tsD l) l.length (0 : Nat)) fun x => x = (Ex.exit (0 : Nat), st (83 : Nat) [((0 : Nat), slB p), ((4 : Nat), AV.own false (1 : Nat) (bsA (spare p)))]))
    (h15 : FnW Try.prog (17 : FuncId) [AV.sl false false (1 : Nat) (stale.sL (bsA (spare p))), AV.sl false false (1 : Nat) (stale.sL (bsA p))] [slB (spare p), slB p] (AV.bool true)) :
    WayF Try.prog 4 T4 fd4 [(13, .c [] (.bool true)), (17, .c [slB p] (.tup [.sl true true 1 (bsA p), .own false 1 (bsA (spare p))])), (22, .c [slB p] (.tup [.own true 2 (tsF l), ni 0])), (22, .n (.tup [.own true 2 (tsD l), ni 0])), (27, .c [slB p] (.tup [.own true 2 (tsF l), ni 0])), (27, .n (.tup [.own true 2 (tsD l), ni 0])), (32, .c [slT l, slT l] (.bool true)), (43, .c [slT l] (.tup [.own true 1 (bsA p), ni 0])), (43, .n (.tup [.own true 1 (bsA p), ni 0])), (51, .c [slB p, slB p] (.bool true)), (0, .lp (sS1 p (tsD l) l.length 0) (.exit 0) (st 83 [(0, slB p), (4, .own false 1 (bsA (spare p)))])), (82, .c [slB (spare p), slB p] (.bool true))] [slB p] (.bool true) :=
  fn_of_pr hfol ok4 hT4 (show prF Try.prog 4 T4 fd4 [(13, .c [] (.bool true)), (17, .c [slB p] (.tup [.sl true true 1 (bsA p), .own false 1 (bsA (spare p))])), (22, .c [slB p] (.tup [.own true 2 (tsF l), ni 0])), (22, .n (.tup [.own true 2 (tsD l), ni 0])), (27, .c [slB p] (.tup [.own true 2 (tsF l), ni 0])), (27, .n (.tup [.own true 2 (tsD l), ni 0])), (32, .c [slT l, slT l] (.bool true)), (43, .c [slT l] (.tup [.own true 1 (bsA p), ni 0])), (43, .n (.tup [.own true 1 (bsA p), ni 0])), (51, .c [slB p, slB p] (.bool true)), (0, .lp (sS1 p (tsD l) l.length 0) (.exit 0) (st 83 [(0, slB p), (4, .own false 1 (bsA (spare p)))])), (82, .c [slB (spare p), slB p] (.bool true))] [slB p] (.bool true) = some _ by kernel_rfl) (AllP.c h1 (AllP.c (show freshA (AV.bool true) = true by kernel_rfl) (AllP.c h2 (AllP.c h3 (AllP.c h4 (AllP.c h5 (AllP.c h6 (AllP.c h7 (AllP.c h5 (AllP.c h6 (AllP.c h8 (AllP.c (show freshA (AV.bool true) = true by kernel_rfl) (AllP.c h9 (AllP.c h10 (AllP.c h11 (AllP.c h12 (AllP.c (show freshA (AV.bool true) = true by kernel_rfl) (AllP.c (LeR.refl (x := AV.sl false false (1 : Nat) (bsA p))) (AllP.c (LeR.refl (x := AV.own false (1 : Nat) (bsA (spare p)))) (AllP.c (LeR.refl (x := AV.own true (2 : Nat) (tsD l))) (AllP.c h13 (AllP.c (LeR.refl (x := AV.int IntKind.i64 (↑(0 : Nat) : Int))) (AllP.c (LeR.refl (x := AV.mem [])) (AllP.c h14 (AllP.c h15 (AllP.c (show freshA (AV.bool true) = true by kernel_rfl) (AllP.c (show AV.bool true = AV.bool true by kernel_rfl) AllP.n)))))))))))))))))))))))))))
end Go.Ev

/-! text T5 -/
set_option linter.unusedVariables false
namespace Go.Ev
open Go.Proofs (Try.prog)
abbrev m77 : AV := .agg [.int .u8 77, .nils]
/-- Behind Join: 'o': its bytes; 'l': too long. -/
abbrev sJo1 (l : List TLV) (p : List UInt8) (L : List AV) (n i : Nat) : List AV := st 116 [(0, slT l), (5, .own false 2 (tsF l ++ [m77])), (6, .own true 1 (bsA p)), (7, ni 0), (8, .own true 1 (bsA p)), (9, ni 0), (10, .own true 1 L), (11, .bool true), (48, ni n), (49, ni i)]
abbrev sJo0 (l : List TLV) (p : List UInt8) (L : List AV) (n i m j : Nat) : List AV := st 116 [(0, slT l), (5, .own false 2 (tsF l ++ [m77])), (6, .own true 1 (bsA p)), (7, ni 0), (8, .own true 1 (bsA p)), (9, ni 0), (10, .own true 1 L), (11, .bool true), (12, ni i), (48, ni n), (49, ni i), (56, ni m), (57, ni j)]
abbrev sJo2 (l : List TLV) (p : List UInt8) : List AV := st 116 [(0, slT l), (5, .own false 2 (tsF l ++ [m77])), (6, .own true 1 (bsA p)), (7, ni 0), (8, .own true 1 (bsA p)), (9, ni 0), (11, .bool true)]
abbrev sJl1 (l : List TLV) (p : List UInt8) (L : List AV) (n i : Nat) : List AV := st 116 [(0, slT l), (5, .own false 2 (tsF l ++ [m77])), (6, .nils), (7, ni 2), (8, .nils), (9, ni 2), (10, .own true 1 L), (11, .bool true), (48, ni n), (49, ni i)]
abbrev sJl0 (l : List TLV) (p : List UInt8) (L : List AV) (n i m j : Nat) : List AV := st 116 [(0, slT l), (5, .own false 2 (tsF l ++ [m77])), (6, .nils), (7, ni 2), (8, .nils), (9, ni 2), (10, .own true 1 L), (11, .bool true), (12, ni i), (48, ni n), (49, ni i), (56, ni m), (57, ni j)]
abbrev sJl2 (l : List TLV) (p : List UInt8) : List AV := st 116 [(0, slT l), (5, .own false 2 (tsF l ++ [m77])), (6, .nils), (7, ni 2), (8, .nils), (9, ni 2), (11, .bool true)]
end Go.Ev

/-! text W5 -/
set_option linter.unusedVariables false
namespace Go.Ev
open Go.Proofs (Try.prog)
theorem Filters_way00 (a b : List TLV) (k : UInt8) (X Y Z : List (List UInt8)) (s : Nat)
    (h1 : FnW Try.prog (7 : FuncId) [] [] (AV.bool true))
    (h2 : FnW Try.prog (9 : FuncId) [AV.sl false false (2 : Nat) (stale.sL (tsS a))] [slT a] (AV.own true (2 : Nat) (tsF a)))
    (h3 : freshA (AV.own true (2 : Nat) (tsF a)) = true)
    (h4 : FnW Try.prog (8 : FuncId) [AV.sl false false (2 : Nat) (stale.sL (undeep.uL (deepen.dL (tsF a)))), AV.int IntKind.u8 (↑k.toNat : Int)] [slT a, bA k] (AV.own true (1 : Nat) (vsF X)))
    (h5 : freshA (AV.own true (1 : Nat) (vsF X)) = true)
    (h6 : FnW Try.prog (9 : FuncId) [AV.sl false false (2 : Nat) (stale.sL (tsS b))] [slT b] (AV.own true (2 : Nat) (tsF b)))
    (h7 : freshA (AV.own true (2 : Nat) (tsF b)) = true)
    (h8 : FnW Try.prog (8 : FuncId) [AV.sl false false (2 : Nat) (stale.sL (undeep.uL (deepen.dL (tsF b)))), AV.int IntKind.u8 (↑k.toNat : Int)] [slT b, bA k] (AV.own true (1 : Nat) (vsF Y)))
    (h9 : freshA (AV.own true (1 : Nat) (vsF Y)) = true)
    (h10 : (deepen.dL (tsF b)).all flat = true)
    (h11 : (deepen.dL (tsF b)).all (okElem (2 : Nat)) = true)
    (h12 : ((deepen.dL (tsF a)).length + (deepen.dL (tsF b)).length) * (32 : Nat) ≤ (140737488355328 : Nat))
    (h13 : FnW Try.prog (8 : FuncId) [AV.sl false false (2 : Nat) (stale.sL (undeep.uL (deepen.dL (tsF a) ++ deepen.dL (tsF b)))), AV.int IntKind.u8 (↑k.toNat : Int)] [slT (a ++ b), bA k] (AV.own true (1 : Nat) (vsF Z)))
    (h14 : freshA (AV.own true (1 : Nat) (vsF Z)) = true)
    (h15 : LeR (AV.own true (1 : Nat) (deepen.dL (vsF X))) (AV.own true (1 : Nat) (vsD X)))
    (h16 : LeR (AV.own true (1 : Nat) (deepen.dL (vsF Y))) (AV.own true (1 : Nat) (vsD Y)))
    (h17 : LeR (AV.own true (1 : Nat) (deepen.dL (vsF Z))) (AV.own true (1 : Nat) (vsD Z)))
    (h18 : Runs Try.prog T3 (51 : Nat) (Cd.loop [] lp3x0) (sF a X Y Z (0 : Nat) (0 : Nat)) fun x => x = (Ex.exit (0 : Nat), st (51 : Nat) [((0 : Nat), slT a), ((7 : Nat), AV.own true (1 : Nat) (vsD X)), ((8 : Nat), AV.own true (1 : Nat) (vsD Y)), ((9 : Nat), AV.own true (1 : Nat) (vsD Z)), ((10 : Nat), ni s)]))
    (h19 : (vsD Y).all flat = true)
    (h20 : (vsD Y).all (okElem (1 : Nat)) = true)
    (h21 : ((vsD X).length + (vsD Y).length) * (24 : Nat) ≤ (140737488355328 : Nat))
    (h22 : FnW Try.prog (10 : FuncId) [AV.sl false false (1 : Nat) (stale.sL (undeep.uL (vsD Z))), AV.sl false false (1 : Nat) (stale.sL (undeep.uL (vsD X ++ vsD Y)))] [slV Z, slV (X ++ Y)] (AV.bool true))
    (h23 : ((↑s : Int) == (↑(tsS a).length : Int)) = true) :
    WayF Try.prog 3 T3 fd3 [(12, .c [] (.bool true)), (15, .c [slT a] (.own true 2 (tsF a))), (17, .c [slT a, bA k] (.own true 1 (vsF X))), (19, .c [slT b] (.own true 2 (tsF b))), (21, .c [slT b, bA k] (.own true 1 (vsF Y))), (23, .c [slT a] (.own true 2 (tsF a))), (25, .c [slT b] (.own true 2 (tsF b))), (26, .q), (28, .c [slT (a ++ b), bA k] (.own true 1 (vsF Z))), (0, .lp (sF a X Y Z 0 0) (.exit 0) (st 51 [(0, slT a), (7, .own true 1 (vsD X)), (8, .own true 1 (vsD Y)), (9, .own true 1 (vsD Z)), (10, ni s)])), (43, .q), (44, .c [slV Z, slV (X ++ Y)] (.bool true)), (49, .b true)] [slT a, slT b, bA k] (.bool true) :=
  fn_of_pr hfol ok3 hT3 (show prF Try.prog 3 T3 fd3 [(12, .c [] (.bool true)), (15, .c [slT a] (.own true 2 (tsF a))), (17, .c [slT a, bA k] (.own true 1 (vsF X))), (19, .c [slT b] (.own true 2 (tsF b))), (21, .c [slT b, bA k] (.own true 1 (vsF Y))), (23, .c [slT a] (.own true 2 (tsF a))), (25, .c [slT b] (.own true 2 (tsF b))), (26, .q), (28, .c [slT (a ++ b), bA k] (.own true 1 (vsF Z))), (0, .lp (sF a X Y Z 0 0) (.exit 0) (st 51 [(0, slT a), (7, .own true 1 (vsD X)), (8, .own true 1 (vsD Y)), (9, .own true 1 (vsD Z)), (10, ni s)])), (43, .q), (44, .c [slV Z, slV (X ++ Y)] (.bool true)), (49, .b true)] [slT a, slT b, bA k] (.bool true) = some _ by kernel_rfl) (AllP.c h1 (AllP.c (show freshA (AV.bool true) = true by kernel_rfl) (AllP.c h2 (AllP.c h3 (AllP.c h4 (AllP.c h5 (AllP.c h6 (AllP.c h7 (AllP.c h8 (AllP.c h9 (AllP.c h2 (AllP.c h3 (AllP.c h6 (AllP.c h7 (AllP.c h10 (AllP.c h11 (AllP.c h12 (AllP.c h13 (AllP.c h14 (AllP.c (LeR.refl (x := AV.sl false false (2 : Nat) (tsS a))) (AllP.c h15 (AllP.c h16 (AllP.c h17 (AllP.c (LeR.refl (x := AV.int IntKind.i64 (↑(0 : Nat) : Int))) (AllP.c (LeR.refl (x := AV.int IntKind.i64 (↑(0 : Nat) : Int))) (AllP.c (LeR.refl (x := AV.mem [])) (AllP.c h18 (AllP.c h19 (AllP.c h20 (AllP.c h21 (AllP.c h22 (AllP.c (show freshA (AV.bool true) = true by kernel_rfl) (AllP.c h23 (AllP.c (show AV.bool true = AV.bool true by kernel_rfl) AllP.n))))))))))))))))))))))))))))))))))
theorem Filters_way10 (a b : List TLV) (k : UInt8) (X Y Z : List (List UInt8)) (s : Nat)
    (h1 : FnW Try.prog (7 : FuncId) [] [] (AV.bool true))
    (h2 : FnW Try.prog (9 : FuncId) [AV.sl false false (2 : Nat) (stale.sL (tsS a))] [slT a] (AV.own true (2 : Nat) (tsF a)))
    (h3 : freshA (AV.own true (2 : Nat) (tsF a)) = true)
    (h4 : FnW Try.prog (8 : FuncId) [AV.sl false false (2 : Nat) (stale.sL (undeep.uL (deepen.dL (tsF a)))), AV.int IntKind.u8 (↑k.toNat : Int)] [slT a, bA k] (AV.own true (1 : Nat) (vsF X)))
    (h5 : freshA (AV.own true (1 : Nat) (vsF X)) = true)
    (h6 : FnW Try.prog (9 : FuncId) [AV.sl false false (2 : Nat) (stale.sL (tsS b))] [slT b] (AV.own true (2 : Nat) (tsF b)))
    (h7 : freshA (AV.own true (2 : Nat) (tsF b)) = true)
    (h8 : FnW Try.prog (8 : FuncId) [AV.sl false false (2 : Nat) (stale.sL (undeep.uL (deepen.dL (tsF b)))), AV.int IntKind.u8 (↑k.toNat : Int)] [slT b, bA k] (AV.own true (1 : Nat) (vsF Y)))
    (h9 : freshA (AV.own true (1 : Nat) (vsF Y)) = true)
    (h10 : (deepen.dL (tsF b)).all flat = false)
    (h11 : (undeep.uL (deepen.dL (tsF b))).all (okElem (2 : Nat)) = true)
    (h12 : ((deepen.dL (tsF a)).length + (undeep.uL (deepen.dL (tsF b))).length) * (32 : Nat) ≤ (140737488355328 : Nat))
    (h13 : FnW Try.prog (8 : FuncId) [AV.sl false false (2 : Nat) (stale.sL (undeep.uL (deepen.dL (tsF a) ++ undeep.uL (deepen.dL (tsF b))))), AV.int IntKind.u8 (↑k.toNat : Int)] [slT (a ++ b), bA k] (AV.own true (1 : Nat) (vsF Z)))
    (h14 : freshA (AV.own true (1 : Nat) (vsF Z)) = true)
    (h15 : LeR (AV.own true (1 : Nat) (deepen.dL (vsF X))) (AV.own true (1 : Nat) (vsD X)))
    (h16 : LeR (AV.own true (1 : Nat) (deepen.dL (vsF Y))) (AV.own true (1 : Nat) (vsD Y)))
    (h17 : LeR (AV.own true (1 : Nat) (deepen.dL (vsF Z))) (AV.own true (1 : Nat) (vsD Z)))
    (h18 : Runs Try.prog T3 (51 : Nat) (Cd.loop [] lp3x0) (sF a X Y Z (0 : Nat) (0 : Nat)) fun x => x = (Ex.exit (0 : Nat), st (51 : Nat) [((0 : Nat), slT a), ((7 : Nat), AV.own true (1 : Nat) (vsD X)), ((8 : Nat), AV.own true (1 : Nat) (vsD Y)), ((9 : Nat), AV.own true (1 : Nat) (vsD Z)), ((10 : Nat), ni s)]))
    (h19 : (vsD Y).all flat = true)
    (h20 : (vsD Y).all (okElem (1 : Nat)) = true)
    (h21 : ((vsD X).length + (vsD Y).length) * (24 : Nat) ≤ (140737488355328 : Nat))
    (h22 : FnW Try.prog (10 : FuncId) [AV.sl false false (1 : Nat) (stale.sL (undeep.uL (vsD Z))), AV.sl false false (1 : Nat) (stale.sL (undeep.uL (vsD X ++ vsD Y)))] [slV Z, slV (X ++ Y)] (AV.bool true))
    (h23 : ((↑s : Int) == (↑(tsS a).length : Int)) = true) :
    WayF Try.prog 3 T3 fd3 [(12, .c [] (.bool true)), (15, .c [slT a] (.own true 2 (tsF a))), (17, .c [slT a, bA k] (.own true 1 (vsF X))), (19, .c [slT b] (.own true 2 (tsF b))), (21, .c [slT b, bA k] (.own true 1 (vsF Y))), (23, .c [slT a] (.own true 2 (tsF a))), (25, .c [slT b] (.own true 2 (tsF b))), (26, .q2), (28, .c [slT (a ++ b), bA k] (.own true 1 (vsF Z))), (0, .lp (sF a X Y Z 0 0) (.exit 0) (st 51 [(0, slT a), (7, .own true 1 (vsD X)), (8, .own true 1 (vsD Y)), (9, .own true 1 (vsD Z)), (10, ni s)])), (43, .q), (44, .c [slV Z, slV (X ++ Y)] (.bool true)), (49, .b true)] [slT a, slT b, bA k] (.bool true) :=
  fn_of_pr hfol ok3 hT3 (show prF Try.prog 3 T3 fd3 [(12, .c [] (.bool true)), (15, .c [slT a] (.own true 2 (tsF a))), (17, .c [slT a, bA k] (.own true 1 (vsF X))), (19, .c [slT b] (.own true 2 (tsF b))), (21, .c [slT b, bA k] (.own true 1 (vsF Y))), (23, .c [slT a] (.own true 2 (tsF a))), (25, .c [slT b] (.own true 2 (tsF b))), (26, .q2), (28, .c [slT (a ++ b), bA k] (.own true 1 (vsF Z))), (0, .lp (sF a X Y Z 0 0) (.exit 0) (st 51 [(0, slT a), (7, .own true 1 (vsD X)), (8, .own true 1 (vsD Y)), (9, .own true 1 (vsD Z)), (10, ni s)])), (43, .q), (44, .c [slV Z, slV (X ++ Y)] (.bool true)), (49, .b true)] [slT a, slT b, bA k] (.bool true) = some _ by kernel_rfl) (AllP.c h1 (AllP.c (show freshA (AV.bool true) = true by kernel_rfl) (AllP.c h2 (AllP.c h3 (AllP.c h4 (AllP.c h5 (AllP.c h6 (AllP.c h7 (AllP.c h8 (AllP.c h9 (AllP.c h2 (AllP.c h3 (AllP.c h6 (AllP.c h7 (AllP.c h10 (AllP.c h11 (AllP.c h12 (AllP.c h13 (AllP.c h14 (AllP.c (LeR.refl (x := AV.sl false false (2 : Nat) (tsS a))) (AllP.c h15 (AllP.c h16 (AllP.c h17 (AllP.c (LeR.refl (x := AV.int IntKind.i64 (↑(0 : Nat) : Int))) (AllP.c (LeR.refl (x := AV.int IntKind.i64 (↑(0 : Nat) : Int))) (AllP.c (LeR.refl (x := AV.mem [])) (AllP.c h18 (AllP.c h19 (AllP.c h20 (AllP.c h21 (AllP.c h22 (AllP.c (show freshA (AV.bool true) = true by kernel_rfl) (AllP.c h23 (AllP.c (show AV.bool true = AV.bool true by kernel_rfl) AllP.n))))))))))))))))))))))))))))))))))
theorem JoinsIn_first_o (l : List TLV) (p : List UInt8) (X : List (List UInt8)) (i j m : Nat) (v : List UInt8) (b : UInt8)
    (h1 : decide ((↑j : Int) < (↑m : Int)) = true)
    (h2 : (↑i : Int) < (↑(vsD X).length : Int))
    (h3 : cellOf (1 : Nat) (vsD X) (i * (1 : Nat)) = some (vD v))
    (h4 : (bsA v)[j]? = some (bA b))
    (h5 : IntKind.i64.wrap ((↑j : Int) + (1 : Int)) = (↑(j + (1 : Nat)) : Int))
    (h6 : LeR (AV.own true (1 : Nat) (hv.hvL (vsD X))) (AV.own true (1 : Nat) (vsX X))) :
    WayR Try.prog T6 116 lp6x0 [(58, .b true), (62, .q), (63, .v (vD v)), (65, .v (bA b)), (68, .v (bA b)), (69, .i (j + 1 : Nat))] (sJo0 l p (vsD X) X.length i m j) .normal (sJo0 l p (vsX X) X.length i m (j + 1)) :=
  runs_of_pr hfol (show prR Try.prog T6 116 lp6x0 [(58, .b true), (62, .q), (63, .v (vD v)), (65, .v (bA b)), (68, .v (bA b)), (69, .i (j + 1 : Nat))] (sJo0 l p (vsD X) X.length i m j) .normal (sJo0 l p (vsX X) X.length i m (j + 1)) = some _ by kernel_rfl) (AllP.c h1 (AllP.c (show (0 : Int) ≤ (↑i : Int) from Int.natCast_nonneg _) (AllP.c h2 (AllP.c h3 (AllP.c (show (0 : Int) ≤ (↑j : Int) from Int.natCast_nonneg _) (AllP.c h4 (AllP.c (show (0 : Int) ≤ (↑j : Int) from Int.natCast_nonneg _) (AllP.c h4 (AllP.c h5 (AllP.c (LeR.refl (x := AV.sl false false (2 : Nat) (tsS l))) (AllP.c (LeR.refl (x := AV.own false (2 : Nat) (tsF l ++ [m77]))) (AllP.c (LeR.refl (x := AV.own true (1 : Nat) (bsA p))) (AllP.c (LeR.refl (x := AV.int IntKind.i64 (↑(0 : Nat) : Int))) (AllP.c (LeR.refl (x := AV.own true (1 : Nat) (bsA p))) (AllP.c (LeR.refl (x := AV.int IntKind.i64 (↑(0 : Nat) : Int))) (AllP.c h6 (AllP.c (LeR.refl (x := AV.bool true)) (AllP.c (LeR.refl (x := AV.int IntKind.i64 (↑i : Int))) (AllP.c (LeR.refl (x := AV.int IntKind.i64 (↑X.length : Int))) (AllP.c (LeR.refl (x := AV.int IntKind.i64 (↑i : Int))) (AllP.c (LeR.refl (x := AV.int IntKind.i64 (↑m : Int))) (AllP.c (LeR.refl (x := AV.int IntKind.i64 (↑(j + (1 : Nat)) : Int))) (AllP.c (LeR.refl (x := AV.mem [])) AllP.n)))))))))))))))))))))))
theorem JoinsIn_next_o (l : List TLV) (p : List UInt8) (X : List (List UInt8)) (i j m : Nat) (v : List UInt8)
    (h1 : decide ((↑j : Int) < (↑m : Int)) = true)
    (h2 : (↑i : Int) < (↑(vsX X).length : Int))
    (h3 : cellOf (1 : Nat) (vsX X) (i * (1 : Nat)) = some (vX v))
    (h4 : (List.map (fun x => anyB) v)[j]? = some anyB)
    (h5 : IntKind.i64.wrap ((↑j : Int) + (1 : Int)) = (↑(j + (1 : Nat)) : Int))
    (h6 : LeR (AV.own true (1 : Nat) (hv.hvL (vsX X))) (AV.own true (1 : Nat) (vsX X))) :
    WayR Try.prog T6 116 lp6x0 [(58, .b true), (62, .q), (63, .v (vX v)), (65, .v anyB), (68, .v anyB), (69, .i (j + 1 : Nat))] (sJo0 l p (vsX X) X.length i m j) .normal (sJo0 l p (vsX X) X.length i m (j + 1)) :=
  runs_of_pr hfol (show prR Try.prog T6 116 lp6x0 [(58, .b true), (62, .q), (63, .v (vX v)), (65, .v anyB), (68, .v anyB), (69, .i (j + 1 : Nat))] (sJo0 l p (vsX X) X.length i m j) .normal (sJo0 l p (vsX X) X.length i m (j + 1)) = some _ by kernel_rfl) (AllP.c h1 (AllP.c (show (0 : Int) ≤ (↑i : Int) from Int.natCast_nonneg _) (AllP.c h2 (AllP.c h3 (AllP.c (show (0 : Int) ≤ (↑j : Int) from Int.natCast_nonneg _) (AllP.c h4 (AllP.c (show (0 : Int) ≤ (↑j : Int) from Int.natCast_nonneg _) (AllP.c h4 (AllP.c h5 (AllP.c (LeR.refl (x := AV.sl false false (2 : Nat) (tsS l))) (AllP.c (LeR.refl (x := AV.own false (2 : Nat) (tsF l ++ [m77]))) (AllP.c (LeR.refl (x := AV.own true (1 : Nat) (bsA p))) (AllP.c (LeR.refl (x := AV.int IntKind.i64 (↑(0 : Nat) : Int))) (AllP.c (LeR.refl (x := AV.own true (1 : Nat) (bsA p))) (AllP.c (LeR.refl (x := AV.int IntKind.i64 (↑(0 : Nat) : Int))) (AllP.c h6 (AllP.c (LeR.refl (x := AV.bool true)) (AllP.c (LeR.refl (x := AV.int IntKind.i64 (↑i : Int))) (AllP.c (LeR.refl (x := AV.int IntKind.i64 (↑X.length : Int))) (AllP.c (LeR.refl (x := AV.int IntKind.i64 (↑i : Int))) (AllP.c (LeR.refl (x := AV.int IntKind.i64 (↑m : Int))) (AllP.c (LeR.refl (x := AV.int IntKind.i64 (↑(j + (1 : Nat)) : Int))) (AllP.c (LeR.refl (x := AV.mem [])) AllP.n)))))))))))))))))))))))
theorem JoinsIn_end_o (l : List TLV) (p : List UInt8) (L : List AV) (i j m n : Nat)
    (h1 : decide ((↑j : Int) < (↑m : Int)) = false) :
    WayR Try.prog T6 116 lp6x0 [(58, .b false)] (sJo0 l p L n i m j) (.exit 2) (sJo1 l p L n i) :=
  runs_of_pr hfol (show prR Try.prog T6 116 lp6x0 [(58, .b false)] (sJo0 l p L n i m j) (.exit 2) (sJo1 l p L n i) = some _ by kernel_rfl) (AllP.c h1 (AllP.c (LeR.refl (x := AV.sl false false (2 : Nat) (tsS l))) (AllP.c (LeR.refl (x := AV.own false (2 : Nat) (tsF l ++ [m77]))) (AllP.c (LeR.refl (x := AV.own true (1 : Nat) (bsA p))) (AllP.c (LeR.refl (x := AV.int IntKind.i64 (↑(0 : Nat) : Int))) (AllP.c (LeR.refl (x := AV.own true (1 : Nat) (bsA p))) (AllP.c (LeR.refl (x := AV.int IntKind.i64 (↑(0 : Nat) : Int))) (AllP.c (LeR.refl (x := AV.own true (1 : Nat) L)) (AllP.c (LeR.refl (x := AV.bool true)) (AllP.c (LeR.refl (x := AV.int IntKind.i64 (↑n : Int))) (AllP.c (LeR.refl (x := AV.int IntKind.i64 (↑i : Int))) (AllP.c (LeR.refl (x := AV.mem [])) AllP.n))))))))))))
theorem JoinsOut_d_o (l : List TLV) (p : List UInt8) (X : List (List UInt8)) (L : List AV) (i : Nat) (v : List UInt8)
    (h1 : decide ((↑i : Int) < (↑X.length : Int)) = true)
    (h2 : (↑i : Int) < (↑(vsD X).length : Int))
    (h3 : cellOf (1 : Nat) (vsD X) (i * (1 : Nat)) = some (vD v))
    (h4 : (↑(bsA v).length : Int) = (↑v.length : Int))
    (h5 : Runs Try.prog T6 (116 : Nat) (Cd.loop [] lp6x0) (sJo0 l p (vsD X) X.length i v.length (0 : Nat)) fun x => x = (Ex.exit (2 : Nat), sJo1 l p L X.length i))
    (h6 : IntKind.i64.wrap ((↑i : Int) + (1 : Int)) = (↑(i + (1 : Nat)) : Int)) :
    WayR Try.prog T6 116 lp6x1 [(50, .b true), (54, .q), (55, .v (vD v)), (56, .i v.length), (0, .lp (sJo0 l p (vsD X) X.length i v.length 0) (.exit 2) (sJo1 l p L X.length i)), (70, .i (i + 1 : Nat))] (sJo1 l p (vsD X) X.length i) .normal (sJo1 l p L X.length (i + 1)) :=
  runs_of_pr hfol (show prR Try.prog T6 116 lp6x1 [(50, .b true), (54, .q), (55, .v (vD v)), (56, .i v.length), (0, .lp (sJo0 l p (vsD X) X.length i v.length 0) (.exit 2) (sJo1 l p L X.length i)), (70, .i (i + 1 : Nat))] (sJo1 l p (vsD X) X.length i) .normal (sJo1 l p L X.length (i + 1)) = some _ by kernel_rfl) (AllP.c h1 (AllP.c (show (0 : Int) ≤ (↑i : Int) from Int.natCast_nonneg _) (AllP.c h2 (AllP.c h3 (AllP.c h4 (AllP.c (LeR.refl (x := AV.sl false false (2 : Nat) (tsS l))) (AllP.c (LeR.refl (x := AV.own false (2 : Nat) (tsF l ++ [m77]))) (AllP.c (LeR.refl (x := AV.own true (1 : Nat) (bsA p))) (AllP.c (LeR.refl (x := AV.int IntKind.i64 (↑(0 : Nat) : Int))) (AllP.c (LeR.refl (x := AV.own true (1 : Nat) (bsA p))) (AllP.c (LeR.refl (x := AV.int IntKind.i64 (↑(0 : Nat) : Int))) (AllP.c (LeR.refl (x := AV.own true (1 : Nat) (vsD X))) (AllP.c (LeR.refl (x := AV.bool true)) (AllP.c (LeR.refl (x := AV.int IntKind.i64 (↑i : Int))) (AllP.c (LeR.refl (x := AV.int IntKind.i64 (↑X.length : Int))) (AllP.c (LeR.refl (x := AV.int IntKind.i64 (↑i : Int))) (AllP.c (LeR.refl (x := AV.int IntKind.i64 (↑v.length : Int))) (AllP.c (LeR.refl (x := AV.int IntKind.i64 (↑(0 : Nat) : Int))) (AllP.c (LeR.refl (x := AV.mem [])) (AllP.c h5 (AllP.c h6 (AllP.c (LeR.refl (x := AV.sl false false (2 : Nat) (tsS l))) (AllP.c (LeR.refl (x := AV.own false (2 : Nat) (tsF l ++ [m77]))) (AllP.c (LeR.refl (x := AV.own true (1 : Nat) (bsA p))) (AllP.c (LeR.refl (x := AV.int IntKind.i64 (↑(0 : Nat) : Int))) (AllP.c (LeR.refl (x := AV.own true (1 : Nat) (bsA p))) (AllP.c (LeR.refl (x := AV.int IntKind.i64 (↑(0 : Nat) : Int))) (AllP.c (LeR.refl (x := AV.own true (1 : Nat) L)) (AllP.c (LeR.refl (x := AV.bool true)) (AllP.c (LeR.refl (x := AV.int IntKind.i64 (↑X.length : Int))) (AllP.c (LeR.refl (x := AV.int IntKind.i64 (↑(i + (1 : Nat)) : Int))) (AllP.c (LeR.refl (x := AV.mem [])) AllP.n))))))))))))))))))))))))))))))))
theorem JoinsOut_x_o (l : List TLV) (p : List UInt8) (X : List (List UInt8)) (i : Nat) (v : List UInt8)
    (h1 : decide ((↑i : Int) < (↑X.length : Int)) = true)
    (h2 : (↑i : Int) < (↑(vsX X).length : Int))
    (h3 : cellOf (1 : Nat) (vsX X) (i * (1 : Nat)) = some (vX v))
    (h4 : (↑(List.map (fun x => anyB) v).length : Int) = (↑v.length : Int))
    (h5 : Runs Try.prog T6 (116 : Nat) (Cd.loop [] lp6x0) (sJo0 l p (vsX X) X.length i v.length (0 : Nat)) fun x => x = (Ex.exit (2 : Nat), sJo1 l p (vsX X) X.length i))
    (h6 : IntKind.i64.wrap ((↑i : Int) + (1 : Int)) = (↑(i + (1 : Nat)) : Int)) :
    WayR Try.prog T6 116 lp6x1 [(50, .b true), (54, .q), (55, .v (vX v)), (56, .i v.length), (0, .lp (sJo0 l p (vsX X) X.length i v.length 0) (.exit 2) (sJo1 l p (vsX X) X.length i)), (70, .i (i + 1 : Nat))] (sJo1 l p (vsX X) X.length i) .normal (sJo1 l p (vsX X) X.length (i + 1)) :=
  runs_of_pr hfol (show prR Try.prog T6 116 lp6x1 [(50, .b true), (54, .q), (55, .v (vX v)), (56, .i v.length), (0, .lp (sJo0 l p (vsX X) X.length i v.length 0) (.exit 2) (sJo1 l p (vsX X) X.length i)), (70, .i (i + 1 : Nat))] (sJo1 l p (vsX X) X.length i) .normal (sJo1 l p (vsX X) X.length (i + 1)) = some _ by kernel_rfl) (AllP.c h1 (AllP.c (show (0 : Int) ≤ (↑i : Int) from Int.natCast_nonneg _) (AllP.c h2 (AllP.c h3 (AllP.c h4 (AllP.c (LeR.refl (x := AV.sl false false (2 : Nat) (tsS l))) (AllP.c (LeR.refl (x := AV.own false (2 : Nat) (tsF l ++ [m77]))) (AllP.c (LeR.refl (x := AV.own true (1 : Nat) (bsA p))) (AllP.c (LeR.refl (x := AV.int IntKind.i64 (↑(0 : Nat) : Int))) (AllP.c (LeR.refl (x := AV.own true (1 : Nat) (bsA p))) (AllP.c (LeR.refl (x := AV.int IntKind.i64 (↑(0 : Nat) : Int))) (AllP.c (LeR.refl (x := AV.own true (1 : Nat) (vsX X))) (AllP.c (LeR.refl (x := AV.bool true)) (AllP.c (LeR.refl (x := AV.int IntKind.i64 (↑i : Int))) (AllP.c (LeR.refl (x := AV.int IntKind.i64 (↑X.length : Int))) (AllP.c (LeR.refl (x := AV.int IntKind.i64 (↑i : Int))) (AllP.c (LeR.refl (x := AV.int IntKind.i64 (↑v.length : Int))) (AllP.c (LeR.refl (x := AV.int IntKind.i64 (↑(0 : Nat) : Int))) (AllP.c (LeR.refl (x := AV.mem [])) (AllP.c h5 (AllP.c h6 (AllP.c (LeR.refl (x := AV.sl false false (2 : Nat) (tsS l))) (AllP.c (LeR.refl (x := AV.own false (2 : Nat) (tsF l ++ [m77]))) (AllP.c (LeR.refl (x := AV.own true (1 : Nat) (bsA p))) (AllP.c (LeR.refl (x := AV.int IntKind.i64 (↑(0 : Nat) : Int))) (AllP.c (LeR.refl (x := AV.own true (1 : Nat) (bsA p))) (AllP.c (LeR.refl (x := AV.int IntKind.i64 (↑(0 : Nat) : Int))) (AllP.c (LeR.refl (x := AV.own true (1 : Nat) (vsX X))) (AllP.c (LeR.refl (x := AV.bool true)) (AllP.c (LeR.refl (x := AV.int IntKind.i64 (↑X.length : Int))) (AllP.c (LeR.refl (x := AV.int IntKind.i64 (↑(i + (1 : Nat)) : Int))) (AllP.c (LeR.refl (x := AV.mem [])) AllP.n))))))))))))))))))))))))))))))))
theorem JoinsOut_end_o (l : List TLV) (p : List UInt8) (L : List AV) (n i : Nat)
    (h1 : decide ((↑i : Int) < (↑n : Int)) = false) :
    WayR Try.prog T6 116 lp6x1 [(50, .b false)] (sJo1 l p L n i) (.exit 0) (sJo2 l p) :=
  runs_of_pr hfol (show prR Try.prog T6 116 lp6x1 [(50, .b false)] (sJo1 l p L n i) (.exit 0) (sJo2 l p) = some _ by kernel_rfl) (AllP.c h1 (AllP.c (LeR.refl (x := AV.sl false false (2 : Nat) (tsS l))) (AllP.c (LeR.refl (x := AV.own false (2 : Nat) (tsF l ++ [m77]))) (AllP.c (LeR.refl (x := AV.own true (1 : Nat) (bsA p))) (AllP.c (LeR.refl (x := AV.int IntKind.i64 (↑(0 : Nat) : Int))) (AllP.c (LeR.refl (x := AV.own true (1 : Nat) (bsA p))) (AllP.c (LeR.refl (x := AV.int IntKind.i64 (↑(0 : Nat) : Int))) (AllP.c (LeR.refl (x := AV.bool true)) (AllP.c (LeR.refl (x := AV.mem [])) AllP.n)))))))))
theorem Joins_o0 (l : List TLV) (p : List UInt8) (k : UInt8)
    (h1 : FnW Try.prog (7 : FuncId) [] [] (AV.bool true))
    (h2 : FnW Try.prog (9 : FuncId) [AV.sl false false (2 : Nat) (stale.sL (tsS l))] [slT l] (AV.own true (2 : Nat) (tsF l)))
    (h3 : freshA (AV.own true (2 : Nat) (tsF l)) = true)
    (h4 : ((deepen.dL (tsF l)).length + (1 : Nat)) * (32 : Nat) ≤ (140737488355328 : Nat))
    (h5 : AV.own true (2 : Nat) (deepen.dL (tsF l) ++ [AV.agg [AV.int IntKind.u8 (77 : Int), AV.nils]]) = AV.own true (2 : Nat) (tsD l ++ [m77]))
    (h6 : (↑(tsS l).length : Int) ≤ (↑(undeep.uL (tsD l ++ [m77])).length : Int))
    (h7 : AV.own false (2 : Nat) (undeep.uL (tsD l ++ [m77])) = AV.own false (2 : Nat) (tsF l ++ [m77]))
    (h8 : AV.sl true (false || !(undeep.uL (tsD l ++ [m77])).isEmpty) (2 : Nat) (List.drop (0 : Nat) (List.take (tsS l).length (undeep.uL (tsD l ++ [m77])))) = AV.sl true true (2 : Nat) (tsF l))
    (h9 : FnW Try.prog (15 : FuncId) [AV.sl false true (2 : Nat) (stale.sL (tsF l))] [slT l] (AV.tup [AV.own true (1 : Nat) (bsA p), ni (0 : Nat)]))
    (h10 : freshA (AV.tup [AV.own true (1 : Nat) (bsA p), ni (0 : Nat)]) = true)
    (h11 : AV.tup (deepT [AV.own true (1 : Nat) (bsA p), ni (0 : Nat)]) = AV.tup [AV.own true (1 : Nat) (bsA p), ni (0 : Nat)])
    (h12 : FnW Try.prog (19 : FuncId) [AV.sl false false (2 : Nat) (stale.sL (tsS l))] [slT l] (AV.tup [AV.own true (1 : Nat) (bsA p), ni (0 : Nat)]))
    (h13 : (↑(tsS l).length : Int) ≤ (↑(tsF l ++ [m77]).length : Int))
    (h14 : AV.sl true (false || !(tsF l ++ [m77]).isEmpty) (2 : Nat) (List.drop (0 : Nat) (List.take (tsS l).length (tsF l ++ [m77]))) = AV.sl true true (2 : Nat) (tsF l))
    (h15 : FnW Try.prog (8 : FuncId) [AV.sl false true (2 : Nat) (stale.sL (tsF l)), AV.int IntKind.u8 (↑k.toNat : Int)] [slT l, bA k] (AV.own true (1 : Nat) (vsF [])))
    (h16 : FnW Try.prog (20 : FuncId) [AV.sl false false (2 : Nat) (stale.sL (tsS l)), AV.int IntKind.u8 (↑k.toNat : Int)] [slT l, bA k] (AV.own true (1 : Nat) (vsS [])))
    (h17 : FnW Try.prog (10 : FuncId) [AV.sl false false (1 : Nat) [], AV.sl false false (1 : Nat) []] [slV [], slV []] (AV.bool true))
    (h18 : Runs Try.prog T6 (116 : Nat) (Cd.loop [] lp6x1) (sJo1 l p (vsD []) (0 : Nat) (0 : Nat)) fun x => x = (Ex.exit (0 : Nat), sJo2 l p))
    (h19 : FnW Try.prog (16 : FuncId) [AV.sl false false (1 : Nat) (stale.sL (undeep.uL (bsA p))), AV.sl false false (1 : Nat) (stale.sL (undeep.uL (bsA p)))] [slB p, slB p] (AV.bool true))
    (h20 : FnW Try.prog (14 : FuncId) [AV.sl false true (2 : Nat) (stale.sL (tsF l)), AV.sl false false (2 : Nat) (stale.sL (tsS l))] [slT l, slT l] (AV.bool true))
    (h21 : (tsF l ++ [m77])[(tsS l).length]? = some m77)
    (h22 : FnW Try.prog (12 : FuncId) [AV.sl false false (1 : Nat) (stale.sL (undeep.uL (bsA p)))] [slB p] (AV.tup [AV.own true (2 : Nat) (tsF l), ni (0 : Nat)]))
    (h23 : freshA (AV.tup [AV.own true (2 : Nat) (tsF l), ni (0 : Nat)]) = true)
    (h24 : AV.tup (deepT [AV.own true (2 : Nat) (tsF l), ni (0 : Nat)]) = AV.tup [AV.own true (2 : Nat) (tsD l), ni (0 : Nat)])
    (h25 : FnW Try.prog (14 : FuncId) [AV.sl false false (2 : Nat) (stale.sL (undeep.uL (tsD l))), AV.sl false false (2 : Nat) (stale.sL (tsS l))] [slT l, slT l] (AV.bool true)) :
    WayF Try.prog 6 T6 fd6 [(16, .c [] (.bool true)), (19, .c [slT l] (.own true 2 (tsF l))), (22, .q2), (22, .n (.own true 2 (tsD l ++ [m77]))), (27, .q), (5, .n (.own false 2 (tsF l ++ [m77]))), (27, .n (.sl true true 2 (tsF l))), (28, .c [slT l] (.tup [.own true 1 (bsA p), ni 0])), (28, .n (.tup [.own true 1 (bsA p), ni 0])), (33, .c [slT l] (.tup [.own true 1 (bsA p), ni 0])), (33, .n (.tup [.own true 1 (bsA p), ni 0])), (39, .q), (39, .n (.sl true true 2 (tsF l))), (41, .c [slT l, bA k] (.own true 1 (vsF ([] : List (List UInt8))))), (41, .n (.own true 1 (vsD ([] : List (List UInt8))))), (45, .c [slT l, bA k] (.own true 1 (vsS ([] : List (List UInt8))))), (46, .c [slV ([] : List (List UInt8)), slV ([] : List (List UInt8))] (.bool true)), (0, .lp (sJo1 l p (vsD ([] : List (List UInt8))) ([] : List (List UInt8)).length 0) (.exit 0) (sJo2 l p)), (73, .c [slB p, slB p] (.bool true)), (88, .q), (88, .n (.sl true true 2 (tsF l))), (90, .c [slT l, slT l] (.bool true)), (97, .v m77), (106, .c [slB p] (.tup [.own true 2 (tsF l), ni 0])), (106, .n (.tup [.own true 2 (tsD l), ni 0])), (114, .c [slT l, slT l] (.bool true))] [slT l, bA k] (.bool true) :=
  fn_of_pr hfol ok6 hT6 (show prF Try.prog 6 T6 fd6 [(16, .c [] (.bool true)), (19, .c [slT l] (.own true 2 (tsF l))), (22, .q2), (22, .n (.own true 2 (tsD l ++ [m77]))), (27, .q), (5, .n (.own false 2 (tsF l ++ [m77]))), (27, .n (.sl true true 2 (tsF l))), (28, .c [slT l] (.tup [.own true 1 (bsA p), ni 0])), (28, .n (.tup [.own true 1 (bsA p), ni 0])), (33, .c [slT l] (.tup [.own true 1 (bsA p), ni 0])), (33, .n (.tup [.own true 1 (bsA p), ni 0])), (39, .q), (39, .n (.sl true true 2 (tsF l))), (41, .c [slT l, bA k] (.own true 1 (vsF ([] : List (List UInt8))))), (41, .n (.own true 1 (vsD ([] : List (List UInt8))))), (45, .c [slT l, bA k] (.own true 1 (vsS ([] : List (List UInt8))))), (46, .c [slV ([] : List (List UInt8)), slV ([] : List (List UInt8))] (.bool true)), (0, .lp (sJo1 l p (vsD ([] : List (List UInt8))) ([] : List (List UInt8)).length 0) (.exit 0) (sJo2 l p)), (73, .c [slB p, slB p] (.bool true)), (88, .q), (88, .n (.sl true true 2 (tsF l))), (90, .c [slT l, slT l] (.bool true)), (97, .v m77), (106, .c [slB p] (.tup [.own true 2 (tsF l), ni 0])), (106, .n (.tup [.own true 2 (tsD l), ni 0])), (114, .c [slT l, slT l] (.bool true))] [slT l, bA k] (.bool true) = some _ by kernel_rfl) (AllP.c h1 (AllP.c (show freshA (AV.bool true) = true by kernel_rfl) (AllP.c h2 (AllP.c h3 (AllP.c (show [AV.agg [AV.int IntKind.u8 (77 : Int), AV.nils]].all flat = false by kernel_rfl) (AllP.c (show [AV.agg [AV.int IntKind.u8 (77 : Int), AV.nils]].all (okElem (2 : Nat)) = true by kernel_rfl) (AllP.c h4 (AllP.c h5 (AllP.c (show (0 : Int) ≤ (0 : Int) by decide) (AllP.c (show (0 : Int) ≤ (↑(tsS l).length : Int) from Int.natCast_nonneg _) (AllP.c h6 (AllP.c h7 (AllP.c h8 (AllP.c h9 (AllP.c h10 (AllP.c h11 (AllP.c h12 (AllP.c h10 (AllP.c h11 (AllP.c (show (0 : Int) ≤ (0 : Int) by decide) (AllP.c (show (0 : Int) ≤ (↑(tsS l).length : Int) from Int.natCast_nonneg _) (AllP.c h13 (AllP.c h14 (AllP.c h15 (AllP.c (show freshA (AV.own true (1 : Nat) (vsF [])) = true by kernel_rfl) (AllP.c (show AV.own true (1 : Nat) [] = AV.own true (1 : Nat) (vsD []) by kernel_rfl) (AllP.c h16 (AllP.c (show freshA (AV.own true (1 : Nat) (vsS [])) = true by kernel_rfl) (AllP.c h17 (AllP.c (show freshA (AV.bool true) = true by kernel_rfl) (AllP.c (LeR.refl (x := AV.sl false false (2 : Nat) (tsS l))) (AllP.c (LeR.refl (x := AV.own false (2 : Nat) (tsF l ++ [m77]))) (AllP.c (LeR.refl (x := AV.own true (1 : Nat) (bsA p))) (AllP.c (LeR.refl (x := AV.int IntKind.i64 (↑(0 : Nat) : Int))) (AllP.c (LeR.refl (x := AV.own true (1 : Nat) (bsA p))) (AllP.c (LeR.refl (x := AV.int IntKind.i64 (↑(0 : Nat) : Int))) (AllP.c (LeR.refl (x := AV.own true (1 : Nat) (vsD []))) (AllP.c (LeR.refl (x := AV.bool true)) (AllP.c (LeR.refl (x := AV.int IntKind.i64 (↑(0 : Nat) : Int))) (AllP.c (LeR.refl (x := AV.int IntKind.i64 (↑(0 : Nat) : Int))) (AllP.c (LeR.refl (x := AV.mem [])) (AllP.c h18 (AllP.c h19 (AllP.c (show freshA (AV.bool true) = true by kernel_rfl) (AllP.c (show (0 : Int) ≤ (0 : Int) by decide) (AllP.c (show (0 : Int) ≤ (↑(tsS l).length : Int) from Int.natCast_nonneg _) (AllP.c h13 (AllP.c h14 (AllP.c h20 (AllP.c (show freshA (AV.bool true) = true by kernel_rfl) (AllP.c (show (0 : Int) ≤ (↑(tsS l).length : Int) from Int.natCast_nonneg _) (AllP.c h21 (AllP.c h22 (AllP.c h23 (AllP.c h24 (AllP.c h25 (AllP.c (show freshA (AV.bool true) = true by kernel_rfl) (AllP.c (show AV.bool true = AV.bool true by kernel_rfl) AllP.n))))))))))))))))))))))))))))))))))))))))))))))))))))))))))
theorem Joins_o1 (l : List TLV) (p : List UInt8) (X : List (List UInt8)) (k : UInt8)
    (h1 : FnW Try.prog (7 : FuncId) [] [] (AV.bool true))
    (h2 : FnW Try.prog (9 : FuncId) [AV.sl false false (2 : Nat) (stale.sL (tsS l))] [slT l] (AV.own true (2 : Nat) (tsF l)))
    (h3 : freshA (AV.own true (2 : Nat) (tsF l)) = true)
    (h4 : ((deepen.dL (tsF l)).length + (1 : Nat)) * (32 : Nat) ≤ (140737488355328 : Nat))
    (h5 : AV.own true (2 : Nat) (deepen.dL (tsF l) ++ [AV.agg [AV.int IntKind.u8 (77 : Int), AV.nils]]) = AV.own true (2 : Nat) (tsD l ++ [m77]))
    (h6 : (↑(tsS l).length : Int) ≤ (↑(undeep.uL (tsD l ++ [m77])).length : Int))
    (h7 : AV.own false (2 : Nat) (undeep.uL (tsD l ++ [m77])) = AV.own false (2 : Nat) (tsF l ++ [m77]))
    (h8 : AV.sl true (false || !(undeep.uL (tsD l ++ [m77])).isEmpty) (2 : Nat) (List.drop (0 : Nat) (List.take (tsS l).length (undeep.uL (tsD l ++ [m77])))) = AV.sl true true (2 : Nat) (tsF l))
    (h9 : FnW Try.prog (15 : FuncId) [AV.sl false true (2 : Nat) (stale.sL (tsF l))] [slT l] (AV.tup [AV.own true (1 : Nat) (bsA p), ni (0 : Nat)]))
    (h10 : freshA (AV.tup [AV.own true (1 : Nat) (bsA p), ni (0 : Nat)]) = true)
    (h11 : AV.tup (deepT [AV.own true (1 : Nat) (bsA p), ni (0 : Nat)]) = AV.tup [AV.own true (1 : Nat) (bsA p), ni (0 : Nat)])
    (h12 : FnW Try.prog (19 : FuncId) [AV.sl false false (2 : Nat) (stale.sL (tsS l))] [slT l] (AV.tup [AV.own true (1 : Nat) (bsA p), ni (0 : Nat)]))
    (h13 : (↑(tsS l).length : Int) ≤ (↑(tsF l ++ [m77]).length : Int))
    (h14 : AV.sl true (false || !(tsF l ++ [m77]).isEmpty) (2 : Nat) (List.drop (0 : Nat) (List.take (tsS l).length (tsF l ++ [m77]))) = AV.sl true true (2 : Nat) (tsF l))
    (h15 : FnW Try.prog (8 : FuncId) [AV.sl false true (2 : Nat) (stale.sL (tsF l)), AV.int IntKind.u8 (↑k.toNat : Int)] [slT l, bA k] (AV.own true (1 : Nat) (vsF X)))
    (h16 : freshA (AV.own true (1 : Nat) (vsF X)) = true)
    (h17 : AV.own true (1 : Nat) (deepen.dL (vsF X)) = AV.own true (1 : Nat) (vsD X))
    (h18 : FnW Try.prog (20 : FuncId) [AV.sl false false (2 : Nat) (stale.sL (tsS l)), AV.int IntKind.u8 (↑k.toNat : Int)] [slT l, bA k] (AV.own true (1 : Nat) (vsS X)))
    (h19 : freshA (AV.own true (1 : Nat) (vsS X)) = false)
    (h20 : FnW Try.prog (10 : FuncId) [AV.sl false false (1 : Nat) (stale.sL (undeep.uL (vsD X))), AV.sl false false (1 : Nat) (stale.sL (undeep.uL (vsS X)))] [slV X, slV X] (AV.bool true))
    (h21 : LeR (AV.int IntKind.i64 (↑(vsD X).length : Int)) (AV.int IntKind.i64 (↑X.length : Int)))
    (h22 : Runs Try.prog T6 (116 : Nat) (Cd.loop [] lp6x1) (sJo1 l p (vsD X) X.length (0 : Nat)) fun x => x = (Ex.exit (0 : Nat), sJo2 l p))
    (h23 : FnW Try.prog (16 : FuncId) [AV.sl false false (1 : Nat) (stale.sL (undeep.uL (bsA p))), AV.sl false false (1 : Nat) (stale.sL (undeep.uL (bsA p)))] [slB p, slB p] (AV.bool true))
    (h24 : FnW Try.prog (14 : FuncId) [AV.sl false true (2 : Nat) (stale.sL (tsF l)), AV.sl false false (2 : Nat) (stale.sL (tsS l))] [slT l, slT l] (AV.bool true))
    (h25 : (tsF l ++ [m77])[(tsS l).length]? = some m77)
    (h26 : FnW Try.prog (12 : FuncId) [AV.sl false false (1 : Nat) (stale.sL (undeep.uL (bsA p)))] [slB p] (AV.tup [AV.own true (2 : Nat) (tsF l), ni (0 : Nat)]))
    (h27 : freshA (AV.tup [AV.own true (2 : Nat) (tsF l), ni (0 : Nat)]) = true)
    (h28 : AV.tup (deepT [AV.own true (2 : Nat) (tsF l), ni (0 : Nat)]) = AV.tup [AV.own true (2 : Nat) (tsD l), ni (0 : Nat)])
    (h29 : FnW Try.prog (14 : FuncId) [AV.sl false false (2 : Nat) (stale.sL (undeep.uL (tsD l))), AV.sl false false (2 : Nat) (stale.sL (tsS l))] [slT l, slT l] (AV.bool true)) :
    WayF Try.prog 6 T6 fd6 [(16, .c [] (.bool true)), (19, .c [slT l] (.own true 2 (tsF l))), (22, .q2), (22, .n (.own true 2 (tsD l ++ [m77]))), (27, .q), (5, .n (.own false 2 (tsF l ++ [m77]))), (27, .n (.sl true true 2 (tsF l))), (28, .c [slT l] (.tup [.own true 1 (bsA p), ni 0])), (28, .n (.tup [.own true 1 (bsA p), ni 0])), (33, .c [slT l] (.tup [.own true 1 (bsA p), ni 0])), (33, .n (.tup [.own true 1 (bsA p), ni 0])), (39, .q), (39, .n (.sl true true 2 (tsF l))), (41, .c [slT l, bA k] (.own true 1 (vsF X))), (41, .n (.own true 1 (vsD X))), (45, .cs [slT l, bA k] (.own true 1 (vsS X))), (46, .c [slV X, slV X] (.bool true)), (0, .lp (sJo1 l p (vsD X) X.length 0) (.exit 0) (sJo2 l p)), (73, .c [slB p, slB p] (.bool true)), (88, .q), (88, .n (.sl true true 2 (tsF l))), (90, .c [slT l, slT l] (.bool true)), (97, .v m77), (106, .c [slB p] (.tup [.own true 2 (tsF l), ni 0])), (106, .n (.tup [.own true 2 (tsD l), ni 0])), (114, .c [slT l, slT l] (.bool true))] [slT l, bA k] (.bool true) :=
  fn_of_pr hfol ok6 hT6 (show prF Try.prog 6 T6 fd6 [(16, .c [] (.bool true)), (19, .c [slT l] (.own true 2 (tsF l))), (22, .q2), (22, .n (.own true 2 (tsD l ++ [m77]))), (27, .q), (5, .n (.own false 2 (tsF l ++ [m77]))), (27, .n (.sl true true 2 (tsF l))), (28, .c [slT l] (.tup [.own true 1 (bsA p), ni 0])), (28, .n (.tup [.own true 1 (bsA p), ni 0])), (33, .c [slT l] (.tup [.own true 1 (bsA p), ni 0])), (33, .n (.tup [.own true 1 (bsA p), ni 0])), (39, .q), (39, .n (.sl true true 2 (tsF l))), (41, .c [slT l, bA k] (.own true 1 (vsF X))), (41, .n (.own true 1 (vsD X))), (45, .cs [slT l, bA k] (.own true 1 (vsS X))), (46, .c [slV X, slV X] (.bool true)), (0, .lp (sJo1 l p (vsD X) X.length 0) (.exit 0) (sJo2 l p)), (73, .c [slB p, slB p] (.bool true)), (88, .q), (88, .n (.sl true true 2 (tsF l))), (90, .c [slT l, slT l] (.bool true)), (97, .v m77), (106, .c [slB p] (.tup [.own true 2 (tsF l), ni 0])), (106, .n (.tup [.own true 2 (tsD l), ni 0])), (114, .c [slT l, slT l] (.bool true))] [slT l, bA k] (.bool true) = some _ by kernel_rfl) (AllP.c h1 (AllP.c (show freshA (AV.bool true) = true by kernel_rfl) (AllP.c h2 (AllP.c h3 (AllP.c (show [AV.agg [AV.int IntKind.u8 (77 : Int), AV.nils]].all flat = false by kernel_rfl) (AllP.c (show [AV.agg [AV.int IntKind.u8 (77 : Int), AV.nils]].all (okElem (2 : Nat)) = true by kernel_rfl) (AllP.c h4 (AllP.c h5 (AllP.c (show (0 : Int) ≤ (0 : Int) by decide) (AllP.c (show (0 : Int) ≤ (↑(tsS l).length : Int) from Int.natCast_nonneg _) (AllP.c h6 (AllP.c h7 (AllP.c h8 (AllP.c h9 (AllP.c h10 (AllP.c h11 (AllP.c h12 (AllP.c h10 (AllP.c h11 (AllP.c (show (0 : Int) ≤ (0 : Int) by decide) (AllP.c (show (0 : Int) ≤ (↑(tsS l).length : Int) from Int.natCast_nonneg _) (AllP.c h13 (AllP.c h14 (AllP.c h15 (AllP.c h16 (AllP.c h17 (AllP.c h18 (AllP.c h19 (AllP.c h20 (AllP.c (show freshA (AV.bool true) = true by kernel_rfl) (AllP.c (LeR.refl (x := AV.sl false false (2 : Nat) (tsS l))) (AllP.c (LeR.refl (x := AV.own false (2 : Nat) (tsF l ++ [m77]))) (AllP.c (LeR.refl (x := AV.own true (1 : Nat) (bsA p))) (AllP.c (LeR.refl (x := AV.int IntKind.i64 (↑(0 : Nat) : Int))) (AllP.c (LeR.refl (x := AV.own true (1 : Nat) (bsA p))) (AllP.c (LeR.refl (x := AV.int IntKind.i64 (↑(0 : Nat) : Int))) (AllP.c (LeR.refl (x := AV.own true (1 : Nat) (vsD X))) (AllP.c (LeR.refl (x := AV.bool true)) (AllP.c h21 (AllP.c (LeR.refl (x := AV.int IntKind.i64 (↑(0 : Nat) : Int))) (AllP.c (LeR.refl (x := AV.mem [])) (AllP.c h22 (AllP.c h23 (AllP.c (show freshA (AV.bool true) = true by kernel_rfl) (AllP.c (show (0 : Int) ≤ (0 : Int) by decide) (AllP.c (show (0 : Int) ≤ (↑(tsS l).length : Int) from Int.natCast_nonneg _) (AllP.c h13 (AllP.c h14 (AllP.c h24 (AllP.c (show freshA (AV.bool true) = true by kernel_rfl) (AllP.c (show (0 : Int) ≤ (↑(tsS l).length : Int) from Int.natCast_nonneg _) (AllP.c h25 (AllP.c h26 (AllP.c h27 (AllP.c h28 (AllP.c h29 (AllP.c (show freshA (AV.bool true) = true by kernel_rfl) (AllP.c (show AV.bool true = AV.bool true by kernel_rfl) AllP.n))))))))))))))))))))))))))))))))))))))))))))))))))))))))))
theorem JoinsIn_first_l (l : List TLV) (p : List UInt8) (X : List (List UInt8)) (i j m : Nat) (v : List UInt8) (b : UInt8)
    (h1 : decide ((↑j : Int) < (↑m : Int)) = true)
    (h2 : (↑i : Int) < (↑(vsD X).length : Int))
    (h3 : cellOf (1 : Nat) (vsD X) (i * (1 : Nat)) = some (vD v))
    (h4 : (bsA v)[j]? = some (bA b))
    (h5 : IntKind.i64.wrap ((↑j : Int) + (1 : Int)) = (↑(j + (1 : Nat)) : Int))
    (h6 : LeR (AV.own true (1 : Nat) (hv.hvL (vsD X))) (AV.own true (1 : Nat) (vsX X))) :
    WayR Try.prog T6 116 lp6x0 [(58, .b true), (62, .q), (63, .v (vD v)), (65, .v (bA b)), (68, .v (bA b)), (69, .i (j + 1 : Nat))] (sJl0 l p (vsD X) X.length i m j) .normal (sJl0 l p (vsX X) X.length i m (j + 1)) :=
  runs_of_pr hfol (show prR Try.prog T6 116 lp6x0 [(58, .b true), (62, .q), (63, .v (vD v)), (65, .v (bA b)), (68, .v (bA b)), (69, .i (j + 1 : Nat))] (sJl0 l p (vsD X) X.length i m j) .normal (sJl0 l p (vsX X) X.length i m (j + 1)) = some _ by kernel_rfl) (AllP.c h1 (AllP.c (show (0 : Int) ≤ (↑i : Int) from Int.natCast_nonneg _) (AllP.c h2 (AllP.c h3 (AllP.c (show (0 : Int) ≤ (↑j : Int) from Int.natCast_nonneg _) (AllP.c h4 (AllP.c (show (0 : Int) ≤ (↑j : Int) from Int.natCast_nonneg _) (AllP.c h4 (AllP.c h5 (AllP.c (LeR.refl (x := AV.sl false false (2 : Nat) (tsS l))) (AllP.c (LeR.refl (x := AV.own false (2 : Nat) (tsF l ++ [m77]))) (AllP.c (LeR.refl (x := AV.nils)) (AllP.c (LeR.refl (x := AV.int IntKind.i64 (↑(2 : Nat) : Int))) (AllP.c (LeR.refl (x := AV.nils)) (AllP.c (LeR.refl (x := AV.int IntKind.i64 (↑(2 : Nat) : Int))) (AllP.c h6 (AllP.c (LeR.refl (x := AV.bool true)) (AllP.c (LeR.refl (x := AV.int IntKind.i64 (↑i : Int))) (AllP.c (LeR.refl (x := AV.int IntKind.i64 (↑X.length : Int))) (AllP.c (LeR.refl (x := AV.int IntKind.i64 (↑i : Int))) (AllP.c (LeR.refl (x := AV.int IntKind.i64 (↑m : Int))) (AllP.c (LeR.refl (x := AV.int IntKind.i64 (↑(j + (1 : Nat)) : Int))) (AllP.c (LeR.refl (x := AV.mem [])) AllP.n)))))))))))))))))))))))
theorem JoinsIn_next_l (l : List TLV) (p : List UInt8) (X : List (List UInt8)) (i j m : Nat) (v : List UInt8)
    (h1 : decide ((↑j : Int) < (↑m : Int)) = true)
    (h2 : (↑i : Int) < (↑(vsX X).length : Int))
    (h3 : cellOf (1 : Nat) (vsX X) (i * (1 : Nat)) = some (vX v))
    (h4 : (List.map (fun x => anyB) v)[j]? = some anyB)
    (h5 : IntKind.i64.wrap ((↑j : Int) + (1 : Int)) = (↑(j + (1 : Nat)) : Int))
    (h6 : LeR (AV.own true (1 : Nat) (hv.hvL (vsX X))) (AV.own true (1 : Nat) (vsX X))) :
    WayR Try.prog T6 116 lp6x0 [(58, .b true), (62, .q), (63, .v (vX v)), (65, .v anyB), (68, .v anyB), (69, .i (j + 1 : Nat))] (sJl0 l p (vsX X) X.length i m j) .normal (sJl0 l p (vsX X) X.length i m (j + 1)) :=
  runs_of_pr hfol (show prR Try.prog T6 116 lp6x0 [(58, .b true), (62, .q), (63, .v (vX v)), (65, .v anyB), (68, .v anyB), (69, .i (j + 1 : Nat))] (sJl0 l p (vsX X) X.length i m j) .normal (sJl0 l p (vsX X) X.length i m (j + 1)) = some _ by kernel_rfl) (AllP.c h1 (AllP.c (show (0 : Int) ≤ (↑i : Int) from Int.natCast_nonneg _) (AllP.c h2 (AllP.c h3 (AllP.c (show (0 : Int) ≤ (↑j : Int) from Int.natCast_nonneg _) (AllP.c h4 (AllP.c (show (0 : Int) ≤ (↑j : Int) from Int.natCast_nonneg _) (AllP.c h4 (AllP.c h5 (AllP.c (LeR.refl (x := AV.sl false false (2 : Nat) (tsS l))) (AllP.c (LeR.refl (x := AV.own false (2 : Nat) (tsF l ++ [m77]))) (AllP.c (LeR.refl (x := AV.nils)) (AllP.c (LeR.refl (x := AV.int IntKind.i64 (↑(2 : Nat) : Int))) (AllP.c (LeR.refl (x := AV.nils)) (AllP.c (LeR.refl (x := AV.int IntKind.i64 (↑(2 : Nat) : Int))) (AllP.c h6 (AllP.c (LeR.refl (x := AV.bool true)) (AllP.c (LeR.refl (x := AV.int IntKind.i64 (↑i : Int))) (AllP.c (LeR.refl (x := AV.int IntKind.i64 (↑X.length : Int))) (AllP.c (LeR.refl (x := AV.int IntKind.i64 (↑i : Int))) (AllP.c (LeR.refl (x := AV.int IntKind.i64 (↑m : Int))) (AllP.c (LeR.refl (x := AV.int IntKind.i64 (↑(j + (1 : Nat)) : Int))) (AllP.c (LeR.refl (x := AV.mem [])) AllP.n)))))))))))))))))))))))
theorem JoinsIn_end_l (l : List TLV) (p : List UInt8) (L : List AV) (i j m n : Nat)
    (h1 : decide ((↑j : Int) < (↑m : Int)) = false) :
    WayR Try.prog T6 116 lp6x0 [(58, .b false)] (sJl0 l p L n i m j) (.exit 2) (sJl1 l p L n i) :=
  runs_of_pr hfol (show prR Try.prog T6 116 lp6x0 [(58, .b false)] (sJl0 l p L n i m j) (.exit 2) (sJl1 l p L n i) = some _ by kernel_rfl) (AllP.c h1 (AllP.c (LeR.refl (x := AV.sl false false (2 : Nat) (tsS l))) (AllP.c (LeR.refl (x := AV.own false (2 : Nat) (tsF l ++ [m77]))) (AllP.c (LeR.refl (x := AV.nils)) (AllP.c (LeR.refl (x := AV.int IntKind.i64 (↑(2 : Nat) : Int))) (AllP.c (LeR.refl (x := AV.nils)) (AllP.c (LeR.refl (x := AV.int IntKind.i64 (↑(2 : Nat) : Int))) (AllP.c (LeR.refl (x := AV.own true (1 : Nat) L)) (AllP.c (LeR.refl (x := AV.bool true)) (AllP.c (LeR.refl (x := AV.int IntKind.i64 (↑n : Int))) (AllP.c (LeR.refl (x := AV.int IntKind.i64 (↑i : Int))) (AllP.c (LeR.refl (x := AV.mem [])) AllP.n))))))))))))
theorem JoinsOut_d_l (l : List TLV) (p : List UInt8) (X : List (List UInt8)) (L : List AV) (i : Nat) (v : List UInt8)
    (h1 : decide ((↑i : Int) < (↑X.length : Int)) = true)
    (h2 : (↑i : Int) < (↑(vsD X).length : Int))
    (h3 : cellOf (1 : Nat) (vsD X) (i * (1 : Nat)) = some (vD v))
    (h4 : (↑(bsA v).length : Int) = (↑v.length : Int))
    (h5 : Runs Try.prog T6 (116 : Nat) (Cd.loop [] lp6x0) (sJl0 l p (vsD X) X.length i v.length (0 : Nat)) fun x => x = (Ex.exit (2 : Nat), sJl1 l p L X.length i))
    (h6 : IntKind.i64.wrap ((↑i : Int) + (1 : Int)) = (↑(i + (1 : Nat)) : Int)) :
    WayR Try.prog T6 116 lp6x1 [(50, .b true), (54, .q), (55, .v (vD v)), (56, .i v.length), (0, .lp (sJl0 l p (vsD X) X.length i v.length 0) (.exit 2) (sJl1 l p L X.length i)), (70, .i (i + 1 : Nat))] (sJl1 l p (vsD X) X.length i) .normal (sJl1 l p L X.length (i + 1)) :=
  runs_of_pr hfol (show prR Try.prog T6 116 lp6x1 [(50, .b true), (54, .q), (55, .v (vD v)), (56, .i v.length), (0, .lp (sJl0 l p (vsD X) X.length i v.length 0) (.exit 2) (sJl1 l p L X.length i)), (70, .i (i + 1 : Nat))] (sJl1 l p (vsD X) X.length i) .normal (sJl1 l p L X.length (i + 1)) = some _ by kernel_rfl) (AllP.c h1 (AllP.c (show (0 : Int) ≤ (↑i : Int) from Int.natCast_nonneg _) (AllP.c h2 (AllP.c h3 (AllP.c h4 (AllP.c (LeR.refl (x := AV.sl false false (2 : Nat) (tsS l))) (AllP.c (LeR.refl (x := AV.own false (2 : Nat) (tsF l ++ [m77]))) (AllP.c (LeR.refl (x := AV.nils)) (AllP.c (LeR.refl (x := AV.int IntKind.i64 (↑(2 : Nat) : Int))) (AllP.c (LeR.refl (x := AV.nils)) (AllP.c (LeR.refl (x := AV.int IntKind.i64 (↑(2 : Nat) : Int))) (AllP.c (LeR.refl (x := AV.own true (1 : Nat) (vsD X))) (AllP.c (LeR.refl (x := AV.bool true)) (AllP.c (LeR.refl (x := AV.int IntKind.i64 (↑i : Int))) (AllP.c (LeR.refl (x := AV.int IntKind.i64 (↑X.length : Int))) (AllP.c (LeR.refl (x := AV.int IntKind.i64 (↑i : Int))) (AllP.c (LeR.refl (x := AV.int IntKind.i64 (↑v.length : Int))) (AllP.c (LeR.refl (x := AV.int IntKind.i64 (↑(0 : Nat) : Int))) (AllP.c (LeR.refl (x := AV.mem [])) (AllP.c h5 (AllP.c h6 (AllP.c (LeR.refl (x := AV.sl false false (2 : Nat) (tsS l))) (AllP.c (LeR.refl (x := AV.own false (2 : Nat) (tsF l ++ [m77]))) (AllP.c (LeR.refl (x := AV.nils)) (AllP.c (LeR.refl (x := AV.int IntKind.i64 (↑(2 : Nat) : Int))) (AllP.c (LeR.refl (x := AV.nils)) (AllP.c (LeR.refl (x := AV.int IntKind.i64 (↑(2 : Nat) : Int))) (AllP.c (LeR.refl (x := AV.own true (1 : Nat) L)) (AllP.c (LeR.refl (x := AV.bool true)) (AllP.c (LeR.refl (x := AV.int IntKind.i64 (↑X.length : Int))) (AllP.c (LeR.refl (x := AV.int IntKind.i64 (↑(i + (1 : Nat)) : Int))) (AllP.c (LeR.refl (x := AV.mem [])) AllP.n))))))))))))))))))))))))))))))))
theorem JoinsOut_x_l (l : List TLV) (p : List UInt8) (X : List (List UInt8)) (i : Nat) (v : List UInt8)
    (h1 : decide ((↑i : Int) < (↑X.length : Int)) = true)
    (h2 : (↑i : Int) < (↑(vsX X).length : Int))
    (h3 : cellOf (1 : Nat) (vsX X) (i * (1 : Nat)) = some (vX v))
    (h4 : (↑(List.map (fun x => anyB) v).length : Int) = (↑v.length : Int))
    (h5 : Runs Try.prog T6 (116 : Nat) (Cd.loop [] lp6x0) (sJl0 l p (vsX X) X.length i v.length (0 : Nat)) fun x => x = (Ex.exit (2 : Nat), sJl1 l p (vsX X) X.length i))
    (h6 : IntKind.i64.wrap ((↑i : Int) + (1 : Int)) = (↑(i + (1 : Nat)) : Int)) :
    WayR Try.prog T6 116 lp6x1 [(50, .b true), (54, .q), (55, .v (vX v)), (56, .i v.length), (0, .lp (sJl0 l p (vsX X) X.length i v.length 0) (.exit 2) (sJl1 l p (vsX X) X.length i)), (70, .i (i + 1 : Nat))] (sJl1 l p (vsX X) X.length i) .normal (sJl1 l p (vsX X) X.length (i + 1)) :=
  runs_of_pr hfol (show prR Try.prog T6 116 lp6x1 [(50, .b true), (54, .q), (55, .v (vX v)), (56, .i v.length), (0, .lp (sJl0 l p (vsX X) X.length i v.length 0) (.exit 2) (sJl1 l p (vsX X) X.length i)), (70, .i (i + 1 : Nat))] (sJl1 l p (vsX X) X.length i) .normal (sJl1 l p (vsX X) X.length (i + 1)) = some _ by kernel_rfl) (AllP.c h1 (AllP.c (show (0 : Int) ≤ (↑i : Int) from Int.natCast_nonneg _) (AllP.c h2 (AllP.c h3 (AllP.c h4 (AllP.c (LeR.refl (x := AV.sl false false (2 : Nat) (tsS l))) (AllP.c (LeR.refl (x := AV.own false (2 : Nat) (tsF l ++ [m77]))) (AllP.c (LeR.refl (x := AV.nils)) (AllP.c (LeR.refl (x := AV.int IntKind.i64 (↑(2 : Nat) : Int))) (AllP.c (LeR.refl (x := AV.nils)) (AllP.c (LeR.refl (x := AV.int IntKind.i64 (↑(2 : Nat) : Int))) (AllP.c (LeR.refl (x := AV.own true (1 : Nat) (vsX X))) (AllP.c (LeR.refl (x := AV.bool true)) (AllP.c (LeR.refl (x := AV.int IntKind.i64 (↑i : Int))) (AllP.c (LeR.refl (x := AV.int IntKind.i64 (↑X.length : Int))) (AllP.c (LeR.refl (x := AV.int IntKind.i64 (↑i : Int))) (AllP.c (LeR.refl (x := AV.int IntKind.i64 (↑v.length : Int))) (AllP.c (LeR.refl (x := AV.int IntKind.i64 (↑(0 : Nat) : Int))) (AllP.c (LeR.refl (x := AV.mem [])) (AllP.c h5 (AllP.c h6 (AllP.c (LeR.refl (x := AV.sl false false (2 : Nat) (tsS l))) (AllP.c (LeR.refl (x := AV.own false (2 : Nat) (tsF l ++ [m77]))) (AllP.c (LeR.refl (x := AV.nils)) (AllP.c (LeR.refl (x := AV.int IntKind.i64 (↑(2 : Nat) : Int))) (AllP.c (LeR.refl (x := AV.nils)) (AllP.c (LeR.refl (x := AV.int IntKind.i64 (↑(2 : Nat) : Int))) (AllP.c (LeR.refl (x := AV.own true (1 : Nat) (vsX X))) (AllP.c (LeR.refl (x := AV.bool true)) (AllP.c (LeR.refl (x := AV.int IntKind.i64 (↑X.length : Int))) (AllP.c (LeR.refl (x := AV.int IntKind.i64 (↑(i + (1 : Nat)) : Int))) (AllP.c (LeR.refl (x := AV.mem [])) AllP.n))))))))))))))))))))))))))))))))
theorem JoinsOut_end_l (l : List TLV) (p : List UInt8) (L : List AV) (n i : Nat)
    (h1 : decide ((↑i : Int) < (↑n : Int)) = false) :
    WayR Try.prog T6 116 lp6x1 [(50, .b false)] (sJl1 l p L n i) (.exit 0) (sJl2 l p) :=
  runs_of_pr hfol (show prR Try.prog T6 116 lp6x1 [(50, .b false)] (sJl1 l p L n i) (.exit 0) (sJl2 l p) = some _ by kernel_rfl) (AllP.c h1 (AllP.c (LeR.refl (x := AV.sl false false (2 : Nat) (tsS l))) (AllP.c (LeR.refl (x := AV.own false (2 : Nat) (tsF l ++ [m77]))) (AllP.c (LeR.refl (x := AV.nils)) (AllP.c (LeR.refl (x := AV.int IntKind.i64 (↑(2 : Nat) : Int))) (AllP.c (LeR.refl (x := AV.nils)) (AllP.c (LeR.refl (x := AV.int IntKind.i64 (↑(2 : Nat) : Int))) (AllP.c (LeR.refl (x := AV.bool true)) (AllP.c (LeR.refl (x := AV.mem [])) AllP.n)))))))))
theorem Joins_l0 (l : List TLV) (p : List UInt8) (k : UInt8)
    (h1 : FnW Try.prog (7 : FuncId) [] [] (AV.bool true))
    (h2 : FnW Try.prog (9 : FuncId) [AV.sl false false (2 : Nat) (stale.sL (tsS l))] [slT l] (AV.own true (2 : Nat) (tsF l)))
    (h3 : freshA (AV.own true (2 : Nat) (tsF l)) = true)
    (h4 : ((deepen.dL (tsF l)).length + (1 : Nat)) * (32 : Nat) ≤ (140737488355328 : Nat))
    (h5 : AV.own true (2 : Nat) (deepen.dL (tsF l) ++ [AV.agg [AV.int IntKind.u8 (77 : Int), AV.nils]]) = AV.own true (2 : Nat) (tsD l ++ [m77]))
    (h6 : (↑(tsS l).length : Int) ≤ (↑(undeep.uL (tsD l ++ [m77])).length : Int))
    (h7 : AV.own false (2 : Nat) (undeep.uL (tsD l ++ [m77])) = AV.own false (2 : Nat) (tsF l ++ [m77]))
    (h8 : AV.sl true (false || !(undeep.uL (tsD l ++ [m77])).isEmpty) (2 : Nat) (List.drop (0 : Nat) (List.take (tsS l).length (undeep.uL (tsD l ++ [m77])))) = AV.sl true true (2 : Nat) (tsF l))
    (h9 : FnW Try.prog (15 : FuncId) [AV.sl false true (2 : Nat) (stale.sL (tsF l))] [slT l] (AV.tup [AV.nils, ni (2 : Nat)]))
    (h10 : FnW Try.prog (19 : FuncId) [AV.sl false false (2 : Nat) (stale.sL (tsS l))] [slT l] (AV.tup [AV.nils, ni (2 : Nat)]))
    (h11 : (↑(tsS l).length : Int) ≤ (↑(tsF l ++ [m77]).length : Int))
    (h12 : AV.sl true (false || !(tsF l ++ [m77]).isEmpty) (2 : Nat) (List.drop (0 : Nat) (List.take (tsS l).length (tsF l ++ [m77]))) = AV.sl true true (2 : Nat) (tsF l))
    (h13 : FnW Try.prog (8 : FuncId) [AV.sl false true (2 : Nat) (stale.sL (tsF l)), AV.int IntKind.u8 (↑k.toNat : Int)] [slT l, bA k] (AV.own true (1 : Nat) (vsF [])))
    (h14 : FnW Try.prog (20 : FuncId) [AV.sl false false (2 : Nat) (stale.sL (tsS l)), AV.int IntKind.u8 (↑k.toNat : Int)] [slT l, bA k] (AV.own true (1 : Nat) (vsS [])))
    (h15 : FnW Try.prog (10 : FuncId) [AV.sl false false (1 : Nat) [], AV.sl false false (1 : Nat) []] [slV [], slV []] (AV.bool true))
    (h16 : Runs Try.prog T6 (116 : Nat) (Cd.loop [] lp6x1) (sJl1 l p (vsD []) (0 : Nat) (0 : Nat)) fun x => x = (Ex.exit (0 : Nat), sJl2 l p))
    (h17 : FnW Try.prog (16 : FuncId) [AV.nils, AV.nils] [slB [], slB []] (AV.bool true))
    (h18 : FnW Try.prog (14 : FuncId) [AV.sl false true (2 : Nat) (stale.sL (tsF l)), AV.sl false false (2 : Nat) (stale.sL (tsS l))] [slT l, slT l] (AV.bool true))
    (h19 : (tsF l ++ [m77])[(tsS l).length]? = some m77) :
    WayF Try.prog 6 T6 fd6 [(16, .c [] (.bool true)), (19, .c [slT l] (.own true 2 (tsF l))), (22, .q2), (22, .n (.own true 2 (tsD l ++ [m77]))), (27, .q), (5, .n (.own false 2 (tsF l ++ [m77]))), (27, .n (.sl true true 2 (tsF l))), (28, .c [slT l] (.tup [.nils, ni 2])), (28, .n (.tup [.nils, ni 2])), (33, .c [slT l] (.tup [.nils, ni 2])), (33, .n (.tup [.nils, ni 2])), (39, .q), (39, .n (.sl true true 2 (tsF l))), (41, .c [slT l, bA k] (.own true 1 (vsF ([] : List (List UInt8))))), (41, .n (.own true 1 (vsD ([] : List (List UInt8))))), (45, .c [slT l, bA k] (.own true 1 (vsS ([] : List (List UInt8))))), (46, .c [slV ([] : List (List UInt8)), slV ([] : List (List UInt8))] (.bool true)), (0, .lp (sJl1 l p (vsD ([] : List (List UInt8))) ([] : List (List UInt8)).length 0) (.exit 0) (sJl2 l p)), (73, .c [slB ([] : List UInt8), slB ([] : List UInt8)] (.bool true)), (88, .q), (88, .n (.sl true true 2 (tsF l))), (90, .c [slT l, slT l] (.bool true)), (97, .v m77)] [slT l, bA k] (.bool true) :=
  fn_of_pr hfol ok6 hT6 (show prF Try.prog 6 T6 fd6 [(16, .c [] (.bool true)), (19, .c [slT l] (.own true 2 (tsF l))), (22, .q2), (22, .n (.own true 2 (tsD l ++ [m77]))), (27, .q), (5, .n (.own false 2 (tsF l ++ [m77]))), (27, .n (.sl true true 2 (tsF l))), (28, .c [slT l] (.tup [.nils, ni 2])), (28, .n (.tup [.nils, ni 2])), (33, .c [slT l] (.tup [.nils, ni 2])), (33, .n (.tup [.nils, ni 2])), (39, .q), (39, .n (.sl true true 2 (tsF l))), (41, .c [slT l, bA k] (.own true 1 (vsF ([] : List (List UInt8))))), (41, .n (.own true 1 (vsD ([] : List (List UInt8))))), (45, .c [slT l, bA k] (.own true 1 (vsS ([] : List (List UInt8))))), (46, .c [slV ([] : List (List UInt8)), slV ([] : List (List UInt8))] (.bool true)), (0, .lp (sJl1 l p (vsD ([] : List (List UInt8))) ([] : List (List UInt8)).length 0) (.exit 0) (sJl2 l p)), (73, .c [slB ([] : List UInt8), slB ([] : List UInt8)] (.bool true)), (88, .q), (88, .n (.sl true true 2 (tsF l))), (90, .c [slT l, slT l] (.bool true)), (97, .v m77)] [slT l, bA k] (.bool true) = some _ by kernel_rfl) (AllP.c h1 (AllP.c (show freshA (AV.bool true) = true by kernel_rfl) (AllP.c h2 (AllP.c h3 (AllP.c (show [AV.agg [AV.int IntKind.u8 (77 : Int), AV.nils]].all flat = false by kernel_rfl) (AllP.c (show [AV.agg [AV.int IntKind.u8 (77 : Int), AV.nils]].all (okElem (2 : Nat)) = true by kernel_rfl) (AllP.c h4 (AllP.c h5 (AllP.c (show (0 : Int) ≤ (0 : Int) by decide) (AllP.c (show (0 : Int) ≤ (↑(tsS l).length : Int) from Int.natCast_nonneg _) (AllP.c h6 (AllP.c h7 (AllP.c h8 (AllP.c h9 (AllP.c (show freshA (AV.tup [AV.nils, ni (2 : Nat)]) = true by kernel_rfl) (AllP.c (show AV.tup [AV.nils, ni (2 : Nat)] = AV.tup [AV.nils, ni (2 : Nat)] by kernel_rfl) (AllP.c h10 (AllP.c (show freshA (AV.tup [AV.nils, ni (2 : Nat)]) = true by kernel_rfl) (AllP.c (show AV.tup [AV.nils, ni (2 : Nat)] = AV.tup [AV.nils, ni (2 : Nat)] by kernel_rfl) (AllP.c (show (0 : Int) ≤ (0 : Int) by decide) (AllP.c (show (0 : Int) ≤ (↑(tsS l).length : Int) from Int.natCast_nonneg _) (AllP.c h11 (AllP.c h12 (AllP.c h13 (AllP.c (show freshA (AV.own true (1 : Nat) (vsF [])) = true by kernel_rfl) (AllP.c (show AV.own true (1 : Nat) [] = AV.own true (1 : Nat) (vsD []) by kernel_rfl) (AllP.c h14 (AllP.c (show freshA (AV.own true (1 : Nat) (vsS [])) = true by kernel_rfl) (AllP.c h15 (AllP.c (show freshA (AV.bool true) = true by kernel_rfl) (AllP.c (LeR.refl (x := AV.sl false false (2 : Nat) (tsS l))) (AllP.c (LeR.refl (x := AV.own false (2 : Nat) (tsF l ++ [m77]))) (AllP.c (LeR.refl (x := AV.nils)) (AllP.c (LeR.refl (x := AV.int IntKind.i64 (↑(2 : Nat) : Int))) (AllP.c (LeR.refl (x := AV.nils)) (AllP.c (LeR.refl (x := AV.int IntKind.i64 (↑(2 : Nat) : Int))) (AllP.c (LeR.refl (x := AV.own true (1 : Nat) (vsD []))) (AllP.c (LeR.refl (x := AV.bool true)) (AllP.c (LeR.refl (x := AV.int IntKind.i64 (↑(0 : Nat) : Int))) (AllP.c (LeR.refl (x := AV.int IntKind.i64 (↑(0 : Nat) : Int))) (AllP.c (LeR.refl (x := AV.mem [])) (AllP.c h16 (AllP.c h17 (AllP.c (show freshA (AV.bool true) = true by kernel_rfl) (AllP.c (show (0 : Int) ≤ (0 : Int) by decide) (AllP.c (show (0 : Int) ≤ (↑(tsS l).length : Int) from Int.natCast_nonneg _) (AllP.c h11 (AllP.c h12 (AllP.c h18 (AllP.c (show freshA (AV.bool true) = true by kernel_rfl) (AllP.c (show (0 : Int) ≤ (↑(tsS l).length : Int) from Int.natCast_nonneg _) (AllP.c h19 (AllP.c (show AV.bool true = AV.bool true by kernel_rfl) AllP.n)))))))))))))))))))))))))))))))))))))))))))))))))))))
theorem Joins_l1 (l : List TLV) (p : List UInt8) (X : List (List UInt8)) (k : UInt8)
    (h1 : FnW Try.prog (7 : FuncId) [] [] (AV.bool true))
    (h2 : FnW Try.prog (9 : FuncId) [AV.sl false false (2 : Nat) (stale.sL (tsS l))] [slT l] (AV.own true (2 : Nat) (tsF l)))
    (h3 : freshA (AV.own true (2 : Nat) (tsF l)) = true)
    (h4 : ((deepen.dL (tsF l)).length + (1 : Nat)) * (32 : Nat) ≤ (140737488355328 : Nat))
    (h5 : AV.own true (2 : Nat) (deepen.dL (tsF l) ++ [AV.agg [AV.int IntKind.u8 (77 : Int), AV.nils]]) = AV.own true (2 : Nat) (tsD l ++ [m77]))
    (h6 : (↑(tsS l).length : Int) ≤ (↑(undeep.uL (tsD l ++ [m77])).length : Int))
    (h7 : AV.own false (2 : Nat) (undeep.uL (tsD l ++ [m77])) = AV.own false (2 : Nat) (tsF l ++ [m77]))
    (h8 : AV.sl true (false || !(undeep.uL (tsD l ++ [m77])).isEmpty) (2 : Nat) (List.drop (0 : Nat) (List.take (tsS l).length (undeep.uL (tsD l ++ [m77])))) = AV.sl true true (2 : Nat) (tsF l))
    (h9 : FnW Try.prog (15 : FuncId) [AV.sl false true (2 : Nat) (stale.sL (tsF l))] [slT l] (AV.tup [AV.nils, ni (2 : Nat)]))
    (h10 : FnW Try.prog (19 : FuncId) [AV.sl false false (2 : Nat) (stale.sL (tsS l))] [slT l] (AV.tup [AV.nils, ni (2 : Nat)]))
    (h11 : (↑(tsS l).length : Int) ≤ (↑(tsF l ++ [m77]).length : Int))
    (h12 : AV.sl true (false || !(tsF l ++ [m77]).isEmpty) (2 : Nat) (List.drop (0 : Nat) (List.take (tsS l).length (tsF l ++ [m77]))) = AV.sl true true (2 : Nat) (tsF l))
    (h13 : FnW Try.prog (8 : FuncId) [AV.sl false true (2 : Nat) (stale.sL (tsF l)), AV.int IntKind.u8 (↑k.toNat : Int)] [slT l, bA k] (AV.own true (1 : Nat) (vsF X)))
    (h14 : freshA (AV.own true (1 : Nat) (vsF X)) = true)
    (h15 : AV.own true (1 : Nat) (deepen.dL (vsF X)) = AV.own true (1 : Nat) (vsD X))
    (h16 : FnW Try.prog (20 : FuncId) [AV.sl false false (2 : Nat) (stale.sL (tsS l)), AV.int IntKind.u8 (↑k.toNat : Int)] [slT l, bA k] (AV.own true (1 : Nat) (vsS X)))
    (h17 : freshA (AV.own true (1 : Nat) (vsS X)) = false)
    (h18 : FnW Try.prog (10 : FuncId) [AV.sl false false (1 : Nat) (stale.sL (undeep.uL (vsD X))), AV.sl false false (1 : Nat) (stale.sL (undeep.uL (vsS X)))] [slV X, slV X] (AV.bool true))
    (h19 : LeR (AV.int IntKind.i64 (↑(vsD X).length : Int)) (AV.int IntKind.i64 (↑X.length : Int)))
    (h20 : Runs Try.prog T6 (116 : Nat) (Cd.loop [] lp6x1) (sJl1 l p (vsD X) X.length (0 : Nat)) fun x => x = (Ex.exit (0 : Nat), sJl2 l p))
    (h21 : FnW Try.prog (16 : FuncId) [AV.nils, AV.nils] [slB [], slB []] (AV.bool true))
    (h22 : FnW Try.prog (14 : FuncId) [AV.sl false true (2 : Nat) (stale.sL (tsF l)), AV.sl false false (2 : Nat) (stale.sL (tsS l))] [slT l, slT l] (AV.bool true))
    (h23 : (tsF l ++ [m77])[(tsS l).length]? = some m77) :
    WayF Try.prog 6 T6 fd6 [(16, .c [] (.bool true)), (19, .c [slT l] (.own true 2 (tsF l))), (22, .q2), (22, .n (.own true 2 (tsD l ++ [m77]))), (27, .q), (5, .n (.own false 2 (tsF l ++ [m77]))), (27, .n (.sl true true 2 (tsF l))), (28, .c [slT l] (.tup [.nils, ni 2])), (28, .n (.tup [.nils, ni 2])), (33, .c [slT l] (.tup [.nils, ni 2])), (33, .n (.tup [.nils, ni 2])), (39, .q), (39, .n (.sl true true 2 (tsF l))), (41, .c [slT l, bA k] (.own true 1 (vsF X))), (41, .n (.own true 1 (vsD X))), (45, .cs [slT l, bA k] (.own true 1 (vsS X))), (46, .c [slV X, slV X] (.bool true)), (0, .lp (sJl1 l p (vsD X) X.length 0) (.exit 0) (sJl2 l p)), (73, .c [slB ([] : List UInt8), slB ([] : List UInt8)] (.bool true)), (88, .q), (88, .n (.sl true true 2 (tsF l))), (90, .c [slT l, slT l] (.bool true)), (97, .v m77)] [slT l, bA k] (.bool true) :=
  fn_of_pr hfol ok6 hT6 (show prF Try.prog 6 T6 fd6 [(16, .c [] (.bool true)), (19, .c [slT l] (.own true 2 (tsF l))), (22, .q2), (22, .n (.own true 2 (tsD l ++ [m77]))), (27, .q), (5, .n (.own false 2 (tsF l ++ [m77]))), (27, .n (.sl true true 2 (tsF l))), (28, .c [slT l] (.tup [.nils, ni 2])), (28, .n (.tup [.nils, ni 2])), (33, .c [slT l] (.tup [.nils, ni 2])), (33, .n (.tup [.nils, ni 2])), (39, .q), (39, .n (.sl true true 2 (tsF l))), (41, .c [slT l, bA k] (.own true 1 (vsF X))), (41, .n (.own true 1 (vsD X))), (45, .cs [slT l, bA k] (.own true 1 (vsS X))), (46, .c [slV X, slV X] (.bool true)), (0, .lp (sJl1 l p (vsD X) X.length 0) (.exit 0) (sJl2 l p)), (73, .c [slB ([] : List UInt8), slB ([] : List UInt8)] (.bool true)), (88, .q), (88, .n (.sl true true 2 (tsF l))), (90, .c [slT l, slT l] (.bool true)), (97, .v m77)] [slT l, bA k] (.bool true) = some _ by kernel_rfl) (AllP.c h1 (AllP.c (show freshA (AV.bool true) = true by kernel_rfl) (AllP.c h2 (AllP.c h3 (AllP.c (show [AV.agg [AV.int IntKind.u8 (77 : Int), AV.nils]].all flat = false by kernel_rfl) (AllP.c (show [AV.agg [AV.int IntKind.u8 (77 : Int), AV.nils]].all (okElem (2 : Nat)) = true by kernel_rfl) (AllP.c h4 (AllP.c h5 (AllP.c (show (0 : Int) ≤ (0 : Int) by decide) (AllP.c (show (0 : Int) ≤ (↑(tsS l).length : Int) from Int.natCast_nonneg _) (AllP.c h6 (AllP.c h7 (AllP.c h8 (AllP.c h9 (AllP.c (show freshA (AV.tup [AV.nils, ni (2 : Nat)]) = true by kernel_rfl) (AllP.c (show AV.tup [AV.nils, ni (2 : Nat)] = AV.tup [AV.nils, ni (2 : Nat)] by kernel_rfl) (AllP.c h10 (AllP.c (show freshA (AV.tup [AV.nils, ni (2 : Nat)]) = true by kernel_rfl) (AllP.c (show AV.tup [AV.nils, ni (2 : Nat)] = AV.tup [AV.nils, ni (2 : Nat)] by kernel_rfl) (AllP.c (show (0 : Int) ≤ (0 : Int) by decide) (AllP.c (show (0 : Int) ≤ (↑(tsS l).length : Int) from Int.natCast_nonneg _) (AllP.c h11 (AllP.c h12 (AllP.c h13 (AllP.c h14 (AllP.c h15 (AllP.c h16 (AllP.c h17 (AllP.c h18 (AllP.c (show freshA (AV.bool true) = true by kernel_rfl) (AllP.c (LeR.refl (x := AV.sl false false (2 : Nat) (tsS l))) (AllP.c (LeR.refl (x := AV.own false (2 : Nat) (tsF l ++ [m77]))) (AllP.c (LeR.refl (x := AV.nils)) (AllP.c (LeR.refl (x := AV.int IntKind.i64 (↑(2 : Nat) : Int))) (AllP.c (LeR.refl (x := AV.nils)) (AllP.c (LeR.refl (x := AV.int IntKind.i64 (↑(2 : Nat) : Int))) (AllP.c (LeR.refl (x := AV.own true (1 : Nat) (vsD X))) (AllP.c (LeR.refl (x := AV.bool true)) (AllP.c h19 (AllP.c (LeR.refl (x := AV.int IntKind.i64 (↑(0 : Nat) : Int))) (AllP.c (LeR.refl (x := AV.mem [])) (AllP.c h20 (AllP.c h21 (AllP.c (show freshA (AV.bool true) = true by kernel_rfl) (AllP.c (show (0 : Int) ≤ (0 : Int) by decide) (AllP.c (show (0 : Int) ≤ (↑(tsS l).length : Int) from Int.natCast_nonneg _) (AllP.c h11 (AllP.c h12 (AllP.c h22 (AllP.c (show freshA (AV.bool true) = true by kernel_rfl) (AllP.c (show (0 : Int) ≤ (↑(tsS l).length : Int) from Int.natCast_nonneg _) (AllP.c h23 (AllP.c (show AV.bool true = AV.bool true by kernel_rfl) AllP.n)))))))))))))))))))))))))))))))))))))))))))))))))))))
end Go.Ev

/-! text P6 -/
set_option linter.unusedVariables false
namespace Go.Ev
open Go.Proofs (Try.prog)

/-! ### Rights, of whole lists -/
theorem map_uL {α : Type} {f g : α → AV} (h : ∀ t, undeep (f t) = g t) : ∀ l : List α, undeep.uL (l.map f) = l.map g
  | [] => rfl
  | t :: l => by simp only [List.map_cons, undeep.uL, h, map_uL h l]
theorem map_dL {α : Type} {f g : α → AV} (h : ∀ t, deepen (f t) = g t) : ∀ l : List α, deepen.dL (l.map f) = l.map g
  | [] => rfl
  | t :: l => by simp only [List.map_cons, deepen.dL, h, map_dL h l]
theorem map_sL {α : Type} {f g : α → AV} (h : ∀ t, stale (f t) = g t) : ∀ l : List α, stale.sL (l.map f) = l.map g
  | [] => rfl
  | t :: l => by simp only [List.map_cons, stale.sL, h, map_sL h l]
theorem map_hvL {α : Type} {f g : α → AV} (h : ∀ t, hv (f t) = g t) : ∀ l : List α, hv.hvL (l.map f) = l.map g
  | [] => rfl
  | t :: l => by simp only [List.map_cons, hv.hvL, h, map_hvL h l]
theorem map_freshL {α : Type} {f : α → AV} (h : ∀ t, freshA (f t) = true) : ∀ l : List α, freshA.freshL (l.map f) = true
  | [] => rfl
  | t :: l => by simp only [List.map_cons, freshA.freshL, h, map_freshL h l, Bool.and_self]
theorem uL_app : ∀ (xs ys : List AV), undeep.uL (xs ++ ys) = undeep.uL xs ++ undeep.uL ys
  | [], ys => rfl
  | x :: xs, ys => by simp only [List.cons_append, undeep.uL, uL_app xs ys]
@[simp] theorem tsS_sL (l : List TLV) : stale.sL (tsS l) = tsS l := map_sL (fun t => by simp only [tS, bA, stale, stale.sL, bsA_sL]) l
@[simp] theorem tsF_sL (l : List TLV) : stale.sL (tsF l) = tsS l := map_sL (fun t => by simp only [tF, tS, bA, stale, stale.sL, bsA_sL]) l
@[simp] theorem tsF_uL (l : List TLV) : undeep.uL (tsF l) = tsF l := map_uL (fun t => by simp only [tF, bA, undeep, undeep.uL, bsA_uL]) l
@[simp] theorem tsD_uL (l : List TLV) : undeep.uL (tsD l) = tsF l := map_uL (fun t => by simp only [tF, tD, bA, undeep, undeep.uL, bsA_uL]) l
@[simp] theorem tsF_dL (l : List TLV) : deepen.dL (tsF l) = tsD l := map_dL (fun t => by simp only [tF, tD, bA, deepen, deepen.dL, bsA_dL]) l
@[simp] theorem tsF_freshL (l : List TLV) : freshA.freshL (tsF l) = true := map_freshL (fun t => by simp only [tF, bA, freshA, freshA.freshL, bsA_freshL, Bool.and_self]) l
@[simp] theorem vsS_sL (l : List (List UInt8)) : stale.sL (vsS l) = vsS l := map_sL (fun t => by simp only [vS, stale, bsA_sL]) l
@[simp] theorem vsF_sL (l : List (List UInt8)) : stale.sL (vsF l) = vsS l := map_sL (fun t => by simp only [vF, vS, stale, bsA_sL]) l
@[simp] theorem vsS_uL (l : List (List UInt8)) : undeep.uL (vsS l) = vsS l := map_uL (fun t => by simp only [vS, undeep, bsA_uL]) l
@[simp] theorem vsF_uL (l : List (List UInt8)) : undeep.uL (vsF l) = vsF l := map_uL (fun t => by simp only [vF, undeep, bsA_uL]) l
@[simp] theorem vsD_uL (l : List (List UInt8)) : undeep.uL (vsD l) = vsF l := map_uL (fun t => by simp only [vF, vD, undeep, bsA_uL]) l
@[simp] theorem vsF_dL (l : List (List UInt8)) : deepen.dL (vsF l) = vsD l := map_dL (fun t => by simp only [vF, vD, deepen, bsA_dL]) l
@[simp] theorem vsF_freshL (l : List (List UInt8)) : freshA.freshL (vsF l) = true := map_freshL (fun t => by simp only [vF, freshA, bsA_freshL, Bool.and_self]) l
@[simp] theorem tsF_ok (l : List TLV) : (tsF l).all (okElem 2) = true := by simp [tsF, tF, bA, okElem, cellsOf, okCell]
@[simp] theorem vsF_ok (l : List (List UInt8)) : (vsF l).all (okElem 1) = true := by simp [vsF, vF, okElem, cellsOf, okCell]
theorem tsD_flat {l : List TLV} (h : l ≠ []) : (tsD l).all flat = false := by
  cases l with
  | nil => exact absurd rfl h
  | cons t l => rfl
theorem vsD_flat {l : List (List UInt8)} (h : l ≠ []) : (vsD l).all flat = false := by
  cases l with
  | nil => exact absurd rfl h
  | cons t l => rfl
theorem tsF_app (l m : List TLV) : tsF (l ++ m) = tsF l ++ tsF m := by simp [tsF]
theorem vsF_app (l m : List (List UInt8)) : vsF (l ++ m) = vsF l ++ vsF m := by simp [vsF]

/-! ### TlvFilters -/
theorem ofK_app (a b : List TLV) (k : UInt8) : ofK (a ++ b) k = ofK a k ++ ofK b k := by simp [ofK]
def cnt (a : List TLV) (n : Nat) : Nat := ((List.range n).map fun k => (ofK a (UInt8.ofNat k)).length).sum
theorem cnt_succ (a : List TLV) (n : Nat) : cnt a (n + 1) = cnt a n + (ofK a (UInt8.ofNat n)).length := by simp [cnt, List.range_succ]
theorem cnt_cons (t : TLV) (a : List TLV) : ∀ n, n ≤ 256 → cnt (t :: a) n = cnt a n + if t.1.toNat < n then 1 else 0
  | 0, _ => by simp [cnt]
  | n + 1, h => by
    rw [cnt_succ, cnt_succ, cnt_cons t a n (by omega)]
    have hk : (t.1 == UInt8.ofNat n) = decide (t.1.toNat = n) := by
      rw [Bool.eq_iff_iff]
      simp only [beq_iff_eq, decide_eq_true_eq]
      constructor
      · intro e; rw [e]; simp; omega
      · intro e; rw [← e]; simp
    have e : (ofK (t :: a) (UInt8.ofNat n)).length = (ofK a (UInt8.ofNat n)).length + if t.1.toNat = n then 1 else 0 := by
      unfold ofK
      rw [List.filter_cons, hk]
      by_cases hc : t.1.toNat = n <;> simp [hc]
    rw [e]
    by_cases h1 : t.1.toNat < n
    · rw [if_pos h1, if_neg (by omega), if_pos (by omega)]; omega
    · by_cases h2 : t.1.toNat = n
      · rw [if_neg h1, if_pos h2, if_pos (by omega)]; omega
      · rw [if_neg h1, if_neg h2, if_neg (by omega)]; omega
theorem cnt_all : ∀ a : List TLV, cnt a 256 = a.length
  | [] => by
    have : ∀ n, cnt [] n = 0 := by
      intro n
      induction n with
      | zero => rfl
      | succ n ih => rw [cnt_succ, ih]; rfl
    rw [this]; rfl
  | t :: a => by
    have := t.1.toNat_lt
    rw [cnt_cons t a 256 (by omega), cnt_all a, if_pos (by omega)]
    rfl
theorem cnt_le (a : List TLV) (n : Nat) (h : n ≤ 256) : cnt a n ≤ a.length := by
  rw [← cnt_all a]
  have : ∀ d n, n + d = 256 → cnt a n ≤ cnt a 256 := by
    intro d
    induction d with
    | zero => intro n hn; rw [show n = 256 by omega]; exact Nat.le_refl _
    | succ d ih => intro n hn; exact Nat.le_trans (by rw [cnt_succ]; omega) (ih (n + 1) (by omega))
  exact this (256 - n) n (by omega)
theorem small_app {a b : List TLV} (ha : Small a) (hb : Small b) (hl : a.length + b.length < 1073741824) : Small (a ++ b) :=
  ⟨by simpa using hl, fun t ht => (List.mem_append.1 ht).elim (ha.2 t) (hb.2 t)⟩
theorem Filters_ok (a b : List TLV) (k : UInt8) (ha : Small a) (hb : Small b) (hl : a.length + b.length < 1073741824) : FnOk Try.prog 3 [slT a, slT b, bA k] (.bool true) := by
  have hla := ofK_len a k
  have hlb := ofK_len b k
  have cT : ∀ l : List TLV, Small l → FnW Try.prog 9 [AV.sl false false 2 (stale.sL (tsS l))] [slT l] (AV.own true 2 (tsF l)) := fun l h => .of (.cons (.sl_eq (by simp)) .nil) (Twin_ok l h)
  have cO : ∀ l : List TLV, Small l → FnW Try.prog 8 [AV.sl false false 2 (stale.sL (undeep.uL (deepen.dL (tsF l)))), AV.int IntKind.u8 (k.toNat : Int)] [slT l, bA k] (AV.own true 1 (vsF (ofK l k))) := fun l h => .of (.cons (.sl_eq (by simp)) (.cons .refl .nil)) (Of_ok l k h)
  have cZ : FnW Try.prog 8 [AV.sl false false 2 (stale.sL (undeep.uL (deepen.dL (tsF a) ++ undeep.uL (deepen.dL (tsF b))))), AV.int IntKind.u8 (k.toNat : Int)] [slT (a ++ b), bA k] (AV.own true 1 (vsF (ofK (a ++ b) k))) :=
    .of (.cons (.sl_eq (by rw [tsF_dL, tsF_dL, tsD_uL, uL_app, tsD_uL, tsF_uL, ← tsF_app, tsF_sL])) (.cons .refl .nil)) (Of_ok _ k (small_app ha hb hl))
  have cV : FnW Try.prog 10 [AV.sl false false 1 (stale.sL (undeep.uL (vsD (ofK (a ++ b) k)))), AV.sl false false 1 (stale.sL (undeep.uL (vsD (ofK a k) ++ undeep.uL (vsD (ofK b k)))))] [slV (ofK (a ++ b) k), slV (ofK a k ++ ofK b k)] (AV.bool true) := by
    refine .of (.cons (.sl_eq (by simp)) (.cons (.sl_eq (by rw [vsD_uL, uL_app, vsD_uL, vsF_uL, ← vsF_app, vsF_sL])) .nil)) ?_
    have := SameValues_ok (ofK (a ++ b) k) (ofK a k ++ ofK b k) (by rw [ofK_app]; simp; omega) fun v hv => by
      obtain ⟨t, ht, e⟩ := ofK_mem hv
      rw [← e]
      exact (small_app ha hb hl).2 t ht
    rwa [decide_eq_true (ofK_app a b k)] at this
  have L : Runs Try.prog T3 51 (Cd.loop [] lp3x0) (sF a (ofK a k) (ofK b k) (ofK (a ++ b) k) 0 0) fun x => x = (Ex.exit 0, st 51 [(0, slT a), (7, AV.own true 1 (vsD (ofK a k))), (8, AV.own true 1 (vsD (ofK b k))), (9, AV.own true 1 (vsD (ofK (a ++ b) k))), (10, ni a.length)]) := by
    refine Runs.upto (S := fun i => sF a (ofK a k) (ofK b k) (ofK (a ++ b) k) (cnt a i) i) (j := 256) (fun i hi => ?_) ?_ (by simp)
    · have h1 := cnt_le a (i + 1) (by omega)
      have h2 := ha.1
      rw [cnt_succ] at h1
      simp only [cnt_succ]
      exact Filters_next a _ _ _ (ofK a (UInt8.ofNat i)) (cnt a i) i (UInt8.ofNat i) (decide_eq_true (by omega)) (by rw [wrap8_eq (by omega) (by omega), UInt8.toNat_ofNat_of_lt' (by simpa using hi)]) (.of (.cons (.sl_eq (by simp)) (.cons .refl .nil)) (Of_ok a _ ha)) (by simp [freshA]) (by rw [vsF_dL, vsD_len, wrap64_eq (by omega) (by omega)]; omega) (wrap_succ (by omega))
    · have := Filters_end a (ofK a k) (ofK b k) (ofK (a ++ b) k) (cnt a 256) 256 (by simp)
      rw [cnt_all] at this
      simp only [cnt_all]
      exact this
  have s1 : ((deepen.dL (tsF a)).length + (undeep.uL (deepen.dL (tsF b))).length) * 32 ≤ 140737488355328 := by simp; omega
  have s2 : ((vsD (ofK a k)).length + (undeep.uL (vsD (ofK b k))).length) * 24 ≤ 140737488355328 := by simp; omega
  by_cases hb0 : b = []
  · subst hb0
    exact Filters_way00 a [] k _ _ _ _ ⟨.refl, awake_ok⟩ (cT a ha) (by simp [freshA]) (cO a ha) (by simp [freshA]) (cT [] hb) rfl (cO [] hb) rfl rfl rfl (by simpa [deepen.dL, undeep.uL, tsF] using s1) (by simpa [tsF, deepen.dL, undeep.uL] using cZ) (by simp [freshA]) (LeR.of_eq (by simp)) (LeR.of_eq (by simp)) (LeR.of_eq (by simp)) L rfl rfl (by simpa [ofK, vsD, undeep.uL] using s2) (by simpa [ofK, vsD, undeep.uL] using cV) (by simp)
  · by_cases hY : ofK b k = []
    · exact Filters_way10 a b k _ _ _ _ ⟨.refl, awake_ok⟩ (cT a ha) (by simp [freshA]) (cO a ha) (by simp [freshA]) (cT b hb) (by simp [freshA]) (cO b hb) (by simp [freshA]) (by rw [tsF_dL]; exact tsD_flat hb0) (by simp) s1 cZ (by simp [freshA]) (LeR.of_eq (by simp)) (LeR.of_eq (by simp)) (LeR.of_eq (by simp)) L (by rw [hY]; rfl) (by rw [hY]; rfl) (by rw [hY] at s2 ⊢; exact s2) (by rw [hY] at cV ⊢; exact cV) (by simp)
    · exact Filters_way a b k _ _ _ _ ⟨.refl, awake_ok⟩ (cT a ha) (by simp [freshA]) (cO a ha) (by simp [freshA]) (cT b hb) (by simp [freshA]) (cO b hb) (by simp [freshA]) (by rw [tsF_dL]; exact tsD_flat hb0) (by simp) s1 cZ (by simp [freshA]) (LeR.of_eq (by simp)) (LeR.of_eq (by simp)) (LeR.of_eq (by simp)) L (vsD_flat hY) (by simp) s2 cV (by simp)
end Go.Ev

/-! text P7 -/
set_option linter.unusedVariables false
namespace Go.Ev
open Go.Proofs (Try.prog)

/-! ### Bytes and lists, both ways -/
theorem lenB_ok {v : List UInt8} {k : UInt8} (h : v.length = k.toNat) : lenB v = k := by
  unfold lenB
  rw [h]
  simp
theorem parse_enc : ∀ (n : Nat) (p : List UInt8) (l : List TLV), p.length ≤ n → parse p = some l → enc l = p ∧ ∀ t ∈ l, t.2.length ≤ 255
  | n, [], l, _, h => by
    simp only [parse, Option.some.injEq] at h
    subst h
    exact ⟨rfl, fun t ht => by cases ht⟩
  | n, [t], l, _, h => by simp [parse] at h
  | 0, t :: k :: r, l, hn, _ => by simp at hn
  | n + 1, t :: k :: r, l, hn, h => by
    simp only [List.length_cons] at hn
    rw [parse] at h
    split at h
    · cases h
    · rename_i hr
      obtain ⟨l', h1, rfl⟩ := map_some h
      obtain ⟨e1, e2⟩ := parse_enc n (r.drop k.toNat) l' (by simp; omega) h1
      have hv : (r.take k.toNat).length = k.toNat := by rw [List.length_take]; omega
      have hk := k.toNat_lt
      refine ⟨?_, fun t ht => ?_⟩
      · show t :: lenB (r.take k.toNat) :: (r.take k.toNat) ++ enc l' = _
        rw [lenB_ok hv, e1, List.cons_append, List.cons_append, List.take_append_drop]
      · rcases List.mem_cons.1 ht with rfl | ht
        · show (r.take k.toNat).length ≤ 255
          omega
        · exact e2 t ht
theorem enc_parse : ∀ (l : List TLV), (∀ t ∈ l, t.2.length ≤ 255) → parse (enc l) = some l
  | [], _ => by simp [enc, parse]
  | t :: l, h => by
    have ht := h t (List.mem_cons_self ..)
    have ih := enc_parse l fun u hu => h u (List.mem_cons_of_mem _ hu)
    have e : enc (t :: l) = t.1 :: lenB t.2 :: (t.2 ++ enc l) := by simp [enc, enc1]
    have hb : (lenB t.2).toNat = t.2.length := by
      unfold lenB
      exact UInt8.toNat_ofNat_of_lt' (by show _ < 256; omega)
    rw [e, parse, hb, if_neg (by simp), List.drop_left, List.take_left, ih]
    rfl
theorem parse_fits {p : List UInt8} {l : List TLV} (hp : p.length ≤ 1492) (h : parse p = some l) : fits l ∧ enc l = p ∧ Small l := by
  obtain ⟨h1, h2⟩ := parse_enc p.length p l (Nat.le_refl _) h
  have hl : l.length ≤ (enc l).length := by
    clear h1 h2 h
    induction l with
    | nil => simp
    | cons t l ih =>
      have : enc (t :: l) = enc1 t ++ enc l := by simp [enc]
      rw [this, List.length_append, enc1_len, List.length_cons]
      omega
  rw [h1] at hl
  exact ⟨⟨h2, by rw [h1]; exact hp⟩, h1, by omega, fun t ht => by have := h2 t ht; omega⟩

/-! ### What is left where numbers are turned -/
theorem bsA_hv : ∀ v : List UInt8, hv.hvL (bsA v) = v.map fun _ => anyB
  | [] => rfl
  | b :: v => by
    show hv (bA b) :: hv.hvL (bsA v) = _
    rw [bsA_hv v]
    rfl
theorem any_hv : ∀ v : List UInt8, hv.hvL (v.map fun _ => anyB) = v.map fun _ => anyB
  | [] => rfl
  | b :: v => by
    show hv anyB :: hv.hvL (v.map fun _ => anyB) = _
    rw [any_hv v]
    rfl
theorem tsD_hv (l : List TLV) : hv.hvL (tsD l) = tsX l := map_hvL (fun t => by simp only [tD, tX, hv, hv.hvL, bsA_hv]; rfl) l
theorem tsX_hv (l : List TLV) : hv.hvL (tsX l) = tsX l := map_hvL (fun t => by simp only [tX, hv, hv.hvL, any_hv]) l
theorem vsD_hv (l : List (List UInt8)) : hv.hvL (vsD l) = vsX l := map_hvL (fun t => by simp only [vD, vX, hv, bsA_hv]) l
theorem vsX_hv (l : List (List UInt8)) : hv.hvL (vsX l) = vsX l := map_hvL (fun t => by simp only [vX, hv, any_hv]) l
theorem cell_tD {l : List TLV} {i : Nat} (h : i < l.length) : cellOf 2 (tsD l) (i * 2 + 1) = some (vD l[i].2) := by
  unfold cellOf
  rw [show (i * 2 + 1) / 2 = i by omega, show (i * 2 + 1) % 2 = 1 by omega]
  simp only [tsD, List.getElem?_map, List.getElem?_eq_getElem h]
  rfl
theorem cell_tX {l : List TLV} {i : Nat} (h : i < l.length) : cellOf 2 (tsX l) (i * 2 + 1) = some (vX l[i].2) := by
  unfold cellOf
  rw [show (i * 2 + 1) / 2 = i by omega, show (i * 2 + 1) % 2 = 1 by omega]
  simp only [tsX, List.getElem?_map, List.getElem?_eq_getElem h]
  rfl
theorem cell_vD {l : List (List UInt8)} {i : Nat} (h : i < l.length) : cellOf 1 (vsD l) (i * 1) = some (vD l[i]) := by
  unfold cellOf
  rw [show (i * 1) / 1 = i by omega, show (i * 1) % 1 = 0 by omega]
  simp only [vsD, List.getElem?_map, List.getElem?_eq_getElem h]
  rfl
theorem cell_vX {l : List (List UInt8)} {i : Nat} (h : i < l.length) : cellOf 1 (vsX l) (i * 1) = some (vX l[i]) := by
  unfold cellOf
  rw [show (i * 1) / 1 = i by omega, show (i * 1) % 1 = 0 by omega]
  simp only [vsX, List.getElem?_map, List.getElem?_eq_getElem h]
  rfl
theorem get_any {v : List UInt8} {j : Nat} (h : j < v.length) : (v.map fun _ => anyB)[j]? = some anyB := by
  rw [List.getElem?_map, List.getElem?_eq_getElem h]; rfl
theorem tsX_len (l : List TLV) : (tsX l).length = l.length := by simp [tsX]
theorem vsX_len (l : List (List UInt8)) : (vsX l).length = l.length := by simp [vsX]

/-! ### TlvSplits -/
theorem inT_x (p : List UInt8) (l : List TLV) (i : Nat) (hi : i < l.length) (hs : l[i].2.length < 1073741824) : Runs Try.prog T4 83 (Cd.loop [] lp4x0) (sS0 p (tsX l) l.length i l[i].2.length 0) fun x => x = (Ex.exit 2, sS1 p (tsX l) l.length i) :=
  Runs.upto (S := fun j => sS0 p (tsX l) l.length i l[i].2.length j) (j := l[i].2.length) (fun j hj => SplitsIn_next p l i j _ l[i].2 (by simpa using hj) (by rw [tsX_len]; omega) (cell_tX hi) (get_any hj) (wrap_succ (by omega)) (LeR.of_eq (by rw [tsX_hv]))) (SplitsIn_end p _ i _ _ _ (by simp)) (by simp)
theorem inT_d (p : List UInt8) (l : List TLV) (i : Nat) (hi : i < l.length) (hs : l[i].2.length < 1073741824) : Runs Try.prog T4 83 (Cd.loop [] lp4x0) (sS0 p (tsD l) l.length i l[i].2.length 0) fun x => x = (Ex.exit 2, sS1 p (if l[i].2 = [] then tsD l else tsX l) l.length i) := by
  by_cases he : l[i].2 = []
  · rw [if_pos he]
    exact Runs.upto (S := fun j => sS0 p (tsD l) l.length i l[i].2.length j) (j := 0) (fun j hj => by omega) (SplitsIn_end p _ i _ _ _ (by simp [he])) (by simp)
  · rw [if_neg he]
    have hpos : 0 < l[i].2.length := List.length_pos_iff.2 he
    refine Runs.upto (S := fun j => sS0 p (if j = 0 then tsD l else tsX l) l.length i l[i].2.length j) (j := l[i].2.length) (fun j hj => ?_) ?_ (by simp)
    · rw [if_neg (by omega : ¬ j + 1 = 0)]
      by_cases hj0 : j = 0
      · subst hj0
        rw [if_pos rfl]
        exact SplitsIn_first p l i 0 _ l[i].2 l[i].2[0] (by simpa using hpos) (by rw [tsD_len]; omega) (cell_tD hi) (get_bA hpos) (wrap_succ (by omega)) (LeR.of_eq (by rw [tsD_hv]))
      · rw [if_neg hj0]
        exact SplitsIn_next p l i j _ l[i].2 (by simpa using hj) (by rw [tsX_len]; omega) (cell_tX hi) (get_any hj) (wrap_succ (by omega)) (LeR.of_eq (by rw [tsX_hv]))
    · rw [if_neg (by omega)]
      exact SplitsIn_end p _ i _ _ _ (by simp)
theorem outT (p : List UInt8) (l : List TLV) (hs : Small l) : Runs Try.prog T4 83 (Cd.loop [] lp4x1) (sS1 p (tsD l) l.length 0) fun x => x = (Ex.exit 0, st 83 [(0, slB p), (4, AV.own false 1 (bsA (spare p)))]) := by
  obtain ⟨hs, hv⟩ := hs
  refine Runs.upto (S := fun i => sS1 p (if ∀ t ∈ l.take i, t.2 = [] then tsD l else tsX l) l.length i) (j := l.length) (fun i hi => ?_) (SplitsOut_end p _ _ _ (by simp)) (by simp)
  have h2 := hv l[i] (List.getElem_mem _)
  have hw : IntKind.i64.wrap ((i : Int) + 1) = ((i + 1 : Nat) : Int) := wrap_succ (by omega)
  have key : (∀ t ∈ l.take (i + 1), t.2 = []) ↔ (∀ t ∈ l.take i, t.2 = []) ∧ l[i].2 = [] := by
    rw [List.take_succ_eq_append_getElem hi]
    simp only [List.mem_append, List.mem_singleton]
    exact ⟨fun h => ⟨fun t ht => h t (.inl ht), h _ (.inr rfl)⟩, fun h t ht => ht.elim (h.1 t) (fun e => by rw [e]; exact h.2)⟩
  by_cases hd : ∀ t ∈ l.take i, t.2 = []
  · have := SplitsOut_d p l _ i l[i].2 (by simpa using hi) (by rw [tsD_len]; omega) (cell_tD hi) (by simp) (inT_d p l i hi (by omega)) hw
    simp only [if_pos hd]
    by_cases he : l[i].2 = []
    · rw [if_pos he] at this
      simp only [if_pos (key.2 ⟨hd, he⟩)]
      exact this
    · rw [if_neg he] at this
      simp only [if_neg (fun h => he (key.1 h).2)]
      exact this
  · simp only [if_neg hd, if_neg (fun h => hd (key.1 h).1)]
    exact SplitsOut_x p l i l[i].2 (by simpa using hi) (by rw [tsX_len]; omega) (cell_tX hi) (by simp) (inT_x p l i hi (by omega)) hw
theorem deepT_ts (l : List TLV) (e : Nat) : AV.tup (deepT [AV.own true 2 (tsF l), ni e]) = AV.tup [AV.own true 2 (tsD l), ni e] := by
  cases l with
  | nil => rfl
  | cons t l =>
    show AV.tup [AV.own true 2 (deepen.dL (tsF (t :: l))), ni e] = _
    rw [tsF_dL]
theorem deepT_bs (v : List UInt8) (e : Nat) : AV.tup (deepT [AV.own true 1 (bsA v), ni e]) = AV.tup [AV.own true 1 (bsA v), ni e] := by
  simp [deepT, flatR, flat]
theorem Splits_ok' (p : List UInt8) (hs : p.length < 1073741824) : FnOk Try.prog 4 [slB p] (.bool true) := by
  have cK : FnW Try.prog 17 [AV.sl false false 1 (stale.sL (bsA (spare p))), AV.sl false false 1 (stale.sL (bsA p))] [slB (spare p), slB p] (AV.bool true) := .of (.cons (slB_arg _) (.cons (slB_arg _) .nil)) (Kept_ok p hs)
  have cA : FnW Try.prog 7 [] [] (AV.bool true) := ⟨.refl, awake_ok⟩
  have cS : FnW Try.prog 11 [AV.sl false false 1 (stale.sL (bsA p))] [slB p] (AV.tup [AV.sl true true 1 (bsA p), AV.own false 1 (bsA (spare p))]) := .of (.cons (slB_arg _) .nil) (Spare_ok p hs)
  have fS : freshA (AV.tup [AV.sl true true 1 (bsA p), AV.own false 1 (bsA (spare p))]) = true := by simp [freshA, freshA.freshL]
  have c12 : FnW Try.prog 12 [AV.sl false true 1 (stale.sL (bsA p))] [slB p] (splitS p) := .of (.cons (.sl_eq (by simp)) .nil) (Split_ok' p)
  have c13 : FnW Try.prog 13 [AV.sl false false 1 (stale.sL (bsA p))] [slB p] (splitS p) := .of (.cons (slB_arg _) .nil) (DSplit_ok' p)
  have err : ∀ e : Nat, e ≠ 0 → splitS p = .tup [.nils, ni e] → FnOk Try.prog 4 [slB p] (.bool true) := by
    intro e he h
    rw [h] at c12 c13
    refine Splits_err p e cA cS fS c12 c13 (.of (.cons .nils (.cons .nils .nil)) (by have := Same_ok [] [] ⟨by simp, by simp⟩; rwa [decide_eq_true rfl] at this)) (by simp) (by simp; omega) ?_ cK
    exact Runs.upto (S := fun i => sS1 p [] 0 i) (j := 0) (fun i hi => by omega) (SplitsOut_end p [] 0 0 (by simp)) (by simp)
  unfold splitS at err c12 c13
  by_cases hl : p.length > 1492
  · exact err 2 (by simp) (by rw [if_pos hl])
  · rw [if_neg hl] at err c12 c13
    cases h : parse p with
    | none =>
      rw [h] at err
      exact err 3 (by simp) rfl
    | some l =>
      rw [h] at c12 c13
      obtain ⟨hf, he, hS⟩ := parse_fits (by omega) h
      have hj := Join_ok' l hS
      unfold joinS at hj
      rw [if_pos hf, he] at hj
      exact Splits_ok p l cA cS fS c12 (by simp [freshA, freshA.freshL]) (deepT_ts l 0) c13
        (.of (.cons (.sl_eq (by simp)) (.cons (.sl_eq (by simp)) .nil)) (by have := Same_ok l l hS; rwa [decide_eq_true rfl] at this))
        (.of (.cons (.sl_eq (by simp)) .nil) hj) (by simp [freshA, freshA.freshL]) (deepT_bs p 0) (.of (.cons (.sl_eq (by simp)) (.cons (.sl_eq (by simp)) .nil)) (by have := SameBytes_ok p p (by omega); rwa [decide_eq_true rfl] at this))
        (LeR.of_eq (by simp)) (outT p l hS) cK
end Go.Ev

/-! text P8 -/
set_option linter.unusedVariables false
namespace Go.Ev
open Go.Proofs (Try.prog)

/-! ### TlvJoins -/
theorem inV_x_o (l : List TLV) (p : List UInt8) (X : List (List UInt8)) (i : Nat) (hi : i < X.length) (hs : X[i].length < 1073741824) : Runs Try.prog T6 116 (Cd.loop [] lp6x0) (sJo0 l p (vsX X) X.length i X[i].length 0) fun x => x = (Ex.exit 2, sJo1 l p (vsX X) X.length i) :=
  Runs.upto (S := fun j => sJo0 l p (vsX X) X.length i X[i].length j) (j := X[i].length) (fun j hj => JoinsIn_next_o l p X i j _ X[i] (by simpa using hj) (by rw [vsX_len]; omega) (cell_vX hi) (get_any hj) (wrap_succ (by omega)) (LeR.of_eq (by rw [vsX_hv]))) (JoinsIn_end_o l p _ i _ _ _ (by simp)) (by simp)
theorem inV_d_o (l : List TLV) (p : List UInt8) (X : List (List UInt8)) (i : Nat) (hi : i < X.length) (hs : X[i].length < 1073741824) : Runs Try.prog T6 116 (Cd.loop [] lp6x0) (sJo0 l p (vsD X) X.length i X[i].length 0) fun x => x = (Ex.exit 2, sJo1 l p (if X[i] = [] then vsD X else vsX X) X.length i) := by
  by_cases he : X[i] = []
  · rw [if_pos he]
    exact Runs.upto (S := fun j => sJo0 l p (vsD X) X.length i X[i].length j) (j := 0) (fun j hj => by omega) (JoinsIn_end_o l p _ i _ _ _ (by simp [he])) (by simp)
  · rw [if_neg he]
    have hpos : 0 < X[i].length := List.length_pos_iff.2 he
    refine Runs.upto (S := fun j => sJo0 l p (if j = 0 then vsD X else vsX X) X.length i X[i].length j) (j := X[i].length) (fun j hj => ?_) ?_ (by simp)
    · rw [if_neg (by omega : ¬ j + 1 = 0)]
      by_cases hj0 : j = 0
      · subst hj0
        rw [if_pos rfl]
        exact JoinsIn_first_o l p X i 0 _ X[i] X[i][0] (by simpa using hpos) (by rw [vsD_len]; omega) (cell_vD hi) (get_bA hpos) (wrap_succ (by omega)) (LeR.of_eq (by rw [vsD_hv]))
      · rw [if_neg hj0]
        exact JoinsIn_next_o l p X i j _ X[i] (by simpa using hj) (by rw [vsX_len]; omega) (cell_vX hi) (get_any hj) (wrap_succ (by omega)) (LeR.of_eq (by rw [vsX_hv]))
    · rw [if_neg (by omega)]
      exact JoinsIn_end_o l p _ i _ _ _ (by simp)
theorem outV_o (l : List TLV) (p : List UInt8) (X : List (List UInt8)) (hs : X.length < 1073741824) (hv : ∀ v ∈ X, v.length < 1073741824) : Runs Try.prog T6 116 (Cd.loop [] lp6x1) (sJo1 l p (vsD X) X.length 0) fun x => x = (Ex.exit 0, sJo2 l p) := by
  refine Runs.upto (S := fun i => sJo1 l p (if ∀ t ∈ X.take i, t = [] then vsD X else vsX X) X.length i) (j := X.length) (fun i hi => ?_) (JoinsOut_end_o l p _ _ _ (by simp)) (by simp)
  have h2 := hv X[i] (List.getElem_mem _)
  have hw : IntKind.i64.wrap ((i : Int) + 1) = ((i + 1 : Nat) : Int) := wrap_succ (by omega)
  have key : (∀ t ∈ X.take (i + 1), t = []) ↔ (∀ t ∈ X.take i, t = []) ∧ X[i] = [] := by
    rw [List.take_succ_eq_append_getElem hi]
    simp only [List.mem_append, List.mem_singleton]
    exact ⟨fun h => ⟨fun t ht => h t (.inl ht), h _ (.inr rfl)⟩, fun h t ht => ht.elim (h.1 t) (fun e => by rw [e]; exact h.2)⟩
  by_cases hd : ∀ t ∈ X.take i, t = []
  · have := JoinsOut_d_o l p X _ i X[i] (by simpa using hi) (by rw [vsD_len]; omega) (cell_vD hi) (by simp) (inV_d_o l p X i hi (by omega)) hw
    simp only [if_pos hd]
    by_cases he : X[i] = []
    · rw [if_pos he] at this
      simp only [if_pos (key.2 ⟨hd, he⟩)]
      exact this
    · rw [if_neg he] at this
      simp only [if_neg (fun h => he (key.1 h).2)]
      exact this
  · simp only [if_neg hd, if_neg (fun h => hd (key.1 h).1)]
    exact JoinsOut_x_o l p X i X[i] (by simpa using hi) (by rw [vsX_len]; omega) (cell_vX hi) (by simp) (inV_x_o l p X i hi (by omega)) hw
theorem inV_x_l (l : List TLV) (p : List UInt8) (X : List (List UInt8)) (i : Nat) (hi : i < X.length) (hs : X[i].length < 1073741824) : Runs Try.prog T6 116 (Cd.loop [] lp6x0) (sJl0 l p (vsX X) X.length i X[i].length 0) fun x => x = (Ex.exit 2, sJl1 l p (vsX X) X.length i) :=
  Runs.upto (S := fun j => sJl0 l p (vsX X) X.length i X[i].length j) (j := X[i].length) (fun j hj => JoinsIn_next_l l p X i j _ X[i] (by simpa using hj) (by rw [vsX_len]; omega) (cell_vX hi) (get_any hj) (wrap_succ (by omega)) (LeR.of_eq (by rw [vsX_hv]))) (JoinsIn_end_l l p _ i _ _ _ (by simp)) (by simp)
theorem inV_d_l (l : List TLV) (p : List UInt8) (X : List (List UInt8)) (i : Nat) (hi : i < X.length) (hs : X[i].length < 1073741824) : Runs Try.prog T6 116 (Cd.loop [] lp6x0) (sJl0 l p (vsD X) X.length i X[i].length 0) fun x => x = (Ex.exit 2, sJl1 l p (if X[i] = [] then vsD X else vsX X) X.length i) := by
  by_cases he : X[i] = []
  · rw [if_pos he]
    exact Runs.upto (S := fun j => sJl0 l p (vsD X) X.length i X[i].length j) (j := 0) (fun j hj => by omega) (JoinsIn_end_l l p _ i _ _ _ (by simp [he])) (by simp)
  · rw [if_neg he]
    have hpos : 0 < X[i].length := List.length_pos_iff.2 he
    refine Runs.upto (S := fun j => sJl0 l p (if j = 0 then vsD X else vsX X) X.length i X[i].length j) (j := X[i].length) (fun j hj => ?_) ?_ (by simp)
    · rw [if_neg (by omega : ¬ j + 1 = 0)]
      by_cases hj0 : j = 0
      · subst hj0
        rw [if_pos rfl]
        exact JoinsIn_first_l l p X i 0 _ X[i] X[i][0] (by simpa using hpos) (by rw [vsD_len]; omega) (cell_vD hi) (get_bA hpos) (wrap_succ (by omega)) (LeR.of_eq (by rw [vsD_hv]))
      · rw [if_neg hj0]
        exact JoinsIn_next_l l p X i j _ X[i] (by simpa using hj) (by rw [vsX_len]; omega) (cell_vX hi) (get_any hj) (wrap_succ (by omega)) (LeR.of_eq (by rw [vsX_hv]))
    · rw [if_neg (by omega)]
      exact JoinsIn_end_l l p _ i _ _ _ (by simp)
theorem outV_l (l : List TLV) (p : List UInt8) (X : List (List UInt8)) (hs : X.length < 1073741824) (hv : ∀ v ∈ X, v.length < 1073741824) : Runs Try.prog T6 116 (Cd.loop [] lp6x1) (sJl1 l p (vsD X) X.length 0) fun x => x = (Ex.exit 0, sJl2 l p) := by
  refine Runs.upto (S := fun i => sJl1 l p (if ∀ t ∈ X.take i, t = [] then vsD X else vsX X) X.length i) (j := X.length) (fun i hi => ?_) (JoinsOut_end_l l p _ _ _ (by simp)) (by simp)
  have h2 := hv X[i] (List.getElem_mem _)
  have hw : IntKind.i64.wrap ((i : Int) + 1) = ((i + 1 : Nat) : Int) := wrap_succ (by omega)
  have key : (∀ t ∈ X.take (i + 1), t = []) ↔ (∀ t ∈ X.take i, t = []) ∧ X[i] = [] := by
    rw [List.take_succ_eq_append_getElem hi]
    simp only [List.mem_append, List.mem_singleton]
    exact ⟨fun h => ⟨fun t ht => h t (.inl ht), h _ (.inr rfl)⟩, fun h t ht => ht.elim (h.1 t) (fun e => by rw [e]; exact h.2)⟩
  by_cases hd : ∀ t ∈ X.take i, t = []
  · have := JoinsOut_d_l l p X _ i X[i] (by simpa using hi) (by rw [vsD_len]; omega) (cell_vD hi) (by simp) (inV_d_l l p X i hi (by omega)) hw
    simp only [if_pos hd]
    by_cases he : X[i] = []
    · rw [if_pos he] at this
      simp only [if_pos (key.2 ⟨hd, he⟩)]
      exact this
    · rw [if_neg he] at this
      simp only [if_neg (fun h => he (key.1 h).2)]
      exact this
  · simp only [if_neg hd, if_neg (fun h => hd (key.1 h).1)]
    exact JoinsOut_x_l l p X i X[i] (by simpa using hi) (by rw [vsX_len]; omega) (cell_vX hi) (by simp) (inV_x_l l p X i hi (by omega)) hw
theorem m77_uL (l : List TLV) : undeep.uL (tsD l ++ [m77]) = tsF l ++ [m77] := by rw [uL_app, tsD_uL]; rfl
theorem m77_cut (l : List TLV) (b : Bool) : AV.sl true (false || !(tsF l ++ [m77]).isEmpty) 2 (List.drop 0 (List.take (tsS l).length (tsF l ++ [m77]))) = AV.sl true true 2 (tsF l) := by
  rw [tsS_len, ← tsF_len l, List.take_left]
  simp
theorem Joins_ok' (l : List TLV) (k : UInt8) (hS : Small l) : FnOk Try.prog 6 [slT l, bA k] (.bool true) := by
  have hla := ofK_len l k
  have hl := hS.1
  have cA : FnW Try.prog 7 [] [] (AV.bool true) := ⟨.refl, awake_ok⟩
  have cT : FnW Try.prog 9 [AV.sl false false 2 (stale.sL (tsS l))] [slT l] (AV.own true 2 (tsF l)) := .of (.cons (.sl_eq (by simp)) .nil) (Twin_ok l hS)
  have h4 : ((deepen.dL (tsF l)).length + 1) * 32 ≤ 140737488355328 := by simp; omega
  have h5 : AV.own true 2 (deepen.dL (tsF l) ++ [AV.agg [AV.int IntKind.u8 77, AV.nils]]) = AV.own true 2 (tsD l ++ [m77]) := by rw [tsF_dL]
  have h6 : ((tsS l).length : Int) ≤ ((undeep.uL (tsD l ++ [m77])).length : Int) := by rw [m77_uL]; simp; omega
  have h7 : AV.own false 2 (undeep.uL (tsD l ++ [m77])) = AV.own false 2 (tsF l ++ [m77]) := by rw [m77_uL]
  have h8 : AV.sl true (false || !(undeep.uL (tsD l ++ [m77])).isEmpty) 2 (List.drop 0 (List.take (tsS l).length (undeep.uL (tsD l ++ [m77])))) = AV.sl true true 2 (tsF l) := by rw [m77_uL]; exact m77_cut l true
  have c15 : FnW Try.prog 15 [AV.sl false true 2 (stale.sL (tsF l))] [slT l] (joinS l) := .of (.cons (.sl_eq (by simp)) .nil) (Join_ok' l hS)
  have c19 : FnW Try.prog 19 [AV.sl false false 2 (stale.sL (tsS l))] [slT l] (joinS l) := .of (.cons (.sl_eq (by simp)) .nil) (DJoin_ok' l hS)
  have h13 : ((tsS l).length : Int) ≤ ((tsF l ++ [m77]).length : Int) := by simp; omega
  have h14 := m77_cut l true
  have c8 : FnW Try.prog 8 [AV.sl false true 2 (stale.sL (tsF l)), AV.int IntKind.u8 (k.toNat : Int)] [slT l, bA k] (AV.own true 1 (vsF (ofK l k))) := .of (.cons (.sl_eq (by simp)) (.cons .refl .nil)) (Of_ok l k hS)
  have c20 : FnW Try.prog 20 [AV.sl false false 2 (stale.sL (tsS l)), AV.int IntKind.u8 (k.toNat : Int)] [slT l, bA k] (AV.own true 1 (vsS (ofK l k))) := .of (.cons (.sl_eq (by simp)) (.cons .refl .nil)) (ROf_ok l k hS)
  have hX : ∀ v ∈ ofK l k, v.length < 1073741824 := fun v hv => by
    obtain ⟨t, ht, e⟩ := ofK_mem hv
    rw [← e]
    exact hS.2 t ht
  have c10 : FnW Try.prog 10 [AV.sl false false 1 (stale.sL (undeep.uL (vsD (ofK l k)))), AV.sl false false 1 (stale.sL (undeep.uL (vsS (ofK l k))))] [slV (ofK l k), slV (ofK l k)] (AV.bool true) :=
    .of (.cons (.sl_eq (by simp)) (.cons (.sl_eq (by simp)) .nil)) (by have := SameValues_ok (ofK l k) (ofK l k) (by omega) hX; rwa [decide_eq_true rfl] at this)
  have c14 : FnW Try.prog 14 [AV.sl false true 2 (stale.sL (tsF l)), AV.sl false false 2 (stale.sL (tsS l))] [slT l, slT l] (AV.bool true) := .of (.cons (.sl_eq (by simp)) (.cons (.sl_eq (by simp)) .nil)) (by have := Same_ok l l hS; rwa [decide_eq_true rfl] at this)
  have h25 : (tsF l ++ [m77])[(tsS l).length]? = some m77 := by rw [tsS_len, ← tsF_len l]; simp
  have o := outV_o l (enc l) (ofK l k) (by omega) hX
  have o' := outV_l l (enc l) (ofK l k) (by omega) hX
  have fT : freshA (AV.own true 2 (tsF l)) = true := by simp [freshA]
  unfold joinS at c15 c19
  have fX : ofK l k ≠ [] → freshA (AV.own true 1 (vsS (ofK l k))) = false := by
    intro h
    cases hx : ofK l k with
    | nil => exact absurd hx h
    | cons v r => rfl
  by_cases hf : fits l
  · rw [if_pos hf] at c15 c19
    have cB : FnW Try.prog 16 [AV.sl false false 1 (stale.sL (undeep.uL (bsA (enc l)))), AV.sl false false 1 (stale.sL (undeep.uL (bsA (enc l))))] [slB (enc l), slB (enc l)] (AV.bool true) := .of (.cons (.sl_eq (by simp)) (.cons (.sl_eq (by simp)) .nil)) (by have := SameBytes_ok (enc l) (enc l) (by have := hf.2; omega); rwa [decide_eq_true rfl] at this)
    have c12 : FnW Try.prog 12 [AV.sl false false 1 (stale.sL (undeep.uL (bsA (enc l))))] [slB (enc l)] (AV.tup [AV.own true 2 (tsF l), ni 0]) := by
      have h := Split_ok' (enc l)
      unfold splitS at h
      rw [if_neg (by have := hf.2; omega), enc_parse l hf.1] at h
      exact .of (.cons (.sl_eq (by simp)) .nil) h
    have c14' : FnW Try.prog 14 [AV.sl false false 2 (stale.sL (undeep.uL (tsD l))), AV.sl false false 2 (stale.sL (tsS l))] [slT l, slT l] (AV.bool true) := .of (.cons (.sl_eq (by simp)) (.cons (.sl_eq (by simp)) .nil)) c14.2
    have fB : freshA (AV.tup [AV.own true 1 (bsA (enc l)), ni 0]) = true := by simp [freshA, freshA.freshL]
    have fS : freshA (AV.tup [AV.own true 2 (tsF l), ni 0]) = true := by simp [freshA, freshA.freshL]
    by_cases hx : ofK l k = []
    · rw [hx] at c8 c20 c10 o
      exact Joins_o0 l (enc l) k cA cT fT h4 h5 h6 h7 h8 c15 fB (deepT_bs _ 0) c19 h13 h14 c8 c20 c10 o cB c14 h25 c12 fS (deepT_ts l 0) c14'
    · exact Joins_o1 l (enc l) (ofK l k) k cA cT fT h4 h5 h6 h7 h8 c15 fB (deepT_bs _ 0) c19 h13 h14 c8 (by simp [freshA]) (by rw [vsF_dL]) c20 (fX hx) c10 (LeR.of_eq (by simp)) o cB c14 h25 c12 fS (deepT_ts l 0) c14'
  · rw [if_neg hf] at c15 c19
    have cB : FnW Try.prog 16 [AV.nils, AV.nils] [slB [], slB []] (AV.bool true) := .of (.cons .nils (.cons .nils .nil)) (by have := SameBytes_ok [] [] (by simp); rwa [decide_eq_true rfl] at this)
    by_cases hx : ofK l k = []
    · rw [hx] at c8 c20 c10 o'
      exact Joins_l0 l (enc l) k cA cT fT h4 h5 h6 h7 h8 c15 c19 h13 h14 c8 c20 c10 o' cB c14 h25
    · exact Joins_l1 l (enc l) (ofK l k) k cA cT fT h4 h5 h6 h7 h8 c15 c19 h13 h14 c8 (by simp [freshA]) (by rw [vsF_dL]) c20 (fX hx) c10 (LeR.of_eq (by simp)) o' cB c14 h25
end Go.Ev

/-! text T6 -/
set_option linter.unusedVariables false
namespace Go.Ev
open Go.Proofs (Try.prog)
/-- An element: 'f': of new memory? -/
def tG (f : Bool) (t : TLV) : AV := .agg [bA t.1, .sl f false 1 (bsA t.2)]
abbrev sPfs (L : List AV) (o : List TLV) (n bo sz i c : Nat) : List AV := st 131 [(13, ni c), (14, .own true 2 (tsD o)), (15, ni 0), (16, ni bo), (17, ni sz), (91, .own true 2 L), (92, ni n), (93, ni i)]
abbrev sPns (L : List AV) (o : List TLV) (n bo sz i c : Nat) : List AV := st 131 [(13, ni c), (14, .own true 2 (tsD o)), (15, ni 0), (16, ni bo), (17, ni sz), (91, .own false 2 L), (92, ni n), (93, ni i)]
abbrev sPes (o : List TLV) (bo sz c : Nat) : List AV := st 131 [(13, ni c), (14, .own true 2 (tsD o)), (15, ni 0), (16, ni bo), (17, ni sz)]
abbrev sPfn (L : List AV) (o : List TLV) (n bo sz i c : Nat) : List AV := st 131 [(13, ni c), (14, .nils), (15, ni 3), (16, ni bo), (17, ni sz), (91, .own true 2 L), (92, ni n), (93, ni i)]
abbrev sPnn (L : List AV) (o : List TLV) (n bo sz i c : Nat) : List AV := st 131 [(13, ni c), (14, .nils), (15, ni 3), (16, ni bo), (17, ni sz), (91, .own false 2 L), (92, ni n), (93, ni i)]
abbrev sPen (o : List TLV) (bo sz c : Nat) : List AV := st 131 [(13, ni c), (14, .nils), (15, ni 3), (16, ni bo), (17, ni sz)]
end Go.Ev

/-! text W6 -/
set_option linter.unusedVariables false
namespace Go.Ev
open Go.Proofs (Try.prog)
theorem Parts_firstD_sle (L : List AV) (o : List TLV) (n bo sz i c : Nat) (t : TLV)
    (h1 : decide ((↑i : Int) < (↑n : Int)) = true)
    (h2 : (↑i : Int) < (↑L.length : Int))
    (h3 : i * (2 : Nat) % (2 : Nat) = (0 : Nat))
    (h4 : L[i * (2 : Nat) / (2 : Nat)]? = some (tD t))
    (h5 : AV.agg [AV.int IntKind.u8 (↑t.fst.toNat : Int), AV.sl true false (1 : Nat) (undeep.uL (bsA t.snd))] = AV.agg [bA t.fst, AV.sl true false (1 : Nat) (bsA t.snd)])
    (h6 : decide ((↑sz : Int) ≤ (↑c : Int)) = true)
    (h7 : IntKind.i64.wrap ((↑sz : Int) + IntKind.i64.wrap ((2 : Int) + (↑(bsA t.snd).length : Int))) = (↑(sz + ((2 : Nat) + t.snd.length)) : Int))
    (h8 : IntKind.i64.wrap ((↑i : Int) + (1 : Int)) = (↑(i + (1 : Nat)) : Int)) :
    WayR Try.prog T5 131 lp5x0 [(94, .b true), (95, .q), (96, .v (tD t)), (96, .n (tG true t)), (99, .b true), (106, .i (sz + (2 + t.2.length) : Nat)), (107, .i (i + 1 : Nat))] (sPfs L o n bo sz i c) .normal (sPns (undeep.uL L) o n sz (sz + (2 + t.2.length)) (i + 1) c) :=
  runs_of_pr hfol (show prR Try.prog T5 131 lp5x0 [(94, .b true), (95, .q), (96, .v (tD t)), (96, .n (tG true t)), (99, .b true), (106, .i (sz + (2 + t.2.length) : Nat)), (107, .i (i + 1 : Nat))] (sPfs L o n bo sz i c) .normal (sPns (undeep.uL L) o n sz (sz + (2 + t.2.length)) (i + 1) c) = some _ by kernel_rfl) (AllP.c h1 (AllP.c (show (0 : Int) ≤ (↑i : Int) from Int.natCast_nonneg _) (AllP.c h2 (AllP.c h3 (AllP.c h4 (AllP.c h5 (AllP.c h6 (AllP.c h7 (AllP.c h8 (AllP.c (LeR.refl (x := AV.int IntKind.i64 (↑c : Int))) (AllP.c (LeR.refl (x := AV.own true (2 : Nat) (tsD o))) (AllP.c (LeR.refl (x := AV.int IntKind.i64 (↑(0 : Nat) : Int))) (AllP.c (LeR.refl (x := AV.int IntKind.i64 (↑sz : Int))) (AllP.c (LeR.refl (x := AV.int IntKind.i64 (↑(sz + ((2 : Nat) + t.snd.length)) : Int))) (AllP.c (LeR.refl (x := AV.own false (2 : Nat) (undeep.uL L))) (AllP.c (LeR.refl (x := AV.int IntKind.i64 (↑n : Int))) (AllP.c (LeR.refl (x := AV.int IntKind.i64 (↑(i + (1 : Nat)) : Int))) (AllP.c (LeR.refl (x := AV.mem [])) AllP.n))))))))))))))))))
theorem Parts_firstS_sle (L : List AV) (o : List TLV) (n bo sz i c : Nat) (t : TLV)
    (h1 : decide ((↑i : Int) < (↑n : Int)) = true)
    (h2 : (↑i : Int) < (↑L.length : Int))
    (h3 : i * (2 : Nat) % (2 : Nat) = (0 : Nat))
    (h4 : L[i * (2 : Nat) / (2 : Nat)]? = some (tS t))
    (h5 : AV.agg [AV.int IntKind.u8 (↑t.fst.toNat : Int), AV.sl false false (1 : Nat) (undeep.uL (bsA t.snd))] = AV.agg [bA t.fst, AV.sl false false (1 : Nat) (bsA t.snd)])
    (h6 : decide ((↑sz : Int) ≤ (↑c : Int)) = true)
    (h7 : IntKind.i64.wrap ((↑sz : Int) + IntKind.i64.wrap ((2 : Int) + (↑(bsA t.snd).length : Int))) = (↑(sz + ((2 : Nat) + t.snd.length)) : Int))
    (h8 : IntKind.i64.wrap ((↑i : Int) + (1 : Int)) = (↑(i + (1 : Nat)) : Int)) :
    WayR Try.prog T5 131 lp5x0 [(94, .b true), (95, .q), (96, .v (tS t)), (96, .n (tG false t)), (99, .b true), (106, .i (sz + (2 + t.2.length) : Nat)), (107, .i (i + 1 : Nat))] (sPfs L o n bo sz i c) .normal (sPns (undeep.uL L) o n sz (sz + (2 + t.2.length)) (i + 1) c) :=
  runs_of_pr hfol (show prR Try.prog T5 131 lp5x0 [(94, .b true), (95, .q), (96, .v (tS t)), (96, .n (tG false t)), (99, .b true), (106, .i (sz + (2 + t.2.length) : Nat)), (107, .i (i + 1 : Nat))] (sPfs L o n bo sz i c) .normal (sPns (undeep.uL L) o n sz (sz + (2 + t.2.length)) (i + 1) c) = some _ by kernel_rfl) (AllP.c h1 (AllP.c (show (0 : Int) ≤ (↑i : Int) from Int.natCast_nonneg _) (AllP.c h2 (AllP.c h3 (AllP.c h4 (AllP.c h5 (AllP.c h6 (AllP.c h7 (AllP.c h8 (AllP.c (LeR.refl (x := AV.int IntKind.i64 (↑c : Int))) (AllP.c (LeR.refl (x := AV.own true (2 : Nat) (tsD o))) (AllP.c (LeR.refl (x := AV.int IntKind.i64 (↑(0 : Nat) : Int))) (AllP.c (LeR.refl (x := AV.int IntKind.i64 (↑sz : Int))) (AllP.c (LeR.refl (x := AV.int IntKind.i64 (↑(sz + ((2 : Nat) + t.snd.length)) : Int))) (AllP.c (LeR.refl (x := AV.own false (2 : Nat) (undeep.uL L))) (AllP.c (LeR.refl (x := AV.int IntKind.i64 (↑n : Int))) (AllP.c (LeR.refl (x := AV.int IntKind.i64 (↑(i + (1 : Nat)) : Int))) (AllP.c (LeR.refl (x := AV.mem [])) AllP.n))))))))))))))))))
theorem Parts_next_sle (L : List AV) (o : List TLV) (n bo sz i c : Nat) (t : TLV) (f : Bool)
    (h1 : decide ((↑i : Int) < (↑n : Int)) = true)
    (h2 : L[i]? = some (tG f t))
    (h3 : decide ((↑sz : Int) ≤ (↑c : Int)) = true)
    (h4 : IntKind.i64.wrap ((↑sz : Int) + IntKind.i64.wrap ((2 : Int) + (↑(bsA t.snd).length : Int))) = (↑(sz + ((2 : Nat) + t.snd.length)) : Int))
    (h5 : IntKind.i64.wrap ((↑i : Int) + (1 : Int)) = (↑(i + (1 : Nat)) : Int)) :
    WayR Try.prog T5 131 lp5x0 [(94, .b true), (95, .v (tG f t)), (99, .b true), (106, .i (sz + (2 + t.2.length) : Nat)), (107, .i (i + 1 : Nat))] (sPns L o n bo sz i c) .normal (sPns L o n sz (sz + (2 + t.2.length)) (i + 1) c) :=
  runs_of_pr hfol (show prR Try.prog T5 131 lp5x0 [(94, .b true), (95, .v (tG f t)), (99, .b true), (106, .i (sz + (2 + t.2.length) : Nat)), (107, .i (i + 1 : Nat))] (sPns L o n bo sz i c) .normal (sPns L o n sz (sz + (2 + t.2.length)) (i + 1) c) = some _ by kernel_rfl) (AllP.c h1 (AllP.c (show (0 : Int) ≤ (↑i : Int) from Int.natCast_nonneg _) (AllP.c h2 (AllP.c h3 (AllP.c h4 (AllP.c h5 (AllP.c (LeR.refl (x := AV.int IntKind.i64 (↑c : Int))) (AllP.c (LeR.refl (x := AV.own true (2 : Nat) (tsD o))) (AllP.c (LeR.refl (x := AV.int IntKind.i64 (↑(0 : Nat) : Int))) (AllP.c (LeR.refl (x := AV.int IntKind.i64 (↑sz : Int))) (AllP.c (LeR.refl (x := AV.int IntKind.i64 (↑(sz + ((2 : Nat) + t.snd.length)) : Int))) (AllP.c (LeR.refl (x := AV.own false (2 : Nat) L)) (AllP.c (LeR.refl (x := AV.int IntKind.i64 (↑n : Int))) (AllP.c (LeR.refl (x := AV.int IntKind.i64 (↑(i + (1 : Nat)) : Int))) (AllP.c (LeR.refl (x := AV.mem [])) AllP.n)))))))))))))))
theorem Parts_firstD_sgt (L : List AV) (o : List TLV) (n bo sz i c : Nat) (t : TLV)
    (h1 : decide ((↑i : Int) < (↑n : Int)) = true)
    (h2 : (↑i : Int) < (↑L.length : Int))
    (h3 : i * (2 : Nat) % (2 : Nat) = (0 : Nat))
    (h4 : L[i * (2 : Nat) / (2 : Nat)]? = some (tD t))
    (h5 : AV.agg [AV.int IntKind.u8 (↑t.fst.toNat : Int), AV.sl true false (1 : Nat) (undeep.uL (bsA t.snd))] = AV.agg [bA t.fst, AV.sl true false (1 : Nat) (bsA t.snd)])
    (h6 : decide ((↑sz : Int) ≤ (↑c : Int)) = false)
    (h7 : IntKind.i64.wrap ((↑sz : Int) + IntKind.i64.wrap ((2 : Int) + (↑(bsA t.snd).length : Int))) = (↑(sz + ((2 : Nat) + t.snd.length)) : Int))
    (h8 : IntKind.i64.wrap ((↑i : Int) + (1 : Int)) = (↑(i + (1 : Nat)) : Int)) :
    WayR Try.prog T5 131 lp5x0 [(94, .b true), (95, .q), (96, .v (tD t)), (96, .n (tG true t)), (99, .b false), (106, .i (sz + (2 + t.2.length) : Nat)), (107, .i (i + 1 : Nat))] (sPfs L o n bo sz i c) .normal (sPns (undeep.uL L) o n bo (sz + (2 + t.2.length)) (i + 1) c) :=
  runs_of_pr hfol (show prR Try.prog T5 131 lp5x0 [(94, .b true), (95, .q), (96, .v (tD t)), (96, .n (tG true t)), (99, .b false), (106, .i (sz + (2 + t.2.length) : Nat)), (107, .i (i + 1 : Nat))] (sPfs L o n bo sz i c) .normal (sPns (undeep.uL L) o n bo (sz + (2 + t.2.length)) (i + 1) c) = some _ by kernel_rfl) (AllP.c h1 (AllP.c (show (0 : Int) ≤ (↑i : Int) from Int.natCast_nonneg _) (AllP.c h2 (AllP.c h3 (AllP.c h4 (AllP.c h5 (AllP.c h6 (AllP.c h7 (AllP.c h8 (AllP.c (LeR.refl (x := AV.int IntKind.i64 (↑c : Int))) (AllP.c (LeR.refl (x := AV.own true (2 : Nat) (tsD o))) (AllP.c (LeR.refl (x := AV.int IntKind.i64 (↑(0 : Nat) : Int))) (AllP.c (LeR.refl (x := AV.int IntKind.i64 (↑bo : Int))) (AllP.c (LeR.refl (x := AV.int IntKind.i64 (↑(sz + ((2 : Nat) + t.snd.length)) : Int))) (AllP.c (LeR.refl (x := AV.own false (2 : Nat) (undeep.uL L))) (AllP.c (LeR.refl (x := AV.int IntKind.i64 (↑n : Int))) (AllP.c (LeR.refl (x := AV.int IntKind.i64 (↑(i + (1 : Nat)) : Int))) (AllP.c (LeR.refl (x := AV.mem [])) AllP.n))))))))))))))))))
theorem Parts_firstS_sgt (L : List AV) (o : List TLV) (n bo sz i c : Nat) (t : TLV)
    (h1 : decide ((↑i : Int) < (↑n : Int)) = true)
    (h2 : (↑i : Int) < (↑L.length : Int))
    (h3 : i * (2 : Nat) % (2 : Nat) = (0 : Nat))
    (h4 : L[i * (2 : Nat) / (2 : Nat)]? = some (tS t))
    (h5 : AV.agg [AV.int IntKind.u8 (↑t.fst.toNat : Int), AV.sl false false (1 : Nat) (undeep.uL (bsA t.snd))] = AV.agg [bA t.fst, AV.sl false false (1 : Nat) (bsA t.snd)])
    (h6 : decide ((↑sz : Int) ≤ (↑c : Int)) = false)
    (h7 : IntKind.i64.wrap ((↑sz : Int) + IntKind.i64.wrap ((2 : Int) + (↑(bsA t.snd).length : Int))) = (↑(sz + ((2 : Nat) + t.snd.length)) : Int))
    (h8 : IntKind.i64.wrap ((↑i : Int) + (1 : Int)) = (↑(i + (1 : Nat)) : Int)) :
    WayR Try.prog T5 131 lp5x0 [(94, .b true), (95, .q), (96, .v (tS t)), (96, .n (tG false t)), (99, .b false), (106, .i (sz + (2 + t.2.length) : Nat)), (107, .i (i + 1 : Nat))] (sPfs L o n bo sz i c) .normal (sPns (undeep.uL L) o n bo (sz + (2 + t.2.length)) (i + 1) c) :=
  runs_of_pr hfol (show prR Try.prog T5 131 lp5x0 [(94, .b true), (95, .q), (96, .v (tS t)), (96, .n (tG false t)), (99, .b false), (106, .i (sz + (2 + t.2.length) : Nat)), (107, .i (i + 1 : Nat))] (sPfs L o n bo sz i c) .normal (sPns (undeep.uL L) o n bo (sz + (2 + t.2.length)) (i + 1) c) = some _ by kernel_rfl) (AllP.c h1 (AllP.c (show (0 : Int) ≤ (↑i : Int) from Int.natCast_nonneg _) (AllP.c h2 (AllP.c h3 (AllP.c h4 (AllP.c h5 (AllP.c h6 (AllP.c h7 (AllP.c h8 (AllP.c (LeR.refl (x := AV.int IntKind.i64 (↑c : Int))) (AllP.c (LeR.refl (x := AV.own true (2 : Nat) (tsD o))) (AllP.c (LeR.refl (x := AV.int IntKind.i64 (↑(0 : Nat) : Int))) (AllP.c (LeR.refl (x := AV.int IntKind.i64 (↑bo : Int))) (AllP.c (LeR.refl (x := AV.int IntKind.i64 (↑(sz + ((2 : Nat) + t.snd.length)) : Int))) (AllP.c (LeR.refl (x := AV.own false (2 : Nat) (undeep.uL L))) (AllP.c (LeR.refl (x := AV.int IntKind.i64 (↑n : Int))) (AllP.c (LeR.refl (x := AV.int IntKind.i64 (↑(i + (1 : Nat)) : Int))) (AllP.c (LeR.refl (x := AV.mem [])) AllP.n))))))))))))))))))
theorem Parts_next_sgt (L : List AV) (o : List TLV) (n bo sz i c : Nat) (t : TLV) (f : Bool)
    (h1 : decide ((↑i : Int) < (↑n : Int)) = true)
    (h2 : L[i]? = some (tG f t))
    (h3 : decide ((↑sz : Int) ≤ (↑c : Int)) = false)
    (h4 : IntKind.i64.wrap ((↑sz : Int) + IntKind.i64.wrap ((2 : Int) + (↑(bsA t.snd).length : Int))) = (↑(sz + ((2 : Nat) + t.snd.length)) : Int))
    (h5 : IntKind.i64.wrap ((↑i : Int) + (1 : Int)) = (↑(i + (1 : Nat)) : Int)) :
    WayR Try.prog T5 131 lp5x0 [(94, .b true), (95, .v (tG f t)), (99, .b false), (106, .i (sz + (2 + t.2.length) : Nat)), (107, .i (i + 1 : Nat))] (sPns L o n bo sz i c) .normal (sPns L o n bo (sz + (2 + t.2.length)) (i + 1) c) :=
  runs_of_pr hfol (show prR Try.prog T5 131 lp5x0 [(94, .b true), (95, .v (tG f t)), (99, .b false), (106, .i (sz + (2 + t.2.length) : Nat)), (107, .i (i + 1 : Nat))] (sPns L o n bo sz i c) .normal (sPns L o n bo (sz + (2 + t.2.length)) (i + 1) c) = some _ by kernel_rfl) (AllP.c h1 (AllP.c (show (0 : Int) ≤ (↑i : Int) from Int.natCast_nonneg _) (AllP.c h2 (AllP.c h3 (AllP.c h4 (AllP.c h5 (AllP.c (LeR.refl (x := AV.int IntKind.i64 (↑c : Int))) (AllP.c (LeR.refl (x := AV.own true (2 : Nat) (tsD o))) (AllP.c (LeR.refl (x := AV.int IntKind.i64 (↑(0 : Nat) : Int))) (AllP.c (LeR.refl (x := AV.int IntKind.i64 (↑bo : Int))) (AllP.c (LeR.refl (x := AV.int IntKind.i64 (↑(sz + ((2 : Nat) + t.snd.length)) : Int))) (AllP.c (LeR.refl (x := AV.own false (2 : Nat) L)) (AllP.c (LeR.refl (x := AV.int IntKind.i64 (↑n : Int))) (AllP.c (LeR.refl (x := AV.int IntKind.i64 (↑(i + (1 : Nat)) : Int))) (AllP.c (LeR.refl (x := AV.mem [])) AllP.n)))))))))))))))
theorem Parts_endf_s (L : List AV) (o : List TLV) (n bo sz i c : Nat)
    (h1 : decide ((↑i : Int) < (↑n : Int)) = false) :
    WayR Try.prog T5 131 lp5x0 [(94, .b false)] (sPfs L o n bo sz i c) (.exit 0) (sPes o bo sz c) :=
  runs_of_pr hfol (show prR Try.prog T5 131 lp5x0 [(94, .b false)] (sPfs L o n bo sz i c) (.exit 0) (sPes o bo sz c) = some _ by kernel_rfl) (AllP.c h1 (AllP.c (LeR.refl (x := AV.int IntKind.i64 (↑c : Int))) (AllP.c (LeR.refl (x := AV.own true (2 : Nat) (tsD o))) (AllP.c (LeR.refl (x := AV.int IntKind.i64 (↑(0 : Nat) : Int))) (AllP.c (LeR.refl (x := AV.int IntKind.i64 (↑bo : Int))) (AllP.c (LeR.refl (x := AV.int IntKind.i64 (↑sz : Int))) (AllP.c (LeR.refl (x := AV.mem [])) AllP.n)))))))
theorem Parts_endn_s (L : List AV) (o : List TLV) (n bo sz i c : Nat)
    (h1 : decide ((↑i : Int) < (↑n : Int)) = false) :
    WayR Try.prog T5 131 lp5x0 [(94, .b false)] (sPns L o n bo sz i c) (.exit 0) (sPes o bo sz c) :=
  runs_of_pr hfol (show prR Try.prog T5 131 lp5x0 [(94, .b false)] (sPns L o n bo sz i c) (.exit 0) (sPes o bo sz c) = some _ by kernel_rfl) (AllP.c h1 (AllP.c (LeR.refl (x := AV.int IntKind.i64 (↑c : Int))) (AllP.c (LeR.refl (x := AV.own true (2 : Nat) (tsD o))) (AllP.c (LeR.refl (x := AV.int IntKind.i64 (↑(0 : Nat) : Int))) (AllP.c (LeR.refl (x := AV.int IntKind.i64 (↑bo : Int))) (AllP.c (LeR.refl (x := AV.int IntKind.i64 (↑sz : Int))) (AllP.c (LeR.refl (x := AV.mem [])) AllP.n)))))))
theorem Parts_firstD_nle (L : List AV) (o : List TLV) (n bo sz i c : Nat) (t : TLV)
    (h1 : decide ((↑i : Int) < (↑n : Int)) = true)
    (h2 : (↑i : Int) < (↑L.length : Int))
    (h3 : i * (2 : Nat) % (2 : Nat) = (0 : Nat))
    (h4 : L[i * (2 : Nat) / (2 : Nat)]? = some (tD t))
    (h5 : AV.agg [AV.int IntKind.u8 (↑t.fst.toNat : Int), AV.sl true false (1 : Nat) (undeep.uL (bsA t.snd))] = AV.agg [bA t.fst, AV.sl true false (1 : Nat) (bsA t.snd)])
    (h6 : decide ((↑sz : Int) ≤ (↑c : Int)) = true)
    (h7 : IntKind.i64.wrap ((↑sz : Int) + IntKind.i64.wrap ((2 : Int) + (↑(bsA t.snd).length : Int))) = (↑(sz + ((2 : Nat) + t.snd.length)) : Int))
    (h8 : IntKind.i64.wrap ((↑i : Int) + (1 : Int)) = (↑(i + (1 : Nat)) : Int)) :
    WayR Try.prog T5 131 lp5x0 [(94, .b true), (95, .q), (96, .v (tD t)), (96, .n (tG true t)), (99, .b true), (106, .i (sz + (2 + t.2.length) : Nat)), (107, .i (i + 1 : Nat))] (sPfn L o n bo sz i c) .normal (sPnn (undeep.uL L) o n sz (sz + (2 + t.2.length)) (i + 1) c) :=
  runs_of_pr hfol (show prR Try.prog T5 131 lp5x0 [(94, .b true), (95, .q), (96, .v (tD t)), (96, .n (tG true t)), (99, .b true), (106, .i (sz + (2 + t.2.length) : Nat)), (107, .i (i + 1 : Nat))] (sPfn L o n bo sz i c) .normal (sPnn (undeep.uL L) o n sz (sz + (2 + t.2.length)) (i + 1) c) = some _ by kernel_rfl) (AllP.c h1 (AllP.c (show (0 : Int) ≤ (↑i : Int) from Int.natCast_nonneg _) (AllP.c h2 (AllP.c h3 (AllP.c h4 (AllP.c h5 (AllP.c h6 (AllP.c h7 (AllP.c h8 (AllP.c (LeR.refl (x := AV.int IntKind.i64 (↑c : Int))) (AllP.c (LeR.refl (x := AV.nils)) (AllP.c (LeR.refl (x := AV.int IntKind.i64 (↑(3 : Nat) : Int))) (AllP.c (LeR.refl (x := AV.int IntKind.i64 (↑sz : Int))) (AllP.c (LeR.refl (x := AV.int IntKind.i64 (↑(sz + ((2 : Nat) + t.snd.length)) : Int))) (AllP.c (LeR.refl (x := AV.own false (2 : Nat) (undeep.uL L))) (AllP.c (LeR.refl (x := AV.int IntKind.i64 (↑n : Int))) (AllP.c (LeR.refl (x := AV.int IntKind.i64 (↑(i + (1 : Nat)) : Int))) (AllP.c (LeR.refl (x := AV.mem [])) AllP.n))))))))))))))))))
theorem Parts_firstS_nle (L : List AV) (o : List TLV) (n bo sz i c : Nat) (t : TLV)
    (h1 : decide ((↑i : Int) < (↑n : Int)) = true)
    (h2 : (↑i : Int) < (↑L.length : Int))
    (h3 : i * (2 : Nat) % (2 : Nat) = (0 : Nat))
    (h4 : L[i * (2 : Nat) / (2 : Nat)]? = some (tS t))
    (h5 : AV.agg [AV.int IntKind.u8 (↑t.fst.toNat : Int), AV.sl false false (1 : Nat) (undeep.uL (bsA t.snd))] = AV.agg [bA t.fst, AV.sl false false (1 : Nat) (bsA t.snd)])
    (h6 : decide ((↑sz : Int) ≤ (↑c : Int)) = true)
    (h7 : IntKind.i64.wrap ((↑sz : Int) + IntKind.i64.wrap ((2 : Int) + (↑(bsA t.snd).length : Int))) = (↑(sz + ((2 : Nat) + t.snd.length)) : Int))
    (h8 : IntKind.i64.wrap ((↑i : Int) + (1 : Int)) = (↑(i + (1 : Nat)) : Int)) :
    WayR Try.prog T5 131 lp5x0 [(94, .b true), (95, .q), (96, .v (tS t)), (96, .n (tG false t)), (99, .b true), (106, .i (sz + (2 + t.2.length) : Nat)), (107, .i (i + 1 : Nat))] (sPfn L o n bo sz i c) .normal (sPnn (undeep.uL L) o n sz (sz + (2 + t.2.length)) (i + 1) c) :=
  runs_of_pr hfol (show prR Try.prog T5 131 lp5x0 [(94, .b true), (95, .q), (96, .v (tS t)), (96, .n (tG false t)), (99, .b true), (106, .i (sz + (2 + t.2.length) : Nat)), (107, .i (i + 1 : Nat))] (sPfn L o n bo sz i c) .normal (sPnn (undeep.uL L) o n sz (sz + (2 + t.2.length)) (i + 1) c) = some _ by kernel_rfl) (AllP.c h1 (AllP.c (show (0 : Int) ≤ (↑i : Int) from Int.natCast_nonneg _) (AllP.c h2 (AllP.c h3 (AllP.c h4 (AllP.c h5 (AllP.c h6 (AllP.c h7 (AllP.c h8 (AllP.c (LeR.refl (x := AV.int IntKind.i64 (↑c : Int))) (AllP.c (LeR.refl (x := AV.nils)) (AllP.c (LeR.refl (x := AV.int IntKind.i64 (↑(3 : Nat) : Int))) (AllP.c (LeR.refl (x := AV.int IntKind.i64 (↑sz : Int))) (AllP.c (LeR.refl (x := AV.int IntKind.i64 (↑(sz + ((2 : Nat) + t.snd.length)) : Int))) (AllP.c (LeR.refl (x := AV.own false (2 : Nat) (undeep.uL L))) (AllP.c (LeR.refl (x := AV.int IntKind.i64 (↑n : Int))) (AllP.c (LeR.refl (x := AV.int IntKind.i64 (↑(i + (1 : Nat)) : Int))) (AllP.c (LeR.refl (x := AV.mem [])) AllP.n))))))))))))))))))
theorem Parts_next_nle (L : List AV) (o : List TLV) (n bo sz i c : Nat) (t : TLV) (f : Bool)
    (h1 : decide ((↑i : Int) < (↑n : Int)) = true)
    (h2 : L[i]? = some (tG f t))
    (h3 : decide ((↑sz : Int) ≤ (↑c : Int)) = true)
    (h4 : IntKind.i64.wrap ((↑sz : Int) + IntKind.i64.wrap ((2 : Int) + (↑(bsA t.snd).length : Int))) = (↑(sz + ((2 : Nat) + t.snd.length)) : Int))
    (h5 : IntKind.i64.wrap ((↑i : Int) + (1 : Int)) = (↑(i + (1 : Nat)) : Int)) :
    WayR Try.prog T5 131 lp5x0 [(94, .b true), (95, .v (tG f t)), (99, .b true), (106, .i (sz + (2 + t.2.length) : Nat)), (107, .i (i + 1 : Nat))] (sPnn L o n bo sz i c) .normal (sPnn L o n sz (sz + (2 + t.2.length)) (i + 1) c) :=
  runs_of_pr hfol (show prR Try.prog T5 131 lp5x0 [(94, .b true), (95, .v (tG f t)), (99, .b true), (106, .i (sz + (2 + t.2.length) : Nat)), (107, .i (i + 1 : Nat))] (sPnn L o n bo sz i c) .normal (sPnn L o n sz (sz + (2 + t.2.length)) (i + 1) c) = some _ by kernel_rfl) (AllP.c h1 (AllP.c (show (0 : Int) ≤ (↑i : Int) from Int.natCast_nonneg _) (AllP.c h2 (AllP.c h3 (AllP.c h4 (AllP.c h5 (AllP.c (LeR.refl (x := AV.int IntKind.i64 (↑c : Int))) (AllP.c (LeR.refl (x := AV.nils)) (AllP.c (LeR.refl (x := AV.int IntKind.i64 (↑(3 : Nat) : Int))) (AllP.c (LeR.refl (x := AV.int IntKind.i64 (↑sz : Int))) (AllP.c (LeR.refl (x := AV.int IntKind.i64 (↑(sz + ((2 : Nat) + t.snd.length)) : Int))) (AllP.c (LeR.refl (x := AV.own false (2 : Nat) L)) (AllP.c (LeR.refl (x := AV.int IntKind.i64 (↑n : Int))) (AllP.c (LeR.refl (x := AV.int IntKind.i64 (↑(i + (1 : Nat)) : Int))) (AllP.c (LeR.refl (x := AV.mem [])) AllP.n)))))))))))))))
theorem Parts_firstD_ngt (L : List AV) (o : List TLV) (n bo sz i c : Nat) (t : TLV)
    (h1 : decide ((↑i : Int) < (↑n : Int)) = true)
    (h2 : (↑i : Int) < (↑L.length : Int))
    (h3 : i * (2 : Nat) % (2 : Nat) = (0 : Nat))
    (h4 : L[i * (2 : Nat) / (2 : Nat)]? = some (tD t))
    (h5 : AV.agg [AV.int IntKind.u8 (↑t.fst.toNat : Int), AV.sl true false (1 : Nat) (undeep.uL (bsA t.snd))] = AV.agg [bA t.fst, AV.sl true false (1 : Nat) (bsA t.snd)])
    (h6 : decide ((↑sz : Int) ≤ (↑c : Int)) = false)
    (h7 : IntKind.i64.wrap ((↑sz : Int) + IntKind.i64.wrap ((2 : Int) + (↑(bsA t.snd).length : Int))) = (↑(sz + ((2 : Nat) + t.snd.length)) : Int))
    (h8 : IntKind.i64.wrap ((↑i : Int) + (1 : Int)) = (↑(i + (1 : Nat)) : Int)) :
    WayR Try.prog T5 131 lp5x0 [(94, .b true), (95, .q), (96, .v (tD t)), (96, .n (tG true t)), (99, .b false), (106, .i (sz + (2 + t.2.length) : Nat)), (107, .i (i + 1 : Nat))] (sPfn L o n bo sz i c) .normal (sPnn (undeep.uL L) o n bo (sz + (2 + t.2.length)) (i + 1) c) :=
  runs_of_pr hfol (show prR Try.prog T5 131 lp5x0 [(94, .b true), (95, .q), (96, .v (tD t)), (96, .n (tG true t)), (99, .b false), (106, .i (sz + (2 + t.2.length) : Nat)), (107, .i (i + 1 : Nat))] (sPfn L o n bo sz i c) .normal (sPnn (undeep.uL L) o n bo (sz + (2 + t.2.length)) (i + 1) c) = some _ by kernel_rfl) (AllP.c h1 (AllP.c (show (0 : Int) ≤ (↑i : Int) from Int.natCast_nonneg _) (AllP.c h2 (AllP.c h3 (AllP.c h4 (AllP.c h5 (AllP.c h6 (AllP.c h7 (AllP.c h8 (AllP.c (LeR.refl (x := AV.int IntKind.i64 (↑c : Int))) (AllP.c (LeR.refl (x := AV.nils)) (AllP.c (LeR.refl (x := AV.int IntKind.i64 (↑(3 : Nat) : Int))) (AllP.c (LeR.refl (x := AV.int IntKind.i64 (↑bo : Int))) (AllP.c (LeR.refl (x := AV.int IntKind.i64 (↑(sz + ((2 : Nat) + t.snd.length)) : Int))) (AllP.c (LeR.refl (x := AV.own false (2 : Nat) (undeep.uL L))) (AllP.c (LeR.refl (x := AV.int IntKind.i64 (↑n : Int))) (AllP.c (LeR.refl (x := AV.int IntKind.i64 (↑(i + (1 : Nat)) : Int))) (AllP.c (LeR.refl (x := AV.mem [])) AllP.n))))))))))))))))))
theorem Parts_firstS_ngt (L : List AV) (o : List TLV) (n bo sz i c : Nat) (t : TLV)
    (h1 : decide ((↑i : Int) < (↑n : Int)) = true)
    (h2 : (↑i : Int) < (↑L.length : Int))
    (h3 : i * (2 : Nat) % (2 : Nat) = (0 : Nat))
    (h4 : L[i * (2 : Nat) / (2 : Nat)]? = some (tS t))
    (h5 : AV.agg [AV.int IntKind.u8 (↑t.fst.toNat : Int), AV.sl false false (1 : Nat) (undeep.uL (bsA t.snd))] = AV.agg [bA t.fst, AV.sl false false (1 : Nat) (bsA t.snd)])
    (h6 : decide ((↑sz : Int) ≤ (↑c : Int)) = false)
    (h7 : IntKind.i64.wrap ((↑sz : Int) + IntKind.i64.wrap ((2 : Int) + (↑(bsA t.snd).length : Int))) = (↑(sz + ((2 : Nat) + t.snd.length)) : Int))
    (h8 : IntKind.i64.wrap ((↑i : Int) + (1 : Int)) = (↑(i + (1 : Nat)) : Int)) :
    WayR Try.prog T5 131 lp5x0 [(94, .b true), (95, .q), (96, .v (tS t)), (96, .n (tG false t)), (99, .b false), (106, .i (sz + (2 + t.2.length) : Nat)), (107, .i (i + 1 : Nat))] (sPfn L o n bo sz i c) .normal (sPnn (undeep.uL L) o n bo (sz + (2 + t.2.length)) (i + 1) c) :=
  runs_of_pr hfol (show prR Try.prog T5 131 lp5x0 [(94, .b true), (95, .q), (96, .v (tS t)), (96, .n (tG false t)), (99, .b false), (106, .i (sz + (2 + t.2.length) : Nat)), (107, .i (i + 1 : Nat))] (sPfn L o n bo sz i c) .normal (sPnn (undeep.uL L) o n bo (sz + (2 + t.2.length)) (i + 1) c) = some _ by kernel_rfl) (AllP.c h1 (AllP.c (show (0 : Int) ≤ (↑i : Int) from Int.natCast_nonneg _) (AllP.c h2 (AllP.c h3 (AllP.c h4 (AllP.c h5 (AllP.c h6 (AllP.c h7 (AllP.c h8 (AllP.c (LeR.refl (x := AV.int IntKind.i64 (↑c : Int))) (AllP.c (LeR.refl (x := AV.nils)) (AllP.c (LeR.refl (x := AV.int IntKind.i64 (↑(3 : Nat) : Int))) (AllP.c (LeR.refl (x := AV.int IntKind.i64 (↑bo : Int))) (AllP.c (LeR.refl (x := AV.int IntKind.i64 (↑(sz + ((2 : Nat) + t.snd.length)) : Int))) (AllP.c (LeR.refl (x := AV.own false (2 : Nat) (undeep.uL L))) (AllP.c (LeR.refl (x := AV.int IntKind.i64 (↑n : Int))) (AllP.c (LeR.refl (x := AV.int IntKind.i64 (↑(i + (1 : Nat)) : Int))) (AllP.c (LeR.refl (x := AV.mem [])) AllP.n))))))))))))))))))
theorem Parts_next_ngt (L : List AV) (o : List TLV) (n bo sz i c : Nat) (t : TLV) (f : Bool)
    (h1 : decide ((↑i : Int) < (↑n : Int)) = true)
    (h2 : L[i]? = some (tG f t))
    (h3 : decide ((↑sz : Int) ≤ (↑c : Int)) = false)
    (h4 : IntKind.i64.wrap ((↑sz : Int) + IntKind.i64.wrap ((2 : Int) + (↑(bsA t.snd).length : Int))) = (↑(sz + ((2 : Nat) + t.snd.length)) : Int))
    (h5 : IntKind.i64.wrap ((↑i : Int) + (1 : Int)) = (↑(i + (1 : Nat)) : Int)) :
    WayR Try.prog T5 131 lp5x0 [(94, .b true), (95, .v (tG f t)), (99, .b false), (106, .i (sz + (2 + t.2.length) : Nat)), (107, .i (i + 1 : Nat))] (sPnn L o n bo sz i c) .normal (sPnn L o n bo (sz + (2 + t.2.length)) (i + 1) c) :=
  runs_of_pr hfol (show prR Try.prog T5 131 lp5x0 [(94, .b true), (95, .v (tG f t)), (99, .b false), (106, .i (sz + (2 + t.2.length) : Nat)), (107, .i (i + 1 : Nat))] (sPnn L o n bo sz i c) .normal (sPnn L o n bo (sz + (2 + t.2.length)) (i + 1) c) = some _ by kernel_rfl) (AllP.c h1 (AllP.c (show (0 : Int) ≤ (↑i : Int) from Int.natCast_nonneg _) (AllP.c h2 (AllP.c h3 (AllP.c h4 (AllP.c h5 (AllP.c (LeR.refl (x := AV.int IntKind.i64 (↑c : Int))) (AllP.c (LeR.refl (x := AV.nils)) (AllP.c (LeR.refl (x := AV.int IntKind.i64 (↑(3 : Nat) : Int))) (AllP.c (LeR.refl (x := AV.int IntKind.i64 (↑bo : Int))) (AllP.c (LeR.refl (x := AV.int IntKind.i64 (↑(sz + ((2 : Nat) + t.snd.length)) : Int))) (AllP.c (LeR.refl (x := AV.own false (2 : Nat) L)) (AllP.c (LeR.refl (x := AV.int IntKind.i64 (↑n : Int))) (AllP.c (LeR.refl (x := AV.int IntKind.i64 (↑(i + (1 : Nat)) : Int))) (AllP.c (LeR.refl (x := AV.mem [])) AllP.n)))))))))))))))
theorem Parts_endf_n (L : List AV) (o : List TLV) (n bo sz i c : Nat)
    (h1 : decide ((↑i : Int) < (↑n : Int)) = false) :
    WayR Try.prog T5 131 lp5x0 [(94, .b false)] (sPfn L o n bo sz i c) (.exit 0) (sPen o bo sz c) :=
  runs_of_pr hfol (show prR Try.prog T5 131 lp5x0 [(94, .b false)] (sPfn L o n bo sz i c) (.exit 0) (sPen o bo sz c) = some _ by kernel_rfl) (AllP.c h1 (AllP.c (LeR.refl (x := AV.int IntKind.i64 (↑c : Int))) (AllP.c (LeR.refl (x := AV.nils)) (AllP.c (LeR.refl (x := AV.int IntKind.i64 (↑(3 : Nat) : Int))) (AllP.c (LeR.refl (x := AV.int IntKind.i64 (↑bo : Int))) (AllP.c (LeR.refl (x := AV.int IntKind.i64 (↑sz : Int))) (AllP.c (LeR.refl (x := AV.mem [])) AllP.n)))))))
theorem Parts_endn_n (L : List AV) (o : List TLV) (n bo sz i c : Nat)
    (h1 : decide ((↑i : Int) < (↑n : Int)) = false) :
    WayR Try.prog T5 131 lp5x0 [(94, .b false)] (sPnn L o n bo sz i c) (.exit 0) (sPen o bo sz c) :=
  runs_of_pr hfol (show prR Try.prog T5 131 lp5x0 [(94, .b false)] (sPnn L o n bo sz i c) (.exit 0) (sPen o bo sz c) = some _ by kernel_rfl) (AllP.c h1 (AllP.c (LeR.refl (x := AV.int IntKind.i64 (↑c : Int))) (AllP.c (LeR.refl (x := AV.nils)) (AllP.c (LeR.refl (x := AV.int IntKind.i64 (↑(3 : Nat) : Int))) (AllP.c (LeR.refl (x := AV.int IntKind.i64 (↑bo : Int))) (AllP.c (LeR.refl (x := AV.int IntKind.i64 (↑sz : Int))) (AllP.c (LeR.refl (x := AV.mem [])) AllP.n)))))))
theorem Parts_errA0 (a b : List TLV) (p q : List UInt8) (u : Nat)
    (h1 : FnW Try.prog (7 : FuncId) [] [] (AV.bool true))
    (h2 : FnW Try.prog (9 : FuncId) [AV.sl false false (2 : Nat) (stale.sL (tsS a))] [slT a] (AV.own true (2 : Nat) (tsF a)))
    (h3 : freshA (AV.own true (2 : Nat) (tsF a)) = true)
    (h4 : FnW Try.prog (15 : FuncId) [AV.sl false false (2 : Nat) (stale.sL (undeep.uL (deepen.dL (tsF a))))] [slT a] (AV.tup [AV.nils, ni (2 : Nat)]))
    (h5 : FnW Try.prog (9 : FuncId) [AV.sl false false (2 : Nat) (stale.sL (tsS b))] [slT b] (AV.own true (2 : Nat) (tsF b)))
    (h6 : freshA (AV.own true (2 : Nat) (tsF b)) = true)
    (h7 : FnW Try.prog (15 : FuncId) [AV.sl false false (2 : Nat) (stale.sL (undeep.uL (deepen.dL (tsF b))))] [slT b] (AV.tup [AV.own true (1 : Nat) (bsA q), ni (0 : Nat)]))
    (h8 : freshA (AV.tup [AV.own true (1 : Nat) (bsA q), ni (0 : Nat)]) = true)
    (h9 : AV.tup (deepT [AV.own true (1 : Nat) (bsA q), ni (0 : Nat)]) = AV.tup [AV.own true (1 : Nat) (bsA q), ni (0 : Nat)])
    (h10 : (deepen.dL (tsF b)).all flat = true)
    (h11 : (deepen.dL (tsF b)).all (okElem (2 : Nat)) = true)
    (h12 : ((deepen.dL (tsF a)).length + (deepen.dL (tsF b)).length) * (32 : Nat) ≤ (140737488355328 : Nat))
    (h13 : FnW Try.prog (15 : FuncId) [AV.sl false false (2 : Nat) (stale.sL (undeep.uL (deepen.dL (tsF a) ++ deepen.dL (tsF b))))] [slT (a ++ b)] (AV.tup [AV.nils, ni (2 : Nat)])) :
    WayF Try.prog 5 T5 fd5 [(20, .c [] (.bool true)), (24, .c [slT a] (.own true 2 (tsF a))), (25, .c [slT a] (.tup [.nils, ni 2])), (25, .n (.tup [.nils, ni 2])), (30, .c [slT b] (.own true 2 (tsF b))), (31, .c [slT b] (.tup [.own true 1 (bsA q), ni 0])), (31, .n (.tup [.own true 1 (bsA q), ni 0])), (36, .c [slT a] (.own true 2 (tsF a))), (38, .c [slT b] (.own true 2 (tsF b))), (39, .q), (40, .c [slT (a ++ b)] (.tup [.nils, ni 2])), (40, .n (.tup [.nils, ni 2]))] [slT a, slT b, .int .u16 u] (.bool true) :=
  fn_of_pr hfol ok5 hT5 (show prF Try.prog 5 T5 fd5 [(20, .c [] (.bool true)), (24, .c [slT a] (.own true 2 (tsF a))), (25, .c [slT a] (.tup [.nils, ni 2])), (25, .n (.tup [.nils, ni 2])), (30, .c [slT b] (.own true 2 (tsF b))), (31, .c [slT b] (.tup [.own true 1 (bsA q), ni 0])), (31, .n (.tup [.own true 1 (bsA q), ni 0])), (36, .c [slT a] (.own true 2 (tsF a))), (38, .c [slT b] (.own true 2 (tsF b))), (39, .q), (40, .c [slT (a ++ b)] (.tup [.nils, ni 2])), (40, .n (.tup [.nils, ni 2]))] [slT a, slT b, .int .u16 u] (.bool true) = some _ by kernel_rfl) (AllP.c h1 (AllP.c (show freshA (AV.bool true) = true by kernel_rfl) (AllP.c h2 (AllP.c h3 (AllP.c h4 (AllP.c (show freshA (AV.tup [AV.nils, ni (2 : Nat)]) = true by kernel_rfl) (AllP.c (show AV.tup [AV.nils, ni (2 : Nat)] = AV.tup [AV.nils, ni (2 : Nat)] by kernel_rfl) (AllP.c h5 (AllP.c h6 (AllP.c h7 (AllP.c h8 (AllP.c h9 (AllP.c h2 (AllP.c h3 (AllP.c h5 (AllP.c h6 (AllP.c h10 (AllP.c h11 (AllP.c h12 (AllP.c h13 (AllP.c (show freshA (AV.tup [AV.nils, ni (2 : Nat)]) = true by kernel_rfl) (AllP.c (show AV.tup [AV.nils, ni (2 : Nat)] = AV.tup [AV.nils, ni (2 : Nat)] by kernel_rfl) (AllP.c (show AV.bool ((0 : Int) == (0 : Int)) = AV.bool true by kernel_rfl) AllP.n)))))))))))))))))))))))
theorem Parts_errA1 (a b : List TLV) (p q : List UInt8) (u : Nat)
    (h1 : FnW Try.prog (7 : FuncId) [] [] (AV.bool true))
    (h2 : FnW Try.prog (9 : FuncId) [AV.sl false false (2 : Nat) (stale.sL (tsS a))] [slT a] (AV.own true (2 : Nat) (tsF a)))
    (h3 : freshA (AV.own true (2 : Nat) (tsF a)) = true)
    (h4 : FnW Try.prog (15 : FuncId) [AV.sl false false (2 : Nat) (stale.sL (undeep.uL (deepen.dL (tsF a))))] [slT a] (AV.tup [AV.nils, ni (2 : Nat)]))
    (h5 : FnW Try.prog (9 : FuncId) [AV.sl false false (2 : Nat) (stale.sL (tsS b))] [slT b] (AV.own true (2 : Nat) (tsF b)))
    (h6 : freshA (AV.own true (2 : Nat) (tsF b)) = true)
    (h7 : FnW Try.prog (15 : FuncId) [AV.sl false false (2 : Nat) (stale.sL (undeep.uL (deepen.dL (tsF b))))] [slT b] (AV.tup [AV.own true (1 : Nat) (bsA q), ni (0 : Nat)]))
    (h8 : freshA (AV.tup [AV.own true (1 : Nat) (bsA q), ni (0 : Nat)]) = true)
    (h9 : AV.tup (deepT [AV.own true (1 : Nat) (bsA q), ni (0 : Nat)]) = AV.tup [AV.own true (1 : Nat) (bsA q), ni (0 : Nat)])
    (h10 : (deepen.dL (tsF b)).all flat = false)
    (h11 : (undeep.uL (deepen.dL (tsF b))).all (okElem (2 : Nat)) = true)
    (h12 : ((deepen.dL (tsF a)).length + (undeep.uL (deepen.dL (tsF b))).length) * (32 : Nat) ≤ (140737488355328 : Nat))
    (h13 : FnW Try.prog (15 : FuncId) [AV.sl false false (2 : Nat) (stale.sL (undeep.uL (deepen.dL (tsF a) ++ undeep.uL (deepen.dL (tsF b)))))] [slT (a ++ b)] (AV.tup [AV.nils, ni (2 : Nat)])) :
    WayF Try.prog 5 T5 fd5 [(20, .c [] (.bool true)), (24, .c [slT a] (.own true 2 (tsF a))), (25, .c [slT a] (.tup [.nils, ni 2])), (25, .n (.tup [.nils, ni 2])), (30, .c [slT b] (.own true 2 (tsF b))), (31, .c [slT b] (.tup [.own true 1 (bsA q), ni 0])), (31, .n (.tup [.own true 1 (bsA q), ni 0])), (36, .c [slT a] (.own true 2 (tsF a))), (38, .c [slT b] (.own true 2 (tsF b))), (39, .q2), (40, .c [slT (a ++ b)] (.tup [.nils, ni 2])), (40, .n (.tup [.nils, ni 2]))] [slT a, slT b, .int .u16 u] (.bool true) :=
  fn_of_pr hfol ok5 hT5 (show prF Try.prog 5 T5 fd5 [(20, .c [] (.bool true)), (24, .c [slT a] (.own true 2 (tsF a))), (25, .c [slT a] (.tup [.nils, ni 2])), (25, .n (.tup [.nils, ni 2])), (30, .c [slT b] (.own true 2 (tsF b))), (31, .c [slT b] (.tup [.own true 1 (bsA q), ni 0])), (31, .n (.tup [.own true 1 (bsA q), ni 0])), (36, .c [slT a] (.own true 2 (tsF a))), (38, .c [slT b] (.own true 2 (tsF b))), (39, .q2), (40, .c [slT (a ++ b)] (.tup [.nils, ni 2])), (40, .n (.tup [.nils, ni 2]))] [slT a, slT b, .int .u16 u] (.bool true) = some _ by kernel_rfl) (AllP.c h1 (AllP.c (show freshA (AV.bool true) = true by kernel_rfl) (AllP.c h2 (AllP.c h3 (AllP.c h4 (AllP.c (show freshA (AV.tup [AV.nils, ni (2 : Nat)]) = true by kernel_rfl) (AllP.c (show AV.tup [AV.nils, ni (2 : Nat)] = AV.tup [AV.nils, ni (2 : Nat)] by kernel_rfl) (AllP.c h5 (AllP.c h6 (AllP.c h7 (AllP.c h8 (AllP.c h9 (AllP.c h2 (AllP.c h3 (AllP.c h5 (AllP.c h6 (AllP.c h10 (AllP.c h11 (AllP.c h12 (AllP.c h13 (AllP.c (show freshA (AV.tup [AV.nils, ni (2 : Nat)]) = true by kernel_rfl) (AllP.c (show AV.tup [AV.nils, ni (2 : Nat)] = AV.tup [AV.nils, ni (2 : Nat)] by kernel_rfl) (AllP.c (show AV.bool ((0 : Int) == (0 : Int)) = AV.bool true by kernel_rfl) AllP.n)))))))))))))))))))))))
theorem Parts_errAB (a b : List TLV) (p q : List UInt8) (u : Nat)
    (h1 : FnW Try.prog (7 : FuncId) [] [] (AV.bool true))
    (h2 : FnW Try.prog (9 : FuncId) [AV.sl false false (2 : Nat) (stale.sL (tsS a))] [slT a] (AV.own true (2 : Nat) (tsF a)))
    (h3 : freshA (AV.own true (2 : Nat) (tsF a)) = true)
    (h4 : FnW Try.prog (15 : FuncId) [AV.sl false false (2 : Nat) (stale.sL (undeep.uL (deepen.dL (tsF a))))] [slT a] (AV.tup [AV.nils, ni (2 : Nat)]))
    (h5 : FnW Try.prog (9 : FuncId) [AV.sl false false (2 : Nat) (stale.sL (tsS b))] [slT b] (AV.own true (2 : Nat) (tsF b)))
    (h6 : freshA (AV.own true (2 : Nat) (tsF b)) = true)
    (h7 : FnW Try.prog (15 : FuncId) [AV.sl false false (2 : Nat) (stale.sL (undeep.uL (deepen.dL (tsF b))))] [slT b] (AV.tup [AV.nils, ni (2 : Nat)]))
    (h8 : (deepen.dL (tsF b)).all flat = false)
    (h9 : (undeep.uL (deepen.dL (tsF b))).all (okElem (2 : Nat)) = true)
    (h10 : ((deepen.dL (tsF a)).length + (undeep.uL (deepen.dL (tsF b))).length) * (32 : Nat) ≤ (140737488355328 : Nat))
    (h11 : FnW Try.prog (15 : FuncId) [AV.sl false false (2 : Nat) (stale.sL (undeep.uL (deepen.dL (tsF a) ++ undeep.uL (deepen.dL (tsF b)))))] [slT (a ++ b)] (AV.tup [AV.nils, ni (2 : Nat)])) :
    WayF Try.prog 5 T5 fd5 [(20, .c [] (.bool true)), (24, .c [slT a] (.own true 2 (tsF a))), (25, .c [slT a] (.tup [.nils, ni 2])), (25, .n (.tup [.nils, ni 2])), (30, .c [slT b] (.own true 2 (tsF b))), (31, .c [slT b] (.tup [.nils, ni 2])), (31, .n (.tup [.nils, ni 2])), (36, .c [slT a] (.own true 2 (tsF a))), (38, .c [slT b] (.own true 2 (tsF b))), (39, .q2), (40, .c [slT (a ++ b)] (.tup [.nils, ni 2])), (40, .n (.tup [.nils, ni 2]))] [slT a, slT b, .int .u16 u] (.bool true) :=
  fn_of_pr hfol ok5 hT5 (show prF Try.prog 5 T5 fd5 [(20, .c [] (.bool true)), (24, .c [slT a] (.own true 2 (tsF a))), (25, .c [slT a] (.tup [.nils, ni 2])), (25, .n (.tup [.nils, ni 2])), (30, .c [slT b] (.own true 2 (tsF b))), (31, .c [slT b] (.tup [.nils, ni 2])), (31, .n (.tup [.nils, ni 2])), (36, .c [slT a] (.own true 2 (tsF a))), (38, .c [slT b] (.own true 2 (tsF b))), (39, .q2), (40, .c [slT (a ++ b)] (.tup [.nils, ni 2])), (40, .n (.tup [.nils, ni 2]))] [slT a, slT b, .int .u16 u] (.bool true) = some _ by kernel_rfl) (AllP.c h1 (AllP.c (show freshA (AV.bool true) = true by kernel_rfl) (AllP.c h2 (AllP.c h3 (AllP.c h4 (AllP.c (show freshA (AV.tup [AV.nils, ni (2 : Nat)]) = true by kernel_rfl) (AllP.c (show AV.tup [AV.nils, ni (2 : Nat)] = AV.tup [AV.nils, ni (2 : Nat)] by kernel_rfl) (AllP.c h5 (AllP.c h6 (AllP.c h7 (AllP.c (show freshA (AV.tup [AV.nils, ni (2 : Nat)]) = true by kernel_rfl) (AllP.c (show AV.tup [AV.nils, ni (2 : Nat)] = AV.tup [AV.nils, ni (2 : Nat)] by kernel_rfl) (AllP.c h2 (AllP.c h3 (AllP.c h5 (AllP.c h6 (AllP.c h8 (AllP.c h9 (AllP.c h10 (AllP.c h11 (AllP.c (show freshA (AV.tup [AV.nils, ni (2 : Nat)]) = true by kernel_rfl) (AllP.c (show AV.tup [AV.nils, ni (2 : Nat)] = AV.tup [AV.nils, ni (2 : Nat)] by kernel_rfl) (AllP.c (show AV.bool ((0 : Int) == (0 : Int)) = AV.bool true by kernel_rfl) AllP.n)))))))))))))))))))))))
theorem Parts_errB (a b : List TLV) (p q : List UInt8) (u : Nat)
    (h1 : FnW Try.prog (7 : FuncId) [] [] (AV.bool true))
    (h2 : FnW Try.prog (9 : FuncId) [AV.sl false false (2 : Nat) (stale.sL (tsS a))] [slT a] (AV.own true (2 : Nat) (tsF a)))
    (h3 : freshA (AV.own true (2 : Nat) (tsF a)) = true)
    (h4 : FnW Try.prog (15 : FuncId) [AV.sl false false (2 : Nat) (stale.sL (undeep.uL (deepen.dL (tsF a))))] [slT a] (AV.tup [AV.own true (1 : Nat) (bsA p), ni (0 : Nat)]))
    (h5 : freshA (AV.tup [AV.own true (1 : Nat) (bsA p), ni (0 : Nat)]) = true)
    (h6 : AV.tup (deepT [AV.own true (1 : Nat) (bsA p), ni (0 : Nat)]) = AV.tup [AV.own true (1 : Nat) (bsA p), ni (0 : Nat)])
    (h7 : FnW Try.prog (9 : FuncId) [AV.sl false false (2 : Nat) (stale.sL (tsS b))] [slT b] (AV.own true (2 : Nat) (tsF b)))
    (h8 : freshA (AV.own true (2 : Nat) (tsF b)) = true)
    (h9 : FnW Try.prog (15 : FuncId) [AV.sl false false (2 : Nat) (stale.sL (undeep.uL (deepen.dL (tsF b))))] [slT b] (AV.tup [AV.nils, ni (2 : Nat)]))
    (h10 : (deepen.dL (tsF b)).all flat = false)
    (h11 : (undeep.uL (deepen.dL (tsF b))).all (okElem (2 : Nat)) = true)
    (h12 : ((deepen.dL (tsF a)).length + (undeep.uL (deepen.dL (tsF b))).length) * (32 : Nat) ≤ (140737488355328 : Nat))
    (h13 : FnW Try.prog (15 : FuncId) [AV.sl false false (2 : Nat) (stale.sL (undeep.uL (deepen.dL (tsF a) ++ undeep.uL (deepen.dL (tsF b)))))] [slT (a ++ b)] (AV.tup [AV.nils, ni (2 : Nat)])) :
    WayF Try.prog 5 T5 fd5 [(20, .c [] (.bool true)), (24, .c [slT a] (.own true 2 (tsF a))), (25, .c [slT a] (.tup [.own true 1 (bsA p), ni 0])), (25, .n (.tup [.own true 1 (bsA p), ni 0])), (30, .c [slT b] (.own true 2 (tsF b))), (31, .c [slT b] (.tup [.nils, ni 2])), (31, .n (.tup [.nils, ni 2])), (36, .c [slT a] (.own true 2 (tsF a))), (38, .c [slT b] (.own true 2 (tsF b))), (39, .q2), (40, .c [slT (a ++ b)] (.tup [.nils, ni 2])), (40, .n (.tup [.nils, ni 2]))] [slT a, slT b, .int .u16 u] (.bool true) :=
  fn_of_pr hfol ok5 hT5 (show prF Try.prog 5 T5 fd5 [(20, .c [] (.bool true)), (24, .c [slT a] (.own true 2 (tsF a))), (25, .c [slT a] (.tup [.own true 1 (bsA p), ni 0])), (25, .n (.tup [.own true 1 (bsA p), ni 0])), (30, .c [slT b] (.own true 2 (tsF b))), (31, .c [slT b] (.tup [.nils, ni 2])), (31, .n (.tup [.nils, ni 2])), (36, .c [slT a] (.own true 2 (tsF a))), (38, .c [slT b] (.own true 2 (tsF b))), (39, .q2), (40, .c [slT (a ++ b)] (.tup [.nils, ni 2])), (40, .n (.tup [.nils, ni 2]))] [slT a, slT b, .int .u16 u] (.bool true) = some _ by kernel_rfl) (AllP.c h1 (AllP.c (show freshA (AV.bool true) = true by kernel_rfl) (AllP.c h2 (AllP.c h3 (AllP.c h4 (AllP.c h5 (AllP.c h6 (AllP.c h7 (AllP.c h8 (AllP.c h9 (AllP.c (show freshA (AV.tup [AV.nils, ni (2 : Nat)]) = true by kernel_rfl) (AllP.c (show AV.tup [AV.nils, ni (2 : Nat)] = AV.tup [AV.nils, ni (2 : Nat)] by kernel_rfl) (AllP.c h2 (AllP.c h3 (AllP.c h7 (AllP.c h8 (AllP.c h10 (AllP.c h11 (AllP.c h12 (AllP.c h13 (AllP.c (show freshA (AV.tup [AV.nils, ni (2 : Nat)]) = true by kernel_rfl) (AllP.c (show AV.tup [AV.nils, ni (2 : Nat)] = AV.tup [AV.nils, ni (2 : Nat)] by kernel_rfl) (AllP.c (show AV.bool ((0 : Int) == (0 : Int)) = AV.bool true by kernel_rfl) AllP.n)))))))))))))))))))))))
theorem Parts_errS (a b : List TLV) (p q : List UInt8) (u : Nat)
    (h1 : FnW Try.prog (7 : FuncId) [] [] (AV.bool true))
    (h2 : FnW Try.prog (9 : FuncId) [AV.sl false false (2 : Nat) (stale.sL (tsS a))] [slT a] (AV.own true (2 : Nat) (tsF a)))
    (h3 : freshA (AV.own true (2 : Nat) (tsF a)) = true)
    (h4 : FnW Try.prog (15 : FuncId) [AV.sl false false (2 : Nat) (stale.sL (undeep.uL (deepen.dL (tsF a))))] [slT a] (AV.tup [AV.own true (1 : Nat) (bsA p), ni (0 : Nat)]))
    (h5 : freshA (AV.tup [AV.own true (1 : Nat) (bsA p), ni (0 : Nat)]) = true)
    (h6 : AV.tup (deepT [AV.own true (1 : Nat) (bsA p), ni (0 : Nat)]) = AV.tup [AV.own true (1 : Nat) (bsA p), ni (0 : Nat)])
    (h7 : FnW Try.prog (9 : FuncId) [AV.sl false false (2 : Nat) (stale.sL (tsS b))] [slT b] (AV.own true (2 : Nat) (tsF b)))
    (h8 : freshA (AV.own true (2 : Nat) (tsF b)) = true)
    (h9 : FnW Try.prog (15 : FuncId) [AV.sl false false (2 : Nat) (stale.sL (undeep.uL (deepen.dL (tsF b))))] [slT b] (AV.tup [AV.own true (1 : Nat) (bsA q), ni (0 : Nat)]))
    (h10 : freshA (AV.tup [AV.own true (1 : Nat) (bsA q), ni (0 : Nat)]) = true)
    (h11 : AV.tup (deepT [AV.own true (1 : Nat) (bsA q), ni (0 : Nat)]) = AV.tup [AV.own true (1 : Nat) (bsA q), ni (0 : Nat)])
    (h12 : (deepen.dL (tsF b)).all flat = false)
    (h13 : (undeep.uL (deepen.dL (tsF b))).all (okElem (2 : Nat)) = true)
    (h14 : ((deepen.dL (tsF a)).length + (undeep.uL (deepen.dL (tsF b))).length) * (32 : Nat) ≤ (140737488355328 : Nat))
    (h15 : FnW Try.prog (15 : FuncId) [AV.sl false false (2 : Nat) (stale.sL (undeep.uL (deepen.dL (tsF a) ++ undeep.uL (deepen.dL (tsF b)))))] [slT (a ++ b)] (AV.tup [AV.nils, ni (2 : Nat)]))
    (h16 : IntKind.i64.wrap ((↑(bsA p).length : Int) + (↑(bsA q).length : Int)) = (↑(p.length + q.length) : Int))
    (h17 : decide ((↑(p.length + q.length) : Int) > (1492 : Int)) = true) :
    WayF Try.prog 5 T5 fd5 [(20, .c [] (.bool true)), (24, .c [slT a] (.own true 2 (tsF a))), (25, .c [slT a] (.tup [.own true 1 (bsA p), ni 0])), (25, .n (.tup [.own true 1 (bsA p), ni 0])), (30, .c [slT b] (.own true 2 (tsF b))), (31, .c [slT b] (.tup [.own true 1 (bsA q), ni 0])), (31, .n (.tup [.own true 1 (bsA q), ni 0])), (36, .c [slT a] (.own true 2 (tsF a))), (38, .c [slT b] (.own true 2 (tsF b))), (39, .q2), (40, .c [slT (a ++ b)] (.tup [.nils, ni 2])), (40, .n (.tup [.nils, ni 2])), (54, .i (p.length + q.length : Nat)), (55, .b true)] [slT a, slT b, .int .u16 u] (.bool true) :=
  fn_of_pr hfol ok5 hT5 (show prF Try.prog 5 T5 fd5 [(20, .c [] (.bool true)), (24, .c [slT a] (.own true 2 (tsF a))), (25, .c [slT a] (.tup [.own true 1 (bsA p), ni 0])), (25, .n (.tup [.own true 1 (bsA p), ni 0])), (30, .c [slT b] (.own true 2 (tsF b))), (31, .c [slT b] (.tup [.own true 1 (bsA q), ni 0])), (31, .n (.tup [.own true 1 (bsA q), ni 0])), (36, .c [slT a] (.own true 2 (tsF a))), (38, .c [slT b] (.own true 2 (tsF b))), (39, .q2), (40, .c [slT (a ++ b)] (.tup [.nils, ni 2])), (40, .n (.tup [.nils, ni 2])), (54, .i (p.length + q.length : Nat)), (55, .b true)] [slT a, slT b, .int .u16 u] (.bool true) = some _ by kernel_rfl) (AllP.c h1 (AllP.c (show freshA (AV.bool true) = true by kernel_rfl) (AllP.c h2 (AllP.c h3 (AllP.c h4 (AllP.c h5 (AllP.c h6 (AllP.c h7 (AllP.c h8 (AllP.c h9 (AllP.c h10 (AllP.c h11 (AllP.c h2 (AllP.c h3 (AllP.c h7 (AllP.c h8 (AllP.c h12 (AllP.c h13 (AllP.c h14 (AllP.c h15 (AllP.c (show freshA (AV.tup [AV.nils, ni (2 : Nat)]) = true by kernel_rfl) (AllP.c (show AV.tup [AV.nils, ni (2 : Nat)] = AV.tup [AV.nils, ni (2 : Nat)] by kernel_rfl) (AllP.c h16 (AllP.c h17 (AllP.c (show AV.bool ((0 : Int) == (0 : Int)) = AV.bool true by kernel_rfl) AllP.n)))))))))))))))))))))))))
theorem Parts_s0le (a b : List TLV) (p q : List UInt8) (u : Nat) (o : List TLV) (n bo sz : Nat)
    (h1 : FnW Try.prog (7 : FuncId) [] [] (AV.bool true))
    (h2 : FnW Try.prog (9 : FuncId) [AV.sl false false (2 : Nat) (stale.sL (tsS a))] [slT a] (AV.own true (2 : Nat) (tsF a)))
    (h3 : freshA (AV.own true (2 : Nat) (tsF a)) = true)
    (h4 : FnW Try.prog (15 : FuncId) [AV.sl false false (2 : Nat) (stale.sL (undeep.uL (deepen.dL (tsF a))))] [slT a] (AV.tup [AV.own true (1 : Nat) (bsA p), ni (0 : Nat)]))
    (h5 : freshA (AV.tup [AV.own true (1 : Nat) (bsA p), ni (0 : Nat)]) = true)
    (h6 : AV.tup (deepT [AV.own true (1 : Nat) (bsA p), ni (0 : Nat)]) = AV.tup [AV.own true (1 : Nat) (bsA p), ni (0 : Nat)])
    (h7 : FnW Try.prog (9 : FuncId) [AV.sl false false (2 : Nat) (stale.sL (tsS b))] [slT b] (AV.own true (2 : Nat) (tsF b)))
    (h8 : freshA (AV.own true (2 : Nat) (tsF b)) = true)
    (h9 : FnW Try.prog (15 : FuncId) [AV.sl false false (2 : Nat) (stale.sL (undeep.uL (deepen.dL (tsF b))))] [slT b] (AV.tup [AV.own true (1 : Nat) (bsA q), ni (0 : Nat)]))
    (h10 : freshA (AV.tup [AV.own true (1 : Nat) (bsA q), ni (0 : Nat)]) = true)
    (h11 : AV.tup (deepT [AV.own true (1 : Nat) (bsA q), ni (0 : Nat)]) = AV.tup [AV.own true (1 : Nat) (bsA q), ni (0 : Nat)])
    (h12 : (deepen.dL (tsF b)).all flat = true)
    (h13 : (deepen.dL (tsF b)).all (okElem (2 : Nat)) = true)
    (h14 : ((deepen.dL (tsF a)).length + (deepen.dL (tsF b)).length) * (32 : Nat) ≤ (140737488355328 : Nat))
    (h15 : FnW Try.prog (15 : FuncId) [AV.sl false false (2 : Nat) (stale.sL (undeep.uL (deepen.dL (tsF a) ++ deepen.dL (tsF b))))] [slT (a ++ b)] (AV.tup [AV.own true (1 : Nat) (bsA (p ++ q)), ni (0 : Nat)]))
    (h16 : freshA (AV.tup [AV.own true (1 : Nat) (bsA (p ++ q)), ni (0 : Nat)]) = true)
    (h17 : AV.tup (deepT [AV.own true (1 : Nat) (bsA (p ++ q)), ni (0 : Nat)]) = AV.tup [AV.own true (1 : Nat) (bsA (p ++ q)), ni (0 : Nat)])
    (h18 : IntKind.i64.wrap ((↑(bsA p).length : Int) + (↑(bsA q).length : Int)) = (↑(p.length + q.length) : Int))
    (h19 : decide ((↑(p.length + q.length) : Int) > (1492 : Int)) = false)
    (h20 : FnW Try.prog (18 : FuncId) [AV.sl false false (1 : Nat) (stale.sL (undeep.uL (bsA p)))] [slB p] (AV.own true (1 : Nat) (bsA p)))
    (h21 : freshA (AV.own true (1 : Nat) (bsA p)) = true)
    (h22 : AV.own true (1 : Nat) (deepen.dL (bsA p)) = AV.own true (1 : Nat) (bsA p))
    (h23 : (bsA q).all flat = true)
    (h24 : (bsA q).all (okElem (1 : Nat)) = true)
    (h25 : ((bsA p).length + (bsA q).length) * (1 : Nat) ≤ (140737488355328 : Nat))
    (h26 : FnW Try.prog (16 : FuncId) [AV.sl false false (1 : Nat) (stale.sL (undeep.uL (bsA (p ++ q)))), AV.sl false false (1 : Nat) (stale.sL (undeep.uL (bsA p ++ bsA q)))] [slB (p ++ q), slB (p ++ q)] (AV.bool true))
    (h27 : IntKind.i64.wrap (↑u : Int) = (↑u : Int))
    (h28 : IntKind.i64.wrap ((↑(bsA (p ++ q)).length : Int) + (1 : Int)) = (↑((p ++ q).length + (1 : Nat)) : Int))
    (h29 : (↑((p ++ q).length + (1 : Nat)) : Int) ≠ (0 : Int))
    (h30 : (↑u : Int).tmod (↑((p ++ q).length + (1 : Nat)) : Int) = (↑n : Int))
    (h31 : (↑n : Int) ≤ (↑(undeep.uL (bsA (p ++ q))).length : Int))
    (h32 : FnW Try.prog (12 : FuncId) [AV.sl false (false || !(undeep.uL (bsA (p ++ q))).isEmpty) (1 : Nat) (stale.sL (List.drop (0 : Nat) (List.take n (undeep.uL (bsA (p ++ q))))))] [slB (List.take n (p ++ q))] (AV.tup [AV.own true (2 : Nat) (tsF o), ni (0 : Nat)]))
    (h33 : freshA (AV.tup [AV.own true (2 : Nat) (tsF o), ni (0 : Nat)]) = true)
    (h34 : AV.tup (deepT [AV.own true (2 : Nat) (tsF o), ni (0 : Nat)]) = AV.tup [AV.own true (2 : Nat) (tsD o), ni (0 : Nat)])
    (h35 : (tsS b).all (okElem (2 : Nat)) = true)
    (h36 : ((deepen.dL (tsF a)).length + (tsS b).length) * (32 : Nat) ≤ (140737488355328 : Nat))
    (h37 : AV.own true (2 : Nat) (deepen.dL (tsF a) ++ tsS b) = AV.own true (2 : Nat) (tsD a ++ tsS b))
    (h38 : (↑(tsD a ++ tsS b).length : Int) = (↑(a ++ b).length : Int))
    (h39 : Runs Try.prog T5 (131 : Nat) (Cd.loop [] lp5x0) (sPfs (tsD a ++ tsS b) o (a ++ b).length (0 : Nat) (0 : Nat) (0 : Nat) n) fun x => x = (Ex.exit (0 : Nat), sPes o bo sz n))
    (h40 : decide ((↑sz : Int) ≤ (↑n : Int)) = true)
    (h41 : ((↑sz : Int) == (↑n : Int)) = true) :
    WayF Try.prog 5 T5 fd5 [(20, .c [] (.bool true)), (24, .c [slT a] (.own true 2 (tsF a))), (25, .c [slT a] (.tup [.own true 1 (bsA p), ni 0])), (25, .n (.tup [.own true 1 (bsA p), ni 0])), (30, .c [slT b] (.own true 2 (tsF b))), (31, .c [slT b] (.tup [.own true 1 (bsA q), ni 0])), (31, .n (.tup [.own true 1 (bsA q), ni 0])), (36, .c [slT a] (.own true 2 (tsF a))), (38, .c [slT b] (.own true 2 (tsF b))), (39, .q), (40, .c [slT (a ++ b)] (.tup [.own true 1 (bsA (p ++ q)), ni 0])), (40, .n (.tup [.own true 1 (bsA (p ++ q)), ni 0])), (54, .i (p.length + q.length : Nat)), (55, .b false), (69, .c [slB p] (.own true 1 (bsA p))), (69, .n (.own true 1 (bsA p))), (71, .q), (72, .c [slB (p ++ q), slB (p ++ q)] (.bool true)), (76, .i u), (79, .i ((p ++ q).length + 1 : Nat)), (80, .q), (80, .i n), (84, .q), (85, .c [slB ((p ++ q).take n)] (.tup [.own true 2 (tsF o), ni 0])), (85, .n (.tup [.own true 2 (tsD o), ni 0])), (89, .c [slT a] (.own true 2 (tsF a))), (91, .q), (91, .n (.own true 2 (tsD a ++ tsS b))), (92, .i (a ++ b).length), (0, .lp (sPfs (tsD a ++ tsS b) o (a ++ b).length 0 0 0 n) (.exit 0) (sPes o bo sz n)), (110, .b true), (116, .b true)] [slT a, slT b, .int .u16 u] (.bool true) :=
  fn_of_pr hfol ok5 hT5 (show prF Try.prog 5 T5 fd5 [(20, .c [] (.bool true)), (24, .c [slT a] (.own true 2 (tsF a))), (25, .c [slT a] (.tup [.own true 1 (bsA p), ni 0])), (25, .n (.tup [.own true 1 (bsA p), ni 0])), (30, .c [slT b] (.own true 2 (tsF b))), (31, .c [slT b] (.tup [.own true 1 (bsA q), ni 0])), (31, .n (.tup [.own true 1 (bsA q), ni 0])), (36, .c [slT a] (.own true 2 (tsF a))), (38, .c [slT b] (.own true 2 (tsF b))), (39, .q), (40, .c [slT (a ++ b)] (.tup [.own true 1 (bsA (p ++ q)), ni 0])), (40, .n (.tup [.own true 1 (bsA (p ++ q)), ni 0])), (54, .i (p.length + q.length : Nat)), (55, .b false), (69, .c [slB p] (.own true 1 (bsA p))), (69, .n (.own true 1 (bsA p))), (71, .q), (72, .c [slB (p ++ q), slB (p ++ q)] (.bool true)), (76, .i u), (79, .i ((p ++ q).length + 1 : Nat)), (80, .q), (80, .i n), (84, .q), (85, .c [slB ((p ++ q).take n)] (.tup [.own true 2 (tsF o), ni 0])), (85, .n (.tup [.own true 2 (tsD o), ni 0])), (89, .c [slT a] (.own true 2 (tsF a))), (91, .q), (91, .n (.own true 2 (tsD a ++ tsS b))), (92, .i (a ++ b).length), (0, .lp (sPfs (tsD a ++ tsS b) o (a ++ b).length 0 0 0 n) (.exit 0) (sPes o bo sz n)), (110, .b true), (116, .b true)] [slT a, slT b, .int .u16 u] (.bool true) = some _ by kernel_rfl) (AllP.c h1 (AllP.c (show freshA (AV.bool true) = true by kernel_rfl) (AllP.c h2 (AllP.c h3 (AllP.c h4 (AllP.c h5 (AllP.c h6 (AllP.c h7 (AllP.c h8 (AllP.c h9 (AllP.c h10 (AllP.c h11 (AllP.c h2 (AllP.c h3 (AllP.c h7 (AllP.c h8 (AllP.c h12 (AllP.c h13 (AllP.c h14 (AllP.c h15 (AllP.c h16 (AllP.c h17 (AllP.c h18 (AllP.c h19 (AllP.c h20 (AllP.c h21 (AllP.c h22 (AllP.c h23 (AllP.c h24 (AllP.c h25 (AllP.c h26 (AllP.c (show freshA (AV.bool true) = true by kernel_rfl) (AllP.c h27 (AllP.c h28 (AllP.c h29 (AllP.c h30 (AllP.c (show (0 : Int) ≤ (0 : Int) by decide) (AllP.c (show (0 : Int) ≤ (↑n : Int) from Int.natCast_nonneg _) (AllP.c h31 (AllP.c h32 (AllP.c h33 (AllP.c h34 (AllP.c h2 (AllP.c h3 (AllP.c h35 (AllP.c h36 (AllP.c h37 (AllP.c h38 (AllP.c (LeR.refl (x := AV.int IntKind.i64 (↑n : Int))) (AllP.c (LeR.refl (x := AV.own true (2 : Nat) (tsD o))) (AllP.c (LeR.refl (x := AV.int IntKind.i64 (↑(0 : Nat) : Int))) (AllP.c (LeR.refl (x := AV.int IntKind.i64 (↑(0 : Nat) : Int))) (AllP.c (LeR.refl (x := AV.int IntKind.i64 (↑(0 : Nat) : Int))) (AllP.c (LeR.refl (x := AV.own true (2 : Nat) (tsD a ++ tsS b))) (AllP.c (LeR.refl (x := AV.int IntKind.i64 (↑(a ++ b).length : Int))) (AllP.c (LeR.refl (x := AV.int IntKind.i64 (↑(0 : Nat) : Int))) (AllP.c (LeR.refl (x := AV.mem [])) (AllP.c h39 (AllP.c h40 (AllP.c h41 (AllP.c (show AV.bool true = AV.bool true by kernel_rfl) AllP.n)))))))))))))))))))))))))))))))))))))))))))))))))))))))))))))
theorem Parts_s0gt (a b : List TLV) (p q : List UInt8) (u : Nat) (o : List TLV) (n bo sz : Nat)
    (h1 : FnW Try.prog (7 : FuncId) [] [] (AV.bool true))
    (h2 : FnW Try.prog (9 : FuncId) [AV.sl false false (2 : Nat) (stale.sL (tsS a))] [slT a] (AV.own true (2 : Nat) (tsF a)))
    (h3 : freshA (AV.own true (2 : Nat) (tsF a)) = true)
    (h4 : FnW Try.prog (15 : FuncId) [AV.sl false false (2 : Nat) (stale.sL (undeep.uL (deepen.dL (tsF a))))] [slT a] (AV.tup [AV.own true (1 : Nat) (bsA p), ni (0 : Nat)]))
    (h5 : freshA (AV.tup [AV.own true (1 : Nat) (bsA p), ni (0 : Nat)]) = true)
    (h6 : AV.tup (deepT [AV.own true (1 : Nat) (bsA p), ni (0 : Nat)]) = AV.tup [AV.own true (1 : Nat) (bsA p), ni (0 : Nat)])
    (h7 : FnW Try.prog (9 : FuncId) [AV.sl false false (2 : Nat) (stale.sL (tsS b))] [slT b] (AV.own true (2 : Nat) (tsF b)))
    (h8 : freshA (AV.own true (2 : Nat) (tsF b)) = true)
    (h9 : FnW Try.prog (15 : FuncId) [AV.sl false false (2 : Nat) (stale.sL (undeep.uL (deepen.dL (tsF b))))] [slT b] (AV.tup [AV.own true (1 : Nat) (bsA q), ni (0 : Nat)]))
    (h10 : freshA (AV.tup [AV.own true (1 : Nat) (bsA q), ni (0 : Nat)]) = true)
    (h11 : AV.tup (deepT [AV.own true (1 : Nat) (bsA q), ni (0 : Nat)]) = AV.tup [AV.own true (1 : Nat) (bsA q), ni (0 : Nat)])
    (h12 : (deepen.dL (tsF b)).all flat = true)
    (h13 : (deepen.dL (tsF b)).all (okElem (2 : Nat)) = true)
    (h14 : ((deepen.dL (tsF a)).length + (deepen.dL (tsF b)).length) * (32 : Nat) ≤ (140737488355328 : Nat))
    (h15 : FnW Try.prog (15 : FuncId) [AV.sl false false (2 : Nat) (stale.sL (undeep.uL (deepen.dL (tsF a) ++ deepen.dL (tsF b))))] [slT (a ++ b)] (AV.tup [AV.own true (1 : Nat) (bsA (p ++ q)), ni (0 : Nat)]))
    (h16 : freshA (AV.tup [AV.own true (1 : Nat) (bsA (p ++ q)), ni (0 : Nat)]) = true)
    (h17 : AV.tup (deepT [AV.own true (1 : Nat) (bsA (p ++ q)), ni (0 : Nat)]) = AV.tup [AV.own true (1 : Nat) (bsA (p ++ q)), ni (0 : Nat)])
    (h18 : IntKind.i64.wrap ((↑(bsA p).length : Int) + (↑(bsA q).length : Int)) = (↑(p.length + q.length) : Int))
    (h19 : decide ((↑(p.length + q.length) : Int) > (1492 : Int)) = false)
    (h20 : FnW Try.prog (18 : FuncId) [AV.sl false false (1 : Nat) (stale.sL (undeep.uL (bsA p)))] [slB p] (AV.own true (1 : Nat) (bsA p)))
    (h21 : freshA (AV.own true (1 : Nat) (bsA p)) = true)
    (h22 : AV.own true (1 : Nat) (deepen.dL (bsA p)) = AV.own true (1 : Nat) (bsA p))
    (h23 : (bsA q).all flat = true)
    (h24 : (bsA q).all (okElem (1 : Nat)) = true)
    (h25 : ((bsA p).length + (bsA q).length) * (1 : Nat) ≤ (140737488355328 : Nat))
    (h26 : FnW Try.prog (16 : FuncId) [AV.sl false false (1 : Nat) (stale.sL (undeep.uL (bsA (p ++ q)))), AV.sl false false (1 : Nat) (stale.sL (undeep.uL (bsA p ++ bsA q)))] [slB (p ++ q), slB (p ++ q)] (AV.bool true))
    (h27 : IntKind.i64.wrap (↑u : Int) = (↑u : Int))
    (h28 : IntKind.i64.wrap ((↑(bsA (p ++ q)).length : Int) + (1 : Int)) = (↑((p ++ q).length + (1 : Nat)) : Int))
    (h29 : (↑((p ++ q).length + (1 : Nat)) : Int) ≠ (0 : Int))
    (h30 : (↑u : Int).tmod (↑((p ++ q).length + (1 : Nat)) : Int) = (↑n : Int))
    (h31 : (↑n : Int) ≤ (↑(undeep.uL (bsA (p ++ q))).length : Int))
    (h32 : FnW Try.prog (12 : FuncId) [AV.sl false (false || !(undeep.uL (bsA (p ++ q))).isEmpty) (1 : Nat) (stale.sL (List.drop (0 : Nat) (List.take n (undeep.uL (bsA (p ++ q))))))] [slB (List.take n (p ++ q))] (AV.tup [AV.own true (2 : Nat) (tsF o), ni (0 : Nat)]))
    (h33 : freshA (AV.tup [AV.own true (2 : Nat) (tsF o), ni (0 : Nat)]) = true)
    (h34 : AV.tup (deepT [AV.own true (2 : Nat) (tsF o), ni (0 : Nat)]) = AV.tup [AV.own true (2 : Nat) (tsD o), ni (0 : Nat)])
    (h35 : (tsS b).all (okElem (2 : Nat)) = true)
    (h36 : ((deepen.dL (tsF a)).length + (tsS b).length) * (32 : Nat) ≤ (140737488355328 : Nat))
    (h37 : AV.own true (2 : Nat) (deepen.dL (tsF a) ++ tsS b) = AV.own true (2 : Nat) (tsD a ++ tsS b))
    (h38 : (↑(tsD a ++ tsS b).length : Int) = (↑(a ++ b).length : Int))
    (h39 : Runs Try.prog T5 (131 : Nat) (Cd.loop [] lp5x0) (sPfs (tsD a ++ tsS b) o (a ++ b).length (0 : Nat) (0 : Nat) (0 : Nat) n) fun x => x = (Ex.exit (0 : Nat), sPes o bo sz n))
    (h40 : decide ((↑sz : Int) ≤ (↑n : Int)) = false)
    (h41 : ((↑bo : Int) == (↑n : Int)) = true) :
    WayF Try.prog 5 T5 fd5 [(20, .c [] (.bool true)), (24, .c [slT a] (.own true 2 (tsF a))), (25, .c [slT a] (.tup [.own true 1 (bsA p), ni 0])), (25, .n (.tup [.own true 1 (bsA p), ni 0])), (30, .c [slT b] (.own true 2 (tsF b))), (31, .c [slT b] (.tup [.own true 1 (bsA q), ni 0])), (31, .n (.tup [.own true 1 (bsA q), ni 0])), (36, .c [slT a] (.own true 2 (tsF a))), (38, .c [slT b] (.own true 2 (tsF b))), (39, .q), (40, .c [slT (a ++ b)] (.tup [.own true 1 (bsA (p ++ q)), ni 0])), (40, .n (.tup [.own true 1 (bsA (p ++ q)), ni 0])), (54, .i (p.length + q.length : Nat)), (55, .b false), (69, .c [slB p] (.own true 1 (bsA p))), (69, .n (.own true 1 (bsA p))), (71, .q), (72, .c [slB (p ++ q), slB (p ++ q)] (.bool true)), (76, .i u), (79, .i ((p ++ q).length + 1 : Nat)), (80, .q), (80, .i n), (84, .q), (85, .c [slB ((p ++ q).take n)] (.tup [.own true 2 (tsF o), ni 0])), (85, .n (.tup [.own true 2 (tsD o), ni 0])), (89, .c [slT a] (.own true 2 (tsF a))), (91, .q), (91, .n (.own true 2 (tsD a ++ tsS b))), (92, .i (a ++ b).length), (0, .lp (sPfs (tsD a ++ tsS b) o (a ++ b).length 0 0 0 n) (.exit 0) (sPes o bo sz n)), (110, .b false), (116, .b true)] [slT a, slT b, .int .u16 u] (.bool true) :=
  fn_of_pr hfol ok5 hT5 (show prF Try.prog 5 T5 fd5 [(20, .c [] (.bool true)), (24, .c [slT a] (.own true 2 (tsF a))), (25, .c [slT a] (.tup [.own true 1 (bsA p), ni 0])), (25, .n (.tup [.own true 1 (bsA p), ni 0])), (30, .c [slT b] (.own true 2 (tsF b))), (31, .c [slT b] (.tup [.own true 1 (bsA q), ni 0])), (31, .n (.tup [.own true 1 (bsA q), ni 0])), (36, .c [slT a] (.own true 2 (tsF a))), (38, .c [slT b] (.own true 2 (tsF b))), (39, .q), (40, .c [slT (a ++ b)] (.tup [.own true 1 (bsA (p ++ q)), ni 0])), (40, .n (.tup [.own true 1 (bsA (p ++ q)), ni 0])), (54, .i (p.length + q.length : Nat)), (55, .b false), (69, .c [slB p] (.own true 1 (bsA p))), (69, .n (.own true 1 (bsA p))), (71, .q), (72, .c [slB (p ++ q), slB (p ++ q)] (.bool true)), (76, .i u), (79, .i ((p ++ q).length + 1 : Nat)), (80, .q), (80, .i n), (84, .q), (85, .c [slB ((p ++ q).take n)] (.tup [.own true 2 (tsF o), ni 0])), (85, .n (.tup [.own true 2 (tsD o), ni 0])), (89, .c [slT a] (.own true 2 (tsF a))), (91, .q), (91, .n (.own true 2 (tsD a ++ tsS b))), (92, .i (a ++ b).length), (0, .lp (sPfs (tsD a ++ tsS b) o (a ++ b).length 0 0 0 n) (.exit 0) (sPes o bo sz n)), (110, .b false), (116, .b true)] [slT a, slT b, .int .u16 u] (.bool true) = some _ by kernel_rfl) (AllP.c h1 (AllP.c (show freshA (AV.bool true) = true by kernel_rfl) (AllP.c h2 (AllP.c h3 (AllP.c h4 (AllP.c h5 (AllP.c h6 (AllP.c h7 (AllP.c h8 (AllP.c h9 (AllP.c h10 (AllP.c h11 (AllP.c h2 (AllP.c h3 (AllP.c h7 (AllP.c h8 (AllP.c h12 (AllP.c h13 (AllP.c h14 (AllP.c h15 (AllP.c h16 (AllP.c h17 (AllP.c h18 (AllP.c h19 (AllP.c h20 (AllP.c h21 (AllP.c h22 (AllP.c h23 (AllP.c h24 (AllP.c h25 (AllP.c h26 (AllP.c (show freshA (AV.bool true) = true by kernel_rfl) (AllP.c h27 (AllP.c h28 (AllP.c h29 (AllP.c h30 (AllP.c (show (0 : Int) ≤ (0 : Int) by decide) (AllP.c (show (0 : Int) ≤ (↑n : Int) from Int.natCast_nonneg _) (AllP.c h31 (AllP.c h32 (AllP.c h33 (AllP.c h34 (AllP.c h2 (AllP.c h3 (AllP.c h35 (AllP.c h36 (AllP.c h37 (AllP.c h38 (AllP.c (LeR.refl (x := AV.int IntKind.i64 (↑n : Int))) (AllP.c (LeR.refl (x := AV.own true (2 : Nat) (tsD o))) (AllP.c (LeR.refl (x := AV.int IntKind.i64 (↑(0 : Nat) : Int))) (AllP.c (LeR.refl (x := AV.int IntKind.i64 (↑(0 : Nat) : Int))) (AllP.c (LeR.refl (x := AV.int IntKind.i64 (↑(0 : Nat) : Int))) (AllP.c (LeR.refl (x := AV.own true (2 : Nat) (tsD a ++ tsS b))) (AllP.c (LeR.refl (x := AV.int IntKind.i64 (↑(a ++ b).length : Int))) (AllP.c (LeR.refl (x := AV.int IntKind.i64 (↑(0 : Nat) : Int))) (AllP.c (LeR.refl (x := AV.mem [])) (AllP.c h39 (AllP.c h40 (AllP.c h41 (AllP.c (show AV.bool true = AV.bool true by kernel_rfl) AllP.n)))))))))))))))))))))))))))))))))))))))))))))))))))))))))))))
theorem Parts_n0le (a b : List TLV) (p q : List UInt8) (u : Nat) (o : List TLV) (n bo sz : Nat)
    (h1 : FnW Try.prog (7 : FuncId) [] [] (AV.bool true))
    (h2 : FnW Try.prog (9 : FuncId) [AV.sl false false (2 : Nat) (stale.sL (tsS a))] [slT a] (AV.own true (2 : Nat) (tsF a)))
    (h3 : freshA (AV.own true (2 : Nat) (tsF a)) = true)
    (h4 : FnW Try.prog (15 : FuncId) [AV.sl false false (2 : Nat) (stale.sL (undeep.uL (deepen.dL (tsF a))))] [slT a] (AV.tup [AV.own true (1 : Nat) (bsA p), ni (0 : Nat)]))
    (h5 : freshA (AV.tup [AV.own true (1 : Nat) (bsA p), ni (0 : Nat)]) = true)
    (h6 : AV.tup (deepT [AV.own true (1 : Nat) (bsA p), ni (0 : Nat)]) = AV.tup [AV.own true (1 : Nat) (bsA p), ni (0 : Nat)])
    (h7 : FnW Try.prog (9 : FuncId) [AV.sl false false (2 : Nat) (stale.sL (tsS b))] [slT b] (AV.own true (2 : Nat) (tsF b)))
    (h8 : freshA (AV.own true (2 : Nat) (tsF b)) = true)
    (h9 : FnW Try.prog (15 : FuncId) [AV.sl false false (2 : Nat) (stale.sL (undeep.uL (deepen.dL (tsF b))))] [slT b] (AV.tup [AV.own true (1 : Nat) (bsA q), ni (0 : Nat)]))
    (h10 : freshA (AV.tup [AV.own true (1 : Nat) (bsA q), ni (0 : Nat)]) = true)
    (h11 : AV.tup (deepT [AV.own true (1 : Nat) (bsA q), ni (0 : Nat)]) = AV.tup [AV.own true (1 : Nat) (bsA q), ni (0 : Nat)])
    (h12 : (deepen.dL (tsF b)).all flat = true)
    (h13 : (deepen.dL (tsF b)).all (okElem (2 : Nat)) = true)
    (h14 : ((deepen.dL (tsF a)).length + (deepen.dL (tsF b)).length) * (32 : Nat) ≤ (140737488355328 : Nat))
    (h15 : FnW Try.prog (15 : FuncId) [AV.sl false false (2 : Nat) (stale.sL (undeep.uL (deepen.dL (tsF a) ++ deepen.dL (tsF b))))] [slT (a ++ b)] (AV.tup [AV.own true (1 : Nat) (bsA (p ++ q)), ni (0 : Nat)]))
    (h16 : freshA (AV.tup [AV.own true (1 : Nat) (bsA (p ++ q)), ni (0 : Nat)]) = true)
    (h17 : AV.tup (deepT [AV.own true (1 : Nat) (bsA (p ++ q)), ni (0 : Nat)]) = AV.tup [AV.own true (1 : Nat) (bsA (p ++ q)), ni (0 : Nat)])
    (h18 : IntKind.i64.wrap ((↑(bsA p).length : Int) + (↑(bsA q).length : Int)) = (↑(p.length + q.length) : Int))
    (h19 : decide ((↑(p.length + q.length) : Int) > (1492 : Int)) = false)
    (h20 : FnW Try.prog (18 : FuncId) [AV.sl false false (1 : Nat) (stale.sL (undeep.uL (bsA p)))] [slB p] (AV.own true (1 : Nat) (bsA p)))
    (h21 : freshA (AV.own true (1 : Nat) (bsA p)) = true)
    (h22 : AV.own true (1 : Nat) (deepen.dL (bsA p)) = AV.own true (1 : Nat) (bsA p))
    (h23 : (bsA q).all flat = true)
    (h24 : (bsA q).all (okElem (1 : Nat)) = true)
    (h25 : ((bsA p).length + (bsA q).length) * (1 : Nat) ≤ (140737488355328 : Nat))
    (h26 : FnW Try.prog (16 : FuncId) [AV.sl false false (1 : Nat) (stale.sL (undeep.uL (bsA (p ++ q)))), AV.sl false false (1 : Nat) (stale.sL (undeep.uL (bsA p ++ bsA q)))] [slB (p ++ q), slB (p ++ q)] (AV.bool true))
    (h27 : IntKind.i64.wrap (↑u : Int) = (↑u : Int))
    (h28 : IntKind.i64.wrap ((↑(bsA (p ++ q)).length : Int) + (1 : Int)) = (↑((p ++ q).length + (1 : Nat)) : Int))
    (h29 : (↑((p ++ q).length + (1 : Nat)) : Int) ≠ (0 : Int))
    (h30 : (↑u : Int).tmod (↑((p ++ q).length + (1 : Nat)) : Int) = (↑n : Int))
    (h31 : (↑n : Int) ≤ (↑(undeep.uL (bsA (p ++ q))).length : Int))
    (h32 : FnW Try.prog (12 : FuncId) [AV.sl false (false || !(undeep.uL (bsA (p ++ q))).isEmpty) (1 : Nat) (stale.sL (List.drop (0 : Nat) (List.take n (undeep.uL (bsA (p ++ q))))))] [slB (List.take n (p ++ q))] (AV.tup [AV.nils, ni (3 : Nat)]))
    (h33 : (tsS b).all (okElem (2 : Nat)) = true)
    (h34 : ((deepen.dL (tsF a)).length + (tsS b).length) * (32 : Nat) ≤ (140737488355328 : Nat))
    (h35 : AV.own true (2 : Nat) (deepen.dL (tsF a) ++ tsS b) = AV.own true (2 : Nat) (tsD a ++ tsS b))
    (h36 : (↑(tsD a ++ tsS b).length : Int) = (↑(a ++ b).length : Int))
    (h37 : Runs Try.prog T5 (131 : Nat) (Cd.loop [] lp5x0) (sPfn (tsD a ++ tsS b) o (a ++ b).length (0 : Nat) (0 : Nat) (0 : Nat) n) fun x => x = (Ex.exit (0 : Nat), sPen o bo sz n))
    (h38 : decide ((↑sz : Int) ≤ (↑n : Int)) = true)
    (h39 : ((↑sz : Int) == (↑n : Int)) = false) :
    WayF Try.prog 5 T5 fd5 [(20, .c [] (.bool true)), (24, .c [slT a] (.own true 2 (tsF a))), (25, .c [slT a] (.tup [.own true 1 (bsA p), ni 0])), (25, .n (.tup [.own true 1 (bsA p), ni 0])), (30, .c [slT b] (.own true 2 (tsF b))), (31, .c [slT b] (.tup [.own true 1 (bsA q), ni 0])), (31, .n (.tup [.own true 1 (bsA q), ni 0])), (36, .c [slT a] (.own true 2 (tsF a))), (38, .c [slT b] (.own true 2 (tsF b))), (39, .q), (40, .c [slT (a ++ b)] (.tup [.own true 1 (bsA (p ++ q)), ni 0])), (40, .n (.tup [.own true 1 (bsA (p ++ q)), ni 0])), (54, .i (p.length + q.length : Nat)), (55, .b false), (69, .c [slB p] (.own true 1 (bsA p))), (69, .n (.own true 1 (bsA p))), (71, .q), (72, .c [slB (p ++ q), slB (p ++ q)] (.bool true)), (76, .i u), (79, .i ((p ++ q).length + 1 : Nat)), (80, .q), (80, .i n), (84, .q), (85, .c [slB ((p ++ q).take n)] (.tup [.nils, ni 3])), (85, .n (.tup [.nils, ni 3])), (89, .c [slT a] (.own true 2 (tsF a))), (91, .q), (91, .n (.own true 2 (tsD a ++ tsS b))), (92, .i (a ++ b).length), (0, .lp (sPfn (tsD a ++ tsS b) o (a ++ b).length 0 0 0 n) (.exit 0) (sPen o bo sz n)), (110, .b true), (116, .b false)] [slT a, slT b, .int .u16 u] (.bool true) :=
  fn_of_pr hfol ok5 hT5 (show prF Try.prog 5 T5 fd5 [(20, .c [] (.bool true)), (24, .c [slT a] (.own true 2 (tsF a))), (25, .c [slT a] (.tup [.own true 1 (bsA p), ni 0])), (25, .n (.tup [.own true 1 (bsA p), ni 0])), (30, .c [slT b] (.own true 2 (tsF b))), (31, .c [slT b] (.tup [.own true 1 (bsA q), ni 0])), (31, .n (.tup [.own true 1 (bsA q), ni 0])), (36, .c [slT a] (.own true 2 (tsF a))), (38, .c [slT b] (.own true 2 (tsF b))), (39, .q), (40, .c [slT (a ++ b)] (.tup [.own true 1 (bsA (p ++ q)), ni 0])), (40, .n (.tup [.own true 1 (bsA (p ++ q)), ni 0])), (54, .i (p.length + q.length : Nat)), (55, .b false), (69, .c [slB p] (.own true 1 (bsA p))), (69, .n (.own true 1 (bsA p))), (71, .q), (72, .c [slB (p ++ q), slB (p ++ q)] (.bool true)), (76, .i u), (79, .i ((p ++ q).length + 1 : Nat)), (80, .q), (80, .i n), (84, .q), (85, .c [slB ((p ++ q).take n)] (.tup [.nils, ni 3])), (85, .n (.tup [.nils, ni 3])), (89, .c [slT a] (.own true 2 (tsF a))), (91, .q), (91, .n (.own true 2 (tsD a ++ tsS b))), (92, .i (a ++ b).length), (0, .lp (sPfn (tsD a ++ tsS b) o (a ++ b).length 0 0 0 n) (.exit 0) (sPen o bo sz n)), (110, .b true), (116, .b false)] [slT a, slT b, .int .u16 u] (.bool true) = some _ by kernel_rfl) (AllP.c h1 (AllP.c (show freshA (AV.bool true) = true by kernel_rfl) (AllP.c h2 (AllP.c h3 (AllP.c h4 (AllP.c h5 (AllP.c h6 (AllP.c h7 (AllP.c h8 (AllP.c h9 (AllP.c h10 (AllP.c h11 (AllP.c h2 (AllP.c h3 (AllP.c h7 (AllP.c h8 (AllP.c h12 (AllP.c h13 (AllP.c h14 (AllP.c h15 (AllP.c h16 (AllP.c h17 (AllP.c h18 (AllP.c h19 (AllP.c h20 (AllP.c h21 (AllP.c h22 (AllP.c h23 (AllP.c h24 (AllP.c h25 (AllP.c h26 (AllP.c (show freshA (AV.bool true) = true by kernel_rfl) (AllP.c h27 (AllP.c h28 (AllP.c h29 (AllP.c h30 (AllP.c (show (0 : Int) ≤ (0 : Int) by decide) (AllP.c (show (0 : Int) ≤ (↑n : Int) from Int.natCast_nonneg _) (AllP.c h31 (AllP.c h32 (AllP.c (show freshA (AV.tup [AV.nils, ni (3 : Nat)]) = true by kernel_rfl) (AllP.c (show AV.tup [AV.nils, ni (3 : Nat)] = AV.tup [AV.nils, ni (3 : Nat)] by kernel_rfl) (AllP.c h2 (AllP.c h3 (AllP.c h33 (AllP.c h34 (AllP.c h35 (AllP.c h36 (AllP.c (LeR.refl (x := AV.int IntKind.i64 (↑n : Int))) (AllP.c (LeR.refl (x := AV.nils)) (AllP.c (LeR.refl (x := AV.int IntKind.i64 (↑(3 : Nat) : Int))) (AllP.c (LeR.refl (x := AV.int IntKind.i64 (↑(0 : Nat) : Int))) (AllP.c (LeR.refl (x := AV.int IntKind.i64 (↑(0 : Nat) : Int))) (AllP.c (LeR.refl (x := AV.own true (2 : Nat) (tsD a ++ tsS b))) (AllP.c (LeR.refl (x := AV.int IntKind.i64 (↑(a ++ b).length : Int))) (AllP.c (LeR.refl (x := AV.int IntKind.i64 (↑(0 : Nat) : Int))) (AllP.c (LeR.refl (x := AV.mem [])) (AllP.c h37 (AllP.c h38 (AllP.c h39 (AllP.c (show AV.bool ((0 : Int) == (0 : Int)) = AV.bool true by kernel_rfl) AllP.n)))))))))))))))))))))))))))))))))))))))))))))))))))))))))))))
theorem Parts_n0gt (a b : List TLV) (p q : List UInt8) (u : Nat) (o : List TLV) (n bo sz : Nat)
    (h1 : FnW Try.prog (7 : FuncId) [] [] (AV.bool true))
    (h2 : FnW Try.prog (9 : FuncId) [AV.sl false false (2 : Nat) (stale.sL (tsS a))] [slT a] (AV.own true (2 : Nat) (tsF a)))
    (h3 : freshA (AV.own true (2 : Nat) (tsF a)) = true)
    (h4 : FnW Try.prog (15 : FuncId) [AV.sl false false (2 : Nat) (stale.sL (undeep.uL (deepen.dL (tsF a))))] [slT a] (AV.tup [AV.own true (1 : Nat) (bsA p), ni (0 : Nat)]))
    (h5 : freshA (AV.tup [AV.own true (1 : Nat) (bsA p), ni (0 : Nat)]) = true)
    (h6 : AV.tup (deepT [AV.own true (1 : Nat) (bsA p), ni (0 : Nat)]) = AV.tup [AV.own true (1 : Nat) (bsA p), ni (0 : Nat)])
    (h7 : FnW Try.prog (9 : FuncId) [AV.sl false false (2 : Nat) (stale.sL (tsS b))] [slT b] (AV.own true (2 : Nat) (tsF b)))
    (h8 : freshA (AV.own true (2 : Nat) (tsF b)) = true)
    (h9 : FnW Try.prog (15 : FuncId) [AV.sl false false (2 : Nat) (stale.sL (undeep.uL (deepen.dL (tsF b))))] [slT b] (AV.tup [AV.own true (1 : Nat) (bsA q), ni (0 : Nat)]))
    (h10 : freshA (AV.tup [AV.own true (1 : Nat) (bsA q), ni (0 : Nat)]) = true)
    (h11 : AV.tup (deepT [AV.own true (1 : Nat) (bsA q), ni (0 : Nat)]) = AV.tup [AV.own true (1 : Nat) (bsA q), ni (0 : Nat)])
    (h12 : (deepen.dL (tsF b)).all flat = true)
    (h13 : (deepen.dL (tsF b)).all (okElem (2 : Nat)) = true)
    (h14 : ((deepen.dL (tsF a)).length + (deepen.dL (tsF b)).length) * (32 : Nat) ≤ (140737488355328 : Nat))
    (h15 : FnW Try.prog (15 : FuncId) [AV.sl false false (2 : Nat) (stale.sL (undeep.uL (deepen.dL (tsF a) ++ deepen.dL (tsF b))))] [slT (a ++ b)] (AV.tup [AV.own true (1 : Nat) (bsA (p ++ q)), ni (0 : Nat)]))
    (h16 : freshA (AV.tup [AV.own true (1 : Nat) (bsA (p ++ q)), ni (0 : Nat)]) = true)
    (h17 : AV.tup (deepT [AV.own true (1 : Nat) (bsA (p ++ q)), ni (0 : Nat)]) = AV.tup [AV.own true (1 : Nat) (bsA (p ++ q)), ni (0 : Nat)])
    (h18 : IntKind.i64.wrap ((↑(bsA p).length : Int) + (↑(bsA q).length : Int)) = (↑(p.length + q.length) : Int))
    (h19 : decide ((↑(p.length + q.length) : Int) > (1492 : Int)) = false)
    (h20 : FnW Try.prog (18 : FuncId) [AV.sl false false (1 : Nat) (stale.sL (undeep.uL (bsA p)))] [slB p] (AV.own true (1 : Nat) (bsA p)))
    (h21 : freshA (AV.own true (1 : Nat) (bsA p)) = true)
    (h22 : AV.own true (1 : Nat) (deepen.dL (bsA p)) = AV.own true (1 : Nat) (bsA p))
    (h23 : (bsA q).all flat = true)
    (h24 : (bsA q).all (okElem (1 : Nat)) = true)
    (h25 : ((bsA p).length + (bsA q).length) * (1 : Nat) ≤ (140737488355328 : Nat))
    (h26 : FnW Try.prog (16 : FuncId) [AV.sl false false (1 : Nat) (stale.sL (undeep.uL (bsA (p ++ q)))), AV.sl false false (1 : Nat) (stale.sL (undeep.uL (bsA p ++ bsA q)))] [slB (p ++ q), slB (p ++ q)] (AV.bool true))
    (h27 : IntKind.i64.wrap (↑u : Int) = (↑u : Int))
    (h28 : IntKind.i64.wrap ((↑(bsA (p ++ q)).length : Int) + (1 : Int)) = (↑((p ++ q).length + (1 : Nat)) : Int))
    (h29 : (↑((p ++ q).length + (1 : Nat)) : Int) ≠ (0 : Int))
    (h30 : (↑u : Int).tmod (↑((p ++ q).length + (1 : Nat)) : Int) = (↑n : Int))
    (h31 : (↑n : Int) ≤ (↑(undeep.uL (bsA (p ++ q))).length : Int))
    (h32 : FnW Try.prog (12 : FuncId) [AV.sl false (false || !(undeep.uL (bsA (p ++ q))).isEmpty) (1 : Nat) (stale.sL (List.drop (0 : Nat) (List.take n (undeep.uL (bsA (p ++ q))))))] [slB (List.take n (p ++ q))] (AV.tup [AV.nils, ni (3 : Nat)]))
    (h33 : (tsS b).all (okElem (2 : Nat)) = true)
    (h34 : ((deepen.dL (tsF a)).length + (tsS b).length) * (32 : Nat) ≤ (140737488355328 : Nat))
    (h35 : AV.own true (2 : Nat) (deepen.dL (tsF a) ++ tsS b) = AV.own true (2 : Nat) (tsD a ++ tsS b))
    (h36 : (↑(tsD a ++ tsS b).length : Int) = (↑(a ++ b).length : Int))
    (h37 : Runs Try.prog T5 (131 : Nat) (Cd.loop [] lp5x0) (sPfn (tsD a ++ tsS b) o (a ++ b).length (0 : Nat) (0 : Nat) (0 : Nat) n) fun x => x = (Ex.exit (0 : Nat), sPen o bo sz n))
    (h38 : decide ((↑sz : Int) ≤ (↑n : Int)) = false)
    (h39 : ((↑bo : Int) == (↑n : Int)) = false) :
    WayF Try.prog 5 T5 fd5 [(20, .c [] (.bool true)), (24, .c [slT a] (.own true 2 (tsF a))), (25, .c [slT a] (.tup [.own true 1 (bsA p), ni 0])), (25, .n (.tup [.own true 1 (bsA p), ni 0])), (30, .c [slT b] (.own true 2 (tsF b))), (31, .c [slT b] (.tup [.own true 1 (bsA q), ni 0])), (31, .n (.tup [.own true 1 (bsA q), ni 0])), (36, .c [slT a] (.own true 2 (tsF a))), (38, .c [slT b] (.own true 2 (tsF b))), (39, .q), (40, .c [slT (a ++ b)] (.tup [.own true 1 (bsA (p ++ q)), ni 0])), (40, .n (.tup [.own true 1 (bsA (p ++ q)), ni 0])), (54, .i (p.length + q.length : Nat)), (55, .b false), (69, .c [slB p] (.own true 1 (bsA p))), (69, .n (.own true 1 (bsA p))), (71, .q), (72, .c [slB (p ++ q), slB (p ++ q)] (.bool true)), (76, .i u), (79, .i ((p ++ q).length + 1 : Nat)), (80, .q), (80, .i n), (84, .q), (85, .c [slB ((p ++ q).take n)] (.tup [.nils, ni 3])), (85, .n (.tup [.nils, ni 3])), (89, .c [slT a] (.own true 2 (tsF a))), (91, .q), (91, .n (.own true 2 (tsD a ++ tsS b))), (92, .i (a ++ b).length), (0, .lp (sPfn (tsD a ++ tsS b) o (a ++ b).length 0 0 0 n) (.exit 0) (sPen o bo sz n)), (110, .b false), (116, .b false)] [slT a, slT b, .int .u16 u] (.bool true) :=
  fn_of_pr hfol ok5 hT5 (show prF Try.prog 5 T5 fd5 [(20, .c [] (.bool true)), (24, .c [slT a] (.own true 2 (tsF a))), (25, .c [slT a] (.tup [.own true 1 (bsA p), ni 0])), (25, .n (.tup [.own true 1 (bsA p), ni 0])), (30, .c [slT b] (.own true 2 (tsF b))), (31, .c [slT b] (.tup [.own true 1 (bsA q), ni 0])), (31, .n (.tup [.own true 1 (bsA q), ni 0])), (36, .c [slT a] (.own true 2 (tsF a))), (38, .c [slT b] (.own true 2 (tsF b))), (39, .q), (40, .c [slT (a ++ b)] (.tup [.own true 1 (bsA (p ++ q)), ni 0])), (40, .n (.tup [.own true 1 (bsA (p ++ q)), ni 0])), (54, .i (p.length + q.length : Nat)), (55, .b false), (69, .c [slB p] (.own true 1 (bsA p))), (69, .n (.own true 1 (bsA p))), (71, .q), (72, .c [slB (p ++ q), slB (p ++ q)] (.bool true)), (76, .i u), (79, .i ((p ++ q).length + 1 : Nat)), (80, .q), (80, .i n), (84, .q), (85, .c [slB ((p ++ q).take n)] (.tup [.nils, ni 3])), (85, .n (.tup [.nils, ni 3])), (89, .c [slT a] (.own true 2 (tsF a))), (91, .q), (91, .n (.own true 2 (tsD a ++ tsS b))), (92, .i (a ++ b).length), (0, .lp (sPfn (tsD a ++ tsS b) o (a ++ b).length 0 0 0 n) (.exit 0) (sPen o bo sz n)), (110, .b false), (116, .b false)] [slT a, slT b, .int .u16 u] (.bool true) = some _ by kernel_rfl) (AllP.c h1 (AllP.c (show freshA (AV.bool true) = true by kernel_rfl) (AllP.c h2 (AllP.c h3 (AllP.c h4 (AllP.c h5 (AllP.c h6 (AllP.c h7 (AllP.c h8 (AllP.c h9 (AllP.c h10 (AllP.c h11 (AllP.c h2 (AllP.c h3 (AllP.c h7 (AllP.c h8 (AllP.c h12 (AllP.c h13 (AllP.c h14 (AllP.c h15 (AllP.c h16 (AllP.c h17 (AllP.c h18 (AllP.c h19 (AllP.c h20 (AllP.c h21 (AllP.c h22 (AllP.c h23 (AllP.c h24 (AllP.c h25 (AllP.c h26 (AllP.c (show freshA (AV.bool true) = true by kernel_rfl) (AllP.c h27 (AllP.c h28 (AllP.c h29 (AllP.c h30 (AllP.c (show (0 : Int) ≤ (0 : Int) by decide) (AllP.c (show (0 : Int) ≤ (↑n : Int) from Int.natCast_nonneg _) (AllP.c h31 (AllP.c h32 (AllP.c (show freshA (AV.tup [AV.nils, ni (3 : Nat)]) = true by kernel_rfl) (AllP.c (show AV.tup [AV.nils, ni (3 : Nat)] = AV.tup [AV.nils, ni (3 : Nat)] by kernel_rfl) (AllP.c h2 (AllP.c h3 (AllP.c h33 (AllP.c h34 (AllP.c h35 (AllP.c h36 (AllP.c (LeR.refl (x := AV.int IntKind.i64 (↑n : Int))) (AllP.c (LeR.refl (x := AV.nils)) (AllP.c (LeR.refl (x := AV.int IntKind.i64 (↑(3 : Nat) : Int))) (AllP.c (LeR.refl (x := AV.int IntKind.i64 (↑(0 : Nat) : Int))) (AllP.c (LeR.refl (x := AV.int IntKind.i64 (↑(0 : Nat) : Int))) (AllP.c (LeR.refl (x := AV.own true (2 : Nat) (tsD a ++ tsS b))) (AllP.c (LeR.refl (x := AV.int IntKind.i64 (↑(a ++ b).length : Int))) (AllP.c (LeR.refl (x := AV.int IntKind.i64 (↑(0 : Nat) : Int))) (AllP.c (LeR.refl (x := AV.mem [])) (AllP.c h37 (AllP.c h38 (AllP.c h39 (AllP.c (show AV.bool ((0 : Int) == (0 : Int)) = AV.bool true by kernel_rfl) AllP.n)))))))))))))))))))))))))))))))))))))))))))))))))))))))))))))
theorem Parts_s1le (a b : List TLV) (p q : List UInt8) (u : Nat) (o : List TLV) (n bo sz : Nat)
    (h1 : FnW Try.prog (7 : FuncId) [] [] (AV.bool true))
    (h2 : FnW Try.prog (9 : FuncId) [AV.sl false false (2 : Nat) (stale.sL (tsS a))] [slT a] (AV.own true (2 : Nat) (tsF a)))
    (h3 : freshA (AV.own true (2 : Nat) (tsF a)) = true)
    (h4 : FnW Try.prog (15 : FuncId) [AV.sl false false (2 : Nat) (stale.sL (undeep.uL (deepen.dL (tsF a))))] [slT a] (AV.tup [AV.own true (1 : Nat) (bsA p), ni (0 : Nat)]))
    (h5 : freshA (AV.tup [AV.own true (1 : Nat) (bsA p), ni (0 : Nat)]) = true)
    (h6 : AV.tup (deepT [AV.own true (1 : Nat) (bsA p), ni (0 : Nat)]) = AV.tup [AV.own true (1 : Nat) (bsA p), ni (0 : Nat)])
    (h7 : FnW Try.prog (9 : FuncId) [AV.sl false false (2 : Nat) (stale.sL (tsS b))] [slT b] (AV.own true (2 : Nat) (tsF b)))
    (h8 : freshA (AV.own true (2 : Nat) (tsF b)) = true)
    (h9 : FnW Try.prog (15 : FuncId) [AV.sl false false (2 : Nat) (stale.sL (undeep.uL (deepen.dL (tsF b))))] [slT b] (AV.tup [AV.own true (1 : Nat) (bsA q), ni (0 : Nat)]))
    (h10 : freshA (AV.tup [AV.own true (1 : Nat) (bsA q), ni (0 : Nat)]) = true)
    (h11 : AV.tup (deepT [AV.own true (1 : Nat) (bsA q), ni (0 : Nat)]) = AV.tup [AV.own true (1 : Nat) (bsA q), ni (0 : Nat)])
    (h12 : (deepen.dL (tsF b)).all flat = false)
    (h13 : (undeep.uL (deepen.dL (tsF b))).all (okElem (2 : Nat)) = true)
    (h14 : ((deepen.dL (tsF a)).length + (undeep.uL (deepen.dL (tsF b))).length) * (32 : Nat) ≤ (140737488355328 : Nat))
    (h15 : FnW Try.prog (15 : FuncId) [AV.sl false false (2 : Nat) (stale.sL (undeep.uL (deepen.dL (tsF a) ++ undeep.uL (deepen.dL (tsF b)))))] [slT (a ++ b)] (AV.tup [AV.own true (1 : Nat) (bsA (p ++ q)), ni (0 : Nat)]))
    (h16 : freshA (AV.tup [AV.own true (1 : Nat) (bsA (p ++ q)), ni (0 : Nat)]) = true)
    (h17 : AV.tup (deepT [AV.own true (1 : Nat) (bsA (p ++ q)), ni (0 : Nat)]) = AV.tup [AV.own true (1 : Nat) (bsA (p ++ q)), ni (0 : Nat)])
    (h18 : IntKind.i64.wrap ((↑(bsA p).length : Int) + (↑(bsA q).length : Int)) = (↑(p.length + q.length) : Int))
    (h19 : decide ((↑(p.length + q.length) : Int) > (1492 : Int)) = false)
    (h20 : FnW Try.prog (18 : FuncId) [AV.sl false false (1 : Nat) (stale.sL (undeep.uL (bsA p)))] [slB p] (AV.own true (1 : Nat) (bsA p)))
    (h21 : freshA (AV.own true (1 : Nat) (bsA p)) = true)
    (h22 : AV.own true (1 : Nat) (deepen.dL (bsA p)) = AV.own true (1 : Nat) (bsA p))
    (h23 : (bsA q).all flat = true)
    (h24 : (bsA q).all (okElem (1 : Nat)) = true)
    (h25 : ((bsA p).length + (bsA q).length) * (1 : Nat) ≤ (140737488355328 : Nat))
    (h26 : FnW Try.prog (16 : FuncId) [AV.sl false false (1 : Nat) (stale.sL (undeep.uL (bsA (p ++ q)))), AV.sl false false (1 : Nat) (stale.sL (undeep.uL (bsA p ++ bsA q)))] [slB (p ++ q), slB (p ++ q)] (AV.bool true))
    (h27 : IntKind.i64.wrap (↑u : Int) = (↑u : Int))
    (h28 : IntKind.i64.wrap ((↑(bsA (p ++ q)).length : Int) + (1 : Int)) = (↑((p ++ q).length + (1 : Nat)) : Int))
    (h29 : (↑((p ++ q).length + (1 : Nat)) : Int) ≠ (0 : Int))
    (h30 : (↑u : Int).tmod (↑((p ++ q).length + (1 : Nat)) : Int) = (↑n : Int))
    (h31 : (↑n : Int) ≤ (↑(undeep.uL (bsA (p ++ q))).length : Int))
    (h32 : FnW Try.prog (12 : FuncId) [AV.sl false (false || !(undeep.uL (bsA (p ++ q))).isEmpty) (1 : Nat) (stale.sL (List.drop (0 : Nat) (List.take n (undeep.uL (bsA (p ++ q))))))] [slB (List.take n (p ++ q))] (AV.tup [AV.own true (2 : Nat) (tsF o), ni (0 : Nat)]))
    (h33 : freshA (AV.tup [AV.own true (2 : Nat) (tsF o), ni (0 : Nat)]) = true)
    (h34 : AV.tup (deepT [AV.own true (2 : Nat) (tsF o), ni (0 : Nat)]) = AV.tup [AV.own true (2 : Nat) (tsD o), ni (0 : Nat)])
    (h35 : (tsS b).all (okElem (2 : Nat)) = true)
    (h36 : ((deepen.dL (tsF a)).length + (tsS b).length) * (32 : Nat) ≤ (140737488355328 : Nat))
    (h37 : AV.own true (2 : Nat) (deepen.dL (tsF a) ++ tsS b) = AV.own true (2 : Nat) (tsD a ++ tsS b))
    (h38 : (↑(tsD a ++ tsS b).length : Int) = (↑(a ++ b).length : Int))
    (h39 : Runs Try.prog T5 (131 : Nat) (Cd.loop [] lp5x0) (sPfs (tsD a ++ tsS b) o (a ++ b).length (0 : Nat) (0 : Nat) (0 : Nat) n) fun x => x = (Ex.exit (0 : Nat), sPes o bo sz n))
    (h40 : decide ((↑sz : Int) ≤ (↑n : Int)) = true)
    (h41 : ((↑sz : Int) == (↑n : Int)) = true) :
    WayF Try.prog 5 T5 fd5 [(20, .c [] (.bool true)), (24, .c [slT a] (.own true 2 (tsF a))), (25, .c [slT a] (.tup [.own true 1 (bsA p), ni 0])), (25, .n (.tup [.own true 1 (bsA p), ni 0])), (30, .c [slT b] (.own true 2 (tsF b))), (31, .c [slT b] (.tup [.own true 1 (bsA q), ni 0])), (31, .n (.tup [.own true 1 (bsA q), ni 0])), (36, .c [slT a] (.own true 2 (tsF a))), (38, .c [slT b] (.own true 2 (tsF b))), (39, .q2), (40, .c [slT (a ++ b)] (.tup [.own true 1 (bsA (p ++ q)), ni 0])), (40, .n (.tup [.own true 1 (bsA (p ++ q)), ni 0])), (54, .i (p.length + q.length : Nat)), (55, .b false), (69, .c [slB p] (.own true 1 (bsA p))), (69, .n (.own true 1 (bsA p))), (71, .q), (72, .c [slB (p ++ q), slB (p ++ q)] (.bool true)), (76, .i u), (79, .i ((p ++ q).length + 1 : Nat)), (80, .q), (80, .i n), (84, .q), (85, .c [slB ((p ++ q).take n)] (.tup [.own true 2 (tsF o), ni 0])), (85, .n (.tup [.own true 2 (tsD o), ni 0])), (89, .c [slT a] (.own true 2 (tsF a))), (91, .q), (91, .n (.own true 2 (tsD a ++ tsS b))), (92, .i (a ++ b).length), (0, .lp (sPfs (tsD a ++ tsS b) o (a ++ b).length 0 0 0 n) (.exit 0) (sPes o bo sz n)), (110, .b true), (116, .b true)] [slT a, slT b, .int .u16 u] (.bool true) :=
  fn_of_pr hfol ok5 hT5 (show prF Try.prog 5 T5 fd5 [(20, .c [] (.bool true)), (24, .c [slT a] (.own true 2 (tsF a))), (25, .c [slT a] (.tup [.own true 1 (bsA p), ni 0])), (25, .n (.tup [.own true 1 (bsA p), ni 0])), (30, .c [slT b] (.own true 2 (tsF b))), (31, .c [slT b] (.tup [.own true 1 (bsA q), ni 0])), (31, .n (.tup [.own true 1 (bsA q), ni 0])), (36, .c [slT a] (.own true 2 (tsF a))), (38, .c [slT b] (.own true 2 (tsF b))), (39, .q2), (40, .c [slT (a ++ b)] (.tup [.own true 1 (bsA (p ++ q)), ni 0])), (40, .n (.tup [.own true 1 (bsA (p ++ q)), ni 0])), (54, .i (p.length + q.length : Nat)), (55, .b false), (69, .c [slB p] (.own true 1 (bsA p))), (69, .n (.own true 1 (bsA p))), (71, .q), (72, .c [slB (p ++ q), slB (p ++ q)] (.bool true)), (76, .i u), (79, .i ((p ++ q).length + 1 : Nat)), (80, .q), (80, .i n), (84, .q), (85, .c [slB ((p ++ q).take n)] (.tup [.own true 2 (tsF o), ni 0])), (85, .n (.tup [.own true 2 (tsD o), ni 0])), (89, .c [slT a] (.own true 2 (tsF a))), (91, .q), (91, .n (.own true 2 (tsD a ++ tsS b))), (92, .i (a ++ b).length), (0, .lp (sPfs (tsD a ++ tsS b) o (a ++ b).length 0 0 0 n) (.exit 0) (sPes o bo sz n)), (110, .b true), (116, .b true)] [slT a, slT b, .int .u16 u] (.bool true) = some _ by kernel_rfl) (AllP.c h1 (AllP.c (show freshA (AV.bool true) = true by kernel_rfl) (AllP.c h2 (AllP.c h3 (AllP.c h4 (AllP.c h5 (AllP.c h6 (AllP.c h7 (AllP.c h8 (AllP.c h9 (AllP.c h10 (AllP.c h11 (AllP.c h2 (AllP.c h3 (AllP.c h7 (AllP.c h8 (AllP.c h12 (AllP.c h13 (AllP.c h14 (AllP.c h15 (AllP.c h16 (AllP.c h17 (AllP.c h18 (AllP.c h19 (AllP.c h20 (AllP.c h21 (AllP.c h22 (AllP.c h23 (AllP.c h24 (AllP.c h25 (AllP.c h26 (AllP.c (show freshA (AV.bool true) = true by kernel_rfl) (AllP.c h27 (AllP.c h28 (AllP.c h29 (AllP.c h30 (AllP.c (show (0 : Int) ≤ (0 : Int) by decide) (AllP.c (show (0 : Int) ≤ (↑n : Int) from Int.natCast_nonneg _) (AllP.c h31 (AllP.c h32 (AllP.c h33 (AllP.c h34 (AllP.c h2 (AllP.c h3 (AllP.c h35 (AllP.c h36 (AllP.c h37 (AllP.c h38 (AllP.c (LeR.refl (x := AV.int IntKind.i64 (↑n : Int))) (AllP.c (LeR.refl (x := AV.own true (2 : Nat) (tsD o))) (AllP.c (LeR.refl (x := AV.int IntKind.i64 (↑(0 : Nat) : Int))) (AllP.c (LeR.refl (x := AV.int IntKind.i64 (↑(0 : Nat) : Int))) (AllP.c (LeR.refl (x := AV.int IntKind.i64 (↑(0 : Nat) : Int))) (AllP.c (LeR.refl (x := AV.own true (2 : Nat) (tsD a ++ tsS b))) (AllP.c (LeR.refl (x := AV.int IntKind.i64 (↑(a ++ b).length : Int))) (AllP.c (LeR.refl (x := AV.int IntKind.i64 (↑(0 : Nat) : Int))) (AllP.c (LeR.refl (x := AV.mem [])) (AllP.c h39 (AllP.c h40 (AllP.c h41 (AllP.c (show AV.bool true = AV.bool true by kernel_rfl) AllP.n)))))))))))))))))))))))))))))))))))))))))))))))))))))))))))))
theorem Parts_s1gt (a b : List TLV) (p q : List UInt8) (u : Nat) (o : List TLV) (n bo sz : Nat)
    (h1 : FnW Try.prog (7 : FuncId) [] [] (AV.bool true))
    (h2 : FnW Try.prog (9 : FuncId) [AV.sl false false (2 : Nat) (stale.sL (tsS a))] [slT a] (AV.own true (2 : Nat) (tsF a)))
    (h3 : freshA (AV.own true (2 : Nat) (tsF a)) = true)
    (h4 : FnW Try.prog (15 : FuncId) [AV.sl false false (2 : Nat) (stale.sL (undeep.uL (deepen.dL (tsF a))))] [slT a] (AV.tup [AV.own true (1 : Nat) (bsA p), ni (0 : Nat)]))
    (h5 : freshA (AV.tup [AV.own true (1 : Nat) (bsA p), ni (0 : Nat)]) = true)
    (h6 : AV.tup (deepT [AV.own true (1 : Nat) (bsA p), ni (0 : Nat)]) = AV.tup [AV.own true (1 : Nat) (bsA p), ni (0 : Nat)])
    (h7 : FnW Try.prog (9 : FuncId) [AV.sl false false (2 : Nat) (stale.sL (tsS b))] [slT b] (AV.own true (2 : Nat) (tsF b)))
    (h8 : freshA (AV.own true (2 : Nat) (tsF b)) = true)
    (h9 : FnW Try.prog (15 : FuncId) [AV.sl false false (2 : Nat) (stale.sL (undeep.uL (deepen.dL (tsF b))))] [slT b] (AV.tup [AV.own true (1 : Nat) (bsA q), ni (0 : Nat)]))
    (h10 : freshA (AV.tup [AV.own true (1 : Nat) (bsA q), ni (0 : Nat)]) = true)
    (h11 : AV.tup (deepT [AV.own true (1 : Nat) (bsA q), ni (0 : Nat)]) = AV.tup [AV.own true (1 : Nat) (bsA q), ni (0 : Nat)])
    (h12 : (deepen.dL (tsF b)).all flat = false)
    (h13 : (undeep.uL (deepen.dL (tsF b))).all (okElem (2 : Nat)) = true)
    (h14 : ((deepen.dL (tsF a)).length + (undeep.uL (deepen.dL (tsF b))).length) * (32 : Nat) ≤ (140737488355328 : Nat))
    (h15 : FnW Try.prog (15 : FuncId) [AV.sl false false (2 : Nat) (stale.sL (undeep.uL (deepen.dL (tsF a) ++ undeep.uL (deepen.dL (tsF b)))))] [slT (a ++ b)] (AV.tup [AV.own true (1 : Nat) (bsA (p ++ q)), ni (0 : Nat)]))
    (h16 : freshA (AV.tup [AV.own true (1 : Nat) (bsA (p ++ q)), ni (0 : Nat)]) = true)
    (h17 : AV.tup (deepT [AV.own true (1 : Nat) (bsA (p ++ q)), ni (0 : Nat)]) = AV.tup [AV.own true (1 : Nat) (bsA (p ++ q)), ni (0 : Nat)])
    (h18 : IntKind.i64.wrap ((↑(bsA p).length : Int) + (↑(bsA q).length : Int)) = (↑(p.length + q.length) : Int))
    (h19 : decide ((↑(p.length + q.length) : Int) > (1492 : Int)) = false)
    (h20 : FnW Try.prog (18 : FuncId) [AV.sl false false (1 : Nat) (stale.sL (undeep.uL (bsA p)))] [slB p] (AV.own true (1 : Nat) (bsA p)))
    (h21 : freshA (AV.own true (1 : Nat) (bsA p)) = true)
    (h22 : AV.own true (1 : Nat) (deepen.dL (bsA p)) = AV.own true (1 : Nat) (bsA p))
    (h23 : (bsA q).all flat = true)
    (h24 : (bsA q).all (okElem (1 : Nat)) = true)
    (h25 : ((bsA p).length + (bsA q).length) * (1 : Nat) ≤ (140737488355328 : Nat))
    (h26 : FnW Try.prog (16 : FuncId) [AV.sl false false (1 : Nat) (stale.sL (undeep.uL (bsA (p ++ q)))), AV.sl false false (1 : Nat) (stale.sL (undeep.uL (bsA p ++ bsA q)))] [slB (p ++ q), slB (p ++ q)] (AV.bool true))
    (h27 : IntKind.i64.wrap (↑u : Int) = (↑u : Int))
    (h28 : IntKind.i64.wrap ((↑(bsA (p ++ q)).length : Int) + (1 : Int)) = (↑((p ++ q).length + (1 : Nat)) : Int))
    (h29 : (↑((p ++ q).length + (1 : Nat)) : Int) ≠ (0 : Int))
    (h30 : (↑u : Int).tmod (↑((p ++ q).length + (1 : Nat)) : Int) = (↑n : Int))
    (h31 : (↑n : Int) ≤ (↑(undeep.uL (bsA (p ++ q))).length : Int))
    (h32 : FnW Try.prog (12 : FuncId) [AV.sl false (false || !(undeep.uL (bsA (p ++ q))).isEmpty) (1 : Nat) (stale.sL (List.drop (0 : Nat) (List.take n (undeep.uL (bsA (p ++ q))))))] [slB (List.take n (p ++ q))] (AV.tup [AV.own true (2 : Nat) (tsF o), ni (0 : Nat)]))
    (h33 : freshA (AV.tup [AV.own true (2 : Nat) (tsF o), ni (0 : Nat)]) = true)
    (h34 : AV.tup (deepT [AV.own true (2 : Nat) (tsF o), ni (0 : Nat)]) = AV.tup [AV.own true (2 : Nat) (tsD o), ni (0 : Nat)])
    (h35 : (tsS b).all (okElem (2 : Nat)) = true)
    (h36 : ((deepen.dL (tsF a)).length + (tsS b).length) * (32 : Nat) ≤ (140737488355328 : Nat))
    (h37 : AV.own true (2 : Nat) (deepen.dL (tsF a) ++ tsS b) = AV.own true (2 : Nat) (tsD a ++ tsS b))
    (h38 : (↑(tsD a ++ tsS b).length : Int) = (↑(a ++ b).length : Int))
    (h39 : Runs Try.prog T5 (131 : Nat) (Cd.loop [] lp5x0) (sPfs (tsD a ++ tsS b) o (a ++ b).length (0 : Nat) (0 : Nat) (0 : Nat) n) fun x => x = (Ex.exit (0 : Nat), sPes o bo sz n))
    (h40 : decide ((↑sz : Int) ≤ (↑n : Int)) = false)
    (h41 : ((↑bo : Int) == (↑n : Int)) = true) :
    WayF Try.prog 5 T5 fd5 [(20, .c [] (.bool true)), (24, .c [slT a] (.own true 2 (tsF a))), (25, .c [slT a] (.tup [.own true 1 (bsA p), ni 0])), (25, .n (.tup [.own true 1 (bsA p), ni 0])), (30, .c [slT b] (.own true 2 (tsF b))), (31, .c [slT b] (.tup [.own true 1 (bsA q), ni 0])), (31, .n (.tup [.own true 1 (bsA q), ni 0])), (36, .c [slT a] (.own true 2 (tsF a))), (38, .c [slT b] (.own true 2 (tsF b))), (39, .q2), (40, .c [slT (a ++ b)] (.tup [.own true 1 (bsA (p ++ q)), ni 0])), (40, .n (.tup [.own true 1 (bsA (p ++ q)), ni 0])), (54, .i (p.length + q.length : Nat)), (55, .b false), (69, .c [slB p] (.own true 1 (bsA p))), (69, .n (.own true 1 (bsA p))), (71, .q), (72, .c [slB (p ++ q), slB (p ++ q)] (.bool true)), (76, .i u), (79, .i ((p ++ q).length + 1 : Nat)), (80, .q), (80, .i n), (84, .q), (85, .c [slB ((p ++ q).take n)] (.tup [.own true 2 (tsF o), ni 0])), (85, .n (.tup [.own true 2 (tsD o), ni 0])), (89, .c [slT a] (.own true 2 (tsF a))), (91, .q), (91, .n (.own true 2 (tsD a ++ tsS b))), (92, .i (a ++ b).length), (0, .lp (sPfs (tsD a ++ tsS b) o (a ++ b).length 0 0 0 n) (.exit 0) (sPes o bo sz n)), (110, .b false), (116, .b true)] [slT a, slT b, .int .u16 u] (.bool true) :=
  fn_of_pr hfol ok5 hT5 (show prF Try.prog 5 T5 fd5 [(20, .c [] (.bool true)), (24, .c [slT a] (.own true 2 (tsF a))), (25, .c [slT a] (.tup [.own true 1 (bsA p), ni 0])), (25, .n (.tup [.own true 1 (bsA p), ni 0])), (30, .c [slT b] (.own true 2 (tsF b))), (31, .c [slT b] (.tup [.own true 1 (bsA q), ni 0])), (31, .n (.tup [.own true 1 (bsA q), ni 0])), (36, .c [slT a] (.own true 2 (tsF a))), (38, .c [slT b] (.own true 2 (tsF b))), (39, .q2), (40, .c [slT (a ++ b)] (.tup [.own true 1 (bsA (p ++ q)), ni 0])), (40, .n (.tup [.own true 1 (bsA (p ++ q)), ni 0])), (54, .i (p.length + q.length : Nat)), (55, .b false), (69, .c [slB p] (.own true 1 (bsA p))), (69, .n (.own true 1 (bsA p))), (71, .q), (72, .c [slB (p ++ q), slB (p ++ q)] (.bool true)), (76, .i u), (79, .i ((p ++ q).length + 1 : Nat)), (80, .q), (80, .i n), (84, .q), (85, .c [slB ((p ++ q).take n)] (.tup [.own true 2 (tsF o), ni 0])), (85, .n (.tup [.own true 2 (tsD o), ni 0])), (89, .c [slT a] (.own true 2 (tsF a))), (91, .q), (91, .n (.own true 2 (tsD a ++ tsS b))), (92, .i (a ++ b).length), (0, .lp (sPfs (tsD a ++ tsS b) o (a ++ b).length 0 0 0 n) (.exit 0) (sPes o bo sz n)), (110, .b false), (116, .b true)] [slT a, slT b, .int .u16 u] (.bool true) = some _ by kernel_rfl) (AllP.c h1 (AllP.c (show freshA (AV.bool true) = true by kernel_rfl) (AllP.c h2 (AllP.c h3 (AllP.c h4 (AllP.c h5 (AllP.c h6 (AllP.c h7 (AllP.c h8 (AllP.c h9 (AllP.c h10 (AllP.c h11 (AllP.c h2 (AllP.c h3 (AllP.c h7 (AllP.c h8 (AllP.c h12 (AllP.c h13 (AllP.c h14 (AllP.c h15 (AllP.c h16 (AllP.c h17 (AllP.c h18 (AllP.c h19 (AllP.c h20 (AllP.c h21 (AllP.c h22 (AllP.c h23 (AllP.c h24 (AllP.c h25 (AllP.c h26 (AllP.c (show freshA (AV.bool true) = true by kernel_rfl) (AllP.c h27 (AllP.c h28 (AllP.c h29 (AllP.c h30 (AllP.c (show (0 : Int) ≤ (0 : Int) by decide) (AllP.c (show (0 : Int) ≤ (↑n : Int) from Int.natCast_nonneg _) (AllP.c h31 (AllP.c h32 (AllP.c h33 (AllP.c h34 (AllP.c h2 (AllP.c h3 (AllP.c h35 (AllP.c h36 (AllP.c h37 (AllP.c h38 (AllP.c (LeR.refl (x := AV.int IntKind.i64 (↑n : Int))) (AllP.c (LeR.refl (x := AV.own true (2 : Nat) (tsD o))) (AllP.c (LeR.refl (x := AV.int IntKind.i64 (↑(0 : Nat) : Int))) (AllP.c (LeR.refl (x := AV.int IntKind.i64 (↑(0 : Nat) : Int))) (AllP.c (LeR.refl (x := AV.int IntKind.i64 (↑(0 : Nat) : Int))) (AllP.c (LeR.refl (x := AV.own true (2 : Nat) (tsD a ++ tsS b))) (AllP.c (LeR.refl (x := AV.int IntKind.i64 (↑(a ++ b).length : Int))) (AllP.c (LeR.refl (x := AV.int IntKind.i64 (↑(0 : Nat) : Int))) (AllP.c (LeR.refl (x := AV.mem [])) (AllP.c h39 (AllP.c h40 (AllP.c h41 (AllP.c (show AV.bool true = AV.bool true by kernel_rfl) AllP.n)))))))))))))))))))))))))))))))))))))))))))))))))))))))))))))
theorem Parts_n1le (a b : List TLV) (p q : List UInt8) (u : Nat) (o : List TLV) (n bo sz : Nat)
    (h1 : FnW Try.prog (7 : FuncId) [] [] (AV.bool true))
    (h2 : FnW Try.prog (9 : FuncId) [AV.sl false false (2 : Nat) (stale.sL (tsS a))] [slT a] (AV.own true (2 : Nat) (tsF a)))
    (h3 : freshA (AV.own true (2 : Nat) (tsF a)) = true)
    (h4 : FnW Try.prog (15 : FuncId) [AV.sl false false (2 : Nat) (stale.sL (undeep.uL (deepen.dL (tsF a))))] [slT a] (AV.tup [AV.own true (1 : Nat) (bsA p), ni (0 : Nat)]))
    (h5 : freshA (AV.tup [AV.own true (1 : Nat) (bsA p), ni (0 : Nat)]) = true)
    (h6 : AV.tup (deepT [AV.own true (1 : Nat) (bsA p), ni (0 : Nat)]) = AV.tup [AV.own true (1 : Nat) (bsA p), ni (0 : Nat)])
    (h7 : FnW Try.prog (9 : FuncId) [AV.sl false false (2 : Nat) (stale.sL (tsS b))] [slT b] (AV.own true (2 : Nat) (tsF b)))
    (h8 : freshA (AV.own true (2 : Nat) (tsF b)) = true)
    (h9 : FnW Try.prog (15 : FuncId) [AV.sl false false (2 : Nat) (stale.sL (undeep.uL (deepen.dL (tsF b))))] [slT b] (AV.tup [AV.own true (1 : Nat) (bsA q), ni (0 : Nat)]))
    (h10 : freshA (AV.tup [AV.own true (1 : Nat) (bsA q), ni (0 : Nat)]) = true)
    (h11 : AV.tup (deepT [AV.own true (1 : Nat) (bsA q), ni (0 : Nat)]) = AV.tup [AV.own true (1 : Nat) (bsA q), ni (0 : Nat)])
    (h12 : (deepen.dL (tsF b)).all flat = false)
    (h13 : (undeep.uL (deepen.dL (tsF b))).all (okElem (2 : Nat)) = true)
    (h14 : ((deepen.dL (tsF a)).length + (undeep.uL (deepen.dL (tsF b))).length) * (32 : Nat) ≤ (140737488355328 : Nat))
    (h15 : FnW Try.prog (15 : FuncId) [AV.sl false false (2 : Nat) (stale.sL (undeep.uL (deepen.dL (tsF a) ++ undeep.uL (deepen.dL (tsF b)))))] [slT (a ++ b)] (AV.tup [AV.own true (1 : Nat) (bsA (p ++ q)), ni (0 : Nat)]))
    (h16 : freshA (AV.tup [AV.own true (1 : Nat) (bsA (p ++ q)), ni (0 : Nat)]) = true)
    (h17 : AV.tup (deepT [AV.own true (1 : Nat) (bsA (p ++ q)), ni (0 : Nat)]) = AV.tup [AV.own true (1 : Nat) (bsA (p ++ q)), ni (0 : Nat)])
    (h18 : IntKind.i64.wrap ((↑(bsA p).length : Int) + (↑(bsA q).length : Int)) = (↑(p.length + q.length) : Int))
    (h19 : decide ((↑(p.length + q.length) : Int) > (1492 : Int)) = false)
    (h20 : FnW Try.prog (18 : FuncId) [AV.sl false false (1 : Nat) (stale.sL (undeep.uL (bsA p)))] [slB p] (AV.own true (1 : Nat) (bsA p)))
    (h21 : freshA (AV.own true (1 : Nat) (bsA p)) = true)
    (h22 : AV.own true (1 : Nat) (deepen.dL (bsA p)) = AV.own true (1 : Nat) (bsA p))
    (h23 : (bsA q).all flat = true)
    (h24 : (bsA q).all (okElem (1 : Nat)) = true)
    (h25 : ((bsA p).length + (bsA q).length) * (1 : Nat) ≤ (140737488355328 : Nat))
    (h26 : FnW Try.prog (16 : FuncId) [AV.sl false false (1 : Nat) (stale.sL (undeep.uL (bsA (p ++ q)))), AV.sl false false (1 : Nat) (stale.sL (undeep.uL (bsA p ++ bsA q)))] [slB (p ++ q), slB (p ++ q)] (AV.bool true))
    (h27 : IntKind.i64.wrap (↑u : Int) = (↑u : Int))
    (h28 : IntKind.i64.wrap ((↑(bsA (p ++ q)).length : Int) + (1 : Int)) = (↑((p ++ q).length + (1 : Nat)) : Int))
    (h29 : (↑((p ++ q).length + (1 : Nat)) : Int) ≠ (0 : Int))
    (h30 : (↑u : Int).tmod (↑((p ++ q).length + (1 : Nat)) : Int) = (↑n : Int))
    (h31 : (↑n : Int) ≤ (↑(undeep.uL (bsA (p ++ q))).length : Int))
    (h32 : FnW Try.prog (12 : FuncId) [AV.sl false (false || !(undeep.uL (bsA (p ++ q))).isEmpty) (1 : Nat) (stale.sL (List.drop (0 : Nat) (List.take n (undeep.uL (bsA (p ++ q))))))] [slB (List.take n (p ++ q))] (AV.tup [AV.nils, ni (3 : Nat)]))
    (h33 : (tsS b).all (okElem (2 : Nat)) = true)
    (h34 : ((deepen.dL (tsF a)).length + (tsS b).length) * (32 : Nat) ≤ (140737488355328 : Nat))
    (h35 : AV.own true (2 : Nat) (deepen.dL (tsF a) ++ tsS b) = AV.own true (2 : Nat) (tsD a ++ tsS b))
    (h36 : (↑(tsD a ++ tsS b).length : Int) = (↑(a ++ b).length : Int))
    (h37 : Runs Try.prog T5 (131 : Nat) (Cd.loop [] lp5x0) (sPfn (tsD a ++ tsS b) o (a ++ b).length (0 : Nat) (0 : Nat) (0 : Nat) n) fun x => x = (Ex.exit (0 : Nat), sPen o bo sz n))
    (h38 : decide ((↑sz : Int) ≤ (↑n : Int)) = true)
    (h39 : ((↑sz : Int) == (↑n : Int)) = false) :
    WayF Try.prog 5 T5 fd5 [(20, .c [] (.bool true)), (24, .c [slT a] (.own true 2 (tsF a))), (25, .c [slT a] (.tup [.own true 1 (bsA p), ni 0])), (25, .n (.tup [.own true 1 (bsA p), ni 0])), (30, .c [slT b] (.own true 2 (tsF b))), (31, .c [slT b] (.tup [.own true 1 (bsA q), ni 0])), (31, .n (.tup [.own true 1 (bsA q), ni 0])), (36, .c [slT a] (.own true 2 (tsF a))), (38, .c [slT b] (.own true 2 (tsF b))), (39, .q2), (40, .c [slT (a ++ b)] (.tup [.own true 1 (bsA (p ++ q)), ni 0])), (40, .n (.tup [.own true 1 (bsA (p ++ q)), ni 0])), (54, .i (p.length + q.length : Nat)), (55, .b false), (69, .c [slB p] (.own true 1 (bsA p))), (69, .n (.own true 1 (bsA p))), (71, .q), (72, .c [slB (p ++ q), slB (p ++ q)] (.bool true)), (76, .i u), (79, .i ((p ++ q).length + 1 : Nat)), (80, .q), (80, .i n), (84, .q), (85, .c [slB ((p ++ q).take n)] (.tup [.nils, ni 3])), (85, .n (.tup [.nils, ni 3])), (89, .c [slT a] (.own true 2 (tsF a))), (91, .q), (91, .n (.own true 2 (tsD a ++ tsS b))), (92, .i (a ++ b).length), (0, .lp (sPfn (tsD a ++ tsS b) o (a ++ b).length 0 0 0 n) (.exit 0) (sPen o bo sz n)), (110, .b true), (116, .b false)] [slT a, slT b, .int .u16 u] (.bool true) :=
  fn_of_pr hfol ok5 hT5 (show prF Try.prog 5 T5 fd5 [(20, .c [] (.bool true)), (24, .c [slT a] (.own true 2 (tsF a))), (25, .c [slT a] (.tup [.own true 1 (bsA p), ni 0])), (25, .n (.tup [.own true 1 (bsA p), ni 0])), (30, .c [slT b] (.own true 2 (tsF b))), (31, .c [slT b] (.tup [.own true 1 (bsA q), ni 0])), (31, .n (.tup [.own true 1 (bsA q), ni 0])), (36, .c [slT a] (.own true 2 (tsF a))), (38, .c [slT b] (.own true 2 (tsF b))), (39, .q2), (40, .c [slT (a ++ b)] (.tup [.own true 1 (bsA (p ++ q)), ni 0])), (40, .n (.tup [.own true 1 (bsA (p ++ q)), ni 0])), (54, .i (p.length + q.length : Nat)), (55, .b false), (69, .c [slB p] (.own true 1 (bsA p))), (69, .n (.own true 1 (bsA p))), (71, .q), (72, .c [slB (p ++ q), slB (p ++ q)] (.bool true)), (76, .i u), (79, .i ((p ++ q).length + 1 : Nat)), (80, .q), (80, .i n), (84, .q), (85, .c [slB ((p ++ q).take n)] (.tup [.nils, ni 3])), (85, .n (.tup [.nils, ni 3])), (89, .c [slT a] (.own true 2 (tsF a))), (91, .q), (91, .n (.own true 2 (tsD a ++ tsS b))), (92, .i (a ++ b).length), (0, .lp (sPfn (tsD a ++ tsS b) o (a ++ b).length 0 0 0 n) (.exit 0) (sPen o bo sz n)), (110, .b true), (116, .b false)] [slT a, slT b, .int .u16 u] (.bool true) = some _ by kernel_rfl) (AllP.c h1 (AllP.c (show freshA (AV.bool true) = true by kernel_rfl) (AllP.c h2 (AllP.c h3 (AllP.c h4 (AllP.c h5 (AllP.c h6 (AllP.c h7 (AllP.c h8 (AllP.c h9 (AllP.c h10 (AllP.c h11 (AllP.c h2 (AllP.c h3 (AllP.c h7 (AllP.c h8 (AllP.c h12 (AllP.c h13 (AllP.c h14 (AllP.c h15 (AllP.c h16 (AllP.c h17 (AllP.c h18 (AllP.c h19 (AllP.c h20 (AllP.c h21 (AllP.c h22 (AllP.c h23 (AllP.c h24 (AllP.c h25 (AllP.c h26 (AllP.c (show freshA (AV.bool true) = true by kernel_rfl) (AllP.c h27 (AllP.c h28 (AllP.c h29 (AllP.c h30 (AllP.c (show (0 : Int) ≤ (0 : Int) by decide) (AllP.c (show (0 : Int) ≤ (↑n : Int) from Int.natCast_nonneg _) (AllP.c h31 (AllP.c h32 (AllP.c (show freshA (AV.tup [AV.nils, ni (3 : Nat)]) = true by kernel_rfl) (AllP.c (show AV.tup [AV.nils, ni (3 : Nat)] = AV.tup [AV.nils, ni (3 : Nat)] by kernel_rfl) (AllP.c h2 (AllP.c h3 (AllP.c h33 (AllP.c h34 (AllP.c h35 (AllP.c h36 (AllP.c (LeR.refl (x := AV.int IntKind.i64 (↑n : Int))) (AllP.c (LeR.refl (x := AV.nils)) (AllP.c (LeR.refl (x := AV.int IntKind.i64 (↑(3 : Nat) : Int))) (AllP.c (LeR.refl (x := AV.int IntKind.i64 (↑(0 : Nat) : Int))) (AllP.c (LeR.refl (x := AV.int IntKind.i64 (↑(0 : Nat) : Int))) (AllP.c (LeR.refl (x := AV.own true (2 : Nat) (tsD a ++ tsS b))) (AllP.c (LeR.refl (x := AV.int IntKind.i64 (↑(a ++ b).length : Int))) (AllP.c (LeR.refl (x := AV.int IntKind.i64 (↑(0 : Nat) : Int))) (AllP.c (LeR.refl (x := AV.mem [])) (AllP.c h37 (AllP.c h38 (AllP.c h39 (AllP.c (show AV.bool ((0 : Int) == (0 : Int)) = AV.bool true by kernel_rfl) AllP.n)))))))))))))))))))))))))))))))))))))))))))))))))))))))))))))
theorem Parts_n1gt (a b : List TLV) (p q : List UInt8) (u : Nat) (o : List TLV) (n bo sz : Nat)
    (h1 : FnW Try.prog (7 : FuncId) [] [] (AV.bool true))
    (h2 : FnW Try.prog (9 : FuncId) [AV.sl false false (2 : Nat) (stale.sL (tsS a))] [slT a] (AV.own true (2 : Nat) (tsF a)))
    (h3 : freshA (AV.own true (2 : Nat) (tsF a)) = true)
    (h4 : FnW Try.prog (15 : FuncId) [AV.sl false false (2 : Nat) (stale.sL (undeep.uL (deepen.dL (tsF a))))] [slT a] (AV.tup [AV.own true (1 : Nat) (bsA p), ni (0 : Nat)]))
    (h5 : freshA (AV.tup [AV.own true (1 : Nat) (bsA p), ni (0 : Nat)]) = true)
    (h6 : AV.tup (deepT [AV.own true (1 : Nat) (bsA p), ni (0 : Nat)]) = AV.tup [AV.own true (1 : Nat) (bsA p), ni (0 : Nat)])
    (h7 : FnW Try.prog (9 : FuncId) [AV.sl false false (2 : Nat) (stale.sL (tsS b))] [slT b] (AV.own true (2 : Nat) (tsF b)))
    (h8 : freshA (AV.own true (2 : Nat) (tsF b)) = true)
    (h9 : FnW Try.prog (15 : FuncId) [AV.sl false false (2 : Nat) (stale.sL (undeep.uL (deepen.dL (tsF b))))] [slT b] (AV.tup [AV.own true (1 : Nat) (bsA q), ni (0 : Nat)]))
    (h10 : freshA (AV.tup [AV.own true (1 : Nat) (bsA q), ni (0 : Nat)]) = true)
    (h11 : AV.tup (deepT [AV.own true (1 : Nat) (bsA q), ni (0 : Nat)]) = AV.tup [AV.own true (1 : Nat) (bsA q), ni (0 : Nat)])
    (h12 : (deepen.dL (tsF b)).all flat = false)
    (h13 : (undeep.uL (deepen.dL (tsF b))).all (okElem (2 : Nat)) = true)
    (h14 : ((deepen.dL (tsF a)).length + (undeep.uL (deepen.dL (tsF b))).length) * (32 : Nat) ≤ (140737488355328 : Nat))
    (h15 : FnW Try.prog (15 : FuncId) [AV.sl false false (2 : Nat) (stale.sL (undeep.uL (deepen.dL (tsF a) ++ undeep.uL (deepen.dL (tsF b)))))] [slT (a ++ b)] (AV.tup [AV.own true (1 : Nat) (bsA (p ++ q)), ni (0 : Nat)]))
    (h16 : freshA (AV.tup [AV.own true (1 : Nat) (bsA (p ++ q)), ni (0 : Nat)]) = true)
    (h17 : AV.tup (deepT [AV.own true (1 : Nat) (bsA (p ++ q)), ni (0 : Nat)]) = AV.tup [AV.own true (1 : Nat) (bsA (p ++ q)), ni (0 : Nat)])
    (h18 : IntKind.i64.wrap ((↑(bsA p).length : Int) + (↑(bsA q).length : Int)) = (↑(p.length + q.length) : Int))
    (h19 : decide ((↑(p.length + q.length) : Int) > (1492 : Int)) = false)
    (h20 : FnW Try.prog (18 : FuncId) [AV.sl false false (1 : Nat) (stale.sL (undeep.uL (bsA p)))] [slB p] (AV.own true (1 : Nat) (bsA p)))
    (h21 : freshA (AV.own true (1 : Nat) (bsA p)) = true)
    (h22 : AV.own true (1 : Nat) (deepen.dL (bsA p)) = AV.own true (1 : Nat) (bsA p))
    (h23 : (bsA q).all flat = true)
    (h24 : (bsA q).all (okElem (1 : Nat)) = true)
    (h25 : ((bsA p).length + (bsA q).length) * (1 : Nat) ≤ (140737488355328 : Nat))
    (h26 : FnW Try.prog (16 : FuncId) [AV.sl false false (1 : Nat) (stale.sL (undeep.uL (bsA (p ++ q)))), AV.sl false false (1 : Nat) (stale.sL (undeep.uL (bsA p ++ bsA q)))] [slB (p ++ q), slB (p ++ q)] (AV.bool true))
    (h27 : IntKind.i64.wrap (↑u : Int) = (↑u : Int))
    (h28 : IntKind.i64.wrap ((↑(bsA (p ++ q)).length : Int) + (1 : Int)) = (↑((p ++ q).length + (1 : Nat)) : Int))
    (h29 : (↑((p ++ q).length + (1 : Nat)) : Int) ≠ (0 : Int))
    (h30 : (↑u : Int).tmod (↑((p ++ q).length + (1 : Nat)) : Int) = (↑n : Int))
    (h31 : (↑n : Int) ≤ (↑(undeep.uL (bsA (p ++ q))).length : Int))
    (h32 : FnW Try.prog (12 : FuncId) [AV.sl false (false || !(undeep.uL (bsA (p ++ q))).isEmpty) (1 : Nat) (stale.sL (List.drop (0 : Nat) (List.take n (undeep.uL (bsA (p ++ q))))))] [slB (List.take n (p ++ q))] (AV.tup [AV.nils, ni (3 : Nat)]))
    (h33 : (tsS b).all (okElem (2 : Nat)) = true)
    (h34 : ((deepen.dL (tsF a)).length + (tsS b).length) * (32 : Nat) ≤ (140737488355328 : Nat))
    (h35 : AV.own true (2 : Nat) (deepen.dL (tsF a) ++ tsS b) = AV.own true (2 : Nat) (tsD a ++ tsS b))
    (h36 : (↑(tsD a ++ tsS b).length : Int) = (↑(a ++ b).length : Int))
    (h37 : Runs Try.prog T5 (131 : Nat) (Cd.loop [] lp5x0) (sPfn (tsD a ++ tsS b) o (a ++ b).length (0 : Nat) (0 : Nat) (0 : Nat) n) fun x => x = (Ex.exit (0 : Nat), sPen o bo sz n))
    (h38 : decide ((↑sz : Int) ≤ (↑n : Int)) = false)
    (h39 : ((↑bo : Int) == (↑n : Int)) = false) :
    WayF Try.prog 5 T5 fd5 [(20, .c [] (.bool true)), (24, .c [slT a] (.own true 2 (tsF a))), (25, .c [slT a] (.tup [.own true 1 (bsA p), ni 0])), (25, .n (.tup [.own true 1 (bsA p), ni 0])), (30, .c [slT b] (.own true 2 (tsF b))), (31, .c [slT b] (.tup [.own true 1 (bsA q), ni 0])), (31, .n (.tup [.own true 1 (bsA q), ni 0])), (36, .c [slT a] (.own true 2 (tsF a))), (38, .c [slT b] (.own true 2 (tsF b))), (39, .q2), (40, .c [slT (a ++ b)] (.tup [.own true 1 (bsA (p ++ q)), ni 0])), (40, .n (.tup [.own true 1 (bsA (p ++ q)), ni 0])), (54, .i (p.length + q.length : Nat)), (55, .b false), (69, .c [slB p] (.own true 1 (bsA p))), (69, .n (.own true 1 (bsA p))), (71, .q), (72, .c [slB (p ++ q), slB (p ++ q)] (.bool true)), (76, .i u), (79, .i ((p ++ q).length + 1 : Nat)), (80, .q), (80, .i n), (84, .q), (85, .c [slB ((p ++ q).take n)] (.tup [.nils, ni 3])), (85, .n (.tup [.nils, ni 3])), (89, .c [slT a] (.own true 2 (tsF a))), (91, .q), (91, .n (.own true 2 (tsD a ++ tsS b))), (92, .i (a ++ b).length), (0, .lp (sPfn (tsD a ++ tsS b) o (a ++ b).length 0 0 0 n) (.exit 0) (sPen o bo sz n)), (110, .b false), (116, .b false)] [slT a, slT b, .int .u16 u] (.bool true) :=
  fn_of_pr hfol ok5 hT5 (show prF Try.prog 5 T5 fd5 [(20, .c [] (.bool true)), (24, .c [slT a] (.own true 2 (tsF a))), (25, .c [slT a] (.tup [.own true 1 (bsA p), ni 0])), (25, .n (.tup [.own true 1 (bsA p), ni 0])), (30, .c [slT b] (.own true 2 (tsF b))), (31, .c [slT b] (.tup [.own true 1 (bsA q), ni 0])), (31, .n (.tup [.own true 1 (bsA q), ni 0])), (36, .c [slT a] (.own true 2 (tsF a))), (38, .c [slT b] (.own true 2 (tsF b))), (39, .q2), (40, .c [slT (a ++ b)] (.tup [.own true 1 (bsA (p ++ q)), ni 0])), (40, .n (.tup [.own true 1 (bsA (p ++ q)), ni 0])), (54, .i (p.length + q.length : Nat)), (55, .b false), (69, .c [slB p] (.own true 1 (bsA p))), (69, .n (.own true 1 (bsA p))), (71, .q), (72, .c [slB (p ++ q), slB (p ++ q)] (.bool true)), (76, .i u), (79, .i ((p ++ q).length + 1 : Nat)), (80, .q), (80, .i n), (84, .q), (85, .c [slB ((p ++ q).take n)] (.tup [.nils, ni 3])), (85, .n (.tup [.nils, ni 3])), (89, .c [slT a] (.own true 2 (tsF a))), (91, .q), (91, .n (.own true 2 (tsD a ++ tsS b))), (92, .i (a ++ b).length), (0, .lp (sPfn (tsD a ++ tsS b) o (a ++ b).length 0 0 0 n) (.exit 0) (sPen o bo sz n)), (110, .b false), (116, .b false)] [slT a, slT b, .int .u16 u] (.bool true) = some _ by kernel_rfl) (AllP.c h1 (AllP.c (show freshA (AV.bool true) = true by kernel_rfl) (AllP.c h2 (AllP.c h3 (AllP.c h4 (AllP.c h5 (AllP.c h6 (AllP.c h7 (AllP.c h8 (AllP.c h9 (AllP.c h10 (AllP.c h11 (AllP.c h2 (AllP.c h3 (AllP.c h7 (AllP.c h8 (AllP.c h12 (AllP.c h13 (AllP.c h14 (AllP.c h15 (AllP.c h16 (AllP.c h17 (AllP.c h18 (AllP.c h19 (AllP.c h20 (AllP.c h21 (AllP.c h22 (AllP.c h23 (AllP.c h24 (AllP.c h25 (AllP.c h26 (AllP.c (show freshA (AV.bool true) = true by kernel_rfl) (AllP.c h27 (AllP.c h28 (AllP.c h29 (AllP.c h30 (AllP.c (show (0 : Int) ≤ (0 : Int) by decide) (AllP.c (show (0 : Int) ≤ (↑n : Int) from Int.natCast_nonneg _) (AllP.c h31 (AllP.c h32 (AllP.c (show freshA (AV.tup [AV.nils, ni (3 : Nat)]) = true by kernel_rfl) (AllP.c (show AV.tup [AV.nils, ni (3 : Nat)] = AV.tup [AV.nils, ni (3 : Nat)] by kernel_rfl) (AllP.c h2 (AllP.c h3 (AllP.c h33 (AllP.c h34 (AllP.c h35 (AllP.c h36 (AllP.c (LeR.refl (x := AV.int IntKind.i64 (↑n : Int))) (AllP.c (LeR.refl (x := AV.nils)) (AllP.c (LeR.refl (x := AV.int IntKind.i64 (↑(3 : Nat) : Int))) (AllP.c (LeR.refl (x := AV.int IntKind.i64 (↑(0 : Nat) : Int))) (AllP.c (LeR.refl (x := AV.int IntKind.i64 (↑(0 : Nat) : Int))) (AllP.c (LeR.refl (x := AV.own true (2 : Nat) (tsD a ++ tsS b))) (AllP.c (LeR.refl (x := AV.int IntKind.i64 (↑(a ++ b).length : Int))) (AllP.c (LeR.refl (x := AV.int IntKind.i64 (↑(0 : Nat) : Int))) (AllP.c (LeR.refl (x := AV.mem [])) (AllP.c h37 (AllP.c h38 (AllP.c h39 (AllP.c (show AV.bool ((0 : Int) == (0 : Int)) = AV.bool true by kernel_rfl) AllP.n)))))))))))))))))))))))))))))))))))))))))))))))))))))))))))))
end Go.Ev

/-! text P9 -/
set_option linter.unusedVariables false
namespace Go.Ev
open Go.Proofs (Try.prog)

/-! ### Borders -/
/-- How many bytes the first i have. -/
def len (L : List TLV) (i : Nat) : Nat := (enc (L.take i)).length
theorem len_zero (L : List TLV) : len L 0 = 0 := by simp [len, enc]
theorem len_succ {L : List TLV} {i : Nat} (h : i < L.length) : len L (i + 1) = len L i + (2 + L[i].2.length) := by
  unfold len
  rw [enc_take h]
  omega
/-- The last border that is not behind n, of the first i. -/
def bord (L : List TLV) (n : Nat) : Nat → Nat
  | 0 => 0
  | i + 1 => if len L i ≤ n then len L i else bord L n i
theorem len_lt {L : List TLV} : ∀ {i j : Nat}, j < i → i ≤ L.length → len L j < len L i
  | i + 1, j, h, hi => by
    have e := len_succ (L := L) (i := i) (by omega)
    by_cases hj : j = i
    · subst hj; omega
    · have := len_lt (L := L) (i := i) (j := j) (by omega) (by omega)
      omega
theorem bord_iff (L : List TLV) (n : Nat) : ∀ i, i ≤ L.length + 1 → (bord L n i = n ↔ (∃ j, j < i ∧ len L j = n) ∨ n = 0)
  | 0, _ => by
    simp only [bord]
    constructor
    · intro h; exact .inr h.symm
    · rintro (⟨j, h, _⟩ | h)
      · omega
      · exact h.symm
  | i + 1, hi => by
    have ih := bord_iff L n i (by omega)
    simp only [bord]
    by_cases h : len L i ≤ n
    · rw [if_pos h]
      constructor
      · intro e; exact .inl ⟨i, by omega, e⟩
      · rintro (⟨j, hj, e⟩ | e)
        · by_cases hji : j = i
          · subst hji; exact e
          · have := len_lt (L := L) (i := i) (j := j) (by omega) (by omega)
            omega
        · omega
    · rw [if_neg h, ih]
      constructor
      · rintro (⟨j, hj, e⟩ | e)
        · exact .inl ⟨j, by omega, e⟩
        · exact .inr e
      · rintro (⟨j, hj, e⟩ | e)
        · by_cases hji : j = i
          · subst hji; omega
          · exact .inl ⟨j, by omega, e⟩
        · exact .inr e
theorem enc_prefix : ∀ (l L : List TLV) (r : List UInt8), (∀ t ∈ l, t.2.length ≤ 255) → (∀ t ∈ L, t.2.length ≤ 255) → enc l ++ r = enc L → ∃ j, j ≤ L.length ∧ l = L.take j
  | [], L, r, _, _, _ => ⟨0, by omega, rfl⟩
  | t :: l, [], r, _, _, h => by simp [enc, enc1] at h
  | t :: l, u :: L, r, hl, hL, h => by
    have e1 : enc (t :: l) ++ r = t.1 :: lenB t.2 :: (t.2 ++ (enc l ++ r)) := by simp [enc, enc1]
    have e2 : enc (u :: L) = u.1 :: lenB u.2 :: (u.2 ++ enc L) := by simp [enc, enc1]
    rw [e1, e2] at h
    injection h with h1 h
    injection h with h2 h
    have ht := hl t (List.mem_cons_self ..)
    have hu := hL u (List.mem_cons_self ..)
    have hlen : t.2.length = u.2.length := by
      have := congrArg UInt8.toNat h2
      unfold lenB at this
      rwa [UInt8.toNat_ofNat_of_lt' (by show _ < 256; omega), UInt8.toNat_ofNat_of_lt' (by show _ < 256; omega)] at this
    obtain ⟨h3, h4⟩ := List.append_inj h hlen
    obtain ⟨j, hj, e⟩ := enc_prefix l L r (fun t ht => hl t (List.mem_cons_of_mem _ ht)) (fun t ht => hL t (List.mem_cons_of_mem _ ht)) h4
    exact ⟨j + 1, by simp; omega, by rw [List.take_succ_cons, ← e]; congr 1; exact Prod.ext h1 h3⟩
theorem parse_cut {L : List TLV} (hL : ∀ t ∈ L, t.2.length ≤ 255) {n : Nat} (hn : n ≤ (enc L).length) : (parse ((enc L).take n)).isSome = true ↔ ∃ j, j ≤ L.length ∧ len L j = n := by
  constructor
  · intro h
    obtain ⟨l, hl⟩ := Option.isSome_iff_exists.1 h
    obtain ⟨e, hv⟩ := parse_enc _ _ _ (Nat.le_refl _) hl
    obtain ⟨j, hj, e2⟩ := enc_prefix l L ((enc L).drop n) hv hL (by rw [e, List.take_append_drop])
    refine ⟨j, hj, ?_⟩
    unfold len
    rw [← e2, e, List.length_take]
    omega
  · rintro ⟨j, hj, e⟩
    have h1 : (enc L).take n = enc (L.take j) := by
      have : enc L = enc (L.take j) ++ enc (L.drop j) := by rw [← enc_app, List.take_append_drop]
      unfold len at e
      rw [this, ← e, List.take_left]
    rw [h1, enc_parse _ fun t ht => hL t (List.mem_of_mem_take ht)]
    rfl

/-! ### The loop over both lists -/
theorem elF {a b : List TLV} {i : Nat} (h : i < (a ++ b).length) : ∃ f, (tsF a ++ tsS b)[i]? = some (tG f (a ++ b)[i]) := by
  rw [List.length_append] at h
  by_cases hi : i < a.length
  · refine ⟨true, ?_⟩
    rw [List.getElem?_append_left (by simpa using hi), List.getElem_append_left hi]
    simp only [tsF, List.getElem?_map, List.getElem?_eq_getElem hi]
    rfl
  · refine ⟨false, ?_⟩
    rw [List.getElem?_append_right (by simpa using hi), List.getElem_append_right (by omega)]
    simp only [tsF_len, tsS, List.getElem?_map, List.getElem?_eq_getElem (show i - a.length < b.length by omega)]
    rfl
theorem uL_both (a b : List TLV) : undeep.uL (tsD a ++ tsS b) = tsF a ++ tsS b := by
  rw [uL_app, tsD_uL]
  congr 1
  exact map_uL (fun t => by simp only [tS, bA, undeep, undeep.uL, bsA_uL]) b
theorem loop_s (a b o : List TLV) (c : Nat) (hs : Small (a ++ b)) (hf : fits (a ++ b)) : Runs Try.prog T5 131 (Cd.loop [] lp5x0) (sPfs (tsD a ++ tsS b) o (a ++ b).length 0 0 0 c) fun x => x = (Ex.exit 0, sPes o (bord (a ++ b) c (a ++ b).length) (len (a ++ b) (a ++ b).length) c) := by
  have hl := hs.1
  have htot : ∀ i, len (a ++ b) i ≤ 1492 := fun i => Nat.le_trans (enc_take_le _ _) hf.2
  have hv : ∀ i (hi : i < (a ++ b).length), (a ++ b)[i].2.length ≤ 255 := fun i hi => hf.1 _ (List.getElem_mem _)
  have nx : ∀ i, i < (a ++ b).length → Runs Try.prog T5 131 lp5x0 (sPns (tsF a ++ tsS b) o (a ++ b).length (bord (a ++ b) c i) (len (a ++ b) i) i c) (· = (.normal, sPns (tsF a ++ tsS b) o (a ++ b).length (bord (a ++ b) c (i + 1)) (len (a ++ b) (i + 1)) (i + 1) c)) := by
    intro i hi
    obtain ⟨f, hg⟩ := elF (a := a) (b := b) hi
    have h1 := htot i
    have h2 := hv i hi
    rw [len_succ hi]
    simp only [bord]
    by_cases hle : len (a ++ b) i ≤ c
    · rw [if_pos hle]
      exact Parts_next_sle _ o _ _ _ i c _ f (decide_eq_true (by omega)) hg (decide_eq_true (by omega)) (by rw [bsA_len]; exact wrap_add2 (by omega) (by omega)) (wrap_succ (by omega))
    · rw [if_neg hle]
      exact Parts_next_sgt _ o _ _ _ i c _ f (decide_eq_true (by omega)) hg (decide_eq_false (by omega)) (by rw [bsA_len]; exact wrap_add2 (by omega) (by omega)) (wrap_succ (by omega))
  by_cases h0 : (a ++ b).length = 0
  · rw [h0]
    have : len (a ++ b) 0 = 0 := len_zero _
    simp only [bord, this]
    exact Runs.upto (S := fun i => sPfs (tsD a ++ tsS b) o 0 0 0 i c) (j := 0) (fun i hi => by omega) (Parts_endf_s _ o 0 0 0 0 c (decide_eq_false (by omega))) (by simp)
  · have hpos : 0 < (a ++ b).length := by omega
    have first : Runs Try.prog T5 131 lp5x0 (sPfs (tsD a ++ tsS b) o (a ++ b).length 0 0 0 c) (· = (.normal, sPns (tsF a ++ tsS b) o (a ++ b).length (bord (a ++ b) c 1) (len (a ++ b) 1) 1 c)) := by
      have e : len (a ++ b) 0 = 0 := len_zero _
      have h2 := hv 0 hpos
      have eb : bord (a ++ b) c 1 = 0 := by simp only [bord, e]; simp
      rw [len_succ hpos, e, eb, ← uL_both]
      have hL : 0 < (tsD a ++ tsS b).length := by simpa using hpos
      cases a with
      | nil =>
        cases b with
        | nil => simp at hpos
        | cons t b => exact Parts_firstS_sle _ o _ _ _ 0 c t (decide_eq_true (by omega)) (by omega) rfl rfl (by rw [bsA_uL]; rfl) (decide_eq_true (by omega)) (by rw [bsA_len]; exact wrap_add2 (by omega) (Nat.le_trans h2 (by omega))) (wrap_succ (by omega))
      | cons t a => exact Parts_firstD_sle _ o _ _ _ 0 c t (decide_eq_true (by omega)) (by omega) rfl rfl (by rw [bsA_uL]; rfl) (decide_eq_true (by omega)) (by rw [bsA_len]; exact wrap_add2 (by omega) (Nat.le_trans h2 (by omega))) (wrap_succ (by omega))
    refine Runs.upto (S := fun i => if i = 0 then sPfs (tsD a ++ tsS b) o (a ++ b).length 0 0 0 c else sPns (tsF a ++ tsS b) o (a ++ b).length (bord (a ++ b) c i) (len (a ++ b) i) i c) (j := (a ++ b).length) (fun i hi => ?_) ?_ (by simp)
    · by_cases hi0 : i = 0
      · subst hi0
        exact first
      · simp only [if_neg hi0, if_neg (by omega : ¬ i + 1 = 0)]
        exact nx i hi
    · simp only [if_neg h0]
      exact Parts_endn_s _ o _ _ _ _ c (decide_eq_false (by omega))
theorem loop_n (a b o : List TLV) (c : Nat) (hs : Small (a ++ b)) (hf : fits (a ++ b)) : Runs Try.prog T5 131 (Cd.loop [] lp5x0) (sPfn (tsD a ++ tsS b) o (a ++ b).length 0 0 0 c) fun x => x = (Ex.exit 0, sPen o (bord (a ++ b) c (a ++ b).length) (len (a ++ b) (a ++ b).length) c) := by
  have hl := hs.1
  have htot : ∀ i, len (a ++ b) i ≤ 1492 := fun i => Nat.le_trans (enc_take_le _ _) hf.2
  have hv : ∀ i (hi : i < (a ++ b).length), (a ++ b)[i].2.length ≤ 255 := fun i hi => hf.1 _ (List.getElem_mem _)
  have nx : ∀ i, i < (a ++ b).length → Runs Try.prog T5 131 lp5x0 (sPnn (tsF a ++ tsS b) o (a ++ b).length (bord (a ++ b) c i) (len (a ++ b) i) i c) (· = (.normal, sPnn (tsF a ++ tsS b) o (a ++ b).length (bord (a ++ b) c (i + 1)) (len (a ++ b) (i + 1)) (i + 1) c)) := by
    intro i hi
    obtain ⟨f, hg⟩ := elF (a := a) (b := b) hi
    have h1 := htot i
    have h2 := hv i hi
    rw [len_succ hi]
    simp only [bord]
    by_cases hle : len (a ++ b) i ≤ c
    · rw [if_pos hle]
      exact Parts_next_nle _ o _ _ _ i c _ f (decide_eq_true (by omega)) hg (decide_eq_true (by omega)) (by rw [bsA_len]; exact wrap_add2 (by omega) (by omega)) (wrap_succ (by omega))
    · rw [if_neg hle]
      exact Parts_next_ngt _ o _ _ _ i c _ f (decide_eq_true (by omega)) hg (decide_eq_false (by omega)) (by rw [bsA_len]; exact wrap_add2 (by omega) (by omega)) (wrap_succ (by omega))
  by_cases h0 : (a ++ b).length = 0
  · rw [h0]
    have : len (a ++ b) 0 = 0 := len_zero _
    simp only [bord, this]
    exact Runs.upto (S := fun i => sPfn (tsD a ++ tsS b) o 0 0 0 i c) (j := 0) (fun i hi => by omega) (Parts_endf_n _ o 0 0 0 0 c (decide_eq_false (by omega))) (by simp)
  · have hpos : 0 < (a ++ b).length := by omega
    have first : Runs Try.prog T5 131 lp5x0 (sPfn (tsD a ++ tsS b) o (a ++ b).length 0 0 0 c) (· = (.normal, sPnn (tsF a ++ tsS b) o (a ++ b).length (bord (a ++ b) c 1) (len (a ++ b) 1) 1 c)) := by
      have e : len (a ++ b) 0 = 0 := len_zero _
      have h2 := hv 0 hpos
      have eb : bord (a ++ b) c 1 = 0 := by simp only [bord, e]; simp
      rw [len_succ hpos, e, eb, ← uL_both]
      have hL : 0 < (tsD a ++ tsS b).length := by simpa using hpos
      cases a with
      | nil =>
        cases b with
        | nil => simp at hpos
        | cons t b => exact Parts_firstS_nle _ o _ _ _ 0 c t (decide_eq_true (by omega)) (by omega) rfl rfl (by rw [bsA_uL]; rfl) (decide_eq_true (by omega)) (by rw [bsA_len]; exact wrap_add2 (by omega) (Nat.le_trans h2 (by omega))) (wrap_succ (by omega))
      | cons t a => exact Parts_firstD_nle _ o _ _ _ 0 c t (decide_eq_true (by omega)) (by omega) rfl rfl (by rw [bsA_uL]; rfl) (decide_eq_true (by omega)) (by rw [bsA_len]; exact wrap_add2 (by omega) (Nat.le_trans h2 (by omega))) (wrap_succ (by omega))
    refine Runs.upto (S := fun i => if i = 0 then sPfn (tsD a ++ tsS b) o (a ++ b).length 0 0 0 c else sPnn (tsF a ++ tsS b) o (a ++ b).length (bord (a ++ b) c i) (len (a ++ b) i) i c) (j := (a ++ b).length) (fun i hi => ?_) ?_ (by simp)
    · by_cases hi0 : i = 0
      · subst hi0
        exact first
      · simp only [if_neg hi0, if_neg (by omega : ¬ i + 1 = 0)]
        exact nx i hi
    · simp only [if_neg h0]
      exact Parts_endn_n _ o _ _ _ _ c (decide_eq_false (by omega))

/-! ### TlvParts -/
theorem fits_app {a b : List TLV} : fits (a ++ b) ↔ (∀ t ∈ a, t.2.length ≤ 255) ∧ (∀ t ∈ b, t.2.length ≤ 255) ∧ (enc a).length + (enc b).length ≤ 1492 := by
  unfold fits
  rw [enc_app, List.length_append]
  constructor
  · rintro ⟨h1, h2⟩
    exact ⟨fun t ht => h1 t (List.mem_append.2 (.inl ht)), fun t ht => h1 t (List.mem_append.2 (.inr ht)), h2⟩
  · rintro ⟨h1, h2, h3⟩
    exact ⟨fun t ht => (List.mem_append.1 ht).elim (h1 t) (h2 t), h3⟩
theorem Parts_ok (a b : List TLV) (u : Nat) (hu : u ≤ 65535) (ha : Small a) (hb : Small b) (hl : a.length + b.length < 1073741824) : FnOk Try.prog 5 [slT a, slT b, .int .u16 u] (.bool true) := by
  have hab := small_app ha hb hl
  have cA : FnW Try.prog 7 [] [] (AV.bool true) := ⟨.refl, awake_ok⟩
  have cT : ∀ l : List TLV, Small l → FnW Try.prog 9 [AV.sl false false 2 (stale.sL (tsS l))] [slT l] (AV.own true 2 (tsF l)) := fun l h => .of (.cons (.sl_eq (by simp)) .nil) (Twin_ok l h)
  have fT : ∀ l : List TLV, freshA (AV.own true 2 (tsF l)) = true := fun l => by simp [freshA]
  have cJ : ∀ l : List TLV, Small l → FnW Try.prog 15 [AV.sl false false 2 (stale.sL (undeep.uL (deepen.dL (tsF l))))] [slT l] (joinS l) := fun l h => .of (.cons (.sl_eq (by simp)) .nil) (Join_ok' l h)
  have cL : FnW Try.prog 15 [AV.sl false false 2 (stale.sL (undeep.uL (deepen.dL (tsF a) ++ undeep.uL (deepen.dL (tsF b)))))] [slT (a ++ b)] (joinS (a ++ b)) :=
    .of (.cons (.sl_eq (by rw [tsF_dL, tsF_dL, tsD_uL, uL_app, tsD_uL, tsF_uL, ← tsF_app, tsF_sL])) .nil) (Join_ok' _ hab)
  have fB : ∀ p : List UInt8, freshA (AV.tup [AV.own true 1 (bsA p), ni 0]) = true := fun p => by simp [freshA, freshA.freshL]
  have s1 : ((deepen.dL (tsF a)).length + (undeep.uL (deepen.dL (tsF b))).length) * 32 ≤ 140737488355328 := by simp; omega
  have okb : (undeep.uL (deepen.dL (tsF b))).all (okElem 2) = true := by simp
  have flb : b ≠ [] → (deepen.dL (tsF b)).all flat = false := fun h => by rw [tsF_dL]; exact tsD_flat h
  have flb0 : b = [] → (deepen.dL (tsF b)).all flat = true := fun h => by rw [h]; rfl
  have jA := cJ a ha
  have jB := cJ b hb
  have jL := cL
  unfold joinS at jA jB jL
  by_cases fa : fits a
  · by_cases fb : fits b
    · rw [if_pos fa] at jA
      rw [if_pos fb] at jB
      have w18 : IntKind.i64.wrap (((bsA (enc a)).length : Int) + ((bsA (enc b)).length : Int)) = (((enc a).length + (enc b).length : Nat) : Int) := by
        have := fa.2
        have := fb.2
        rw [bsA_len, bsA_len, wrap64_eq (by omega) (by omega)]
        omega
      by_cases hsum : (enc a).length + (enc b).length ≤ 1492
      · have fab : fits (a ++ b) := fits_app.2 ⟨fa.1, fb.1, hsum⟩
        rw [if_pos fab, enc_app] at jL
        have hlen : (enc a ++ enc b).length ≤ 1492 := by rw [List.length_append]; exact hsum
        let n := u % ((enc a ++ enc b).length + 1)
        have hn : n ≤ (enc a ++ enc b).length := by
          have := Nat.mod_lt u (show 0 < (enc a ++ enc b).length + 1 by omega)
          show u % _ ≤ _
          omega
        have c20 : FnW Try.prog 18 [AV.sl false false 1 (stale.sL (undeep.uL (bsA (enc a))))] [slB (enc a)] (AV.own true 1 (bsA (enc a))) := .of (.cons (.sl_eq (by simp)) .nil) (Twin1_ok _ (by have := fa.2; omega))
        have c26 : FnW Try.prog 16 [AV.sl false false 1 (stale.sL (undeep.uL (bsA (enc a ++ enc b)))), AV.sl false false 1 (stale.sL (undeep.uL (bsA (enc a) ++ bsA (enc b))))] [slB (enc a ++ enc b), slB (enc a ++ enc b)] (AV.bool true) :=
          .of (.cons (.sl_eq (by simp)) (.cons (.sl_eq (by rw [← bsA_app, bsA_uL, bsA_sL])) .nil)) (by have := SameBytes_ok (enc a ++ enc b) (enc a ++ enc b) (by omega); rwa [decide_eq_true rfl] at this)
        have w28 : IntKind.i64.wrap (((bsA (enc a ++ enc b)).length : Int) + 1) = (((enc a ++ enc b).length + 1 : Nat) : Int) := by rw [bsA_len]; exact wrap_succ (by omega)
        have w30 : (u : Int).tmod (((enc a ++ enc b).length + 1 : Nat) : Int) = (n : Int) := by
          rw [Int.tmod_eq_emod_of_nonneg (by omega)]
          rfl
        have w31 : (n : Int) ≤ ((undeep.uL (bsA (enc a ++ enc b))).length : Int) := by rw [bsA_uL, bsA_len]; omega
        have c32 : FnW Try.prog 12 [AV.sl false (false || !(undeep.uL (bsA (enc a ++ enc b))).isEmpty) 1 (stale.sL (List.drop 0 (List.take n (undeep.uL (bsA (enc a ++ enc b))))))] [slB (List.take n (enc a ++ enc b))] (splitS (List.take n (enc a ++ enc b))) :=
          .of (.cons (.sl_eq (by rw [bsA_uL, List.drop_zero, ← bsA_take, bsA_sL])) .nil) (Split_ok' _)
        have ok35 : (tsS b).all (okElem 2) = true := by simp [tsS, tS, bA, okElem, cellsOf, okCell]
        have w36 : ((deepen.dL (tsF a)).length + (tsS b).length) * 32 ≤ 140737488355328 := by simp; omega
        have e37 : AV.own true 2 (deepen.dL (tsF a) ++ tsS b) = AV.own true 2 (tsD a ++ tsS b) := by rw [tsF_dL]
        have e38 : ((tsD a ++ tsS b).length : Int) = ((a ++ b).length : Int) := by rw [List.length_append, tsD_len, tsS_len, List.length_append]
        have hcut := parse_cut (L := a ++ b) fab.1 (n := n) (by rw [enc_app]; exact hn)
        rw [enc_app] at hcut
        have hlt : (List.take n (enc a ++ enc b)).length ≤ 1492 := by rw [List.length_take]; omega
        unfold splitS at c32
        rw [if_neg (by omega)] at c32
        -- the border at the end
        have hb1 := bord_iff (a ++ b) n ((a ++ b).length + 1) (Nat.le_refl _)
        have hb2 : bord (a ++ b) n ((a ++ b).length + 1) = n ↔ (parse (List.take n (enc a ++ enc b))).isSome = true := by
          rw [hb1, hcut]
          constructor
          · rintro (⟨j, hj, e⟩ | e)
            · exact ⟨j, by omega, e⟩
            · exact ⟨0, by omega, by rw [len_zero, e]⟩
          · rintro ⟨j, hj, e⟩
            exact .inl ⟨j, by omega, e⟩
        simp only [bord] at hb2
        have w23 : (bsA (enc b)).all flat = true := by simp
        have w24 : (bsA (enc b)).all (okElem 1) = true := by simp
        have w25 : ((bsA (enc a)).length + (bsA (enc b)).length) * 1 ≤ 140737488355328 := by simp; omega
        have w27 : IntKind.i64.wrap (u : Int) = (u : Int) := wrap64_eq (by omega) (by omega)
        have w19 : decide ((((enc a).length + (enc b).length : Nat) : Int) > 1492) = false := decide_eq_false (by omega)
        have w29 : (((enc a ++ enc b).length + 1 : Nat) : Int) ≠ 0 := by omega
        cases hp : parse (List.take n (enc a ++ enc b)) with
        | some o =>
          rw [hp] at c32 hb2
          have L := loop_s a b o n hab fab
          have fS : freshA (AV.tup [AV.own true 2 (tsF o), ni 0]) = true := by simp [freshA, freshA.freshL]
          by_cases hle : len (a ++ b) (a ++ b).length ≤ n
          · rw [if_pos hle] at hb2
            have e := hb2.2 rfl
            have z1 : decide ((len (a ++ b) (a ++ b).length : Int) ≤ (n : Int)) = true := decide_eq_true (by omega)
            have z2 : ((len (a ++ b) (a ++ b).length : Int) == (n : Int)) = true := by rw [beq_iff_eq]; omega
            by_cases hb0 : b = []
            · exact Parts_s0le a b (enc a) (enc b) u o n _ _ cA (cT a ha) (fT a) jA (fB _) (deepT_bs _ 0) (cT b hb) (fT b) jB (fB _) (deepT_bs _ 0) (flb0 hb0) (by rw [tsF_dL]; subst hb0; rfl) (by simp; omega) (by subst hb0; simpa [tsF, deepen.dL, undeep.uL] using jL) (fB _) (deepT_bs _ 0) w18 w19 c20 (by simp [freshA]) (by simp) w23 w24 w25 c26 w27 w28 w29 w30 w31 c32 fS (deepT_ts o 0) ok35 w36 e37 e38 L z1 z2
            · exact Parts_s1le a b (enc a) (enc b) u o n _ _ cA (cT a ha) (fT a) jA (fB _) (deepT_bs _ 0) (cT b hb) (fT b) jB (fB _) (deepT_bs _ 0) (flb hb0) okb s1 jL (fB _) (deepT_bs _ 0) w18 w19 c20 (by simp [freshA]) (by simp) w23 w24 w25 c26 w27 w28 w29 w30 w31 c32 fS (deepT_ts o 0) ok35 w36 e37 e38 L z1 z2
          · rw [if_neg hle] at hb2
            have e := hb2.2 rfl
            have z1 : decide ((len (a ++ b) (a ++ b).length : Int) ≤ (n : Int)) = false := decide_eq_false (by omega)
            have z2 : ((bord (a ++ b) n (a ++ b).length : Int) == (n : Int)) = true := by rw [beq_iff_eq]; omega
            by_cases hb0 : b = []
            · exact Parts_s0gt a b (enc a) (enc b) u o n _ _ cA (cT a ha) (fT a) jA (fB _) (deepT_bs _ 0) (cT b hb) (fT b) jB (fB _) (deepT_bs _ 0) (flb0 hb0) (by rw [tsF_dL]; subst hb0; rfl) (by simp; omega) (by subst hb0; simpa [tsF, deepen.dL, undeep.uL] using jL) (fB _) (deepT_bs _ 0) w18 w19 c20 (by simp [freshA]) (by simp) w23 w24 w25 c26 w27 w28 w29 w30 w31 c32 fS (deepT_ts o 0) ok35 w36 e37 e38 L z1 z2
            · exact Parts_s1gt a b (enc a) (enc b) u o n _ _ cA (cT a ha) (fT a) jA (fB _) (deepT_bs _ 0) (cT b hb) (fT b) jB (fB _) (deepT_bs _ 0) (flb hb0) okb s1 jL (fB _) (deepT_bs _ 0) w18 w19 c20 (by simp [freshA]) (by simp) w23 w24 w25 c26 w27 w28 w29 w30 w31 c32 fS (deepT_ts o 0) ok35 w36 e37 e38 L z1 z2
        | none =>
          rw [hp] at c32 hb2
          have L := loop_n a b [] n hab fab
          by_cases hle : len (a ++ b) (a ++ b).length ≤ n
          · rw [if_pos hle] at hb2
            have e : ¬ len (a ++ b) (a ++ b).length = n := fun e => by have := hb2.1 e; cases this
            have z1 : decide ((len (a ++ b) (a ++ b).length : Int) ≤ (n : Int)) = true := decide_eq_true (by omega)
            have z2 : ((len (a ++ b) (a ++ b).length : Int) == (n : Int)) = false := by simp only [beq_eq_false_iff_ne]; omega
            by_cases hb0 : b = []
            · exact Parts_n0le a b (enc a) (enc b) u [] n _ _ cA (cT a ha) (fT a) jA (fB _) (deepT_bs _ 0) (cT b hb) (fT b) jB (fB _) (deepT_bs _ 0) (flb0 hb0) (by rw [tsF_dL]; subst hb0; rfl) (by simp; omega) (by subst hb0; simpa [tsF, deepen.dL, undeep.uL] using jL) (fB _) (deepT_bs _ 0) w18 w19 c20 (by simp [freshA]) (by simp) w23 w24 w25 c26 w27 w28 w29 w30 w31 c32 ok35 w36 e37 e38 L z1 z2
            · exact Parts_n1le a b (enc a) (enc b) u [] n _ _ cA (cT a ha) (fT a) jA (fB _) (deepT_bs _ 0) (cT b hb) (fT b) jB (fB _) (deepT_bs _ 0) (flb hb0) okb s1 jL (fB _) (deepT_bs _ 0) w18 w19 c20 (by simp [freshA]) (by simp) w23 w24 w25 c26 w27 w28 w29 w30 w31 c32 ok35 w36 e37 e38 L z1 z2
          · rw [if_neg hle] at hb2
            have e : ¬ bord (a ++ b) n (a ++ b).length = n := fun e => by have := hb2.1 e; cases this
            have z1 : decide ((len (a ++ b) (a ++ b).length : Int) ≤ (n : Int)) = false := decide_eq_false (by omega)
            have z2 : ((bord (a ++ b) n (a ++ b).length : Int) == (n : Int)) = false := by simp only [beq_eq_false_iff_ne]; omega
            by_cases hb0 : b = []
            · exact Parts_n0gt a b (enc a) (enc b) u [] n _ _ cA (cT a ha) (fT a) jA (fB _) (deepT_bs _ 0) (cT b hb) (fT b) jB (fB _) (deepT_bs _ 0) (flb0 hb0) (by rw [tsF_dL]; subst hb0; rfl) (by simp; omega) (by subst hb0; simpa [tsF, deepen.dL, undeep.uL] using jL) (fB _) (deepT_bs _ 0) w18 w19 c20 (by simp [freshA]) (by simp) w23 w24 w25 c26 w27 w28 w29 w30 w31 c32 ok35 w36 e37 e38 L z1 z2
            · exact Parts_n1gt a b (enc a) (enc b) u [] n _ _ cA (cT a ha) (fT a) jA (fB _) (deepT_bs _ 0) (cT b hb) (fT b) jB (fB _) (deepT_bs _ 0) (flb hb0) okb s1 jL (fB _) (deepT_bs _ 0) w18 w19 c20 (by simp [freshA]) (by simp) w23 w24 w25 c26 w27 w28 w29 w30 w31 c32 ok35 w36 e37 e38 L z1 z2
      · have fab : ¬ fits (a ++ b) := fun h => hsum (fits_app.1 h).2.2
        rw [if_neg fab] at jL
        have hb0 : b ≠ [] := by
          rintro rfl
          exact hsum (by have := fa.2; simp [enc] at this ⊢; omega)
        exact Parts_errS a b (enc a) (enc b) u cA (cT a ha) (fT a) jA (fB _) (deepT_bs _ 0) (cT b hb) (fT b) jB (fB _) (deepT_bs _ 0) (flb hb0) okb s1 jL w18 (decide_eq_true (by omega))
    · rw [if_pos fa] at jA
      rw [if_neg fb] at jB
      have fab : ¬ fits (a ++ b) := fun h => fb ⟨(fits_app.1 h).2.1, by have := (fits_app.1 h).2.2; omega⟩
      rw [if_neg fab] at jL
      have hb0 : b ≠ [] := by
        rintro rfl
        exact fb ⟨(fun t ht => by cases ht), by simp [enc]⟩
      exact Parts_errB a b (enc a) (enc b) u cA (cT a ha) (fT a) jA (fB _) (deepT_bs _ 0) (cT b hb) (fT b) jB (flb hb0) okb s1 jL
  · rw [if_neg fa] at jA
    have fab : ¬ fits (a ++ b) := fun h => fa ⟨(fits_app.1 h).1, by have := (fits_app.1 h).2.2; omega⟩
    rw [if_neg fab] at jL
    by_cases fb : fits b
    · rw [if_pos fb] at jB
      by_cases hb0 : b = []
      · exact Parts_errA0 a b (enc a) (enc b) u cA (cT a ha) (fT a) jA (cT b hb) (fT b) jB (fB _) (deepT_bs _ 0) (flb0 hb0) (by rw [tsF_dL]; subst hb0; rfl) (by simp; omega) (by subst hb0; simpa [tsF, deepen.dL, undeep.uL] using jL)
      · exact Parts_errA1 a b (enc a) (enc b) u cA (cT a ha) (fT a) jA (cT b hb) (fT b) jB (fB _) (deepT_bs _ 0) (flb hb0) okb s1 jL
    · rw [if_neg fb] at jB
      have hb0 : b ≠ [] := by
        rintro rfl
        exact fb ⟨(fun t ht => by cases ht), by simp [enc]⟩
      exact Parts_errAB a b (enc a) (enc b) u cA (cT a ha) (fT a) jA (cT b hb) (fT b) jB (flb hb0) okb s1 jL
end Go.Ev
