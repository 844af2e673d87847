import Derived.Test.YteffphbjbbmpcaaZe3
import Derived.KernelRfl

/-! text W1 -/
set_option linter.unusedVariables false
namespace Go.Ev
open Go.Proofs (Try.prog)
theorem SameBytes_next (a b : List UInt8) (i : Nat) (x y : UInt8)
    (h1 : decide ((↑i : Int) < (↑a.length : Int)) = true)
    (h2 : (bsA a)[i]? = some (bA x))
    (h3 : (bsA b)[i]? = some (bA y))
    (h4 : ((↑x.toNat : Int) != (↑y.toNat : Int)) = false)
    (h5 : IntKind.i64.wrap ((↑i : Int) + (1 : Int)) = (↑(i + (1 : Nat)) : Int)) :
    WayR Try.prog T16 26 lp16x0 [(14, .b true), (18, .v (bA x)), (22, .v (bA y)), (24, .b false), (25, .i (i+1 : Nat))] (sSB a b i) .normal (sSB a b (i + 1)) :=
  runs_of_pr hfol (show prR Try.prog T16 26 lp16x0 [(14, .b true), (18, .v (bA x)), (22, .v (bA y)), (24, .b false), (25, .i (i+1 : Nat))] (sSB a b i) .normal (sSB a b (i + 1)) = some _ by kernel_rfl) (AllP.c h1 (AllP.c (show (0 : Int) ≤ (↑i : Int) from Int.natCast_nonneg _) (AllP.c h2 (AllP.c (show (0 : Int) ≤ (↑i : Int) from Int.natCast_nonneg _) (AllP.c h3 (AllP.c h4 (AllP.c h5 (AllP.c (LeR.refl (x := AV.sl false false (1 : Nat) (bsA a))) (AllP.c (LeR.refl (x := AV.sl false false (1 : Nat) (bsA b))) (AllP.c (LeR.refl (x := AV.int IntKind.i64 (↑a.length : Int))) (AllP.c (LeR.refl (x := AV.int IntKind.i64 (↑(i + (1 : Nat)) : Int))) (AllP.c (LeR.refl (x := AV.mem [])) AllP.n))))))))))))
theorem SameBytes_diff (a b : List UInt8) (i : Nat) (x y : UInt8)
    (h1 : decide ((↑i : Int) < (↑a.length : Int)) = true)
    (h2 : (bsA a)[i]? = some (bA x))
    (h3 : (bsA b)[i]? = some (bA y))
    (h4 : ((↑x.toNat : Int) != (↑y.toNat : Int)) = true) :
    WayR Try.prog T16 26 lp16x0 [(14, .b true), (18, .v (bA x)), (22, .v (bA y)), (24, .b true)] (sSB a b i) .ret (st 26 [(4, .bool false)]) :=
  runs_of_pr hfol (show prR Try.prog T16 26 lp16x0 [(14, .b true), (18, .v (bA x)), (22, .v (bA y)), (24, .b true)] (sSB a b i) .ret (st 26 [(4, .bool false)]) = some _ by kernel_rfl) (AllP.c h1 (AllP.c (show (0 : Int) ≤ (↑i : Int) from Int.natCast_nonneg _) (AllP.c h2 (AllP.c (show (0 : Int) ≤ (↑i : Int) from Int.natCast_nonneg _) (AllP.c h3 (AllP.c h4 (AllP.c (LeR.refl (x := AV.bool false)) (AllP.c (LeR.refl (x := AV.mem [])) AllP.n))))))))
theorem SameBytes_end (a b : List UInt8) (i : Nat)
    (h1 : decide ((↑i : Int) < (↑a.length : Int)) = false) :
    WayR Try.prog T16 26 lp16x0 [(14, .b false)] (sSB a b i) (.exit 0) (st 26 []) :=
  runs_of_pr hfol (show prR Try.prog T16 26 lp16x0 [(14, .b false)] (sSB a b i) (.exit 0) (st 26 []) = some _ by kernel_rfl) (AllP.c h1 (AllP.c (LeR.refl (x := AV.mem [])) AllP.n))
theorem SameBytes_len (a b : List UInt8)
    (h1 : ((↑(bsA a).length : Int) != (↑(bsA b).length : Int)) = true) :
    WayF Try.prog 16 T16 fd16 [(10, .b true)] [slB a, slB b] (.bool false) :=
  fn_of_pr hfol ok16 hT16 (show prF Try.prog 16 T16 fd16 [(10, .b true)] [slB a, slB b] (.bool false) = some _ by kernel_rfl) (AllP.c h1 (AllP.c (show AV.bool false = AV.bool false by kernel_rfl) AllP.n))
theorem SameBytes_all (a b : List UInt8)
    (h1 : ((↑(bsA a).length : Int) != (↑(bsA b).length : Int)) = false)
    (h2 : LeR (AV.int IntKind.i64 (↑(bsA a).length : Int)) (AV.int IntKind.i64 (↑a.length : Int)))
    (h3 : Runs Try.prog T16 (26 : Nat) (Cd.loop [] lp16x0) (sSB a b (0 : Nat)) fun x => x = (Ex.exit (0 : Nat), st (26 : Nat) [])) :
    WayF Try.prog 16 T16 fd16 [(10, .b false), (0, .lp (sSB a b 0) (.exit 0) (st 26 []))] [slB a, slB b] (.bool true) :=
  fn_of_pr hfol ok16 hT16 (show prF Try.prog 16 T16 fd16 [(10, .b false), (0, .lp (sSB a b 0) (.exit 0) (st 26 []))] [slB a, slB b] (.bool true) = some _ by kernel_rfl) (AllP.c h1 (AllP.c (LeR.refl (x := AV.sl false false (1 : Nat) (bsA a))) (AllP.c (LeR.refl (x := AV.sl false false (1 : Nat) (bsA b))) (AllP.c h2 (AllP.c (LeR.refl (x := AV.int IntKind.i64 (↑(0 : Nat) : Int))) (AllP.c (LeR.refl (x := AV.mem [])) (AllP.c h3 (AllP.c (show AV.bool true = AV.bool true by kernel_rfl) AllP.n))))))))
theorem SameBytes_not (a b : List UInt8)
    (h1 : ((↑(bsA a).length : Int) != (↑(bsA b).length : Int)) = false)
    (h2 : LeR (AV.int IntKind.i64 (↑(bsA a).length : Int)) (AV.int IntKind.i64 (↑a.length : Int)))
    (h3 : Runs Try.prog T16 (26 : Nat) (Cd.loop [] lp16x0) (sSB a b (0 : Nat)) fun x => x = (Ex.ret, st (26 : Nat) [((4 : Nat), AV.bool false)])) :
    WayF Try.prog 16 T16 fd16 [(10, .b false), (0, .lp (sSB a b 0) .ret (st 26 [(4, .bool false)]))] [slB a, slB b] (.bool false) :=
  fn_of_pr hfol ok16 hT16 (show prF Try.prog 16 T16 fd16 [(10, .b false), (0, .lp (sSB a b 0) .ret (st 26 [(4, .bool false)]))] [slB a, slB b] (.bool false) = some _ by kernel_rfl) (AllP.c h1 (AllP.c (LeR.refl (x := AV.sl false false (1 : Nat) (bsA a))) (AllP.c (LeR.refl (x := AV.sl false false (1 : Nat) (bsA b))) (AllP.c h2 (AllP.c (LeR.refl (x := AV.int IntKind.i64 (↑(0 : Nat) : Int))) (AllP.c (LeR.refl (x := AV.mem [])) (AllP.c h3 (AllP.c (show AV.bool false = AV.bool false by kernel_rfl) AllP.n))))))))
theorem Twin_way (l : List UInt8)
    (h1 : (bsA l).all (okElem (1 : Nat)) = true)
    (h2 : ((0 : Nat) + (bsA l).length) * (1 : Nat) ≤ (140737488355328 : Nat)) :
    WayF Try.prog 35 T35 fd35 [(5, .q)] [slB l] (.own true 1 (bsA l)) :=
  fn_of_pr hfol ok35 hT35 (show prF Try.prog 35 T35 fd35 [(5, .q)] [slB l] (.own true 1 (bsA l)) = some _ by kernel_rfl) (AllP.c h1 (AllP.c h2 (AllP.c (show AV.own true (1 : Nat) ([] ++ bsA l) = AV.own true (1 : Nat) (bsA l) by kernel_rfl) AllP.n)))
theorem Equal_way (a b : List UInt8) (x y : ByteArray)
    (h1 : toBytes (bsA a) = some x)
    (h2 : toBytes (bsA b) = some y) :
    WayF Try.prog 36 T36 fd36 [(6, .s x), (8, .s y)] [slB a, slB b] (.bool (x.toList == y.toList)) :=
  fn_of_pr hfol ok36 hT36 (show prF Try.prog 36 T36 fd36 [(6, .s x), (8, .s y)] [slB a, slB b] (.bool (x.toList == y.toList)) = some _ by kernel_rfl) (AllP.c h1 (AllP.c h2 (AllP.c (show AV.bool (x.toList == y.toList) = AV.bool (x.toList == y.toList) by kernel_rfl) AllP.n)))
theorem areas_next (l out : List (List UInt8)) (i : Nat) (t : List UInt8)
    (h1 : decide ((↑i : Int) < (↑l.length : Int)) = true)
    (h2 : (vsS l)[i]? = some (vS t))
    (h3 : FnW Try.prog (35 : FuncId) [AV.sl false false (1 : Nat) (stale.sL (bsA t))] [slB t] (AV.own true (1 : Nat) (bsA t)))
    (h4 : freshA (AV.own true (1 : Nat) (bsA t)) = true)
    (h5 : ((vsF out).length + [AV.sl true false (1 : Nat) (undeep.uL (undeep.uL (deepen.dL (bsA t))))].length) * (24 : Nat) ≤ (140737488355328 : Nat))
    (h6 : IntKind.i64.wrap ((↑i : Int) + (1 : Int)) = (↑(i + (1 : Nat)) : Int))
    (h7 : LeR (AV.own true (1 : Nat) (vsF out ++ [AV.sl true false (1 : Nat) (undeep.uL (undeep.uL (deepen.dL (bsA t))))])) (AV.own true (1 : Nat) (vsF (out ++ [t])))) :
    WayR Try.prog T23 19 lp23x0 [(9, .b true), (10, .v (vS t)), (14, .c [slB t] (.own true 1 (bsA t))), (16, .q2), (17, .i (i + 1 : Nat))] (sTw l out i) .normal (sTw l (out ++ [t]) (i + 1)) :=
  runs_of_pr hfol (show prR Try.prog T23 19 lp23x0 [(9, .b true), (10, .v (vS t)), (14, .c [slB t] (.own true 1 (bsA t))), (16, .q2), (17, .i (i + 1 : Nat))] (sTw l out i) .normal (sTw l (out ++ [t]) (i + 1)) = some _ by kernel_rfl) (AllP.c h1 (AllP.c (show (0 : Int) ≤ (↑i : Int) from Int.natCast_nonneg _) (AllP.c h2 (AllP.c h3 (AllP.c h4 (AllP.c (show [AV.sl true false (1 : Nat) (undeep.uL (deepen.dL (bsA t)))].all flat = false by kernel_rfl) (AllP.c (show [AV.sl true false (1 : Nat) (undeep.uL (undeep.uL (deepen.dL (bsA t))))].all (okElem (1 : Nat)) = true by kernel_rfl) (AllP.c h5 (AllP.c h6 (AllP.c h7 (AllP.c (LeR.refl (x := AV.sl false false (1 : Nat) (vsS l))) (AllP.c (LeR.refl (x := AV.int IntKind.i64 (↑l.length : Int))) (AllP.c (LeR.refl (x := AV.int IntKind.i64 (↑(i + (1 : Nat)) : Int))) (AllP.c (LeR.refl (x := AV.mem [])) AllP.n))))))))))))))
theorem areas_end (l out : List (List UInt8)) (i : Nat)
    (h1 : decide ((↑i : Int) < (↑l.length : Int)) = false) :
    WayR Try.prog T23 19 lp23x0 [(9, .b false)] (sTw l out i) (.exit 0) (st 19 [(3, .own true 1 (vsF out))]) :=
  runs_of_pr hfol (show prR Try.prog T23 19 lp23x0 [(9, .b false)] (sTw l out i) (.exit 0) (st 19 [(3, .own true 1 (vsF out))]) = some _ by kernel_rfl) (AllP.c h1 (AllP.c (LeR.refl (x := AV.own true (1 : Nat) (vsF out))) (AllP.c (LeR.refl (x := AV.mem [])) AllP.n)))
theorem areas_way (l : List (List UInt8))
    (h1 : LeR (AV.int IntKind.i64 (↑(vsS l).length : Int)) (AV.int IntKind.i64 (↑l.length : Int)))
    (h2 : Runs Try.prog T23 (19 : Nat) (Cd.loop [] lp23x0) (sTw l [] (0 : Nat)) fun x => x = (Ex.exit (0 : Nat), st (19 : Nat) [((3 : Nat), AV.own true (1 : Nat) (vsF l))])) :
    WayF Try.prog 23 T23 fd23 [(0, .lp (sTw l [] 0) (.exit 0) (st 19 [(3, .own true 1 (vsF l))]))] [slV l] (.own true 1 (vsF l)) :=
  fn_of_pr hfol ok23 hT23 (show prF Try.prog 23 T23 fd23 [(0, .lp (sTw l [] 0) (.exit 0) (st 19 [(3, .own true 1 (vsF l))]))] [slV l] (.own true 1 (vsF l)) = some _ by kernel_rfl) (AllP.c (LeR.nilsOwn : LeR AV.nils (AV.own true (1 : Nat) [])) (AllP.c (LeR.refl (x := AV.sl false false (1 : Nat) (vsS l))) (AllP.c h1 (AllP.c (LeR.refl (x := AV.int IntKind.i64 (↑(0 : Nat) : Int))) (AllP.c (LeR.refl (x := AV.mem [])) (AllP.c h2 (AllP.c (show AV.own true (1 : Nat) (vsF l) = AV.own true (1 : Nat) (vsF l) by kernel_rfl) AllP.n)))))))
theorem SameAreas_next (a b : List (List UInt8)) (i : Nat) (x y : List UInt8)
    (h1 : decide ((↑i : Int) < (↑a.length : Int)) = true)
    (h2 : (vsS a)[i]? = some (vS x))
    (h3 : (vsS b)[i]? = some (vS y))
    (h4 : FnW Try.prog (16 : FuncId) [AV.sl false false (1 : Nat) (stale.sL (bsA x)), AV.sl false false (1 : Nat) (stale.sL (bsA y))] [slB x, slB y] (AV.bool true))
    (h5 : IntKind.i64.wrap ((↑i : Int) + (1 : Int)) = (↑(i + (1 : Nat)) : Int)) :
    WayR Try.prog T15 27 lp15x0 [(14, .b true), (18, .v (vS x)), (22, .v (vS y)), (24, .c [slB x, slB y] (.bool true)), (26, .i (i + 1 : Nat))] (sSA a b i) .normal (sSA a b (i + 1)) :=
  runs_of_pr hfol (show prR Try.prog T15 27 lp15x0 [(14, .b true), (18, .v (vS x)), (22, .v (vS y)), (24, .c [slB x, slB y] (.bool true)), (26, .i (i + 1 : Nat))] (sSA a b i) .normal (sSA a b (i + 1)) = some _ by kernel_rfl) (AllP.c h1 (AllP.c (show (0 : Int) ≤ (↑i : Int) from Int.natCast_nonneg _) (AllP.c h2 (AllP.c (show (0 : Int) ≤ (↑i : Int) from Int.natCast_nonneg _) (AllP.c h3 (AllP.c h4 (AllP.c (show freshA (AV.bool true) = true by kernel_rfl) (AllP.c h5 (AllP.c (LeR.refl (x := AV.sl false false (1 : Nat) (vsS a))) (AllP.c (LeR.refl (x := AV.sl false false (1 : Nat) (vsS b))) (AllP.c (LeR.refl (x := AV.int IntKind.i64 (↑a.length : Int))) (AllP.c (LeR.refl (x := AV.int IntKind.i64 (↑(i + (1 : Nat)) : Int))) (AllP.c (LeR.refl (x := AV.mem [])) AllP.n)))))))))))))
theorem SameAreas_diff (a b : List (List UInt8)) (i : Nat) (x y : List UInt8)
    (h1 : decide ((↑i : Int) < (↑a.length : Int)) = true)
    (h2 : (vsS a)[i]? = some (vS x))
    (h3 : (vsS b)[i]? = some (vS y))
    (h4 : FnW Try.prog (16 : FuncId) [AV.sl false false (1 : Nat) (stale.sL (bsA x)), AV.sl false false (1 : Nat) (stale.sL (bsA y))] [slB x, slB y] (AV.bool false)) :
    WayR Try.prog T15 27 lp15x0 [(14, .b true), (18, .v (vS x)), (22, .v (vS y)), (24, .c [slB x, slB y] (.bool false))] (sSA a b i) .ret (st 27 [(4, .bool false)]) :=
  runs_of_pr hfol (show prR Try.prog T15 27 lp15x0 [(14, .b true), (18, .v (vS x)), (22, .v (vS y)), (24, .c [slB x, slB y] (.bool false))] (sSA a b i) .ret (st 27 [(4, .bool false)]) = some _ by kernel_rfl) (AllP.c h1 (AllP.c (show (0 : Int) ≤ (↑i : Int) from Int.natCast_nonneg _) (AllP.c h2 (AllP.c (show (0 : Int) ≤ (↑i : Int) from Int.natCast_nonneg _) (AllP.c h3 (AllP.c h4 (AllP.c (show freshA (AV.bool false) = true by kernel_rfl) (AllP.c (LeR.refl (x := AV.bool false)) (AllP.c (LeR.refl (x := AV.mem [])) AllP.n)))))))))
theorem SameAreas_end (a b : List (List UInt8)) (i : Nat)
    (h1 : decide ((↑i : Int) < (↑a.length : Int)) = false) :
    WayR Try.prog T15 27 lp15x0 [(14, .b false)] (sSA a b i) (.exit 0) (st 27 []) :=
  runs_of_pr hfol (show prR Try.prog T15 27 lp15x0 [(14, .b false)] (sSA a b i) (.exit 0) (st 27 []) = some _ by kernel_rfl) (AllP.c h1 (AllP.c (LeR.refl (x := AV.mem [])) AllP.n))
theorem SameAreas_len (a b : List (List UInt8))
    (h1 : ((↑(vsS a).length : Int) != (↑(vsS b).length : Int)) = true) :
    WayF Try.prog 15 T15 fd15 [(10, .b true)] [slV a, slV b] (.bool false) :=
  fn_of_pr hfol ok15 hT15 (show prF Try.prog 15 T15 fd15 [(10, .b true)] [slV a, slV b] (.bool false) = some _ by kernel_rfl) (AllP.c h1 (AllP.c (show AV.bool false = AV.bool false by kernel_rfl) AllP.n))
theorem SameAreas_all (a b : List (List UInt8))
    (h1 : ((↑(vsS a).length : Int) != (↑(vsS b).length : Int)) = false)
    (h2 : LeR (AV.int IntKind.i64 (↑(vsS a).length : Int)) (AV.int IntKind.i64 (↑a.length : Int)))
    (h3 : Runs Try.prog T15 (27 : Nat) (Cd.loop [] lp15x0) (sSA a b (0 : Nat)) fun x => x = (Ex.exit (0 : Nat), st (27 : Nat) [])) :
    WayF Try.prog 15 T15 fd15 [(10, .b false), (0, .lp (sSA a b 0) (.exit 0) (st 27 []))] [slV a, slV b] (.bool true) :=
  fn_of_pr hfol ok15 hT15 (show prF Try.prog 15 T15 fd15 [(10, .b false), (0, .lp (sSA a b 0) (.exit 0) (st 27 []))] [slV a, slV b] (.bool true) = some _ by kernel_rfl) (AllP.c h1 (AllP.c (LeR.refl (x := AV.sl false false (1 : Nat) (vsS a))) (AllP.c (LeR.refl (x := AV.sl false false (1 : Nat) (vsS b))) (AllP.c h2 (AllP.c (LeR.refl (x := AV.int IntKind.i64 (↑(0 : Nat) : Int))) (AllP.c (LeR.refl (x := AV.mem [])) (AllP.c h3 (AllP.c (show AV.bool true = AV.bool true by kernel_rfl) AllP.n))))))))
theorem SameAreas_not (a b : List (List UInt8))
    (h1 : ((↑(vsS a).length : Int) != (↑(vsS b).length : Int)) = false)
    (h2 : LeR (AV.int IntKind.i64 (↑(vsS a).length : Int)) (AV.int IntKind.i64 (↑a.length : Int)))
    (h3 : Runs Try.prog T15 (27 : Nat) (Cd.loop [] lp15x0) (sSA a b (0 : Nat)) fun x => x = (Ex.ret, st (27 : Nat) [((4 : Nat), AV.bool false)])) :
    WayF Try.prog 15 T15 fd15 [(10, .b false), (0, .lp (sSA a b 0) .ret (st 27 [(4, .bool false)]))] [slV a, slV b] (.bool false) :=
  fn_of_pr hfol ok15 hT15 (show prF Try.prog 15 T15 fd15 [(10, .b false), (0, .lp (sSA a b 0) .ret (st 27 [(4, .bool false)]))] [slV a, slV b] (.bool false) = some _ by kernel_rfl) (AllP.c h1 (AllP.c (LeR.refl (x := AV.sl false false (1 : Nat) (vsS a))) (AllP.c (LeR.refl (x := AV.sl false false (1 : Nat) (vsS b))) (AllP.c h2 (AllP.c (LeR.refl (x := AV.int IntKind.i64 (↑(0 : Nat) : Int))) (AllP.c (LeR.refl (x := AV.mem [])) (AllP.c h3 (AllP.c (show AV.bool false = AV.bool false by kernel_rfl) AllP.n))))))))
theorem level_lo (n : Int)
    (h1 : decide (n ≥ (1 : Int)) = false) :
    WayF Try.prog 31 T31 fd31 [(4, .b false)] [ni n] (.bool false) :=
  fn_of_pr hfol ok31 hT31 (show prF Try.prog 31 T31 fd31 [(4, .b false)] [ni n] (.bool false) = some _ by kernel_rfl) (AllP.c h1 (AllP.c (show AV.bool false = AV.bool false by kernel_rfl) AllP.n))
theorem level_hi (n : Int) (r : Bool)
    (h1 : decide (n ≥ (1 : Int)) = true)
    (h2 : decide (n ≤ (3 : Int)) = r) :
    WayF Try.prog 31 T31 fd31 [(4, .b true), (7, .b r)] [ni n] (.bool r) :=
  fn_of_pr hfol ok31 hT31 (show prF Try.prog 31 T31 fd31 [(4, .b true), (7, .b r)] [ni n] (.bool r) = some _ by kernel_rfl) (AllP.c h1 (AllP.c h2 (AllP.c (show AV.bool r = AV.bool r by kernel_rfl) AllP.n)))
theorem state_lo (n : Int)
    (h1 : decide (n ≥ (0 : Int)) = false) :
    WayF Try.prog 32 T32 fd32 [(4, .b false)] [ni n] (.bool false) :=
  fn_of_pr hfol ok32 hT32 (show prF Try.prog 32 T32 fd32 [(4, .b false)] [ni n] (.bool false) = some _ by kernel_rfl) (AllP.c h1 (AllP.c (show AV.bool false = AV.bool false by kernel_rfl) AllP.n))
theorem state_hi (n : Int) (r : Bool)
    (h1 : decide (n ≥ (0 : Int)) = true)
    (h2 : decide (n ≤ (2 : Int)) = r) :
    WayF Try.prog 32 T32 fd32 [(4, .b true), (7, .b r)] [ni n] (.bool r) :=
  fn_of_pr hfol ok32 hT32 (show prF Try.prog 32 T32 fd32 [(4, .b true), (7, .b r)] [ni n] (.bool r) = some _ by kernel_rfl) (AllP.c h1 (AllP.c h2 (AllP.c (show AV.bool r = AV.bool r by kernel_rfl) AllP.n)))
theorem hold_lo (n : Int)
    (h1 : decide (n ≥ (1 : Int)) = false) :
    WayF Try.prog 33 T33 fd33 [(4, .b false)] [ni n] (.bool false) :=
  fn_of_pr hfol ok33 hT33 (show prF Try.prog 33 T33 fd33 [(4, .b false)] [ni n] (.bool false) = some _ by kernel_rfl) (AllP.c h1 (AllP.c (show AV.bool false = AV.bool false by kernel_rfl) AllP.n))
theorem hold_hi (n : Int) (r : Bool)
    (h1 : decide (n ≥ (1 : Int)) = true)
    (h2 : decide (n ≤ (65535 : Int)) = r) :
    WayF Try.prog 33 T33 fd33 [(4, .b true), (7, .b r)] [ni n] (.bool r) :=
  fn_of_pr hfol ok33 hT33 (show prF Try.prog 33 T33 fd33 [(4, .b true), (7, .b r)] [ni n] (.bool r) = some _ by kernel_rfl) (AllP.c h1 (AllP.c h2 (AllP.c (show AV.bool r = AV.bool r by kernel_rfl) AllP.n)))
theorem within_lo (n l h : Int)
    (h1 : decide (n ≥ l) = false) :
    WayF Try.prog 28 T28 fd28 [(9, .b false)] [ni n, ni l, ni h] (.bool false) :=
  fn_of_pr hfol ok28 hT28 (show prF Try.prog 28 T28 fd28 [(9, .b false)] [ni n, ni l, ni h] (.bool false) = some _ by kernel_rfl) (AllP.c h1 (AllP.c (show AV.bool false = AV.bool false by kernel_rfl) AllP.n))
theorem within_hi (n l h : Int) (r : Bool)
    (h1 : decide (n ≥ l) = true)
    (h2 : decide (n ≤ h) = r) :
    WayF Try.prog 28 T28 fd28 [(9, .b true), (13, .b r)] [ni n, ni l, ni h] (.bool r) :=
  fn_of_pr hfol ok28 hT28 (show prF Try.prog 28 T28 fd28 [(9, .b true), (13, .b r)] [ni n, ni l, ni h] (.bool r) = some _ by kernel_rfl) (AllP.c h1 (AllP.c h2 (AllP.c (show AV.bool r = AV.bool r by kernel_rfl) AllP.n)))
theorem shareI_next (a b : List (List UInt8)) (i j : Nat) (x y : List UInt8)
    (h1 : decide ((↑j : Int) < (↑b.length : Int)) = true)
    (h2 : (vsS b)[j]? = some (vS y))
    (h3 : FnW Try.prog (36 : FuncId) [AV.sl false false (1 : Nat) (stale.sL (bsA x)), AV.sl false false (1 : Nat) (stale.sL (bsA y))] [slB x, slB y] (AV.bool false))
    (h4 : IntKind.i64.wrap ((↑j : Int) + (1 : Int)) = (↑(j + (1 : Nat)) : Int)) :
    WayR Try.prog T25 26 lp25x0 [(18, .b true), (19, .v (vS y)), (23, .c [slB x, slB y] (.bool false)), (24, .i (j + 1 : Nat))] (sShI a b i x j) .normal (sShI a b i x (j + 1)) :=
  runs_of_pr hfol (show prR Try.prog T25 26 lp25x0 [(18, .b true), (19, .v (vS y)), (23, .c [slB x, slB y] (.bool false)), (24, .i (j + 1 : Nat))] (sShI a b i x j) .normal (sShI a b i x (j + 1)) = some _ by kernel_rfl) (AllP.c h1 (AllP.c (show (0 : Int) ≤ (↑j : Int) from Int.natCast_nonneg _) (AllP.c h2 (AllP.c h3 (AllP.c (show freshA (AV.bool false) = true by kernel_rfl) (AllP.c h4 (AllP.c (LeR.refl (x := AV.sl false false (1 : Nat) (vsS b))) (AllP.c (LeR.refl (x := AV.sl false false (1 : Nat) (bsA x))) (AllP.c (LeR.refl (x := AV.sl false false (1 : Nat) (vsS a))) (AllP.c (LeR.refl (x := AV.int IntKind.i64 (↑a.length : Int))) (AllP.c (LeR.refl (x := AV.int IntKind.i64 (↑i : Int))) (AllP.c (LeR.refl (x := AV.sl false false (1 : Nat) (vsS b))) (AllP.c (LeR.refl (x := AV.int IntKind.i64 (↑b.length : Int))) (AllP.c (LeR.refl (x := AV.int IntKind.i64 (↑(j + (1 : Nat)) : Int))) (AllP.c (LeR.refl (x := AV.mem [])) AllP.n)))))))))))))))
theorem shareI_hit (a b : List (List UInt8)) (i j : Nat) (x y : List UInt8)
    (h1 : decide ((↑j : Int) < (↑b.length : Int)) = true)
    (h2 : (vsS b)[j]? = some (vS y))
    (h3 : FnW Try.prog (36 : FuncId) [AV.sl false false (1 : Nat) (stale.sL (bsA x)), AV.sl false false (1 : Nat) (stale.sL (bsA y))] [slB x, slB y] (AV.bool true)) :
    WayR Try.prog T25 26 lp25x0 [(18, .b true), (19, .v (vS y)), (23, .c [slB x, slB y] (.bool true))] (sShI a b i x j) .ret (st 26 [(4, .bool true)]) :=
  runs_of_pr hfol (show prR Try.prog T25 26 lp25x0 [(18, .b true), (19, .v (vS y)), (23, .c [slB x, slB y] (.bool true))] (sShI a b i x j) .ret (st 26 [(4, .bool true)]) = some _ by kernel_rfl) (AllP.c h1 (AllP.c (show (0 : Int) ≤ (↑j : Int) from Int.natCast_nonneg _) (AllP.c h2 (AllP.c h3 (AllP.c (show freshA (AV.bool true) = true by kernel_rfl) (AllP.c (LeR.refl (x := AV.bool true)) (AllP.c (LeR.refl (x := AV.mem [])) AllP.n)))))))
theorem shareI_end (a b : List (List UInt8)) (i j : Nat) (x : List UInt8)
    (h1 : decide ((↑j : Int) < (↑b.length : Int)) = false) :
    WayR Try.prog T25 26 lp25x0 [(18, .b false)] (sShI a b i x j) (.exit 2) (sShO a b i) :=
  runs_of_pr hfol (show prR Try.prog T25 26 lp25x0 [(18, .b false)] (sShI a b i x j) (.exit 2) (sShO a b i) = some _ by kernel_rfl) (AllP.c h1 (AllP.c (LeR.refl (x := AV.sl false false (1 : Nat) (vsS b))) (AllP.c (LeR.refl (x := AV.sl false false (1 : Nat) (vsS a))) (AllP.c (LeR.refl (x := AV.int IntKind.i64 (↑a.length : Int))) (AllP.c (LeR.refl (x := AV.int IntKind.i64 (↑i : Int))) (AllP.c (LeR.refl (x := AV.mem [])) AllP.n))))))
theorem shareO_next (a b : List (List UInt8)) (i : Nat) (x : List UInt8)
    (h1 : decide ((↑i : Int) < (↑a.length : Int)) = true)
    (h2 : (vsS a)[i]? = some (vS x))
    (h3 : LeR (AV.int IntKind.i64 (↑(vsS b).length : Int)) (AV.int IntKind.i64 (↑b.length : Int)))
    (h4 : Runs Try.prog T25 (26 : Nat) (Cd.loop [] lp25x0) (sShI a b i x (0 : Nat)) fun x => x = (Ex.exit (2 : Nat), sShO a b i))
    (h5 : IntKind.i64.wrap ((↑i : Int) + (1 : Int)) = (↑(i + (1 : Nat)) : Int)) :
    WayR Try.prog T25 26 lp25x1 [(12, .b true), (13, .v (vS x)), (0, .lp (sShI a b i x 0) (.exit 2) (sShO a b i)), (25, .i (i + 1 : Nat))] (sShO a b i) .normal (sShO a b (i + 1)) :=
  runs_of_pr hfol (show prR Try.prog T25 26 lp25x1 [(12, .b true), (13, .v (vS x)), (0, .lp (sShI a b i x 0) (.exit 2) (sShO a b i)), (25, .i (i + 1 : Nat))] (sShO a b i) .normal (sShO a b (i + 1)) = some _ by kernel_rfl) (AllP.c h1 (AllP.c (show (0 : Int) ≤ (↑i : Int) from Int.natCast_nonneg _) (AllP.c h2 (AllP.c (LeR.refl (x := AV.sl false false (1 : Nat) (vsS b))) (AllP.c (LeR.refl (x := AV.sl false false (1 : Nat) (bsA x))) (AllP.c (LeR.refl (x := AV.sl false false (1 : Nat) (vsS a))) (AllP.c (LeR.refl (x := AV.int IntKind.i64 (↑a.length : Int))) (AllP.c (LeR.refl (x := AV.int IntKind.i64 (↑i : Int))) (AllP.c (LeR.refl (x := AV.sl false false (1 : Nat) (vsS b))) (AllP.c h3 (AllP.c (LeR.refl (x := AV.int IntKind.i64 (↑(0 : Nat) : Int))) (AllP.c (LeR.refl (x := AV.mem [])) (AllP.c h4 (AllP.c h5 (AllP.c (LeR.refl (x := AV.sl false false (1 : Nat) (vsS b))) (AllP.c (LeR.refl (x := AV.sl false false (1 : Nat) (vsS a))) (AllP.c (LeR.refl (x := AV.int IntKind.i64 (↑a.length : Int))) (AllP.c (LeR.refl (x := AV.int IntKind.i64 (↑(i + (1 : Nat)) : Int))) (AllP.c (LeR.refl (x := AV.mem [])) AllP.n)))))))))))))))))))
theorem shareO_hit (a b : List (List UInt8)) (i : Nat) (x : List UInt8)
    (h1 : decide ((↑i : Int) < (↑a.length : Int)) = true)
    (h2 : (vsS a)[i]? = some (vS x))
    (h3 : LeR (AV.int IntKind.i64 (↑(vsS b).length : Int)) (AV.int IntKind.i64 (↑b.length : Int)))
    (h4 : Runs Try.prog T25 (26 : Nat) (Cd.loop [] lp25x0) (sShI a b i x (0 : Nat)) fun x => x = (Ex.ret, st (26 : Nat) [((4 : Nat), AV.bool true)])) :
    WayR Try.prog T25 26 lp25x1 [(12, .b true), (13, .v (vS x)), (0, .lp (sShI a b i x 0) .ret (st 26 [(4, .bool true)]))] (sShO a b i) .ret (st 26 [(4, .bool true)]) :=
  runs_of_pr hfol (show prR Try.prog T25 26 lp25x1 [(12, .b true), (13, .v (vS x)), (0, .lp (sShI a b i x 0) .ret (st 26 [(4, .bool true)]))] (sShO a b i) .ret (st 26 [(4, .bool true)]) = some _ by kernel_rfl) (AllP.c h1 (AllP.c (show (0 : Int) ≤ (↑i : Int) from Int.natCast_nonneg _) (AllP.c h2 (AllP.c (LeR.refl (x := AV.sl false false (1 : Nat) (vsS b))) (AllP.c (LeR.refl (x := AV.sl false false (1 : Nat) (bsA x))) (AllP.c (LeR.refl (x := AV.sl false false (1 : Nat) (vsS a))) (AllP.c (LeR.refl (x := AV.int IntKind.i64 (↑a.length : Int))) (AllP.c (LeR.refl (x := AV.int IntKind.i64 (↑i : Int))) (AllP.c (LeR.refl (x := AV.sl false false (1 : Nat) (vsS b))) (AllP.c h3 (AllP.c (LeR.refl (x := AV.int IntKind.i64 (↑(0 : Nat) : Int))) (AllP.c (LeR.refl (x := AV.mem [])) (AllP.c h4 (AllP.c (LeR.refl (x := AV.bool true)) (AllP.c (LeR.refl (x := AV.mem [])) AllP.n)))))))))))))))
theorem shareO_end (a b : List (List UInt8)) (i : Nat)
    (h1 : decide ((↑i : Int) < (↑a.length : Int)) = false) :
    WayR Try.prog T25 26 lp25x1 [(12, .b false)] (sShO a b i) (.exit 0) (st 26 []) :=
  runs_of_pr hfol (show prR Try.prog T25 26 lp25x1 [(12, .b false)] (sShO a b i) (.exit 0) (st 26 []) = some _ by kernel_rfl) (AllP.c h1 (AllP.c (LeR.refl (x := AV.mem [])) AllP.n))
theorem share_no (a b : List (List UInt8))
    (h1 : LeR (AV.int IntKind.i64 (↑(vsS a).length : Int)) (AV.int IntKind.i64 (↑a.length : Int)))
    (h2 : Runs Try.prog T25 (26 : Nat) (Cd.loop [] lp25x1) (sShO a b (0 : Nat)) fun x => x = (Ex.exit (0 : Nat), st (26 : Nat) [])) :
    WayF Try.prog 25 T25 fd25 [(0, .lp (sShO a b 0) (.exit 0) (st 26 []))] [slV a, slV b] (.bool false) :=
  fn_of_pr hfol ok25 hT25 (show prF Try.prog 25 T25 fd25 [(0, .lp (sShO a b 0) (.exit 0) (st 26 []))] [slV a, slV b] (.bool false) = some _ by kernel_rfl) (AllP.c (LeR.refl (x := AV.sl false false (1 : Nat) (vsS b))) (AllP.c (LeR.refl (x := AV.sl false false (1 : Nat) (vsS a))) (AllP.c h1 (AllP.c (LeR.refl (x := AV.int IntKind.i64 (↑(0 : Nat) : Int))) (AllP.c (LeR.refl (x := AV.mem [])) (AllP.c h2 (AllP.c (show AV.bool false = AV.bool false by kernel_rfl) AllP.n)))))))
theorem share_yes (a b : List (List UInt8))
    (h1 : LeR (AV.int IntKind.i64 (↑(vsS a).length : Int)) (AV.int IntKind.i64 (↑a.length : Int)))
    (h2 : Runs Try.prog T25 (26 : Nat) (Cd.loop [] lp25x1) (sShO a b (0 : Nat)) fun x => x = (Ex.ret, st (26 : Nat) [((4 : Nat), AV.bool true)])) :
    WayF Try.prog 25 T25 fd25 [(0, .lp (sShO a b 0) .ret (st 26 [(4, .bool true)]))] [slV a, slV b] (.bool true) :=
  fn_of_pr hfol ok25 hT25 (show prF Try.prog 25 T25 fd25 [(0, .lp (sShO a b 0) .ret (st 26 [(4, .bool true)]))] [slV a, slV b] (.bool true) = some _ by kernel_rfl) (AllP.c (LeR.refl (x := AV.sl false false (1 : Nat) (vsS b))) (AllP.c (LeR.refl (x := AV.sl false false (1 : Nat) (vsS a))) (AllP.c h1 (AllP.c (LeR.refl (x := AV.int IntKind.i64 (↑(0 : Nat) : Int))) (AllP.c (LeR.refl (x := AV.mem [])) (AllP.c h2 (AllP.c (show AV.bool true = AV.bool true by kernel_rfl) AllP.n)))))))
theorem rshareI_next (a b : List (List UInt8)) (i j : Nat) (x y : List UInt8)
    (h1 : decide ((↑j : Int) < (↑b.length : Int)) = true)
    (h2 : (vsS a)[i]? = some (vS x))
    (h3 : (vsS b)[j]? = some (vS y))
    (h4 : FnW Try.prog (16 : FuncId) [AV.sl false false (1 : Nat) (stale.sL (bsA x)), AV.sl false false (1 : Nat) (stale.sL (bsA y))] [slB x, slB y] (AV.bool false))
    (h5 : IntKind.i64.wrap ((↑j : Int) + (1 : Int)) = (↑(j + (1 : Nat)) : Int)) :
    WayR Try.prog T30 28 lp30x0 [(15, .b true), (19, .v (vS x)), (23, .v (vS y)), (25, .c [slB x, slB y] (.bool false)), (26, .i (j + 1 : Nat))] (rShI a b i j) .normal (rShI a b i (j + 1)) :=
  runs_of_pr hfol (show prR Try.prog T30 28 lp30x0 [(15, .b true), (19, .v (vS x)), (23, .v (vS y)), (25, .c [slB x, slB y] (.bool false)), (26, .i (j + 1 : Nat))] (rShI a b i j) .normal (rShI a b i (j + 1)) = some _ by kernel_rfl) (AllP.c h1 (AllP.c (show (0 : Int) ≤ (↑i : Int) from Int.natCast_nonneg _) (AllP.c h2 (AllP.c (show (0 : Int) ≤ (↑j : Int) from Int.natCast_nonneg _) (AllP.c h3 (AllP.c h4 (AllP.c (show freshA (AV.bool false) = true by kernel_rfl) (AllP.c h5 (AllP.c (LeR.refl (x := AV.sl false false (1 : Nat) (vsS a))) (AllP.c (LeR.refl (x := AV.sl false false (1 : Nat) (vsS b))) (AllP.c (LeR.refl (x := AV.int IntKind.i64 (↑i : Int))) (AllP.c (LeR.refl (x := AV.int IntKind.i64 (↑a.length : Int))) (AllP.c (LeR.refl (x := AV.int IntKind.i64 (↑i : Int))) (AllP.c (LeR.refl (x := AV.int IntKind.i64 (↑b.length : Int))) (AllP.c (LeR.refl (x := AV.int IntKind.i64 (↑(j + (1 : Nat)) : Int))) (AllP.c (LeR.refl (x := AV.mem [])) AllP.n))))))))))))))))
theorem rshareI_hit (a b : List (List UInt8)) (i j : Nat) (x y : List UInt8)
    (h1 : decide ((↑j : Int) < (↑b.length : Int)) = true)
    (h2 : (vsS a)[i]? = some (vS x))
    (h3 : (vsS b)[j]? = some (vS y))
    (h4 : FnW Try.prog (16 : FuncId) [AV.sl false false (1 : Nat) (stale.sL (bsA x)), AV.sl false false (1 : Nat) (stale.sL (bsA y))] [slB x, slB y] (AV.bool true)) :
    WayR Try.prog T30 28 lp30x0 [(15, .b true), (19, .v (vS x)), (23, .v (vS y)), (25, .c [slB x, slB y] (.bool true))] (rShI a b i j) .ret (st 28 [(4, .bool true)]) :=
  runs_of_pr hfol (show prR Try.prog T30 28 lp30x0 [(15, .b true), (19, .v (vS x)), (23, .v (vS y)), (25, .c [slB x, slB y] (.bool true))] (rShI a b i j) .ret (st 28 [(4, .bool true)]) = some _ by kernel_rfl) (AllP.c h1 (AllP.c (show (0 : Int) ≤ (↑i : Int) from Int.natCast_nonneg _) (AllP.c h2 (AllP.c (show (0 : Int) ≤ (↑j : Int) from Int.natCast_nonneg _) (AllP.c h3 (AllP.c h4 (AllP.c (show freshA (AV.bool true) = true by kernel_rfl) (AllP.c (LeR.refl (x := AV.bool true)) (AllP.c (LeR.refl (x := AV.mem [])) AllP.n)))))))))
theorem rshareI_end (a b : List (List UInt8)) (i j : Nat)
    (h1 : decide ((↑j : Int) < (↑b.length : Int)) = false) :
    WayR Try.prog T30 28 lp30x0 [(15, .b false)] (rShI a b i j) (.exit 2) (rShO a b i) :=
  runs_of_pr hfol (show prR Try.prog T30 28 lp30x0 [(15, .b false)] (rShI a b i j) (.exit 2) (rShO a b i) = some _ by kernel_rfl) (AllP.c h1 (AllP.c (LeR.refl (x := AV.sl false false (1 : Nat) (vsS a))) (AllP.c (LeR.refl (x := AV.sl false false (1 : Nat) (vsS b))) (AllP.c (LeR.refl (x := AV.int IntKind.i64 (↑a.length : Int))) (AllP.c (LeR.refl (x := AV.int IntKind.i64 (↑i : Int))) (AllP.c (LeR.refl (x := AV.mem [])) AllP.n))))))
theorem rshareO_next (a b : List (List UInt8)) (i : Nat)
    (h1 : decide ((↑i : Int) < (↑a.length : Int)) = true)
    (h2 : LeR (AV.int IntKind.i64 (↑(vsS b).length : Int)) (AV.int IntKind.i64 (↑b.length : Int)))
    (h3 : Runs Try.prog T30 (28 : Nat) (Cd.loop [] lp30x0) (rShI a b i (0 : Nat)) fun x => x = (Ex.exit (2 : Nat), rShO a b i))
    (h4 : IntKind.i64.wrap ((↑i : Int) + (1 : Int)) = (↑(i + (1 : Nat)) : Int)) :
    WayR Try.prog T30 28 lp30x1 [(10, .b true), (0, .lp (rShI a b i 0) (.exit 2) (rShO a b i)), (27, .i (i + 1 : Nat))] (rShO a b i) .normal (rShO a b (i + 1)) :=
  runs_of_pr hfol (show prR Try.prog T30 28 lp30x1 [(10, .b true), (0, .lp (rShI a b i 0) (.exit 2) (rShO a b i)), (27, .i (i + 1 : Nat))] (rShO a b i) .normal (rShO a b (i + 1)) = some _ by kernel_rfl) (AllP.c h1 (AllP.c (LeR.refl (x := AV.sl false false (1 : Nat) (vsS a))) (AllP.c (LeR.refl (x := AV.sl false false (1 : Nat) (vsS b))) (AllP.c (LeR.refl (x := AV.int IntKind.i64 (↑i : Int))) (AllP.c (LeR.refl (x := AV.int IntKind.i64 (↑a.length : Int))) (AllP.c (LeR.refl (x := AV.int IntKind.i64 (↑i : Int))) (AllP.c h2 (AllP.c (LeR.refl (x := AV.int IntKind.i64 (↑(0 : Nat) : Int))) (AllP.c (LeR.refl (x := AV.mem [])) (AllP.c h3 (AllP.c h4 (AllP.c (LeR.refl (x := AV.sl false false (1 : Nat) (vsS a))) (AllP.c (LeR.refl (x := AV.sl false false (1 : Nat) (vsS b))) (AllP.c (LeR.refl (x := AV.int IntKind.i64 (↑a.length : Int))) (AllP.c (LeR.refl (x := AV.int IntKind.i64 (↑(i + (1 : Nat)) : Int))) (AllP.c (LeR.refl (x := AV.mem [])) AllP.n))))))))))))))))
theorem rshareO_hit (a b : List (List UInt8)) (i : Nat)
    (h1 : decide ((↑i : Int) < (↑a.length : Int)) = true)
    (h2 : LeR (AV.int IntKind.i64 (↑(vsS b).length : Int)) (AV.int IntKind.i64 (↑b.length : Int)))
    (h3 : Runs Try.prog T30 (28 : Nat) (Cd.loop [] lp30x0) (rShI a b i (0 : Nat)) fun x => x = (Ex.ret, st (28 : Nat) [((4 : Nat), AV.bool true)])) :
    WayR Try.prog T30 28 lp30x1 [(10, .b true), (0, .lp (rShI a b i 0) .ret (st 28 [(4, .bool true)]))] (rShO a b i) .ret (st 28 [(4, .bool true)]) :=
  runs_of_pr hfol (show prR Try.prog T30 28 lp30x1 [(10, .b true), (0, .lp (rShI a b i 0) .ret (st 28 [(4, .bool true)]))] (rShO a b i) .ret (st 28 [(4, .bool true)]) = some _ by kernel_rfl) (AllP.c h1 (AllP.c (LeR.refl (x := AV.sl false false (1 : Nat) (vsS a))) (AllP.c (LeR.refl (x := AV.sl false false (1 : Nat) (vsS b))) (AllP.c (LeR.refl (x := AV.int IntKind.i64 (↑i : Int))) (AllP.c (LeR.refl (x := AV.int IntKind.i64 (↑a.length : Int))) (AllP.c (LeR.refl (x := AV.int IntKind.i64 (↑i : Int))) (AllP.c h2 (AllP.c (LeR.refl (x := AV.int IntKind.i64 (↑(0 : Nat) : Int))) (AllP.c (LeR.refl (x := AV.mem [])) (AllP.c h3 (AllP.c (LeR.refl (x := AV.bool true)) (AllP.c (LeR.refl (x := AV.mem [])) AllP.n))))))))))))
theorem rshareO_end (a b : List (List UInt8)) (i : Nat)
    (h1 : decide ((↑i : Int) < (↑a.length : Int)) = false) :
    WayR Try.prog T30 28 lp30x1 [(10, .b false)] (rShO a b i) (.exit 0) (st 28 []) :=
  runs_of_pr hfol (show prR Try.prog T30 28 lp30x1 [(10, .b false)] (rShO a b i) (.exit 0) (st 28 []) = some _ by kernel_rfl) (AllP.c h1 (AllP.c (LeR.refl (x := AV.mem [])) AllP.n))
theorem rshare_no (a b : List (List UInt8))
    (h1 : LeR (AV.int IntKind.i64 (↑(vsS a).length : Int)) (AV.int IntKind.i64 (↑a.length : Int)))
    (h2 : Runs Try.prog T30 (28 : Nat) (Cd.loop [] lp30x1) (rShO a b (0 : Nat)) fun x => x = (Ex.exit (0 : Nat), st (28 : Nat) [])) :
    WayF Try.prog 30 T30 fd30 [(0, .lp (rShO a b 0) (.exit 0) (st 28 []))] [slV a, slV b] (.bool false) :=
  fn_of_pr hfol ok30 hT30 (show prF Try.prog 30 T30 fd30 [(0, .lp (rShO a b 0) (.exit 0) (st 28 []))] [slV a, slV b] (.bool false) = some _ by kernel_rfl) (AllP.c (LeR.refl (x := AV.sl false false (1 : Nat) (vsS a))) (AllP.c (LeR.refl (x := AV.sl false false (1 : Nat) (vsS b))) (AllP.c h1 (AllP.c (LeR.refl (x := AV.int IntKind.i64 (↑(0 : Nat) : Int))) (AllP.c (LeR.refl (x := AV.mem [])) (AllP.c h2 (AllP.c (show AV.bool false = AV.bool false by kernel_rfl) AllP.n)))))))
theorem rshare_yes (a b : List (List UInt8))
    (h1 : LeR (AV.int IntKind.i64 (↑(vsS a).length : Int)) (AV.int IntKind.i64 (↑a.length : Int)))
    (h2 : Runs Try.prog T30 (28 : Nat) (Cd.loop [] lp30x1) (rShO a b (0 : Nat)) fun x => x = (Ex.ret, st (28 : Nat) [((4 : Nat), AV.bool true)])) :
    WayF Try.prog 30 T30 fd30 [(0, .lp (rShO a b 0) .ret (st 28 [(4, .bool true)]))] [slV a, slV b] (.bool true) :=
  fn_of_pr hfol ok30 hT30 (show prF Try.prog 30 T30 fd30 [(0, .lp (rShO a b 0) .ret (st 28 [(4, .bool true)]))] [slV a, slV b] (.bool true) = some _ by kernel_rfl) (AllP.c (LeR.refl (x := AV.sl false false (1 : Nat) (vsS a))) (AllP.c (LeR.refl (x := AV.sl false false (1 : Nat) (vsS b))) (AllP.c h1 (AllP.c (LeR.refl (x := AV.int IntKind.i64 (↑(0 : Nat) : Int))) (AllP.c (LeR.refl (x := AV.mem [])) (AllP.c h2 (AllP.c (show AV.bool true = AV.bool true by kernel_rfl) AllP.n)))))))
end Go.Ev

/-! text T2 -/
set_option linter.unusedVariables false
namespace Go.Ev
open Go.Proofs (Try.prog)
def ad0 : Adj := ⟨0, sy0, 0, 0, 0⟩
/-- The states of Step, ahead of its pieces. -/
abbrev q13 (l : Loc) (a : Adj) (h : Hel) (now : Int) (xs : List (Nat × AV)) : List AV := st 101 ([(3, ni now), (4, .box (locC l)), (5, .box (adjC a)), (6, .box (helC h)), (8, .box (adjC ad0))] ++ xs)
abbrev q14 (l : Loc) (a : Adj) (h : Hel) (now : Int) (xs : List (Nat × AV)) : List AV := st 153 ([(3, ni now), (4, .box (locC l)), (5, .box (adjC a)), (6, .box (helC h)), (8, .box (adjC ad0))] ++ xs)
def awL : Loc := ⟨⟨1, 0, 0, 0, 0, 0⟩, 0, 2, []⟩
def awH : Hel := ⟨⟨2, 0, 0, 0, 0, 0⟩, 0, 2, 10, [], 2, false, sy0, 0⟩
def awA : Adj := ⟨1, ⟨2, 0, 0, 0, 0, 0⟩, 0, 2, 15⟩
end Go.Ev

/-! text W2 -/
set_option linter.unusedVariables false
namespace Go.Ev
open Go.Proofs (Try.prog)
theorem Step_err (l : Loc) (a : Adj) (h : Hel) (now : Int) (e : Int)
    (h1 : FnW Try.prog (24 : FuncId) [AV.agg [AV.int IntKind.u8 (↑l.sys.a.toNat : Int), AV.int IntKind.u8 (↑l.sys.b.toNat : Int), AV.int IntKind.u8 (↑l.sys.c.toNat : Int), AV.int IntKind.u8 (↑l.sys.d.toNat : Int), AV.int IntKind.u8 (↑l.sys.e.toNat : Int), AV.int IntKind.u8 (↑l.sys.f.toNat : Int), AV.int IntKind.u8 (↑l.num.toNat : Int), AV.int IntKind.i64 l.level, AV.sl false false (1 : Nat) (stale.sL (vsS l.areas))], AV.agg [AV.int IntKind.i64 a.state, AV.int IntKind.u8 (↑a.peer.a.toNat : Int), AV.int IntKind.u8 (↑a.peer.b.toNat : Int), AV.int IntKind.u8 (↑a.peer.c.toNat : Int), AV.int IntKind.u8 (↑a.peer.d.toNat : Int), AV.int IntKind.u8 (↑a.peer.e.toNat : Int), AV.int IntKind.u8 (↑a.peer.f.toNat : Int), AV.int IntKind.u8 (↑a.num.toNat : Int), AV.int IntKind.i64 a.level, AV.int IntKind.i64 a.til], AV.agg [AV.int IntKind.u8 (↑h.sys.a.toNat : Int), AV.int IntKind.u8 (↑h.sys.b.toNat : Int), AV.int IntKind.u8 (↑h.sys.c.toNat : Int), AV.int IntKind.u8 (↑h.sys.d.toNat : Int), AV.int IntKind.u8 (↑h.sys.e.toNat : Int), AV.int IntKind.u8 (↑h.sys.f.toNat : Int), AV.int IntKind.u8 (↑h.num.toNat : Int), AV.int IntKind.i64 h.level, AV.int IntKind.i64 h.hold, AV.sl false false (1 : Nat) (stale.sL (vsS h.areas)), AV.int IntKind.i64 h.state, AV.bool h.named, AV.int IntKind.u8 (↑h.their.a.toNat : Int), AV.int IntKind.u8 (↑h.their.b.toNat : Int), AV.int IntKind.u8 (↑h.their.c.toNat : Int), AV.int IntKind.u8 (↑h.their.d.toNat : Int), AV.int IntKind.u8 (↑h.their.e.toNat : Int), AV.int IntKind.u8 (↑h.their.f.toNat : Int), AV.int IntKind.u8 (↑h.there.toNat : Int)], AV.int IntKind.i64 now] [locA l, adjA a, helA h, ni now] (ni e))
    (h2 : (e != (0 : Int)) = true) :
    WayF Try.prog 13 T13 fd13 [(19, .c [locA l, adjA a, helA h, ni now] (ni e)), (21, .b true)] [locA l, adjA a, helA h, ni now] (.tup [adjA a, ni e]) :=
  fn_of_pr hfol ok13 hT13 (show prF Try.prog 13 T13 fd13 [(19, .c [locA l, adjA a, helA h, ni now] (ni e)), (21, .b true)] [locA l, adjA a, helA h, ni now] (.tup [adjA a, ni e]) = some _ by kernel_rfl) (AllP.c h1 (AllP.c (show freshA (ni e) = true by kernel_rfl) (AllP.c h2 (AllP.c (show AV.tup [AV.agg [AV.int IntKind.i64 a.state, AV.int IntKind.u8 (↑a.peer.a.toNat : Int), AV.int IntKind.u8 (↑a.peer.b.toNat : Int), AV.int IntKind.u8 (↑a.peer.c.toNat : Int), AV.int IntKind.u8 (↑a.peer.d.toNat : Int), AV.int IntKind.u8 (↑a.peer.e.toNat : Int), AV.int IntKind.u8 (↑a.peer.f.toNat : Int), AV.int IntKind.u8 (↑a.num.toNat : Int), AV.int IntKind.i64 a.level, AV.int IntKind.i64 a.til], AV.int IntKind.i64 e] = AV.tup [adjA a, ni e] by kernel_rfl) AllP.n))))
theorem Step_none (l : Loc) (a : Adj) (h : Hel) (now c0 : Int)
    (h1 : FnW Try.prog (24 : FuncId) [AV.agg [AV.int IntKind.u8 (↑l.sys.a.toNat : Int), AV.int IntKind.u8 (↑l.sys.b.toNat : Int), AV.int IntKind.u8 (↑l.sys.c.toNat : Int), AV.int IntKind.u8 (↑l.sys.d.toNat : Int), AV.int IntKind.u8 (↑l.sys.e.toNat : Int), AV.int IntKind.u8 (↑l.sys.f.toNat : Int), AV.int IntKind.u8 (↑l.num.toNat : Int), AV.int IntKind.i64 l.level, AV.sl false false (1 : Nat) (stale.sL (vsS l.areas))], AV.agg [AV.int IntKind.i64 a.state, AV.int IntKind.u8 (↑a.peer.a.toNat : Int), AV.int IntKind.u8 (↑a.peer.b.toNat : Int), AV.int IntKind.u8 (↑a.peer.c.toNat : Int), AV.int IntKind.u8 (↑a.peer.d.toNat : Int), AV.int IntKind.u8 (↑a.peer.e.toNat : Int), AV.int IntKind.u8 (↑a.peer.f.toNat : Int), AV.int IntKind.u8 (↑a.num.toNat : Int), AV.int IntKind.i64 a.level, AV.int IntKind.i64 a.til], AV.agg [AV.int IntKind.u8 (↑h.sys.a.toNat : Int), AV.int IntKind.u8 (↑h.sys.b.toNat : Int), AV.int IntKind.u8 (↑h.sys.c.toNat : Int), AV.int IntKind.u8 (↑h.sys.d.toNat : Int), AV.int IntKind.u8 (↑h.sys.e.toNat : Int), AV.int IntKind.u8 (↑h.sys.f.toNat : Int), AV.int IntKind.u8 (↑h.num.toNat : Int), AV.int IntKind.i64 h.level, AV.int IntKind.i64 h.hold, AV.sl false false (1 : Nat) (stale.sL (vsS h.areas)), AV.int IntKind.i64 h.state, AV.bool h.named, AV.int IntKind.u8 (↑h.their.a.toNat : Int), AV.int IntKind.u8 (↑h.their.b.toNat : Int), AV.int IntKind.u8 (↑h.their.c.toNat : Int), AV.int IntKind.u8 (↑h.their.d.toNat : Int), AV.int IntKind.u8 (↑h.their.e.toNat : Int), AV.int IntKind.u8 (↑h.their.f.toNat : Int), AV.int IntKind.u8 (↑h.there.toNat : Int)], AV.int IntKind.i64 now] [locA l, adjA a, helA h, ni now] (ni (0 : Int)))
    (h2 : IntKind.i64.wrap (↑(BitVec.ofInt (64 : Nat) l.level &&& BitVec.ofInt (64 : Nat) h.level).toNat : Int) = c0)
    (h3 : Runs Try.prog T13 (101 : Nat) sg13x29x11 (q13 l a h now [((11 : Nat), ni c0)]) fun x => x = (Ex.normal, q13 l a h now [((11 : Nat), ni (0 : Int))]))
    (h4 : FnW Try.prog (26 : FuncId) [] [] (adjA dn)) :
    WayF Try.prog 13 T13 fd13 [(19, .c [locA l, adjA a, helA h, ni now] (ni 0)), (28, .i c0), (290011, .sg (q13 l a h now [(11, ni c0)]) .normal (q13 l a h now [(11, ni 0)])), (40, .c [] (adjA dn))] [locA l, adjA a, helA h, ni now] (.tup [adjA dn, ni 12]) :=
  fn_of_pr hfol ok13 hT13 (show prF Try.prog 13 T13 fd13 [(19, .c [locA l, adjA a, helA h, ni now] (ni 0)), (28, .i c0), (290011, .sg (q13 l a h now [(11, ni c0)]) .normal (q13 l a h now [(11, ni 0)])), (40, .c [] (adjA dn))] [locA l, adjA a, helA h, ni now] (.tup [adjA dn, ni 12]) = some _ by kernel_rfl) (AllP.c h1 (AllP.c (show freshA (ni (0 : Int)) = true by kernel_rfl) (AllP.c h2 (AllP.c (LeR.refl (x := AV.int IntKind.i64 now)) (AllP.c (LeR.refl (x := AV.box (locC l))) (AllP.c (LeR.refl (x := AV.box (adjC a))) (AllP.c (LeR.refl (x := AV.box (helC h))) (AllP.c (LeR.refl (x := AV.box (adjC ad0))) (AllP.c (LeR.refl (x := AV.int IntKind.i64 c0)) (AllP.c (LeR.refl (x := AV.mem [])) (AllP.c h3 (AllP.c h4 (AllP.c (show freshA (adjA dn) = true by kernel_rfl) (AllP.c (show AV.tup [AV.agg [AV.int IntKind.i64 dn.state, AV.int IntKind.u8 (↑(0 : Nat) : Int), AV.int IntKind.u8 (↑(0 : Nat) : Int), AV.int IntKind.u8 (↑(0 : Nat) : Int), AV.int IntKind.u8 (↑(0 : Nat) : Int), AV.int IntKind.u8 (↑(0 : Nat) : Int), AV.int IntKind.u8 (↑(0 : Nat) : Int), AV.int IntKind.u8 (↑(0 : Nat) : Int), AV.int IntKind.i64 dn.level, AV.int IntKind.i64 dn.til], AV.int IntKind.i64 (12 : Int)] = AV.tup [adjA dn, ni (12 : Int)] by kernel_rfl) AllP.n))))))))))))))
theorem Step_other (l : Loc) (a : Adj) (h : Hel) (now c0 c : Int)
    (h1 : FnW Try.prog (24 : FuncId) [AV.agg [AV.int IntKind.u8 (↑l.sys.a.toNat : Int), AV.int IntKind.u8 (↑l.sys.b.toNat : Int), AV.int IntKind.u8 (↑l.sys.c.toNat : Int), AV.int IntKind.u8 (↑l.sys.d.toNat : Int), AV.int IntKind.u8 (↑l.sys.e.toNat : Int), AV.int IntKind.u8 (↑l.sys.f.toNat : Int), AV.int IntKind.u8 (↑l.num.toNat : Int), AV.int IntKind.i64 l.level, AV.sl false false (1 : Nat) (stale.sL (vsS l.areas))], AV.agg [AV.int IntKind.i64 a.state, AV.int IntKind.u8 (↑a.peer.a.toNat : Int), AV.int IntKind.u8 (↑a.peer.b.toNat : Int), AV.int IntKind.u8 (↑a.peer.c.toNat : Int), AV.int IntKind.u8 (↑a.peer.d.toNat : Int), AV.int IntKind.u8 (↑a.peer.e.toNat : Int), AV.int IntKind.u8 (↑a.peer.f.toNat : Int), AV.int IntKind.u8 (↑a.num.toNat : Int), AV.int IntKind.i64 a.level, AV.int IntKind.i64 a.til], AV.agg [AV.int IntKind.u8 (↑h.sys.a.toNat : Int), AV.int IntKind.u8 (↑h.sys.b.toNat : Int), AV.int IntKind.u8 (↑h.sys.c.toNat : Int), AV.int IntKind.u8 (↑h.sys.d.toNat : Int), AV.int IntKind.u8 (↑h.sys.e.toNat : Int), AV.int IntKind.u8 (↑h.sys.f.toNat : Int), AV.int IntKind.u8 (↑h.num.toNat : Int), AV.int IntKind.i64 h.level, AV.int IntKind.i64 h.hold, AV.sl false false (1 : Nat) (stale.sL (vsS h.areas)), AV.int IntKind.i64 h.state, AV.bool h.named, AV.int IntKind.u8 (↑h.their.a.toNat : Int), AV.int IntKind.u8 (↑h.their.b.toNat : Int), AV.int IntKind.u8 (↑h.their.c.toNat : Int), AV.int IntKind.u8 (↑h.their.d.toNat : Int), AV.int IntKind.u8 (↑h.their.e.toNat : Int), AV.int IntKind.u8 (↑h.their.f.toNat : Int), AV.int IntKind.u8 (↑h.there.toNat : Int)], AV.int IntKind.i64 now] [locA l, adjA a, helA h, ni now] (ni (0 : Int)))
    (h2 : IntKind.i64.wrap (↑(BitVec.ofInt (64 : Nat) l.level &&& BitVec.ofInt (64 : Nat) h.level).toNat : Int) = c0)
    (h3 : Runs Try.prog T13 (101 : Nat) sg13x29x11 (q13 l a h now [((11 : Nat), ni c0)]) fun x => x = (Ex.normal, q13 l a h now [((11 : Nat), ni c)]))
    (h4 : (c == (0 : Int)) = false)
    (h5 : Runs Try.prog T13 (101 : Nat) sg13x42x41 (q13 l a h now [((11 : Nat), ni c)]) fun x => x = (Ex.normal, q13 l a h now [((11 : Nat), ni c), ((41 : Nat), AV.bool true)])) :
    WayF Try.prog 13 T13 fd13 [(19, .c [locA l, adjA a, helA h, ni now] (ni 0)), (28, .i c0), (290011, .sg (q13 l a h now [(11, ni c0)]) .normal (q13 l a h now [(11, ni c)])), (39, .b false), (420041, .sg (q13 l a h now [(11, ni c)]) .normal (q13 l a h now [(11, ni c), (41, .bool true)]))] [locA l, adjA a, helA h, ni now] (.tup [adjA a, ni 0]) :=
  fn_of_pr hfol ok13 hT13 (show prF Try.prog 13 T13 fd13 [(19, .c [locA l, adjA a, helA h, ni now] (ni 0)), (28, .i c0), (290011, .sg (q13 l a h now [(11, ni c0)]) .normal (q13 l a h now [(11, ni c)])), (39, .b false), (420041, .sg (q13 l a h now [(11, ni c)]) .normal (q13 l a h now [(11, ni c), (41, .bool true)]))] [locA l, adjA a, helA h, ni now] (.tup [adjA a, ni 0]) = some _ by kernel_rfl) (AllP.c h1 (AllP.c (show freshA (ni (0 : Int)) = true by kernel_rfl) (AllP.c h2 (AllP.c (LeR.refl (x := AV.int IntKind.i64 now)) (AllP.c (LeR.refl (x := AV.box (locC l))) (AllP.c (LeR.refl (x := AV.box (adjC a))) (AllP.c (LeR.refl (x := AV.box (helC h))) (AllP.c (LeR.refl (x := AV.box (adjC ad0))) (AllP.c (LeR.refl (x := AV.int IntKind.i64 c0)) (AllP.c (LeR.refl (x := AV.mem [])) (AllP.c h3 (AllP.c h4 (AllP.c (LeR.refl (x := AV.int IntKind.i64 now)) (AllP.c (LeR.refl (x := AV.box (locC l))) (AllP.c (LeR.refl (x := AV.box (adjC a))) (AllP.c (LeR.refl (x := AV.box (helC h))) (AllP.c (LeR.refl (x := AV.box (adjC ad0))) (AllP.c (LeR.refl (x := AV.int IntKind.i64 c)) (AllP.c (LeR.refl (x := AV.mem [])) (AllP.c h5 (AllP.c (show AV.tup [AV.agg [AV.int IntKind.i64 a.state, AV.int IntKind.u8 (↑a.peer.a.toNat : Int), AV.int IntKind.u8 (↑a.peer.b.toNat : Int), AV.int IntKind.u8 (↑a.peer.c.toNat : Int), AV.int IntKind.u8 (↑a.peer.d.toNat : Int), AV.int IntKind.u8 (↑a.peer.e.toNat : Int), AV.int IntKind.u8 (↑a.peer.f.toNat : Int), AV.int IntKind.u8 (↑a.num.toNat : Int), AV.int IntKind.i64 a.level, AV.int IntKind.i64 a.til], AV.int IntKind.i64 (0 : Int)] = AV.tup [adjA a, ni (0 : Int)] by kernel_rfl) AllP.n)))))))))))))))))))))
theorem Step_down (l : Loc) (a : Adj) (h : Hel) (now c0 c w t : Int)
    (h1 : FnW Try.prog (24 : FuncId) [AV.agg [AV.int IntKind.u8 (↑l.sys.a.toNat : Int), AV.int IntKind.u8 (↑l.sys.b.toNat : Int), AV.int IntKind.u8 (↑l.sys.c.toNat : Int), AV.int IntKind.u8 (↑l.sys.d.toNat : Int), AV.int IntKind.u8 (↑l.sys.e.toNat : Int), AV.int IntKind.u8 (↑l.sys.f.toNat : Int), AV.int IntKind.u8 (↑l.num.toNat : Int), AV.int IntKind.i64 l.level, AV.sl false false (1 : Nat) (stale.sL (vsS l.areas))], AV.agg [AV.int IntKind.i64 a.state, AV.int IntKind.u8 (↑a.peer.a.toNat : Int), AV.int IntKind.u8 (↑a.peer.b.toNat : Int), AV.int IntKind.u8 (↑a.peer.c.toNat : Int), AV.int IntKind.u8 (↑a.peer.d.toNat : Int), AV.int IntKind.u8 (↑a.peer.e.toNat : Int), AV.int IntKind.u8 (↑a.peer.f.toNat : Int), AV.int IntKind.u8 (↑a.num.toNat : Int), AV.int IntKind.i64 a.level, AV.int IntKind.i64 a.til], AV.agg [AV.int IntKind.u8 (↑h.sys.a.toNat : Int), AV.int IntKind.u8 (↑h.sys.b.toNat : Int), AV.int IntKind.u8 (↑h.sys.c.toNat : Int), AV.int IntKind.u8 (↑h.sys.d.toNat : Int), AV.int IntKind.u8 (↑h.sys.e.toNat : Int), AV.int IntKind.u8 (↑h.sys.f.toNat : Int), AV.int IntKind.u8 (↑h.num.toNat : Int), AV.int IntKind.i64 h.level, AV.int IntKind.i64 h.hold, AV.sl false false (1 : Nat) (stale.sL (vsS h.areas)), AV.int IntKind.i64 h.state, AV.bool h.named, AV.int IntKind.u8 (↑h.their.a.toNat : Int), AV.int IntKind.u8 (↑h.their.b.toNat : Int), AV.int IntKind.u8 (↑h.their.c.toNat : Int), AV.int IntKind.u8 (↑h.their.d.toNat : Int), AV.int IntKind.u8 (↑h.their.e.toNat : Int), AV.int IntKind.u8 (↑h.their.f.toNat : Int), AV.int IntKind.u8 (↑h.there.toNat : Int)], AV.int IntKind.i64 now] [locA l, adjA a, helA h, ni now] (ni (0 : Int)))
    (h2 : IntKind.i64.wrap (↑(BitVec.ofInt (64 : Nat) l.level &&& BitVec.ofInt (64 : Nat) h.level).toNat : Int) = c0)
    (h3 : Runs Try.prog T13 (101 : Nat) sg13x29x11 (q13 l a h now [((11 : Nat), ni c0)]) fun x => x = (Ex.normal, q13 l a h now [((11 : Nat), ni c)]))
    (h4 : (c == (0 : Int)) = false)
    (h5 : Runs Try.prog T13 (101 : Nat) sg13x42x41 (q13 l a h now [((11 : Nat), ni c)]) fun x => x = (Ex.normal, q13 l a h now [((11 : Nat), ni c), ((41 : Nat), AV.bool false)]))
    (h6 : Runs Try.prog T13 (101 : Nat) sg13x63x12 (q13 l a h now [((11 : Nat), ni c), ((12 : Nat), ni a.state), ((13 : Nat), ni h.state)]) fun x => x = (Ex.normal, q13 l a h now [((11 : Nat), ni c), ((12 : Nat), ni w), ((13 : Nat), ni h.state)]))
    (h7 : Runs Try.prog T13 (101 : Nat) sg13x81x13 (q13 l a h now [((11 : Nat), ni c), ((12 : Nat), ni w), ((13 : Nat), ni h.state)]) fun x => x = (Ex.normal, q13 l a h now [((11 : Nat), ni c), ((12 : Nat), ni w), ((13 : Nat), ni t)]))
    (h8 : FnW Try.prog (27 : FuncId) [AV.int IntKind.i64 w, AV.int IntKind.i64 t] [ni w, ni t] (ni (2 : Int)))
    (h9 : FnW Try.prog (26 : FuncId) [] [] (adjA dn)) :
    WayF Try.prog 13 T13 fd13 [(19, .c [locA l, adjA a, helA h, ni now] (ni 0)), (28, .i c0), (290011, .sg (q13 l a h now [(11, ni c0)]) .normal (q13 l a h now [(11, ni c)])), (39, .b false), (420041, .sg (q13 l a h now [(11, ni c)]) .normal (q13 l a h now [(11, ni c), (41, .bool false)])), (630012, .sg (q13 l a h now [(11, ni c), (12, ni a.state), (13, ni h.state)]) .normal (q13 l a h now [(11, ni c), (12, ni w), (13, ni h.state)])), (810013, .sg (q13 l a h now [(11, ni c), (12, ni w), (13, ni h.state)]) .normal (q13 l a h now [(11, ni c), (12, ni w), (13, ni t)])), (86, .c [ni w, ni t] (ni 2)), (89, .c [] (adjA dn))] [locA l, adjA a, helA h, ni now] (.tup [adjA dn, ni 0]) :=
  fn_of_pr hfol ok13 hT13 (show prF Try.prog 13 T13 fd13 [(19, .c [locA l, adjA a, helA h, ni now] (ni 0)), (28, .i c0), (290011, .sg (q13 l a h now [(11, ni c0)]) .normal (q13 l a h now [(11, ni c)])), (39, .b false), (420041, .sg (q13 l a h now [(11, ni c)]) .normal (q13 l a h now [(11, ni c), (41, .bool false)])), (630012, .sg (q13 l a h now [(11, ni c), (12, ni a.state), (13, ni h.state)]) .normal (q13 l a h now [(11, ni c), (12, ni w), (13, ni h.state)])), (810013, .sg (q13 l a h now [(11, ni c), (12, ni w), (13, ni h.state)]) .normal (q13 l a h now [(11, ni c), (12, ni w), (13, ni t)])), (86, .c [ni w, ni t] (ni 2)), (89, .c [] (adjA dn))] [locA l, adjA a, helA h, ni now] (.tup [adjA dn, ni 0]) = some _ by kernel_rfl) (AllP.c h1 (AllP.c (show freshA (ni (0 : Int)) = true by kernel_rfl) (AllP.c h2 (AllP.c (LeR.refl (x := AV.int IntKind.i64 now)) (AllP.c (LeR.refl (x := AV.box (locC l))) (AllP.c (LeR.refl (x := AV.box (adjC a))) (AllP.c (LeR.refl (x := AV.box (helC h))) (AllP.c (LeR.refl (x := AV.box (adjC ad0))) (AllP.c (LeR.refl (x := AV.int IntKind.i64 c0)) (AllP.c (LeR.refl (x := AV.mem [])) (AllP.c h3 (AllP.c h4 (AllP.c (LeR.refl (x := AV.int IntKind.i64 now)) (AllP.c (LeR.refl (x := AV.box (locC l))) (AllP.c (LeR.refl (x := AV.box (adjC a))) (AllP.c (LeR.refl (x := AV.box (helC h))) (AllP.c (LeR.refl (x := AV.box (adjC ad0))) (AllP.c (LeR.refl (x := AV.int IntKind.i64 c)) (AllP.c (LeR.refl (x := AV.mem [])) (AllP.c h5 (AllP.c (LeR.refl (x := AV.int IntKind.i64 now)) (AllP.c (LeR.refl (x := AV.box (locC l))) (AllP.c (LeR.refl (x := AV.box (adjC a))) (AllP.c (LeR.refl (x := AV.box (helC h))) (AllP.c (LeR.refl (x := AV.box (adjC ad0))) (AllP.c (LeR.refl (x := AV.int IntKind.i64 c)) (AllP.c (LeR.refl (x := AV.int IntKind.i64 a.state)) (AllP.c (LeR.refl (x := AV.int IntKind.i64 h.state)) (AllP.c (LeR.refl (x := AV.mem [])) (AllP.c h6 (AllP.c (LeR.refl (x := AV.int IntKind.i64 now)) (AllP.c (LeR.refl (x := AV.box (locC l))) (AllP.c (LeR.refl (x := AV.box (adjC a))) (AllP.c (LeR.refl (x := AV.box (helC h))) (AllP.c (LeR.refl (x := AV.box (adjC ad0))) (AllP.c (LeR.refl (x := AV.int IntKind.i64 c)) (AllP.c (LeR.refl (x := AV.int IntKind.i64 w)) (AllP.c (LeR.refl (x := AV.int IntKind.i64 h.state)) (AllP.c (LeR.refl (x := AV.mem [])) (AllP.c h7 (AllP.c h8 (AllP.c (show freshA (ni (2 : Int)) = true by kernel_rfl) (AllP.c h9 (AllP.c (show freshA (adjA dn) = true by kernel_rfl) (AllP.c (show AV.tup [AV.agg [AV.int IntKind.i64 dn.state, AV.int IntKind.u8 (↑(0 : Nat) : Int), AV.int IntKind.u8 (↑(0 : Nat) : Int), AV.int IntKind.u8 (↑(0 : Nat) : Int), AV.int IntKind.u8 (↑(0 : Nat) : Int), AV.int IntKind.u8 (↑(0 : Nat) : Int), AV.int IntKind.u8 (↑(0 : Nat) : Int), AV.int IntKind.u8 (↑(0 : Nat) : Int), AV.int IntKind.i64 dn.level, AV.int IntKind.i64 dn.til], AV.int IntKind.i64 (0 : Int)] = AV.tup [adjA dn, ni (0 : Int)] by kernel_rfl) AllP.n)))))))))))))))))))))))))))))))))))))))))))))
theorem Step_up (l : Loc) (a : Adj) (h : Hel) (now c0 c w t s u : Int)
    (h1 : FnW Try.prog (24 : FuncId) [AV.agg [AV.int IntKind.u8 (↑l.sys.a.toNat : Int), AV.int IntKind.u8 (↑l.sys.b.toNat : Int), AV.int IntKind.u8 (↑l.sys.c.toNat : Int), AV.int IntKind.u8 (↑l.sys.d.toNat : Int), AV.int IntKind.u8 (↑l.sys.e.toNat : Int), AV.int IntKind.u8 (↑l.sys.f.toNat : Int), AV.int IntKind.u8 (↑l.num.toNat : Int), AV.int IntKind.i64 l.level, AV.sl false false (1 : Nat) (stale.sL (vsS l.areas))], AV.agg [AV.int IntKind.i64 a.state, AV.int IntKind.u8 (↑a.peer.a.toNat : Int), AV.int IntKind.u8 (↑a.peer.b.toNat : Int), AV.int IntKind.u8 (↑a.peer.c.toNat : Int), AV.int IntKind.u8 (↑a.peer.d.toNat : Int), AV.int IntKind.u8 (↑a.peer.e.toNat : Int), AV.int IntKind.u8 (↑a.peer.f.toNat : Int), AV.int IntKind.u8 (↑a.num.toNat : Int), AV.int IntKind.i64 a.level, AV.int IntKind.i64 a.til], AV.agg [AV.int IntKind.u8 (↑h.sys.a.toNat : Int), AV.int IntKind.u8 (↑h.sys.b.toNat : Int), AV.int IntKind.u8 (↑h.sys.c.toNat : Int), AV.int IntKind.u8 (↑h.sys.d.toNat : Int), AV.int IntKind.u8 (↑h.sys.e.toNat : Int), AV.int IntKind.u8 (↑h.sys.f.toNat : Int), AV.int IntKind.u8 (↑h.num.toNat : Int), AV.int IntKind.i64 h.level, AV.int IntKind.i64 h.hold, AV.sl false false (1 : Nat) (stale.sL (vsS h.areas)), AV.int IntKind.i64 h.state, AV.bool h.named, AV.int IntKind.u8 (↑h.their.a.toNat : Int), AV.int IntKind.u8 (↑h.their.b.toNat : Int), AV.int IntKind.u8 (↑h.their.c.toNat : Int), AV.int IntKind.u8 (↑h.their.d.toNat : Int), AV.int IntKind.u8 (↑h.their.e.toNat : Int), AV.int IntKind.u8 (↑h.their.f.toNat : Int), AV.int IntKind.u8 (↑h.there.toNat : Int)], AV.int IntKind.i64 now] [locA l, adjA a, helA h, ni now] (ni (0 : Int)))
    (h2 : IntKind.i64.wrap (↑(BitVec.ofInt (64 : Nat) l.level &&& BitVec.ofInt (64 : Nat) h.level).toNat : Int) = c0)
    (h3 : Runs Try.prog T13 (101 : Nat) sg13x29x11 (q13 l a h now [((11 : Nat), ni c0)]) fun x => x = (Ex.normal, q13 l a h now [((11 : Nat), ni c)]))
    (h4 : (c == (0 : Int)) = false)
    (h5 : Runs Try.prog T13 (101 : Nat) sg13x42x41 (q13 l a h now [((11 : Nat), ni c)]) fun x => x = (Ex.normal, q13 l a h now [((11 : Nat), ni c), ((41 : Nat), AV.bool false)]))
    (h6 : Runs Try.prog T13 (101 : Nat) sg13x63x12 (q13 l a h now [((11 : Nat), ni c), ((12 : Nat), ni a.state), ((13 : Nat), ni h.state)]) fun x => x = (Ex.normal, q13 l a h now [((11 : Nat), ni c), ((12 : Nat), ni w), ((13 : Nat), ni h.state)]))
    (h7 : Runs Try.prog T13 (101 : Nat) sg13x81x13 (q13 l a h now [((11 : Nat), ni c), ((12 : Nat), ni w), ((13 : Nat), ni h.state)]) fun x => x = (Ex.normal, q13 l a h now [((11 : Nat), ni c), ((12 : Nat), ni w), ((13 : Nat), ni t)]))
    (h8 : FnW Try.prog (27 : FuncId) [AV.int IntKind.i64 w, AV.int IntKind.i64 t] [ni w, ni t] (ni s))
    (h9 : (s == (2 : Int)) = false)
    (h10 : IntKind.i64.wrap (now + h.hold) = u) :
    WayF Try.prog 13 T13 fd13 [(19, .c [locA l, adjA a, helA h, ni now] (ni 0)), (28, .i c0), (290011, .sg (q13 l a h now [(11, ni c0)]) .normal (q13 l a h now [(11, ni c)])), (39, .b false), (420041, .sg (q13 l a h now [(11, ni c)]) .normal (q13 l a h now [(11, ni c), (41, .bool false)])), (630012, .sg (q13 l a h now [(11, ni c), (12, ni a.state), (13, ni h.state)]) .normal (q13 l a h now [(11, ni c), (12, ni w), (13, ni h.state)])), (810013, .sg (q13 l a h now [(11, ni c), (12, ni w), (13, ni h.state)]) .normal (q13 l a h now [(11, ni c), (12, ni w), (13, ni t)])), (86, .c [ni w, ni t] (ni s)), (88, .b false), (99, .i u)] [locA l, adjA a, helA h, ni now] (.tup [adjA ⟨s, h.sys, h.num, c, u⟩, ni 0]) :=
  fn_of_pr hfol ok13 hT13 (show prF Try.prog 13 T13 fd13 [(19, .c [locA l, adjA a, helA h, ni now] (ni 0)), (28, .i c0), (290011, .sg (q13 l a h now [(11, ni c0)]) .normal (q13 l a h now [(11, ni c)])), (39, .b false), (420041, .sg (q13 l a h now [(11, ni c)]) .normal (q13 l a h now [(11, ni c), (41, .bool false)])), (630012, .sg (q13 l a h now [(11, ni c), (12, ni a.state), (13, ni h.state)]) .normal (q13 l a h now [(11, ni c), (12, ni w), (13, ni h.state)])), (810013, .sg (q13 l a h now [(11, ni c), (12, ni w), (13, ni h.state)]) .normal (q13 l a h now [(11, ni c), (12, ni w), (13, ni t)])), (86, .c [ni w, ni t] (ni s)), (88, .b false), (99, .i u)] [locA l, adjA a, helA h, ni now] (.tup [adjA ⟨s, h.sys, h.num, c, u⟩, ni 0]) = some _ by kernel_rfl) (AllP.c h1 (AllP.c (show freshA (ni (0 : Int)) = true by kernel_rfl) (AllP.c h2 (AllP.c (LeR.refl (x := AV.int IntKind.i64 now)) (AllP.c (LeR.refl (x := AV.box (locC l))) (AllP.c (LeR.refl (x := AV.box (adjC a))) (AllP.c (LeR.refl (x := AV.box (helC h))) (AllP.c (LeR.refl (x := AV.box (adjC ad0))) (AllP.c (LeR.refl (x := AV.int IntKind.i64 c0)) (AllP.c (LeR.refl (x := AV.mem [])) (AllP.c h3 (AllP.c h4 (AllP.c (LeR.refl (x := AV.int IntKind.i64 now)) (AllP.c (LeR.refl (x := AV.box (locC l))) (AllP.c (LeR.refl (x := AV.box (adjC a))) (AllP.c (LeR.refl (x := AV.box (helC h))) (AllP.c (LeR.refl (x := AV.box (adjC ad0))) (AllP.c (LeR.refl (x := AV.int IntKind.i64 c)) (AllP.c (LeR.refl (x := AV.mem [])) (AllP.c h5 (AllP.c (LeR.refl (x := AV.int IntKind.i64 now)) (AllP.c (LeR.refl (x := AV.box (locC l))) (AllP.c (LeR.refl (x := AV.box (adjC a))) (AllP.c (LeR.refl (x := AV.box (helC h))) (AllP.c (LeR.refl (x := AV.box (adjC ad0))) (AllP.c (LeR.refl (x := AV.int IntKind.i64 c)) (AllP.c (LeR.refl (x := AV.int IntKind.i64 a.state)) (AllP.c (LeR.refl (x := AV.int IntKind.i64 h.state)) (AllP.c (LeR.refl (x := AV.mem [])) (AllP.c h6 (AllP.c (LeR.refl (x := AV.int IntKind.i64 now)) (AllP.c (LeR.refl (x := AV.box (locC l))) (AllP.c (LeR.refl (x := AV.box (adjC a))) (AllP.c (LeR.refl (x := AV.box (helC h))) (AllP.c (LeR.refl (x := AV.box (adjC ad0))) (AllP.c (LeR.refl (x := AV.int IntKind.i64 c)) (AllP.c (LeR.refl (x := AV.int IntKind.i64 w)) (AllP.c (LeR.refl (x := AV.int IntKind.i64 h.state)) (AllP.c (LeR.refl (x := AV.mem [])) (AllP.c h7 (AllP.c h8 (AllP.c (show freshA (ni s) = true by kernel_rfl) (AllP.c h9 (AllP.c h10 (AllP.c (show AV.tup [AV.agg [AV.int IntKind.i64 s, AV.int IntKind.u8 (↑h.sys.a.toNat : Int), AV.int IntKind.u8 (↑h.sys.b.toNat : Int), AV.int IntKind.u8 (↑h.sys.c.toNat : Int), AV.int IntKind.u8 (↑h.sys.d.toNat : Int), AV.int IntKind.u8 (↑h.sys.e.toNat : Int), AV.int IntKind.u8 (↑h.sys.f.toNat : Int), AV.int IntKind.u8 (↑h.num.toNat : Int), AV.int IntKind.i64 c, AV.int IntKind.i64 u], AV.int IntKind.i64 (0 : Int)] = AV.tup [adjA { state := s, peer := h.sys, num := h.num, level := c, til := u }, ni (0 : Int)] by kernel_rfl) AllP.n)))))))))))))))))))))))))))))))))))))))))))))
theorem St_comY (l : Loc) (a : Adj) (h : Hel) (now c : Int)
    (h1 : FnW Try.prog (25 : FuncId) [AV.sl false false (1 : Nat) (stale.sL (vsS l.areas)), AV.sl false false (1 : Nat) (stale.sL (vsS h.areas))] [slV l.areas, slV h.areas] (AV.bool true)) :
    WayR Try.prog T13 101 sg13x29x11 [(33, .c [slV l.areas, slV h.areas] (.bool true))] (q13 l a h now [(11, ni c)]) .normal (q13 l a h now [(11, ni c)]) :=
  runs_of_pr hfol (show prR Try.prog T13 101 sg13x29x11 [(33, .c [slV l.areas, slV h.areas] (.bool true))] (q13 l a h now [(11, ni c)]) .normal (q13 l a h now [(11, ni c)]) = some _ by kernel_rfl) (AllP.c h1 (AllP.c (show freshA (AV.bool true) = true by kernel_rfl) (AllP.c (LeR.refl (x := AV.int IntKind.i64 now)) (AllP.c (LeR.refl (x := AV.box (locC l))) (AllP.c (LeR.refl (x := AV.box (adjC a))) (AllP.c (LeR.refl (x := AV.box (helC h))) (AllP.c (LeR.refl (x := AV.box (adjC ad0))) (AllP.c (LeR.refl (x := AV.int IntKind.i64 c)) (AllP.c (LeR.refl (x := AV.mem [])) AllP.n)))))))))
theorem St_comN (l : Loc) (a : Adj) (h : Hel) (now c c' : Int)
    (h1 : FnW Try.prog (25 : FuncId) [AV.sl false false (1 : Nat) (stale.sL (vsS l.areas)), AV.sl false false (1 : Nat) (stale.sL (vsS h.areas))] [slV l.areas, slV h.areas] (AV.bool false))
    (h2 : IntKind.i64.wrap (↑(BitVec.ofInt (64 : Nat) c &&& ~~~BitVec.ofInt (64 : Nat) (1 : Int)).toNat : Int) = c') :
    WayR Try.prog T13 101 sg13x29x11 [(33, .c [slV l.areas, slV h.areas] (.bool false)), (36, .i c')] (q13 l a h now [(11, ni c)]) .normal (q13 l a h now [(11, ni c')]) :=
  runs_of_pr hfol (show prR Try.prog T13 101 sg13x29x11 [(33, .c [slV l.areas, slV h.areas] (.bool false)), (36, .i c')] (q13 l a h now [(11, ni c)]) .normal (q13 l a h now [(11, ni c')]) = some _ by kernel_rfl) (AllP.c h1 (AllP.c (show freshA (AV.bool false) = true by kernel_rfl) (AllP.c h2 (AllP.c (LeR.refl (x := AV.int IntKind.i64 now)) (AllP.c (LeR.refl (x := AV.box (locC l))) (AllP.c (LeR.refl (x := AV.box (adjC a))) (AllP.c (LeR.refl (x := AV.box (helC h))) (AllP.c (LeR.refl (x := AV.box (adjC ad0))) (AllP.c (LeR.refl (x := AV.int IntKind.i64 c')) (AllP.c (LeR.refl (x := AV.mem [])) AllP.n))))))))))
theorem St_nm0 (l : Loc) (a : Adj) (h : Hel) (now c : Int)
    (h1 : h.named = false) :
    WayR Try.prog T13 101 sg13x42x41 [(43, .v (.bool h.named)), (43, .b false)] (q13 l a h now [(11, ni c)]) .normal (q13 l a h now [(11, ni c), (41, .bool false)]) :=
  runs_of_pr hfol (show prR Try.prog T13 101 sg13x42x41 [(43, .v (.bool h.named)), (43, .b false)] (q13 l a h now [(11, ni c)]) .normal (q13 l a h now [(11, ni c), (41, .bool false)]) = some _ by kernel_rfl) (AllP.c (show (helC h)[(11 : Nat)]? = some (AV.bool h.named) by kernel_rfl) (AllP.c h1 (AllP.c (LeR.refl (x := AV.int IntKind.i64 now)) (AllP.c (LeR.refl (x := AV.box (locC l))) (AllP.c (LeR.refl (x := AV.box (adjC a))) (AllP.c (LeR.refl (x := AV.box (helC h))) (AllP.c (LeR.refl (x := AV.box (adjC ad0))) (AllP.c (LeR.refl (x := AV.int IntKind.i64 c)) (AllP.c (LeR.refl (x := AV.bool false)) (AllP.c (LeR.refl (x := AV.mem [])) AllP.n))))))))))
theorem St_nm1 (l : Loc) (a : Adj) (h : Hel) (now c : Int)
    (h1 : h.named = true)
    (h2 : (if true = true then !((↑h.their.a.toNat : Int) == (↑l.sys.a.toNat : Int) && ((↑h.their.b.toNat : Int) == (↑l.sys.b.toNat : Int) && ((↑h.their.c.toNat : Int) == (↑l.sys.c.toNat : Int) && ((↑h.their.d.toNat : Int) == (↑l.sys.d.toNat : Int) && ((↑h.their.e.toNat : Int) == (↑l.sys.e.toNat : Int) && ((↑h.their.f.toNat : Int) == (↑l.sys.f.toNat : Int) && true)))))) else (↑h.their.a.toNat : Int) == (↑l.sys.a.toNat : Int) && ((↑h.their.b.toNat : Int) == (↑l.sys.b.toNat : Int) && ((↑h.their.c.toNat : Int) == (↑l.sys.c.toNat : Int) && ((↑h.their.d.toNat : Int) == (↑l.sys.d.toNat : Int) && ((↑h.their.e.toNat : Int) == (↑l.sys.e.toNat : Int) && ((↑h.their.f.toNat : Int) == (↑l.sys.f.toNat : Int) && true)))))) = true) :
    WayR Try.prog T13 101 sg13x42x41 [(43, .v (.bool h.named)), (43, .b true), (49, .b true)] (q13 l a h now [(11, ni c)]) .normal (q13 l a h now [(11, ni c), (41, .bool true)]) :=
  runs_of_pr hfol (show prR Try.prog T13 101 sg13x42x41 [(43, .v (.bool h.named)), (43, .b true), (49, .b true)] (q13 l a h now [(11, ni c)]) .normal (q13 l a h now [(11, ni c), (41, .bool true)]) = some _ by kernel_rfl) (AllP.c (show (helC h)[(11 : Nat)]? = some (AV.bool h.named) by kernel_rfl) (AllP.c h1 (AllP.c h2 (AllP.c (LeR.refl (x := AV.int IntKind.i64 now)) (AllP.c (LeR.refl (x := AV.box (locC l))) (AllP.c (LeR.refl (x := AV.box (adjC a))) (AllP.c (LeR.refl (x := AV.box (helC h))) (AllP.c (LeR.refl (x := AV.box (adjC ad0))) (AllP.c (LeR.refl (x := AV.int IntKind.i64 c)) (AllP.c (LeR.refl (x := AV.bool true)) (AllP.c (LeR.refl (x := AV.mem [])) AllP.n)))))))))))
theorem St_nm2 (l : Loc) (a : Adj) (h : Hel) (now c : Int) (r : Bool)
    (h1 : h.named = true)
    (h2 : (if true = true then !((↑h.their.a.toNat : Int) == (↑l.sys.a.toNat : Int) && ((↑h.their.b.toNat : Int) == (↑l.sys.b.toNat : Int) && ((↑h.their.c.toNat : Int) == (↑l.sys.c.toNat : Int) && ((↑h.their.d.toNat : Int) == (↑l.sys.d.toNat : Int) && ((↑h.their.e.toNat : Int) == (↑l.sys.e.toNat : Int) && ((↑h.their.f.toNat : Int) == (↑l.sys.f.toNat : Int) && true)))))) else (↑h.their.a.toNat : Int) == (↑l.sys.a.toNat : Int) && ((↑h.their.b.toNat : Int) == (↑l.sys.b.toNat : Int) && ((↑h.their.c.toNat : Int) == (↑l.sys.c.toNat : Int) && ((↑h.their.d.toNat : Int) == (↑l.sys.d.toNat : Int) && ((↑h.their.e.toNat : Int) == (↑l.sys.e.toNat : Int) && ((↑h.their.f.toNat : Int) == (↑l.sys.f.toNat : Int) && true)))))) = false)
    (h3 : ((↑h.there.toNat : Int) != (↑l.num.toNat : Int)) = r) :
    WayR Try.prog T13 101 sg13x42x41 [(43, .v (.bool h.named)), (43, .b true), (49, .b false), (55, .b r)] (q13 l a h now [(11, ni c)]) .normal (q13 l a h now [(11, ni c), (41, .bool r)]) :=
  runs_of_pr hfol (show prR Try.prog T13 101 sg13x42x41 [(43, .v (.bool h.named)), (43, .b true), (49, .b false), (55, .b r)] (q13 l a h now [(11, ni c)]) .normal (q13 l a h now [(11, ni c), (41, .bool r)]) = some _ by kernel_rfl) (AllP.c (show (helC h)[(11 : Nat)]? = some (AV.bool h.named) by kernel_rfl) (AllP.c h1 (AllP.c h2 (AllP.c h3 (AllP.c (LeR.refl (x := AV.int IntKind.i64 now)) (AllP.c (LeR.refl (x := AV.box (locC l))) (AllP.c (LeR.refl (x := AV.box (adjC a))) (AllP.c (LeR.refl (x := AV.box (helC h))) (AllP.c (LeR.refl (x := AV.box (adjC ad0))) (AllP.c (LeR.refl (x := AV.int IntKind.i64 c)) (AllP.c (LeR.refl (x := AV.bool r)) (AllP.c (LeR.refl (x := AV.mem [])) AllP.n))))))))))))
theorem St_was1 (l : Loc) (a : Adj) (h : Hel) (now c t : Int)
    (h1 : (if true = true then !((↑a.peer.a.toNat : Int) == (↑h.sys.a.toNat : Int) && ((↑a.peer.b.toNat : Int) == (↑h.sys.b.toNat : Int) && ((↑a.peer.c.toNat : Int) == (↑h.sys.c.toNat : Int) && ((↑a.peer.d.toNat : Int) == (↑h.sys.d.toNat : Int) && ((↑a.peer.e.toNat : Int) == (↑h.sys.e.toNat : Int) && ((↑a.peer.f.toNat : Int) == (↑h.sys.f.toNat : Int) && true)))))) else (↑a.peer.a.toNat : Int) == (↑h.sys.a.toNat : Int) && ((↑a.peer.b.toNat : Int) == (↑h.sys.b.toNat : Int) && ((↑a.peer.c.toNat : Int) == (↑h.sys.c.toNat : Int) && ((↑a.peer.d.toNat : Int) == (↑h.sys.d.toNat : Int) && ((↑a.peer.e.toNat : Int) == (↑h.sys.e.toNat : Int) && ((↑a.peer.f.toNat : Int) == (↑h.sys.f.toNat : Int) && true)))))) = true) :
    WayR Try.prog T13 101 sg13x63x12 [(67, .b true)] (q13 l a h now [(11, ni c), (12, ni a.state), (13, ni t)]) .normal (q13 l a h now [(11, ni c), (12, ni 2), (13, ni t)]) :=
  runs_of_pr hfol (show prR Try.prog T13 101 sg13x63x12 [(67, .b true)] (q13 l a h now [(11, ni c), (12, ni a.state), (13, ni t)]) .normal (q13 l a h now [(11, ni c), (12, ni 2), (13, ni t)]) = some _ by kernel_rfl) (AllP.c h1 (AllP.c (LeR.refl (x := AV.int IntKind.i64 now)) (AllP.c (LeR.refl (x := AV.box (locC l))) (AllP.c (LeR.refl (x := AV.box (adjC a))) (AllP.c (LeR.refl (x := AV.box (helC h))) (AllP.c (LeR.refl (x := AV.box (adjC ad0))) (AllP.c (LeR.refl (x := AV.int IntKind.i64 c)) (AllP.c (LeR.refl (x := AV.int IntKind.i64 (2 : Int))) (AllP.c (LeR.refl (x := AV.int IntKind.i64 t)) (AllP.c (LeR.refl (x := AV.mem [])) AllP.n))))))))))
theorem St_was2 (l : Loc) (a : Adj) (h : Hel) (now c t : Int)
    (h1 : (if true = true then !((↑a.peer.a.toNat : Int) == (↑h.sys.a.toNat : Int) && ((↑a.peer.b.toNat : Int) == (↑h.sys.b.toNat : Int) && ((↑a.peer.c.toNat : Int) == (↑h.sys.c.toNat : Int) && ((↑a.peer.d.toNat : Int) == (↑h.sys.d.toNat : Int) && ((↑a.peer.e.toNat : Int) == (↑h.sys.e.toNat : Int) && ((↑a.peer.f.toNat : Int) == (↑h.sys.f.toNat : Int) && true)))))) else (↑a.peer.a.toNat : Int) == (↑h.sys.a.toNat : Int) && ((↑a.peer.b.toNat : Int) == (↑h.sys.b.toNat : Int) && ((↑a.peer.c.toNat : Int) == (↑h.sys.c.toNat : Int) && ((↑a.peer.d.toNat : Int) == (↑h.sys.d.toNat : Int) && ((↑a.peer.e.toNat : Int) == (↑h.sys.e.toNat : Int) && ((↑a.peer.f.toNat : Int) == (↑h.sys.f.toNat : Int) && true)))))) = false)
    (h2 : ((↑a.num.toNat : Int) != (↑h.num.toNat : Int)) = true) :
    WayR Try.prog T13 101 sg13x63x12 [(67, .b false), (73, .b true)] (q13 l a h now [(11, ni c), (12, ni a.state), (13, ni t)]) .normal (q13 l a h now [(11, ni c), (12, ni 2), (13, ni t)]) :=
  runs_of_pr hfol (show prR Try.prog T13 101 sg13x63x12 [(67, .b false), (73, .b true)] (q13 l a h now [(11, ni c), (12, ni a.state), (13, ni t)]) .normal (q13 l a h now [(11, ni c), (12, ni 2), (13, ni t)]) = some _ by kernel_rfl) (AllP.c h1 (AllP.c h2 (AllP.c (LeR.refl (x := AV.int IntKind.i64 now)) (AllP.c (LeR.refl (x := AV.box (locC l))) (AllP.c (LeR.refl (x := AV.box (adjC a))) (AllP.c (LeR.refl (x := AV.box (helC h))) (AllP.c (LeR.refl (x := AV.box (adjC ad0))) (AllP.c (LeR.refl (x := AV.int IntKind.i64 c)) (AllP.c (LeR.refl (x := AV.int IntKind.i64 (2 : Int))) (AllP.c (LeR.refl (x := AV.int IntKind.i64 t)) (AllP.c (LeR.refl (x := AV.mem [])) AllP.n)))))))))))
theorem St_was3 (l : Loc) (a : Adj) (h : Hel) (now c t : Int)
    (h1 : (if true = true then !((↑a.peer.a.toNat : Int) == (↑h.sys.a.toNat : Int) && ((↑a.peer.b.toNat : Int) == (↑h.sys.b.toNat : Int) && ((↑a.peer.c.toNat : Int) == (↑h.sys.c.toNat : Int) && ((↑a.peer.d.toNat : Int) == (↑h.sys.d.toNat : Int) && ((↑a.peer.e.toNat : Int) == (↑h.sys.e.toNat : Int) && ((↑a.peer.f.toNat : Int) == (↑h.sys.f.toNat : Int) && true)))))) else (↑a.peer.a.toNat : Int) == (↑h.sys.a.toNat : Int) && ((↑a.peer.b.toNat : Int) == (↑h.sys.b.toNat : Int) && ((↑a.peer.c.toNat : Int) == (↑h.sys.c.toNat : Int) && ((↑a.peer.d.toNat : Int) == (↑h.sys.d.toNat : Int) && ((↑a.peer.e.toNat : Int) == (↑h.sys.e.toNat : Int) && ((↑a.peer.f.toNat : Int) == (↑h.sys.f.toNat : Int) && true)))))) = false)
    (h2 : ((↑a.num.toNat : Int) != (↑h.num.toNat : Int)) = false)
    (h3 : (a.level != c) = true) :
    WayR Try.prog T13 101 sg13x63x12 [(67, .b false), (73, .b false), (79, .b true)] (q13 l a h now [(11, ni c), (12, ni a.state), (13, ni t)]) .normal (q13 l a h now [(11, ni c), (12, ni 2), (13, ni t)]) :=
  runs_of_pr hfol (show prR Try.prog T13 101 sg13x63x12 [(67, .b false), (73, .b false), (79, .b true)] (q13 l a h now [(11, ni c), (12, ni a.state), (13, ni t)]) .normal (q13 l a h now [(11, ni c), (12, ni 2), (13, ni t)]) = some _ by kernel_rfl) (AllP.c h1 (AllP.c h2 (AllP.c h3 (AllP.c (LeR.refl (x := AV.int IntKind.i64 now)) (AllP.c (LeR.refl (x := AV.box (locC l))) (AllP.c (LeR.refl (x := AV.box (adjC a))) (AllP.c (LeR.refl (x := AV.box (helC h))) (AllP.c (LeR.refl (x := AV.box (adjC ad0))) (AllP.c (LeR.refl (x := AV.int IntKind.i64 c)) (AllP.c (LeR.refl (x := AV.int IntKind.i64 (2 : Int))) (AllP.c (LeR.refl (x := AV.int IntKind.i64 t)) (AllP.c (LeR.refl (x := AV.mem [])) AllP.n))))))))))))
theorem St_was0 (l : Loc) (a : Adj) (h : Hel) (now c t : Int)
    (h1 : (if true = true then !((↑a.peer.a.toNat : Int) == (↑h.sys.a.toNat : Int) && ((↑a.peer.b.toNat : Int) == (↑h.sys.b.toNat : Int) && ((↑a.peer.c.toNat : Int) == (↑h.sys.c.toNat : Int) && ((↑a.peer.d.toNat : Int) == (↑h.sys.d.toNat : Int) && ((↑a.peer.e.toNat : Int) == (↑h.sys.e.toNat : Int) && ((↑a.peer.f.toNat : Int) == (↑h.sys.f.toNat : Int) && true)))))) else (↑a.peer.a.toNat : Int) == (↑h.sys.a.toNat : Int) && ((↑a.peer.b.toNat : Int) == (↑h.sys.b.toNat : Int) && ((↑a.peer.c.toNat : Int) == (↑h.sys.c.toNat : Int) && ((↑a.peer.d.toNat : Int) == (↑h.sys.d.toNat : Int) && ((↑a.peer.e.toNat : Int) == (↑h.sys.e.toNat : Int) && ((↑a.peer.f.toNat : Int) == (↑h.sys.f.toNat : Int) && true)))))) = false)
    (h2 : ((↑a.num.toNat : Int) != (↑h.num.toNat : Int)) = false)
    (h3 : (a.level != c) = false) :
    WayR Try.prog T13 101 sg13x63x12 [(67, .b false), (73, .b false), (79, .b false)] (q13 l a h now [(11, ni c), (12, ni a.state), (13, ni t)]) .normal (q13 l a h now [(11, ni c), (12, ni a.state), (13, ni t)]) :=
  runs_of_pr hfol (show prR Try.prog T13 101 sg13x63x12 [(67, .b false), (73, .b false), (79, .b false)] (q13 l a h now [(11, ni c), (12, ni a.state), (13, ni t)]) .normal (q13 l a h now [(11, ni c), (12, ni a.state), (13, ni t)]) = some _ by kernel_rfl) (AllP.c h1 (AllP.c h2 (AllP.c h3 (AllP.c (LeR.refl (x := AV.int IntKind.i64 now)) (AllP.c (LeR.refl (x := AV.box (locC l))) (AllP.c (LeR.refl (x := AV.box (adjC a))) (AllP.c (LeR.refl (x := AV.box (helC h))) (AllP.c (LeR.refl (x := AV.box (adjC ad0))) (AllP.c (LeR.refl (x := AV.int IntKind.i64 c)) (AllP.c (LeR.refl (x := AV.int IntKind.i64 a.state)) (AllP.c (LeR.refl (x := AV.int IntKind.i64 t)) (AllP.c (LeR.refl (x := AV.mem [])) AllP.n))))))))))))
theorem St_told1 (l : Loc) (a : Adj) (h : Hel) (now c w t : Int)
    (h1 : (!h.named) = true) :
    WayR Try.prog T13 101 sg13x81x13 [(83, .b true)] (q13 l a h now [(11, ni c), (12, ni w), (13, ni t)]) .normal (q13 l a h now [(11, ni c), (12, ni w), (13, ni 2)]) :=
  runs_of_pr hfol (show prR Try.prog T13 101 sg13x81x13 [(83, .b true)] (q13 l a h now [(11, ni c), (12, ni w), (13, ni t)]) .normal (q13 l a h now [(11, ni c), (12, ni w), (13, ni 2)]) = some _ by kernel_rfl) (AllP.c h1 (AllP.c (LeR.refl (x := AV.int IntKind.i64 now)) (AllP.c (LeR.refl (x := AV.box (locC l))) (AllP.c (LeR.refl (x := AV.box (adjC a))) (AllP.c (LeR.refl (x := AV.box (helC h))) (AllP.c (LeR.refl (x := AV.box (adjC ad0))) (AllP.c (LeR.refl (x := AV.int IntKind.i64 c)) (AllP.c (LeR.refl (x := AV.int IntKind.i64 w)) (AllP.c (LeR.refl (x := AV.int IntKind.i64 (2 : Int))) (AllP.c (LeR.refl (x := AV.mem [])) AllP.n))))))))))
theorem St_told0 (l : Loc) (a : Adj) (h : Hel) (now c w t : Int)
    (h1 : (!h.named) = false) :
    WayR Try.prog T13 101 sg13x81x13 [(83, .b false)] (q13 l a h now [(11, ni c), (12, ni w), (13, ni t)]) .normal (q13 l a h now [(11, ni c), (12, ni w), (13, ni t)]) :=
  runs_of_pr hfol (show prR Try.prog T13 101 sg13x81x13 [(83, .b false)] (q13 l a h now [(11, ni c), (12, ni w), (13, ni t)]) .normal (q13 l a h now [(11, ni c), (12, ni w), (13, ni t)]) = some _ by kernel_rfl) (AllP.c h1 (AllP.c (LeR.refl (x := AV.int IntKind.i64 now)) (AllP.c (LeR.refl (x := AV.box (locC l))) (AllP.c (LeR.refl (x := AV.box (adjC a))) (AllP.c (LeR.refl (x := AV.box (helC h))) (AllP.c (LeR.refl (x := AV.box (adjC ad0))) (AllP.c (LeR.refl (x := AV.int IntKind.i64 c)) (AllP.c (LeR.refl (x := AV.int IntKind.i64 w)) (AllP.c (LeR.refl (x := AV.int IntKind.i64 t)) (AllP.c (LeR.refl (x := AV.mem [])) AllP.n))))))))))
end Go.Ev

/-! text W3 -/
set_option linter.unusedVariables false
namespace Go.Ev
open Go.Proofs (Try.prog)
theorem check_bad1 (l : Loc) (a : Adj) (h : Hel) (now : Int)
    (h1 : FnW Try.prog (31 : FuncId) [AV.int IntKind.i64 l.level] [ni l.level] (AV.bool false)) :
    WayF Try.prog 24 T24 fd24 [(12, .c [ni l.level] (.bool false))] [locA l, adjA a, helA h, ni now] (ni 1) :=
  fn_of_pr hfol ok24 hT24 (show prF Try.prog 24 T24 fd24 [(12, .c [ni l.level] (.bool false))] [locA l, adjA a, helA h, ni now] (ni 1) = some _ by kernel_rfl) (AllP.c h1 (AllP.c (show freshA (AV.bool false) = true by kernel_rfl) (AllP.c (show AV.int IntKind.i64 (1 : Int) = AV.int IntKind.i64 (1 : Int) by kernel_rfl) AllP.n)))
theorem check_bad2 (l : Loc) (a : Adj) (h : Hel) (now : Int)
    (h1 : FnW Try.prog (31 : FuncId) [AV.int IntKind.i64 l.level] [ni l.level] (AV.bool true))
    (h2 : FnW Try.prog (31 : FuncId) [AV.int IntKind.i64 h.level] [ni h.level] (AV.bool false)) :
    WayF Try.prog 24 T24 fd24 [(12, .c [ni l.level] (.bool true)), (17, .c [ni h.level] (.bool false))] [locA l, adjA a, helA h, ni now] (ni 1) :=
  fn_of_pr hfol ok24 hT24 (show prF Try.prog 24 T24 fd24 [(12, .c [ni l.level] (.bool true)), (17, .c [ni h.level] (.bool false))] [locA l, adjA a, helA h, ni now] (ni 1) = some _ by kernel_rfl) (AllP.c h1 (AllP.c (show freshA (AV.bool true) = true by kernel_rfl) (AllP.c h2 (AllP.c (show freshA (AV.bool false) = true by kernel_rfl) (AllP.c (show AV.int IntKind.i64 (1 : Int) = AV.int IntKind.i64 (1 : Int) by kernel_rfl) AllP.n)))))
theorem check_bad3 (l : Loc) (a : Adj) (h : Hel) (now : Int)
    (h1 : FnW Try.prog (31 : FuncId) [AV.int IntKind.i64 l.level] [ni l.level] (AV.bool true))
    (h2 : FnW Try.prog (31 : FuncId) [AV.int IntKind.i64 h.level] [ni h.level] (AV.bool true))
    (h3 : FnW Try.prog (32 : FuncId) [AV.int IntKind.i64 a.state] [ni a.state] (AV.bool false)) :
    WayF Try.prog 24 T24 fd24 [(12, .c [ni l.level] (.bool true)), (17, .c [ni h.level] (.bool true)), (23, .c [ni a.state] (.bool false))] [locA l, adjA a, helA h, ni now] (ni 1) :=
  fn_of_pr hfol ok24 hT24 (show prF Try.prog 24 T24 fd24 [(12, .c [ni l.level] (.bool true)), (17, .c [ni h.level] (.bool true)), (23, .c [ni a.state] (.bool false))] [locA l, adjA a, helA h, ni now] (ni 1) = some _ by kernel_rfl) (AllP.c h1 (AllP.c (show freshA (AV.bool true) = true by kernel_rfl) (AllP.c h2 (AllP.c (show freshA (AV.bool true) = true by kernel_rfl) (AllP.c h3 (AllP.c (show freshA (AV.bool false) = true by kernel_rfl) (AllP.c (show AV.int IntKind.i64 (1 : Int) = AV.int IntKind.i64 (1 : Int) by kernel_rfl) AllP.n)))))))
theorem check_bad4 (l : Loc) (a : Adj) (h : Hel) (now : Int)
    (h1 : FnW Try.prog (31 : FuncId) [AV.int IntKind.i64 l.level] [ni l.level] (AV.bool true))
    (h2 : FnW Try.prog (31 : FuncId) [AV.int IntKind.i64 h.level] [ni h.level] (AV.bool true))
    (h3 : FnW Try.prog (32 : FuncId) [AV.int IntKind.i64 a.state] [ni a.state] (AV.bool true))
    (h4 : FnW Try.prog (32 : FuncId) [AV.int IntKind.i64 h.state] [ni h.state] (AV.bool false)) :
    WayF Try.prog 24 T24 fd24 [(12, .c [ni l.level] (.bool true)), (17, .c [ni h.level] (.bool true)), (23, .c [ni a.state] (.bool true)), (29, .c [ni h.state] (.bool false))] [locA l, adjA a, helA h, ni now] (ni 1) :=
  fn_of_pr hfol ok24 hT24 (show prF Try.prog 24 T24 fd24 [(12, .c [ni l.level] (.bool true)), (17, .c [ni h.level] (.bool true)), (23, .c [ni a.state] (.bool true)), (29, .c [ni h.state] (.bool false))] [locA l, adjA a, helA h, ni now] (ni 1) = some _ by kernel_rfl) (AllP.c h1 (AllP.c (show freshA (AV.bool true) = true by kernel_rfl) (AllP.c h2 (AllP.c (show freshA (AV.bool true) = true by kernel_rfl) (AllP.c h3 (AllP.c (show freshA (AV.bool true) = true by kernel_rfl) (AllP.c h4 (AllP.c (show freshA (AV.bool false) = true by kernel_rfl) (AllP.c (show AV.int IntKind.i64 (1 : Int) = AV.int IntKind.i64 (1 : Int) by kernel_rfl) AllP.n)))))))))
theorem check_bad5 (l : Loc) (a : Adj) (h : Hel) (now : Int)
    (h1 : FnW Try.prog (31 : FuncId) [AV.int IntKind.i64 l.level] [ni l.level] (AV.bool true))
    (h2 : FnW Try.prog (31 : FuncId) [AV.int IntKind.i64 h.level] [ni h.level] (AV.bool true))
    (h3 : FnW Try.prog (32 : FuncId) [AV.int IntKind.i64 a.state] [ni a.state] (AV.bool true))
    (h4 : FnW Try.prog (32 : FuncId) [AV.int IntKind.i64 h.state] [ni h.state] (AV.bool true))
    (h5 : FnW Try.prog (33 : FuncId) [AV.int IntKind.i64 h.hold] [ni h.hold] (AV.bool false)) :
    WayF Try.prog 24 T24 fd24 [(12, .c [ni l.level] (.bool true)), (17, .c [ni h.level] (.bool true)), (23, .c [ni a.state] (.bool true)), (29, .c [ni h.state] (.bool true)), (35, .c [ni h.hold] (.bool false))] [locA l, adjA a, helA h, ni now] (ni 1) :=
  fn_of_pr hfol ok24 hT24 (show prF Try.prog 24 T24 fd24 [(12, .c [ni l.level] (.bool true)), (17, .c [ni h.level] (.bool true)), (23, .c [ni a.state] (.bool true)), (29, .c [ni h.state] (.bool true)), (35, .c [ni h.hold] (.bool false))] [locA l, adjA a, helA h, ni now] (ni 1) = some _ by kernel_rfl) (AllP.c h1 (AllP.c (show freshA (AV.bool true) = true by kernel_rfl) (AllP.c h2 (AllP.c (show freshA (AV.bool true) = true by kernel_rfl) (AllP.c h3 (AllP.c (show freshA (AV.bool true) = true by kernel_rfl) (AllP.c h4 (AllP.c (show freshA (AV.bool true) = true by kernel_rfl) (AllP.c h5 (AllP.c (show freshA (AV.bool false) = true by kernel_rfl) (AllP.c (show AV.int IntKind.i64 (1 : Int) = AV.int IntKind.i64 (1 : Int) by kernel_rfl) AllP.n)))))))))))
theorem check_bad6 (l : Loc) (a : Adj) (h : Hel) (now : Int)
    (h1 : FnW Try.prog (31 : FuncId) [AV.int IntKind.i64 l.level] [ni l.level] (AV.bool true))
    (h2 : FnW Try.prog (31 : FuncId) [AV.int IntKind.i64 h.level] [ni h.level] (AV.bool true))
    (h3 : FnW Try.prog (32 : FuncId) [AV.int IntKind.i64 a.state] [ni a.state] (AV.bool true))
    (h4 : FnW Try.prog (32 : FuncId) [AV.int IntKind.i64 h.state] [ni h.state] (AV.bool true))
    (h5 : FnW Try.prog (33 : FuncId) [AV.int IntKind.i64 h.hold] [ni h.hold] (AV.bool true))
    (h6 : decide (now < (0 : Int)) = true) :
    WayF Try.prog 24 T24 fd24 [(12, .c [ni l.level] (.bool true)), (17, .c [ni h.level] (.bool true)), (23, .c [ni a.state] (.bool true)), (29, .c [ni h.state] (.bool true)), (35, .c [ni h.hold] (.bool true)), (40, .b true)] [locA l, adjA a, helA h, ni now] (ni 1) :=
  fn_of_pr hfol ok24 hT24 (show prF Try.prog 24 T24 fd24 [(12, .c [ni l.level] (.bool true)), (17, .c [ni h.level] (.bool true)), (23, .c [ni a.state] (.bool true)), (29, .c [ni h.state] (.bool true)), (35, .c [ni h.hold] (.bool true)), (40, .b true)] [locA l, adjA a, helA h, ni now] (ni 1) = some _ by kernel_rfl) (AllP.c h1 (AllP.c (show freshA (AV.bool true) = true by kernel_rfl) (AllP.c h2 (AllP.c (show freshA (AV.bool true) = true by kernel_rfl) (AllP.c h3 (AllP.c (show freshA (AV.bool true) = true by kernel_rfl) (AllP.c h4 (AllP.c (show freshA (AV.bool true) = true by kernel_rfl) (AllP.c h5 (AllP.c (show freshA (AV.bool true) = true by kernel_rfl) (AllP.c h6 (AllP.c (show AV.int IntKind.i64 (1 : Int) = AV.int IntKind.i64 (1 : Int) by kernel_rfl) AllP.n))))))))))))
theorem check_bad7 (l : Loc) (a : Adj) (h : Hel) (now : Int)
    (h1 : FnW Try.prog (31 : FuncId) [AV.int IntKind.i64 l.level] [ni l.level] (AV.bool true))
    (h2 : FnW Try.prog (31 : FuncId) [AV.int IntKind.i64 h.level] [ni h.level] (AV.bool true))
    (h3 : FnW Try.prog (32 : FuncId) [AV.int IntKind.i64 a.state] [ni a.state] (AV.bool true))
    (h4 : FnW Try.prog (32 : FuncId) [AV.int IntKind.i64 h.state] [ni h.state] (AV.bool true))
    (h5 : FnW Try.prog (33 : FuncId) [AV.int IntKind.i64 h.hold] [ni h.hold] (AV.bool true))
    (h6 : decide (now < (0 : Int)) = false)
    (h7 : decide (now > (4611686018427387904 : Int)) = true) :
    WayF Try.prog 24 T24 fd24 [(12, .c [ni l.level] (.bool true)), (17, .c [ni h.level] (.bool true)), (23, .c [ni a.state] (.bool true)), (29, .c [ni h.state] (.bool true)), (35, .c [ni h.hold] (.bool true)), (40, .b false), (44, .b true)] [locA l, adjA a, helA h, ni now] (ni 1) :=
  fn_of_pr hfol ok24 hT24 (show prF Try.prog 24 T24 fd24 [(12, .c [ni l.level] (.bool true)), (17, .c [ni h.level] (.bool true)), (23, .c [ni a.state] (.bool true)), (29, .c [ni h.state] (.bool true)), (35, .c [ni h.hold] (.bool true)), (40, .b false), (44, .b true)] [locA l, adjA a, helA h, ni now] (ni 1) = some _ by kernel_rfl) (AllP.c h1 (AllP.c (show freshA (AV.bool true) = true by kernel_rfl) (AllP.c h2 (AllP.c (show freshA (AV.bool true) = true by kernel_rfl) (AllP.c h3 (AllP.c (show freshA (AV.bool true) = true by kernel_rfl) (AllP.c h4 (AllP.c (show freshA (AV.bool true) = true by kernel_rfl) (AllP.c h5 (AllP.c (show freshA (AV.bool true) = true by kernel_rfl) (AllP.c h6 (AllP.c h7 (AllP.c (show AV.int IntKind.i64 (1 : Int) = AV.int IntKind.i64 (1 : Int) by kernel_rfl) AllP.n)))))))))))))
theorem check_long1 (l : Loc) (a : Adj) (h : Hel) (now : Int)
    (h1 : FnW Try.prog (31 : FuncId) [AV.int IntKind.i64 l.level] [ni l.level] (AV.bool true))
    (h2 : FnW Try.prog (31 : FuncId) [AV.int IntKind.i64 h.level] [ni h.level] (AV.bool true))
    (h3 : FnW Try.prog (32 : FuncId) [AV.int IntKind.i64 a.state] [ni a.state] (AV.bool true))
    (h4 : FnW Try.prog (32 : FuncId) [AV.int IntKind.i64 h.state] [ni h.state] (AV.bool true))
    (h5 : FnW Try.prog (33 : FuncId) [AV.int IntKind.i64 h.hold] [ni h.hold] (AV.bool true))
    (h6 : decide (now < (0 : Int)) = false)
    (h7 : decide (now > (4611686018427387904 : Int)) = false)
    (h8 : decide ((↑(vsS l.areas).length : Int) > (3 : Int)) = true) :
    WayF Try.prog 24 T24 fd24 [(12, .c [ni l.level] (.bool true)), (17, .c [ni h.level] (.bool true)), (23, .c [ni a.state] (.bool true)), (29, .c [ni h.state] (.bool true)), (35, .c [ni h.hold] (.bool true)), (40, .b false), (44, .b false), (50, .b true)] [locA l, adjA a, helA h, ni now] (ni 2) :=
  fn_of_pr hfol ok24 hT24 (show prF Try.prog 24 T24 fd24 [(12, .c [ni l.level] (.bool true)), (17, .c [ni h.level] (.bool true)), (23, .c [ni a.state] (.bool true)), (29, .c [ni h.state] (.bool true)), (35, .c [ni h.hold] (.bool true)), (40, .b false), (44, .b false), (50, .b true)] [locA l, adjA a, helA h, ni now] (ni 2) = some _ by kernel_rfl) (AllP.c h1 (AllP.c (show freshA (AV.bool true) = true by kernel_rfl) (AllP.c h2 (AllP.c (show freshA (AV.bool true) = true by kernel_rfl) (AllP.c h3 (AllP.c (show freshA (AV.bool true) = true by kernel_rfl) (AllP.c h4 (AllP.c (show freshA (AV.bool true) = true by kernel_rfl) (AllP.c h5 (AllP.c (show freshA (AV.bool true) = true by kernel_rfl) (AllP.c h6 (AllP.c h7 (AllP.c h8 (AllP.c (show AV.int IntKind.i64 (2 : Int) = AV.int IntKind.i64 (2 : Int) by kernel_rfl) AllP.n))))))))))))))
theorem check_long2 (l : Loc) (a : Adj) (h : Hel) (now : Int)
    (h1 : FnW Try.prog (31 : FuncId) [AV.int IntKind.i64 l.level] [ni l.level] (AV.bool true))
    (h2 : FnW Try.prog (31 : FuncId) [AV.int IntKind.i64 h.level] [ni h.level] (AV.bool true))
    (h3 : FnW Try.prog (32 : FuncId) [AV.int IntKind.i64 a.state] [ni a.state] (AV.bool true))
    (h4 : FnW Try.prog (32 : FuncId) [AV.int IntKind.i64 h.state] [ni h.state] (AV.bool true))
    (h5 : FnW Try.prog (33 : FuncId) [AV.int IntKind.i64 h.hold] [ni h.hold] (AV.bool true))
    (h6 : decide (now < (0 : Int)) = false)
    (h7 : decide (now > (4611686018427387904 : Int)) = false)
    (h8 : decide ((↑(vsS l.areas).length : Int) > (3 : Int)) = false)
    (h9 : decide ((↑(vsS h.areas).length : Int) > (3 : Int)) = true) :
    WayF Try.prog 24 T24 fd24 [(12, .c [ni l.level] (.bool true)), (17, .c [ni h.level] (.bool true)), (23, .c [ni a.state] (.bool true)), (29, .c [ni h.state] (.bool true)), (35, .c [ni h.hold] (.bool true)), (40, .b false), (44, .b false), (50, .b false), (55, .b true)] [locA l, adjA a, helA h, ni now] (ni 2) :=
  fn_of_pr hfol ok24 hT24 (show prF Try.prog 24 T24 fd24 [(12, .c [ni l.level] (.bool true)), (17, .c [ni h.level] (.bool true)), (23, .c [ni a.state] (.bool true)), (29, .c [ni h.state] (.bool true)), (35, .c [ni h.hold] (.bool true)), (40, .b false), (44, .b false), (50, .b false), (55, .b true)] [locA l, adjA a, helA h, ni now] (ni 2) = some _ by kernel_rfl) (AllP.c h1 (AllP.c (show freshA (AV.bool true) = true by kernel_rfl) (AllP.c h2 (AllP.c (show freshA (AV.bool true) = true by kernel_rfl) (AllP.c h3 (AllP.c (show freshA (AV.bool true) = true by kernel_rfl) (AllP.c h4 (AllP.c (show freshA (AV.bool true) = true by kernel_rfl) (AllP.c h5 (AllP.c (show freshA (AV.bool true) = true by kernel_rfl) (AllP.c h6 (AllP.c h7 (AllP.c h8 (AllP.c h9 (AllP.c (show AV.int IntKind.i64 (2 : Int) = AV.int IntKind.i64 (2 : Int) by kernel_rfl) AllP.n)))))))))))))))
theorem check_same (l : Loc) (a : Adj) (h : Hel) (now : Int)
    (h1 : FnW Try.prog (31 : FuncId) [AV.int IntKind.i64 l.level] [ni l.level] (AV.bool true))
    (h2 : FnW Try.prog (31 : FuncId) [AV.int IntKind.i64 h.level] [ni h.level] (AV.bool true))
    (h3 : FnW Try.prog (32 : FuncId) [AV.int IntKind.i64 a.state] [ni a.state] (AV.bool true))
    (h4 : FnW Try.prog (32 : FuncId) [AV.int IntKind.i64 h.state] [ni h.state] (AV.bool true))
    (h5 : FnW Try.prog (33 : FuncId) [AV.int IntKind.i64 h.hold] [ni h.hold] (AV.bool true))
    (h6 : decide (now < (0 : Int)) = false)
    (h7 : decide (now > (4611686018427387904 : Int)) = false)
    (h8 : decide ((↑(vsS l.areas).length : Int) > (3 : Int)) = false)
    (h9 : decide ((↑(vsS h.areas).length : Int) > (3 : Int)) = false)
    (h10 : (if false = true then !((↑l.sys.a.toNat : Int) == (↑h.sys.a.toNat : Int) && ((↑l.sys.b.toNat : Int) == (↑h.sys.b.toNat : Int) && ((↑l.sys.c.toNat : Int) == (↑h.sys.c.toNat : Int) && ((↑l.sys.d.toNat : Int) == (↑h.sys.d.toNat : Int) && ((↑l.sys.e.toNat : Int) == (↑h.sys.e.toNat : Int) && ((↑l.sys.f.toNat : Int) == (↑h.sys.f.toNat : Int) && true)))))) else (↑l.sys.a.toNat : Int) == (↑h.sys.a.toNat : Int) && ((↑l.sys.b.toNat : Int) == (↑h.sys.b.toNat : Int) && ((↑l.sys.c.toNat : Int) == (↑h.sys.c.toNat : Int) && ((↑l.sys.d.toNat : Int) == (↑h.sys.d.toNat : Int) && ((↑l.sys.e.toNat : Int) == (↑h.sys.e.toNat : Int) && ((↑l.sys.f.toNat : Int) == (↑h.sys.f.toNat : Int) && true)))))) = true) :
    WayF Try.prog 24 T24 fd24 [(12, .c [ni l.level] (.bool true)), (17, .c [ni h.level] (.bool true)), (23, .c [ni a.state] (.bool true)), (29, .c [ni h.state] (.bool true)), (35, .c [ni h.hold] (.bool true)), (40, .b false), (44, .b false), (50, .b false), (55, .b false), (62, .b true)] [locA l, adjA a, helA h, ni now] (ni 7) :=
  fn_of_pr hfol ok24 hT24 (show prF Try.prog 24 T24 fd24 [(12, .c [ni l.level] (.bool true)), (17, .c [ni h.level] (.bool true)), (23, .c [ni a.state] (.bool true)), (29, .c [ni h.state] (.bool true)), (35, .c [ni h.hold] (.bool true)), (40, .b false), (44, .b false), (50, .b false), (55, .b false), (62, .b true)] [locA l, adjA a, helA h, ni now] (ni 7) = some _ by kernel_rfl) (AllP.c h1 (AllP.c (show freshA (AV.bool true) = true by kernel_rfl) (AllP.c h2 (AllP.c (show freshA (AV.bool true) = true by kernel_rfl) (AllP.c h3 (AllP.c (show freshA (AV.bool true) = true by kernel_rfl) (AllP.c h4 (AllP.c (show freshA (AV.bool true) = true by kernel_rfl) (AllP.c h5 (AllP.c (show freshA (AV.bool true) = true by kernel_rfl) (AllP.c h6 (AllP.c h7 (AllP.c h8 (AllP.c h9 (AllP.c h10 (AllP.c (show AV.int IntKind.i64 (7 : Int) = AV.int IntKind.i64 (7 : Int) by kernel_rfl) AllP.n))))))))))))))))
theorem check_ok (l : Loc) (a : Adj) (h : Hel) (now : Int)
    (h1 : FnW Try.prog (31 : FuncId) [AV.int IntKind.i64 l.level] [ni l.level] (AV.bool true))
    (h2 : FnW Try.prog (31 : FuncId) [AV.int IntKind.i64 h.level] [ni h.level] (AV.bool true))
    (h3 : FnW Try.prog (32 : FuncId) [AV.int IntKind.i64 a.state] [ni a.state] (AV.bool true))
    (h4 : FnW Try.prog (32 : FuncId) [AV.int IntKind.i64 h.state] [ni h.state] (AV.bool true))
    (h5 : FnW Try.prog (33 : FuncId) [AV.int IntKind.i64 h.hold] [ni h.hold] (AV.bool true))
    (h6 : decide (now < (0 : Int)) = false)
    (h7 : decide (now > (4611686018427387904 : Int)) = false)
    (h8 : decide ((↑(vsS l.areas).length : Int) > (3 : Int)) = false)
    (h9 : decide ((↑(vsS h.areas).length : Int) > (3 : Int)) = false)
    (h10 : (if false = true then !((↑l.sys.a.toNat : Int) == (↑h.sys.a.toNat : Int) && ((↑l.sys.b.toNat : Int) == (↑h.sys.b.toNat : Int) && ((↑l.sys.c.toNat : Int) == (↑h.sys.c.toNat : Int) && ((↑l.sys.d.toNat : Int) == (↑h.sys.d.toNat : Int) && ((↑l.sys.e.toNat : Int) == (↑h.sys.e.toNat : Int) && ((↑l.sys.f.toNat : Int) == (↑h.sys.f.toNat : Int) && true)))))) else (↑l.sys.a.toNat : Int) == (↑h.sys.a.toNat : Int) && ((↑l.sys.b.toNat : Int) == (↑h.sys.b.toNat : Int) && ((↑l.sys.c.toNat : Int) == (↑h.sys.c.toNat : Int) && ((↑l.sys.d.toNat : Int) == (↑h.sys.d.toNat : Int) && ((↑l.sys.e.toNat : Int) == (↑h.sys.e.toNat : Int) && ((↑l.sys.f.toNat : Int) == (↑h.sys.f.toNat : Int) && true)))))) = false) :
    WayF Try.prog 24 T24 fd24 [(12, .c [ni l.level] (.bool true)), (17, .c [ni h.level] (.bool true)), (23, .c [ni a.state] (.bool true)), (29, .c [ni h.state] (.bool true)), (35, .c [ni h.hold] (.bool true)), (40, .b false), (44, .b false), (50, .b false), (55, .b false), (62, .b false)] [locA l, adjA a, helA h, ni now] (ni 0) :=
  fn_of_pr hfol ok24 hT24 (show prF Try.prog 24 T24 fd24 [(12, .c [ni l.level] (.bool true)), (17, .c [ni h.level] (.bool true)), (23, .c [ni a.state] (.bool true)), (29, .c [ni h.state] (.bool true)), (35, .c [ni h.hold] (.bool true)), (40, .b false), (44, .b false), (50, .b false), (55, .b false), (62, .b false)] [locA l, adjA a, helA h, ni now] (ni 0) = some _ by kernel_rfl) (AllP.c h1 (AllP.c (show freshA (AV.bool true) = true by kernel_rfl) (AllP.c h2 (AllP.c (show freshA (AV.bool true) = true by kernel_rfl) (AllP.c h3 (AllP.c (show freshA (AV.bool true) = true by kernel_rfl) (AllP.c h4 (AllP.c (show freshA (AV.bool true) = true by kernel_rfl) (AllP.c h5 (AllP.c (show freshA (AV.bool true) = true by kernel_rfl) (AllP.c h6 (AllP.c h7 (AllP.c h8 (AllP.c h9 (AllP.c h10 (AllP.c (show AV.int IntKind.i64 (0 : Int) = AV.int IntKind.i64 (0 : Int) by kernel_rfl) AllP.n))))))))))))))))
theorem Dc_bad1 (l : Loc) (a : Adj) (h : Hel) (now : Int)
    (h1 : FnW Try.prog (28 : FuncId) [AV.int IntKind.i64 l.level, AV.int IntKind.i64 (1 : Int), AV.int IntKind.i64 (3 : Int)] [ni l.level, ni (1 : Int), ni (3 : Int)] (AV.bool false)) :
    WayR Try.prog T14 153 sg14x15x50 [(17, .c [ni l.level, ni 1, ni 3] (.bool false))] (q14 l a h now []) .normal (q14 l a h now [(50, .bool true)]) :=
  runs_of_pr hfol (show prR Try.prog T14 153 sg14x15x50 [(17, .c [ni l.level, ni 1, ni 3] (.bool false))] (q14 l a h now []) .normal (q14 l a h now [(50, .bool true)]) = some _ by kernel_rfl) (AllP.c h1 (AllP.c (show freshA (AV.bool false) = true by kernel_rfl) (AllP.c (LeR.refl (x := AV.int IntKind.i64 now)) (AllP.c (LeR.refl (x := AV.box (locC l))) (AllP.c (LeR.refl (x := AV.box (adjC a))) (AllP.c (LeR.refl (x := AV.box (helC h))) (AllP.c (LeR.refl (x := AV.box (adjC ad0))) (AllP.c (LeR.refl (x := AV.bool true)) (AllP.c (LeR.refl (x := AV.mem [])) AllP.n)))))))))
theorem Dc_bad2 (l : Loc) (a : Adj) (h : Hel) (now : Int)
    (h1 : FnW Try.prog (28 : FuncId) [AV.int IntKind.i64 l.level, AV.int IntKind.i64 (1 : Int), AV.int IntKind.i64 (3 : Int)] [ni l.level, ni (1 : Int), ni (3 : Int)] (AV.bool true))
    (h2 : FnW Try.prog (28 : FuncId) [AV.int IntKind.i64 h.level, AV.int IntKind.i64 (1 : Int), AV.int IntKind.i64 (3 : Int)] [ni h.level, ni (1 : Int), ni (3 : Int)] (AV.bool false)) :
    WayR Try.prog T14 153 sg14x15x50 [(17, .c [ni l.level, ni 1, ni 3] (.bool true)), (22, .c [ni h.level, ni 1, ni 3] (.bool false))] (q14 l a h now []) .normal (q14 l a h now [(50, .bool true)]) :=
  runs_of_pr hfol (show prR Try.prog T14 153 sg14x15x50 [(17, .c [ni l.level, ni 1, ni 3] (.bool true)), (22, .c [ni h.level, ni 1, ni 3] (.bool false))] (q14 l a h now []) .normal (q14 l a h now [(50, .bool true)]) = some _ by kernel_rfl) (AllP.c h1 (AllP.c (show freshA (AV.bool true) = true by kernel_rfl) (AllP.c h2 (AllP.c (show freshA (AV.bool false) = true by kernel_rfl) (AllP.c (LeR.refl (x := AV.int IntKind.i64 now)) (AllP.c (LeR.refl (x := AV.box (locC l))) (AllP.c (LeR.refl (x := AV.box (adjC a))) (AllP.c (LeR.refl (x := AV.box (helC h))) (AllP.c (LeR.refl (x := AV.box (adjC ad0))) (AllP.c (LeR.refl (x := AV.bool true)) (AllP.c (LeR.refl (x := AV.mem [])) AllP.n)))))))))))
theorem Dc_bad3 (l : Loc) (a : Adj) (h : Hel) (now : Int)
    (h1 : FnW Try.prog (28 : FuncId) [AV.int IntKind.i64 l.level, AV.int IntKind.i64 (1 : Int), AV.int IntKind.i64 (3 : Int)] [ni l.level, ni (1 : Int), ni (3 : Int)] (AV.bool true))
    (h2 : FnW Try.prog (28 : FuncId) [AV.int IntKind.i64 h.level, AV.int IntKind.i64 (1 : Int), AV.int IntKind.i64 (3 : Int)] [ni h.level, ni (1 : Int), ni (3 : Int)] (AV.bool true))
    (h3 : FnW Try.prog (28 : FuncId) [AV.int IntKind.i64 a.state, AV.int IntKind.i64 (0 : Int), AV.int IntKind.i64 (2 : Int)] [ni a.state, ni (0 : Int), ni (2 : Int)] (AV.bool false)) :
    WayR Try.prog T14 153 sg14x15x50 [(17, .c [ni l.level, ni 1, ni 3] (.bool true)), (22, .c [ni h.level, ni 1, ni 3] (.bool true)), (28, .c [ni a.state, ni 0, ni 2] (.bool false))] (q14 l a h now []) .normal (q14 l a h now [(50, .bool true)]) :=
  runs_of_pr hfol (show prR Try.prog T14 153 sg14x15x50 [(17, .c [ni l.level, ni 1, ni 3] (.bool true)), (22, .c [ni h.level, ni 1, ni 3] (.bool true)), (28, .c [ni a.state, ni 0, ni 2] (.bool false))] (q14 l a h now []) .normal (q14 l a h now [(50, .bool true)]) = some _ by kernel_rfl) (AllP.c h1 (AllP.c (show freshA (AV.bool true) = true by kernel_rfl) (AllP.c h2 (AllP.c (show freshA (AV.bool true) = true by kernel_rfl) (AllP.c h3 (AllP.c (show freshA (AV.bool false) = true by kernel_rfl) (AllP.c (LeR.refl (x := AV.int IntKind.i64 now)) (AllP.c (LeR.refl (x := AV.box (locC l))) (AllP.c (LeR.refl (x := AV.box (adjC a))) (AllP.c (LeR.refl (x := AV.box (helC h))) (AllP.c (LeR.refl (x := AV.box (adjC ad0))) (AllP.c (LeR.refl (x := AV.bool true)) (AllP.c (LeR.refl (x := AV.mem [])) AllP.n)))))))))))))
theorem Dc_bad4 (l : Loc) (a : Adj) (h : Hel) (now : Int)
    (h1 : FnW Try.prog (28 : FuncId) [AV.int IntKind.i64 l.level, AV.int IntKind.i64 (1 : Int), AV.int IntKind.i64 (3 : Int)] [ni l.level, ni (1 : Int), ni (3 : Int)] (AV.bool true))
    (h2 : FnW Try.prog (28 : FuncId) [AV.int IntKind.i64 h.level, AV.int IntKind.i64 (1 : Int), AV.int IntKind.i64 (3 : Int)] [ni h.level, ni (1 : Int), ni (3 : Int)] (AV.bool true))
    (h3 : FnW Try.prog (28 : FuncId) [AV.int IntKind.i64 a.state, AV.int IntKind.i64 (0 : Int), AV.int IntKind.i64 (2 : Int)] [ni a.state, ni (0 : Int), ni (2 : Int)] (AV.bool true))
    (h4 : FnW Try.prog (28 : FuncId) [AV.int IntKind.i64 h.state, AV.int IntKind.i64 (0 : Int), AV.int IntKind.i64 (2 : Int)] [ni h.state, ni (0 : Int), ni (2 : Int)] (AV.bool false)) :
    WayR Try.prog T14 153 sg14x15x50 [(17, .c [ni l.level, ni 1, ni 3] (.bool true)), (22, .c [ni h.level, ni 1, ni 3] (.bool true)), (28, .c [ni a.state, ni 0, ni 2] (.bool true)), (34, .c [ni h.state, ni 0, ni 2] (.bool false))] (q14 l a h now []) .normal (q14 l a h now [(50, .bool true)]) :=
  runs_of_pr hfol (show prR Try.prog T14 153 sg14x15x50 [(17, .c [ni l.level, ni 1, ni 3] (.bool true)), (22, .c [ni h.level, ni 1, ni 3] (.bool true)), (28, .c [ni a.state, ni 0, ni 2] (.bool true)), (34, .c [ni h.state, ni 0, ni 2] (.bool false))] (q14 l a h now []) .normal (q14 l a h now [(50, .bool true)]) = some _ by kernel_rfl) (AllP.c h1 (AllP.c (show freshA (AV.bool true) = true by kernel_rfl) (AllP.c h2 (AllP.c (show freshA (AV.bool true) = true by kernel_rfl) (AllP.c h3 (AllP.c (show freshA (AV.bool true) = true by kernel_rfl) (AllP.c h4 (AllP.c (show freshA (AV.bool false) = true by kernel_rfl) (AllP.c (LeR.refl (x := AV.int IntKind.i64 now)) (AllP.c (LeR.refl (x := AV.box (locC l))) (AllP.c (LeR.refl (x := AV.box (adjC a))) (AllP.c (LeR.refl (x := AV.box (helC h))) (AllP.c (LeR.refl (x := AV.box (adjC ad0))) (AllP.c (LeR.refl (x := AV.bool true)) (AllP.c (LeR.refl (x := AV.mem [])) AllP.n)))))))))))))))
theorem Dc_bad5 (l : Loc) (a : Adj) (h : Hel) (now : Int)
    (h1 : FnW Try.prog (28 : FuncId) [AV.int IntKind.i64 l.level, AV.int IntKind.i64 (1 : Int), AV.int IntKind.i64 (3 : Int)] [ni l.level, ni (1 : Int), ni (3 : Int)] (AV.bool true))
    (h2 : FnW Try.prog (28 : FuncId) [AV.int IntKind.i64 h.level, AV.int IntKind.i64 (1 : Int), AV.int IntKind.i64 (3 : Int)] [ni h.level, ni (1 : Int), ni (3 : Int)] (AV.bool true))
    (h3 : FnW Try.prog (28 : FuncId) [AV.int IntKind.i64 a.state, AV.int IntKind.i64 (0 : Int), AV.int IntKind.i64 (2 : Int)] [ni a.state, ni (0 : Int), ni (2 : Int)] (AV.bool true))
    (h4 : FnW Try.prog (28 : FuncId) [AV.int IntKind.i64 h.state, AV.int IntKind.i64 (0 : Int), AV.int IntKind.i64 (2 : Int)] [ni h.state, ni (0 : Int), ni (2 : Int)] (AV.bool true))
    (h5 : FnW Try.prog (28 : FuncId) [AV.int IntKind.i64 h.hold, AV.int IntKind.i64 (1 : Int), AV.int IntKind.i64 (65535 : Int)] [ni h.hold, ni (1 : Int), ni (65535 : Int)] (AV.bool false)) :
    WayR Try.prog T14 153 sg14x15x50 [(17, .c [ni l.level, ni 1, ni 3] (.bool true)), (22, .c [ni h.level, ni 1, ni 3] (.bool true)), (28, .c [ni a.state, ni 0, ni 2] (.bool true)), (34, .c [ni h.state, ni 0, ni 2] (.bool true)), (40, .c [ni h.hold, ni 1, ni 65535] (.bool false))] (q14 l a h now []) .normal (q14 l a h now [(50, .bool true)]) :=
  runs_of_pr hfol (show prR Try.prog T14 153 sg14x15x50 [(17, .c [ni l.level, ni 1, ni 3] (.bool true)), (22, .c [ni h.level, ni 1, ni 3] (.bool true)), (28, .c [ni a.state, ni 0, ni 2] (.bool true)), (34, .c [ni h.state, ni 0, ni 2] (.bool true)), (40, .c [ni h.hold, ni 1, ni 65535] (.bool false))] (q14 l a h now []) .normal (q14 l a h now [(50, .bool true)]) = some _ by kernel_rfl) (AllP.c h1 (AllP.c (show freshA (AV.bool true) = true by kernel_rfl) (AllP.c h2 (AllP.c (show freshA (AV.bool true) = true by kernel_rfl) (AllP.c h3 (AllP.c (show freshA (AV.bool true) = true by kernel_rfl) (AllP.c h4 (AllP.c (show freshA (AV.bool true) = true by kernel_rfl) (AllP.c h5 (AllP.c (show freshA (AV.bool false) = true by kernel_rfl) (AllP.c (LeR.refl (x := AV.int IntKind.i64 now)) (AllP.c (LeR.refl (x := AV.box (locC l))) (AllP.c (LeR.refl (x := AV.box (adjC a))) (AllP.c (LeR.refl (x := AV.box (helC h))) (AllP.c (LeR.refl (x := AV.box (adjC ad0))) (AllP.c (LeR.refl (x := AV.bool true)) (AllP.c (LeR.refl (x := AV.mem [])) AllP.n)))))))))))))))))
theorem Dc_bad6 (l : Loc) (a : Adj) (h : Hel) (now : Int)
    (h1 : FnW Try.prog (28 : FuncId) [AV.int IntKind.i64 l.level, AV.int IntKind.i64 (1 : Int), AV.int IntKind.i64 (3 : Int)] [ni l.level, ni (1 : Int), ni (3 : Int)] (AV.bool true))
    (h2 : FnW Try.prog (28 : FuncId) [AV.int IntKind.i64 h.level, AV.int IntKind.i64 (1 : Int), AV.int IntKind.i64 (3 : Int)] [ni h.level, ni (1 : Int), ni (3 : Int)] (AV.bool true))
    (h3 : FnW Try.prog (28 : FuncId) [AV.int IntKind.i64 a.state, AV.int IntKind.i64 (0 : Int), AV.int IntKind.i64 (2 : Int)] [ni a.state, ni (0 : Int), ni (2 : Int)] (AV.bool true))
    (h4 : FnW Try.prog (28 : FuncId) [AV.int IntKind.i64 h.state, AV.int IntKind.i64 (0 : Int), AV.int IntKind.i64 (2 : Int)] [ni h.state, ni (0 : Int), ni (2 : Int)] (AV.bool true))
    (h5 : FnW Try.prog (28 : FuncId) [AV.int IntKind.i64 h.hold, AV.int IntKind.i64 (1 : Int), AV.int IntKind.i64 (65535 : Int)] [ni h.hold, ni (1 : Int), ni (65535 : Int)] (AV.bool true))
    (h6 : decide (now < (0 : Int)) = true) :
    WayR Try.prog T14 153 sg14x15x50 [(17, .c [ni l.level, ni 1, ni 3] (.bool true)), (22, .c [ni h.level, ni 1, ni 3] (.bool true)), (28, .c [ni a.state, ni 0, ni 2] (.bool true)), (34, .c [ni h.state, ni 0, ni 2] (.bool true)), (40, .c [ni h.hold, ni 1, ni 65535] (.bool true)), (45, .b true)] (q14 l a h now []) .normal (q14 l a h now [(50, .bool true)]) :=
  runs_of_pr hfol (show prR Try.prog T14 153 sg14x15x50 [(17, .c [ni l.level, ni 1, ni 3] (.bool true)), (22, .c [ni h.level, ni 1, ni 3] (.bool true)), (28, .c [ni a.state, ni 0, ni 2] (.bool true)), (34, .c [ni h.state, ni 0, ni 2] (.bool true)), (40, .c [ni h.hold, ni 1, ni 65535] (.bool true)), (45, .b true)] (q14 l a h now []) .normal (q14 l a h now [(50, .bool true)]) = some _ by kernel_rfl) (AllP.c h1 (AllP.c (show freshA (AV.bool true) = true by kernel_rfl) (AllP.c h2 (AllP.c (show freshA (AV.bool true) = true by kernel_rfl) (AllP.c h3 (AllP.c (show freshA (AV.bool true) = true by kernel_rfl) (AllP.c h4 (AllP.c (show freshA (AV.bool true) = true by kernel_rfl) (AllP.c h5 (AllP.c (show freshA (AV.bool true) = true by kernel_rfl) (AllP.c h6 (AllP.c (LeR.refl (x := AV.int IntKind.i64 now)) (AllP.c (LeR.refl (x := AV.box (locC l))) (AllP.c (LeR.refl (x := AV.box (adjC a))) (AllP.c (LeR.refl (x := AV.box (helC h))) (AllP.c (LeR.refl (x := AV.box (adjC ad0))) (AllP.c (LeR.refl (x := AV.bool true)) (AllP.c (LeR.refl (x := AV.mem [])) AllP.n))))))))))))))))))
theorem Dc_bad7 (l : Loc) (a : Adj) (h : Hel) (now : Int)
    (h1 : FnW Try.prog (28 : FuncId) [AV.int IntKind.i64 l.level, AV.int IntKind.i64 (1 : Int), AV.int IntKind.i64 (3 : Int)] [ni l.level, ni (1 : Int), ni (3 : Int)] (AV.bool true))
    (h2 : FnW Try.prog (28 : FuncId) [AV.int IntKind.i64 h.level, AV.int IntKind.i64 (1 : Int), AV.int IntKind.i64 (3 : Int)] [ni h.level, ni (1 : Int), ni (3 : Int)] (AV.bool true))
    (h3 : FnW Try.prog (28 : FuncId) [AV.int IntKind.i64 a.state, AV.int IntKind.i64 (0 : Int), AV.int IntKind.i64 (2 : Int)] [ni a.state, ni (0 : Int), ni (2 : Int)] (AV.bool true))
    (h4 : FnW Try.prog (28 : FuncId) [AV.int IntKind.i64 h.state, AV.int IntKind.i64 (0 : Int), AV.int IntKind.i64 (2 : Int)] [ni h.state, ni (0 : Int), ni (2 : Int)] (AV.bool true))
    (h5 : FnW Try.prog (28 : FuncId) [AV.int IntKind.i64 h.hold, AV.int IntKind.i64 (1 : Int), AV.int IntKind.i64 (65535 : Int)] [ni h.hold, ni (1 : Int), ni (65535 : Int)] (AV.bool true))
    (h6 : decide (now < (0 : Int)) = false)
    (h7 : decide (now > (4611686018427387904 : Int)) = true) :
    WayR Try.prog T14 153 sg14x15x50 [(17, .c [ni l.level, ni 1, ni 3] (.bool true)), (22, .c [ni h.level, ni 1, ni 3] (.bool true)), (28, .c [ni a.state, ni 0, ni 2] (.bool true)), (34, .c [ni h.state, ni 0, ni 2] (.bool true)), (40, .c [ni h.hold, ni 1, ni 65535] (.bool true)), (45, .b false), (49, .b true)] (q14 l a h now []) .normal (q14 l a h now [(50, .bool true)]) :=
  runs_of_pr hfol (show prR Try.prog T14 153 sg14x15x50 [(17, .c [ni l.level, ni 1, ni 3] (.bool true)), (22, .c [ni h.level, ni 1, ni 3] (.bool true)), (28, .c [ni a.state, ni 0, ni 2] (.bool true)), (34, .c [ni h.state, ni 0, ni 2] (.bool true)), (40, .c [ni h.hold, ni 1, ni 65535] (.bool true)), (45, .b false), (49, .b true)] (q14 l a h now []) .normal (q14 l a h now [(50, .bool true)]) = some _ by kernel_rfl) (AllP.c h1 (AllP.c (show freshA (AV.bool true) = true by kernel_rfl) (AllP.c h2 (AllP.c (show freshA (AV.bool true) = true by kernel_rfl) (AllP.c h3 (AllP.c (show freshA (AV.bool true) = true by kernel_rfl) (AllP.c h4 (AllP.c (show freshA (AV.bool true) = true by kernel_rfl) (AllP.c h5 (AllP.c (show freshA (AV.bool true) = true by kernel_rfl) (AllP.c h6 (AllP.c h7 (AllP.c (LeR.refl (x := AV.int IntKind.i64 now)) (AllP.c (LeR.refl (x := AV.box (locC l))) (AllP.c (LeR.refl (x := AV.box (adjC a))) (AllP.c (LeR.refl (x := AV.box (helC h))) (AllP.c (LeR.refl (x := AV.box (adjC ad0))) (AllP.c (LeR.refl (x := AV.bool true)) (AllP.c (LeR.refl (x := AV.mem [])) AllP.n)))))))))))))))))))
theorem Dc_fit (l : Loc) (a : Adj) (h : Hel) (now : Int)
    (h1 : FnW Try.prog (28 : FuncId) [AV.int IntKind.i64 l.level, AV.int IntKind.i64 (1 : Int), AV.int IntKind.i64 (3 : Int)] [ni l.level, ni (1 : Int), ni (3 : Int)] (AV.bool true))
    (h2 : FnW Try.prog (28 : FuncId) [AV.int IntKind.i64 h.level, AV.int IntKind.i64 (1 : Int), AV.int IntKind.i64 (3 : Int)] [ni h.level, ni (1 : Int), ni (3 : Int)] (AV.bool true))
    (h3 : FnW Try.prog (28 : FuncId) [AV.int IntKind.i64 a.state, AV.int IntKind.i64 (0 : Int), AV.int IntKind.i64 (2 : Int)] [ni a.state, ni (0 : Int), ni (2 : Int)] (AV.bool true))
    (h4 : FnW Try.prog (28 : FuncId) [AV.int IntKind.i64 h.state, AV.int IntKind.i64 (0 : Int), AV.int IntKind.i64 (2 : Int)] [ni h.state, ni (0 : Int), ni (2 : Int)] (AV.bool true))
    (h5 : FnW Try.prog (28 : FuncId) [AV.int IntKind.i64 h.hold, AV.int IntKind.i64 (1 : Int), AV.int IntKind.i64 (65535 : Int)] [ni h.hold, ni (1 : Int), ni (65535 : Int)] (AV.bool true))
    (h6 : decide (now < (0 : Int)) = false)
    (h7 : decide (now > (4611686018427387904 : Int)) = false) :
    WayR Try.prog T14 153 sg14x15x50 [(17, .c [ni l.level, ni 1, ni 3] (.bool true)), (22, .c [ni h.level, ni 1, ni 3] (.bool true)), (28, .c [ni a.state, ni 0, ni 2] (.bool true)), (34, .c [ni h.state, ni 0, ni 2] (.bool true)), (40, .c [ni h.hold, ni 1, ni 65535] (.bool true)), (45, .b false), (49, .b false)] (q14 l a h now []) .normal (q14 l a h now [(50, .bool false)]) :=
  runs_of_pr hfol (show prR Try.prog T14 153 sg14x15x50 [(17, .c [ni l.level, ni 1, ni 3] (.bool true)), (22, .c [ni h.level, ni 1, ni 3] (.bool true)), (28, .c [ni a.state, ni 0, ni 2] (.bool true)), (34, .c [ni h.state, ni 0, ni 2] (.bool true)), (40, .c [ni h.hold, ni 1, ni 65535] (.bool true)), (45, .b false), (49, .b false)] (q14 l a h now []) .normal (q14 l a h now [(50, .bool false)]) = some _ by kernel_rfl) (AllP.c h1 (AllP.c (show freshA (AV.bool true) = true by kernel_rfl) (AllP.c h2 (AllP.c (show freshA (AV.bool true) = true by kernel_rfl) (AllP.c h3 (AllP.c (show freshA (AV.bool true) = true by kernel_rfl) (AllP.c h4 (AllP.c (show freshA (AV.bool true) = true by kernel_rfl) (AllP.c h5 (AllP.c (show freshA (AV.bool true) = true by kernel_rfl) (AllP.c h6 (AllP.c h7 (AllP.c (LeR.refl (x := AV.int IntKind.i64 now)) (AllP.c (LeR.refl (x := AV.box (locC l))) (AllP.c (LeR.refl (x := AV.box (adjC a))) (AllP.c (LeR.refl (x := AV.box (helC h))) (AllP.c (LeR.refl (x := AV.box (adjC ad0))) (AllP.c (LeR.refl (x := AV.bool false)) (AllP.c (LeR.refl (x := AV.mem [])) AllP.n)))))))))))))))))))
theorem Dc_long1 (l : Loc) (a : Adj) (h : Hel) (now : Int)
    (h1 : decide ((↑(vsS l.areas).length : Int) > (3 : Int)) = true) :
    WayR Try.prog T14 153 sg14x52x61 [(55, .b true)] (q14 l a h now []) .normal (q14 l a h now [(61, .bool true)]) :=
  runs_of_pr hfol (show prR Try.prog T14 153 sg14x52x61 [(55, .b true)] (q14 l a h now []) .normal (q14 l a h now [(61, .bool true)]) = some _ by kernel_rfl) (AllP.c h1 (AllP.c (LeR.refl (x := AV.int IntKind.i64 now)) (AllP.c (LeR.refl (x := AV.box (locC l))) (AllP.c (LeR.refl (x := AV.box (adjC a))) (AllP.c (LeR.refl (x := AV.box (helC h))) (AllP.c (LeR.refl (x := AV.box (adjC ad0))) (AllP.c (LeR.refl (x := AV.bool true)) (AllP.c (LeR.refl (x := AV.mem [])) AllP.n))))))))
theorem Dc_long2 (l : Loc) (a : Adj) (h : Hel) (now : Int) (r : Bool)
    (h1 : decide ((↑(vsS l.areas).length : Int) > (3 : Int)) = false)
    (h2 : decide ((↑(vsS h.areas).length : Int) > (3 : Int)) = r) :
    WayR Try.prog T14 153 sg14x52x61 [(55, .b false), (60, .b r)] (q14 l a h now []) .normal (q14 l a h now [(61, .bool r)]) :=
  runs_of_pr hfol (show prR Try.prog T14 153 sg14x52x61 [(55, .b false), (60, .b r)] (q14 l a h now []) .normal (q14 l a h now [(61, .bool r)]) = some _ by kernel_rfl) (AllP.c h1 (AllP.c h2 (AllP.c (LeR.refl (x := AV.int IntKind.i64 now)) (AllP.c (LeR.refl (x := AV.box (locC l))) (AllP.c (LeR.refl (x := AV.box (adjC a))) (AllP.c (LeR.refl (x := AV.box (helC h))) (AllP.c (LeR.refl (x := AV.box (adjC ad0))) (AllP.c (LeR.refl (x := AV.bool r)) (AllP.c (LeR.refl (x := AV.mem [])) AllP.n)))))))))
theorem Dc_nm0 (l : Loc) (a : Adj) (h : Hel) (now : Int) (c : Int)
    (h1 : h.named = false) :
    WayR Try.prog T14 153 sg14x82x98 [(83, .v (.bool h.named)), (83, .b false)] (q14 l a h now [(10, ni c)]) .normal (q14 l a h now [(10, ni c), (98, .bool false)]) :=
  runs_of_pr hfol (show prR Try.prog T14 153 sg14x82x98 [(83, .v (.bool h.named)), (83, .b false)] (q14 l a h now [(10, ni c)]) .normal (q14 l a h now [(10, ni c), (98, .bool false)]) = some _ by kernel_rfl) (AllP.c (show (helC h)[(11 : Nat)]? = some (AV.bool h.named) by kernel_rfl) (AllP.c h1 (AllP.c (LeR.refl (x := AV.int IntKind.i64 now)) (AllP.c (LeR.refl (x := AV.box (locC l))) (AllP.c (LeR.refl (x := AV.box (adjC a))) (AllP.c (LeR.refl (x := AV.box (helC h))) (AllP.c (LeR.refl (x := AV.box (adjC ad0))) (AllP.c (LeR.refl (x := AV.int IntKind.i64 c)) (AllP.c (LeR.refl (x := AV.bool false)) (AllP.c (LeR.refl (x := AV.mem [])) AllP.n))))))))))
theorem Dc_nm1 (l : Loc) (a : Adj) (h : Hel) (now : Int) (c : Int)
    (h1 : h.named = true)
    (h2 : (if false = true then !((↑h.their.a.toNat : Int) == (↑l.sys.a.toNat : Int) && ((↑h.their.b.toNat : Int) == (↑l.sys.b.toNat : Int) && ((↑h.their.c.toNat : Int) == (↑l.sys.c.toNat : Int) && ((↑h.their.d.toNat : Int) == (↑l.sys.d.toNat : Int) && ((↑h.their.e.toNat : Int) == (↑l.sys.e.toNat : Int) && ((↑h.their.f.toNat : Int) == (↑l.sys.f.toNat : Int) && true)))))) else (↑h.their.a.toNat : Int) == (↑l.sys.a.toNat : Int) && ((↑h.their.b.toNat : Int) == (↑l.sys.b.toNat : Int) && ((↑h.their.c.toNat : Int) == (↑l.sys.c.toNat : Int) && ((↑h.their.d.toNat : Int) == (↑l.sys.d.toNat : Int) && ((↑h.their.e.toNat : Int) == (↑l.sys.e.toNat : Int) && ((↑h.their.f.toNat : Int) == (↑l.sys.f.toNat : Int) && true)))))) = false) :
    WayR Try.prog T14 153 sg14x82x98 [(83, .v (.bool h.named)), (83, .b true), (89, .b false)] (q14 l a h now [(10, ni c)]) .normal (q14 l a h now [(10, ni c), (98, .bool true)]) :=
  runs_of_pr hfol (show prR Try.prog T14 153 sg14x82x98 [(83, .v (.bool h.named)), (83, .b true), (89, .b false)] (q14 l a h now [(10, ni c)]) .normal (q14 l a h now [(10, ni c), (98, .bool true)]) = some _ by kernel_rfl) (AllP.c (show (helC h)[(11 : Nat)]? = some (AV.bool h.named) by kernel_rfl) (AllP.c h1 (AllP.c h2 (AllP.c (LeR.refl (x := AV.int IntKind.i64 now)) (AllP.c (LeR.refl (x := AV.box (locC l))) (AllP.c (LeR.refl (x := AV.box (adjC a))) (AllP.c (LeR.refl (x := AV.box (helC h))) (AllP.c (LeR.refl (x := AV.box (adjC ad0))) (AllP.c (LeR.refl (x := AV.int IntKind.i64 c)) (AllP.c (LeR.refl (x := AV.bool true)) (AllP.c (LeR.refl (x := AV.mem [])) AllP.n)))))))))))
theorem Dc_nm2 (l : Loc) (a : Adj) (h : Hel) (now : Int) (c : Int) (r : Bool)
    (h1 : h.named = true)
    (h2 : (if false = true then !((↑h.their.a.toNat : Int) == (↑l.sys.a.toNat : Int) && ((↑h.their.b.toNat : Int) == (↑l.sys.b.toNat : Int) && ((↑h.their.c.toNat : Int) == (↑l.sys.c.toNat : Int) && ((↑h.their.d.toNat : Int) == (↑l.sys.d.toNat : Int) && ((↑h.their.e.toNat : Int) == (↑l.sys.e.toNat : Int) && ((↑h.their.f.toNat : Int) == (↑l.sys.f.toNat : Int) && true)))))) else (↑h.their.a.toNat : Int) == (↑l.sys.a.toNat : Int) && ((↑h.their.b.toNat : Int) == (↑l.sys.b.toNat : Int) && ((↑h.their.c.toNat : Int) == (↑l.sys.c.toNat : Int) && ((↑h.their.d.toNat : Int) == (↑l.sys.d.toNat : Int) && ((↑h.their.e.toNat : Int) == (↑l.sys.e.toNat : Int) && ((↑h.their.f.toNat : Int) == (↑l.sys.f.toNat : Int) && true)))))) = true)
    (h3 : ((↑h.there.toNat : Int) == (↑l.num.toNat : Int)) = r) :
    WayR Try.prog T14 153 sg14x82x98 [(83, .v (.bool h.named)), (83, .b true), (89, .b true), (95, .b r)] (q14 l a h now [(10, ni c)]) .normal (q14 l a h now [(10, ni c), (98, .bool (!r))]) :=
  runs_of_pr hfol (show prR Try.prog T14 153 sg14x82x98 [(83, .v (.bool h.named)), (83, .b true), (89, .b true), (95, .b r)] (q14 l a h now [(10, ni c)]) .normal (q14 l a h now [(10, ni c), (98, .bool (!r))]) = some _ by kernel_rfl) (AllP.c (show (helC h)[(11 : Nat)]? = some (AV.bool h.named) by kernel_rfl) (AllP.c h1 (AllP.c h2 (AllP.c h3 (AllP.c (LeR.refl (x := AV.int IntKind.i64 now)) (AllP.c (LeR.refl (x := AV.box (locC l))) (AllP.c (LeR.refl (x := AV.box (adjC a))) (AllP.c (LeR.refl (x := AV.box (helC h))) (AllP.c (LeR.refl (x := AV.box (adjC ad0))) (AllP.c (LeR.refl (x := AV.int IntKind.i64 c)) (AllP.c (LeR.refl (x := AV.bool !r)) (AllP.c (LeR.refl (x := AV.mem [])) AllP.n))))))))))))
theorem Dc_was2 (l : Loc) (a : Adj) (h : Hel) (now : Int) (c : Int)
    (h1 : (a.state != (2 : Int)) = false) :
    WayR Try.prog T14 153 sg14x102x11 [(103, .b false)] (q14 l a h now [(10, ni c), (11, ni a.state)]) .normal (q14 l a h now [(10, ni c), (11, ni a.state)]) :=
  runs_of_pr hfol (show prR Try.prog T14 153 sg14x102x11 [(103, .b false)] (q14 l a h now [(10, ni c), (11, ni a.state)]) .normal (q14 l a h now [(10, ni c), (11, ni a.state)]) = some _ by kernel_rfl) (AllP.c h1 (AllP.c (LeR.refl (x := AV.int IntKind.i64 now)) (AllP.c (LeR.refl (x := AV.box (locC l))) (AllP.c (LeR.refl (x := AV.box (adjC a))) (AllP.c (LeR.refl (x := AV.box (helC h))) (AllP.c (LeR.refl (x := AV.box (adjC ad0))) (AllP.c (LeR.refl (x := AV.int IntKind.i64 c)) (AllP.c (LeR.refl (x := AV.int IntKind.i64 a.state)) (AllP.c (LeR.refl (x := AV.mem [])) AllP.n)))))))))
theorem Dc_wasP (l : Loc) (a : Adj) (h : Hel) (now : Int) (c : Int)
    (h1 : (a.state != (2 : Int)) = true)
    (h2 : (if false = true then !((↑a.peer.a.toNat : Int) == (↑h.sys.a.toNat : Int) && ((↑a.peer.b.toNat : Int) == (↑h.sys.b.toNat : Int) && ((↑a.peer.c.toNat : Int) == (↑h.sys.c.toNat : Int) && ((↑a.peer.d.toNat : Int) == (↑h.sys.d.toNat : Int) && ((↑a.peer.e.toNat : Int) == (↑h.sys.e.toNat : Int) && ((↑a.peer.f.toNat : Int) == (↑h.sys.f.toNat : Int) && true)))))) else (↑a.peer.a.toNat : Int) == (↑h.sys.a.toNat : Int) && ((↑a.peer.b.toNat : Int) == (↑h.sys.b.toNat : Int) && ((↑a.peer.c.toNat : Int) == (↑h.sys.c.toNat : Int) && ((↑a.peer.d.toNat : Int) == (↑h.sys.d.toNat : Int) && ((↑a.peer.e.toNat : Int) == (↑h.sys.e.toNat : Int) && ((↑a.peer.f.toNat : Int) == (↑h.sys.f.toNat : Int) && true)))))) = false) :
    WayR Try.prog T14 153 sg14x102x11 [(103, .b true), (109, .b false)] (q14 l a h now [(10, ni c), (11, ni a.state)]) .normal (q14 l a h now [(10, ni c), (11, ni 2)]) :=
  runs_of_pr hfol (show prR Try.prog T14 153 sg14x102x11 [(103, .b true), (109, .b false)] (q14 l a h now [(10, ni c), (11, ni a.state)]) .normal (q14 l a h now [(10, ni c), (11, ni 2)]) = some _ by kernel_rfl) (AllP.c h1 (AllP.c h2 (AllP.c (LeR.refl (x := AV.int IntKind.i64 now)) (AllP.c (LeR.refl (x := AV.box (locC l))) (AllP.c (LeR.refl (x := AV.box (adjC a))) (AllP.c (LeR.refl (x := AV.box (helC h))) (AllP.c (LeR.refl (x := AV.box (adjC ad0))) (AllP.c (LeR.refl (x := AV.int IntKind.i64 c)) (AllP.c (LeR.refl (x := AV.int IntKind.i64 (2 : Int))) (AllP.c (LeR.refl (x := AV.mem [])) AllP.n))))))))))
theorem Dc_wasN (l : Loc) (a : Adj) (h : Hel) (now : Int) (c : Int)
    (h1 : (a.state != (2 : Int)) = true)
    (h2 : (if false = true then !((↑a.peer.a.toNat : Int) == (↑h.sys.a.toNat : Int) && ((↑a.peer.b.toNat : Int) == (↑h.sys.b.toNat : Int) && ((↑a.peer.c.toNat : Int) == (↑h.sys.c.toNat : Int) && ((↑a.peer.d.toNat : Int) == (↑h.sys.d.toNat : Int) && ((↑a.peer.e.toNat : Int) == (↑h.sys.e.toNat : Int) && ((↑a.peer.f.toNat : Int) == (↑h.sys.f.toNat : Int) && true)))))) else (↑a.peer.a.toNat : Int) == (↑h.sys.a.toNat : Int) && ((↑a.peer.b.toNat : Int) == (↑h.sys.b.toNat : Int) && ((↑a.peer.c.toNat : Int) == (↑h.sys.c.toNat : Int) && ((↑a.peer.d.toNat : Int) == (↑h.sys.d.toNat : Int) && ((↑a.peer.e.toNat : Int) == (↑h.sys.e.toNat : Int) && ((↑a.peer.f.toNat : Int) == (↑h.sys.f.toNat : Int) && true)))))) = true)
    (h3 : ((↑a.num.toNat : Int) == (↑h.num.toNat : Int)) = false) :
    WayR Try.prog T14 153 sg14x102x11 [(103, .b true), (109, .b true), (115, .b false)] (q14 l a h now [(10, ni c), (11, ni a.state)]) .normal (q14 l a h now [(10, ni c), (11, ni 2)]) :=
  runs_of_pr hfol (show prR Try.prog T14 153 sg14x102x11 [(103, .b true), (109, .b true), (115, .b false)] (q14 l a h now [(10, ni c), (11, ni a.state)]) .normal (q14 l a h now [(10, ni c), (11, ni 2)]) = some _ by kernel_rfl) (AllP.c h1 (AllP.c h2 (AllP.c h3 (AllP.c (LeR.refl (x := AV.int IntKind.i64 now)) (AllP.c (LeR.refl (x := AV.box (locC l))) (AllP.c (LeR.refl (x := AV.box (adjC a))) (AllP.c (LeR.refl (x := AV.box (helC h))) (AllP.c (LeR.refl (x := AV.box (adjC ad0))) (AllP.c (LeR.refl (x := AV.int IntKind.i64 c)) (AllP.c (LeR.refl (x := AV.int IntKind.i64 (2 : Int))) (AllP.c (LeR.refl (x := AV.mem [])) AllP.n)))))))))))
theorem Dc_wasL (l : Loc) (a : Adj) (h : Hel) (now : Int) (c : Int)
    (h1 : (a.state != (2 : Int)) = true)
    (h2 : (if false = true then !((↑a.peer.a.toNat : Int) == (↑h.sys.a.toNat : Int) && ((↑a.peer.b.toNat : Int) == (↑h.sys.b.toNat : Int) && ((↑a.peer.c.toNat : Int) == (↑h.sys.c.toNat : Int) && ((↑a.peer.d.toNat : Int) == (↑h.sys.d.toNat : Int) && ((↑a.peer.e.toNat : Int) == (↑h.sys.e.toNat : Int) && ((↑a.peer.f.toNat : Int) == (↑h.sys.f.toNat : Int) && true)))))) else (↑a.peer.a.toNat : Int) == (↑h.sys.a.toNat : Int) && ((↑a.peer.b.toNat : Int) == (↑h.sys.b.toNat : Int) && ((↑a.peer.c.toNat : Int) == (↑h.sys.c.toNat : Int) && ((↑a.peer.d.toNat : Int) == (↑h.sys.d.toNat : Int) && ((↑a.peer.e.toNat : Int) == (↑h.sys.e.toNat : Int) && ((↑a.peer.f.toNat : Int) == (↑h.sys.f.toNat : Int) && true)))))) = true)
    (h3 : ((↑a.num.toNat : Int) == (↑h.num.toNat : Int)) = true)
    (h4 : (a.level == c) = false) :
    WayR Try.prog T14 153 sg14x102x11 [(103, .b true), (109, .b true), (115, .b true), (121, .b false)] (q14 l a h now [(10, ni c), (11, ni a.state)]) .normal (q14 l a h now [(10, ni c), (11, ni 2)]) :=
  runs_of_pr hfol (show prR Try.prog T14 153 sg14x102x11 [(103, .b true), (109, .b true), (115, .b true), (121, .b false)] (q14 l a h now [(10, ni c), (11, ni a.state)]) .normal (q14 l a h now [(10, ni c), (11, ni 2)]) = some _ by kernel_rfl) (AllP.c h1 (AllP.c h2 (AllP.c h3 (AllP.c h4 (AllP.c (LeR.refl (x := AV.int IntKind.i64 now)) (AllP.c (LeR.refl (x := AV.box (locC l))) (AllP.c (LeR.refl (x := AV.box (adjC a))) (AllP.c (LeR.refl (x := AV.box (helC h))) (AllP.c (LeR.refl (x := AV.box (adjC ad0))) (AllP.c (LeR.refl (x := AV.int IntKind.i64 c)) (AllP.c (LeR.refl (x := AV.int IntKind.i64 (2 : Int))) (AllP.c (LeR.refl (x := AV.mem [])) AllP.n))))))))))))
theorem Dc_was0 (l : Loc) (a : Adj) (h : Hel) (now : Int) (c : Int)
    (h1 : (a.state != (2 : Int)) = true)
    (h2 : (if false = true then !((↑a.peer.a.toNat : Int) == (↑h.sys.a.toNat : Int) && ((↑a.peer.b.toNat : Int) == (↑h.sys.b.toNat : Int) && ((↑a.peer.c.toNat : Int) == (↑h.sys.c.toNat : Int) && ((↑a.peer.d.toNat : Int) == (↑h.sys.d.toNat : Int) && ((↑a.peer.e.toNat : Int) == (↑h.sys.e.toNat : Int) && ((↑a.peer.f.toNat : Int) == (↑h.sys.f.toNat : Int) && true)))))) else (↑a.peer.a.toNat : Int) == (↑h.sys.a.toNat : Int) && ((↑a.peer.b.toNat : Int) == (↑h.sys.b.toNat : Int) && ((↑a.peer.c.toNat : Int) == (↑h.sys.c.toNat : Int) && ((↑a.peer.d.toNat : Int) == (↑h.sys.d.toNat : Int) && ((↑a.peer.e.toNat : Int) == (↑h.sys.e.toNat : Int) && ((↑a.peer.f.toNat : Int) == (↑h.sys.f.toNat : Int) && true)))))) = true)
    (h3 : ((↑a.num.toNat : Int) == (↑h.num.toNat : Int)) = true)
    (h4 : (a.level == c) = true) :
    WayR Try.prog T14 153 sg14x102x11 [(103, .b true), (109, .b true), (115, .b true), (121, .b true)] (q14 l a h now [(10, ni c), (11, ni a.state)]) .normal (q14 l a h now [(10, ni c), (11, ni a.state)]) :=
  runs_of_pr hfol (show prR Try.prog T14 153 sg14x102x11 [(103, .b true), (109, .b true), (115, .b true), (121, .b true)] (q14 l a h now [(10, ni c), (11, ni a.state)]) .normal (q14 l a h now [(10, ni c), (11, ni a.state)]) = some _ by kernel_rfl) (AllP.c h1 (AllP.c h2 (AllP.c h3 (AllP.c h4 (AllP.c (LeR.refl (x := AV.int IntKind.i64 now)) (AllP.c (LeR.refl (x := AV.box (locC l))) (AllP.c (LeR.refl (x := AV.box (adjC a))) (AllP.c (LeR.refl (x := AV.box (helC h))) (AllP.c (LeR.refl (x := AV.box (adjC ad0))) (AllP.c (LeR.refl (x := AV.int IntKind.i64 c)) (AllP.c (LeR.refl (x := AV.int IntKind.i64 a.state)) (AllP.c (LeR.refl (x := AV.mem [])) AllP.n))))))))))))
theorem Dc_told1 (l : Loc) (a : Adj) (h : Hel) (now : Int) (c w t : Int)
    (h1 : (!h.named) = true) :
    WayR Try.prog T14 153 sg14x127x12 [(129, .b true)] (q14 l a h now [(10, ni c), (11, ni w), (12, ni t)]) .normal (q14 l a h now [(10, ni c), (11, ni w), (12, ni 2)]) :=
  runs_of_pr hfol (show prR Try.prog T14 153 sg14x127x12 [(129, .b true)] (q14 l a h now [(10, ni c), (11, ni w), (12, ni t)]) .normal (q14 l a h now [(10, ni c), (11, ni w), (12, ni 2)]) = some _ by kernel_rfl) (AllP.c h1 (AllP.c (LeR.refl (x := AV.int IntKind.i64 now)) (AllP.c (LeR.refl (x := AV.box (locC l))) (AllP.c (LeR.refl (x := AV.box (adjC a))) (AllP.c (LeR.refl (x := AV.box (helC h))) (AllP.c (LeR.refl (x := AV.box (adjC ad0))) (AllP.c (LeR.refl (x := AV.int IntKind.i64 c)) (AllP.c (LeR.refl (x := AV.int IntKind.i64 w)) (AllP.c (LeR.refl (x := AV.int IntKind.i64 (2 : Int))) (AllP.c (LeR.refl (x := AV.mem [])) AllP.n))))))))))
theorem Dc_told0 (l : Loc) (a : Adj) (h : Hel) (now : Int) (c w t : Int)
    (h1 : (!h.named) = false) :
    WayR Try.prog T14 153 sg14x127x12 [(129, .b false)] (q14 l a h now [(10, ni c), (11, ni w), (12, ni t)]) .normal (q14 l a h now [(10, ni c), (11, ni w), (12, ni t)]) :=
  runs_of_pr hfol (show prR Try.prog T14 153 sg14x127x12 [(129, .b false)] (q14 l a h now [(10, ni c), (11, ni w), (12, ni t)]) .normal (q14 l a h now [(10, ni c), (11, ni w), (12, ni t)]) = some _ by kernel_rfl) (AllP.c h1 (AllP.c (LeR.refl (x := AV.int IntKind.i64 now)) (AllP.c (LeR.refl (x := AV.box (locC l))) (AllP.c (LeR.refl (x := AV.box (adjC a))) (AllP.c (LeR.refl (x := AV.box (helC h))) (AllP.c (LeR.refl (x := AV.box (adjC ad0))) (AllP.c (LeR.refl (x := AV.int IntKind.i64 c)) (AllP.c (LeR.refl (x := AV.int IntKind.i64 w)) (AllP.c (LeR.refl (x := AV.int IntKind.i64 t)) (AllP.c (LeR.refl (x := AV.mem [])) AllP.n))))))))))
theorem Doc_bad (l : Loc) (a : Adj) (h : Hel) (now : Int)
    (h1 : Runs Try.prog T14 (153 : Nat) sg14x15x50 (q14 l a h now []) fun x => x = (Ex.normal, q14 l a h now [((50 : Nat), AV.bool true)])) :
    WayF Try.prog 14 T14 fd14 [(150050, .sg (q14 l a h now []) .normal (q14 l a h now [(50, .bool true)]))] [locA l, adjA a, helA h, ni now] (.tup [adjA a, ni 1]) :=
  fn_of_pr hfol ok14 hT14 (show prF Try.prog 14 T14 fd14 [(150050, .sg (q14 l a h now []) .normal (q14 l a h now [(50, .bool true)]))] [locA l, adjA a, helA h, ni now] (.tup [adjA a, ni 1]) = some _ by kernel_rfl) (AllP.c (LeR.refl (x := AV.int IntKind.i64 now)) (AllP.c (LeR.refl (x := AV.box (locC l))) (AllP.c (LeR.refl (x := AV.box (adjC a))) (AllP.c (LeR.refl (x := AV.box (helC h))) (AllP.c (LeR.refl (x := AV.box (adjC ad0))) (AllP.c (LeR.refl (x := AV.mem [])) (AllP.c h1 (AllP.c (show AV.tup [AV.agg [AV.int IntKind.i64 a.state, AV.int IntKind.u8 (↑a.peer.a.toNat : Int), AV.int IntKind.u8 (↑a.peer.b.toNat : Int), AV.int IntKind.u8 (↑a.peer.c.toNat : Int), AV.int IntKind.u8 (↑a.peer.d.toNat : Int), AV.int IntKind.u8 (↑a.peer.e.toNat : Int), AV.int IntKind.u8 (↑a.peer.f.toNat : Int), AV.int IntKind.u8 (↑a.num.toNat : Int), AV.int IntKind.i64 a.level, AV.int IntKind.i64 a.til], AV.int IntKind.i64 (1 : Int)] = AV.tup [adjA a, ni (1 : Int)] by kernel_rfl) AllP.n))))))))
theorem Doc_long (l : Loc) (a : Adj) (h : Hel) (now : Int)
    (h1 : Runs Try.prog T14 (153 : Nat) sg14x15x50 (q14 l a h now []) fun x => x = (Ex.normal, q14 l a h now [((50 : Nat), AV.bool false)]))
    (h2 : Runs Try.prog T14 (153 : Nat) sg14x52x61 (q14 l a h now []) fun x => x = (Ex.normal, q14 l a h now [((61 : Nat), AV.bool true)])) :
    WayF Try.prog 14 T14 fd14 [(150050, .sg (q14 l a h now []) .normal (q14 l a h now [(50, .bool false)])), (520061, .sg (q14 l a h now []) .normal (q14 l a h now [(61, .bool true)]))] [locA l, adjA a, helA h, ni now] (.tup [adjA a, ni 2]) :=
  fn_of_pr hfol ok14 hT14 (show prF Try.prog 14 T14 fd14 [(150050, .sg (q14 l a h now []) .normal (q14 l a h now [(50, .bool false)])), (520061, .sg (q14 l a h now []) .normal (q14 l a h now [(61, .bool true)]))] [locA l, adjA a, helA h, ni now] (.tup [adjA a, ni 2]) = some _ by kernel_rfl) (AllP.c (LeR.refl (x := AV.int IntKind.i64 now)) (AllP.c (LeR.refl (x := AV.box (locC l))) (AllP.c (LeR.refl (x := AV.box (adjC a))) (AllP.c (LeR.refl (x := AV.box (helC h))) (AllP.c (LeR.refl (x := AV.box (adjC ad0))) (AllP.c (LeR.refl (x := AV.mem [])) (AllP.c h1 (AllP.c (LeR.refl (x := AV.int IntKind.i64 now)) (AllP.c (LeR.refl (x := AV.box (locC l))) (AllP.c (LeR.refl (x := AV.box (adjC a))) (AllP.c (LeR.refl (x := AV.box (helC h))) (AllP.c (LeR.refl (x := AV.box (adjC ad0))) (AllP.c (LeR.refl (x := AV.mem [])) (AllP.c h2 (AllP.c (show AV.tup [AV.agg [AV.int IntKind.i64 a.state, AV.int IntKind.u8 (↑a.peer.a.toNat : Int), AV.int IntKind.u8 (↑a.peer.b.toNat : Int), AV.int IntKind.u8 (↑a.peer.c.toNat : Int), AV.int IntKind.u8 (↑a.peer.d.toNat : Int), AV.int IntKind.u8 (↑a.peer.e.toNat : Int), AV.int IntKind.u8 (↑a.peer.f.toNat : Int), AV.int IntKind.u8 (↑a.num.toNat : Int), AV.int IntKind.i64 a.level, AV.int IntKind.i64 a.til], AV.int IntKind.i64 (2 : Int)] = AV.tup [adjA a, ni (2 : Int)] by kernel_rfl) AllP.n)))))))))))))))
theorem Doc_same (l : Loc) (a : Adj) (h : Hel) (now : Int)
    (h1 : Runs Try.prog T14 (153 : Nat) sg14x15x50 (q14 l a h now []) fun x => x = (Ex.normal, q14 l a h now [((50 : Nat), AV.bool false)]))
    (h2 : Runs Try.prog T14 (153 : Nat) sg14x52x61 (q14 l a h now []) fun x => x = (Ex.normal, q14 l a h now [((61 : Nat), AV.bool false)]))
    (h3 : (if false = true then !((↑l.sys.a.toNat : Int) == (↑h.sys.a.toNat : Int) && ((↑l.sys.b.toNat : Int) == (↑h.sys.b.toNat : Int) && ((↑l.sys.c.toNat : Int) == (↑h.sys.c.toNat : Int) && ((↑l.sys.d.toNat : Int) == (↑h.sys.d.toNat : Int) && ((↑l.sys.e.toNat : Int) == (↑h.sys.e.toNat : Int) && ((↑l.sys.f.toNat : Int) == (↑h.sys.f.toNat : Int) && true)))))) else (↑l.sys.a.toNat : Int) == (↑h.sys.a.toNat : Int) && ((↑l.sys.b.toNat : Int) == (↑h.sys.b.toNat : Int) && ((↑l.sys.c.toNat : Int) == (↑h.sys.c.toNat : Int) && ((↑l.sys.d.toNat : Int) == (↑h.sys.d.toNat : Int) && ((↑l.sys.e.toNat : Int) == (↑h.sys.e.toNat : Int) && ((↑l.sys.f.toNat : Int) == (↑h.sys.f.toNat : Int) && true)))))) = true) :
    WayF Try.prog 14 T14 fd14 [(150050, .sg (q14 l a h now []) .normal (q14 l a h now [(50, .bool false)])), (520061, .sg (q14 l a h now []) .normal (q14 l a h now [(61, .bool false)])), (67, .b true)] [locA l, adjA a, helA h, ni now] (.tup [adjA a, ni 7]) :=
  fn_of_pr hfol ok14 hT14 (show prF Try.prog 14 T14 fd14 [(150050, .sg (q14 l a h now []) .normal (q14 l a h now [(50, .bool false)])), (520061, .sg (q14 l a h now []) .normal (q14 l a h now [(61, .bool false)])), (67, .b true)] [locA l, adjA a, helA h, ni now] (.tup [adjA a, ni 7]) = some _ by kernel_rfl) (AllP.c (LeR.refl (x := AV.int IntKind.i64 now)) (AllP.c (LeR.refl (x := AV.box (locC l))) (AllP.c (LeR.refl (x := AV.box (adjC a))) (AllP.c (LeR.refl (x := AV.box (helC h))) (AllP.c (LeR.refl (x := AV.box (adjC ad0))) (AllP.c (LeR.refl (x := AV.mem [])) (AllP.c h1 (AllP.c (LeR.refl (x := AV.int IntKind.i64 now)) (AllP.c (LeR.refl (x := AV.box (locC l))) (AllP.c (LeR.refl (x := AV.box (adjC a))) (AllP.c (LeR.refl (x := AV.box (helC h))) (AllP.c (LeR.refl (x := AV.box (adjC ad0))) (AllP.c (LeR.refl (x := AV.mem [])) (AllP.c h2 (AllP.c h3 (AllP.c (show AV.tup [AV.agg [AV.int IntKind.i64 a.state, AV.int IntKind.u8 (↑a.peer.a.toNat : Int), AV.int IntKind.u8 (↑a.peer.b.toNat : Int), AV.int IntKind.u8 (↑a.peer.c.toNat : Int), AV.int IntKind.u8 (↑a.peer.d.toNat : Int), AV.int IntKind.u8 (↑a.peer.e.toNat : Int), AV.int IntKind.u8 (↑a.peer.f.toNat : Int), AV.int IntKind.u8 (↑a.num.toNat : Int), AV.int IntKind.i64 a.level, AV.int IntKind.i64 a.til], AV.int IntKind.i64 (7 : Int)] = AV.tup [adjA a, ni (7 : Int)] by kernel_rfl) AllP.n))))))))))))))))
theorem Doc_none (l : Loc) (a : Adj) (h : Hel) (now : Int) (s : Bool)
    (h1 : Runs Try.prog T14 (153 : Nat) sg14x15x50 (q14 l a h now []) fun x => x = (Ex.normal, q14 l a h now [((50 : Nat), AV.bool false)]))
    (h2 : Runs Try.prog T14 (153 : Nat) sg14x52x61 (q14 l a h now []) fun x => x = (Ex.normal, q14 l a h now [((61 : Nat), AV.bool false)]))
    (h3 : (if false = true then !((↑l.sys.a.toNat : Int) == (↑h.sys.a.toNat : Int) && ((↑l.sys.b.toNat : Int) == (↑h.sys.b.toNat : Int) && ((↑l.sys.c.toNat : Int) == (↑h.sys.c.toNat : Int) && ((↑l.sys.d.toNat : Int) == (↑h.sys.d.toNat : Int) && ((↑l.sys.e.toNat : Int) == (↑h.sys.e.toNat : Int) && ((↑l.sys.f.toNat : Int) == (↑h.sys.f.toNat : Int) && true)))))) else (↑l.sys.a.toNat : Int) == (↑h.sys.a.toNat : Int) && ((↑l.sys.b.toNat : Int) == (↑h.sys.b.toNat : Int) && ((↑l.sys.c.toNat : Int) == (↑h.sys.c.toNat : Int) && ((↑l.sys.d.toNat : Int) == (↑h.sys.d.toNat : Int) && ((↑l.sys.e.toNat : Int) == (↑h.sys.e.toNat : Int) && ((↑l.sys.f.toNat : Int) == (↑h.sys.f.toNat : Int) && true)))))) = false)
    (h4 : FnW Try.prog (30 : FuncId) [AV.sl false false (1 : Nat) (stale.sL (vsS l.areas)), AV.sl false false (1 : Nat) (stale.sL (vsS h.areas))] [slV l.areas, slV h.areas] (AV.bool s))
    (h5 : FnW Try.prog (29 : FuncId) [AV.int IntKind.i64 l.level, AV.int IntKind.i64 h.level, AV.bool s] [ni l.level, ni h.level, AV.bool s] (ni (0 : Int))) :
    WayF Try.prog 14 T14 fd14 [(150050, .sg (q14 l a h now []) .normal (q14 l a h now [(50, .bool false)])), (520061, .sg (q14 l a h now []) .normal (q14 l a h now [(61, .bool false)])), (67, .b false), (77, .c [slV l.areas, slV h.areas] (.bool s)), (78, .c [ni l.level, ni h.level, .bool s] (ni 0))] [locA l, adjA a, helA h, ni now] (.tup [adjA dn, ni 12]) :=
  fn_of_pr hfol ok14 hT14 (show prF Try.prog 14 T14 fd14 [(150050, .sg (q14 l a h now []) .normal (q14 l a h now [(50, .bool false)])), (520061, .sg (q14 l a h now []) .normal (q14 l a h now [(61, .bool false)])), (67, .b false), (77, .c [slV l.areas, slV h.areas] (.bool s)), (78, .c [ni l.level, ni h.level, .bool s] (ni 0))] [locA l, adjA a, helA h, ni now] (.tup [adjA dn, ni 12]) = some _ by kernel_rfl) (AllP.c (LeR.refl (x := AV.int IntKind.i64 now)) (AllP.c (LeR.refl (x := AV.box (locC l))) (AllP.c (LeR.refl (x := AV.box (adjC a))) (AllP.c (LeR.refl (x := AV.box (helC h))) (AllP.c (LeR.refl (x := AV.box (adjC ad0))) (AllP.c (LeR.refl (x := AV.mem [])) (AllP.c h1 (AllP.c (LeR.refl (x := AV.int IntKind.i64 now)) (AllP.c (LeR.refl (x := AV.box (locC l))) (AllP.c (LeR.refl (x := AV.box (adjC a))) (AllP.c (LeR.refl (x := AV.box (helC h))) (AllP.c (LeR.refl (x := AV.box (adjC ad0))) (AllP.c (LeR.refl (x := AV.mem [])) (AllP.c h2 (AllP.c h3 (AllP.c h4 (AllP.c (show freshA (AV.bool s) = true by kernel_rfl) (AllP.c h5 (AllP.c (show freshA (ni (0 : Int)) = true by kernel_rfl) (AllP.c (show AV.tup [AV.agg [AV.int IntKind.i64 (2 : Int), AV.int IntKind.u8 (0 : Int), AV.int IntKind.u8 (0 : Int), AV.int IntKind.u8 (0 : Int), AV.int IntKind.u8 (0 : Int), AV.int IntKind.u8 (0 : Int), AV.int IntKind.u8 (0 : Int), AV.int IntKind.u8 (0 : Int), AV.int IntKind.i64 (0 : Int), AV.int IntKind.i64 (0 : Int)], AV.int IntKind.i64 (12 : Int)] = AV.tup [adjA dn, ni (12 : Int)] by kernel_rfl) AllP.n))))))))))))))))))))
theorem Doc_other (l : Loc) (a : Adj) (h : Hel) (now : Int) (s : Bool) (c : Int)
    (h1 : Runs Try.prog T14 (153 : Nat) sg14x15x50 (q14 l a h now []) fun x => x = (Ex.normal, q14 l a h now [((50 : Nat), AV.bool false)]))
    (h2 : Runs Try.prog T14 (153 : Nat) sg14x52x61 (q14 l a h now []) fun x => x = (Ex.normal, q14 l a h now [((61 : Nat), AV.bool false)]))
    (h3 : (if false = true then !((↑l.sys.a.toNat : Int) == (↑h.sys.a.toNat : Int) && ((↑l.sys.b.toNat : Int) == (↑h.sys.b.toNat : Int) && ((↑l.sys.c.toNat : Int) == (↑h.sys.c.toNat : Int) && ((↑l.sys.d.toNat : Int) == (↑h.sys.d.toNat : Int) && ((↑l.sys.e.toNat : Int) == (↑h.sys.e.toNat : Int) && ((↑l.sys.f.toNat : Int) == (↑h.sys.f.toNat : Int) && true)))))) else (↑l.sys.a.toNat : Int) == (↑h.sys.a.toNat : Int) && ((↑l.sys.b.toNat : Int) == (↑h.sys.b.toNat : Int) && ((↑l.sys.c.toNat : Int) == (↑h.sys.c.toNat : Int) && ((↑l.sys.d.toNat : Int) == (↑h.sys.d.toNat : Int) && ((↑l.sys.e.toNat : Int) == (↑h.sys.e.toNat : Int) && ((↑l.sys.f.toNat : Int) == (↑h.sys.f.toNat : Int) && true)))))) = false)
    (h4 : FnW Try.prog (30 : FuncId) [AV.sl false false (1 : Nat) (stale.sL (vsS l.areas)), AV.sl false false (1 : Nat) (stale.sL (vsS h.areas))] [slV l.areas, slV h.areas] (AV.bool s))
    (h5 : FnW Try.prog (29 : FuncId) [AV.int IntKind.i64 l.level, AV.int IntKind.i64 h.level, AV.bool s] [ni l.level, ni h.level, AV.bool s] (ni c))
    (h6 : (c == (0 : Int)) = false)
    (h7 : Runs Try.prog T14 (153 : Nat) sg14x82x98 (q14 l a h now [((10 : Nat), ni c)]) fun x => x = (Ex.normal, q14 l a h now [((10 : Nat), ni c), ((98 : Nat), AV.bool true)])) :
    WayF Try.prog 14 T14 fd14 [(150050, .sg (q14 l a h now []) .normal (q14 l a h now [(50, .bool false)])), (520061, .sg (q14 l a h now []) .normal (q14 l a h now [(61, .bool false)])), (67, .b false), (77, .c [slV l.areas, slV h.areas] (.bool s)), (78, .c [ni l.level, ni h.level, .bool s] (ni c)), (80, .b false), (820098, .sg (q14 l a h now [(10, ni c)]) .normal (q14 l a h now [(10, ni c), (98, .bool true)]))] [locA l, adjA a, helA h, ni now] (.tup [adjA a, ni 0]) :=
  fn_of_pr hfol ok14 hT14 (show prF Try.prog 14 T14 fd14 [(150050, .sg (q14 l a h now []) .normal (q14 l a h now [(50, .bool false)])), (520061, .sg (q14 l a h now []) .normal (q14 l a h now [(61, .bool false)])), (67, .b false), (77, .c [slV l.areas, slV h.areas] (.bool s)), (78, .c [ni l.level, ni h.level, .bool s] (ni c)), (80, .b false), (820098, .sg (q14 l a h now [(10, ni c)]) .normal (q14 l a h now [(10, ni c), (98, .bool true)]))] [locA l, adjA a, helA h, ni now] (.tup [adjA a, ni 0]) = some _ by kernel_rfl) (AllP.c (LeR.refl (x := AV.int IntKind.i64 now)) (AllP.c (LeR.refl (x := AV.box (locC l))) (AllP.c (LeR.refl (x := AV.box (adjC a))) (AllP.c (LeR.refl (x := AV.box (helC h))) (AllP.c (LeR.refl (x := AV.box (adjC ad0))) (AllP.c (LeR.refl (x := AV.mem [])) (AllP.c h1 (AllP.c (LeR.refl (x := AV.int IntKind.i64 now)) (AllP.c (LeR.refl (x := AV.box (locC l))) (AllP.c (LeR.refl (x := AV.box (adjC a))) (AllP.c (LeR.refl (x := AV.box (helC h))) (AllP.c (LeR.refl (x := AV.box (adjC ad0))) (AllP.c (LeR.refl (x := AV.mem [])) (AllP.c h2 (AllP.c h3 (AllP.c h4 (AllP.c (show freshA (AV.bool s) = true by kernel_rfl) (AllP.c h5 (AllP.c (show freshA (ni c) = true by kernel_rfl) (AllP.c h6 (AllP.c (LeR.refl (x := AV.int IntKind.i64 now)) (AllP.c (LeR.refl (x := AV.box (locC l))) (AllP.c (LeR.refl (x := AV.box (adjC a))) (AllP.c (LeR.refl (x := AV.box (helC h))) (AllP.c (LeR.refl (x := AV.box (adjC ad0))) (AllP.c (LeR.refl (x := AV.int IntKind.i64 c)) (AllP.c (LeR.refl (x := AV.mem [])) (AllP.c h7 (AllP.c (show AV.tup [AV.agg [AV.int IntKind.i64 a.state, AV.int IntKind.u8 (↑a.peer.a.toNat : Int), AV.int IntKind.u8 (↑a.peer.b.toNat : Int), AV.int IntKind.u8 (↑a.peer.c.toNat : Int), AV.int IntKind.u8 (↑a.peer.d.toNat : Int), AV.int IntKind.u8 (↑a.peer.e.toNat : Int), AV.int IntKind.u8 (↑a.peer.f.toNat : Int), AV.int IntKind.u8 (↑a.num.toNat : Int), AV.int IntKind.i64 a.level, AV.int IntKind.i64 a.til], AV.int IntKind.i64 (0 : Int)] = AV.tup [adjA a, ni (0 : Int)] by kernel_rfl) AllP.n)))))))))))))))))))))))))))))
theorem Doc_down (l : Loc) (a : Adj) (h : Hel) (now : Int) (s : Bool) (c w t : Int)
    (h1 : Runs Try.prog T14 (153 : Nat) sg14x15x50 (q14 l a h now []) fun x => x = (Ex.normal, q14 l a h now [((50 : Nat), AV.bool false)]))
    (h2 : Runs Try.prog T14 (153 : Nat) sg14x52x61 (q14 l a h now []) fun x => x = (Ex.normal, q14 l a h now [((61 : Nat), AV.bool false)]))
    (h3 : (if false = true then !((↑l.sys.a.toNat : Int) == (↑h.sys.a.toNat : Int) && ((↑l.sys.b.toNat : Int) == (↑h.sys.b.toNat : Int) && ((↑l.sys.c.toNat : Int) == (↑h.sys.c.toNat : Int) && ((↑l.sys.d.toNat : Int) == (↑h.sys.d.toNat : Int) && ((↑l.sys.e.toNat : Int) == (↑h.sys.e.toNat : Int) && ((↑l.sys.f.toNat : Int) == (↑h.sys.f.toNat : Int) && true)))))) else (↑l.sys.a.toNat : Int) == (↑h.sys.a.toNat : Int) && ((↑l.sys.b.toNat : Int) == (↑h.sys.b.toNat : Int) && ((↑l.sys.c.toNat : Int) == (↑h.sys.c.toNat : Int) && ((↑l.sys.d.toNat : Int) == (↑h.sys.d.toNat : Int) && ((↑l.sys.e.toNat : Int) == (↑h.sys.e.toNat : Int) && ((↑l.sys.f.toNat : Int) == (↑h.sys.f.toNat : Int) && true)))))) = false)
    (h4 : FnW Try.prog (30 : FuncId) [AV.sl false false (1 : Nat) (stale.sL (vsS l.areas)), AV.sl false false (1 : Nat) (stale.sL (vsS h.areas))] [slV l.areas, slV h.areas] (AV.bool s))
    (h5 : FnW Try.prog (29 : FuncId) [AV.int IntKind.i64 l.level, AV.int IntKind.i64 h.level, AV.bool s] [ni l.level, ni h.level, AV.bool s] (ni c))
    (h6 : (c == (0 : Int)) = false)
    (h7 : Runs Try.prog T14 (153 : Nat) sg14x82x98 (q14 l a h now [((10 : Nat), ni c)]) fun x => x = (Ex.normal, q14 l a h now [((10 : Nat), ni c), ((98 : Nat), AV.bool false)]))
    (h8 : Runs Try.prog T14 (153 : Nat) sg14x102x11 (q14 l a h now [((10 : Nat), ni c), ((11 : Nat), ni a.state)]) fun x => x = (Ex.normal, q14 l a h now [((10 : Nat), ni c), ((11 : Nat), ni w)]))
    (h9 : Runs Try.prog T14 (153 : Nat) sg14x127x12 (q14 l a h now [((10 : Nat), ni c), ((11 : Nat), ni w), ((12 : Nat), ni h.state)]) fun x => x = (Ex.normal, q14 l a h now [((10 : Nat), ni c), ((11 : Nat), ni w), ((12 : Nat), ni t)]))
    (h10 : (0 : Int) ≤ w)
    (h11 : w < (↑(3 : Nat) : Int))
    (h12 : (0 : Int) ≤ t)
    (h13 : t < (↑(3 : Nat) : Int))
    (h14 : [AV.int IntKind.i64 (0 : Int), AV.int IntKind.i64 (0 : Int), AV.int IntKind.i64 (1 : Int), AV.int IntKind.i64 (0 : Int), AV.int IntKind.i64 (0 : Int), AV.int IntKind.i64 (1 : Int), AV.int IntKind.i64 (2 : Int), AV.int IntKind.i64 (0 : Int), AV.int IntKind.i64 (1 : Int)][(0 : Nat) + w.toNat * (3 : Nat) + t.toNat * (1 : Nat)]? = some (ni (2 : Int))) :
    WayF Try.prog 14 T14 fd14 [(150050, .sg (q14 l a h now []) .normal (q14 l a h now [(50, .bool false)])), (520061, .sg (q14 l a h now []) .normal (q14 l a h now [(61, .bool false)])), (67, .b false), (77, .c [slV l.areas, slV h.areas] (.bool s)), (78, .c [ni l.level, ni h.level, .bool s] (ni c)), (80, .b false), (820098, .sg (q14 l a h now [(10, ni c)]) .normal (q14 l a h now [(10, ni c), (98, .bool false)])), (1020011, .sg (q14 l a h now [(10, ni c), (11, ni a.state)]) .normal (q14 l a h now [(10, ni c), (11, ni w)])), (1270012, .sg (q14 l a h now [(10, ni c), (11, ni w), (12, ni h.state)]) .normal (q14 l a h now [(10, ni c), (11, ni w), (12, ni t)])), (136, .q), (137, .q), (138, .v (ni 2))] [locA l, adjA a, helA h, ni now] (.tup [adjA dn, ni 0]) :=
  fn_of_pr hfol ok14 hT14 (show prF Try.prog 14 T14 fd14 [(150050, .sg (q14 l a h now []) .normal (q14 l a h now [(50, .bool false)])), (520061, .sg (q14 l a h now []) .normal (q14 l a h now [(61, .bool false)])), (67, .b false), (77, .c [slV l.areas, slV h.areas] (.bool s)), (78, .c [ni l.level, ni h.level, .bool s] (ni c)), (80, .b false), (820098, .sg (q14 l a h now [(10, ni c)]) .normal (q14 l a h now [(10, ni c), (98, .bool false)])), (1020011, .sg (q14 l a h now [(10, ni c), (11, ni a.state)]) .normal (q14 l a h now [(10, ni c), (11, ni w)])), (1270012, .sg (q14 l a h now [(10, ni c), (11, ni w), (12, ni h.state)]) .normal (q14 l a h now [(10, ni c), (11, ni w), (12, ni t)])), (136, .q), (137, .q), (138, .v (ni 2))] [locA l, adjA a, helA h, ni now] (.tup [adjA dn, ni 0]) = some _ by kernel_rfl) (AllP.c (LeR.refl (x := AV.int IntKind.i64 now)) (AllP.c (LeR.refl (x := AV.box (locC l))) (AllP.c (LeR.refl (x := AV.box (adjC a))) (AllP.c (LeR.refl (x := AV.box (helC h))) (AllP.c (LeR.refl (x := AV.box (adjC ad0))) (AllP.c (LeR.refl (x := AV.mem [])) (AllP.c h1 (AllP.c (LeR.refl (x := AV.int IntKind.i64 now)) (AllP.c (LeR.refl (x := AV.box (locC l))) (AllP.c (LeR.refl (x := AV.box (adjC a))) (AllP.c (LeR.refl (x := AV.box (helC h))) (AllP.c (LeR.refl (x := AV.box (adjC ad0))) (AllP.c (LeR.refl (x := AV.mem [])) (AllP.c h2 (AllP.c h3 (AllP.c h4 (AllP.c (show freshA (AV.bool s) = true by kernel_rfl) (AllP.c h5 (AllP.c (show freshA (ni c) = true by kernel_rfl) (AllP.c h6 (AllP.c (LeR.refl (x := AV.int IntKind.i64 now)) (AllP.c (LeR.refl (x := AV.box (locC l))) (AllP.c (LeR.refl (x := AV.box (adjC a))) (AllP.c (LeR.refl (x := AV.box (helC h))) (AllP.c (LeR.refl (x := AV.box (adjC ad0))) (AllP.c (LeR.refl (x := AV.int IntKind.i64 c)) (AllP.c (LeR.refl (x := AV.mem [])) (AllP.c h7 (AllP.c (LeR.refl (x := AV.int IntKind.i64 now)) (AllP.c (LeR.refl (x := AV.box (locC l))) (AllP.c (LeR.refl (x := AV.box (adjC a))) (AllP.c (LeR.refl (x := AV.box (helC h))) (AllP.c (LeR.refl (x := AV.box (adjC ad0))) (AllP.c (LeR.refl (x := AV.int IntKind.i64 c)) (AllP.c (LeR.refl (x := AV.int IntKind.i64 a.state)) (AllP.c (LeR.refl (x := AV.mem [])) (AllP.c h8 (AllP.c (LeR.refl (x := AV.int IntKind.i64 now)) (AllP.c (LeR.refl (x := AV.box (locC l))) (AllP.c (LeR.refl (x := AV.box (adjC a))) (AllP.c (LeR.refl (x := AV.box (helC h))) (AllP.c (LeR.refl (x := AV.box (adjC ad0))) (AllP.c (LeR.refl (x := AV.int IntKind.i64 c)) (AllP.c (LeR.refl (x := AV.int IntKind.i64 w)) (AllP.c (LeR.refl (x := AV.int IntKind.i64 h.state)) (AllP.c (LeR.refl (x := AV.mem [])) (AllP.c h9 (AllP.c h10 (AllP.c h11 (AllP.c h12 (AllP.c h13 (AllP.c h14 (AllP.c (show AV.tup [AV.agg [AV.int IntKind.i64 (2 : Int), AV.int IntKind.u8 (0 : Int), AV.int IntKind.u8 (0 : Int), AV.int IntKind.u8 (0 : Int), AV.int IntKind.u8 (0 : Int), AV.int IntKind.u8 (0 : Int), AV.int IntKind.u8 (0 : Int), AV.int IntKind.u8 (0 : Int), AV.int IntKind.i64 (0 : Int), AV.int IntKind.i64 (0 : Int)], AV.int IntKind.i64 (0 : Int)] = AV.tup [adjA dn, ni (0 : Int)] by kernel_rfl) AllP.n)))))))))))))))))))))))))))))))))))))))))))))))))))))
theorem Doc_up (l : Loc) (a : Adj) (h : Hel) (now : Int) (s : Bool) (c w t x u : Int)
    (h1 : Runs Try.prog T14 (153 : Nat) sg14x15x50 (q14 l a h now []) fun x => x = (Ex.normal, q14 l a h now [((50 : Nat), AV.bool false)]))
    (h2 : Runs Try.prog T14 (153 : Nat) sg14x52x61 (q14 l a h now []) fun x => x = (Ex.normal, q14 l a h now [((61 : Nat), AV.bool false)]))
    (h3 : (if false = true then !((↑l.sys.a.toNat : Int) == (↑h.sys.a.toNat : Int) && ((↑l.sys.b.toNat : Int) == (↑h.sys.b.toNat : Int) && ((↑l.sys.c.toNat : Int) == (↑h.sys.c.toNat : Int) && ((↑l.sys.d.toNat : Int) == (↑h.sys.d.toNat : Int) && ((↑l.sys.e.toNat : Int) == (↑h.sys.e.toNat : Int) && ((↑l.sys.f.toNat : Int) == (↑h.sys.f.toNat : Int) && true)))))) else (↑l.sys.a.toNat : Int) == (↑h.sys.a.toNat : Int) && ((↑l.sys.b.toNat : Int) == (↑h.sys.b.toNat : Int) && ((↑l.sys.c.toNat : Int) == (↑h.sys.c.toNat : Int) && ((↑l.sys.d.toNat : Int) == (↑h.sys.d.toNat : Int) && ((↑l.sys.e.toNat : Int) == (↑h.sys.e.toNat : Int) && ((↑l.sys.f.toNat : Int) == (↑h.sys.f.toNat : Int) && true)))))) = false)
    (h4 : FnW Try.prog (30 : FuncId) [AV.sl false false (1 : Nat) (stale.sL (vsS l.areas)), AV.sl false false (1 : Nat) (stale.sL (vsS h.areas))] [slV l.areas, slV h.areas] (AV.bool s))
    (h5 : FnW Try.prog (29 : FuncId) [AV.int IntKind.i64 l.level, AV.int IntKind.i64 h.level, AV.bool s] [ni l.level, ni h.level, AV.bool s] (ni c))
    (h6 : (c == (0 : Int)) = false)
    (h7 : Runs Try.prog T14 (153 : Nat) sg14x82x98 (q14 l a h now [((10 : Nat), ni c)]) fun x => x = (Ex.normal, q14 l a h now [((10 : Nat), ni c), ((98 : Nat), AV.bool false)]))
    (h8 : Runs Try.prog T14 (153 : Nat) sg14x102x11 (q14 l a h now [((10 : Nat), ni c), ((11 : Nat), ni a.state)]) fun x => x = (Ex.normal, q14 l a h now [((10 : Nat), ni c), ((11 : Nat), ni w)]))
    (h9 : Runs Try.prog T14 (153 : Nat) sg14x127x12 (q14 l a h now [((10 : Nat), ni c), ((11 : Nat), ni w), ((12 : Nat), ni h.state)]) fun x => x = (Ex.normal, q14 l a h now [((10 : Nat), ni c), ((11 : Nat), ni w), ((12 : Nat), ni t)]))
    (h10 : (0 : Int) ≤ w)
    (h11 : w < (↑(3 : Nat) : Int))
    (h12 : (0 : Int) ≤ t)
    (h13 : t < (↑(3 : Nat) : Int))
    (h14 : [AV.int IntKind.i64 (0 : Int), AV.int IntKind.i64 (0 : Int), AV.int IntKind.i64 (1 : Int), AV.int IntKind.i64 (0 : Int), AV.int IntKind.i64 (0 : Int), AV.int IntKind.i64 (1 : Int), AV.int IntKind.i64 (2 : Int), AV.int IntKind.i64 (0 : Int), AV.int IntKind.i64 (1 : Int)][(0 : Nat) + w.toNat * (3 : Nat) + t.toNat * (1 : Nat)]? = some (ni x))
    (h15 : (x == (2 : Int)) = false)
    (h16 : IntKind.i64.wrap (now + h.hold) = u) :
    WayF Try.prog 14 T14 fd14 [(150050, .sg (q14 l a h now []) .normal (q14 l a h now [(50, .bool false)])), (520061, .sg (q14 l a h now []) .normal (q14 l a h now [(61, .bool false)])), (67, .b false), (77, .c [slV l.areas, slV h.areas] (.bool s)), (78, .c [ni l.level, ni h.level, .bool s] (ni c)), (80, .b false), (820098, .sg (q14 l a h now [(10, ni c)]) .normal (q14 l a h now [(10, ni c), (98, .bool false)])), (1020011, .sg (q14 l a h now [(10, ni c), (11, ni a.state)]) .normal (q14 l a h now [(10, ni c), (11, ni w)])), (1270012, .sg (q14 l a h now [(10, ni c), (11, ni w), (12, ni h.state)]) .normal (q14 l a h now [(10, ni c), (11, ni w), (12, ni t)])), (136, .q), (137, .q), (138, .v (ni x)), (140, .b false), (151, .i u)] [locA l, adjA a, helA h, ni now] (.tup [adjA ⟨x, h.sys, h.num, c, u⟩, ni 0]) :=
  fn_of_pr hfol ok14 hT14 (show prF Try.prog 14 T14 fd14 [(150050, .sg (q14 l a h now []) .normal (q14 l a h now [(50, .bool false)])), (520061, .sg (q14 l a h now []) .normal (q14 l a h now [(61, .bool false)])), (67, .b false), (77, .c [slV l.areas, slV h.areas] (.bool s)), (78, .c [ni l.level, ni h.level, .bool s] (ni c)), (80, .b false), (820098, .sg (q14 l a h now [(10, ni c)]) .normal (q14 l a h now [(10, ni c), (98, .bool false)])), (1020011, .sg (q14 l a h now [(10, ni c), (11, ni a.state)]) .normal (q14 l a h now [(10, ni c), (11, ni w)])), (1270012, .sg (q14 l a h now [(10, ni c), (11, ni w), (12, ni h.state)]) .normal (q14 l a h now [(10, ni c), (11, ni w), (12, ni t)])), (136, .q), (137, .q), (138, .v (ni x)), (140, .b false), (151, .i u)] [locA l, adjA a, helA h, ni now] (.tup [adjA ⟨x, h.sys, h.num, c, u⟩, ni 0]) = some _ by kernel_rfl) (AllP.c (LeR.refl (x := AV.int IntKind.i64 now)) (AllP.c (LeR.refl (x := AV.box (locC l))) (AllP.c (LeR.refl (x := AV.box (adjC a))) (AllP.c (LeR.refl (x := AV.box (helC h))) (AllP.c (LeR.refl (x := AV.box (adjC ad0))) (AllP.c (LeR.refl (x := AV.mem [])) (AllP.c h1 (AllP.c (LeR.refl (x := AV.int IntKind.i64 now)) (AllP.c (LeR.refl (x := AV.box (locC l))) (AllP.c (LeR.refl (x := AV.box (adjC a))) (AllP.c (LeR.refl (x := AV.box (helC h))) (AllP.c (LeR.refl (x := AV.box (adjC ad0))) (AllP.c (LeR.refl (x := AV.mem [])) (AllP.c h2 (AllP.c h3 (AllP.c h4 (AllP.c (show freshA (AV.bool s) = true by kernel_rfl) (AllP.c h5 (AllP.c (show freshA (ni c) = true by kernel_rfl) (AllP.c h6 (AllP.c (LeR.refl (x := AV.int IntKind.i64 now)) (AllP.c (LeR.refl (x := AV.box (locC l))) (AllP.c (LeR.refl (x := AV.box (adjC a))) (AllP.c (LeR.refl (x := AV.box (helC h))) (AllP.c (LeR.refl (x := AV.box (adjC ad0))) (AllP.c (LeR.refl (x := AV.int IntKind.i64 c)) (AllP.c (LeR.refl (x := AV.mem [])) (AllP.c h7 (AllP.c (LeR.refl (x := AV.int IntKind.i64 now)) (AllP.c (LeR.refl (x := AV.box (locC l))) (AllP.c (LeR.refl (x := AV.box (adjC a))) (AllP.c (LeR.refl (x := AV.box (helC h))) (AllP.c (LeR.refl (x := AV.box (adjC ad0))) (AllP.c (LeR.refl (x := AV.int IntKind.i64 c)) (AllP.c (LeR.refl (x := AV.int IntKind.i64 a.state)) (AllP.c (LeR.refl (x := AV.mem [])) (AllP.c h8 (AllP.c (LeR.refl (x := AV.int IntKind.i64 now)) (AllP.c (LeR.refl (x := AV.box (locC l))) (AllP.c (LeR.refl (x := AV.box (adjC a))) (AllP.c (LeR.refl (x := AV.box (helC h))) (AllP.c (LeR.refl (x := AV.box (adjC ad0))) (AllP.c (LeR.refl (x := AV.int IntKind.i64 c)) (AllP.c (LeR.refl (x := AV.int IntKind.i64 w)) (AllP.c (LeR.refl (x := AV.int IntKind.i64 h.state)) (AllP.c (LeR.refl (x := AV.mem [])) (AllP.c h9 (AllP.c h10 (AllP.c h11 (AllP.c h12 (AllP.c h13 (AllP.c h14 (AllP.c h15 (AllP.c h16 (AllP.c (show AV.tup [AV.agg [AV.int IntKind.i64 x, AV.int IntKind.u8 (↑h.sys.a.toNat : Int), AV.int IntKind.u8 (↑h.sys.b.toNat : Int), AV.int IntKind.u8 (↑h.sys.c.toNat : Int), AV.int IntKind.u8 (↑h.sys.d.toNat : Int), AV.int IntKind.u8 (↑h.sys.e.toNat : Int), AV.int IntKind.u8 (↑h.sys.f.toNat : Int), AV.int IntKind.u8 (↑h.num.toNat : Int), AV.int IntKind.i64 c, AV.int IntKind.i64 u], AV.int IntKind.i64 (0 : Int)] = AV.tup [adjA { state := x, peer := h.sys, num := h.num, level := c, til := u }, ni (0 : Int)] by kernel_rfl) AllP.n)))))))))))))))))))))))))))))))))))))))))))))))))))))))
theorem next_i (w : Int) (t : Int)
    (h1 : (t == (2 : Int)) = true) :
    WayF Try.prog 27 T27 fd27 [(7, .b true)] [ni w, ni t] (ni 1) :=
  fn_of_pr hfol ok27 hT27 (show prF Try.prog 27 T27 fd27 [(7, .b true)] [ni w, ni t] (ni 1) = some _ by kernel_rfl) (AllP.c h1 (AllP.c (show AV.int IntKind.i64 (1 : Int) = AV.int IntKind.i64 (1 : Int) by kernel_rfl) AllP.n))
theorem next_d (w : Int) (t : Int)
    (h1 : (t == (2 : Int)) = false)
    (h2 : (w == (2 : Int)) = true)
    (h3 : (t == (0 : Int)) = true) :
    WayF Try.prog 27 T27 fd27 [(7, .b false), (10, .b true), (13, .b true)] [ni w, ni t] (ni 2) :=
  fn_of_pr hfol ok27 hT27 (show prF Try.prog 27 T27 fd27 [(7, .b false), (10, .b true), (13, .b true)] [ni w, ni t] (ni 2) = some _ by kernel_rfl) (AllP.c h1 (AllP.c h2 (AllP.c h3 (AllP.c (show AV.int IntKind.i64 (2 : Int) = AV.int IntKind.i64 (2 : Int) by kernel_rfl) AllP.n))))
theorem next_u1 (w : Int) (t : Int)
    (h1 : (t == (2 : Int)) = false)
    (h2 : (w == (2 : Int)) = true)
    (h3 : (t == (0 : Int)) = false) :
    WayF Try.prog 27 T27 fd27 [(7, .b false), (10, .b true), (13, .b false)] [ni w, ni t] (ni 0) :=
  fn_of_pr hfol ok27 hT27 (show prF Try.prog 27 T27 fd27 [(7, .b false), (10, .b true), (13, .b false)] [ni w, ni t] (ni 0) = some _ by kernel_rfl) (AllP.c h1 (AllP.c h2 (AllP.c h3 (AllP.c (show AV.int IntKind.i64 (0 : Int) = AV.int IntKind.i64 (0 : Int) by kernel_rfl) AllP.n))))
theorem next_u2 (w : Int) (t : Int)
    (h1 : (t == (2 : Int)) = false)
    (h2 : (w == (2 : Int)) = false) :
    WayF Try.prog 27 T27 fd27 [(7, .b false), (10, .b false)] [ni w, ni t] (ni 0) :=
  fn_of_pr hfol ok27 hT27 (show prF Try.prog 27 T27 fd27 [(7, .b false), (10, .b false)] [ni w, ni t] (ni 0) = some _ by kernel_rfl) (AllP.c h1 (AllP.c h2 (AllP.c (show AV.int IntKind.i64 (0 : Int) = AV.int IntKind.i64 (0 : Int) by kernel_rfl) AllP.n)))
theorem down_way  :
    WayF Try.prog 26 T26 fd26 [] [] (adjA dn) :=
  fn_of_pr hfol ok26 hT26 (show prF Try.prog 26 T26 fd26 [] [] (adjA dn) = some _ by kernel_rfl) (AllP.c (show AV.agg [AV.int IntKind.i64 (2 : Int), AV.int IntKind.u8 (0 : Int), AV.int IntKind.u8 (0 : Int), AV.int IntKind.u8 (0 : Int), AV.int IntKind.u8 (0 : Int), AV.int IntKind.u8 (0 : Int), AV.int IntKind.u8 (0 : Int), AV.int IntKind.u8 (0 : Int), AV.int IntKind.i64 (0 : Int), AV.int IntKind.i64 (0 : Int)] = AV.agg (adjC dn) by kernel_rfl) AllP.n)
theorem awake_way 
    (h1 : FnW Try.prog (13 : FuncId) [AV.agg [AV.int IntKind.u8 (1 : Int), AV.int IntKind.u8 (0 : Int), AV.int IntKind.u8 (0 : Int), AV.int IntKind.u8 (0 : Int), AV.int IntKind.u8 (0 : Int), AV.int IntKind.u8 (0 : Int), AV.int IntKind.u8 (0 : Int), AV.int IntKind.i64 (2 : Int), AV.nils], AV.agg [AV.int IntKind.i64 (2 : Int), AV.int IntKind.u8 (0 : Int), AV.int IntKind.u8 (0 : Int), AV.int IntKind.u8 (0 : Int), AV.int IntKind.u8 (0 : Int), AV.int IntKind.u8 (0 : Int), AV.int IntKind.u8 (0 : Int), AV.int IntKind.u8 (0 : Int), AV.int IntKind.i64 (0 : Int), AV.int IntKind.i64 (0 : Int)], AV.agg [AV.int IntKind.u8 (2 : Int), AV.int IntKind.u8 (0 : Int), AV.int IntKind.u8 (0 : Int), AV.int IntKind.u8 (0 : Int), AV.int IntKind.u8 (0 : Int), AV.int IntKind.u8 (0 : Int), AV.int IntKind.u8 (0 : Int), AV.int IntKind.i64 (2 : Int), AV.int IntKind.i64 (10 : Int), AV.nils, AV.int IntKind.i64 (2 : Int), AV.bool false, AV.int IntKind.u8 (0 : Int), AV.int IntKind.u8 (0 : Int), AV.int IntKind.u8 (0 : Int), AV.int IntKind.u8 (0 : Int), AV.int IntKind.u8 (0 : Int), AV.int IntKind.u8 (0 : Int), AV.int IntKind.u8 (0 : Int)], AV.int IntKind.i64 (5 : Int)] [locA awL, adjA dn, helA awH, ni (5 : Int)] (AV.tup [adjA awA, ni (0 : Int)])) :
    WayF Try.prog 10 T10 fd10 [(11, .c [locA awL, adjA dn, helA awH, ni 5] (.tup [adjA awA, ni 0]))] [] (.bool true) :=
  fn_of_pr hfol ok10 hT10 (show prF Try.prog 10 T10 fd10 [(11, .c [locA awL, adjA dn, helA awH, ni 5] (.tup [adjA awA, ni 0]))] [] (.bool true) = some _ by kernel_rfl) (AllP.c h1 (AllP.c (show freshA (AV.tup [adjA awA, ni (0 : Int)]) = true by kernel_rfl) (AllP.c (show AV.bool (if false = true then !(awA.state == (1 : Int) && ((↑(2 : Nat) : Int) == (2 : Int) && ((↑(0 : Nat) : Int) == (0 : Int) && ((↑(0 : Nat) : Int) == (0 : Int) && ((↑(0 : Nat) : Int) == (0 : Int) && ((↑(0 : Nat) : Int) == (0 : Int) && ((↑(0 : Nat) : Int) == (0 : Int) && ((↑(0 : Nat) : Int) == (0 : Int) && (awA.level == (2 : Int) && (awA.til == (15 : Int) && true)))))))))) else awA.state == (1 : Int) && ((↑(2 : Nat) : Int) == (2 : Int) && ((↑(0 : Nat) : Int) == (0 : Int) && ((↑(0 : Nat) : Int) == (0 : Int) && ((↑(0 : Nat) : Int) == (0 : Int) && ((↑(0 : Nat) : Int) == (0 : Int) && ((↑(0 : Nat) : Int) == (0 : Int) && ((↑(0 : Nat) : Int) == (0 : Int) && (awA.level == (2 : Int) && (awA.til == (15 : Int) && true)))))))))) = AV.bool true by kernel_rfl) AllP.n)))
theorem local_way (l : Loc)
    (h1 : FnW Try.prog (23 : FuncId) [AV.sl false false (1 : Nat) (stale.sL (vsS l.areas))] [slV l.areas] (AV.own true (1 : Nat) (vsF l.areas)))
    (h2 : freshA (AV.own true (1 : Nat) (vsF l.areas)) = true)
    (h3 : AV.agg [AV.int IntKind.u8 (↑l.sys.a.toNat : Int), AV.int IntKind.u8 (↑l.sys.b.toNat : Int), AV.int IntKind.u8 (↑l.sys.c.toNat : Int), AV.int IntKind.u8 (↑l.sys.d.toNat : Int), AV.int IntKind.u8 (↑l.sys.e.toNat : Int), AV.int IntKind.u8 (↑l.sys.f.toNat : Int), AV.int IntKind.u8 (↑l.num.toNat : Int), AV.int IntKind.i64 l.level, AV.sl true false (1 : Nat) (undeep.uL (deepen.dL (vsF l.areas)))] = AV.agg [bA l.sys.a, bA l.sys.b, bA l.sys.c, bA l.sys.d, bA l.sys.e, bA l.sys.f, bA l.num, ni l.level, slF l.areas]) :
    WayF Try.prog 11 T11 fd11 [(7, .c [slV l.areas] (.own true 1 (vsF l.areas)))] [locA l] (locF l) :=
  fn_of_pr hfol ok11 hT11 (show prF Try.prog 11 T11 fd11 [(7, .c [slV l.areas] (.own true 1 (vsF l.areas)))] [locA l] (locF l) = some _ by kernel_rfl) (AllP.c h1 (AllP.c h2 (AllP.c h3 AllP.n)))
theorem hello_way (h : Hel)
    (h1 : FnW Try.prog (23 : FuncId) [AV.sl false false (1 : Nat) (stale.sL (vsS h.areas))] [slV h.areas] (AV.own true (1 : Nat) (vsF h.areas)))
    (h2 : freshA (AV.own true (1 : Nat) (vsF h.areas)) = true)
    (h3 : AV.agg [AV.int IntKind.u8 (↑h.sys.a.toNat : Int), AV.int IntKind.u8 (↑h.sys.b.toNat : Int), AV.int IntKind.u8 (↑h.sys.c.toNat : Int), AV.int IntKind.u8 (↑h.sys.d.toNat : Int), AV.int IntKind.u8 (↑h.sys.e.toNat : Int), AV.int IntKind.u8 (↑h.sys.f.toNat : Int), AV.int IntKind.u8 (↑h.num.toNat : Int), AV.int IntKind.i64 h.level, AV.int IntKind.i64 h.hold, AV.sl true false (1 : Nat) (undeep.uL (deepen.dL (vsF h.areas))), AV.int IntKind.i64 h.state, AV.bool h.named, AV.int IntKind.u8 (↑h.their.a.toNat : Int), AV.int IntKind.u8 (↑h.their.b.toNat : Int), AV.int IntKind.u8 (↑h.their.c.toNat : Int), AV.int IntKind.u8 (↑h.their.d.toNat : Int), AV.int IntKind.u8 (↑h.their.e.toNat : Int), AV.int IntKind.u8 (↑h.their.f.toNat : Int), AV.int IntKind.u8 (↑h.there.toNat : Int)] = AV.agg [bA h.sys.a, bA h.sys.b, bA h.sys.c, bA h.sys.d, bA h.sys.e, bA h.sys.f, bA h.num, ni h.level, ni h.hold, slF h.areas, ni h.state, AV.bool h.named, bA h.their.a, bA h.their.b, bA h.their.c, bA h.their.d, bA h.their.e, bA h.their.f, bA h.there]) :
    WayF Try.prog 12 T12 fd12 [(7, .c [slV h.areas] (.own true 1 (vsF h.areas)))] [helA h] (helF h) :=
  fn_of_pr hfol ok12 hT12 (show prF Try.prog 12 T12 fd12 [(7, .c [slV h.areas] (.own true 1 (vsF h.areas)))] [helA h] (helF h) = some _ by kernel_rfl) (AllP.c h1 (AllP.c h2 (AllP.c h3 AllP.n)))
theorem Expire_i1 (a : Adj) (now : Int)
    (h1 : (a.state == (1 : Int)) = true)
    (h2 : decide (now ≥ a.til) = true)
    (h3 : FnW Try.prog (26 : FuncId) [] [] (adjA dn)) :
    WayF Try.prog 17 T17 fd17 [(7, .b true), (17, .b true), (19, .c [] (adjA dn))] [adjA a, ni now] (adjA dn) :=
  fn_of_pr hfol ok17 hT17 (show prF Try.prog 17 T17 fd17 [(7, .b true), (17, .b true), (19, .c [] (adjA dn))] [adjA a, ni now] (adjA dn) = some _ by kernel_rfl) (AllP.c h1 (AllP.c h2 (AllP.c h3 (AllP.c (show freshA (adjA dn) = true by kernel_rfl) (AllP.c (show AV.agg [AV.int IntKind.i64 dn.state, AV.int IntKind.u8 (↑(0 : Nat) : Int), AV.int IntKind.u8 (↑(0 : Nat) : Int), AV.int IntKind.u8 (↑(0 : Nat) : Int), AV.int IntKind.u8 (↑(0 : Nat) : Int), AV.int IntKind.u8 (↑(0 : Nat) : Int), AV.int IntKind.u8 (↑(0 : Nat) : Int), AV.int IntKind.u8 (↑(0 : Nat) : Int), AV.int IntKind.i64 dn.level, AV.int IntKind.i64 dn.til] = AV.agg (adjC dn) by kernel_rfl) AllP.n)))))
theorem Expire_i0 (a : Adj) (now : Int)
    (h1 : (a.state == (1 : Int)) = true)
    (h2 : decide (now ≥ a.til) = false) :
    WayF Try.prog 17 T17 fd17 [(7, .b true), (17, .b false)] [adjA a, ni now] (adjA a) :=
  fn_of_pr hfol ok17 hT17 (show prF Try.prog 17 T17 fd17 [(7, .b true), (17, .b false)] [adjA a, ni now] (adjA a) = some _ by kernel_rfl) (AllP.c h1 (AllP.c h2 (AllP.c (show AV.agg [AV.int IntKind.i64 a.state, AV.int IntKind.u8 (↑a.peer.a.toNat : Int), AV.int IntKind.u8 (↑a.peer.b.toNat : Int), AV.int IntKind.u8 (↑a.peer.c.toNat : Int), AV.int IntKind.u8 (↑a.peer.d.toNat : Int), AV.int IntKind.u8 (↑a.peer.e.toNat : Int), AV.int IntKind.u8 (↑a.peer.f.toNat : Int), AV.int IntKind.u8 (↑a.num.toNat : Int), AV.int IntKind.i64 a.level, AV.int IntKind.i64 a.til] = AV.agg (adjC a) by kernel_rfl) AllP.n)))
theorem Expire_u1 (a : Adj) (now : Int)
    (h1 : (a.state == (1 : Int)) = false)
    (h2 : (a.state == (0 : Int)) = true)
    (h3 : decide (now ≥ a.til) = true)
    (h4 : FnW Try.prog (26 : FuncId) [] [] (adjA dn)) :
    WayF Try.prog 17 T17 fd17 [(7, .b false), (11, .b true), (17, .b true), (19, .c [] (adjA dn))] [adjA a, ni now] (adjA dn) :=
  fn_of_pr hfol ok17 hT17 (show prF Try.prog 17 T17 fd17 [(7, .b false), (11, .b true), (17, .b true), (19, .c [] (adjA dn))] [adjA a, ni now] (adjA dn) = some _ by kernel_rfl) (AllP.c h1 (AllP.c h2 (AllP.c h3 (AllP.c h4 (AllP.c (show freshA (adjA dn) = true by kernel_rfl) (AllP.c (show AV.agg [AV.int IntKind.i64 dn.state, AV.int IntKind.u8 (↑(0 : Nat) : Int), AV.int IntKind.u8 (↑(0 : Nat) : Int), AV.int IntKind.u8 (↑(0 : Nat) : Int), AV.int IntKind.u8 (↑(0 : Nat) : Int), AV.int IntKind.u8 (↑(0 : Nat) : Int), AV.int IntKind.u8 (↑(0 : Nat) : Int), AV.int IntKind.u8 (↑(0 : Nat) : Int), AV.int IntKind.i64 dn.level, AV.int IntKind.i64 dn.til] = AV.agg (adjC dn) by kernel_rfl) AllP.n))))))
theorem Expire_u0 (a : Adj) (now : Int)
    (h1 : (a.state == (1 : Int)) = false)
    (h2 : (a.state == (0 : Int)) = true)
    (h3 : decide (now ≥ a.til) = false) :
    WayF Try.prog 17 T17 fd17 [(7, .b false), (11, .b true), (17, .b false)] [adjA a, ni now] (adjA a) :=
  fn_of_pr hfol ok17 hT17 (show prF Try.prog 17 T17 fd17 [(7, .b false), (11, .b true), (17, .b false)] [adjA a, ni now] (adjA a) = some _ by kernel_rfl) (AllP.c h1 (AllP.c h2 (AllP.c h3 (AllP.c (show AV.agg [AV.int IntKind.i64 a.state, AV.int IntKind.u8 (↑a.peer.a.toNat : Int), AV.int IntKind.u8 (↑a.peer.b.toNat : Int), AV.int IntKind.u8 (↑a.peer.c.toNat : Int), AV.int IntKind.u8 (↑a.peer.d.toNat : Int), AV.int IntKind.u8 (↑a.peer.e.toNat : Int), AV.int IntKind.u8 (↑a.peer.f.toNat : Int), AV.int IntKind.u8 (↑a.num.toNat : Int), AV.int IntKind.i64 a.level, AV.int IntKind.i64 a.til] = AV.agg (adjC a) by kernel_rfl) AllP.n))))
theorem Expire_d (a : Adj) (now : Int)
    (h1 : (a.state == (1 : Int)) = false)
    (h2 : (a.state == (0 : Int)) = false) :
    WayF Try.prog 17 T17 fd17 [(7, .b false), (11, .b false)] [adjA a, ni now] (adjA a) :=
  fn_of_pr hfol ok17 hT17 (show prF Try.prog 17 T17 fd17 [(7, .b false), (11, .b false)] [adjA a, ni now] (adjA a) = some _ by kernel_rfl) (AllP.c h1 (AllP.c h2 (AllP.c (show AV.agg [AV.int IntKind.i64 a.state, AV.int IntKind.u8 (↑a.peer.a.toNat : Int), AV.int IntKind.u8 (↑a.peer.b.toNat : Int), AV.int IntKind.u8 (↑a.peer.c.toNat : Int), AV.int IntKind.u8 (↑a.peer.d.toNat : Int), AV.int IntKind.u8 (↑a.peer.e.toNat : Int), AV.int IntKind.u8 (↑a.peer.f.toNat : Int), AV.int IntKind.u8 (↑a.num.toNat : Int), AV.int IntKind.i64 a.level, AV.int IntKind.i64 a.til] = AV.agg (adjC a) by kernel_rfl) AllP.n)))
theorem Common_00 (x y : Int)
    (h1 : (IntKind.i64.wrap (x.tdiv (2 : Int)) == (1 : Int)) = false) :
    WayF Try.prog 29 T29 fd29 [(22, .q), (23, .b false)] [ni x, ni y, .bool false] (ni 0) :=
  fn_of_pr hfol ok29 hT29 (show prF Try.prog 29 T29 fd29 [(22, .q), (23, .b false)] [ni x, ni y, .bool false] (ni 0) = some _ by kernel_rfl) (AllP.c (show (2 : Int) ≠ (0 : Int) by decide) (AllP.c h1 (AllP.c (show AV.int IntKind.i64 (0 : Int) = AV.int IntKind.i64 (0 : Int) by kernel_rfl) AllP.n)))
theorem Common_01 (x y : Int)
    (h1 : (IntKind.i64.wrap (x.tdiv (2 : Int)) == (1 : Int)) = true)
    (h2 : (IntKind.i64.wrap (y.tdiv (2 : Int)) == (1 : Int)) = false) :
    WayF Try.prog 29 T29 fd29 [(22, .q), (23, .b true), (26, .q), (27, .b false)] [ni x, ni y, .bool false] (ni 0) :=
  fn_of_pr hfol ok29 hT29 (show prF Try.prog 29 T29 fd29 [(22, .q), (23, .b true), (26, .q), (27, .b false)] [ni x, ni y, .bool false] (ni 0) = some _ by kernel_rfl) (AllP.c (show (2 : Int) ≠ (0 : Int) by decide) (AllP.c h1 (AllP.c (show (2 : Int) ≠ (0 : Int) by decide) (AllP.c h2 (AllP.c (show AV.int IntKind.i64 (0 : Int) = AV.int IntKind.i64 (0 : Int) by kernel_rfl) AllP.n)))))
theorem Common_02 (x y : Int)
    (h1 : (IntKind.i64.wrap (x.tdiv (2 : Int)) == (1 : Int)) = true)
    (h2 : (IntKind.i64.wrap (y.tdiv (2 : Int)) == (1 : Int)) = true) :
    WayF Try.prog 29 T29 fd29 [(22, .q), (23, .b true), (26, .q), (27, .b true)] [ni x, ni y, .bool false] (ni 2) :=
  fn_of_pr hfol ok29 hT29 (show prF Try.prog 29 T29 fd29 [(22, .q), (23, .b true), (26, .q), (27, .b true)] [ni x, ni y, .bool false] (ni 2) = some _ by kernel_rfl) (AllP.c (show (2 : Int) ≠ (0 : Int) by decide) (AllP.c h1 (AllP.c (show (2 : Int) ≠ (0 : Int) by decide) (AllP.c h2 (AllP.c (show AV.int IntKind.i64 (IntKind.i64.wrap ((0 : Int) + (2 : Int))) = AV.int IntKind.i64 (2 : Int) by kernel_rfl) AllP.n)))))
theorem Common_10 (x y : Int)
    (h1 : (x.tmod (2 : Int) == (1 : Int)) = false)
    (h2 : (IntKind.i64.wrap (x.tdiv (2 : Int)) == (1 : Int)) = false) :
    WayF Try.prog 29 T29 fd29 [(13, .q), (14, .b false), (22, .q), (23, .b false)] [ni x, ni y, .bool true] (ni 0) :=
  fn_of_pr hfol ok29 hT29 (show prF Try.prog 29 T29 fd29 [(13, .q), (14, .b false), (22, .q), (23, .b false)] [ni x, ni y, .bool true] (ni 0) = some _ by kernel_rfl) (AllP.c (show (2 : Int) ≠ (0 : Int) by decide) (AllP.c h1 (AllP.c (show (2 : Int) ≠ (0 : Int) by decide) (AllP.c h2 (AllP.c (show AV.int IntKind.i64 (0 : Int) = AV.int IntKind.i64 (0 : Int) by kernel_rfl) AllP.n)))))
theorem Common_11 (x y : Int)
    (h1 : (x.tmod (2 : Int) == (1 : Int)) = false)
    (h2 : (IntKind.i64.wrap (x.tdiv (2 : Int)) == (1 : Int)) = true)
    (h3 : (IntKind.i64.wrap (y.tdiv (2 : Int)) == (1 : Int)) = false) :
    WayF Try.prog 29 T29 fd29 [(13, .q), (14, .b false), (22, .q), (23, .b true), (26, .q), (27, .b false)] [ni x, ni y, .bool true] (ni 0) :=
  fn_of_pr hfol ok29 hT29 (show prF Try.prog 29 T29 fd29 [(13, .q), (14, .b false), (22, .q), (23, .b true), (26, .q), (27, .b false)] [ni x, ni y, .bool true] (ni 0) = some _ by kernel_rfl) (AllP.c (show (2 : Int) ≠ (0 : Int) by decide) (AllP.c h1 (AllP.c (show (2 : Int) ≠ (0 : Int) by decide) (AllP.c h2 (AllP.c (show (2 : Int) ≠ (0 : Int) by decide) (AllP.c h3 (AllP.c (show AV.int IntKind.i64 (0 : Int) = AV.int IntKind.i64 (0 : Int) by kernel_rfl) AllP.n)))))))
theorem Common_12 (x y : Int)
    (h1 : (x.tmod (2 : Int) == (1 : Int)) = false)
    (h2 : (IntKind.i64.wrap (x.tdiv (2 : Int)) == (1 : Int)) = true)
    (h3 : (IntKind.i64.wrap (y.tdiv (2 : Int)) == (1 : Int)) = true) :
    WayF Try.prog 29 T29 fd29 [(13, .q), (14, .b false), (22, .q), (23, .b true), (26, .q), (27, .b true)] [ni x, ni y, .bool true] (ni 2) :=
  fn_of_pr hfol ok29 hT29 (show prF Try.prog 29 T29 fd29 [(13, .q), (14, .b false), (22, .q), (23, .b true), (26, .q), (27, .b true)] [ni x, ni y, .bool true] (ni 2) = some _ by kernel_rfl) (AllP.c (show (2 : Int) ≠ (0 : Int) by decide) (AllP.c h1 (AllP.c (show (2 : Int) ≠ (0 : Int) by decide) (AllP.c h2 (AllP.c (show (2 : Int) ≠ (0 : Int) by decide) (AllP.c h3 (AllP.c (show AV.int IntKind.i64 (IntKind.i64.wrap ((0 : Int) + (2 : Int))) = AV.int IntKind.i64 (2 : Int) by kernel_rfl) AllP.n)))))))
theorem Common_20 (x y : Int)
    (h1 : (x.tmod (2 : Int) == (1 : Int)) = true)
    (h2 : (y.tmod (2 : Int) == (1 : Int)) = false)
    (h3 : (IntKind.i64.wrap (x.tdiv (2 : Int)) == (1 : Int)) = false) :
    WayF Try.prog 29 T29 fd29 [(13, .q), (14, .b true), (18, .q), (19, .b false), (22, .q), (23, .b false)] [ni x, ni y, .bool true] (ni 0) :=
  fn_of_pr hfol ok29 hT29 (show prF Try.prog 29 T29 fd29 [(13, .q), (14, .b true), (18, .q), (19, .b false), (22, .q), (23, .b false)] [ni x, ni y, .bool true] (ni 0) = some _ by kernel_rfl) (AllP.c (show (2 : Int) ≠ (0 : Int) by decide) (AllP.c h1 (AllP.c (show (2 : Int) ≠ (0 : Int) by decide) (AllP.c h2 (AllP.c (show (2 : Int) ≠ (0 : Int) by decide) (AllP.c h3 (AllP.c (show AV.int IntKind.i64 (0 : Int) = AV.int IntKind.i64 (0 : Int) by kernel_rfl) AllP.n)))))))
theorem Common_21 (x y : Int)
    (h1 : (x.tmod (2 : Int) == (1 : Int)) = true)
    (h2 : (y.tmod (2 : Int) == (1 : Int)) = false)
    (h3 : (IntKind.i64.wrap (x.tdiv (2 : Int)) == (1 : Int)) = true)
    (h4 : (IntKind.i64.wrap (y.tdiv (2 : Int)) == (1 : Int)) = false) :
    WayF Try.prog 29 T29 fd29 [(13, .q), (14, .b true), (18, .q), (19, .b false), (22, .q), (23, .b true), (26, .q), (27, .b false)] [ni x, ni y, .bool true] (ni 0) :=
  fn_of_pr hfol ok29 hT29 (show prF Try.prog 29 T29 fd29 [(13, .q), (14, .b true), (18, .q), (19, .b false), (22, .q), (23, .b true), (26, .q), (27, .b false)] [ni x, ni y, .bool true] (ni 0) = some _ by kernel_rfl) (AllP.c (show (2 : Int) ≠ (0 : Int) by decide) (AllP.c h1 (AllP.c (show (2 : Int) ≠ (0 : Int) by decide) (AllP.c h2 (AllP.c (show (2 : Int) ≠ (0 : Int) by decide) (AllP.c h3 (AllP.c (show (2 : Int) ≠ (0 : Int) by decide) (AllP.c h4 (AllP.c (show AV.int IntKind.i64 (0 : Int) = AV.int IntKind.i64 (0 : Int) by kernel_rfl) AllP.n)))))))))
theorem Common_22 (x y : Int)
    (h1 : (x.tmod (2 : Int) == (1 : Int)) = true)
    (h2 : (y.tmod (2 : Int) == (1 : Int)) = false)
    (h3 : (IntKind.i64.wrap (x.tdiv (2 : Int)) == (1 : Int)) = true)
    (h4 : (IntKind.i64.wrap (y.tdiv (2 : Int)) == (1 : Int)) = true) :
    WayF Try.prog 29 T29 fd29 [(13, .q), (14, .b true), (18, .q), (19, .b false), (22, .q), (23, .b true), (26, .q), (27, .b true)] [ni x, ni y, .bool true] (ni 2) :=
  fn_of_pr hfol ok29 hT29 (show prF Try.prog 29 T29 fd29 [(13, .q), (14, .b true), (18, .q), (19, .b false), (22, .q), (23, .b true), (26, .q), (27, .b true)] [ni x, ni y, .bool true] (ni 2) = some _ by kernel_rfl) (AllP.c (show (2 : Int) ≠ (0 : Int) by decide) (AllP.c h1 (AllP.c (show (2 : Int) ≠ (0 : Int) by decide) (AllP.c h2 (AllP.c (show (2 : Int) ≠ (0 : Int) by decide) (AllP.c h3 (AllP.c (show (2 : Int) ≠ (0 : Int) by decide) (AllP.c h4 (AllP.c (show AV.int IntKind.i64 (IntKind.i64.wrap ((0 : Int) + (2 : Int))) = AV.int IntKind.i64 (2 : Int) by kernel_rfl) AllP.n)))))))))
theorem Common_30 (x y : Int)
    (h1 : (x.tmod (2 : Int) == (1 : Int)) = true)
    (h2 : (y.tmod (2 : Int) == (1 : Int)) = true)
    (h3 : (IntKind.i64.wrap (x.tdiv (2 : Int)) == (1 : Int)) = false) :
    WayF Try.prog 29 T29 fd29 [(13, .q), (14, .b true), (18, .q), (19, .b true), (22, .q), (23, .b false)] [ni x, ni y, .bool true] (ni 1) :=
  fn_of_pr hfol ok29 hT29 (show prF Try.prog 29 T29 fd29 [(13, .q), (14, .b true), (18, .q), (19, .b true), (22, .q), (23, .b false)] [ni x, ni y, .bool true] (ni 1) = some _ by kernel_rfl) (AllP.c (show (2 : Int) ≠ (0 : Int) by decide) (AllP.c h1 (AllP.c (show (2 : Int) ≠ (0 : Int) by decide) (AllP.c h2 (AllP.c (show (2 : Int) ≠ (0 : Int) by decide) (AllP.c h3 (AllP.c (show AV.int IntKind.i64 (IntKind.i64.wrap ((0 : Int) + (1 : Int))) = AV.int IntKind.i64 (1 : Int) by kernel_rfl) AllP.n)))))))
theorem Common_31 (x y : Int)
    (h1 : (x.tmod (2 : Int) == (1 : Int)) = true)
    (h2 : (y.tmod (2 : Int) == (1 : Int)) = true)
    (h3 : (IntKind.i64.wrap (x.tdiv (2 : Int)) == (1 : Int)) = true)
    (h4 : (IntKind.i64.wrap (y.tdiv (2 : Int)) == (1 : Int)) = false) :
    WayF Try.prog 29 T29 fd29 [(13, .q), (14, .b true), (18, .q), (19, .b true), (22, .q), (23, .b true), (26, .q), (27, .b false)] [ni x, ni y, .bool true] (ni 1) :=
  fn_of_pr hfol ok29 hT29 (show prF Try.prog 29 T29 fd29 [(13, .q), (14, .b true), (18, .q), (19, .b true), (22, .q), (23, .b true), (26, .q), (27, .b false)] [ni x, ni y, .bool true] (ni 1) = some _ by kernel_rfl) (AllP.c (show (2 : Int) ≠ (0 : Int) by decide) (AllP.c h1 (AllP.c (show (2 : Int) ≠ (0 : Int) by decide) (AllP.c h2 (AllP.c (show (2 : Int) ≠ (0 : Int) by decide) (AllP.c h3 (AllP.c (show (2 : Int) ≠ (0 : Int) by decide) (AllP.c h4 (AllP.c (show AV.int IntKind.i64 (IntKind.i64.wrap ((0 : Int) + (1 : Int))) = AV.int IntKind.i64 (1 : Int) by kernel_rfl) AllP.n)))))))))
theorem Common_32 (x y : Int)
    (h1 : (x.tmod (2 : Int) == (1 : Int)) = true)
    (h2 : (y.tmod (2 : Int) == (1 : Int)) = true)
    (h3 : (IntKind.i64.wrap (x.tdiv (2 : Int)) == (1 : Int)) = true)
    (h4 : (IntKind.i64.wrap (y.tdiv (2 : Int)) == (1 : Int)) = true) :
    WayF Try.prog 29 T29 fd29 [(13, .q), (14, .b true), (18, .q), (19, .b true), (22, .q), (23, .b true), (26, .q), (27, .b true)] [ni x, ni y, .bool true] (ni 3) :=
  fn_of_pr hfol ok29 hT29 (show prF Try.prog 29 T29 fd29 [(13, .q), (14, .b true), (18, .q), (19, .b true), (22, .q), (23, .b true), (26, .q), (27, .b true)] [ni x, ni y, .bool true] (ni 3) = some _ by kernel_rfl) (AllP.c (show (2 : Int) ≠ (0 : Int) by decide) (AllP.c h1 (AllP.c (show (2 : Int) ≠ (0 : Int) by decide) (AllP.c h2 (AllP.c (show (2 : Int) ≠ (0 : Int) by decide) (AllP.c h3 (AllP.c (show (2 : Int) ≠ (0 : Int) by decide) (AllP.c h4 (AllP.c (show AV.int IntKind.i64 (IntKind.i64.wrap (IntKind.i64.wrap ((0 : Int) + (1 : Int)) + (2 : Int))) = AV.int IntKind.i64 (3 : Int) by kernel_rfl) AllP.n)))))))))
end Go.Ev

/-! text P1 -/
set_option linter.unusedVariables false
set_option linter.unusedSimpArgs false
namespace Go.Ev
open Go.Proofs (Try.prog)

theorem u8_ne {x y : UInt8} (h : x ≠ y) : ((x.toNat : Int) != (y.toNat : Int)) = true := by
  simp only [bne_iff_ne, ne_eq]
  intro e
  exact h (UInt8.toNat_inj.1 (by omega))
theorem u8_beq (x y : UInt8) : ((x.toNat : Int) == (y.toNat : Int)) = (x == y) := by
  rw [Bool.eq_iff_iff]
  simp only [beq_iff_eq]
  exact ⟨fun e => UInt8.toNat_inj.1 (by omega), fun e => by rw [e]⟩
/-- Where two lists of one length part. -/
theorem parts_at {α : Type} [DecidableEq α] : ∀ (a b : List α), a.length = b.length → a ≠ b → ∃ j, ∃ h1 : j < a.length, ∃ h2 : j < b.length, a[j] ≠ b[j] ∧ ∀ i (h1 : i < a.length) (h2 : i < b.length), i < j → a[i] = b[i]
  | [], [], _, h => absurd rfl h
  | x :: a, y :: b, hl, h => by
    by_cases e : x = y
    · subst e
      obtain ⟨j, h1, h2, h3, h4⟩ := parts_at a b (by simpa using hl) (fun e => h (by rw [e]))
      refine ⟨j + 1, by simpa using h1, by simpa using h2, by simpa using h3, fun i g1 g2 hi => ?_⟩
      cases i with
      | zero => rfl
      | succ i => simpa using h4 i (by simpa using g1) (by simpa using g2) (by omega)
    · exact ⟨0, by simp, by simp, by simpa using e, fun i _ _ hi => by omega⟩
theorem SameBytes_ok (a b : List UInt8) (hs : a.length < 4611686018427387904) : FnOk Try.prog 16 [slB a, slB b] (.bool (decide (a = b))) := by
  by_cases hl : a.length = b.length
  · by_cases e : a = b
    · subst e
      rw [decide_eq_true rfl]
      refine SameBytes_all a a (by simp) (LeR.of_eq (by simp)) ?_
      exact Runs.upto (S := fun i => sSB a a i) (j := a.length) (fun i hi => SameBytes_next a a i a[i] a[i] (by simpa using hi) (get_bA hi) (get_bA hi) (by simp) (wrap_succ (by omega))) (SameBytes_end a a _ (by simp)) (by simp)
    · rw [decide_eq_false e]
      obtain ⟨j, h1, h2, h3, h4⟩ := parts_at a b hl e
      refine SameBytes_not a b (by simp [hl]) (LeR.of_eq (by simp)) ?_
      exact Runs.upto (S := fun i => sSB a b i) (j := j) (fun i hi => SameBytes_next a b i a[i] b[i] (by simp; omega) (get_bA (by omega)) (get_bA (by omega)) (by simp [h4 i (by omega) (by omega) hi]) (wrap_succ (by omega))) (SameBytes_diff a b j a[j] b[j] (by simpa using h1) (get_bA h1) (get_bA h2) (u8_ne h3)) (by simp)
  · rw [decide_eq_false (fun e => hl (by rw [e]))]
    exact SameBytes_len a b (by simp [bne_iff_ne]; omega)
theorem Twin_ok (l : List UInt8) (hs : l.length < 1073741824) : FnOk Try.prog 35 [slB l] (.own true 1 (bsA l)) :=
  Twin_way l (by simp) (by simp; omega)
@[simp] theorem vsS_len (l : List (List UInt8)) : (vsS l).length = l.length := by simp [vsS]
@[simp] theorem vsF_len (l : List (List UInt8)) : (vsF l).length = l.length := by simp [vsF]
@[simp] theorem vsS_sL : ∀ (l : List (List UInt8)), stale.sL (vsS l) = vsS l
  | [] => rfl
  | v :: l => by
    show stale (vS v) :: stale.sL (vsS l) = vS v :: vsS l
    rw [vsS_sL l]
    simp [vS, stale]
@[simp] theorem vsF_sL : ∀ (l : List (List UInt8)), stale.sL (vsF l) = vsS l
  | [] => rfl
  | v :: l => by
    show stale (vF v) :: stale.sL (vsF l) = vS v :: vsS l
    rw [vsF_sL l]
    simp [vS, vF, stale]
@[simp] theorem vsF_freshL : ∀ (l : List (List UInt8)), freshA.freshL (vsF l) = true
  | [] => rfl
  | v :: l => by
    show (freshA (vF v) && freshA.freshL (vsF l)) = true
    simp [vF, freshA, vsF_freshL l]
theorem get_vS {l : List (List UInt8)} {i : Nat} (h : i < l.length) : (vsS l)[i]? = some (vS l[i]) := by simp [vsS, List.getElem?_map, List.getElem?_eq_getElem h]
theorem vsF_snoc (l : List (List UInt8)) (t : List UInt8) : vsF (l ++ [t]) = vsF l ++ [vF t] := by simp [vsF]
theorem slB_arg (v : List UInt8) : Lv (.sl false false 1 (stale.sL (bsA v))) (slB v) := by rw [bsA_sL]; exact .refl
theorem slV_arg (v : List (List UInt8)) : Lv (.sl false false 1 (stale.sL (vsS v))) (slV v) := by rw [vsS_sL]; exact .refl
/-- All areas are small. -/
def Small (l : List (List UInt8)) : Prop := l.length < 1073741824 ∧ ∀ t ∈ l, t.length < 1073741824
theorem areas_ok (l : List (List UInt8)) (hs : Small l) : FnOk Try.prog 23 [slV l] (.own true 1 (vsF l)) := by
  refine areas_way l (LeR.of_eq (by simp)) ?_
  have hl := hs.1
  refine Runs.upto (S := fun i => sTw l (l.take i) i) (j := l.length) (fun i hi => ?_) ?_ (by simp)
  · have h2 := hs.2 l[i] (List.getElem_mem _)
    have h := areas_next l (l.take i) i l[i] (by simpa using hi) (get_vS hi) (.of (.cons (slB_arg _) .nil) (Twin_ok _ h2)) (by simp [freshA]) (by simp; omega) (wrap_succ (by omega)) (LeR.of_eq (by rw [vsF_snoc]; simp only [bsA_uL, bsA_dL]; rfl))
    simp only [List.take_succ_eq_append_getElem hi]
    exact h
  · have := areas_end l l l.length (by simp)
    simpa using this
theorem SameAreas_ok (a b : List (List UInt8)) (hs : a.length < 1073741824) (hv : ∀ v ∈ a, v.length < 1073741824) : FnOk Try.prog 15 [slV a, slV b] (.bool (decide (a = b))) := by
  have call : ∀ x y : List UInt8, x ∈ a → FnW Try.prog 16 [AV.sl false false 1 (stale.sL (bsA x)), AV.sl false false 1 (stale.sL (bsA y))] [slB x, slB y] (.bool (decide (x = y))) := fun x y hx =>
    .of (.cons (slB_arg _) (.cons (slB_arg _) .nil)) (SameBytes_ok x y (by have := hv x hx; omega))
  by_cases hl : a.length = b.length
  · by_cases e : a = b
    · subst e
      rw [decide_eq_true rfl]
      refine SameAreas_all a a (by simp) (LeR.of_eq (by simp)) ?_
      exact Runs.upto (S := fun i => sSA a a i) (j := a.length) (fun i hi => SameAreas_next a a i a[i] a[i] (by simpa using hi) (get_vS hi) (get_vS hi) (by have := call a[i] a[i] (List.getElem_mem _); rwa [decide_eq_true rfl] at this) (wrap_succ (by omega))) (SameAreas_end a a _ (by simp)) (by simp)
    · rw [decide_eq_false e]
      obtain ⟨j, h1, h2, h3, h4⟩ := parts_at a b hl e
      refine SameAreas_not a b (by simp [hl]) (LeR.of_eq (by simp)) ?_
      exact Runs.upto (S := fun i => sSA a b i) (j := j) (fun i hi => SameAreas_next a b i a[i] b[i] (by simp; omega) (get_vS (by omega)) (get_vS (by omega)) (by have := call a[i] b[i] (List.getElem_mem _); rwa [decide_eq_true (h4 i (by omega) (by omega) hi)] at this) (wrap_succ (by omega))) (SameAreas_diff a b j a[j] b[j] (by simpa using h1) (get_vS h1) (get_vS h2) (by have := call a[j] b[j] (List.getElem_mem _); rwa [decide_eq_false h3] at this)) (by simp)
  · rw [decide_eq_false (fun e => hl (by rw [e]))]
    exact SameAreas_len a b (by simp [bne_iff_ne]; omega)

/-! ### Equal, share -/
theorem toBytes_bsA : ∀ (l : List UInt8), toBytes (bsA l) = some ⟨l.toArray⟩
  | [] => rfl
  | b :: l => by
    show (match toBytes (bsA l) with | some x => some (⟨(UInt8.ofNat ((b.toNat : Int)).toNat :: x.data.toList).toArray⟩ : ByteArray) | none => none) = _
    rw [toBytes_bsA l]
    simp
theorem FnOk.as {P : Program} {f : FuncId} {ys : List AV} {x y : AV} (h : FnOk P f ys x) (e : x = y) : FnOk P f ys y := e ▸ h
theorem Equal_ok (a b : List UInt8) : FnOk Try.prog 36 [slB a, slB b] (.bool (decide (a = b))) := by
  refine FnOk.as (Equal_way a b ⟨a.toArray⟩ ⟨b.toArray⟩ (toBytes_bsA a) (toBytes_bsA b)) ?_
  congr 1
  rw [ByteArray.toList_eq, ByteArray.toList_eq, Bool.eq_iff_iff, decide_eq_true_iff, beq_iff_eq]
def shr (a b : List (List UInt8)) : Bool := a.any fun x => b.any fun y => decide (x = y)
theorem wrap_succ' {i n : Nat} (h : i < n) (hn : n < 1073741824) : IntKind.i64.wrap ((i : Int) + 1) = ((i + 1 : Nat) : Int) := wrap_succ (by omega)
/-- The first place where it holds. -/
theorem first_at {α : Type} (p : α → Bool) : ∀ (l : List α), l.any p = true → ∃ j, ∃ h : j < l.length, p l[j] = true ∧ ∀ i (g : i < l.length), i < j → p l[i] = false
  | [], h => by simp at h
  | x :: l, h => by
    by_cases e : p x = true
    · exact ⟨0, by simp, by simpa using e, fun i _ hi => by omega⟩
    · have h' : l.any p = true := by simpa [e] using h
      obtain ⟨j, h1, h2, h3⟩ := first_at p l h'
      refine ⟨j + 1, by simpa using h1, by simpa using h2, fun i g hi => ?_⟩
      cases i with
      | zero => simpa using e
      | succ i => simpa using h3 i (by simpa using g) (by omega)
theorem none_at {α : Type} (p : α → Bool) {l : List α} (h : l.any p = false) (i : Nat) (g : i < l.length) : p l[i] = false := by
  have := (List.any_eq_false.1 h) l[i] (List.getElem_mem _)
  simpa using this
theorem share_ok (a b : List (List UInt8)) (ha : Small a) (hb : Small b) : FnOk Try.prog 25 [slV a, slV b] (.bool (shr a b)) := by
  obtain ⟨ha, _⟩ := ha
  obtain ⟨hb, _⟩ := hb
  have call : ∀ (x y : List UInt8) (r : Bool), decide (x = y) = r → FnW Try.prog 36 [AV.sl false false 1 (stale.sL (bsA x)), AV.sl false false 1 (stale.sL (bsA y))] [slB x, slB y] (.bool r) := fun x y r e =>
    .of (.cons (slB_arg _) (.cons (slB_arg _) .nil)) (e ▸ Equal_ok x y)
  have inner0 : ∀ (i : Nat) (x : List UInt8), (b.any fun y => decide (x = y)) = false → Runs Try.prog T25 26 (Cd.loop [] lp25x0) (sShI a b i x 0) fun r => r = (.exit 2, sShO a b i) := fun i x h =>
    Runs.upto (S := fun j => sShI a b i x j) (j := b.length) (fun j hj => shareI_next a b i j x b[j] (by simpa using hj) (get_vS hj) (call _ _ _ (none_at _ h j hj)) (wrap_succ' hj hb)) (shareI_end a b i _ x (by simp)) (by simp)
  have inner1 : ∀ (i : Nat) (x : List UInt8), (b.any fun y => decide (x = y)) = true → Runs Try.prog T25 26 (Cd.loop [] lp25x0) (sShI a b i x 0) fun r => r = (.ret, st 26 [(4, .bool true)]) := fun i x h => by
    obtain ⟨j, h1, h2, h3⟩ := first_at _ b h
    exact Runs.upto (S := fun j => sShI a b i x j) (j := j) (fun k hk => shareI_next a b i k x (b[k]'(by omega)) (by simp; omega) (get_vS (by omega)) (call _ _ _ (h3 k (by omega) hk)) (wrap_succ' (by omega) hb)) (shareI_hit a b i j x b[j] (by simpa using h1) (get_vS h1) (call _ _ _ h2)) (by simp)
  cases hs : shr a b with
  | false =>
    refine share_no a b (LeR.of_eq (by simp)) ?_
    exact Runs.upto (S := fun i => sShO a b i) (j := a.length) (fun i hi => shareO_next a b i a[i] (by simpa using hi) (get_vS hi) (LeR.of_eq (by simp)) (inner0 i _ (none_at _ hs i hi)) (wrap_succ' hi ha)) (shareO_end a b _ (by simp)) (by simp)
  | true =>
    obtain ⟨j, h1, h2, h3⟩ := first_at _ a hs
    refine share_yes a b (LeR.of_eq (by simp)) ?_
    exact Runs.upto (S := fun i => sShO a b i) (j := j) (fun i hi => shareO_next a b i (a[i]'(by omega)) (by simp; omega) (get_vS (by omega)) (LeR.of_eq (by simp)) (inner0 i _ (h3 i (by omega) hi)) (wrap_succ' (by omega) ha)) (shareO_hit a b j a[j] (by simpa using h1) (get_vS h1) (LeR.of_eq (by simp)) (inner1 j _ h2)) (by simp)
theorem rshare_ok (a b : List (List UInt8)) (ha : Small a) (hb : Small b) : FnOk Try.prog 30 [slV a, slV b] (.bool (shr a b)) := by
  obtain ⟨ha, hv⟩ := ha
  obtain ⟨hb, _⟩ := hb
  have call : ∀ (x y : List UInt8) (r : Bool), x ∈ a → decide (x = y) = r → FnW Try.prog 16 [AV.sl false false 1 (stale.sL (bsA x)), AV.sl false false 1 (stale.sL (bsA y))] [slB x, slB y] (.bool r) := fun x y r hx e =>
    .of (.cons (slB_arg _) (.cons (slB_arg _) .nil)) (e ▸ SameBytes_ok x y (by have := hv x hx; omega))
  have inner0 : ∀ (i : Nat) (hi : i < a.length), (b.any fun y => decide (a[i] = y)) = false → Runs Try.prog T30 28 (Cd.loop [] lp30x0) (rShI a b i 0) fun r => r = (.exit 2, rShO a b i) := fun i hi h =>
    Runs.upto (S := fun j => rShI a b i j) (j := b.length) (fun j hj => rshareI_next a b i j a[i] b[j] (by simpa using hj) (get_vS hi) (get_vS hj) (call _ _ _ (List.getElem_mem _) (none_at _ h j hj)) (wrap_succ' hj hb)) (rshareI_end a b i _ (by simp)) (by simp)
  have inner1 : ∀ (i : Nat) (hi : i < a.length), (b.any fun y => decide (a[i] = y)) = true → Runs Try.prog T30 28 (Cd.loop [] lp30x0) (rShI a b i 0) fun r => r = (.ret, st 28 [(4, .bool true)]) := fun i hi h => by
    obtain ⟨j, h1, h2, h3⟩ := first_at _ b h
    exact Runs.upto (S := fun j => rShI a b i j) (j := j) (fun k hk => rshareI_next a b i k a[i] (b[k]'(by omega)) (by simp; omega) (get_vS hi) (get_vS (by omega)) (call _ _ _ (List.getElem_mem _) (h3 k (by omega) hk)) (wrap_succ' (by omega) hb)) (rshareI_hit a b i j a[i] b[j] (by simpa using h1) (get_vS hi) (get_vS h1) (call _ _ _ (List.getElem_mem _) h2)) (by simp)
  cases hs : shr a b with
  | false =>
    refine rshare_no a b (LeR.of_eq (by simp)) ?_
    exact Runs.upto (S := fun i => rShO a b i) (j := a.length) (fun i hi => rshareO_next a b i (by simpa using hi) (LeR.of_eq (by simp)) (inner0 i hi (none_at _ hs i hi)) (wrap_succ' hi ha)) (rshareO_end a b _ (by simp)) (by simp)
  | true =>
    obtain ⟨j, h1, h2, h3⟩ := first_at _ a hs
    refine rshare_yes a b (LeR.of_eq (by simp)) ?_
    exact Runs.upto (S := fun i => rShO a b i) (j := j) (fun i hi => rshareO_next a b i (by simp; omega) (LeR.of_eq (by simp)) (inner0 i (by omega) (h3 i (by omega) hi)) (wrap_succ' (by omega) ha)) (rshareO_hit a b j (by simpa using h1) (LeR.of_eq (by simp)) (inner1 j h1 h2)) (by simp)

/-! ### level, state, hold, within, next -/
theorem within_ok (n l h : Int) : FnOk Try.prog 28 [ni n, ni l, ni h] (.bool (decide (l ≤ n ∧ n ≤ h))) := by
  by_cases e : l ≤ n
  · exact FnOk.as (within_hi n l h (decide (n ≤ h)) (by simpa using e) rfl) (by simp [e])
  · exact FnOk.as (within_lo n l h (by simpa using e)) (by simp [e])
theorem level_ok (n : Int) : FnOk Try.prog 31 [ni n] (.bool (decide (1 ≤ n ∧ n ≤ 3))) := by
  by_cases e : 1 ≤ n
  · exact FnOk.as (level_hi n (decide (n ≤ 3)) (by simpa using e) rfl) (by simp [e])
  · exact FnOk.as (level_lo n (by simpa using e)) (by simp [e])
theorem state_ok (n : Int) : FnOk Try.prog 32 [ni n] (.bool (decide (0 ≤ n ∧ n ≤ 2))) := by
  by_cases e : 0 ≤ n
  · exact FnOk.as (state_hi n (decide (n ≤ 2)) (by simpa using e) rfl) (by simp [e])
  · exact FnOk.as (state_lo n (by simpa using e)) (by simp [e])
theorem hold_ok (n : Int) : FnOk Try.prog 33 [ni n] (.bool (decide (1 ≤ n ∧ n ≤ 65535))) := by
  by_cases e : 1 ≤ n
  · exact FnOk.as (hold_hi n (decide (n ≤ 65535)) (by simpa using e) rfl) (by simp [e])
  · exact FnOk.as (hold_lo n (by simpa using e)) (by simp [e])
def nxt (w t : Int) : Int := if t = 2 then 1 else if w = 2 ∧ t = 0 then 2 else 0
theorem next_ok (w t : Int) : FnOk Try.prog 27 [ni w, ni t] (ni (nxt w t)) := by
  unfold nxt
  by_cases e : t = 2
  · exact FnOk.as (next_i w t (by simpa using e)) (by simp [e])
  · by_cases e1 : w = 2
    · by_cases e2 : t = 0
      · exact FnOk.as (next_d w t (by simpa using e) (by simpa using e1) (by simpa using e2)) (by simp [e1, e2])
      · exact FnOk.as (next_u1 w t (by simpa using e) (by simpa using e1) (by simpa using e2)) (by simp [e, e1, e2])
    · exact FnOk.as (next_u2 w t (by simpa using e) (by simpa using e1)) (by simp [e, e1])
def common (x y : Int) (s : Bool) : Int := (if s = true ∧ x % 2 = 1 ∧ y % 2 = 1 then 1 else 0) + (if x / 2 = 1 ∧ y / 2 = 1 then 2 else 0)
end Go.Ev

/-! text P2 -/
set_option linter.unusedVariables false
set_option linter.unusedSimpArgs false
namespace Go.Ev
open Go.Proofs (Try.prog)

/-! ### What Step does -/
theorem sy_eq (s t : Sy) : ((s.a.toNat : Int) == (t.a.toNat : Int) && ((s.b.toNat : Int) == (t.b.toNat : Int) && ((s.c.toNat : Int) == (t.c.toNat : Int) && ((s.d.toNat : Int) == (t.d.toNat : Int) && ((s.e.toNat : Int) == (t.e.toNat : Int) && ((s.f.toNat : Int) == (t.f.toNat : Int) && true)))))) = decide (s = t) := by
  cases s
  cases t
  simp only [u8_beq, Sy.mk.injEq]
  rw [Bool.eq_iff_iff]
  simp only [Bool.and_eq_true, beq_iff_eq, decide_eq_true_iff, and_true]
theorem fw1 {P : Go.Program} {f : Go.FuncId} {ys : List AV} {p : Prop} [Decidable p] (h : FnOk P f ys (.bool (decide p))) (hp : p) : FnW P f ys ys (.bool true) := ⟨VLe.refl, by rwa [decide_eq_true hp] at h⟩
theorem fw0 {P : Go.Program} {f : Go.FuncId} {ys : List AV} {p : Prop} [Decidable p] (h : FnOk P f ys (.bool (decide p))) (hp : ¬ p) : FnW P f ys ys (.bool false) := ⟨VLe.refl, by rwa [decide_eq_false hp] at h⟩
def fits (l : Loc) (a : Adj) (h : Hel) (now : Int) : Prop := (1 ≤ l.level ∧ l.level ≤ 3) ∧ (1 ≤ h.level ∧ h.level ≤ 3) ∧ (0 ≤ a.state ∧ a.state ≤ 2) ∧ (0 ≤ h.state ∧ h.state ≤ 2) ∧ (1 ≤ h.hold ∧ h.hold ≤ 65535) ∧ 0 ≤ now ∧ now ≤ 4611686018427387904
instance {l : Loc} {a : Adj} {h : Hel} {now : Int} : Decidable (fits l a h now) := by unfold fits; infer_instance
def long (l : Loc) (h : Hel) : Prop := 3 < l.areas.length ∨ 3 < h.areas.length
instance {l : Loc} {h : Hel} : Decidable (long l h) := by unfold long; infer_instance
def chk (l : Loc) (a : Adj) (h : Hel) (now : Int) : Int := if fits l a h now then if long l h then 2 else if l.sys = h.sys then 7 else 0 else 1
def mism (l : Loc) (h : Hel) : Prop := h.named = true ∧ ¬(h.their = l.sys ∧ h.there = l.num)
instance {l : Loc} {h : Hel} : Decidable (mism l h) := by unfold mism; infer_instance
def was (a : Adj) (h : Hel) (c : Int) : Int := if a.peer = h.sys ∧ a.num = h.num ∧ a.level = c then a.state else 2
def told (h : Hel) : Int := if h.named = true then h.state else 2
def upA (a : Adj) (h : Hel) (now c : Int) : Adj := ⟨nxt (was a h c) (told h), h.sys, h.num, c, now + h.hold⟩
def stepR (l : Loc) (a : Adj) (h : Hel) (now c : Int) : Adj × Int := if c = 0 then (dn, 12) else if mism l h then (a, 0) else if nxt (was a h c) (told h) = 2 then (dn, 0) else (upA a h now c, 0)
def cm (l : Loc) (h : Hel) : Int := common l.level h.level (shr l.areas h.areas)
def stepS (l : Loc) (a : Adj) (h : Hel) (now : Int) : Adj × Int := if chk l a h now = 0 then stepR l a h now (cm l h) else (a, chk l a h now)
def args (l : Loc) (a : Adj) (h : Hel) (now : Int) : List AV := [locA l, adjA a, helA h, ni now]

theorem chk_fits {l : Loc} {a : Adj} {h : Hel} {now : Int} (e : chk l a h now = 0) : fits l a h now ∧ ¬ long l h ∧ l.sys ≠ h.sys := by
  unfold chk at e
  split at e
  · rename_i h1
    split at e
    · omega
    · rename_i h2
      split at e
      · omega
      · rename_i h3
        exact ⟨h1, h2, h3⟩
  · omega
theorem check_all (l : Loc) (a : Adj) (h : Hel) (now : Int) : FnOk Try.prog 24 (args l a h now) (ni (chk l a h now)) := by
  by_cases e1 : 1 ≤ l.level ∧ l.level ≤ 3
  case neg => exact FnOk.as (check_bad1 l a h now (fw0 (level_ok _) e1)) (by rw [chk, if_neg (fun f => e1 f.1)])
  have c1 := fw1 (level_ok l.level) e1
  by_cases e2 : 1 ≤ h.level ∧ h.level ≤ 3
  case neg => exact FnOk.as (check_bad2 l a h now c1 (fw0 (level_ok _) e2)) (by rw [chk, if_neg (fun f => e2 f.2.1)])
  have c2 := fw1 (level_ok h.level) e2
  by_cases e3 : 0 ≤ a.state ∧ a.state ≤ 2
  case neg => exact FnOk.as (check_bad3 l a h now c1 c2 (fw0 (state_ok _) e3)) (by rw [chk, if_neg (fun f => e3 f.2.2.1)])
  have c3 := fw1 (state_ok a.state) e3
  by_cases e4 : 0 ≤ h.state ∧ h.state ≤ 2
  case neg => exact FnOk.as (check_bad4 l a h now c1 c2 c3 (fw0 (state_ok _) e4)) (by rw [chk, if_neg (fun f => e4 f.2.2.2.1)])
  have c4 := fw1 (state_ok h.state) e4
  by_cases e5 : 1 ≤ h.hold ∧ h.hold ≤ 65535
  case neg => exact FnOk.as (check_bad5 l a h now c1 c2 c3 c4 (fw0 (hold_ok _) e5)) (by rw [chk, if_neg (fun f => e5 f.2.2.2.2.1)])
  have c5 := fw1 (hold_ok h.hold) e5
  by_cases e6 : 0 ≤ now
  case neg => exact FnOk.as (check_bad6 l a h now c1 c2 c3 c4 c5 (by simpa using e6)) (by rw [chk, if_neg (fun f => e6 f.2.2.2.2.2.1)])
  have c6 : decide (now < 0) = false := by simpa using e6
  by_cases e7 : now ≤ 4611686018427387904
  case neg => exact FnOk.as (check_bad7 l a h now c1 c2 c3 c4 c5 c6 (by simpa using e7)) (by rw [chk, if_neg (fun f => e7 f.2.2.2.2.2.2)])
  have c7 : decide (now > 4611686018427387904) = false := by simpa using e7
  have hf : fits l a h now := ⟨e1, e2, e3, e4, e5, e6, e7⟩
  rw [chk, if_pos hf]
  by_cases e8 : 3 < l.areas.length
  case pos => exact FnOk.as (check_long1 l a h now c1 c2 c3 c4 c5 c6 c7 (by simp only [vsS_len, decide_eq_true_iff]; omega)) (by rw [if_pos (.inl e8)])
  have c8 : decide (((vsS l.areas).length : Int) > 3) = false := by simp only [vsS_len, decide_eq_false_iff_not]; omega
  by_cases e9 : 3 < h.areas.length
  case pos => exact FnOk.as (check_long2 l a h now c1 c2 c3 c4 c5 c6 c7 c8 (by simp only [vsS_len, decide_eq_true_iff]; omega)) (by rw [if_pos (.inr e9)])
  have c9 : decide (((vsS h.areas).length : Int) > 3) = false := by simp only [vsS_len, decide_eq_false_iff_not]; omega
  rw [if_neg (show ¬ long l h from fun f => f.elim e8 e9)]
  by_cases e10 : l.sys = h.sys
  case pos => exact FnOk.as (check_same l a h now c1 c2 c3 c4 c5 c6 c7 c8 c9 (by simp only [Bool.false_eq_true, ↓reduceIte, sy_eq]; simpa using e10)) (by rw [if_pos e10])
  exact FnOk.as (check_ok l a h now c1 c2 c3 c4 c5 c6 c7 c8 c9 (by simp only [Bool.false_eq_true, ↓reduceIte, sy_eq]; simpa using e10)) (by rw [if_neg e10])

theorem lv3 {x : Int} (h : 1 ≤ x ∧ x ≤ 3) : x = 1 ∨ x = 2 ∨ x = 3 := by omega
theorem and_lv {x y : Int} (hx : 1 ≤ x ∧ x ≤ 3) (hy : 1 ≤ y ∧ y ≤ 3) : IntKind.i64.wrap (((BitVec.ofInt 64 x &&& BitVec.ofInt 64 y).toNat : Nat) : Int) = common x y true := by
  rcases lv3 hx with rfl | rfl | rfl <;> rcases lv3 hy with rfl | rfl | rfl <;> decide
theorem andNot_lv {x y : Int} (hx : 1 ≤ x ∧ x ≤ 3) (hy : 1 ≤ y ∧ y ≤ 3) : IntKind.i64.wrap (((BitVec.ofInt 64 (common x y true) &&& ~~~ BitVec.ofInt 64 1).toNat : Nat) : Int) = common x y false := by
  rcases lv3 hx with rfl | rfl | rfl <;> rcases lv3 hy with rfl | rfl | rfl <;> decide
theorem Common_ok {x y : Int} (s : Bool) (hx : 1 ≤ x ∧ x ≤ 3) (hy : 1 ≤ y ∧ y ≤ 3) : FnOk Try.prog 29 [ni x, ni y, .bool s] (ni (common x y s)) := by
  rcases lv3 hx with rfl | rfl | rfl <;> rcases lv3 hy with rfl | rfl | rfl <;> cases s <;> first
    | exact FnOk.as (Common_00 _ _ (by decide)) rfl
    | exact FnOk.as (Common_01 _ _ (by decide) (by decide)) rfl
    | exact FnOk.as (Common_02 _ _ (by decide) (by decide)) rfl
    | exact FnOk.as (Common_10 _ _ (by decide) (by decide)) rfl
    | exact FnOk.as (Common_11 _ _ (by decide) (by decide) (by decide)) rfl
    | exact FnOk.as (Common_12 _ _ (by decide) (by decide) (by decide)) rfl
    | exact FnOk.as (Common_20 _ _ (by decide) (by decide) (by decide)) rfl
    | exact FnOk.as (Common_21 _ _ (by decide) (by decide) (by decide) (by decide)) rfl
    | exact FnOk.as (Common_22 _ _ (by decide) (by decide) (by decide) (by decide)) rfl
    | exact FnOk.as (Common_30 _ _ (by decide) (by decide) (by decide)) rfl
    | exact FnOk.as (Common_31 _ _ (by decide) (by decide) (by decide) (by decide)) rfl
    | exact FnOk.as (Common_32 _ _ (by decide) (by decide) (by decide) (by decide)) rfl
theorem nxt_lo (w t : Int) : 0 ≤ nxt w t ∧ nxt w t ≤ 2 := by unfold nxt; split <;> (try split) <;> omega

theorem loc_arg (l : Loc) (a : Adj) (h : Hel) (now : Int) : VLe (stale.sL (args l a h now)) (args l a h now) := VLe.of_eq (by
  show [AV.agg [bA l.sys.a, bA l.sys.b, bA l.sys.c, bA l.sys.d, bA l.sys.e, bA l.sys.f, bA l.num, ni l.level, .sl false false 1 (stale.sL (vsS l.areas))], adjA a, AV.agg [bA h.sys.a, bA h.sys.b, bA h.sys.c, bA h.sys.d, bA h.sys.e, bA h.sys.f, bA h.num, ni h.level, ni h.hold, .sl false false 1 (stale.sL (vsS h.areas)), ni h.state, .bool h.named, bA h.their.a, bA h.their.b, bA h.their.c, bA h.their.d, bA h.their.e, bA h.their.f, bA h.there], ni now] = _
  rw [vsS_sL, vsS_sL]
  rfl)
theorem until_ok {now hold : Int} (h1 : 0 ≤ now ∧ now ≤ 4611686018427387904) (h2 : 1 ≤ hold ∧ hold ≤ 65535) : IntKind.i64.wrap (now + hold) = now + hold := wrap64_eq (by omega) (by omega)

theorem Step_all (l : Loc) (a : Adj) (h : Hel) (now : Int) (hl : Small l.areas) (hh : Small h.areas) : FnOk Try.prog 13 (args l a h now) (.tup [adjA (stepS l a h now).1, ni (stepS l a h now).2]) := by
  have hc := check_all l a h now
  have hw : ∀ e, chk l a h now = e → FnW Try.prog 24 (stale.sL (args l a h now)) (args l a h now) (ni e) := fun e he => ⟨loc_arg l a h now, he ▸ hc⟩
  unfold stepS
  by_cases e0 : chk l a h now = 0
  case neg =>
    rw [if_neg e0]
    exact Step_err l a h now _ (hw _ rfl) (by simpa using e0)
  rw [if_pos e0]
  obtain ⟨hf, h2, h3⟩ := chk_fits e0
  obtain ⟨f1, f2, f3, f4, f5, f6⟩ := hf
  have hcom : Runs Try.prog T13 101 sg13x29x11 (q13 l a h now [(11, ni (common l.level h.level true))]) fun x => x = (.normal, q13 l a h now [(11, ni (cm l h))]) := by
    have hs := share_ok l.areas h.areas hl hh
    unfold cm
    cases es : shr l.areas h.areas with
    | true =>
      rw [es] at hs
      exact St_comY l a h now _ (.of (.cons (slV_arg _) (.cons (slV_arg _) .nil)) hs)
    | false =>
      rw [es] at hs
      exact St_comN l a h now _ _ (.of (.cons (slV_arg _) (.cons (slV_arg _) .nil)) hs) (andNot_lv f1 f2)
  have hc0 := and_lv f1 f2
  unfold stepR
  by_cases e1 : cm l h = 0
  · rw [if_pos e1]
    rw [e1] at hcom
    exact Step_none l a h now _ (hw _ e0) hc0 hcom ⟨VLe.refl, down_way⟩
  rw [if_neg e1]
  have e1' : (cm l h == 0) = false := by simpa using e1
  by_cases e2 : mism l h
  · rw [if_pos e2]
    obtain ⟨n1, n2⟩ := e2
    refine Step_other l a h now _ _ (hw _ e0) hc0 hcom e1' ?_
    by_cases e3 : h.their = l.sys
    · exact St_nm2 l a h now _ true n1 (by simp only [↓reduceIte, sy_eq]; simpa using e3) (u8_ne fun e => n2 ⟨e3, e⟩)
    · exact St_nm1 l a h now _ n1 (by simp only [↓reduceIte, sy_eq]; simpa using e3)
  rw [if_neg e2]
  have hnm : Runs Try.prog T13 101 sg13x42x41 (q13 l a h now [(11, ni (cm l h))]) fun x => x = (.normal, q13 l a h now [(11, ni (cm l h)), (41, .bool false)]) := by
    cases n1 : h.named with
    | false => exact St_nm0 l a h now _ n1
    | true =>
      have n2 : h.their = l.sys ∧ h.there = l.num := Classical.byContradiction fun n => e2 ⟨n1, n⟩
      exact St_nm2 l a h now _ false n1 (by simp only [↓reduceIte, sy_eq]; simpa using n2.1) (by rw [n2.2]; simp)
  have hwas : Runs Try.prog T13 101 sg13x63x12 (q13 l a h now [(11, ni (cm l h)), (12, ni a.state), (13, ni h.state)]) fun x => x = (.normal, q13 l a h now [(11, ni (cm l h)), (12, ni (was a h (cm l h))), (13, ni h.state)]) := by
    unfold was
    by_cases p1 : a.peer = h.sys
    case neg =>
      rw [if_neg fun p => p1 p.1]
      exact St_was1 l a h now _ _ (by simp only [↓reduceIte, sy_eq]; simpa using p1)
    have p1' : (if true = true then !((a.peer.a.toNat : Int) == (h.sys.a.toNat : Int) && ((a.peer.b.toNat : Int) == (h.sys.b.toNat : Int) && ((a.peer.c.toNat : Int) == (h.sys.c.toNat : Int) && ((a.peer.d.toNat : Int) == (h.sys.d.toNat : Int) && ((a.peer.e.toNat : Int) == (h.sys.e.toNat : Int) && ((a.peer.f.toNat : Int) == (h.sys.f.toNat : Int) && true)))))) else (a.peer.a.toNat : Int) == (h.sys.a.toNat : Int) && ((a.peer.b.toNat : Int) == (h.sys.b.toNat : Int) && ((a.peer.c.toNat : Int) == (h.sys.c.toNat : Int) && ((a.peer.d.toNat : Int) == (h.sys.d.toNat : Int) && ((a.peer.e.toNat : Int) == (h.sys.e.toNat : Int) && ((a.peer.f.toNat : Int) == (h.sys.f.toNat : Int) && true)))))) = false := by
      simp only [↓reduceIte, sy_eq]; simpa using p1
    by_cases p2 : a.num = h.num
    case neg =>
      rw [if_neg fun p => p2 p.2.1]
      exact St_was2 l a h now _ _ p1' (u8_ne p2)
    have p2' : ((a.num.toNat : Int) != (h.num.toNat : Int)) = false := by rw [p2]; simp
    by_cases p3 : a.level = cm l h
    case neg =>
      rw [if_neg fun p => p3 p.2.2]
      exact St_was3 l a h now _ _ p1' p2' (by simpa using p3)
    rw [if_pos ⟨p1, p2, p3⟩]
    exact St_was0 l a h now _ _ p1' p2' (by simpa using p3)
  have htold : Runs Try.prog T13 101 sg13x81x13 (q13 l a h now [(11, ni (cm l h)), (12, ni (was a h (cm l h))), (13, ni h.state)]) fun x => x = (.normal, q13 l a h now [(11, ni (cm l h)), (12, ni (was a h (cm l h))), (13, ni (told h))]) := by
    unfold told
    cases n1 : h.named with
    | false => exact St_told1 l a h now _ _ _ (by rw [n1]; rfl)
    | true => exact St_told0 l a h now _ _ _ (by rw [n1]; rfl)
  have hn : FnW Try.prog 27 [ni (was a h (cm l h)), ni (told h)] [ni (was a h (cm l h)), ni (told h)] (ni (nxt (was a h (cm l h)) (told h))) := ⟨VLe.refl, next_ok _ _⟩
  by_cases e3 : nxt (was a h (cm l h)) (told h) = 2
  · rw [if_pos e3]
    rw [e3] at hn
    exact Step_down l a h now _ _ _ _ (hw _ e0) hc0 hcom e1' hnm hwas htold hn ⟨VLe.refl, down_way⟩
  · rw [if_neg e3]
    exact Step_up l a h now _ _ _ _ _ _ (hw _ e0) hc0 hcom e1' hnm hwas htold hn (by simpa using e3) (until_ok f6 f5)
end Go.Ev

/-! text P3 -/
set_option linter.unusedVariables false
set_option linter.unusedSimpArgs false
namespace Go.Ev
open Go.Proofs (Try.prog)

/-! ### What DocStep does -/
theorem fit1 (l : Loc) (a : Adj) (h : Hel) (now : Int) (f : fits l a h now) : Runs Try.prog T14 153 sg14x15x50 (q14 l a h now []) fun x => x = (.normal, q14 l a h now [(50, .bool false)]) := by
  obtain ⟨f1, f2, f3, f4, f5, f6, f7⟩ := f
  exact Dc_fit l a h now (fw1 (within_ok _ _ _) f1) (fw1 (within_ok _ _ _) f2) (fw1 (within_ok _ _ _) f3) (fw1 (within_ok _ _ _) f4) (fw1 (within_ok _ _ _) f5) (by simpa using f6) (by simpa using f7)
theorem fit0 (l : Loc) (a : Adj) (h : Hel) (now : Int) (f : ¬ fits l a h now) : Runs Try.prog T14 153 sg14x15x50 (q14 l a h now []) fun x => x = (.normal, q14 l a h now [(50, .bool true)]) := by
  by_cases e1 : 1 ≤ l.level ∧ l.level ≤ 3
  case neg => exact Dc_bad1 l a h now (fw0 (within_ok _ _ _) e1)
  have c1 := fw1 (within_ok l.level 1 3) e1
  by_cases e2 : 1 ≤ h.level ∧ h.level ≤ 3
  case neg => exact Dc_bad2 l a h now c1 (fw0 (within_ok _ _ _) e2)
  have c2 := fw1 (within_ok h.level 1 3) e2
  by_cases e3 : 0 ≤ a.state ∧ a.state ≤ 2
  case neg => exact Dc_bad3 l a h now c1 c2 (fw0 (within_ok _ _ _) e3)
  have c3 := fw1 (within_ok a.state 0 2) e3
  by_cases e4 : 0 ≤ h.state ∧ h.state ≤ 2
  case neg => exact Dc_bad4 l a h now c1 c2 c3 (fw0 (within_ok _ _ _) e4)
  have c4 := fw1 (within_ok h.state 0 2) e4
  by_cases e5 : 1 ≤ h.hold ∧ h.hold ≤ 65535
  case neg => exact Dc_bad5 l a h now c1 c2 c3 c4 (fw0 (within_ok _ _ _) e5)
  have c5 := fw1 (within_ok h.hold 1 65535) e5
  by_cases e6 : 0 ≤ now
  case neg => exact Dc_bad6 l a h now c1 c2 c3 c4 c5 (by simpa using e6)
  have c6 : decide (now < 0) = false := by simpa using e6
  by_cases e7 : now ≤ 4611686018427387904
  case neg => exact Dc_bad7 l a h now c1 c2 c3 c4 c5 c6 (by simpa using e7)
  exact absurd ⟨e1, e2, e3, e4, e5, e6, e7⟩ f
theorem long1 (l : Loc) (a : Adj) (h : Hel) (now : Int) (f : long l h) : Runs Try.prog T14 153 sg14x52x61 (q14 l a h now []) fun x => x = (.normal, q14 l a h now [(61, .bool true)]) := by
  by_cases e : 3 < l.areas.length
  · exact Dc_long1 l a h now (by simp only [vsS_len, decide_eq_true_iff]; omega)
  · have e2 : 3 < h.areas.length := f.resolve_left e
    exact Dc_long2 l a h now true (by simp only [vsS_len, decide_eq_false_iff_not]; omega) (by simp only [vsS_len, decide_eq_true_iff]; omega)
theorem long0 (l : Loc) (a : Adj) (h : Hel) (now : Int) (f : ¬ long l h) : Runs Try.prog T14 153 sg14x52x61 (q14 l a h now []) fun x => x = (.normal, q14 l a h now [(61, .bool false)]) := by
  have e : ¬ 3 < l.areas.length := fun e => f (.inl e)
  have e2 : ¬ 3 < h.areas.length := fun e => f (.inr e)
  exact Dc_long2 l a h now false (by simp only [vsS_len, decide_eq_false_iff_not]; omega) (by simp only [vsS_len, decide_eq_false_iff_not]; omega)
theorem tab {w t : Int} (hw : 0 ≤ w ∧ w ≤ 2) (ht : 0 ≤ t ∧ t ≤ 2) : ([ni 0, ni 0, ni 1, ni 0, ni 0, ni 1, ni 2, ni 0, ni 1] : List AV)[0 + w.toNat * 3 + t.toNat * 1]? = some (ni (nxt w t)) := by
  have hw' : w = 0 ∨ w = 1 ∨ w = 2 := by omega
  have ht' : t = 0 ∨ t = 1 ∨ t = 2 := by omega
  rcases hw' with rfl | rfl | rfl <;> rcases ht' with rfl | rfl | rfl <;> rfl
theorem sy_ne {s t : Sy} (h : s ≠ t) : (if false = true then !((s.a.toNat : Int) == (t.a.toNat : Int) && ((s.b.toNat : Int) == (t.b.toNat : Int) && ((s.c.toNat : Int) == (t.c.toNat : Int) && ((s.d.toNat : Int) == (t.d.toNat : Int) && ((s.e.toNat : Int) == (t.e.toNat : Int) && ((s.f.toNat : Int) == (t.f.toNat : Int) && true)))))) else (s.a.toNat : Int) == (t.a.toNat : Int) && ((s.b.toNat : Int) == (t.b.toNat : Int) && ((s.c.toNat : Int) == (t.c.toNat : Int) && ((s.d.toNat : Int) == (t.d.toNat : Int) && ((s.e.toNat : Int) == (t.e.toNat : Int) && ((s.f.toNat : Int) == (t.f.toNat : Int) && true)))))) = false := by
  simp only [Bool.false_eq_true, ↓reduceIte, sy_eq]; simpa using h
theorem sy_is {s t : Sy} (h : s = t) : (if false = true then !((s.a.toNat : Int) == (t.a.toNat : Int) && ((s.b.toNat : Int) == (t.b.toNat : Int) && ((s.c.toNat : Int) == (t.c.toNat : Int) && ((s.d.toNat : Int) == (t.d.toNat : Int) && ((s.e.toNat : Int) == (t.e.toNat : Int) && ((s.f.toNat : Int) == (t.f.toNat : Int) && true)))))) else (s.a.toNat : Int) == (t.a.toNat : Int) && ((s.b.toNat : Int) == (t.b.toNat : Int) && ((s.c.toNat : Int) == (t.c.toNat : Int) && ((s.d.toNat : Int) == (t.d.toNat : Int) && ((s.e.toNat : Int) == (t.e.toNat : Int) && ((s.f.toNat : Int) == (t.f.toNat : Int) && true)))))) = true := by
  simp only [Bool.false_eq_true, ↓reduceIte, sy_eq]; simpa using h
theorem was_rng {l : Loc} {a : Adj} {h : Hel} {now : Int} (f : fits l a h now) (c : Int) : 0 ≤ was a h c ∧ was a h c ≤ 2 := by
  have := f.2.2.1
  unfold was
  split <;> omega
theorem told_rng {l : Loc} {a : Adj} {h : Hel} {now : Int} (f : fits l a h now) : 0 ≤ told h ∧ told h ≤ 2 := by
  have := f.2.2.2.1
  unfold told
  split <;> omega

theorem Doc_all (l : Loc) (a : Adj) (h : Hel) (now : Int) (hl : Small l.areas) (hh : Small h.areas) : FnOk Try.prog 14 (args l a h now) (.tup [adjA (stepS l a h now).1, ni (stepS l a h now).2]) := by
  unfold stepS chk
  by_cases f : fits l a h now
  case neg =>
    rw [if_neg f, if_neg (by decide)]
    exact Doc_bad l a h now (fit0 l a h now f)
  rw [if_pos f]
  have g1 := fit1 l a h now f
  by_cases f2 : long l h
  case pos =>
    rw [if_pos f2, if_neg (by decide)]
    exact Doc_long l a h now g1 (long1 l a h now f2)
  rw [if_neg f2]
  have g2 := long0 l a h now f2
  by_cases f3 : l.sys = h.sys
  case pos =>
    rw [if_pos f3, if_neg (by decide)]
    exact Doc_same l a h now g1 g2 (sy_is f3)
  rw [if_neg f3, if_pos rfl]
  have g3 := sy_ne f3
  have hs : FnW Try.prog 30 [AV.sl false false 1 (stale.sL (vsS l.areas)), AV.sl false false 1 (stale.sL (vsS h.areas))] [slV l.areas, slV h.areas] (AV.bool (shr l.areas h.areas)) := .of (.cons (slV_arg _) (.cons (slV_arg _) .nil)) (rshare_ok l.areas h.areas hl hh)
  have hc : FnW Try.prog 29 [ni l.level, ni h.level, .bool (shr l.areas h.areas)] [ni l.level, ni h.level, .bool (shr l.areas h.areas)] (ni (cm l h)) := ⟨VLe.refl, Common_ok _ f.1 f.2.1⟩
  unfold stepR
  by_cases e1 : cm l h = 0
  · rw [if_pos e1]
    rw [e1] at hc
    exact Doc_none l a h now _ g1 g2 g3 hs hc
  rw [if_neg e1]
  have e1' : (cm l h == 0) = false := by simpa using e1
  by_cases e2 : mism l h
  · rw [if_pos e2]
    obtain ⟨n1, n2⟩ := e2
    refine Doc_other l a h now _ _ g1 g2 g3 hs hc e1' ?_
    by_cases e3 : h.their = l.sys
    · exact Dc_nm2 l a h now _ false n1 (sy_is e3) (by rw [u8_beq]; simpa using fun e => n2 ⟨e3, e⟩)
    · exact Dc_nm1 l a h now _ n1 (sy_ne e3)
  rw [if_neg e2]
  have hnm : Runs Try.prog T14 153 sg14x82x98 (q14 l a h now [(10, ni (cm l h))]) fun x => x = (.normal, q14 l a h now [(10, ni (cm l h)), (98, .bool false)]) := by
    cases n1 : h.named with
    | false => exact Dc_nm0 l a h now _ n1
    | true =>
      have n2 : h.their = l.sys ∧ h.there = l.num := Classical.byContradiction fun n => e2 ⟨n1, n⟩
      exact Dc_nm2 l a h now _ true n1 (sy_is n2.1) (by rw [n2.2]; simp)
  have hwas : Runs Try.prog T14 153 sg14x102x11 (q14 l a h now [(10, ni (cm l h)), (11, ni a.state)]) fun x => x = (.normal, q14 l a h now [(10, ni (cm l h)), (11, ni (was a h (cm l h)))]) := by
    by_cases p0 : a.state = 2
    · have : was a h (cm l h) = a.state := by unfold was; split <;> simp [p0]
      rw [this]
      exact Dc_was2 l a h now _ (by simpa using p0)
    have p0' : (a.state != 2) = true := by simpa using p0
    unfold was
    by_cases p1 : a.peer = h.sys
    case neg =>
      rw [if_neg fun p => p1 p.1]
      exact Dc_wasP l a h now _ p0' (sy_ne p1)
    by_cases p2 : a.num = h.num
    case neg =>
      rw [if_neg fun p => p2 p.2.1]
      exact Dc_wasN l a h now _ p0' (sy_is p1) (by rw [u8_beq]; simpa using p2)
    have p2' : ((a.num.toNat : Int) == (h.num.toNat : Int)) = true := by rw [p2]; simp
    by_cases p3 : a.level = cm l h
    case neg =>
      rw [if_neg fun p => p3 p.2.2]
      exact Dc_wasL l a h now _ p0' (sy_is p1) p2' (by simpa using p3)
    rw [if_pos ⟨p1, p2, p3⟩]
    exact Dc_was0 l a h now _ p0' (sy_is p1) p2' (by simpa using p3)
  have htold : Runs Try.prog T14 153 sg14x127x12 (q14 l a h now [(10, ni (cm l h)), (11, ni (was a h (cm l h))), (12, ni h.state)]) fun x => x = (.normal, q14 l a h now [(10, ni (cm l h)), (11, ni (was a h (cm l h))), (12, ni (told h))]) := by
    unfold told
    cases n1 : h.named with
    | false => exact Dc_told1 l a h now _ _ _ (by rw [n1]; rfl)
    | true => exact Dc_told0 l a h now _ _ _ (by rw [n1]; rfl)
  have wr := was_rng f (cm l h)
  have tr := told_rng f
  have ht := tab wr tr
  by_cases e3 : nxt (was a h (cm l h)) (told h) = 2
  · rw [if_pos e3]
    rw [e3] at ht
    exact Doc_down l a h now _ _ _ _ g1 g2 g3 hs hc e1' hnm hwas htold wr.1 (by show _ < (3 : Int); omega) tr.1 (by show _ < (3 : Int); omega) ht
  · rw [if_neg e3]
    exact Doc_up l a h now _ _ _ _ _ _ g1 g2 g3 hs hc e1' hnm hwas htold wr.1 (by show _ < (3 : Int); omega) tr.1 (by show _ < (3 : Int); omega) ht (by simpa using e3) (until_ok f.2.2.2.2.2 f.2.2.2.2.1)
end Go.Ev

/-! text T3 -/
set_option linter.unusedVariables false
namespace Go.Ev
open Go.Proofs (Try.prog)
def argsA (l : Loc) (a : Adj) (h : Hel) (now : Int) : List AV := [locA l, adjA a, helA h, ni now]
/-- A hello that names another one. -/
def helN (h : Hel) (x : UInt8) : Hel := { h with named := true, their := { h.their with a := x } }
/-- A hello of one that was started anew. -/
def helD (h : Hel) : Hel := { h with named := false, state := 2 }
abbrev q4 (l : Loc) (a : Adj) (h : Hel) (now : Int) (xs : List (Nat × AV)) : List AV := st 92 ([(3, ni now), (4, .box (locC l)), (5, .box (adjC a)), (6, .box (helC h))] ++ xs)
abbrev q6O (l : Loc) (h : Hel) (b : Adj) (g : Bool) (i : Nat) : List AV := st 107 [(3, .box (locC l)), (4, .box (helC h)), (7, .box (adjC b)), (9, .bool g), (37, slV l.areas), (38, nn l.areas.length), (39, nn i)]
abbrev q6I (l : Loc) (h : Hel) (b : Adj) (g : Bool) (i : Nat) (x : List UInt8) (j : Nat) : List AV := st 107 [(3, .box (locC l)), (4, .box (helC h)), (7, .box (adjC b)), (9, .bool g), (11, vS x), (37, slV l.areas), (38, nn l.areas.length), (39, nn i), (44, slV h.areas), (45, nn h.areas.length), (46, nn j)]
abbrev q6E (l : Loc) (h : Hel) (b : Adj) (g : Bool) : List AV := st 107 [(3, .box (locC l)), (4, .box (helC h)), (7, .box (adjC b)), (9, .bool g)]
end Go.Ev
