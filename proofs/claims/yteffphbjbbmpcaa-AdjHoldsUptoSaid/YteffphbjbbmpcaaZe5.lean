import Derived.Test.YteffphbjbbmpcaaZe4
import Derived.KernelRfl

/-! text W4 -/
set_option linter.unusedVariables false
namespace Go.Ev
open Go.Proofs (Try.prog)
theorem Steps_way (l : Loc) (a b : Adj) (h : Hel) (now e : Int)
    (h1 : FnW Try.prog (10 : FuncId) [] [] (AV.bool true))
    (h2 : FnW Try.prog (11 : FuncId) [AV.agg [AV.int IntKind.u8 (↑l.sys.a.toNat : Int), AV.int IntKind.u8 (↑l.sys.b.toNat : Int), AV.int IntKind.u8 (↑l.sys.c.toNat : Int), AV.int IntKind.u8 (↑l.sys.d.toNat : Int), AV.int IntKind.u8 (↑l.sys.e.toNat : Int), AV.int IntKind.u8 (↑l.sys.f.toNat : Int), AV.int IntKind.u8 (↑l.num.toNat : Int), AV.int IntKind.i64 l.level, AV.sl false false (1 : Nat) (stale.sL (vsS l.areas))]] [locA l] (locF l))
    (h3 : freshA (locF l) = true)
    (h4 : FnW Try.prog (12 : FuncId) [AV.agg [AV.int IntKind.u8 (↑h.sys.a.toNat : Int), AV.int IntKind.u8 (↑h.sys.b.toNat : Int), AV.int IntKind.u8 (↑h.sys.c.toNat : Int), AV.int IntKind.u8 (↑h.sys.d.toNat : Int), AV.int IntKind.u8 (↑h.sys.e.toNat : Int), AV.int IntKind.u8 (↑h.sys.f.toNat : Int), AV.int IntKind.u8 (↑h.num.toNat : Int), AV.int IntKind.i64 h.level, AV.int IntKind.i64 h.hold, AV.sl false false (1 : Nat) (stale.sL (vsS h.areas)), AV.int IntKind.i64 h.state, AV.bool h.named, AV.int IntKind.u8 (↑h.their.a.toNat : Int), AV.int IntKind.u8 (↑h.their.b.toNat : Int), AV.int IntKind.u8 (↑h.their.c.toNat : Int), AV.int IntKind.u8 (↑h.their.d.toNat : Int), AV.int IntKind.u8 (↑h.their.e.toNat : Int), AV.int IntKind.u8 (↑h.their.f.toNat : Int), AV.int IntKind.u8 (↑h.there.toNat : Int)]] [helA h] (helF h))
    (h5 : freshA (helF h) = true)
    (h6 : FnW Try.prog (13 : FuncId) [AV.agg [AV.int IntKind.u8 (↑l.sys.a.toNat : Int), AV.int IntKind.u8 (↑l.sys.b.toNat : Int), AV.int IntKind.u8 (↑l.sys.c.toNat : Int), AV.int IntKind.u8 (↑l.sys.d.toNat : Int), AV.int IntKind.u8 (↑l.sys.e.toNat : Int), AV.int IntKind.u8 (↑l.sys.f.toNat : Int), AV.int IntKind.u8 (↑l.num.toNat : Int), AV.int IntKind.i64 l.level, AV.sl false false (1 : Nat) (stale.sL (vsF l.areas))], AV.agg [AV.int IntKind.i64 a.state, AV.int IntKind.u8 (↑a.peer.a.toNat : Int), AV.int IntKind.u8 (↑a.peer.b.toNat : Int), AV.int IntKind.u8 (↑a.peer.c.toNat : Int), AV.int IntKind.u8 (↑a.peer.d.toNat : Int), AV.int IntKind.u8 (↑a.peer.e.toNat : Int), AV.int IntKind.u8 (↑a.peer.f.toNat : Int), AV.int IntKind.u8 (↑a.num.toNat : Int), AV.int IntKind.i64 a.level, AV.int IntKind.i64 a.til], AV.agg [AV.int IntKind.u8 (↑h.sys.a.toNat : Int), AV.int IntKind.u8 (↑h.sys.b.toNat : Int), AV.int IntKind.u8 (↑h.sys.c.toNat : Int), AV.int IntKind.u8 (↑h.sys.d.toNat : Int), AV.int IntKind.u8 (↑h.sys.e.toNat : Int), AV.int IntKind.u8 (↑h.sys.f.toNat : Int), AV.int IntKind.u8 (↑h.num.toNat : Int), AV.int IntKind.i64 h.level, AV.int IntKind.i64 h.hold, AV.sl false false (1 : Nat) (stale.sL (vsF h.areas)), AV.int IntKind.i64 h.state, AV.bool h.named, AV.int IntKind.u8 (↑h.their.a.toNat : Int), AV.int IntKind.u8 (↑h.their.b.toNat : Int), AV.int IntKind.u8 (↑h.their.c.toNat : Int), AV.int IntKind.u8 (↑h.their.d.toNat : Int), AV.int IntKind.u8 (↑h.their.e.toNat : Int), AV.int IntKind.u8 (↑h.their.f.toNat : Int), AV.int IntKind.u8 (↑h.there.toNat : Int)], AV.int IntKind.i64 now] (argsA l a h now) (AV.tup [adjA b, ni e]))
    (h7 : FnW Try.prog (14 : FuncId) [AV.agg [AV.int IntKind.u8 (↑l.sys.a.toNat : Int), AV.int IntKind.u8 (↑l.sys.b.toNat : Int), AV.int IntKind.u8 (↑l.sys.c.toNat : Int), AV.int IntKind.u8 (↑l.sys.d.toNat : Int), AV.int IntKind.u8 (↑l.sys.e.toNat : Int), AV.int IntKind.u8 (↑l.sys.f.toNat : Int), AV.int IntKind.u8 (↑l.num.toNat : Int), AV.int IntKind.i64 l.level, AV.sl false false (1 : Nat) (stale.sL (vsS l.areas))], AV.agg [AV.int IntKind.i64 a.state, AV.int IntKind.u8 (↑a.peer.a.toNat : Int), AV.int IntKind.u8 (↑a.peer.b.toNat : Int), AV.int IntKind.u8 (↑a.peer.c.toNat : Int), AV.int IntKind.u8 (↑a.peer.d.toNat : Int), AV.int IntKind.u8 (↑a.peer.e.toNat : Int), AV.int IntKind.u8 (↑a.peer.f.toNat : Int), AV.int IntKind.u8 (↑a.num.toNat : Int), AV.int IntKind.i64 a.level, AV.int IntKind.i64 a.til], AV.agg [AV.int IntKind.u8 (↑h.sys.a.toNat : Int), AV.int IntKind.u8 (↑h.sys.b.toNat : Int), AV.int IntKind.u8 (↑h.sys.c.toNat : Int), AV.int IntKind.u8 (↑h.sys.d.toNat : Int), AV.int IntKind.u8 (↑h.sys.e.toNat : Int), AV.int IntKind.u8 (↑h.sys.f.toNat : Int), AV.int IntKind.u8 (↑h.num.toNat : Int), AV.int IntKind.i64 h.level, AV.int IntKind.i64 h.hold, AV.sl false false (1 : Nat) (stale.sL (vsS h.areas)), AV.int IntKind.i64 h.state, AV.bool h.named, AV.int IntKind.u8 (↑h.their.a.toNat : Int), AV.int IntKind.u8 (↑h.their.b.toNat : Int), AV.int IntKind.u8 (↑h.their.c.toNat : Int), AV.int IntKind.u8 (↑h.their.d.toNat : Int), AV.int IntKind.u8 (↑h.their.e.toNat : Int), AV.int IntKind.u8 (↑h.their.f.toNat : Int), AV.int IntKind.u8 (↑h.there.toNat : Int)], AV.int IntKind.i64 now] (argsA l a h now) (AV.tup [adjA b, ni e]))
    (h8 : (if false = true then !(b.state == b.state && ((↑b.peer.a.toNat : Int) == (↑b.peer.a.toNat : Int) && ((↑b.peer.b.toNat : Int) == (↑b.peer.b.toNat : Int) && ((↑b.peer.c.toNat : Int) == (↑b.peer.c.toNat : Int) && ((↑b.peer.d.toNat : Int) == (↑b.peer.d.toNat : Int) && ((↑b.peer.e.toNat : Int) == (↑b.peer.e.toNat : Int) && ((↑b.peer.f.toNat : Int) == (↑b.peer.f.toNat : Int) && ((↑b.num.toNat : Int) == (↑b.num.toNat : Int) && (b.level == b.level && (b.til == b.til && true)))))))))) else b.state == b.state && ((↑b.peer.a.toNat : Int) == (↑b.peer.a.toNat : Int) && ((↑b.peer.b.toNat : Int) == (↑b.peer.b.toNat : Int) && ((↑b.peer.c.toNat : Int) == (↑b.peer.c.toNat : Int) && ((↑b.peer.d.toNat : Int) == (↑b.peer.d.toNat : Int) && ((↑b.peer.e.toNat : Int) == (↑b.peer.e.toNat : Int) && ((↑b.peer.f.toNat : Int) == (↑b.peer.f.toNat : Int) && ((↑b.num.toNat : Int) == (↑b.num.toNat : Int) && (b.level == b.level && (b.til == b.til && true)))))))))) = true)
    (h9 : (e == e) = true)
    (h10 : FnW Try.prog (15 : FuncId) [AV.sl false false (1 : Nat) (stale.sL (vsF l.areas)), AV.sl false false (1 : Nat) (stale.sL (vsS l.areas))] [slV l.areas, slV l.areas] (AV.bool true))
    (h11 : FnW Try.prog (15 : FuncId) [AV.sl false false (1 : Nat) (stale.sL (vsF h.areas)), AV.sl false false (1 : Nat) (stale.sL (vsS h.areas))] [slV h.areas, slV h.areas] (AV.bool true)) :
    WayF Try.prog 3 T3 fd3 [(15, .c [] (.bool true)), (18, .c [locA l] (locF l)), (20, .c [helA h] (helF h)), (26, .c (argsA l a h now) (.tup [adjA b, ni e])), (34, .c (argsA l a h now) (.tup [adjA b, ni e])), (39, .b true), (43, .b true), (50, .c [slV l.areas, slV l.areas] (.bool true)), (57, .c [slV h.areas, slV h.areas] (.bool true))] (argsA l a h now) (.bool true) :=
  fn_of_pr hfol ok3 hT3 (show prF Try.prog 3 T3 fd3 [(15, .c [] (.bool true)), (18, .c [locA l] (locF l)), (20, .c [helA h] (helF h)), (26, .c (argsA l a h now) (.tup [adjA b, ni e])), (34, .c (argsA l a h now) (.tup [adjA b, ni e])), (39, .b true), (43, .b true), (50, .c [slV l.areas, slV l.areas] (.bool true)), (57, .c [slV h.areas, slV h.areas] (.bool true))] (argsA l a h now) (.bool true) = some _ by kernel_rfl) (AllP.c h1 (AllP.c (show freshA (AV.bool true) = true by kernel_rfl) (AllP.c h2 (AllP.c h3 (AllP.c h4 (AllP.c h5 (AllP.c h6 (AllP.c (show freshA (AV.tup [adjA b, ni e]) = true by kernel_rfl) (AllP.c h7 (AllP.c (show freshA (AV.tup [adjA b, ni e]) = true by kernel_rfl) (AllP.c h8 (AllP.c h9 (AllP.c h10 (AllP.c (show freshA (AV.bool true) = true by kernel_rfl) (AllP.c h11 (AllP.c (show freshA (AV.bool true) = true by kernel_rfl) (AllP.c (show AV.bool true = AV.bool true by kernel_rfl) AllP.n)))))))))))))))))
theorem Ap_their1 (l : Loc) (a : Adj) (h : Hel) (now : Int) (x : UInt8)
    (h1 : (if false = true then !((↑(helN h h.their.a).their.a.toNat : Int) == (↑l.sys.a.toNat : Int) && ((↑(helN h h.their.a).their.b.toNat : Int) == (↑l.sys.b.toNat : Int) && ((↑(helN h h.their.a).their.c.toNat : Int) == (↑l.sys.c.toNat : Int) && ((↑(helN h h.their.a).their.d.toNat : Int) == (↑l.sys.d.toNat : Int) && ((↑(helN h h.their.a).their.e.toNat : Int) == (↑l.sys.e.toNat : Int) && ((↑(helN h h.their.a).their.f.toNat : Int) == (↑l.sys.f.toNat : Int) && true)))))) else (↑(helN h h.their.a).their.a.toNat : Int) == (↑l.sys.a.toNat : Int) && ((↑(helN h h.their.a).their.b.toNat : Int) == (↑l.sys.b.toNat : Int) && ((↑(helN h h.their.a).their.c.toNat : Int) == (↑l.sys.c.toNat : Int) && ((↑(helN h h.their.a).their.d.toNat : Int) == (↑l.sys.d.toNat : Int) && ((↑(helN h h.their.a).their.e.toNat : Int) == (↑l.sys.e.toNat : Int) && ((↑(helN h h.their.a).their.f.toNat : Int) == (↑l.sys.f.toNat : Int) && true)))))) = true)
    (h2 : AV.int IntKind.u8 (IntKind.u8.wrap (↑(BitVec.ofInt (8 : Nat) (↑(helN h h.their.a).their.a.toNat : Int) ^^^ BitVec.ofInt (8 : Nat) (1 : Int)).toNat : Int)) = AV.int IntKind.u8 (↑x.toNat : Int)) :
    WayR Try.prog T4 92 sg4x16x26 [(20, .b true), (24, .n (bA x))] (q4 l a (helN h h.their.a) now []) .normal (q4 l a (helN h x) now []) :=
  runs_of_pr hfol (show prR Try.prog T4 92 sg4x16x26 [(20, .b true), (24, .n (bA x))] (q4 l a (helN h h.their.a) now []) .normal (q4 l a (helN h x) now []) = some _ by kernel_rfl) (AllP.c h1 (AllP.c h2 (AllP.c (LeR.refl (x := AV.int IntKind.i64 now)) (AllP.c (LeR.refl (x := AV.box (locC l))) (AllP.c (LeR.refl (x := AV.box (adjC a))) (AllP.c (LeR.refl (x := AV.box (helC (helN h x)))) (AllP.c (LeR.refl (x := AV.mem [])) AllP.n)))))))
theorem Ap_their0 (l : Loc) (a : Adj) (h : Hel) (now : Int)
    (h1 : (if false = true then !((↑(helN h h.their.a).their.a.toNat : Int) == (↑l.sys.a.toNat : Int) && ((↑(helN h h.their.a).their.b.toNat : Int) == (↑l.sys.b.toNat : Int) && ((↑(helN h h.their.a).their.c.toNat : Int) == (↑l.sys.c.toNat : Int) && ((↑(helN h h.their.a).their.d.toNat : Int) == (↑l.sys.d.toNat : Int) && ((↑(helN h h.their.a).their.e.toNat : Int) == (↑l.sys.e.toNat : Int) && ((↑(helN h h.their.a).their.f.toNat : Int) == (↑l.sys.f.toNat : Int) && true)))))) else (↑(helN h h.their.a).their.a.toNat : Int) == (↑l.sys.a.toNat : Int) && ((↑(helN h h.their.a).their.b.toNat : Int) == (↑l.sys.b.toNat : Int) && ((↑(helN h h.their.a).their.c.toNat : Int) == (↑l.sys.c.toNat : Int) && ((↑(helN h h.their.a).their.d.toNat : Int) == (↑l.sys.d.toNat : Int) && ((↑(helN h h.their.a).their.e.toNat : Int) == (↑l.sys.e.toNat : Int) && ((↑(helN h h.their.a).their.f.toNat : Int) == (↑l.sys.f.toNat : Int) && true)))))) = false) :
    WayR Try.prog T4 92 sg4x16x26 [(20, .b false)] (q4 l a (helN h h.their.a) now []) .normal (q4 l a (helN h h.their.a) now []) :=
  runs_of_pr hfol (show prR Try.prog T4 92 sg4x16x26 [(20, .b false)] (q4 l a (helN h h.their.a) now []) .normal (q4 l a (helN h h.their.a) now []) = some _ by kernel_rfl) (AllP.c h1 (AllP.c (LeR.refl (x := AV.int IntKind.i64 now)) (AllP.c (LeR.refl (x := AV.box (locC l))) (AllP.c (LeR.refl (x := AV.box (adjC a))) (AllP.c (LeR.refl (x := AV.box (helC (helN h h.their.a)))) (AllP.c (LeR.refl (x := AV.mem [])) AllP.n))))))
theorem Ap_err (l : Loc) (a b : Adj) (h : Hel) (now e : Int)
    (h1 : (e != (0 : Int)) = true)
    (h2 : (e != (12 : Int)) = true)
    (h3 : (if true = true then !(b.state == a.state && ((↑b.peer.a.toNat : Int) == (↑a.peer.a.toNat : Int) && ((↑b.peer.b.toNat : Int) == (↑a.peer.b.toNat : Int) && ((↑b.peer.c.toNat : Int) == (↑a.peer.c.toNat : Int) && ((↑b.peer.d.toNat : Int) == (↑a.peer.d.toNat : Int) && ((↑b.peer.e.toNat : Int) == (↑a.peer.e.toNat : Int) && ((↑b.peer.f.toNat : Int) == (↑a.peer.f.toNat : Int) && ((↑b.num.toNat : Int) == (↑a.num.toNat : Int) && (b.level == a.level && (b.til == a.til && true)))))))))) else b.state == a.state && ((↑b.peer.a.toNat : Int) == (↑a.peer.a.toNat : Int) && ((↑b.peer.b.toNat : Int) == (↑a.peer.b.toNat : Int) && ((↑b.peer.c.toNat : Int) == (↑a.peer.c.toNat : Int) && ((↑b.peer.d.toNat : Int) == (↑a.peer.d.toNat : Int) && ((↑b.peer.e.toNat : Int) == (↑a.peer.e.toNat : Int) && ((↑b.peer.f.toNat : Int) == (↑a.peer.f.toNat : Int) && ((↑b.num.toNat : Int) == (↑a.num.toNat : Int) && (b.level == a.level && (b.til == a.til && true)))))))))) = false)
    (h4 : (e == (0 : Int)) = false) :
    WayR Try.prog T4 92 sg4x37x56 [(38, .b true), (41, .b true), (46, .b false), (50, .b false)] (q4 l a h now [(9, .box (adjC b)), (10, ni e)]) .normal (q4 l a h now [(56, .bool false)]) :=
  runs_of_pr hfol (show prR Try.prog T4 92 sg4x37x56 [(38, .b true), (41, .b true), (46, .b false), (50, .b false)] (q4 l a h now [(9, .box (adjC b)), (10, ni e)]) .normal (q4 l a h now [(56, .bool false)]) = some _ by kernel_rfl) (AllP.c h1 (AllP.c h2 (AllP.c h3 (AllP.c h4 (AllP.c (LeR.refl (x := AV.int IntKind.i64 now)) (AllP.c (LeR.refl (x := AV.box (locC l))) (AllP.c (LeR.refl (x := AV.box (adjC a))) (AllP.c (LeR.refl (x := AV.box (helC h))) (AllP.c (LeR.refl (x := AV.bool false)) (AllP.c (LeR.refl (x := AV.mem [])) AllP.n))))))))))
theorem Ap_none (l : Loc) (a b : Adj) (h : Hel) (now e : Int)
    (h1 : (e != (0 : Int)) = true)
    (h2 : (e != (12 : Int)) = false)
    (h3 : (e == (0 : Int)) = false) :
    WayR Try.prog T4 92 sg4x37x56 [(38, .b true), (41, .b false), (50, .b false)] (q4 l a h now [(9, .box (adjC b)), (10, ni e)]) .normal (q4 l a h now [(56, .bool false)]) :=
  runs_of_pr hfol (show prR Try.prog T4 92 sg4x37x56 [(38, .b true), (41, .b false), (50, .b false)] (q4 l a h now [(9, .box (adjC b)), (10, ni e)]) .normal (q4 l a h now [(56, .bool false)]) = some _ by kernel_rfl) (AllP.c h1 (AllP.c h2 (AllP.c h3 (AllP.c (LeR.refl (x := AV.int IntKind.i64 now)) (AllP.c (LeR.refl (x := AV.box (locC l))) (AllP.c (LeR.refl (x := AV.box (adjC a))) (AllP.c (LeR.refl (x := AV.box (helC h))) (AllP.c (LeR.refl (x := AV.bool false)) (AllP.c (LeR.refl (x := AV.mem [])) AllP.n)))))))))
theorem Ap_same (l : Loc) (a b : Adj) (h : Hel) (now e : Int)
    (h1 : (e != (0 : Int)) = false)
    (h2 : (e == (0 : Int)) = true)
    (h3 : (if true = true then !(b.state == a.state && ((↑b.peer.a.toNat : Int) == (↑a.peer.a.toNat : Int) && ((↑b.peer.b.toNat : Int) == (↑a.peer.b.toNat : Int) && ((↑b.peer.c.toNat : Int) == (↑a.peer.c.toNat : Int) && ((↑b.peer.d.toNat : Int) == (↑a.peer.d.toNat : Int) && ((↑b.peer.e.toNat : Int) == (↑a.peer.e.toNat : Int) && ((↑b.peer.f.toNat : Int) == (↑a.peer.f.toNat : Int) && ((↑b.num.toNat : Int) == (↑a.num.toNat : Int) && (b.level == a.level && (b.til == a.til && true)))))))))) else b.state == a.state && ((↑b.peer.a.toNat : Int) == (↑a.peer.a.toNat : Int) && ((↑b.peer.b.toNat : Int) == (↑a.peer.b.toNat : Int) && ((↑b.peer.c.toNat : Int) == (↑a.peer.c.toNat : Int) && ((↑b.peer.d.toNat : Int) == (↑a.peer.d.toNat : Int) && ((↑b.peer.e.toNat : Int) == (↑a.peer.e.toNat : Int) && ((↑b.peer.f.toNat : Int) == (↑a.peer.f.toNat : Int) && ((↑b.num.toNat : Int) == (↑a.num.toNat : Int) && (b.level == a.level && (b.til == a.til && true)))))))))) = false) :
    WayR Try.prog T4 92 sg4x37x56 [(38, .b false), (50, .b true), (54, .b false)] (q4 l a h now [(9, .box (adjC b)), (10, ni e)]) .normal (q4 l a h now [(56, .bool false)]) :=
  runs_of_pr hfol (show prR Try.prog T4 92 sg4x37x56 [(38, .b false), (50, .b true), (54, .b false)] (q4 l a h now [(9, .box (adjC b)), (10, ni e)]) .normal (q4 l a h now [(56, .bool false)]) = some _ by kernel_rfl) (AllP.c h1 (AllP.c h2 (AllP.c h3 (AllP.c (LeR.refl (x := AV.int IntKind.i64 now)) (AllP.c (LeR.refl (x := AV.box (locC l))) (AllP.c (LeR.refl (x := AV.box (adjC a))) (AllP.c (LeR.refl (x := AV.box (helC h))) (AllP.c (LeR.refl (x := AV.bool false)) (AllP.c (LeR.refl (x := AV.mem [])) AllP.n)))))))))
theorem Apart_err (l : Loc) (a b c : Adj) (h : Hel) (now e f : Int) (x : UInt8)
    (h1 : FnW Try.prog (10 : FuncId) [] [] (AV.bool true))
    (h2 : Runs Try.prog T4 (92 : Nat) sg4x16x26 (q4 l a (helN h h.their.a) now []) fun x_1 => x_1 = (Ex.normal, q4 l a (helN h x) now []))
    (h3 : FnW Try.prog (11 : FuncId) [AV.agg [AV.int IntKind.u8 (↑l.sys.a.toNat : Int), AV.int IntKind.u8 (↑l.sys.b.toNat : Int), AV.int IntKind.u8 (↑l.sys.c.toNat : Int), AV.int IntKind.u8 (↑l.sys.d.toNat : Int), AV.int IntKind.u8 (↑l.sys.e.toNat : Int), AV.int IntKind.u8 (↑l.sys.f.toNat : Int), AV.int IntKind.u8 (↑l.num.toNat : Int), AV.int IntKind.i64 l.level, AV.sl false false (1 : Nat) (stale.sL (vsS l.areas))]] [locA l] (locF l))
    (h4 : freshA (locF l) = true)
    (h5 : FnW Try.prog (12 : FuncId) [AV.agg [AV.int IntKind.u8 (↑(helN h x).sys.a.toNat : Int), AV.int IntKind.u8 (↑(helN h x).sys.b.toNat : Int), AV.int IntKind.u8 (↑(helN h x).sys.c.toNat : Int), AV.int IntKind.u8 (↑(helN h x).sys.d.toNat : Int), AV.int IntKind.u8 (↑(helN h x).sys.e.toNat : Int), AV.int IntKind.u8 (↑(helN h x).sys.f.toNat : Int), AV.int IntKind.u8 (↑(helN h x).num.toNat : Int), AV.int IntKind.i64 (helN h x).level, AV.int IntKind.i64 (helN h x).hold, AV.sl false false (1 : Nat) (stale.sL (vsS (helN h x).areas)), AV.int IntKind.i64 (helN h x).state, AV.bool (helN h x).named, AV.int IntKind.u8 (↑(helN h x).their.a.toNat : Int), AV.int IntKind.u8 (↑(helN h x).their.b.toNat : Int), AV.int IntKind.u8 (↑(helN h x).their.c.toNat : Int), AV.int IntKind.u8 (↑(helN h x).their.d.toNat : Int), AV.int IntKind.u8 (↑(helN h x).their.e.toNat : Int), AV.int IntKind.u8 (↑(helN h x).their.f.toNat : Int), AV.int IntKind.u8 (↑(helN h x).there.toNat : Int)]] [helA (helN h x)] (helF (helN h x)))
    (h6 : freshA (helF (helN h x)) = true)
    (h7 : FnW Try.prog (13 : FuncId) [AV.agg [AV.int IntKind.u8 (↑l.sys.a.toNat : Int), AV.int IntKind.u8 (↑l.sys.b.toNat : Int), AV.int IntKind.u8 (↑l.sys.c.toNat : Int), AV.int IntKind.u8 (↑l.sys.d.toNat : Int), AV.int IntKind.u8 (↑l.sys.e.toNat : Int), AV.int IntKind.u8 (↑l.sys.f.toNat : Int), AV.int IntKind.u8 (↑l.num.toNat : Int), AV.int IntKind.i64 l.level, AV.sl false false (1 : Nat) (stale.sL (vsF l.areas))], AV.agg [AV.int IntKind.i64 a.state, AV.int IntKind.u8 (↑a.peer.a.toNat : Int), AV.int IntKind.u8 (↑a.peer.b.toNat : Int), AV.int IntKind.u8 (↑a.peer.c.toNat : Int), AV.int IntKind.u8 (↑a.peer.d.toNat : Int), AV.int IntKind.u8 (↑a.peer.e.toNat : Int), AV.int IntKind.u8 (↑a.peer.f.toNat : Int), AV.int IntKind.u8 (↑a.num.toNat : Int), AV.int IntKind.i64 a.level, AV.int IntKind.i64 a.til], AV.agg [AV.int IntKind.u8 (↑(helN h x).sys.a.toNat : Int), AV.int IntKind.u8 (↑(helN h x).sys.b.toNat : Int), AV.int IntKind.u8 (↑(helN h x).sys.c.toNat : Int), AV.int IntKind.u8 (↑(helN h x).sys.d.toNat : Int), AV.int IntKind.u8 (↑(helN h x).sys.e.toNat : Int), AV.int IntKind.u8 (↑(helN h x).sys.f.toNat : Int), AV.int IntKind.u8 (↑(helN h x).num.toNat : Int), AV.int IntKind.i64 (helN h x).level, AV.int IntKind.i64 (helN h x).hold, AV.sl false false (1 : Nat) (stale.sL (vsF (helN h x).areas)), AV.int IntKind.i64 (helN h x).state, AV.bool (helN h x).named, AV.int IntKind.u8 (↑(helN h x).their.a.toNat : Int), AV.int IntKind.u8 (↑(helN h x).their.b.toNat : Int), AV.int IntKind.u8 (↑(helN h x).their.c.toNat : Int), AV.int IntKind.u8 (↑(helN h x).their.d.toNat : Int), AV.int IntKind.u8 (↑(helN h x).their.e.toNat : Int), AV.int IntKind.u8 (↑(helN h x).their.f.toNat : Int), AV.int IntKind.u8 (↑(helN h x).there.toNat : Int)], AV.int IntKind.i64 now] (argsA l a (helN h x) now) (AV.tup [adjA b, ni e]))
    (h8 : Runs Try.prog T4 (92 : Nat) sg4x37x56 (q4 l a (helN h x) now [((9 : Nat), AV.box (adjC b)), ((10 : Nat), ni e)]) fun x_1 => x_1 = (Ex.normal, q4 l a (helN h x) now [((56 : Nat), AV.bool false)]))
    (h9 : FnW Try.prog (12 : FuncId) [AV.agg [AV.int IntKind.u8 (↑(helN h x).sys.a.toNat : Int), AV.int IntKind.u8 (↑(helN h x).sys.b.toNat : Int), AV.int IntKind.u8 (↑(helN h x).sys.c.toNat : Int), AV.int IntKind.u8 (↑(helN h x).sys.d.toNat : Int), AV.int IntKind.u8 (↑(helN h x).sys.e.toNat : Int), AV.int IntKind.u8 (↑(helN h x).sys.f.toNat : Int), AV.int IntKind.u8 (↑(helN h x).num.toNat : Int), AV.int IntKind.i64 (helN h x).level, AV.int IntKind.i64 (helN h x).hold, AV.sl false false (1 : Nat) (stale.sL (vsS (helN h x).areas)), AV.int IntKind.i64 (2 : Int), AV.bool false, AV.int IntKind.u8 (↑(helN h x).their.a.toNat : Int), AV.int IntKind.u8 (↑(helN h x).their.b.toNat : Int), AV.int IntKind.u8 (↑(helN h x).their.c.toNat : Int), AV.int IntKind.u8 (↑(helN h x).their.d.toNat : Int), AV.int IntKind.u8 (↑(helN h x).their.e.toNat : Int), AV.int IntKind.u8 (↑(helN h x).their.f.toNat : Int), AV.int IntKind.u8 (↑(helN h x).there.toNat : Int)]] [helA (helD (helN h x))] (helF (helD (helN h x))))
    (h10 : freshA (helF (helD (helN h x))) = true)
    (h11 : FnW Try.prog (13 : FuncId) [AV.agg [AV.int IntKind.u8 (↑l.sys.a.toNat : Int), AV.int IntKind.u8 (↑l.sys.b.toNat : Int), AV.int IntKind.u8 (↑l.sys.c.toNat : Int), AV.int IntKind.u8 (↑l.sys.d.toNat : Int), AV.int IntKind.u8 (↑l.sys.e.toNat : Int), AV.int IntKind.u8 (↑l.sys.f.toNat : Int), AV.int IntKind.u8 (↑l.num.toNat : Int), AV.int IntKind.i64 l.level, AV.sl false false (1 : Nat) (stale.sL (vsF l.areas))], AV.agg [AV.int IntKind.i64 a.state, AV.int IntKind.u8 (↑a.peer.a.toNat : Int), AV.int IntKind.u8 (↑a.peer.b.toNat : Int), AV.int IntKind.u8 (↑a.peer.c.toNat : Int), AV.int IntKind.u8 (↑a.peer.d.toNat : Int), AV.int IntKind.u8 (↑a.peer.e.toNat : Int), AV.int IntKind.u8 (↑a.peer.f.toNat : Int), AV.int IntKind.u8 (↑a.num.toNat : Int), AV.int IntKind.i64 a.level, AV.int IntKind.i64 a.til], AV.agg [AV.int IntKind.u8 (↑(helD (helN h x)).sys.a.toNat : Int), AV.int IntKind.u8 (↑(helD (helN h x)).sys.b.toNat : Int), AV.int IntKind.u8 (↑(helD (helN h x)).sys.c.toNat : Int), AV.int IntKind.u8 (↑(helD (helN h x)).sys.d.toNat : Int), AV.int IntKind.u8 (↑(helD (helN h x)).sys.e.toNat : Int), AV.int IntKind.u8 (↑(helD (helN h x)).sys.f.toNat : Int), AV.int IntKind.u8 (↑(helD (helN h x)).num.toNat : Int), AV.int IntKind.i64 (helD (helN h x)).level, AV.int IntKind.i64 (helD (helN h x)).hold, AV.sl false false (1 : Nat) (stale.sL (vsF (helD (helN h x)).areas)), AV.int IntKind.i64 (helD (helN h x)).state, AV.bool (helD (helN h x)).named, AV.int IntKind.u8 (↑(helD (helN h x)).their.a.toNat : Int), AV.int IntKind.u8 (↑(helD (helN h x)).their.b.toNat : Int), AV.int IntKind.u8 (↑(helD (helN h x)).their.c.toNat : Int), AV.int IntKind.u8 (↑(helD (helN h x)).their.d.toNat : Int), AV.int IntKind.u8 (↑(helD (helN h x)).their.e.toNat : Int), AV.int IntKind.u8 (↑(helD (helN h x)).their.f.toNat : Int), AV.int IntKind.u8 (↑(helD (helN h x)).there.toNat : Int)], AV.int IntKind.i64 now] (argsA l a (helD (helN h x)) now) (AV.tup [adjA c, ni f]))
    (h12 : (f != (0 : Int)) = true) :
    WayF Try.prog 4 T4 fd4 [(13, .c [] (.bool true)), (160026, .sg (q4 l a (helN h h.their.a) now []) .normal (q4 l a (helN h x) now [])), (29, .c [locA l] (locF l)), (32, .c [helA (helN h x)] (helF (helN h x))), (34, .c (argsA l a (helN h x) now) (.tup [adjA b, ni e])), (370056, .sg (q4 l a (helN h x) now [(9, .box (adjC b)), (10, ni e)]) .normal (q4 l a (helN h x) now [(56, .bool false)])), (61, .c [locA l] (locF l)), (64, .c [helA (helD (helN h x))] (helF (helD (helN h x)))), (66, .c (argsA l a (helD (helN h x)) now) (.tup [adjA c, ni f])), (70, .b true)] (argsA l a h now) (.bool true) :=
  fn_of_pr hfol ok4 hT4 (show prF Try.prog 4 T4 fd4 [(13, .c [] (.bool true)), (160026, .sg (q4 l a (helN h h.their.a) now []) .normal (q4 l a (helN h x) now [])), (29, .c [locA l] (locF l)), (32, .c [helA (helN h x)] (helF (helN h x))), (34, .c (argsA l a (helN h x) now) (.tup [adjA b, ni e])), (370056, .sg (q4 l a (helN h x) now [(9, .box (adjC b)), (10, ni e)]) .normal (q4 l a (helN h x) now [(56, .bool false)])), (61, .c [locA l] (locF l)), (64, .c [helA (helD (helN h x))] (helF (helD (helN h x)))), (66, .c (argsA l a (helD (helN h x)) now) (.tup [adjA c, ni f])), (70, .b true)] (argsA l a h now) (.bool true) = some _ by kernel_rfl) (AllP.c h1 (AllP.c (show freshA (AV.bool true) = true by kernel_rfl) (AllP.c (LeR.refl (x := AV.int IntKind.i64 now)) (AllP.c (LeR.refl (x := AV.box (locC l))) (AllP.c (LeR.refl (x := AV.box (adjC a))) (AllP.c (LeR.refl (x := AV.box (helC (helN h h.their.a)))) (AllP.c (LeR.refl (x := AV.mem [])) (AllP.c h2 (AllP.c h3 (AllP.c h4 (AllP.c h5 (AllP.c h6 (AllP.c h7 (AllP.c (show freshA (AV.tup [adjA b, ni e]) = true by kernel_rfl) (AllP.c (LeR.refl (x := AV.int IntKind.i64 now)) (AllP.c (LeR.refl (x := AV.box (locC l))) (AllP.c (LeR.refl (x := AV.box (adjC a))) (AllP.c (LeR.refl (x := AV.box (helC (helN h x)))) (AllP.c (LeR.refl (x := AV.box (adjC b))) (AllP.c (LeR.refl (x := AV.int IntKind.i64 e)) (AllP.c (LeR.refl (x := AV.mem [])) (AllP.c h8 (AllP.c h3 (AllP.c h4 (AllP.c h9 (AllP.c h10 (AllP.c h11 (AllP.c (show freshA (AV.tup [adjA c, ni f]) = true by kernel_rfl) (AllP.c h12 (AllP.c (show AV.bool true = AV.bool true by kernel_rfl) AllP.n))))))))))))))))))))))))))))))
theorem Apart_ok (l : Loc) (a b c : Adj) (h : Hel) (now e f : Int) (x : UInt8)
    (h1 : FnW Try.prog (10 : FuncId) [] [] (AV.bool true))
    (h2 : Runs Try.prog T4 (92 : Nat) sg4x16x26 (q4 l a (helN h h.their.a) now []) fun x_1 => x_1 = (Ex.normal, q4 l a (helN h x) now []))
    (h3 : FnW Try.prog (11 : FuncId) [AV.agg [AV.int IntKind.u8 (↑l.sys.a.toNat : Int), AV.int IntKind.u8 (↑l.sys.b.toNat : Int), AV.int IntKind.u8 (↑l.sys.c.toNat : Int), AV.int IntKind.u8 (↑l.sys.d.toNat : Int), AV.int IntKind.u8 (↑l.sys.e.toNat : Int), AV.int IntKind.u8 (↑l.sys.f.toNat : Int), AV.int IntKind.u8 (↑l.num.toNat : Int), AV.int IntKind.i64 l.level, AV.sl false false (1 : Nat) (stale.sL (vsS l.areas))]] [locA l] (locF l))
    (h4 : freshA (locF l) = true)
    (h5 : FnW Try.prog (12 : FuncId) [AV.agg [AV.int IntKind.u8 (↑(helN h x).sys.a.toNat : Int), AV.int IntKind.u8 (↑(helN h x).sys.b.toNat : Int), AV.int IntKind.u8 (↑(helN h x).sys.c.toNat : Int), AV.int IntKind.u8 (↑(helN h x).sys.d.toNat : Int), AV.int IntKind.u8 (↑(helN h x).sys.e.toNat : Int), AV.int IntKind.u8 (↑(helN h x).sys.f.toNat : Int), AV.int IntKind.u8 (↑(helN h x).num.toNat : Int), AV.int IntKind.i64 (helN h x).level, AV.int IntKind.i64 (helN h x).hold, AV.sl false false (1 : Nat) (stale.sL (vsS (helN h x).areas)), AV.int IntKind.i64 (helN h x).state, AV.bool (helN h x).named, AV.int IntKind.u8 (↑(helN h x).their.a.toNat : Int), AV.int IntKind.u8 (↑(helN h x).their.b.toNat : Int), AV.int IntKind.u8 (↑(helN h x).their.c.toNat : Int), AV.int IntKind.u8 (↑(helN h x).their.d.toNat : Int), AV.int IntKind.u8 (↑(helN h x).their.e.toNat : Int), AV.int IntKind.u8 (↑(helN h x).their.f.toNat : Int), AV.int IntKind.u8 (↑(helN h x).there.toNat : Int)]] [helA (helN h x)] (helF (helN h x)))
    (h6 : freshA (helF (helN h x)) = true)
    (h7 : FnW Try.prog (13 : FuncId) [AV.agg [AV.int IntKind.u8 (↑l.sys.a.toNat : Int), AV.int IntKind.u8 (↑l.sys.b.toNat : Int), AV.int IntKind.u8 (↑l.sys.c.toNat : Int), AV.int IntKind.u8 (↑l.sys.d.toNat : Int), AV.int IntKind.u8 (↑l.sys.e.toNat : Int), AV.int IntKind.u8 (↑l.sys.f.toNat : Int), AV.int IntKind.u8 (↑l.num.toNat : Int), AV.int IntKind.i64 l.level, AV.sl false false (1 : Nat) (stale.sL (vsF l.areas))], AV.agg [AV.int IntKind.i64 a.state, AV.int IntKind.u8 (↑a.peer.a.toNat : Int), AV.int IntKind.u8 (↑a.peer.b.toNat : Int), AV.int IntKind.u8 (↑a.peer.c.toNat : Int), AV.int IntKind.u8 (↑a.peer.d.toNat : Int), AV.int IntKind.u8 (↑a.peer.e.toNat : Int), AV.int IntKind.u8 (↑a.peer.f.toNat : Int), AV.int IntKind.u8 (↑a.num.toNat : Int), AV.int IntKind.i64 a.level, AV.int IntKind.i64 a.til], AV.agg [AV.int IntKind.u8 (↑(helN h x).sys.a.toNat : Int), AV.int IntKind.u8 (↑(helN h x).sys.b.toNat : Int), AV.int IntKind.u8 (↑(helN h x).sys.c.toNat : Int), AV.int IntKind.u8 (↑(helN h x).sys.d.toNat : Int), AV.int IntKind.u8 (↑(helN h x).sys.e.toNat : Int), AV.int IntKind.u8 (↑(helN h x).sys.f.toNat : Int), AV.int IntKind.u8 (↑(helN h x).num.toNat : Int), AV.int IntKind.i64 (helN h x).level, AV.int IntKind.i64 (helN h x).hold, AV.sl false false (1 : Nat) (stale.sL (vsF (helN h x).areas)), AV.int IntKind.i64 (helN h x).state, AV.bool (helN h x).named, AV.int IntKind.u8 (↑(helN h x).their.a.toNat : Int), AV.int IntKind.u8 (↑(helN h x).their.b.toNat : Int), AV.int IntKind.u8 (↑(helN h x).their.c.toNat : Int), AV.int IntKind.u8 (↑(helN h x).their.d.toNat : Int), AV.int IntKind.u8 (↑(helN h x).their.e.toNat : Int), AV.int IntKind.u8 (↑(helN h x).their.f.toNat : Int), AV.int IntKind.u8 (↑(helN h x).there.toNat : Int)], AV.int IntKind.i64 now] (argsA l a (helN h x) now) (AV.tup [adjA b, ni e]))
    (h8 : Runs Try.prog T4 (92 : Nat) sg4x37x56 (q4 l a (helN h x) now [((9 : Nat), AV.box (adjC b)), ((10 : Nat), ni e)]) fun x_1 => x_1 = (Ex.normal, q4 l a (helN h x) now [((56 : Nat), AV.bool false)]))
    (h9 : FnW Try.prog (12 : FuncId) [AV.agg [AV.int IntKind.u8 (↑(helN h x).sys.a.toNat : Int), AV.int IntKind.u8 (↑(helN h x).sys.b.toNat : Int), AV.int IntKind.u8 (↑(helN h x).sys.c.toNat : Int), AV.int IntKind.u8 (↑(helN h x).sys.d.toNat : Int), AV.int IntKind.u8 (↑(helN h x).sys.e.toNat : Int), AV.int IntKind.u8 (↑(helN h x).sys.f.toNat : Int), AV.int IntKind.u8 (↑(helN h x).num.toNat : Int), AV.int IntKind.i64 (helN h x).level, AV.int IntKind.i64 (helN h x).hold, AV.sl false false (1 : Nat) (stale.sL (vsS (helN h x).areas)), AV.int IntKind.i64 (2 : Int), AV.bool false, AV.int IntKind.u8 (↑(helN h x).their.a.toNat : Int), AV.int IntKind.u8 (↑(helN h x).their.b.toNat : Int), AV.int IntKind.u8 (↑(helN h x).their.c.toNat : Int), AV.int IntKind.u8 (↑(helN h x).their.d.toNat : Int), AV.int IntKind.u8 (↑(helN h x).their.e.toNat : Int), AV.int IntKind.u8 (↑(helN h x).their.f.toNat : Int), AV.int IntKind.u8 (↑(helN h x).there.toNat : Int)]] [helA (helD (helN h x))] (helF (helD (helN h x))))
    (h10 : freshA (helF (helD (helN h x))) = true)
    (h11 : FnW Try.prog (13 : FuncId) [AV.agg [AV.int IntKind.u8 (↑l.sys.a.toNat : Int), AV.int IntKind.u8 (↑l.sys.b.toNat : Int), AV.int IntKind.u8 (↑l.sys.c.toNat : Int), AV.int IntKind.u8 (↑l.sys.d.toNat : Int), AV.int IntKind.u8 (↑l.sys.e.toNat : Int), AV.int IntKind.u8 (↑l.sys.f.toNat : Int), AV.int IntKind.u8 (↑l.num.toNat : Int), AV.int IntKind.i64 l.level, AV.sl false false (1 : Nat) (stale.sL (vsF l.areas))], AV.agg [AV.int IntKind.i64 a.state, AV.int IntKind.u8 (↑a.peer.a.toNat : Int), AV.int IntKind.u8 (↑a.peer.b.toNat : Int), AV.int IntKind.u8 (↑a.peer.c.toNat : Int), AV.int IntKind.u8 (↑a.peer.d.toNat : Int), AV.int IntKind.u8 (↑a.peer.e.toNat : Int), AV.int IntKind.u8 (↑a.peer.f.toNat : Int), AV.int IntKind.u8 (↑a.num.toNat : Int), AV.int IntKind.i64 a.level, AV.int IntKind.i64 a.til], AV.agg [AV.int IntKind.u8 (↑(helD (helN h x)).sys.a.toNat : Int), AV.int IntKind.u8 (↑(helD (helN h x)).sys.b.toNat : Int), AV.int IntKind.u8 (↑(helD (helN h x)).sys.c.toNat : Int), AV.int IntKind.u8 (↑(helD (helN h x)).sys.d.toNat : Int), AV.int IntKind.u8 (↑(helD (helN h x)).sys.e.toNat : Int), AV.int IntKind.u8 (↑(helD (helN h x)).sys.f.toNat : Int), AV.int IntKind.u8 (↑(helD (helN h x)).num.toNat : Int), AV.int IntKind.i64 (helD (helN h x)).level, AV.int IntKind.i64 (helD (helN h x)).hold, AV.sl false false (1 : Nat) (stale.sL (vsF (helD (helN h x)).areas)), AV.int IntKind.i64 (helD (helN h x)).state, AV.bool (helD (helN h x)).named, AV.int IntKind.u8 (↑(helD (helN h x)).their.a.toNat : Int), AV.int IntKind.u8 (↑(helD (helN h x)).their.b.toNat : Int), AV.int IntKind.u8 (↑(helD (helN h x)).their.c.toNat : Int), AV.int IntKind.u8 (↑(helD (helN h x)).their.d.toNat : Int), AV.int IntKind.u8 (↑(helD (helN h x)).their.e.toNat : Int), AV.int IntKind.u8 (↑(helD (helN h x)).their.f.toNat : Int), AV.int IntKind.u8 (↑(helD (helN h x)).there.toNat : Int)], AV.int IntKind.i64 now] (argsA l a (helD (helN h x)) now) (AV.tup [adjA c, ni f]))
    (h12 : (f != (0 : Int)) = false)
    (h13 : (c.state == (1 : Int)) = true)
    (h14 : (if false = true then !((↑c.peer.a.toNat : Int) == (↑(helN h x).sys.a.toNat : Int) && ((↑c.peer.b.toNat : Int) == (↑(helN h x).sys.b.toNat : Int) && ((↑c.peer.c.toNat : Int) == (↑(helN h x).sys.c.toNat : Int) && ((↑c.peer.d.toNat : Int) == (↑(helN h x).sys.d.toNat : Int) && ((↑c.peer.e.toNat : Int) == (↑(helN h x).sys.e.toNat : Int) && ((↑c.peer.f.toNat : Int) == (↑(helN h x).sys.f.toNat : Int) && true)))))) else (↑c.peer.a.toNat : Int) == (↑(helN h x).sys.a.toNat : Int) && ((↑c.peer.b.toNat : Int) == (↑(helN h x).sys.b.toNat : Int) && ((↑c.peer.c.toNat : Int) == (↑(helN h x).sys.c.toNat : Int) && ((↑c.peer.d.toNat : Int) == (↑(helN h x).sys.d.toNat : Int) && ((↑c.peer.e.toNat : Int) == (↑(helN h x).sys.e.toNat : Int) && ((↑c.peer.f.toNat : Int) == (↑(helN h x).sys.f.toNat : Int) && true)))))) = true)
    (h15 : (c.til == IntKind.i64.wrap (now + (helN h x).hold)) = true) :
    WayF Try.prog 4 T4 fd4 [(13, .c [] (.bool true)), (160026, .sg (q4 l a (helN h h.their.a) now []) .normal (q4 l a (helN h x) now [])), (29, .c [locA l] (locF l)), (32, .c [helA (helN h x)] (helF (helN h x))), (34, .c (argsA l a (helN h x) now) (.tup [adjA b, ni e])), (370056, .sg (q4 l a (helN h x) now [(9, .box (adjC b)), (10, ni e)]) .normal (q4 l a (helN h x) now [(56, .bool false)])), (61, .c [locA l] (locF l)), (64, .c [helA (helD (helN h x))] (helF (helD (helN h x)))), (66, .c (argsA l a (helD (helN h x)) now) (.tup [adjA c, ni f])), (70, .b false), (74, .b true), (80, .b true), (89, .b true)] (argsA l a h now) (.bool true) :=
  fn_of_pr hfol ok4 hT4 (show prF Try.prog 4 T4 fd4 [(13, .c [] (.bool true)), (160026, .sg (q4 l a (helN h h.their.a) now []) .normal (q4 l a (helN h x) now [])), (29, .c [locA l] (locF l)), (32, .c [helA (helN h x)] (helF (helN h x))), (34, .c (argsA l a (helN h x) now) (.tup [adjA b, ni e])), (370056, .sg (q4 l a (helN h x) now [(9, .box (adjC b)), (10, ni e)]) .normal (q4 l a (helN h x) now [(56, .bool false)])), (61, .c [locA l] (locF l)), (64, .c [helA (helD (helN h x))] (helF (helD (helN h x)))), (66, .c (argsA l a (helD (helN h x)) now) (.tup [adjA c, ni f])), (70, .b false), (74, .b true), (80, .b true), (89, .b true)] (argsA l a h now) (.bool true) = some _ by kernel_rfl) (AllP.c h1 (AllP.c (show freshA (AV.bool true) = true by kernel_rfl) (AllP.c (LeR.refl (x := AV.int IntKind.i64 now)) (AllP.c (LeR.refl (x := AV.box (locC l))) (AllP.c (LeR.refl (x := AV.box (adjC a))) (AllP.c (LeR.refl (x := AV.box (helC (helN h h.their.a)))) (AllP.c (LeR.refl (x := AV.mem [])) (AllP.c h2 (AllP.c h3 (AllP.c h4 (AllP.c h5 (AllP.c h6 (AllP.c h7 (AllP.c (show freshA (AV.tup [adjA b, ni e]) = true by kernel_rfl) (AllP.c (LeR.refl (x := AV.int IntKind.i64 now)) (AllP.c (LeR.refl (x := AV.box (locC l))) (AllP.c (LeR.refl (x := AV.box (adjC a))) (AllP.c (LeR.refl (x := AV.box (helC (helN h x)))) (AllP.c (LeR.refl (x := AV.box (adjC b))) (AllP.c (LeR.refl (x := AV.int IntKind.i64 e)) (AllP.c (LeR.refl (x := AV.mem [])) (AllP.c h8 (AllP.c h3 (AllP.c h4 (AllP.c h9 (AllP.c h10 (AllP.c h11 (AllP.c (show freshA (AV.tup [adjA c, ni f]) = true by kernel_rfl) (AllP.c h12 (AllP.c h13 (AllP.c h14 (AllP.c h15 (AllP.c (show AV.bool true = AV.bool true by kernel_rfl) AllP.n)))))))))))))))))))))))))))))))))
theorem Twice_1 (l : Loc) (a b c d : Adj) (h : Hel) (now e f g : Int)
    (h1 : FnW Try.prog (10 : FuncId) [] [] (AV.bool true))
    (h2 : FnW Try.prog (11 : FuncId) [AV.agg [AV.int IntKind.u8 (↑l.sys.a.toNat : Int), AV.int IntKind.u8 (↑l.sys.b.toNat : Int), AV.int IntKind.u8 (↑l.sys.c.toNat : Int), AV.int IntKind.u8 (↑l.sys.d.toNat : Int), AV.int IntKind.u8 (↑l.sys.e.toNat : Int), AV.int IntKind.u8 (↑l.sys.f.toNat : Int), AV.int IntKind.u8 (↑l.num.toNat : Int), AV.int IntKind.i64 l.level, AV.sl false false (1 : Nat) (stale.sL (vsS l.areas))]] [locA l] (locF l))
    (h3 : freshA (locF l) = true)
    (h4 : FnW Try.prog (12 : FuncId) [AV.agg [AV.int IntKind.u8 (↑h.sys.a.toNat : Int), AV.int IntKind.u8 (↑h.sys.b.toNat : Int), AV.int IntKind.u8 (↑h.sys.c.toNat : Int), AV.int IntKind.u8 (↑h.sys.d.toNat : Int), AV.int IntKind.u8 (↑h.sys.e.toNat : Int), AV.int IntKind.u8 (↑h.sys.f.toNat : Int), AV.int IntKind.u8 (↑h.num.toNat : Int), AV.int IntKind.i64 h.level, AV.int IntKind.i64 h.hold, AV.sl false false (1 : Nat) (stale.sL (vsS h.areas)), AV.int IntKind.i64 h.state, AV.bool h.named, AV.int IntKind.u8 (↑h.their.a.toNat : Int), AV.int IntKind.u8 (↑h.their.b.toNat : Int), AV.int IntKind.u8 (↑h.their.c.toNat : Int), AV.int IntKind.u8 (↑h.their.d.toNat : Int), AV.int IntKind.u8 (↑h.their.e.toNat : Int), AV.int IntKind.u8 (↑h.their.f.toNat : Int), AV.int IntKind.u8 (↑h.there.toNat : Int)]] [helA h] (helF h))
    (h5 : freshA (helF h) = true)
    (h6 : FnW Try.prog (13 : FuncId) [AV.agg [AV.int IntKind.u8 (↑l.sys.a.toNat : Int), AV.int IntKind.u8 (↑l.sys.b.toNat : Int), AV.int IntKind.u8 (↑l.sys.c.toNat : Int), AV.int IntKind.u8 (↑l.sys.d.toNat : Int), AV.int IntKind.u8 (↑l.sys.e.toNat : Int), AV.int IntKind.u8 (↑l.sys.f.toNat : Int), AV.int IntKind.u8 (↑l.num.toNat : Int), AV.int IntKind.i64 l.level, AV.sl false false (1 : Nat) (stale.sL (vsF l.areas))], AV.agg [AV.int IntKind.i64 a.state, AV.int IntKind.u8 (↑a.peer.a.toNat : Int), AV.int IntKind.u8 (↑a.peer.b.toNat : Int), AV.int IntKind.u8 (↑a.peer.c.toNat : Int), AV.int IntKind.u8 (↑a.peer.d.toNat : Int), AV.int IntKind.u8 (↑a.peer.e.toNat : Int), AV.int IntKind.u8 (↑a.peer.f.toNat : Int), AV.int IntKind.u8 (↑a.num.toNat : Int), AV.int IntKind.i64 a.level, AV.int IntKind.i64 a.til], AV.agg [AV.int IntKind.u8 (↑h.sys.a.toNat : Int), AV.int IntKind.u8 (↑h.sys.b.toNat : Int), AV.int IntKind.u8 (↑h.sys.c.toNat : Int), AV.int IntKind.u8 (↑h.sys.d.toNat : Int), AV.int IntKind.u8 (↑h.sys.e.toNat : Int), AV.int IntKind.u8 (↑h.sys.f.toNat : Int), AV.int IntKind.u8 (↑h.num.toNat : Int), AV.int IntKind.i64 h.level, AV.int IntKind.i64 h.hold, AV.sl false false (1 : Nat) (stale.sL (vsF h.areas)), AV.int IntKind.i64 h.state, AV.bool h.named, AV.int IntKind.u8 (↑h.their.a.toNat : Int), AV.int IntKind.u8 (↑h.their.b.toNat : Int), AV.int IntKind.u8 (↑h.their.c.toNat : Int), AV.int IntKind.u8 (↑h.their.d.toNat : Int), AV.int IntKind.u8 (↑h.their.e.toNat : Int), AV.int IntKind.u8 (↑h.their.f.toNat : Int), AV.int IntKind.u8 (↑h.there.toNat : Int)], AV.int IntKind.i64 now] (argsA l a h now) (AV.tup [adjA b, ni e]))
    (h7 : FnW Try.prog (13 : FuncId) [AV.agg [AV.int IntKind.u8 (↑l.sys.a.toNat : Int), AV.int IntKind.u8 (↑l.sys.b.toNat : Int), AV.int IntKind.u8 (↑l.sys.c.toNat : Int), AV.int IntKind.u8 (↑l.sys.d.toNat : Int), AV.int IntKind.u8 (↑l.sys.e.toNat : Int), AV.int IntKind.u8 (↑l.sys.f.toNat : Int), AV.int IntKind.u8 (↑l.num.toNat : Int), AV.int IntKind.i64 l.level, AV.sl false false (1 : Nat) (stale.sL (vsF l.areas))], AV.agg [AV.int IntKind.i64 b.state, AV.int IntKind.u8 (↑b.peer.a.toNat : Int), AV.int IntKind.u8 (↑b.peer.b.toNat : Int), AV.int IntKind.u8 (↑b.peer.c.toNat : Int), AV.int IntKind.u8 (↑b.peer.d.toNat : Int), AV.int IntKind.u8 (↑b.peer.e.toNat : Int), AV.int IntKind.u8 (↑b.peer.f.toNat : Int), AV.int IntKind.u8 (↑b.num.toNat : Int), AV.int IntKind.i64 b.level, AV.int IntKind.i64 b.til], AV.agg [AV.int IntKind.u8 (↑h.sys.a.toNat : Int), AV.int IntKind.u8 (↑h.sys.b.toNat : Int), AV.int IntKind.u8 (↑h.sys.c.toNat : Int), AV.int IntKind.u8 (↑h.sys.d.toNat : Int), AV.int IntKind.u8 (↑h.sys.e.toNat : Int), AV.int IntKind.u8 (↑h.sys.f.toNat : Int), AV.int IntKind.u8 (↑h.num.toNat : Int), AV.int IntKind.i64 h.level, AV.int IntKind.i64 h.hold, AV.sl false false (1 : Nat) (stale.sL (vsF h.areas)), AV.int IntKind.i64 h.state, AV.bool h.named, AV.int IntKind.u8 (↑h.their.a.toNat : Int), AV.int IntKind.u8 (↑h.their.b.toNat : Int), AV.int IntKind.u8 (↑h.their.c.toNat : Int), AV.int IntKind.u8 (↑h.their.d.toNat : Int), AV.int IntKind.u8 (↑h.their.e.toNat : Int), AV.int IntKind.u8 (↑h.their.f.toNat : Int), AV.int IntKind.u8 (↑h.there.toNat : Int)], AV.int IntKind.i64 now] (argsA l b h now) (AV.tup [adjA c, ni f]))
    (h8 : FnW Try.prog (13 : FuncId) [AV.agg [AV.int IntKind.u8 (↑l.sys.a.toNat : Int), AV.int IntKind.u8 (↑l.sys.b.toNat : Int), AV.int IntKind.u8 (↑l.sys.c.toNat : Int), AV.int IntKind.u8 (↑l.sys.d.toNat : Int), AV.int IntKind.u8 (↑l.sys.e.toNat : Int), AV.int IntKind.u8 (↑l.sys.f.toNat : Int), AV.int IntKind.u8 (↑l.num.toNat : Int), AV.int IntKind.i64 l.level, AV.sl false false (1 : Nat) (stale.sL (vsF l.areas))], AV.agg [AV.int IntKind.i64 c.state, AV.int IntKind.u8 (↑c.peer.a.toNat : Int), AV.int IntKind.u8 (↑c.peer.b.toNat : Int), AV.int IntKind.u8 (↑c.peer.c.toNat : Int), AV.int IntKind.u8 (↑c.peer.d.toNat : Int), AV.int IntKind.u8 (↑c.peer.e.toNat : Int), AV.int IntKind.u8 (↑c.peer.f.toNat : Int), AV.int IntKind.u8 (↑c.num.toNat : Int), AV.int IntKind.i64 c.level, AV.int IntKind.i64 c.til], AV.agg [AV.int IntKind.u8 (↑h.sys.a.toNat : Int), AV.int IntKind.u8 (↑h.sys.b.toNat : Int), AV.int IntKind.u8 (↑h.sys.c.toNat : Int), AV.int IntKind.u8 (↑h.sys.d.toNat : Int), AV.int IntKind.u8 (↑h.sys.e.toNat : Int), AV.int IntKind.u8 (↑h.sys.f.toNat : Int), AV.int IntKind.u8 (↑h.num.toNat : Int), AV.int IntKind.i64 h.level, AV.int IntKind.i64 h.hold, AV.sl false false (1 : Nat) (stale.sL (vsF h.areas)), AV.int IntKind.i64 h.state, AV.bool h.named, AV.int IntKind.u8 (↑h.their.a.toNat : Int), AV.int IntKind.u8 (↑h.their.b.toNat : Int), AV.int IntKind.u8 (↑h.their.c.toNat : Int), AV.int IntKind.u8 (↑h.their.d.toNat : Int), AV.int IntKind.u8 (↑h.their.e.toNat : Int), AV.int IntKind.u8 (↑h.their.f.toNat : Int), AV.int IntKind.u8 (↑h.there.toNat : Int)], AV.int IntKind.i64 now] (argsA l c h now) (AV.tup [adjA d, ni g]))
    (h9 : (e == (1 : Int)) = true)
    (h10 : (if false = true then !(b.state == a.state && ((↑b.peer.a.toNat : Int) == (↑a.peer.a.toNat : Int) && ((↑b.peer.b.toNat : Int) == (↑a.peer.b.toNat : Int) && ((↑b.peer.c.toNat : Int) == (↑a.peer.c.toNat : Int) && ((↑b.peer.d.toNat : Int) == (↑a.peer.d.toNat : Int) && ((↑b.peer.e.toNat : Int) == (↑a.peer.e.toNat : Int) && ((↑b.peer.f.toNat : Int) == (↑a.peer.f.toNat : Int) && ((↑b.num.toNat : Int) == (↑a.num.toNat : Int) && (b.level == a.level && (b.til == a.til && true)))))))))) else b.state == a.state && ((↑b.peer.a.toNat : Int) == (↑a.peer.a.toNat : Int) && ((↑b.peer.b.toNat : Int) == (↑a.peer.b.toNat : Int) && ((↑b.peer.c.toNat : Int) == (↑a.peer.c.toNat : Int) && ((↑b.peer.d.toNat : Int) == (↑a.peer.d.toNat : Int) && ((↑b.peer.e.toNat : Int) == (↑a.peer.e.toNat : Int) && ((↑b.peer.f.toNat : Int) == (↑a.peer.f.toNat : Int) && ((↑b.num.toNat : Int) == (↑a.num.toNat : Int) && (b.level == a.level && (b.til == a.til && true)))))))))) = true) :
    WayF Try.prog 5 T5 fd5 [(15, .c [] (.bool true)), (19, .c [locA l] (locF l)), (22, .c [helA h] (helF h)), (24, .c (argsA l a h now) (.tup [adjA b, ni e])), (29, .c [locA l] (locF l)), (32, .c [helA h] (helF h)), (34, .c (argsA l b h now) (.tup [adjA c, ni f])), (39, .c [locA l] (locF l)), (42, .c [helA h] (helF h)), (44, .c (argsA l c h now) (.tup [adjA d, ni g])), (48, .b true), (59, .b true)] (argsA l a h now) (.bool true) :=
  fn_of_pr hfol ok5 hT5 (show prF Try.prog 5 T5 fd5 [(15, .c [] (.bool true)), (19, .c [locA l] (locF l)), (22, .c [helA h] (helF h)), (24, .c (argsA l a h now) (.tup [adjA b, ni e])), (29, .c [locA l] (locF l)), (32, .c [helA h] (helF h)), (34, .c (argsA l b h now) (.tup [adjA c, ni f])), (39, .c [locA l] (locF l)), (42, .c [helA h] (helF h)), (44, .c (argsA l c h now) (.tup [adjA d, ni g])), (48, .b true), (59, .b true)] (argsA l a h now) (.bool true) = some _ by kernel_rfl) (AllP.c h1 (AllP.c (show freshA (AV.bool true) = true by kernel_rfl) (AllP.c h2 (AllP.c h3 (AllP.c h4 (AllP.c h5 (AllP.c h6 (AllP.c (show freshA (AV.tup [adjA b, ni e]) = true by kernel_rfl) (AllP.c h2 (AllP.c h3 (AllP.c h4 (AllP.c h5 (AllP.c h7 (AllP.c (show freshA (AV.tup [adjA c, ni f]) = true by kernel_rfl) (AllP.c h2 (AllP.c h3 (AllP.c h4 (AllP.c h5 (AllP.c h8 (AllP.c (show freshA (AV.tup [adjA d, ni g]) = true by kernel_rfl) (AllP.c h9 (AllP.c h10 (AllP.c (show AV.bool true = AV.bool true by kernel_rfl) AllP.n)))))))))))))))))))))))
theorem Twice_2 (l : Loc) (a b c d : Adj) (h : Hel) (now e f g : Int)
    (h1 : FnW Try.prog (10 : FuncId) [] [] (AV.bool true))
    (h2 : FnW Try.prog (11 : FuncId) [AV.agg [AV.int IntKind.u8 (↑l.sys.a.toNat : Int), AV.int IntKind.u8 (↑l.sys.b.toNat : Int), AV.int IntKind.u8 (↑l.sys.c.toNat : Int), AV.int IntKind.u8 (↑l.sys.d.toNat : Int), AV.int IntKind.u8 (↑l.sys.e.toNat : Int), AV.int IntKind.u8 (↑l.sys.f.toNat : Int), AV.int IntKind.u8 (↑l.num.toNat : Int), AV.int IntKind.i64 l.level, AV.sl false false (1 : Nat) (stale.sL (vsS l.areas))]] [locA l] (locF l))
    (h3 : freshA (locF l) = true)
    (h4 : FnW Try.prog (12 : FuncId) [AV.agg [AV.int IntKind.u8 (↑h.sys.a.toNat : Int), AV.int IntKind.u8 (↑h.sys.b.toNat : Int), AV.int IntKind.u8 (↑h.sys.c.toNat : Int), AV.int IntKind.u8 (↑h.sys.d.toNat : Int), AV.int IntKind.u8 (↑h.sys.e.toNat : Int), AV.int IntKind.u8 (↑h.sys.f.toNat : Int), AV.int IntKind.u8 (↑h.num.toNat : Int), AV.int IntKind.i64 h.level, AV.int IntKind.i64 h.hold, AV.sl false false (1 : Nat) (stale.sL (vsS h.areas)), AV.int IntKind.i64 h.state, AV.bool h.named, AV.int IntKind.u8 (↑h.their.a.toNat : Int), AV.int IntKind.u8 (↑h.their.b.toNat : Int), AV.int IntKind.u8 (↑h.their.c.toNat : Int), AV.int IntKind.u8 (↑h.their.d.toNat : Int), AV.int IntKind.u8 (↑h.their.e.toNat : Int), AV.int IntKind.u8 (↑h.their.f.toNat : Int), AV.int IntKind.u8 (↑h.there.toNat : Int)]] [helA h] (helF h))
    (h5 : freshA (helF h) = true)
    (h6 : FnW Try.prog (13 : FuncId) [AV.agg [AV.int IntKind.u8 (↑l.sys.a.toNat : Int), AV.int IntKind.u8 (↑l.sys.b.toNat : Int), AV.int IntKind.u8 (↑l.sys.c.toNat : Int), AV.int IntKind.u8 (↑l.sys.d.toNat : Int), AV.int IntKind.u8 (↑l.sys.e.toNat : Int), AV.int IntKind.u8 (↑l.sys.f.toNat : Int), AV.int IntKind.u8 (↑l.num.toNat : Int), AV.int IntKind.i64 l.level, AV.sl false false (1 : Nat) (stale.sL (vsF l.areas))], AV.agg [AV.int IntKind.i64 a.state, AV.int IntKind.u8 (↑a.peer.a.toNat : Int), AV.int IntKind.u8 (↑a.peer.b.toNat : Int), AV.int IntKind.u8 (↑a.peer.c.toNat : Int), AV.int IntKind.u8 (↑a.peer.d.toNat : Int), AV.int IntKind.u8 (↑a.peer.e.toNat : Int), AV.int IntKind.u8 (↑a.peer.f.toNat : Int), AV.int IntKind.u8 (↑a.num.toNat : Int), AV.int IntKind.i64 a.level, AV.int IntKind.i64 a.til], AV.agg [AV.int IntKind.u8 (↑h.sys.a.toNat : Int), AV.int IntKind.u8 (↑h.sys.b.toNat : Int), AV.int IntKind.u8 (↑h.sys.c.toNat : Int), AV.int IntKind.u8 (↑h.sys.d.toNat : Int), AV.int IntKind.u8 (↑h.sys.e.toNat : Int), AV.int IntKind.u8 (↑h.sys.f.toNat : Int), AV.int IntKind.u8 (↑h.num.toNat : Int), AV.int IntKind.i64 h.level, AV.int IntKind.i64 h.hold, AV.sl false false (1 : Nat) (stale.sL (vsF h.areas)), AV.int IntKind.i64 h.state, AV.bool h.named, AV.int IntKind.u8 (↑h.their.a.toNat : Int), AV.int IntKind.u8 (↑h.their.b.toNat : Int), AV.int IntKind.u8 (↑h.their.c.toNat : Int), AV.int IntKind.u8 (↑h.their.d.toNat : Int), AV.int IntKind.u8 (↑h.their.e.toNat : Int), AV.int IntKind.u8 (↑h.their.f.toNat : Int), AV.int IntKind.u8 (↑h.there.toNat : Int)], AV.int IntKind.i64 now] (argsA l a h now) (AV.tup [adjA b, ni e]))
    (h7 : FnW Try.prog (13 : FuncId) [AV.agg [AV.int IntKind.u8 (↑l.sys.a.toNat : Int), AV.int IntKind.u8 (↑l.sys.b.toNat : Int), AV.int IntKind.u8 (↑l.sys.c.toNat : Int), AV.int IntKind.u8 (↑l.sys.d.toNat : Int), AV.int IntKind.u8 (↑l.sys.e.toNat : Int), AV.int IntKind.u8 (↑l.sys.f.toNat : Int), AV.int IntKind.u8 (↑l.num.toNat : Int), AV.int IntKind.i64 l.level, AV.sl false false (1 : Nat) (stale.sL (vsF l.areas))], AV.agg [AV.int IntKind.i64 b.state, AV.int IntKind.u8 (↑b.peer.a.toNat : Int), AV.int IntKind.u8 (↑b.peer.b.toNat : Int), AV.int IntKind.u8 (↑b.peer.c.toNat : Int), AV.int IntKind.u8 (↑b.peer.d.toNat : Int), AV.int IntKind.u8 (↑b.peer.e.toNat : Int), AV.int IntKind.u8 (↑b.peer.f.toNat : Int), AV.int IntKind.u8 (↑b.num.toNat : Int), AV.int IntKind.i64 b.level, AV.int IntKind.i64 b.til], AV.agg [AV.int IntKind.u8 (↑h.sys.a.toNat : Int), AV.int IntKind.u8 (↑h.sys.b.toNat : Int), AV.int IntKind.u8 (↑h.sys.c.toNat : Int), AV.int IntKind.u8 (↑h.sys.d.toNat : Int), AV.int IntKind.u8 (↑h.sys.e.toNat : Int), AV.int IntKind.u8 (↑h.sys.f.toNat : Int), AV.int IntKind.u8 (↑h.num.toNat : Int), AV.int IntKind.i64 h.level, AV.int IntKind.i64 h.hold, AV.sl false false (1 : Nat) (stale.sL (vsF h.areas)), AV.int IntKind.i64 h.state, AV.bool h.named, AV.int IntKind.u8 (↑h.their.a.toNat : Int), AV.int IntKind.u8 (↑h.their.b.toNat : Int), AV.int IntKind.u8 (↑h.their.c.toNat : Int), AV.int IntKind.u8 (↑h.their.d.toNat : Int), AV.int IntKind.u8 (↑h.their.e.toNat : Int), AV.int IntKind.u8 (↑h.their.f.toNat : Int), AV.int IntKind.u8 (↑h.there.toNat : Int)], AV.int IntKind.i64 now] (argsA l b h now) (AV.tup [adjA c, ni f]))
    (h8 : FnW Try.prog (13 : FuncId) [AV.agg [AV.int IntKind.u8 (↑l.sys.a.toNat : Int), AV.int IntKind.u8 (↑l.sys.b.toNat : Int), AV.int IntKind.u8 (↑l.sys.c.toNat : Int), AV.int IntKind.u8 (↑l.sys.d.toNat : Int), AV.int IntKind.u8 (↑l.sys.e.toNat : Int), AV.int IntKind.u8 (↑l.sys.f.toNat : Int), AV.int IntKind.u8 (↑l.num.toNat : Int), AV.int IntKind.i64 l.level, AV.sl false false (1 : Nat) (stale.sL (vsF l.areas))], AV.agg [AV.int IntKind.i64 c.state, AV.int IntKind.u8 (↑c.peer.a.toNat : Int), AV.int IntKind.u8 (↑c.peer.b.toNat : Int), AV.int IntKind.u8 (↑c.peer.c.toNat : Int), AV.int IntKind.u8 (↑c.peer.d.toNat : Int), AV.int IntKind.u8 (↑c.peer.e.toNat : Int), AV.int IntKind.u8 (↑c.peer.f.toNat : Int), AV.int IntKind.u8 (↑c.num.toNat : Int), AV.int IntKind.i64 c.level, AV.int IntKind.i64 c.til], AV.agg [AV.int IntKind.u8 (↑h.sys.a.toNat : Int), AV.int IntKind.u8 (↑h.sys.b.toNat : Int), AV.int IntKind.u8 (↑h.sys.c.toNat : Int), AV.int IntKind.u8 (↑h.sys.d.toNat : Int), AV.int IntKind.u8 (↑h.sys.e.toNat : Int), AV.int IntKind.u8 (↑h.sys.f.toNat : Int), AV.int IntKind.u8 (↑h.num.toNat : Int), AV.int IntKind.i64 h.level, AV.int IntKind.i64 h.hold, AV.sl false false (1 : Nat) (stale.sL (vsF h.areas)), AV.int IntKind.i64 h.state, AV.bool h.named, AV.int IntKind.u8 (↑h.their.a.toNat : Int), AV.int IntKind.u8 (↑h.their.b.toNat : Int), AV.int IntKind.u8 (↑h.their.c.toNat : Int), AV.int IntKind.u8 (↑h.their.d.toNat : Int), AV.int IntKind.u8 (↑h.their.e.toNat : Int), AV.int IntKind.u8 (↑h.their.f.toNat : Int), AV.int IntKind.u8 (↑h.there.toNat : Int)], AV.int IntKind.i64 now] (argsA l c h now) (AV.tup [adjA d, ni g]))
    (h9 : (e == (1 : Int)) = false)
    (h10 : (e == (2 : Int)) = true)
    (h11 : (if false = true then !(b.state == a.state && ((↑b.peer.a.toNat : Int) == (↑a.peer.a.toNat : Int) && ((↑b.peer.b.toNat : Int) == (↑a.peer.b.toNat : Int) && ((↑b.peer.c.toNat : Int) == (↑a.peer.c.toNat : Int) && ((↑b.peer.d.toNat : Int) == (↑a.peer.d.toNat : Int) && ((↑b.peer.e.toNat : Int) == (↑a.peer.e.toNat : Int) && ((↑b.peer.f.toNat : Int) == (↑a.peer.f.toNat : Int) && ((↑b.num.toNat : Int) == (↑a.num.toNat : Int) && (b.level == a.level && (b.til == a.til && true)))))))))) else b.state == a.state && ((↑b.peer.a.toNat : Int) == (↑a.peer.a.toNat : Int) && ((↑b.peer.b.toNat : Int) == (↑a.peer.b.toNat : Int) && ((↑b.peer.c.toNat : Int) == (↑a.peer.c.toNat : Int) && ((↑b.peer.d.toNat : Int) == (↑a.peer.d.toNat : Int) && ((↑b.peer.e.toNat : Int) == (↑a.peer.e.toNat : Int) && ((↑b.peer.f.toNat : Int) == (↑a.peer.f.toNat : Int) && ((↑b.num.toNat : Int) == (↑a.num.toNat : Int) && (b.level == a.level && (b.til == a.til && true)))))))))) = true) :
    WayF Try.prog 5 T5 fd5 [(15, .c [] (.bool true)), (19, .c [locA l] (locF l)), (22, .c [helA h] (helF h)), (24, .c (argsA l a h now) (.tup [adjA b, ni e])), (29, .c [locA l] (locF l)), (32, .c [helA h] (helF h)), (34, .c (argsA l b h now) (.tup [adjA c, ni f])), (39, .c [locA l] (locF l)), (42, .c [helA h] (helF h)), (44, .c (argsA l c h now) (.tup [adjA d, ni g])), (48, .b false), (51, .b true), (59, .b true)] (argsA l a h now) (.bool true) :=
  fn_of_pr hfol ok5 hT5 (show prF Try.prog 5 T5 fd5 [(15, .c [] (.bool true)), (19, .c [locA l] (locF l)), (22, .c [helA h] (helF h)), (24, .c (argsA l a h now) (.tup [adjA b, ni e])), (29, .c [locA l] (locF l)), (32, .c [helA h] (helF h)), (34, .c (argsA l b h now) (.tup [adjA c, ni f])), (39, .c [locA l] (locF l)), (42, .c [helA h] (helF h)), (44, .c (argsA l c h now) (.tup [adjA d, ni g])), (48, .b false), (51, .b true), (59, .b true)] (argsA l a h now) (.bool true) = some _ by kernel_rfl) (AllP.c h1 (AllP.c (show freshA (AV.bool true) = true by kernel_rfl) (AllP.c h2 (AllP.c h3 (AllP.c h4 (AllP.c h5 (AllP.c h6 (AllP.c (show freshA (AV.tup [adjA b, ni e]) = true by kernel_rfl) (AllP.c h2 (AllP.c h3 (AllP.c h4 (AllP.c h5 (AllP.c h7 (AllP.c (show freshA (AV.tup [adjA c, ni f]) = true by kernel_rfl) (AllP.c h2 (AllP.c h3 (AllP.c h4 (AllP.c h5 (AllP.c h8 (AllP.c (show freshA (AV.tup [adjA d, ni g]) = true by kernel_rfl) (AllP.c h9 (AllP.c h10 (AllP.c h11 (AllP.c (show AV.bool true = AV.bool true by kernel_rfl) AllP.n))))))))))))))))))))))))
theorem Twice_7 (l : Loc) (a b c d : Adj) (h : Hel) (now e f g : Int)
    (h1 : FnW Try.prog (10 : FuncId) [] [] (AV.bool true))
    (h2 : FnW Try.prog (11 : FuncId) [AV.agg [AV.int IntKind.u8 (↑l.sys.a.toNat : Int), AV.int IntKind.u8 (↑l.sys.b.toNat : Int), AV.int IntKind.u8 (↑l.sys.c.toNat : Int), AV.int IntKind.u8 (↑l.sys.d.toNat : Int), AV.int IntKind.u8 (↑l.sys.e.toNat : Int), AV.int IntKind.u8 (↑l.sys.f.toNat : Int), AV.int IntKind.u8 (↑l.num.toNat : Int), AV.int IntKind.i64 l.level, AV.sl false false (1 : Nat) (stale.sL (vsS l.areas))]] [locA l] (locF l))
    (h3 : freshA (locF l) = true)
    (h4 : FnW Try.prog (12 : FuncId) [AV.agg [AV.int IntKind.u8 (↑h.sys.a.toNat : Int), AV.int IntKind.u8 (↑h.sys.b.toNat : Int), AV.int IntKind.u8 (↑h.sys.c.toNat : Int), AV.int IntKind.u8 (↑h.sys.d.toNat : Int), AV.int IntKind.u8 (↑h.sys.e.toNat : Int), AV.int IntKind.u8 (↑h.sys.f.toNat : Int), AV.int IntKind.u8 (↑h.num.toNat : Int), AV.int IntKind.i64 h.level, AV.int IntKind.i64 h.hold, AV.sl false false (1 : Nat) (stale.sL (vsS h.areas)), AV.int IntKind.i64 h.state, AV.bool h.named, AV.int IntKind.u8 (↑h.their.a.toNat : Int), AV.int IntKind.u8 (↑h.their.b.toNat : Int), AV.int IntKind.u8 (↑h.their.c.toNat : Int), AV.int IntKind.u8 (↑h.their.d.toNat : Int), AV.int IntKind.u8 (↑h.their.e.toNat : Int), AV.int IntKind.u8 (↑h.their.f.toNat : Int), AV.int IntKind.u8 (↑h.there.toNat : Int)]] [helA h] (helF h))
    (h5 : freshA (helF h) = true)
    (h6 : FnW Try.prog (13 : FuncId) [AV.agg [AV.int IntKind.u8 (↑l.sys.a.toNat : Int), AV.int IntKind.u8 (↑l.sys.b.toNat : Int), AV.int IntKind.u8 (↑l.sys.c.toNat : Int), AV.int IntKind.u8 (↑l.sys.d.toNat : Int), AV.int IntKind.u8 (↑l.sys.e.toNat : Int), AV.int IntKind.u8 (↑l.sys.f.toNat : Int), AV.int IntKind.u8 (↑l.num.toNat : Int), AV.int IntKind.i64 l.level, AV.sl false false (1 : Nat) (stale.sL (vsF l.areas))], AV.agg [AV.int IntKind.i64 a.state, AV.int IntKind.u8 (↑a.peer.a.toNat : Int), AV.int IntKind.u8 (↑a.peer.b.toNat : Int), AV.int IntKind.u8 (↑a.peer.c.toNat : Int), AV.int IntKind.u8 (↑a.peer.d.toNat : Int), AV.int IntKind.u8 (↑a.peer.e.toNat : Int), AV.int IntKind.u8 (↑a.peer.f.toNat : Int), AV.int IntKind.u8 (↑a.num.toNat : Int), AV.int IntKind.i64 a.level, AV.int IntKind.i64 a.til], AV.agg [AV.int IntKind.u8 (↑h.sys.a.toNat : Int), AV.int IntKind.u8 (↑h.sys.b.toNat : Int), AV.int IntKind.u8 (↑h.sys.c.toNat : Int), AV.int IntKind.u8 (↑h.sys.d.toNat : Int), AV.int IntKind.u8 (↑h.sys.e.toNat : Int), AV.int IntKind.u8 (↑h.sys.f.toNat : Int), AV.int IntKind.u8 (↑h.num.toNat : Int), AV.int IntKind.i64 h.level, AV.int IntKind.i64 h.hold, AV.sl false false (1 : Nat) (stale.sL (vsF h.areas)), AV.int IntKind.i64 h.state, AV.bool h.named, AV.int IntKind.u8 (↑h.their.a.toNat : Int), AV.int IntKind.u8 (↑h.their.b.toNat : Int), AV.int IntKind.u8 (↑h.their.c.toNat : Int), AV.int IntKind.u8 (↑h.their.d.toNat : Int), AV.int IntKind.u8 (↑h.their.e.toNat : Int), AV.int IntKind.u8 (↑h.their.f.toNat : Int), AV.int IntKind.u8 (↑h.there.toNat : Int)], AV.int IntKind.i64 now] (argsA l a h now) (AV.tup [adjA b, ni e]))
    (h7 : FnW Try.prog (13 : FuncId) [AV.agg [AV.int IntKind.u8 (↑l.sys.a.toNat : Int), AV.int IntKind.u8 (↑l.sys.b.toNat : Int), AV.int IntKind.u8 (↑l.sys.c.toNat : Int), AV.int IntKind.u8 (↑l.sys.d.toNat : Int), AV.int IntKind.u8 (↑l.sys.e.toNat : Int), AV.int IntKind.u8 (↑l.sys.f.toNat : Int), AV.int IntKind.u8 (↑l.num.toNat : Int), AV.int IntKind.i64 l.level, AV.sl false false (1 : Nat) (stale.sL (vsF l.areas))], AV.agg [AV.int IntKind.i64 b.state, AV.int IntKind.u8 (↑b.peer.a.toNat : Int), AV.int IntKind.u8 (↑b.peer.b.toNat : Int), AV.int IntKind.u8 (↑b.peer.c.toNat : Int), AV.int IntKind.u8 (↑b.peer.d.toNat : Int), AV.int IntKind.u8 (↑b.peer.e.toNat : Int), AV.int IntKind.u8 (↑b.peer.f.toNat : Int), AV.int IntKind.u8 (↑b.num.toNat : Int), AV.int IntKind.i64 b.level, AV.int IntKind.i64 b.til], AV.agg [AV.int IntKind.u8 (↑h.sys.a.toNat : Int), AV.int IntKind.u8 (↑h.sys.b.toNat : Int), AV.int IntKind.u8 (↑h.sys.c.toNat : Int), AV.int IntKind.u8 (↑h.sys.d.toNat : Int), AV.int IntKind.u8 (↑h.sys.e.toNat : Int), AV.int IntKind.u8 (↑h.sys.f.toNat : Int), AV.int IntKind.u8 (↑h.num.toNat : Int), AV.int IntKind.i64 h.level, AV.int IntKind.i64 h.hold, AV.sl false false (1 : Nat) (stale.sL (vsF h.areas)), AV.int IntKind.i64 h.state, AV.bool h.named, AV.int IntKind.u8 (↑h.their.a.toNat : Int), AV.int IntKind.u8 (↑h.their.b.toNat : Int), AV.int IntKind.u8 (↑h.their.c.toNat : Int), AV.int IntKind.u8 (↑h.their.d.toNat : Int), AV.int IntKind.u8 (↑h.their.e.toNat : Int), AV.int IntKind.u8 (↑h.their.f.toNat : Int), AV.int IntKind.u8 (↑h.there.toNat : Int)], AV.int IntKind.i64 now] (argsA l b h now) (AV.tup [adjA c, ni f]))
    (h8 : FnW Try.prog (13 : FuncId) [AV.agg [AV.int IntKind.u8 (↑l.sys.a.toNat : Int), AV.int IntKind.u8 (↑l.sys.b.toNat : Int), AV.int IntKind.u8 (↑l.sys.c.toNat : Int), AV.int IntKind.u8 (↑l.sys.d.toNat : Int), AV.int IntKind.u8 (↑l.sys.e.toNat : Int), AV.int IntKind.u8 (↑l.sys.f.toNat : Int), AV.int IntKind.u8 (↑l.num.toNat : Int), AV.int IntKind.i64 l.level, AV.sl false false (1 : Nat) (stale.sL (vsF l.areas))], AV.agg [AV.int IntKind.i64 c.state, AV.int IntKind.u8 (↑c.peer.a.toNat : Int), AV.int IntKind.u8 (↑c.peer.b.toNat : Int), AV.int IntKind.u8 (↑c.peer.c.toNat : Int), AV.int IntKind.u8 (↑c.peer.d.toNat : Int), AV.int IntKind.u8 (↑c.peer.e.toNat : Int), AV.int IntKind.u8 (↑c.peer.f.toNat : Int), AV.int IntKind.u8 (↑c.num.toNat : Int), AV.int IntKind.i64 c.level, AV.int IntKind.i64 c.til], AV.agg [AV.int IntKind.u8 (↑h.sys.a.toNat : Int), AV.int IntKind.u8 (↑h.sys.b.toNat : Int), AV.int IntKind.u8 (↑h.sys.c.toNat : Int), AV.int IntKind.u8 (↑h.sys.d.toNat : Int), AV.int IntKind.u8 (↑h.sys.e.toNat : Int), AV.int IntKind.u8 (↑h.sys.f.toNat : Int), AV.int IntKind.u8 (↑h.num.toNat : Int), AV.int IntKind.i64 h.level, AV.int IntKind.i64 h.hold, AV.sl false false (1 : Nat) (stale.sL (vsF h.areas)), AV.int IntKind.i64 h.state, AV.bool h.named, AV.int IntKind.u8 (↑h.their.a.toNat : Int), AV.int IntKind.u8 (↑h.their.b.toNat : Int), AV.int IntKind.u8 (↑h.their.c.toNat : Int), AV.int IntKind.u8 (↑h.their.d.toNat : Int), AV.int IntKind.u8 (↑h.their.e.toNat : Int), AV.int IntKind.u8 (↑h.their.f.toNat : Int), AV.int IntKind.u8 (↑h.there.toNat : Int)], AV.int IntKind.i64 now] (argsA l c h now) (AV.tup [adjA d, ni g]))
    (h9 : (e == (1 : Int)) = false)
    (h10 : (e == (2 : Int)) = false)
    (h11 : (e == (7 : Int)) = true)
    (h12 : (if false = true then !(b.state == a.state && ((↑b.peer.a.toNat : Int) == (↑a.peer.a.toNat : Int) && ((↑b.peer.b.toNat : Int) == (↑a.peer.b.toNat : Int) && ((↑b.peer.c.toNat : Int) == (↑a.peer.c.toNat : Int) && ((↑b.peer.d.toNat : Int) == (↑a.peer.d.toNat : Int) && ((↑b.peer.e.toNat : Int) == (↑a.peer.e.toNat : Int) && ((↑b.peer.f.toNat : Int) == (↑a.peer.f.toNat : Int) && ((↑b.num.toNat : Int) == (↑a.num.toNat : Int) && (b.level == a.level && (b.til == a.til && true)))))))))) else b.state == a.state && ((↑b.peer.a.toNat : Int) == (↑a.peer.a.toNat : Int) && ((↑b.peer.b.toNat : Int) == (↑a.peer.b.toNat : Int) && ((↑b.peer.c.toNat : Int) == (↑a.peer.c.toNat : Int) && ((↑b.peer.d.toNat : Int) == (↑a.peer.d.toNat : Int) && ((↑b.peer.e.toNat : Int) == (↑a.peer.e.toNat : Int) && ((↑b.peer.f.toNat : Int) == (↑a.peer.f.toNat : Int) && ((↑b.num.toNat : Int) == (↑a.num.toNat : Int) && (b.level == a.level && (b.til == a.til && true)))))))))) = true) :
    WayF Try.prog 5 T5 fd5 [(15, .c [] (.bool true)), (19, .c [locA l] (locF l)), (22, .c [helA h] (helF h)), (24, .c (argsA l a h now) (.tup [adjA b, ni e])), (29, .c [locA l] (locF l)), (32, .c [helA h] (helF h)), (34, .c (argsA l b h now) (.tup [adjA c, ni f])), (39, .c [locA l] (locF l)), (42, .c [helA h] (helF h)), (44, .c (argsA l c h now) (.tup [adjA d, ni g])), (48, .b false), (51, .b false), (55, .b true), (59, .b true)] (argsA l a h now) (.bool true) :=
  fn_of_pr hfol ok5 hT5 (show prF Try.prog 5 T5 fd5 [(15, .c [] (.bool true)), (19, .c [locA l] (locF l)), (22, .c [helA h] (helF h)), (24, .c (argsA l a h now) (.tup [adjA b, ni e])), (29, .c [locA l] (locF l)), (32, .c [helA h] (helF h)), (34, .c (argsA l b h now) (.tup [adjA c, ni f])), (39, .c [locA l] (locF l)), (42, .c [helA h] (helF h)), (44, .c (argsA l c h now) (.tup [adjA d, ni g])), (48, .b false), (51, .b false), (55, .b true), (59, .b true)] (argsA l a h now) (.bool true) = some _ by kernel_rfl) (AllP.c h1 (AllP.c (show freshA (AV.bool true) = true by kernel_rfl) (AllP.c h2 (AllP.c h3 (AllP.c h4 (AllP.c h5 (AllP.c h6 (AllP.c (show freshA (AV.tup [adjA b, ni e]) = true by kernel_rfl) (AllP.c h2 (AllP.c h3 (AllP.c h4 (AllP.c h5 (AllP.c h7 (AllP.c (show freshA (AV.tup [adjA c, ni f]) = true by kernel_rfl) (AllP.c h2 (AllP.c h3 (AllP.c h4 (AllP.c h5 (AllP.c h8 (AllP.c (show freshA (AV.tup [adjA d, ni g]) = true by kernel_rfl) (AllP.c h9 (AllP.c h10 (AllP.c h11 (AllP.c h12 (AllP.c (show AV.bool true = AV.bool true by kernel_rfl) AllP.n)))))))))))))))))))))))))
theorem Twice_0 (l : Loc) (a b c d : Adj) (h : Hel) (now e f g : Int)
    (h1 : FnW Try.prog (10 : FuncId) [] [] (AV.bool true))
    (h2 : FnW Try.prog (11 : FuncId) [AV.agg [AV.int IntKind.u8 (↑l.sys.a.toNat : Int), AV.int IntKind.u8 (↑l.sys.b.toNat : Int), AV.int IntKind.u8 (↑l.sys.c.toNat : Int), AV.int IntKind.u8 (↑l.sys.d.toNat : Int), AV.int IntKind.u8 (↑l.sys.e.toNat : Int), AV.int IntKind.u8 (↑l.sys.f.toNat : Int), AV.int IntKind.u8 (↑l.num.toNat : Int), AV.int IntKind.i64 l.level, AV.sl false false (1 : Nat) (stale.sL (vsS l.areas))]] [locA l] (locF l))
    (h3 : freshA (locF l) = true)
    (h4 : FnW Try.prog (12 : FuncId) [AV.agg [AV.int IntKind.u8 (↑h.sys.a.toNat : Int), AV.int IntKind.u8 (↑h.sys.b.toNat : Int), AV.int IntKind.u8 (↑h.sys.c.toNat : Int), AV.int IntKind.u8 (↑h.sys.d.toNat : Int), AV.int IntKind.u8 (↑h.sys.e.toNat : Int), AV.int IntKind.u8 (↑h.sys.f.toNat : Int), AV.int IntKind.u8 (↑h.num.toNat : Int), AV.int IntKind.i64 h.level, AV.int IntKind.i64 h.hold, AV.sl false false (1 : Nat) (stale.sL (vsS h.areas)), AV.int IntKind.i64 h.state, AV.bool h.named, AV.int IntKind.u8 (↑h.their.a.toNat : Int), AV.int IntKind.u8 (↑h.their.b.toNat : Int), AV.int IntKind.u8 (↑h.their.c.toNat : Int), AV.int IntKind.u8 (↑h.their.d.toNat : Int), AV.int IntKind.u8 (↑h.their.e.toNat : Int), AV.int IntKind.u8 (↑h.their.f.toNat : Int), AV.int IntKind.u8 (↑h.there.toNat : Int)]] [helA h] (helF h))
    (h5 : freshA (helF h) = true)
    (h6 : FnW Try.prog (13 : FuncId) [AV.agg [AV.int IntKind.u8 (↑l.sys.a.toNat : Int), AV.int IntKind.u8 (↑l.sys.b.toNat : Int), AV.int IntKind.u8 (↑l.sys.c.toNat : Int), AV.int IntKind.u8 (↑l.sys.d.toNat : Int), AV.int IntKind.u8 (↑l.sys.e.toNat : Int), AV.int IntKind.u8 (↑l.sys.f.toNat : Int), AV.int IntKind.u8 (↑l.num.toNat : Int), AV.int IntKind.i64 l.level, AV.sl false false (1 : Nat) (stale.sL (vsF l.areas))], AV.agg [AV.int IntKind.i64 a.state, AV.int IntKind.u8 (↑a.peer.a.toNat : Int), AV.int IntKind.u8 (↑a.peer.b.toNat : Int), AV.int IntKind.u8 (↑a.peer.c.toNat : Int), AV.int IntKind.u8 (↑a.peer.d.toNat : Int), AV.int IntKind.u8 (↑a.peer.e.toNat : Int), AV.int IntKind.u8 (↑a.peer.f.toNat : Int), AV.int IntKind.u8 (↑a.num.toNat : Int), AV.int IntKind.i64 a.level, AV.int IntKind.i64 a.til], AV.agg [AV.int IntKind.u8 (↑h.sys.a.toNat : Int), AV.int IntKind.u8 (↑h.sys.b.toNat : Int), AV.int IntKind.u8 (↑h.sys.c.toNat : Int), AV.int IntKind.u8 (↑h.sys.d.toNat : Int), AV.int IntKind.u8 (↑h.sys.e.toNat : Int), AV.int IntKind.u8 (↑h.sys.f.toNat : Int), AV.int IntKind.u8 (↑h.num.toNat : Int), AV.int IntKind.i64 h.level, AV.int IntKind.i64 h.hold, AV.sl false false (1 : Nat) (stale.sL (vsF h.areas)), AV.int IntKind.i64 h.state, AV.bool h.named, AV.int IntKind.u8 (↑h.their.a.toNat : Int), AV.int IntKind.u8 (↑h.their.b.toNat : Int), AV.int IntKind.u8 (↑h.their.c.toNat : Int), AV.int IntKind.u8 (↑h.their.d.toNat : Int), AV.int IntKind.u8 (↑h.their.e.toNat : Int), AV.int IntKind.u8 (↑h.their.f.toNat : Int), AV.int IntKind.u8 (↑h.there.toNat : Int)], AV.int IntKind.i64 now] (argsA l a h now) (AV.tup [adjA b, ni e]))
    (h7 : FnW Try.prog (13 : FuncId) [AV.agg [AV.int IntKind.u8 (↑l.sys.a.toNat : Int), AV.int IntKind.u8 (↑l.sys.b.toNat : Int), AV.int IntKind.u8 (↑l.sys.c.toNat : Int), AV.int IntKind.u8 (↑l.sys.d.toNat : Int), AV.int IntKind.u8 (↑l.sys.e.toNat : Int), AV.int IntKind.u8 (↑l.sys.f.toNat : Int), AV.int IntKind.u8 (↑l.num.toNat : Int), AV.int IntKind.i64 l.level, AV.sl false false (1 : Nat) (stale.sL (vsF l.areas))], AV.agg [AV.int IntKind.i64 b.state, AV.int IntKind.u8 (↑b.peer.a.toNat : Int), AV.int IntKind.u8 (↑b.peer.b.toNat : Int), AV.int IntKind.u8 (↑b.peer.c.toNat : Int), AV.int IntKind.u8 (↑b.peer.d.toNat : Int), AV.int IntKind.u8 (↑b.peer.e.toNat : Int), AV.int IntKind.u8 (↑b.peer.f.toNat : Int), AV.int IntKind.u8 (↑b.num.toNat : Int), AV.int IntKind.i64 b.level, AV.int IntKind.i64 b.til], AV.agg [AV.int IntKind.u8 (↑h.sys.a.toNat : Int), AV.int IntKind.u8 (↑h.sys.b.toNat : Int), AV.int IntKind.u8 (↑h.sys.c.toNat : Int), AV.int IntKind.u8 (↑h.sys.d.toNat : Int), AV.int IntKind.u8 (↑h.sys.e.toNat : Int), AV.int IntKind.u8 (↑h.sys.f.toNat : Int), AV.int IntKind.u8 (↑h.num.toNat : Int), AV.int IntKind.i64 h.level, AV.int IntKind.i64 h.hold, AV.sl false false (1 : Nat) (stale.sL (vsF h.areas)), AV.int IntKind.i64 h.state, AV.bool h.named, AV.int IntKind.u8 (↑h.their.a.toNat : Int), AV.int IntKind.u8 (↑h.their.b.toNat : Int), AV.int IntKind.u8 (↑h.their.c.toNat : Int), AV.int IntKind.u8 (↑h.their.d.toNat : Int), AV.int IntKind.u8 (↑h.their.e.toNat : Int), AV.int IntKind.u8 (↑h.their.f.toNat : Int), AV.int IntKind.u8 (↑h.there.toNat : Int)], AV.int IntKind.i64 now] (argsA l b h now) (AV.tup [adjA c, ni f]))
    (h8 : FnW Try.prog (13 : FuncId) [AV.agg [AV.int IntKind.u8 (↑l.sys.a.toNat : Int), AV.int IntKind.u8 (↑l.sys.b.toNat : Int), AV.int IntKind.u8 (↑l.sys.c.toNat : Int), AV.int IntKind.u8 (↑l.sys.d.toNat : Int), AV.int IntKind.u8 (↑l.sys.e.toNat : Int), AV.int IntKind.u8 (↑l.sys.f.toNat : Int), AV.int IntKind.u8 (↑l.num.toNat : Int), AV.int IntKind.i64 l.level, AV.sl false false (1 : Nat) (stale.sL (vsF l.areas))], AV.agg [AV.int IntKind.i64 c.state, AV.int IntKind.u8 (↑c.peer.a.toNat : Int), AV.int IntKind.u8 (↑c.peer.b.toNat : Int), AV.int IntKind.u8 (↑c.peer.c.toNat : Int), AV.int IntKind.u8 (↑c.peer.d.toNat : Int), AV.int IntKind.u8 (↑c.peer.e.toNat : Int), AV.int IntKind.u8 (↑c.peer.f.toNat : Int), AV.int IntKind.u8 (↑c.num.toNat : Int), AV.int IntKind.i64 c.level, AV.int IntKind.i64 c.til], AV.agg [AV.int IntKind.u8 (↑h.sys.a.toNat : Int), AV.int IntKind.u8 (↑h.sys.b.toNat : Int), AV.int IntKind.u8 (↑h.sys.c.toNat : Int), AV.int IntKind.u8 (↑h.sys.d.toNat : Int), AV.int IntKind.u8 (↑h.sys.e.toNat : Int), AV.int IntKind.u8 (↑h.sys.f.toNat : Int), AV.int IntKind.u8 (↑h.num.toNat : Int), AV.int IntKind.i64 h.level, AV.int IntKind.i64 h.hold, AV.sl false false (1 : Nat) (stale.sL (vsF h.areas)), AV.int IntKind.i64 h.state, AV.bool h.named, AV.int IntKind.u8 (↑h.their.a.toNat : Int), AV.int IntKind.u8 (↑h.their.b.toNat : Int), AV.int IntKind.u8 (↑h.their.c.toNat : Int), AV.int IntKind.u8 (↑h.their.d.toNat : Int), AV.int IntKind.u8 (↑h.their.e.toNat : Int), AV.int IntKind.u8 (↑h.their.f.toNat : Int), AV.int IntKind.u8 (↑h.there.toNat : Int)], AV.int IntKind.i64 now] (argsA l c h now) (AV.tup [adjA d, ni g]))
    (h9 : (e == (1 : Int)) = false)
    (h10 : (e == (2 : Int)) = false)
    (h11 : (e == (7 : Int)) = false)
    (h12 : (e == f) = true)
    (h13 : (f == g) = true)
    (h14 : (if false = true then !(b.state == c.state && ((↑b.peer.a.toNat : Int) == (↑c.peer.a.toNat : Int) && ((↑b.peer.b.toNat : Int) == (↑c.peer.b.toNat : Int) && ((↑b.peer.c.toNat : Int) == (↑c.peer.c.toNat : Int) && ((↑b.peer.d.toNat : Int) == (↑c.peer.d.toNat : Int) && ((↑b.peer.e.toNat : Int) == (↑c.peer.e.toNat : Int) && ((↑b.peer.f.toNat : Int) == (↑c.peer.f.toNat : Int) && ((↑b.num.toNat : Int) == (↑c.num.toNat : Int) && (b.level == c.level && (b.til == c.til && true)))))))))) else b.state == c.state && ((↑b.peer.a.toNat : Int) == (↑c.peer.a.toNat : Int) && ((↑b.peer.b.toNat : Int) == (↑c.peer.b.toNat : Int) && ((↑b.peer.c.toNat : Int) == (↑c.peer.c.toNat : Int) && ((↑b.peer.d.toNat : Int) == (↑c.peer.d.toNat : Int) && ((↑b.peer.e.toNat : Int) == (↑c.peer.e.toNat : Int) && ((↑b.peer.f.toNat : Int) == (↑c.peer.f.toNat : Int) && ((↑b.num.toNat : Int) == (↑c.num.toNat : Int) && (b.level == c.level && (b.til == c.til && true)))))))))) = true)
    (h15 : (if false = true then !(c.state == d.state && ((↑c.peer.a.toNat : Int) == (↑d.peer.a.toNat : Int) && ((↑c.peer.b.toNat : Int) == (↑d.peer.b.toNat : Int) && ((↑c.peer.c.toNat : Int) == (↑d.peer.c.toNat : Int) && ((↑c.peer.d.toNat : Int) == (↑d.peer.d.toNat : Int) && ((↑c.peer.e.toNat : Int) == (↑d.peer.e.toNat : Int) && ((↑c.peer.f.toNat : Int) == (↑d.peer.f.toNat : Int) && ((↑c.num.toNat : Int) == (↑d.num.toNat : Int) && (c.level == d.level && (c.til == d.til && true)))))))))) else c.state == d.state && ((↑c.peer.a.toNat : Int) == (↑d.peer.a.toNat : Int) && ((↑c.peer.b.toNat : Int) == (↑d.peer.b.toNat : Int) && ((↑c.peer.c.toNat : Int) == (↑d.peer.c.toNat : Int) && ((↑c.peer.d.toNat : Int) == (↑d.peer.d.toNat : Int) && ((↑c.peer.e.toNat : Int) == (↑d.peer.e.toNat : Int) && ((↑c.peer.f.toNat : Int) == (↑d.peer.f.toNat : Int) && ((↑c.num.toNat : Int) == (↑d.num.toNat : Int) && (c.level == d.level && (c.til == d.til && true)))))))))) = true) :
    WayF Try.prog 5 T5 fd5 [(15, .c [] (.bool true)), (19, .c [locA l] (locF l)), (22, .c [helA h] (helF h)), (24, .c (argsA l a h now) (.tup [adjA b, ni e])), (29, .c [locA l] (locF l)), (32, .c [helA h] (helF h)), (34, .c (argsA l b h now) (.tup [adjA c, ni f])), (39, .c [locA l] (locF l)), (42, .c [helA h] (helF h)), (44, .c (argsA l c h now) (.tup [adjA d, ni g])), (48, .b false), (51, .b false), (55, .b false), (62, .b true), (66, .b true), (71, .b true), (76, .b true)] (argsA l a h now) (.bool true) :=
  fn_of_pr hfol ok5 hT5 (show prF Try.prog 5 T5 fd5 [(15, .c [] (.bool true)), (19, .c [locA l] (locF l)), (22, .c [helA h] (helF h)), (24, .c (argsA l a h now) (.tup [adjA b, ni e])), (29, .c [locA l] (locF l)), (32, .c [helA h] (helF h)), (34, .c (argsA l b h now) (.tup [adjA c, ni f])), (39, .c [locA l] (locF l)), (42, .c [helA h] (helF h)), (44, .c (argsA l c h now) (.tup [adjA d, ni g])), (48, .b false), (51, .b false), (55, .b false), (62, .b true), (66, .b true), (71, .b true), (76, .b true)] (argsA l a h now) (.bool true) = some _ by kernel_rfl) (AllP.c h1 (AllP.c (show freshA (AV.bool true) = true by kernel_rfl) (AllP.c h2 (AllP.c h3 (AllP.c h4 (AllP.c h5 (AllP.c h6 (AllP.c (show freshA (AV.tup [adjA b, ni e]) = true by kernel_rfl) (AllP.c h2 (AllP.c h3 (AllP.c h4 (AllP.c h5 (AllP.c h7 (AllP.c (show freshA (AV.tup [adjA c, ni f]) = true by kernel_rfl) (AllP.c h2 (AllP.c h3 (AllP.c h4 (AllP.c h5 (AllP.c h8 (AllP.c (show freshA (AV.tup [adjA d, ni g]) = true by kernel_rfl) (AllP.c h9 (AllP.c h10 (AllP.c h11 (AllP.c h12 (AllP.c h13 (AllP.c h14 (AllP.c h15 (AllP.c (show AV.bool true = AV.bool true by kernel_rfl) AllP.n))))))))))))))))))))))))))))
theorem Lv_errE (l : Loc) (b : Adj) (h : Hel) (now e : Int)
    (h1 : FnW Try.prog (10 : FuncId) [] [] (AV.bool true))
    (h2 : FnW Try.prog (11 : FuncId) [AV.agg [AV.int IntKind.u8 (↑l.sys.a.toNat : Int), AV.int IntKind.u8 (↑l.sys.b.toNat : Int), AV.int IntKind.u8 (↑l.sys.c.toNat : Int), AV.int IntKind.u8 (↑l.sys.d.toNat : Int), AV.int IntKind.u8 (↑l.sys.e.toNat : Int), AV.int IntKind.u8 (↑l.sys.f.toNat : Int), AV.int IntKind.u8 (↑l.num.toNat : Int), AV.int IntKind.i64 l.level, AV.sl false false (1 : Nat) (stale.sL (vsS l.areas))]] [locA l] (locF l))
    (h3 : freshA (locF l) = true)
    (h4 : FnW Try.prog (12 : FuncId) [AV.agg [AV.int IntKind.u8 (↑h.sys.a.toNat : Int), AV.int IntKind.u8 (↑h.sys.b.toNat : Int), AV.int IntKind.u8 (↑h.sys.c.toNat : Int), AV.int IntKind.u8 (↑h.sys.d.toNat : Int), AV.int IntKind.u8 (↑h.sys.e.toNat : Int), AV.int IntKind.u8 (↑h.sys.f.toNat : Int), AV.int IntKind.u8 (↑h.num.toNat : Int), AV.int IntKind.i64 h.level, AV.int IntKind.i64 h.hold, AV.sl false false (1 : Nat) (stale.sL (vsS h.areas)), AV.int IntKind.i64 h.state, AV.bool h.named, AV.int IntKind.u8 (↑h.their.a.toNat : Int), AV.int IntKind.u8 (↑h.their.b.toNat : Int), AV.int IntKind.u8 (↑h.their.c.toNat : Int), AV.int IntKind.u8 (↑h.their.d.toNat : Int), AV.int IntKind.u8 (↑h.their.e.toNat : Int), AV.int IntKind.u8 (↑h.their.f.toNat : Int), AV.int IntKind.u8 (↑h.there.toNat : Int)]] [helA h] (helF h))
    (h5 : freshA (helF h) = true)
    (h6 : FnW Try.prog (13 : FuncId) [AV.agg [AV.int IntKind.u8 (↑l.sys.a.toNat : Int), AV.int IntKind.u8 (↑l.sys.b.toNat : Int), AV.int IntKind.u8 (↑l.sys.c.toNat : Int), AV.int IntKind.u8 (↑l.sys.d.toNat : Int), AV.int IntKind.u8 (↑l.sys.e.toNat : Int), AV.int IntKind.u8 (↑l.sys.f.toNat : Int), AV.int IntKind.u8 (↑l.num.toNat : Int), AV.int IntKind.i64 l.level, AV.sl false false (1 : Nat) (stale.sL (vsF l.areas))], AV.agg [AV.int IntKind.i64 (2 : Int), AV.int IntKind.u8 (0 : Int), AV.int IntKind.u8 (0 : Int), AV.int IntKind.u8 (0 : Int), AV.int IntKind.u8 (0 : Int), AV.int IntKind.u8 (0 : Int), AV.int IntKind.u8 (0 : Int), AV.int IntKind.u8 (0 : Int), AV.int IntKind.i64 (0 : Int), AV.int IntKind.i64 (0 : Int)], AV.agg [AV.int IntKind.u8 (↑h.sys.a.toNat : Int), AV.int IntKind.u8 (↑h.sys.b.toNat : Int), AV.int IntKind.u8 (↑h.sys.c.toNat : Int), AV.int IntKind.u8 (↑h.sys.d.toNat : Int), AV.int IntKind.u8 (↑h.sys.e.toNat : Int), AV.int IntKind.u8 (↑h.sys.f.toNat : Int), AV.int IntKind.u8 (↑h.num.toNat : Int), AV.int IntKind.i64 h.level, AV.int IntKind.i64 h.hold, AV.sl false false (1 : Nat) (stale.sL (vsF h.areas)), AV.int IntKind.i64 h.state, AV.bool h.named, AV.int IntKind.u8 (↑h.their.a.toNat : Int), AV.int IntKind.u8 (↑h.their.b.toNat : Int), AV.int IntKind.u8 (↑h.their.c.toNat : Int), AV.int IntKind.u8 (↑h.their.d.toNat : Int), AV.int IntKind.u8 (↑h.their.e.toNat : Int), AV.int IntKind.u8 (↑h.their.f.toNat : Int), AV.int IntKind.u8 (↑h.there.toNat : Int)], AV.int IntKind.i64 now] (argsA l dn h now) (AV.tup [adjA b, ni e]))
    (h7 : (e != (0 : Int)) = true)
    (h8 : (if false = true then !(b.state == (2 : Int) && ((↑b.peer.a.toNat : Int) == (0 : Int) && ((↑b.peer.b.toNat : Int) == (0 : Int) && ((↑b.peer.c.toNat : Int) == (0 : Int) && ((↑b.peer.d.toNat : Int) == (0 : Int) && ((↑b.peer.e.toNat : Int) == (0 : Int) && ((↑b.peer.f.toNat : Int) == (0 : Int) && ((↑b.num.toNat : Int) == (0 : Int) && (b.level == (0 : Int) && (b.til == (0 : Int) && true)))))))))) else b.state == (2 : Int) && ((↑b.peer.a.toNat : Int) == (0 : Int) && ((↑b.peer.b.toNat : Int) == (0 : Int) && ((↑b.peer.c.toNat : Int) == (0 : Int) && ((↑b.peer.d.toNat : Int) == (0 : Int) && ((↑b.peer.e.toNat : Int) == (0 : Int) && ((↑b.peer.f.toNat : Int) == (0 : Int) && ((↑b.num.toNat : Int) == (0 : Int) && (b.level == (0 : Int) && (b.til == (0 : Int) && true)))))))))) = true) :
    WayF Try.prog 6 T6 fd6 [(14, .c [] (.bool true)), (18, .c [locA l] (locF l)), (21, .c [helA h] (helF h)), (23, .c (argsA l dn h now) (.tup [adjA b, ni e])), (27, .b true), (35, .b true)] [locA l, helA h, ni now] (.bool true) :=
  fn_of_pr hfol ok6 hT6 (show prF Try.prog 6 T6 fd6 [(14, .c [] (.bool true)), (18, .c [locA l] (locF l)), (21, .c [helA h] (helF h)), (23, .c (argsA l dn h now) (.tup [adjA b, ni e])), (27, .b true), (35, .b true)] [locA l, helA h, ni now] (.bool true) = some _ by kernel_rfl) (AllP.c h1 (AllP.c (show freshA (AV.bool true) = true by kernel_rfl) (AllP.c h2 (AllP.c h3 (AllP.c h4 (AllP.c h5 (AllP.c h6 (AllP.c (show freshA (AV.tup [adjA b, ni e]) = true by kernel_rfl) (AllP.c h7 (AllP.c h8 (AllP.c (show AV.bool true = AV.bool true by kernel_rfl) AllP.n)))))))))))
theorem Lv_errD (l : Loc) (b : Adj) (h : Hel) (now e : Int)
    (h1 : FnW Try.prog (10 : FuncId) [] [] (AV.bool true))
    (h2 : FnW Try.prog (11 : FuncId) [AV.agg [AV.int IntKind.u8 (↑l.sys.a.toNat : Int), AV.int IntKind.u8 (↑l.sys.b.toNat : Int), AV.int IntKind.u8 (↑l.sys.c.toNat : Int), AV.int IntKind.u8 (↑l.sys.d.toNat : Int), AV.int IntKind.u8 (↑l.sys.e.toNat : Int), AV.int IntKind.u8 (↑l.sys.f.toNat : Int), AV.int IntKind.u8 (↑l.num.toNat : Int), AV.int IntKind.i64 l.level, AV.sl false false (1 : Nat) (stale.sL (vsS l.areas))]] [locA l] (locF l))
    (h3 : freshA (locF l) = true)
    (h4 : FnW Try.prog (12 : FuncId) [AV.agg [AV.int IntKind.u8 (↑h.sys.a.toNat : Int), AV.int IntKind.u8 (↑h.sys.b.toNat : Int), AV.int IntKind.u8 (↑h.sys.c.toNat : Int), AV.int IntKind.u8 (↑h.sys.d.toNat : Int), AV.int IntKind.u8 (↑h.sys.e.toNat : Int), AV.int IntKind.u8 (↑h.sys.f.toNat : Int), AV.int IntKind.u8 (↑h.num.toNat : Int), AV.int IntKind.i64 h.level, AV.int IntKind.i64 h.hold, AV.sl false false (1 : Nat) (stale.sL (vsS h.areas)), AV.int IntKind.i64 h.state, AV.bool h.named, AV.int IntKind.u8 (↑h.their.a.toNat : Int), AV.int IntKind.u8 (↑h.their.b.toNat : Int), AV.int IntKind.u8 (↑h.their.c.toNat : Int), AV.int IntKind.u8 (↑h.their.d.toNat : Int), AV.int IntKind.u8 (↑h.their.e.toNat : Int), AV.int IntKind.u8 (↑h.their.f.toNat : Int), AV.int IntKind.u8 (↑h.there.toNat : Int)]] [helA h] (helF h))
    (h5 : freshA (helF h) = true)
    (h6 : FnW Try.prog (13 : FuncId) [AV.agg [AV.int IntKind.u8 (↑l.sys.a.toNat : Int), AV.int IntKind.u8 (↑l.sys.b.toNat : Int), AV.int IntKind.u8 (↑l.sys.c.toNat : Int), AV.int IntKind.u8 (↑l.sys.d.toNat : Int), AV.int IntKind.u8 (↑l.sys.e.toNat : Int), AV.int IntKind.u8 (↑l.sys.f.toNat : Int), AV.int IntKind.u8 (↑l.num.toNat : Int), AV.int IntKind.i64 l.level, AV.sl false false (1 : Nat) (stale.sL (vsF l.areas))], AV.agg [AV.int IntKind.i64 (2 : Int), AV.int IntKind.u8 (0 : Int), AV.int IntKind.u8 (0 : Int), AV.int IntKind.u8 (0 : Int), AV.int IntKind.u8 (0 : Int), AV.int IntKind.u8 (0 : Int), AV.int IntKind.u8 (0 : Int), AV.int IntKind.u8 (0 : Int), AV.int IntKind.i64 (0 : Int), AV.int IntKind.i64 (0 : Int)], AV.agg [AV.int IntKind.u8 (↑h.sys.a.toNat : Int), AV.int IntKind.u8 (↑h.sys.b.toNat : Int), AV.int IntKind.u8 (↑h.sys.c.toNat : Int), AV.int IntKind.u8 (↑h.sys.d.toNat : Int), AV.int IntKind.u8 (↑h.sys.e.toNat : Int), AV.int IntKind.u8 (↑h.sys.f.toNat : Int), AV.int IntKind.u8 (↑h.num.toNat : Int), AV.int IntKind.i64 h.level, AV.int IntKind.i64 h.hold, AV.sl false false (1 : Nat) (stale.sL (vsF h.areas)), AV.int IntKind.i64 h.state, AV.bool h.named, AV.int IntKind.u8 (↑h.their.a.toNat : Int), AV.int IntKind.u8 (↑h.their.b.toNat : Int), AV.int IntKind.u8 (↑h.their.c.toNat : Int), AV.int IntKind.u8 (↑h.their.d.toNat : Int), AV.int IntKind.u8 (↑h.their.e.toNat : Int), AV.int IntKind.u8 (↑h.their.f.toNat : Int), AV.int IntKind.u8 (↑h.there.toNat : Int)], AV.int IntKind.i64 now] (argsA l dn h now) (AV.tup [adjA b, ni e]))
    (h7 : (e != (0 : Int)) = false)
    (h8 : (b.state == (2 : Int)) = true)
    (h9 : (if false = true then !(b.state == (2 : Int) && ((↑b.peer.a.toNat : Int) == (0 : Int) && ((↑b.peer.b.toNat : Int) == (0 : Int) && ((↑b.peer.c.toNat : Int) == (0 : Int) && ((↑b.peer.d.toNat : Int) == (0 : Int) && ((↑b.peer.e.toNat : Int) == (0 : Int) && ((↑b.peer.f.toNat : Int) == (0 : Int) && ((↑b.num.toNat : Int) == (0 : Int) && (b.level == (0 : Int) && (b.til == (0 : Int) && true)))))))))) else b.state == (2 : Int) && ((↑b.peer.a.toNat : Int) == (0 : Int) && ((↑b.peer.b.toNat : Int) == (0 : Int) && ((↑b.peer.c.toNat : Int) == (0 : Int) && ((↑b.peer.d.toNat : Int) == (0 : Int) && ((↑b.peer.e.toNat : Int) == (0 : Int) && ((↑b.peer.f.toNat : Int) == (0 : Int) && ((↑b.num.toNat : Int) == (0 : Int) && (b.level == (0 : Int) && (b.til == (0 : Int) && true)))))))))) = true) :
    WayF Try.prog 6 T6 fd6 [(14, .c [] (.bool true)), (18, .c [locA l] (locF l)), (21, .c [helA h] (helF h)), (23, .c (argsA l dn h now) (.tup [adjA b, ni e])), (27, .b false), (31, .b true), (35, .b true)] [locA l, helA h, ni now] (.bool true) :=
  fn_of_pr hfol ok6 hT6 (show prF Try.prog 6 T6 fd6 [(14, .c [] (.bool true)), (18, .c [locA l] (locF l)), (21, .c [helA h] (helF h)), (23, .c (argsA l dn h now) (.tup [adjA b, ni e])), (27, .b false), (31, .b true), (35, .b true)] [locA l, helA h, ni now] (.bool true) = some _ by kernel_rfl) (AllP.c h1 (AllP.c (show freshA (AV.bool true) = true by kernel_rfl) (AllP.c h2 (AllP.c h3 (AllP.c h4 (AllP.c h5 (AllP.c h6 (AllP.c (show freshA (AV.tup [adjA b, ni e]) = true by kernel_rfl) (AllP.c h7 (AllP.c h8 (AllP.c h9 (AllP.c (show AV.bool true = AV.bool true by kernel_rfl) AllP.n))))))))))))
theorem LvI_have (l : Loc) (b : Adj) (h : Hel) (i j : Nat) (x y : List UInt8)
    (h1 : decide ((↑j : Int) < (↑h.areas.length : Int)) = true)
    (h2 : (vsS h.areas)[j]? = some (vS y))
    (h3 : IntKind.i64.wrap ((↑j : Int) + (1 : Int)) = (↑(j + (1 : Nat)) : Int)) :
    WayR Try.prog T6 107 lp6x0 [(47, .b true), (48, .v (vS y)), (56, .i (j + 1 : Nat))] (q6I l h b true i x j) .normal (q6I l h b true i x (j + 1)) :=
  runs_of_pr hfol (show prR Try.prog T6 107 lp6x0 [(47, .b true), (48, .v (vS y)), (56, .i (j + 1 : Nat))] (q6I l h b true i x j) .normal (q6I l h b true i x (j + 1)) = some _ by kernel_rfl) (AllP.c h1 (AllP.c (show (0 : Int) ≤ (↑j : Int) from Int.natCast_nonneg _) (AllP.c h2 (AllP.c h3 (AllP.c (LeR.refl (x := AV.box (locC l))) (AllP.c (LeR.refl (x := AV.box (helC h))) (AllP.c (LeR.refl (x := AV.box (adjC b))) (AllP.c (LeR.refl (x := AV.bool true)) (AllP.c (LeR.refl (x := AV.sl false false (1 : Nat) (bsA x))) (AllP.c (LeR.refl (x := AV.sl false false (1 : Nat) (vsS l.areas))) (AllP.c (LeR.refl (x := AV.int IntKind.i64 (↑l.areas.length : Int))) (AllP.c (LeR.refl (x := AV.int IntKind.i64 (↑i : Int))) (AllP.c (LeR.refl (x := AV.sl false false (1 : Nat) (vsS h.areas))) (AllP.c (LeR.refl (x := AV.int IntKind.i64 (↑h.areas.length : Int))) (AllP.c (LeR.refl (x := AV.int IntKind.i64 (↑(j + (1 : Nat)) : Int))) (AllP.c (LeR.refl (x := AV.mem [])) AllP.n))))))))))))))))
theorem LvI_ask (l : Loc) (b : Adj) (h : Hel) (i j : Nat) (x y : List UInt8) (r : Bool)
    (h1 : decide ((↑j : Int) < (↑h.areas.length : Int)) = true)
    (h2 : (vsS h.areas)[j]? = some (vS y))
    (h3 : FnW Try.prog (16 : FuncId) [AV.sl false false (1 : Nat) (stale.sL (bsA x)), AV.sl false false (1 : Nat) (stale.sL (bsA y))] [slB x, slB y] (AV.bool r))
    (h4 : IntKind.i64.wrap ((↑j : Int) + (1 : Int)) = (↑(j + (1 : Nat)) : Int)) :
    WayR Try.prog T6 107 lp6x0 [(47, .b true), (48, .v (vS y)), (54, .c [slB x, slB y] (.bool r)), (56, .i (j + 1 : Nat))] (q6I l h b false i x j) .normal (q6I l h b r i x (j + 1)) :=
  runs_of_pr hfol (show prR Try.prog T6 107 lp6x0 [(47, .b true), (48, .v (vS y)), (54, .c [slB x, slB y] (.bool r)), (56, .i (j + 1 : Nat))] (q6I l h b false i x j) .normal (q6I l h b r i x (j + 1)) = some _ by kernel_rfl) (AllP.c h1 (AllP.c (show (0 : Int) ≤ (↑j : Int) from Int.natCast_nonneg _) (AllP.c h2 (AllP.c h3 (AllP.c (show freshA (AV.bool r) = true by kernel_rfl) (AllP.c h4 (AllP.c (LeR.refl (x := AV.box (locC l))) (AllP.c (LeR.refl (x := AV.box (helC h))) (AllP.c (LeR.refl (x := AV.box (adjC b))) (AllP.c (LeR.refl (x := AV.bool r)) (AllP.c (LeR.refl (x := AV.sl false false (1 : Nat) (bsA x))) (AllP.c (LeR.refl (x := AV.sl false false (1 : Nat) (vsS l.areas))) (AllP.c (LeR.refl (x := AV.int IntKind.i64 (↑l.areas.length : Int))) (AllP.c (LeR.refl (x := AV.int IntKind.i64 (↑i : Int))) (AllP.c (LeR.refl (x := AV.sl false false (1 : Nat) (vsS h.areas))) (AllP.c (LeR.refl (x := AV.int IntKind.i64 (↑h.areas.length : Int))) (AllP.c (LeR.refl (x := AV.int IntKind.i64 (↑(j + (1 : Nat)) : Int))) (AllP.c (LeR.refl (x := AV.mem [])) AllP.n))))))))))))))))))
theorem LvI_end (l : Loc) (b : Adj) (h : Hel) (i j : Nat) (x : List UInt8) (g : Bool)
    (h1 : decide ((↑j : Int) < (↑h.areas.length : Int)) = false) :
    WayR Try.prog T6 107 lp6x0 [(47, .b false)] (q6I l h b g i x j) (.exit 2) (q6O l h b g i) :=
  runs_of_pr hfol (show prR Try.prog T6 107 lp6x0 [(47, .b false)] (q6I l h b g i x j) (.exit 2) (q6O l h b g i) = some _ by kernel_rfl) (AllP.c h1 (AllP.c (LeR.refl (x := AV.box (locC l))) (AllP.c (LeR.refl (x := AV.box (helC h))) (AllP.c (LeR.refl (x := AV.box (adjC b))) (AllP.c (LeR.refl (x := AV.bool g)) (AllP.c (LeR.refl (x := AV.sl false false (1 : Nat) (vsS l.areas))) (AllP.c (LeR.refl (x := AV.int IntKind.i64 (↑l.areas.length : Int))) (AllP.c (LeR.refl (x := AV.int IntKind.i64 (↑i : Int))) (AllP.c (LeR.refl (x := AV.mem [])) AllP.n)))))))))
theorem LvO_next (l : Loc) (b : Adj) (h : Hel) (i : Nat) (x : List UInt8) (g g' : Bool)
    (h1 : decide ((↑i : Int) < (↑l.areas.length : Int)) = true)
    (h2 : (vsS l.areas)[i]? = some (vS x))
    (h3 : LeR (AV.int IntKind.i64 (↑(vsS h.areas).length : Int)) (AV.int IntKind.i64 (↑h.areas.length : Int)))
    (h4 : Runs Try.prog T6 (107 : Nat) (Cd.loop [] lp6x0) (q6I l h b g i x (0 : Nat)) fun x => x = (Ex.exit (2 : Nat), q6O l h b g' i))
    (h5 : IntKind.i64.wrap ((↑i : Int) + (1 : Int)) = (↑(i + (1 : Nat)) : Int)) :
    WayR Try.prog T6 107 lp6x1 [(40, .b true), (41, .v (vS x)), (0, .lp (q6I l h b g i x 0) (.exit 2) (q6O l h b g' i)), (57, .i (i + 1 : Nat))] (q6O l h b g i) .normal (q6O l h b g' (i + 1)) :=
  runs_of_pr hfol (show prR Try.prog T6 107 lp6x1 [(40, .b true), (41, .v (vS x)), (0, .lp (q6I l h b g i x 0) (.exit 2) (q6O l h b g' i)), (57, .i (i + 1 : Nat))] (q6O l h b g i) .normal (q6O l h b g' (i + 1)) = some _ by kernel_rfl) (AllP.c h1 (AllP.c (show (0 : Int) ≤ (↑i : Int) from Int.natCast_nonneg _) (AllP.c h2 (AllP.c (LeR.refl (x := AV.box (locC l))) (AllP.c (LeR.refl (x := AV.box (helC h))) (AllP.c (LeR.refl (x := AV.box (adjC b))) (AllP.c (LeR.refl (x := AV.bool g)) (AllP.c (LeR.refl (x := AV.sl false false (1 : Nat) (bsA x))) (AllP.c (LeR.refl (x := AV.sl false false (1 : Nat) (vsS l.areas))) (AllP.c (LeR.refl (x := AV.int IntKind.i64 (↑l.areas.length : Int))) (AllP.c (LeR.refl (x := AV.int IntKind.i64 (↑i : Int))) (AllP.c (LeR.refl (x := AV.sl false false (1 : Nat) (vsS h.areas))) (AllP.c h3 (AllP.c (LeR.refl (x := AV.int IntKind.i64 (↑(0 : Nat) : Int))) (AllP.c (LeR.refl (x := AV.mem [])) (AllP.c h4 (AllP.c h5 (AllP.c (LeR.refl (x := AV.box (locC l))) (AllP.c (LeR.refl (x := AV.box (helC h))) (AllP.c (LeR.refl (x := AV.box (adjC b))) (AllP.c (LeR.refl (x := AV.bool g')) (AllP.c (LeR.refl (x := AV.sl false false (1 : Nat) (vsS l.areas))) (AllP.c (LeR.refl (x := AV.int IntKind.i64 (↑l.areas.length : Int))) (AllP.c (LeR.refl (x := AV.int IntKind.i64 (↑(i + (1 : Nat)) : Int))) (AllP.c (LeR.refl (x := AV.mem [])) AllP.n)))))))))))))))))))))))))
theorem LvO_end (l : Loc) (b : Adj) (h : Hel) (i : Nat) (g : Bool)
    (h1 : decide ((↑i : Int) < (↑l.areas.length : Int)) = false) :
    WayR Try.prog T6 107 lp6x1 [(40, .b false)] (q6O l h b g i) (.exit 0) (q6E l h b g) :=
  runs_of_pr hfol (show prR Try.prog T6 107 lp6x1 [(40, .b false)] (q6O l h b g i) (.exit 0) (q6E l h b g) = some _ by kernel_rfl) (AllP.c h1 (AllP.c (LeR.refl (x := AV.box (locC l))) (AllP.c (LeR.refl (x := AV.box (helC h))) (AllP.c (LeR.refl (x := AV.box (adjC b))) (AllP.c (LeR.refl (x := AV.bool g)) (AllP.c (LeR.refl (x := AV.mem [])) AllP.n))))))
end Go.Ev

/-! text W5 -/
set_option linter.unusedVariables false
namespace Go.Ev
open Go.Proofs (Try.prog)
theorem Lv_two (l : Loc) (b : Adj) (h : Hel) (now p lp hp : Int) (g : Bool)
    (h1 : FnW Try.prog (10 : FuncId) [] [] (AV.bool true))
    (h2 : FnW Try.prog (11 : FuncId) [AV.agg [AV.int IntKind.u8 (↑l.sys.a.toNat : Int), AV.int IntKind.u8 (↑l.sys.b.toNat : Int), AV.int IntKind.u8 (↑l.sys.c.toNat : Int), AV.int IntKind.u8 (↑l.sys.d.toNat : Int), AV.int IntKind.u8 (↑l.sys.e.toNat : Int), AV.int IntKind.u8 (↑l.sys.f.toNat : Int), AV.int IntKind.u8 (↑l.num.toNat : Int), AV.int IntKind.i64 l.level, AV.sl false false (1 : Nat) (stale.sL (vsS l.areas))]] [locA l] (locF l))
    (h3 : freshA (locF l) = true)
    (h4 : FnW Try.prog (12 : FuncId) [AV.agg [AV.int IntKind.u8 (↑h.sys.a.toNat : Int), AV.int IntKind.u8 (↑h.sys.b.toNat : Int), AV.int IntKind.u8 (↑h.sys.c.toNat : Int), AV.int IntKind.u8 (↑h.sys.d.toNat : Int), AV.int IntKind.u8 (↑h.sys.e.toNat : Int), AV.int IntKind.u8 (↑h.sys.f.toNat : Int), AV.int IntKind.u8 (↑h.num.toNat : Int), AV.int IntKind.i64 h.level, AV.int IntKind.i64 h.hold, AV.sl false false (1 : Nat) (stale.sL (vsS h.areas)), AV.int IntKind.i64 h.state, AV.bool h.named, AV.int IntKind.u8 (↑h.their.a.toNat : Int), AV.int IntKind.u8 (↑h.their.b.toNat : Int), AV.int IntKind.u8 (↑h.their.c.toNat : Int), AV.int IntKind.u8 (↑h.their.d.toNat : Int), AV.int IntKind.u8 (↑h.their.e.toNat : Int), AV.int IntKind.u8 (↑h.their.f.toNat : Int), AV.int IntKind.u8 (↑h.there.toNat : Int)]] [helA h] (helF h))
    (h5 : freshA (helF h) = true)
    (h6 : FnW Try.prog (13 : FuncId) [AV.agg [AV.int IntKind.u8 (↑l.sys.a.toNat : Int), AV.int IntKind.u8 (↑l.sys.b.toNat : Int), AV.int IntKind.u8 (↑l.sys.c.toNat : Int), AV.int IntKind.u8 (↑l.sys.d.toNat : Int), AV.int IntKind.u8 (↑l.sys.e.toNat : Int), AV.int IntKind.u8 (↑l.sys.f.toNat : Int), AV.int IntKind.u8 (↑l.num.toNat : Int), AV.int IntKind.i64 l.level, AV.sl false false (1 : Nat) (stale.sL (vsF l.areas))], AV.agg [AV.int IntKind.i64 (2 : Int), AV.int IntKind.u8 (0 : Int), AV.int IntKind.u8 (0 : Int), AV.int IntKind.u8 (0 : Int), AV.int IntKind.u8 (0 : Int), AV.int IntKind.u8 (0 : Int), AV.int IntKind.u8 (0 : Int), AV.int IntKind.u8 (0 : Int), AV.int IntKind.i64 (0 : Int), AV.int IntKind.i64 (0 : Int)], AV.agg [AV.int IntKind.u8 (↑h.sys.a.toNat : Int), AV.int IntKind.u8 (↑h.sys.b.toNat : Int), AV.int IntKind.u8 (↑h.sys.c.toNat : Int), AV.int IntKind.u8 (↑h.sys.d.toNat : Int), AV.int IntKind.u8 (↑h.sys.e.toNat : Int), AV.int IntKind.u8 (↑h.sys.f.toNat : Int), AV.int IntKind.u8 (↑h.num.toNat : Int), AV.int IntKind.i64 h.level, AV.int IntKind.i64 h.hold, AV.sl false false (1 : Nat) (stale.sL (vsF h.areas)), AV.int IntKind.i64 h.state, AV.bool h.named, AV.int IntKind.u8 (↑h.their.a.toNat : Int), AV.int IntKind.u8 (↑h.their.b.toNat : Int), AV.int IntKind.u8 (↑h.their.c.toNat : Int), AV.int IntKind.u8 (↑h.their.d.toNat : Int), AV.int IntKind.u8 (↑h.their.e.toNat : Int), AV.int IntKind.u8 (↑h.their.f.toNat : Int), AV.int IntKind.u8 (↑h.there.toNat : Int)], AV.int IntKind.i64 now] (argsA l dn h now) (AV.tup [adjA b, ni (0 : Int)]))
    (h7 : (b.state == (2 : Int)) = false)
    (h8 : LeR (AV.int IntKind.i64 (↑(vsS l.areas).length : Int)) (AV.int IntKind.i64 (↑l.areas.length : Int)))
    (h9 : Runs Try.prog T6 (107 : Nat) (Cd.loop [] lp6x1) (q6O l h b false (0 : Nat)) fun x => x = (Ex.exit (0 : Nat), q6E l h b g))
    (h10 : IntKind.i64.wrap (↑(BitVec.ofInt (64 : Nat) b.level &&& ~~~BitVec.ofInt (64 : Nat) l.level).toNat : Int) = (0 : Int))
    (h11 : IntKind.i64.wrap (↑(BitVec.ofInt (64 : Nat) b.level &&& ~~~BitVec.ofInt (64 : Nat) h.level).toNat : Int) = (0 : Int))
    (h12 : decide (b.level > (0 : Int)) = true)
    (h13 : (b.level != (1 : Int)) = true)
    (h14 : (b.level != (3 : Int)) = true)
    (h15 : IntKind.i64.wrap (↑(BitVec.ofInt (64 : Nat) b.level &&& BitVec.ofInt (64 : Nat) (2 : Int)).toNat : Int) = p)
    (h16 : IntKind.i64.wrap (↑(BitVec.ofInt (64 : Nat) l.level &&& BitVec.ofInt (64 : Nat) (2 : Int)).toNat : Int) = lp)
    (h17 : (lp != (0 : Int)) = true)
    (h18 : IntKind.i64.wrap (↑(BitVec.ofInt (64 : Nat) h.level &&& BitVec.ofInt (64 : Nat) (2 : Int)).toNat : Int) = hp)
    (h19 : (if false = true then !(p != (0 : Int)) == (hp != (0 : Int)) else (p != (0 : Int)) == (hp != (0 : Int))) = true) :
    WayF Try.prog 6 T6 fd6 [(14, .c [] (.bool true)), (18, .c [locA l] (locF l)), (21, .c [helA h] (helF h)), (23, .c (argsA l dn h now) (.tup [adjA b, ni 0])), (31, .b false), (0, .lp (q6O l h b false 0) (.exit 0) (q6E l h b g)), (62, .i 0), (69, .i 0), (75, .b true), (80, .b true), (84, .b true), (93, .i p), (97, .i lp), (98, .b true), (102, .i hp), (105, .b true)] [locA l, helA h, ni now] (.bool true) :=
  fn_of_pr hfol ok6 hT6 (show prF Try.prog 6 T6 fd6 [(14, .c [] (.bool true)), (18, .c [locA l] (locF l)), (21, .c [helA h] (helF h)), (23, .c (argsA l dn h now) (.tup [adjA b, ni 0])), (31, .b false), (0, .lp (q6O l h b false 0) (.exit 0) (q6E l h b g)), (62, .i 0), (69, .i 0), (75, .b true), (80, .b true), (84, .b true), (93, .i p), (97, .i lp), (98, .b true), (102, .i hp), (105, .b true)] [locA l, helA h, ni now] (.bool true) = some _ by kernel_rfl) (AllP.c h1 (AllP.c (show freshA (AV.bool true) = true by kernel_rfl) (AllP.c h2 (AllP.c h3 (AllP.c h4 (AllP.c h5 (AllP.c h6 (AllP.c (show freshA (AV.tup [adjA b, ni (0 : Int)]) = true by kernel_rfl) (AllP.c h7 (AllP.c (LeR.refl (x := AV.box (locC l))) (AllP.c (LeR.refl (x := AV.box (helC h))) (AllP.c (LeR.refl (x := AV.box (adjC b))) (AllP.c (LeR.refl (x := AV.bool false)) (AllP.c (LeR.refl (x := AV.sl false false (1 : Nat) (vsS l.areas))) (AllP.c h8 (AllP.c (LeR.refl (x := AV.int IntKind.i64 (↑(0 : Nat) : Int))) (AllP.c (LeR.refl (x := AV.mem [])) (AllP.c h9 (AllP.c h10 (AllP.c h11 (AllP.c h12 (AllP.c h13 (AllP.c h14 (AllP.c h15 (AllP.c h16 (AllP.c h17 (AllP.c h18 (AllP.c h19 (AllP.c (show AV.bool true = AV.bool true by kernel_rfl) AllP.n)))))))))))))))))))))))))))))
theorem Lv_one1 (l : Loc) (b : Adj) (h : Hel) (now p lp hp : Int) (g : Bool)
    (h1 : FnW Try.prog (10 : FuncId) [] [] (AV.bool true))
    (h2 : FnW Try.prog (11 : FuncId) [AV.agg [AV.int IntKind.u8 (↑l.sys.a.toNat : Int), AV.int IntKind.u8 (↑l.sys.b.toNat : Int), AV.int IntKind.u8 (↑l.sys.c.toNat : Int), AV.int IntKind.u8 (↑l.sys.d.toNat : Int), AV.int IntKind.u8 (↑l.sys.e.toNat : Int), AV.int IntKind.u8 (↑l.sys.f.toNat : Int), AV.int IntKind.u8 (↑l.num.toNat : Int), AV.int IntKind.i64 l.level, AV.sl false false (1 : Nat) (stale.sL (vsS l.areas))]] [locA l] (locF l))
    (h3 : freshA (locF l) = true)
    (h4 : FnW Try.prog (12 : FuncId) [AV.agg [AV.int IntKind.u8 (↑h.sys.a.toNat : Int), AV.int IntKind.u8 (↑h.sys.b.toNat : Int), AV.int IntKind.u8 (↑h.sys.c.toNat : Int), AV.int IntKind.u8 (↑h.sys.d.toNat : Int), AV.int IntKind.u8 (↑h.sys.e.toNat : Int), AV.int IntKind.u8 (↑h.sys.f.toNat : Int), AV.int IntKind.u8 (↑h.num.toNat : Int), AV.int IntKind.i64 h.level, AV.int IntKind.i64 h.hold, AV.sl false false (1 : Nat) (stale.sL (vsS h.areas)), AV.int IntKind.i64 h.state, AV.bool h.named, AV.int IntKind.u8 (↑h.their.a.toNat : Int), AV.int IntKind.u8 (↑h.their.b.toNat : Int), AV.int IntKind.u8 (↑h.their.c.toNat : Int), AV.int IntKind.u8 (↑h.their.d.toNat : Int), AV.int IntKind.u8 (↑h.their.e.toNat : Int), AV.int IntKind.u8 (↑h.their.f.toNat : Int), AV.int IntKind.u8 (↑h.there.toNat : Int)]] [helA h] (helF h))
    (h5 : freshA (helF h) = true)
    (h6 : FnW Try.prog (13 : FuncId) [AV.agg [AV.int IntKind.u8 (↑l.sys.a.toNat : Int), AV.int IntKind.u8 (↑l.sys.b.toNat : Int), AV.int IntKind.u8 (↑l.sys.c.toNat : Int), AV.int IntKind.u8 (↑l.sys.d.toNat : Int), AV.int IntKind.u8 (↑l.sys.e.toNat : Int), AV.int IntKind.u8 (↑l.sys.f.toNat : Int), AV.int IntKind.u8 (↑l.num.toNat : Int), AV.int IntKind.i64 l.level, AV.sl false false (1 : Nat) (stale.sL (vsF l.areas))], AV.agg [AV.int IntKind.i64 (2 : Int), AV.int IntKind.u8 (0 : Int), AV.int IntKind.u8 (0 : Int), AV.int IntKind.u8 (0 : Int), AV.int IntKind.u8 (0 : Int), AV.int IntKind.u8 (0 : Int), AV.int IntKind.u8 (0 : Int), AV.int IntKind.u8 (0 : Int), AV.int IntKind.i64 (0 : Int), AV.int IntKind.i64 (0 : Int)], AV.agg [AV.int IntKind.u8 (↑h.sys.a.toNat : Int), AV.int IntKind.u8 (↑h.sys.b.toNat : Int), AV.int IntKind.u8 (↑h.sys.c.toNat : Int), AV.int IntKind.u8 (↑h.sys.d.toNat : Int), AV.int IntKind.u8 (↑h.sys.e.toNat : Int), AV.int IntKind.u8 (↑h.sys.f.toNat : Int), AV.int IntKind.u8 (↑h.num.toNat : Int), AV.int IntKind.i64 h.level, AV.int IntKind.i64 h.hold, AV.sl false false (1 : Nat) (stale.sL (vsF h.areas)), AV.int IntKind.i64 h.state, AV.bool h.named, AV.int IntKind.u8 (↑h.their.a.toNat : Int), AV.int IntKind.u8 (↑h.their.b.toNat : Int), AV.int IntKind.u8 (↑h.their.c.toNat : Int), AV.int IntKind.u8 (↑h.their.d.toNat : Int), AV.int IntKind.u8 (↑h.their.e.toNat : Int), AV.int IntKind.u8 (↑h.their.f.toNat : Int), AV.int IntKind.u8 (↑h.there.toNat : Int)], AV.int IntKind.i64 now] (argsA l dn h now) (AV.tup [adjA b, ni (0 : Int)]))
    (h7 : (b.state == (2 : Int)) = false)
    (h8 : LeR (AV.int IntKind.i64 (↑(vsS l.areas).length : Int)) (AV.int IntKind.i64 (↑l.areas.length : Int)))
    (h9 : Runs Try.prog T6 (107 : Nat) (Cd.loop [] lp6x1) (q6O l h b false (0 : Nat)) fun x => x = (Ex.exit (0 : Nat), q6E l h b true))
    (h10 : IntKind.i64.wrap (↑(BitVec.ofInt (64 : Nat) b.level &&& ~~~BitVec.ofInt (64 : Nat) l.level).toNat : Int) = (0 : Int))
    (h11 : IntKind.i64.wrap (↑(BitVec.ofInt (64 : Nat) b.level &&& ~~~BitVec.ofInt (64 : Nat) h.level).toNat : Int) = (0 : Int))
    (h12 : decide (b.level > (0 : Int)) = true)
    (h13 : (b.level != (1 : Int)) = false)
    (h14 : IntKind.i64.wrap (↑(BitVec.ofInt (64 : Nat) b.level &&& BitVec.ofInt (64 : Nat) (2 : Int)).toNat : Int) = p)
    (h15 : IntKind.i64.wrap (↑(BitVec.ofInt (64 : Nat) l.level &&& BitVec.ofInt (64 : Nat) (2 : Int)).toNat : Int) = lp)
    (h16 : (lp != (0 : Int)) = true)
    (h17 : IntKind.i64.wrap (↑(BitVec.ofInt (64 : Nat) h.level &&& BitVec.ofInt (64 : Nat) (2 : Int)).toNat : Int) = hp)
    (h18 : (if false = true then !(p != (0 : Int)) == (hp != (0 : Int)) else (p != (0 : Int)) == (hp != (0 : Int))) = true) :
    WayF Try.prog 6 T6 fd6 [(14, .c [] (.bool true)), (18, .c [locA l] (locF l)), (21, .c [helA h] (helF h)), (23, .c (argsA l dn h now) (.tup [adjA b, ni 0])), (31, .b false), (0, .lp (q6O l h b false 0) (.exit 0) (q6E l h b true)), (62, .i 0), (69, .i 0), (75, .b true), (80, .b false), (93, .i p), (97, .i lp), (98, .b true), (102, .i hp), (105, .b true)] [locA l, helA h, ni now] (.bool true) :=
  fn_of_pr hfol ok6 hT6 (show prF Try.prog 6 T6 fd6 [(14, .c [] (.bool true)), (18, .c [locA l] (locF l)), (21, .c [helA h] (helF h)), (23, .c (argsA l dn h now) (.tup [adjA b, ni 0])), (31, .b false), (0, .lp (q6O l h b false 0) (.exit 0) (q6E l h b true)), (62, .i 0), (69, .i 0), (75, .b true), (80, .b false), (93, .i p), (97, .i lp), (98, .b true), (102, .i hp), (105, .b true)] [locA l, helA h, ni now] (.bool true) = some _ by kernel_rfl) (AllP.c h1 (AllP.c (show freshA (AV.bool true) = true by kernel_rfl) (AllP.c h2 (AllP.c h3 (AllP.c h4 (AllP.c h5 (AllP.c h6 (AllP.c (show freshA (AV.tup [adjA b, ni (0 : Int)]) = true by kernel_rfl) (AllP.c h7 (AllP.c (LeR.refl (x := AV.box (locC l))) (AllP.c (LeR.refl (x := AV.box (helC h))) (AllP.c (LeR.refl (x := AV.box (adjC b))) (AllP.c (LeR.refl (x := AV.bool false)) (AllP.c (LeR.refl (x := AV.sl false false (1 : Nat) (vsS l.areas))) (AllP.c h8 (AllP.c (LeR.refl (x := AV.int IntKind.i64 (↑(0 : Nat) : Int))) (AllP.c (LeR.refl (x := AV.mem [])) (AllP.c h9 (AllP.c h10 (AllP.c h11 (AllP.c h12 (AllP.c h13 (AllP.c h14 (AllP.c h15 (AllP.c h16 (AllP.c h17 (AllP.c h18 (AllP.c (show AV.bool true = AV.bool true by kernel_rfl) AllP.n))))))))))))))))))))))))))))
theorem Lv_one0 (l : Loc) (b : Adj) (h : Hel) (now p lp hp : Int) (g : Bool)
    (h1 : FnW Try.prog (10 : FuncId) [] [] (AV.bool true))
    (h2 : FnW Try.prog (11 : FuncId) [AV.agg [AV.int IntKind.u8 (↑l.sys.a.toNat : Int), AV.int IntKind.u8 (↑l.sys.b.toNat : Int), AV.int IntKind.u8 (↑l.sys.c.toNat : Int), AV.int IntKind.u8 (↑l.sys.d.toNat : Int), AV.int IntKind.u8 (↑l.sys.e.toNat : Int), AV.int IntKind.u8 (↑l.sys.f.toNat : Int), AV.int IntKind.u8 (↑l.num.toNat : Int), AV.int IntKind.i64 l.level, AV.sl false false (1 : Nat) (stale.sL (vsS l.areas))]] [locA l] (locF l))
    (h3 : freshA (locF l) = true)
    (h4 : FnW Try.prog (12 : FuncId) [AV.agg [AV.int IntKind.u8 (↑h.sys.a.toNat : Int), AV.int IntKind.u8 (↑h.sys.b.toNat : Int), AV.int IntKind.u8 (↑h.sys.c.toNat : Int), AV.int IntKind.u8 (↑h.sys.d.toNat : Int), AV.int IntKind.u8 (↑h.sys.e.toNat : Int), AV.int IntKind.u8 (↑h.sys.f.toNat : Int), AV.int IntKind.u8 (↑h.num.toNat : Int), AV.int IntKind.i64 h.level, AV.int IntKind.i64 h.hold, AV.sl false false (1 : Nat) (stale.sL (vsS h.areas)), AV.int IntKind.i64 h.state, AV.bool h.named, AV.int IntKind.u8 (↑h.their.a.toNat : Int), AV.int IntKind.u8 (↑h.their.b.toNat : Int), AV.int IntKind.u8 (↑h.their.c.toNat : Int), AV.int IntKind.u8 (↑h.their.d.toNat : Int), AV.int IntKind.u8 (↑h.their.e.toNat : Int), AV.int IntKind.u8 (↑h.their.f.toNat : Int), AV.int IntKind.u8 (↑h.there.toNat : Int)]] [helA h] (helF h))
    (h5 : freshA (helF h) = true)
    (h6 : FnW Try.prog (13 : FuncId) [AV.agg [AV.int IntKind.u8 (↑l.sys.a.toNat : Int), AV.int IntKind.u8 (↑l.sys.b.toNat : Int), AV.int IntKind.u8 (↑l.sys.c.toNat : Int), AV.int IntKind.u8 (↑l.sys.d.toNat : Int), AV.int IntKind.u8 (↑l.sys.e.toNat : Int), AV.int IntKind.u8 (↑l.sys.f.toNat : Int), AV.int IntKind.u8 (↑l.num.toNat : Int), AV.int IntKind.i64 l.level, AV.sl false false (1 : Nat) (stale.sL (vsF l.areas))], AV.agg [AV.int IntKind.i64 (2 : Int), AV.int IntKind.u8 (0 : Int), AV.int IntKind.u8 (0 : Int), AV.int IntKind.u8 (0 : Int), AV.int IntKind.u8 (0 : Int), AV.int IntKind.u8 (0 : Int), AV.int IntKind.u8 (0 : Int), AV.int IntKind.u8 (0 : Int), AV.int IntKind.i64 (0 : Int), AV.int IntKind.i64 (0 : Int)], AV.agg [AV.int IntKind.u8 (↑h.sys.a.toNat : Int), AV.int IntKind.u8 (↑h.sys.b.toNat : Int), AV.int IntKind.u8 (↑h.sys.c.toNat : Int), AV.int IntKind.u8 (↑h.sys.d.toNat : Int), AV.int IntKind.u8 (↑h.sys.e.toNat : Int), AV.int IntKind.u8 (↑h.sys.f.toNat : Int), AV.int IntKind.u8 (↑h.num.toNat : Int), AV.int IntKind.i64 h.level, AV.int IntKind.i64 h.hold, AV.sl false false (1 : Nat) (stale.sL (vsF h.areas)), AV.int IntKind.i64 h.state, AV.bool h.named, AV.int IntKind.u8 (↑h.their.a.toNat : Int), AV.int IntKind.u8 (↑h.their.b.toNat : Int), AV.int IntKind.u8 (↑h.their.c.toNat : Int), AV.int IntKind.u8 (↑h.their.d.toNat : Int), AV.int IntKind.u8 (↑h.their.e.toNat : Int), AV.int IntKind.u8 (↑h.their.f.toNat : Int), AV.int IntKind.u8 (↑h.there.toNat : Int)], AV.int IntKind.i64 now] (argsA l dn h now) (AV.tup [adjA b, ni (0 : Int)]))
    (h7 : (b.state == (2 : Int)) = false)
    (h8 : LeR (AV.int IntKind.i64 (↑(vsS l.areas).length : Int)) (AV.int IntKind.i64 (↑l.areas.length : Int)))
    (h9 : Runs Try.prog T6 (107 : Nat) (Cd.loop [] lp6x1) (q6O l h b false (0 : Nat)) fun x => x = (Ex.exit (0 : Nat), q6E l h b true))
    (h10 : IntKind.i64.wrap (↑(BitVec.ofInt (64 : Nat) b.level &&& ~~~BitVec.ofInt (64 : Nat) l.level).toNat : Int) = (0 : Int))
    (h11 : IntKind.i64.wrap (↑(BitVec.ofInt (64 : Nat) b.level &&& ~~~BitVec.ofInt (64 : Nat) h.level).toNat : Int) = (0 : Int))
    (h12 : decide (b.level > (0 : Int)) = true)
    (h13 : (b.level != (1 : Int)) = false)
    (h14 : IntKind.i64.wrap (↑(BitVec.ofInt (64 : Nat) b.level &&& BitVec.ofInt (64 : Nat) (2 : Int)).toNat : Int) = p)
    (h15 : IntKind.i64.wrap (↑(BitVec.ofInt (64 : Nat) l.level &&& BitVec.ofInt (64 : Nat) (2 : Int)).toNat : Int) = lp)
    (h16 : (lp != (0 : Int)) = false)
    (h17 : (if false = true then !(p != (0 : Int)) == false else (p != (0 : Int)) == false) = true) :
    WayF Try.prog 6 T6 fd6 [(14, .c [] (.bool true)), (18, .c [locA l] (locF l)), (21, .c [helA h] (helF h)), (23, .c (argsA l dn h now) (.tup [adjA b, ni 0])), (31, .b false), (0, .lp (q6O l h b false 0) (.exit 0) (q6E l h b true)), (62, .i 0), (69, .i 0), (75, .b true), (80, .b false), (93, .i p), (97, .i lp), (98, .b false), (105, .b true)] [locA l, helA h, ni now] (.bool true) :=
  fn_of_pr hfol ok6 hT6 (show prF Try.prog 6 T6 fd6 [(14, .c [] (.bool true)), (18, .c [locA l] (locF l)), (21, .c [helA h] (helF h)), (23, .c (argsA l dn h now) (.tup [adjA b, ni 0])), (31, .b false), (0, .lp (q6O l h b false 0) (.exit 0) (q6E l h b true)), (62, .i 0), (69, .i 0), (75, .b true), (80, .b false), (93, .i p), (97, .i lp), (98, .b false), (105, .b true)] [locA l, helA h, ni now] (.bool true) = some _ by kernel_rfl) (AllP.c h1 (AllP.c (show freshA (AV.bool true) = true by kernel_rfl) (AllP.c h2 (AllP.c h3 (AllP.c h4 (AllP.c h5 (AllP.c h6 (AllP.c (show freshA (AV.tup [adjA b, ni (0 : Int)]) = true by kernel_rfl) (AllP.c h7 (AllP.c (LeR.refl (x := AV.box (locC l))) (AllP.c (LeR.refl (x := AV.box (helC h))) (AllP.c (LeR.refl (x := AV.box (adjC b))) (AllP.c (LeR.refl (x := AV.bool false)) (AllP.c (LeR.refl (x := AV.sl false false (1 : Nat) (vsS l.areas))) (AllP.c h8 (AllP.c (LeR.refl (x := AV.int IntKind.i64 (↑(0 : Nat) : Int))) (AllP.c (LeR.refl (x := AV.mem [])) (AllP.c h9 (AllP.c h10 (AllP.c h11 (AllP.c h12 (AllP.c h13 (AllP.c h14 (AllP.c h15 (AllP.c h16 (AllP.c h17 (AllP.c (show AV.bool true = AV.bool true by kernel_rfl) AllP.n)))))))))))))))))))))))))))
theorem Lv_three (l : Loc) (b : Adj) (h : Hel) (now p lp hp : Int) (g : Bool)
    (h1 : FnW Try.prog (10 : FuncId) [] [] (AV.bool true))
    (h2 : FnW Try.prog (11 : FuncId) [AV.agg [AV.int IntKind.u8 (↑l.sys.a.toNat : Int), AV.int IntKind.u8 (↑l.sys.b.toNat : Int), AV.int IntKind.u8 (↑l.sys.c.toNat : Int), AV.int IntKind.u8 (↑l.sys.d.toNat : Int), AV.int IntKind.u8 (↑l.sys.e.toNat : Int), AV.int IntKind.u8 (↑l.sys.f.toNat : Int), AV.int IntKind.u8 (↑l.num.toNat : Int), AV.int IntKind.i64 l.level, AV.sl false false (1 : Nat) (stale.sL (vsS l.areas))]] [locA l] (locF l))
    (h3 : freshA (locF l) = true)
    (h4 : FnW Try.prog (12 : FuncId) [AV.agg [AV.int IntKind.u8 (↑h.sys.a.toNat : Int), AV.int IntKind.u8 (↑h.sys.b.toNat : Int), AV.int IntKind.u8 (↑h.sys.c.toNat : Int), AV.int IntKind.u8 (↑h.sys.d.toNat : Int), AV.int IntKind.u8 (↑h.sys.e.toNat : Int), AV.int IntKind.u8 (↑h.sys.f.toNat : Int), AV.int IntKind.u8 (↑h.num.toNat : Int), AV.int IntKind.i64 h.level, AV.int IntKind.i64 h.hold, AV.sl false false (1 : Nat) (stale.sL (vsS h.areas)), AV.int IntKind.i64 h.state, AV.bool h.named, AV.int IntKind.u8 (↑h.their.a.toNat : Int), AV.int IntKind.u8 (↑h.their.b.toNat : Int), AV.int IntKind.u8 (↑h.their.c.toNat : Int), AV.int IntKind.u8 (↑h.their.d.toNat : Int), AV.int IntKind.u8 (↑h.their.e.toNat : Int), AV.int IntKind.u8 (↑h.their.f.toNat : Int), AV.int IntKind.u8 (↑h.there.toNat : Int)]] [helA h] (helF h))
    (h5 : freshA (helF h) = true)
    (h6 : FnW Try.prog (13 : FuncId) [AV.agg [AV.int IntKind.u8 (↑l.sys.a.toNat : Int), AV.int IntKind.u8 (↑l.sys.b.toNat : Int), AV.int IntKind.u8 (↑l.sys.c.toNat : Int), AV.int IntKind.u8 (↑l.sys.d.toNat : Int), AV.int IntKind.u8 (↑l.sys.e.toNat : Int), AV.int IntKind.u8 (↑l.sys.f.toNat : Int), AV.int IntKind.u8 (↑l.num.toNat : Int), AV.int IntKind.i64 l.level, AV.sl false false (1 : Nat) (stale.sL (vsF l.areas))], AV.agg [AV.int IntKind.i64 (2 : Int), AV.int IntKind.u8 (0 : Int), AV.int IntKind.u8 (0 : Int), AV.int IntKind.u8 (0 : Int), AV.int IntKind.u8 (0 : Int), AV.int IntKind.u8 (0 : Int), AV.int IntKind.u8 (0 : Int), AV.int IntKind.u8 (0 : Int), AV.int IntKind.i64 (0 : Int), AV.int IntKind.i64 (0 : Int)], AV.agg [AV.int IntKind.u8 (↑h.sys.a.toNat : Int), AV.int IntKind.u8 (↑h.sys.b.toNat : Int), AV.int IntKind.u8 (↑h.sys.c.toNat : Int), AV.int IntKind.u8 (↑h.sys.d.toNat : Int), AV.int IntKind.u8 (↑h.sys.e.toNat : Int), AV.int IntKind.u8 (↑h.sys.f.toNat : Int), AV.int IntKind.u8 (↑h.num.toNat : Int), AV.int IntKind.i64 h.level, AV.int IntKind.i64 h.hold, AV.sl false false (1 : Nat) (stale.sL (vsF h.areas)), AV.int IntKind.i64 h.state, AV.bool h.named, AV.int IntKind.u8 (↑h.their.a.toNat : Int), AV.int IntKind.u8 (↑h.their.b.toNat : Int), AV.int IntKind.u8 (↑h.their.c.toNat : Int), AV.int IntKind.u8 (↑h.their.d.toNat : Int), AV.int IntKind.u8 (↑h.their.e.toNat : Int), AV.int IntKind.u8 (↑h.their.f.toNat : Int), AV.int IntKind.u8 (↑h.there.toNat : Int)], AV.int IntKind.i64 now] (argsA l dn h now) (AV.tup [adjA b, ni (0 : Int)]))
    (h7 : (b.state == (2 : Int)) = false)
    (h8 : LeR (AV.int IntKind.i64 (↑(vsS l.areas).length : Int)) (AV.int IntKind.i64 (↑l.areas.length : Int)))
    (h9 : Runs Try.prog T6 (107 : Nat) (Cd.loop [] lp6x1) (q6O l h b false (0 : Nat)) fun x => x = (Ex.exit (0 : Nat), q6E l h b true))
    (h10 : IntKind.i64.wrap (↑(BitVec.ofInt (64 : Nat) b.level &&& ~~~BitVec.ofInt (64 : Nat) l.level).toNat : Int) = (0 : Int))
    (h11 : IntKind.i64.wrap (↑(BitVec.ofInt (64 : Nat) b.level &&& ~~~BitVec.ofInt (64 : Nat) h.level).toNat : Int) = (0 : Int))
    (h12 : decide (b.level > (0 : Int)) = true)
    (h13 : (b.level != (1 : Int)) = true)
    (h14 : (b.level != (3 : Int)) = false)
    (h15 : IntKind.i64.wrap (↑(BitVec.ofInt (64 : Nat) b.level &&& BitVec.ofInt (64 : Nat) (2 : Int)).toNat : Int) = p)
    (h16 : IntKind.i64.wrap (↑(BitVec.ofInt (64 : Nat) l.level &&& BitVec.ofInt (64 : Nat) (2 : Int)).toNat : Int) = lp)
    (h17 : (lp != (0 : Int)) = true)
    (h18 : IntKind.i64.wrap (↑(BitVec.ofInt (64 : Nat) h.level &&& BitVec.ofInt (64 : Nat) (2 : Int)).toNat : Int) = hp)
    (h19 : (if false = true then !(p != (0 : Int)) == (hp != (0 : Int)) else (p != (0 : Int)) == (hp != (0 : Int))) = true) :
    WayF Try.prog 6 T6 fd6 [(14, .c [] (.bool true)), (18, .c [locA l] (locF l)), (21, .c [helA h] (helF h)), (23, .c (argsA l dn h now) (.tup [adjA b, ni 0])), (31, .b false), (0, .lp (q6O l h b false 0) (.exit 0) (q6E l h b true)), (62, .i 0), (69, .i 0), (75, .b true), (80, .b true), (84, .b false), (93, .i p), (97, .i lp), (98, .b true), (102, .i hp), (105, .b true)] [locA l, helA h, ni now] (.bool true) :=
  fn_of_pr hfol ok6 hT6 (show prF Try.prog 6 T6 fd6 [(14, .c [] (.bool true)), (18, .c [locA l] (locF l)), (21, .c [helA h] (helF h)), (23, .c (argsA l dn h now) (.tup [adjA b, ni 0])), (31, .b false), (0, .lp (q6O l h b false 0) (.exit 0) (q6E l h b true)), (62, .i 0), (69, .i 0), (75, .b true), (80, .b true), (84, .b false), (93, .i p), (97, .i lp), (98, .b true), (102, .i hp), (105, .b true)] [locA l, helA h, ni now] (.bool true) = some _ by kernel_rfl) (AllP.c h1 (AllP.c (show freshA (AV.bool true) = true by kernel_rfl) (AllP.c h2 (AllP.c h3 (AllP.c h4 (AllP.c h5 (AllP.c h6 (AllP.c (show freshA (AV.tup [adjA b, ni (0 : Int)]) = true by kernel_rfl) (AllP.c h7 (AllP.c (LeR.refl (x := AV.box (locC l))) (AllP.c (LeR.refl (x := AV.box (helC h))) (AllP.c (LeR.refl (x := AV.box (adjC b))) (AllP.c (LeR.refl (x := AV.bool false)) (AllP.c (LeR.refl (x := AV.sl false false (1 : Nat) (vsS l.areas))) (AllP.c h8 (AllP.c (LeR.refl (x := AV.int IntKind.i64 (↑(0 : Nat) : Int))) (AllP.c (LeR.refl (x := AV.mem [])) (AllP.c h9 (AllP.c h10 (AllP.c h11 (AllP.c h12 (AllP.c h13 (AllP.c h14 (AllP.c h15 (AllP.c h16 (AllP.c h17 (AllP.c h18 (AllP.c h19 (AllP.c (show AV.bool true = AV.bool true by kernel_rfl) AllP.n)))))))))))))))))))))))))))))
theorem Hold_err (l : Loc) (b : Adj) (h : Hel) (now m at_ e : Int)
    (h1 : FnW Try.prog (10 : FuncId) [] [] (AV.bool true))
    (h2 : IntKind.i64.wrap now = m)
    (h3 : IntKind.i64.wrap (m + (2147483648 : Int)) = at_)
    (h4 : FnW Try.prog (11 : FuncId) [AV.agg [AV.int IntKind.u8 (↑l.sys.a.toNat : Int), AV.int IntKind.u8 (↑l.sys.b.toNat : Int), AV.int IntKind.u8 (↑l.sys.c.toNat : Int), AV.int IntKind.u8 (↑l.sys.d.toNat : Int), AV.int IntKind.u8 (↑l.sys.e.toNat : Int), AV.int IntKind.u8 (↑l.sys.f.toNat : Int), AV.int IntKind.u8 (↑l.num.toNat : Int), AV.int IntKind.i64 l.level, AV.sl false false (1 : Nat) (stale.sL (vsS l.areas))]] [locA l] (locF l))
    (h5 : freshA (locF l) = true)
    (h6 : FnW Try.prog (12 : FuncId) [AV.agg [AV.int IntKind.u8 (↑h.sys.a.toNat : Int), AV.int IntKind.u8 (↑h.sys.b.toNat : Int), AV.int IntKind.u8 (↑h.sys.c.toNat : Int), AV.int IntKind.u8 (↑h.sys.d.toNat : Int), AV.int IntKind.u8 (↑h.sys.e.toNat : Int), AV.int IntKind.u8 (↑h.sys.f.toNat : Int), AV.int IntKind.u8 (↑h.num.toNat : Int), AV.int IntKind.i64 h.level, AV.int IntKind.i64 h.hold, AV.sl false false (1 : Nat) (stale.sL (vsS h.areas)), AV.int IntKind.i64 h.state, AV.bool h.named, AV.int IntKind.u8 (↑h.their.a.toNat : Int), AV.int IntKind.u8 (↑h.their.b.toNat : Int), AV.int IntKind.u8 (↑h.their.c.toNat : Int), AV.int IntKind.u8 (↑h.their.d.toNat : Int), AV.int IntKind.u8 (↑h.their.e.toNat : Int), AV.int IntKind.u8 (↑h.their.f.toNat : Int), AV.int IntKind.u8 (↑h.there.toNat : Int)]] [helA h] (helF h))
    (h7 : freshA (helF h) = true)
    (h8 : FnW Try.prog (13 : FuncId) [AV.agg [AV.int IntKind.u8 (↑l.sys.a.toNat : Int), AV.int IntKind.u8 (↑l.sys.b.toNat : Int), AV.int IntKind.u8 (↑l.sys.c.toNat : Int), AV.int IntKind.u8 (↑l.sys.d.toNat : Int), AV.int IntKind.u8 (↑l.sys.e.toNat : Int), AV.int IntKind.u8 (↑l.sys.f.toNat : Int), AV.int IntKind.u8 (↑l.num.toNat : Int), AV.int IntKind.i64 l.level, AV.sl false false (1 : Nat) (stale.sL (vsF l.areas))], AV.agg [AV.int IntKind.i64 (2 : Int), AV.int IntKind.u8 (0 : Int), AV.int IntKind.u8 (0 : Int), AV.int IntKind.u8 (0 : Int), AV.int IntKind.u8 (0 : Int), AV.int IntKind.u8 (0 : Int), AV.int IntKind.u8 (0 : Int), AV.int IntKind.u8 (0 : Int), AV.int IntKind.i64 (0 : Int), AV.int IntKind.i64 (0 : Int)], AV.agg [AV.int IntKind.u8 (↑h.sys.a.toNat : Int), AV.int IntKind.u8 (↑h.sys.b.toNat : Int), AV.int IntKind.u8 (↑h.sys.c.toNat : Int), AV.int IntKind.u8 (↑h.sys.d.toNat : Int), AV.int IntKind.u8 (↑h.sys.e.toNat : Int), AV.int IntKind.u8 (↑h.sys.f.toNat : Int), AV.int IntKind.u8 (↑h.num.toNat : Int), AV.int IntKind.i64 h.level, AV.int IntKind.i64 h.hold, AV.sl false false (1 : Nat) (stale.sL (vsF h.areas)), AV.int IntKind.i64 h.state, AV.bool h.named, AV.int IntKind.u8 (↑h.their.a.toNat : Int), AV.int IntKind.u8 (↑h.their.b.toNat : Int), AV.int IntKind.u8 (↑h.their.c.toNat : Int), AV.int IntKind.u8 (↑h.their.d.toNat : Int), AV.int IntKind.u8 (↑h.their.e.toNat : Int), AV.int IntKind.u8 (↑h.their.f.toNat : Int), AV.int IntKind.u8 (↑h.there.toNat : Int)], AV.int IntKind.i64 at_] (argsA l dn h at_) (AV.tup [adjA b, ni e]))
    (h9 : (e != (0 : Int)) = true) :
    WayF Try.prog 7 T7 fd7 [(11, .c [] (.bool true)), (14, .i m), (15, .i at_), (18, .c [locA l] (locF l)), (21, .c [helA h] (helF h)), (23, .c (argsA l dn h at_) (.tup [adjA b, ni e])), (27, .b true)] [locA l, helA h, .int .i32 now] (.bool true) :=
  fn_of_pr hfol ok7 hT7 (show prF Try.prog 7 T7 fd7 [(11, .c [] (.bool true)), (14, .i m), (15, .i at_), (18, .c [locA l] (locF l)), (21, .c [helA h] (helF h)), (23, .c (argsA l dn h at_) (.tup [adjA b, ni e])), (27, .b true)] [locA l, helA h, .int .i32 now] (.bool true) = some _ by kernel_rfl) (AllP.c h1 (AllP.c (show freshA (AV.bool true) = true by kernel_rfl) (AllP.c h2 (AllP.c h3 (AllP.c h4 (AllP.c h5 (AllP.c h6 (AllP.c h7 (AllP.c h8 (AllP.c (show freshA (AV.tup [adjA b, ni e]) = true by kernel_rfl) (AllP.c h9 (AllP.c (show AV.bool true = AV.bool true by kernel_rfl) AllP.n))))))))))))
theorem Hold_dn (l : Loc) (b : Adj) (h : Hel) (now m at_ e : Int)
    (h1 : FnW Try.prog (10 : FuncId) [] [] (AV.bool true))
    (h2 : IntKind.i64.wrap now = m)
    (h3 : IntKind.i64.wrap (m + (2147483648 : Int)) = at_)
    (h4 : FnW Try.prog (11 : FuncId) [AV.agg [AV.int IntKind.u8 (↑l.sys.a.toNat : Int), AV.int IntKind.u8 (↑l.sys.b.toNat : Int), AV.int IntKind.u8 (↑l.sys.c.toNat : Int), AV.int IntKind.u8 (↑l.sys.d.toNat : Int), AV.int IntKind.u8 (↑l.sys.e.toNat : Int), AV.int IntKind.u8 (↑l.sys.f.toNat : Int), AV.int IntKind.u8 (↑l.num.toNat : Int), AV.int IntKind.i64 l.level, AV.sl false false (1 : Nat) (stale.sL (vsS l.areas))]] [locA l] (locF l))
    (h5 : freshA (locF l) = true)
    (h6 : FnW Try.prog (12 : FuncId) [AV.agg [AV.int IntKind.u8 (↑h.sys.a.toNat : Int), AV.int IntKind.u8 (↑h.sys.b.toNat : Int), AV.int IntKind.u8 (↑h.sys.c.toNat : Int), AV.int IntKind.u8 (↑h.sys.d.toNat : Int), AV.int IntKind.u8 (↑h.sys.e.toNat : Int), AV.int IntKind.u8 (↑h.sys.f.toNat : Int), AV.int IntKind.u8 (↑h.num.toNat : Int), AV.int IntKind.i64 h.level, AV.int IntKind.i64 h.hold, AV.sl false false (1 : Nat) (stale.sL (vsS h.areas)), AV.int IntKind.i64 h.state, AV.bool h.named, AV.int IntKind.u8 (↑h.their.a.toNat : Int), AV.int IntKind.u8 (↑h.their.b.toNat : Int), AV.int IntKind.u8 (↑h.their.c.toNat : Int), AV.int IntKind.u8 (↑h.their.d.toNat : Int), AV.int IntKind.u8 (↑h.their.e.toNat : Int), AV.int IntKind.u8 (↑h.their.f.toNat : Int), AV.int IntKind.u8 (↑h.there.toNat : Int)]] [helA h] (helF h))
    (h7 : freshA (helF h) = true)
    (h8 : FnW Try.prog (13 : FuncId) [AV.agg [AV.int IntKind.u8 (↑l.sys.a.toNat : Int), AV.int IntKind.u8 (↑l.sys.b.toNat : Int), AV.int IntKind.u8 (↑l.sys.c.toNat : Int), AV.int IntKind.u8 (↑l.sys.d.toNat : Int), AV.int IntKind.u8 (↑l.sys.e.toNat : Int), AV.int IntKind.u8 (↑l.sys.f.toNat : Int), AV.int IntKind.u8 (↑l.num.toNat : Int), AV.int IntKind.i64 l.level, AV.sl false false (1 : Nat) (stale.sL (vsF l.areas))], AV.agg [AV.int IntKind.i64 (2 : Int), AV.int IntKind.u8 (0 : Int), AV.int IntKind.u8 (0 : Int), AV.int IntKind.u8 (0 : Int), AV.int IntKind.u8 (0 : Int), AV.int IntKind.u8 (0 : Int), AV.int IntKind.u8 (0 : Int), AV.int IntKind.u8 (0 : Int), AV.int IntKind.i64 (0 : Int), AV.int IntKind.i64 (0 : Int)], AV.agg [AV.int IntKind.u8 (↑h.sys.a.toNat : Int), AV.int IntKind.u8 (↑h.sys.b.toNat : Int), AV.int IntKind.u8 (↑h.sys.c.toNat : Int), AV.int IntKind.u8 (↑h.sys.d.toNat : Int), AV.int IntKind.u8 (↑h.sys.e.toNat : Int), AV.int IntKind.u8 (↑h.sys.f.toNat : Int), AV.int IntKind.u8 (↑h.num.toNat : Int), AV.int IntKind.i64 h.level, AV.int IntKind.i64 h.hold, AV.sl false false (1 : Nat) (stale.sL (vsF h.areas)), AV.int IntKind.i64 h.state, AV.bool h.named, AV.int IntKind.u8 (↑h.their.a.toNat : Int), AV.int IntKind.u8 (↑h.their.b.toNat : Int), AV.int IntKind.u8 (↑h.their.c.toNat : Int), AV.int IntKind.u8 (↑h.their.d.toNat : Int), AV.int IntKind.u8 (↑h.their.e.toNat : Int), AV.int IntKind.u8 (↑h.their.f.toNat : Int), AV.int IntKind.u8 (↑h.there.toNat : Int)], AV.int IntKind.i64 at_] (argsA l dn h at_) (AV.tup [adjA b, ni e]))
    (h9 : (e != (0 : Int)) = false)
    (h10 : (b.state == (2 : Int)) = true) :
    WayF Try.prog 7 T7 fd7 [(11, .c [] (.bool true)), (14, .i m), (15, .i at_), (18, .c [locA l] (locF l)), (21, .c [helA h] (helF h)), (23, .c (argsA l dn h at_) (.tup [adjA b, ni e])), (27, .b false), (31, .b true)] [locA l, helA h, .int .i32 now] (.bool true) :=
  fn_of_pr hfol ok7 hT7 (show prF Try.prog 7 T7 fd7 [(11, .c [] (.bool true)), (14, .i m), (15, .i at_), (18, .c [locA l] (locF l)), (21, .c [helA h] (helF h)), (23, .c (argsA l dn h at_) (.tup [adjA b, ni e])), (27, .b false), (31, .b true)] [locA l, helA h, .int .i32 now] (.bool true) = some _ by kernel_rfl) (AllP.c h1 (AllP.c (show freshA (AV.bool true) = true by kernel_rfl) (AllP.c h2 (AllP.c h3 (AllP.c h4 (AllP.c h5 (AllP.c h6 (AllP.c h7 (AllP.c h8 (AllP.c (show freshA (AV.tup [adjA b, ni e]) = true by kernel_rfl) (AllP.c h9 (AllP.c h10 (AllP.c (show AV.bool true = AV.bool true by kernel_rfl) AllP.n)))))))))))))
theorem Hold_ok (l : Loc) (b : Adj) (h : Hel) (now m at_ e z z1 z2 : Int)
    (h1 : FnW Try.prog (10 : FuncId) [] [] (AV.bool true))
    (h2 : IntKind.i64.wrap now = m)
    (h3 : IntKind.i64.wrap (m + (2147483648 : Int)) = at_)
    (h4 : FnW Try.prog (11 : FuncId) [AV.agg [AV.int IntKind.u8 (↑l.sys.a.toNat : Int), AV.int IntKind.u8 (↑l.sys.b.toNat : Int), AV.int IntKind.u8 (↑l.sys.c.toNat : Int), AV.int IntKind.u8 (↑l.sys.d.toNat : Int), AV.int IntKind.u8 (↑l.sys.e.toNat : Int), AV.int IntKind.u8 (↑l.sys.f.toNat : Int), AV.int IntKind.u8 (↑l.num.toNat : Int), AV.int IntKind.i64 l.level, AV.sl false false (1 : Nat) (stale.sL (vsS l.areas))]] [locA l] (locF l))
    (h5 : freshA (locF l) = true)
    (h6 : FnW Try.prog (12 : FuncId) [AV.agg [AV.int IntKind.u8 (↑h.sys.a.toNat : Int), AV.int IntKind.u8 (↑h.sys.b.toNat : Int), AV.int IntKind.u8 (↑h.sys.c.toNat : Int), AV.int IntKind.u8 (↑h.sys.d.toNat : Int), AV.int IntKind.u8 (↑h.sys.e.toNat : Int), AV.int IntKind.u8 (↑h.sys.f.toNat : Int), AV.int IntKind.u8 (↑h.num.toNat : Int), AV.int IntKind.i64 h.level, AV.int IntKind.i64 h.hold, AV.sl false false (1 : Nat) (stale.sL (vsS h.areas)), AV.int IntKind.i64 h.state, AV.bool h.named, AV.int IntKind.u8 (↑h.their.a.toNat : Int), AV.int IntKind.u8 (↑h.their.b.toNat : Int), AV.int IntKind.u8 (↑h.their.c.toNat : Int), AV.int IntKind.u8 (↑h.their.d.toNat : Int), AV.int IntKind.u8 (↑h.their.e.toNat : Int), AV.int IntKind.u8 (↑h.their.f.toNat : Int), AV.int IntKind.u8 (↑h.there.toNat : Int)]] [helA h] (helF h))
    (h7 : freshA (helF h) = true)
    (h8 : FnW Try.prog (13 : FuncId) [AV.agg [AV.int IntKind.u8 (↑l.sys.a.toNat : Int), AV.int IntKind.u8 (↑l.sys.b.toNat : Int), AV.int IntKind.u8 (↑l.sys.c.toNat : Int), AV.int IntKind.u8 (↑l.sys.d.toNat : Int), AV.int IntKind.u8 (↑l.sys.e.toNat : Int), AV.int IntKind.u8 (↑l.sys.f.toNat : Int), AV.int IntKind.u8 (↑l.num.toNat : Int), AV.int IntKind.i64 l.level, AV.sl false false (1 : Nat) (stale.sL (vsF l.areas))], AV.agg [AV.int IntKind.i64 (2 : Int), AV.int IntKind.u8 (0 : Int), AV.int IntKind.u8 (0 : Int), AV.int IntKind.u8 (0 : Int), AV.int IntKind.u8 (0 : Int), AV.int IntKind.u8 (0 : Int), AV.int IntKind.u8 (0 : Int), AV.int IntKind.u8 (0 : Int), AV.int IntKind.i64 (0 : Int), AV.int IntKind.i64 (0 : Int)], AV.agg [AV.int IntKind.u8 (↑h.sys.a.toNat : Int), AV.int IntKind.u8 (↑h.sys.b.toNat : Int), AV.int IntKind.u8 (↑h.sys.c.toNat : Int), AV.int IntKind.u8 (↑h.sys.d.toNat : Int), AV.int IntKind.u8 (↑h.sys.e.toNat : Int), AV.int IntKind.u8 (↑h.sys.f.toNat : Int), AV.int IntKind.u8 (↑h.num.toNat : Int), AV.int IntKind.i64 h.level, AV.int IntKind.i64 h.hold, AV.sl false false (1 : Nat) (stale.sL (vsF h.areas)), AV.int IntKind.i64 h.state, AV.bool h.named, AV.int IntKind.u8 (↑h.their.a.toNat : Int), AV.int IntKind.u8 (↑h.their.b.toNat : Int), AV.int IntKind.u8 (↑h.their.c.toNat : Int), AV.int IntKind.u8 (↑h.their.d.toNat : Int), AV.int IntKind.u8 (↑h.their.e.toNat : Int), AV.int IntKind.u8 (↑h.their.f.toNat : Int), AV.int IntKind.u8 (↑h.there.toNat : Int)], AV.int IntKind.i64 at_] (argsA l dn h at_) (AV.tup [adjA b, ni e]))
    (h9 : (e != (0 : Int)) = false)
    (h10 : (b.state == (2 : Int)) = false)
    (h11 : IntKind.i64.wrap (at_ + h.hold) = z)
    (h12 : FnW Try.prog (17 : FuncId) [AV.agg [AV.int IntKind.i64 b.state, AV.int IntKind.u8 (↑b.peer.a.toNat : Int), AV.int IntKind.u8 (↑b.peer.b.toNat : Int), AV.int IntKind.u8 (↑b.peer.c.toNat : Int), AV.int IntKind.u8 (↑b.peer.d.toNat : Int), AV.int IntKind.u8 (↑b.peer.e.toNat : Int), AV.int IntKind.u8 (↑b.peer.f.toNat : Int), AV.int IntKind.u8 (↑b.num.toNat : Int), AV.int IntKind.i64 b.level, AV.int IntKind.i64 b.til], AV.int IntKind.i64 at_] [adjA b, ni at_] (adjA b))
    (h13 : (if false = true then !(b.state == b.state && ((↑b.peer.a.toNat : Int) == (↑b.peer.a.toNat : Int) && ((↑b.peer.b.toNat : Int) == (↑b.peer.b.toNat : Int) && ((↑b.peer.c.toNat : Int) == (↑b.peer.c.toNat : Int) && ((↑b.peer.d.toNat : Int) == (↑b.peer.d.toNat : Int) && ((↑b.peer.e.toNat : Int) == (↑b.peer.e.toNat : Int) && ((↑b.peer.f.toNat : Int) == (↑b.peer.f.toNat : Int) && ((↑b.num.toNat : Int) == (↑b.num.toNat : Int) && (b.level == b.level && (b.til == b.til && true)))))))))) else b.state == b.state && ((↑b.peer.a.toNat : Int) == (↑b.peer.a.toNat : Int) && ((↑b.peer.b.toNat : Int) == (↑b.peer.b.toNat : Int) && ((↑b.peer.c.toNat : Int) == (↑b.peer.c.toNat : Int) && ((↑b.peer.d.toNat : Int) == (↑b.peer.d.toNat : Int) && ((↑b.peer.e.toNat : Int) == (↑b.peer.e.toNat : Int) && ((↑b.peer.f.toNat : Int) == (↑b.peer.f.toNat : Int) && ((↑b.num.toNat : Int) == (↑b.num.toNat : Int) && (b.level == b.level && (b.til == b.til && true)))))))))) = true)
    (h14 : IntKind.i64.wrap (z - (1 : Int)) = z1)
    (h15 : FnW Try.prog (17 : FuncId) [AV.agg [AV.int IntKind.i64 b.state, AV.int IntKind.u8 (↑b.peer.a.toNat : Int), AV.int IntKind.u8 (↑b.peer.b.toNat : Int), AV.int IntKind.u8 (↑b.peer.c.toNat : Int), AV.int IntKind.u8 (↑b.peer.d.toNat : Int), AV.int IntKind.u8 (↑b.peer.e.toNat : Int), AV.int IntKind.u8 (↑b.peer.f.toNat : Int), AV.int IntKind.u8 (↑b.num.toNat : Int), AV.int IntKind.i64 b.level, AV.int IntKind.i64 b.til], AV.int IntKind.i64 z1] [adjA b, ni z1] (adjA b))
    (h16 : FnW Try.prog (17 : FuncId) [AV.agg [AV.int IntKind.i64 b.state, AV.int IntKind.u8 (↑b.peer.a.toNat : Int), AV.int IntKind.u8 (↑b.peer.b.toNat : Int), AV.int IntKind.u8 (↑b.peer.c.toNat : Int), AV.int IntKind.u8 (↑b.peer.d.toNat : Int), AV.int IntKind.u8 (↑b.peer.e.toNat : Int), AV.int IntKind.u8 (↑b.peer.f.toNat : Int), AV.int IntKind.u8 (↑b.num.toNat : Int), AV.int IntKind.i64 b.level, AV.int IntKind.i64 b.til], AV.int IntKind.i64 z] [adjA b, ni z] (adjA dn))
    (h17 : IntKind.i64.wrap (z + (1000 : Int)) = z2)
    (h18 : FnW Try.prog (17 : FuncId) [AV.agg [AV.int IntKind.i64 b.state, AV.int IntKind.u8 (↑b.peer.a.toNat : Int), AV.int IntKind.u8 (↑b.peer.b.toNat : Int), AV.int IntKind.u8 (↑b.peer.c.toNat : Int), AV.int IntKind.u8 (↑b.peer.d.toNat : Int), AV.int IntKind.u8 (↑b.peer.e.toNat : Int), AV.int IntKind.u8 (↑b.peer.f.toNat : Int), AV.int IntKind.u8 (↑b.num.toNat : Int), AV.int IntKind.i64 b.level, AV.int IntKind.i64 b.til], AV.int IntKind.i64 z2] [adjA b, ni z2] (adjA dn))
    (h19 : [AV.agg [AV.int IntKind.i64 b.state, AV.int IntKind.u8 (↑b.peer.a.toNat : Int), AV.int IntKind.u8 (↑b.peer.b.toNat : Int), AV.int IntKind.u8 (↑b.peer.c.toNat : Int), AV.int IntKind.u8 (↑b.peer.d.toNat : Int), AV.int IntKind.u8 (↑b.peer.e.toNat : Int), AV.int IntKind.u8 (↑b.peer.f.toNat : Int), AV.int IntKind.u8 (↑b.num.toNat : Int), AV.int IntKind.i64 b.level, AV.int IntKind.i64 b.til], AV.int IntKind.i64 at_] = [AV.agg [AV.int IntKind.i64 b.state, AV.int IntKind.u8 (↑b.peer.a.toNat : Int), AV.int IntKind.u8 (↑b.peer.b.toNat : Int), AV.int IntKind.u8 (↑b.peer.c.toNat : Int), AV.int IntKind.u8 (↑b.peer.d.toNat : Int), AV.int IntKind.u8 (↑b.peer.e.toNat : Int), AV.int IntKind.u8 (↑b.peer.f.toNat : Int), AV.int IntKind.u8 (↑b.num.toNat : Int), AV.int IntKind.i64 b.level, AV.int IntKind.i64 b.til], AV.int IntKind.i64 z1] → adjA b = adjA b)
    (h20 : [AV.agg [AV.int IntKind.i64 b.state, AV.int IntKind.u8 (↑b.peer.a.toNat : Int), AV.int IntKind.u8 (↑b.peer.b.toNat : Int), AV.int IntKind.u8 (↑b.peer.c.toNat : Int), AV.int IntKind.u8 (↑b.peer.d.toNat : Int), AV.int IntKind.u8 (↑b.peer.e.toNat : Int), AV.int IntKind.u8 (↑b.peer.f.toNat : Int), AV.int IntKind.u8 (↑b.num.toNat : Int), AV.int IntKind.i64 b.level, AV.int IntKind.i64 b.til], AV.int IntKind.i64 at_] = [AV.agg [AV.int IntKind.i64 b.state, AV.int IntKind.u8 (↑b.peer.a.toNat : Int), AV.int IntKind.u8 (↑b.peer.b.toNat : Int), AV.int IntKind.u8 (↑b.peer.c.toNat : Int), AV.int IntKind.u8 (↑b.peer.d.toNat : Int), AV.int IntKind.u8 (↑b.peer.e.toNat : Int), AV.int IntKind.u8 (↑b.peer.f.toNat : Int), AV.int IntKind.u8 (↑b.num.toNat : Int), AV.int IntKind.i64 b.level, AV.int IntKind.i64 b.til], AV.int IntKind.i64 z] → adjA b = adjA dn)
    (h21 : [AV.agg [AV.int IntKind.i64 b.state, AV.int IntKind.u8 (↑b.peer.a.toNat : Int), AV.int IntKind.u8 (↑b.peer.b.toNat : Int), AV.int IntKind.u8 (↑b.peer.c.toNat : Int), AV.int IntKind.u8 (↑b.peer.d.toNat : Int), AV.int IntKind.u8 (↑b.peer.e.toNat : Int), AV.int IntKind.u8 (↑b.peer.f.toNat : Int), AV.int IntKind.u8 (↑b.num.toNat : Int), AV.int IntKind.i64 b.level, AV.int IntKind.i64 b.til], AV.int IntKind.i64 at_] = [AV.agg [AV.int IntKind.i64 b.state, AV.int IntKind.u8 (↑b.peer.a.toNat : Int), AV.int IntKind.u8 (↑b.peer.b.toNat : Int), AV.int IntKind.u8 (↑b.peer.c.toNat : Int), AV.int IntKind.u8 (↑b.peer.d.toNat : Int), AV.int IntKind.u8 (↑b.peer.e.toNat : Int), AV.int IntKind.u8 (↑b.peer.f.toNat : Int), AV.int IntKind.u8 (↑b.num.toNat : Int), AV.int IntKind.i64 b.level, AV.int IntKind.i64 b.til], AV.int IntKind.i64 z2] → adjA b = adjA dn)
    (h22 : [AV.agg [AV.int IntKind.i64 b.state, AV.int IntKind.u8 (↑b.peer.a.toNat : Int), AV.int IntKind.u8 (↑b.peer.b.toNat : Int), AV.int IntKind.u8 (↑b.peer.c.toNat : Int), AV.int IntKind.u8 (↑b.peer.d.toNat : Int), AV.int IntKind.u8 (↑b.peer.e.toNat : Int), AV.int IntKind.u8 (↑b.peer.f.toNat : Int), AV.int IntKind.u8 (↑b.num.toNat : Int), AV.int IntKind.i64 b.level, AV.int IntKind.i64 b.til], AV.int IntKind.i64 z1] = [AV.agg [AV.int IntKind.i64 b.state, AV.int IntKind.u8 (↑b.peer.a.toNat : Int), AV.int IntKind.u8 (↑b.peer.b.toNat : Int), AV.int IntKind.u8 (↑b.peer.c.toNat : Int), AV.int IntKind.u8 (↑b.peer.d.toNat : Int), AV.int IntKind.u8 (↑b.peer.e.toNat : Int), AV.int IntKind.u8 (↑b.peer.f.toNat : Int), AV.int IntKind.u8 (↑b.num.toNat : Int), AV.int IntKind.i64 b.level, AV.int IntKind.i64 b.til], AV.int IntKind.i64 z] → adjA b = adjA dn)
    (h23 : [AV.agg [AV.int IntKind.i64 b.state, AV.int IntKind.u8 (↑b.peer.a.toNat : Int), AV.int IntKind.u8 (↑b.peer.b.toNat : Int), AV.int IntKind.u8 (↑b.peer.c.toNat : Int), AV.int IntKind.u8 (↑b.peer.d.toNat : Int), AV.int IntKind.u8 (↑b.peer.e.toNat : Int), AV.int IntKind.u8 (↑b.peer.f.toNat : Int), AV.int IntKind.u8 (↑b.num.toNat : Int), AV.int IntKind.i64 b.level, AV.int IntKind.i64 b.til], AV.int IntKind.i64 z1] = [AV.agg [AV.int IntKind.i64 b.state, AV.int IntKind.u8 (↑b.peer.a.toNat : Int), AV.int IntKind.u8 (↑b.peer.b.toNat : Int), AV.int IntKind.u8 (↑b.peer.c.toNat : Int), AV.int IntKind.u8 (↑b.peer.d.toNat : Int), AV.int IntKind.u8 (↑b.peer.e.toNat : Int), AV.int IntKind.u8 (↑b.peer.f.toNat : Int), AV.int IntKind.u8 (↑b.num.toNat : Int), AV.int IntKind.i64 b.level, AV.int IntKind.i64 b.til], AV.int IntKind.i64 z2] → adjA b = adjA dn)
    (h24 : [AV.agg [AV.int IntKind.i64 b.state, AV.int IntKind.u8 (↑b.peer.a.toNat : Int), AV.int IntKind.u8 (↑b.peer.b.toNat : Int), AV.int IntKind.u8 (↑b.peer.c.toNat : Int), AV.int IntKind.u8 (↑b.peer.d.toNat : Int), AV.int IntKind.u8 (↑b.peer.e.toNat : Int), AV.int IntKind.u8 (↑b.peer.f.toNat : Int), AV.int IntKind.u8 (↑b.num.toNat : Int), AV.int IntKind.i64 b.level, AV.int IntKind.i64 b.til], AV.int IntKind.i64 z] = [AV.agg [AV.int IntKind.i64 b.state, AV.int IntKind.u8 (↑b.peer.a.toNat : Int), AV.int IntKind.u8 (↑b.peer.b.toNat : Int), AV.int IntKind.u8 (↑b.peer.c.toNat : Int), AV.int IntKind.u8 (↑b.peer.d.toNat : Int), AV.int IntKind.u8 (↑b.peer.e.toNat : Int), AV.int IntKind.u8 (↑b.peer.f.toNat : Int), AV.int IntKind.u8 (↑b.num.toNat : Int), AV.int IntKind.i64 b.level, AV.int IntKind.i64 b.til], AV.int IntKind.i64 z2] → adjA dn = adjA dn) :
    WayF Try.prog 7 T7 fd7 [(11, .c [] (.bool true)), (14, .i m), (15, .i at_), (18, .c [locA l] (locF l)), (21, .c [helA h] (helF h)), (23, .c (argsA l dn h at_) (.tup [adjA b, ni e])), (27, .b false), (31, .b false), (36, .i z), (39, .c [adjA b, ni at_] (adjA b)), (41, .b true), (45, .i z1), (46, .c [adjA b, ni z1] (adjA b)), (48, .b true), (53, .c [adjA b, ni z] (adjA dn)), (55, .b true), (60, .i z2), (61, .c [adjA b, ni z2] (adjA dn)), (63, .b true)] [locA l, helA h, .int .i32 now] (.bool true) :=
  fn_of_pr hfol ok7 hT7 (show prF Try.prog 7 T7 fd7 [(11, .c [] (.bool true)), (14, .i m), (15, .i at_), (18, .c [locA l] (locF l)), (21, .c [helA h] (helF h)), (23, .c (argsA l dn h at_) (.tup [adjA b, ni e])), (27, .b false), (31, .b false), (36, .i z), (39, .c [adjA b, ni at_] (adjA b)), (41, .b true), (45, .i z1), (46, .c [adjA b, ni z1] (adjA b)), (48, .b true), (53, .c [adjA b, ni z] (adjA dn)), (55, .b true), (60, .i z2), (61, .c [adjA b, ni z2] (adjA dn)), (63, .b true)] [locA l, helA h, .int .i32 now] (.bool true) = some _ by kernel_rfl) (AllP.c h1 (AllP.c (show freshA (AV.bool true) = true by kernel_rfl) (AllP.c h2 (AllP.c h3 (AllP.c h4 (AllP.c h5 (AllP.c h6 (AllP.c h7 (AllP.c h8 (AllP.c (show freshA (AV.tup [adjA b, ni e]) = true by kernel_rfl) (AllP.c h9 (AllP.c h10 (AllP.c h11 (AllP.c h12 (AllP.c (show freshA (adjA b) = true by kernel_rfl) (AllP.c h13 (AllP.c h14 (AllP.c h15 (AllP.c (show freshA (adjA b) = true by kernel_rfl) (AllP.c h13 (AllP.c h16 (AllP.c (show freshA (adjA dn) = true by kernel_rfl) (AllP.c (show (if false = true then !(dn.state == (2 : Int) && ((↑(0 : Nat) : Int) == (0 : Int) && ((↑(0 : Nat) : Int) == (0 : Int) && ((↑(0 : Nat) : Int) == (0 : Int) && ((↑(0 : Nat) : Int) == (0 : Int) && ((↑(0 : Nat) : Int) == (0 : Int) && ((↑(0 : Nat) : Int) == (0 : Int) && ((↑(0 : Nat) : Int) == (0 : Int) && (dn.level == (0 : Int) && (dn.til == (0 : Int) && true)))))))))) else dn.state == (2 : Int) && ((↑(0 : Nat) : Int) == (0 : Int) && ((↑(0 : Nat) : Int) == (0 : Int) && ((↑(0 : Nat) : Int) == (0 : Int) && ((↑(0 : Nat) : Int) == (0 : Int) && ((↑(0 : Nat) : Int) == (0 : Int) && ((↑(0 : Nat) : Int) == (0 : Int) && ((↑(0 : Nat) : Int) == (0 : Int) && (dn.level == (0 : Int) && (dn.til == (0 : Int) && true)))))))))) = true by kernel_rfl) (AllP.c h17 (AllP.c h18 (AllP.c (show freshA (adjA dn) = true by kernel_rfl) (AllP.c (show (if false = true then !(dn.state == (2 : Int) && ((↑(0 : Nat) : Int) == (0 : Int) && ((↑(0 : Nat) : Int) == (0 : Int) && ((↑(0 : Nat) : Int) == (0 : Int) && ((↑(0 : Nat) : Int) == (0 : Int) && ((↑(0 : Nat) : Int) == (0 : Int) && ((↑(0 : Nat) : Int) == (0 : Int) && ((↑(0 : Nat) : Int) == (0 : Int) && (dn.level == (0 : Int) && (dn.til == (0 : Int) && true)))))))))) else dn.state == (2 : Int) && ((↑(0 : Nat) : Int) == (0 : Int) && ((↑(0 : Nat) : Int) == (0 : Int) && ((↑(0 : Nat) : Int) == (0 : Int) && ((↑(0 : Nat) : Int) == (0 : Int) && ((↑(0 : Nat) : Int) == (0 : Int) && ((↑(0 : Nat) : Int) == (0 : Int) && ((↑(0 : Nat) : Int) == (0 : Int) && (dn.level == (0 : Int) && (dn.til == (0 : Int) && true)))))))))) = true by kernel_rfl) (AllP.c h19 (AllP.c h20 (AllP.c h21 (AllP.c h22 (AllP.c h23 (AllP.c h24 (AllP.c (show AV.bool true = AV.bool true by kernel_rfl) AllP.n))))))))))))))))))))))))))))))))))
end Go.Ev

/-! text P4 -/
set_option linter.unusedVariables false
set_option linter.unusedSimpArgs false
namespace Go.Ev
open Go.Proofs (Try.prog)

/-! ### The laws' helpers -/
@[simp] theorem vsF_ud : ∀ (l : List (List UInt8)), undeep.uL (deepen.dL (vsF l)) = vsF l
  | [] => rfl
  | v :: l => by
    show undeep (deepen (vF v)) :: undeep.uL (deepen.dL (vsF l)) = vF v :: vsF l
    rw [vsF_ud l]
    simp [vF, deepen, undeep]
theorem areasW (l : List (List UInt8)) (hs : Small l) : FnW Try.prog 23 [AV.sl false false 1 (stale.sL (vsS l))] [slV l] (.own true 1 (vsF l)) := .of (.cons (slV_arg _) .nil) (areas_ok l hs)
theorem local_ok (l : Loc) (hs : Small l.areas) : FnOk Try.prog 11 [locA l] (locF l) :=
  local_way l (areasW _ hs) (by simp [freshA]) (by rw [vsF_ud]; rfl)
theorem hello_ok (h : Hel) (hs : Small h.areas) : FnOk Try.prog 12 [helA h] (helF h) :=
  hello_way h (areasW _ hs) (by simp [freshA]) (by rw [vsF_ud]; rfl)
theorem localW (l : Loc) (hs : Small l.areas) : FnW Try.prog 11 [AV.agg [bA l.sys.a, bA l.sys.b, bA l.sys.c, bA l.sys.d, bA l.sys.e, bA l.sys.f, bA l.num, ni l.level, .sl false false 1 (stale.sL (vsS l.areas))]] [locA l] (locF l) :=
  ⟨VLe.of_eq (by rw [vsS_sL]; rfl), local_ok l hs⟩
theorem helloW (h : Hel) (hs : Small h.areas) : FnW Try.prog 12 [AV.agg [bA h.sys.a, bA h.sys.b, bA h.sys.c, bA h.sys.d, bA h.sys.e, bA h.sys.f, bA h.num, ni h.level, ni h.hold, .sl false false 1 (stale.sL (vsS h.areas)), ni h.state, .bool h.named, bA h.their.a, bA h.their.b, bA h.their.c, bA h.their.d, bA h.their.e, bA h.their.f, bA h.there]] [helA h] (helF h) :=
  ⟨VLe.of_eq (by rw [vsS_sL]; rfl), hello_ok h hs⟩
theorem loc_fresh (l : Loc) : freshA (locF l) = true := by simp [locF, freshA, freshA.freshL, bA, slF]
theorem hel_fresh (h : Hel) : freshA (helF h) = true := by simp [helF, freshA, freshA.freshL, bA, slF]
theorem stepW {r : Adj × Int} (l : Loc) (a : Adj) (h : Hel) (now : Int) (hl : Small l.areas) (hh : Small h.areas) (e : stepS l a h now = r) : FnW Try.prog 13 [AV.agg [bA l.sys.a, bA l.sys.b, bA l.sys.c, bA l.sys.d, bA l.sys.e, bA l.sys.f, bA l.num, ni l.level, .sl false false 1 (stale.sL (vsF l.areas))], adjA a, AV.agg [bA h.sys.a, bA h.sys.b, bA h.sys.c, bA h.sys.d, bA h.sys.e, bA h.sys.f, bA h.num, ni h.level, ni h.hold, .sl false false 1 (stale.sL (vsF h.areas)), ni h.state, .bool h.named, bA h.their.a, bA h.their.b, bA h.their.c, bA h.their.d, bA h.their.e, bA h.their.f, bA h.there], ni now] (argsA l a h now) (.tup [adjA r.1, ni r.2]) :=
  ⟨VLe.of_eq (by rw [vsF_sL, vsF_sL]; rfl), by subst e; exact Step_all l a h now hl hh⟩
theorem docW {r : Adj × Int} (l : Loc) (a : Adj) (h : Hel) (now : Int) (hl : Small l.areas) (hh : Small h.areas) (e : stepS l a h now = r) : FnW Try.prog 14 [AV.agg [bA l.sys.a, bA l.sys.b, bA l.sys.c, bA l.sys.d, bA l.sys.e, bA l.sys.f, bA l.num, ni l.level, .sl false false 1 (stale.sL (vsS l.areas))], adjA a, AV.agg [bA h.sys.a, bA h.sys.b, bA h.sys.c, bA h.sys.d, bA h.sys.e, bA h.sys.f, bA h.num, ni h.level, ni h.hold, .sl false false 1 (stale.sL (vsS h.areas)), ni h.state, .bool h.named, bA h.their.a, bA h.their.b, bA h.their.c, bA h.their.d, bA h.their.e, bA h.their.f, bA h.there], ni now] (argsA l a h now) (.tup [adjA r.1, ni r.2]) :=
  ⟨VLe.of_eq (by rw [vsS_sL, vsS_sL]; rfl), by subst e; exact Doc_all l a h now hl hh⟩
theorem small_nil : Small [] := ⟨by simp, fun t ht => by simp at ht⟩
theorem awake_ok : FnW Try.prog 10 [] [] (.bool true) :=
  ⟨VLe.refl, awake_way (.of (.cons (.agg (.cons .refl (.cons .refl (.cons .refl (.cons .refl (.cons .refl (.cons .refl (.cons .refl (.cons .refl (.cons .nils .nil)))))))))) (.cons .refl (.cons (.agg (.cons .refl (.cons .refl (.cons .refl (.cons .refl (.cons .refl (.cons .refl (.cons .refl (.cons .refl (.cons .refl (.cons .nils (Lvs.refl _)))))))))))) (.cons .refl .nil))))
    (FnOk.as (Step_all awL dn awH 5 small_nil small_nil) (by rw [show stepS awL dn awH 5 = (awA, 0) from by decide])))⟩
theorem adj_eq (a b : Adj) : (a.state == b.state && ((a.peer.a.toNat : Int) == (b.peer.a.toNat : Int) && ((a.peer.b.toNat : Int) == (b.peer.b.toNat : Int) && ((a.peer.c.toNat : Int) == (b.peer.c.toNat : Int) && ((a.peer.d.toNat : Int) == (b.peer.d.toNat : Int) && ((a.peer.e.toNat : Int) == (b.peer.e.toNat : Int) && ((a.peer.f.toNat : Int) == (b.peer.f.toNat : Int) && ((a.num.toNat : Int) == (b.num.toNat : Int) && (a.level == b.level && (a.til == b.til && true)))))))))) = decide (a = b) := by
  obtain ⟨s, ⟨p1, p2, p3, p4, p5, p6⟩, n, l, t⟩ := a
  obtain ⟨s', ⟨q1, q2, q3, q4, q5, q6⟩, n', l', t'⟩ := b
  simp only [u8_beq, Adj.mk.injEq, Sy.mk.injEq]
  rw [Bool.eq_iff_iff]
  simp only [Bool.and_eq_true, beq_iff_eq, decide_eq_true_iff, and_true]
  simp only [and_assoc]
theorem areasS (l : List (List UInt8)) (hs : Small l) : FnW Try.prog 15 [AV.sl false false 1 (stale.sL (vsF l)), AV.sl false false 1 (stale.sL (vsS l))] [slV l, slV l] (.bool true) := by
  have := SameAreas_ok l l hs.1 hs.2
  rw [decide_eq_true rfl] at this
  exact ⟨VLe.of_eq (by rw [vsF_sL, vsS_sL]; rfl), this⟩

/-! ### AdjSteps -/
theorem Steps_ok (l : Loc) (a : Adj) (h : Hel) (now : Int) (hl : Small l.areas) (hh : Small h.areas) : FnOk Try.prog 3 (argsA l a h now) (.bool true) :=
  Steps_way l a (stepS l a h now).1 h now (stepS l a h now).2 awake_ok (localW l hl) (loc_fresh l) (helloW h hh) (hel_fresh h) (stepW l a h now hl hh rfl) (docW l a h now hl hh rfl)
    (by simp only [Bool.false_eq_true, ↓reduceIte, adj_eq]; simp) (by simp) (areasS _ hl) (areasS _ hh)

/-! ### AdjApart -/
theorem chk_vals (l : Loc) (a : Adj) (h : Hel) (now : Int) : chk l a h now = 0 ∨ chk l a h now = 1 ∨ chk l a h now = 2 ∨ chk l a h now = 7 := by
  unfold chk
  split
  · split
    · simp
    · split <;> simp
  · simp
theorem flip_ok (b : UInt8) : (AV.int IntKind.u8 (IntKind.u8.wrap (((BitVec.ofInt 8 (b.toNat : Int) ^^^ BitVec.ofInt 8 1).toNat : Nat) : Int))) = AV.int IntKind.u8 ((b ^^^ 1).toNat : Int) := by
  congr 1
  have h1 : BitVec.ofInt 8 (b.toNat : Int) = b.toBitVec := by
    apply BitVec.eq_of_toNat_eq
    have := b.toNat_lt
    rw [BitVec.toNat_ofInt]
    simp
    omega
  rw [h1]
  have h2 : (b.toBitVec ^^^ BitVec.ofInt 8 1).toNat = (b ^^^ 1).toNat := rfl
  rw [h2]
  have := (b ^^^ 1).toNat_lt
  exact wrap8_eq (by omega) (by omega)
theorem flip_ne (b : UInt8) : b ^^^ 1 ≠ b := by
  intro h
  have h3 : b ^^^ (b ^^^ 1) = b ^^^ b := by rw [h]
  rw [← UInt8.xor_assoc, UInt8.xor_self] at h3
  simp at h3
def x4 (l : Loc) (h : Hel) : UInt8 := if h.their = l.sys then h.their.a ^^^ 1 else h.their.a
theorem helN_mism (l : Loc) (h : Hel) : mism l (helN h (x4 l h)) := by
  refine ⟨rfl, fun ⟨e, _⟩ => ?_⟩
  unfold x4 at e
  by_cases t : h.their = l.sys
  · rw [if_pos t] at e
    have e1 : (helN h (h.their.a ^^^ 1)).their.a = h.their.a := by rw [e, t]
    exact flip_ne _ e1
  · rw [if_neg t] at e
    exact t e
theorem helD_step (l : Loc) (a : Adj) (h : Hel) (now : Int) (f : (stepS l a (helD h) now).2 = 0) : (stepS l a (helD h) now).1.state = 1 ∧ (stepS l a (helD h) now).1.peer = h.sys ∧ (stepS l a (helD h) now).1.til = now + h.hold ∧ fits l a (helD h) now := by
  unfold stepS at f ⊢
  split at f
  · rename_i e0
    rw [if_pos e0]
    unfold stepR at f ⊢
    split at f
    · simp at f
    · rename_i e1
      have e2 : ¬ mism l (helD h) := fun m => by simp [mism, helD] at m
      have e3 : nxt (was a (helD h) (cm l (helD h))) (told (helD h)) = 1 := by simp [told, helD, nxt]
      rw [if_neg e1, if_neg e2, if_neg (by rw [e3]; decide)]
      exact ⟨e3, rfl, rfl, (chk_fits e0).1⟩
  · rename_i e0
    exact absurd f e0
theorem Apart_all (l : Loc) (a : Adj) (h : Hel) (now : Int) (hl : Small l.areas) (hh : Small h.areas) : FnOk Try.prog 4 (argsA l a h now) (.bool true) := by
  have hth : Runs Try.prog T4 92 sg4x16x26 (q4 l a (helN h h.their.a) now []) fun x => x = (.normal, q4 l a (helN h (x4 l h)) now []) := by
    unfold x4
    by_cases t : h.their = l.sys
    · rw [if_pos t]
      exact Ap_their1 l a h now _ (by simp only [Bool.false_eq_true, ↓reduceIte, sy_eq]; exact decide_eq_true (show (helN h h.their.a).their = l.sys from t)) (flip_ok _)
    · rw [if_neg t]
      exact Ap_their0 l a h now (by simp only [Bool.false_eq_true, ↓reduceIte, sy_eq]; exact decide_eq_false (show ¬ (helN h h.their.a).their = l.sys from t))
  have hm := helN_mism l h
  generalize x4 l h = x at hth hm
  have hh' : Small (helN h x).areas := hh
  have hmid : Runs Try.prog T4 92 sg4x37x56 (q4 l a (helN h x) now [(9, .box (adjC (stepS l a (helN h x) now).1)), (10, ni (stepS l a (helN h x) now).2)]) fun y => y = (.normal, q4 l a (helN h x) now [(56, .bool false)]) := by
    unfold stepS
    by_cases e0 : chk l a (helN h x) now = 0
    · rw [if_pos e0]
      unfold stepR
      by_cases e1 : cm l (helN h x) = 0
      · rw [if_pos e1]
        exact Ap_none l a _ (helN h x) now _ (by decide) (by decide) (by decide)
      · rw [if_neg e1, if_pos hm]
        exact Ap_same l a _ (helN h x) now _ (by simp) (by simp) (by simp only [↓reduceIte, adj_eq]; simp)
    · rw [if_neg e0]
      have hv := chk_vals l a (helN h x) now
      exact Ap_err l a _ (helN h x) now _ (by simpa using e0) (by simp; omega) (by simp only [↓reduceIte, adj_eq]; simp) (by simpa using e0)
  have s1 := stepW l a (helN h x) now hl hh' rfl
  have s2 := stepW l a (helD (helN h x)) now hl hh' rfl
  by_cases f : (stepS l a (helD (helN h x)) now).2 = 0
  · obtain ⟨g1, g2, g3, g4⟩ := helD_step l a (helN h x) now f
    have hu := until_ok (now := now) (hold := (helN h x).hold) g4.2.2.2.2.2 g4.2.2.2.2.1
    exact Apart_ok l a _ _ h now _ _ x awake_ok hth (localW l hl) (loc_fresh l) (helloW _ hh') (hel_fresh _) s1 hmid (helloW (helD (helN h x)) hh') (hel_fresh _) s2 (by simpa using f) (by simpa using g1)
      (by simp only [Bool.false_eq_true, ↓reduceIte, sy_eq]; simpa using g2) (by rw [g3, hu]; simp)
  · exact Apart_err l a _ _ h now _ _ x awake_ok hth (localW l hl) (loc_fresh l) (helloW _ hh') (hel_fresh _) s1 hmid (helloW (helD (helN h x)) hh') (hel_fresh _) s2 (by simpa using f)
end Go.Ev

/-! text P5 -/
set_option linter.unusedVariables false
set_option linter.unusedSimpArgs false
namespace Go.Ev
open Go.Proofs (Try.prog)

/-! ### AdjTwice -/
theorem nxt_again {w t : Int} (h : nxt w t ≠ 2) : nxt (nxt w t) t = nxt w t := by
  unfold nxt at *
  split <;> split at h <;> (try split) <;> (try split at h) <;> simp_all <;> omega
theorem nxt_two {w t : Int} (h : nxt w t = 2) : nxt 2 t = 2 := by
  unfold nxt at *
  split at h
  · omega
  · split at h
    · rename_i h1 h2
      rw [if_neg h1, if_pos ⟨rfl, h2.2⟩]
    · omega
theorem step_range {l : Loc} {a : Adj} {h : Hel} {now : Int} (e : chk l a h now = 0) : 0 ≤ (stepS l a h now).1.state ∧ (stepS l a h now).1.state ≤ 2 := by
  have hf := (chk_fits e).1
  unfold stepS
  rw [if_pos e]
  unfold stepR
  split
  · simp [dn]
  · split
    · exact hf.2.2.1
    · split
      · simp [dn]
      · exact nxt_lo _ _
theorem chk_keep {l : Loc} {a b : Adj} {h : Hel} {now : Int} (e : chk l a h now = 0) (hb : 0 ≤ b.state ∧ b.state ≤ 2) : chk l b h now = 0 := by
  obtain ⟨hf, h2, h3⟩ := chk_fits e
  unfold chk
  rw [if_pos ⟨hf.1, hf.2.1, hb, hf.2.2.2⟩, if_neg h2, if_neg h3]
theorem was_dn (h : Hel) (c : Int) : was dn h c = 2 := by
  unfold was
  split <;> rfl
theorem stepS_ok {l : Loc} {b : Adj} {h : Hel} {now : Int} (e : chk l b h now = 0) : stepS l b h now = stepR l b h now (cm l h) := by
  unfold stepS
  rw [if_pos e]
theorem step_again {l : Loc} {a : Adj} {h : Hel} {now : Int} (e : chk l a h now = 0) : stepS l (stepS l a h now).1 h now = stepS l a h now := by
  have e' := chk_keep e (step_range e)
  rw [stepS_ok e']
  rw [stepS_ok e]
  unfold stepR
  by_cases e1 : cm l h = 0
  · simp only [if_pos e1]
  · simp only [if_neg e1]
    by_cases e2 : mism l h
    · simp only [if_pos e2]
    · simp only [if_neg e2]
      by_cases e3 : nxt (was a h (cm l h)) (told h) = 2
      · simp only [if_pos e3, was_dn]
        rw [if_pos (nxt_two e3)]
      · simp only [if_neg e3]
        have hw : was (upA a h now (cm l h)) h (cm l h) = nxt (was a h (cm l h)) (told h) := by
          unfold was
          rw [if_pos ⟨rfl, rfl, rfl⟩]
          rfl
        simp only [hw, nxt_again e3, if_neg e3]
        have hu : upA (upA a h now (cm l h)) h now (cm l h) = upA a h now (cm l h) := by
          show (⟨nxt (was (upA a h now (cm l h)) h (cm l h)) (told h), h.sys, h.num, cm l h, now + h.hold⟩ : Adj) = _
          rw [hw, nxt_again e3]
          rfl
        rw [hu]
theorem Twice_all (l : Loc) (a : Adj) (h : Hel) (now : Int) (hl : Small l.areas) (hh : Small h.areas) : FnOk Try.prog 5 (argsA l a h now) (.bool true) := by
  by_cases e0 : chk l a h now = 0
  · have e1 := step_again e0
    generalize hr : stepS l a h now = r at e1
    have e2 : stepS l r.1 h now = r := e1
    have hne : r.2 ≠ 1 ∧ r.2 ≠ 2 ∧ r.2 ≠ 7 := by
      rw [← hr]
      unfold stepS
      rw [if_pos e0]
      unfold stepR
      split
      · simp
      · split
        · simp
        · split <;> simp
    exact Twice_0 l a r.1 r.1 r.1 h now r.2 r.2 r.2 awake_ok (localW l hl) (loc_fresh l) (helloW h hh) (hel_fresh h) (stepW l a h now hl hh hr) (stepW l r.1 h now hl hh e2) (stepW l r.1 h now hl hh e2)
      (by simpa using hne.1) (by simpa using hne.2.1) (by simpa using hne.2.2) (by simp) (by simp) (by simp only [Bool.false_eq_true, ↓reduceIte, adj_eq]; simp) (by simp only [Bool.false_eq_true, ↓reduceIte, adj_eq]; simp)
  · have es : stepS l a h now = (a, chk l a h now) := by unfold stepS; rw [if_neg e0]
    have hv := chk_vals l a h now
    have q : (if false = true then !(decide (a = a)) else decide (a = a)) = true := by simp
    by_cases c1 : chk l a h now = 1
    · exact Twice_1 l a a _ _ h now _ _ _ awake_ok (localW l hl) (loc_fresh l) (helloW h hh) (hel_fresh h) (stepW l a h now hl hh es) (stepW l a h now hl hh rfl) (stepW l _ h now hl hh rfl) (by simpa using c1) (by simp only [Bool.false_eq_true, ↓reduceIte, adj_eq]; simp)
    by_cases c2 : chk l a h now = 2
    · exact Twice_2 l a a _ _ h now _ _ _ awake_ok (localW l hl) (loc_fresh l) (helloW h hh) (hel_fresh h) (stepW l a h now hl hh es) (stepW l a h now hl hh rfl) (stepW l _ h now hl hh rfl) (by simpa using c1) (by simpa using c2) (by simp only [Bool.false_eq_true, ↓reduceIte, adj_eq]; simp)
    have c7 : chk l a h now = 7 := by omega
    exact Twice_7 l a a _ _ h now _ _ _ awake_ok (localW l hl) (loc_fresh l) (helloW h hh) (hel_fresh h) (stepW l a h now hl hh es) (stepW l a h now hl hh rfl) (stepW l _ h now hl hh rfl) (by simpa using c1) (by simpa using c2) (by simpa using c7) (by simp only [Bool.false_eq_true, ↓reduceIte, adj_eq]; simp)

/-! ### AdjLevels -/
theorem lvI (l : Loc) (b : Adj) (h : Hel) (hh : Small h.areas) (i : Nat) (x : List UInt8) (hx : x.length < 1073741824) (g : Bool) :
    Runs Try.prog T6 107 (Cd.loop [] lp6x0) (q6I l h b g i x 0) fun r => r = (.exit 2, q6O l h b (g || h.areas.any fun y => decide (x = y)) i) := by
  have hlen := hh.1
  have hend := LvI_end l b h i h.areas.length x (g || h.areas.any fun y => decide (x = y)) (by simp)
  have hend2 : Runs Try.prog T6 107 lp6x0 (q6I l h b (g || (h.areas.take h.areas.length).any fun y => decide (x = y)) i x h.areas.length) fun r => r = (.exit 2, q6O l h b (g || h.areas.any fun y => decide (x = y)) i) := by
    rw [List.take_length]; exact hend
  have hall := Runs.upto (n := 107) (T := T6) (live := []) (S := fun j => q6I l h b (g || (h.areas.take j).any fun y => decide (x = y)) i x j) (j := h.areas.length) (fun j hj => ?_) hend2 (by simp)
  · have e0 : (g || (h.areas.take 0).any fun y => decide (x = y)) = g := by simp
    simp only [e0] at hall
    exact hall
  · rw [List.take_succ_eq_append_getElem hj, List.any_append]
    cases hg : (g || (h.areas.take j).any fun y => decide (x = y)) with
    | true =>
      have := LvI_have l b h i j x h.areas[j] (by simpa using hj) (get_vS hj) (wrap_succ' hj hlen)
      have e : (g || ((h.areas.take j).any (fun y => decide (x = y)) || [h.areas[j]].any fun y => decide (x = y))) = true := by
        rw [← Bool.or_assoc, hg, Bool.true_or]
      simp only [e]
      exact this
    | false =>
      have := LvI_ask l b h i j x h.areas[j] (decide (x = h.areas[j])) (by simpa using hj) (get_vS hj) (.of (.cons (slB_arg _) (.cons (slB_arg _) .nil)) (SameBytes_ok x _ (by omega))) (wrap_succ' hj hlen)
      have e : (g || ((h.areas.take j).any (fun y => decide (x = y)) || [h.areas[j]].any fun y => decide (x = y))) = decide (x = h.areas[j]) := by
        rw [← Bool.or_assoc, hg, Bool.false_or]
        simp
      simp only [e]
      exact this
theorem lvO (l : Loc) (b : Adj) (h : Hel) (hl : Small l.areas) (hh : Small h.areas) :
    Runs Try.prog T6 107 (Cd.loop [] lp6x1) (q6O l h b false 0) fun r => r = (.exit 0, q6E l h b (shr l.areas h.areas)) := by
  have hlen := hl.1
  have hend := LvO_end l b h l.areas.length (shr l.areas h.areas) (by simp)
  refine Runs.upto (S := fun i => q6O l h b (shr (l.areas.take i) h.areas) i) (j := l.areas.length) (fun i hi => ?_) ?_ (by simp [shr])
  · have e : shr (l.areas.take (i + 1)) h.areas = (shr (l.areas.take i) h.areas || h.areas.any fun y => decide (l.areas[i] = y)) := by
      unfold shr
      rw [List.take_succ_eq_append_getElem hi, List.any_append]
      simp
    simp only [e]
    exact LvO_next l b h i l.areas[i] _ _ (by simpa using hi) (get_vS hi) (LeR.of_eq (by simp)) (lvI l b h hh i _ (hl.2 _ (List.getElem_mem _)) _) (wrap_succ' hi hlen)
  · simpa using hend
theorem common_vals {x y : Int} (s : Bool) (hx : 1 ≤ x ∧ x ≤ 3) (hy : 1 ≤ y ∧ y ≤ 3) (h0 : common x y s ≠ 0) :
    IntKind.i64.wrap (((BitVec.ofInt 64 (common x y s) &&& ~~~ BitVec.ofInt 64 x).toNat : Nat) : Int) = 0 ∧ IntKind.i64.wrap (((BitVec.ofInt 64 (common x y s) &&& ~~~ BitVec.ofInt 64 y).toNat : Nat) : Int) = 0 ∧ 0 < common x y s ∧
    (common x y s = 2 ∧ IntKind.i64.wrap (((BitVec.ofInt 64 (common x y s) &&& BitVec.ofInt 64 2).toNat : Nat) : Int) ≠ 0 ∧ IntKind.i64.wrap (((BitVec.ofInt 64 x &&& BitVec.ofInt 64 2).toNat : Nat) : Int) ≠ 0 ∧ IntKind.i64.wrap (((BitVec.ofInt 64 y &&& BitVec.ofInt 64 2).toNat : Nat) : Int) ≠ 0 ∨
     s = true ∧ common x y s = 1 ∧ IntKind.i64.wrap (((BitVec.ofInt 64 (common x y s) &&& BitVec.ofInt 64 2).toNat : Nat) : Int) = 0 ∧ (IntKind.i64.wrap (((BitVec.ofInt 64 x &&& BitVec.ofInt 64 2).toNat : Nat) : Int) = 0 ∨ IntKind.i64.wrap (((BitVec.ofInt 64 x &&& BitVec.ofInt 64 2).toNat : Nat) : Int) ≠ 0 ∧ IntKind.i64.wrap (((BitVec.ofInt 64 y &&& BitVec.ofInt 64 2).toNat : Nat) : Int) = 0) ∨
     s = true ∧ common x y s = 3 ∧ IntKind.i64.wrap (((BitVec.ofInt 64 (common x y s) &&& BitVec.ofInt 64 2).toNat : Nat) : Int) ≠ 0 ∧ IntKind.i64.wrap (((BitVec.ofInt 64 x &&& BitVec.ofInt 64 2).toNat : Nat) : Int) ≠ 0 ∧ IntKind.i64.wrap (((BitVec.ofInt 64 y &&& BitVec.ofInt 64 2).toNat : Nat) : Int) ≠ 0) := by
  rcases lv3 hx with rfl | rfl | rfl <;> rcases lv3 hy with rfl | rfl | rfl <;> cases s <;> revert h0 <;> decide
theorem step_dn {l : Loc} {h : Hel} {now : Int} : (stepS l dn h now).2 ≠ 0 ∨ (stepS l dn h now).1.state = 2 → (stepS l dn h now).1 = dn := by
  intro hd
  unfold stepS at hd ⊢
  split at hd
  · rename_i e0
    rw [if_pos e0]
    unfold stepR at hd ⊢
    split at hd
    · rename_i e1; rw [if_pos e1]
    · rename_i e1
      rw [if_neg e1]
      split at hd
      · rename_i e2; rw [if_pos e2]
      · rename_i e2
        rw [if_neg e2]
        split at hd
        · rename_i e3; rw [if_pos e3]
        · rename_i e3
          rcases hd with hd | hd
          · simp at hd
          · exact absurd hd e3
  · rename_i e0
    rw [if_neg e0]
theorem step_up {l : Loc} {a : Adj} {h : Hel} {now : Int} (f : (stepS l a h now).2 = 0) (g : (stepS l a h now).1.state ≠ 2) (ha : a.state = 2) :
    fits l a h now ∧ cm l h ≠ 0 ∧ (stepS l a h now).1 = upA a h now (cm l h) := by
  unfold stepS at f g ⊢
  split at f
  · rename_i e0
    rw [if_pos e0] at g ⊢
    unfold stepR at f g ⊢
    split at f
    · simp at f
    · rename_i e1
      rw [if_neg e1] at g ⊢
      split at f
      · rename_i e2
        rw [if_pos e2] at g
        exact absurd ha g
      · rename_i e2
        rw [if_neg e2] at g ⊢
        split at f
        · rename_i e3
          rw [if_pos e3] at g
          exact absurd rfl g
        · rename_i e3
          rw [if_neg e3]
          exact ⟨(chk_fits e0).1, e1, rfl⟩
  · rename_i e0
    exact absurd f e0
theorem eq2 {p q : Int} (hp : p ≠ 0) (hq : q ≠ 0) : (if false = true then !(p != 0) == (q != 0) else (p != 0) == (q != 0)) = true := by
  have h1 : (p != 0) = true := bne_iff_ne.2 hp
  have h2 : (q != 0) = true := bne_iff_ne.2 hq
  rw [h1, h2]
  rfl
theorem eq0 {p q : Int} (hp : p = 0) (hq : q = 0) : (if false = true then !(p != 0) == (q != 0) else (p != 0) == (q != 0)) = true := by
  subst hp
  subst hq
  rfl
theorem eq1 {p : Int} (hp : p = 0) : (if false = true then !(p != 0) == false else (p != 0) == false) = true := by
  subst hp
  rfl
theorem Levels_all (l : Loc) (h : Hel) (now : Int) (hl : Small l.areas) (hh : Small h.areas) : FnOk Try.prog 6 [locA l, helA h, ni now] (.bool true) := by
  have s := stepW l dn h now hl hh rfl
  by_cases f : (stepS l dn h now).2 = 0
  case neg =>
    rw [step_dn (.inl f)] at s
    exact Lv_errE l dn h now _ awake_ok (localW l hl) (loc_fresh l) (helloW h hh) (hel_fresh h) s (by simpa using f) (by decide)
  by_cases g : (stepS l dn h now).1.state = 2
  case pos =>
    rw [step_dn (.inr g)] at s
    exact Lv_errD l dn h now _ awake_ok (localW l hl) (loc_fresh l) (helloW h hh) (hel_fresh h) s (by simpa using f) (by decide) (by decide)
  obtain ⟨hf, hc, hb⟩ := step_up f g rfl
  rw [f, hb] at s
  rw [hb] at g
  have hlev : (upA dn h now (cm l h)).level = cm l h := rfl
  generalize upA dn h now (cm l h) = b at s g hlev
  have hloop := lvO l b h hl hh
  obtain ⟨v1, v2, v3, v4⟩ := common_vals (shr l.areas h.areas) hf.1 hf.2.1 hc
  have hg : (b.state == 2) = false := by simpa using g
  have e1 : LeR (AV.int IntKind.i64 ((vsS l.areas).length : Int)) (AV.int IntKind.i64 (l.areas.length : Int)) := LeR.of_eq (by simp)
  rw [← show b.level = common l.level h.level (shr l.areas h.areas) from hlev] at v1 v2 v3 v4
  rcases v4 with ⟨w1, w2, w3, w4⟩ | ⟨ws, w1, w2, w3⟩ | ⟨ws, w1, w2, w3, w4⟩
  · exact Lv_two l b h now _ _ _ _ awake_ok (localW l hl) (loc_fresh l) (helloW h hh) (hel_fresh h) s hg e1 hloop v1 v2 (by simpa using v3) (by rw [w1]; decide) (by rw [w1]; decide) rfl rfl (bne_iff_ne.2 w3) rfl (eq2 w2 w4)
  · rw [ws] at hloop
    rcases w3 with w3 | ⟨w3, w4⟩
    · exact Lv_one0 l b h now _ _ 0 true awake_ok (localW l hl) (loc_fresh l) (helloW h hh) (hel_fresh h) s hg e1 hloop v1 v2 (by simpa using v3) (by rw [w1]; decide) rfl rfl (by rw [w3]; decide) (eq1 w2)
    · exact Lv_one1 l b h now _ _ _ true awake_ok (localW l hl) (loc_fresh l) (helloW h hh) (hel_fresh h) s hg e1 hloop v1 v2 (by simpa using v3) (by rw [w1]; decide) rfl rfl (bne_iff_ne.2 w3) rfl (eq0 w2 w4)
  · rw [ws] at hloop
    exact Lv_three l b h now _ _ _ true awake_ok (localW l hl) (loc_fresh l) (helloW h hh) (hel_fresh h) s hg e1 hloop v1 v2 (by simpa using v3) (by rw [w1]; decide) (by rw [w1]; decide) rfl rfl (bne_iff_ne.2 w3) rfl (eq2 w2 w4)

/-! ### AdjHolds -/
def expS (a : Adj) (now : Int) : Adj := if (a.state = 1 ∨ a.state = 0) ∧ a.til ≤ now then dn else a
theorem Expire_ok (a : Adj) (now : Int) : FnOk Try.prog 17 [adjA a, ni now] (adjA (expS a now)) := by
  have d : FnW Try.prog 26 [] [] (adjA dn) := ⟨VLe.refl, down_way⟩
  unfold expS
  by_cases s1 : a.state = 1
  · by_cases t : a.til ≤ now
    · rw [if_pos ⟨.inl s1, t⟩]
      exact Expire_i1 a now (by simpa using s1) (by simpa using t) d
    · rw [if_neg fun e => t e.2]
      exact Expire_i0 a now (by simpa using s1) (by simpa using t)
  · by_cases s0 : a.state = 0
    · by_cases t : a.til ≤ now
      · rw [if_pos ⟨.inr s0, t⟩]
        exact Expire_u1 a now (by simpa using s1) (by simpa using s0) (by simpa using t) d
      · rw [if_neg fun e => t e.2]
        exact Expire_u0 a now (by simpa using s1) (by simpa using s0) (by simpa using t)
    · rw [if_neg fun e => e.1.elim s1 s0]
      exact Expire_d a now (by simpa using s1) (by simpa using s0)
theorem expW {b : Adj} {n : Int} {r : Adj} (e : expS b n = r) : FnW Try.prog 17 [adjA b, ni n] [adjA b, ni n] (adjA r) := ⟨VLe.refl, by subst e; exact Expire_ok b n⟩
theorem Holds_all (l : Loc) (h : Hel) (now : Int) (hn : -2147483648 ≤ now ∧ now < 2147483648) (hl : Small l.areas) (hh : Small h.areas) : FnOk Try.prog 7 [locA l, helA h, .int .i32 now] (.bool true) := by
  have m : IntKind.i64.wrap now = now := wrap64_eq (by omega) (by omega)
  have ha : IntKind.i64.wrap (now + 2147483648) = now + 2147483648 := wrap64_eq (by omega) (by omega)
  have s := stepW l dn h (now + 2147483648) hl hh rfl
  by_cases f : (stepS l dn h (now + 2147483648)).2 = 0
  case neg => exact Hold_err l _ h now _ _ _ awake_ok m ha (localW l hl) (loc_fresh l) (helloW h hh) (hel_fresh h) s (by simpa using f)
  by_cases g : (stepS l dn h (now + 2147483648)).1.state = 2
  case pos => exact Hold_dn l _ h now _ _ _ awake_ok m ha (localW l hl) (loc_fresh l) (helloW h hh) (hel_fresh h) s (by simpa using f) (by simpa using g)
  obtain ⟨hf, hc, hb⟩ := step_up f g rfl
  have hst : (stepS l dn h (now + 2147483648)).1.state = 1 ∨ (stepS l dn h (now + 2147483648)).1.state = 0 := by
    rw [hb] at g ⊢
    have := nxt_lo (was dn h (cm l h)) (told h)
    have e : (upA dn h (now + 2147483648) (cm l h)).state = nxt (was dn h (cm l h)) (told h) := rfl
    rw [e] at g ⊢
    omega
  have htil : (stepS l dn h (now + 2147483648)).1.til = now + 2147483648 + h.hold := by rw [hb]; rfl
  rw [f] at s
  generalize (stepS l dn h (now + 2147483648)).1 = b at s g hst htil
  obtain ⟨_, _, _, _, hh1, _⟩ := hf
  have z : IntKind.i64.wrap (now + 2147483648 + h.hold) = now + 2147483648 + h.hold := wrap64_eq (by omega) (by omega)
  have z1 : IntKind.i64.wrap (now + 2147483648 + h.hold - 1) = now + 2147483648 + h.hold - 1 := wrap64_eq (by omega) (by omega)
  have z2 : IntKind.i64.wrap (now + 2147483648 + h.hold + 1000) = now + 2147483648 + h.hold + 1000 := wrap64_eq (by omega) (by omega)
  have k : ∀ n, n < b.til → expS b n = b := fun n hn => by unfold expS; rw [if_neg fun e => by omega]
  have k' : ∀ n, b.til ≤ n → expS b n = dn := fun n hn => by unfold expS; rw [if_pos ⟨hst, hn⟩]
  exact Hold_ok l b h now _ _ 0 _ _ _ awake_ok m ha (localW l hl) (loc_fresh l) (helloW h hh) (hel_fresh h) s (by decide) (by simpa using g) z (expW (k _ (by omega))) (by simp only [Bool.false_eq_true, ↓reduceIte, adj_eq]; simp)
    z1 (expW (k _ (by omega))) (expW (k' _ (by omega))) z2 (expW (k' _ (by omega)))
    (fun _ => rfl) (by intro e; simp at e; omega) (by intro e; simp at e; omega) (by intro e; simp at e; omega) (by intro e; simp at e; omega) (fun _ => rfl)
end Go.Ev

/-! text O1 -/
set_option linter.unusedVariables false
namespace Go.Ev
open Go.Proofs (Try.prog)

/-! ### What comes in, of this program's types -/
theorem u2 : Try.prog.underlying 2 = some (.int .i64) := by kernel_rfl
theorem u3 : Try.prog.underlying 3 = some (.int .i64) := by kernel_rfl
theorem u4 : Try.prog.underlying 4 = some .bool := by kernel_rfl
theorem u5 : Try.prog.underlying 5 = some (.int .u8) := by kernel_rfl
theorem u21 : Try.prog.underlying 21 = some (.int .i32) := by kernel_rfl
theorem u23 : Try.prog.underlying 23 = some (.array 6 5) := by kernel_rfl
theorem u24 : Try.prog.underlying 24 = some (.slice 44) := by kernel_rfl
theorem u44 : Try.prog.underlying 44 = some (.slice 5) := by kernel_rfl
theorem c5 : Try.prog.cellsOf 5 = 1 := by kernel_rfl
theorem c44 : Try.prog.cellsOf 44 = 1 := by kernel_rfl
theorem g5 : aggOf Try.prog 5 = some none := by kernel_rfl
theorem g44 : aggOf Try.prog 44 = some none := by kernel_rfl
theorem u26 : Try.prog.underlying 26 = some (.struct #[{ name := "Sys", type := 23, offset := 0, embedded := false, tag := "", pkgPath := "", byteOffset := 0 }, { name := "Number", type := 5, offset := 6, embedded := false, tag := "", pkgPath := "", byteOffset := 6 }, { name := "Level", type := 3, offset := 7, embedded := false, tag := "", pkgPath := "", byteOffset := 8 }, { name := "Areas", type := 24, offset := 8, embedded := false, tag := "", pkgPath := "", byteOffset := 16 }]) := by kernel_rfl
theorem u28 : Try.prog.underlying 28 = some (.struct #[{ name := "State", type := 3, offset := 0, embedded := false, tag := "", pkgPath := "", byteOffset := 0 }, { name := "Peer", type := 23, offset := 1, embedded := false, tag := "", pkgPath := "", byteOffset := 8 }, { name := "Number", type := 5, offset := 7, embedded := false, tag := "", pkgPath := "", byteOffset := 14 }, { name := "Level", type := 3, offset := 8, embedded := false, tag := "", pkgPath := "", byteOffset := 16 }, { name := "Until", type := 2, offset := 9, embedded := false, tag := "", pkgPath := "", byteOffset := 24 }]) := by kernel_rfl
theorem u30 : Try.prog.underlying 30 = some (.struct #[{ name := "Sys", type := 23, offset := 0, embedded := false, tag := "", pkgPath := "", byteOffset := 0 }, { name := "Number", type := 5, offset := 6, embedded := false, tag := "", pkgPath := "", byteOffset := 6 }, { name := "Level", type := 3, offset := 7, embedded := false, tag := "", pkgPath := "", byteOffset := 8 }, { name := "Hold", type := 3, offset := 8, embedded := false, tag := "", pkgPath := "", byteOffset := 16 }, { name := "Areas", type := 24, offset := 9, embedded := false, tag := "", pkgPath := "", byteOffset := 24 }, { name := "State", type := 3, offset := 10, embedded := false, tag := "", pkgPath := "", byteOffset := 48 }, { name := "Named", type := 4, offset := 11, embedded := false, tag := "", pkgPath := "", byteOffset := 56 }, { name := "Their", type := 23, offset := 12, embedded := false, tag := "", pkgPath := "", byteOffset := 57 }, { name := "There", type := 5, offset := 18, embedded := false, tag := "", pkgPath := "", byteOffset := 63 }]) := by kernel_rfl
theorem laid : laidOutB Try.prog = true := by kernel_rfl
theorem Ty_sy {m : Nat} {ys : List AV} (h : Ty Try.prog (m + 2) 23 ys) : ∃ s : Sy, ys = syL s := by
  obtain ⟨yss, hl, rfl, hy⟩ := Ty_array u23 h
  match yss, hl with
  | [a, b, c, d, e, f], _ =>
    obtain ⟨a, rfl⟩ := Ty_u8 u5 (hy a (by simp))
    obtain ⟨b, rfl⟩ := Ty_u8 u5 (hy b (by simp))
    obtain ⟨c, rfl⟩ := Ty_u8 u5 (hy c (by simp))
    obtain ⟨d, rfl⟩ := Ty_u8 u5 (hy d (by simp))
    obtain ⟨e, rfl⟩ := Ty_u8 u5 (hy e (by simp))
    obtain ⟨f, rfl⟩ := Ty_u8 u5 (hy f (by simp))
    exact ⟨⟨a, b, c, d, e, f⟩, rfl⟩
theorem Ty_areas {m : Nat} {ys : List AV} (h : Ty Try.prog (m + 3) 24 ys) : ∃ l : List (List UInt8), ys = [slV l] := by
  obtain ⟨l, rfl⟩ := Ty_slice (f := vS) u24 (fun zs x hz hx => by
    obtain ⟨v, rfl⟩ := Ty_bytes u44 u5 c5 g5 hz
    rw [g44] at hx
    cases hx
    exact ⟨v, rfl⟩) h
  exact ⟨l, by rw [c44]; rfl⟩
theorem Ty_loc {m : Nat} {ys : List AV} (h : Ty Try.prog (m + 4) 26 ys) : ∃ l : Loc, ys = locC l := by
  obtain ⟨a, b, rfl, h1, c, d, rfl, h2, e, f, rfl, h3, g, i, rfl, h4, h5⟩ := Ty_struct u26 h
  cases TyFs_nil h5
  obtain ⟨s, rfl⟩ := Ty_sy h1
  obtain ⟨n, rfl⟩ := Ty_u8 u5 h2
  obtain ⟨lv, _, _, rfl⟩ := Ty_int u3 h3
  obtain ⟨ar, rfl⟩ := Ty_areas h4
  exact ⟨⟨s, n, lv, ar⟩, rfl⟩
theorem Ty_adj {m : Nat} {ys : List AV} (h : Ty Try.prog (m + 4) 28 ys) : ∃ a : Adj, ys = adjC a := by
  obtain ⟨a, b, rfl, h1, c, d, rfl, h2, e, f, rfl, h3, g, i, rfl, h4, j, k, rfl, h5, h6⟩ := Ty_struct u28 h
  cases TyFs_nil h6
  obtain ⟨st, _, _, rfl⟩ := Ty_int u3 h1
  obtain ⟨s, rfl⟩ := Ty_sy h2
  obtain ⟨n, rfl⟩ := Ty_u8 u5 h3
  obtain ⟨lv, _, _, rfl⟩ := Ty_int u3 h4
  obtain ⟨ti, _, _, rfl⟩ := Ty_int u2 h5
  exact ⟨⟨st, s, n, lv, ti⟩, rfl⟩
theorem Ty_hel {m : Nat} {ys : List AV} (h : Ty Try.prog (m + 4) 30 ys) : ∃ a : Hel, ys = helC a := by
  obtain ⟨_, _, rfl, h1, _, _, rfl, h2, _, _, rfl, h3, _, _, rfl, h4, _, _, rfl, h5, _, _, rfl, h6, _, _, rfl, h7, _, _, rfl, h8, _, _, rfl, h9, h10⟩ := Ty_struct u30 h
  cases TyFs_nil h10
  obtain ⟨s, rfl⟩ := Ty_sy h1
  obtain ⟨n, rfl⟩ := Ty_u8 u5 h2
  obtain ⟨lv, _, _, rfl⟩ := Ty_int u3 h3
  obtain ⟨ho, _, _, rfl⟩ := Ty_int u3 h4
  obtain ⟨ar, rfl⟩ := Ty_areas h5
  obtain ⟨sa, _, _, rfl⟩ := Ty_int u3 h6
  obtain ⟨nm, rfl⟩ := Ty_bool u4 h7
  obtain ⟨th, rfl⟩ := Ty_sy h8
  obtain ⟨tn, rfl⟩ := Ty_u8 u5 h9
  exact ⟨⟨s, n, lv, ho, ar, sa, nm, th, tn⟩, rfl⟩
theorem aLoc (l : Loc) : argOf Try.prog 26 (locC l) = locA l := by simp only [argOf, u26]; rfl
theorem aAdj (a : Adj) : argOf Try.prog 28 (adjC a) = adjA a := by simp only [argOf, u28]; rfl
theorem aHel (h : Hel) : argOf Try.prog 30 (helC h) = helA h := by simp only [argOf, u30]; rfl
theorem aI64 (n : Int) : argOf Try.prog 2 [ni n] = ni n := by simp only [argOf, u2]; rfl
theorem aI32 (n : Int) : argOf Try.prog 21 [.int .i32 n] = .int .i32 n := by simp only [argOf, u21]; rfl
theorem sz_areas {l : List (List UInt8)} (h : szA (slV l) ≤ 1048576) : Small l := by
  have e : szA (slV l) = szA.szL (vsS l) + 1 := rfl
  rw [e] at h
  have ht : ∀ t : List UInt8, szA (vS t) = t.length + 1 := fun t => by
    show szA.szL (bsA t) + 1 = _
    rw [szL_bs]
  refine ⟨?_, fun t hm => ?_⟩
  · have := szL_len (xs := vsS l) fun x hx => by
      obtain ⟨t, _, rfl⟩ := List.mem_map.1 hx
      rw [ht]; omega
    rw [show (vsS l).length = l.length by simp [vsS]] at this
    omega
  · have := szL_mem (x := vS t) (xs := vsS l) (List.mem_map.2 ⟨t, hm, rfl⟩)
    rw [ht] at this
    omega
theorem sz_loc {l : Loc} {xs : List AV} (h : szA.szL xs ≤ 1048576) (hm : locA l ∈ xs) : Small l.areas := by
  have h1 := szL_mem hm
  have h2 : szA (slV l.areas) ≤ szA.szL (locC l) := szL_mem (by simp [locC])
  have h3 : szA.szL (locC l) ≤ szA (locA l) := by simp only [locA, szA]; omega
  exact sz_areas (by omega)
theorem sz_hel {l : Hel} {xs : List AV} (h : szA.szL xs ≤ 1048576) (hm : helA l ∈ xs) : Small l.areas := by
  have h1 := szL_mem hm
  have h2 : szA (slV l.areas) ≤ szA.szL (helC l) := szL_mem (by simp [helC])
  have h3 : szA.szL (helC l) ≤ szA (helA l) := by simp only [helA, szA]; omega
  exact sz_areas (by omega)
end Go.Ev
