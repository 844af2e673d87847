import Derived.Test.YtlckkpjbkjbdcaaZd2
import Derived.IntWalk
import Derived.Test.YtlckkpjbkjbdcaaRows
import Derived.KernelRfl

/-! text E38 -/
set_option linter.unusedVariables false
set_option linter.unusedSimpArgs false
namespace Go.Ev
open Go.RowKit

/-! ### A way through a piece of code, with answers to what hangs on what isn't known -/
/-- Answers. b, i, n: what is set is this (a bool, a number, anything). v, y, s: what is read is this (a value, a byte, a text). q: it is asked that it be so. c, cs: what a call is told, and what it answers (all new, or not). lp: a loop's begin, how it ends, and where. -/
inductive An where
  | b (x : Bool)
  | i (x : Int)
  | n (x : AV)
  | v (x : AV)
  | y (x : UInt8)
  | s (x : ByteArray)
  | q
  | q2
  | c (ys : List AV) (r : AV)
  | cs (ys : List AV) (r : AV)
  | lp (σ : List AV) (e : Ex) (σ' : List AV)
abbrev Cs := FuncId × List AV × AV
/-- What is written, what must hold, which calls are made. -/
structure Rs where
  ws : List Wr
  ps : List Prop
  cs : List Cs
def AllP : List Prop → Prop
  | [] => True
  | p :: ps => p ∧ AllP ps
theorem AllP_append : ∀ {ps qs : List Prop}, AllP (ps ++ qs) ↔ AllP ps ∧ AllP qs
  | [], qs => by simp [AllP]
  | p :: ps, qs => by simp only [List.cons_append, AllP, AllP_append (ps := ps)]; exact and_assoc.symm
/-- A value may be told as another one. -/
def VLe (ys ys' : List AV) : Prop := ∀ γ w vs, VL γ w ys vs → VL γ w ys' vs
theorem VLe.refl {ys : List AV} : VLe ys ys := fun _ _ _ h => h
theorem VLe.of_eq {ys ys' : List AV} (h : ys = ys') : VLe ys ys' := by subst h; exact .refl
theorem VLe.cons {x y : AV} {xs ys : List AV} (h : ∀ γ w v, V γ w x v → V γ w y v) (hs : VLe xs ys) : VLe (x :: xs) (y :: ys) := by
  intro γ w vs ⟨v, r, e, h1, h2⟩
  exact ⟨v, r, e, h γ w v h1, hs γ w r h2⟩
def FnW (P : Program) (f : FuncId) (args ys : List AV) (r : AV) : Prop := VLe args ys ∧ FnOk P f ys r
theorem FnW.ok {P : Program} {f : FuncId} {args ys : List AV} {r : AV} (h : FnW P f args ys r) : FnOk P f args r :=
  fun w al St hSt hv => h.2 w al St hSt (h.1 _ _ _ hv)

/-! ### What each instruction does, with an answer -/
def ret1 (ws : List Wr) (ps : List Prop) : RM Rs := .ret ⟨ws, ps, []⟩
def plain (m : RM (List Wr)) : RM Rs := m.bind fun ws => ret1 ws []
def loadP (y : AV) (d : Nat) (n : Option Nat) (a : Ar) : RM Rs :=
  (target a).bind fun
    | .at_ s j => .get s fun
      | .box cs => match n with
        | none => match y with
          | .own f z xs => if s = d then .fail else ret1 [.set d (.als s (j + 1))] [cs[j]? = some (.own f z xs)]
          | y => (RM.opt (viewOf y)).bind fun y' => ret1 [.set d y'] [cs[j]? = some y]
        | some _ => .fail
      | .own true z xs => match n with
        | none => if flat y then ret1 [.set d y] [cellOf z xs j = some y] else if s = d then .fail else ret1 [.set d (.nst s 0 y)] [cellOf z xs j = some y]
        | some k => if k = z ∧ (cellsOf y).length = z then ret1 [.mod s (.own false z (undeep.uL xs)) [], .set d (.agg (cellsOf (undeep y)))] [j % z = 0, xs[j / z]? = some y] else .fail
      | .pv cs => match n with
        | none => ret1 [.set d y] [cs[j]? = some y]
        | some _ => .fail
      | _ => .fail
    | .ro (x :: _) => match n with
      | none => ret1 [.set d y] [x = y]
      | _ => .fail
    | _ => .fail
def storeP (n : Nat) (a x : Ar) : RM Rs :=
  (target a).bind fun
    | .at_ s j => (rd x).bind fun
      | (.own _ _ _, some _) => .fail
      | (y, _) => (RM.opt (viewOf y)).bind fun y => .get s fun
          | .box cs => if (cellsOf y).length = n ∧ (cellsOf y).all okCell = true then ret1 [.mod s (.box (splice cs j (cellsOf y))) (List.range' (j + 1) n)] [j + n ≤ cs.length] else .fail
          | .own true 1 xs => if n = 1 ∧ okCell y then ret1 [.mod s (.own true 1 (xs.set j y)) []] [j < xs.length] else .fail
          | _ => .fail
    | _ => .fail
def idxAP (y : Option AV) (d : Nat) (z : Nat) (x i : Ar) : RM Rs :=
  (rdInt i).bind fun (_, n) => (rd x).bind fun
    | (.own true z' xs, some (s, 0)) => if z' = z ∧ 0 < z ∧ s ≠ d then ret1 [.set d (.adr s (n.toNat * z))] [0 ≤ n, n < xs.length] else .fail
    | (.nst s j (.dsl _ z' xs), _) => match y with
      | some y => if z' = z ∧ 0 < z ∧ s ≠ d then ret1 [.set d (.npv s j (cellsOf y))] [0 ≤ n, xs[n.toNat]? = some y] else .fail
      | none => .fail
    | _ => match y with
      | some y => (rdView x).bind fun
        | (.sl _ _ z' xs, ws) => if z' = z then ret1 (ws ++ [.set d (.pv (cellsOf y))]) [0 ≤ n, xs[n.toNat]? = some y] else .fail
        | _ => .fail
      | none => .fail
def idxPP (d : Nat) (len z : Nat) (x i : Ar) : RM Rs :=
  (rdInt i).bind fun (_, n) => (target x).bind fun
    | .at_ s j => if s ≠ d then ret1 [.set d (.adr s (j + n.toNat * z))] [0 ≤ n, n < len] else .fail
    | .ro cs => ret1 [.set d (.pv (cs.drop (n.toNat * z)))] [0 ≤ n, n < len, n.toNat * z ≤ cs.length]
    | _ => .fail
def idxP' (y : Option AV) (d : Nat) (len z : Nat) (n : Option Nat) (x i : Ar) : RM Rs :=
  (rdInt i).bind fun (_, m) => (rdV x).bind fun
    | .agg cs => match n with
        | none => match y with
          | some y => ret1 [.set d y] [0 ≤ m, m < len, cs[m.toNat * z]? = some y]
          | none => .fail
        | some k => ret1 [.set d (.agg ((cs.drop (m.toNat * z)).take k))] [0 ≤ m, m < len, m.toNat * z + k ≤ cs.length]
    | _ => .fail
def idxSP (b : UInt8) (d : Nat) (x i : Ar) : RM Rs :=
  (rdInt i).bind fun (_, m) => (rdC x).bind fun
    | .str s => ret1 [.set d (.int .u8 b.toNat)] [0 ≤ m, s[m.toNat]? = some b]
    | _ => .fail
def sliceP (d : Nat) (z : Nat) (x : Ar) (lo hi : Option Ar) : RM Rs :=
  (rdOpt lo).bind fun l => (rdOpt hi).bind fun h => (rdView x).bind fun
    | (.sl fr nn z' xs, ws) => if z' = z then
        ret1 (ws ++ [.set d (.sl fr (nn || !xs.isEmpty) z ((xs.take (h.getD xs.length).toNat).drop (l.getD 0).toNat))]) [0 ≤ l.getD 0, l.getD 0 ≤ h.getD xs.length, h.getD xs.length ≤ xs.length] else .fail
    | _ => .fail
def slstrP (d : Nat) (x : Ar) (lo hi : Option Ar) : RM Rs :=
  (rdOpt lo).bind fun l => (rdOpt hi).bind fun h => (rdC x).bind fun
    | .str s => ret1 [.set d (.str (s.extract (l.getD 0).toNat (h.getD s.size).toNat))] [0 ≤ l.getD 0, l.getD 0 ≤ h.getD s.size, h.getD s.size ≤ s.size]
    | _ => .fail
def slarrP (d : Nat) (ag : Bool) (len z : Nat) (x : Ar) (lo hi : Option Ar) : RM Rs :=
  (rdOpt lo).bind fun l => (rdOpt hi).bind fun h => (target x).bind fun
    | .at_ s j => .get s fun
      | .box cs => (RM.opt (mapOpt viewOf cs)).bind fun ys =>
        if (ag || (z == 1 && ys.all single)) = true ∧ j + len * z ≤ ys.length then
          ret1 [.mod s (.pv ys) [], .set d (.sl true true z (((semSlarr.elems ag z len (ys.drop j)).take (h.getD len).toNat).drop (l.getD 0).toNat))] [0 ≤ l.getD 0, l.getD 0 ≤ h.getD len, h.getD len ≤ len] else .fail
      | .pv ys =>
        if (ag || (z == 1 && ys.all single)) = true ∧ j + len * z ≤ ys.length then
          ret1 [.set d (.sl false true z (((semSlarr.elems ag z len (ys.drop j)).take (h.getD len).toNat).drop (l.getD 0).toNat))] [0 ≤ l.getD 0, l.getD 0 ≤ h.getD len, h.getD len ≤ len] else .fail
      | _ => .fail
    | _ => .fail
def binP (d : Nat) (op : BinOp) (x y : Ar) : RM Rs :=
  (rdC x).bind fun p => (rdC y).bind fun q => match p, q, op with
    | .int k a, .int k' b, .quo => if k = k' then ret1 [.set d (.int k (k.wrap (a.tdiv b)))] [b ≠ 0] else .fail
    | .int k a, .int k' b, .rem => if k = k' then ret1 [.set d (.int k (a.tmod b))] [b ≠ 0] else .fail
    | .int k a, .int _ b, .shl => ret1 [.set d (.int k (k.wrap (a * 2 ^ (min b.toNat k.bits))))] [0 ≤ b]
    | .int k a, .int _ b, .shr => ret1 [.set d (.int k (a.fdiv (2 ^ (min b.toNat k.bits))))] [0 ≤ b]
    | .str a, .str b, .add => ret1 [.set d (.str (a ++ b))] [a.size + b.size ≤ 9223372036854775807]
    | _, _, _ => .fail
def s2bP (d : Nat) (x : Ar) : RM Rs :=
  (rdC x).bind fun
    | .str s => ret1 [.set d (.own true 1 (bytesAV s))] [s.size ≤ 140737488355328]
    | _ => .fail
def b2sP (b : ByteArray) (d : Nat) (x : Ar) : RM Rs :=
  (rdC x).bind fun
    | .own _ z ys | .sl _ _ z ys | .dsl _ z ys => if z = 1 then ret1 [.set d (.str b)] [toBytes ys = some b] else .fail
    | _ => .fail
def appT (d : Nat) (z bytes : Nat) (x : Ar) (z' : Option Nat) (ys : List AV) (us : List Wr) (ps : List Prop) : RM Rs :=
  if z' = none ∨ z' = some z then (rd x).bind fun
      | (.nils, _) => ret1 (us ++ [.set d (.own true z ys)]) (ps ++ [ys.all (okElem z) = true, ys.length * bytes ≤ 140737488355328])
      | (.own f z2 xs, some k) => if k.1 ≠ d ∧ us.all (fun u => u.dst != k.1) = true ∧ z2 = z then
          (putKey k (if f then .junk else .sl true false z xs)).bind fun ws => ret1 (us ++ ws ++ [.set d (.own f z (xs ++ ys))]) (ps ++ [ys.all (okElem z) = true, (xs.length + ys.length) * bytes ≤ 140737488355328]) else .fail
      | _ => .fail
    else .fail
/-- 'f': no memory is reached from what is appended. -/
def appP (f : Bool) (d : Nat) (z bytes : Nat) (x y : Ar) : RM Rs :=
  (rd y).bind fun
    | (.own true z' ys, some k) => if f then appT d z bytes x (some z') ys [] [ys.all flat = true] else (putKey k (.own false z' (undeep.uL ys))).bind fun ws => appT d z bytes x (some z') (undeep.uL ys) ws [ys.all flat = false]
    | (.str s, _) => appT d z bytes x (some 1) (bytesAV s) [] []
    | (.nils, _) => appT d z bytes x none [] [] []
    | _ => (rdView y).bind fun
      | (.sl _ _ z' ys, ws) => appT d z bytes x (some z') ys ws []
      | _ => .fail
def callP (P : Program) (sh : Bool) (ys' : List AV) (r : AV) (d : Nat) (f : FuncId) (xs : List Ar) : RM Rs :=
  (rdArgs xs).bind fun (ys, ws) =>
    if sh then (RM.opt ws).bind fun ws => .ret ⟨ws ++ [.set d r], [FnW P f (stale.sL ys) ys' r, freshA r = false], [(f, stale.sL ys, r)]⟩
    else .ret ⟨[.set d (deepR r)], [FnW P f (stale.sL ys) ys' r, freshA r = true], [(f, stale.sL ys, r)]⟩
def semP (P : Program) (n : Nat) (ans : Option An) (d : Option Nat) (i : I) : RM Rs :=
  match ans, i, d with
  | none, .call _ _, _ => .fail
  | none, i, d => plain (semI (fun _ _ _ => none) n d i)
  | some (.c ys r), .call f xs, some d => callP P false ys r d f xs
  | some (.cs ys r), .call f xs, some d => callP P true ys r d f xs
  | some (.v y), .load m a, some d => loadP y d m a
  | some .q, .store m a x, none => storeP m a x
  | some .q, .idxA z x j, some d => idxAP none d z x j
  | some (.v y), .idxA z x j, some d => idxAP (some y) d z x j
  | some .q, .idxP len z x j, some d => idxPP d len z x j
  | some .q, .idx len z m x j, some d => idxP' none d len z m x j
  | some (.v y), .idx len z m x j, some d => idxP' (some y) d len z m x j
  | some (.y b), .idxS x j, some d => idxSP b d x j
  | some .q, .slice z x lo hi, some d => sliceP d z x lo hi
  | some .q, .slstr x lo hi, some d => slstrP d x lo hi
  | some .q, .slarr g len z x lo hi, some d => slarrP d g len z x lo hi
  | some .q, .bin op x y, some d => binP d op x y
  | some .q, .s2b x, some d => s2bP d x
  | some (.s b), .b2s x, some d => b2sP b d x
  | some .q, .appd z b x y, some d => appP true d z b x y
  | some .q2, .appd z b x y, some d => appP false d z b x y
  | _, _, _ => .fail

/-! ### These are what the instructions do -/
def Sat (E : Fns) (x : Rs) : Prop := AllP x.ps ∧ ∀ c ∈ x.cs, E c.1 c.2.1 [] = some (c.2.2, [])
def CallsOk (P : Program) (x : Rs) : Prop := AllP x.ps → ∀ c ∈ x.cs, FnOk P c.1 c.2.1 c.2.2
def Rf (P : Program) (m' : RM Rs) (m : Fns → RM (List Wr)) : Prop :=
  (∀ U σ x, m'.run U σ = some x → CallsOk P x ∧ ∀ E, Sat E x → (m E).run U σ = some x.ws) ∧
  (∀ σ x l, m'.runL σ = some (x, l) → CallsOk P x ∧ ∀ E, Sat E x → (m E).runL σ = some (x.ws, l))
theorem Rf.fail {P : Program} {m : Fns → RM (List Wr)} : Rf P .fail m := ⟨fun _ _ _ h => (by cases h), fun _ _ _ h => (by cases h)⟩
theorem Rf.ret {P : Program} {x : Rs} {m : Fns → RM (List Wr)} (h1 : CallsOk P x) (h2 : ∀ E, Sat E x → m E = .ret x.ws) : Rf P (.ret x) m := by
  refine ⟨fun U σ x h => ?_, fun σ x l h => ?_⟩
  · simp only [RM.run, Option.some.injEq] at h
    subst h
    exact ⟨h1, fun E hs => by rw [h2 E hs]; rfl⟩
  · simp only [RM.runL, Option.some.injEq, Prod.mk.injEq] at h
    obtain ⟨rfl, rfl⟩ := h
    exact ⟨h1, fun E hs => by rw [h2 E hs]; rfl⟩
theorem Rf.get {P : Program} {s : Nat} {k' : AV → RM Rs} {m : Fns → RM (List Wr)} {k : Fns → AV → RM (List Wr)} (e : ∀ E, m E = .get s (k E)) (h : ∀ x, Rf P (k' x) fun E => k E x) : Rf P (.get s k') m := by
  refine ⟨fun U σ x hr => ?_, fun σ x l hr => ?_⟩
  · simp only [RM.run] at hr
    split at hr
    · cases hr
    · rename_i hu
      split at hr
      · rename_i y hy
        obtain ⟨h1, h2⟩ := (h y).1 U σ x hr
        refine ⟨h1, fun E hs => ?_⟩
        rw [e E]
        simp only [RM.run, hu, if_false, hy]
        exact h2 E hs
      · cases hr
  · simp only [RM.runL] at hr
    split at hr
    · rename_i y hy
      split at hr
      · rename_i r l' hk
        simp only [Option.some.injEq, Prod.mk.injEq] at hr
        obtain ⟨rfl, rfl⟩ := hr
        obtain ⟨h1, h2⟩ := (h y).2 σ _ _ hk
        refine ⟨h1, fun E hs => ?_⟩
        rw [e E]
        simp only [RM.runL, hy, h2 E hs]
      · cases hr
    · cases hr
/-- What is asked at every end of it. -/
def Asks (p : Prop) (m' : RM Rs) : Prop := (∀ U σ x, m'.run U σ = some x → AllP x.ps → p) ∧ ∀ σ x l, m'.runL σ = some (x, l) → AllP x.ps → p
theorem Rf.cond {P : Program} {p : Prop} {m' : RM Rs} {m : Fns → RM (List Wr)} (h : p → Rf P m' m) (ha : Asks p m') : Rf P m' m := by
  refine ⟨fun U σ x hr => ⟨fun hp => ((h (ha.1 U σ x hr hp)).1 U σ x hr).1 hp, fun E hs => ((h (ha.1 U σ x hr hs.1)).1 U σ x hr).2 E hs⟩, fun σ x l hr => ⟨fun hp => ((h (ha.2 σ x l hr hp)).2 σ x l hr).1 hp, fun E hs => ((h (ha.2 σ x l hr hs.1)).2 σ x l hr).2 E hs⟩⟩
theorem Asks.fail {p : Prop} : Asks p .fail := ⟨fun _ _ _ h => (by cases h), fun _ _ _ h => (by cases h)⟩
theorem Asks.ret {p : Prop} {x : Rs} (h : AllP x.ps → p) : Asks p (.ret x) := by
  refine ⟨fun U σ y hr => ?_, fun σ y l hr => ?_⟩
  · simp only [RM.run, Option.some.injEq] at hr
    subst hr
    exact h
  · simp only [RM.runL, Option.some.injEq, Prod.mk.injEq] at hr
    obtain ⟨rfl, rfl⟩ := hr
    exact h
theorem Asks.get {p : Prop} {s : Nat} {k' : AV → RM Rs} (h : ∀ x, Asks p (k' x)) : Asks p (.get s k') := by
  refine ⟨fun U σ x hr => ?_, fun σ x l hr => ?_⟩
  · simp only [RM.run] at hr
    split at hr
    · cases hr
    · split at hr
      · exact (h _).1 U σ x hr
      · cases hr
  · simp only [RM.runL] at hr
    split at hr
    · split at hr
      · rename_i r l' hk
        simp only [Option.some.injEq, Prod.mk.injEq] at hr
        obtain ⟨rfl, rfl⟩ := hr
        exact (h _).2 σ _ _ hk
      · cases hr
    · cases hr
theorem Asks.bind {p : Prop} {α : Type} {f' : α → RM Rs} : ∀ (m : RM α), (∀ a, Asks p (f' a)) → Asks p (m.bind f')
  | .ret a, h => h a
  | .fail, h => .fail
  | .get s k, h => .get fun x => Asks.bind (k x) h
theorem RM.bind_assoc {α β δ : Type} : ∀ (m : RM α) (f : α → RM β) (g : β → RM δ), (m.bind f).bind g = m.bind fun a => (f a).bind g
  | .ret a, f, g => rfl
  | .fail, f, g => rfl
  | .get s k, f, g => by simp only [RM.bind]; congr; funext x; exact RM.bind_assoc (k x) f g
theorem Rf.bind {P : Program} {α : Type} {f' : α → RM Rs} {f : Fns → α → RM (List Wr)} : ∀ (m : RM α), (∀ a, Rf P (f' a) fun E => f E a) → Rf P (m.bind f') fun E => m.bind (f E)
  | .ret a, h => h a
  | .fail, h => .fail
  | .get s k, h => .get (fun E => rfl) fun x => Rf.bind (k x) h
theorem Rf.ret1 {P : Program} {ws : List Wr} {ps : List Prop} {m : Fns → RM (List Wr)} (h : AllP ps → ∀ E, m E = .ret ws) : Rf P (Go.Ev.ret1 ws ps) m :=
  .ret (fun _ c hc => by cases hc) fun E hs => h hs.1 E
theorem RM.bind_ret {α : Type} : ∀ (m : RM α), m.bind RM.ret = m
  | .ret a => rfl
  | .fail => rfl
  | .get s k => by simp only [RM.bind]; congr; funext x; exact RM.bind_ret (k x)
theorem Rf.bindP {P : Program} {α : Type} {f' : α → RM Rs} {m : Fns → RM (List Wr)} {o : Option α} (h : ∀ a, o = some a → Rf P (f' a) m) : Rf P ((RM.opt o).bind f') m := by
  cases o with
  | none => exact .fail
  | some a => exact h a rfl
theorem Rf.plain {P : Program} (m : RM (List Wr)) : Rf P (Go.Ev.plain m) fun _ => m := by
  have := Rf.bind (P := P) (f' := fun ws => Go.Ev.ret1 ws []) (f := fun _ => RM.ret) m fun ws => Rf.ret1 fun _ _ => rfl
  simp only [RM.bind_ret] at this
  exact this

section
variable {P : Program} {n d : Nat}
theorem Rf.at {m' : RM Rs} {m : RM (List Wr)} (h : Rf P m' fun _ => m) : Rf P m' fun _ => m := h
theorem Rf.loadP {y : AV} {m : Option Nat} {a : Ar} : Rf P (Go.Ev.loadP y d m a) fun _ => semLoad d m a := by
  unfold Go.Ev.loadP semLoad
  refine Rf.bind _ fun t => ?_
  cases t with
  | at_ s j =>
    refine .get (fun _ => rfl) fun x => ?_
    cases x with
    | box cs =>
      cases m with
      | none =>
        cases y with
        | own f z xs =>
          dsimp only
          split
          · exact .fail
          · rename_i hs
            exact Rf.ret1 fun ⟨h, _⟩ E => by simp only [h, if_neg hs]
        | _ =>
          dsimp only
          refine Rf.bindP fun y' hy => ?_
          exact Rf.ret1 fun ⟨h, _⟩ E => by simp only [h]; simp only [hy, RM.opt, RM.bind]
      | some k => exact .fail
    | own f z xs =>
      cases f with
      | false => exact .fail
      | true =>
        cases m with
        | none =>
          dsimp only
          split
          · rename_i hf
            exact Rf.ret1 fun ⟨h, _⟩ E => by simp only [h, hf, if_true]
          · rename_i hf
            split
            · exact .fail
            · rename_i hs
              exact Rf.ret1 fun ⟨h, _⟩ E => by simp only [h, hf, if_neg hs]; rfl
        | some k =>
          dsimp only
          split
          · rename_i hc
            exact Rf.ret1 fun ⟨h1, h2, _⟩ E => by simp only [h2]; rw [if_pos ⟨h1, hc.1, hc.2⟩]
          · exact .fail
    | pv cs =>
      cases m with
      | none => exact Rf.ret1 fun ⟨h, _⟩ E => by simp only [h]
      | some k => exact .fail
    | _ => exact .fail
  | ro cs =>
    cases cs with
    | nil => exact .fail
    | cons x cs =>
      cases m with
      | none => exact Rf.ret1 fun ⟨h, _⟩ E => by subst h; rfl
      | some k => exact .fail
  | _ => exact .fail
end
end Go.Ev

/-! text E39 -/
set_option linter.unusedVariables false
set_option linter.unusedSimpArgs false
namespace Go.Ev
open Go.RowKit

section
variable {P : Program} {n d : Nat}
theorem Rf.storeP {m : Nat} {a x : Ar} : Rf P (Go.Ev.storeP m a x) fun _ => semStore m a x := by
  unfold Go.Ev.storeP semStore
  refine Rf.bind _ fun t => ?_
  cases t with
  | at_ s j =>
    refine Rf.bind _ fun p => ?_
    have key : ∀ (y : AV) (r : Option Key), (∀ f z xs k, (y, r) ≠ (AV.own f z xs, some k)) → Rf P ((RM.opt (viewOf y)).bind fun y => .get s fun
          | .box cs => if (cellsOf y).length = m ∧ (cellsOf y).all okCell = true then Go.Ev.ret1 [.mod s (.box (splice cs j (cellsOf y))) (List.range' (j + 1) m)] [j + m ≤ cs.length] else .fail
          | .own true 1 xs => if m = 1 ∧ okCell y then Go.Ev.ret1 [.mod s (.own true 1 (xs.set j y)) []] [j < xs.length] else .fail
          | _ => .fail) fun _ => (RM.opt (viewOf y)).bind fun y => .get s fun
          | .box cs => if (cellsOf y).length = m ∧ j + m ≤ cs.length ∧ (cellsOf y).all okCell = true then .ret [.mod s (.box (splice cs j (cellsOf y))) (List.range' (j + 1) m)] else .fail
          | .own true 1 xs => if m = 1 ∧ j < xs.length ∧ okCell y then .ret [.mod s (.own true 1 (xs.set j y)) []] else .fail
          | _ => .fail := by
      intro y r hy
      refine Rf.bind _ fun y' => ?_
      refine .get (fun _ => rfl) fun z => ?_
      cases z with
      | box cs =>
        try dsimp only
        split
        · rename_i hc
          exact Rf.ret1 fun ⟨h, _⟩ E => by rw [if_pos ⟨hc.1, h, hc.2⟩]
        · exact .fail
      | own f z xs =>
        cases f with
        | false => exact .fail
        | true =>
          match z with
          | 0 => exact .fail
          | 1 =>
            show Rf P (if m = 1 ∧ okCell y' = true then Go.Ev.ret1 [.mod s (.own true 1 (xs.set j y')) []] [j < xs.length] else .fail) fun _ => (if m = 1 ∧ j < xs.length ∧ okCell y' = true then .ret [.mod s (.own true 1 (xs.set j y')) []] else .fail)
            split
            · rename_i hc
              exact Rf.ret1 fun ⟨h, _⟩ E => by rw [if_pos ⟨hc.1, h, hc.2⟩]
            · exact .fail
          | z + 2 => exact .fail
      | _ => exact .fail
    obtain ⟨y, r⟩ := p
    cases y with
    | own f z xs =>
      cases r with
      | some k => exact .fail
      | none => exact key _ none (by simp)
    | _ => exact key _ r (by simp)
  | _ => exact .fail
theorem Rf.idxAP {y : Option AV} {z : Nat} {x i : Ar} : Rf P (Go.Ev.idxAP y d z x i) fun _ => semIdxA d z x i := by
  unfold Go.Ev.idxAP semIdxA
  refine Rf.bind _ fun ⟨k, m⟩ => ?_
  refine Rf.bind _ fun p => ?_
  have len : ∀ {xs : List AV} {y : AV}, 0 ≤ m → xs[m.toNat]? = some y → m < xs.length := by
    intro xs y h0 h
    have := (List.getElem?_eq_some_iff.1 h).1
    omega
  have key : Rf P (match y with
      | some y => (rdView x).bind fun
        | (.sl _ _ z' xs, ws) => if z' = z then Go.Ev.ret1 (ws ++ [.set d (.pv (cellsOf y))]) [0 ≤ m, xs[m.toNat]? = some y] else .fail
        | _ => .fail
      | none => .fail) fun _ => (rdView x).bind fun
      | (.sl _ _ z' xs, ws) => if z' = z ∧ 0 ≤ m ∧ m < xs.length then match xs[m.toNat]? with
          | some y => .ret (ws ++ [.set d (.pv (cellsOf y))])
          | none => .fail
        else .fail
      | _ => .fail := by
    cases y with
    | none => exact .fail
    | some y =>
      refine Rf.bind _ fun q => ?_
      obtain ⟨u, ws⟩ := q
      cases u with
      | sl fr nn z' xs =>
        try dsimp only
        split
        · rename_i hz
          exact Rf.ret1 fun ⟨h0, h1, _⟩ E => by rw [if_pos ⟨hz, h0, len h0 h1⟩, h1]
        · exact .fail
      | _ => exact .fail
  obtain ⟨u, r⟩ := p
  cases u with
  | own f z' xs =>
    cases f with
    | false => exact key
    | true =>
      match r with
      | none => exact key
      | some (s, 0) =>
        show Rf P (if z' = z ∧ 0 < z ∧ s ≠ d then Go.Ev.ret1 [.set d (.adr s (m.toNat * z))] [0 ≤ m, m < xs.length] else .fail) fun _ => (if z' = z ∧ 0 < z ∧ 0 ≤ m ∧ m < xs.length ∧ s ≠ d then .ret [.set d (.adr s (m.toNat * z))] else .fail)
        split
        · rename_i hc
          exact Rf.ret1 fun ⟨h0, h1, _⟩ E => by rw [if_pos ⟨hc.1, hc.2.1, h0, h1, hc.2.2⟩]
        · exact .fail
      | some (s, j + 1) => exact key
  | nst s j v =>
    cases v with
    | dsl nn z' xs =>
      cases y with
      | none => exact .fail
      | some y =>
        try dsimp only
        split
        · rename_i hc
          exact Rf.ret1 fun ⟨h0, h1, _⟩ E => by rw [if_pos ⟨hc.1, hc.2.1, h0, len h0 h1, hc.2.2⟩, h1]
        · exact .fail
    | _ => exact key
  | _ => exact key
theorem Rf.idxPP {len z : Nat} {x i : Ar} : Rf P (Go.Ev.idxPP d len z x i) fun _ => semIdxP d len z x i := by
  unfold Go.Ev.idxPP semIdxP
  refine Rf.bind _ fun ⟨k, m⟩ => ?_
  refine Rf.bind _ fun t => ?_
  cases t with
  | at_ s j =>
    try dsimp only
    split
    · rename_i hs
      exact Rf.ret1 fun ⟨h0, h1, _⟩ E => by rw [if_pos ⟨h0, h1, hs⟩]
    · exact .fail
  | ro cs => exact Rf.ret1 fun ⟨h0, h1, h2, _⟩ E => by simp only; rw [if_pos ⟨h0, h1, h2⟩]
  | _ => exact .fail
theorem Rf.idxP' {y : Option AV} {len z : Nat} {q : Option Nat} {x i : Ar} : Rf P (Go.Ev.idxP' y d len z q x i) fun _ => semIdx d len z q x i := by
  unfold Go.Ev.idxP' semIdx
  refine Rf.bind _ fun ⟨k, m⟩ => ?_
  refine Rf.bind _ fun t => ?_
  cases t with
  | agg cs =>
    cases q with
    | none =>
      cases y with
      | none => exact .fail
      | some y => exact Rf.ret1 fun ⟨h0, h1, h2, _⟩ E => by simp only [h2]; rw [if_pos ⟨h0, h1⟩]
    | some k => exact Rf.ret1 fun ⟨h0, h1, h2, _⟩ E => by simp only; rw [if_pos ⟨h0, h1⟩, if_pos h2]
  | _ => exact .fail
theorem Rf.idxSP {b : UInt8} {x i : Ar} : Rf P (Go.Ev.idxSP b d x i) fun _ => semIdxS d x i := by
  unfold Go.Ev.idxSP semIdxS
  refine Rf.bind _ fun ⟨k, m⟩ => ?_
  refine Rf.bind _ fun t => ?_
  cases t with
  | str s => exact Rf.ret1 fun ⟨h0, h1, _⟩ E => by simp only [h1]; rw [if_pos h0]
  | _ => exact .fail
theorem Rf.sliceP {z : Nat} {x : Ar} {lo hi : Option Ar} : Rf P (Go.Ev.sliceP d z x lo hi) fun _ => semSlice d z x lo hi := by
  unfold Go.Ev.sliceP semSlice
  refine Rf.bind _ fun l => Rf.bind _ fun h => Rf.bind _ fun p => ?_
  obtain ⟨u, ws⟩ := p
  cases u with
  | sl fr nn z' xs =>
    try dsimp only
    split
    · rename_i hz
      exact Rf.ret1 fun ⟨h0, h1, h2, _⟩ E => by rw [if_pos ⟨hz, h0, h1, h2⟩]
    · exact .fail
  | _ => exact .fail
theorem Rf.slstrP {x : Ar} {lo hi : Option Ar} : Rf P (Go.Ev.slstrP d x lo hi) fun _ => semSlstr d x lo hi := by
  unfold Go.Ev.slstrP semSlstr
  refine Rf.bind _ fun l => Rf.bind _ fun h => Rf.bind _ fun u => ?_
  cases u with
  | str s => exact Rf.ret1 fun ⟨h0, h1, h2, _⟩ E => by simp only; rw [if_pos ⟨h0, h1, h2⟩]
  | _ => exact .fail
theorem Rf.slarrP {ag : Bool} {len z : Nat} {x : Ar} {lo hi : Option Ar} : Rf P (Go.Ev.slarrP d ag len z x lo hi) fun _ => semSlarr d ag len z x lo hi := by
  unfold Go.Ev.slarrP semSlarr
  refine Rf.bind _ fun l => Rf.bind _ fun h => Rf.bind _ fun t => ?_
  cases t with
  | at_ s j =>
    refine .get (fun _ => rfl) fun u => ?_
    cases u with
    | box cs =>
      refine Rf.bind _ fun ys => ?_
      try dsimp only
      split
      · rename_i hc
        exact Rf.ret1 fun ⟨h0, h1, h2, _⟩ E => by rw [if_pos ⟨hc.1, hc.2, h0, h1, h2⟩]
      · exact .fail
    | pv ys =>
      try dsimp only
      split
      · rename_i hc
        exact Rf.ret1 fun ⟨h0, h1, h2, _⟩ E => by rw [if_pos ⟨hc.1, hc.2, h0, h1, h2⟩]
      · exact .fail
    | _ => exact .fail
  | _ => exact .fail
theorem Rf.binP {op : BinOp} {x y : Ar} : Rf P (Go.Ev.binP d op x y) fun _ => semBin d op x y := by
  unfold Go.Ev.binP semBin
  refine Rf.bind _ fun p => Rf.bind _ fun q => ?_
  cases p with
  | int k a =>
    cases q with
    | int k' b =>
      cases op <;> first | exact .fail | skip
      · dsimp only
        split
        · rename_i hk
          refine Rf.ret1 fun ⟨h, _⟩ E => ?_
          subst hk
          simp [intBin, h, RM.opt, RM.bind]
        · exact .fail
      · dsimp only
        split
        · rename_i hk
          refine Rf.ret1 fun ⟨h, _⟩ E => ?_
          subst hk
          simp [intBin, h, RM.opt, RM.bind]
        · exact .fail
      · refine Rf.ret1 fun ⟨h, _⟩ E => ?_
        have : ¬ b < 0 := by omega
        simp [shiftBin, this, RM.opt, RM.bind]
      · refine Rf.ret1 fun ⟨h, _⟩ E => ?_
        have : ¬ b < 0 := by omega
        simp [shiftBin, this, RM.opt, RM.bind]
    | _ => exact .fail
  | str a =>
    cases q with
    | str b =>
      cases op <;> first | exact .fail | skip
      refine Rf.ret1 fun ⟨h, _⟩ E => ?_
      simp only [strBin, if_pos h, RM.opt, RM.bind]
    | _ => exact .fail
  | _ => exact .fail
theorem Rf.s2bP {x : Ar} : Rf P (Go.Ev.s2bP d x) fun _ => semS2b d x := by
  unfold Go.Ev.s2bP semS2b
  refine Rf.bind _ fun u => ?_
  cases u with
  | str s => exact Rf.ret1 fun ⟨h, _⟩ E => by simp only; rw [if_pos h]
  | _ => exact .fail
theorem Rf.b2sP {b : ByteArray} {x : Ar} : Rf P (Go.Ev.b2sP b d x) fun _ => semB2s d x := by
  unfold Go.Ev.b2sP semB2s
  refine Rf.bind _ fun u => ?_
  cases u with
  | own f z ys =>
    try dsimp only
    split
    · exact Rf.ret1 fun ⟨h, _⟩ E => by simp only [h, RM.opt, RM.bind]
    · exact .fail
  | sl fr nn z ys =>
    try dsimp only
    split
    · exact Rf.ret1 fun ⟨h, _⟩ E => by simp only [h, RM.opt, RM.bind]
    · exact .fail
  | dsl nn z ys =>
    try dsimp only
    split
    · exact Rf.ret1 fun ⟨h, _⟩ E => by simp only [h, RM.opt, RM.bind]
    · exact .fail
  | _ => exact .fail
end
end Go.Ev

/-! text E40 -/
set_option linter.unusedVariables false
set_option linter.unusedSimpArgs false
namespace Go.Ev
open Go.RowKit

section
variable {P : Program} {n d : Nat}
def appT0 (d : Nat) (z bytes : Nat) (x : Ar) (p : (Option Nat × List AV) × List Wr) : RM (List Wr) :=
  if (p.1.1 = none ∨ p.1.1 = some z) ∧ p.1.2.all (okElem z) = true then (rd x).bind fun
      | (.nils, _) => if p.1.2.length * bytes ≤ 140737488355328 then .ret (p.2 ++ [.set d (.own true z p.1.2)]) else .fail
      | (.own f z2 xs, some k) => if k.1 ≠ d ∧ p.2.all (fun u => u.dst != k.1) = true ∧ z2 = z ∧ (xs.length + p.1.2.length) * bytes ≤ 140737488355328 then
          (putKey k (if f then .junk else .sl true false z xs)).bind fun ws => .ret (p.2 ++ ws ++ [.set d (.own f z (xs ++ p.1.2))]) else .fail
      | _ => .fail
    else .fail
theorem semApp_eq {z bytes : Nat} {x y : Ar} : semApp d z bytes x y = (rdElems y).bind (appT0 d z bytes x) := rfl
theorem Asks.appT {p : Prop} {z bytes : Nat} {x : Ar} {z' : Option Nat} {ys : List AV} {us : List Wr} {ps : List Prop} (h : AllP ps → p) : Asks p (Go.Ev.appT d z bytes x z' ys us ps) := by
  unfold Go.Ev.appT
  split
  · refine Asks.bind _ fun q => ?_
    obtain ⟨u, r⟩ := q
    cases u with
    | nils => exact Asks.ret fun hp => h (AllP_append.1 hp).1
    | own f z2 xs =>
      cases r with
      | none => exact .fail
      | some k =>
        try dsimp only
        split
        · exact Asks.bind _ fun ws => Asks.ret fun hp => h (AllP_append.1 hp).1
        · exact .fail
    | _ => exact .fail
  · exact .fail
theorem Rf.appT {z bytes : Nat} {x : Ar} {z' : Option Nat} {ys : List AV} {us : List Wr} {ps : List Prop} : Rf P (Go.Ev.appT d z bytes x z' ys us ps) fun _ => appT0 d z bytes x ((z', ys), us) := by
  refine Rf.cond (p := ys.all (okElem z) = true) (fun hall => ?_) ?_
  · unfold Go.Ev.appT appT0
    simp only
    by_cases hz : z' = none ∨ z' = some z
    · rw [if_pos hz, if_pos ⟨hz, hall⟩]
      refine Rf.bind _ fun q => ?_
      obtain ⟨u, r⟩ := q
      cases u with
      | nils => exact Rf.ret1 fun h E => by rw [if_pos (AllP_append.1 h).2.2.1]
      | own f z2 xs =>
        cases r with
        | none => exact .fail
        | some k =>
          try dsimp only
          by_cases hc : k.1 ≠ d ∧ us.all (fun u => u.dst != k.1) = true ∧ z2 = z
          · rw [if_pos hc]
            refine Rf.cond (p := (xs.length + ys.length) * bytes ≤ 140737488355328) (fun hl => ?_) (Asks.bind _ fun ws => Asks.ret fun hp => (AllP_append.1 hp).2.2.1)
            rw [if_pos (c := k.1 ≠ d ∧ us.all (fun u => u.dst != k.1) = true ∧ z2 = z ∧ (xs.length + ys.length) * bytes ≤ 140737488355328) ⟨hc.1, hc.2.1, hc.2.2, hl⟩]
            exact Rf.bind _ fun ws => Rf.ret1 fun _ _ => rfl
          · rw [if_neg hc]
            exact .fail
      | _ => exact .fail
    · rw [if_neg hz]
      exact .fail
  · unfold Go.Ev.appT
    split
    · refine Asks.bind _ fun q => ?_
      obtain ⟨u, r⟩ := q
      cases u with
      | nils => exact Asks.ret fun hp => (AllP_append.1 hp).2.1
      | own f z2 xs =>
        cases r with
        | none => exact .fail
        | some k =>
          try dsimp only
          split
          · exact Asks.bind _ fun ws => Asks.ret fun hp => (AllP_append.1 hp).2.1
          · exact .fail
      | _ => exact .fail
    · exact .fail
theorem Rf.appP {f : Bool} {z bytes : Nat} {x y : Ar} : Rf P (Go.Ev.appP f d z bytes x y) fun _ => semApp d z bytes x y := by
  rw [semApp_eq]
  unfold Go.Ev.appP rdElems
  rw [RM.bind_assoc]
  refine Rf.bind _ fun q => ?_
  have key : Rf P ((rdView y).bind fun
      | (.sl _ _ z' ys, ws) => Go.Ev.appT d z bytes x (some z') ys ws []
      | _ => .fail) fun _ => ((rdView y).bind fun
      | (.sl _ _ z ys, ws) => .ret ((some z, ys), ws)
      | _ => .fail).bind (appT0 d z bytes x) := by
    rw [RM.bind_assoc]
    refine Rf.bind _ fun p => ?_
    obtain ⟨u, ws⟩ := p
    cases u with
    | sl fr nn z' ys => exact Rf.appT
    | _ => exact .fail
  obtain ⟨u, r⟩ := q
  cases u with
  | own g z' ys =>
    cases g with
    | false => exact key
    | true =>
      cases r with
      | none => exact key
      | some k =>
        cases f with
        | true =>
          refine Rf.cond (p := ys.all flat = true) (fun hf => ?_) (Asks.appT fun h => h.1)
          simp only [hf, if_true]
          exact Rf.appT
        | false =>
          refine Rf.cond (p := ys.all flat = false) (fun hf => ?_) (Asks.bind _ fun ws => Asks.appT fun h => h.1)
          simp only [hf, Bool.false_eq_true, if_false]
          rw [RM.bind_assoc]
          exact Rf.bind _ fun ws => Rf.appT
  | str s => exact Rf.appT
  | nils => exact Rf.appT
  | _ => exact key
theorem Rf.callP {sh : Bool} {ys' : List AV} {r : AV} {f : FuncId} {xs : List Ar} : Rf P (Go.Ev.callP P sh ys' r d f xs) fun E => semCall E n d f xs := by
  unfold Go.Ev.callP semCall
  refine Rf.bind _ fun p => ?_
  obtain ⟨ys, ws⟩ := p
  have ok : ∀ (ps : List Prop) (ws : List Wr), CallsOk P ⟨ws, FnW P f (stale.sL ys) ys' r :: ps, [(f, stale.sL ys, r)]⟩ := by
    intro ps ws hp c hc
    simp only [List.mem_singleton] at hc
    subst hc
    exact hp.1.ok
  cases sh with
  | true =>
    simp only [if_true]
    cases ws with
    | none => exact .fail
    | some ws =>
      refine .ret (ok _ _) fun E hs => ?_
      have he := hs.2 _ (List.mem_singleton.2 rfl)
      have hf : freshA r = false := hs.1.2.1
      simp only at he
      simp only [he, hf, Bool.false_eq_true, if_false, RM.opt, RM.bind]
  | false =>
    simp only [Bool.false_eq_true, if_false]
    refine .ret (ok _ _) fun E hs => ?_
    have he := hs.2 _ (List.mem_singleton.2 rfl)
    have hf : freshA r = true := hs.1.2.1
    simp only at he
    simp only [he, hf, if_true]

/-- Each instruction, with any answer. -/
theorem Rf.semP {ans : Option An} {d : Option Nat} {i : I} : Rf P (Go.Ev.semP P n ans d i) fun E => semI E n d i := by
  have noCall : (∀ f xs, i ≠ .call f xs) → ∀ E E' : Fns, semI E n d i = semI E' n d i := by
    intro h E E'
    cases i with
    | call f xs => exact absurd rfl (h f xs)
    | _ => cases d <;> rfl
  cases ans with
  | none =>
    have : (∃ f xs, i = .call f xs) ∨ ∀ f xs, i ≠ .call f xs := by
      cases i <;> first | exact .inl ⟨_, _, rfl⟩ | exact .inr fun _ _ h => nomatch h
    rcases this with ⟨f, xs, rfl⟩ | h
    · exact .fail
    · have e : Go.Ev.semP P n none d i = Go.Ev.plain (semI (fun _ _ _ => none) n d i) := by
        cases i with
        | call f xs => exact absurd rfl (h f xs)
        | _ => rfl
      rw [e]
      have := Rf.plain (P := P) (semI (fun _ _ _ => none) n d i)
      refine ⟨fun U σ x hr => ⟨(this.1 U σ x hr).1, fun E hs => ?_⟩, fun σ x l hr => ⟨(this.2 σ x l hr).1, fun E hs => ?_⟩⟩
      · show (semI E n d i).run U σ = _
        rw [noCall h E fun _ _ _ => none]; exact (this.1 U σ x hr).2 E hs
      · show (semI E n d i).runL σ = _
        rw [noCall h E fun _ _ _ => none]; exact (this.2 σ x l hr).2 E hs
  | some a =>
    cases a <;> cases i <;> cases d <;> first
      | exact .fail
      | exact Rf.loadP
      | exact Rf.storeP
      | exact Rf.idxAP (y := some _)
      | exact Rf.idxAP (y := none)
      | exact Rf.idxPP
      | exact Rf.idxP' (y := some _)
      | exact Rf.idxP' (y := none)
      | exact Rf.idxSP
      | exact Rf.sliceP
      | exact Rf.slstrP
      | exact Rf.slarrP
      | exact Rf.binP
      | exact Rf.s2bP
      | exact Rf.b2sP
      | exact Rf.appP
      | exact Rf.callP (n := n)
end
end Go.Ev

/-! text E41 -/
set_option linter.unusedVariables false
set_option linter.unusedSimpArgs false
namespace Go.Ev
open Go.RowKit

/-! ### Ways -/
abbrev As := List (Nat × An)
/-- Where an operation's answer stands. -/
def keyO (o : O1) : Nat :=
  match o.d, o.i with
  | some d, _ => d
  | none, .store _ (.tmp a) _ => a
  | none, _ => 0
def isRead : An → Bool
  | .v _ | .y _ | .s _ | .q | .q2 | .c _ _ | .cs _ _ => true
  | _ => false
def takeA (k : Nat) : As → Option An × As
  | [] => (none, [])
  | (k', a) :: al => if k' = k ∧ isRead a = true then (some a, al) else (none, (k', a) :: al)
/-- What is set is told in other words. -/
def ovr1 (x : AV) : An → Option (AV × Prop)
  | .b v => match x with
    | .bool y => some (.bool v, y = v)
    | _ => none
  | .i m => match x with
    | .int k y => some (.int k m, y = m)
    | _ => none
  | .n z => some (z, x = z)
  | _ => none
def Wr.put (z : AV) : Wr → Wr
  | .set d _ => .set d z
  | .mod s _ ks => .mod s z ks
def ovr : List Wr → As → List Wr × List Prop × As
  | [], al => ([], [], al)
  | w :: ws, [] => (w :: ws, [], [])
  | w :: ws, (k, a) :: al => if k = w.dst then match ovr1 w.val a with
      | some (z, p) => ((w.put z :: (ovr ws al).1), p :: (ovr ws al).2.1, (ovr ws al).2.2)
      | none => (w :: (ovr ws ((k, a) :: al)).1, (ovr ws ((k, a) :: al)).2.1, (ovr ws ((k, a) :: al)).2.2)
    else (w :: (ovr ws ((k, a) :: al)).1, (ovr ws ((k, a) :: al)).2.1, (ovr ws ((k, a) :: al)).2.2)
theorem ovr1_eq {x : AV} {a : An} {z : AV} {p : Prop} (h : ovr1 x a = some (z, p)) (hp : p) : z = x := by
  cases a with
  | b v =>
    cases x with
    | bool y =>
      simp only [ovr1, Option.some.injEq, Prod.mk.injEq] at h
      obtain ⟨rfl, rfl⟩ := h
      rw [hp]
    | _ => cases h
  | i v =>
    cases x with
    | int k y =>
      simp only [ovr1, Option.some.injEq, Prod.mk.injEq] at h
      obtain ⟨rfl, rfl⟩ := h
      rw [hp]
    | _ => cases h
  | n v =>
    simp only [ovr1, Option.some.injEq, Prod.mk.injEq] at h
    obtain ⟨rfl, rfl⟩ := h
    exact hp.symm
  | _ => cases h
theorem Wr.put_self (w : Wr) : w.put w.val = w := by cases w <;> rfl
theorem ovr_eq : ∀ (ws : List Wr) (al : As), AllP (ovr ws al).2.1 → (ovr ws al).1 = ws
  | [], al, _ => rfl
  | w :: ws, [], _ => rfl
  | w :: ws, (k, a) :: al, h => by
    unfold ovr at h ⊢
    split
    · rename_i hk
      rw [if_pos hk] at h
      cases ho : ovr1 w.val a with
      | none =>
        simp only [ho] at h ⊢
        rw [ovr_eq ws _ h]
      | some q =>
        obtain ⟨z, p⟩ := q
        simp only [ho] at h ⊢
        rw [ovr_eq ws al h.2, ovr1_eq ho h.1, Wr.put_self]
    · rename_i hk
      rw [if_neg hk] at h
      simp only at h ⊢
      rw [ovr_eq ws _ h]

structure St where
  σ : List AV
  ps : List Prop
  cs : List Cs
  al : As
def stepP (P : Program) (T : List Nat) (n : Nat) (o : O1) (al : As) (σ : List AV) : Option St :=
  let go := match (semP P n (takeA (keyO o) al).1 o.d o.i).run [] σ with
    | some x => if (ovr x.ws (takeA (keyO o) al).2).1.all (Wr.ok T n) then some { σ := apps T (ovr x.ws (takeA (keyO o) al).2).1 σ, ps := x.ps ++ (ovr x.ws (takeA (keyO o) al).2).2.1, cs := x.cs, al := (ovr x.ws (takeA (keyO o) al).2).2.2 : St } else none
    | none => none
  match o.g with
  | none => go
  | some (t, want) => match σ[t]? with
    | some (.bool b) => if b = want then go else match o.d with
      | some d => some { σ := (Wr.set d (.tup [])).app T σ, ps := [], cs := [], al := al }
      | none => some { σ := σ, ps := [], cs := [], al := al }
    | some (.tup []) => match o.d with
      | some d => some { σ := (Wr.set d (.tup [])).app T σ, ps := [], cs := [], al := al }
      | none => some { σ := σ, ps := [], cs := [], al := al }
    | _ => none
def CsOk (P : Program) (cs : List Cs) : Prop := ∀ c ∈ cs, FnOk P c.1 c.2.1 c.2.2
def CsIn (E : Fns) (cs : List Cs) : Prop := ∀ c ∈ cs, E c.1 c.2.1 [] = some (c.2.2, [])
section
variable {P : Program} {T : List Nat} {n : Nat}
theorem stepP_step {o : O1} {al : As} {σ : List AV} {s : St} (h : stepP P T n o al σ = some s) (hp : AllP s.ps) : CsOk P s.cs ∧ ∀ E, CsIn E s.cs → stepO E T n o σ = some s.σ := by
  have go : ∀ {s : St}, (match (semP P n (takeA (keyO o) al).1 o.d o.i).run [] σ with
    | some x => if (ovr x.ws (takeA (keyO o) al).2).1.all (Wr.ok T n) then some { σ := apps T (ovr x.ws (takeA (keyO o) al).2).1 σ, ps := x.ps ++ (ovr x.ws (takeA (keyO o) al).2).2.1, cs := x.cs, al := (ovr x.ws (takeA (keyO o) al).2).2.2 : St } else none
    | none => none) = some s → AllP s.ps → CsOk P s.cs ∧ ∀ E, CsIn E s.cs → (match (semI E n o.d o.i).run [] σ with
      | some ws => if ws.all (Wr.ok T n) then some (apps T ws σ) else none
      | none => none) = some s.σ := by
    intro s h hp
    split at h
    · rename_i x hx
      split at h
      · rename_i hok
        simp only [Option.some.injEq] at h
        subst h
        obtain ⟨hp1, hp2⟩ := AllP_append.1 hp
        obtain ⟨c1, c2⟩ := Rf.semP.1 [] σ x hx
        refine ⟨c1 hp1, fun E hE => ?_⟩
        rw [c2 E ⟨hp1, hE⟩]
        simp only
        rw [ovr_eq _ _ hp2] at hok ⊢
        rw [if_pos hok]
      · cases h
    · cases h
  have skip : ∀ {s : St}, (match o.d with
      | some d => some { σ := (Wr.set d (.tup [])).app T σ, ps := [], cs := [], al := al : St }
      | none => some { σ := σ, ps := [], cs := [], al := al : St }) = some s → CsOk P s.cs ∧ (match o.d with
      | some d => some ((Wr.set d (.tup [])).app T σ)
      | none => some σ) = some s.σ := by
    intro s h
    cases hd : o.d with
    | none =>
      simp only [hd, Option.some.injEq] at h
      subst h
      exact ⟨fun c hc => (by cases hc), rfl⟩
    | some d =>
      simp only [hd, Option.some.injEq] at h
      subst h
      exact ⟨fun c hc => (by cases hc), rfl⟩
  unfold stepP at h
  unfold stepO
  cases hg : o.g with
  | none =>
    simp only [hg] at h
    exact go h hp
  | some q =>
    obtain ⟨t, want⟩ := q
    simp only [hg] at h
    split at h
    · rename_i b hb
      by_cases hbw : b = want
      · rw [if_pos hbw] at h
        simp only [hb, if_pos hbw]
        exact go h hp
      · rw [if_neg hbw] at h
        simp only [hb, if_neg hbw]
        obtain ⟨h1, h2⟩ := skip h
        exact ⟨h1, fun E _ => h2⟩
    · rename_i hb
      simp only [hb]
      obtain ⟨h1, h2⟩ := skip h
      exact ⟨h1, fun E _ => h2⟩
    · cases h
end
structure StD where
  σ : List AV
  rs : List Tr
  ps : List Prop
  cs : List Cs
  al : As
def stepDP (P : Program) (T : List Nat) (n : Nat) (o : O1) (kill : List Nat) (al : As) (σ : List AV) : Option StD :=
  let go : Option StD := match (semP P n (takeA (keyO o) al).1 o.d o.i).runL σ with
    | some (x, l) => if (ovr x.ws (takeA (keyO o) al).2).1.all (Wr.ok T n) && selfOk (ovr x.ws (takeA (keyO o) al).2).1 && kill.all (· < n) then some { σ := appX kill (ovr x.ws (takeA (keyO o) al).2).1 σ, rs := [{ W := (ovr x.ws (takeA (keyO o) al).2).1.map Wr.dst ++ kill, L := l, ws := (ovr x.ws (takeA (keyO o) al).2).1 }], ps := x.ps ++ (ovr x.ws (takeA (keyO o) al).2).2.1, cs := x.cs, al := (ovr x.ws (takeA (keyO o) al).2).2.2 } else none
    | none => none
  match o.g with
  | none => go
  | some (t, want) => match σ[t]? with
    | some (.bool b) => if b = want then go.map fun s => { s with rs := s.rs.map fun r => { r with L := t :: r.L } } else match o.d with
      | some d => some { σ := appX [] [.set d (.tup [])] σ, rs := [{ W := [d], L := [t], ws := [.set d (.tup [])] }], ps := [], cs := [], al := al }
      | none => some { σ := σ, rs := [{ W := [], L := [t], ws := [] }], ps := [], cs := [], al := al }
    | some (.tup []) => match o.d with
      | some d => some { σ := appX [] [.set d (.tup [])] σ, rs := [{ W := [d], L := [t], ws := [.set d (.tup [])] }], ps := [], cs := [], al := al }
      | none => some { σ := σ, rs := [{ W := [], L := [t], ws := [] }], ps := [], cs := [], al := al }
    | _ => none
section
variable {P : Program} {T : List Nat} {n : Nat}
theorem stepDP_step {o : O1} {kill : List Nat} {al : As} {σ : List AV} {s : StD} (h : stepDP P T n o kill al σ = some s) (hp : AllP s.ps) : CsOk P s.cs ∧ ∃ r, s.rs = [r] ∧ ∀ E, CsIn E s.cs → stepD E T n o kill σ = some (s.σ, r) := by
  have go : ∀ {s : StD}, (match (semP P n (takeA (keyO o) al).1 o.d o.i).runL σ with
    | some (x, l) => if (ovr x.ws (takeA (keyO o) al).2).1.all (Wr.ok T n) && selfOk (ovr x.ws (takeA (keyO o) al).2).1 && kill.all (· < n) then some { σ := appX kill (ovr x.ws (takeA (keyO o) al).2).1 σ, rs := [{ W := (ovr x.ws (takeA (keyO o) al).2).1.map Wr.dst ++ kill, L := l, ws := (ovr x.ws (takeA (keyO o) al).2).1 }], ps := x.ps ++ (ovr x.ws (takeA (keyO o) al).2).2.1, cs := x.cs, al := (ovr x.ws (takeA (keyO o) al).2).2.2 : StD } else none
    | none => none) = some s → AllP s.ps → CsOk P s.cs ∧ ∃ r, s.rs = [r] ∧ ∀ E, CsIn E s.cs → (match (semI E n o.d o.i).runL σ with
      | some (ws, l) => if ws.all (Wr.ok T n) && selfOk ws && kill.all (· < n) then some (appX kill ws σ, { W := ws.map Wr.dst ++ kill, L := l, ws := ws : Tr }) else none
      | none => none) = some (s.σ, r) := by
    intro s h hp
    split at h
    · rename_i x l hx
      split at h
      · rename_i hok
        simp only [Option.some.injEq] at h
        subst h
        obtain ⟨hp1, hp2⟩ := AllP_append.1 hp
        obtain ⟨c1, c2⟩ := Rf.semP.2 σ x l hx
        refine ⟨c1 hp1, _, rfl, fun E hE => ?_⟩
        rw [c2 E ⟨hp1, hE⟩]
        simp only
        rw [ovr_eq _ _ hp2] at hok ⊢
        rw [if_pos hok]
      · cases h
    · cases h
  have skip : ∀ {t : Nat} {s : StD}, (match o.d with
      | some d => some { σ := appX [] [.set d (.tup [])] σ, rs := [{ W := [d], L := [t], ws := [.set d (.tup [])] }], ps := [], cs := [], al := al : StD }
      | none => some { σ := σ, rs := [{ W := [], L := [t], ws := [] }], ps := [], cs := [], al := al : StD }) = some s → CsOk P s.cs ∧ ∃ r, s.rs = [r] ∧ (match o.d with
      | some d => some (appX [] [.set d (.tup [])] σ, ({ W := [d], L := [t], ws := [.set d (.tup [])] } : Tr))
      | none => some (σ, { W := [], L := [t], ws := [] })) = some (s.σ, r) := by
    intro t s h
    cases hd : o.d with
    | none =>
      simp only [hd, Option.some.injEq] at h
      subst h
      exact ⟨fun c hc => (by cases hc), _, rfl, rfl⟩
    | some d =>
      simp only [hd, Option.some.injEq] at h
      subst h
      exact ⟨fun c hc => (by cases hc), _, rfl, rfl⟩
  unfold stepDP at h
  unfold stepD
  cases hg : o.g with
  | none =>
    simp only [hg] at h
    exact go h hp
  | some q =>
    obtain ⟨t, want⟩ := q
    simp only [hg] at h
    split at h
    · rename_i b hb
      by_cases hbw : b = want
      · rw [if_pos hbw] at h
        simp only [hb, if_pos hbw]
        obtain ⟨s0, h1, h2⟩ := map_some h
        subst h2
        obtain ⟨g1, r, g2, g3⟩ := go h1 hp
        refine ⟨g1, { r with L := t :: r.L }, by simp [g2], fun E hE => ?_⟩
        exact congrArg (Option.map fun (x : List AV × Tr) => (x.1, ({ x.2 with L := t :: x.2.L } : Tr))) (g3 E hE)
      · rw [if_neg hbw] at h
        simp only [hb, if_neg hbw]
        obtain ⟨h1, r, h2, h3⟩ := skip h
        exact ⟨h1, r, h2, fun E _ => h3⟩
    · rename_i hb
      simp only [hb]
      obtain ⟨h1, r, h2, h3⟩ := skip h
      exact ⟨h1, r, h2, fun E _ => h3⟩
    · cases h
end
end Go.Ev

/-! text E42 -/
set_option linter.unusedVariables false
set_option linter.unusedSimpArgs false
namespace Go.Ev
open Go.RowKit

/-! ### Ways through regions, through code -/
/-- Two calls alike have one answer. -/
def uniq1 (c : Cs) : List Cs → List Prop
  | [] => []
  | e :: r => if c.1 = e.1 then (c.2.1 = e.2.1 → c.2.2 = e.2.2) :: uniq1 c r else uniq1 c r
def uniq : List Cs → List Prop
  | [] => []
  | c :: r => uniq1 c r ++ uniq r
def stepsP (P : Program) (T : List Nat) (n : Nat) : List O1 → As → List AV → Option (List AV × List Prop × As)
  | [], al, σ => some (σ, [], al)
  | o :: os, al, σ => match stepP P T n o al σ with
    | some s => match stepsP P T n os s.al s.σ with
      | some (σ', ps, as') => some (σ', s.ps ++ (uniq s.cs ++ ps), as')
      | none => none
    | none => none
def stepsDP (P : Program) (T : List Nat) (n : Nat) : List (O1 × List Nat) → As → List AV → Option StD
  | [], al, σ => some { σ := σ, rs := [], ps := [], cs := [], al := al }
  | (o, k) :: os, al, σ => match stepDP P T n o k al σ with
    | some s => match stepsDP P T n os s.al s.σ with
      | some s2 => some { σ := s2.σ, rs := s.rs ++ s2.rs, ps := s.ps ++ s2.ps, cs := s.cs ++ s2.cs, al := s2.al }
      | none => none
    | none => none
open Classical in
noncomputable def Efor : List Cs → Fns
  | [], _, _, _ => none
  | c :: r, f, ys, os => if c.1 = f ∧ c.2.1 = ys ∧ os = [] then some (c.2.2, []) else Efor r f ys os
theorem uniq1_get {c : Cs} : ∀ {l : List Cs}, AllP (uniq1 c l) → ∀ e ∈ l, c.1 = e.1 → c.2.1 = e.2.1 → c.2.2 = e.2.2
  | [], _, e, he, _, _ => by cases he
  | x :: l, h, e, he, h1, h2 => by
    unfold uniq1 at h
    split at h
    · rcases List.mem_cons.1 he with rfl | he
      · exact h.1 h2
      · exact uniq1_get h.2 e he h1 h2
    · rename_i hx
      rcases List.mem_cons.1 he with rfl | he
      · exact absurd h1 hx
      · exact uniq1_get h e he h1 h2
theorem Efor_in : ∀ {cs : List Cs}, AllP (uniq cs) → CsIn (Efor cs) cs
  | [], _, c, hc => by cases hc
  | x :: l, h, c, hc => by
    obtain ⟨h1, h2⟩ := AllP_append.1 h
    simp only [Efor]
    rcases List.mem_cons.1 hc with rfl | hc
    · rw [if_pos ⟨rfl, rfl, rfl⟩]
    · split
      · rename_i he
        rw [uniq1_get h1 c hc he.1 he.2.1]
      · exact Efor_in h2 c hc
theorem Efor_ok {P : Program} : ∀ {cs : List Cs}, CsOk P cs → ∀ f ys r, Efor cs f ys [] = some (r, []) → FnOk P f ys r
  | [], _, f, ys, r, h => by cases h
  | x :: l, hok, f, ys, r, h => by
    simp only [Efor] at h
    split at h
    · rename_i he
      obtain ⟨rfl, rfl, _⟩ := he
      simp only [Option.some.injEq, Prod.mk.injEq, and_true] at h
      subst h
      exact hok x (List.mem_cons_self ..)
    · exact Efor_ok (fun c hc => hok c (List.mem_cons_of_mem _ hc)) f ys r h
def runRegP (P : Program) (T : List Nat) (n : Nat) (draw : Bool) (os : List O1) (al : As) (σ : List AV) : Option (List AV × List Prop × As) :=
  if draw then
    match stepsDP P T n (os.zip (killsOf os)) al (preKill os T σ) with
    | some s => if allIndep (befores os) s.rs && refsOk (befores os) s.rs && oldOk s.rs 0 (preKill os T σ) && afterOk 0 os then some (s.σ, s.ps ++ uniq s.cs, s.al) else none
    | none => none
  else stepsP P T n os al σ
/-- What must be shown for less to be told. -/
def leS : List AV → List AV → Option (List Prop)
  | [], [] => some []
  | x :: xs, y :: ys => match y with
    | .junk => if notMem x then leS xs ys else none
    | y => (leS xs ys).map (LeR x y :: ·)
  | _, _ => none
theorem leS_ok : ∀ {σ σ' : List AV} {ps : List Prop}, leS σ σ' = some ps → AllP ps → LeS σ σ'
  | [], [], _, _, _ => trivial
  | x :: xs, y :: ys, ps, h, hp => by
    cases y with
    | junk =>
      simp only [leS] at h
      split at h
      · rename_i hn
        exact ⟨.junk hn, leS_ok h hp⟩
      · cases h
    | _ =>
      simp only [leS] at h
      obtain ⟨qs, h1, h2⟩ := map_some h
      subst h2
      exact ⟨hp.1, leS_ok h1 hp.2⟩
  | [], _ :: _, _, h, _ => by cases h
  | _ :: _, [], _, h, _ => by cases h
def pr (P : Program) (T : List Nat) (n : Nat) : Cd → As → List AV → Option ((Ex × List AV) × List Prop × As)
  | .skip, al, σ => some ((.normal, σ), [], al)
  | .reg draw os, al, σ => match runRegP P T n draw os al σ with
    | some (σ', ps, as') => some ((.normal, σ'), ps, as')
    | none => none
  | .seq a b, al, σ => match pr P T n a al σ with
    | some ((.normal, σ'), ps, as') => match pr P T n b as' σ' with
      | some (r, qs, as2) => some (r, ps ++ qs, as2)
      | none => none
    | r => r
  | .cond c a b, al, σ => match condOf c σ with
    | some t => if t then pr P T n a al σ else pr P T n b al σ
    | none => none
  | .block id b, al, σ => match pr P T n b al σ with
    | some ((.exit j, σ'), ps, as') => if j = id then some ((.normal, σ'), ps, as') else some ((.exit j, σ'), ps, as')
    | r => r
  | .loop live b, (_, .lp σ1 e σ') :: al, σ => match leS σ σ1 with
    | some ps => some ((e, σ'), ps ++ [Runs P T n (.loop live b) σ1 (· = (e, σ'))], al)
    | none => none
  | .loop _ _, _, _ => none
  | .exit id, al, σ => some ((.exit id, σ), [], al)
  | .ret, al, σ => some ((.ret, σ), [], al)

section
variable {P : Program} {T : List Nat} {n : Nat} {w0 : World} {St0 : Nat → Nat} {γ : Gh} {σ : List AV} {a : Act} {w : World}
theorem stepsP_sound {ops : Array Oper} : ∀ (l : List Oper) (os : List O1) (al : As) (γ : Gh) (σ σ' : List AV) (ps : List Prop) (as' : As) (a : Act) (w : World), mapOpt (cO1 P ops) l = some os → (∀ o ∈ l, ∀ d, o.dst = some d → d < n) → GoodAt T w0 St0 γ σ a w → a.tmps.size = n →
    stepsP P T n os al σ = some (σ', ps, as') → AllP ps → ∀ {Q : Exit → Act → World → Prop}, (∀ a' w', Post T w0 St0 n σ' a' w' → Q .normal a' w') → wpList P ops Q l a w
  | [], os, al, γ, σ, σ', ps, as', a, w, hm, _, G, hn, h, _, Q, hQ => by
    simp only [mapOpt, Option.some.injEq] at hm
    subst hm
    simp only [stepsP, Option.some.injEq, Prod.mk.injEq] at h
    obtain ⟨rfl, _, _⟩ := h
    exact hQ a w ⟨hn, γ, G⟩
  | o :: l, os, al, γ, σ, σ', ps, as', a, w, hm, hdn, G, hn, h, hp, Q, hQ => by
    simp only [mapOpt] at hm
    cases h1 : cO1 P ops o with
    | none => simp [h1] at hm
    | some p =>
      cases h2 : mapOpt (cO1 P ops) l with
      | none => simp [h1, h2] at hm
      | some os2 =>
        simp only [h1, h2, Option.some.injEq] at hm
        subst hm
        simp only [stepsP] at h
        cases hs : stepP P T n p al σ with
        | none => simp [hs] at h
        | some s =>
          simp only [hs] at h
          cases ht : stepsP P T n os2 s.al s.σ with
          | none => simp [ht] at h
          | some q =>
            obtain ⟨σ2, ps2, as2⟩ := q
            simp only [ht, Option.some.injEq, Prod.mk.injEq] at h
            obtain ⟨rfl, rfl, rfl⟩ := h
            obtain ⟨p1, p2⟩ := AllP_append.1 hp
            obtain ⟨p2, p3⟩ := AllP_append.1 p2
            obtain ⟨c1, c2⟩ := stepP_step hs p1
            refine wpList_step fun K hK => ?_
            exact stepO_sound (call_sound (Efor_ok c1)) h1 G hn (fun d hd => hdn o (List.mem_cons_self ..) d hd) (c2 _ (Efor_in p2)) fun a' w' ⟨hn', γ', G'⟩ => hK _ _ (stepsP_sound l os2 s.al γ' s.σ σ2 ps2 as2 a' w' h2 (fun o ho => hdn o (List.mem_cons_of_mem _ ho)) G' hn' ht p3 hQ)
theorem stepsDP_step : ∀ (oks : List (O1 × List Nat)) (al : As) (σ : List AV) (s : StD), stepsDP P T n oks al σ = some s → AllP s.ps → CsOk P s.cs ∧ ∀ E, CsIn E s.cs → stepsD E T n oks σ = some (s.σ, s.rs)
  | [], al, σ, s, h, _ => by
    simp only [stepsDP, Option.some.injEq] at h
    subst h
    exact ⟨fun c hc => (by cases hc), fun E _ => rfl⟩
  | (o, k) :: oks, al, σ, s, h, hp => by
    simp only [stepsDP] at h
    cases hs : stepDP P T n o k al σ with
    | none => simp [hs] at h
    | some s1 =>
      simp only [hs] at h
      cases ht : stepsDP P T n oks s1.al s1.σ with
      | none => simp [ht] at h
      | some s2 =>
        simp only [ht, Option.some.injEq] at h
        subst h
        obtain ⟨p1, p2⟩ := AllP_append.1 hp
        obtain ⟨c1, r, e1, c2⟩ := stepDP_step hs p1
        obtain ⟨d1, d2⟩ := stepsDP_step oks s1.al s1.σ s2 ht p2
        refine ⟨fun c hc => (List.mem_append.1 hc).elim (c1 c) (d1 c), fun E hE => ?_⟩
        simp only [stepsD]
        rw [c2 E fun c hc => hE c (List.mem_append.2 (.inl hc))]
        simp only
        rw [d2 E fun c hc => hE c (List.mem_append.2 (.inr hc))]
        simp [e1]
/-- A way: what it comes to, where what is asked holds. -/
theorem pr_sound (hfol : P.follows .mixedOrders = true) : ∀ (cd : Cd) (al : As) (σ : List AV) (r : Ex × List AV) (ps : List Prop) (as' : As), pr P T n cd al σ = some (r, ps, as') → AllP ps → Runs P T n cd σ (· = r)
  | .skip, al, σ, r, ps, as', h, hp => by
    simp only [pr, Option.some.injEq, Prod.mk.injEq] at h
    obtain ⟨rfl, _⟩ := h
    exact Runs.skip rfl
  | .reg draw os, al, σ, r, ps, as', h, hp => by
    simp only [pr] at h
    split at h
    · rename_i σ' ps2 as2 hr
      simp only [Option.some.injEq, Prod.mk.injEq] at h
      obtain ⟨rfl, rfl, rfl⟩ := h
      intro c hm w0 St0 γ a w G hn
      cases c <;> first | exact hm.elim | skip
      rename_i id ops draw'
      obtain ⟨rfl, hm, hdn⟩ := hm
      cases draw with
      | false =>
        simp only [runRegP, Bool.false_eq_true, if_false] at hr
        exact wp_region_list (stepsP_sound ops.toList os al γ σ σ' _ _ a w hm hdn G hn hr hp fun a' w' h => ⟨_, rfl, trivial, h⟩)
      | true =>
        simp only [runRegP, if_true] at hr
        split at hr
        · rename_i s hs
          split at hr
          · rename_i hc
            simp only [Option.some.injEq, Prod.mk.injEq] at hr
            obtain ⟨rfl, rfl, rfl⟩ := hr
            obtain ⟨p1, p2⟩ := AllP_append.1 hp
            obtain ⟨c1, c2⟩ := stepsDP_step _ al _ s hs p1
            have hE : CallSound P T (Efor s.cs) n := call_sound (Efor_ok c1)
            refine draw_sound hfol hE id ops os hm hdn w0 St0 γ σ s.σ a w G hn ?_ _ fun a' w' h => ⟨_, rfl, trivial, h⟩
            simp only [runReg, if_true]
            rw [c2 _ (Efor_in p2)]
            simp only
            rw [if_pos hc]
          · cases hr
        · cases hr
    · cases h
  | .seq x y, al, σ, r, ps, as', h, hp => by
    simp only [pr] at h
    split at h
    · rename_i σ1 ps1 as1 h1
      split at h
      · rename_i r2 qs as2 h2
        simp only [Option.some.injEq, Prod.mk.injEq] at h
        obtain ⟨rfl, rfl, rfl⟩ := h
        obtain ⟨p1, p2⟩ := AllP_append.1 hp
        refine Runs.seq (pr_sound hfol x al σ _ ps1 as1 h1 p1) fun e σ' he => ?_
        cases he
        rw [if_pos rfl]
        exact pr_sound hfol y as1 σ1 _ qs as2 h2 p2
      · cases h
    · rename_i hne
      refine Runs.seq (pr_sound hfol x al σ _ ps as' h hp) fun e σ' he => ?_
      have hn : e ≠ .normal := by
        rintro rfl
        cases he
        exact hne _ _ _ h
      rw [if_neg hn]
      exact he
  | .cond c x y, al, σ, r, ps, as', h, hp => by
    simp only [pr] at h
    split at h
    · rename_i t ht
      refine Runs.cond ht ?_
      cases t with
      | true => exact pr_sound hfol x al σ r ps as' h hp
      | false => exact pr_sound hfol y al σ r ps as' h hp
    · cases h
  | .block id x, al, σ, r, ps, as', h, hp => by
    simp only [pr] at h
    refine Runs.block ?_
    split at h
    · rename_i j σ1 ps1 as1 h1
      split at h
      · rename_i hj
        simp only [Option.some.injEq, Prod.mk.injEq] at h
        obtain ⟨rfl, rfl, rfl⟩ := h
        refine (pr_sound hfol x al σ _ ps1 as1 h1 hp).mono fun r hr => ?_
        subst hr
        simp [hj]
      · rename_i hj
        simp only [Option.some.injEq, Prod.mk.injEq] at h
        obtain ⟨rfl, rfl, rfl⟩ := h
        refine (pr_sound hfol x al σ _ ps1 as1 h1 hp).mono fun r hr => ?_
        subst hr
        simp [hj]
    · rename_i hne
      refine (pr_sound hfol x al σ _ ps as' h hp).mono fun r' hr => ?_
      subst hr
      split
      · rename_i hx
        obtain ⟨ex, σ1⟩ := r'
        simp only at hx
        subst hx
        exact absurd h (hne _ _ _ _)
      · rfl
  | .loop live x, al, σ, r, ps, as', h, hp => by
    match al, h with
    | [], h => cases h
    | (_, .b _) :: _, h => cases h
    | (_, .i _) :: _, h => cases h
    | (_, .n _) :: _, h => cases h
    | (_, .v _) :: _, h => cases h
    | (_, .y _) :: _, h => cases h
    | (_, .s _) :: _, h => cases h
    | (_, .q) :: _, h => cases h
    | (_, .q2) :: _, h => cases h
    | (_, .c _ _) :: _, h => cases h
    | (_, .cs _ _) :: _, h => cases h
    | (k, .lp σ1 e σ') :: al, h =>
      simp only [pr] at h
      split at h
      · rename_i ps1 h1
        simp only [Option.some.injEq, Prod.mk.injEq] at h
        obtain ⟨rfl, rfl, rfl⟩ := h
        obtain ⟨p1, p2⟩ := AllP_append.1 hp
        exact Runs.le p2.1 (leS_ok h1 p1)
      · cases h
  | .exit id, al, σ, r, ps, as', h, hp => by
    simp only [pr, Option.some.injEq, Prod.mk.injEq] at h
    obtain ⟨rfl, _⟩ := h
    exact Runs.exit rfl
  | .ret, al, σ, r, ps, as', h, hp => by
    simp only [pr, Option.some.injEq, Prod.mk.injEq] at h
    obtain ⟨rfl, _⟩ := h
    exact Runs.ret rfl
end
end Go.Ev

/-! text E43 -/
set_option linter.unusedVariables false
set_option linter.unusedSimpArgs false
namespace Go.Ev
open Go.RowKit

/-! ### A function -/
/-- The operations write no slot that there is not. -/
def dstOk (n : Nat) : Code → Bool
  | .region _ ops _ => ops.toList.all fun o => match o.dst with
    | some d => decide (d < n)
    | none => true
  | .seq a b => dstOk n a && dstOk n b
  | .cond _ a b => dstOk n a && dstOk n b
  | .block _ b => dstOk n b
  | .loop b => dstOk n b
  | _ => true
theorem cCode_match {P : Program} {n : Nat} : ∀ (c : Code) (cd : Cd), cCode P c = some cd → dstOk n c = true → MatchC P n c cd := by
  intro c
  induction c with
  | skip => intro cd h _; simp only [cCode, Option.some.injEq] at h; subst h; trivial
  | ret => intro cd h _; simp only [cCode, Option.some.injEq] at h; subst h; trivial
  | exit i => intro cd h _; simp only [cCode, Option.some.injEq] at h; subst h; rfl
  | region i ops d =>
    intro cd h hd
    simp only [cCode] at h
    obtain ⟨os, h1, rfl⟩ := map_some h
    refine ⟨rfl, h1, fun o ho d hod => ?_⟩
    simp only [dstOk, List.all_eq_true] at hd
    have := hd o ho
    rw [hod] at this
    simpa using this
  | seq x y ih1 ih2 =>
    intro cd h hd
    simp only [cCode] at h
    simp only [dstOk, Bool.and_eq_true] at hd
    split at h
    · rename_i a b ha hb
      simp only [Option.some.injEq] at h
      subst h
      exact ⟨ih1 a ha hd.1, ih2 b hb hd.2⟩
    · cases h
  | cond c x y ih1 ih2 =>
    intro cd h hd
    simp only [cCode] at h
    simp only [dstOk, Bool.and_eq_true] at hd
    split at h
    · rename_i c' a b hc ha hb
      simp only [Option.some.injEq] at h
      subst h
      exact ⟨hc, ih1 a ha hd.1, ih2 b hb hd.2⟩
    · cases h
  | block i x ih =>
    intro cd h hd
    simp only [cCode] at h
    obtain ⟨b, h1, rfl⟩ := map_some h
    exact ⟨rfl, ih b h1 hd⟩
  | loop x ih =>
    intro cd h hd
    simp only [cCode] at h
    obtain ⟨b, h1, rfl⟩ := map_some h
    exact ih b h1 hd
  | _ => intro cd h hd; simp [cCode] at h

/-- A function's instructions. -/
def FdOk (P : Program) (f : FuncId) (fd : Fd) : Prop :=
  ∃ fn c, P.funcs[f]? = some fn ∧ fn.name ≠ "runtime.NumGoroutine" ∧ fn.body = some c ∧ fn.ntmps = fd.n ∧ MatchC P fd.n c fd.body ∧ mapOpt (cRv P) fn.results.toList = some fd.res
/-- What the kernel is asked. -/
def cFd (P : Program) (f : FuncId) : Option Fd :=
  match P.funcs[f]? with
  | some fn => match fn.body, mapOpt (cRv P) fn.results.toList with
    | some b, some r => match cCode P b with
      | some c => if fn.name ≠ "runtime.NumGoroutine" ∧ dstOk fn.ntmps b = true then some ⟨fn.ntmps, c, r⟩ else none
      | none => none
    | _, _ => none
  | none => none
theorem FdOk.of {P : Program} {f : FuncId} {fd : Fd} (h : cFd P f = some fd) : FdOk P f fd := by
  unfold cFd at h
  split at h
  · rename_i fn hf
    split at h
    · rename_i b r hb hr
      split at h
      · rename_i c hc
        split at h
        · rename_i hok
          simp only [Option.some.injEq] at h
          subst h
          exact ⟨fn, b, hf, hok.1, hb, rfl, cCode_match b c hc hok.2, hr⟩
        · cases h
      · cases h
    · cases h
  · cases h

def startOf (n : Nat) (ys : List AV) : List AV := ys ++ List.replicate (n - ys.length) (.tup []) ++ [.mem []]
theorem fn_of_runs {P : Program} {f : FuncId} {fd : Fd} {ys : List AV} {r : AV} (hf : FdOk P f fd) (hlen : ys.length ≤ fd.n)
    (h : Runs P fd.body.T fd.n fd.body (startOf fd.n ys) fun q => (q.1 = .normal ∨ q.1 = .ret) ∧ results fd.body.T q.2 fd.res = some r) : FnOk P f ys r := by
  obtain ⟨fn, c, h1, h2, h3, h4, h5, h6⟩ := hf
  intro w args St hSt hv
  have hl := VL_len hv
  rw [callFunc_run h1 h2 h3]
  refine calls_of_wp h1 h3 ?_
  have G := start_good (n := fd.n) hSt hv hlen fd.body.T
  rw [h4]
  have hsz : (args.toArray ++ Array.replicate (fd.n - args.toArray.size) undef).size = fd.n := by simp; omega
  refine Code.wp_mono (fun e a' w' q => ?_) (h c h5 _ _ _ _ _ G hsz)
  obtain ⟨⟨ex, σ⟩, ⟨hor, hres⟩, q1, hn', γ', G'⟩ := q
  obtain ⟨v, f1, f2, γ2, G2⟩ := fin_results (P := P) G' h6 hres
  rcases hor with rfl | rfl
  · cases e with
    | normal => exact ⟨G'.defers, v, f1, f2, _, γ2, G2⟩
    | _ => exact q1.elim
  · cases e with
    | ret => exact ⟨G'.defers, v, f1, f2, _, γ2, G2⟩
    | _ => exact q1.elim

/-- A way through a function: what must hold for it to answer r. -/
def prF (P : Program) (f : FuncId) (T : List Nat) (fd : Fd) (al : As) (ys : List AV) (r : AV) : Option (List Prop) :=
  match pr P T fd.n fd.body al (startOf fd.n ys) with
  | some ((e, σ), ps, []) => if ys.length ≤ fd.n ∧ (e = .normal ∨ e = .ret) then match results T σ fd.res with
      | some r' => some (ps ++ [r' = r])
      | none => none
    else none
  | _ => none
theorem fn_of_pr {P : Program} {f : FuncId} {fd : Fd} {T : List Nat} {al : As} {ys : List AV} {r : AV} {ps : List Prop} (hfol : P.follows .mixedOrders = true) (hf : FdOk P f fd) (hT : fd.body.T = T) (h : prF P f T fd al ys r = some ps) (hp : AllP ps) : FnOk P f ys r := by
  subst hT
  unfold prF at h
  split at h
  · rename_i e σ ps1 h1
    split at h
    · rename_i hc
      split at h
      · rename_i r' hr
        simp only [Option.some.injEq] at h
        subst h
        obtain ⟨p1, p2⟩ := AllP_append.1 hp
        refine fn_of_runs hf hc.1 ((pr_sound hfol _ _ _ _ _ _ h1 p1).mono fun q hq => ?_)
        subst hq
        exact ⟨hc.2, by rw [hr]; exact congrArg some p2.1⟩
      · cases h
    · cases h
  · cases h
/-- A way through a piece of code, to a state of which less is told. -/
def prR (P : Program) (T : List Nat) (n : Nat) (cd : Cd) (al : As) (σ : List AV) (e : Ex) (σ' : List AV) : Option (List Prop) :=
  match pr P T n cd al σ with
  | some ((e', σ1), ps, []) => if e' = e then match leS σ1 σ' with
      | some qs => some (ps ++ qs)
      | none => none
    else none
  | _ => none
theorem runs_of_pr {P : Program} {T : List Nat} {n : Nat} {cd : Cd} {al : As} {σ σ' : List AV} {e : Ex} {ps : List Prop} (hfol : P.follows .mixedOrders = true) (h : prR P T n cd al σ e σ' = some ps) (hp : AllP ps) : Runs P T n cd σ (· = (e, σ')) := by
  unfold prR at h
  split at h
  · rename_i e' σ1 ps1 h1
    split at h
    · rename_i he
      subst he
      split at h
      · rename_i qs hq
        simp only [Option.some.injEq] at h
        subst h
        obtain ⟨p1, p2⟩ := AllP_append.1 hp
        refine (pr_sound hfol _ _ _ _ _ _ h1 p1).ge fun e σ2 he => ?_
        cases he
        exact ⟨σ', leS_ok hq p2, rfl⟩
      · cases h
    · cases h
  · cases h
theorem AllP.n : AllP [] := trivial
theorem AllP.c {p : Prop} {ps : List Prop} (h : p) (hs : AllP ps) : AllP (p :: ps) := ⟨h, hs⟩
abbrev WayR (P : Program) (T : List Nat) (n : Nat) (cd : Cd) (al : As) (σ : List AV) (e : Ex) (σ' : List AV) : Prop := Runs P T n cd σ (· = (e, σ'))
abbrev WayF (P : Program) (f : FuncId) (T : List Nat) (fd : Fd) (al : As) (ys : List AV) (r : AV) : Prop := FnOk P f ys r
section
variable {P : Program} {T : List Nat} {n : Nat} {x : Cd} {σ σ' : List AV} {Q : Ex × List AV → Prop} {m : Nat}
theorem LoopR.step (h : Runs P T n x σ (· = (.normal, σ'))) (k : LoopR P T n x Q m σ') : LoopR P T n x Q (m + 1) σ :=
  LoopR.next (h.mono fun r hr => by subst hr; exact ⟨rfl, k⟩)
theorem LoopR.fin {e : Ex} (h : Runs P T n x σ (· = (e, σ'))) (he : e ≠ .normal) (hq : Q (e, σ')) : LoopR P T n x Q (m + 1) σ :=
  LoopR.out (h.mono fun r hr => by subst hr; exact ⟨he, hq⟩)
end
/-- A loop of j rounds. -/
theorem Runs.upto {P : Program} {T : List Nat} {n : Nat} {x : Cd} {live : List Nat} {S : Nat → List AV} {j : Nat} {r : Ex × List AV} (hs : ∀ i, i < j → Runs P T n x (S i) (· = (.normal, S (i + 1)))) (he : Runs P T n x (S j) (· = r)) (hne : r.1 ≠ .normal) : Runs P T n (.loop live x) (S 0) (· = r) := by
  have key : ∀ d i, i + d = j → LoopR P T n x (· = r) (d + 1) (S i) := by
    intro d
    induction d with
    | zero => intro i hi; obtain rfl : i = j := by omega
              exact LoopR.out (he.mono fun q hq => by subst hq; exact ⟨hne, rfl⟩)
    | succ d ih => intro i hi; exact LoopR.step (hs i (by omega)) (ih (i + 1) (by omega))
  exact Runs.loop (key j 0 (by omega))
theorem wrap64_eq {n : Int} (h0 : -9223372036854775808 ≤ n) (h1 : n < 9223372036854775808) : IntKind.i64.wrap n = n := IntWalk.i64_in n ⟨h0, by omega⟩
theorem wrap_succ {i : Nat} (h : i < 4611686018427387904) : IntKind.i64.wrap ((i : Int) + 1) = ((i + 1 : Nat) : Int) := by
  rw [wrap64_eq (by omega) (by omega)]
  omega
theorem wrap8_eq {n : Int} (h0 : 0 ≤ n) (h1 : n < 256) : IntKind.u8.wrap n = n := IntWalk.u8_in n ⟨h0, by omega⟩
/-- Slots by their numbers; of all others nothing is told. -/
def st (n : Nat) (l : List (Nat × AV)) : List AV := ((List.range n).map fun i => match l.find? fun p => p.1 == i with
  | some p => p.2
  | none => .junk) ++ [.mem []]
end Go.Ev

/-! text F1 -/
namespace Go.Ev
open Go.Proofs (Try.prog)
theorem hfol : Try.prog.follows .mixedOrders = true := by kernel_rfl

def lp3x0 : Cd :=
 (.seq
  (.reg false [
    ⟨(some 30), .bin .lss (.tmp 29) (.val (.int .i64 256)), none, []⟩])
  (.seq
   (.cond (.tmp 30)
    .skip
    (.exit 0))
   (.seq
    (.block 1
     (.seq
      (.reg false [
        ⟨(some 31), .mov (.tmp 29), none, []⟩,
        ⟨(some 11), .asg (.tmp 31), none, [0, 0]⟩])
      (.reg false [
        ⟨(some 32), .mov (.tmp 10), none, []⟩,
        ⟨(some 33), .mov (.tmp 0), none, []⟩,
        ⟨(some 34), .mov (.tmp 11), none, []⟩,
        ⟨(some 35), .conv .u8 (.tmp 34), none, [2]⟩,
        ⟨(some 36), .call 8 [(.tmp 33), (.tmp 35)], none, [1, 3]⟩,
        ⟨(some 37), .len false (.tmp 36), none, [4]⟩,
        ⟨(some 38), .bin .add (.tmp 32) (.tmp 37), none, [0, 5]⟩,
        ⟨(some 10), .asg (.tmp 38), none, [6, 4, 0, 1, 2, 3, 4, 5, 6]⟩])))
    (.reg false [
      ⟨(some 39), .bin .add (.tmp 29) (.val (.int .i64 1)), none, []⟩,
      ⟨(some 29), .mov (.tmp 39), none, [0]⟩]))))
/-- waymark/waymarklaw04.TlvFilters -/
def fd3 : Fd := ⟨51,
 (.seq
  (.reg false [
    ⟨(some 6), .asg (.val (.bool false)), none, []⟩])
  (.seq
   (.seq
    (.reg false [
      ⟨(some 12), .call 7 [], none, []⟩,
      ⟨(some 13), .un .not (.tmp 12), none, [0]⟩])
    (.cond (.tmp 13)
     (.seq
      (.reg false [
        ⟨(some 6), .asg (.val (.bool false)), none, []⟩])
      .ret)
     .skip))
   (.seq
    (.reg false [
      ⟨(some 14), .mov (.tmp 0), none, []⟩,
      ⟨(some 15), .call 9 [(.tmp 14)], none, [0]⟩,
      ⟨(some 16), .mov (.tmp 2), none, []⟩,
      ⟨(some 17), .call 8 [(.tmp 15), (.tmp 16)], none, [1, 2, 1]⟩,
      ⟨(some 18), .mov (.tmp 1), none, []⟩,
      ⟨(some 19), .call 9 [(.tmp 18)], none, [4, 3]⟩,
      ⟨(some 20), .mov (.tmp 2), none, []⟩,
      ⟨(some 21), .call 8 [(.tmp 19), (.tmp 20)], none, [5, 6, 5]⟩,
      ⟨(some 7), .asg (.tmp 17), none, [3, 7, 0, 1, 2, 3]⟩,
      ⟨(some 8), .asg (.tmp 21), none, [7, 8, 0, 1, 2, 3, 4, 5, 6, 7, 8]⟩])
    (.seq
     (.reg false [
       ⟨(some 22), .mov (.tmp 0), none, []⟩,
       ⟨(some 23), .call 9 [(.tmp 22)], none, [0]⟩,
       ⟨(some 24), .mov (.tmp 1), none, []⟩,
       ⟨(some 25), .call 9 [(.tmp 24)], none, [2, 1]⟩,
       ⟨(some 26), .appd 2 32 (.tmp 23) (.tmp 25), none, [1, 3, 3]⟩,
       ⟨(some 27), .mov (.tmp 2), none, []⟩,
       ⟨(some 28), .call 8 [(.tmp 26), (.tmp 27)], none, [4, 5, 4]⟩,
       ⟨(some 9), .asg (.tmp 28), none, [6, 6, 0, 1, 2, 3, 4, 5, 6]⟩])
     (.seq
      (.reg false [
        ⟨(some 10), .asg (.val (.int .i64 0)), none, []⟩])
      (.seq
       (.seq
        (.reg false [
          ⟨(some 29), .mov (.val (.int .i64 0)), none, []⟩])
        (.block 0
         (.loop [] lp3x0)))
       (.seq
        (.reg false [
          ⟨(some 40), .mov (.tmp 9), none, []⟩,
          ⟨(some 41), .mov (.tmp 7), none, []⟩,
          ⟨(some 42), .mov (.tmp 8), none, []⟩,
          ⟨(some 43), .appd 1 24 (.tmp 41) (.tmp 42), none, [1, 2]⟩,
          ⟨(some 44), .call 10 [(.tmp 40), (.tmp 43)], none, [0, 3, 3]⟩,
          ⟨(some 45), .mov (.tmp 44), none, [4, 4]⟩,
          ⟨(some 46), .mov (.tmp 10), (some (45, true)), [5]⟩,
          ⟨(some 47), .mov (.tmp 0), (some (45, true)), [5]⟩,
          ⟨(some 48), .len false (.tmp 47), (some (45, true)), [7, 5]⟩,
          ⟨(some 49), .bin .eql (.tmp 46) (.tmp 48), (some (45, true)), [6, 8, 5]⟩,
          ⟨(some 50), .pick (.tmp 45) (.tmp 49) (.val (.bool false)), none, [5, 9]⟩,
          ⟨(some 6), .asg (.tmp 50), none, [10, 5, 0, 1, 2, 3, 4, 5, 6, 7, 8, 9, 10]⟩])
        .ret))))))),
 [.tmp 6]⟩
theorem ok3 : FdOk Try.prog 3 fd3 := FdOk.of (by kernel_rfl)
abbrev T3 : List Nat := [49, 44, 8, 7, 9, 39, 11, 10, 29, 1, 2, 0]
theorem hT3 : fd3.body.T = T3 := by kernel_rfl

def lp4x0 : Cd :=
 (.seq
  (.reg false [
    ⟨(some 66), .bin .lss (.tmp 65) (.tmp 64), none, []⟩])
  (.seq
   (.cond (.tmp 66)
    .skip
    (.exit 2))
   (.seq
    (.block 3
     (.seq
      (.reg false [
        ⟨(some 67), .mov (.tmp 65), none, []⟩,
        ⟨(some 12), .asg (.tmp 67), none, [0, 0]⟩])
      (.reg false [
        ⟨(some 68), .mov (.tmp 5), none, []⟩,
        ⟨(some 69), .mov (.tmp 11), none, []⟩,
        ⟨(some 70), .idxA 2 (.tmp 68) (.tmp 69), none, [0, 1]⟩,
        ⟨(some 71), .fadr 1 (.tmp 70), none, [2]⟩,
        ⟨(some 72), .load none (.tmp 71), none, [3]⟩,
        ⟨(some 73), .mov (.tmp 12), none, []⟩,
        ⟨(some 74), .idxA 1 (.tmp 72) (.tmp 73), none, [4, 5]⟩,
        ⟨(some 75), .load none (.tmp 74), none, [6]⟩,
        ⟨(some 76), .bin .xor (.tmp 75) (.val (.int .u8 1)), none, [7]⟩,
        ⟨(some 77), .idxA 1 (.tmp 72) (.tmp 73), none, [4, 5, 0, 1, 2, 3, 4, 5, 6, 7, 8]⟩,
        ⟨none, .store 1 (.tmp 77) (.tmp 76), none, [9, 8, 0, 1, 2, 3, 4, 5, 6, 7, 8]⟩])))
    (.reg false [
      ⟨(some 78), .bin .add (.tmp 65) (.val (.int .i64 1)), none, []⟩,
      ⟨(some 65), .mov (.tmp 78), none, [0]⟩]))))
def lp4x1 : Cd :=
 (.seq
  (.reg false [
    ⟨(some 57), .bin .lss (.tmp 56) (.tmp 55), none, []⟩])
  (.seq
   (.cond (.tmp 57)
    .skip
    (.exit 0))
   (.seq
    (.block 1
     (.seq
      (.reg false [
        ⟨(some 58), .mov (.tmp 56), none, []⟩,
        ⟨(some 11), .asg (.tmp 58), none, [0, 0]⟩])
      (.seq
       (.reg false [
         ⟨(some 59), .mov (.tmp 5), none, []⟩,
         ⟨(some 60), .mov (.tmp 11), none, []⟩,
         ⟨(some 61), .idxA 2 (.tmp 59) (.tmp 60), none, [0, 1]⟩,
         ⟨(some 62), .fadr 1 (.tmp 61), none, [2]⟩,
         ⟨(some 63), .load none (.tmp 62), none, [3]⟩,
         ⟨(some 64), .len false (.tmp 63), none, [4]⟩,
         ⟨(some 65), .mov (.val (.int .i64 0)), none, []⟩])
       (.block 2
        (.loop [] lp4x0)))))
    (.reg false [
      ⟨(some 79), .bin .add (.tmp 56) (.val (.int .i64 1)), none, []⟩,
      ⟨(some 56), .mov (.tmp 79), none, [0]⟩]))))
/-- waymark/waymarklaw04.TlvSplits -/
def fd4 : Fd := ⟨83,
 (.seq
  (.reg false [
    ⟨(some 2), .asg (.val (.bool false)), none, []⟩])
  (.seq
   (.seq
    (.reg false [
      ⟨(some 13), .call 7 [], none, []⟩,
      ⟨(some 14), .un .not (.tmp 13), none, [0]⟩])
    (.cond (.tmp 14)
     (.seq
      (.reg false [
        ⟨(some 2), .asg (.val (.bool false)), none, []⟩])
      .ret)
     .skip))
   (.seq
    (.reg false [
      ⟨(some 16), .mov (.tmp 0), none, []⟩,
      ⟨(some 17), .call 11 [(.tmp 16)], none, [0]⟩,
      ⟨(some 15), .mov (.tmp 17), none, [1]⟩,
      ⟨(some 18), .ext 0 (.tmp 15), none, [2]⟩,
      ⟨(some 19), .ext 1 (.tmp 15), none, [2]⟩,
      ⟨(some 3), .asg (.tmp 18), none, [3, 1, 0, 1, 2, 3]⟩,
      ⟨(some 4), .asg (.tmp 19), none, [4, 5, 0, 1, 2, 3, 4, 5]⟩])
    (.seq
     (.reg false [
       ⟨(some 21), .mov (.tmp 3), none, []⟩,
       ⟨(some 22), .call 12 [(.tmp 21)], none, [0]⟩,
       ⟨(some 20), .mov (.tmp 22), none, [1]⟩,
       ⟨(some 23), .ext 0 (.tmp 20), none, [2]⟩,
       ⟨(some 24), .ext 1 (.tmp 20), none, [2]⟩,
       ⟨(some 5), .asg (.tmp 23), none, [3, 1, 0, 1, 2, 3]⟩,
       ⟨(some 6), .asg (.tmp 24), none, [4, 5, 0, 1, 2, 3, 4, 5]⟩])
     (.seq
      (.reg false [
        ⟨(some 26), .mov (.tmp 0), none, []⟩,
        ⟨(some 27), .call 13 [(.tmp 26)], none, [0]⟩,
        ⟨(some 25), .mov (.tmp 27), none, [1]⟩,
        ⟨(some 28), .ext 0 (.tmp 25), none, [2]⟩,
        ⟨(some 29), .ext 1 (.tmp 25), none, [2]⟩,
        ⟨(some 7), .asg (.tmp 28), none, [3, 1, 0, 1, 2, 3]⟩,
        ⟨(some 8), .asg (.tmp 29), none, [4, 5, 0, 1, 2, 3, 4, 5]⟩])
      (.seq
       (.seq
        (.reg false [
          ⟨(some 30), .mov (.tmp 5), none, []⟩,
          ⟨(some 31), .mov (.tmp 7), none, []⟩,
          ⟨(some 32), .call 14 [(.tmp 30), (.tmp 31)], none, [0, 1]⟩,
          ⟨(some 33), .un .not (.tmp 32), none, [2]⟩,
          ⟨(some 34), .mov (.tmp 33), none, [3, 2]⟩,
          ⟨(some 35), .mov (.tmp 6), (some (34, false)), [4]⟩,
          ⟨(some 36), .mov (.tmp 8), (some (34, false)), [4]⟩,
          ⟨(some 37), .bin .neq (.tmp 35) (.tmp 36), (some (34, false)), [5, 6, 4]⟩,
          ⟨(some 38), .pick (.tmp 34) (.val (.bool true)) (.tmp 37), none, [4, 7]⟩])
        (.cond (.tmp 38)
         (.seq
          (.reg false [
            ⟨(some 2), .asg (.val (.bool false)), none, []⟩])
          .ret)
         .skip))
       (.seq
        (.seq
         (.reg false [
           ⟨(some 39), .mov (.tmp 6), none, []⟩,
           ⟨(some 40), .bin .eql (.tmp 39) (.val (.int .i64 0)), none, [0]⟩])
         (.cond (.tmp 40)
          (.seq
           (.reg false [
             ⟨(some 42), .mov (.tmp 5), none, []⟩,
             ⟨(some 43), .call 15 [(.tmp 42)], none, [0]⟩,
             ⟨(some 41), .mov (.tmp 43), none, [1]⟩,
             ⟨(some 44), .ext 0 (.tmp 41), none, [2]⟩,
             ⟨(some 45), .ext 1 (.tmp 41), none, [2]⟩,
             ⟨(some 9), .asg (.tmp 44), none, [3, 1, 0, 1, 2, 3]⟩,
             ⟨(some 10), .asg (.tmp 45), none, [4, 5, 0, 1, 2, 3, 4, 5]⟩])
           (.seq
            (.reg false [
              ⟨(some 46), .mov (.tmp 10), none, []⟩,
              ⟨(some 47), .bin .neq (.tmp 46) (.val (.int .i64 0)), none, [0]⟩,
              ⟨(some 48), .mov (.tmp 47), none, [1]⟩,
              ⟨(some 49), .mov (.tmp 9), (some (48, false)), [2]⟩,
              ⟨(some 50), .mov (.tmp 0), (some (48, false)), [2]⟩,
              ⟨(some 51), .call 16 [(.tmp 49), (.tmp 50)], (some (48, false)), [3, 4, 2, 2]⟩,
              ⟨(some 52), .un .not (.tmp 51), (some (48, false)), [5, 2]⟩,
              ⟨(some 53), .pick (.tmp 48) (.val (.bool true)) (.tmp 52), none, [2, 6]⟩])
            (.cond (.tmp 53)
             (.seq
              (.reg false [
                ⟨(some 2), .asg (.val (.bool false)), none, []⟩])
              .ret)
             .skip)))
          .skip))
        (.seq
         (.seq
          (.reg false [
            ⟨(some 54), .mov (.tmp 5), none, []⟩,
            ⟨(some 55), .len false (.tmp 54), none, [0]⟩,
            ⟨(some 56), .mov (.val (.int .i64 0)), none, []⟩])
          (.block 0
           (.loop [] lp4x1)))
         (.seq
          (.reg false [
            ⟨(some 80), .mov (.tmp 4), none, []⟩,
            ⟨(some 81), .mov (.tmp 0), none, []⟩,
            ⟨(some 82), .call 17 [(.tmp 80), (.tmp 81)], none, [0, 1]⟩,
            ⟨(some 2), .asg (.tmp 82), none, [2, 2, 0, 1, 2]⟩])
          .ret))))))))),
 [.tmp 2]⟩
theorem ok4 : FdOk Try.prog 4 fd4 := FdOk.of (by kernel_rfl)
abbrev T4 : List Nat := [4, 79, 78, 74, 72, 12, 71, 70, 68, 65, 62, 61, 59, 11, 56, 52, 9, 47, 10, 43, 37, 8, 6, 33, 7, 5, 27, 22, 3, 17, 0]
theorem hT4 : fd4.body.T = T4 := by kernel_rfl

def lp5x0 : Cd :=
 (.seq
  (.reg false [
    ⟨(some 94), .bin .lss (.tmp 93) (.tmp 92), none, []⟩])
  (.seq
   (.cond (.tmp 94)
    .skip
    (.exit 0))
   (.seq
    (.block 1
     (.seq
      (.reg false [
        ⟨(some 95), .idxA 2 (.tmp 91) (.tmp 93), none, []⟩,
        ⟨(some 96), .load (some 2) (.tmp 95), none, [0]⟩,
        ⟨(some 19), .alloc [(.int .u8 0), .nils], none, []⟩,
        ⟨none, .store 2 (.tmp 19) (.tmp 96), none, [2, 1, 0, 1, 2]⟩])
      (.seq
       (.seq
        (.reg false [
          ⟨(some 97), .mov (.tmp 17), none, []⟩,
          ⟨(some 98), .mov (.tmp 13), none, []⟩,
          ⟨(some 99), .bin .leq (.tmp 97) (.tmp 98), none, [0, 1]⟩])
        (.cond (.tmp 99)
         (.reg false [
           ⟨(some 100), .mov (.tmp 17), none, []⟩,
           ⟨(some 16), .asg (.tmp 100), none, [0, 0]⟩])
         .skip))
       (.reg false [
         ⟨(some 101), .mov (.tmp 17), none, []⟩,
         ⟨(some 102), .fadr 1 (.tmp 19), none, []⟩,
         ⟨(some 103), .load none (.tmp 102), none, [1]⟩,
         ⟨(some 104), .len false (.tmp 103), none, [2]⟩,
         ⟨(some 105), .bin .add (.val (.int .i64 2)) (.tmp 104), none, [3]⟩,
         ⟨(some 106), .bin .add (.tmp 101) (.tmp 105), none, [0, 4]⟩,
         ⟨(some 17), .asg (.tmp 106), none, [5, 0, 1, 2, 3, 4, 5]⟩]))))
    (.reg false [
      ⟨(some 107), .bin .add (.tmp 93) (.val (.int .i64 1)), none, []⟩,
      ⟨(some 93), .mov (.tmp 107), none, [0]⟩]))))
/-- waymark/waymarklaw04.TlvParts -/
def fd5 : Fd := ⟨131,
 (.seq
  (.reg false [
    ⟨(some 6), .asg (.val (.bool false)), none, []⟩])
  (.seq
   (.seq
    (.reg false [
      ⟨(some 20), .call 7 [], none, []⟩,
      ⟨(some 21), .un .not (.tmp 20), none, [0]⟩])
    (.cond (.tmp 21)
     (.seq
      (.reg false [
        ⟨(some 6), .asg (.val (.bool false)), none, []⟩])
      .ret)
     .skip))
   (.seq
    (.reg false [
      ⟨(some 23), .mov (.tmp 0), none, []⟩,
      ⟨(some 24), .call 9 [(.tmp 23)], none, [0]⟩,
      ⟨(some 25), .call 15 [(.tmp 24)], none, [1, 1]⟩,
      ⟨(some 22), .mov (.tmp 25), none, [2]⟩,
      ⟨(some 26), .ext 0 (.tmp 22), none, [3]⟩,
      ⟨(some 27), .ext 1 (.tmp 22), none, [3]⟩,
      ⟨(some 7), .asg (.tmp 26), none, [4, 2, 0, 1, 2, 3, 4]⟩,
      ⟨(some 8), .asg (.tmp 27), none, [5, 6, 0, 1, 2, 3, 4, 5, 6]⟩])
    (.seq
     (.reg false [
       ⟨(some 29), .mov (.tmp 1), none, []⟩,
       ⟨(some 30), .call 9 [(.tmp 29)], none, [0]⟩,
       ⟨(some 31), .call 15 [(.tmp 30)], none, [1, 1]⟩,
       ⟨(some 28), .mov (.tmp 31), none, [2]⟩,
       ⟨(some 32), .ext 0 (.tmp 28), none, [3]⟩,
       ⟨(some 33), .ext 1 (.tmp 28), none, [3]⟩,
       ⟨(some 9), .asg (.tmp 32), none, [4, 2, 0, 1, 2, 3, 4]⟩,
       ⟨(some 10), .asg (.tmp 33), none, [5, 6, 0, 1, 2, 3, 4, 5, 6]⟩])
     (.seq
      (.reg false [
        ⟨(some 35), .mov (.tmp 0), none, []⟩,
        ⟨(some 36), .call 9 [(.tmp 35)], none, [0]⟩,
        ⟨(some 37), .mov (.tmp 1), none, []⟩,
        ⟨(some 38), .call 9 [(.tmp 37)], none, [2, 1]⟩,
        ⟨(some 39), .appd 2 32 (.tmp 36) (.tmp 38), none, [1, 3, 3]⟩,
        ⟨(some 40), .call 15 [(.tmp 39)], none, [4, 4]⟩,
        ⟨(some 34), .mov (.tmp 40), none, [5]⟩,
        ⟨(some 41), .ext 0 (.tmp 34), none, [6]⟩,
        ⟨(some 42), .ext 1 (.tmp 34), none, [6]⟩,
        ⟨(some 11), .asg (.tmp 41), none, [7, 5, 0, 1, 2, 3, 4, 5, 6, 7]⟩,
        ⟨(some 12), .asg (.tmp 42), none, [8, 9, 0, 1, 2, 3, 4, 5, 6, 7, 8, 9]⟩])
      (.seq
       (.seq
        (.reg false [
          ⟨(some 43), .mov (.tmp 8), none, []⟩,
          ⟨(some 44), .bin .neq (.tmp 43) (.val (.int .i64 0)), none, [0]⟩,
          ⟨(some 45), .mov (.tmp 44), none, [1]⟩,
          ⟨(some 46), .mov (.tmp 10), (some (45, false)), [2]⟩,
          ⟨(some 47), .bin .neq (.tmp 46) (.val (.int .i64 0)), (some (45, false)), [3, 2]⟩,
          ⟨(some 48), .pick (.tmp 45) (.val (.bool true)) (.tmp 47), none, [2, 4]⟩,
          ⟨(some 49), .mov (.tmp 48), none, [5, 2]⟩,
          ⟨(some 50), .mov (.tmp 7), (some (49, false)), [6]⟩,
          ⟨(some 51), .len false (.tmp 50), (some (49, false)), [7, 6]⟩,
          ⟨(some 52), .mov (.tmp 9), (some (49, false)), [6]⟩,
          ⟨(some 53), .len false (.tmp 52), (some (49, false)), [9, 6]⟩,
          ⟨(some 54), .bin .add (.tmp 51) (.tmp 53), (some (49, false)), [8, 10, 6]⟩,
          ⟨(some 55), .bin .gtr (.tmp 54) (.val (.int .i64 1492)), (some (49, false)), [11, 6]⟩,
          ⟨(some 56), .pick (.tmp 49) (.val (.bool true)) (.tmp 55), none, [6, 12]⟩])
        (.cond (.tmp 56)
         (.seq
          (.reg false [
            ⟨(some 57), .mov (.tmp 12), none, []⟩,
            ⟨(some 58), .bin .eql (.tmp 57) (.val (.int .i64 2)), none, [0]⟩,
            ⟨(some 59), .mov (.tmp 58), none, [1]⟩,
            ⟨(some 60), .mov (.tmp 11), (some (59, true)), [2]⟩,
            ⟨(some 61), .len false (.tmp 60), (some (59, true)), [3, 2]⟩,
            ⟨(some 62), .bin .eql (.tmp 61) (.val (.int .i64 0)), (some (59, true)), [4, 2]⟩,
            ⟨(some 63), .pick (.tmp 59) (.tmp 62) (.val (.bool false)), none, [2, 5]⟩,
            ⟨(some 6), .asg (.tmp 63), none, [6, 2, 0, 1, 2, 3, 4, 5, 6]⟩])
          .ret)
         .skip))
       (.seq
        (.seq
         (.reg false [
           ⟨(some 64), .mov (.tmp 12), none, []⟩,
           ⟨(some 65), .bin .neq (.tmp 64) (.val (.int .i64 0)), none, [0]⟩,
           ⟨(some 66), .mov (.tmp 65), none, [1]⟩,
           ⟨(some 67), .mov (.tmp 11), (some (66, false)), [2]⟩,
           ⟨(some 68), .mov (.tmp 7), (some (66, false)), [2]⟩,
           ⟨(some 69), .call 18 [(.tmp 68)], (some (66, false)), [4, 2, 2]⟩,
           ⟨(some 70), .mov (.tmp 9), (some (66, false)), [2]⟩,
           ⟨(some 71), .appd 1 1 (.tmp 69) (.tmp 70), (some (66, false)), [5, 6, 5, 2]⟩,
           ⟨(some 72), .call 16 [(.tmp 67), (.tmp 71)], (some (66, false)), [3, 7, 7, 2]⟩,
           ⟨(some 73), .un .not (.tmp 72), (some (66, false)), [8, 2]⟩,
           ⟨(some 74), .pick (.tmp 66) (.val (.bool true)) (.tmp 73), none, [2, 9]⟩])
         (.cond (.tmp 74)
          (.seq
           (.reg false [
             ⟨(some 6), .asg (.val (.bool false)), none, []⟩])
           .ret)
          .skip))
        (.seq
         (.reg false [
           ⟨(some 75), .mov (.tmp 2), none, []⟩,
           ⟨(some 76), .conv .i64 (.tmp 75), none, [0]⟩,
           ⟨(some 77), .mov (.tmp 11), none, []⟩,
           ⟨(some 78), .len false (.tmp 77), none, [2]⟩,
           ⟨(some 79), .bin .add (.tmp 78) (.val (.int .i64 1)), none, [3]⟩,
           ⟨(some 80), .bin .rem (.tmp 76) (.tmp 79), none, [1, 4]⟩,
           ⟨(some 13), .asg (.tmp 80), none, [5, 0, 1, 2, 3, 4, 5]⟩])
         (.seq
          (.reg false [
            ⟨(some 82), .mov (.tmp 11), none, []⟩,
            ⟨(some 83), .mov (.tmp 13), none, []⟩,
            ⟨(some 84), .slice 1 (.tmp 82) none (some (.tmp 83)), none, [0, 1]⟩,
            ⟨(some 85), .call 12 [(.tmp 84)], none, [2]⟩,
            ⟨(some 81), .mov (.tmp 85), none, [3]⟩,
            ⟨(some 86), .ext 0 (.tmp 81), none, [4]⟩,
            ⟨(some 87), .ext 1 (.tmp 81), none, [4]⟩,
            ⟨(some 14), .asg (.tmp 86), none, [5, 3, 0, 1, 2, 3, 4, 5]⟩,
            ⟨(some 15), .asg (.tmp 87), none, [6, 7, 0, 1, 2, 3, 4, 5, 6, 7]⟩])
          (.seq
           (.reg false [
             ⟨(some 16), .asg (.val (.int .i64 0)), none, []⟩,
             ⟨(some 17), .asg (.val (.int .i64 0)), none, [0, 0]⟩])
           (.seq
            (.seq
             (.reg false [
               ⟨(some 88), .mov (.tmp 0), none, []⟩,
               ⟨(some 89), .call 9 [(.tmp 88)], none, [0]⟩,
               ⟨(some 90), .mov (.tmp 1), none, []⟩,
               ⟨(some 91), .appd 2 32 (.tmp 89) (.tmp 90), none, [1, 2, 1]⟩,
               ⟨(some 92), .len false (.tmp 91), none, [3]⟩,
               ⟨(some 93), .mov (.val (.int .i64 0)), none, []⟩])
             (.block 0
              (.loop [] lp5x0)))
            (.seq
             (.seq
              (.reg false [
                ⟨(some 108), .mov (.tmp 17), none, []⟩,
                ⟨(some 109), .mov (.tmp 13), none, []⟩,
                ⟨(some 110), .bin .leq (.tmp 108) (.tmp 109), none, [0, 1]⟩])
              (.cond (.tmp 110)
               (.reg false [
                 ⟨(some 111), .mov (.tmp 17), none, []⟩,
                 ⟨(some 16), .asg (.tmp 111), none, [0, 0]⟩])
               .skip))
             (.seq
              (.reg false [
                ⟨(some 112), .mov (.tmp 15), none, []⟩,
                ⟨(some 113), .bin .eql (.tmp 112) (.val (.int .i64 0)), none, [0]⟩,
                ⟨(some 114), .mov (.tmp 16), none, []⟩,
                ⟨(some 115), .mov (.tmp 13), none, []⟩,
                ⟨(some 116), .bin .eql (.tmp 114) (.tmp 115), none, [2, 3]⟩,
                ⟨(some 117), .eq .bool false (.tmp 113) (.tmp 116), none, [1, 4]⟩,
                ⟨(some 118), .mov (.tmp 117), none, [5]⟩,
                ⟨(some 119), .mov (.tmp 15), (some (118, true)), [6]⟩,
                ⟨(some 120), .bin .eql (.tmp 119) (.val (.int .i64 0)), (some (118, true)), [7, 6]⟩,
                ⟨(some 121), .mov (.tmp 120), (some (118, true)), [8, 6, 6]⟩,
                ⟨(some 122), .mov (.tmp 15), (some (121, false)), [9]⟩,
                ⟨(some 123), .bin .eql (.tmp 122) (.val (.int .i64 3)), (some (121, false)), [10, 9]⟩,
                ⟨(some 124), .mov (.tmp 123), (some (121, false)), [11, 9, 9]⟩,
                ⟨(some 125), .mov (.tmp 14), (some (124, true)), [12]⟩,
                ⟨(some 126), .len false (.tmp 125), (some (124, true)), [13, 12]⟩,
                ⟨(some 127), .bin .eql (.tmp 126) (.val (.int .i64 0)), (some (124, true)), [14, 12]⟩,
                ⟨(some 128), .pick (.tmp 124) (.tmp 127) (.val (.bool false)), (some (121, false)), [12, 15, 9]⟩,
                ⟨(some 129), .pick (.tmp 121) (.val (.bool true)) (.tmp 128), (some (118, true)), [9, 16, 6]⟩,
                ⟨(some 130), .pick (.tmp 118) (.tmp 129) (.val (.bool false)), none, [6, 17]⟩,
                ⟨(some 6), .asg (.tmp 130), none, [18, 12, 0, 1, 2, 3, 4, 5, 6, 7, 8, 9, 10, 11, 12, 13, 14, 15, 16, 17, 18]⟩])
              .ret))))))))))))),
 [.tmp 6]⟩
theorem ok5 : FdOk Try.prog 5 fd5 := FdOk.of (by kernel_rfl)
abbrev T5 : List Nat := [129, 128, 127, 14, 123, 120, 117, 16, 15, 107, 102, 19, 17, 91, 85, 13, 2, 73, 65, 62, 11, 58, 12, 55, 9, 7, 48, 47, 10, 44, 8, 40, 31, 1, 25, 0]
theorem hT5 : fd5.body.T = T5 := by kernel_rfl

def lp6x0 : Cd :=
 (.seq
  (.reg false [
    ⟨(some 58), .bin .lss (.tmp 57) (.tmp 56), none, []⟩])
  (.seq
   (.cond (.tmp 58)
    .skip
    (.exit 2))
   (.seq
    (.block 3
     (.seq
      (.reg false [
        ⟨(some 59), .mov (.tmp 57), none, []⟩,
        ⟨(some 13), .asg (.tmp 59), none, [0, 0]⟩])
      (.reg false [
        ⟨(some 60), .mov (.tmp 10), none, []⟩,
        ⟨(some 61), .mov (.tmp 12), none, []⟩,
        ⟨(some 62), .idxA 1 (.tmp 60) (.tmp 61), none, [0, 1]⟩,
        ⟨(some 63), .load none (.tmp 62), none, [2]⟩,
        ⟨(some 64), .mov (.tmp 13), none, []⟩,
        ⟨(some 65), .idxA 1 (.tmp 63) (.tmp 64), none, [3, 4]⟩,
        ⟨(some 66), .load none (.tmp 65), none, [5]⟩,
        ⟨(some 67), .bin .xor (.tmp 66) (.val (.int .u8 1)), none, [6]⟩,
        ⟨(some 68), .idxA 1 (.tmp 63) (.tmp 64), none, [3, 4, 0, 1, 2, 3, 4, 5, 6, 7]⟩,
        ⟨none, .store 1 (.tmp 68) (.tmp 67), none, [8, 7, 0, 1, 2, 3, 4, 5, 6, 7]⟩])))
    (.reg false [
      ⟨(some 69), .bin .add (.tmp 57) (.val (.int .i64 1)), none, []⟩,
      ⟨(some 57), .mov (.tmp 69), none, [0]⟩]))))
def lp6x1 : Cd :=
 (.seq
  (.reg false [
    ⟨(some 50), .bin .lss (.tmp 49) (.tmp 48), none, []⟩])
  (.seq
   (.cond (.tmp 50)
    .skip
    (.exit 0))
   (.seq
    (.block 1
     (.seq
      (.reg false [
        ⟨(some 51), .mov (.tmp 49), none, []⟩,
        ⟨(some 12), .asg (.tmp 51), none, [0, 0]⟩])
      (.seq
       (.reg false [
         ⟨(some 52), .mov (.tmp 10), none, []⟩,
         ⟨(some 53), .mov (.tmp 12), none, []⟩,
         ⟨(some 54), .idxA 1 (.tmp 52) (.tmp 53), none, [0, 1]⟩,
         ⟨(some 55), .load none (.tmp 54), none, [2]⟩,
         ⟨(some 56), .len false (.tmp 55), none, [3]⟩,
         ⟨(some 57), .mov (.val (.int .i64 0)), none, []⟩])
       (.block 2
        (.loop [] lp6x0)))))
    (.reg false [
      ⟨(some 70), .bin .add (.tmp 49) (.val (.int .i64 1)), none, []⟩,
      ⟨(some 49), .mov (.tmp 70), none, [0]⟩]))))
/-- waymark/waymarklaw04.TlvJoins -/
def fd6 : Fd := ⟨116,
 (.seq
  (.reg false [
    ⟨(some 4), .asg (.val (.bool false)), none, []⟩])
  (.seq
   (.seq
    (.reg false [
      ⟨(some 16), .call 7 [], none, []⟩,
      ⟨(some 17), .un .not (.tmp 16), none, [0]⟩])
    (.cond (.tmp 17)
     (.seq
      (.reg false [
        ⟨(some 4), .asg (.val (.bool false)), none, []⟩])
      .ret)
     .skip))
   (.seq
    (.reg false [
      ⟨(some 18), .mov (.tmp 0), none, []⟩,
      ⟨(some 19), .call 9 [(.tmp 18)], none, [0]⟩,
      ⟨(some 20), .build [(.int .u8 0), .nils] [(0, 1, (.val (.int .u8 77)))], none, []⟩,
      ⟨(some 21), .bslice true 2 1 [(.int .u8 0), .nils] [(0, 2, (.tmp 20))], none, [2]⟩,
      ⟨(some 22), .appd 2 32 (.tmp 19) (.tmp 21), none, [1, 3, 1]⟩,
      ⟨(some 5), .asg (.tmp 22), none, [4, 4, 0, 1, 2, 3, 4]⟩])
    (.seq
     (.reg false [
       ⟨(some 24), .mov (.tmp 5), none, []⟩,
       ⟨(some 25), .mov (.tmp 0), none, []⟩,
       ⟨(some 26), .len false (.tmp 25), none, [1]⟩,
       ⟨(some 27), .slice 2 (.tmp 24) none (some (.tmp 26)), none, [0, 2]⟩,
       ⟨(some 28), .call 15 [(.tmp 27)], none, [3]⟩,
       ⟨(some 23), .mov (.tmp 28), none, [4]⟩,
       ⟨(some 29), .ext 0 (.tmp 23), none, [5]⟩,
       ⟨(some 30), .ext 1 (.tmp 23), none, [5]⟩,
       ⟨(some 6), .asg (.tmp 29), none, [6, 4, 0, 1, 2, 3, 4, 5, 6]⟩,
       ⟨(some 7), .asg (.tmp 30), none, [7, 8, 0, 1, 2, 3, 4, 5, 6, 7, 8]⟩])
     (.seq
      (.reg false [
        ⟨(some 32), .mov (.tmp 0), none, []⟩,
        ⟨(some 33), .call 19 [(.tmp 32)], none, [0]⟩,
        ⟨(some 31), .mov (.tmp 33), none, [1]⟩,
        ⟨(some 34), .ext 0 (.tmp 31), none, [2]⟩,
        ⟨(some 35), .ext 1 (.tmp 31), none, [2]⟩,
        ⟨(some 8), .asg (.tmp 34), none, [3, 1, 0, 1, 2, 3]⟩,
        ⟨(some 9), .asg (.tmp 35), none, [4, 5, 0, 1, 2, 3, 4, 5]⟩])
      (.seq
       (.reg false [
         ⟨(some 36), .mov (.tmp 5), none, []⟩,
         ⟨(some 37), .mov (.tmp 0), none, []⟩,
         ⟨(some 38), .len false (.tmp 37), none, [1]⟩,
         ⟨(some 39), .slice 2 (.tmp 36) none (some (.tmp 38)), none, [0, 2]⟩,
         ⟨(some 40), .mov (.tmp 1), none, []⟩,
         ⟨(some 41), .call 8 [(.tmp 39), (.tmp 40)], none, [3, 4]⟩,
         ⟨(some 10), .asg (.tmp 41), none, [5, 5, 0, 1, 2, 3, 4, 5]⟩])
       (.seq
        (.reg false [
          ⟨(some 42), .mov (.tmp 10), none, []⟩,
          ⟨(some 43), .mov (.tmp 0), none, []⟩,
          ⟨(some 44), .mov (.tmp 1), none, []⟩,
          ⟨(some 45), .call 20 [(.tmp 43), (.tmp 44)], none, [1, 2]⟩,
          ⟨(some 46), .call 10 [(.tmp 42), (.tmp 45)], none, [0, 3, 3]⟩,
          ⟨(some 11), .asg (.tmp 46), none, [4, 4, 0, 1, 2, 3, 4]⟩])
        (.seq
         (.seq
          (.reg false [
            ⟨(some 47), .mov (.tmp 10), none, []⟩,
            ⟨(some 48), .len false (.tmp 47), none, [0]⟩,
            ⟨(some 49), .mov (.val (.int .i64 0)), none, []⟩])
          (.block 0
           (.loop [] lp6x1)))
         (.seq
          (.seq
           (.reg false [
             ⟨(some 71), .mov (.tmp 6), none, []⟩,
             ⟨(some 72), .mov (.tmp 8), none, []⟩,
             ⟨(some 73), .call 16 [(.tmp 71), (.tmp 72)], none, [0, 1]⟩,
             ⟨(some 74), .un .not (.tmp 73), none, [2]⟩,
             ⟨(some 75), .mov (.tmp 74), none, [3, 2]⟩,
             ⟨(some 76), .mov (.tmp 7), (some (75, false)), [4]⟩,
             ⟨(some 77), .mov (.tmp 9), (some (75, false)), [4]⟩,
             ⟨(some 78), .bin .neq (.tmp 76) (.tmp 77), (some (75, false)), [5, 6, 4]⟩,
             ⟨(some 79), .pick (.tmp 75) (.val (.bool true)) (.tmp 78), none, [4, 7]⟩,
             ⟨(some 80), .mov (.tmp 79), none, [8, 4]⟩,
             ⟨(some 81), .mov (.tmp 11), (some (80, false)), [9]⟩,
             ⟨(some 82), .un .not (.tmp 81), (some (80, false)), [10, 9]⟩,
             ⟨(some 83), .pick (.tmp 80) (.val (.bool true)) (.tmp 82), none, [9, 11]⟩,
             ⟨(some 84), .mov (.tmp 83), none, [12, 9]⟩,
             ⟨(some 85), .mov (.tmp 5), (some (84, false)), [13]⟩,
             ⟨(some 86), .mov (.tmp 0), (some (84, false)), [13]⟩,
             ⟨(some 87), .len false (.tmp 86), (some (84, false)), [15, 13]⟩,
             ⟨(some 88), .slice 2 (.tmp 85) none (some (.tmp 87)), (some (84, false)), [14, 16, 13]⟩,
             ⟨(some 89), .mov (.tmp 0), (some (84, false)), [13]⟩,
             ⟨(some 90), .call 14 [(.tmp 88), (.tmp 89)], (some (84, false)), [17, 18, 13, 13]⟩,
             ⟨(some 91), .un .not (.tmp 90), (some (84, false)), [19, 13]⟩,
             ⟨(some 92), .pick (.tmp 84) (.val (.bool true)) (.tmp 91), none, [13, 20]⟩,
             ⟨(some 93), .mov (.tmp 92), none, [21, 19]⟩,
             ⟨(some 94), .mov (.tmp 5), (some (93, false)), [22]⟩,
             ⟨(some 95), .mov (.tmp 0), (some (93, false)), [22]⟩,
             ⟨(some 96), .len false (.tmp 95), (some (93, false)), [24, 22]⟩,
             ⟨(some 97), .idxA 2 (.tmp 94) (.tmp 96), (some (93, false)), [23, 25, 22]⟩,
             ⟨(some 98), .fadr 0 (.tmp 97), (some (93, false)), [26, 22]⟩,
             ⟨(some 99), .load none (.tmp 98), (some (93, false)), [27, 22]⟩,
             ⟨(some 100), .bin .neq (.tmp 99) (.val (.int .u8 77)), (some (93, false)), [28, 22]⟩,
             ⟨(some 101), .pick (.tmp 93) (.val (.bool true)) (.tmp 100), none, [22, 29]⟩])
           (.cond (.tmp 101)
            (.seq
             (.reg false [
               ⟨(some 4), .asg (.val (.bool false)), none, []⟩])
             .ret)
            .skip))
          (.seq
           (.seq
            (.reg false [
              ⟨(some 102), .mov (.tmp 7), none, []⟩,
              ⟨(some 103), .bin .neq (.tmp 102) (.val (.int .i64 0)), none, [0]⟩])
            (.cond (.tmp 103)
             (.seq
              (.reg false [
                ⟨(some 4), .asg (.val (.bool true)), none, []⟩])
              .ret)
             .skip))
           (.seq
            (.reg false [
              ⟨(some 105), .mov (.tmp 6), none, []⟩,
              ⟨(some 106), .call 12 [(.tmp 105)], none, [0]⟩,
              ⟨(some 104), .mov (.tmp 106), none, [1]⟩,
              ⟨(some 107), .ext 0 (.tmp 104), none, [2]⟩,
              ⟨(some 108), .ext 1 (.tmp 104), none, [2]⟩,
              ⟨(some 14), .asg (.tmp 107), none, [3, 1, 0, 1, 2, 3]⟩,
              ⟨(some 15), .asg (.tmp 108), none, [4, 5, 0, 1, 2, 3, 4, 5]⟩])
            (.seq
             (.reg false [
               ⟨(some 109), .mov (.tmp 15), none, []⟩,
               ⟨(some 110), .bin .eql (.tmp 109) (.val (.int .i64 0)), none, [0]⟩,
               ⟨(some 111), .mov (.tmp 110), none, [1]⟩,
               ⟨(some 112), .mov (.tmp 14), (some (111, true)), [2]⟩,
               ⟨(some 113), .mov (.tmp 0), (some (111, true)), [2]⟩,
               ⟨(some 114), .call 14 [(.tmp 112), (.tmp 113)], (some (111, true)), [3, 4, 2, 2]⟩,
               ⟨(some 115), .pick (.tmp 111) (.tmp 114) (.val (.bool false)), none, [2, 5]⟩,
               ⟨(some 4), .asg (.tmp 115), none, [6, 5, 0, 1, 2, 3, 4, 5, 6]⟩])
             .ret)))))))))))),
 [.tmp 4]⟩
theorem ok6 : FdOk Try.prog 6 fd6 := FdOk.of (by kernel_rfl)
abbrev T6 : List Nat := [114, 14, 110, 15, 106, 100, 98, 97, 94, 92, 91, 83, 82, 11, 79, 78, 9, 7, 74, 8, 6, 70, 69, 65, 63, 13, 62, 60, 57, 54, 52, 12, 49, 10, 1, 33, 28, 5, 0]
theorem hT6 : fd6.body.T = T6 := by kernel_rfl

/-- waymark/waymarklaw04.awake -/
def fd7 : Fd := ⟨19,
 (.seq
  (.reg false [
    ⟨(some 0), .asg (.val (.bool false)), none, []⟩])
  (.seq
   (.reg false [
     ⟨(some 4), .bslice false 1 2 [(.int .u8 0)] [(0, 1, (.val (.int .u8 97))), (1, 1, (.val (.int .u8 98)))], none, []⟩,
     ⟨(some 5), .cvb (.tmp 4), none, [0]⟩,
     ⟨(some 6), .build [(.int .u8 0), .nils] [(0, 1, (.val (.int .u8 1))), (1, 1, (.tmp 5))], none, [1]⟩,
     ⟨(some 7), .build [(.int .u8 0), .nils] [(0, 1, (.val (.int .u8 9)))], none, []⟩,
     ⟨(some 8), .bslice true 2 2 [(.int .u8 0), .nils] [(0, 2, (.tmp 6)), (2, 2, (.tmp 7))], none, [2, 3]⟩,
     ⟨(some 9), .call 15 [(.tmp 8)], none, [4]⟩,
     ⟨(some 3), .mov (.tmp 9), none, [5]⟩,
     ⟨(some 10), .ext 0 (.tmp 3), none, [6]⟩,
     ⟨(some 11), .ext 1 (.tmp 3), none, [6]⟩,
     ⟨(some 1), .asg (.tmp 10), none, [7, 5, 0, 1, 2, 3, 4, 5, 6, 7]⟩,
     ⟨(some 2), .asg (.tmp 11), none, [8, 9, 0, 1, 2, 3, 4, 5, 6, 7, 8, 9]⟩])
   (.seq
    (.reg false [
      ⟨(some 12), .mov (.tmp 2), none, []⟩,
      ⟨(some 13), .bin .eql (.tmp 12) (.val (.int .i64 0)), none, [0]⟩,
      ⟨(some 14), .mov (.tmp 13), none, [1]⟩,
      ⟨(some 15), .mov (.tmp 1), (some (14, true)), [2]⟩,
      ⟨(some 16), .bslice false 1 6 [(.int .u8 0)] [(0, 1, (.val (.int .u8 1))), (1, 1, (.val (.int .u8 2))), (2, 1, (.val (.int .u8 97))), (3, 1, (.val (.int .u8 98))), (4, 1, (.val (.int .u8 9))), (5, 1, (.val (.int .u8 0)))], (some (14, true)), [2]⟩,
      ⟨(some 17), .call 16 [(.tmp 15), (.tmp 16)], (some (14, true)), [3, 4, 2, 2]⟩,
      ⟨(some 18), .pick (.tmp 14) (.tmp 17) (.val (.bool false)), none, [2, 5]⟩,
      ⟨(some 0), .asg (.tmp 18), none, [6, 5, 0, 1, 2, 3, 4, 5, 6]⟩])
    .ret))),
 [.tmp 0]⟩
theorem ok7 : FdOk Try.prog 7 fd7 := FdOk.of (by kernel_rfl)
abbrev T7 : List Nat := [17, 1, 13, 2, 9]
theorem hT7 : fd7.body.T = T7 := by kernel_rfl

def lp8x0 : Cd :=
 (.seq
  (.reg false [
    ⟨(some 11), .bin .lss (.tmp 10) (.tmp 9), none, []⟩])
  (.seq
   (.cond (.tmp 11)
    .skip
    (.exit 0))
   (.seq
    (.block 1
     (.seq
      (.reg false [
        ⟨(some 12), .idxA 2 (.tmp 8) (.tmp 10), none, []⟩,
        ⟨(some 13), .load (some 2) (.tmp 12), none, [0]⟩,
        ⟨(some 7), .alloc [(.int .u8 0), .nils], none, []⟩,
        ⟨none, .store 2 (.tmp 7) (.tmp 13), none, [2, 1, 0, 1, 2]⟩])
      (.seq
       (.reg false [
         ⟨(some 14), .fadr 0 (.tmp 7), none, []⟩,
         ⟨(some 15), .load none (.tmp 14), none, [0]⟩,
         ⟨(some 16), .mov (.tmp 1), none, []⟩,
         ⟨(some 17), .bin .eql (.tmp 15) (.tmp 16), none, [1, 2]⟩])
       (.cond (.tmp 17)
        (.reg false [
          ⟨(some 18), .mov (.tmp 5), none, []⟩,
          ⟨(some 19), .bslice false 1 0 [(.int .u8 0)] [], none, []⟩,
          ⟨(some 20), .fadr 1 (.tmp 7), none, []⟩,
          ⟨(some 21), .load none (.tmp 20), none, [2]⟩,
          ⟨(some 22), .appd 1 1 (.tmp 19) (.tmp 21), none, [1, 3]⟩,
          ⟨(some 23), .bslice false 1 1 [.nils] [(0, 1, (.tmp 22))], none, [4]⟩,
          ⟨(some 24), .appd 1 24 (.tmp 18) (.tmp 23), none, [0, 5, 4]⟩,
          ⟨(some 5), .asg (.tmp 24), none, [6, 6, 0, 1, 2, 3, 4, 5, 6]⟩])
        .skip))))
    (.reg false [
      ⟨(some 25), .bin .add (.tmp 10) (.val (.int .i64 1)), none, []⟩,
      ⟨(some 10), .mov (.tmp 25), none, [0]⟩]))))
/-- waymark/tlv.Of -/
def fd8 : Fd := ⟨27,
 (.seq
  (.reg false [
    ⟨(some 4), .asg (.val .nils), none, []⟩])
  (.seq
   (.reg false [
     ⟨(some 5), .asg (.val .nils), none, []⟩])
   (.seq
    (.seq
     (.reg false [
       ⟨(some 8), .mov (.tmp 0), none, []⟩,
       ⟨(some 9), .len false (.tmp 8), none, [0]⟩,
       ⟨(some 10), .mov (.val (.int .i64 0)), none, []⟩])
     (.block 0
      (.loop [] lp8x0)))
    (.seq
     (.reg false [
       ⟨(some 26), .mov (.tmp 5), none, []⟩,
       ⟨(some 4), .asg (.tmp 26), none, [0, 0]⟩])
     .ret)))),
 [.tmp 4]⟩
theorem ok8 : FdOk Try.prog 8 fd8 := FdOk.of (by kernel_rfl)
abbrev T8 : List Nat := [25, 20, 5, 1, 14, 7, 8, 0]
theorem hT8 : fd8.body.T = T8 := by kernel_rfl

def lp9x0 : Cd :=
 (.seq
  (.reg false [
    ⟨(some 9), .bin .lss (.tmp 8) (.tmp 7), none, []⟩])
  (.seq
   (.cond (.tmp 9)
    .skip
    (.exit 0))
   (.seq
    (.block 1
     (.seq
      (.reg false [
        ⟨(some 10), .idxA 2 (.tmp 6) (.tmp 8), none, []⟩,
        ⟨(some 11), .load (some 2) (.tmp 10), none, [0]⟩,
        ⟨(some 5), .alloc [(.int .u8 0), .nils], none, []⟩,
        ⟨none, .store 2 (.tmp 5) (.tmp 11), none, [2, 1, 0, 1, 2]⟩])
      (.reg true [
        ⟨(some 12), .mov (.tmp 3), none, []⟩,
        ⟨(some 13), .fadr 0 (.tmp 5), none, []⟩,
        ⟨(some 14), .load none (.tmp 13), none, [1]⟩,
        ⟨(some 15), .fadr 1 (.tmp 5), none, []⟩,
        ⟨(some 16), .load none (.tmp 15), none, [3]⟩,
        ⟨(some 17), .call 18 [(.tmp 16)], none, [4]⟩,
        ⟨(some 18), .build [(.int .u8 0), .nils] [(0, 1, (.tmp 14)), (1, 1, (.tmp 17))], none, [2, 5]⟩,
        ⟨(some 19), .bslice true 2 1 [(.int .u8 0), .nils] [(0, 2, (.tmp 18))], none, [6]⟩,
        ⟨(some 20), .appd 2 32 (.tmp 12) (.tmp 19), none, [0, 7, 5]⟩,
        ⟨(some 3), .asg (.tmp 20), none, [8, 8, 0, 1, 2, 3, 4, 5, 6, 7, 8]⟩])))
    (.reg false [
      ⟨(some 21), .bin .add (.tmp 8) (.val (.int .i64 1)), none, []⟩,
      ⟨(some 8), .mov (.tmp 21), none, [0]⟩]))))
/-- waymark/waymarkref04.Twin -/
def fd9 : Fd := ⟨23,
 (.seq
  (.reg false [
    ⟨(some 2), .asg (.val .nils), none, []⟩])
  (.seq
   (.reg false [
     ⟨(some 3), .asg (.val .nils), none, []⟩])
   (.seq
    (.seq
     (.reg false [
       ⟨(some 6), .mov (.tmp 0), none, []⟩,
       ⟨(some 7), .len false (.tmp 6), none, [0]⟩,
       ⟨(some 8), .mov (.val (.int .i64 0)), none, []⟩])
     (.block 0
      (.loop [] lp9x0)))
    (.seq
     (.reg false [
       ⟨(some 22), .mov (.tmp 3), none, []⟩,
       ⟨(some 2), .asg (.tmp 22), none, [0, 0]⟩])
     .ret)))),
 [.tmp 2]⟩
theorem ok9 : FdOk Try.prog 9 fd9 := FdOk.of (by kernel_rfl)
abbrev T9 : List Nat := [21, 15, 13, 5, 3, 6, 0]
theorem hT9 : fd9.body.T = T9 := by kernel_rfl

def lp10x0 : Cd :=
 (.seq
  (.reg false [
    ⟨(some 14), .bin .lss (.tmp 13) (.tmp 12), none, []⟩])
  (.seq
   (.cond (.tmp 14)
    .skip
    (.exit 0))
   (.seq
    (.block 1
     (.seq
      (.reg false [
        ⟨(some 15), .mov (.tmp 13), none, []⟩,
        ⟨(some 5), .asg (.tmp 15), none, [0, 0]⟩])
      (.seq
       (.reg true [
         ⟨(some 16), .mov (.tmp 0), none, []⟩,
         ⟨(some 17), .mov (.tmp 5), none, []⟩,
         ⟨(some 18), .idxA 1 (.tmp 16) (.tmp 17), none, [0, 1]⟩,
         ⟨(some 19), .load none (.tmp 18), none, [2]⟩,
         ⟨(some 20), .mov (.tmp 1), none, []⟩,
         ⟨(some 21), .mov (.tmp 5), none, []⟩,
         ⟨(some 22), .idxA 1 (.tmp 20) (.tmp 21), none, [4, 5]⟩,
         ⟨(some 23), .load none (.tmp 22), none, [6]⟩,
         ⟨(some 24), .call 16 [(.tmp 19), (.tmp 23)], none, [3, 7]⟩,
         ⟨(some 25), .un .not (.tmp 24), none, [8]⟩])
       (.cond (.tmp 25)
        (.seq
         (.reg false [
           ⟨(some 4), .asg (.val (.bool false)), none, []⟩])
         .ret)
        .skip))))
    (.reg false [
      ⟨(some 26), .bin .add (.tmp 13) (.val (.int .i64 1)), none, []⟩,
      ⟨(some 13), .mov (.tmp 26), none, [0]⟩]))))
/-- waymark/waymarkref04.SameValues -/
def fd10 : Fd := ⟨27,
 (.seq
  (.reg false [
    ⟨(some 4), .asg (.val (.bool false)), none, []⟩])
  (.seq
   (.seq
    (.reg false [
      ⟨(some 6), .mov (.tmp 0), none, []⟩,
      ⟨(some 7), .len false (.tmp 6), none, [0]⟩,
      ⟨(some 8), .mov (.tmp 1), none, []⟩,
      ⟨(some 9), .len false (.tmp 8), none, [2]⟩,
      ⟨(some 10), .bin .neq (.tmp 7) (.tmp 9), none, [1, 3]⟩])
    (.cond (.tmp 10)
     (.seq
      (.reg false [
        ⟨(some 4), .asg (.val (.bool false)), none, []⟩])
      .ret)
     .skip))
   (.seq
    (.seq
     (.reg false [
       ⟨(some 11), .mov (.tmp 0), none, []⟩,
       ⟨(some 12), .len false (.tmp 11), none, [0]⟩,
       ⟨(some 13), .mov (.val (.int .i64 0)), none, []⟩])
     (.block 0
      (.loop [] lp10x0)))
    (.seq
     (.reg false [
       ⟨(some 4), .asg (.val (.bool true)), none, []⟩])
     .ret)))),
 [.tmp 4]⟩
theorem ok10 : FdOk Try.prog 10 fd10 := FdOk.of (by kernel_rfl)
abbrev T10 : List Nat := [26, 22, 20, 18, 16, 5, 13, 1, 0]
theorem hT10 : fd10.body.T = T10 := by kernel_rfl

/-- waymark/waymarkref01.Spare -/
def fd11 : Fd := ⟨15,
 (.seq
  (.reg false [
    ⟨(some 2), .asg (.val .nils), none, []⟩,
    ⟨(some 3), .asg (.val .nils), none, [0]⟩])
  (.seq
   (.reg false [
     ⟨(some 5), .bslice false 1 0 [(.int .u8 0)] [], none, []⟩,
     ⟨(some 6), .mov (.tmp 0), none, []⟩,
     ⟨(some 7), .appd 1 1 (.tmp 5) (.tmp 6), none, [0, 1]⟩,
     ⟨(some 8), .bslice false 1 3 [(.int .u8 0)] [(0, 1, (.val (.int .u8 165))), (1, 1, (.val (.int .u8 90))), (2, 1, (.val (.int .u8 165)))], none, []⟩,
     ⟨(some 9), .appd 1 1 (.tmp 7) (.tmp 8), none, [2, 3, 2]⟩,
     ⟨(some 4), .asg (.tmp 9), none, [4, 4, 0, 1, 2, 3, 4]⟩])
   (.seq
    (.reg false [
      ⟨(some 10), .mov (.tmp 4), none, []⟩,
      ⟨(some 11), .mov (.tmp 0), none, []⟩,
      ⟨(some 12), .len false (.tmp 11), none, [1]⟩,
      ⟨(some 13), .slice 1 (.tmp 10) none (some (.tmp 12)), none, [0, 2]⟩,
      ⟨(some 14), .mov (.tmp 4), none, []⟩,
      ⟨(some 2), .asg (.tmp 13), none, [3, 0, 1, 2, 3]⟩,
      ⟨(some 3), .asg (.tmp 14), none, [4, 5, 0, 1, 2, 3, 4, 5]⟩])
    .ret))),
 [.tmp 2, .tmp 3]⟩
theorem ok11 : FdOk Try.prog 11 fd11 := FdOk.of (by kernel_rfl)
abbrev T11 : List Nat := [4, 0]
theorem hT11 : fd11.body.T = T11 := by kernel_rfl

def lp12x0 : Cd :=
 (.seq
  (.seq
   (.reg false [
     ⟨(some 9), .mov (.tmp 0), none, []⟩,
     ⟨(some 10), .len false (.tmp 9), none, [0]⟩,
     ⟨(some 11), .bin .gtr (.tmp 10) (.val (.int .i64 0)), none, [1]⟩])
   (.cond (.tmp 11)
    .skip
    (.exit 0)))
  (.block 1
   (.seq
    (.seq
     (.reg false [
       ⟨(some 12), .mov (.tmp 0), none, []⟩,
       ⟨(some 13), .len false (.tmp 12), none, [0]⟩,
       ⟨(some 14), .bin .lss (.tmp 13) (.val (.int .i64 2)), none, [1]⟩,
       ⟨(some 15), .mov (.tmp 14), none, [2]⟩,
       ⟨(some 16), .mov (.tmp 0), (some (15, false)), [3]⟩,
       ⟨(some 17), .len false (.tmp 16), (some (15, false)), [4, 3]⟩,
       ⟨(some 18), .mov (.tmp 0), (some (15, false)), [3]⟩,
       ⟨(some 19), .idxA 1 (.tmp 18) (.val (.int .i64 1)), (some (15, false)), [6, 3]⟩,
       ⟨(some 20), .load none (.tmp 19), (some (15, false)), [7, 3]⟩,
       ⟨(some 21), .conv .i64 (.tmp 20), (some (15, false)), [8, 3]⟩,
       ⟨(some 22), .bin .add (.val (.int .i64 2)) (.tmp 21), (some (15, false)), [9, 3]⟩,
       ⟨(some 23), .bin .lss (.tmp 17) (.tmp 22), (some (15, false)), [5, 10, 3]⟩,
       ⟨(some 24), .pick (.tmp 15) (.val (.bool true)) (.tmp 23), none, [3, 11]⟩])
     (.cond (.tmp 24)
      (.seq
       (.reg false [
         ⟨(some 2), .asg (.val .nils), none, []⟩,
         ⟨(some 3), .asg (.val (.int .i64 3)), none, [0, 0]⟩])
       .ret)
      .skip))
    (.seq
     (.reg false [
       ⟨(some 25), .mov (.tmp 0), none, []⟩,
       ⟨(some 26), .idxA 1 (.tmp 25) (.val (.int .i64 1)), none, [0]⟩,
       ⟨(some 27), .load none (.tmp 26), none, [1]⟩,
       ⟨(some 28), .conv .i64 (.tmp 27), none, [2]⟩,
       ⟨(some 29), .bin .add (.val (.int .i64 2)) (.tmp 28), none, [3]⟩,
       ⟨(some 5), .asg (.tmp 29), none, [4, 0, 1, 2, 3, 4]⟩])
     (.seq
      (.reg true [
        ⟨(some 30), .mov (.tmp 4), none, []⟩,
        ⟨(some 31), .mov (.tmp 0), none, []⟩,
        ⟨(some 32), .idxA 1 (.tmp 31) (.val (.int .i64 0)), none, [1]⟩,
        ⟨(some 33), .load none (.tmp 32), none, [2]⟩,
        ⟨(some 34), .mov (.tmp 0), none, []⟩,
        ⟨(some 35), .mov (.tmp 5), none, []⟩,
        ⟨(some 36), .slice 1 (.tmp 34) (some (.val (.int .i64 2))) (some (.tmp 35)), none, [4, 5]⟩,
        ⟨(some 37), .call 21 [(.tmp 36)], none, [6]⟩,
        ⟨(some 38), .build [(.int .u8 0), .nils] [(0, 1, (.tmp 33)), (1, 1, (.tmp 37))], none, [3, 7]⟩,
        ⟨(some 39), .bslice true 2 1 [(.int .u8 0), .nils] [(0, 2, (.tmp 38))], none, [8]⟩,
        ⟨(some 40), .appd 2 32 (.tmp 30) (.tmp 39), none, [0, 9, 7]⟩,
        ⟨(some 4), .asg (.tmp 40), none, [10, 10, 0, 1, 2, 3, 4, 5, 6, 7, 8, 9, 10]⟩])
      (.reg false [
        ⟨(some 41), .mov (.tmp 0), none, []⟩,
        ⟨(some 42), .mov (.tmp 5), none, []⟩,
        ⟨(some 43), .slice 1 (.tmp 41) (some (.tmp 42)) none, none, [0, 1]⟩,
        ⟨(some 0), .asg (.tmp 43), none, [2, 0, 1, 2]⟩]))))))
/-- waymark/tlv.Split -/
def fd12 : Fd := ⟨45,
 (.seq
  (.reg false [
    ⟨(some 2), .asg (.val .nils), none, []⟩,
    ⟨(some 3), .asg (.val (.int .i64 0)), none, [0]⟩])
  (.seq
   (.seq
    (.reg false [
      ⟨(some 6), .mov (.tmp 0), none, []⟩,
      ⟨(some 7), .len false (.tmp 6), none, [0]⟩,
      ⟨(some 8), .bin .gtr (.tmp 7) (.val (.int .i64 1492)), none, [1]⟩])
    (.cond (.tmp 8)
     (.seq
      (.reg false [
        ⟨(some 2), .asg (.val .nils), none, []⟩,
        ⟨(some 3), .asg (.val (.int .i64 2)), none, [0, 0]⟩])
      .ret)
     .skip))
   (.seq
    (.reg false [
      ⟨(some 4), .asg (.val .nils), none, []⟩])
    (.seq
     (.block 0
      (.loop [] lp12x0))
     (.seq
      (.reg false [
        ⟨(some 44), .mov (.tmp 4), none, []⟩,
        ⟨(some 2), .asg (.tmp 44), none, [0, 0]⟩,
        ⟨(some 3), .asg (.val (.int .i64 0)), none, [1, 0, 1]⟩])
      .ret))))),
 [.tmp 2, .tmp 3]⟩
theorem ok12 : FdOk Try.prog 12 fd12 := FdOk.of (by kernel_rfl)
abbrev T12 : List Nat := [5, 32, 31, 4, 26, 25, 23, 19, 18, 14, 0]
theorem hT12 : fd12.body.T = T12 := by kernel_rfl

def lp13x0 : Cd :=
 (.seq
  (.seq
   (.reg false [
     ⟨(some 10), .mov (.tmp 5), none, []⟩,
     ⟨(some 11), .mov (.tmp 0), none, []⟩,
     ⟨(some 12), .len false (.tmp 11), none, [1]⟩,
     ⟨(some 13), .bin .lss (.tmp 10) (.tmp 12), none, [0, 2]⟩])
   (.cond (.tmp 13)
    .skip
    (.exit 0)))
  (.block 1
   (.seq
    (.seq
     (.reg false [
       ⟨(some 14), .mov (.tmp 5), none, []⟩,
       ⟨(some 15), .mov (.tmp 0), none, []⟩,
       ⟨(some 16), .len false (.tmp 15), none, [1]⟩,
       ⟨(some 17), .bin .sub (.tmp 16) (.val (.int .i64 1)), none, [2]⟩,
       ⟨(some 18), .bin .eql (.tmp 14) (.tmp 17), none, [0, 3]⟩])
     (.cond (.tmp 18)
      (.seq
       (.reg false [
         ⟨(some 2), .asg (.val .nils), none, []⟩,
         ⟨(some 3), .asg (.val (.int .i64 3)), none, [0, 0]⟩])
       .ret)
      .skip))
    (.seq
     (.reg false [
       ⟨(some 19), .mov (.tmp 0), none, []⟩,
       ⟨(some 20), .mov (.tmp 5), none, []⟩,
       ⟨(some 21), .bin .add (.tmp 20) (.val (.int .i64 1)), none, [1]⟩,
       ⟨(some 22), .idxA 1 (.tmp 19) (.tmp 21), none, [0, 2]⟩,
       ⟨(some 23), .load none (.tmp 22), none, [3]⟩,
       ⟨(some 24), .conv .i64 (.tmp 23), none, [4]⟩,
       ⟨(some 6), .asg (.tmp 24), none, [5, 0, 1, 2, 3, 4, 5]⟩])
     (.seq
      (.seq
       (.reg false [
         ⟨(some 25), .mov (.tmp 0), none, []⟩,
         ⟨(some 26), .len false (.tmp 25), none, [0]⟩,
         ⟨(some 27), .mov (.tmp 5), none, []⟩,
         ⟨(some 28), .bin .sub (.tmp 26) (.tmp 27), none, [1, 2]⟩,
         ⟨(some 29), .bin .sub (.tmp 28) (.val (.int .i64 2)), none, [3]⟩,
         ⟨(some 30), .mov (.tmp 6), none, []⟩,
         ⟨(some 31), .bin .lss (.tmp 29) (.tmp 30), none, [4, 5]⟩])
       (.cond (.tmp 31)
        (.seq
         (.reg false [
           ⟨(some 2), .asg (.val .nils), none, []⟩,
           ⟨(some 3), .asg (.val (.int .i64 3)), none, [0, 0]⟩])
         .ret)
        .skip))
      (.seq
       (.reg true [
         ⟨(some 32), .mov (.tmp 4), none, []⟩,
         ⟨(some 33), .mov (.tmp 0), none, []⟩,
         ⟨(some 34), .mov (.tmp 5), none, []⟩,
         ⟨(some 35), .idxA 1 (.tmp 33) (.tmp 34), none, [1, 2]⟩,
         ⟨(some 36), .load none (.tmp 35), none, [3]⟩,
         ⟨(some 37), .mov (.tmp 0), none, []⟩,
         ⟨(some 38), .mov (.tmp 5), none, []⟩,
         ⟨(some 39), .bin .add (.tmp 38) (.val (.int .i64 2)), none, [6]⟩,
         ⟨(some 40), .mov (.tmp 5), none, []⟩,
         ⟨(some 41), .bin .add (.tmp 40) (.val (.int .i64 2)), none, [8]⟩,
         ⟨(some 42), .mov (.tmp 6), none, []⟩,
         ⟨(some 43), .bin .add (.tmp 41) (.tmp 42), none, [9, 10]⟩,
         ⟨(some 44), .slice 1 (.tmp 37) (some (.tmp 39)) (some (.tmp 43)), none, [5, 7, 11]⟩,
         ⟨(some 45), .call 18 [(.tmp 44)], none, [12]⟩,
         ⟨(some 46), .build [(.int .u8 0), .nils] [(0, 1, (.tmp 36)), (1, 1, (.tmp 45))], none, [4, 13]⟩,
         ⟨(some 47), .bslice true 2 1 [(.int .u8 0), .nils] [(0, 2, (.tmp 46))], none, [14]⟩,
         ⟨(some 48), .appd 2 32 (.tmp 32) (.tmp 47), none, [0, 15, 13]⟩,
         ⟨(some 4), .asg (.tmp 48), none, [16, 16, 0, 1, 2, 3, 4, 5, 6, 7, 8, 9, 10, 11, 12, 13, 14, 15, 16]⟩])
       (.reg false [
         ⟨(some 49), .mov (.tmp 5), none, []⟩,
         ⟨(some 50), .mov (.tmp 6), none, []⟩,
         ⟨(some 51), .bin .add (.val (.int .i64 2)) (.tmp 50), none, [1]⟩,
         ⟨(some 52), .bin .add (.tmp 49) (.tmp 51), none, [0, 2]⟩,
         ⟨(some 5), .asg (.tmp 52), none, [3, 0, 1, 2, 3]⟩])))))))
/-- waymark/waymarkref04.DocSplit -/
def fd13 : Fd := ⟨54,
 (.seq
  (.reg false [
    ⟨(some 2), .asg (.val .nils), none, []⟩,
    ⟨(some 3), .asg (.val (.int .i64 0)), none, [0]⟩])
  (.seq
   (.seq
    (.reg false [
      ⟨(some 7), .mov (.tmp 0), none, []⟩,
      ⟨(some 8), .len false (.tmp 7), none, [0]⟩,
      ⟨(some 9), .bin .gtr (.tmp 8) (.val (.int .i64 1492)), none, [1]⟩])
    (.cond (.tmp 9)
     (.seq
      (.reg false [
        ⟨(some 2), .asg (.val .nils), none, []⟩,
        ⟨(some 3), .asg (.val (.int .i64 2)), none, [0, 0]⟩])
      .ret)
     .skip))
   (.seq
    (.reg false [
      ⟨(some 4), .asg (.val .nils), none, []⟩])
    (.seq
     (.reg false [
       ⟨(some 5), .asg (.val (.int .i64 0)), none, []⟩])
     (.seq
      (.block 0
       (.loop [] lp13x0))
      (.seq
       (.reg false [
         ⟨(some 53), .mov (.tmp 4), none, []⟩,
         ⟨(some 2), .asg (.tmp 53), none, [0, 0]⟩,
         ⟨(some 3), .asg (.val (.int .i64 0)), none, [1, 0, 1]⟩])
       .ret)))))),
 [.tmp 2, .tmp 3]⟩
theorem ok13 : FdOk Try.prog 13 fd13 := FdOk.of (by kernel_rfl)
abbrev T13 : List Nat := [35, 33, 4, 6, 22, 19, 5, 0]
theorem hT13 : fd13.body.T = T13 := by kernel_rfl

def lp14x0 : Cd :=
 (.seq
  (.reg false [
    ⟨(some 14), .bin .lss (.tmp 13) (.tmp 12), none, []⟩])
  (.seq
   (.cond (.tmp 14)
    .skip
    (.exit 0))
   (.seq
    (.block 1
     (.seq
      (.reg false [
        ⟨(some 15), .mov (.tmp 13), none, []⟩,
        ⟨(some 5), .asg (.tmp 15), none, [0, 0]⟩])
      (.seq
       (.reg true [
         ⟨(some 16), .mov (.tmp 0), none, []⟩,
         ⟨(some 17), .mov (.tmp 5), none, []⟩,
         ⟨(some 18), .idxA 2 (.tmp 16) (.tmp 17), none, [0, 1]⟩,
         ⟨(some 19), .fadr 0 (.tmp 18), none, [2]⟩,
         ⟨(some 20), .load none (.tmp 19), none, [3]⟩,
         ⟨(some 21), .mov (.tmp 1), none, []⟩,
         ⟨(some 22), .mov (.tmp 5), none, []⟩,
         ⟨(some 23), .idxA 2 (.tmp 21) (.tmp 22), none, [5, 6]⟩,
         ⟨(some 24), .fadr 0 (.tmp 23), none, [7]⟩,
         ⟨(some 25), .load none (.tmp 24), none, [8]⟩,
         ⟨(some 26), .bin .neq (.tmp 20) (.tmp 25), none, [4, 9]⟩,
         ⟨(some 27), .mov (.tmp 26), none, [10]⟩,
         ⟨(some 28), .mov (.tmp 0), (some (27, false)), [11]⟩,
         ⟨(some 29), .mov (.tmp 5), (some (27, false)), [11]⟩,
         ⟨(some 30), .idxA 2 (.tmp 28) (.tmp 29), (some (27, false)), [12, 13, 11]⟩,
         ⟨(some 31), .fadr 1 (.tmp 30), (some (27, false)), [14, 11]⟩,
         ⟨(some 32), .load none (.tmp 31), (some (27, false)), [15, 11]⟩,
         ⟨(some 33), .mov (.tmp 1), (some (27, false)), [11]⟩,
         ⟨(some 34), .mov (.tmp 5), (some (27, false)), [11]⟩,
         ⟨(some 35), .idxA 2 (.tmp 33) (.tmp 34), (some (27, false)), [17, 18, 11]⟩,
         ⟨(some 36), .fadr 1 (.tmp 35), (some (27, false)), [19, 11]⟩,
         ⟨(some 37), .load none (.tmp 36), (some (27, false)), [20, 11]⟩,
         ⟨(some 38), .call 16 [(.tmp 32), (.tmp 37)], (some (27, false)), [16, 21, 11, 11]⟩,
         ⟨(some 39), .un .not (.tmp 38), (some (27, false)), [22, 11]⟩,
         ⟨(some 40), .pick (.tmp 27) (.val (.bool true)) (.tmp 39), none, [11, 23]⟩])
       (.cond (.tmp 40)
        (.seq
         (.reg false [
           ⟨(some 4), .asg (.val (.bool false)), none, []⟩])
         .ret)
        .skip))))
    (.reg false [
      ⟨(some 41), .bin .add (.tmp 13) (.val (.int .i64 1)), none, []⟩,
      ⟨(some 13), .mov (.tmp 41), none, [0]⟩]))))
/-- waymark/waymarkref04.Same -/
def fd14 : Fd := ⟨42,
 (.seq
  (.reg false [
    ⟨(some 4), .asg (.val (.bool false)), none, []⟩])
  (.seq
   (.seq
    (.reg false [
      ⟨(some 6), .mov (.tmp 0), none, []⟩,
      ⟨(some 7), .len false (.tmp 6), none, [0]⟩,
      ⟨(some 8), .mov (.tmp 1), none, []⟩,
      ⟨(some 9), .len false (.tmp 8), none, [2]⟩,
      ⟨(some 10), .bin .neq (.tmp 7) (.tmp 9), none, [1, 3]⟩])
    (.cond (.tmp 10)
     (.seq
      (.reg false [
        ⟨(some 4), .asg (.val (.bool false)), none, []⟩])
      .ret)
     .skip))
   (.seq
    (.seq
     (.reg false [
       ⟨(some 11), .mov (.tmp 0), none, []⟩,
       ⟨(some 12), .len false (.tmp 11), none, [0]⟩,
       ⟨(some 13), .mov (.val (.int .i64 0)), none, []⟩])
     (.block 0
      (.loop [] lp14x0)))
    (.seq
     (.reg false [
       ⟨(some 4), .asg (.val (.bool true)), none, []⟩])
     .ret)))),
 [.tmp 4]⟩
theorem ok14 : FdOk Try.prog 14 fd14 := FdOk.of (by kernel_rfl)
abbrev T14 : List Nat := [41, 39, 36, 35, 33, 31, 30, 28, 26, 24, 23, 21, 19, 18, 16, 5, 13, 1, 0]
theorem hT14 : fd14.body.T = T14 := by kernel_rfl

def lp15x0 : Cd :=
 (.seq
  (.reg false [
    ⟨(some 10), .bin .lss (.tmp 9) (.tmp 8), none, []⟩])
  (.seq
   (.cond (.tmp 10)
    .skip
    (.exit 0))
   (.seq
    (.block 1
     (.seq
      (.reg false [
        ⟨(some 11), .idxA 2 (.tmp 7) (.tmp 9), none, []⟩,
        ⟨(some 12), .load (some 2) (.tmp 11), none, [0]⟩,
        ⟨(some 6), .alloc [(.int .u8 0), .nils], none, []⟩,
        ⟨none, .store 2 (.tmp 6) (.tmp 12), none, [2, 1, 0, 1, 2]⟩])
      (.seq
       (.seq
        (.reg false [
          ⟨(some 13), .fadr 1 (.tmp 6), none, []⟩,
          ⟨(some 14), .load none (.tmp 13), none, [0]⟩,
          ⟨(some 15), .len false (.tmp 14), none, [1]⟩,
          ⟨(some 16), .bin .gtr (.tmp 15) (.val (.int .i64 255)), none, [2]⟩,
          ⟨(some 17), .mov (.tmp 16), none, [3]⟩,
          ⟨(some 18), .mov (.tmp 4), (some (17, false)), [4]⟩,
          ⟨(some 19), .len false (.tmp 18), (some (17, false)), [5, 4]⟩,
          ⟨(some 20), .bin .add (.tmp 19) (.val (.int .i64 2)), (some (17, false)), [6, 4]⟩,
          ⟨(some 21), .fadr 1 (.tmp 6), (some (17, false)), [4]⟩,
          ⟨(some 22), .load none (.tmp 21), (some (17, false)), [8, 4]⟩,
          ⟨(some 23), .len false (.tmp 22), (some (17, false)), [9, 4]⟩,
          ⟨(some 24), .bin .add (.tmp 20) (.tmp 23), (some (17, false)), [7, 10, 4]⟩,
          ⟨(some 25), .bin .gtr (.tmp 24) (.val (.int .i64 1492)), (some (17, false)), [11, 4]⟩,
          ⟨(some 26), .pick (.tmp 17) (.val (.bool true)) (.tmp 25), none, [4, 12]⟩])
        (.cond (.tmp 26)
         (.seq
          (.reg false [
            ⟨(some 2), .asg (.val .nils), none, []⟩,
            ⟨(some 3), .asg (.val (.int .i64 2)), none, [0, 0]⟩])
          .ret)
         .skip))
       (.reg true [
         ⟨(some 27), .mov (.tmp 4), none, []⟩,
         ⟨(some 28), .fadr 0 (.tmp 6), none, []⟩,
         ⟨(some 29), .load none (.tmp 28), none, [1]⟩,
         ⟨(some 30), .fadr 1 (.tmp 6), none, []⟩,
         ⟨(some 31), .load none (.tmp 30), none, [3]⟩,
         ⟨(some 32), .len false (.tmp 31), none, [4]⟩,
         ⟨(some 33), .conv .u8 (.tmp 32), none, [5]⟩,
         ⟨(some 34), .bslice false 1 2 [(.int .u8 0)] [(0, 1, (.tmp 29)), (1, 1, (.tmp 33))], none, [2, 6]⟩,
         ⟨(some 35), .appd 1 1 (.tmp 27) (.tmp 34), none, [0, 7]⟩,
         ⟨(some 36), .fadr 1 (.tmp 6), none, []⟩,
         ⟨(some 37), .load none (.tmp 36), none, [9]⟩,
         ⟨(some 38), .appd 1 1 (.tmp 35) (.tmp 37), none, [8, 10, 8]⟩,
         ⟨(some 4), .asg (.tmp 38), none, [11, 11, 0, 1, 2, 3, 4, 5, 6, 7, 8, 9, 10, 11]⟩]))))
    (.reg false [
      ⟨(some 39), .bin .add (.tmp 9) (.val (.int .i64 1)), none, []⟩,
      ⟨(some 9), .mov (.tmp 39), none, [0]⟩]))))
/-- waymark/tlv.Join -/
def fd15 : Fd := ⟨41,
 (.seq
  (.reg false [
    ⟨(some 2), .asg (.val .nils), none, []⟩,
    ⟨(some 3), .asg (.val (.int .i64 0)), none, [0]⟩])
  (.seq
   (.reg false [
     ⟨(some 4), .asg (.val .nils), none, []⟩])
   (.seq
    (.seq
     (.reg false [
       ⟨(some 7), .mov (.tmp 0), none, []⟩,
       ⟨(some 8), .len false (.tmp 7), none, [0]⟩,
       ⟨(some 9), .mov (.val (.int .i64 0)), none, []⟩])
     (.block 0
      (.loop [] lp15x0)))
    (.seq
     (.reg false [
       ⟨(some 40), .mov (.tmp 4), none, []⟩,
       ⟨(some 2), .asg (.tmp 40), none, [0, 0]⟩,
       ⟨(some 3), .asg (.val (.int .i64 0)), none, [1, 0, 1]⟩])
     .ret)))),
 [.tmp 2, .tmp 3]⟩
theorem ok15 : FdOk Try.prog 15 fd15 := FdOk.of (by kernel_rfl)
abbrev T15 : List Nat := [39, 36, 30, 28, 25, 21, 4, 16, 13, 6, 7, 0]
theorem hT15 : fd15.body.T = T15 := by kernel_rfl

def lp16x0 : Cd :=
 (.seq
  (.reg false [
    ⟨(some 14), .bin .lss (.tmp 13) (.tmp 12), none, []⟩])
  (.seq
   (.cond (.tmp 14)
    .skip
    (.exit 0))
   (.seq
    (.block 1
     (.seq
      (.reg false [
        ⟨(some 15), .mov (.tmp 13), none, []⟩,
        ⟨(some 5), .asg (.tmp 15), none, [0, 0]⟩])
      (.seq
       (.reg true [
         ⟨(some 16), .mov (.tmp 0), none, []⟩,
         ⟨(some 17), .mov (.tmp 5), none, []⟩,
         ⟨(some 18), .idxA 1 (.tmp 16) (.tmp 17), none, [0, 1]⟩,
         ⟨(some 19), .load none (.tmp 18), none, [2]⟩,
         ⟨(some 20), .mov (.tmp 1), none, []⟩,
         ⟨(some 21), .mov (.tmp 5), none, []⟩,
         ⟨(some 22), .idxA 1 (.tmp 20) (.tmp 21), none, [4, 5]⟩,
         ⟨(some 23), .load none (.tmp 22), none, [6]⟩,
         ⟨(some 24), .bin .neq (.tmp 19) (.tmp 23), none, [3, 7]⟩])
       (.cond (.tmp 24)
        (.seq
         (.reg false [
           ⟨(some 4), .asg (.val (.bool false)), none, []⟩])
         .ret)
        .skip))))
    (.reg false [
      ⟨(some 25), .bin .add (.tmp 13) (.val (.int .i64 1)), none, []⟩,
      ⟨(some 13), .mov (.tmp 25), none, [0]⟩]))))
/-- waymark/waymarkref01.SameBytes -/
def fd16 : Fd := ⟨26,
 (.seq
  (.reg false [
    ⟨(some 4), .asg (.val (.bool false)), none, []⟩])
  (.seq
   (.seq
    (.reg false [
      ⟨(some 6), .mov (.tmp 0), none, []⟩,
      ⟨(some 7), .len false (.tmp 6), none, [0]⟩,
      ⟨(some 8), .mov (.tmp 1), none, []⟩,
      ⟨(some 9), .len false (.tmp 8), none, [2]⟩,
      ⟨(some 10), .bin .neq (.tmp 7) (.tmp 9), none, [1, 3]⟩])
    (.cond (.tmp 10)
     (.seq
      (.reg false [
        ⟨(some 4), .asg (.val (.bool false)), none, []⟩])
      .ret)
     .skip))
   (.seq
    (.seq
     (.reg false [
       ⟨(some 11), .mov (.tmp 0), none, []⟩,
       ⟨(some 12), .len false (.tmp 11), none, [0]⟩,
       ⟨(some 13), .mov (.val (.int .i64 0)), none, []⟩])
     (.block 0
      (.loop [] lp16x0)))
    (.seq
     (.reg false [
       ⟨(some 4), .asg (.val (.bool true)), none, []⟩])
     .ret)))),
 [.tmp 4]⟩
theorem ok16 : FdOk Try.prog 16 fd16 := FdOk.of (by kernel_rfl)
abbrev T16 : List Nat := [25, 22, 20, 18, 16, 5, 13, 1, 0]
theorem hT16 : fd16.body.T = T16 := by kernel_rfl

/-- waymark/waymarkref01.Kept -/
def fd17 : Fd := ⟨43,
 (.seq
  (.reg false [
    ⟨(some 4), .asg (.val (.bool false)), none, []⟩])
  (.seq
   (.reg false [
     ⟨(some 6), .mov (.tmp 1), none, []⟩,
     ⟨(some 7), .len false (.tmp 6), none, [0]⟩,
     ⟨(some 5), .asg (.tmp 7), none, [1, 0, 1]⟩])
   (.seq
    (.reg false [
      ⟨(some 8), .mov (.tmp 0), none, []⟩,
      ⟨(some 9), .len false (.tmp 8), none, [0]⟩,
      ⟨(some 10), .mov (.tmp 5), none, []⟩,
      ⟨(some 11), .bin .add (.tmp 10) (.val (.int .i64 3)), none, [2]⟩,
      ⟨(some 12), .bin .eql (.tmp 9) (.tmp 11), none, [1, 3]⟩,
      ⟨(some 13), .mov (.tmp 12), none, [4]⟩,
      ⟨(some 14), .mov (.tmp 0), (some (13, true)), [5]⟩,
      ⟨(some 15), .mov (.tmp 5), (some (13, true)), [5]⟩,
      ⟨(some 16), .slice 1 (.tmp 14) none (some (.tmp 15)), (some (13, true)), [6, 7, 5]⟩,
      ⟨(some 17), .mov (.tmp 1), (some (13, true)), [5]⟩,
      ⟨(some 18), .call 16 [(.tmp 16), (.tmp 17)], (some (13, true)), [8, 9, 5, 5]⟩,
      ⟨(some 19), .pick (.tmp 13) (.tmp 18) (.val (.bool false)), none, [5, 10]⟩,
      ⟨(some 20), .mov (.tmp 19), none, [11, 10]⟩,
      ⟨(some 21), .mov (.tmp 0), (some (20, true)), [12]⟩,
      ⟨(some 22), .mov (.tmp 5), (some (20, true)), [12]⟩,
      ⟨(some 23), .idxA 1 (.tmp 21) (.tmp 22), (some (20, true)), [13, 14, 12]⟩,
      ⟨(some 24), .load none (.tmp 23), (some (20, true)), [15, 12]⟩,
      ⟨(some 25), .bin .eql (.tmp 24) (.val (.int .u8 165)), (some (20, true)), [16, 12]⟩,
      ⟨(some 26), .pick (.tmp 20) (.tmp 25) (.val (.bool false)), none, [12, 17]⟩,
      ⟨(some 27), .mov (.tmp 26), none, [18, 12]⟩,
      ⟨(some 28), .mov (.tmp 0), (some (27, true)), [19]⟩,
      ⟨(some 29), .mov (.tmp 5), (some (27, true)), [19]⟩,
      ⟨(some 30), .bin .add (.tmp 29) (.val (.int .i64 1)), (some (27, true)), [21, 19]⟩,
      ⟨(some 31), .idxA 1 (.tmp 28) (.tmp 30), (some (27, true)), [20, 22, 19]⟩,
      ⟨(some 32), .load none (.tmp 31), (some (27, true)), [23, 19]⟩,
      ⟨(some 33), .bin .eql (.tmp 32) (.val (.int .u8 90)), (some (27, true)), [24, 19]⟩,
      ⟨(some 34), .pick (.tmp 27) (.tmp 33) (.val (.bool false)), none, [19, 25]⟩,
      ⟨(some 35), .mov (.tmp 34), none, [26, 19]⟩,
      ⟨(some 36), .mov (.tmp 0), (some (35, true)), [27]⟩,
      ⟨(some 37), .mov (.tmp 5), (some (35, true)), [27]⟩,
      ⟨(some 38), .bin .add (.tmp 37) (.val (.int .i64 2)), (some (35, true)), [29, 27]⟩,
      ⟨(some 39), .idxA 1 (.tmp 36) (.tmp 38), (some (35, true)), [28, 30, 27]⟩,
      ⟨(some 40), .load none (.tmp 39), (some (35, true)), [31, 27]⟩,
      ⟨(some 41), .bin .eql (.tmp 40) (.val (.int .u8 165)), (some (35, true)), [32, 27]⟩,
      ⟨(some 42), .pick (.tmp 35) (.tmp 41) (.val (.bool false)), none, [27, 33]⟩,
      ⟨(some 4), .asg (.tmp 42), none, [34, 27, 0, 1, 2, 3, 4, 5, 6, 7, 8, 9, 10, 11, 12, 13, 14, 15, 16, 17, 18, 19, 20, 21, 22, 23, 24, 25, 26, 27, 28, 29, 30, 31, 32, 33, 34]⟩])
    .ret))),
 [.tmp 4]⟩
theorem ok17 : FdOk Try.prog 17 fd17 := FdOk.of (by kernel_rfl)
abbrev T17 : List Nat := [41, 39, 36, 34, 33, 31, 28, 26, 25, 23, 21, 19, 18, 12, 5, 0, 1]
theorem hT17 : fd17.body.T = T17 := by kernel_rfl

/-- waymark/waymarkref01.Twin -/
def fd18 : Fd := ⟨6,
 (.seq
  (.reg false [
    ⟨(some 2), .asg (.val .nils), none, []⟩])
  (.seq
   (.reg false [
     ⟨(some 3), .bslice false 1 0 [(.int .u8 0)] [], none, []⟩,
     ⟨(some 4), .mov (.tmp 0), none, []⟩,
     ⟨(some 5), .appd 1 1 (.tmp 3) (.tmp 4), none, [0, 1]⟩,
     ⟨(some 2), .asg (.tmp 5), none, [2, 2, 0, 1, 2]⟩])
   .ret)),
 [.tmp 2]⟩
theorem ok18 : FdOk Try.prog 18 fd18 := FdOk.of (by kernel_rfl)
abbrev T18 : List Nat := [0]
theorem hT18 : fd18.body.T = T18 := by kernel_rfl

def lp19x0 : Cd :=
 (.seq
  (.reg false [
    ⟨(some 10), .bin .lss (.tmp 9) (.tmp 8), none, []⟩])
  (.seq
   (.cond (.tmp 10)
    .skip
    (.exit 0))
   (.seq
    (.block 1
     (.seq
      (.reg false [
        ⟨(some 11), .idxA 2 (.tmp 7) (.tmp 9), none, []⟩,
        ⟨(some 12), .load (some 2) (.tmp 11), none, [0]⟩,
        ⟨(some 6), .alloc [(.int .u8 0), .nils], none, []⟩,
        ⟨none, .store 2 (.tmp 6) (.tmp 12), none, [2, 1, 0, 1, 2]⟩])
      (.seq
       (.reg false [
         ⟨(some 13), .mov (.tmp 4), none, []⟩,
         ⟨(some 14), .fadr 1 (.tmp 6), none, []⟩,
         ⟨(some 15), .load none (.tmp 14), none, [1]⟩,
         ⟨(some 16), .len false (.tmp 15), none, [2]⟩,
         ⟨(some 17), .bin .add (.val (.int .i64 2)) (.tmp 16), none, [3]⟩,
         ⟨(some 18), .bin .add (.tmp 13) (.tmp 17), none, [0, 4]⟩,
         ⟨(some 4), .asg (.tmp 18), none, [5, 0, 1, 2, 3, 4, 5]⟩])
       (.seq
        (.reg false [
          ⟨(some 19), .fadr 1 (.tmp 6), none, []⟩,
          ⟨(some 20), .load none (.tmp 19), none, [0]⟩,
          ⟨(some 21), .len false (.tmp 20), none, [1]⟩,
          ⟨(some 22), .bin .gtr (.tmp 21) (.val (.int .i64 255)), none, [2]⟩,
          ⟨(some 23), .mov (.tmp 22), none, [3]⟩,
          ⟨(some 24), .mov (.tmp 4), (some (23, false)), [4]⟩,
          ⟨(some 25), .bin .gtr (.tmp 24) (.val (.int .i64 1492)), (some (23, false)), [5, 4]⟩,
          ⟨(some 26), .pick (.tmp 23) (.val (.bool true)) (.tmp 25), none, [4, 6]⟩])
        (.cond (.tmp 26)
         (.seq
          (.reg false [
            ⟨(some 2), .asg (.val .nils), none, []⟩,
            ⟨(some 3), .asg (.val (.int .i64 2)), none, [0, 0]⟩])
          .ret)
         .skip)))))
    (.reg false [
      ⟨(some 27), .bin .add (.tmp 9) (.val (.int .i64 1)), none, []⟩,
      ⟨(some 9), .mov (.tmp 27), none, [0]⟩]))))
/-- waymark/waymarkref04.DocJoin -/
def fd19 : Fd := ⟨30,
 (.seq
  (.reg false [
    ⟨(some 2), .asg (.val .nils), none, []⟩,
    ⟨(some 3), .asg (.val (.int .i64 0)), none, [0]⟩])
  (.seq
   (.reg false [
     ⟨(some 4), .asg (.val (.int .i64 0)), none, []⟩])
   (.seq
    (.seq
     (.reg false [
       ⟨(some 7), .mov (.tmp 0), none, []⟩,
       ⟨(some 8), .len false (.tmp 7), none, [0]⟩,
       ⟨(some 9), .mov (.val (.int .i64 0)), none, []⟩])
     (.block 0
      (.loop [] lp19x0)))
    (.seq
     (.reg false [
       ⟨(some 28), .mov (.tmp 0), none, []⟩,
       ⟨(some 29), .call 22 [(.tmp 28)], none, [0]⟩,
       ⟨(some 2), .asg (.tmp 29), none, [1, 1, 0, 1]⟩,
       ⟨(some 3), .asg (.val (.int .i64 0)), none, [2, 0, 1, 2]⟩])
     .ret)))),
 [.tmp 2, .tmp 3]⟩
theorem ok19 : FdOk Try.prog 19 fd19 := FdOk.of (by kernel_rfl)
abbrev T19 : List Nat := [27, 25, 22, 19, 14, 6, 4, 7, 0]
theorem hT19 : fd19.body.T = T19 := by kernel_rfl

def lp20x0 : Cd :=
 (.seq
  (.reg false [
    ⟨(some 10), .bin .lss (.tmp 9) (.tmp 8), none, []⟩])
  (.seq
   (.cond (.tmp 10)
    .skip
    (.exit 0))
   (.seq
    (.block 1
     (.seq
      (.reg false [
        ⟨(some 11), .mov (.tmp 9), none, []⟩,
        ⟨(some 6), .asg (.tmp 11), none, [0, 0]⟩])
      (.seq
       (.reg false [
         ⟨(some 12), .mov (.tmp 0), none, []⟩,
         ⟨(some 13), .mov (.tmp 6), none, []⟩,
         ⟨(some 14), .idxA 2 (.tmp 12) (.tmp 13), none, [0, 1]⟩,
         ⟨(some 15), .fadr 0 (.tmp 14), none, [2]⟩,
         ⟨(some 16), .load none (.tmp 15), none, [3]⟩,
         ⟨(some 17), .mov (.tmp 1), none, []⟩,
         ⟨(some 18), .bin .eql (.tmp 16) (.tmp 17), none, [4, 5]⟩])
       (.cond (.tmp 18)
        (.reg false [
          ⟨(some 19), .mov (.tmp 5), none, []⟩,
          ⟨(some 20), .mov (.tmp 0), none, []⟩,
          ⟨(some 21), .mov (.tmp 6), none, []⟩,
          ⟨(some 22), .idxA 2 (.tmp 20) (.tmp 21), none, [1, 2]⟩,
          ⟨(some 23), .fadr 1 (.tmp 22), none, [3]⟩,
          ⟨(some 24), .load none (.tmp 23), none, [4]⟩,
          ⟨(some 25), .bslice false 1 1 [.nils] [(0, 1, (.tmp 24))], none, [5]⟩,
          ⟨(some 26), .appd 1 24 (.tmp 19) (.tmp 25), none, [0, 6]⟩,
          ⟨(some 5), .asg (.tmp 26), none, [7, 7, 0, 1, 2, 3, 4, 5, 6, 7]⟩])
        .skip))))
    (.reg false [
      ⟨(some 27), .bin .add (.tmp 9) (.val (.int .i64 1)), none, []⟩,
      ⟨(some 9), .mov (.tmp 27), none, [0]⟩]))))
/-- waymark/waymarkref04.Of -/
def fd20 : Fd := ⟨29,
 (.seq
  (.reg false [
    ⟨(some 4), .asg (.val .nils), none, []⟩])
  (.seq
   (.reg false [
     ⟨(some 5), .asg (.val .nils), none, []⟩])
   (.seq
    (.seq
     (.reg false [
       ⟨(some 7), .mov (.tmp 0), none, []⟩,
       ⟨(some 8), .len false (.tmp 7), none, [0]⟩,
       ⟨(some 9), .mov (.val (.int .i64 0)), none, []⟩])
     (.block 0
      (.loop [] lp20x0)))
    (.seq
     (.reg false [
       ⟨(some 28), .mov (.tmp 5), none, []⟩,
       ⟨(some 4), .asg (.tmp 28), none, [0, 0]⟩])
     .ret)))),
 [.tmp 4]⟩
theorem ok20 : FdOk Try.prog 20 fd20 := FdOk.of (by kernel_rfl)
abbrev T20 : List Nat := [27, 23, 22, 20, 5, 1, 15, 14, 12, 6, 9, 0]
theorem hT20 : fd20.body.T = T20 := by kernel_rfl

/-- bytes.Clone -/
def fd21 : Fd := ⟨8,
 (.seq
  (.reg false [
    ⟨(some 2), .asg (.val .nils), none, []⟩])
  (.seq
   (.seq
    (.reg false [
      ⟨(some 3), .mov (.tmp 0), none, []⟩,
      ⟨(some 4), .eq .slice false (.tmp 3) (.val .nils), none, [0]⟩])
    (.cond (.tmp 4)
     (.seq
      (.reg false [
        ⟨(some 2), .asg (.val .nils), none, []⟩])
      .ret)
     .skip))
   (.seq
    (.reg false [
      ⟨(some 5), .bslice false 1 0 [(.int .u8 0)] [], none, []⟩,
      ⟨(some 6), .mov (.tmp 0), none, []⟩,
      ⟨(some 7), .appd 1 1 (.tmp 5) (.tmp 6), none, [0, 1]⟩,
      ⟨(some 2), .asg (.tmp 7), none, [2, 2, 0, 1, 2]⟩])
    .ret))),
 [.tmp 2]⟩
theorem ok21 : FdOk Try.prog 21 fd21 := FdOk.of (by kernel_rfl)
abbrev T21 : List Nat := [0]
theorem hT21 : fd21.body.T = T21 := by kernel_rfl

def lp22x0 : Cd :=
 (.seq
  (.reg false [
    ⟨(some 9), .bin .lss (.tmp 8) (.tmp 7), none, []⟩])
  (.seq
   (.cond (.tmp 9)
    .skip
    (.exit 0))
   (.seq
    (.block 1
     (.seq
      (.reg false [
        ⟨(some 10), .idxA 2 (.tmp 6) (.tmp 8), none, []⟩,
        ⟨(some 11), .load (some 2) (.tmp 10), none, [0]⟩,
        ⟨(some 5), .alloc [(.int .u8 0), .nils], none, []⟩,
        ⟨none, .store 2 (.tmp 5) (.tmp 11), none, [2, 1, 0, 1, 2]⟩])
      (.seq
       (.reg false [
         ⟨(some 12), .mov (.tmp 3), none, []⟩,
         ⟨(some 13), .fadr 0 (.tmp 5), none, []⟩,
         ⟨(some 14), .load none (.tmp 13), none, [1]⟩,
         ⟨(some 15), .bslice false 1 1 [(.int .u8 0)] [(0, 1, (.tmp 14))], none, [2]⟩,
         ⟨(some 16), .appd 1 1 (.tmp 12) (.tmp 15), none, [0, 3]⟩,
         ⟨(some 3), .asg (.tmp 16), none, [4, 4, 0, 1, 2, 3, 4]⟩])
       (.seq
        (.reg false [
          ⟨(some 17), .mov (.tmp 3), none, []⟩,
          ⟨(some 18), .fadr 1 (.tmp 5), none, []⟩,
          ⟨(some 19), .load none (.tmp 18), none, [1]⟩,
          ⟨(some 20), .len false (.tmp 19), none, [2]⟩,
          ⟨(some 21), .conv .u8 (.tmp 20), none, [3]⟩,
          ⟨(some 22), .bslice false 1 1 [(.int .u8 0)] [(0, 1, (.tmp 21))], none, [4]⟩,
          ⟨(some 23), .appd 1 1 (.tmp 17) (.tmp 22), none, [0, 5]⟩,
          ⟨(some 3), .asg (.tmp 23), none, [6, 6, 0, 1, 2, 3, 4, 5, 6]⟩])
        (.reg false [
          ⟨(some 24), .mov (.tmp 3), none, []⟩,
          ⟨(some 25), .fadr 1 (.tmp 5), none, []⟩,
          ⟨(some 26), .load none (.tmp 25), none, [1]⟩,
          ⟨(some 27), .appd 1 1 (.tmp 24) (.tmp 26), none, [0, 2]⟩,
          ⟨(some 3), .asg (.tmp 27), none, [3, 3, 0, 1, 2, 3]⟩])))))
    (.reg false [
      ⟨(some 28), .bin .add (.tmp 8) (.val (.int .i64 1)), none, []⟩,
      ⟨(some 8), .mov (.tmp 28), none, [0]⟩]))))
/-- waymark/waymarkref04.Join -/
def fd22 : Fd := ⟨30,
 (.seq
  (.reg false [
    ⟨(some 2), .asg (.val .nils), none, []⟩])
  (.seq
   (.reg false [
     ⟨(some 3), .asg (.val .nils), none, []⟩])
   (.seq
    (.seq
     (.reg false [
       ⟨(some 6), .mov (.tmp 0), none, []⟩,
       ⟨(some 7), .len false (.tmp 6), none, [0]⟩,
       ⟨(some 8), .mov (.val (.int .i64 0)), none, []⟩])
     (.block 0
      (.loop [] lp22x0)))
    (.seq
     (.reg false [
       ⟨(some 29), .mov (.tmp 3), none, []⟩,
       ⟨(some 2), .asg (.tmp 29), none, [0, 0]⟩])
     .ret)))),
 [.tmp 2]⟩
theorem ok22 : FdOk Try.prog 22 fd22 := FdOk.of (by kernel_rfl)
abbrev T22 : List Nat := [28, 25, 18, 13, 5, 3, 6, 0]
theorem hT22 : fd22.body.T = T22 := by kernel_rfl

end Go.Ev

/-! text E44 -/
set_option linter.unusedVariables false
set_option linter.unusedSimpArgs false
namespace Go.Ev

/-! ### Bytes as abstract values -/
def bA (b : UInt8) : AV := .int .u8 b.toNat
def bsA (l : List UInt8) : List AV := l.map bA
def slB (l : List UInt8) : AV := .sl false false 1 (bsA l)
@[simp] theorem bsA_len (l : List UInt8) : (bsA l).length = l.length := by simp [bsA]
theorem bsA_get (l : List UInt8) (i : Nat) : (bsA l)[i]? = (l[i]?).map bA := by simp [bsA]
theorem bsA_app (l m : List UInt8) : bsA (l ++ m) = bsA l ++ bsA m := by simp [bsA]
theorem bsA_take (l : List UInt8) (n : Nat) : bsA (l.take n) = (bsA l).take n := by simp [bsA]
theorem bsA_drop (l : List UInt8) (n : Nat) : bsA (l.drop n) = (bsA l).drop n := by simp [bsA]
@[simp] theorem bsA_uL : ∀ (l : List UInt8), undeep.uL (bsA l) = bsA l
  | [] => rfl
  | b :: l => by simp only [bsA, List.map_cons, undeep.uL]; exact congrArg _ (bsA_uL l)
@[simp] theorem bsA_sL : ∀ (l : List UInt8), stale.sL (bsA l) = bsA l
  | [] => rfl
  | b :: l => by simp only [bsA, List.map_cons, stale.sL]; exact congrArg _ (bsA_sL l)
@[simp] theorem bsA_dL : ∀ (l : List UInt8), deepen.dL (bsA l) = bsA l
  | [] => rfl
  | b :: l => by simp only [bsA, List.map_cons, deepen.dL]; exact congrArg _ (bsA_dL l)
@[simp] theorem bsA_freshL : ∀ (l : List UInt8), freshA.freshL (bsA l) = true
  | [] => rfl
  | b :: l => by simp only [bsA, List.map_cons, freshA.freshL]; exact bsA_freshL l
@[simp] theorem bsA_flat (l : List UInt8) : (bsA l).all flat = true := by simp [bsA, bA, flat]
@[simp] theorem bsA_okElem (l : List UInt8) : (bsA l).all (okElem 1) = true := by simp [bsA, bA, okElem, cellsOf, okCell]

theorem get_bA {l : List UInt8} {i : Nat} (h : i < l.length) : (bsA l)[i]? = some (bA l[i]) := by rw [bsA_get, List.getElem?_eq_getElem h]; rfl
mutual
/-- Less is told of what is handed over. -/
inductive Lv : AV → AV → Prop
  | refl {x : AV} : Lv x x
  | nils {z : Nat} : Lv .nils (.sl false false z [])
  | sl {fr nn : Bool} {z : Nat} {xs ys : List AV} (h : Lvs xs ys) : Lv (.sl fr nn z xs) (.sl false false z ys)
  | agg {xs ys : List AV} (h : Lvs xs ys) : Lv (.agg xs) (.agg ys)
inductive Lvs : List AV → List AV → Prop
  | nil : Lvs [] []
  | cons {x y : AV} {xs ys : List AV} (h : Lv x y) (hs : Lvs xs ys) : Lvs (x :: xs) (y :: ys)
end
theorem Lvs.refl : ∀ (xs : List AV), Lvs xs xs
  | [] => .nil
  | x :: xs => .cons .refl (Lvs.refl xs)
theorem Lvs.of_eq {xs ys : List AV} (h : xs = ys) : Lvs xs ys := by subst h; exact .refl _
theorem Lvs.len : ∀ {xs ys : List AV}, Lvs xs ys → ys.length = xs.length
  | _, _, .nil => rfl
  | _, _, .cons _ hs => by simp [Lvs.len hs]
theorem Lv.sl_eq {fr nn : Bool} {z : Nat} {xs ys : List AV} (h : xs = ys) : Lv (.sl fr nn z xs) (.sl false false z ys) := .sl (.of_eq h)
mutual
theorem Lv.V {γ : Gh} {w : World} : ∀ {x y : AV}, Lv x y → ∀ v, Go.Ev.V γ w x v → Go.Ev.V γ w y v
  | _, _, .refl, _, h => h
  | _, _, .nils, _, h => V_nilsSl h
  | .sl fr nn z xs, _, .sl (ys := ys) hl, v, ⟨A, c, h1, h2, h3, h4, h5⟩ => by
    refine ⟨A, c, by rw [hl.len]; exact h1, by rw [hl.len]; exact h2, fun e => ?_, (fun _ _ h => nomatch h), fun hne => ?_⟩
    · obtain ⟨e1, e2, e3⟩ := h3 e
      subst e1
      exact ⟨List.eq_nil_of_length_eq_zero (by rw [hl.len]; rfl), rfl, e3⟩
    · have : xs ≠ [] := fun e => hne (List.eq_nil_of_length_eq_zero (by rw [hl.len, e]; rfl))
      obtain ⟨g, o, e1, e2, e3⟩ := h5 this
      exact ⟨g, o, e1, by rw [hl.len]; exact e2, Lvs.VS hl _ g o e3⟩
  | _, _, .agg hl, v, ⟨vs, h1, h2⟩ => ⟨vs, h1, Lvs.VL hl vs h2⟩
theorem Lvs.VL {γ : Gh} {w : World} : ∀ {xs ys : List AV}, Lvs xs ys → ∀ vs, Go.Ev.VL γ w xs vs → Go.Ev.VL γ w ys vs
  | _, _, .nil, _, h => h
  | _, _, .cons h hs, _, ⟨v, r, e, h1, h2⟩ => ⟨v, r, e, Lv.V h v h1, Lvs.VL hs r h2⟩
theorem Lvs.VC {γ : Gh} {w : World} : ∀ {xs ys : List AV}, Lvs xs ys → ∀ g o, Go.Ev.VC γ w xs g o → Go.Ev.VC γ w ys g o
  | _, _, .nil, _, _, _ => trivial
  | _, _, .cons h hs, g, o, ⟨⟨u, h1, h2⟩, h3⟩ => ⟨⟨u, h1, Lv.V h u h2⟩, Lvs.VC hs g (o + 1) h3⟩
theorem Lvs.VS {γ : Gh} {w : World} : ∀ {xs ys : List AV}, Lvs xs ys → ∀ z g o, Go.Ev.VS γ w z xs g o → Go.Ev.VS γ w z ys g o
  | _, _, .nil, _, _, _, _ => trivial
  | _, _, .cons (x := x) (y := y) (xs := xs) (ys := ys) h hs, z, g, o, hv => by
    have h2 : Go.Ev.VS γ w z xs g (o + z) → Go.Ev.VS γ w z ys g (o + z) := Lvs.VS hs z g (o + z)
    rw [VS_cons] at hv
    rw [VS_cons]
    exact ⟨Lv.VE h z g o hv.1, h2 hv.2⟩
theorem Lv.VE {γ : Gh} {w : World} : ∀ {x y : AV}, Lv x y → ∀ z g o, Go.Ev.VE γ w z x g o → Go.Ev.VE γ w z y g o
  | _, _, .refl, _, _, _, h => h
  | _, _, .nils, z, g, o, ⟨h1, u, h2, h3⟩ => ⟨h1, u, h2, V_nilsSl h3⟩
  | _, _, .sl hl, z, g, o, ⟨h1, u, h2, h3⟩ => ⟨h1, u, h2, Lv.V (.sl hl) u h3⟩
  | _, _, .agg hl, z, g, o, ⟨h1, h2⟩ => ⟨by rw [hl.len]; exact h1, Lvs.VC hl g o h2⟩
end
theorem Lvs.VLe {xs ys : List AV} (h : Lvs xs ys) : Go.Ev.VLe xs ys := fun _ _ vs hv => Lvs.VL h vs hv
theorem FnW.of {P : Program} {f : FuncId} {args ys : List AV} {r : AV} (h : Lvs args ys) (hf : FnOk P f ys r) : FnW P f args ys r := ⟨h.VLe, hf⟩
/-- Less is told of an answer. -/
theorem FnOk.le {P : Program} {f : FuncId} {ys : List AV} {r r' : AV} (h : FnOk P f ys r) (hl : LeR r r') (hr : refTo r' = none) : FnOk P f ys r' := fun w args St hSt hv =>
  CallRes.mono (h w args St hSt hv) fun v w' ⟨h1, T, γ, G⟩ => ⟨hr, T, γ, G.le ⟨hl, LeS.refl _⟩⟩
/-- A slice of no cells: it may be nil, or not. -/
theorem FnOk.nil_or {P : Program} {f : FuncId} {z : Nat} {r : AV} (h1 : FnOk P f [.nils] r) (h2 : FnOk P f [.sl false true z []] r) : FnOk P f [.sl false false z []] r := by
  intro w args St hSt hv
  obtain ⟨v, rest, e, ⟨A, c, e1, e2, e3, e4, e5⟩, e6⟩ := hv
  subst e
  cases A with
  | none =>
    obtain ⟨_, _, rfl⟩ := e3 rfl
    exact h1 w _ St hSt ⟨v, rest, rfl, e1, e6⟩
  | some a => exact h2 w _ St hSt ⟨v, rest, rfl, ⟨some a, c, e1, e2, (fun h => nomatch h), e4, e5⟩, e6⟩
end Go.Ev

/-! text W1 -/
set_option linter.unusedVariables false
namespace Go.Ev
open Go.Proofs (Try.prog)
theorem SameBytes_next (a b : List UInt8) (i : Nat) (x y : UInt8)
    (h1 : decide ((↑i : Int) < (↑a.length : Int)) = true)
    (h2 : (bsA a)[i]? = some (bA x))
    (h3 : (bsA b)[i]? = some (bA y))
    (h4 : ((↑x.toNat : Int) != (↑y.toNat : Int)) = false)
    (h5 : IntKind.i64.wrap ((↑i : Int) + (1 : Int)) = (↑(i + (1 : Nat)) : Int)) :
    WayR Try.prog T16 26 lp16x0 [(14, .b true), (18, .v (bA x)), (22, .v (bA y)), (24, .b false), (25, .i (i+1 : Nat))] (st 26 [(0, slB a), (1, slB b), (12, .int .i64 a.length), (13, .int .i64 i)]) .normal (st 26 [(0, slB a), (1, slB b), (12, .int .i64 a.length), (13, .int .i64 (i+1 : Nat))]) :=
  runs_of_pr hfol (show prR Try.prog T16 26 lp16x0 [(14, .b true), (18, .v (bA x)), (22, .v (bA y)), (24, .b false), (25, .i (i+1 : Nat))] (st 26 [(0, slB a), (1, slB b), (12, .int .i64 a.length), (13, .int .i64 i)]) .normal (st 26 [(0, slB a), (1, slB b), (12, .int .i64 a.length), (13, .int .i64 (i+1 : Nat))]) = some _ by kernel_rfl) (AllP.c h1 (AllP.c (show (0 : Int) ≤ (↑i : Int) from Int.natCast_nonneg _) (AllP.c h2 (AllP.c (show (0 : Int) ≤ (↑i : Int) from Int.natCast_nonneg _) (AllP.c h3 (AllP.c h4 (AllP.c h5 (AllP.c (LeR.refl (x := AV.sl false false (1 : Nat) (bsA a))) (AllP.c (LeR.refl (x := AV.sl false false (1 : Nat) (bsA b))) (AllP.c (LeR.refl (x := AV.int IntKind.i64 (↑a.length : Int))) (AllP.c (LeR.refl (x := AV.int IntKind.i64 (↑(i + (1 : Nat)) : Int))) (AllP.c (LeR.refl (x := AV.mem [])) AllP.n))))))))))))
theorem SameBytes_diff (a b : List UInt8) (i : Nat) (x y : UInt8)
    (h1 : decide ((↑i : Int) < (↑a.length : Int)) = true)
    (h2 : (bsA a)[i]? = some (bA x))
    (h3 : (bsA b)[i]? = some (bA y))
    (h4 : ((↑x.toNat : Int) != (↑y.toNat : Int)) = true) :
    WayR Try.prog T16 26 lp16x0 [(14, .b true), (18, .v (bA x)), (22, .v (bA y)), (24, .b true)] (st 26 [(0, slB a), (1, slB b), (12, .int .i64 a.length), (13, .int .i64 i)]) .ret (st 26 [(4, .bool false)]) :=
  runs_of_pr hfol (show prR Try.prog T16 26 lp16x0 [(14, .b true), (18, .v (bA x)), (22, .v (bA y)), (24, .b true)] (st 26 [(0, slB a), (1, slB b), (12, .int .i64 a.length), (13, .int .i64 i)]) .ret (st 26 [(4, .bool false)]) = some _ by kernel_rfl) (AllP.c h1 (AllP.c (show (0 : Int) ≤ (↑i : Int) from Int.natCast_nonneg _) (AllP.c h2 (AllP.c (show (0 : Int) ≤ (↑i : Int) from Int.natCast_nonneg _) (AllP.c h3 (AllP.c h4 (AllP.c (LeR.refl (x := AV.bool false)) (AllP.c (LeR.refl (x := AV.mem [])) AllP.n))))))))
theorem SameBytes_end (a b : List UInt8) (i : Nat)
    (h1 : decide ((↑i : Int) < (↑a.length : Int)) = false) :
    WayR Try.prog T16 26 lp16x0 [(14, .b false)] (st 26 [(0, slB a), (1, slB b), (12, .int .i64 a.length), (13, .int .i64 i)]) (.exit 0) (st 26 []) :=
  runs_of_pr hfol (show prR Try.prog T16 26 lp16x0 [(14, .b false)] (st 26 [(0, slB a), (1, slB b), (12, .int .i64 a.length), (13, .int .i64 i)]) (.exit 0) (st 26 []) = some _ by kernel_rfl) (AllP.c h1 (AllP.c (LeR.refl (x := AV.mem [])) AllP.n))
theorem SameBytes_len (a b : List UInt8)
    (h1 : ((↑(bsA a).length : Int) != (↑(bsA b).length : Int)) = true) :
    WayF Try.prog 16 T16 fd16 [(10, .b true)] [slB a, slB b] (.bool false) :=
  fn_of_pr hfol ok16 hT16 (show prF Try.prog 16 T16 fd16 [(10, .b true)] [slB a, slB b] (.bool false) = some _ by kernel_rfl) (AllP.c h1 (AllP.c (show AV.bool false = AV.bool false by kernel_rfl) AllP.n))
theorem SameBytes_all (a b : List UInt8)
    (h1 : ((↑(bsA a).length : Int) != (↑(bsA b).length : Int)) = false)
    (h2 : LeR (AV.int IntKind.i64 (↑(bsA a).length : Int)) (AV.int IntKind.i64 (↑a.length : Int)))
    (h3 : Runs Try.prog T16 (26 : Nat) (Cd.loop [] lp16x0) (st (26 : Nat) [((0 : Nat), slB a), ((1 : Nat), slB b), ((12 : Nat), AV.int IntKind.i64 (↑a.length : Int)), ((13 : Nat), AV.int IntKind.i64 (0 : Int))]) fun x => x = (Ex.exit (0 : Nat), st (26 : Nat) [])) :
    WayF Try.prog 16 T16 fd16 [(10, .b false), (0, .lp (st 26 [(0, slB a), (1, slB b), (12, .int .i64 a.length), (13, .int .i64 0)]) (.exit 0) (st 26 []))] [slB a, slB b] (.bool true) :=
  fn_of_pr hfol ok16 hT16 (show prF Try.prog 16 T16 fd16 [(10, .b false), (0, .lp (st 26 [(0, slB a), (1, slB b), (12, .int .i64 a.length), (13, .int .i64 0)]) (.exit 0) (st 26 []))] [slB a, slB b] (.bool true) = some _ by kernel_rfl) (AllP.c h1 (AllP.c (LeR.refl (x := AV.sl false false (1 : Nat) (bsA a))) (AllP.c (LeR.refl (x := AV.sl false false (1 : Nat) (bsA b))) (AllP.c h2 (AllP.c (LeR.refl (x := AV.int IntKind.i64 (0 : Int))) (AllP.c (LeR.refl (x := AV.mem [])) (AllP.c h3 (AllP.c (show AV.bool true = AV.bool true by kernel_rfl) AllP.n))))))))
theorem SameBytes_not (a b : List UInt8)
    (h1 : ((↑(bsA a).length : Int) != (↑(bsA b).length : Int)) = false)
    (h2 : LeR (AV.int IntKind.i64 (↑(bsA a).length : Int)) (AV.int IntKind.i64 (↑a.length : Int)))
    (h3 : Runs Try.prog T16 (26 : Nat) (Cd.loop [] lp16x0) (st (26 : Nat) [((0 : Nat), slB a), ((1 : Nat), slB b), ((12 : Nat), AV.int IntKind.i64 (↑a.length : Int)), ((13 : Nat), AV.int IntKind.i64 (0 : Int))]) fun x => x = (Ex.ret, st (26 : Nat) [((4 : Nat), AV.bool false)])) :
    WayF Try.prog 16 T16 fd16 [(10, .b false), (0, .lp (st 26 [(0, slB a), (1, slB b), (12, .int .i64 a.length), (13, .int .i64 0)]) .ret (st 26 [(4, .bool false)]))] [slB a, slB b] (.bool false) :=
  fn_of_pr hfol ok16 hT16 (show prF Try.prog 16 T16 fd16 [(10, .b false), (0, .lp (st 26 [(0, slB a), (1, slB b), (12, .int .i64 a.length), (13, .int .i64 0)]) .ret (st 26 [(4, .bool false)]))] [slB a, slB b] (.bool false) = some _ by kernel_rfl) (AllP.c h1 (AllP.c (LeR.refl (x := AV.sl false false (1 : Nat) (bsA a))) (AllP.c (LeR.refl (x := AV.sl false false (1 : Nat) (bsA b))) (AllP.c h2 (AllP.c (LeR.refl (x := AV.int IntKind.i64 (0 : Int))) (AllP.c (LeR.refl (x := AV.mem [])) (AllP.c h3 (AllP.c (show AV.bool false = AV.bool false by kernel_rfl) AllP.n))))))))
end Go.Ev

/-! text T1 -/
set_option linter.unusedVariables false
namespace Go.Ev
open Go.Proofs (Try.prog)

/-! ### Lists of types and values, as abstract values -/
abbrev TLV := UInt8 × List UInt8
def tS (t : TLV) : AV := .agg [bA t.1, .sl false false 1 (bsA t.2)]
def tF (t : TLV) : AV := .agg [bA t.1, .sl true false 1 (bsA t.2)]
def tD (t : TLV) : AV := .agg [bA t.1, .dsl false 1 (bsA t.2)]
def tsS (l : List TLV) : List AV := l.map tS
def tsF (l : List TLV) : List AV := l.map tF
def tsD (l : List TLV) : List AV := l.map tD
def slT (l : List TLV) : AV := .sl false false 2 (tsS l)
def vS (v : List UInt8) : AV := .sl false false 1 (bsA v)
def vF (v : List UInt8) : AV := .sl true false 1 (bsA v)
def vD (v : List UInt8) : AV := .dsl false 1 (bsA v)
def vsS (l : List (List UInt8)) : List AV := l.map vS
def vsF (l : List (List UInt8)) : List AV := l.map vF
def vsD (l : List (List UInt8)) : List AV := l.map vD
def slV (l : List (List UInt8)) : AV := .sl false false 1 (vsS l)
abbrev ni (n : Nat) : AV := .int .i64 n
abbrev sTw (l out : List TLV) (i : Nat) : List AV := st 23 [(3, .own true 2 (tsF out)), (6, slT l), (7, ni l.length), (8, ni i)]
abbrev sSV (a b : List (List UInt8)) (i : Nat) : List AV := st 27 [(0, slV a), (1, slV b), (12, ni a.length), (13, ni i)]
abbrev sSm (a b : List TLV) (i : Nat) : List AV := st 42 [(0, slT a), (1, slT b), (12, ni a.length), (13, ni i)]
end Go.Ev

/-! text W2 -/
set_option linter.unusedVariables false
namespace Go.Ev
open Go.Proofs (Try.prog)
theorem Twin1_way (l : List UInt8)
    (h1 : (bsA l).all (okElem (1 : Nat)) = true)
    (h2 : ((0 : Nat) + (bsA l).length) * (1 : Nat) ≤ (140737488355328 : Nat)) :
    WayF Try.prog 18 T18 fd18 [(5, .q)] [slB l] (.own true 1 (bsA l)) :=
  fn_of_pr hfol ok18 hT18 (show prF Try.prog 18 T18 fd18 [(5, .q)] [slB l] (.own true 1 (bsA l)) = some _ by kernel_rfl) (AllP.c h1 (AllP.c h2 (AllP.c (show AV.own true (1 : Nat) ([] ++ bsA l) = AV.own true (1 : Nat) (bsA l) by kernel_rfl) AllP.n)))
theorem Clone_nil  :
    WayF Try.prog 21 T21 fd21 [] [.nils] .nils :=
  fn_of_pr hfol ok21 hT21 (show prF Try.prog 21 T21 fd21 [] [.nils] .nils = some _ by kernel_rfl) (AllP.c (show AV.nils = AV.nils by kernel_rfl) AllP.n)
theorem Clone_nn  :
    WayF Try.prog 21 T21 fd21 [(7, .q)] [.sl false true 1 []] (.own true 1 []) :=
  fn_of_pr hfol ok21 hT21 (show prF Try.prog 21 T21 fd21 [(7, .q)] [.sl false true 1 []] (.own true 1 []) = some _ by kernel_rfl) (AllP.c (show [].all (okElem (1 : Nat)) = true by kernel_rfl) (AllP.c (show (0 : Nat) ≤ (140737488355328 : Nat) by decide) (AllP.c (show AV.own true (1 : Nat) [] = AV.own true (1 : Nat) [] by kernel_rfl) AllP.n)))
theorem Clone_cons (b : UInt8) (l : List UInt8)
    (h1 : (bsA (b :: l)).all (okElem (1 : Nat)) = true)
    (h2 : ((0 : Nat) + (bsA (b :: l)).length) * (1 : Nat) ≤ (140737488355328 : Nat)) :
    WayF Try.prog 21 T21 fd21 [(7, .q)] [slB (b :: l)] (.own true 1 (bsA (b :: l))) :=
  fn_of_pr hfol ok21 hT21 (show prF Try.prog 21 T21 fd21 [(7, .q)] [slB (b :: l)] (.own true 1 (bsA (b :: l))) = some _ by kernel_rfl) (AllP.c h1 (AllP.c h2 (AllP.c (show AV.own true (1 : Nat) (bA b :: List.map bA l) = AV.own true (1 : Nat) (bsA (b :: l)) by kernel_rfl) AllP.n)))
theorem Twin_next (l out : List TLV) (i : Nat) (t : TLV)
    (h1 : decide ((↑i : Int) < (↑l.length : Int)) = true)
    (h2 : (tsS l)[i]? = some (tS t))
    (h3 : FnW Try.prog (18 : FuncId) [AV.sl false false (1 : Nat) (stale.sL (bsA t.snd))] [slB t.snd] (AV.own true (1 : Nat) (bsA t.snd)))
    (h4 : freshA (AV.own true (1 : Nat) (bsA t.snd)) = true)
    (h5 : ((tsF out).length + [AV.agg [AV.int IntKind.u8 (↑t.fst.toNat : Int), AV.sl true false (1 : Nat) (undeep.uL (undeep.uL (deepen.dL (bsA t.snd))))]].length) * (32 : Nat) ≤ (140737488355328 : Nat))
    (h6 : IntKind.i64.wrap ((↑i : Int) + (1 : Int)) = (↑(i + (1 : Nat)) : Int))
    (h7 : LeR (AV.own true (2 : Nat) (tsF out ++ [AV.agg [AV.int IntKind.u8 (↑t.fst.toNat : Int), AV.sl true false (1 : Nat) (undeep.uL (undeep.uL (deepen.dL (bsA t.snd))))]])) (AV.own true (2 : Nat) (tsF (out ++ [t])))) :
    WayR Try.prog T9 23 lp9x0 [(9, .b true), (10, .v (tS t)), (17, .c [slB t.2] (.own true 1 (bsA t.2))), (20, .q2), (21, .i (i + 1 : Nat))] (sTw l out i) .normal (sTw l (out ++ [t]) (i + 1)) :=
  runs_of_pr hfol (show prR Try.prog T9 23 lp9x0 [(9, .b true), (10, .v (tS t)), (17, .c [slB t.2] (.own true 1 (bsA t.2))), (20, .q2), (21, .i (i + 1 : Nat))] (sTw l out i) .normal (sTw l (out ++ [t]) (i + 1)) = some _ by kernel_rfl) (AllP.c h1 (AllP.c (show (0 : Int) ≤ (↑i : Int) from Int.natCast_nonneg _) (AllP.c h2 (AllP.c h3 (AllP.c h4 (AllP.c (show [AV.agg [bA t.fst, AV.sl true false (1 : Nat) (undeep.uL (deepen.dL (bsA t.snd)))]].all flat = false by kernel_rfl) (AllP.c (show [AV.agg [AV.int IntKind.u8 (↑t.fst.toNat : Int), AV.sl true false (1 : Nat) (undeep.uL (undeep.uL (deepen.dL (bsA t.snd))))]].all (okElem (2 : Nat)) = true by kernel_rfl) (AllP.c h5 (AllP.c h6 (AllP.c h7 (AllP.c (LeR.refl (x := AV.sl false false (2 : Nat) (tsS l))) (AllP.c (LeR.refl (x := AV.int IntKind.i64 (↑l.length : Int))) (AllP.c (LeR.refl (x := AV.int IntKind.i64 (↑(i + (1 : Nat)) : Int))) (AllP.c (LeR.refl (x := AV.mem [])) AllP.n))))))))))))))
theorem Twin_end (l out : List TLV) (i : Nat)
    (h1 : decide ((↑i : Int) < (↑l.length : Int)) = false) :
    WayR Try.prog T9 23 lp9x0 [(9, .b false)] (sTw l out i) (.exit 0) (st 23 [(3, .own true 2 (tsF out))]) :=
  runs_of_pr hfol (show prR Try.prog T9 23 lp9x0 [(9, .b false)] (sTw l out i) (.exit 0) (st 23 [(3, .own true 2 (tsF out))]) = some _ by kernel_rfl) (AllP.c h1 (AllP.c (LeR.refl (x := AV.own true (2 : Nat) (tsF out))) (AllP.c (LeR.refl (x := AV.mem [])) AllP.n)))
theorem Twin_way (l : List TLV)
    (h1 : LeR (AV.int IntKind.i64 (↑(tsS l).length : Int)) (AV.int IntKind.i64 (↑l.length : Int)))
    (h2 : Runs Try.prog T9 (23 : Nat) (Cd.loop [] lp9x0) (sTw l [] (0 : Nat)) fun x => x = (Ex.exit (0 : Nat), st (23 : Nat) [((3 : Nat), AV.own true (2 : Nat) (tsF l))])) :
    WayF Try.prog 9 T9 fd9 [(0, .lp (sTw l [] 0) (.exit 0) (st 23 [(3, .own true 2 (tsF l))]))] [slT l] (.own true 2 (tsF l)) :=
  fn_of_pr hfol ok9 hT9 (show prF Try.prog 9 T9 fd9 [(0, .lp (sTw l [] 0) (.exit 0) (st 23 [(3, .own true 2 (tsF l))]))] [slT l] (.own true 2 (tsF l)) = some _ by kernel_rfl) (AllP.c (LeR.nilsOwn : LeR AV.nils (AV.own true (2 : Nat) [])) (AllP.c (LeR.refl (x := AV.sl false false (2 : Nat) (tsS l))) (AllP.c h1 (AllP.c (LeR.refl (x := AV.int IntKind.i64 (↑(0 : Nat) : Int))) (AllP.c (LeR.refl (x := AV.mem [])) (AllP.c h2 (AllP.c (show AV.own true (2 : Nat) (tsF l) = AV.own true (2 : Nat) (tsF l) by kernel_rfl) AllP.n)))))))
theorem SameValues_next (a b : List (List UInt8)) (i : Nat) (x y : List UInt8)
    (h1 : decide ((↑i : Int) < (↑a.length : Int)) = true)
    (h2 : (vsS a)[i]? = some (vS x))
    (h3 : (vsS b)[i]? = some (vS y))
    (h4 : FnW Try.prog (16 : FuncId) [AV.sl false false (1 : Nat) (stale.sL (bsA x)), AV.sl false false (1 : Nat) (stale.sL (bsA y))] [slB x, slB y] (AV.bool true))
    (h5 : IntKind.i64.wrap ((↑i : Int) + (1 : Int)) = (↑(i + (1 : Nat)) : Int)) :
    WayR Try.prog T10 27 lp10x0 [(14, .b true), (18, .v (vS x)), (22, .v (vS y)), (24, .c [slB x, slB y] (.bool true)), (26, .i (i + 1 : Nat))] (sSV a b i) .normal (sSV a b (i + 1)) :=
  runs_of_pr hfol (show prR Try.prog T10 27 lp10x0 [(14, .b true), (18, .v (vS x)), (22, .v (vS y)), (24, .c [slB x, slB y] (.bool true)), (26, .i (i + 1 : Nat))] (sSV a b i) .normal (sSV a b (i + 1)) = some _ by kernel_rfl) (AllP.c h1 (AllP.c (show (0 : Int) ≤ (↑i : Int) from Int.natCast_nonneg _) (AllP.c h2 (AllP.c (show (0 : Int) ≤ (↑i : Int) from Int.natCast_nonneg _) (AllP.c h3 (AllP.c h4 (AllP.c (show freshA (AV.bool true) = true by kernel_rfl) (AllP.c h5 (AllP.c (LeR.refl (x := AV.sl false false (1 : Nat) (vsS a))) (AllP.c (LeR.refl (x := AV.sl false false (1 : Nat) (vsS b))) (AllP.c (LeR.refl (x := AV.int IntKind.i64 (↑a.length : Int))) (AllP.c (LeR.refl (x := AV.int IntKind.i64 (↑(i + (1 : Nat)) : Int))) (AllP.c (LeR.refl (x := AV.mem [])) AllP.n)))))))))))))
theorem SameValues_diff (a b : List (List UInt8)) (i : Nat) (x y : List UInt8)
    (h1 : decide ((↑i : Int) < (↑a.length : Int)) = true)
    (h2 : (vsS a)[i]? = some (vS x))
    (h3 : (vsS b)[i]? = some (vS y))
    (h4 : FnW Try.prog (16 : FuncId) [AV.sl false false (1 : Nat) (stale.sL (bsA x)), AV.sl false false (1 : Nat) (stale.sL (bsA y))] [slB x, slB y] (AV.bool false)) :
    WayR Try.prog T10 27 lp10x0 [(14, .b true), (18, .v (vS x)), (22, .v (vS y)), (24, .c [slB x, slB y] (.bool false))] (sSV a b i) .ret (st 27 [(4, .bool false)]) :=
  runs_of_pr hfol (show prR Try.prog T10 27 lp10x0 [(14, .b true), (18, .v (vS x)), (22, .v (vS y)), (24, .c [slB x, slB y] (.bool false))] (sSV a b i) .ret (st 27 [(4, .bool false)]) = some _ by kernel_rfl) (AllP.c h1 (AllP.c (show (0 : Int) ≤ (↑i : Int) from Int.natCast_nonneg _) (AllP.c h2 (AllP.c (show (0 : Int) ≤ (↑i : Int) from Int.natCast_nonneg _) (AllP.c h3 (AllP.c h4 (AllP.c (show freshA (AV.bool false) = true by kernel_rfl) (AllP.c (LeR.refl (x := AV.bool false)) (AllP.c (LeR.refl (x := AV.mem [])) AllP.n)))))))))
theorem SameValues_end (a b : List (List UInt8)) (i : Nat)
    (h1 : decide ((↑i : Int) < (↑a.length : Int)) = false) :
    WayR Try.prog T10 27 lp10x0 [(14, .b false)] (sSV a b i) (.exit 0) (st 27 []) :=
  runs_of_pr hfol (show prR Try.prog T10 27 lp10x0 [(14, .b false)] (sSV a b i) (.exit 0) (st 27 []) = some _ by kernel_rfl) (AllP.c h1 (AllP.c (LeR.refl (x := AV.mem [])) AllP.n))
theorem SameValues_len (a b : List (List UInt8))
    (h1 : ((↑(vsS a).length : Int) != (↑(vsS b).length : Int)) = true) :
    WayF Try.prog 10 T10 fd10 [(10, .b true)] [slV a, slV b] (.bool false) :=
  fn_of_pr hfol ok10 hT10 (show prF Try.prog 10 T10 fd10 [(10, .b true)] [slV a, slV b] (.bool false) = some _ by kernel_rfl) (AllP.c h1 (AllP.c (show AV.bool false = AV.bool false by kernel_rfl) AllP.n))
theorem SameValues_all (a b : List (List UInt8))
    (h1 : ((↑(vsS a).length : Int) != (↑(vsS b).length : Int)) = false)
    (h2 : LeR (AV.int IntKind.i64 (↑(vsS a).length : Int)) (AV.int IntKind.i64 (↑a.length : Int)))
    (h3 : Runs Try.prog T10 (27 : Nat) (Cd.loop [] lp10x0) (sSV a b (0 : Nat)) fun x => x = (Ex.exit (0 : Nat), st (27 : Nat) [])) :
    WayF Try.prog 10 T10 fd10 [(10, .b false), (0, .lp (sSV a b 0) (.exit 0) (st 27 []))] [slV a, slV b] (.bool true) :=
  fn_of_pr hfol ok10 hT10 (show prF Try.prog 10 T10 fd10 [(10, .b false), (0, .lp (sSV a b 0) (.exit 0) (st 27 []))] [slV a, slV b] (.bool true) = some _ by kernel_rfl) (AllP.c h1 (AllP.c (LeR.refl (x := AV.sl false false (1 : Nat) (vsS a))) (AllP.c (LeR.refl (x := AV.sl false false (1 : Nat) (vsS b))) (AllP.c h2 (AllP.c (LeR.refl (x := AV.int IntKind.i64 (↑(0 : Nat) : Int))) (AllP.c (LeR.refl (x := AV.mem [])) (AllP.c h3 (AllP.c (show AV.bool true = AV.bool true by kernel_rfl) AllP.n))))))))
theorem SameValues_not (a b : List (List UInt8))
    (h1 : ((↑(vsS a).length : Int) != (↑(vsS b).length : Int)) = false)
    (h2 : LeR (AV.int IntKind.i64 (↑(vsS a).length : Int)) (AV.int IntKind.i64 (↑a.length : Int)))
    (h3 : Runs Try.prog T10 (27 : Nat) (Cd.loop [] lp10x0) (sSV a b (0 : Nat)) fun x => x = (Ex.ret, st (27 : Nat) [((4 : Nat), AV.bool false)])) :
    WayF Try.prog 10 T10 fd10 [(10, .b false), (0, .lp (sSV a b 0) .ret (st 27 [(4, .bool false)]))] [slV a, slV b] (.bool false) :=
  fn_of_pr hfol ok10 hT10 (show prF Try.prog 10 T10 fd10 [(10, .b false), (0, .lp (sSV a b 0) .ret (st 27 [(4, .bool false)]))] [slV a, slV b] (.bool false) = some _ by kernel_rfl) (AllP.c h1 (AllP.c (LeR.refl (x := AV.sl false false (1 : Nat) (vsS a))) (AllP.c (LeR.refl (x := AV.sl false false (1 : Nat) (vsS b))) (AllP.c h2 (AllP.c (LeR.refl (x := AV.int IntKind.i64 (↑(0 : Nat) : Int))) (AllP.c (LeR.refl (x := AV.mem [])) (AllP.c h3 (AllP.c (show AV.bool false = AV.bool false by kernel_rfl) AllP.n))))))))
theorem Spare_way (p : List UInt8)
    (h1 : (bsA p).all (okElem (1 : Nat)) = true)
    (h2 : ((0 : Nat) + (bsA p).length) * (1 : Nat) ≤ (140737488355328 : Nat))
    (h3 : (([] ++ bsA p).length + (3 : Nat)) * (1 : Nat) ≤ (140737488355328 : Nat))
    (h4 : (↑(bsA p).length : Int) ≤ (↑(undeep.uL ([] ++ bsA p ++ [AV.int IntKind.u8 (165 : Int), AV.int IntKind.u8 (90 : Int), AV.int IntKind.u8 (165 : Int)])).length : Int))
    (h5 : AV.sl true (false || !(undeep.uL ([] ++ bsA p ++ [AV.int IntKind.u8 (165 : Int), AV.int IntKind.u8 (90 : Int), AV.int IntKind.u8 (165 : Int)])).isEmpty) (1 : Nat) (List.drop (0 : Nat) (List.take (bsA p).length (undeep.uL ([] ++ bsA p ++ [AV.int IntKind.u8 (165 : Int), AV.int IntKind.u8 (90 : Int), AV.int IntKind.u8 (165 : Int)])))) = AV.sl true true (1 : Nat) (bsA p))
    (h6 : AV.tup [AV.sl true true (1 : Nat) (bsA p), AV.own false (1 : Nat) (undeep.uL ([] ++ bsA p ++ [AV.int IntKind.u8 (165 : Int), AV.int IntKind.u8 (90 : Int), AV.int IntKind.u8 (165 : Int)]))] = AV.tup [AV.sl true true (1 : Nat) (bsA p), AV.own false (1 : Nat) (bsA (p ++ [(165 : UInt8), (90 : UInt8), (165 : UInt8)]))]) :
    WayF Try.prog 11 T11 fd11 [(7, .q), (9, .q), (13, .q), (13, .n (.sl true true 1 (bsA p)))] [slB p] (.tup [.sl true true 1 (bsA p), .own false 1 (bsA (p ++ [165, 90, 165]))]) :=
  fn_of_pr hfol ok11 hT11 (show prF Try.prog 11 T11 fd11 [(7, .q), (9, .q), (13, .q), (13, .n (.sl true true 1 (bsA p)))] [slB p] (.tup [.sl true true 1 (bsA p), .own false 1 (bsA (p ++ [165, 90, 165]))]) = some _ by kernel_rfl) (AllP.c h1 (AllP.c h2 (AllP.c (show [AV.int IntKind.u8 (165 : Int), AV.int IntKind.u8 (90 : Int), AV.int IntKind.u8 (165 : Int)].all flat = true by kernel_rfl) (AllP.c (show [AV.int IntKind.u8 (165 : Int), AV.int IntKind.u8 (90 : Int), AV.int IntKind.u8 (165 : Int)].all (okElem (1 : Nat)) = true by kernel_rfl) (AllP.c h3 (AllP.c (show (0 : Int) ≤ (0 : Int) by decide) (AllP.c (show (0 : Int) ≤ (↑(bsA p).length : Int) from Int.natCast_nonneg _) (AllP.c h4 (AllP.c h5 (AllP.c h6 AllP.n))))))))))
theorem Same_next (a b : List TLV) (i : Nat) (x y : TLV)
    (h1 : decide ((↑i : Int) < (↑a.length : Int)) = true)
    (h2 : (tsS a)[i]? = some (tS x))
    (h3 : (tsS b)[i]? = some (tS y))
    (h4 : ((↑x.fst.toNat : Int) != (↑y.fst.toNat : Int)) = false)
    (h5 : FnW Try.prog (16 : FuncId) [AV.sl false false (1 : Nat) (stale.sL (bsA x.snd)), AV.sl false false (1 : Nat) (stale.sL (bsA y.snd))] [slB x.snd, slB y.snd] (AV.bool true))
    (h6 : IntKind.i64.wrap ((↑i : Int) + (1 : Int)) = (↑(i + (1 : Nat)) : Int)) :
    WayR Try.prog T14 42 lp14x0 [(14, .b true), (18, .v (tS x)), (23, .v (tS y)), (26, .b false), (30, .v (tS x)), (35, .v (tS y)), (38, .c [slB x.2, slB y.2] (.bool true)), (41, .i (i + 1 : Nat))] (sSm a b i) .normal (sSm a b (i + 1)) :=
  runs_of_pr hfol (show prR Try.prog T14 42 lp14x0 [(14, .b true), (18, .v (tS x)), (23, .v (tS y)), (26, .b false), (30, .v (tS x)), (35, .v (tS y)), (38, .c [slB x.2, slB y.2] (.bool true)), (41, .i (i + 1 : Nat))] (sSm a b i) .normal (sSm a b (i + 1)) = some _ by kernel_rfl) (AllP.c h1 (AllP.c (show (0 : Int) ≤ (↑i : Int) from Int.natCast_nonneg _) (AllP.c h2 (AllP.c (show (0 : Int) ≤ (↑i : Int) from Int.natCast_nonneg _) (AllP.c h3 (AllP.c h4 (AllP.c (show (0 : Int) ≤ (↑i : Int) from Int.natCast_nonneg _) (AllP.c h2 (AllP.c (show (0 : Int) ≤ (↑i : Int) from Int.natCast_nonneg _) (AllP.c h3 (AllP.c h5 (AllP.c (show freshA (AV.bool true) = true by kernel_rfl) (AllP.c h6 (AllP.c (LeR.refl (x := AV.sl false false (2 : Nat) (tsS a))) (AllP.c (LeR.refl (x := AV.sl false false (2 : Nat) (tsS b))) (AllP.c (LeR.refl (x := AV.int IntKind.i64 (↑a.length : Int))) (AllP.c (LeR.refl (x := AV.int IntKind.i64 (↑(i + (1 : Nat)) : Int))) (AllP.c (LeR.refl (x := AV.mem [])) AllP.n))))))))))))))))))
theorem Same_type (a b : List TLV) (i : Nat) (x y : TLV)
    (h1 : decide ((↑i : Int) < (↑a.length : Int)) = true)
    (h2 : (tsS a)[i]? = some (tS x))
    (h3 : (tsS b)[i]? = some (tS y))
    (h4 : ((↑x.fst.toNat : Int) != (↑y.fst.toNat : Int)) = true) :
    WayR Try.prog T14 42 lp14x0 [(14, .b true), (18, .v (tS x)), (23, .v (tS y)), (26, .b true)] (sSm a b i) .ret (st 42 [(4, .bool false)]) :=
  runs_of_pr hfol (show prR Try.prog T14 42 lp14x0 [(14, .b true), (18, .v (tS x)), (23, .v (tS y)), (26, .b true)] (sSm a b i) .ret (st 42 [(4, .bool false)]) = some _ by kernel_rfl) (AllP.c h1 (AllP.c (show (0 : Int) ≤ (↑i : Int) from Int.natCast_nonneg _) (AllP.c h2 (AllP.c (show (0 : Int) ≤ (↑i : Int) from Int.natCast_nonneg _) (AllP.c h3 (AllP.c h4 (AllP.c (LeR.refl (x := AV.bool false)) (AllP.c (LeR.refl (x := AV.mem [])) AllP.n))))))))
theorem Same_value (a b : List TLV) (i : Nat) (x y : TLV)
    (h1 : decide ((↑i : Int) < (↑a.length : Int)) = true)
    (h2 : (tsS a)[i]? = some (tS x))
    (h3 : (tsS b)[i]? = some (tS y))
    (h4 : ((↑x.fst.toNat : Int) != (↑y.fst.toNat : Int)) = false)
    (h5 : FnW Try.prog (16 : FuncId) [AV.sl false false (1 : Nat) (stale.sL (bsA x.snd)), AV.sl false false (1 : Nat) (stale.sL (bsA y.snd))] [slB x.snd, slB y.snd] (AV.bool false)) :
    WayR Try.prog T14 42 lp14x0 [(14, .b true), (18, .v (tS x)), (23, .v (tS y)), (26, .b false), (30, .v (tS x)), (35, .v (tS y)), (38, .c [slB x.2, slB y.2] (.bool false))] (sSm a b i) .ret (st 42 [(4, .bool false)]) :=
  runs_of_pr hfol (show prR Try.prog T14 42 lp14x0 [(14, .b true), (18, .v (tS x)), (23, .v (tS y)), (26, .b false), (30, .v (tS x)), (35, .v (tS y)), (38, .c [slB x.2, slB y.2] (.bool false))] (sSm a b i) .ret (st 42 [(4, .bool false)]) = some _ by kernel_rfl) (AllP.c h1 (AllP.c (show (0 : Int) ≤ (↑i : Int) from Int.natCast_nonneg _) (AllP.c h2 (AllP.c (show (0 : Int) ≤ (↑i : Int) from Int.natCast_nonneg _) (AllP.c h3 (AllP.c h4 (AllP.c (show (0 : Int) ≤ (↑i : Int) from Int.natCast_nonneg _) (AllP.c h2 (AllP.c (show (0 : Int) ≤ (↑i : Int) from Int.natCast_nonneg _) (AllP.c h3 (AllP.c h5 (AllP.c (show freshA (AV.bool false) = true by kernel_rfl) (AllP.c (LeR.refl (x := AV.bool false)) (AllP.c (LeR.refl (x := AV.mem [])) AllP.n))))))))))))))
theorem Same_end (a b : List TLV) (i : Nat)
    (h1 : decide ((↑i : Int) < (↑a.length : Int)) = false) :
    WayR Try.prog T14 42 lp14x0 [(14, .b false)] (sSm a b i) (.exit 0) (st 42 []) :=
  runs_of_pr hfol (show prR Try.prog T14 42 lp14x0 [(14, .b false)] (sSm a b i) (.exit 0) (st 42 []) = some _ by kernel_rfl) (AllP.c h1 (AllP.c (LeR.refl (x := AV.mem [])) AllP.n))
theorem Same_len (a b : List TLV)
    (h1 : ((↑(tsS a).length : Int) != (↑(tsS b).length : Int)) = true) :
    WayF Try.prog 14 T14 fd14 [(10, .b true)] [slT a, slT b] (.bool false) :=
  fn_of_pr hfol ok14 hT14 (show prF Try.prog 14 T14 fd14 [(10, .b true)] [slT a, slT b] (.bool false) = some _ by kernel_rfl) (AllP.c h1 (AllP.c (show AV.bool false = AV.bool false by kernel_rfl) AllP.n))
theorem Same_all (a b : List TLV)
    (h1 : ((↑(tsS a).length : Int) != (↑(tsS b).length : Int)) = false)
    (h2 : LeR (AV.int IntKind.i64 (↑(tsS a).length : Int)) (AV.int IntKind.i64 (↑a.length : Int)))
    (h3 : Runs Try.prog T14 (42 : Nat) (Cd.loop [] lp14x0) (sSm a b (0 : Nat)) fun x => x = (Ex.exit (0 : Nat), st (42 : Nat) [])) :
    WayF Try.prog 14 T14 fd14 [(10, .b false), (0, .lp (sSm a b 0) (.exit 0) (st 42 []))] [slT a, slT b] (.bool true) :=
  fn_of_pr hfol ok14 hT14 (show prF Try.prog 14 T14 fd14 [(10, .b false), (0, .lp (sSm a b 0) (.exit 0) (st 42 []))] [slT a, slT b] (.bool true) = some _ by kernel_rfl) (AllP.c h1 (AllP.c (LeR.refl (x := AV.sl false false (2 : Nat) (tsS a))) (AllP.c (LeR.refl (x := AV.sl false false (2 : Nat) (tsS b))) (AllP.c h2 (AllP.c (LeR.refl (x := AV.int IntKind.i64 (↑(0 : Nat) : Int))) (AllP.c (LeR.refl (x := AV.mem [])) (AllP.c h3 (AllP.c (show AV.bool true = AV.bool true by kernel_rfl) AllP.n))))))))
theorem Same_not (a b : List TLV)
    (h1 : ((↑(tsS a).length : Int) != (↑(tsS b).length : Int)) = false)
    (h2 : LeR (AV.int IntKind.i64 (↑(tsS a).length : Int)) (AV.int IntKind.i64 (↑a.length : Int)))
    (h3 : Runs Try.prog T14 (42 : Nat) (Cd.loop [] lp14x0) (sSm a b (0 : Nat)) fun x => x = (Ex.ret, st (42 : Nat) [((4 : Nat), AV.bool false)])) :
    WayF Try.prog 14 T14 fd14 [(10, .b false), (0, .lp (sSm a b 0) .ret (st 42 [(4, .bool false)]))] [slT a, slT b] (.bool false) :=
  fn_of_pr hfol ok14 hT14 (show prF Try.prog 14 T14 fd14 [(10, .b false), (0, .lp (sSm a b 0) .ret (st 42 [(4, .bool false)]))] [slT a, slT b] (.bool false) = some _ by kernel_rfl) (AllP.c h1 (AllP.c (LeR.refl (x := AV.sl false false (2 : Nat) (tsS a))) (AllP.c (LeR.refl (x := AV.sl false false (2 : Nat) (tsS b))) (AllP.c h2 (AllP.c (LeR.refl (x := AV.int IntKind.i64 (↑(0 : Nat) : Int))) (AllP.c (LeR.refl (x := AV.mem [])) (AllP.c h3 (AllP.c (show AV.bool false = AV.bool false by kernel_rfl) AllP.n))))))))
end Go.Ev

/-! text T2 -/
set_option linter.unusedVariables false
namespace Go.Ev
open Go.Proofs (Try.prog)

/-! ### The document's words, as functions -/
def lenB (v : List UInt8) : UInt8 := UInt8.ofNat v.length
def enc1 (t : TLV) : List UInt8 := t.1 :: lenB t.2 :: t.2
def enc (l : List TLV) : List UInt8 := l.flatMap enc1
def tot (l : List TLV) : Nat := (l.map fun t => 2 + t.2.length).sum
def ofK (l : List TLV) (k : UInt8) : List (List UInt8) := (l.filter fun t => t.1 == k).map (·.2)
abbrev sJ (l : List TLV) (p : List UInt8) (i : Nat) : List AV := st 41 [(4, .own true 1 (bsA p)), (7, slT l), (8, ni l.length), (9, ni i)]
abbrev sDJ (l : List TLV) (i t : Nat) : List AV := st 30 [(0, slT l), (4, ni t), (7, slT l), (8, ni l.length), (9, ni i)]
abbrev sRJ (l : List TLV) (p : List UInt8) (i : Nat) : List AV := st 30 [(3, .own true 1 (bsA p)), (6, slT l), (7, ni l.length), (8, ni i)]
abbrev sOf (l : List TLV) (k : UInt8) (out : List (List UInt8)) (i : Nat) : List AV := st 27 [(1, bA k), (5, .own true 1 (vsF out)), (8, slT l), (9, ni l.length), (10, ni i)]
abbrev sRO (l : List TLV) (k : UInt8) (out : List (List UInt8)) (i : Nat) : List AV := st 29 [(0, slT l), (1, bA k), (5, .own true 1 (vsS out)), (8, ni l.length), (9, ni i)]
abbrev sSp (p : List UInt8) (out : List TLV) : List AV := st 45 [(0, slB p), (4, .own true 2 (tsF out))]
abbrev sDS (p : List UInt8) (out : List TLV) (a : Nat) : List AV := st 54 [(0, slB p), (4, .own true 2 (tsF out)), (5, ni a)]
abbrev long3 (n a b : Nat) : List AV := st n [(a, .nils), (b, ni 2)]
def joinR (r : Option (List UInt8)) : AV := match r with
  | some p => .tup [.own true 1 (bsA p), ni 0]
  | none => .tup [.nils, ni 2]
end Go.Ev

/-! text W3 -/
set_option linter.unusedVariables false
namespace Go.Ev
open Go.Proofs (Try.prog)
theorem Join_next (l : List TLV) (p : List UInt8) (i : Nat) (t : TLV)
    (h1 : decide ((↑i : Int) < (↑l.length : Int)) = true)
    (h2 : (tsS l)[i]? = some (tS t))
    (h3 : decide ((↑(bsA t.snd).length : Int) > (255 : Int)) = false)
    (h4 : decide (IntKind.i64.wrap (IntKind.i64.wrap ((↑(bsA p).length : Int) + (2 : Int)) + (↑(bsA t.snd).length : Int)) > (1492 : Int)) = false)
    (h5 : AV.int IntKind.u8 (IntKind.u8.wrap (↑(bsA t.snd).length : Int)) = AV.int IntKind.u8 (↑(lenB t.snd).toNat : Int))
    (h6 : ((bsA p).length + [bA t.fst, bA (lenB t.snd)].length) * (1 : Nat) ≤ (140737488355328 : Nat))
    (h7 : (bsA t.snd).all (okElem (1 : Nat)) = true)
    (h8 : ((bsA p ++ [bA t.fst, bA (lenB t.snd)]).length + (bsA t.snd).length) * (1 : Nat) ≤ (140737488355328 : Nat))
    (h9 : IntKind.i64.wrap ((↑i : Int) + (1 : Int)) = (↑(i + (1 : Nat)) : Int))
    (h10 : LeR (AV.own true (1 : Nat) (bsA p ++ [bA t.fst, bA (lenB t.snd)] ++ bsA t.snd)) (AV.own true (1 : Nat) (bsA (p ++ enc1 t)))) :
    WayR Try.prog T15 41 lp15x0 [(10, .b true), (11, .v (tS t)), (16, .b false), (25, .b false), (33, .n (bA (lenB t.2))), (35, .q), (38, .q), (39, .i (i + 1 : Nat))] (sJ l p i) .normal (sJ l (p ++ enc1 t) (i + 1)) :=
  runs_of_pr hfol (show prR Try.prog T15 41 lp15x0 [(10, .b true), (11, .v (tS t)), (16, .b false), (25, .b false), (33, .n (bA (lenB t.2))), (35, .q), (38, .q), (39, .i (i + 1 : Nat))] (sJ l p i) .normal (sJ l (p ++ enc1 t) (i + 1)) = some _ by kernel_rfl) (AllP.c h1 (AllP.c (show (0 : Int) ≤ (↑i : Int) from Int.natCast_nonneg _) (AllP.c h2 (AllP.c h3 (AllP.c h4 (AllP.c h5 (AllP.c (show [bA t.fst, bA (lenB t.snd)].all flat = true by kernel_rfl) (AllP.c (show [bA t.fst, bA (lenB t.snd)].all (okElem (1 : Nat)) = true by kernel_rfl) (AllP.c h6 (AllP.c h7 (AllP.c h8 (AllP.c h9 (AllP.c h10 (AllP.c (LeR.refl (x := AV.sl false false (2 : Nat) (tsS l))) (AllP.c (LeR.refl (x := AV.int IntKind.i64 (↑l.length : Int))) (AllP.c (LeR.refl (x := AV.int IntKind.i64 (↑(i + (1 : Nat)) : Int))) (AllP.c (LeR.refl (x := AV.mem [])) AllP.n)))))))))))))))))
theorem Join_long1 (l : List TLV) (p : List UInt8) (i : Nat) (t : TLV)
    (h1 : decide ((↑i : Int) < (↑l.length : Int)) = true)
    (h2 : (tsS l)[i]? = some (tS t))
    (h3 : decide ((↑(bsA t.snd).length : Int) > (255 : Int)) = true) :
    WayR Try.prog T15 41 lp15x0 [(10, .b true), (11, .v (tS t)), (16, .b true)] (sJ l p i) .ret (st 41 [(2, .nils), (3, ni 2)]) :=
  runs_of_pr hfol (show prR Try.prog T15 41 lp15x0 [(10, .b true), (11, .v (tS t)), (16, .b true)] (sJ l p i) .ret (st 41 [(2, .nils), (3, ni 2)]) = some _ by kernel_rfl) (AllP.c h1 (AllP.c (show (0 : Int) ≤ (↑i : Int) from Int.natCast_nonneg _) (AllP.c h2 (AllP.c h3 (AllP.c (LeR.refl (x := AV.nils)) (AllP.c (LeR.refl (x := AV.int IntKind.i64 (↑(2 : Nat) : Int))) (AllP.c (LeR.refl (x := AV.mem [])) AllP.n)))))))
theorem Join_long2 (l : List TLV) (p : List UInt8) (i : Nat) (t : TLV)
    (h1 : decide ((↑i : Int) < (↑l.length : Int)) = true)
    (h2 : (tsS l)[i]? = some (tS t))
    (h3 : decide ((↑(bsA t.snd).length : Int) > (255 : Int)) = false)
    (h4 : decide (IntKind.i64.wrap (IntKind.i64.wrap ((↑(bsA p).length : Int) + (2 : Int)) + (↑(bsA t.snd).length : Int)) > (1492 : Int)) = true) :
    WayR Try.prog T15 41 lp15x0 [(10, .b true), (11, .v (tS t)), (16, .b false), (25, .b true)] (sJ l p i) .ret (st 41 [(2, .nils), (3, ni 2)]) :=
  runs_of_pr hfol (show prR Try.prog T15 41 lp15x0 [(10, .b true), (11, .v (tS t)), (16, .b false), (25, .b true)] (sJ l p i) .ret (st 41 [(2, .nils), (3, ni 2)]) = some _ by kernel_rfl) (AllP.c h1 (AllP.c (show (0 : Int) ≤ (↑i : Int) from Int.natCast_nonneg _) (AllP.c h2 (AllP.c h3 (AllP.c h4 (AllP.c (LeR.refl (x := AV.nils)) (AllP.c (LeR.refl (x := AV.int IntKind.i64 (↑(2 : Nat) : Int))) (AllP.c (LeR.refl (x := AV.mem [])) AllP.n))))))))
theorem Join_end (l : List TLV) (p : List UInt8) (i : Nat)
    (h1 : decide ((↑i : Int) < (↑l.length : Int)) = false) :
    WayR Try.prog T15 41 lp15x0 [(10, .b false)] (sJ l p i) (.exit 0) (st 41 [(4, .own true 1 (bsA p))]) :=
  runs_of_pr hfol (show prR Try.prog T15 41 lp15x0 [(10, .b false)] (sJ l p i) (.exit 0) (st 41 [(4, .own true 1 (bsA p))]) = some _ by kernel_rfl) (AllP.c h1 (AllP.c (LeR.refl (x := AV.own true (1 : Nat) (bsA p))) (AllP.c (LeR.refl (x := AV.mem [])) AllP.n)))
theorem Join_ok (l : List TLV) (p : List UInt8)
    (h1 : LeR (AV.int IntKind.i64 (↑(tsS l).length : Int)) (AV.int IntKind.i64 (↑l.length : Int)))
    (h2 : Runs Try.prog T15 (41 : Nat) (Cd.loop [] lp15x0) (sJ l [] (0 : Nat)) fun x => x = (Ex.exit (0 : Nat), st (41 : Nat) [((4 : Nat), AV.own true (1 : Nat) (bsA p))])) :
    WayF Try.prog 15 T15 fd15 [(0, .lp (sJ l [] 0) (.exit 0) (st 41 [(4, .own true 1 (bsA p))]))] [slT l] (.tup [.own true 1 (bsA p), ni 0]) :=
  fn_of_pr hfol ok15 hT15 (show prF Try.prog 15 T15 fd15 [(0, .lp (sJ l [] 0) (.exit 0) (st 41 [(4, .own true 1 (bsA p))]))] [slT l] (.tup [.own true 1 (bsA p), ni 0]) = some _ by kernel_rfl) (AllP.c (LeR.nilsOwn : LeR AV.nils (AV.own true (1 : Nat) [])) (AllP.c (LeR.refl (x := AV.sl false false (2 : Nat) (tsS l))) (AllP.c h1 (AllP.c (LeR.refl (x := AV.int IntKind.i64 (↑(0 : Nat) : Int))) (AllP.c (LeR.refl (x := AV.mem [])) (AllP.c h2 (AllP.c (show AV.tup [AV.own true (1 : Nat) (bsA p), AV.int IntKind.i64 (0 : Int)] = AV.tup [AV.own true (1 : Nat) (bsA p), ni (0 : Nat)] by kernel_rfl) AllP.n)))))))
theorem Join_long (l : List TLV)
    (h1 : LeR (AV.int IntKind.i64 (↑(tsS l).length : Int)) (AV.int IntKind.i64 (↑l.length : Int)))
    (h2 : Runs Try.prog T15 (41 : Nat) (Cd.loop [] lp15x0) (sJ l [] (0 : Nat)) fun x => x = (Ex.ret, st (41 : Nat) [((2 : Nat), AV.nils), ((3 : Nat), ni (2 : Nat))])) :
    WayF Try.prog 15 T15 fd15 [(0, .lp (sJ l [] 0) .ret (st 41 [(2, .nils), (3, ni 2)]))] [slT l] (.tup [.nils, ni 2]) :=
  fn_of_pr hfol ok15 hT15 (show prF Try.prog 15 T15 fd15 [(0, .lp (sJ l [] 0) .ret (st 41 [(2, .nils), (3, ni 2)]))] [slT l] (.tup [.nils, ni 2]) = some _ by kernel_rfl) (AllP.c (LeR.nilsOwn : LeR AV.nils (AV.own true (1 : Nat) [])) (AllP.c (LeR.refl (x := AV.sl false false (2 : Nat) (tsS l))) (AllP.c h1 (AllP.c (LeR.refl (x := AV.int IntKind.i64 (↑(0 : Nat) : Int))) (AllP.c (LeR.refl (x := AV.mem [])) (AllP.c h2 (AllP.c (show AV.tup [AV.nils, AV.int IntKind.i64 (↑(2 : Nat) : Int)] = AV.tup [AV.nils, ni (2 : Nat)] by kernel_rfl) AllP.n)))))))
theorem DJoin_next (l : List TLV) (i s : Nat) (t : TLV)
    (h1 : decide ((↑i : Int) < (↑l.length : Int)) = true)
    (h2 : (tsS l)[i]? = some (tS t))
    (h3 : IntKind.i64.wrap ((↑s : Int) + IntKind.i64.wrap ((2 : Int) + (↑(bsA t.snd).length : Int))) = (↑(s + ((2 : Nat) + t.snd.length)) : Int))
    (h4 : decide ((↑(bsA t.snd).length : Int) > (255 : Int)) = false)
    (h5 : decide ((↑(s + ((2 : Nat) + t.snd.length)) : Int) > (1492 : Int)) = false)
    (h6 : IntKind.i64.wrap ((↑i : Int) + (1 : Int)) = (↑(i + (1 : Nat)) : Int)) :
    WayR Try.prog T19 30 lp19x0 [(10, .b true), (11, .v (tS t)), (18, .i (s + (2 + t.2.length) : Nat)), (22, .b false), (25, .b false), (27, .i (i + 1 : Nat))] (sDJ l i s) .normal (sDJ l (i + 1) (s + (2 + t.2.length))) :=
  runs_of_pr hfol (show prR Try.prog T19 30 lp19x0 [(10, .b true), (11, .v (tS t)), (18, .i (s + (2 + t.2.length) : Nat)), (22, .b false), (25, .b false), (27, .i (i + 1 : Nat))] (sDJ l i s) .normal (sDJ l (i + 1) (s + (2 + t.2.length))) = some _ by kernel_rfl) (AllP.c h1 (AllP.c (show (0 : Int) ≤ (↑i : Int) from Int.natCast_nonneg _) (AllP.c h2 (AllP.c h3 (AllP.c h4 (AllP.c h5 (AllP.c h6 (AllP.c (LeR.refl (x := AV.sl false false (2 : Nat) (tsS l))) (AllP.c (LeR.refl (x := AV.int IntKind.i64 (↑(s + ((2 : Nat) + t.snd.length)) : Int))) (AllP.c (LeR.refl (x := AV.sl false false (2 : Nat) (tsS l))) (AllP.c (LeR.refl (x := AV.int IntKind.i64 (↑l.length : Int))) (AllP.c (LeR.refl (x := AV.int IntKind.i64 (↑(i + (1 : Nat)) : Int))) (AllP.c (LeR.refl (x := AV.mem [])) AllP.n)))))))))))))
theorem DJoin_long1 (l : List TLV) (i s : Nat) (t : TLV)
    (h1 : decide ((↑i : Int) < (↑l.length : Int)) = true)
    (h2 : (tsS l)[i]? = some (tS t))
    (h3 : IntKind.i64.wrap ((↑s : Int) + IntKind.i64.wrap ((2 : Int) + (↑(bsA t.snd).length : Int))) = (↑(s + ((2 : Nat) + t.snd.length)) : Int))
    (h4 : decide ((↑(bsA t.snd).length : Int) > (255 : Int)) = true) :
    WayR Try.prog T19 30 lp19x0 [(10, .b true), (11, .v (tS t)), (18, .i (s + (2 + t.2.length) : Nat)), (22, .b true)] (sDJ l i s) .ret (st 30 [(2, .nils), (3, ni 2)]) :=
  runs_of_pr hfol (show prR Try.prog T19 30 lp19x0 [(10, .b true), (11, .v (tS t)), (18, .i (s + (2 + t.2.length) : Nat)), (22, .b true)] (sDJ l i s) .ret (st 30 [(2, .nils), (3, ni 2)]) = some _ by kernel_rfl) (AllP.c h1 (AllP.c (show (0 : Int) ≤ (↑i : Int) from Int.natCast_nonneg _) (AllP.c h2 (AllP.c h3 (AllP.c h4 (AllP.c (LeR.refl (x := AV.nils)) (AllP.c (LeR.refl (x := AV.int IntKind.i64 (↑(2 : Nat) : Int))) (AllP.c (LeR.refl (x := AV.mem [])) AllP.n))))))))
theorem DJoin_long2 (l : List TLV) (i s : Nat) (t : TLV)
    (h1 : decide ((↑i : Int) < (↑l.length : Int)) = true)
    (h2 : (tsS l)[i]? = some (tS t))
    (h3 : IntKind.i64.wrap ((↑s : Int) + IntKind.i64.wrap ((2 : Int) + (↑(bsA t.snd).length : Int))) = (↑(s + ((2 : Nat) + t.snd.length)) : Int))
    (h4 : decide ((↑(bsA t.snd).length : Int) > (255 : Int)) = false)
    (h5 : decide ((↑(s + ((2 : Nat) + t.snd.length)) : Int) > (1492 : Int)) = true) :
    WayR Try.prog T19 30 lp19x0 [(10, .b true), (11, .v (tS t)), (18, .i (s + (2 + t.2.length) : Nat)), (22, .b false), (25, .b true)] (sDJ l i s) .ret (st 30 [(2, .nils), (3, ni 2)]) :=
  runs_of_pr hfol (show prR Try.prog T19 30 lp19x0 [(10, .b true), (11, .v (tS t)), (18, .i (s + (2 + t.2.length) : Nat)), (22, .b false), (25, .b true)] (sDJ l i s) .ret (st 30 [(2, .nils), (3, ni 2)]) = some _ by kernel_rfl) (AllP.c h1 (AllP.c (show (0 : Int) ≤ (↑i : Int) from Int.natCast_nonneg _) (AllP.c h2 (AllP.c h3 (AllP.c h4 (AllP.c h5 (AllP.c (LeR.refl (x := AV.nils)) (AllP.c (LeR.refl (x := AV.int IntKind.i64 (↑(2 : Nat) : Int))) (AllP.c (LeR.refl (x := AV.mem [])) AllP.n)))))))))
theorem DJoin_end (l : List TLV) (i s : Nat)
    (h1 : decide ((↑i : Int) < (↑l.length : Int)) = false) :
    WayR Try.prog T19 30 lp19x0 [(10, .b false)] (sDJ l i s) (.exit 0) (st 30 [(0, slT l)]) :=
  runs_of_pr hfol (show prR Try.prog T19 30 lp19x0 [(10, .b false)] (sDJ l i s) (.exit 0) (st 30 [(0, slT l)]) = some _ by kernel_rfl) (AllP.c h1 (AllP.c (LeR.refl (x := AV.sl false false (2 : Nat) (tsS l))) (AllP.c (LeR.refl (x := AV.mem [])) AllP.n)))
theorem DJoin_ok (l : List TLV) (p : List UInt8)
    (h1 : LeR (AV.int IntKind.i64 (↑(tsS l).length : Int)) (AV.int IntKind.i64 (↑l.length : Int)))
    (h2 : Runs Try.prog T19 (30 : Nat) (Cd.loop [] lp19x0) (sDJ l (0 : Nat) (0 : Nat)) fun x => x = (Ex.exit (0 : Nat), st (30 : Nat) [((0 : Nat), slT l)]))
    (h3 : FnW Try.prog (22 : FuncId) [AV.sl false false (2 : Nat) (stale.sL (tsS l))] [slT l] (AV.own true (1 : Nat) (bsA p)))
    (h4 : freshA (AV.own true (1 : Nat) (bsA p)) = true)
    (h5 : AV.tup [AV.own true (1 : Nat) (deepen.dL (bsA p)), AV.int IntKind.i64 (0 : Int)] = AV.tup [AV.own true (1 : Nat) (bsA p), ni (0 : Nat)]) :
    WayF Try.prog 19 T19 fd19 [(0, .lp (sDJ l 0 0) (.exit 0) (st 30 [(0, slT l)])), (29, .c [slT l] (.own true 1 (bsA p)))] [slT l] (.tup [.own true 1 (bsA p), ni 0]) :=
  fn_of_pr hfol ok19 hT19 (show prF Try.prog 19 T19 fd19 [(0, .lp (sDJ l 0 0) (.exit 0) (st 30 [(0, slT l)])), (29, .c [slT l] (.own true 1 (bsA p)))] [slT l] (.tup [.own true 1 (bsA p), ni 0]) = some _ by kernel_rfl) (AllP.c (LeR.refl (x := AV.sl false false (2 : Nat) (tsS l))) (AllP.c (LeR.refl (x := AV.int IntKind.i64 (↑(0 : Nat) : Int))) (AllP.c (LeR.refl (x := AV.sl false false (2 : Nat) (tsS l))) (AllP.c h1 (AllP.c (LeR.refl (x := AV.int IntKind.i64 (↑(0 : Nat) : Int))) (AllP.c (LeR.refl (x := AV.mem [])) (AllP.c h2 (AllP.c h3 (AllP.c h4 (AllP.c h5 AllP.n))))))))))
theorem DJoin_long (l : List TLV)
    (h1 : LeR (AV.int IntKind.i64 (↑(tsS l).length : Int)) (AV.int IntKind.i64 (↑l.length : Int)))
    (h2 : Runs Try.prog T19 (30 : Nat) (Cd.loop [] lp19x0) (sDJ l (0 : Nat) (0 : Nat)) fun x => x = (Ex.ret, st (30 : Nat) [((2 : Nat), AV.nils), ((3 : Nat), ni (2 : Nat))])) :
    WayF Try.prog 19 T19 fd19 [(0, .lp (sDJ l 0 0) .ret (st 30 [(2, .nils), (3, ni 2)]))] [slT l] (.tup [.nils, ni 2]) :=
  fn_of_pr hfol ok19 hT19 (show prF Try.prog 19 T19 fd19 [(0, .lp (sDJ l 0 0) .ret (st 30 [(2, .nils), (3, ni 2)]))] [slT l] (.tup [.nils, ni 2]) = some _ by kernel_rfl) (AllP.c (LeR.refl (x := AV.sl false false (2 : Nat) (tsS l))) (AllP.c (LeR.refl (x := AV.int IntKind.i64 (↑(0 : Nat) : Int))) (AllP.c (LeR.refl (x := AV.sl false false (2 : Nat) (tsS l))) (AllP.c h1 (AllP.c (LeR.refl (x := AV.int IntKind.i64 (↑(0 : Nat) : Int))) (AllP.c (LeR.refl (x := AV.mem [])) (AllP.c h2 (AllP.c (show AV.tup [AV.nils, AV.int IntKind.i64 (↑(2 : Nat) : Int)] = AV.tup [AV.nils, ni (2 : Nat)] by kernel_rfl) AllP.n))))))))
theorem RJoin_next (l : List TLV) (p : List UInt8) (i : Nat) (t : TLV)
    (h1 : decide ((↑i : Int) < (↑l.length : Int)) = true)
    (h2 : (tsS l)[i]? = some (tS t))
    (h3 : ((bsA p).length + [bA t.fst].length) * (1 : Nat) ≤ (140737488355328 : Nat))
    (h4 : AV.int IntKind.u8 (IntKind.u8.wrap (↑(bsA t.snd).length : Int)) = AV.int IntKind.u8 (↑(lenB t.snd).toNat : Int))
    (h5 : ((bsA p ++ [bA t.fst]).length + [bA (lenB t.snd)].length) * (1 : Nat) ≤ (140737488355328 : Nat))
    (h6 : (bsA t.snd).all (okElem (1 : Nat)) = true)
    (h7 : ((bsA p ++ [bA t.fst] ++ [bA (lenB t.snd)]).length + (bsA t.snd).length) * (1 : Nat) ≤ (140737488355328 : Nat))
    (h8 : IntKind.i64.wrap ((↑i : Int) + (1 : Int)) = (↑(i + (1 : Nat)) : Int))
    (h9 : LeR (AV.own true (1 : Nat) (bsA p ++ [bA t.fst] ++ [bA (lenB t.snd)] ++ bsA t.snd)) (AV.own true (1 : Nat) (bsA (p ++ enc1 t)))) :
    WayR Try.prog T22 30 lp22x0 [(9, .b true), (10, .v (tS t)), (16, .q), (21, .n (bA (lenB t.2))), (23, .q), (27, .q), (28, .i (i + 1 : Nat))] (sRJ l p i) .normal (sRJ l (p ++ enc1 t) (i + 1)) :=
  runs_of_pr hfol (show prR Try.prog T22 30 lp22x0 [(9, .b true), (10, .v (tS t)), (16, .q), (21, .n (bA (lenB t.2))), (23, .q), (27, .q), (28, .i (i + 1 : Nat))] (sRJ l p i) .normal (sRJ l (p ++ enc1 t) (i + 1)) = some _ by kernel_rfl) (AllP.c h1 (AllP.c (show (0 : Int) ≤ (↑i : Int) from Int.natCast_nonneg _) (AllP.c h2 (AllP.c (show [bA t.fst].all flat = true by kernel_rfl) (AllP.c (show [bA t.fst].all (okElem (1 : Nat)) = true by kernel_rfl) (AllP.c h3 (AllP.c h4 (AllP.c (show [bA (lenB t.snd)].all flat = true by kernel_rfl) (AllP.c (show [bA (lenB t.snd)].all (okElem (1 : Nat)) = true by kernel_rfl) (AllP.c h5 (AllP.c h6 (AllP.c h7 (AllP.c h8 (AllP.c h9 (AllP.c (LeR.refl (x := AV.sl false false (2 : Nat) (tsS l))) (AllP.c (LeR.refl (x := AV.int IntKind.i64 (↑l.length : Int))) (AllP.c (LeR.refl (x := AV.int IntKind.i64 (↑(i + (1 : Nat)) : Int))) (AllP.c (LeR.refl (x := AV.mem [])) AllP.n))))))))))))))))))
theorem RJoin_end (l : List TLV) (p : List UInt8) (i : Nat)
    (h1 : decide ((↑i : Int) < (↑l.length : Int)) = false) :
    WayR Try.prog T22 30 lp22x0 [(9, .b false)] (sRJ l p i) (.exit 0) (st 30 [(3, .own true 1 (bsA p))]) :=
  runs_of_pr hfol (show prR Try.prog T22 30 lp22x0 [(9, .b false)] (sRJ l p i) (.exit 0) (st 30 [(3, .own true 1 (bsA p))]) = some _ by kernel_rfl) (AllP.c h1 (AllP.c (LeR.refl (x := AV.own true (1 : Nat) (bsA p))) (AllP.c (LeR.refl (x := AV.mem [])) AllP.n)))
theorem RJoin_ok (l : List TLV) (p : List UInt8)
    (h1 : LeR (AV.int IntKind.i64 (↑(tsS l).length : Int)) (AV.int IntKind.i64 (↑l.length : Int)))
    (h2 : Runs Try.prog T22 (30 : Nat) (Cd.loop [] lp22x0) (sRJ l [] (0 : Nat)) fun x => x = (Ex.exit (0 : Nat), st (30 : Nat) [((3 : Nat), AV.own true (1 : Nat) (bsA p))])) :
    WayF Try.prog 22 T22 fd22 [(0, .lp (sRJ l [] 0) (.exit 0) (st 30 [(3, .own true 1 (bsA p))]))] [slT l] (.own true 1 (bsA p)) :=
  fn_of_pr hfol ok22 hT22 (show prF Try.prog 22 T22 fd22 [(0, .lp (sRJ l [] 0) (.exit 0) (st 30 [(3, .own true 1 (bsA p))]))] [slT l] (.own true 1 (bsA p)) = some _ by kernel_rfl) (AllP.c (LeR.nilsOwn : LeR AV.nils (AV.own true (1 : Nat) [])) (AllP.c (LeR.refl (x := AV.sl false false (2 : Nat) (tsS l))) (AllP.c h1 (AllP.c (LeR.refl (x := AV.int IntKind.i64 (↑(0 : Nat) : Int))) (AllP.c (LeR.refl (x := AV.mem [])) (AllP.c h2 (AllP.c (show AV.own true (1 : Nat) (bsA p) = AV.own true (1 : Nat) (bsA p) by kernel_rfl) AllP.n)))))))
theorem Of_hit (l : List TLV) (k : UInt8) (out : List (List UInt8)) (i : Nat) (t : TLV)
    (h1 : decide ((↑i : Int) < (↑l.length : Int)) = true)
    (h2 : (tsS l)[i]? = some (tS t))
    (h3 : ((↑t.fst.toNat : Int) == (↑k.toNat : Int)) = true)
    (h4 : (bsA t.snd).all (okElem (1 : Nat)) = true)
    (h5 : ((0 : Nat) + (bsA t.snd).length) * (1 : Nat) ≤ (140737488355328 : Nat))
    (h6 : ((vsF out).length + [AV.sl true false (1 : Nat) (undeep.uL (undeep.uL ([] ++ bsA t.snd)))].length) * (24 : Nat) ≤ (140737488355328 : Nat))
    (h7 : IntKind.i64.wrap ((↑i : Int) + (1 : Int)) = (↑(i + (1 : Nat)) : Int))
    (h8 : LeR (AV.own true (1 : Nat) (vsF out ++ [AV.sl true false (1 : Nat) (undeep.uL (undeep.uL ([] ++ bsA t.snd)))])) (AV.own true (1 : Nat) (vsF (out ++ [t.snd])))) :
    WayR Try.prog T8 27 lp8x0 [(11, .b true), (12, .v (tS t)), (17, .b true), (22, .q), (24, .q2), (25, .i (i + 1 : Nat))] (sOf l k out i) .normal (sOf l k (out ++ [t.2]) (i + 1)) :=
  runs_of_pr hfol (show prR Try.prog T8 27 lp8x0 [(11, .b true), (12, .v (tS t)), (17, .b true), (22, .q), (24, .q2), (25, .i (i + 1 : Nat))] (sOf l k out i) .normal (sOf l k (out ++ [t.2]) (i + 1)) = some _ by kernel_rfl) (AllP.c h1 (AllP.c (show (0 : Int) ≤ (↑i : Int) from Int.natCast_nonneg _) (AllP.c h2 (AllP.c h3 (AllP.c h4 (AllP.c h5 (AllP.c (show [AV.sl true false (1 : Nat) (undeep.uL ([] ++ bsA t.snd))].all flat = false by kernel_rfl) (AllP.c (show [AV.sl true false (1 : Nat) (undeep.uL (undeep.uL ([] ++ bsA t.snd)))].all (okElem (1 : Nat)) = true by kernel_rfl) (AllP.c h6 (AllP.c h7 (AllP.c (LeR.refl (x := AV.int IntKind.u8 (↑k.toNat : Int))) (AllP.c h8 (AllP.c (LeR.refl (x := AV.sl false false (2 : Nat) (tsS l))) (AllP.c (LeR.refl (x := AV.int IntKind.i64 (↑l.length : Int))) (AllP.c (LeR.refl (x := AV.int IntKind.i64 (↑(i + (1 : Nat)) : Int))) (AllP.c (LeR.refl (x := AV.mem [])) AllP.n))))))))))))))))
theorem Of_miss (l : List TLV) (k : UInt8) (out : List (List UInt8)) (i : Nat) (t : TLV)
    (h1 : decide ((↑i : Int) < (↑l.length : Int)) = true)
    (h2 : (tsS l)[i]? = some (tS t))
    (h3 : ((↑t.fst.toNat : Int) == (↑k.toNat : Int)) = false)
    (h4 : IntKind.i64.wrap ((↑i : Int) + (1 : Int)) = (↑(i + (1 : Nat)) : Int)) :
    WayR Try.prog T8 27 lp8x0 [(11, .b true), (12, .v (tS t)), (17, .b false), (25, .i (i + 1 : Nat))] (sOf l k out i) .normal (sOf l k out (i + 1)) :=
  runs_of_pr hfol (show prR Try.prog T8 27 lp8x0 [(11, .b true), (12, .v (tS t)), (17, .b false), (25, .i (i + 1 : Nat))] (sOf l k out i) .normal (sOf l k out (i + 1)) = some _ by kernel_rfl) (AllP.c h1 (AllP.c (show (0 : Int) ≤ (↑i : Int) from Int.natCast_nonneg _) (AllP.c h2 (AllP.c h3 (AllP.c h4 (AllP.c (LeR.refl (x := AV.int IntKind.u8 (↑k.toNat : Int))) (AllP.c (LeR.refl (x := AV.own true (1 : Nat) (vsF out))) (AllP.c (LeR.refl (x := AV.sl false false (2 : Nat) (tsS l))) (AllP.c (LeR.refl (x := AV.int IntKind.i64 (↑l.length : Int))) (AllP.c (LeR.refl (x := AV.int IntKind.i64 (↑(i + (1 : Nat)) : Int))) (AllP.c (LeR.refl (x := AV.mem [])) AllP.n)))))))))))
theorem Of_end (l : List TLV) (k : UInt8) (out : List (List UInt8)) (i : Nat)
    (h1 : decide ((↑i : Int) < (↑l.length : Int)) = false) :
    WayR Try.prog T8 27 lp8x0 [(11, .b false)] (sOf l k out i) (.exit 0) (st 27 [(5, .own true 1 (vsF out))]) :=
  runs_of_pr hfol (show prR Try.prog T8 27 lp8x0 [(11, .b false)] (sOf l k out i) (.exit 0) (st 27 [(5, .own true 1 (vsF out))]) = some _ by kernel_rfl) (AllP.c h1 (AllP.c (LeR.refl (x := AV.own true (1 : Nat) (vsF out))) (AllP.c (LeR.refl (x := AV.mem [])) AllP.n)))
theorem Of_way (l : List TLV) (k : UInt8) (out : List (List UInt8))
    (h1 : LeR (AV.int IntKind.i64 (↑(tsS l).length : Int)) (AV.int IntKind.i64 (↑l.length : Int)))
    (h2 : Runs Try.prog T8 (27 : Nat) (Cd.loop [] lp8x0) (sOf l k [] (0 : Nat)) fun x => x = (Ex.exit (0 : Nat), st (27 : Nat) [((5 : Nat), AV.own true (1 : Nat) (vsF out))])) :
    WayF Try.prog 8 T8 fd8 [(0, .lp (sOf l k [] 0) (.exit 0) (st 27 [(5, .own true 1 (vsF out))]))] [slT l, bA k] (.own true 1 (vsF out)) :=
  fn_of_pr hfol ok8 hT8 (show prF Try.prog 8 T8 fd8 [(0, .lp (sOf l k [] 0) (.exit 0) (st 27 [(5, .own true 1 (vsF out))]))] [slT l, bA k] (.own true 1 (vsF out)) = some _ by kernel_rfl) (AllP.c (LeR.refl (x := AV.int IntKind.u8 (↑k.toNat : Int))) (AllP.c (LeR.nilsOwn : LeR AV.nils (AV.own true (1 : Nat) [])) (AllP.c (LeR.refl (x := AV.sl false false (2 : Nat) (tsS l))) (AllP.c h1 (AllP.c (LeR.refl (x := AV.int IntKind.i64 (↑(0 : Nat) : Int))) (AllP.c (LeR.refl (x := AV.mem [])) (AllP.c h2 (AllP.c (show AV.own true (1 : Nat) (vsF out) = AV.own true (1 : Nat) (vsF out) by kernel_rfl) AllP.n))))))))
theorem ROf_hit (l : List TLV) (k : UInt8) (out : List (List UInt8)) (i : Nat) (t : TLV)
    (h1 : decide ((↑i : Int) < (↑l.length : Int)) = true)
    (h2 : (tsS l)[i]? = some (tS t))
    (h3 : ((↑t.fst.toNat : Int) == (↑k.toNat : Int)) = true)
    (h4 : ((vsS out).length + [AV.sl false false (1 : Nat) (undeep.uL (bsA t.snd))].length) * (24 : Nat) ≤ (140737488355328 : Nat))
    (h5 : IntKind.i64.wrap ((↑i : Int) + (1 : Int)) = (↑(i + (1 : Nat)) : Int))
    (h6 : LeR (AV.own true (1 : Nat) (vsS out ++ [AV.sl false false (1 : Nat) (undeep.uL (bsA t.snd))])) (AV.own true (1 : Nat) (vsS (out ++ [t.snd])))) :
    WayR Try.prog T20 29 lp20x0 [(10, .b true), (14, .v (tS t)), (18, .b true), (22, .v (tS t)), (26, .q2), (27, .i (i + 1 : Nat))] (sRO l k out i) .normal (sRO l k (out ++ [t.2]) (i + 1)) :=
  runs_of_pr hfol (show prR Try.prog T20 29 lp20x0 [(10, .b true), (14, .v (tS t)), (18, .b true), (22, .v (tS t)), (26, .q2), (27, .i (i + 1 : Nat))] (sRO l k out i) .normal (sRO l k (out ++ [t.2]) (i + 1)) = some _ by kernel_rfl) (AllP.c h1 (AllP.c (show (0 : Int) ≤ (↑i : Int) from Int.natCast_nonneg _) (AllP.c h2 (AllP.c h3 (AllP.c (show (0 : Int) ≤ (↑i : Int) from Int.natCast_nonneg _) (AllP.c h2 (AllP.c (show [AV.sl false false (1 : Nat) (bsA t.snd)].all flat = false by kernel_rfl) (AllP.c (show [AV.sl false false (1 : Nat) (undeep.uL (bsA t.snd))].all (okElem (1 : Nat)) = true by kernel_rfl) (AllP.c h4 (AllP.c h5 (AllP.c (LeR.refl (x := AV.sl false false (2 : Nat) (tsS l))) (AllP.c (LeR.refl (x := AV.int IntKind.u8 (↑k.toNat : Int))) (AllP.c h6 (AllP.c (LeR.refl (x := AV.int IntKind.i64 (↑l.length : Int))) (AllP.c (LeR.refl (x := AV.int IntKind.i64 (↑(i + (1 : Nat)) : Int))) (AllP.c (LeR.refl (x := AV.mem [])) AllP.n))))))))))))))))
theorem ROf_miss (l : List TLV) (k : UInt8) (out : List (List UInt8)) (i : Nat) (t : TLV)
    (h1 : decide ((↑i : Int) < (↑l.length : Int)) = true)
    (h2 : (tsS l)[i]? = some (tS t))
    (h3 : ((↑t.fst.toNat : Int) == (↑k.toNat : Int)) = false)
    (h4 : IntKind.i64.wrap ((↑i : Int) + (1 : Int)) = (↑(i + (1 : Nat)) : Int)) :
    WayR Try.prog T20 29 lp20x0 [(10, .b true), (14, .v (tS t)), (18, .b false), (27, .i (i + 1 : Nat))] (sRO l k out i) .normal (sRO l k out (i + 1)) :=
  runs_of_pr hfol (show prR Try.prog T20 29 lp20x0 [(10, .b true), (14, .v (tS t)), (18, .b false), (27, .i (i + 1 : Nat))] (sRO l k out i) .normal (sRO l k out (i + 1)) = some _ by kernel_rfl) (AllP.c h1 (AllP.c (show (0 : Int) ≤ (↑i : Int) from Int.natCast_nonneg _) (AllP.c h2 (AllP.c h3 (AllP.c h4 (AllP.c (LeR.refl (x := AV.sl false false (2 : Nat) (tsS l))) (AllP.c (LeR.refl (x := AV.int IntKind.u8 (↑k.toNat : Int))) (AllP.c (LeR.refl (x := AV.own true (1 : Nat) (vsS out))) (AllP.c (LeR.refl (x := AV.int IntKind.i64 (↑l.length : Int))) (AllP.c (LeR.refl (x := AV.int IntKind.i64 (↑(i + (1 : Nat)) : Int))) (AllP.c (LeR.refl (x := AV.mem [])) AllP.n)))))))))))
theorem ROf_end (l : List TLV) (k : UInt8) (out : List (List UInt8)) (i : Nat)
    (h1 : decide ((↑i : Int) < (↑l.length : Int)) = false) :
    WayR Try.prog T20 29 lp20x0 [(10, .b false)] (sRO l k out i) (.exit 0) (st 29 [(5, .own true 1 (vsS out))]) :=
  runs_of_pr hfol (show prR Try.prog T20 29 lp20x0 [(10, .b false)] (sRO l k out i) (.exit 0) (st 29 [(5, .own true 1 (vsS out))]) = some _ by kernel_rfl) (AllP.c h1 (AllP.c (LeR.refl (x := AV.own true (1 : Nat) (vsS out))) (AllP.c (LeR.refl (x := AV.mem [])) AllP.n)))
theorem ROf_way (l : List TLV) (k : UInt8) (out : List (List UInt8))
    (h1 : LeR (AV.int IntKind.i64 (↑(tsS l).length : Int)) (AV.int IntKind.i64 (↑l.length : Int)))
    (h2 : Runs Try.prog T20 (29 : Nat) (Cd.loop [] lp20x0) (sRO l k [] (0 : Nat)) fun x => x = (Ex.exit (0 : Nat), st (29 : Nat) [((5 : Nat), AV.own true (1 : Nat) (vsS out))])) :
    WayF Try.prog 20 T20 fd20 [(0, .lp (sRO l k [] 0) (.exit 0) (st 29 [(5, .own true 1 (vsS out))]))] [slT l, bA k] (.own true 1 (vsS out)) :=
  fn_of_pr hfol ok20 hT20 (show prF Try.prog 20 T20 fd20 [(0, .lp (sRO l k [] 0) (.exit 0) (st 29 [(5, .own true 1 (vsS out))]))] [slT l, bA k] (.own true 1 (vsS out)) = some _ by kernel_rfl) (AllP.c (LeR.refl (x := AV.sl false false (2 : Nat) (tsS l))) (AllP.c (LeR.refl (x := AV.int IntKind.u8 (↑k.toNat : Int))) (AllP.c (LeR.nilsOwn : LeR AV.nils (AV.own true (1 : Nat) [])) (AllP.c h1 (AllP.c (LeR.refl (x := AV.int IntKind.i64 (↑(0 : Nat) : Int))) (AllP.c (LeR.refl (x := AV.mem [])) (AllP.c h2 (AllP.c (show AV.own true (1 : Nat) (vsS out) = AV.own true (1 : Nat) (vsS out) by kernel_rfl) AllP.n))))))))
theorem Split_next (p v r : List UInt8) (out : List TLV) (t k : UInt8)
    (h1 : decide ((↑(bsA p).length : Int) > (0 : Int)) = true)
    (h2 : decide ((↑(bsA p).length : Int) < (2 : Int)) = false)
    (h3 : (bsA p)[(1 : Nat)]? = some (bA k))
    (h4 : IntKind.i64.wrap (↑k.toNat : Int) = (↑k.toNat : Int))
    (h5 : IntKind.i64.wrap ((2 : Int) + (↑k.toNat : Int)) = (↑((2 : Nat) + k.toNat) : Int))
    (h6 : decide ((↑(bsA p).length : Int) < (↑((2 : Nat) + k.toNat) : Int)) = false)
    (h7 : (bsA p)[(0 : Nat)]? = some (bA t))
    (h8 : (2 : Int) ≤ (↑((2 : Nat) + k.toNat) : Int))
    (h9 : (↑((2 : Nat) + k.toNat) : Int) ≤ (↑(bsA p).length : Int))
    (h10 : FnW Try.prog (21 : FuncId) [AV.sl false (false || !(bsA p).isEmpty) (1 : Nat) (stale.sL (List.drop (2 : Nat) (List.take ((2 : Nat) + k.toNat) (bsA p))))] [slB v] (AV.own true (1 : Nat) (bsA v)))
    (h11 : freshA (AV.own true (1 : Nat) (bsA v)) = true)
    (h12 : ((tsF out).length + [AV.agg [AV.int IntKind.u8 (↑t.toNat : Int), AV.sl true false (1 : Nat) (undeep.uL (undeep.uL (deepen.dL (bsA v))))]].length) * (32 : Nat) ≤ (140737488355328 : Nat))
    (h13 : (↑(bsA p).length : Int) ≤ (↑(bsA p).length : Int))
    (h14 : LeR (AV.sl false (false || !(bsA p).isEmpty) (1 : Nat) (List.drop ((2 : Nat) + k.toNat) (List.take (bsA p).length (bsA p)))) (AV.sl false false (1 : Nat) (bsA r)))
    (h15 : LeR (AV.own true (2 : Nat) (tsF out ++ [AV.agg [AV.int IntKind.u8 (↑t.toNat : Int), AV.sl true false (1 : Nat) (undeep.uL (undeep.uL (deepen.dL (bsA v))))]])) (AV.own true (2 : Nat) (tsF (out ++ [(t, v)])))) :
    WayR Try.prog T12 45 lp12x0 [(11, .b true), (14, .b false), (19, .v (bA k)), (21, .i k.toNat), (22, .i (2 + k.toNat : Nat)), (23, .b false), (26, .v (bA k)), (28, .i k.toNat), (29, .i (2 + k.toNat : Nat)), (32, .v (bA t)), (36, .q), (37, .c [slB v] (.own true 1 (bsA v))), (40, .q2), (43, .q)] (sSp p out) .normal (sSp r (out ++ [(t, v)])) :=
  runs_of_pr hfol (show prR Try.prog T12 45 lp12x0 [(11, .b true), (14, .b false), (19, .v (bA k)), (21, .i k.toNat), (22, .i (2 + k.toNat : Nat)), (23, .b false), (26, .v (bA k)), (28, .i k.toNat), (29, .i (2 + k.toNat : Nat)), (32, .v (bA t)), (36, .q), (37, .c [slB v] (.own true 1 (bsA v))), (40, .q2), (43, .q)] (sSp p out) .normal (sSp r (out ++ [(t, v)])) = some _ by kernel_rfl) (AllP.c h1 (AllP.c h2 (AllP.c (show (0 : Int) ≤ (1 : Int) by decide) (AllP.c h3 (AllP.c h4 (AllP.c h5 (AllP.c h6 (AllP.c (show (0 : Int) ≤ (1 : Int) by decide) (AllP.c h3 (AllP.c h4 (AllP.c h5 (AllP.c (show (0 : Int) ≤ (0 : Int) by decide) (AllP.c h7 (AllP.c (show (0 : Int) ≤ (2 : Int) by decide) (AllP.c h8 (AllP.c h9 (AllP.c h10 (AllP.c h11 (AllP.c (show [AV.agg [bA t, AV.sl true false (1 : Nat) (undeep.uL (deepen.dL (bsA v)))]].all flat = false by kernel_rfl) (AllP.c (show [AV.agg [AV.int IntKind.u8 (↑t.toNat : Int), AV.sl true false (1 : Nat) (undeep.uL (undeep.uL (deepen.dL (bsA v))))]].all (okElem (2 : Nat)) = true by kernel_rfl) (AllP.c h12 (AllP.c (show (0 : Int) ≤ (↑((2 : Nat) + k.toNat) : Int) from Int.natCast_nonneg _) (AllP.c h9 (AllP.c h13 (AllP.c h14 (AllP.c h15 (AllP.c (LeR.refl (x := AV.mem [])) AllP.n)))))))))))))))))))))))))))
theorem Split_err1 (p : List UInt8) (out : List TLV)
    (h1 : decide ((↑(bsA p).length : Int) > (0 : Int)) = true)
    (h2 : decide ((↑(bsA p).length : Int) < (2 : Int)) = true) :
    WayR Try.prog T12 45 lp12x0 [(11, .b true), (14, .b true)] (sSp p out) .ret (st 45 [(2, .nils), (3, ni 3)]) :=
  runs_of_pr hfol (show prR Try.prog T12 45 lp12x0 [(11, .b true), (14, .b true)] (sSp p out) .ret (st 45 [(2, .nils), (3, ni 3)]) = some _ by kernel_rfl) (AllP.c h1 (AllP.c h2 (AllP.c (LeR.refl (x := AV.nils)) (AllP.c (LeR.refl (x := AV.int IntKind.i64 (↑(3 : Nat) : Int))) (AllP.c (LeR.refl (x := AV.mem [])) AllP.n)))))
theorem Split_err2 (p : List UInt8) (out : List TLV) (k : UInt8)
    (h1 : decide ((↑(bsA p).length : Int) > (0 : Int)) = true)
    (h2 : decide ((↑(bsA p).length : Int) < (2 : Int)) = false)
    (h3 : (bsA p)[(1 : Nat)]? = some (bA k))
    (h4 : IntKind.i64.wrap (↑k.toNat : Int) = (↑k.toNat : Int))
    (h5 : IntKind.i64.wrap ((2 : Int) + (↑k.toNat : Int)) = (↑((2 : Nat) + k.toNat) : Int))
    (h6 : decide ((↑(bsA p).length : Int) < (↑((2 : Nat) + k.toNat) : Int)) = true) :
    WayR Try.prog T12 45 lp12x0 [(11, .b true), (14, .b false), (19, .v (bA k)), (21, .i k.toNat), (22, .i (2 + k.toNat : Nat)), (23, .b true)] (sSp p out) .ret (st 45 [(2, .nils), (3, ni 3)]) :=
  runs_of_pr hfol (show prR Try.prog T12 45 lp12x0 [(11, .b true), (14, .b false), (19, .v (bA k)), (21, .i k.toNat), (22, .i (2 + k.toNat : Nat)), (23, .b true)] (sSp p out) .ret (st 45 [(2, .nils), (3, ni 3)]) = some _ by kernel_rfl) (AllP.c h1 (AllP.c h2 (AllP.c (show (0 : Int) ≤ (1 : Int) by decide) (AllP.c h3 (AllP.c h4 (AllP.c h5 (AllP.c h6 (AllP.c (LeR.refl (x := AV.nils)) (AllP.c (LeR.refl (x := AV.int IntKind.i64 (↑(3 : Nat) : Int))) (AllP.c (LeR.refl (x := AV.mem [])) AllP.n))))))))))
theorem Split_end (p : List UInt8) (out : List TLV)
    (h1 : decide ((↑(bsA p).length : Int) > (0 : Int)) = false) :
    WayR Try.prog T12 45 lp12x0 [(11, .b false)] (sSp p out) (.exit 0) (st 45 [(4, .own true 2 (tsF out))]) :=
  runs_of_pr hfol (show prR Try.prog T12 45 lp12x0 [(11, .b false)] (sSp p out) (.exit 0) (st 45 [(4, .own true 2 (tsF out))]) = some _ by kernel_rfl) (AllP.c h1 (AllP.c (LeR.refl (x := AV.own true (2 : Nat) (tsF out))) (AllP.c (LeR.refl (x := AV.mem [])) AllP.n)))
theorem Split_long (p : List UInt8)
    (h1 : decide ((↑(bsA p).length : Int) > (1492 : Int)) = true) :
    WayF Try.prog 12 T12 fd12 [(8, .b true)] [slB p] (.tup [.nils, ni 2]) :=
  fn_of_pr hfol ok12 hT12 (show prF Try.prog 12 T12 fd12 [(8, .b true)] [slB p] (.tup [.nils, ni 2]) = some _ by kernel_rfl) (AllP.c h1 (AllP.c (show AV.tup [AV.nils, AV.int IntKind.i64 (2 : Int)] = AV.tup [AV.nils, ni (2 : Nat)] by kernel_rfl) AllP.n))
theorem Split_form (p : List UInt8)
    (h1 : decide ((↑(bsA p).length : Int) > (1492 : Int)) = false)
    (h2 : Runs Try.prog T12 (45 : Nat) (Cd.loop [] lp12x0) (sSp p []) fun x => x = (Ex.ret, st (45 : Nat) [((2 : Nat), AV.nils), ((3 : Nat), ni (3 : Nat))])) :
    WayF Try.prog 12 T12 fd12 [(8, .b false), (0, .lp (sSp p []) .ret (st 45 [(2, .nils), (3, ni 3)]))] [slB p] (.tup [.nils, ni 3]) :=
  fn_of_pr hfol ok12 hT12 (show prF Try.prog 12 T12 fd12 [(8, .b false), (0, .lp (sSp p []) .ret (st 45 [(2, .nils), (3, ni 3)]))] [slB p] (.tup [.nils, ni 3]) = some _ by kernel_rfl) (AllP.c h1 (AllP.c (LeR.refl (x := AV.sl false false (1 : Nat) (bsA p))) (AllP.c (LeR.nilsOwn : LeR AV.nils (AV.own true (2 : Nat) [])) (AllP.c (LeR.refl (x := AV.mem [])) (AllP.c h2 (AllP.c (show AV.tup [AV.nils, AV.int IntKind.i64 (↑(3 : Nat) : Int)] = AV.tup [AV.nils, ni (3 : Nat)] by kernel_rfl) AllP.n))))))
theorem Split_ok (p : List UInt8) (out : List TLV)
    (h1 : decide ((↑(bsA p).length : Int) > (1492 : Int)) = false)
    (h2 : Runs Try.prog T12 (45 : Nat) (Cd.loop [] lp12x0) (sSp p []) fun x => x = (Ex.exit (0 : Nat), st (45 : Nat) [((4 : Nat), AV.own true (2 : Nat) (tsF out))])) :
    WayF Try.prog 12 T12 fd12 [(8, .b false), (0, .lp (sSp p []) (.exit 0) (st 45 [(4, .own true 2 (tsF out))]))] [slB p] (.tup [.own true 2 (tsF out), ni 0]) :=
  fn_of_pr hfol ok12 hT12 (show prF Try.prog 12 T12 fd12 [(8, .b false), (0, .lp (sSp p []) (.exit 0) (st 45 [(4, .own true 2 (tsF out))]))] [slB p] (.tup [.own true 2 (tsF out), ni 0]) = some _ by kernel_rfl) (AllP.c h1 (AllP.c (LeR.refl (x := AV.sl false false (1 : Nat) (bsA p))) (AllP.c (LeR.nilsOwn : LeR AV.nils (AV.own true (2 : Nat) [])) (AllP.c (LeR.refl (x := AV.mem [])) (AllP.c h2 (AllP.c (show AV.tup [AV.own true (2 : Nat) (tsF out), AV.int IntKind.i64 (0 : Int)] = AV.tup [AV.own true (2 : Nat) (tsF out), ni (0 : Nat)] by kernel_rfl) AllP.n))))))
theorem DSplit_next (p v : List UInt8) (out : List TLV) (a : Nat) (t k : UInt8)
    (h1 : decide ((↑a : Int) < (↑(bsA p).length : Int)) = true)
    (h2 : ((↑a : Int) == IntKind.i64.wrap ((↑(bsA p).length : Int) - (1 : Int))) = false)
    (h3 : IntKind.i64.wrap ((↑a : Int) + (1 : Int)) = (↑(a + (1 : Nat)) : Int))
    (h4 : (bsA p)[a + (1 : Nat)]? = some (bA k))
    (h5 : IntKind.i64.wrap (↑k.toNat : Int) = (↑k.toNat : Int))
    (h6 : decide (IntKind.i64.wrap (IntKind.i64.wrap ((↑(bsA p).length : Int) - (↑a : Int)) - (2 : Int)) < (↑k.toNat : Int)) = false)
    (h7 : (bsA p)[a]? = some (bA t))
    (h8 : IntKind.i64.wrap ((↑a : Int) + (2 : Int)) = (↑(a + (2 : Nat)) : Int))
    (h9 : IntKind.i64.wrap (IntKind.i64.wrap ((↑a : Int) + (2 : Int)) + (↑k.toNat : Int)) = (↑(a + (2 : Nat) + k.toNat) : Int))
    (h10 : (↑(a + (2 : Nat)) : Int) ≤ (↑(a + (2 : Nat) + k.toNat) : Int))
    (h11 : (↑(a + (2 : Nat) + k.toNat) : Int) ≤ (↑(bsA p).length : Int))
    (h12 : FnW Try.prog (18 : FuncId) [AV.sl false (false || !(bsA p).isEmpty) (1 : Nat) (stale.sL (List.drop (a + (2 : Nat)) (List.take (a + (2 : Nat) + k.toNat) (bsA p))))] [slB v] (AV.own true (1 : Nat) (bsA v)))
    (h13 : freshA (AV.own true (1 : Nat) (bsA v)) = true)
    (h14 : ((tsF out).length + [AV.agg [AV.int IntKind.u8 (↑t.toNat : Int), AV.sl true false (1 : Nat) (undeep.uL (undeep.uL (deepen.dL (bsA v))))]].length) * (32 : Nat) ≤ (140737488355328 : Nat))
    (h15 : IntKind.i64.wrap ((↑a : Int) + IntKind.i64.wrap ((2 : Int) + (↑k.toNat : Int))) = (↑(a + ((2 : Nat) + k.toNat)) : Int))
    (h16 : LeR (AV.own true (2 : Nat) (tsF out ++ [AV.agg [AV.int IntKind.u8 (↑t.toNat : Int), AV.sl true false (1 : Nat) (undeep.uL (undeep.uL (deepen.dL (bsA v))))]])) (AV.own true (2 : Nat) (tsF (out ++ [(t, v)])))) :
    WayR Try.prog T13 54 lp13x0 [(13, .b true), (18, .b false), (21, .i (a + 1 : Nat)), (22, .v (bA k)), (24, .i k.toNat), (31, .b false), (35, .v (bA t)), (39, .i (a + 2 : Nat)), (43, .i (a + 2 + k.toNat : Nat)), (44, .q), (45, .c [slB v] (.own true 1 (bsA v))), (48, .q2), (52, .i (a + (2 + k.toNat) : Nat))] (sDS p out a) .normal (sDS p (out ++ [(t, v)]) (a + (2 + k.toNat))) :=
  runs_of_pr hfol (show prR Try.prog T13 54 lp13x0 [(13, .b true), (18, .b false), (21, .i (a + 1 : Nat)), (22, .v (bA k)), (24, .i k.toNat), (31, .b false), (35, .v (bA t)), (39, .i (a + 2 : Nat)), (43, .i (a + 2 + k.toNat : Nat)), (44, .q), (45, .c [slB v] (.own true 1 (bsA v))), (48, .q2), (52, .i (a + (2 + k.toNat) : Nat))] (sDS p out a) .normal (sDS p (out ++ [(t, v)]) (a + (2 + k.toNat))) = some _ by kernel_rfl) (AllP.c h1 (AllP.c h2 (AllP.c h3 (AllP.c (show (0 : Int) ≤ (↑(a + (1 : Nat)) : Int) from Int.natCast_nonneg _) (AllP.c h4 (AllP.c h5 (AllP.c h6 (AllP.c (show (0 : Int) ≤ (↑a : Int) from Int.natCast_nonneg _) (AllP.c h7 (AllP.c h8 (AllP.c h9 (AllP.c (show (0 : Int) ≤ (↑(a + (2 : Nat)) : Int) from Int.natCast_nonneg _) (AllP.c h10 (AllP.c h11 (AllP.c h12 (AllP.c h13 (AllP.c (show [AV.agg [bA t, AV.sl true false (1 : Nat) (undeep.uL (deepen.dL (bsA v)))]].all flat = false by kernel_rfl) (AllP.c (show [AV.agg [AV.int IntKind.u8 (↑t.toNat : Int), AV.sl true false (1 : Nat) (undeep.uL (undeep.uL (deepen.dL (bsA v))))]].all (okElem (2 : Nat)) = true by kernel_rfl) (AllP.c h14 (AllP.c h15 (AllP.c (LeR.refl (x := AV.sl false false (1 : Nat) (bsA p))) (AllP.c h16 (AllP.c (LeR.refl (x := AV.int IntKind.i64 (↑(a + ((2 : Nat) + k.toNat)) : Int))) (AllP.c (LeR.refl (x := AV.mem [])) AllP.n))))))))))))))))))))))))
theorem DSplit_err1 (p : List UInt8) (out : List TLV) (a : Nat)
    (h1 : decide ((↑a : Int) < (↑(bsA p).length : Int)) = true)
    (h2 : ((↑a : Int) == IntKind.i64.wrap ((↑(bsA p).length : Int) - (1 : Int))) = true) :
    WayR Try.prog T13 54 lp13x0 [(13, .b true), (18, .b true)] (sDS p out a) .ret (st 54 [(2, .nils), (3, ni 3)]) :=
  runs_of_pr hfol (show prR Try.prog T13 54 lp13x0 [(13, .b true), (18, .b true)] (sDS p out a) .ret (st 54 [(2, .nils), (3, ni 3)]) = some _ by kernel_rfl) (AllP.c h1 (AllP.c h2 (AllP.c (LeR.refl (x := AV.nils)) (AllP.c (LeR.refl (x := AV.int IntKind.i64 (↑(3 : Nat) : Int))) (AllP.c (LeR.refl (x := AV.mem [])) AllP.n)))))
theorem DSplit_err2 (p : List UInt8) (out : List TLV) (a : Nat) (k : UInt8)
    (h1 : decide ((↑a : Int) < (↑(bsA p).length : Int)) = true)
    (h2 : ((↑a : Int) == IntKind.i64.wrap ((↑(bsA p).length : Int) - (1 : Int))) = false)
    (h3 : IntKind.i64.wrap ((↑a : Int) + (1 : Int)) = (↑(a + (1 : Nat)) : Int))
    (h4 : (bsA p)[a + (1 : Nat)]? = some (bA k))
    (h5 : IntKind.i64.wrap (↑k.toNat : Int) = (↑k.toNat : Int))
    (h6 : decide (IntKind.i64.wrap (IntKind.i64.wrap ((↑(bsA p).length : Int) - (↑a : Int)) - (2 : Int)) < (↑k.toNat : Int)) = true) :
    WayR Try.prog T13 54 lp13x0 [(13, .b true), (18, .b false), (21, .i (a + 1 : Nat)), (22, .v (bA k)), (24, .i k.toNat), (31, .b true)] (sDS p out a) .ret (st 54 [(2, .nils), (3, ni 3)]) :=
  runs_of_pr hfol (show prR Try.prog T13 54 lp13x0 [(13, .b true), (18, .b false), (21, .i (a + 1 : Nat)), (22, .v (bA k)), (24, .i k.toNat), (31, .b true)] (sDS p out a) .ret (st 54 [(2, .nils), (3, ni 3)]) = some _ by kernel_rfl) (AllP.c h1 (AllP.c h2 (AllP.c h3 (AllP.c (show (0 : Int) ≤ (↑(a + (1 : Nat)) : Int) from Int.natCast_nonneg _) (AllP.c h4 (AllP.c h5 (AllP.c h6 (AllP.c (LeR.refl (x := AV.nils)) (AllP.c (LeR.refl (x := AV.int IntKind.i64 (↑(3 : Nat) : Int))) (AllP.c (LeR.refl (x := AV.mem [])) AllP.n))))))))))
theorem DSplit_end (p : List UInt8) (out : List TLV) (a : Nat)
    (h1 : decide ((↑a : Int) < (↑(bsA p).length : Int)) = false) :
    WayR Try.prog T13 54 lp13x0 [(13, .b false)] (sDS p out a) (.exit 0) (st 54 [(4, .own true 2 (tsF out))]) :=
  runs_of_pr hfol (show prR Try.prog T13 54 lp13x0 [(13, .b false)] (sDS p out a) (.exit 0) (st 54 [(4, .own true 2 (tsF out))]) = some _ by kernel_rfl) (AllP.c h1 (AllP.c (LeR.refl (x := AV.own true (2 : Nat) (tsF out))) (AllP.c (LeR.refl (x := AV.mem [])) AllP.n)))
theorem DSplit_long (p : List UInt8)
    (h1 : decide ((↑(bsA p).length : Int) > (1492 : Int)) = true) :
    WayF Try.prog 13 T13 fd13 [(9, .b true)] [slB p] (.tup [.nils, ni 2]) :=
  fn_of_pr hfol ok13 hT13 (show prF Try.prog 13 T13 fd13 [(9, .b true)] [slB p] (.tup [.nils, ni 2]) = some _ by kernel_rfl) (AllP.c h1 (AllP.c (show AV.tup [AV.nils, AV.int IntKind.i64 (2 : Int)] = AV.tup [AV.nils, ni (2 : Nat)] by kernel_rfl) AllP.n))
theorem DSplit_form (p : List UInt8)
    (h1 : decide ((↑(bsA p).length : Int) > (1492 : Int)) = false)
    (h2 : Runs Try.prog T13 (54 : Nat) (Cd.loop [] lp13x0) (sDS p [] (0 : Nat)) fun x => x = (Ex.ret, st (54 : Nat) [((2 : Nat), AV.nils), ((3 : Nat), ni (3 : Nat))])) :
    WayF Try.prog 13 T13 fd13 [(9, .b false), (0, .lp (sDS p [] 0) .ret (st 54 [(2, .nils), (3, ni 3)]))] [slB p] (.tup [.nils, ni 3]) :=
  fn_of_pr hfol ok13 hT13 (show prF Try.prog 13 T13 fd13 [(9, .b false), (0, .lp (sDS p [] 0) .ret (st 54 [(2, .nils), (3, ni 3)]))] [slB p] (.tup [.nils, ni 3]) = some _ by kernel_rfl) (AllP.c h1 (AllP.c (LeR.refl (x := AV.sl false false (1 : Nat) (bsA p))) (AllP.c (LeR.nilsOwn : LeR AV.nils (AV.own true (2 : Nat) [])) (AllP.c (LeR.refl (x := AV.int IntKind.i64 (↑(0 : Nat) : Int))) (AllP.c (LeR.refl (x := AV.mem [])) (AllP.c h2 (AllP.c (show AV.tup [AV.nils, AV.int IntKind.i64 (↑(3 : Nat) : Int)] = AV.tup [AV.nils, ni (3 : Nat)] by kernel_rfl) AllP.n)))))))
theorem DSplit_ok (p : List UInt8) (out : List TLV)
    (h1 : decide ((↑(bsA p).length : Int) > (1492 : Int)) = false)
    (h2 : Runs Try.prog T13 (54 : Nat) (Cd.loop [] lp13x0) (sDS p [] (0 : Nat)) fun x => x = (Ex.exit (0 : Nat), st (54 : Nat) [((4 : Nat), AV.own true (2 : Nat) (tsF out))])) :
    WayF Try.prog 13 T13 fd13 [(9, .b false), (0, .lp (sDS p [] 0) (.exit 0) (st 54 [(4, .own true 2 (tsF out))]))] [slB p] (.tup [.own true 2 (tsF out), ni 0]) :=
  fn_of_pr hfol ok13 hT13 (show prF Try.prog 13 T13 fd13 [(9, .b false), (0, .lp (sDS p [] 0) (.exit 0) (st 54 [(4, .own true 2 (tsF out))]))] [slB p] (.tup [.own true 2 (tsF out), ni 0]) = some _ by kernel_rfl) (AllP.c h1 (AllP.c (LeR.refl (x := AV.sl false false (1 : Nat) (bsA p))) (AllP.c (LeR.nilsOwn : LeR AV.nils (AV.own true (2 : Nat) [])) (AllP.c (LeR.refl (x := AV.int IntKind.i64 (↑(0 : Nat) : Int))) (AllP.c (LeR.refl (x := AV.mem [])) (AllP.c h2 (AllP.c (show AV.tup [AV.own true (2 : Nat) (tsF out), AV.int IntKind.i64 (0 : Int)] = AV.tup [AV.own true (2 : Nat) (tsF out), ni (0 : Nat)] by kernel_rfl) AllP.n)))))))
theorem Kept_yes (f a : List UInt8)
    (h1 : IntKind.i64.wrap ((↑(bsA a).length : Int) + (3 : Int)) = (↑(a.length + (3 : Nat)) : Int))
    (h2 : ((↑(bsA f).length : Int) == (↑(a.length + (3 : Nat)) : Int)) = true)
    (h3 : (↑(bsA a).length : Int) ≤ (↑(bsA f).length : Int))
    (h4 : FnW Try.prog (16 : FuncId) [AV.sl false (false || !(bsA f).isEmpty) (1 : Nat) (stale.sL (List.drop (0 : Nat) (List.take (bsA a).length (bsA f)))), AV.sl false false (1 : Nat) (stale.sL (bsA a))] [slB a, slB a] (AV.bool true))
    (h5 : (bsA f)[(bsA a).length]? = some (bA (165 : UInt8)))
    (h6 : IntKind.i64.wrap ((↑(bsA a).length : Int) + (1 : Int)) = (↑(a.length + (1 : Nat)) : Int))
    (h7 : (bsA f)[a.length + (1 : Nat)]? = some (bA (90 : UInt8)))
    (h8 : IntKind.i64.wrap ((↑(bsA a).length : Int) + (2 : Int)) = (↑(a.length + (2 : Nat)) : Int))
    (h9 : (bsA f)[a.length + (2 : Nat)]? = some (bA (165 : UInt8))) :
    WayF Try.prog 17 T17 fd17 [(11, .i (a.length + 3 : Nat)), (12, .b true), (16, .q), (18, .c [slB a, slB a] (.bool true)), (23, .v (bA 165)), (25, .b true), (30, .i (a.length + 1 : Nat)), (31, .v (bA 90)), (33, .b true), (38, .i (a.length + 2 : Nat)), (39, .v (bA 165)), (41, .b true)] [slB f, slB a] (.bool true) :=
  fn_of_pr hfol ok17 hT17 (show prF Try.prog 17 T17 fd17 [(11, .i (a.length + 3 : Nat)), (12, .b true), (16, .q), (18, .c [slB a, slB a] (.bool true)), (23, .v (bA 165)), (25, .b true), (30, .i (a.length + 1 : Nat)), (31, .v (bA 90)), (33, .b true), (38, .i (a.length + 2 : Nat)), (39, .v (bA 165)), (41, .b true)] [slB f, slB a] (.bool true) = some _ by kernel_rfl) (AllP.c h1 (AllP.c h2 (AllP.c (show (0 : Int) ≤ (0 : Int) by decide) (AllP.c (show (0 : Int) ≤ (↑(bsA a).length : Int) from Int.natCast_nonneg _) (AllP.c h3 (AllP.c h4 (AllP.c (show freshA (AV.bool true) = true by kernel_rfl) (AllP.c (show (0 : Int) ≤ (↑(bsA a).length : Int) from Int.natCast_nonneg _) (AllP.c h5 (AllP.c (show ((↑(165 : Nat) : Int) == (165 : Int)) = true by kernel_rfl) (AllP.c h6 (AllP.c (show (0 : Int) ≤ (↑(a.length + (1 : Nat)) : Int) from Int.natCast_nonneg _) (AllP.c h7 (AllP.c (show ((↑(90 : Nat) : Int) == (90 : Int)) = true by kernel_rfl) (AllP.c h8 (AllP.c (show (0 : Int) ≤ (↑(a.length + (2 : Nat)) : Int) from Int.natCast_nonneg _) (AllP.c h9 (AllP.c (show ((↑(165 : Nat) : Int) == (165 : Int)) = true by kernel_rfl) (AllP.c (show AV.bool true = AV.bool true by kernel_rfl) AllP.n)))))))))))))))))))
theorem awake_way 
    (h1 : FnW Try.prog (15 : FuncId) [AV.sl false false (2 : Nat) [AV.agg [AV.int IntKind.u8 (1 : Int), AV.sl false false (1 : Nat) [AV.int IntKind.u8 (97 : Int), AV.int IntKind.u8 (98 : Int)]], AV.agg [AV.int IntKind.u8 (9 : Int), AV.nils]]] [slT [((1 : UInt8), [(97 : UInt8), (98 : UInt8)]), ((9 : UInt8), [])]] (AV.tup [AV.own true (1 : Nat) (bsA [(1 : UInt8), (2 : UInt8), (97 : UInt8), (98 : UInt8), (9 : UInt8), (0 : UInt8)]), ni (0 : Nat)]))
    (h2 : FnW Try.prog (16 : FuncId) [AV.sl false false (1 : Nat) [AV.int IntKind.u8 (↑(1 : Nat) : Int), AV.int IntKind.u8 (↑(2 : Nat) : Int), AV.int IntKind.u8 (↑(97 : Nat) : Int), AV.int IntKind.u8 (↑(98 : Nat) : Int), AV.int IntKind.u8 (↑(9 : Nat) : Int), AV.int IntKind.u8 (↑(0 : Nat) : Int)], AV.sl false false (1 : Nat) [AV.int IntKind.u8 (1 : Int), AV.int IntKind.u8 (2 : Int), AV.int IntKind.u8 (97 : Int), AV.int IntKind.u8 (98 : Int), AV.int IntKind.u8 (9 : Int), AV.int IntKind.u8 (0 : Int)]] [slB [(1 : UInt8), (2 : UInt8), (97 : UInt8), (98 : UInt8), (9 : UInt8), (0 : UInt8)], slB [(1 : UInt8), (2 : UInt8), (97 : UInt8), (98 : UInt8), (9 : UInt8), (0 : UInt8)]] (AV.bool true)) :
    WayF Try.prog 7 T7 fd7 [(9, .c [slT [(1, [97, 98]), (9, [])]] (.tup [.own true 1 (bsA [1, 2, 97, 98, 9, 0]), ni 0])), (9, .n (.tup [.own true 1 (bsA [1, 2, 97, 98, 9, 0]), ni 0])), (13, .b true), (17, .c [slB [1, 2, 97, 98, 9, 0], slB [1, 2, 97, 98, 9, 0]] (.bool true))] [] (.bool true) :=
  fn_of_pr hfol ok7 hT7 (show prF Try.prog 7 T7 fd7 [(9, .c [slT [(1, [97, 98]), (9, [])]] (.tup [.own true 1 (bsA [1, 2, 97, 98, 9, 0]), ni 0])), (9, .n (.tup [.own true 1 (bsA [1, 2, 97, 98, 9, 0]), ni 0])), (13, .b true), (17, .c [slB [1, 2, 97, 98, 9, 0], slB [1, 2, 97, 98, 9, 0]] (.bool true))] [] (.bool true) = some _ by kernel_rfl) (AllP.c h1 (AllP.c (show freshA (AV.tup [AV.own true (1 : Nat) (bsA [(1 : UInt8), (2 : UInt8), (97 : UInt8), (98 : UInt8), (9 : UInt8), (0 : UInt8)]), ni (0 : Nat)]) = true by kernel_rfl) (AllP.c (show AV.tup [AV.own true (1 : Nat) (bsA [(1 : UInt8), (2 : UInt8), (97 : UInt8), (98 : UInt8), (9 : UInt8), (0 : UInt8)]), ni (0 : Nat)] = AV.tup [AV.own true (1 : Nat) (bsA [(1 : UInt8), (2 : UInt8), (97 : UInt8), (98 : UInt8), (9 : UInt8), (0 : UInt8)]), ni (0 : Nat)] by kernel_rfl) (AllP.c (show ((↑(0 : Nat) : Int) == (0 : Int)) = true by kernel_rfl) (AllP.c h2 (AllP.c (show freshA (AV.bool true) = true by kernel_rfl) (AllP.c (show AV.bool true = AV.bool true by kernel_rfl) AllP.n)))))))
end Go.Ev

/-! text P2 -/
set_option linter.unusedVariables false
namespace Go.Ev
open Go.Proofs (Try.prog)

/-! ### SameBytes -/
theorem u8_ne {x y : UInt8} (h : x ≠ y) : ((x.toNat : Int) != (y.toNat : Int)) = true := by
  simp only [bne_iff_ne, ne_eq]
  intro e
  exact h (UInt8.toNat_inj.1 (by omega))
theorem u8_beq (x y : UInt8) : ((x.toNat : Int) == (y.toNat : Int)) = (x == y) := by
  rw [Bool.eq_iff_iff]
  simp only [beq_iff_eq]
  exact ⟨fun e => UInt8.toNat_inj.1 (by omega), fun e => by rw [e]⟩
/-- Where two lists of one length part. -/
theorem parts_at {α : Type} [DecidableEq α] : ∀ (a b : List α), a.length = b.length → a ≠ b → ∃ j, ∃ h1 : j < a.length, ∃ h2 : j < b.length, a[j] ≠ b[j] ∧ ∀ i (h1 : i < a.length) (h2 : i < b.length), i < j → a[i] = b[i]
  | [], [], _, h => absurd rfl h
  | x :: a, y :: b, hl, h => by
    by_cases e : x = y
    · subst e
      obtain ⟨j, h1, h2, h3, h4⟩ := parts_at a b (by simpa using hl) (fun e => h (by rw [e]))
      refine ⟨j + 1, by simpa using h1, by simpa using h2, by simpa using h3, fun i g1 g2 hi => ?_⟩
      cases i with
      | zero => rfl
      | succ i => simpa using h4 i (by simpa using g1) (by simpa using g2) (by omega)
    · exact ⟨0, by simp, by simp, by simpa using e, fun i _ _ hi => by omega⟩
theorem SameBytes_ok (a b : List UInt8) (hs : a.length < 4611686018427387904) : FnOk Try.prog 16 [slB a, slB b] (.bool (decide (a = b))) := by
  by_cases hl : a.length = b.length
  · by_cases e : a = b
    · subst e
      rw [decide_eq_true rfl]
      refine SameBytes_all a a (by simp) (LeR.of_eq (by simp)) ?_
      exact Runs.upto (S := fun i => st 26 [(0, slB a), (1, slB a), (12, .int .i64 a.length), (13, .int .i64 i)]) (j := a.length) (fun i hi => SameBytes_next a a i a[i] a[i] (by simpa using hi) (get_bA hi) (get_bA hi) (by simp) (wrap_succ (by omega))) (SameBytes_end a a _ (by simp)) (by simp)
    · rw [decide_eq_false e]
      obtain ⟨j, h1, h2, h3, h4⟩ := parts_at a b hl e
      refine SameBytes_not a b (by simp [hl]) (LeR.of_eq (by simp)) ?_
      exact Runs.upto (S := fun i => st 26 [(0, slB a), (1, slB b), (12, .int .i64 a.length), (13, .int .i64 i)]) (j := j) (fun i hi => SameBytes_next a b i a[i] b[i] (by simp; omega) (get_bA (by omega)) (get_bA (by omega)) (by simp [h4 i (by omega) (by omega) hi]) (wrap_succ (by omega))) (SameBytes_diff a b j a[j] b[j] (by simpa using h1) (get_bA h1) (get_bA h2) (u8_ne h3)) (by simp)
  · rw [decide_eq_false (fun e => hl (by rw [e]))]
    exact SameBytes_len a b (by simp [bne_iff_ne]; omega)

/-! ### Twin, Clone -/
theorem Twin1_ok (l : List UInt8) (hs : l.length < 1073741824) : FnOk Try.prog 18 [slB l] (.own true 1 (bsA l)) :=
  Twin1_way l (by simp) (by simp; omega)
theorem Clone_ok (l : List UInt8) (hs : l.length < 1073741824) : FnOk Try.prog 21 [slB l] (.own true 1 (bsA l)) := by
  cases l with
  | nil => exact FnOk.nil_or (FnOk.le Clone_nil .nilsOwn rfl) Clone_nn
  | cons b l => exact Clone_cons b l (by simp) (by simp only [bsA_len]; omega)
@[simp] theorem tsS_len (l : List TLV) : (tsS l).length = l.length := by simp [tsS]
@[simp] theorem tsF_len (l : List TLV) : (tsF l).length = l.length := by simp [tsF]
@[simp] theorem tsD_len (l : List TLV) : (tsD l).length = l.length := by simp [tsD]
@[simp] theorem vsS_len (l : List (List UInt8)) : (vsS l).length = l.length := by simp [vsS]
@[simp] theorem vsF_len (l : List (List UInt8)) : (vsF l).length = l.length := by simp [vsF]
@[simp] theorem vsD_len (l : List (List UInt8)) : (vsD l).length = l.length := by simp [vsD]
theorem get_tS {l : List TLV} {i : Nat} (h : i < l.length) : (tsS l)[i]? = some (tS l[i]) := by simp [tsS, List.getElem?_map, List.getElem?_eq_getElem h]
theorem get_vS {l : List (List UInt8)} {i : Nat} (h : i < l.length) : (vsS l)[i]? = some (vS l[i]) := by simp [vsS, List.getElem?_map, List.getElem?_eq_getElem h]
theorem tsF_snoc (l : List TLV) (t : TLV) : tsF (l ++ [t]) = tsF l ++ [tF t] := by simp [tsF]
theorem vsF_snoc (l : List (List UInt8)) (t : List UInt8) : vsF (l ++ [t]) = vsF l ++ [vF t] := by simp [vsF]
theorem vsS_snoc (l : List (List UInt8)) (t : List UInt8) : vsS (l ++ [t]) = vsS l ++ [vS t] := by simp [vsS]
theorem slB_arg (v : List UInt8) : Lv (.sl false false 1 (stale.sL (bsA v))) (slB v) := by rw [bsA_sL]; exact .refl
/-- All values are small. -/
def Small (l : List TLV) : Prop := l.length < 1073741824 ∧ ∀ t ∈ l, t.2.length < 1073741824
theorem Twin_ok (l : List TLV) (hs : Small l) : FnOk Try.prog 9 [slT l] (.own true 2 (tsF l)) := by
  refine Twin_way l (LeR.of_eq (by simp)) ?_
  have hl := hs.1
  refine Runs.upto (S := fun i => sTw l (l.take i) i) (j := l.length) (fun i hi => ?_) ?_ (by simp)
  · have h2 := hs.2 l[i] (List.getElem_mem _)
    have h := Twin_next l (l.take i) i l[i] (by simpa using hi) (get_tS hi) (.of (.cons (slB_arg _) .nil) (Twin1_ok _ h2)) (by simp [freshA]) (by simp; omega) (wrap_succ (by omega)) (LeR.of_eq (by rw [tsF_snoc]; simp only [bsA_uL, bsA_dL]; rfl))
    simp only [List.take_succ_eq_append_getElem hi]
    exact h
  · have := Twin_end l l l.length (by simp)
    simpa using this
/-! ### SameValues, Same -/
theorem vS_arg (v : List UInt8) : Lv (stale (vS v)) (slB v) := by show Lv (.sl false false 1 (stale.sL (bsA v))) _; exact slB_arg v
theorem SameValues_ok (a b : List (List UInt8)) (hs : a.length < 1073741824) (hv : ∀ v ∈ a, v.length < 1073741824) : FnOk Try.prog 10 [slV a, slV b] (.bool (decide (a = b))) := by
  have call : ∀ x y : List UInt8, x ∈ a → FnW Try.prog 16 [AV.sl false false 1 (stale.sL (bsA x)), AV.sl false false 1 (stale.sL (bsA y))] [slB x, slB y] (.bool (decide (x = y))) := fun x y hx =>
    .of (.cons (slB_arg _) (.cons (slB_arg _) .nil)) (SameBytes_ok x y (by have := hv x hx; omega))
  by_cases hl : a.length = b.length
  · by_cases e : a = b
    · subst e
      rw [decide_eq_true rfl]
      refine SameValues_all a a (by simp) (LeR.of_eq (by simp)) ?_
      exact Runs.upto (S := fun i => sSV a a i) (j := a.length) (fun i hi => SameValues_next a a i a[i] a[i] (by simpa using hi) (get_vS hi) (get_vS hi) (by have := call a[i] a[i] (List.getElem_mem _); rwa [decide_eq_true rfl] at this) (wrap_succ (by omega))) (SameValues_end a a _ (by simp)) (by simp)
    · rw [decide_eq_false e]
      obtain ⟨j, h1, h2, h3, h4⟩ := parts_at a b hl e
      refine SameValues_not a b (by simp [hl]) (LeR.of_eq (by simp)) ?_
      exact Runs.upto (S := fun i => sSV a b i) (j := j) (fun i hi => SameValues_next a b i a[i] b[i] (by simp; omega) (get_vS (by omega)) (get_vS (by omega)) (by have := call a[i] b[i] (List.getElem_mem _); rwa [decide_eq_true (h4 i (by omega) (by omega) hi)] at this) (wrap_succ (by omega))) (SameValues_diff a b j a[j] b[j] (by simpa using h1) (get_vS h1) (get_vS h2) (by have := call a[j] b[j] (List.getElem_mem _); rwa [decide_eq_false h3] at this)) (by simp)
  · rw [decide_eq_false (fun e => hl (by rw [e]))]
    exact SameValues_len a b (by simp [bne_iff_ne]; omega)
theorem Same_ok (a b : List TLV) (hs : Small a) : FnOk Try.prog 14 [slT a, slT b] (.bool (decide (a = b))) := by
  obtain ⟨hs, hv⟩ := hs
  have call : ∀ x y : TLV, x ∈ a → FnW Try.prog 16 [AV.sl false false 1 (stale.sL (bsA x.2)), AV.sl false false 1 (stale.sL (bsA y.2))] [slB x.2, slB y.2] (.bool (decide (x.2 = y.2))) := fun x y hx =>
    .of (.cons (slB_arg _) (.cons (slB_arg _) .nil)) (SameBytes_ok x.2 y.2 (by have := hv x hx; omega))
  by_cases hl : a.length = b.length
  · by_cases e : a = b
    · subst e
      rw [decide_eq_true rfl]
      refine Same_all a a (by simp) (LeR.of_eq (by simp)) ?_
      exact Runs.upto (S := fun i => sSm a a i) (j := a.length) (fun i hi => Same_next a a i a[i] a[i] (by simpa using hi) (get_tS hi) (get_tS hi) (by simp) (by have := call a[i] a[i] (List.getElem_mem _); rwa [decide_eq_true rfl] at this) (wrap_succ (by omega))) (Same_end a a _ (by simp)) (by simp)
    · rw [decide_eq_false e]
      obtain ⟨j, h1, h2, h3, h4⟩ := parts_at a b hl e
      refine Same_not a b (by simp [hl]) (LeR.of_eq (by simp)) ?_
      refine Runs.upto (S := fun i => sSm a b i) (j := j) (fun i hi => ?_) ?_ (by simp)
      · have e1 := h4 i (by omega) (by omega) hi
        exact Same_next a b i a[i] b[i] (by simp; omega) (get_tS (by omega)) (get_tS (by omega)) (by rw [e1]; simp) (by have := call a[i] b[i] (List.getElem_mem _); rwa [decide_eq_true (by rw [e1])] at this) (wrap_succ (by omega))
      · by_cases ht : a[j].1 = b[j].1
        · have hne : a[j].2 ≠ b[j].2 := fun e => h3 (Prod.ext ht e)
          exact Same_value a b j a[j] b[j] (by simpa using h1) (get_tS h1) (get_tS h2) (by rw [ht]; simp) (by have := call a[j] b[j] (List.getElem_mem _); rwa [decide_eq_false hne] at this)
        · exact Same_type a b j a[j] b[j] (by simpa using h1) (get_tS h1) (get_tS h2) (u8_ne ht)
  · rw [decide_eq_false (fun e => hl (by rw [e]))]
    exact Same_len a b (by simp [bne_iff_ne]; omega)

/-! ### Of -/
theorem ofK_snoc (l : List TLV) (t : TLV) (k : UInt8) : ofK (l ++ [t]) k = if t.1 == k then ofK l k ++ [t.2] else ofK l k := by
  unfold ofK
  rw [List.filter_append, List.map_append]
  by_cases h : t.1 == k <;> simp [h]
theorem ofK_len (l : List TLV) (k : UInt8) : (ofK l k).length ≤ l.length := by
  unfold ofK
  rw [List.length_map]
  exact List.length_filter_le _ _
theorem ofK_mem {l : List TLV} {k : UInt8} {v : List UInt8} (h : v ∈ ofK l k) : ∃ t ∈ l, t.2 = v := by
  unfold ofK at h
  obtain ⟨t, ht, e⟩ := List.mem_map.1 h
  exact ⟨t, (List.mem_filter.1 ht).1, e⟩
theorem Of_ok (l : List TLV) (k : UInt8) (hs : Small l) : FnOk Try.prog 8 [slT l, bA k] (.own true 1 (vsF (ofK l k))) := by
  obtain ⟨hs, hv⟩ := hs
  refine Of_way l k _ (LeR.of_eq (by simp)) ?_
  refine Runs.upto (S := fun i => sOf l k (ofK (l.take i) k) i) (j := l.length) (fun i hi => ?_) ?_ (by simp)
  · have h2 := hv l[i] (List.getElem_mem _)
    have h3 : (ofK (l.take i) k).length ≤ i := Nat.le_trans (ofK_len _ _) (List.length_take_le _ _)
    simp only [List.take_succ_eq_append_getElem hi, ofK_snoc]
    by_cases hk : l[i].1 == k
    · rw [if_pos hk]
      exact Of_hit l k _ i l[i] (by simpa using hi) (get_tS hi) (by rw [u8_beq]; exact hk) (by simp) (by simp; omega) (by simp; omega) (wrap_succ (by omega)) (LeR.of_eq (by rw [vsF_snoc]; simp only [List.nil_append, bsA_uL]; rfl))
    · rw [if_neg hk]
      exact Of_miss l k _ i l[i] (by simpa using hi) (get_tS hi) (by rw [u8_beq]; simpa using hk) (wrap_succ (by omega))
  · have := Of_end l k (ofK l k) l.length (by simp)
    simpa using this
theorem ROf_ok (l : List TLV) (k : UInt8) (hs : Small l) : FnOk Try.prog 20 [slT l, bA k] (.own true 1 (vsS (ofK l k))) := by
  obtain ⟨hs, hv⟩ := hs
  refine ROf_way l k _ (LeR.of_eq (by simp)) ?_
  refine Runs.upto (S := fun i => sRO l k (ofK (l.take i) k) i) (j := l.length) (fun i hi => ?_) ?_ (by simp)
  · have h3 : (ofK (l.take i) k).length ≤ i := Nat.le_trans (ofK_len _ _) (List.length_take_le _ _)
    simp only [List.take_succ_eq_append_getElem hi, ofK_snoc]
    by_cases hk : l[i].1 == k
    · rw [if_pos hk]
      exact ROf_hit l k _ i l[i] (by simpa using hi) (get_tS hi) (by rw [u8_beq]; exact hk) (by simp; omega) (wrap_succ (by omega)) (LeR.of_eq (by rw [vsS_snoc]; simp only [bsA_uL]; rfl))
    · rw [if_neg hk]
      exact ROf_miss l k _ i l[i] (by simpa using hi) (get_tS hi) (by rw [u8_beq]; simpa using hk) (wrap_succ (by omega))
  · have := ROf_end l k (ofK l k) l.length (by simp)
    simpa using this
end Go.Ev

/-! text P3 -/
set_option linter.unusedVariables false
namespace Go.Ev
open Go.Proofs (Try.prog)

/-! ### Join -/
def fits (l : List TLV) : Prop := (∀ t ∈ l, t.2.length ≤ 255) ∧ (enc l).length ≤ 1492
def bad (l : List TLV) (i : Nat) (h : i < l.length) : Prop := l[i].2.length > 255 ∨ (enc (l.take i)).length + 2 + l[i].2.length > 1492
theorem enc_snoc (l : List TLV) (t : TLV) : enc (l ++ [t]) = enc l ++ enc1 t := by simp [enc]
theorem enc1_len (t : TLV) : (enc1 t).length = 2 + t.2.length := by simp [enc1]; omega
theorem enc_app (l m : List TLV) : enc (l ++ m) = enc l ++ enc m := by simp [enc]
theorem enc_take {l : List TLV} {i : Nat} (h : i < l.length) : (enc (l.take (i + 1))).length = (enc (l.take i)).length + 2 + l[i].2.length := by
  rw [List.take_succ_eq_append_getElem h, enc_snoc, List.length_append, enc1_len]; omega
theorem enc_take_le (l : List TLV) (i : Nat) : (enc (l.take i)).length ≤ (enc l).length := by
  have : enc l = enc (l.take i) ++ enc (l.drop i) := by rw [← enc_app, List.take_append_drop]
  rw [this, List.length_append]
  omega
theorem fits_good {l : List TLV} (h : fits l) {i : Nat} (hi : i < l.length) : ¬ bad l i hi := by
  rintro (h1 | h1)
  · have := h.1 l[i] (List.getElem_mem _)
    omega
  · have h2 := enc_take hi
    have h3 := enc_take_le l (i + 1)
    have := h.2
    omega
theorem first_bad {l : List TLV} (h : ¬ fits l) : ∃ j, ∃ hj : j < l.length, bad l j hj ∧ ∀ i (hi : i < l.length), i < j → ¬ bad l i hi := by
  by_cases hb : ∃ j, ∃ hj : j < l.length, bad l j hj
  · obtain ⟨j, ⟨hj, h1⟩, h2⟩ := least _ hb
    exact ⟨j, hj, h1, fun i hi hij hbad => by have := h2 i ⟨hi, hbad⟩; omega⟩
  · exfalso
    refine h ⟨fun t ht => ?_, ?_⟩
    · obtain ⟨i, hi, rfl⟩ := List.getElem_of_mem ht
      rcases Nat.lt_or_ge 255 (l[i].2.length) with h' | h'
      · exact absurd ⟨i, hi, .inl h'⟩ hb
      · exact h'
    · cases hl : l.length with
      | zero => rw [List.eq_nil_of_length_eq_zero hl]; simp [enc]
      | succ n =>
        have hn : n < l.length := by omega
        have h1 := enc_take hn
        rw [List.take_of_length_le (by omega : l.length ≤ n + 1)] at h1
        rcases Nat.lt_or_ge 1492 (enc l).length with h' | h'
        · exact absurd ⟨n, hn, .inr (by omega)⟩ hb
        · exact h'
open Classical in
noncomputable def joinS (l : List TLV) : AV := if fits l then .tup [.own true 1 (bsA (enc l)), ni 0] else .tup [.nils, ni 2]
theorem not_bad {l : List TLV} {i : Nat} {h : i < l.length} (hb : ¬ bad l i h) : l[i].2.length ≤ 255 ∧ (enc (l.take i)).length + 2 + l[i].2.length ≤ 1492 := by
  unfold bad at hb
  omega
theorem lenB_eq {v : List UInt8} : AV.int IntKind.u8 (IntKind.u8.wrap ((bsA v).length : Int)) = AV.int IntKind.u8 ((lenB v).toNat : Int) := by
  rw [bsA_len]
  have : IntKind.u8.wrap (v.length : Int) = ((lenB v).toNat : Int) := by
    rw [IntKind.wrap_u8]
    simp [lenB]
  rw [this]
theorem wrap_len2 {a b : Nat} (ha : a ≤ 2000000000000) (hb : b ≤ 2000000000000) : IntKind.i64.wrap (IntKind.i64.wrap ((a : Int) + 2) + (b : Int)) = ((a + 2 + b : Nat) : Int) := by
  rw [wrap64_eq (n := (a : Int) + 2) (by omega) (by omega), wrap64_eq (by omega) (by omega)]
  omega
theorem bsA_enc (p : List UInt8) (t : TLV) : bsA p ++ [bA t.1, bA (lenB t.2)] ++ bsA t.2 = bsA (p ++ enc1 t) := by simp [bsA, enc1]
theorem Join_ok' (l : List TLV) (hs : Small l) : FnOk Try.prog 15 [slT l] (joinS l) := by
  obtain ⟨hs, hv⟩ := hs
  have next : ∀ i (hi : i < l.length), ¬ bad l i hi → WayR Try.prog T15 41 lp15x0 [(10, .b true), (11, .v (tS l[i])), (16, .b false), (25, .b false), (33, .n (bA (lenB l[i].2))), (35, .q), (38, .q), (39, .i (i + 1 : Nat))] (sJ l (enc (l.take i)) i) .normal (sJ l (enc (l.take (i + 1))) (i + 1)) := by
    intro i hi hb
    obtain ⟨b1, b2⟩ := not_bad hb
    rw [List.take_succ_eq_append_getElem hi, enc_snoc]
    exact Join_next l _ i l[i] (by simpa using hi) (get_tS hi) (by simp; omega) (by rw [bsA_len, bsA_len, wrap_len2 (by omega) (by omega)]; simp; omega) lenB_eq (by simp; omega) (by simp) (by simp; omega) (wrap_succ (by omega)) (LeR.of_eq (by rw [bsA_enc]))
  unfold joinS
  by_cases hf : fits l
  · rw [if_pos hf]
    refine Join_ok l _ (LeR.of_eq (by simp)) ?_
    refine Runs.upto (S := fun i => sJ l (enc (l.take i)) i) (j := l.length) (fun i hi => next i hi (fits_good hf hi)) ?_ (by simp)
    have := Join_end l (enc l) l.length (by simp)
    simpa using this
  · rw [if_neg hf]
    obtain ⟨j, hj, h1, h2⟩ := first_bad hf
    refine Join_long l (LeR.of_eq (by simp)) ?_
    refine Runs.upto (S := fun i => sJ l (enc (l.take i)) i) (j := j) (fun i hi => next i (by omega) (h2 i (by omega) hi)) ?_ (by simp)
    have hm := hv l[j] (List.getElem_mem _)
    have hp : (enc (l.take j)).length ≤ 1492 := by
      cases j with
      | zero => simp [enc]
      | succ j =>
        have := (not_bad (h2 j (by omega) (by omega))).2
        rw [enc_take (by omega)]
        exact this
    by_cases hb : l[j].2.length > 255
    · exact Join_long1 l _ j l[j] (by simpa using hj) (get_tS hj) (by simp; omega)
    · have h3 : (enc (l.take j)).length + 2 + l[j].2.length > 1492 := by
        unfold bad at h1
        omega
      exact Join_long2 l _ j l[j] (by simpa using hj) (get_tS hj) (by simp; omega) (by rw [bsA_len, bsA_len, wrap_len2 (by omega) (by omega)]; simp; omega)
theorem RJoin_ok' (l : List TLV) (hs : Small l) (hf : (enc l).length ≤ 1492) : FnOk Try.prog 22 [slT l] (.own true 1 (bsA (enc l))) := by
  obtain ⟨hs, hv⟩ := hs
  refine RJoin_ok l _ (LeR.of_eq (by simp)) ?_
  refine Runs.upto (S := fun i => sRJ l (enc (l.take i)) i) (j := l.length) (fun i hi => ?_) ?_ (by simp)
  · have h3 := enc_take_le l (i + 1)
    have h4 := enc_take hi
    rw [List.take_succ_eq_append_getElem hi, enc_snoc]
    exact RJoin_next l _ i l[i] (by simpa using hi) (get_tS hi) (by simp; omega) lenB_eq (by simp; omega) (by simp) (by simp; omega) (wrap_succ (by omega)) (LeR.of_eq (by rw [← bsA_enc]; simp))
  · have := RJoin_end l (enc l) l.length (by simp)
    simpa using this
theorem slT_arg (l : List TLV) : Lv (.sl false false 2 (stale.sL (tsS l))) (slT l) := by
  refine .sl_eq ?_
  induction l with
  | nil => rfl
  | cons t l ih =>
    show stale (tS t) :: stale.sL (tsS l) = tS t :: tsS l
    rw [ih]
    congr 1
    simp only [tS, bA, stale, stale.sL, bsA_sL]
theorem wrap_add2 {s n : Nat} (hs : s ≤ 2000000000000) (hn : n ≤ 2000000000000) : IntKind.i64.wrap ((s : Int) + IntKind.i64.wrap (2 + (n : Int))) = ((s + (2 + n) : Nat) : Int) := by
  rw [wrap64_eq (n := 2 + (n : Int)) (by omega) (by omega), wrap64_eq (by omega) (by omega)]
  omega
theorem DJoin_ok' (l : List TLV) (hs : Small l) : FnOk Try.prog 19 [slT l] (joinS l) := by
  have hS := hs
  obtain ⟨hs, hv⟩ := hs
  have next : ∀ i (hi : i < l.length), ¬ bad l i hi → Runs Try.prog T19 30 lp19x0 (sDJ l i (enc (l.take i)).length) (· = (.normal, sDJ l (i + 1) (enc (l.take (i + 1))).length)) := by
    intro i hi hb
    obtain ⟨b1, b2⟩ := not_bad hb
    have := DJoin_next l i (enc (l.take i)).length l[i] (by simpa using hi) (get_tS hi) (by rw [bsA_len]; exact wrap_add2 (by omega) (by omega)) (by simp; omega) (by simp; omega) (wrap_succ (by omega))
    rw [show (enc (l.take i)).length + (2 + l[i].2.length) = (enc (l.take (i + 1))).length by rw [enc_take hi]; omega] at this
    exact this
  unfold joinS
  by_cases hf : fits l
  · rw [if_pos hf]
    refine DJoin_ok l _ (LeR.of_eq (by simp)) ?_ (.of (.cons (slT_arg l) .nil) (RJoin_ok' l hS hf.2)) (by simp [freshA]) (by simp)
    refine Runs.upto (S := fun i => sDJ l i (enc (l.take i)).length) (j := l.length) (fun i hi => next i hi (fits_good hf hi)) ?_ (by simp)
    exact DJoin_end l l.length _ (by simp)
  · rw [if_neg hf]
    obtain ⟨j, hj, h1, h2⟩ := first_bad hf
    refine DJoin_long l (LeR.of_eq (by simp)) ?_
    refine Runs.upto (S := fun i => sDJ l i (enc (l.take i)).length) (j := j) (fun i hi => next i (by omega) (h2 i (by omega) hi)) ?_ (by simp)
    have hm := hv l[j] (List.getElem_mem _)
    have hp : (enc (l.take j)).length ≤ 1492 := by
      cases j with
      | zero => simp [enc]
      | succ j =>
        have := (not_bad (h2 j (by omega) (by omega))).2
        rw [enc_take (by omega)]
        exact this
    by_cases hb : l[j].2.length > 255
    · exact DJoin_long1 l j _ l[j] (by simpa using hj) (get_tS hj) (by rw [bsA_len]; exact wrap_add2 (by omega) (by omega)) (by simp; omega)
    · have h3 : (enc (l.take j)).length + 2 + l[j].2.length > 1492 := by
        unfold bad at h1
        omega
      exact DJoin_long2 l j _ l[j] (by simpa using hj) (get_tS hj) (by rw [bsA_len]; exact wrap_add2 (by omega) (by omega)) (by simp; omega) (by simp; omega)
end Go.Ev

/-! text P4 -/
set_option linter.unusedVariables false
namespace Go.Ev
open Go.Proofs (Try.prog)

/-! ### Split -/
def parse : List UInt8 → Option (List TLV)
  | [] => some []
  | [_] => none
  | t :: k :: r => if r.length < k.toNat then none else (parse (r.drop k.toNat)).map ((t, r.take k.toNat) :: ·)
termination_by l => l.length
decreasing_by simp only [List.length_drop, List.length_cons]; omega
def splitS (p : List UInt8) : AV := if p.length > 1492 then .tup [.nils, ni 2] else match parse p with
  | some l => .tup [.own true 2 (tsF l), ni 0]
  | none => .tup [.nils, ni 3]
theorem LeR.sl_eq {fr nn : Bool} {z : Nat} {xs ys : List AV} (h : xs = ys) : LeR (.sl fr nn z xs) (.sl false false z ys) := by subst h; exact .sl
theorem tsF_more (out : List TLV) (t : UInt8) (v : List UInt8) : tsF out ++ [AV.agg [AV.int IntKind.u8 (t.toNat : Int), AV.sl true false 1 (undeep.uL (undeep.uL (deepen.dL (bsA v))))]] = tsF (out ++ [(t, v)]) := by
  rw [tsF_snoc]
  simp only [bsA_uL, bsA_dL]
  rfl
theorem Split_loop : ∀ (n : Nat) (p : List UInt8) (out : List TLV), p.length ≤ n → p.length ≤ 1492 → out.length + p.length ≤ 1492 →
    LoopR Try.prog T12 45 lp12x0 (· = match parse p with
      | some l => (.exit 0, st 45 [(4, .own true 2 (tsF (out ++ l)))])
      | none => (.ret, st 45 [(2, .nils), (3, ni 3)])) (n + 1) (sSp p out)
  | n, [], out, hn, hp, ho => by
    simp only [parse, List.append_nil]
    exact LoopR.fin (Split_end [] out (by simp)) (by simp) rfl
  | n, [t], out, hn, hp, ho => by
    simp only [parse]
    exact LoopR.fin (Split_err1 [t] out (by simp) (by simp)) (by simp) rfl
  | 0, t :: k :: r, out, hn, _, _ => by simp at hn
  | n + 1, t :: k :: r, out, hn, hp, ho => by
    have hk := k.toNat_lt
    simp only [List.length_cons] at hn hp ho
    by_cases hr : r.length < k.toNat
    · rw [parse, if_pos hr]
      exact LoopR.fin (Split_err2 (t :: k :: r) out k (by simp; omega) (by simp; omega) rfl (wrap64_eq (by omega) (by omega)) (by rw [wrap64_eq (by omega) (by omega)]; omega) (by simp; omega)) (by simp) rfl
    · have ih := Split_loop n (r.drop k.toNat) (out ++ [(t, r.take k.toNat)]) (by simp; omega) (by simp; omega) (by simp; omega)
      have e : (match parse (t :: k :: r) with
          | some l => (Ex.exit 0, st 45 [(4, AV.own true 2 (tsF (out ++ l)))])
          | none => (Ex.ret, st 45 [(2, AV.nils), (3, ni 3)])) = (match parse (r.drop k.toNat) with
          | some l => (Ex.exit 0, st 45 [(4, AV.own true 2 (tsF (out ++ [(t, r.take k.toNat)] ++ l)))])
          | none => (Ex.ret, st 45 [(2, AV.nils), (3, ni 3)])) := by
        rw [parse, if_neg hr]
        cases parse (r.drop k.toNat) with
        | none => rfl
        | some l => simp
      rw [e]
      have hv : (r.take k.toNat).length < 1073741824 := by rw [List.length_take]; omega
      have e2 : stale.sL (List.drop 2 (List.take (2 + k.toNat) (bsA (t :: k :: r)))) = bsA (r.take k.toNat) := by
        rw [← bsA_take, ← bsA_drop, bsA_sL, show 2 + k.toNat = k.toNat + 1 + 1 by omega]
        rfl
      have e3 : List.drop (2 + k.toNat) (List.take (bsA (t :: k :: r)).length (bsA (t :: k :: r))) = bsA (r.drop k.toNat) := by
        rw [List.take_length, ← bsA_drop, show 2 + k.toNat = k.toNat + 1 + 1 by omega]
        rfl
      exact LoopR.step (Split_next (t :: k :: r) (r.take k.toNat) (r.drop k.toNat) out t k (by simp; omega) (by simp; omega) rfl (wrap64_eq (by omega) (by omega)) (by rw [wrap64_eq (by omega) (by omega)]; omega) (by simp; omega) rfl (by omega) (by simp; omega)
        (.of (.cons (.sl_eq e2) .nil) (Clone_ok _ hv)) (by simp [freshA]) (by simp; omega) (Int.le_refl _) (LeR.sl_eq e3) (LeR.of_eq (by rw [tsF_more]))) ih
theorem Split_ok' (p : List UInt8) : FnOk Try.prog 12 [slB p] (splitS p) := by
  unfold splitS
  by_cases hp : p.length > 1492
  · rw [if_pos hp]
    exact Split_long p (by simp; omega)
  · rw [if_neg hp]
    have L := Split_loop p.length p [] (Nat.le_refl _) (by omega) (by simp; omega)
    cases h : parse p with
    | none =>
      rw [h] at L
      exact Split_form p (by simp; omega) (Runs.loop L)
    | some l =>
      rw [h] at L
      exact Split_ok p l (by simp; omega) (Runs.loop L)
end Go.Ev

/-! text P5 -/
set_option linter.unusedVariables false
namespace Go.Ev
open Go.Proofs (Try.prog)

theorem drop_two {α : Type} {p r : List α} {a : Nat} {x y : α} (h : p.drop a = x :: y :: r) : a + 2 + r.length = p.length ∧ p[a]? = some x ∧ p[a + 1]? = some y ∧ p.drop (a + 2) = r := by
  have h1 : (p.drop a).length = r.length + 2 := by rw [h]; rfl
  rw [List.length_drop] at h1
  have h2 : p[a]? = some x := by
    have : (p.drop a)[0]? = some x := by rw [h]; rfl
    simpa using this
  have h3 : p[a + 1]? = some y := by
    have : (p.drop a)[1]? = some y := by rw [h]; rfl
    rw [List.getElem?_drop] at this
    exact this
  refine ⟨by omega, h2, h3, ?_⟩
  rw [← List.drop_drop, h]
  rfl
theorem DSplit_loop : ∀ (n : Nat) (p : List UInt8) (out : List TLV) (a : Nat), p.length - a ≤ n → a ≤ p.length → p.length ≤ 1492 → out.length ≤ a →
    LoopR Try.prog T13 54 lp13x0 (· = match parse (p.drop a) with
      | some l => (.exit 0, st 54 [(4, .own true 2 (tsF (out ++ l)))])
      | none => (.ret, st 54 [(2, .nils), (3, ni 3)])) (n + 1) (sDS p out a) := by
  intro n
  induction n with
  | zero =>
    intro p out a hn ha hp ho
    rw [List.drop_eq_nil_of_le (by omega)]
    simp only [parse, List.append_nil]
    exact LoopR.fin (DSplit_end p out a (by simp; omega)) (by simp) rfl
  | succ n ih =>
    intro p out a hn ha hp ho
    match hd : p.drop a with
    | [] =>
      have h1 : (p.drop a).length = 0 := by rw [hd]; rfl
      rw [List.length_drop] at h1
      simp only [parse, List.append_nil]
      exact LoopR.fin (DSplit_end p out a (by simp; omega)) (by simp) rfl
    | [t] =>
      have h1 : (p.drop a).length = 1 := by rw [hd]; rfl
      rw [List.length_drop] at h1
      simp only [parse]
      exact LoopR.fin (DSplit_err1 p out a (by simp; omega) (by rw [bsA_len, wrap64_eq (by omega) (by omega)]; simp; omega)) (by simp) rfl
    | t :: k :: r =>
      obtain ⟨h1, h2, h3, h4⟩ := drop_two hd
      have hk := k.toNat_lt
      have c1 : decide ((a : Int) < ((bsA p).length : Int)) = true := by simp; omega
      have c2 : ((a : Int) == IntKind.i64.wrap (((bsA p).length : Int) - 1)) = false := by
        rw [bsA_len, wrap64_eq (by omega) (by omega)]
        simp only [beq_eq_false_iff_ne]
        omega
      have c3 : (bsA p)[a + 1]? = some (bA k) := by rw [bsA_get, h3]; rfl
      have c4 : IntKind.i64.wrap (IntKind.i64.wrap (((bsA p).length : Int) - (a : Int)) - 2) = (r.length : Int) := by
        rw [bsA_len, wrap64_eq (n := (p.length : Int) - (a : Int)) (by omega) (by omega), wrap64_eq (by omega) (by omega)]
        omega
      by_cases hr : r.length < k.toNat
      · rw [parse, if_pos hr]
        exact LoopR.fin (DSplit_err2 p out a k c1 c2 (wrap_succ (by omega)) c3 (wrap64_eq (by omega) (by omega)) (by rw [c4]; simp; omega)) (by simp) rfl
      · have e : (match parse (t :: k :: r) with
            | some l => (Ex.exit 0, st 54 [(4, AV.own true 2 (tsF (out ++ l)))])
            | none => (Ex.ret, st 54 [(2, AV.nils), (3, ni 3)])) = (match parse (p.drop (a + (2 + k.toNat))) with
            | some l => (Ex.exit 0, st 54 [(4, AV.own true 2 (tsF (out ++ [(t, r.take k.toNat)] ++ l)))])
            | none => (Ex.ret, st 54 [(2, AV.nils), (3, ni 3)])) := by
          rw [parse, if_neg hr, ← h4, List.drop_drop, show a + 2 + k.toNat = a + (2 + k.toNat) by omega]
          cases parse (p.drop (a + (2 + k.toNat))) with
          | none => rfl
          | some l => simp
        rw [e]
        have hv : (r.take k.toNat).length < 1073741824 := by rw [List.length_take]; omega
        have e2 : stale.sL (List.drop (a + 2) (List.take (a + 2 + k.toNat) (bsA p))) = bsA (r.take k.toNat) := by
          rw [← bsA_take, ← bsA_drop, bsA_sL, List.drop_take, h4]
          congr 2
          omega
        exact LoopR.step (DSplit_next p (r.take k.toNat) out a t k c1 c2 (wrap_succ (by omega)) c3 (wrap64_eq (by omega) (by omega)) (by rw [c4]; simp; omega) (by rw [bsA_get, h2]; rfl) (by rw [wrap64_eq (by omega) (by omega)]; omega)
          (by rw [wrap64_eq (n := (a : Int) + 2) (by omega) (by omega), wrap64_eq (by omega) (by omega)]; omega) (by omega) (by rw [bsA_len]; omega)
          (.of (.cons (.sl_eq e2) .nil) (Twin1_ok _ hv)) (by simp [freshA]) (by simp; omega) (wrap_add2 (by omega) (by omega)) (LeR.of_eq (by rw [tsF_more])))
          (ih p (out ++ [(t, r.take k.toNat)]) (a + (2 + k.toNat)) (by omega) (by omega) hp (by simp; omega))
theorem DSplit_ok' (p : List UInt8) : FnOk Try.prog 13 [slB p] (splitS p) := by
  unfold splitS
  by_cases hp : p.length > 1492
  · rw [if_pos hp]
    exact DSplit_long p (by simp; omega)
  · rw [if_neg hp]
    have L := DSplit_loop p.length p [] 0 (by omega) (by omega) (by omega) (by simp)
    rw [List.drop_zero] at L
    cases h : parse p with
    | none =>
      rw [h] at L
      exact DSplit_form p (by simp; omega) (Runs.loop L)
    | some l =>
      rw [h] at L
      exact DSplit_ok p l (by simp; omega) (Runs.loop L)

/-! ### Spare, Kept, awake -/
theorem Kept_ok (a : List UInt8) (hs : a.length < 1073741824) : FnOk Try.prog 17 [slB (a ++ [165, 90, 165]), slB a] (.bool true) :=
  Kept_yes _ a (by rw [bsA_len, wrap64_eq (by omega) (by omega)]; omega) (by simp) (by simp; omega)
    (.of (.cons (.sl_eq (by rw [bsA_len, ← bsA_take, ← bsA_drop, bsA_sL]; simp)) (.cons (slB_arg a) .nil)) (by have := SameBytes_ok a a (by omega); rwa [decide_eq_true rfl] at this))
    (by rw [bsA_get]; simp) (by rw [bsA_len, wrap64_eq (by omega) (by omega)]; omega) (by rw [bsA_get]; simp) (by rw [bsA_len, wrap64_eq (by omega) (by omega)]; omega) (by rw [bsA_get]; simp)
theorem Spare_ok (p : List UInt8) (hs : p.length < 1073741824) : FnOk Try.prog 11 [slB p] (.tup [.sl true true 1 (bsA p), .own false 1 (bsA (p ++ [165, 90, 165]))]) := by
  have e : undeep.uL ([] ++ bsA p ++ [AV.int IntKind.u8 165, AV.int IntKind.u8 90, AV.int IntKind.u8 165]) = bsA (p ++ [165, 90, 165]) := by
    have : [] ++ bsA p ++ [AV.int IntKind.u8 165, AV.int IntKind.u8 90, AV.int IntKind.u8 165] = bsA (p ++ [165, 90, 165]) := by rw [bsA_app]; rfl
    rw [this, bsA_uL]
  refine Spare_way p (by simp) (by simp; omega) (by simp; omega) (by rw [e]; simp; omega) ?_ (by rw [e])
  rw [e, ← bsA_take, bsA_len, ← bsA_drop]
  simp [bsA]
theorem awake_ok : FnOk Try.prog 7 [] (.bool true) := by
  refine awake_way (.of ?_ ?_) (.of ?_ ?_)
  · exact .cons (.sl (.cons (.agg (.cons .refl (.cons (.sl_eq rfl) .nil))) (.cons (.agg (.cons .refl (.cons .nils .nil))) .nil))) .nil
  · have h := Join_ok' [(1, [97, 98]), (9, [])] ⟨by simp, by simp⟩
    have hf : fits [(1, [97, 98]), (9, [])] := ⟨by simp, by simp [enc, enc1]⟩
    unfold joinS at h
    rw [if_pos hf] at h
    exact h
  · exact .cons (.sl_eq rfl) (.cons (.sl_eq rfl) .nil)
  · exact SameBytes_ok [1, 2, 97, 98, 9, 0] [1, 2, 97, 98, 9, 0] (by simp)
end Go.Ev

/-! text T4 -/
set_option linter.unusedVariables false
namespace Go.Ev
open Go.Proofs (Try.prog)

/-! ### The states of the laws' loops -/
abbrev anyB : AV := .anyint .u8
/-- What is known of numbers that were turned. -/
def tX (t : TLV) : AV := .agg [anyB, .dsl false 1 (t.2.map fun _ => anyB)]
def tsX (l : List TLV) : List AV := l.map tX
def vX (v : List UInt8) : AV := .dsl false 1 (v.map fun _ => anyB)
def vsX (l : List (List UInt8)) : List AV := l.map vX
def spare (p : List UInt8) : List UInt8 := p ++ [165, 90, 165]
abbrev sF (a : List TLV) (X Y Z : List (List UInt8)) (s i : Nat) : List AV := st 51 [(0, slT a), (7, .own true 1 (vsD X)), (8, .own true 1 (vsD Y)), (9, .own true 1 (vsD Z)), (10, ni s), (29, ni i)]
abbrev sS1 (p : List UInt8) (L : List AV) (n i : Nat) : List AV := st 83 [(0, slB p), (4, .own false 1 (bsA (spare p))), (5, .own true 2 L), (55, ni n), (56, ni i)]
abbrev sS0 (p : List UInt8) (L : List AV) (n i m j : Nat) : List AV := st 83 [(0, slB p), (4, .own false 1 (bsA (spare p))), (5, .own true 2 L), (11, ni i), (55, ni n), (56, ni i), (64, ni m), (65, ni j)]
end Go.Ev
