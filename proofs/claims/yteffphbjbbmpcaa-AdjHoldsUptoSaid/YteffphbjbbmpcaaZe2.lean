import Derived.Test.YteffphbjbbmpcaaZe1
import Derived.Deep.AppendSrc
import Derived.Lib.ConvBytes
import Derived.Laws.BytesString
import Derived.ChangeKeysEq
import Derived.Orders
import Derived.ChangeArms
import Derived.OpenShut

/-! text E20 -/
set_option linter.unusedVariables false
set_option linter.unusedSimpArgs false
namespace Go.Ev
open Go.RowKit

section
variable {P : Program} {T : List Nat} {w0 : World} {St0 : Nat → Nat} {γ : Gh} {σ : List AV} {a : Act} {w : World} {U : List Nat}

theorem ext_sound {o : Oper} {d j : Nat} {x : Operand} {x' : Ar} (hop : o.op = .extract x j) (hx : ArOk x x') (hd : o.dst = some d) : OpSound P T o (semExt d j x') := by
  intro w0 St0 γ σ a w U ws G h hok Q
  cases x' with
  | val _ => exact (run_fail h).elim
  | tmp t =>
    have ho : x = .tmp t := hx
    subst ho
    obtain ⟨z, hz, h⟩ := run_get h
    cases z with
    | tup vs =>
      obtain ⟨v, hv, us, e1, e2, e3⟩ := get_tmp G hz (by simp)
      subst e1
      have hev : a.eval (.tmp t) = .tuple us := by simp [Act.eval, Array.getD_eq_getD_getElem?, hv]
      have hlt : t < a.tmps.size := (Array.getElem?_eq_some_iff.1 hv).1
      have hrun : ∀ {u}, us[j]? = some u → (execOp a.eval o).run P w = .ok (.value u) w := by
        intro u hu
        simp only [execOp, hop, hev, Instr.extract, hu, Sem.run_bind, Sem.run_pure, Result.andThen]
      have plain : ∀ {y z}, vs[j]? = some y → viewOf y = some z → ws = [.set d z] → Oper.wp P o a w (Post T w0 St0 a.tmps.size (apps T ws σ)) Q := by
        intro y z h1 h2 e
        subst e
        obtain ⟨u, hu, hr⟩ := e3 j y h1
        exact finV G (hrun hu) hd hok (view_R1 hr h2) Q
      cases hj : vs[j]? with
      | none => simp only [hj] at h; exact (run_fail h).elim
      | some y =>
        simp only [hj] at h
        by_cases ho : ∃ f z xs, y = .own f z xs
        · obtain ⟨f, z, xs, rfl⟩ := ho
          obtain ⟨htd, h⟩ := run_ifn h
          have h := run_ret h
          subst h
          simp only [List.all_cons, List.all_nil, Wr.ok, Bool.and_true, Bool.and_eq_true, decide_eq_true_eq] at hok
          obtain ⟨u, hu, hr⟩ := e3 j _ hj
          let O1 : Nat → Option ((Nat × Nat) × Bool) := fun g => match γ.O g with
            | some (q, b) => if q = (t, j + 1) then none else some (q, b)
            | none => none
          have hO1 : ∀ g q b, O1 g = some (q, b) → γ.O g = some (q, b) ∧ q ≠ (t, j + 1) := by
            intro g q b e
            simp only [O1] at e
            split at e
            · rename_i q' b' e'
              split at e
              · cases e
              · rename_i hne
                cases e
                exact ⟨e', hne⟩
            · cases e
          have K0 : Keep γ (withO γ O1) w w (· = (t, j + 1)) := keep_withO G (fun g q b e hne => by simp only [O1, e]; rw [if_neg hne]) (fun g q e => ⟨_, (hO1 g q.1 q.2 e).1⟩)
          have G1 : GoodAt T w0 St0 (withO γ O1) ((Wr.mod t (.tup (vs.set j .junk)) []).app T σ) a w := GoodAt.mod G (K0.weaken fun k e => by subst e; rfl) hlt (fun v' hv' => by
            rw [hv] at hv'
            cases hv'
            refine ⟨us, rfl, by rw [List.length_set]; exact e2, fun i y hy => ?_⟩
            by_cases hij : i = j
            · subst hij
              have hlt2 : i < vs.length := (List.getElem?_eq_some_iff.1 hj).1
              rw [List.getElem?_set_self hlt2] at hy
              cases hy
              exact ⟨u, hu, trivial⟩
            · rw [List.getElem?_set_ne (fun e => hij e.symm)] at hy
              obtain ⟨u', hu', hr'⟩ := e3 i y hy
              exact ⟨u', hu', R1.keep K0 (by simp; omega) hr'⟩) (fun q hq => by simp [refTo] at hq) (fun i u _ hh => by
            cases i with
            | zero => exact hh
            | succ i =>
              obtain ⟨g, h1, _⟩ := hh
              rw [hv] at h1
              cases h1)
          let O2 : Nat → Option ((Nat × Nat) × Bool) := fun g => match γ.O g with
            | some (q, b) => if q = (t, j + 1) then some ((d, 0), b) else some (q, b)
            | none => none
          refine wp_value (hrun hu) hd ⟨withO γ O2, GoodAt.set G1 ⟨⟨fun _ _ _ => rfl, fun _ => Nat.le_refl _, Nat.le_refl _, fun _ _ h => h, fun _ h => h⟩, rfl, rfl, Frm.refl _ _ _, fun _ _ _ => rfl, fun g q b e hne => ⟨?_, rfl, rfl⟩, fun g q e => ?_, G.rho, G.stnew, id, fun g q e => ?_⟩ hok.2.1 (R2.of_R1 (R1_rekey hr fun g b e => by simp only [O2, e]; simp)) (fun q hq => by simp [refTo] at hq)⟩ Q
          · obtain ⟨e1, e2⟩ := hO1 g q b e
            simp only [withO, O2, e1]
            rw [if_neg e2]
          · cases e' : γ.O g with
            | none => simp [withO, O2, e'] at e
            | some q' => exact G.own g q' e'
          · cases e' : γ.O g with
            | none => simp [withO, O2, e'] at e
            | some q' =>
              obtain ⟨q1, b⟩ := q'
              have hb : b = true := by
                simp only [withO, O2, e'] at e
                split at e <;> simp at e <;> exact e.2
              subst hb
              exact G.nest g _ e'
        · have h' : RM.run U σ ((RM.opt (viewOf y)).bind fun y => RM.ret [Wr.set d y]) = some ws := by
            cases y with
            | own f z xs => exact absurd ⟨f, z, xs, rfl⟩ ho
            | _ => exact h
          obtain ⟨z, h1, h2⟩ := run_bind h'
          exact plain hj (run_opt h1) (run_ret h2).symm
    | _ => exact (run_fail h).elim

theorem rdOpt_sound (G : GoodAt T w0 St0 γ σ a w) {x : Option Operand} {y : Option Ar} (h : cOptAr x = some y) {m : Option Int} (hr : (rdOpt y).run U σ = some m) :
    (x = none ∧ m = none) ∨ ∃ o k n, x = some o ∧ m = some n ∧ a.eval o = .int k n := by
  cases x with
  | none =>
    simp only [cOptAr, Option.some.injEq] at h
    subst h
    exact .inl ⟨rfl, (run_ret hr).symm⟩
  | some o =>
    simp only [cOptAr] at h
    cases hc : cAr o with
    | none => simp [hc] at h
    | some x' =>
      simp only [hc, Option.map_some, Option.some.injEq] at h
      subst h
      obtain ⟨⟨k, n⟩, h1, h2⟩ := run_bind hr
      exact .inr ⟨o, k, n, rfl, (run_ret h2).symm, rdInt_sound G (cAr_ok hc) h1⟩

/-- The bounds of a slice, in range. -/
theorem run_bounds (G : GoodAt T w0 St0 γ σ a w) {lo hi : Option Operand} {lo' hi' : Option Ar} (h1 : cOptAr lo = some lo') (h2 : cOptAr hi = some hi') {l h : Option Int} (hl : (rdOpt lo').run U σ = some l) (hh : (rdOpt hi').run U σ = some h)
    {len cap : Nat} (hb : Bool) (hc : len ≤ cap) (r1 : 0 ≤ l.getD 0) (r2 : l.getD 0 ≤ h.getD len) (r3 : h.getD len ≤ len) (w : World) :
    (Instr.sliceBounds hb len cap (lo.map a.eval) (hi.map a.eval) none).run P w = .ok ((l.getD 0).toNat, (h.getD len).toNat, cap) w := by
  have e1 := rdOpt_sound G h1 hl
  have e2 := rdOpt_sound G h2 hh
  unfold Instr.sliceBounds
  rcases e2 with ⟨rfl, rfl⟩ | ⟨o2, k2, n2, rfl, rfl, e2⟩ <;> rcases e1 with ⟨rfl, rfl⟩ | ⟨o1, k1, n1, rfl, rfl, e1⟩
  · simp [Result.andThen]
  · simp only [Option.getD_some, Option.getD_none] at r1 r2 r3
    have : (0 ≤ n1 ∧ n1 ≤ (len : Int)) := by omega
    simp [Result.andThen, Instr.sliceBound, e1, asIntOf, this]
  · simp only [Option.getD_some, Option.getD_none] at r1 r2 r3
    have : (0 ≤ n2 ∧ n2 ≤ (cap : Int)) := by omega
    simp [Result.andThen, Instr.sliceBound, e2, asIntOf, this]
  · simp only [Option.getD_some, Option.getD_none] at r1 r2 r3
    have t1 : (0 ≤ n2 ∧ n2 ≤ (cap : Int)) := by omega
    have t2 : (0 ≤ n1 ∧ n1 ≤ ((n2.toNat : Nat) : Int)) := by omega
    simp only [Result.andThen, Instr.sliceBound, e1, e2, asIntOf, Option.map_some, Option.map_none, Sem.run_bind, Sem.run_pure, Option.getD_some]
    rw [if_pos t1]
    simp only [Sem.run_pure]
    rw [if_pos t2]
    simp

theorem slstr_sound {o : Oper} {d : Nat} {t : TypeId} {x : Operand} {lo hi : Option Operand} {x' : Ar} {lo' hi' : Option Ar} (hop : o.op = .slice t x lo hi none) (hu : P.underlying t = some .string) (hx : ArOk x x')
    (h1 : cOptAr lo = some lo') (h2 : cOptAr hi = some hi') (hd : o.dst = some d) : OpSound P T o (semSlstr d x' lo' hi') := by
  intro w0 St0 γ σ a w U ws G h hok Q
  obtain ⟨l, hl, h⟩ := run_bind h
  obtain ⟨m, hm, h⟩ := run_bind h
  obtain ⟨p, hp, h⟩ := run_bind h
  cases p with
  | str s =>
    have e := rdC_str G hx hp
    obtain ⟨⟨r1, r2, r3⟩, h⟩ := run_if h
    have h := run_ret h
    subst h
    refine finV (v := .string (s.extract (l.getD 0).toNat (m.getD s.size).toNat)) G ?_ hd hok rfl Q
    have hb := run_bounds (P := P) G h1 h2 hl hm (cap := s.size) false (Nat.le_refl _) r1 r2 r3 w
    simp only [execOp, hop, Instr.sliceAt, Sem.run_bind, run_underlying' hu, Result.andThen, Instr.slice, e, Option.map_none, hb, Sem.run_pure]
    simp [hb]
  | _ => exact (run_fail h).elim

theorem add_block (ad : Addr) (n : Nat) : (ad.add n).block = ad.block := by
  unfold Addr.add
  split <;> rfl

/-- A part of a row. -/
theorem V_slice {γ : Gh} {w : World} {fr nn : Bool} {z : Nat} {xs : List AV} {A : Option Addr} {c l h : Nat} (hv : V γ w (.sl fr nn z xs) (.slice A xs.length c)) (h1 : l ≤ h) (h2 : h ≤ xs.length) :
    V γ w (.sl fr (nn || !xs.isEmpty) z ((xs.take h).drop l)) (.slice (if c = l then A else A.map (·.add (l * z))) (h - l) (c - l)) := by
  obtain ⟨A', c', e, h3, h4, h5, h6⟩ := hv
  cases e
  have hlen : ((xs.take h).drop l).length = h - l := by simp; omega
  refine ⟨_, c - l, by rw [hlen], by rw [hlen]; omega, fun e => ?_, fun ad ha hf => ?_, fun hne => ?_⟩
  · have hA : A = none := by
      split at e
      · exact e
      · simpa using e
    obtain ⟨f1, f2, f3⟩ := h4 hA
    subst f1 f2 f3
    simp
  · split at ha
    · exact h5 ad ha hf
    · cases A with
      | none => cases ha
      | some b =>
        simp only [Option.map_some, Option.some.injEq] at ha
        subst ha
        rw [add_block]
        exact h5 b rfl hf
  · have hx : xs ≠ [] := by
      intro e
      subst e
      simp at hne
    have hlh : l < h := by
      rcases Nat.lt_or_ge l h with h' | h'
      · exact h'
      · exfalso
        apply hne
        apply List.eq_nil_of_length_eq_zero
        omega
    obtain ⟨g, o, f1, f2, f3⟩ := h6 hx
    subst f1
    rw [if_neg (by omega)]
    refine ⟨g, o + l * z, by simp [add_none], ?_, VS_mk fun i x hi => ?_⟩
    · rw [hlen, Nat.add_assoc, ← Nat.add_mul]
      have : (l + (h - l)) * z ≤ xs.length * z := Nat.mul_le_mul_right _ (by omega)
      omega
    · have hi2 : xs[l + i]? = some x := by
        rw [List.getElem?_drop, List.getElem?_take] at hi
        split at hi
        · exact hi
        · cases hi
      have := VS_get f3 (l + i) x hi2
      rwa [show o + l * z + i * z = o + (l + i) * z by rw [Nat.add_mul]; omega]

theorem slice_sound {o : Oper} {d : Nat} {t e : TypeId} {z : Nat} {x : Operand} {lo hi : Option Operand} {x' : Ar} {lo' hi' : Option Ar} (hop : o.op = .slice t x lo hi none) (hu : P.underlying t = some (.slice e)) (hz : sizeOfT P e = some z) (hx : ArOk x x')
    (h1 : cOptAr lo = some lo') (h2 : cOptAr hi = some hi') (hd : o.dst = some d) : OpSound P T o (semSlice d z x' lo' hi') := by
  intro w0 St0 γ σ a w U ws G h hok Q
  obtain ⟨l, hl, h⟩ := run_bind h
  obtain ⟨m, hm, h⟩ := run_bind h
  obtain ⟨⟨p, us⟩, hp, h⟩ := run_bind h
  obtain ⟨γ', G', E, hv⟩ := rdView_sound G hx hp
  obtain ⟨inf, hinf, hsz⟩ := sizeOfT_info hz
  cases p with
  | sl fr nn z' xs =>
    obtain ⟨⟨rfl, r1, r2, r3⟩, h⟩ := run_if h
    have h := run_ret h
    subst h
    obtain ⟨A, c, ev, hc⟩ : ∃ A c, a.eval x = .slice A xs.length c ∧ xs.length ≤ c := by
      obtain ⟨A, c, h3, h4, _⟩ := hv
      exact ⟨A, c, h3, h4⟩
    rw [ev] at hv
    simp only [List.all_append, List.all_cons, List.all_nil, Wr.ok, Bool.and_true, Bool.and_eq_true, decide_eq_true_eq] at hok
    have hb := run_bounds (P := P) G h1 h2 hl hm (cap := c) true hc r1 r2 r3 w
    have hV := V_slice hv (l := (l.getD 0).toNat) (h := (m.getD xs.length).toNat) (by omega) (by omega)
    refine wp_value (v := .slice (if c = (l.getD 0).toNat then A else A.map (·.add ((l.getD 0).toNat * z'))) ((m.getD xs.length).toNat - (l.getD 0).toNat) (c - (l.getD 0).toNat)) (w' := w) ?_ hd ⟨γ', ?_⟩ Q
    · simp only [execOp, hop, Instr.sliceAt, Sem.run_bind, run_underlying' hu, Result.andThen, Instr.slice, ev, Option.map_none, hb, run_sizeOf' hinf, hsz, Sem.run_pure]
    · rw [apps_append]
      exact setV G' hok.2.1 hV rfl
  | _ => exact (run_fail h).elim
end
end Go.Ev

/-! text E21 -/
set_option linter.unusedVariables false
set_option linter.unusedSimpArgs false
namespace Go.Ev
open Go.RowKit

section
variable {P : Program} {T : List Nat} {w0 : World} {St0 : Nat → Nat} {γ : Gh} {σ : List AV} {a : Act} {w : World} {U : List Nat}

/-- An answer that may refer to another slot. -/
theorem finR {o : Oper} {d : Nat} {v : Value} {x : AV} (G : GoodAt T w0 St0 γ σ a w) (hrun : (execOp a.eval o).run P w = .ok (.value v) w) (hd : o.dst = some d) (hok : [Wr.set d x].all (Wr.ok T a.tmps.size) = true) (hv : R2 γ w (a.put (some d) v).tmps d x v) (Q : Exit → Act → World → Prop) :
    o.wp P a w (Post T w0 St0 a.tmps.size (apps T [.set d x] σ)) Q :=
  wp_value hrun hd ⟨γ, set_ref G hok hv⟩ Q

theorem Adr.put {tmps : Act} {s j d : Nat} {u v : Value} (h : Adr tmps.tmps s j v) (hs : s ≠ d) : Adr (tmps.put (some d) u).tmps s j v := by
  obtain ⟨g, o, h1, h2⟩ := h
  exact ⟨g, o, by rw [put_ne hs]; exact h1, h2⟩
theorem pv_drop {γ : Gh} {w : World} {cs : List AV} {g o n : Nat} (hn : n ≤ cs.length) (h1 : o + cs.length ≤ γ.St g) (h2 : VC γ w cs g o) : V γ w (.pv (cs.drop n)) (.pointer (some ⟨g, o + n, none⟩)) := by
  refine ⟨g, o + n, rfl, by simp; omega, VC_mk fun j x hx => ?_⟩
  rw [List.getElem?_drop] at hx
  obtain ⟨u, e1, e2⟩ := VC_get h2 (n + j) x hx
  exact ⟨u, by rw [Nat.add_assoc]; exact e1, e2⟩

theorem run_fieldPlace {ad : Addr} {f : Field} {n : Nat} (hn : sizeOfT P f.type = some (n + 1)) (w : World) : (fieldPlace ad f).run P w = .ok (ad.add f.offset) w := by
  obtain ⟨i, h1, h2⟩ := sizeOfT_info hn
  unfold fieldPlace
  simp only [Sem.run_bind, run_sizeOf' h1, Result.andThen]
  rw [if_neg (by omega)]
  rfl

theorem fadr_sound {o : Oper} {d : Nat} {s : TypeId} {f n : Nat} {x : Operand} {x' : Ar} {fs : Array Field} {fl : Field} (hop : o.op = .fieldAddr s x f) (hu : P.underlying s = some (.struct fs)) (hf : fs[f]? = some fl) (hn : sizeOfT P fl.type = some (n + 1))
    (hx : ArOk x x') (hd : o.dst = some d) : OpSound P T o (semFadr d fl.offset x') := by
  intro w0 St0 γ σ a w U ws G h hok Q
  obtain ⟨tg, h1, h⟩ := run_bind h
  have ht := target_sound G hx h1
  have hrun : ∀ {ad}, a.eval x = .pointer (some ad) → (execOp a.eval o).run P w = .ok (.value (.pointer (some (ad.add fl.offset)))) w := by
    intro ad e
    simp only [execOp, hop, Instr.fieldAt, Sem.run_bind, run_underlying' hu, Result.andThen, hf, e, Instr.sureAddr, Sem.run_pure, run_fieldPlace hn]
  cases tg with
  | at_ s j =>
    obtain ⟨hsd, h⟩ := run_ifn h
    have h := run_ret h
    subst h
    obtain ⟨g, q, h2, h3⟩ := ht
    refine finR G (hrun h3) hd hok ?_ Q
    exact ⟨g, q, by rw [put_ne hsd]; exact h2, by rw [add_none, Nat.add_assoc]⟩
  | ro cs =>
    obtain ⟨hl, h⟩ := run_if h
    have h := run_ret h
    subst h
    obtain ⟨g, q, h2, h3, h4⟩ := ht
    refine finV G (hrun h2) hd hok ?_ Q
    rw [add_none]
    exact pv_drop hl h3 h4
  | ns s j cs => exact (run_fail h).elim
  | gl i q =>
    have h := run_ret h
    subst h
    obtain ⟨g, h2, h3⟩ := ht
    refine finV G (hrun h3) hd hok ?_ Q
    rw [add_none]
    exact ⟨g, h2, rfl⟩

theorem VE_pv {γ : Gh} {w : World} {z : Nat} {xs : List AV} {g o i : Nat} {y : AV} (h1 : o + xs.length * z ≤ γ.St g) (h2 : VS γ w z xs g o) (hy : xs[i]? = some y) : V γ w (.pv (cellsOf y)) (.pointer (some ⟨g, o + i * z, none⟩)) := by
  obtain ⟨e1, e2⟩ := VE_cells (VS_get h2 i y hy)
  refine ⟨g, o + i * z, rfl, ?_, e2⟩
  have hi := (List.getElem?_eq_some_iff.1 hy).1
  have : (i + 1) * z ≤ xs.length * z := Nat.mul_le_mul_right _ hi
  rw [Nat.add_mul] at this
  omega

theorem idxA_sound {o : Oper} {d : Nat} {t e : TypeId} {z : Nat} {x i : Operand} {x' i' : Ar} (hop : o.op = .indexAddr t x i) (hu : P.underlying t = some (.slice e)) (hz : sizeOfT P e = some z) (hx : ArOk x x') (hi : ArOk i i') (hd : o.dst = some d) : OpSound P T o (semIdxA d z x' i') := by
  intro w0 St0 γ σ a w U ws G h hok Q
  obtain ⟨⟨k, n⟩, h1, h⟩ := run_bind h
  have ei := rdInt_sound G hi h1
  obtain ⟨inf, hinf, hsz⟩ := sizeOfT_info hz
  have hrun : ∀ {g q : Nat} {l c : Nat}, a.eval x = .slice (some ⟨g, q, none⟩) l c → 0 ≤ n → n < l → (execOp a.eval o).run P w = .ok (.value (.pointer (some ⟨g, q + n.toNat * z, none⟩))) w := by
    intro g q l c e r1 r2
    simp only [execOp, hop, Instr.indexAt, ei, asIntOf, Sem.run_bind, Sem.run_pure, Result.andThen, run_underlying' hu, e]
    rw [if_pos ⟨r1, r2⟩]
    simp only [Sem.run_bind, run_sizeOf' hinf, Result.andThen, hsz, Sem.run_pure, add_none]
  obtain ⟨⟨y, key⟩, h2, h⟩ := run_bind h
  have hrd := rd_sound G hx h2
  have viaView : RM.run U σ ((rdView x').bind fun
      | (.sl _ _ z' xs, ws) => if z' = z ∧ 0 ≤ n ∧ n < xs.length then match xs[n.toNat]? with
          | some y => .ret (ws ++ [.set d (.pv (cellsOf y))])
          | none => .fail
        else .fail
      | _ => .fail) = some ws → Oper.wp P o a w (Post T w0 St0 a.tmps.size (apps T ws σ)) Q := by
    intro h
    obtain ⟨⟨p, us⟩, hp, h⟩ := run_bind h
    obtain ⟨γ', G', E, hv⟩ := rdView_sound G hx hp
    cases p with
    | sl fr nn z' xs =>
      obtain ⟨⟨ez, r1, r2⟩, h8⟩ := run_if h
      clear h
      subst ez
      cases hy : xs[n.toNat]? with
      | none => simp only [hy] at h8; exact (run_fail h8).elim
      | some y =>
        simp only [hy] at h8
        have h := run_ret h8
        subst h
        simp only [List.all_append, List.all_cons, List.all_nil, Wr.ok, Bool.and_true, Bool.and_eq_true, decide_eq_true_eq] at hok
        obtain ⟨A, c, e1, e2, e3, e4, e5⟩ := hv
        obtain ⟨g, q, f1, f2, f3⟩ := e5 (by intro e; subst e; cases hy)
        subst f1
        refine wp_value (hrun e1 r1 r2) hd ⟨γ', ?_⟩ Q
        rw [apps_append]
        exact setV G' hok.2.1 (VE_pv f2 f3 hy) rfl
    | _ => exact (run_fail h).elim
  by_cases c1 : ∃ z' xs s, y = .own true z' xs ∧ key = some (s, 0)
  · obtain ⟨z', xs, s, rfl, rfl⟩ := c1
    obtain ⟨⟨rfl, hz0, r1, r2, hsd⟩, h⟩ := run_if h
    have h := run_ret h
    subst h
    rcases RK.own hrd with ⟨_, e2⟩ | ⟨g, q, c, cs, e1, _⟩
    · subst e2; simp at r2; omega
    · refine finR G (hrun e1 r1 r2) hd hok ?_ Q
      exact ⟨g, q, .inr ⟨xs.length, c, by rw [put_ne hsd, hrd.1, e1]⟩, rfl⟩
  · by_cases c2 : ∃ s j nn z' xs, y = .nst s j (.dsl nn z' xs)
    · obtain ⟨s, j, nn, z', xs, rfl⟩ := c2
      obtain ⟨⟨ez, hz0, r1, r2, hsd⟩, h8⟩ := run_if h
      clear h
      subst ez
      cases hy : xs[n.toNat]? with
      | none => simp only [hy] at h8; exact (run_fail h8).elim
      | some y =>
        simp only [hy] at h8
        have h := run_ret h8
        subst h
        cases key with
        | none => exact hrd.elim
        | some key =>
          obtain ⟨s2, j2⟩ := key
          cases j2 with
          | succ j2 => exact hrd.2.elim
          | zero =>
            obtain ⟨M, A, c, e1, e2, e3, e4, e5⟩ := hrd.2
            obtain ⟨g, q, f1, f2, fF, f3⟩ := e5 (by intro e; subst e; cases hy)
            subst f1
            have hB : γ.B ≤ g := e4 _ rfl
            have hO : γ.O g = some ((s, j), true) := by
              rcases fF hz0 with h' | h'
              · have := G.fb g h'
                omega
              · exact h'
            obtain ⟨e6, e7⟩ := VE_cells (VS_get f3 _ y hy)
            refine finR G (hrun e1 r1 r2) hd hok ?_ Q
            exact ⟨M, g, q + n.toNat * z', rfl, hO, e7⟩
    · refine viaView ?_
      revert h
      split
      · rename_i e1
        cases e1
        exact absurd ⟨_, _, _, rfl, rfl⟩ c1
      · rename_i e1
        cases e1
        exact absurd ⟨_, _, _, _, _, rfl⟩ c2
      · exact id

theorem idxP_sound {o : Oper} {d : Nat} {t e : TypeId} {len z : Nat} {x i : Operand} {x' i' : Ar} (hop : o.op = .indexAddr t x i) (hu : P.underlying t = some (.array len e)) (hz : sizeOfT P e = some z) (hx : ArOk x x') (hi : ArOk i i') (hd : o.dst = some d) : OpSound P T o (semIdxP d len z x' i') := by
  intro w0 St0 γ σ a w U ws G h hok Q
  obtain ⟨⟨k, n⟩, h1, h⟩ := run_bind h
  have ei := rdInt_sound G hi h1
  obtain ⟨tg, h1, h⟩ := run_bind h
  have ht := target_sound G hx h1
  obtain ⟨inf, hinf, hsz⟩ := sizeOfT_info hz
  have hrun : ∀ {ad}, a.eval x = .pointer (some ad) → 0 ≤ n → n < len → (execOp a.eval o).run P w = .ok (.value (.pointer (some (ad.add (n.toNat * z))))) w := by
    intro ad e r1 r2
    simp only [execOp, hop, Instr.indexAt, ei, asIntOf, Sem.run_bind, Sem.run_pure, Result.andThen, run_underlying' hu, e, Instr.sureAddr]
    rw [if_pos ⟨r1, r2⟩]
    simp only [Sem.run_bind, run_sizeOf' hinf, Result.andThen, hsz, Sem.run_pure]
  cases tg with
  | at_ s j =>
    obtain ⟨⟨r1, r2, hsd⟩, h⟩ := run_if h
    have h := run_ret h
    subst h
    obtain ⟨g, q, h2, h3⟩ := ht
    refine finR G (hrun h3 r1 r2) hd hok ?_ Q
    exact ⟨g, q, by rw [put_ne hsd]; exact h2, by rw [add_none, Nat.add_assoc]⟩
  | ro cs =>
    obtain ⟨⟨r1, r2, hl⟩, h⟩ := run_if h
    have h := run_ret h
    subst h
    obtain ⟨g, q, h2, h3, h4⟩ := ht
    refine finV G (hrun h2 r1 r2) hd hok ?_ Q
    rw [add_none]
    exact pv_drop hl h3 h4
  | _ => exact (run_fail h).elim

theorem tg_ptr {tg : Tg} {tmps : Array Value} {v : Value} (h : TgOk γ w tmps tg v) : ∃ ad, v = .pointer (some ad) := by
  cases tg with
  | at_ s j => obtain ⟨g, q, _, h⟩ := h; exact ⟨_, h⟩
  | ro cs => obtain ⟨g, q, h, _⟩ := h; exact ⟨_, h⟩
  | ns s j cs => obtain ⟨M, g, q, h, _⟩ := h; exact ⟨_, h⟩
  | gl i q => obtain ⟨g, _, h⟩ := h; exact ⟨_, h⟩
theorem nil_sound {o : Oper} {d : Nat} {x : Operand} {x' : Ar} (hop : o.op = .nilCheck x) (hx : ArOk x x') (hd : o.dst = some d) : OpSound P T o (semNil d x') := by
  intro w0 St0 γ σ a w U ws G h hok Q
  obtain ⟨tg, h1, h⟩ := run_bind h
  obtain ⟨ad, e⟩ := tg_ptr (target_sound G hx h1)
  obtain ⟨γ', G'⟩ := semMov1_sound G hx h hok
  refine wp_value (v := a.eval x) (w' := w) ?_ hd ⟨γ', G'⟩ Q
  simp only [execOp, hop, e, Sem.run_pure]

/-! ### max, min -/
theorem rdInts_sound (G : GoodAt T w0 St0 γ σ a w) : ∀ {xs : List Operand} {ys : List Ar} {ps : List (IntKind × Int)}, cArs xs = some ys → (rdInts ys).run U σ = some ps → xs.map a.eval = ps.map fun p => .int p.1 p.2
  | [], _, _, h, hr => by
    simp only [cArs, mapOpt, Option.some.injEq] at h
    subst h
    rw [← run_ret hr]
    rfl
  | x :: xs, ys, ps, h, hr => by
    simp only [cArs, mapOpt] at h
    cases hc : cAr x with
    | none => simp [hc] at h
    | some y =>
      cases hcs : mapOpt cAr xs with
      | none => simp [hc, hcs] at h
      | some ys' =>
        simp only [hc, hcs, Option.some.injEq] at h
        subst h
        obtain ⟨p, h1, h2⟩ := run_bind hr
        obtain ⟨qs, h3, h4⟩ := run_bind h2
        have h4 := run_ret h4
        subst h4
        simp only [List.map_cons]
        rw [rdInt_sound G (cAr_ok hc) h1, rdInts_sound G (xs := xs) hcs h3]
theorem max_run {k : IntKind} : ∀ {r : List (IntKind × Int)} {x n : Int}, mmOf true k x r = some n → ∀ (w : World), ((r.map fun p => Value.int p.1 p.2).foldlM Builtin.max2 (.int k x)).run P w = .ok (.int k n) w
  | [], x, n, h, w => by simp only [mmOf, Option.some.injEq] at h; subst h; rfl
  | (k', y) :: r, x, n, h, w => by
    simp only [mmOf] at h
    by_cases hk : k = k'
    · subst hk
      simp only [if_true] at h
      simp only [List.map_cons, List.foldlM_cons, Builtin.max2, Sem.run_bind, Sem.run_pure, Result.andThen]
      exact max_run h w
    · rw [if_neg hk] at h; cases h
theorem min_run {k : IntKind} : ∀ {r : List (IntKind × Int)} {x n : Int}, mmOf false k x r = some n → ∀ (w : World), ((r.map fun p => Value.int p.1 p.2).foldlM Builtin.min2 (.int k x)).run P w = .ok (.int k n) w
  | [], x, n, h, w => by simp only [mmOf, Option.some.injEq] at h; subst h; rfl
  | (k', y) :: r, x, n, h, w => by
    simp only [mmOf] at h
    by_cases hk : k = k'
    · subst hk
      simp only [if_true, Bool.false_eq_true, if_false] at h
      simp only [List.map_cons, List.foldlM_cons, Builtin.min2, Sem.run_bind, Sem.run_pure, Result.andThen]
      exact min_run h w
    · rw [if_neg hk] at h; cases h
theorem mm_sound {o : Oper} {d : Nat} {c : Call} {big : Bool} {ys : List Ar} (hop : o.op = .call c) (hc : c.callee = .builtin (if big then .max else .min)) (ha : cArs c.args.toList = some ys) (hd : o.dst = some d) : OpSound P T o (semMm d big ys) := by
  intro w0 St0 γ σ a w U ws G h hok Q
  obtain ⟨ps, h1, h⟩ := run_bind h
  have hm := rdInts_sound G ha h1
  cases ps with
  | nil => exact (run_fail h).elim
  | cons p r =>
    obtain ⟨k, x⟩ := p
    obtain ⟨n, h2, h3⟩ := run_bind h
    have h3 := run_ret h3
    subst h3
    refine finV (v := .int k n) G ?_ hd hok rfl Q
    have hargs : (c.args.map a.eval).toList = (.int k x) :: r.map fun p => .int p.1 p.2 := by simpa using hm
    cases big with
    | true =>
      simp only [if_true] at hc
      simp only [execOp, hop, resolve, hc, Sem.run_bind, Sem.run_pure, Result.andThen, invoke, builtin, Builtin.max_, hargs, max_run (run_opt h2)]
    | false =>
      simp only [Bool.false_eq_true, if_false] at hc
      simp only [execOp, hop, resolve, hc, Sem.run_bind, Sem.run_pure, Result.andThen, invoke, builtin, Builtin.min_, hargs, min_run (run_opt h2)]
end
end Go.Ev

/-! text E22 -/
set_option linter.unusedVariables false
set_option linter.unusedSimpArgs false
namespace Go.Ev
open Go.RowKit

section
variable {P : Program} {T : List Nat} {w0 : World} {St0 : Nat → Nat} {γ : Gh} {σ : List AV} {a : Act} {w : World} {U : List Nat}

theorem keep_drew (G : Base γ w) (X : Key → Prop) : Keep γ γ w w.drew X :=
  ⟨⟨fun _ _ _ => rfl, fun _ => Nat.le_refl _, Nat.le_refl _, fun _ _ h => h, fun _ h => h⟩, rfl, rfl, ⟨rfl, rfl, rfl, Nat.le_refl _, fun _ _ _ => rfl⟩, fun _ _ _ => rfl, fun g q b e _ => ⟨e, rfl, rfl⟩, G.own, G.rho, G.stnew, id, G.nest⟩
theorem keep_alloc' (G : Base γ w) (hB : γ.B ≤ w.heap.size) (ob : Obj) (key : Key) (b : Bool) (X : Key → Prop) (hfz : ∀ cs e lo hi, ob = .cells cs e (lo, hi) → lo = hi ∨ cs.size ≤ lo) :
    Keep γ (withO γ fun g => if g = w.heap.size then some (key, b) else γ.O g) w (w.alloc ob) X := by
  refine ⟨⟨fun g o ho => ?_, fun _ => Nat.le_refl _, Nat.le_refl _, fun _ _ h => h, fun _ h => h⟩, rfl, rfl, ⟨rfl, rfl, rfl, by simp, fun k hk _ => ?_⟩, fun _ _ _ => rfl, fun g k c h _ => ?_, fun g k h => ?_, fun i g h => ?_, fun g hg => ?_, fun hu g cs e lo hi hg h => ?_, fun g k h => ?_⟩
  · have hne : g < w.heap.size := by
      rcases Nat.lt_or_ge g w.heap.size with h | h
      · exact h
      · rw [G.stnew g h] at ho; omega
    exact cellAt_of_heap (Below.heap_alloc w ob g hne) o
  · exact Below.heap_alloc w ob k (by omega)
  · have hlt := (G.own g _ h).2
    refine ⟨?_, Below.heap_alloc w ob g hlt, rfl⟩
    simp only [withO]
    rw [if_neg (by omega)]
    exact h
  · simp only [withO] at h
    split at h
    · rename_i e
      subst e
      exact ⟨.inl hB, by simp⟩
    · have := G.own g _ h
      exact ⟨this.1, by simp; omega⟩
  · exact G.rho i g h
  · exact G.stnew g (by simp at hg; omega)
  · by_cases e2 : g = w.heap.size
    · subst e2
      have : (w.alloc ob).heap[w.heap.size]? = some ob := by show (w.heap.push ob)[w.heap.size]? = some ob; simp
      rw [this] at h
      simp only [Option.some.injEq] at h
      exact hfz _ _ _ _ h
    · have hlt : g < w.heap.size := by
        have := (Array.getElem?_eq_some_iff.1 h).1
        simp at this
        omega
      rw [Below.heap_alloc w ob g hlt] at h
      exact hu g cs e lo hi hg h
  · simp only [withO] at h ⊢
    split at h
    · rename_i e
      subst e
      exact ⟨G.stnew _ (Nat.le_refl _), hB⟩
    · exact G.nest g k h

/-- The cells of a row, as values. -/
theorem VS_vals {γ : Gh} {w : World} {z : Nat} : ∀ {xs : List AV} {g o : Nat}, VS γ w z xs g o → ∃ news : List Value, news.length = xs.length * z ∧ (∀ (j : Nat) (u : Value), news[j]? = some u → cellAt w g (o + j) = some u) ∧
    ∀ (i : Nat) (x : AV), xs[i]? = some x → (cellsOf x).length = z ∧ ∀ (j : Nat) (y : AV), (cellsOf x)[j]? = some y → ∃ u, news[i * z + j]? = some u ∧ V γ w y u
  | [], _, _, _ => ⟨[], by simp, fun j u h => by simp at h, fun i x h => by simp at h⟩
  | x :: xs, g, o, h => by
    rw [VS_cons] at h
    obtain ⟨e1, e2⟩ := VE_cells h.1
    obtain ⟨vs, h1, h2⟩ := VC_vals e2
    have hl := VL_len h1
    obtain ⟨news, h3, h4, h5⟩ := VS_vals h.2
    refine ⟨vs ++ news, by simp [h3, hl, e1, Nat.add_mul]; omega, fun j u hj => ?_, fun i y hi => ?_⟩
    · rcases Nat.lt_or_ge j vs.length with hjl | hjl
      · rw [List.getElem?_append_left hjl] at hj
        exact h2 j u hj
      · rw [List.getElem?_append_right hjl] at hj
        have := h4 _ u hj
        rwa [show o + z + (j - vs.length) = o + j by omega] at this
    · cases i with
      | zero =>
        simp only [List.getElem?_cons_zero, Option.some.injEq] at hi
        subst hi
        refine ⟨e1, fun j y hj => ?_⟩
        obtain ⟨u, f1, f2⟩ := VL_get h1 j y hj
        have hjl : j < vs.length := (List.getElem?_eq_some_iff.1 f1).1
        exact ⟨u, by rw [Nat.zero_mul, Nat.zero_add, List.getElem?_append_left hjl]; exact f1, f2⟩
      | succ i =>
        obtain ⟨f1, f2⟩ := h5 i y (by simpa using hi)
        refine ⟨f1, fun j y' hj => ?_⟩
        obtain ⟨u, f3, f4⟩ := f2 j y' hj
        refine ⟨u, ?_, f4⟩
        rw [List.getElem?_append_right (by rw [Nat.add_mul]; omega), show (i + 1) * z + j - vs.length = i * z + j by rw [Nat.add_mul]; omega]
        exact f3

/-- What the cells of a list say. -/
def Says (γ : Gh) (w : World) (z : Nat) (ys : List AV) (news : List Value) : Prop :=
  ∀ (i : Nat) (x : AV), ys[i]? = some x → (cellsOf x).length = z ∧ ∀ (j : Nat) (y : AV), (cellsOf x)[j]? = some y → ∃ u, news[i * z + j]? = some u ∧ V γ w y u
theorem Says.ext {γ γ' : Gh} {w w' : World} (E : Ext γ γ' w w') {z : Nat} {ys : List AV} {news : List Value} (h : Says γ w z ys news) : Says γ' w' z ys news := by
  intro i x hx
  obtain ⟨h1, h2⟩ := h i x hx
  refine ⟨h1, fun j y hy => ?_⟩
  obtain ⟨u, h3, h4⟩ := h2 j y hy
  exact ⟨u, h3, V_mono E _ _ h4⟩
theorem Says.one {γ : Gh} {w : World} {z : Nat} {ys : List AV} {news : List Value} (h : Says γ w z ys news) (hl : news.length = ys.length * z) (hok : ys.all (okElem z) = true) : ∀ u ∈ news, u.oneCell' = true := by
  intro u hu
  obtain ⟨j, hj, e⟩ := List.getElem_of_mem hu
  have hz : 0 < z := by
    rcases Nat.eq_zero_or_pos z with h0 | h0
    · subst h0; omega
    · exact h0
  have hi : j / z < ys.length := by rw [Nat.div_lt_iff_lt_mul hz]; omega
  have hx := List.getElem?_eq_getElem hi
  obtain ⟨h1, h2⟩ := h _ _ hx
  have hm : j % z < (cellsOf ys[j / z]).length := by rw [h1]; exact Nat.mod_lt _ hz
  obtain ⟨u', h3, h4⟩ := h2 (j % z) _ (List.getElem?_eq_getElem hm)
  have hjj : j / z * z + j % z = j := by rw [Nat.mul_comm]; exact Nat.div_add_mod j z
  rw [hjj, List.getElem?_eq_getElem hj] at h3
  have : u = u' := by rw [← e]; simpa using h3
  subst this
  have ho := List.all_eq_true.1 hok _ (List.getElem_mem hi)
  simp only [okElem, Bool.and_eq_true] at ho
  obtain ⟨_, s1, s2⟩ := okCell_one (List.all_eq_true.1 ho.2 _ (List.getElem_mem hm))
  exact V_one h4 s1 s2

theorem bytesAV_len (s : ByteArray) : (bytesAV s).length = s.size := by
  unfold bytesAV
  rw [List.length_map, Array.length_toList]
  rfl
theorem says_bytes (γ : Gh) (w : World) (s : ByteArray) : Says γ w 1 (bytesAV s) (byteCells s) := by
  intro i x hx
  simp only [bytesAV, List.getElem?_map] at hx
  cases hb : s.data.toList[i]? with
  | none => rw [hb] at hx; cases hx
  | some b =>
    rw [hb] at hx
    simp only [Option.map_some, Option.some.injEq] at hx
    subst hx
    refine ⟨rfl, fun j y hy => ?_⟩
    cases j with
    | zero =>
      simp only [cellsOf, List.getElem?_cons_zero, Option.some.injEq] at hy
      subst hy
      exact ⟨.int .u8 b.toNat, by simp [byteCells, hb], rfl⟩
    | succ j => simp [cellsOf] at hy

theorem src_row {tx : TypeId} (hk : (∃ e', P.underlying tx = some (.slice e')) ∨ P.underlying tx = some .string) {A : Option Addr} {n c z : Nat} {news : List Value} (hl : news.length = n * z) (hA : A = none → n = 0)
    (hA2 : n ≠ 0 → ∃ g o, A = some ⟨g, o, none⟩ ∧ ∀ (j : Nat) (u : Value), news[j]? = some u → cellAt w g (o + j) = some u) (h1 : ∀ u ∈ news, u.oneCell' = true) : Src P z tx (.slice A n c) n news w := by
  cases A with
  | none =>
    have hn := hA rfl
    subst hn
    have : news = [] := List.eq_nil_of_length_eq_zero (by simpa using hl)
    subst this
    exact ⟨hk, fun _ => rfl, run_firstCells_none w z 0 0 c, run_firstCells_none w.drew z 0 0 c, by simp, fun _ h => by cases h⟩
  | some ad =>
    have hc : ∀ (w' : World), w'.heap = w.heap → ∀ j u, news[j]? = some u → w'.cell? (ad.add j) = some u := by
      intro w' hw j u hj
      have hn : n ≠ 0 := by
        intro e
        subst e
        have : news = [] := List.eq_nil_of_length_eq_zero (by simpa using hl)
        subst this
        simp at hj
      obtain ⟨g, o, e1, e2⟩ := hA2 hn
      cases e1
      rw [add_none]
      have := e2 j u hj
      simpa [cellAt, World.cell?, hw] using this
    exact ⟨hk, fun _ => rfl, run_firstCells_some w z n ad n c news hl (hc w rfl), run_firstCells_some w.drew z n ad n c news hl (hc w.drew rfl), hl, h1⟩

theorem rdElems_sound (G : GoodAt T w0 St0 γ σ a w) {o : Operand} {x : Ar} (hx : ArOk o x) {tx : TypeId} (hk : (∃ e', P.underlying tx = some (.slice e')) ∨ P.underlying tx = some .string) {z' : Option Nat} {ys : List AV} {us : List Wr} {z : Nat}
    (h : (rdElems x).run U σ = some ((z', ys), us)) (hz : z' = none ∨ z' = some z) (hok : ys.all (okElem z) = true) :
    ∃ γ', GoodAt T w0 St0 γ' (apps T us σ) a w ∧ OneMod γ γ' w us ∧ ∃ news, Src P z tx (a.eval o) ys.length news w ∧ Says γ' w z ys news := by
  obtain ⟨⟨y, k⟩, h1, h2⟩ := run_bind h
  have hrd := rd_sound G hx h1
  have viaV : ∀ {γ' : Gh} {fr nn : Bool} {xs : List AV} {us' : List Wr}, GoodAt T w0 St0 γ' (apps T us' σ) a w → OneMod γ γ' w us' → V γ' w (.sl fr nn z xs) (a.eval o) → xs = ys → us' = us →
      ∃ γ', GoodAt T w0 St0 γ' (apps T us σ) a w ∧ OneMod γ γ' w us ∧ ∃ news, Src P z tx (a.eval o) ys.length news w ∧ Says γ' w z ys news := by
    intro γ' fr nn xs us' G' E hv e1 e2
    subst e1 e2
    obtain ⟨A, c, f1, f2, f3, f4, f5⟩ := hv
    by_cases hne : xs = []
    · subst hne
      refine ⟨γ', G', E, [], ?_, fun i x hi => by simp at hi⟩
      rw [f1]
      exact src_row hk (by simp) (fun _ => rfl) (fun h => absurd rfl h) (fun _ h => by cases h)
    · obtain ⟨g, q, g1, g2, g3⟩ := f5 hne
      obtain ⟨news, n1, n2, n3⟩ := VS_vals g3
      refine ⟨γ', G', E, news, ?_, n3⟩
      rw [f1]
      exact src_row hk n1 (fun e => by rw [g1] at e; cases e) (fun _ => ⟨g, q, g1, n2⟩) (Says.one n3 n1 hok)
  have viaView : RM.run U σ ((rdView x).bind fun
      | (.sl _ _ z ys, ws) => .ret ((some z, ys), ws)
      | _ => .fail) = some ((z', ys), us) → ∃ γ', GoodAt T w0 St0 γ' (apps T us σ) a w ∧ OneMod γ γ' w us ∧ ∃ news, Src P z tx (a.eval o) ys.length news w ∧ Says γ' w z ys news := by
    intro h
    obtain ⟨⟨p, ws⟩, h3, h4⟩ := run_bind h
    obtain ⟨γ', G', E, hv⟩ := rdView_sound2 G hx h3
    cases p with
    | sl fr nn z2 xs =>
      have h4 := run_ret h4
      simp only [Prod.mk.injEq] at h4
      obtain ⟨⟨e1, e2⟩, e3⟩ := h4
      have e4 : z2 = z := by
        rcases hz with hz | hz
        · rw [hz] at e1; cases e1
        · rw [hz] at e1; simpa using e1
      subst e4
      exact viaV G' E hv e2 e3
    | _ => exact (run_fail h4).elim
  cases y with
  | own f z2 xs =>
    cases f with
    | false => exact viaView h2
    | true =>
      cases k with
      | none => exact hrd.elim
      | some k =>
        rcases run_ite h2 with ⟨hf, h2⟩ | ⟨hf, h2⟩
        · have h2 := run_ret h2
          simp only [Prod.mk.injEq] at h2
          obtain ⟨⟨e1, e2⟩, e3⟩ := h2
          subst e2 e3
          have e4 : z2 = z := by
            rcases hz with hz | hz
            · rw [hz] at e1; cases e1
            · rw [hz] at e1; simpa using e1
          subst e4
          refine ⟨γ, G, .inl ⟨rfl, rfl⟩, ?_⟩
          rcases RK.own hrd with ⟨f1, f2⟩ | ⟨g, q, c, cs, f1, f2, f3, f4, f5, f6, f7⟩
          · subst f2
            refine ⟨[], ?_, fun i x hi => by simp at hi⟩
            rw [f1]
            exact src_row hk (by simp) (fun _ => rfl) (fun h => absurd rfl h) (fun _ h => by cases h)
          · simp only [if_true] at f7
            obtain ⟨_, M, f8⟩ := f7
            obtain ⟨news, n1, n2, n3⟩ := VS_vals f8
            have n4 : Says γ w z2 xs news := by
              intro i x hi
              obtain ⟨m1, m2⟩ := n3 i x hi
              have hfl := List.all_eq_true.1 hf x (List.mem_of_getElem? hi)
              refine ⟨m1, fun j y hy => ?_⟩
              obtain ⟨u, u1, u2⟩ := m2 j y hy
              have : y = x := by
                have hc : cellsOf x = [x] := by cases x <;> first | rfl | simp [flat] at hfl
                rw [hc] at hy
                cases j with
                | zero => simpa using hy.symm
                | succ j => simp at hy
              subst this
              exact ⟨u, u1, flat_V hfl u2⟩
            refine ⟨news, ?_, n4⟩
            rw [f1]
            exact src_row hk n1 (fun e => by cases e) (fun _ => ⟨g, q, rfl, n2⟩) (Says.one n4 n1 hok)
        · obtain ⟨ws, h3, h4⟩ := run_bind h2
          have h4 := run_ret h4
          simp only [Prod.mk.injEq] at h4
          obtain ⟨⟨e1, e2⟩, e3⟩ := h4
          have e4 : z2 = z := by
            rcases hz with hz | hz
            · rw [hz] at e1; cases e1
            · rw [hz] at e1; simpa using e1
          subst e4
          have ho := RK.own hrd
          obtain ⟨γ', K, ho', _, hρ⟩ := demote G ho 0
          exact viaV (putKey_sound G hrd (own_nptr ho) h3 K ho' (by simp [refTo])) ((putKey_one h3).elim fun u hu => .inr ⟨hρ, k, u, K, hu⟩) (own_view ho') e2 e3
  | str s =>
    have h2 := run_ret h2
    simp only [Prod.mk.injEq] at h2
    obtain ⟨⟨e1, e2⟩, e3⟩ := h2
    subst e2 e3
    have e4 : z = 1 := by
      rcases hz with hz | hz
      · rw [hz] at e1; cases e1
      · rw [hz] at e1; simpa using e1.symm
    subst e4
    have ev : a.eval o = .string s := rd_view G hx h1 (y' := .str s) rfl
    refine ⟨γ, G, .inl ⟨rfl, rfl⟩, byteCells s, ?_, says_bytes γ w s⟩
    rw [ev, bytesAV_len]
    exact ⟨hk, fun _ => rfl, firstCells_string s w, firstCells_string s w.drew, by rw [byteCells_length, Nat.mul_one], fun u hu => by
      obtain ⟨_, _, rfl⟩ := List.mem_map.1 hu
      rfl⟩
  | nils =>
    have h2 := run_ret h2
    simp only [Prod.mk.injEq] at h2
    obtain ⟨⟨e1, e2⟩, e3⟩ := h2
    subst e2 e3
    have ev : a.eval o = .slice none 0 0 := rd_view G hx h1 (y' := .nils) rfl
    refine ⟨γ, G, .inl ⟨rfl, rfl⟩, [], ?_, fun i x hi => by simp at hi⟩
    rw [ev]
    exact src_row hk (by simp) (fun _ => rfl) (fun h => absurd rfl h) (fun _ h => by cases h)
  | _ => exact viaView h2
end
end Go.Ev

/-! text E23 -/
set_option linter.unusedVariables false
set_option linter.unusedSimpArgs false
namespace Go.Ev
open Go.RowKit

section
variable {P : Program} {T : List Nat} {w0 : World} {St0 : Nat → Nat} {γ : Gh} {σ : List AV} {a : Act} {w : World} {U : List Nat}

theorem le_if {c : Prop} [Decidable c] {M x : Nat} : x ≤ if c then max M x else x := by
  split <;> omega
/-- More of a block stays as it is. -/
def raise (γ : Gh) (g n : Nat) : Gh := { γ with St := fun h => if h = g then n else γ.St h }
theorem raise_St (γ : Gh) (g n h : Nat) : (raise γ g n).St h = if h = g then n else γ.St h := rfl
theorem keep_raise (G : Base γ w) {g n : Nat} {k : Key} (hO : γ.O g = some (k, false)) (hB : γ.B ≤ g) (hn : γ.St g ≤ n) : Keep γ (raise γ g n) w w (· = k) := by
  have hlt := (G.own g _ hO).2
  refine ⟨⟨fun _ _ _ => rfl, fun h => ?_, Nat.le_refl _, fun _ _ h => h, fun _ h => h⟩, rfl, rfl, Frm.refl _ _ _, fun h hb _ => ?_, fun h q b e hne => ⟨e, rfl, ?_⟩, G.own, G.rho, fun h hh => ?_, id, fun h q e => ?_⟩
  · rw [raise_St]; split
    · rename_i e; subst e; exact hn
    · exact Nat.le_refl _
  · rw [raise_St, if_neg (by omega)]
  · rw [raise_St, if_neg]
    intro e2
    subst e2
    rw [hO] at e
    cases e
    exact hne rfl
  · rw [raise_St, if_neg (by omega)]
    exact G.stnew h hh
  · rw [raise_St, if_neg]
    · exact G.nest h q e
    · intro e2
      subst e2
      change γ.O h = some (q, true) at e
      rw [hO] at e
      cases e
theorem GoodAt.bsize (G : GoodAt T w0 St0 γ σ a w) : γ.B ≤ w.heap.size := by have := G.frm.size; have := G.hB; omega

theorem Says.append {γ : Gh} {w : World} {z : Nat} {xs ys : List AV} {us vs : List Value} (h1 : Says γ w z xs us) (hl : us.length = xs.length * z) (h2 : Says γ w z ys vs) : Says γ w z (xs ++ ys) (us ++ vs) := by
  intro i x hx
  rcases Nat.lt_or_ge i xs.length with hi | hi
  · rw [List.getElem?_append_left hi] at hx
    obtain ⟨e1, e2⟩ := h1 i x hx
    refine ⟨e1, fun j y hy => ?_⟩
    obtain ⟨u, e3, e4⟩ := e2 j y hy
    exact ⟨u, by rw [List.getElem?_append_left (List.getElem?_eq_some_iff.1 e3).1]; exact e3, e4⟩
  · rw [List.getElem?_append_right hi] at hx
    obtain ⟨e1, e2⟩ := h2 _ x hx
    refine ⟨e1, fun j y hy => ?_⟩
    obtain ⟨u, e3, e4⟩ := e2 j y hy
    refine ⟨u, ?_, e4⟩
    have : i * z = xs.length * z + (i - xs.length) * z := by rw [← Nat.add_mul]; congr 1; omega
    rw [List.getElem?_append_right (by omega), show i * z + j - us.length = (i - xs.length) * z + j by omega]
    exact e3
/-- What the cells of a block say. -/
theorem Says.VS {γ : Gh} {w : World} {z g o : Nat} {xs : List AV} {us : List Value} (h : Says γ w z xs us) (hc : ∀ (j : Nat) (u : Value), us[j]? = some u → cellAt w g (o + j) = some u) : VS γ w z xs g o := by
  refine VS_mk fun i x hx => ?_
  obtain ⟨e1, e2⟩ := h i x hx
  refine VE_of e1 (VC_mk fun j y hy => ?_)
  obtain ⟨u, e3, e4⟩ := e2 j y hy
  exact ⟨u, by rw [Nat.add_assoc]; exact hc _ u e3, e4⟩

/-- Whatever is there of nested memory is another slot's. -/
theorem lift_mono {γ γ' : Gh} {k : Key} {M : Nat} (E : Ext γ γ' w w) (hO : ∀ h, γ.O h = some (k, true) → γ'.O h = some (k, true)) : Ext (lift γ k M) (lift γ' k M) w w := by
  refine ⟨fun _ _ _ => rfl, fun h => ?_, E.B, E.ρ, fun h hf => hf.elim (fun hf => .inl (E.F h hf)) (fun hf => .inr (hO h hf))⟩
  rw [lift_St, lift_St]
  have := E.st h
  split
  · rename_i e
    rw [if_pos (hO h e)]
    omega
  · split <;> omega

/-- A row in a new block. -/
theorem own_grow {γ1 γ2 : Gh} {σ1 : List AV} (G1 : GoodAt T w0 St0 γ1 σ1 a w) {d : Nat} (hd : d < a.tmps.size) (K : Keep γ1 γ2 w w (· = (d, 0))) {f : Bool} {z : Nat} {xs : List AV} {news : List Value} {vs : Array Value} {e : TypeId} {c : Nat} {w1 : World} (hw : w1 = w ∨ w1 = w.drew)
    (hs : if f then ∃ M, Says (lift γ2 (d, 0) M) w z xs news else Says γ2 w z xs news) (hl : news.length = xs.length * z) (hvs : ∀ (j : Nat) (u : Value), news[j]? = some u → vs[j]? = some u) (hc : xs.length ≤ c) (hcz : c * z ≤ vs.size) :
    ∃ γ', GoodAt T w0 St0 γ' (apps T [.set d (.own f z xs)] σ1) (a.put (some d) (.slice (some ⟨w.heap.size, 0, none⟩) xs.length c)) (w1.alloc (.cells vs e)) := by
  have hB1 := G1.bsize
  have hB2 : γ2.B ≤ w.heap.size := by rw [K.B]; exact hB1
  have K1 : Keep γ2 γ2 w w1 (· = (d, 0)) := by
    rcases hw with rfl | rfl
    · have b := K.base
      exact ⟨Ext.refl _ _, rfl, rfl, Frm.refl _ _ _, fun _ _ _ => rfl, fun _ _ _ h _ => ⟨h, rfl, rfl⟩, b.own, b.rho, b.stnew, id, b.nest⟩
    · exact keep_drew K.base _
  have hsz : w1.heap.size = w.heap.size := by rcases hw with rfl | rfl <;> rfl
  have K2 := keep_alloc' K1.base (by rw [hsz]; exact hB2) (.cells vs e) (d, 0) false (· = (d, 0)) (fun cs e lo hi h => by cases h; exact .inl rfl)
  rw [hsz] at K2
  have hb : Blk (w1.alloc (.cells vs e)) w.heap.size vs := by rw [← hsz]; exact ⟨e, 0, 0, alloc_heap w1 _, .inl rfl⟩
  have hcell : ∀ (j : Nat) (u : Value), news[j]? = some u → cellAt (w1.alloc (.cells vs e)) w.heap.size (0 + j) = some u := by
    intro j u hj
    rw [hb.cell, Nat.zero_add]
    exact hvs j u hj
  have hst : γ2.St w.heap.size = 0 := K.stnew _ (Nat.le_refl _)
  have hnO : ∀ h k b, γ2.O h = some (k, b) → h ≠ w.heap.size := by
    intro h k b e1 e2
    subst e2
    have := (K.own _ _ e1).2
    omega
  cases f with
  | true =>
    simp only [if_true] at hs
    obtain ⟨M, hs⟩ := hs
    refine ⟨_, GoodAt.set G1 (((K.trans K1).trans K2).weaken fun k e => by subst e; rfl) hd (R2.of_R1 (x := .own true z xs) (.inr ⟨w.heap.size, 0, c, vs, rfl, hc, hB2, by simp [withO], hb, by omega, ?_⟩)) (fun t ht => by simp [refTo] at ht)⟩
    simp only [if_true]
    refine ⟨hst, M, Says.VS (Says.ext ?_ hs) hcell⟩
    refine ⟨fun h o ho => ?_, fun h => ?_, Nat.le_refl _, fun _ _ h => h, fun h hf => hf.elim .inl (fun hf => .inr ?_)⟩
    · rw [lift_St] at ho
      split at ho
      · rename_i e1
        have := hnO h _ _ e1
        have e2 := (K1.own h _ e1).2
        refine cellAt_of_heap ?_ o
        rw [Below.heap_alloc w1 _ h e2]
        rcases hw with rfl | rfl <;> rfl
      · exact (K1.trans K2).ext.cells h o ho
    · rw [lift_St, lift_St]
      by_cases e1 : γ2.O h = some ((d, 0), true)
      · have e2 : (withO γ2 fun g => if g = w.heap.size then some ((d, 0), false) else γ2.O g).O h = some ((d, 0), true) := by
          simp only [withO]
          rw [if_neg (hnO h _ _ e1)]
          exact e1
        rw [if_pos e1, if_pos e2]
        exact Nat.le_refl _
      · rw [if_neg e1]
        exact le_if
    · simp only [withO]
      rw [if_neg (hnO h _ _ hf)]
      exact hf
  | false =>
    simp only [Bool.false_eq_true, if_false] at hs
    have K3 := keep_raise K2.base (g := w.heap.size) (n := xs.length * z) (k := (d, 0)) (by simp [withO]) hB2 (by show γ2.St _ ≤ _; omega)
    refine ⟨_, GoodAt.set G1 ((((K.trans K1).trans K2).trans K3).weaken fun k e => by subst e; rfl) hd (R2.of_R1 (x := .own false z xs) (.inr ⟨w.heap.size, 0, c, vs, rfl, hc, hB2, by simp [raise, withO], hb, by omega, ?_⟩)) (fun t ht => by simp [refTo] at ht)⟩
    simp only [Bool.false_eq_true, if_false]
    exact ⟨by rw [raise_St, if_pos rfl, Nat.zero_add], Says.VS (Says.ext ((K1.trans K2).trans K3).ext hs) hcell⟩

theorem putKey_apps {k : Key} {x : AV} {ws : List Wr} (h : (putKey k x).run U σ = some ws) {s : Nat} (hs : s ≠ k.1) (u : AV) : (putKey k x).run U (apps T [.mod s u []] σ) = some ws := by
  obtain ⟨k1, k2⟩ := k
  cases k2 with
  | zero => exact h
  | succ k2 =>
    simp only [putKey, RM.run] at h ⊢
    by_cases hU : U.contains k1 = true
    · rw [if_pos hU] at h; cases h
    · rw [if_neg hU] at h ⊢
      cases hg : σ[k1]? with
      | none => rw [hg] at h; cases h
      | some y =>
        rw [hg] at h
        have : (apps T [.mod s u []] σ)[k1]? = some (killMod s [] y) := by
          simp only [apps, List.foldl_cons, List.foldl_nil, Wr.app]
          rw [List.getElem?_set_ne hs, List.getElem?_map, hg]
          rfl
        rw [this]
        cases y with
        | box cs => exact h
        | _ => simp only [RM.run] at h; cases h
theorem RK.keep_own {γ' : Gh} {w' : World} {tmps : Array Value} {k ky : Key} (K : Keep γ γ' w w' (· = ky)) (hk : ky.1 ≠ k.1) {f : Bool} {z : Nat} {xs : List AV} {v : Value} (h : RK γ w tmps k (.own f z xs) v) : RK γ' w' tmps k (.own f z xs) v := by
  obtain ⟨s, j⟩ := k
  have hne : ∀ j, (s, j) ≠ ky := fun j e => hk (by rw [← e])
  cases j with
  | zero => exact ⟨h.1, R2.of_R1 (R1.keep (x := .own f z xs) K (hne _) h.2)⟩
  | succ j =>
    obtain ⟨⟨g, h1, h2, h3⟩, h4⟩ := h
    obtain ⟨k1, k2, k3⟩ := K.keep g _ _ h2 (hne 0)
    exact ⟨⟨g, h1, k1, (cellAt_of_heap k2 j).trans h3⟩, R1.keep (x := .own f z xs) K (hne _) h4⟩

theorem run_app {o : Oper} {c : Call} {x y : Operand} {t tx : TypeId} (hop : o.op = .call c) (hc : c.callee = .builtin .append) (hargs : c.args = #[x, y]) (hat : c.argTypes = #[t, tx]) {v : Value} {w' : World}
    (hr : (Builtin.append_ #[t, tx] o.type #[a.eval x, a.eval y]).run P w = .ok v w') : (execOp a.eval o).run P w = .ok (.value v) w' := by
  simp [execOp, hop, resolve, hc, hargs, hat, invoke, builtin, Result.andThen, hr]

theorem run_room {t tx ty e : TypeId} {i : TypeInfo} (ht : P.underlying t = some (.slice e)) (hi : P.info? e = some i) {g q len cap : Nat} {x : Value} {n : Nat} {news : List Value} (hs : Src P i.size tx x n news w) (hroom : len + n ≤ cap) {cs : Array Value} (hb : Blk w g cs) (hl : q + cap * i.size ≤ cs.size) :
    ∃ w' cs', (Builtin.append_ #[t, tx] ty #[.slice (some ⟨g, q, none⟩) len cap, x]).run P w = .ok (.slice (some ⟨g, q, none⟩) (len + n) cap) w' ∧ Blk w' g cs' ∧ cs'.size = cs.size ∧ Only w w' g ∧
      (∀ j, q + len * i.size ≤ j → j < q + len * i.size + news.length → cs'[j]? = news[j - (q + len * i.size)]?) ∧ (∀ j, j < q + len * i.size ∨ q + len * i.size + news.length ≤ j → cs'[j]? = cs[j]?) := by
  have hfit : q + len * i.size + 0 + news.length ≤ cs.size := by
    rw [hs.newsLen]
    have : (len + n) * i.size ≤ cap * i.size := Nat.mul_le_mul_right _ hroom
    rw [Nat.add_mul] at this
    omega
  obtain ⟨w', cs', r1, r2, r3, r4, r5, r6⟩ := run_storeCells_blk (P := P) (g := g) (o := q + len * i.size) news 0 w cs hb hfit hs.one
  refine ⟨w', cs', ?_, r2, r3, r4, r5, r6⟩
  rcases hs.kind with ⟨e', hk⟩ | hk <;> simp [Builtin.append_, run_underlying ht, run_underlying hk, sizeOf, typeInfo, hi, hs.len, hroom, hs.cells, add_none, r1]

theorem zeros_size {z : Array Value} (n : Nat) : (Builtin.zeroCells z n).size = n * z.size := size_zeroCells z n
theorem zeroOf_info {t : TypeId} {zs : List AV} (h : zeroOf P t = some zs) {i : TypeInfo} (hi : P.info? t = some i) : ∃ z, i.zero = some z ∧ z.cells.size = zs.length := by
  unfold zeroOf at h
  rw [hi] at h
  simp only [Option.bind_some] at h
  cases hz : i.zero with
  | none => rw [hz] at h; cases h
  | some z =>
    rw [hz] at h
    refine ⟨z, rfl, ?_⟩
    have := (mapOpt_get h).1
    simpa using this.symm

theorem VS_join {γ : Gh} {w : World} {z : Nat} : ∀ {xs ys : List AV} {g o : Nat}, VS γ w z xs g o → VS γ w z ys g (o + xs.length * z) → VS γ w z (xs ++ ys) g o
  | [], ys, g, o, _, h => by simpa using h
  | x :: xs, ys, g, o, h1, h2 => by
    rw [VS_cons] at h1
    rw [List.cons_append, VS_cons]
    refine ⟨h1.1, VS_join h1.2 ?_⟩
    rwa [show o + z + xs.length * z = o + (x :: xs).length * z by simp [Nat.add_mul]; omega]

/-- It grows. -/
theorem app_grow {o : Oper} {d : Nat} {c : Call} {x y : Operand} {t tx e : TypeId} {i : TypeInfo} {zs : List AV} (hop : o.op = .call c) (hc : c.callee = .builtin .append) (hargs : c.args = #[x, y]) (hat : c.argTypes = #[t, tx]) (ht : P.underlying t = some (.slice e))
    (hi : P.info? e = some i) (hzs : zeroOf P e = some zs) (hzl : zs.length = i.size) (hz0 : 0 < i.size) (hd : o.dst = some d) {γ1 γ2 : Gh} {σ1 : List AV} (G1 : GoodAt T w0 St0 γ1 σ1 a w) (hdl : d < a.tmps.size) (K : Keep γ1 γ2 w w (· = (d, 0)))
    {base : Option Addr} {xs ys : List AV} {cap : Nat} (hx : a.eval x = .slice base xs.length cap) {olds news : List Value} (hold : (Builtin.firstCells i.size xs.length (.slice base xs.length cap)).run P w.drew = .ok olds.toArray w.drew) (hol : olds.length = xs.length * i.size)
    (hs : Src P i.size tx (a.eval y) ys.length news w) (hg : cap < xs.length + ys.length) (hbytes : (xs.length + ys.length) * i.bytes ≤ 140737488355328) (h63 : xs.length + ys.length ≤ 9223372036854775807) {f : Bool}
    (hsay : if f then ∃ M, Says (lift γ2 (d, 0) M) w i.size (xs ++ ys) (olds ++ news) else Says γ2 w i.size (xs ++ ys) (olds ++ news)) (Q : Exit → Act → World → Prop) :
    o.wp P a w (Post T w0 St0 a.tmps.size (apps T [.set d (.own f i.size (xs ++ ys))] σ1)) Q := by
  obtain ⟨z, hz, hzc⟩ := zeroOf_info hzs hi
  have hr := run_append_grow_src (P := P) w t tx o.type e i z ht hi hz base xs.length cap olds hold (a.eval y) ys.length news hs hg (by omega) (growslice_fits hg hbytes)
  have hcap := grownCap_ge w (xs.length + ys.length) cap e
  refine wp_value (run_app hop hc hargs hat (by rw [hx]; exact hr)) hd ?_ Q
  have hlen : (xs ++ ys).length = xs.length + ys.length := List.length_append
  rw [← hlen]
  refine own_grow G1 hdl K (.inr rfl) hsay (by rw [List.length_append, hol, hs.newsLen, hlen, Nat.add_mul]) (fun j u hj => ?_) (by rw [hlen]; exact hcap) ?_
  · rw [Array.getElem?_append_left (by simpa using (List.getElem?_eq_some_iff.1 hj).1)]
    simpa using hj
  · simp only [Array.size_append, List.size_toArray, zeros_size, hzc, hzl, List.length_append, hol, hs.newsLen, ← Nat.add_mul]
    exact Nat.mul_le_mul_right _ (by omega)

theorem run_empty {t tx ty e : TypeId} {i : TypeInfo} (ht : P.underlying t = some (.slice e)) (hi : P.info? e = some i) {x : Value} {news : List Value} (hs : Src P i.size tx x 0 news w) :
    (Builtin.append_ #[t, tx] ty #[.slice none 0 0, x]).run P w = .ok (.slice none 0 0) w := by
  rcases hs.kind with ⟨e', hk⟩ | hk <;> simp [Builtin.append_, run_underlying ht, run_underlying hk, sizeOf, typeInfo, hi, hs.len, hs.cells]

theorem app_sound {o : Oper} {d : Nat} {c : Call} {x y : Operand} {x' y' : Ar} {t tx e : TypeId} {i : TypeInfo} {zs : List AV} (hop : o.op = .call c) (hc : c.callee = .builtin .append) (hargs : c.args = #[x, y]) (hat : c.argTypes = #[t, tx]) (ht : P.underlying t = some (.slice e))
    (hk : (∃ e', P.underlying tx = some (.slice e')) ∨ P.underlying tx = some .string) (hi : P.info? e = some i) (hzs : zeroOf P e = some zs) (hzl : zs.length = i.size) (hz0 : 0 < i.size) (hb0 : 0 < i.bytes) (hx : ArOk x x') (hy : ArOk y y') (hd : o.dst = some d) : OpSound P T o (semApp d i.size i.bytes x' y') := by
  intro w0 St0 γ σ a w U ws G h hok Q
  obtain ⟨⟨⟨z', ys⟩, us⟩, h1, h⟩ := run_bind h
  obtain ⟨⟨hz, hall⟩, h⟩ := run_if h
  obtain ⟨γ', G', hone, news, hs, hsay⟩ := rdElems_sound G hy hk h1 hz hall
  obtain ⟨⟨p, k⟩, h2, h⟩ := run_bind h
  have hrd := rd_sound G hx h2
  have hb1 : ∀ n : Nat, n * i.bytes ≤ 140737488355328 → n ≤ 140737488355328 := fun n hn => Nat.le_trans (Nat.le_mul_of_pos_right _ hb0) hn
  -- a nil slice, nothing appended
  have nilcase : ∀ {γ1 γ2 : Gh} {σ1 : List AV} {f : Bool}, GoodAt T w0 St0 γ1 σ1 a w → d < a.tmps.size → Keep γ1 γ2 w w (· = (d, 0)) → Ext γ' γ2 w w → a.eval x = .slice none 0 0 → ys.length * i.bytes ≤ 140737488355328 →
      Oper.wp P o a w (Post T w0 St0 a.tmps.size (apps T [.set d (.own f i.size ys)] σ1)) Q := by
    intro γ1 γ2 σ1 f G1 hdl K E ev hbytes
    by_cases hne : ys = []
    · subst hne
      have hr := run_empty (P := P) (ty := o.type) ht hi hs
      refine wp_value (run_app hop hc hargs hat (by rw [ev]; exact hr)) hd ⟨γ2, GoodAt.set G1 (K.weaken fun k e => by subst e; rfl) hdl (R2.of_R1 (x := .own f i.size []) (.inl ⟨rfl, rfl⟩)) (fun t ht => by simp [refTo] at ht)⟩ Q
    · have hpos : 0 < ys.length := List.length_pos_iff.2 hne
      have h63 := hb1 _ hbytes
      have := app_grow (xs := []) (ys := ys) (cap := 0) (base := none) (olds := []) (f := f) hop hc hargs hat ht hi hzs hzl hz0 hd G1 hdl K ev (run_firstCells_none w.drew i.size 0 0 0) (by simp) hs (by simp; omega) (by simpa using hbytes) (by simp; omega) (by
        cases f with
        | true => exact ⟨0, by simpa using (hsay.ext (E.trans ⟨fun _ _ _ => rfl, fun h => by rw [lift_St]; split <;> omega, Nat.le_refl _, fun _ _ h => h, fun _ h => .inl h⟩ : Ext γ' (lift γ2 (d, 0) 0) w w))⟩
        | false => simpa using hsay.ext E) Q
      simpa using this
  cases p with
  | nils =>
    obtain ⟨hbytes, h⟩ := run_if h
    have h := run_ret h
    subst h
    simp only [List.all_append, List.all_cons, List.all_nil, Wr.ok, Bool.and_true, Bool.and_eq_true, decide_eq_true_eq] at hok
    have ev : a.eval x = .slice none 0 0 := rd_view G hx h2 (y' := .nils) rfl
    rw [apps_append]
    exact nilcase G' hok.2.1 (keep_refl G' _) (Ext.refl _ _) ev hbytes
  | own f z2 xs =>
    cases k with
    | none => exact hrd.elim
    | some k =>
      obtain ⟨⟨hkd, hus, hz2, hbytes⟩, h⟩ := run_if h
      obtain ⟨vs, h3, h4⟩ := run_bind h
      have h4 := run_ret h4
      subst h4
      subst hz2
      simp only [List.all_append, List.all_cons, List.all_nil, Wr.ok, Bool.and_true, Bool.and_eq_true, decide_eq_true_eq] at hok
      -- behind what is told of the second operand
      obtain ⟨hRK, hput⟩ : RK γ' w a.tmps k (.own f i.size xs) (a.eval x) ∧ (putKey k (if f then .junk else .sl true false i.size xs)).run U (apps T us σ) = some vs := by
        rcases hone with ⟨rfl, rfl⟩ | ⟨_, ky, u, K, rfl⟩
        · exact ⟨hrd, h3⟩
        · simp only [List.all_cons, List.all_nil, Wr.dst, Bool.and_true, bne_iff_ne, ne_eq] at hus
          exact ⟨RK.keep_own K hus hrd, putKey_apps h3 hus u⟩
      obtain ⟨γ1, G1, E1, hk2⟩ := take_sound G' hRK hput
      obtain ⟨γ2, K2, hown⟩ := hk2 (d, 0)
      rw [apps_append, apps_append]
      have E2 : Ext γ' γ2 w w := E1.trans K2.ext
      have h63 := hb1 _ hbytes
      rcases hown with ⟨ev, hxs⟩ | ⟨g, q, cap, cs, ev, hc1, hB, hO, hb, hsz, hsayx⟩
      · subst hxs
        exact nilcase G1 hok.2.1 K2 E2 ev (by simpa using hbytes)
      · by_cases hroom : xs.length + ys.length ≤ cap
        · obtain ⟨w', cs', r1, r2, r3, r4, r5, r6⟩ := run_room (P := P) (ty := o.type) ht hi hs hroom hb hsz
          refine wp_value (run_app hop hc hargs hat (by rw [ev]; exact r1)) hd ?_ Q
          rw [← List.length_append]
          have hold : ∀ j, j < xs.length * i.size → cellAt w' g (q + j) = cellAt w g (q + j) := fun j hj => by
            rw [r2.cell, hb.cell, r6 _ (.inl (by omega))]
          have hnew : ∀ (j : Nat) (u : Value), news[j]? = some u → cellAt w' g (q + xs.length * i.size + j) = some u := fun j u hj => by
            have := (List.getElem?_eq_some_iff.1 hj).1
            rw [r2.cell, r5 _ (by omega) (by omega), show q + xs.length * i.size + j - (q + xs.length * i.size) = j by omega]
            exact hj
          have hcap : q + cap * i.size ≤ cs'.size := by rw [r3]; exact hsz
          have h0 : γ2.St g ≤ q + xs.length * i.size := by
            cases f with
            | true => simp only [if_true] at hsayx; omega
            | false => simp only [Bool.false_eq_true, if_false] at hsayx; omega
          have K3 : Keep γ2 γ2 w w' (· = (d, 0)) := keep_only K2.base r4 hB hO rfl (fun o' h' => by rw [r2.cell, hb.cell, r6 _ (.inl (by omega))]) (unf_only r4 r2)
          cases f with
          | true =>
            simp only [if_true] at hsayx
            obtain ⟨hSt, M, hvs⟩ := hsayx
            refine ⟨γ2, GoodAt.set G1 ((K2.trans K3).weaken fun k e => by subst e; rfl) hok.2.1 (R2.of_R1 (x := .own true i.size (xs ++ ys)) (.inr ⟨g, q, cap, cs', rfl, by rw [List.length_append]; exact hroom, hB, hO, r2, hcap, ?_⟩)) (fun t ht => by simp [refTo] at ht)⟩
            simp only [if_true]
            refine ⟨hSt, M, ?_⟩
            have EL : Ext (lift γ2 (d, 0) M) (lift γ2 (d, 0) M) w w' := by
              refine ⟨fun h' o' ho' => ?_, fun _ => Nat.le_refl _, Nat.le_refl _, fun _ _ h => h, fun _ h => h⟩
              by_cases hg' : h' = g
              · subst hg'
                rw [lift_St, if_neg (by rw [hO]; intro e; cases e), hSt] at ho'
                omega
              · exact cellAt_of_heap (r4.block h' hg') o'
            have E3 : Ext γ2 (lift γ2 (d, 0) M) w w := ⟨fun _ _ _ => rfl, fun h => by rw [lift_St]; split <;> omega, Nat.le_refl _, fun _ _ h => h, fun _ h => .inl h⟩
            exact VS_join (VS_mono EL _ _ _ _ (fun j a b => by rw [show j = q + (j - q) by omega]; exact hold _ (by omega)) hvs) ((hsay.ext ((E2.trans E3).trans EL)).VS hnew)
          | false =>
            simp only [Bool.false_eq_true, if_false] at hsayx
            obtain ⟨hSt, hvs⟩ := hsayx
            have K4 := keep_raise K3.base (n := q + (xs ++ ys).length * i.size) hO hB (by rw [List.length_append, Nat.add_mul]; omega)
            refine ⟨_, GoodAt.set G1 (((K2.trans K3).trans K4).weaken fun k e => by subst e; rfl) hok.2.1 (R2.of_R1 (x := .own false i.size (xs ++ ys)) (.inr ⟨g, q, cap, cs', rfl, by rw [List.length_append]; exact hroom, hB, hO, r2, hcap, ?_⟩)) (fun t ht => by simp [refTo] at ht)⟩
            simp only [Bool.false_eq_true, if_false]
            refine ⟨by rw [raise_St, if_pos rfl], ?_⟩
            exact VS_join (VS_mono (K3.trans K4).ext _ _ _ _ (fun j a b => by rw [show j = q + (j - q) by omega]; exact hold _ (by omega)) hvs) ((hsay.ext (E2.trans (K3.trans K4).ext)).VS hnew)
        · have hvs : ∃ M, VS (if f then lift γ2 (d, 0) M else γ2) w i.size xs g q := by
            cases f with
            | true => simp only [if_true] at hsayx; obtain ⟨_, M, h⟩ := hsayx; exact ⟨M, h⟩
            | false => simp only [Bool.false_eq_true, if_false] at hsayx; exact ⟨0, hsayx.2⟩
          obtain ⟨M, hvs⟩ := hvs
          obtain ⟨olds, n1, n2, n3⟩ := VS_vals hvs
          have n3 : Says (if f then lift γ2 (d, 0) M else γ2) w i.size xs olds := n3
          refine app_grow (olds := olds) (news := news) hop hc hargs hat ht hi hzs hzl hz0 hd G1 hok.2.1 K2 ev (run_firstCells_some w.drew i.size xs.length ⟨g, q, none⟩ xs.length cap olds n1 (fun j u hj => by rw [add_none]; exact n2 j u hj)) n1 hs (by omega) hbytes (by omega) ?_ Q
          cases f with
          | true =>
            have E3 : Ext γ2 (lift γ2 (d, 0) M) w w := ⟨fun _ _ _ => rfl, fun h => by rw [lift_St]; split <;> omega, Nat.le_refl _, fun _ _ h => h, fun _ h => .inl h⟩
            exact ⟨M, n3.append n1 (hsay.ext (E2.trans E3))⟩
          | false => exact n3.append n1 (hsay.ext E2)
  | _ => exact (run_fail h).elim
end
end Go.Ev

/-! text E24 -/
set_option linter.unusedVariables false
set_option linter.unusedSimpArgs false
namespace Go.Ev
open Go.RowKit

section
variable {P : Program} {T : List Nat} {w0 : World} {St0 : Nat → Nat} {γ : Gh} {σ : List AV} {a : Act} {w : World} {U : List Nat}

/-! ### Texts to bytes, bytes to texts -/
theorem GoodAt.drew (G : GoodAt T w0 St0 γ σ a w) : GoodAt T w0 St0 γ σ a w.drew := by
  have K := keep_drew G.base (fun _ => False)
  exact ⟨G.hB, ⟨G.frm.os, G.frm.tape, G.frm.output, G.frm.size, G.frm.block⟩, G.st0, G.len, G.defers, fun s x v h1 h2 => R2.keep K (fun _ => id) (fun q _ => ⟨fun _ => id, rfl⟩) (G.slots s x v h1 h2), fun x h => Mem.keep K (fun _ => id) (G.mem x h), G.own, G.rho, G.stnew, G.unf, G.nest, G.refs, G.fb, G.fn⟩
theorem bytesWorld_eq (w : World) (e : TypeId) (s : ByteArray) : Lib.bytesWorld w e s = w.drew.alloc (.cells (Lib.bytesCells w e s) e ((Lib.bytesCells w e s).size, (Lib.bytesCells w e s).size + 1)) := by
  have h : (Lib.bytesWorld w e s).heap = (w.drew.alloc (.cells (Lib.bytesCells w e s) e ((Lib.bytesCells w e s).size, (Lib.bytesCells w e s).size + 1))).heap := by
    apply Array.ext_getElem?
    intro j
    rcases Nat.lt_trichotomy j w.heap.size with hj | hj | hj
    · rw [Lib.bytesWorld_at_old w e s j hj]
      exact (Below.heap_alloc w.drew _ j hj).symm
    · subst hj
      rw [Lib.bytesWorld_at_new]
      exact (alloc_heap w.drew _).symm
    · rw [Array.getElem?_eq_none (by rw [Lib.bytesWorld_size]; omega), Array.getElem?_eq_none (by simp; omega)]
  have e1 : Lib.bytesWorld w e s = { w.drew with heap := (Lib.bytesWorld w e s).heap } := by
    unfold Lib.bytesWorld World.freeze
    rfl
  rw [e1, h]
  rfl

theorem s2b_sound {o : Oper} {d : Nat} {s t e : TypeId} {x : Operand} {x' : Ar} {u : TypeDesc} (hop : o.op = .convert s t x) (hs : P.underlying s = some u) (ht : P.underlying t = some (.slice e)) (he : P.underlying e = some (.int .u8)) (hx : ArOk x x') (hd : o.dst = some d) : OpSound P T o (semS2b d x') := by
  intro w0 St0 γ σ a w U ws G h hok Q
  obtain ⟨p, h1, h⟩ := run_bind h
  cases p with
  | str b =>
    have ev := rdC_str G hx h1
    obtain ⟨hsz, h⟩ := run_if h
    have h := run_ret h
    subst h
    simp only [List.all_cons, List.all_nil, Wr.ok, Bool.and_true, Bool.and_eq_true, decide_eq_true_eq] at hok
    have hr := Lib.run_convert_string_bytes (P := P) w s t e b hs ht he
    rw [bytesWorld_eq] at hr
    have hcap := grownCap_ge w b.size 0 e
    refine wp_value (v := .slice (some ⟨w.heap.size, 0, none⟩) b.size (grownCap w b.size 0 e)) (w' := w.drew.alloc (.cells (Lib.bytesCells w e b) e ((Lib.bytesCells w e b).size, (Lib.bytesCells w e b).size + 1))) (by simp only [execOp, hop, ev, Sem.run_bind, hr, Result.andThen, Sem.run_pure]) hd ?_ Q
    have hbl := bytesAV_len b
    have hcs : (Lib.bytesCells w e b).size = grownCap w b.size 0 e := by
      have hd : b.data.size = b.size := rfl
      simp only [Lib.bytesCells, Array.size_append, Array.size_map, Array.size_replicate, hd]
      omega
    obtain ⟨γ', G'⟩ := own_new (t := e) (z := 1) (c := grownCap w b.size 0 e) (xs := bytesAV b) (vs := Lib.bytesCells w e b) (fz := ((Lib.bytesCells w e b).size, (Lib.bytesCells w e b).size + 1)) G.drew hok.1 (.inr (Nat.le_refl _)) (by rw [hbl]; exact hcap) (by rw [hcs]; omega) (fun i x hi => by
      obtain ⟨e1, e2⟩ := says_bytes γ w.drew b i x hi
      refine ⟨e1, fun j y hy => ?_⟩
      obtain ⟨u, e3, e4⟩ := e2 j y hy
      refine ⟨u, ?_, e4⟩
      have hlt := (List.getElem?_eq_some_iff.1 e3).1
      rw [byteCells_length] at hlt
      simp only [Lib.bytesCells]
      rw [Array.getElem?_append_left (by simpa using hlt)]
      rw [← e3]
      simp [byteCells])
    rw [hbl] at G'
    exact ⟨γ', G'⟩
  | _ => exact (run_fail h).elim

theorem freeze_only {g n : Nat} : Only w (w.freeze ⟨g, n, none⟩ 1) g := by
  refine ⟨rfl, rfl, rfl, by simp [World.freeze], fun k hk => ?_⟩
  simp only [World.freeze, Nat.one_ne_zero, if_false]
  rw [Array.getElem?_modify, if_neg (by omega)]
theorem freeze_blk {g : Nat} {cs : Array Value} (hb : Blk w g cs) : Blk (w.freeze ⟨g, cs.size, none⟩ 1) g cs := by
  obtain ⟨e, lo, hi, h1, h2⟩ := hb
  refine ⟨e, (if lo == hi then (cs.size, cs.size + 1) else (min lo cs.size, max hi (cs.size + 1))).1, (if lo == hi then (cs.size, cs.size + 1) else (min lo cs.size, max hi (cs.size + 1))).2, ?_, .inr ?_⟩
  · simp only [World.freeze, Nat.one_ne_zero, if_false]
    rw [Array.getElem?_modify, if_pos rfl, h1]
    rfl
  · split
    · exact Nat.le_refl _
    · rename_i hne
      have : lo ≠ hi := by intro e; subst e; simp at hne
      simp only
      omega

theorem run_cvb {s e : TypeId} (ht : P.underlying s = some (.slice e)) (he : P.underlying e = some (.int .u8)) {g q n c m : Nat} {u : TypeId} (hsh : w.shape? g = some (u, m)) :
    (convert s s (.slice (some ⟨g, q, none⟩) n c)).run P w = .ok (.slice (some ⟨g, q, none⟩) n c) (w.freeze ⟨g, m, none⟩ 1) := by
  simp [convert, run_underlying ht, run_underlying he, markStringish, hsh, Result.andThen]
theorem run_conv1 {o : Oper} {s t : TypeId} {x : Operand} {v : Value} {w' : World} (hop : o.op = .convert s t x) (hr : (convert s t (a.eval x)).run P w = .ok v w') : (execOp a.eval o).run P w = .ok (.value v) w' := by
  simp only [execOp, hop, Sem.run_bind, hr, Result.andThen, Sem.run_pure]
theorem cvb_sound {o : Oper} {d : Nat} {s e : TypeId} {x : Operand} {x' : Ar} (hop : o.op = .convert s s x) (ht : P.underlying s = some (.slice e)) (he : P.underlying e = some (.int .u8)) (hx : ArOk x x') (hd : o.dst = some d) : OpSound P T o (semCvb d x') := by
  intro w0 St0 γ σ a w U ws G h hok Q
  cases x' with
  | val _ => exact (run_fail h).elim
  | tmp t =>
    have ho : x = .tmp t := hx
    subst ho
    obtain ⟨z, hz, h⟩ := run_get h
    by_cases hc : ∃ xs, z = .own true 1 xs
    · obtain ⟨xs, rfl⟩ := hc
      obtain ⟨hn, h⟩ := run_ifn h
      have h := run_ret h
      subst h
      simp only [not_or] at hn
      simp only [List.all_cons, List.all_nil, Wr.ok, Bool.and_true, Bool.and_eq_true, decide_eq_true_eq] at hok
      obtain ⟨v, hv, hr⟩ := get_tmp G hz (by simp)
      have hev : a.eval (.tmp t) = v := by simp [Act.eval, Array.getD_eq_getD_getElem?, hv]
      obtain ⟨γ1, G1, E1, hk2⟩ := take_sound (U := []) (k := (t, 0)) (ws := [.mod t .junk []]) G ⟨hv, hr⟩ rfl
      obtain ⟨γ2, K2, hown⟩ := hk2 (d, 0)
      rcases hown with ⟨_, e2⟩ | ⟨g, q, c, cs, e1, e2, hB, hO, hb, hsz, hvs⟩
      · subst e2; simp at hn
      · simp only [if_true] at hvs
        obtain ⟨hSt, M, hvs⟩ := hvs
        have hb' := freeze_blk hb
        have hon := freeze_only (w := w) (g := g) (n := cs.size)
        have hcell : ∀ o', cellAt (w.freeze ⟨g, cs.size, none⟩ 1) g o' = cellAt w g o' := fun o' => by rw [hb'.cell, hb.cell]
        obtain ⟨u, hsh⟩ : ∃ u, w.shape? g = some (u, cs.size) := by
          obtain ⟨u, lo, hi, h1, _⟩ := hb
          exact ⟨u, by unfold World.shape?; rw [h1]⟩
        have K3 : Keep γ2 γ2 w (w.freeze ⟨g, cs.size, none⟩ 1) (· = (d, 0)) := keep_only K2.base hon hB hO rfl (fun o' _ => hcell o') (unf_only hon hb')
        refine wp_value (v := v) (w' := w.freeze ⟨g, cs.size, none⟩ 1) ?_ hd ⟨γ2, GoodAt.set G1 ((K2.trans K3).weaken fun k e => by subst e; rfl) hok.2.1 (R2.of_R1 (x := .own true 1 xs) (.inr ⟨g, q, c, cs, e1, e2, hB, hO, hb', hsz, ?_⟩)) (fun t ht => by simp [refTo] at ht)⟩ Q
        · exact run_conv1 hop (by rw [hev, e1]; exact run_cvb ht he hsh)
        · simp only [if_true]
          refine ⟨hSt, M, VS_mono ⟨fun h' o' _ => ?_, fun _ => Nat.le_refl _, Nat.le_refl _, fun _ _ h => h, fun _ h => h⟩ _ _ _ _ (fun o' _ _ => hcell o') hvs⟩
          by_cases hg : h' = g
          · subst hg; exact hcell o'
          · exact cellAt_of_heap (hon.block h' hg) o'
    · exfalso
      revert h
      split
      · exact absurd ⟨_, rfl⟩ hc
      · exact run_fail

theorem now_cells {tmps : Array Value} {y : AV} {v : Value} {z : Nat} {ys : List AV} (h : Now γ w tmps y v) (hy : (∃ f, y = .own f z ys) ∨ (∃ fr nn, y = .sl fr nn z ys) ∨ ∃ nn, y = .dsl nn z ys) :
    ∃ A c, v = .slice A ys.length c ∧ (ys = [] ∨ ∃ g o γ', A = some ⟨g, o, none⟩ ∧ VS γ' w z ys g o) := by
  rcases hy with ⟨f, rfl⟩ | ⟨fr, nn, rfl⟩ | ⟨nn, rfl⟩
  · rcases h with ⟨γ', h⟩ | ⟨k, h⟩
    · exact h.elim
    · rcases RK.own h with ⟨e1, e2⟩ | ⟨g, o, c, cs, e1, _, _, _, _, _, e2⟩
      · subst e2; exact ⟨none, 0, e1, .inl rfl⟩
      · refine ⟨_, c, e1, .inr ?_⟩
        cases f with
        | true => simp only [if_true] at e2; obtain ⟨_, M, e2⟩ := e2; exact ⟨g, o, _, rfl, e2⟩
        | false => simp only [Bool.false_eq_true, if_false] at e2; exact ⟨g, o, _, rfl, e2.2⟩
  · obtain ⟨γ', A, c, e1, e2, e3, e4, e5⟩ := h.V (y' := .sl fr nn z ys) rfl
    refine ⟨A, c, e1, ?_⟩
    by_cases hne : ys = []
    · exact .inl hne
    · obtain ⟨g, o, f1, f2, f3⟩ := e5 hne
      exact .inr ⟨g, o, γ', f1, f3⟩
  · have : ∃ γ', V γ' w (.dsl nn z ys) v := by
      rcases h with h | ⟨⟨s, j⟩, h⟩
      · exact h
      · cases j with
        | zero => exact ⟨_, h.2⟩
        | succ j => exact ⟨_, h.2⟩
    obtain ⟨γ', A, c, e1, e2, e3, e4, e5⟩ := this
    refine ⟨A, c, e1, ?_⟩
    by_cases hne : ys = []
    · exact .inl hne
    · obtain ⟨g, o, f1, f2, _, f3⟩ := e5 hne
      exact .inr ⟨g, o, γ', f1, f3⟩
theorem toBytes_ints : ∀ {ys : List AV} {b : ByteArray}, toBytes ys = some b → ∃ ns : List Int, ys = ns.map (AV.int .u8) ∧ b = ⟨(ns.map fun n => UInt8.ofNat n.toNat).toArray⟩
  | [], b, h => by
    simp only [toBytes, Option.some.injEq] at h
    subst h
    exact ⟨[], rfl, rfl⟩
  | y :: ys, b, h => by
    cases y with
    | int k n =>
      cases k with
      | u8 =>
        simp only [toBytes] at h
        cases ht : toBytes ys with
        | none => rw [ht] at h; cases h
        | some b' =>
          rw [ht] at h
          simp only [Option.some.injEq] at h
          obtain ⟨ns, e1, e2⟩ := toBytes_ints ht
          subst e1 e2 h
          exact ⟨n :: ns, rfl, by simp⟩
      | _ => cases h
    | _ => cases h
theorem foldl_push : ∀ (ns : List Int) (r : ByteArray), ns.foldl (fun r n => r.push (UInt8.ofNat n.toNat)) r = ⟨r.data ++ (ns.map fun n => UInt8.ofNat n.toNat).toArray⟩
  | [], r => by simp
  | n :: ns, r => by
    rw [List.foldl_cons, foldl_push ns]
    congr 1
    simp [ByteArray.push]

theorem b2s_sound {o : Oper} {d : Nat} {s t e : TypeId} {x : Operand} {x' : Ar} (hop : o.op = .convert s t x) (hs : P.underlying s = some (.slice e)) (he : P.underlying e = some (.int .u8)) (ht : P.underlying t = some .string) (hx : ArOk x x') (hd : o.dst = some d) : OpSound P T o (semB2s d x') := by
  intro w0 St0 γ σ a w U ws G h hok Q
  obtain ⟨p, h1, h⟩ := run_bind h
  have hn := rdC_sound G hx h1
  have fin : ∀ {ys : List AV} {b : ByteArray}, ((∃ f, p = .own f 1 ys) ∨ (∃ fr nn, p = .sl fr nn 1 ys) ∨ ∃ nn, p = .dsl nn 1 ys) → toBytes ys = some b → ws = [.set d (.str b)] → Oper.wp P o a w (Post T w0 St0 a.tmps.size (apps T ws σ)) Q := by
    intro ys b hy hb e1
    subst e1
    obtain ⟨A, c, ev, hA⟩ := now_cells hn hy
    obtain ⟨ns, f1, f2⟩ := toBytes_ints hb
    refine finV (v := .string b) G ?_ hd hok rfl Q
    simp only [execOp, hop, ev, Sem.run_bind, run_convert_bytes_string (P := P) w s t e A _ c hs he ht]
    cases A with
    | none =>
      have hys : ys = [] := by
        rcases hA with h | ⟨g, o, γ', h, _⟩
        · exact h
        · cases h
      subst hys
      have : ns = [] := by cases ns <;> simp at f1; rfl
      subst this f2
      rfl
    | some ad =>
      have hload : (loadCells ad ys.length).run P w = .ok (ns.map (Value.int .u8)).toArray w := by
        rcases hA with h | ⟨g, q, γ', h, hvs⟩
        · subst h
          have : ns = [] := by cases ns <;> simp at f1; rfl
          subst this
          rfl
        · cases h
          have hvc : VC γ' w ys g q := by
            refine VC_mk fun j y hy => ?_
            have := VS_get hvs j y hy
            subst f1
            rw [List.getElem?_map] at hy
            cases hns : ns[j]? with
            | none => rw [hns] at hy; cases hy
            | some m =>
              rw [hns] at hy
              simp only [Option.map_some, Option.some.injEq] at hy
              subst hy
              obtain ⟨_, u, u1, u2⟩ := this
              exact ⟨u, by rw [Nat.mul_one] at u1; exact u1, u2⟩
          obtain ⟨vs, r1, r2⟩ := run_loadCells_VC (P := P) hvc
          rw [r1]
          congr 2
          apply List.ext_getElem?
          intro j
          subst f1
          have hl := VL_len r2
          rw [List.length_map] at hl
          cases hns : ns[j]? with
          | none => rw [List.getElem?_map, hns, List.getElem?_eq_none]; rfl; rw [hl]; exact List.getElem?_eq_none_iff.1 hns
          | some m =>
            obtain ⟨u, u1, u2⟩ := VL_get r2 j (.int .u8 m) (by rw [List.getElem?_map, hns]; rfl)
            rw [u1, List.getElem?_map, hns, show u = _ from u2]
            rfl
      rw [run_bytesToString w ad ys.length c ns hload, foldl_push, f2]
      simp only [Result.andThen, Sem.run_pure]
      rw [show ByteArray.empty.data = #[] from rfl, Array.empty_append]
  cases p with
  | own f z ys =>
    obtain ⟨hz, h⟩ := run_if h
    subst hz
    obtain ⟨b, h2, h3⟩ := run_bind h
    exact fin (.inl ⟨f, rfl⟩) (run_opt h2) (run_ret h3).symm
  | sl fr nn z ys =>
    obtain ⟨hz, h⟩ := run_if h
    subst hz
    obtain ⟨b, h2, h3⟩ := run_bind h
    exact fin (.inr (.inl ⟨fr, nn, rfl⟩)) (run_opt h2) (run_ret h3).symm
  | dsl nn z ys =>
    obtain ⟨hz, h⟩ := run_if h
    subst hz
    obtain ⟨b, h2, h3⟩ := run_bind h
    exact fin (.inr (.inr ⟨nn, rfl⟩)) (run_opt h2) (run_ret h3).symm
  | nils =>
    have h := run_ret h
    subst h
    have ev := now_nils hn
    refine finV (v := .string ByteArray.empty) G ?_ hd hok rfl Q
    simp only [execOp, hop, ev, Sem.run_bind, run_convert_bytes_string (P := P) w s t e none 0 0 hs he ht]
    rfl
  | _ => exact (run_fail h).elim
end
end Go.Ev

/-! text E25 -/
set_option linter.unusedVariables false
set_option linter.unusedSimpArgs false
namespace Go.Ev
open Go.RowKit

section
variable {P : Program} {T : List Nat} {w0 : World} {St0 : Nat → Nat} {γ : Gh} {σ : List AV} {a : Act} {w : World} {U : List Nat}

/-! ### A slice of an array -/
theorem elems_get (ag : Bool) (z : Nat) : ∀ (n : Nat) (cs : List AV), (semSlarr.elems ag z n cs).length = n ∧ ∀ i, i < n → (semSlarr.elems ag z n cs)[i]? = some (if ag then .agg ((cs.drop (i * z)).take z) else (cs.drop (i * z)).headD .junk)
  | 0, cs => ⟨rfl, fun i h => by omega⟩
  | n + 1, cs => by
    obtain ⟨h1, h2⟩ := elems_get ag z n (cs.drop z)
    refine ⟨by simp [semSlarr.elems, h1], fun i hi => ?_⟩
    cases i with
    | zero => simp [semSlarr.elems]
    | succ i =>
      simp only [semSlarr.elems, List.getElem?_cons_succ, h2 i (by omega), List.drop_drop]
      rw [show z + i * z = (i + 1) * z by rw [Nat.add_mul]; omega]
theorem elems_V {γ : Gh} {w : World} {ag : Bool} {z n j : Nat} {ys : List AV} {g o : Nat} {fr : Bool} (hs : (ag || (z == 1 && ys.all single)) = true) (hl : j + n * z ≤ ys.length) (h1 : o + ys.length ≤ γ.St g) (h2 : VC γ w ys g o) (hf : fr = true → γ.B ≤ g) :
    V γ w (.sl fr true z (semSlarr.elems ag z n (ys.drop j))) (.slice (some ⟨g, o + j, none⟩) (semSlarr.elems ag z n (ys.drop j)).length n) := by
  obtain ⟨e1, e2⟩ := elems_get ag z n (ys.drop j)
  refine ⟨_, n, rfl, by rw [e1]; exact Nat.le_refl _, (fun e => by cases e), (fun ad e hfr => by cases e; exact hf hfr), fun _ => ⟨g, o + j, rfl, by rw [e1]; omega, VS_mk fun i x hx => ?_⟩⟩
  have hi : i < n := by
    have := (List.getElem?_eq_some_iff.1 hx).1
    rwa [e1] at this
  rw [e2 i hi] at hx
  have hle : (i + 1) * z ≤ n * z := Nat.mul_le_mul_right _ hi
  rw [Nat.add_mul] at hle
  cases ag with
  | true =>
    simp only [if_true, Option.some.injEq] at hx
    subst hx
    refine ⟨by simp; omega, VC_mk fun m y hy => ?_⟩
    rw [List.getElem?_take] at hy
    split at hy
    · rw [List.drop_drop, List.getElem?_drop] at hy
      obtain ⟨u, u1, u2⟩ := VC_get h2 _ y hy
      exact ⟨u, by rw [show o + j + i * z + m = o + (j + i * z + m) by omega]; exact u1, u2⟩
    · cases hy
  | false =>
    simp only [Bool.false_or, Bool.and_eq_true, beq_iff_eq] at hs
    obtain ⟨hz, hs⟩ := hs
    subst hz
    simp only [Bool.false_eq_true, if_false, Option.some.injEq] at hx
    rw [List.drop_drop] at hx
    have hlt : j + i * 1 < ys.length := by omega
    have hy : ys[j + i * 1]? = some ys[j + i * 1] := List.getElem?_eq_getElem hlt
    have hx2 : x = ys[j + i * 1] := by
      rw [← hx, List.headD_eq_head?_getD, List.head?_drop, hy]
      rfl
    subst hx2
    obtain ⟨u, u1, u2⟩ := VC_get h2 _ _ hy
    rw [VE_single (List.all_eq_true.1 hs _ (List.getElem_mem hlt))]
    exact ⟨rfl, u, by rw [show o + j + i * 1 = o + (j + i * 1) by omega]; exact u1, u2⟩

theorem slarr_sound {o : Oper} {d : Nat} {t e : TypeId} {n z : Nat} {ag : Bool} {x : Operand} {lo hi : Option Operand} {x' : Ar} {lo' hi' : Option Ar} (hop : o.op = .slice t x lo hi none) (hu : P.underlying t = some (.array n e)) (hz : sizeOfT P e = some z) (hx : ArOk x x')
    (h1 : cOptAr lo = some lo') (h2 : cOptAr hi = some hi') (hd : o.dst = some d) : OpSound P T o (semSlarr d ag n z x' lo' hi') := by
  intro w0 St0 γ σ a w U ws G h hok Q
  obtain ⟨l, hl, h⟩ := run_bind h
  obtain ⟨m, hm, h⟩ := run_bind h
  obtain ⟨tg, htg, h⟩ := run_bind h
  have ht := target_sound G hx htg
  obtain ⟨inf, hinf, hsz⟩ := sizeOfT_info hz
  cases tg with
  | at_ s j =>
    have fin : ∀ {γ' : Gh} {σ' : List AV} {g q : Nat} {ys : List AV} {fr : Bool}, GoodAt T w0 St0 γ' σ' a w → a.eval x = .pointer (some ⟨g, q + j, none⟩) → d < a.tmps.size → (ag || (z == 1 && ys.all single)) = true → j + n * z ≤ ys.length → q + ys.length ≤ γ'.St g → VC γ' w ys g q → (fr = true → γ'.B ≤ g) →
        0 ≤ l.getD 0 → l.getD 0 ≤ m.getD n → m.getD n ≤ n → Oper.wp P o a w (Post T w0 St0 a.tmps.size (apps T [.set d (.sl fr true z (((semSlarr.elems ag z n (ys.drop j)).take (m.getD n).toNat).drop (l.getD 0).toNat))] σ')) Q := by
      intro γ' σ' g q ys fr G' ev hdl hs hlen hst hvc hf r1 r2 r3
      have hV := elems_V (z := z) (n := n) hs hlen hst hvc hf
      obtain ⟨e1, _⟩ := elems_get ag z n (ys.drop j)
      have hV2 := V_slice hV (l := (l.getD 0).toNat) (h := (m.getD n).toNat) (by omega) (by rw [e1]; omega)
      have hb := run_bounds (P := P) G h1 h2 hl hm (cap := n) false (Nat.le_refl _) r1 r2 r3 w
      refine wp_value (v := .slice (if n = (l.getD 0).toNat then some ⟨g, q + j, none⟩ else (some (⟨g, q + j, none⟩ : Addr)).map (·.add ((l.getD 0).toNat * z))) ((m.getD n).toNat - (l.getD 0).toNat) (n - (l.getD 0).toNat)) (w' := w) ?_ hd ⟨γ', ?_⟩ Q
      · simp only [execOp, hop, Instr.sliceAt, Sem.run_bind, run_underlying' hu, Result.andThen, ev, Instr.sureAddr, Sem.run_pure, Option.map_none, hb, run_sizeOf' hinf, hsz]
        congr 3
        split <;> rfl
      · exact setV G' hdl hV2 rfl
    obtain ⟨p, hp, h⟩ := run_get h
    cases p with
    | box cs =>
      obtain ⟨ys, h3, h⟩ := run_bind h
      obtain ⟨⟨hs, hlen, r1, r2, r3⟩, h⟩ := run_if h
      have h := run_ret h
      subst h
      simp only [List.all_cons, List.all_nil, Wr.ok, Bool.and_true, Bool.and_eq_true, decide_eq_true_eq] at hok
      obtain ⟨g, bs, ev, htm, hO, hb, hbl, hSt, hB, hcell⟩ := box_at G hp ht
      obtain ⟨m1, m2⟩ := mapOpt_get (run_opt h3)
      have K := keep_raise G.base (n := ys.length) hO hB (by omega)
      have hvc : VC (raise γ g ys.length) w ys g 0 := by
        refine VC_mk fun i y hy => ?_
        obtain ⟨x0, e1, e2⟩ := m2 i y hy
        obtain ⟨u, e3, e4⟩ := hcell i x0 e1
        exact ⟨u, by rw [Nat.zero_add, hb.cell]; exact e3, V_mono K.ext _ _ (view_R1 e4 e2)⟩
      have hst : 0 + ys.length ≤ (raise γ g ys.length).St g := by rw [raise_St, if_pos rfl]; omega
      have G1 : GoodAt T w0 St0 (raise γ g ys.length) ((Wr.mod s (.pv ys) []).app T σ) a w := GoodAt.mod G (K.weaken fun k e => by subst e; rfl) (Array.getElem?_eq_some_iff.1 htm).1 (fun u hu => by
        rw [htm] at hu
        cases hu
        exact ⟨g, 0, rfl, hst, hvc⟩) (fun t ht => by simp [refTo] at ht) (fun i u _ hh => by
        cases i with
        | zero => exact hh
        | succ i => exact hh)
      exact fin (q := 0) G1 (by rw [Nat.zero_add]; exact ev) hok.2.1 hs hlen hst hvc (fun _ => hB) r1 r2 r3
    | pv ys =>
      obtain ⟨⟨hs, hlen, r1, r2, r3⟩, h⟩ := run_if h
      have h := run_ret h
      subst h
      simp only [List.all_cons, List.all_nil, Wr.ok, Bool.and_true, Bool.and_eq_true, decide_eq_true_eq] at hok
      obtain ⟨v, hv, g, q, e1, e2, e3⟩ := get_tmp G hp (by simp)
      subst e1
      obtain ⟨g', q', f1, f2⟩ := ht
      rw [hv] at f1
      rcases f1 with f1 | ⟨_, _, f1⟩
      · cases f1
        exact fin G f2 hok.1 hs hlen e2 e3 (fun h => by cases h) r1 r2 r3
      · cases f1
    | _ => exact (run_fail h).elim
  | _ => exact (run_fail h).elim

/-! ### '==' -/
theorem eqCells_len : ∀ {ts : List Nat} {xs ys : List AV} {b : Bool}, eqCells ts xs ys = some b → xs.length = ts.length ∧ ys.length = ts.length
  | [], [], [], _, _ => ⟨rfl, rfl⟩
  | t :: ts, x :: xs, y :: ys, b, h => by
    simp only [eqCells] at h
    cases h1 : eqCell t x y with
    | none => simp [h1] at h
    | some b1 =>
      cases h2 : eqCells ts xs ys with
      | none => simp [h1, h2] at h
      | some b2 =>
        obtain ⟨e1, e2⟩ := eqCells_len h2
        simp [e1, e2]
theorem eqCells_split : ∀ {ts us : List Nat} {xs ys : List AV} {b : Bool}, eqCells (ts ++ us) xs ys = some b →
    ∃ b1 b2, eqCells ts (xs.take ts.length) (ys.take ts.length) = some b1 ∧ eqCells us (xs.drop ts.length) (ys.drop ts.length) = some b2 ∧ b = (b1 && b2)
  | [], us, xs, ys, b, h => ⟨true, b, by simp [eqCells], by simpa using h, by simp⟩
  | t :: ts, us, [], ys, b, h => by cases ys <;> simp [eqCells] at h
  | t :: ts, us, x :: xs, [], b, h => by simp [eqCells] at h
  | t :: ts, us, x :: xs, y :: ys, b, h => by
    simp only [List.cons_append, eqCells] at h
    cases h1 : eqCell t x y with
    | none => simp [h1] at h
    | some b1 =>
      cases h2 : eqCells (ts ++ us) xs ys with
      | none => simp [h1, h2] at h
      | some b2 =>
        simp only [h1, h2, Option.some.injEq] at h
        obtain ⟨b3, b4, e1, e2, e3⟩ := eqCells_split h2
        refine ⟨b1 && b3, b4, ?_, ?_, ?_⟩
        · simp [eqCells, h1, e1]
        · simpa using e2
        · rw [← h, e3, Bool.and_assoc]

/-- Cells, as a value of the type. -/
def Pk (g : Option Nat) (vs : List Value) (v : Value) : Prop :=
  match g with
  | some _ => v = .agg vs.toArray
  | none => vs = [v]
theorem part_pk {t : TypeId} {g : Option Nat} (hg : aggOf P t = some g) {k : Nat} (hk : sizeOfT P t = some k) (h1 : g = none → k = 1) {vs : List Value} {off : Nat} (hl : off + k ≤ vs.length) (w : World) :
    ∃ v, (part t vs.toArray off).run P w = .ok v w ∧ Pk g ((vs.drop off).take k) v := by
  cases g with
  | none =>
    have := h1 rfl
    subst this
    have hlt : off < vs.length := by omega
    refine ⟨vs[off], run_part_one hg (by simp [hlt]) w, ?_⟩
    show List.take 1 (List.drop off vs) = [vs[off]]
    rw [List.drop_eq_getElem_cons hlt]
    rfl
  | some n =>
    obtain ⟨d, i, e1, e2, e3⟩ := aggOf_cases hg
    have hn : n = k := by
      unfold sizeOfT at hk
      rw [e2] at hk
      simp only [Option.map_some, Option.some.injEq] at hk
      omega
    subst hn
    exact ⟨_, run_part_many hg w, by rw [extract_list]; rfl⟩
theorem agg_one {d : Nat} {t : TypeId} {ts : List Nat} (h : flatEq P d t = some ts) (hg : aggOf P t = some none) : ts.length = 1 := by
  obtain ⟨u, i, e1, e2, e3, e4⟩ := aggOf_cases hg
  cases d with
  | zero => simp [flatEq] at h
  | succ d =>
    simp only [flatEq, e1] at h
    cases u with
    | struct fs => exact absurd rfl (e3 fs)
    | array n e => exact absurd rfl (e4 n e)
    | int k => simp at h; subst h; rfl
    | bool => simp at h; subst h; rfl
    | string => simp at h; subst h; rfl
    | _ => simp at h

/-- What is to be shown of a type. -/
def EqOk (P : Program) (d : Nat) : Prop := ∀ (t : TypeId) (ts : List Nat), flatEq P d t = some ts → ∀ D, d ≤ D → ∀ g, aggOf P t = some g → ∀ (γ1 γ2 : Gh) (w : World) (xs ys : List AV) (vs us : List Value) (v u : Value) (b : Bool),
  VL γ1 w xs vs → VL γ2 w ys us → Pk g vs v → Pk g us u → eqCells ts xs ys = some b → (Op.equalIn D t v u).run P w = .ok b w

theorem flat_fs {d : Nat} (IH : EqOk P d) {D : Nat} (hD : d ≤ D) {γ1 γ2 : Gh} {w : World} {xs ys : List AV} {vs us : List Value} (hx : VL γ1 w xs vs) (hy : VL γ2 w ys us) : ∀ (fs : List Field) (off : Nat) (ts : List Nat) (b : Bool), flatFsQ P (flatEq P d) off fs = some ts → eqCells ts (xs.drop off) (ys.drop off) = some b →
    (Op.eqFields D vs.toArray us.toArray fs).run P w = .ok b w
  | [], off, ts, b, h, he => by
    simp only [flatFsQ, Option.some.injEq] at h
    subst h
    have hb : b = true := by
      cases hx' : xs.drop off <;> cases hy' : ys.drop off <;> simp [hx', hy', eqCells] at he
      exact he
    subst hb
    rfl
  | f :: fs, off, ts, b, h, he => by
    simp only [flatFsQ] at h
    cases h1 : flatEq P d f.type with
    | none => simp [h1] at h
    | some t1 =>
      cases h2 : flatFsQ P (flatEq P d) (off + ((sizeOfT P f.type).getD 0)) fs with
      | none => simp [h1, h2] at h
      | some t2 =>
        simp only [h1, h2] at h
        split at h
        · rename_i hc
          obtain ⟨c1, c2, c3, c4⟩ := hc
          simp only [Option.some.injEq] at h
          subst h
          obtain ⟨b1, b2, e1, e2, e3⟩ := eqCells_split he
          obtain ⟨g, hg⟩ := Option.isSome_iff_exists.1 c4
          have hlx := VL_len hx
          have hly := VL_len hy
          obtain ⟨l1, l2⟩ := eqCells_len he
          simp only [List.length_drop, List.length_append] at l1 l2
          have lpos : 0 < t1.length ∨ t1.length = 0 := by omega
          have hone : g = none → t1.length = 1 := fun e => by subst e; exact agg_one h1 hg
          have lx : off + t1.length ≤ vs.length ∨ t1.length = 0 := by omega
          have ly : off + t1.length ≤ us.length ∨ t1.length = 0 := by omega
          -- an empty part
          have px : ∃ v, (part f.type vs.toArray off).run P w = .ok v w ∧ Pk g ((vs.drop off).take t1.length) v := by
            rcases lx with lx | lx
            · exact part_pk hg c3 hone lx w
            · cases g with
              | none => rw [hone rfl] at lx; cases lx
              | some n =>
                obtain ⟨_, i, f1, f2, f3⟩ := aggOf_cases hg
                have hn : n = t1.length := by
                  unfold sizeOfT at c3
                  rw [f2] at c3
                  simp only [Option.map_some, Option.some.injEq] at c3
                  omega
                subst hn
                exact ⟨_, run_part_many hg w, by rw [extract_list]; rfl⟩
          have py : ∃ v, (part f.type us.toArray off).run P w = .ok v w ∧ Pk g ((us.drop off).take t1.length) v := by
            rcases ly with ly | ly
            · exact part_pk hg c3 hone ly w
            · cases g with
              | none => rw [hone rfl] at ly; cases ly
              | some n =>
                obtain ⟨_, i, f1, f2, f3⟩ := aggOf_cases hg
                have hn : n = t1.length := by
                  unfold sizeOfT at c3
                  rw [f2] at c3
                  simp only [Option.map_some, Option.some.injEq] at c3
                  omega
                subst hn
                exact ⟨_, run_part_many hg w, by rw [extract_list]; rfl⟩
          obtain ⟨v, r1, p1⟩ := px
          obtain ⟨u, r2, p2⟩ := py
          have r3 := IH f.type t1 h1 D hD g hg γ1 γ2 w _ _ _ _ v u b1 (VL_take_drop hx off t1.length) (VL_take_drop hy off t1.length) p1 p2 e1
          have r4 := flat_fs IH hD hx hy fs (off + t1.length) t2 b2 (by rw [c3] at h2; exact h2) (by rw [List.drop_drop, List.drop_drop] at e2; exact e2)
          simp only [Op.eqFields]
          rw [if_pos c1, c2]
          simp only [Sem.run_bind, r1, r2, r3, Result.andThen]
          subst e3
          cases b1 with
          | true => simp only [Bool.not_true, Bool.false_eq_true, if_false, Bool.true_and]; exact r4
          | false => simp
        · cases h

theorem flat_items {d : Nat} (IH : EqOk P d) {D : Nat} (hD : d ≤ D) {e : TypeId} {ts : List Nat} (h1 : flatEq P d e = some ts) {g : Option Nat} (hg : aggOf P e = some g) (hk : sizeOfT P e = some ts.length) {γ1 γ2 : Gh} {w : World} {xs ys : List AV} {vs us : List Value} (hx : VL γ1 w xs vs) (hy : VL γ2 w ys us) :
    ∀ (m i : Nat) (b : Bool), eqCells (List.replicate m ts).flatten (xs.drop (i * ts.length)) (ys.drop (i * ts.length)) = some b → (Op.eqItems D e ts.length vs.toArray us.toArray (List.range' i m)).run P w = .ok b w
  | 0, i, b, he => by
    have hb : b = true := by
      cases hx' : xs.drop (i * ts.length) <;> cases hy' : ys.drop (i * ts.length) <;> simp [hx', hy', eqCells] at he
      exact he
    subst hb
    rfl
  | m + 1, i, b, he => by
    rw [List.replicate_succ, List.flatten_cons] at he
    obtain ⟨b1, b2, e1, e2, e3⟩ := eqCells_split he
    have hlx := VL_len hx
    have hly := VL_len hy
    have hone : g = none → ts.length = 1 := fun e => by subst e; exact agg_one h1 hg
    have pk : ∀ (vs : List Value), ∃ v, (part e vs.toArray (i * ts.length)).run P w = .ok v w ∧ Pk g ((vs.drop (i * ts.length)).take ts.length) v ∨ g = none ∧ ¬ (i * ts.length + ts.length ≤ vs.length) := by
      intro vs
      cases g with
      | none =>
        by_cases hl : i * ts.length + ts.length ≤ vs.length
        · obtain ⟨v, h⟩ := part_pk hg hk hone hl w
          exact ⟨v, .inl h⟩
        · exact ⟨.nilIface, .inr ⟨rfl, hl⟩⟩
      | some n =>
        obtain ⟨_, inf, f1, f2, f3⟩ := aggOf_cases hg
        have hn : n = ts.length := by
          unfold sizeOfT at hk
          rw [f2] at hk
          simp only [Option.map_some, Option.some.injEq] at hk
          omega
        subst hn
        exact ⟨_, .inl ⟨run_part_many hg w, by rw [extract_list]; rfl⟩⟩
    obtain ⟨l1, l2⟩ := eqCells_len e1
    have lx : g = none → i * ts.length + ts.length ≤ vs.length := fun e => by
      have := hone e
      rw [this] at l1 ⊢
      simp only [List.length_take, List.length_drop] at l1
      omega
    have ly : g = none → i * ts.length + ts.length ≤ us.length := fun e => by
      have := hone e
      rw [this] at l2 ⊢
      simp only [List.length_take, List.length_drop] at l2
      omega
    obtain ⟨v, hv⟩ := pk vs
    obtain ⟨u, hu⟩ := pk us
    rcases hv with ⟨r1, p1⟩ | ⟨e4, e5⟩
    · rcases hu with ⟨r2, p2⟩ | ⟨e4, e5⟩
      · have r3 := IH e ts h1 D hD g hg γ1 γ2 w _ _ _ _ v u b1 (VL_take_drop hx _ _) (VL_take_drop hy _ _) p1 p2 e1
        have r4 := flat_items IH hD h1 hg hk hx hy m (i + 1) b2 (by
          rw [List.drop_drop, List.drop_drop] at e2
          rwa [show (i + 1) * ts.length = i * ts.length + ts.length by rw [Nat.add_mul, Nat.one_mul]])
        rw [List.range'_succ]
        simp only [Op.eqItems, Sem.run_bind, r1, r2, r3, Result.andThen]
        subst e3
        cases b1 with
        | true => simp only [Bool.not_true, Bool.false_eq_true, if_false, Bool.true_and]; exact r4
        | false => simp
      · exact absurd (ly e4) e5
    · exact absurd (lx e4) e5

theorem eq_one {t : Nat} {x y : AV} {b : Bool} (h : eqCells [t] [x] [y] = some b) : eqCell t x y = some b := by
  simp only [eqCells] at h
  cases h1 : eqCell t x y with
  | none => simp [h1] at h
  | some b1 => simpa [h1] using h

theorem eqCell_int {x y : AV} {b : Bool} (h : eqCell 0 x y = some b) : ∃ k m n, x = .int k m ∧ y = .int k n ∧ b = (m == n) := by
  unfold eqCell at h
  split at h
  · rename_i k m k' n _
    by_cases hk : k = k'
    · subst hk
      rw [if_pos rfl] at h
      exact ⟨k, m, n, rfl, rfl, by simpa using h.symm⟩
    · rw [if_neg hk] at h; cases h
  · rename_i e; cases e
  · rename_i e; cases e
  · cases h
theorem eqCell_bool {x y : AV} {b : Bool} (h : eqCell 1 x y = some b) : ∃ m n, x = .bool m ∧ y = .bool n ∧ b = (m == n) := by
  unfold eqCell at h
  split at h
  · rename_i e; cases e
  · exact ⟨_, _, rfl, rfl, by simpa using h.symm⟩
  · rename_i e; cases e
  · cases h
theorem eqCell_str {x y : AV} {b : Bool} (h : eqCell 2 x y = some b) : ∃ m n, x = .str m ∧ y = .str n ∧ b = (m == n) := by
  unfold eqCell at h
  split at h
  · rename_i e; cases e
  · rename_i e; cases e
  · exact ⟨_, _, rfl, rfl, by simpa using h.symm⟩
  · cases h

theorem flat_eq : ∀ d, EqOk P d
  | 0 => fun t ts h => by simp [flatEq] at h
  | d + 1 => fun t ts h D hD g hg γ1 γ2 w xs ys vs us v u b hx hy pv pu he => by
    obtain ⟨D, rfl⟩ : ∃ D', D = D' + 1 := ⟨D - 1, by omega⟩
    obtain ⟨td, inf, t1, t2, t3⟩ := aggOf_cases hg
    have IH : EqOk P d := flat_eq d
    simp only [flatEq, t1] at h
    obtain ⟨l1, l2⟩ := eqCells_len he
    have single : ∀ {n : Nat}, ts = [n] → g = none → ∃ x y, xs = [x] ∧ ys = [y] ∧ V γ1 w x v ∧ V γ2 w y u ∧ eqCell n x y = some b := by
      intro n e1 e2
      subst e1 e2
      match xs, ys, hx, hy, l1, l2, he with
      | [x], [y], ⟨v', r, f1, f2, f3⟩, ⟨u', r', g1, g2, g3⟩, _, _, he =>
        cases f3
        cases g3
        simp only [Pk] at pv pu
        rw [f1] at pv
        rw [g1] at pu
        cases pv
        cases pu
        exact ⟨x, y, rfl, rfl, f2, g2, eq_one he⟩
    cases td with
    | int k =>
      simp only [Option.some.injEq] at h
      have hgn : g = none := by cases g with
        | none => rfl
        | some n => rcases t3.1 with ⟨_, e⟩ | ⟨_, _, e⟩ <;> cases e
      obtain ⟨x, y, _, _, v1, v2, e⟩ := single h.symm hgn
      obtain ⟨k1, m1, m2, rfl, rfl, rfl⟩ := eqCell_int e
      cases v1
      cases v2
      exact run_equalIn_int w D t k1 k m1 m2 t1
    | bool =>
      simp only [Option.some.injEq] at h
      have hgn : g = none := by cases g with
        | none => rfl
        | some n => rcases t3.1 with ⟨_, e⟩ | ⟨_, _, e⟩ <;> cases e
      obtain ⟨x, y, _, _, v1, v2, e⟩ := single h.symm hgn
      obtain ⟨m1, m2, rfl, rfl, rfl⟩ := eqCell_bool e
      cases v1
      cases v2
      exact run_equalIn_bool' w D t _ _ t1
    | string =>
      simp only [Option.some.injEq] at h
      have hgn : g = none := by cases g with
        | none => rfl
        | some n => rcases t3.1 with ⟨_, e⟩ | ⟨_, _, e⟩ <;> cases e
      obtain ⟨x, y, _, _, v1, v2, e⟩ := single h.symm hgn
      obtain ⟨m1, m2, rfl, rfl, rfl⟩ := eqCell_str e
      cases v1
      cases v2
      rw [beq_toListBytes]
      exact run_equalIn_string w D t _ _ t1
    | struct fs =>
      have hgs : ∃ n, g = some n := by cases g with
        | none => exact absurd rfl (t3.1 fs)
        | some n => exact ⟨n, rfl⟩
      obtain ⟨n, rfl⟩ := hgs
      simp only at h
      split at h
      · cases h
      · rename_i hst
        have hf : P.fieldsOf t = fs := by unfold Program.fieldsOf; rw [t1]
        simp only [Pk] at pv pu
        subst pv pu
        rw [run_equalIn_agg w D t _ _ (by rw [hf]; exact t1) (by simpa using hst), hf]
        exact flat_fs IH (by omega) hx hy fs.toList 0 ts b h (by rw [List.drop_zero, List.drop_zero]; exact he)
    | array n e =>
      have hgs : ∃ n, g = some n := by cases g with
        | none => exact absurd rfl (t3.2 n e)
        | some n => exact ⟨n, rfl⟩
      obtain ⟨m, rfl⟩ := hgs
      simp only at h
      cases h1 : flatEq P d e with
      | none => simp [h1] at h
      | some te =>
        simp only [h1] at h
        split at h
        · rename_i hc
          simp only [Option.some.injEq] at h
          subst h
          simp only [Pk] at pv pu
          subst pv pu
          obtain ⟨i, hi, hsz⟩ := sizeOfT_info hc.1
          have hco : P.cellsOf e = te.length := by
            have a1 := run_sizeOf (P := P) w hi
            rw [run_sizeOf' hi w] at a1
            injection a1 with a1
            omega
          rw [run_equalIn_array w D _ _ t1 hi, hco, List.range_eq_range']
          obtain ⟨g', hg'⟩ := Option.isSome_iff_exists.1 hc.2
          exact flat_items IH (by omega) h1 hg' hc.1 hx hy n 0 b (by rw [Nat.zero_mul, List.drop_zero, List.drop_zero]; exact he)
        · cases h
    | _ => simp at h
end
end Go.Ev

/-! text E26 -/
set_option linter.unusedVariables false
set_option linter.unusedSimpArgs false
namespace Go.Ev
open Go.RowKit

section
variable {P : Program} {T : List Nat} {w0 : World} {St0 : Nat → Nat} {γ : Gh} {σ : List AV} {a : Act} {w : World} {U : List Nat}

/-- What is asked of the type of '=='. -/
def EqKOk (P : Program) (t : TypeId) (x y : Operand) : EqK → Prop
  | .bool => P.underlying t = some .bool
  | .slice => ∃ e, P.underlying t = some (.slice e)
  | .ptr => ∃ e, P.underlying t = some (.pointer e)
  | .iface => (∃ ms, P.underlying t = some (.interface ms)) ∧ ((∃ c, x = .const c) ∨ ∃ c, y = .const c)
  | .flat ts => flatEq P 100 t = some ts ∧ (∃ n, aggOf P t = some (some n)) ∧ P.eqGuardType P.depth t = false

theorem run_eqop {o : Oper} {op : BinOp} {t r : TypeId} {x y : Operand} (hop : o.op = .binOp op t x y r) (hn : op = .eql ∨ op = .neq) {b : Bool} (hg : (eqGuard op t x y (a.eval x) (a.eval y)).run P w = .ok () w)
    (he : (Op.equalIn 10000 t (a.eval x) (a.eval y)).run P w = .ok b w) (hs : (∃ c, a.eval x = .bool c) ∨ (∃ A n c, a.eval x = .slice A n c) ∨ (∃ A, a.eval x = .pointer A ∧ ∃ B, a.eval y = .pointer B) ∨ a.eval x = .nilIface ∨ (∃ t v, a.eval x = .iface t v) ∨ ∃ cs, a.eval x = .agg cs) :
    (execOp a.eval o).run P w = .ok (.value (.bool (if op == .neq then !b else b))) w := by
  refine run_bin hop hg ?_
  rcases hs with ⟨c, e⟩ | ⟨A, n, c, e⟩ | ⟨A, e, B, e2⟩ | e | ⟨t', v, e⟩ | ⟨cs, e⟩ <;> rw [e] at he ⊢ <;> (try rw [e2] at he ⊢) <;> rcases hn with rfl | rfl <;> simp [binOp, Op.equal, Op.maxDepth, he, Result.andThen]

theorem eqv_slice {t e : TypeId} (h : P.underlying t = some (.slice e)) (A B : Option Addr) (n m c d : Nat) (hA : A = none ∨ B = none) : (Op.equalIn 10000 t (.slice A n c) (.slice B m d)).run P w = .ok (A.isNone && B.isNone) w := by
  rw [show (10000 : Nat) = 9999 + 1 from rfl]
  generalize 9999 = D
  rcases hA with rfl | rfl
  · simp [Op.equalIn, run_underlying h]
  · cases A <;> simp [Op.equalIn, run_underlying h]
theorem eqGuard_slice (op : BinOp) (t : TypeId) (x y : Operand) (A B : Option Addr) (n m c d : Nat) : (eqGuard op t x y (.slice A n c) (.slice B m d)).run P w = .ok () w := by
  unfold eqGuard
  cases op <;> rfl

theorem eq_sound {o : Oper} {d : Nat} {op : BinOp} {t r : TypeId} {x y : Operand} {x' y' : Ar} {k : EqK} (hop : o.op = .binOp op t x y r) (hn : op = .eql ∨ op = .neq) (hk : EqKOk P t x y k) (hx : ArOk x x') (hy : ArOk y y') (hd : o.dst = some d) : OpSound P T o (semEq d k (op == .neq) x' y') := by
  intro w0 St0 γ σ a w U ws G h hok Q
  obtain ⟨p, h1, h⟩ := run_bind h
  obtain ⟨q, h2, h⟩ := run_bind h
  obtain ⟨b, h3, h4⟩ := run_bind h
  have h4 := run_ret h4
  subst h4
  have h3 := run_opt h3
  have n1 := rdC_sound G hx h1
  have n2 := rdC_sound G hy h2
  have fin : ∀ {b' : Bool}, (execOp a.eval o).run P w = .ok (.value (.bool (if op == .neq then !b' else b'))) w → b' = b → Oper.wp P o a w (Post T w0 St0 a.tmps.size (apps T [.set d (.bool (if op == .neq then !b else b))] σ)) Q := by
    intro b' hr e
    subst e
    exact finV G hr hd hok rfl Q
  cases k with
  | bool =>
    have : ∃ m n, p = .bool m ∧ q = .bool n ∧ b = (m == n) := by
      unfold eqv at h3
      split at h3 <;> first | (rename_i e; cases e; done) | skip
      all_goals first | (exact ⟨_, _, rfl, rfl, by simpa using h3.symm⟩) | (cases h3) | skip
      all_goals (rename_i e _; cases e)
    obtain ⟨m, n, rfl, rfl, rfl⟩ := this
    have e1 := rdC_bool G hx h1
    have e2 := rdC_bool G hy h2
    refine fin (run_eqop hop hn ?_ ?_ (.inl ⟨m, e1⟩)) rfl
    · rw [e1, e2]; unfold eqGuard; cases op <;> rfl
    · rw [e1, e2]; exact run_equalIn_bool' w 9999 t m n hk
  | slice =>
    obtain ⟨e, hk⟩ := hk
    have fs : ∀ {A B : Option Addr} {n m c c' : Nat}, a.eval x = .slice A n c → a.eval y = .slice B m c' → (A = none ∨ B = none) → (A.isNone && B.isNone) = b → Oper.wp P o a w (Post T w0 St0 a.tmps.size (apps T [.set d (.bool (if op == .neq then !b else b))] σ)) Q := by
      intro A B n m c c' e1 e2 hAB hb
      refine fin (run_eqop hop hn ?_ ?_ (.inr (.inl ⟨A, n, c, e1⟩))) hb
      · rw [e1, e2]; exact eqGuard_slice _ _ _ _ _ _ _ _ _ _
      · rw [e1, e2]; exact eqv_slice hk _ _ _ _ _ _ hAB
    have nz : ∀ {A : Option Addr}, A ≠ none → A.isNone = false := fun {A} h => by cases A <;> simp_all
    have cases3 : (p = .nils ∧ q = .nils ∧ b = true) ∨ (q = .nils ∧ b = false ∧ ∃ A n c, a.eval x = .slice A n c ∧ A ≠ none) ∨ (p = .nils ∧ b = false ∧ ∃ A n c, a.eval y = .slice A n c ∧ A ≠ none) := by
      unfold eqv at h3
      split at h3
      all_goals first
        | (rename_i e; cases e; done)
        | (rename_i e _; cases e; done)
        | (cases h3; done)
        | skip
      · exact .inl ⟨rfl, rfl, by simpa using h3.symm⟩
      all_goals first
        | (split at h3
           · rename_i hc
             have hb : b = false := by simpa using h3.symm
             first
             | (obtain ⟨A, c, e1, e2⟩ := now_sl n1; exact .inr (.inl ⟨rfl, hb, A, _, c, e1, e2 hc⟩))
             | (obtain ⟨A, c, e1, e2⟩ := now_sl n2; exact .inr (.inr ⟨rfl, hb, A, _, c, e1, e2 hc⟩))
             | (obtain ⟨A, c, e1, e2⟩ := now_dsl n1; exact .inr (.inl ⟨rfl, hb, A, _, c, e1, e2 hc⟩))
             | (obtain ⟨A, c, e1, e2⟩ := now_dsl n2; exact .inr (.inr ⟨rfl, hb, A, _, c, e1, e2 hc⟩))
           · cases h3)
        | (obtain ⟨A, c, e1, e2⟩ := n1.row; exact .inr (.inl ⟨rfl, by simpa using h3.symm, A, _, c, e1, e2 (by simp)⟩))
        | (obtain ⟨A, c, e1, e2⟩ := n2.row; exact .inr (.inr ⟨rfl, by simpa using h3.symm, A, _, c, e1, e2 (by simp)⟩))
    rcases cases3 with ⟨rfl, rfl, rfl⟩ | ⟨rfl, rfl, A, n, c, e1, e2⟩ | ⟨rfl, rfl, A, n, c, e1, e2⟩
    · exact fs (now_nils n1) (now_nils n2) (.inl rfl) rfl
    · exact fs e1 (now_nils n2) (.inr rfl) (by rw [nz e2]; rfl)
    · exact fs (now_nils n1) e1 (.inl rfl) (by rw [nz e2]; rfl)
  | ptr =>
    obtain ⟨e, hk⟩ := hk
    have cases3 : ∃ A B, a.eval x = .pointer A ∧ a.eval y = .pointer B ∧ (A = none ∨ B = none) ∧ (A.isNone && B.isNone) = b := by
      have np : ∀ {v}, Now γ w a.tmps .nilp v → v = .pointer none := fun h => by
        obtain ⟨γ', h⟩ := h.V (y' := .nilp) rfl
        exact h
      have nr : ∀ {v i j}, Now γ w a.tmps (.ref i j) v → ∃ g, v = .pointer (some ⟨g, j, none⟩) := fun {v i j} h => by
        obtain ⟨γ', g, _, h⟩ := h.V (y' := .ref i j) rfl
        exact ⟨g, h⟩
      unfold eqv at h3
      split at h3
      all_goals first
        | (rename_i e; cases e; done)
        | (rename_i e _; cases e; done)
        | (cases h3; done)
        | skip
      · exact ⟨none, none, np n1, np n2, .inl rfl, by simpa using h3⟩
      · obtain ⟨g, e2⟩ := nr n2
        exact ⟨none, _, np n1, e2, .inl rfl, by simpa using h3⟩
      · obtain ⟨g, e1⟩ := nr n1
        exact ⟨_, none, e1, np n2, .inr rfl, by simpa using h3⟩
    obtain ⟨A, B, e1, e2, hAB, hb⟩ := cases3
    refine fin (run_eqop hop hn ?_ ?_ (.inr (.inr (.inl ⟨A, e1, B, e2⟩)))) hb
    · rw [e1, e2]; unfold eqGuard; cases op <;> rfl
    · rw [e1, e2, show (10000 : Nat) = 9999 + 1 from rfl]
      generalize 9999 = D
      rcases hAB with rfl | rfl
      · simp [Op.equalIn, run_underlying hk]
      · cases A <;> simp [Op.equalIn, run_underlying hk]
  | iface =>
    obtain ⟨⟨ms, hk⟩, hc⟩ := hk
    have ni : ∀ {v}, Now γ w a.tmps .nili v → v = .nilIface := fun h => by
      obtain ⟨γ', h⟩ := h.V (y' := .nili) rfl
      exact h
    have nf : ∀ {v t u}, Now γ w a.tmps (.ifc t u) v → ∃ u, v = .iface t u := fun {v t u} h => by
      obtain ⟨γ', u, h, _⟩ := h.V (y' := .ifc t u) rfl
      exact ⟨u, h⟩
    have hcs : ∀ (A B : Value), (A = .nilIface ∧ B = .nilIface → (eqGuard op t x y A B).run P w = .ok () w) := by
      rintro A B ⟨rfl, rfl⟩
      unfold eqGuard
      rcases hn with rfl | rfl <;> rcases hc with ⟨c, e⟩ | ⟨c, e⟩ <;> simp [e]
    have cases3 : ((a.eval x = .nilIface ∧ a.eval y = .nilIface) ∧ b = true) ∨ (a.eval x = .nilIface ∧ (∃ t u, a.eval y = .iface t u) ∧ b = false) ∨ ((∃ t u, a.eval x = .iface t u) ∧ a.eval y = .nilIface ∧ b = false) := by
      unfold eqv at h3
      split at h3
      all_goals first
        | (rename_i e; cases e; done)
        | (rename_i e _; cases e; done)
        | (cases h3; done)
        | skip
      · exact .inl ⟨⟨ni n1, ni n2⟩, by simpa using h3.symm⟩
      · obtain ⟨u, e2⟩ := nf n2
        exact .inr (.inl ⟨ni n1, ⟨_, u, e2⟩, by simpa using h3.symm⟩)
      · obtain ⟨u, e1⟩ := nf n1
        exact .inr (.inr ⟨⟨_, u, e1⟩, ni n2, by simpa using h3.symm⟩)
    rcases cases3 with ⟨⟨e1, e2⟩, hb⟩ | ⟨e1, ⟨t', u, e2⟩, hb⟩ | ⟨⟨t', u, e1⟩, e2, hb⟩
    · refine fin (b' := true) (run_eqop hop hn (hcs _ _ ⟨e1, e2⟩) ?_ (.inr (.inr (.inr (.inl e1))))) hb.symm
      rw [e1, e2, show (10000 : Nat) = 9999 + 1 from rfl]
      generalize 9999 = D
      simp [Op.equalIn, run_underlying hk]
    · refine fin (b' := false) (run_eqop hop hn ?_ ?_ (.inr (.inr (.inr (.inl e1))))) hb.symm
      · rw [e1, e2]; unfold eqGuard; cases op <;> rfl
      · rw [e1, e2, show (10000 : Nat) = 9999 + 1 from rfl]
        generalize 9999 = D
        simp [Op.equalIn, run_underlying hk]
    · refine fin (b' := false) (run_eqop hop hn ?_ ?_ (.inr (.inr (.inr (.inr (.inl ⟨t', u, e1⟩)))))) hb.symm
      · rw [e1, e2]; unfold eqGuard; cases op <;> rfl
      · rw [e1, e2, show (10000 : Nat) = 9999 + 1 from rfl]
        generalize 9999 = D
        simp [Op.equalIn, run_underlying hk]
  | flat ts =>
    obtain ⟨hk, ⟨g, hg⟩, hgt⟩ := hk
    have : ∃ xs ys, p = .agg xs ∧ q = .agg ys ∧ eqCells ts xs ys = some b := by
      unfold eqv at h3
      split at h3
      all_goals first
        | (rename_i e; cases e; done)
        | (rename_i e _; cases e; done)
        | (cases h3; done)
        | skip
      injection ‹EqK.flat ts = EqK.flat _› with e
      subst e
      exact ⟨_, _, rfl, rfl, h3⟩
    obtain ⟨xs, ys, rfl, rfl, hc⟩ := this
    obtain ⟨γ1, vs, e1, v1⟩ := n1.V (y' := .agg xs) rfl
    obtain ⟨γ2, us, e2, v2⟩ := n2.V (y' := .agg ys) rfl
    refine fin (run_eqop hop hn ?_ ?_ (.inr (.inr (.inr (.inr (.inr ⟨_, e1⟩)))))) rfl
    · rw [e1, e2]; exact run_eqGuard_agg w op t x y _ _ hgt
    · rw [e1, e2]
      exact flat_eq 100 t ts hk 10000 (by omega) (some g) hg γ1 γ2 w xs ys vs us _ _ b v1 v2 rfl rfl hc
end
end Go.Ev

/-! text E27 -/
set_option linter.unusedVariables false
set_option linter.unusedSimpArgs false
namespace Go.Ev
open Go.RowKit

section
variable {P : Program} {T : List Nat} {E : Fns} {n : Nat}

theorem fail_sound {o : Oper} : OpSound P T o .fail := fun _ _ _ _ _ _ _ _ _ h _ => (run_fail h).elim
theorem sd {o : Oper} {i : I} {m : Nat → RM (List Wr)} (h1 : ∀ d, semI E n (some d) i = m d) (h0 : semI E n none i = .fail) (h : ∀ d, o.dst = some d → OpSound P T o (m d)) : OpSound P T o (semI E n o.dst i) := by
  cases hd : o.dst with
  | none => rw [h0]; exact fail_sound
  | some d => rw [h1]; exact h d hd
theorem map_some {α β : Type} {f : α → β} {o : Option α} {b : β} (h : o.map f = some b) : ∃ x, o = some x ∧ b = f x := by
  cases o with
  | none => cases h
  | some x => exact ⟨x, rfl, by simpa using h.symm⟩
theorem bind_some {α β : Type} {f : α → Option β} {o : Option α} {b : β} (h : o.bind f = some b) : ∃ x, o = some x ∧ f x = some b := by
  cases o with
  | none => cases h
  | some x => exact ⟨x, rfl, h⟩
theorem toList_arr {α : Type} {a : Array α} {l : List α} (h : a.toList = l) : a = l.toArray := by
  cases a; simp at h; rw [h]

/-- What is asked of a call's contract. -/
def CallSound (P : Program) (T : List Nat) (E : Fns) (n : Nat) : Prop :=
  ∀ (o : Oper) (c : Call) (f : FuncId) (ys : List Ar), o.op = .call c → c.callee = .value (.func f) → cArs c.args.toList = some ys → ∀ d, o.dst = some d → OpSound P T o (semCall E n d f ys)

theorem cOp_sound {o : Oper} {i : I} (hcall : CallSound P T E n) (h : cOp P o = some i) : OpSound P T o (semI E n o.dst i) := by
  unfold cOp at h
  cases hop : o.op with
  | move x =>
    simp only [hop] at h
    obtain ⟨x', hx, rfl⟩ := map_some h
    exact sd (fun _ => rfl) rfl fun d hd => mov_sound (.inl hop) (cAr_ok hx) hd
  | assign x =>
    simp only [hop] at h
    obtain ⟨x', hx, rfl⟩ := map_some h
    exact sd (fun _ => rfl) rfl fun d hd => asg_sound (.inr hop) (cAr_ok hx) hd
  | pick c x y =>
    simp only [hop] at h
    split at h
    · rename_i c' x' y' hc hx hy
      cases h
      exact sd (fun _ => rfl) rfl fun d hd => pick_sound hop (cAr_ok hc) (cAr_ok hx) (cAr_ok hy) hd
    · cases h
  | alloc t =>
    simp only [hop] at h
    obtain ⟨z, hz, rfl⟩ := map_some h
    exact sd (fun _ => rfl) rfl fun d hd => alloc_sound hop hz hd
  | box t x =>
    simp only [hop] at h
    obtain ⟨x', hx, rfl⟩ := map_some h
    exact sd (fun _ => rfl) rfl fun d hd => box_sound hop (cAr_ok hx) hd
  | build t parts =>
    simp only [hop] at h
    split at h
    · rename_i fs z hu hz
      obtain ⟨places, hp, h⟩ := bind_some h
      obtain ⟨ps, hps, rfl⟩ := map_some h
      exact sd (fun _ => rfl) rfl fun d hd => build_sound hop hz (.inl ⟨fs, places, hu, hp, hps⟩) hd
    · rename_i n' e z hu hz
      obtain ⟨ie, hi, h⟩ := bind_some h
      obtain ⟨ps, hps, rfl⟩ := map_some h
      exact sd (fun _ => rfl) rfl fun d hd => build_sound hop hz (.inr ⟨n', e, ie, hu, hi, hps⟩) hd
    · cases h
  | buildSlice t len parts =>
    simp only [hop] at h
    split at h
    · rename_i e hu
      split at h
      · rename_i s z g hs hz hg
        split at h
        · rename_i hc
          obtain ⟨ps, hps, rfl⟩ := map_some h
          exact sd (fun _ => rfl) rfl fun d hd => bslice_sound hop hu hs hz hc.1 hc.2.1 hc.2.2.1 hc.2.2.2 hps hd
        · cases h
      · cases h
    · cases h
  | load t x =>
    simp only [hop] at h
    split at h
    · rename_i g x' hg hx
      cases h
      exact sd (fun _ => rfl) rfl fun d hd => load_sound hop hg (cAr_ok hx) hd
    · cases h
  | store t x y =>
    simp only [hop] at h
    split at h
    · rename_i m x' y' hm hx hy
      cases h
      cases hd : o.dst with
      | none => exact store_sound hop hm (cAr_ok hx) (cAr_ok hy) hd
      | some d => exact fail_sound
    · cases h
  | nilCheck x =>
    simp only [hop] at h
    obtain ⟨x', hx, rfl⟩ := map_some h
    exact sd (fun _ => rfl) rfl fun d hd => nil_sound hop (cAr_ok hx) hd
  | binOp op t x y r =>
    simp only [hop] at h
    split at h
    · rename_i x' y' k hx hy hu
      cases h
      exact sd (fun _ => rfl) rfl fun d hd => bin_sound hop (cAr_ok hx) (cAr_ok hy) hd
    · rename_i x' y' hx hy hu
      cases h
      exact sd (fun _ => rfl) rfl fun d hd => bin_sound hop (cAr_ok hx) (cAr_ok hy) hd
    · rename_i x' y' u _ _ hx hy hu
      split at h
      · rename_i hn
        have hn : op = .eql ∨ op = .neq := by simpa using hn
        split at h
        · cases h
          exact sd (fun _ => rfl) rfl fun d hd => eq_sound hop hn hu (cAr_ok hx) (cAr_ok hy) hd
        · cases h
          exact sd (fun _ => rfl) rfl fun d hd => eq_sound hop hn ⟨_, hu⟩ (cAr_ok hx) (cAr_ok hy) hd
        · cases h
          exact sd (fun _ => rfl) rfl fun d hd => eq_sound hop hn ⟨_, hu⟩ (cAr_ok hx) (cAr_ok hy) hd
        · split at h
          · cases h
            exact sd (fun _ => rfl) rfl fun d hd => eq_sound hop hn ⟨⟨_, hu⟩, .inl ⟨_, rfl⟩⟩ (cAr_ok hx) (cAr_ok hy) hd
          · cases h
            exact sd (fun _ => rfl) rfl fun d hd => eq_sound hop hn ⟨⟨_, hu⟩, .inr ⟨_, rfl⟩⟩ (cAr_ok hx) (cAr_ok hy) hd
          · cases h
        · split at h
          · rename_i ts m hts hg
            split at h
            · rename_i hgd
              cases h
              exact sd (fun _ => rfl) rfl fun d hd => eq_sound hop hn ⟨hts, ⟨m, hg⟩, hgd⟩ (cAr_ok hx) (cAr_ok hy) hd
            · cases h
          · cases h
      · cases h
    · cases h
  | unOp op t x =>
    simp only [hop] at h
    obtain ⟨x', hx, rfl⟩ := map_some h
    exact sd (fun _ => rfl) rfl fun d hd => un_sound hop (cAr_ok hx) hd
  | convert s t x =>
    simp only [hop] at h
    split at h
    · rename_i ks k x' hs ht hx
      cases h
      exact sd (fun _ => rfl) rfl fun d hd => conv_sound hop hs ht (cAr_ok hx) hd
    · rename_i e x' hs ht hx
      split at h
      · rename_i he
        cases h
        exact sd (fun _ => rfl) rfl fun d hd => b2s_sound hop hs he ht (cAr_ok hx) hd
      · cases h
    · rename_i e x' hs ht hx
      split at h
      · rename_i he
        cases h
        exact sd (fun _ => rfl) rfl fun d hd => s2b_sound hop hs ht he (cAr_ok hx) hd
      · cases h
    · rename_i u e x' _ hs ht hx
      split at h
      · rename_i he
        split at h
        · cases h
          exact sd (fun _ => rfl) rfl fun d hd => s2b_sound hop hs ht he (cAr_ok hx) hd
        · split at h
          · rename_i hst
            cases h
            subst hst
            exact sd (fun _ => rfl) rfl fun d hd => cvb_sound hop ht he (cAr_ok hx) hd
          · cases h
      · cases h
    · cases h
  | slice t x lo hi mx =>
    cases mx with
    | some _ => simp only [hop] at h; cases h
    | none =>
      simp only [hop] at h
      split at h
      · rename_i x' lo' hi' e hx hlo hhi hu
        obtain ⟨s, hs, rfl⟩ := map_some h
        exact sd (fun _ => rfl) rfl fun d hd => slice_sound hop hu hs (cAr_ok hx) hlo hhi hd
      · rename_i x' lo' hi' hx hlo hhi hu
        cases h
        exact sd (fun _ => rfl) rfl fun d hd => slstr_sound hop hu (cAr_ok hx) hlo hhi hd
      · rename_i x' lo' hi' m e hx hlo hhi hu
        split at h
        · rename_i s g hs hg
          cases h
          exact sd (fun _ => rfl) rfl fun d hd => slarr_sound hop hu hs (cAr_ok hx) hlo hhi hd
        · cases h
      · cases h
  | fieldAddr s x f =>
    simp only [hop] at h
    split at h
    · rename_i fs x' hu hx
      split at h
      · rename_i fl hf
        split at h
        · rename_i m hm
          cases h
          exact sd (fun _ => rfl) rfl fun d hd => fadr_sound hop hu hf hm (cAr_ok hx) hd
        · cases h
      · cases h
    · cases h
  | field s x f =>
    simp only [hop] at h
    split at h
    · rename_i fs x' hu hx
      obtain ⟨fl, hf, h⟩ := bind_some h
      obtain ⟨g, hg, rfl⟩ := map_some h
      exact sd (fun _ => rfl) rfl fun d hd => fld_sound hop hu hf hg (cAr_ok hx) hd
    · cases h
  | indexAddr t x j =>
    simp only [hop] at h
    split at h
    · rename_i e x' j' hu hx hj
      obtain ⟨s, hs, rfl⟩ := map_some h
      exact sd (fun _ => rfl) rfl fun d hd => idxA_sound hop hu hs (cAr_ok hx) (cAr_ok hj) hd
    · rename_i m e x' j' hu hx hj
      obtain ⟨s, hs, rfl⟩ := map_some h
      exact sd (fun _ => rfl) rfl fun d hd => idxP_sound hop hu hs (cAr_ok hx) (cAr_ok hj) hd
    · cases h
  | index t x j =>
    simp only [hop] at h
    split at h
    · rename_i m e x' j' hu hx hj
      split at h
      · rename_i s g hs hg
        cases h
        exact sd (fun _ => rfl) rfl fun d hd => idx_sound hop hu hs hg (cAr_ok hx) (cAr_ok hj) hd
      · cases h
    · rename_i x' j' hu hx hj
      cases h
      exact sd (fun _ => rfl) rfl fun d hd => idxS_sound hop hu (cAr_ok hx) (cAr_ok hj) hd
    · cases h
  | extract x j =>
    simp only [hop] at h
    obtain ⟨x', hx, rfl⟩ := map_some h
    exact sd (fun _ => rfl) rfl fun d hd => ext_sound hop (cAr_ok hx) hd
  | call c =>
    simp only [hop] at h
    split at h
    · rename_i x hc ha
      split at h
      · rename_i e ht
        obtain ⟨t, ht1, ht2⟩ := bind_some ht
        obtain ⟨x', hx, rfl⟩ := map_some h
        exact sd (fun _ => rfl) rfl fun d hd => len_sound hop hc ha ht1 (by simpa using ⟨e, ht2⟩) (cAr_ok hx) hd
      · rename_i ht
        obtain ⟨t, ht1, ht2⟩ := bind_some ht
        obtain ⟨x', hx, rfl⟩ := map_some h
        exact sd (fun _ => rfl) rfl fun d hd => len_sound hop hc ha ht1 (by simpa using ht2) (cAr_ok hx) hd
      · cases h
    · rename_i x y hc ha
      split at h
      · rename_i t tx hts
        split at h
        · rename_i e e2 x' y' ht htx hx hy
          split at h
          · rename_i inf zs hi hz
            split at h
            · rename_i hcc
              cases h
              exact sd (fun _ => rfl) rfl fun d hd => app_sound hop hc (toList_arr ha) (toList_arr hts) ht (.inl ⟨_, htx⟩) hi hz hcc.1 hcc.2.1 hcc.2.2 (cAr_ok hx) (cAr_ok hy) hd
            · cases h
          · cases h
        · rename_i e x' y' ht htx hx hy
          split at h
          · rename_i inf zs hi hz
            split at h
            · rename_i hcc
              cases h
              exact sd (fun _ => rfl) rfl fun d hd => app_sound hop hc (toList_arr ha) (toList_arr hts) ht (.inr htx) hi hz hcc.1 hcc.2.1 hcc.2.2 (cAr_ok hx) (cAr_ok hy) hd
            · cases h
          · cases h
        · cases h
      · cases h
    · rename_i hc
      obtain ⟨ys, hys, rfl⟩ := map_some h
      exact sd (fun _ => rfl) rfl fun d hd => mm_sound (big := true) hop hc hys hd
    · rename_i hc
      obtain ⟨ys, hys, rfl⟩ := map_some h
      exact sd (fun _ => rfl) rfl fun d hd => mm_sound (big := false) hop hc hys hd
    · rename_i f hc
      obtain ⟨ys, hys, rfl⟩ := map_some h
      exact sd (fun _ => rfl) rfl fun d hd => hcall o c f ys hop hc hys d hd
    · cases h
  | _ => simp only [hop] at h; cases h
end
end Go.Ev

/-! text E28 -/
set_option linter.unusedVariables false
set_option linter.unusedSimpArgs false
namespace Go.Ev
open Go.RowKit

/-! ### Calls: what is handed over, what comes back -/
section
variable {γ1 γ2 : Gh} {w : World}

theorem sL_len : ∀ (xs : List AV), (stale.sL xs).length = xs.length
  | [] => rfl
  | x :: xs => by simp [stale.sL, sL_len xs]
theorem stale_single {x : AV} (h : single x = true) : single (stale x) = true := by
  cases x <;> first | rfl | cases h
mutual
theorem V_stale (hS : ∀ g, γ1.St g ≤ γ2.St g) (hρ : ∀ i g, γ1.ρ i = some g → γ2.ρ i = some g) : ∀ (x : AV) (v : Value), V γ1 w x v → V γ2 w (stale x) v
  | .junk, _, _ => trivial
  | .int _ _, _, h => h
  | .bool _, _, h => h
  | .str _, _, h => h
  | .nils, _, h => h
  | .nilp, _, h => h
  | .nilm, _, h => h
  | .nili, _, h => h
  | .nilf, _, h => h
  | .anyint _, _, h => h
  | .ref i o, _, ⟨g, h, hv⟩ => ⟨g, hρ i g h, hv⟩
  | .mref i, _, ⟨g, h, hv⟩ => ⟨g, hρ i g h, hv⟩
  | .ifc t x, _, ⟨u, hv, h⟩ => ⟨u, hv, V_stale hS hρ x u h⟩
  | .fn f caps, _, ⟨vs, hv, h⟩ => ⟨vs, hv, VL_stale hS hρ caps vs h⟩
  | .sl fr nn z xs, v, ⟨A, c, h1, h2, h3, h4, h5⟩ => ⟨A, c, by rw [sL_len]; exact h1, by rw [sL_len]; exact h2, fun e => by
        obtain ⟨e1, e2, e3⟩ := h3 e
        subst e1
        exact ⟨rfl, e2, e3⟩, (fun _ _ h => nomatch h), fun hne => by
        have : xs ≠ [] := by intro e; subst e; exact hne rfl
        obtain ⟨g, o, e1, e2, e3⟩ := h5 this
        exact ⟨g, o, e1, by rw [sL_len]; exact Nat.le_trans e2 (hS g), VS_stale hS hρ z xs g o e3⟩⟩
  | .dsl nn z xs, v, ⟨A, c, h1, h2, h3, h4, h5⟩ => ⟨A, c, by rw [sL_len]; exact h1, by rw [sL_len]; exact h2, fun e => by
        obtain ⟨e1, e2, e3⟩ := h3 e
        subst e1
        exact ⟨rfl, e2, e3⟩, (fun _ _ h => nomatch h), fun hne => by
        have : xs ≠ [] := by intro e; subst e; exact hne rfl
        obtain ⟨g, o, e1, e2, _, e3⟩ := h5 this
        exact ⟨g, o, e1, by rw [sL_len]; exact Nat.le_trans e2 (hS g), VS_stale hS hρ z xs g o e3⟩⟩
  | .agg cs, v, ⟨vs, h1, h2⟩ => ⟨vs, h1, VL_stale hS hρ cs vs h2⟩
  | .pv cs, v, ⟨g, o, h1, h2, h3⟩ => ⟨g, o, h1, by rw [sL_len]; exact Nat.le_trans h2 (hS g), VC_stale hS hρ cs g o h3⟩
  | .tup _, _, h => h.elim
  | .own _ _ _, _, h => h.elim
  | .box _, _, h => h.elim
  | .als _ _, _, h => h.elim
  | .adr _ _, _, h => h.elim
  | .obj _, _, h => h.elim
  | .ent _ _ _, _, h => h.elim
  | .mp _ _, _, h => h.elim
  | .mem _, _, h => h.elim
  | .nst _ _ _, _, h => h.elim
  | .npv _ _ _, _, h => h.elim
theorem VL_stale (hS : ∀ g, γ1.St g ≤ γ2.St g) (hρ : ∀ i g, γ1.ρ i = some g → γ2.ρ i = some g) : ∀ (xs : List AV) (vs : List Value), VL γ1 w xs vs → VL γ2 w (stale.sL xs) vs
  | [], _, h => h
  | x :: xs, _, ⟨v, r, e, h1, h2⟩ => ⟨v, r, e, V_stale hS hρ x v h1, VL_stale hS hρ xs r h2⟩
theorem VC_stale (hS : ∀ g, γ1.St g ≤ γ2.St g) (hρ : ∀ i g, γ1.ρ i = some g → γ2.ρ i = some g) : ∀ (xs : List AV) (g o : Nat), VC γ1 w xs g o → VC γ2 w (stale.sL xs) g o
  | [], _, _, _ => trivial
  | x :: xs, g, o, ⟨⟨u, h1, h2⟩, h3⟩ => ⟨⟨u, h1, V_stale hS hρ x u h2⟩, VC_stale hS hρ xs g (o + 1) h3⟩
theorem VS_stale (hS : ∀ g, γ1.St g ≤ γ2.St g) (hρ : ∀ i g, γ1.ρ i = some g → γ2.ρ i = some g) (z : Nat) : ∀ (xs : List AV) (g o : Nat), VS γ1 w z xs g o → VS γ2 w z (stale.sL xs) g o
  | [], _, _, _ => trivial
  | x :: xs, g, o, h => by
    have h1 := fun v => V_stale hS hρ x v
    have h2 := VS_stale hS hρ z xs g (o + z)
    rw [VS_cons] at h
    simp only [stale.sL]
    rw [VS_cons]
    exact ⟨VE_map stale_single (fun cs e => by subst e; exact ⟨_, rfl, sL_len cs⟩) h1 h.1, h2 h.2⟩
end

/-- From the one that is called to the caller: new blocks. -/
structure New (γ1 γ2 : Gh) : Prop where
  B : γ2.B ≤ γ1.B
  st : ∀ g, γ1.B ≤ g → γ1.St g ≤ γ2.St g
  F : ∀ g, γ1.F g → γ2.F g
mutual
theorem V_fresh (N : New γ1 γ2) : ∀ (x : AV) (v : Value), freshA x = true → V γ1 w x v → V γ2 w x v
  | .int _ _, _, _, h => h
  | .bool _, _, _, h => h
  | .str _, _, _, h => h
  | .nils, _, _, h => h
  | .nilp, _, _, h => h
  | .nilm, _, _, h => h
  | .nili, _, _, h => h
  | .nilf, _, _, h => h
  | .anyint _, _, _, h => h
  | .sl fr nn z xs, v, hf, ⟨A, c, h1, h2, h3, h4, h5⟩ => by
    simp only [freshA, Bool.and_eq_true] at hf
    refine ⟨A, c, h1, h2, h3, fun ad ha hfr => Nat.le_trans N.B (h4 ad ha hfr), fun hne => ?_⟩
    obtain ⟨g, o, e1, e2, e3⟩ := h5 hne
    have hB := h4 _ e1 hf.1
    exact ⟨g, o, e1, Nat.le_trans e2 (N.st g hB), VS_fresh N z xs g o hf.2 e3⟩
  | .dsl nn z xs, v, hf, ⟨A, c, h1, h2, h3, h4, h5⟩ => by
    simp only [freshA] at hf
    refine ⟨A, c, h1, h2, h3, fun ad ha => Nat.le_trans N.B (h4 ad ha), fun hne => ?_⟩
    obtain ⟨g, o, e1, e2, eF, e3⟩ := h5 hne
    have hB := h4 _ e1
    exact ⟨g, o, e1, Nat.le_trans e2 (N.st g hB), fun h => N.F g (eF h), VS_fresh N z xs g o hf e3⟩
  | .agg cs, v, hf, ⟨vs, h1, h2⟩ => by
    simp only [freshA] at hf
    exact ⟨vs, h1, VL_fresh N cs vs hf h2⟩
  | .junk, _, hf, _ => by cases hf
  | .ref _ _, _, hf, _ => by cases hf
  | .mref _, _, hf, _ => by cases hf
  | .ifc _ _, _, hf, _ => by cases hf
  | .fn _ _, _, hf, _ => by cases hf
  | .pv _, _, hf, _ => by cases hf
  | .tup _, _, _, h => h.elim
  | .own _ _ _, _, _, h => h.elim
  | .box _, _, _, h => h.elim
  | .als _ _, _, _, h => h.elim
  | .adr _ _, _, _, h => h.elim
  | .obj _, _, _, h => h.elim
  | .ent _ _ _, _, _, h => h.elim
  | .mp _ _, _, _, h => h.elim
  | .mem _, _, _, h => h.elim
  | .nst _ _ _, _, _, h => h.elim
  | .npv _ _ _, _, _, h => h.elim
theorem VL_fresh (N : New γ1 γ2) : ∀ (xs : List AV) (vs : List Value), freshA.freshL xs = true → VL γ1 w xs vs → VL γ2 w xs vs
  | [], _, _, h => h
  | x :: xs, _, hf, ⟨v, r, e, h1, h2⟩ => by
    simp only [freshA.freshL, Bool.and_eq_true] at hf
    exact ⟨v, r, e, V_fresh N x v hf.1 h1, VL_fresh N xs r hf.2 h2⟩
theorem VS_fresh (N : New γ1 γ2) (z : Nat) : ∀ (xs : List AV) (g o : Nat), freshA.freshL xs = true → VS γ1 w z xs g o → VS γ2 w z xs g o
  | [], _, _, _, _ => trivial
  | x :: xs, g, o, hf, h => by
    simp only [freshA.freshL, Bool.and_eq_true] at hf
    have h1 := fun v => V_fresh N x v hf.1
    have h2 := VS_fresh N z xs g (o + z) hf.2
    rw [VS_cons] at h ⊢
    exact ⟨VE_map id (fun cs e => ⟨cs, e, rfl⟩) h1 h.1, h2 h.2⟩
end

/-- ... that become one slot's own. -/
structure NewD (γ1 γ2 : Gh) : Prop where
  B : γ2.B ≤ γ1.B
  st : ∀ g, γ1.B ≤ g → γ1.St g ≤ γ2.St g
  F : ∀ g, γ1.B ≤ g → 0 < γ1.St g → γ2.F g
theorem dL_len : ∀ (xs : List AV), (deepen.dL xs).length = xs.length
  | [] => rfl
  | x :: xs => by simp [deepen.dL, dL_len xs]
theorem deepen_single {x : AV} (h : single x = true) : single (deepen x) = true := by
  cases x with
  | sl fr _ _ _ => cases fr <;> rfl
  | agg _ => cases h
  | _ => rfl
mutual
theorem V_deepen (N : NewD γ1 γ2) : ∀ (x : AV) (v : Value), freshA x = true → V γ1 w x v → V γ2 w (deepen x) v
  | .int _ _, _, _, h => h
  | .bool _, _, _, h => h
  | .str _, _, _, h => h
  | .nils, _, _, h => h
  | .nilp, _, _, h => h
  | .nilm, _, _, h => h
  | .nili, _, _, h => h
  | .nilf, _, _, h => h
  | .anyint _, _, _, h => h
  | .sl true nn z xs, v, hf, ⟨A, c, h1, h2, h3, h4, h5⟩ => by
    simp only [freshA, Bool.and_eq_true] at hf
    refine ⟨A, c, by rw [dL_len]; exact h1, by rw [dL_len]; exact h2, fun e => ?_, fun ad ha => Nat.le_trans N.B (h4 ad ha rfl), fun hne => ?_⟩
    · obtain ⟨e1, e2, e3⟩ := h3 e
      subst e1
      exact ⟨rfl, e2, e3⟩
    · have hx : xs ≠ [] := by intro e; subst e; exact hne rfl
      obtain ⟨g, o, e1, e2, e3⟩ := h5 hx
      have hB := h4 _ e1 rfl
      refine ⟨g, o, e1, by rw [dL_len]; exact Nat.le_trans e2 (N.st g hB), fun hz => N.F g hB ?_, VS_deepen N z xs g o hf.2 e3⟩
      have := Nat.mul_pos (List.length_pos_iff.2 hx) hz
      omega
  | .sl false _ _ _, _, hf, _ => by simp [freshA] at hf
  | .dsl nn z xs, v, hf, ⟨A, c, h1, h2, h3, h4, h5⟩ => by
    simp only [freshA] at hf
    refine ⟨A, c, by rw [dL_len]; exact h1, by rw [dL_len]; exact h2, fun e => ?_, fun ad ha => Nat.le_trans N.B (h4 ad ha), fun hne => ?_⟩
    · obtain ⟨e1, e2, e3⟩ := h3 e
      subst e1
      exact ⟨rfl, e2, e3⟩
    · have hx : xs ≠ [] := by intro e; subst e; exact hne rfl
      obtain ⟨g, o, e1, e2, _, e3⟩ := h5 hx
      have hB := h4 _ e1
      refine ⟨g, o, e1, by rw [dL_len]; exact Nat.le_trans e2 (N.st g hB), fun hz => N.F g hB ?_, VS_deepen N z xs g o hf e3⟩
      have := Nat.mul_pos (List.length_pos_iff.2 hx) hz
      omega
  | .agg cs, v, hf, ⟨vs, h1, h2⟩ => by
    simp only [freshA] at hf
    exact ⟨vs, h1, VL_deepen N cs vs hf h2⟩
  | .junk, _, hf, _ => by cases hf
  | .ref _ _, _, hf, _ => by cases hf
  | .mref _, _, hf, _ => by cases hf
  | .ifc _ _, _, hf, _ => by cases hf
  | .fn _ _, _, hf, _ => by cases hf
  | .pv _, _, hf, _ => by cases hf
  | .tup _, _, _, h => h.elim
  | .own _ _ _, _, _, h => h.elim
  | .box _, _, _, h => h.elim
  | .als _ _, _, _, h => h.elim
  | .adr _ _, _, _, h => h.elim
  | .obj _, _, _, h => h.elim
  | .ent _ _ _, _, _, h => h.elim
  | .mp _ _, _, _, h => h.elim
  | .mem _, _, _, h => h.elim
  | .nst _ _ _, _, _, h => h.elim
  | .npv _ _ _, _, _, h => h.elim
theorem VL_deepen (N : NewD γ1 γ2) : ∀ (xs : List AV) (vs : List Value), freshA.freshL xs = true → VL γ1 w xs vs → VL γ2 w (deepen.dL xs) vs
  | [], _, _, h => h
  | x :: xs, _, hf, ⟨v, r, e, h1, h2⟩ => by
    simp only [freshA.freshL, Bool.and_eq_true] at hf
    exact ⟨v, r, e, V_deepen N x v hf.1 h1, VL_deepen N xs r hf.2 h2⟩
theorem VC_deepen (N : NewD γ1 γ2) : ∀ (xs : List AV) (g o : Nat), freshA.freshL xs = true → VC γ1 w xs g o → VC γ2 w (deepen.dL xs) g o
  | [], _, _, _, _ => trivial
  | x :: xs, g, o, hf, ⟨⟨u, h1, h2⟩, h3⟩ => by
    simp only [freshA.freshL, Bool.and_eq_true] at hf
    exact ⟨⟨u, h1, V_deepen N x u hf.1 h2⟩, VC_deepen N xs g (o + 1) hf.2 h3⟩
theorem VS_deepen (N : NewD γ1 γ2) (z : Nat) : ∀ (xs : List AV) (g o : Nat), freshA.freshL xs = true → VS γ1 w z xs g o → VS γ2 w z (deepen.dL xs) g o
  | [], _, _, _, _ => trivial
  | x :: xs, g, o, hf, h => by
    simp only [freshA.freshL, Bool.and_eq_true] at hf
    have h1 := fun v => V_deepen N x v hf.1
    have h2 := VS_deepen N z xs g (o + z) hf.2
    rw [VS_cons] at h
    simp only [deepen.dL]
    rw [VS_cons]
    exact ⟨VE_map deepen_single (fun cs e => by subst e; exact ⟨_, rfl, dL_len cs⟩) h1 h.1, h2 h.2⟩
end
end

section
variable {P : Program} {T : List Nat} {w0 : World} {St0 : Nat → Nat} {γ : Gh} {σ : List AV} {a : Act} {w : World} {U : List Nat}

/-- The arguments, as they are now. -/
theorem rdArgs_sound (G : GoodAt T w0 St0 γ σ a w) : ∀ {xs : List Operand} {xs' : List Ar} {ys : List AV} {ws : Option (List Wr)}, cArs xs = some xs' → (rdArgs xs').run U σ = some (ys, ws) →
    (∃ γ1, γ1.ρ = γ.ρ ∧ (∀ g, w.heap.size ≤ g → γ1.St g = 0) ∧ (∀ g, γ.St g ≤ γ1.St g) ∧ γ1.B = γ.B ∧ γ1.F = γ.F ∧ VL γ1 w ys (xs.map a.eval)) ∧
    (ws = some [] → VL γ w ys (xs.map a.eval)) ∧
    (∀ us, ws = some us → ∃ γ', GoodAt T w0 St0 γ' (apps T us σ) a w ∧ Ext γ γ' w w ∧ γ'.ρ = γ.ρ ∧ VL γ' w ys (xs.map a.eval))
  | [], xs', ys, ws, hc, h => by
    simp only [cArs, mapOpt, Option.some.injEq] at hc
    subst hc
    have h := run_ret h
    simp only [Prod.mk.injEq] at h
    obtain ⟨rfl, rfl⟩ := h
    refine ⟨⟨γ, rfl, G.stnew, fun _ => Nat.le_refl _, rfl, rfl, rfl⟩, fun _ => rfl, fun us e => ?_⟩
    cases e
    exact ⟨γ, G, Ext.refl _ _, rfl, rfl⟩
  | x :: xs, xs', ys, ws, hc, h => by
    simp only [cArs, mapOpt] at hc
    cases h1 : cAr x with
    | none => simp [h1] at hc
    | some x' =>
      cases h2 : mapOpt cAr xs with
      | none => simp [h1, h2] at hc
      | some xs'' =>
        simp only [h1, h2, Option.some.injEq] at hc
        subst hc
        obtain ⟨⟨y, ws1⟩, h3, h4⟩ := run_bind h
        obtain ⟨⟨ys', us⟩, h5, h6⟩ := run_bind h4
        have h6 := run_ret h6
        simp only [Prod.mk.injEq] at h6
        obtain ⟨rfl, rfl⟩ := h6
        obtain ⟨⟨γ1, e1, e2, e3, eB, eF, e4⟩, hnil, hsome⟩ := rdArgs_sound G (xs := xs) h2 h5
        obtain ⟨γ2, G2, hone, hv⟩ := rdView_sound2 G (cAr_ok h1) h3
        have hρ2 : γ2.ρ = γ.ρ := by rcases hone with ⟨_, rfl⟩ | ⟨h, _⟩; rfl; exact h
        have hB2 : γ2.B = γ.B := by rcases hone with ⟨_, rfl⟩ | ⟨_, _, _, K, _⟩; rfl; exact K.B
        have hF2 : γ2.F = γ.F := by rcases hone with ⟨_, rfl⟩ | ⟨_, _, _, K, _⟩; rfl; exact K.F
        refine ⟨?_, ?_, fun vs hvs => ?_⟩
        · refine ⟨{ γ1 with St := fun g => max (γ1.St g) (γ2.St g) }, e1, fun g hg => ?_, fun g => Nat.le_trans (e3 g) (Nat.le_max_left _ _), eB, eF, _, _, rfl, ?_, ?_⟩
          · show max (γ1.St g) (γ2.St g) = 0
            rw [e2 g hg, G2.stnew g hg]
            rfl
          · exact V_mono ⟨fun _ _ _ => rfl, fun g => Nat.le_max_right _ _, by show γ1.B ≤ _; rw [eB, hB2]; exact Nat.le_refl _, fun i g h => by show γ1.ρ i = _; rw [e1, ← hρ2]; exact h, fun g h => by show γ1.F g; rw [eF, ← hF2]; exact h⟩ _ _ hv
          · have E : Ext γ1 { γ1 with St := fun g => max (γ1.St g) (γ2.St g) } w w := ⟨fun _ _ _ => rfl, fun g => Nat.le_max_left _ _, Nat.le_refl _, fun _ _ h => h, fun _ h => h⟩
            exact VL_mono E _ _ e4
        · intro e
          cases us with
          | none => cases e
          | some us =>
            rcases one_cases e with ⟨rfl, rfl⟩ | ⟨rfl, rfl⟩
            · exact ⟨_, _, rfl, rdView_nil G (cAr_ok h1) h3, hnil rfl⟩
            · exact ⟨_, _, rfl, rdView_nil G (cAr_ok h1) h3, hnil rfl⟩
        · cases us with
          | none => cases hvs
          | some us =>
            rcases one_cases hvs with ⟨rfl, rfl⟩ | ⟨rfl, rfl⟩
            · obtain ⟨γ', G', E, hρ, hl⟩ := hsome _ rfl
              exact ⟨γ', G', E, hρ, _, _, rfl, V_mono E _ _ (rdView_nil G (cAr_ok h1) h3), hl⟩
            · exact ⟨γ2, G2, hone.ext, hρ2, _, _, rfl, hv, VL_mono hone.ext _ _ (hnil rfl)⟩

/-- What comes of a function that is called. -/
def CallRes (P : Program) (R : Value → World → Prop) : Result Next → Prop
  | .ok (.value v) w' => R v w'
  | .ok (.enter f args) w' => Calls P f args w' fun
      | .returned v, w'' => R v w''
      | _, _ => False
  | _ => False
/-- A function's contract, at these arguments: what it answers; and nothing that was there is changed. -/
def FnOk (P : Program) (f : FuncId) (ys : List AV) (r : AV) : Prop :=
  ∀ (w : World) (args : List Value) (St : Nat → Nat), (∀ g, w.heap.size ≤ g → St g = 0) →
    VL ⟨w.heap.size, St, fun _ => none, fun _ => none, fun _ => False⟩ w ys args →
    CallRes P (fun v w' => refTo r = none ∧ ∃ T γ, GoodAt T w St γ [r, .mem []] ⟨#[v], []⟩ w') ((callFunc f args.toArray).run P w)

theorem CallRes.mono {R R' : Value → World → Prop} {r : Result Next} (h : CallRes P R r) (hr : ∀ v w', R v w' → R' v w') : CallRes P R' r := by
  cases r with
  | ok n w' =>
    cases n with
    | value v => exact hr v w' h
    | enter f args => exact Calls.mono h fun e w'' h => by cases e <;> first | exact hr _ _ h | exact h
    | _ => exact h.elim
  | halt x w' => exact h.elim
theorem wp_call {o : Oper} {c : Call} {f : FuncId} {d : Nat} (hop : o.op = .call c) (hc : c.callee = .value (.func f)) (hd : o.dst = some d) {R : Value → World → Prop} (h : CallRes P R ((callFunc f (c.args.map a.eval)).run P w))
    {next : Act → World → Prop} {Q : Exit → Act → World → Prop} (hn : ∀ v w', R v w' → next (a.put (some d) v) w') : o.wp P a w next Q := by
  unfold Oper.wp
  have he : (execOp a.eval o).run P w = (callFunc f (c.args.map a.eval)).run P w := by
    simp only [execOp, hop, resolve, hc, Sem.run_bind]
    simp [Act.eval, Deferred.ofValue, invoke]
  rw [he]
  cases hr : (callFunc f (c.args.map a.eval)).run P w with
  | ok n w' =>
    rw [hr] at h
    cases n with
    | value v => rw [Oper.upon_value, hd]; exact hn v w' h
    | enter f' args =>
      rw [Oper.upon_enter]
      exact Calls.mono h fun e w'' h => by
        cases e with
        | returned v => rw [hd]; exact hn v w'' h
        | panicked c => exact h.elim
        | outgrown => exact h.elim
    | _ => exact h.elim
  | halt x w' => rw [hr] at h; exact h.elim
end
end Go.Ev

/-! text E29 -/
set_option linter.unusedVariables false
set_option linter.unusedSimpArgs false
namespace Go.Ev
open Go.RowKit

section
variable {P : Program} {T : List Nat} {w0 : World} {St0 : Nat → Nat} {γ : Gh} {σ : List AV} {a : Act} {w : World} {U : List Nat}

/-- The caller's ghosts behind a call: old blocks as before, the new ones by 'St' and 'O'. -/
def after (γ : Gh) (w : World) (St : Nat → Nat) (O : Nat → Option ((Nat × Nat) × Bool)) : Gh :=
  { γ with St := fun g => if g < w.heap.size then γ.St g else St g, O := fun g => if g < w.heap.size then γ.O g else O g }
theorem after_old {γ : Gh} {w : World} {St O} {g : Nat} (h : g < w.heap.size) : (after γ w St O).St g = γ.St g ∧ (after γ w St O).O g = γ.O g := by
  simp only [after, if_pos h, and_self]
theorem after_new {γ : Gh} {w : World} {St O} {g : Nat} (h : w.heap.size ≤ g) : (after γ w St O).St g = St g ∧ (after γ w St O).O g = O g := by
  have : ¬ g < w.heap.size := by omega
  simp only [after, if_neg this, and_self]

theorem keep_call (G : GoodAt T w0 St0 γ σ a w) {T' : List Nat} {Stc : Nat → Nat} {γc : Gh} {σc : List AV} {ac : Act} {w' : World} (C : GoodAt T' w Stc γc σc ac w') {d : Nat} {St : Nat → Nat} {O : Nat → Option ((Nat × Nat) × Bool)}
    (hO : ∀ g k, w.heap.size ≤ g → O g = some k → g < w'.heap.size) (hSt : ∀ g, w'.heap.size ≤ g → St g = 0) (hn : ∀ g k, w.heap.size ≤ g → O g = some (k, true) → St g = 0) :
    Keep γ (after γ w St O) w w' (Of d) := by
  have hB := G.bsize
  have hBc := C.hB
  have hblk : ∀ k, k < w.heap.size → w'.heap[k]? = w.heap[k]? := fun k hk => C.frm.block k (by omega) (C.fn k)
  have hsz := C.frm.size
  refine ⟨⟨fun g o ho => ?_, fun g => ?_, Nat.le_refl _, fun _ _ h => h, fun _ h => h⟩, rfl, rfl, ⟨C.frm.os, C.frm.tape, C.frm.output, hsz, fun k hk _ => hblk k (by omega)⟩, fun g hg _ => ?_, fun g k b h _ => ?_, fun g k h => ?_, fun i g h => ?_, fun g hg => ?_, fun hu g cs e lo hi hg hh => ?_, fun g k h => ?_⟩
  · rcases Nat.lt_or_ge g w.heap.size with h | h
    · exact cellAt_of_heap (hblk g h) o
    · rw [G.stnew g h] at ho; omega
  · rcases Nat.lt_or_ge g w.heap.size with h | h
    · rw [(after_old h).1]; exact Nat.le_refl _
    · rw [G.stnew g h]; exact Nat.zero_le _
  · exact (after_old (by omega)).1
  · have hlt := (G.own g _ h).2
    exact ⟨by rw [(after_old hlt).2]; exact h, hblk g hlt, (after_old hlt).1⟩
  · rcases Nat.lt_or_ge g w.heap.size with h' | h'
    · rw [(after_old h').2] at h
      have := G.own g k h
      exact ⟨this.1, by omega⟩
    · rw [(after_new h').2] at h
      exact ⟨.inl (by omega), hO g k h' h⟩
  · exact G.rho i g h
  · rw [(after_new (by omega)).1]
    exact hSt g hg
  · rcases Nat.lt_or_ge g w.heap.size with h' | h'
    · rw [hblk g h'] at hh
      exact hu g cs e lo hi hg hh
    · exact C.unf g cs e lo hi (by omega) hh
  · rcases Nat.lt_or_ge g w.heap.size with h' | h'
    · rw [(after_old h').2] at h
      rw [(after_old h').1]
      exact G.nest g k h
    · rw [(after_new h').2] at h
      rw [(after_new h').1]
      exact ⟨hn g k h' h, by show γ.B ≤ g; omega⟩

/-- Keys of the answer are the caller's slot's. -/
def rek (d : Nat) (O : Nat → Option ((Nat × Nat) × Bool)) (g : Nat) : Option ((Nat × Nat) × Bool) :=
  match O g with
  | some ((_, j), b) => some ((d, j), b)
  | none => none
theorem rek_some {d : Nat} {O : Nat → Option ((Nat × Nat) × Bool)} {g s j : Nat} {b : Bool} (h : O g = some ((s, j), b)) : rek d O g = some ((d, j), b) := by
  simp only [rek, h]
theorem rek_of {d : Nat} {O : Nat → Option ((Nat × Nat) × Bool)} {g : Nat} {k : Key} {b : Bool} (h : rek d O g = some (k, b)) : ∃ s, O g = some ((s, k.2), b) ∧ k.1 = d := by
  simp only [rek] at h
  cases h' : O g with
  | none => rw [h'] at h; cases h
  | some p =>
    obtain ⟨⟨s, j⟩, b'⟩ := p
    rw [h'] at h
    simp only [Option.some.injEq, Prod.mk.injEq] at h
    obtain ⟨rfl, rfl⟩ := h
    exact ⟨s, rfl, rfl⟩

/-- A value with rights of its own, if whatever it says goes over. -/
theorem own_over {γc γ2 : Gh} {w' : World} {s j d : Nat} {f : Bool} {z : Nat} {xs xs2 : List AV} {v : Value} (hl : xs2.length = xs.length) (h : Own γc w' (s, j) f z xs v) (hB : γ2.B ≤ γc.B)
    (hO : ∀ g, γc.B ≤ g → γc.O g = some ((s, j), false) → γ2.O g = some ((d, j), false) ∧ γ2.St g = γc.St g)
    (hT : f = true → ∀ M g o, γc.B ≤ g → γc.O g = some ((s, j), false) → VS (lift γc (s, j) M) w' z xs g o → ∃ M, VS (lift γ2 (d, j) M) w' z xs2 g o) (hF : f = false → ∀ g o, γc.B ≤ g → VS γc w' z xs g o → VS γ2 w' z xs2 g o) : Own γ2 w' (d, j) f z xs2 v := by
  rcases h with ⟨h1, h2⟩ | ⟨g, o, c, cs, h1, h2, h3, h4, h5, h6, h7⟩
  · subst h2
    exact .inl ⟨h1, List.eq_nil_of_length_eq_zero (by simpa using hl)⟩
  · obtain ⟨e1, e2⟩ := hO g h3 h4
    refine .inr ⟨g, o, c, cs, by rw [hl]; exact h1, by rw [hl]; exact h2, Nat.le_trans hB h3, e1, h5, h6, ?_⟩
    cases f with
    | true =>
      simp only [if_true] at h7 ⊢
      obtain ⟨h7, M, h8⟩ := h7
      exact ⟨by rw [e2]; exact h7, hT rfl M g o h3 h4 h8⟩
    | false =>
      simp only [Bool.false_eq_true, if_false] at h7 ⊢
      exact ⟨by rw [e2, hl]; exact h7.1, hF rfl g o h3 h7.2⟩

/-- The answer of a call, if the arguments are held: it may lead anywhere. -/
theorem res_any (G : GoodAt T w0 St0 γ σ a w) {T' : List Nat} {γc : Gh} {r : AV} {v : Value} {w' : World} (C : GoodAt T' w γ.St γc [r, .mem []] ⟨#[v], []⟩ w') {d : Nat} (tmps : Array Value) (hr : refTo r = none) :
    R2 (after γ w γc.St (rek d γc.O)) w' tmps d r v := by
  have hr2 : R2 γc w' #[v] 0 r v := C.slots 0 r v rfl rfl
  have hBc := C.hB
  have hB := G.bsize
  have E : Ext γc (after γ w γc.St (rek d γc.O)) w' w' := by
    refine ⟨fun _ _ _ => rfl, fun g => ?_, by show γ.B ≤ γc.B; omega, fun i g h => absurd h (C.rho i g), fun g h => absurd h (C.fn g)⟩
    rcases Nat.lt_or_ge g w.heap.size with h | h
    · rw [(after_old h).1, C.st0 g (by omega) (C.fn g)]
      exact Nat.le_refl _
    · rw [(after_new h).1]
      exact Nat.le_refl _
  have hO : ∀ (j : Nat) (b : Bool) g, γc.O g = some ((0, j), b) → (after γ w γc.St (rek d γc.O)).O g = some ((d, j), b) ∧ (after γ w γc.St (rek d γc.O)).St g = γc.St g := by
    intro j b g h
    have hg : w.heap.size ≤ g := by
      rcases (C.own g _ h).1 with h' | h'
      · omega
      · exact absurd h' (C.fn g)
    exact ⟨by rw [(after_new hg).2]; exact rek_some h, (after_new hg).1⟩
  have EL : ∀ (j M : Nat), Ext (lift γc (0, j) M) (lift (after γ w γc.St (rek d γc.O)) (d, j) M) w' w' := by
    intro j M
    refine ⟨fun _ _ _ => rfl, fun g => ?_, E.B, E.ρ, fun g h => h.elim (fun h => absurd h (C.fn g)) (fun h => .inr (hO j true g h).1)⟩
    rw [lift_St, lift_St]
    by_cases h : γc.O g = some ((0, j), true)
    · rw [if_pos h, if_pos (hO j true g h).1, (hO j true g h).2]
      exact Nat.le_refl _
    · rw [if_neg h]
      exact Nat.le_trans (E.st g) le_if
  have one : ∀ (j : Nat) (x : AV) (u : Value), R1 γc w' (0, j) x u → R1 (after γ w γc.St (rek d γc.O)) w' (d, j) x u := by
    intro j x u h
    cases x with
    | own f z xs => exact own_over rfl h E.B (fun g _ h => hO j false g h) (fun _ M g o _ _ hv => ⟨M, VS_mono (EL j M) _ _ _ _ (fun _ _ _ => rfl) hv⟩) (fun _ g o _ hv => VS_mono E _ _ _ _ (fun _ _ _ => rfl) hv)
    | _ => exact V_mono E _ _ h
  cases r with
  | box xs =>
    obtain ⟨g, cs, h1, h2, h3, h4, h5, h6, h7⟩ := hr2
    obtain ⟨e1, e2⟩ := hO 0 false g h3
    exact ⟨g, cs, h1, Nat.le_trans E.B h2, e1, h4, h5, by rw [e2]; exact h6, fun j x hx => by
      obtain ⟨u, hu, hr⟩ := h7 j x hx
      exact ⟨u, hu, one _ _ _ hr⟩⟩
  | tup vs =>
    obtain ⟨us, h1, h2, h3⟩ := hr2
    exact ⟨us, h1, h2, fun j x hx => by
      obtain ⟨u, hu, hr⟩ := h3 j x hx
      exact ⟨u, hu, one _ _ _ hr⟩⟩
  | als _ _ => simp [refTo] at hr
  | adr _ _ => simp [refTo] at hr
  | nst _ _ _ => simp [refTo] at hr
  | npv _ _ _ => simp [refTo] at hr
  | own f z xs => exact one 0 (.own f z xs) v hr2
  | _ => exact V_mono E _ _ hr2

theorem res_fresh (G : GoodAt T w0 St0 γ σ a w) {T' : List Nat} {Stc : Nat → Nat} {γc : Gh} {r : AV} {v : Value} {w' : World} (C : GoodAt T' w Stc γc [r, .mem []] ⟨#[v], []⟩ w') {d : Nat} (tmps : Array Value) (hf : freshA r = true) :
    R2 (after γ w γc.St (rek d γc.O)) w' tmps d r v := by
  have hr2 : R2 γc w' #[v] 0 r v := C.slots 0 r v rfl rfl
  have hBc := C.hB
  have hB := G.bsize
  have N : New γc (after γ w γc.St (rek d γc.O)) := ⟨by show γ.B ≤ γc.B; omega, fun g h => by rw [(after_new (by omega)).1]; exact Nat.le_refl _, fun g h => absurd h (C.fn g)⟩
  have hO : ∀ (j : Nat) (b : Bool) g, γc.O g = some ((0, j), b) → (after γ w γc.St (rek d γc.O)).O g = some ((d, j), b) ∧ (after γ w γc.St (rek d γc.O)).St g = γc.St g := by
    intro j b g h
    have hg : w.heap.size ≤ g := by
      rcases (C.own g _ h).1 with h' | h'
      · omega
      · exact absurd h' (C.fn g)
    exact ⟨by rw [(after_new hg).2]; exact rek_some h, (after_new hg).1⟩
  have NL : ∀ (j M : Nat), New (lift γc (0, j) M) (lift (after γ w γc.St (rek d γc.O)) (d, j) M) := by
    intro j M
    refine ⟨N.B, fun g hg => ?_, fun g h => h.elim (fun h => absurd h (C.fn g)) (fun h => .inr (hO j true g h).1)⟩
    rw [lift_St, lift_St]
    by_cases h : γc.O g = some ((0, j), true)
    · rw [if_pos h, if_pos (hO j true g h).1, (hO j true g h).2]
      exact Nat.le_refl _
    · rw [if_neg h]
      exact Nat.le_trans (N.st g hg) le_if
  have one : ∀ (j : Nat) (x : AV) (u : Value), freshA x = true → R1 γc w' (0, j) x u → R1 (after γ w γc.St (rek d γc.O)) w' (d, j) x u := by
    intro j x u hfx h
    cases x with
    | own f z xs =>
      simp only [freshA] at hfx
      exact own_over rfl h N.B (fun g _ h => hO j false g h) (fun _ M g o _ _ hv => ⟨M, VS_fresh (NL j M) _ _ _ _ hfx hv⟩) (fun _ g o _ hv => VS_fresh N _ _ _ _ hfx hv)
    | _ => exact V_fresh N _ _ hfx h
  cases r with
  | tup vs =>
    obtain ⟨us, h1, h2, h3⟩ := hr2
    simp only [freshA] at hf
    have hall : ∀ (vs : List AV), freshA.freshL vs = true → ∀ (j : Nat) (x : AV), vs[j]? = some x → freshA x = true := by
      intro vs
      induction vs with
      | nil => intro _ j x h; simp at h
      | cons y ys ih =>
        intro hf j x h
        simp only [freshA.freshL, Bool.and_eq_true] at hf
        cases j with
        | zero => simp at h; subst h; exact hf.1
        | succ j => exact ih hf.2 j x (by simpa using h)
    exact ⟨us, h1, h2, fun j x hx => by
      obtain ⟨u, hu, hr⟩ := h3 j x hx
      exact ⟨u, hu, one _ _ _ (hall vs hf j x hx) hr⟩⟩
  | box _ => cases hf
  | als _ _ => cases hf
  | adr _ _ => cases hf
  | nst _ _ _ => cases hf
  | npv _ _ _ => cases hf
  | own f z xs => exact one 0 (.own f z xs) v hf hr2
  | _ => exact V_fresh N _ _ hf hr2

/-- New memory becomes slot d's: rows whose cells may be written, and all else. -/
def deepO (d jj n : Nat) (γc : Gh) (g : Nat) : Option ((Nat × Nat) × Bool) :=
  match γc.O g with
  | some ((0, j), false) => if γc.St g = 0 then some ((d, j), false) else if g < n then some ((d, jj), true) else none
  | _ => if g < n then some ((d, jj), true) else none
theorem deepO_row {d jj n : Nat} {γc : Gh} {g j : Nat} (h : γc.O g = some ((0, j), false)) (hs : γc.St g = 0) : deepO d jj n γc g = some ((d, j), false) := by
  simp only [deepO, h, if_pos hs]
theorem deepO_cases {d jj n : Nat} {γc : Gh} {g : Nat} (hg : g < n) : ((∃ j, γc.O g = some ((0, j), false)) ∧ γc.St g = 0) ∨ deepO d jj n γc g = some ((d, jj), true) := by
  unfold deepO
  split
  · rename_i j h
    by_cases hs : γc.St g = 0
    · exact .inl ⟨⟨j, h⟩, hs⟩
    · rw [if_neg hs, if_pos hg]; exact .inr rfl
  · rw [if_pos hg]; exact .inr rfl
theorem deepO_lt {d jj n : Nat} {γc : Gh} {g : Nat} {k : Key × Bool} (h : deepO d jj n γc g = some k) (hown : ∀ q, γc.O g = some q → g < n) : g < n := by
  unfold deepO at h
  split at h
  · rename_i j he; exact hown _ he
  · split at h
    · assumption
    · cases h
theorem bound (f : Nat → Nat) : ∀ n, ∃ M, ∀ g, g < n → f g ≤ M
  | 0 => ⟨0, fun g h => by omega⟩
  | n + 1 => by
    obtain ⟨M, h⟩ := bound f n
    exact ⟨max M (f n), fun g hg => by
      rcases Nat.lt_or_ge g n with h' | h'
      · have := h g h'; omega
      · have : g = n := by omega
        subst this; omega⟩

theorem res_deep (G : GoodAt T w0 St0 γ σ a w) {T' : List Nat} {Stc : Nat → Nat} {γc : Gh} {σc : List AV} {ac : Act} {w' : World} (C : GoodAt T' w Stc γc σc ac w') {d jj : Nat} {z : Nat} {xs : List AV} {v : Value} (hf : freshA.freshL xs = true)
    (h : Own γc w' (0, jj) true z xs v) : Own (after γ w (fun _ => 0) (deepO d jj w'.heap.size γc)) w' (d, jj) true z (deepen.dL xs) v := by
  have hBc := C.hB
  have hB := G.bsize
  have hnew : ∀ g q, γc.O g = some q → w.heap.size ≤ g := fun g q h => by
    rcases (C.own g _ h).1 with h' | h'
    · omega
    · exact absurd h' (C.fn g)
  have hlen := dL_len xs
  rcases h with ⟨h1, h2⟩ | ⟨g, o, c, cs, h1, h2, h3, h4, h5, h6, h7⟩
  · subst h2
    exact .inl ⟨h1, rfl⟩
  · simp only [if_true] at h7
    obtain ⟨h7, M, h8⟩ := h7
    have hg := hnew g _ h4
    obtain ⟨M2, hM⟩ := bound (lift γc (0, jj) M).St w'.heap.size
    refine .inr ⟨g, o, c, cs, by rw [hlen]; exact h1, by rw [hlen]; exact h2, by show γ.B ≤ g; omega, by rw [(after_new hg).2]; exact deepO_row h4 h7, h5, h6, ?_⟩
    simp only [if_true]
    refine ⟨(after_new hg).1, M2, VS_deepen (γ1 := lift γc (0, jj) M) ⟨by show γ.B ≤ γc.B; omega, fun g' hg' => ?_, fun g' hg' hpos => ?_⟩ _ _ _ _ hf h8⟩
    · have hg2 : w.heap.size ≤ g' := by have : γc.B ≤ g' := hg'; omega
      rcases Nat.lt_or_ge g' w'.heap.size with hlt | hge
      · rcases deepO_cases (d := d) (jj := jj) (γc := γc) hlt with ⟨⟨j, e1⟩, e2⟩ | e
        · rw [lift_St, if_neg (by rw [e1]; intro e; cases e), e2]
          exact Nat.zero_le _
        · rw [lift_St (after γ w (fun _ => 0) (deepO d jj w'.heap.size γc)), if_pos (by rw [(after_new hg2).2]; exact e)]
          exact Nat.le_trans (hM g' hlt) (Nat.le_max_left _ _)
      · have : (lift γc (0, jj) M).St g' = 0 := by
          rw [lift_St, if_neg (fun e => by have := (C.own g' _ e).2; omega), C.stnew g' hge]
        rw [this]
        exact Nat.zero_le _
    · have hg2 : w.heap.size ≤ g' := by have : γc.B ≤ g' := hg'; omega
      refine .inr ?_
      rcases Nat.lt_or_ge g' w'.heap.size with hlt | hge
      · rcases deepO_cases (d := d) (jj := jj) (γc := γc) hlt with ⟨⟨j, e1⟩, e2⟩ | e
        · rw [lift_St, if_neg (by rw [e1]; intro e; cases e), e2] at hpos
          omega
        · rw [(after_new hg2).2]; exact e
      · rw [lift_St, if_neg (fun e => by have := (C.own g' _ e).2; omega), C.stnew g' hge] at hpos
        omega
/-- A row of numbers, bools, texts. -/
theorem res_flat (G : GoodAt T w0 St0 γ σ a w) {T' : List Nat} {Stc : Nat → Nat} {γc : Gh} {σc : List AV} {ac : Act} {w' : World} (C : GoodAt T' w Stc γc σc ac w') {d j jj : Nat} {x : AV} {v : Value} (hf : flatR x = true)
    (h : R1 γc w' (0, j) x v) : R1 (after γ w (fun _ => 0) (deepO d jj w'.heap.size γc)) w' (d, j) x v := by
  have hBc := C.hB
  have hB := G.bsize
  have hnew : ∀ g q, γc.O g = some q → w.heap.size ≤ g := fun g q h => by
    rcases (C.own g _ h).1 with h' | h'
    · omega
    · exact absurd h' (C.fn g)
  have plain : flat x = true → R1 (after γ w (fun _ => 0) (deepO d jj w'.heap.size γc)) w' (d, j) x v := by
    intro hx
    cases x with
    | own _ _ _ => cases hx
    | _ => exact flat_V (γ := γc) (w := w') hx h
  cases x with
  | own f z xs =>
    cases f with
    | false => cases hf
    | true =>
      simp only [flatR] at hf
      rcases h with ⟨h1, h2⟩ | ⟨g, o, c, cs, h1, h2, h3, h4, h5, h6, h7⟩
      · exact .inl ⟨h1, h2⟩
      · simp only [if_true] at h7
        obtain ⟨h7, M, h8⟩ := h7
        have hg := hnew g _ h4
        refine .inr ⟨g, o, c, cs, h1, h2, by show γ.B ≤ g; omega, by rw [(after_new hg).2]; exact deepO_row h4 h7, h5, h6, ?_⟩
        simp only [if_true]
        refine ⟨(after_new hg).1, 0, VS_mk fun i x hx => ?_⟩
        exact VE_map id (fun cs e => ⟨cs, e, rfl⟩) (fun u hu => flat_V (List.all_eq_true.1 hf x (List.mem_of_getElem? hx)) hu) (VS_get h8 i x hx)
  | _ => exact plain hf

theorem freshL_get : ∀ {vs : List AV}, freshA.freshL vs = true → ∀ (j : Nat) (x : AV), vs[j]? = some x → freshA x = true
  | [], _, j, x, h => by simp at h
  | y :: ys, hf, j, x, h => by
    simp only [freshA.freshL, Bool.and_eq_true] at hf
    cases j with
    | zero => simp at h; subst h; exact hf.1
    | succ j => exact freshL_get hf.2 j x (by simpa using h)
/-- Of a tuple one part at most is told to hold all that is new. -/
theorem deepT_cases : ∀ (vs : List AV), deepT vs = vs ∨ ∃ jj z xs, vs[jj]? = some (.own true z xs) ∧ deepT vs = vs.set jj (.own true z (deepen.dL xs)) ∧ ∀ j x, j ≠ jj → vs[j]? = some x → flatR x = true
  | [] => .inl rfl
  | x :: r => by
    simp only [deepT]
    by_cases hx : flatR x = true
    · rw [if_pos hx]
      rcases deepT_cases r with h | ⟨jj, z, xs, h1, h2, h3⟩
      · exact .inl (by rw [h])
      · refine .inr ⟨jj + 1, z, xs, h1, by rw [h2]; rfl, fun j y hj hy => ?_⟩
        cases j with
        | zero => simp at hy; subst hy; exact hx
        | succ j => exact h3 j y (by omega) (by simpa using hy)
    · rw [if_neg hx]
      split
      · rename_i z xs
        by_cases hr : r.all flatR = true
        · rw [if_pos hr]
          refine .inr ⟨0, z, xs, rfl, rfl, fun j y hj hy => ?_⟩
          cases j with
          | zero => exact absurd rfl hj
          | succ j => exact List.all_eq_true.1 hr y (List.mem_of_getElem? (by simpa using hy))
        · rw [if_neg hr]; exact .inl rfl
      · exact .inl rfl
theorem deepR_cases (r : AV) : deepR r = r ∨ (∃ z xs, r = .own true z xs ∧ deepR r = .own true z (deepen.dL xs)) ∨
    ∃ vs jj z xs, r = .tup vs ∧ vs[jj]? = some (.own true z xs) ∧ deepR r = .tup (vs.set jj (.own true z (deepen.dL xs))) ∧ ∀ j x, j ≠ jj → vs[j]? = some x → flatR x = true := by
  cases r with
  | own f z xs =>
    cases f with
    | true => exact .inr (.inl ⟨z, xs, rfl, rfl⟩)
    | false => exact .inl rfl
  | tup vs =>
    rcases deepT_cases vs with h | ⟨jj, z, xs, h1, h2, h3⟩
    · exact .inl (by simp only [deepR, h])
    · exact .inr (.inr ⟨vs, jj, z, xs, rfl, h1, by simp only [deepR, h2], h3⟩)
  | _ => exact .inl rfl

/-- What a function that was called answers, where all of it is new: for slot d. -/
theorem res_new (G : GoodAt T w0 St0 γ σ a w) {T' : List Nat} {Stc : Nat → Nat} {γc : Gh} {r : AV} {v : Value} {w' : World} (C : GoodAt T' w Stc γc [r, .mem []] ⟨#[v], []⟩ w') {d : Nat} (tmps : Array Value) (hf : freshA r = true) :
    ∃ St O, (∀ g k, w.heap.size ≤ g → O g = some k → g < w'.heap.size) ∧ (∀ g, w'.heap.size ≤ g → St g = 0) ∧ (∀ g k, w.heap.size ≤ g → O g = some (k, true) → St g = 0) ∧ R2 (after γ w St O) w' tmps d (deepR r) v := by
  have hr2 : R2 γc w' #[v] 0 r v := C.slots 0 r v rfl rfl
  have hlt : ∀ g q, γc.O g = some q → g < w'.heap.size := fun g q h => (C.own g q h).2
  have hd : ∀ jj, (∀ g k, w.heap.size ≤ g → deepO d jj w'.heap.size γc g = some k → g < w'.heap.size) ∧ (∀ g, w'.heap.size ≤ g → (fun _ : Nat => 0) g = 0) ∧ (∀ g k, w.heap.size ≤ g → deepO d jj w'.heap.size γc g = some (k, true) → (fun _ : Nat => 0) g = 0) :=
    fun jj => ⟨fun g k _ h => deepO_lt h (hlt g), fun _ _ => rfl, fun _ _ _ _ => rfl⟩
  rcases deepR_cases r with e | ⟨z, xs, rfl, e⟩ | ⟨vs, jj, z, xs, rfl, h1, e, h3⟩
  · rw [e]
    refine ⟨γc.St, rek d γc.O, fun g k _ h => ?_, C.stnew, fun g k hg h => ?_, res_fresh G C tmps hf⟩
    · obtain ⟨s, h', _⟩ := rek_of (k := k.1) (b := k.2) h
      exact hlt g _ h'
    · obtain ⟨s, h', _⟩ := rek_of h
      exact (C.nest g _ h').1
  · rw [e]
    simp only [freshA] at hf
    exact ⟨fun _ => 0, deepO d 0 w'.heap.size γc, (hd 0).1, (hd 0).2.1, (hd 0).2.2, R2.of_R1 (x := .own true z (deepen.dL xs)) (res_deep G C hf hr2)⟩
  · rw [e]
    simp only [freshA] at hf
    obtain ⟨us, f1, f2, f3⟩ := hr2
    have hjl := (List.getElem?_eq_some_iff.1 h1).1
    refine ⟨fun _ => 0, deepO d (jj + 1) w'.heap.size γc, (hd (jj + 1)).1, (hd (jj + 1)).2.1, (hd (jj + 1)).2.2, us, f1, by rw [List.length_set]; exact f2, fun j x hx => ?_⟩
    by_cases hj : j = jj
    · subst hj
      rw [List.getElem?_set_self hjl] at hx
      cases hx
      obtain ⟨u, hu, hr⟩ := f3 j _ h1
      exact ⟨u, hu, res_deep G C (by have := freshL_get hf j _ h1; simpa only [freshA] using this) hr⟩
    · rw [List.getElem?_set_ne (fun e => hj e.symm)] at hx
      obtain ⟨u, hu, hr⟩ := f3 j x hx
      exact ⟨u, hu, res_flat G C (h3 j x hj hx) hr⟩
theorem deepR_ref (r : AV) (h : freshA r = true) : refTo (deepR r) = none := by
  cases r with
  | own f z xs => cases f <;> rfl
  | als _ _ => cases h
  | adr _ _ => cases h
  | nst _ _ _ => cases h
  | npv _ _ _ => cases h
  | _ => rfl

/-- A call of a function of which the contract is known. -/
theorem call_sound {E : Fns} {n : Nat} (HE : ∀ f ys r, E f ys [] = some (r, []) → FnOk P f ys r) : CallSound P T E n := by
  intro o c f xs' hop hc hargs d hd w0 St0 γ σ a w U ws G h hok Q
  obtain ⟨⟨ys, us⟩, h1, h⟩ := run_bind h
  dsimp only at h
  obtain ⟨⟨γ1, e1, e2, _, e3, e4, hv1⟩, _, hsome⟩ := rdArgs_sound G hargs h1
  cases hE : E f (stale.sL ys) [] with
  | none => rw [hE] at h; exact (run_fail h).elim
  | some p =>
    obtain ⟨r, os⟩ := p
    rw [hE] at h
    cases os with
    | cons _ _ => exact (run_fail h).elim
    | nil =>
      have hfn := HE f _ r hE
      have hm : (c.args.toList.map a.eval).toArray = c.args.map a.eval := by rw [← Array.toList_map, Array.toArray_toList]
      rcases run_ite h with ⟨hf, h⟩ | ⟨hf, h⟩
      · have h := run_ret h
        subst h
        simp only [List.all_cons, List.all_nil, Wr.ok, Bool.and_true, Bool.and_eq_true, decide_eq_true_eq] at hok
        have hres := hfn w (c.args.toList.map a.eval) γ1.St e2 (VL_stale (γ1 := γ1) (γ2 := ⟨w.heap.size, γ1.St, fun _ => none, fun _ => none, fun _ => False⟩) (fun _ => Nat.le_refl _) (fun i g h => absurd (by rw [e1] at h; exact h) (fun h => G.rho i g h)) _ _ hv1)
        rw [hm] at hres
        refine wp_call hop hc hd hres ?_
        rintro v w' ⟨hrf, T', γc, C⟩
        obtain ⟨St, O, q1, q2, q3, q4⟩ := res_new G C (d := d) (a.put (some d) v).tmps hf
        exact ⟨size_put _ _ _, _, GoodAt.set G (keep_call G C q1 q2 q3) hok.1 q4 (fun t ht => by rw [deepR_ref r hf] at ht; cases ht)⟩
      · obtain ⟨vs, h2, h3⟩ := run_bind h
        have h3 := run_ret h3
        subst h3
        simp only [List.all_append, List.all_cons, List.all_nil, Wr.ok, Bool.and_true, Bool.and_eq_true, decide_eq_true_eq] at hok
        obtain ⟨γ', G', E', hρ, hv2⟩ := hsome vs (run_opt h2)
        have hres := hfn w (c.args.toList.map a.eval) γ'.St G'.stnew (VL_stale (γ1 := γ') (γ2 := ⟨w.heap.size, γ'.St, fun _ => none, fun _ => none, fun _ => False⟩) (fun _ => Nat.le_refl _) (fun i g h => absurd h (fun h => G'.rho i g h)) _ _ hv2)
        rw [hm] at hres
        refine wp_call hop hc hd hres ?_
        rintro v w' ⟨hrf, T', γc, C⟩
        have q4 := res_any G' C (d := d) (a.put (some d) v).tmps hrf
        rw [apps_append]
        refine ⟨size_put _ _ _, _, GoodAt.set G' (keep_call G' C (fun g k _ h => ?_) C.stnew (fun g k hg h => ?_)) hok.2.1 q4 (fun t ht => by rw [hrf] at ht; cases ht)⟩
        · obtain ⟨s, h', _⟩ := rek_of (k := k.1) (b := k.2) h
          exact (C.own g _ h').2
        · obtain ⟨s, h', _⟩ := rek_of h
          exact (C.nest g _ h').1
end
end Go.Ev

/-! text E30 -/
set_option linter.unusedVariables false
set_option linter.unusedSimpArgs false
namespace Go.Ev
open Go.RowKit

section
variable {P : Program} {T : List Nat} {E : Fns} {w0 : World} {St0 : Nat → Nat} {γ : Gh} {σ : List AV} {a : Act} {w : World} {U : List Nat}

theorem GoodAt.good (n : Nat) (G : GoodAt T w0 St0 γ σ a w) (h : a.tmps.size = n) : Post T w0 St0 n σ a w := ⟨h, γ, G⟩

/-! ### One operation of a region -/
theorem cO1_parts {ops : Array Oper} {o : Oper} {p : O1} (h : cO1 P ops o = some p) : p.d = o.dst ∧ cOp P o = some p.i ∧
    (match o.guard with
      | none => p.g = none
      | some (j, b) => ∃ t, (ops[j]?).bind (·.dst) = some t ∧ p.g = some (t, b)) ∧ p.after = (o.after.toList.filter (Region.binds .any)).map (·.on) := by
  unfold cO1 at h
  split at h
  · rename_i i g hi hg
    cases h
    refine ⟨rfl, hi, ?_, rfl⟩
    cases hgd : o.guard with
    | none => rw [hgd] at hg; simpa using hg.symm
    | some q =>
      obtain ⟨j, b⟩ := q
      rw [hgd] at hg
      cases ht : (ops[j]?).bind (·.dst) with
      | none => simp [ht] at hg
      | some t => simp [ht] at hg; exact ⟨t, ht, hg.symm⟩
  · cases h

/-- A slot is told to hold nothing. -/
theorem set_undef (G : GoodAt T w0 St0 γ σ a w) {d : Nat} (hd : d < a.tmps.size) : GoodAt T w0 St0 γ ((Wr.set d (.tup [])).app T σ) (a.put (some d) undef) w :=
  GoodAt.set G (keep_refl G _) hd ⟨#[], rfl, rfl, fun j x h => by simp at h⟩ (fun t ht => by simp [refTo] at ht)

/-- Whether it is wanted, by what its guard's slot says. -/
theorem wanted_of (G : GoodAt T w0 St0 γ σ a w) {ops : Array Oper} {o : Oper} {j t : Nat} {b : Bool} (hg : o.guard = some (j, b)) (ht : (ops[j]?).bind (·.dst) = some t) :
    (∀ c, σ[t]? = some (.bool c) → Region.wanted o (yielded ops a.tmps) = (c == b)) ∧ (σ[t]? = some (.tup []) → Region.wanted o (yielded ops a.tmps) = false) := by
  have hw : Region.wanted o (yielded ops a.tmps) = (yielded ops a.tmps j == some b) := by simp [Region.wanted, hg]
  refine ⟨fun c hc => ?_, fun hc => ?_⟩
  · obtain ⟨v, hv, hr⟩ := get_tmp G hc (by simp)
    have hr : v = .bool c := hr
    subst hr
    rw [hw]
    simp only [yielded, ht, Option.bind_some, hv]
    cases c <;> cases b <;> rfl
  · obtain ⟨v, hv, us, e1, e2, _⟩ := get_tmp G hc (by simp)
    subst e1
    rw [hw]
    simp only [yielded, ht, Option.bind_some, hv]
    rfl

/-- The slots are as many as the function has. -/
theorem stepO_sound {n : Nat} (hE : CallSound P T E n) {ops : Array Oper} {o : Oper} {p : O1} (hp : cO1 P ops o = some p) (G : GoodAt T w0 St0 γ σ a w) (hn : a.tmps.size = n) (hdn : ∀ d, o.dst = some d → d < n) {σ' : List AV} (h : stepO E T n p σ = some σ') {K : Act → World → Prop} {Q : Exit → Act → World → Prop}
    (hK : ∀ a' w', Post T w0 St0 n σ' a' w' → K a' w') : if Region.wanted o (yielded ops a.tmps) then o.wp P a w K Q else K (a.put o.dst undef) w := by
  obtain ⟨e1, e2, e3, _⟩ := cO1_parts hp
  have go : ∀ {σ'}, (match (semI E n p.d p.i).run [] σ with
      | some ws => if ws.all (Wr.ok T n) then some (apps T ws σ) else none
      | none => none) = some σ' → (∀ a' w', Post T w0 St0 n σ' a' w' → K a' w') → o.wp P a w K Q := by
    intro σ' h hK
    cases hr : (semI E n p.d p.i).run [] σ with
    | none => rw [hr] at h; cases h
    | some ws =>
      rw [hr] at h
      simp only at h
      split at h
      · rename_i hok
        cases h
        rw [e1] at hr
        have := cOp_sound hE e2 w0 St0 γ σ a w [] ws G hr (by rw [hn]; exact hok) Q
        rw [hn] at this
        exact Oper.wp_mono hK this
      · cases h
  have skip : ∀ {σ'}, (match p.d with
      | some d => some ((Wr.set d (.tup [])).app T σ)
      | none => some σ) = some σ' → (∀ a' w', Post T w0 St0 n σ' a' w' → K a' w') → K (a.put o.dst undef) w := by
    intro σ' h hK
    rw [e1] at h
    cases hd : o.dst with
    | none =>
      rw [hd] at h
      cases h
      exact hK _ _ ⟨hn, γ, G⟩
    | some d =>
      rw [hd] at h
      cases h
      exact hK _ _ ⟨by rw [size_put]; exact hn, γ, set_undef G (by rw [hn]; exact hdn d hd)⟩
  unfold stepO at h
  cases hg : o.guard with
  | none =>
    rw [hg] at e3
    simp only at e3
    rw [e3] at h
    rw [if_pos (by simp [Region.wanted, hg])]
    exact go h hK
  | some q =>
    obtain ⟨j, b⟩ := q
    rw [hg] at e3
    obtain ⟨t, ht, e3⟩ := e3
    rw [e3] at h
    obtain ⟨w1, w2⟩ := wanted_of G hg ht
    simp only at h
    split at h
    · rename_i c hc
      rw [w1 c hc]
      by_cases hcb : c = b
      · rw [if_pos hcb] at h
        rw [if_pos (by simp [hcb])]
        exact go h hK
      · rw [if_neg hcb] at h
        rw [if_neg (by simp [hcb])]
        exact skip h hK
    · rename_i hc
      rw [w2 hc]
      exact skip h hK
    · cases h

theorem stepsO_sound {n : Nat} (hE : CallSound P T E n) {ops : Array Oper} : ∀ (l : List Oper) (os : List O1) (γ : Gh) (σ σ' : List AV) (a : Act) (w : World), mapOpt (cO1 P ops) l = some os → (∀ o ∈ l, ∀ d, o.dst = some d → d < n) → GoodAt T w0 St0 γ σ a w → a.tmps.size = n →
    stepsO E T n os σ = some σ' → ∀ {Q : Exit → Act → World → Prop}, (∀ a' w', Post T w0 St0 n σ' a' w' → Q .normal a' w') → wpList P ops Q l a w
  | [], os, γ, σ, σ', a, w, hm, _, G, hn, h, Q, hQ => by
    simp only [mapOpt, Option.some.injEq] at hm
    subst hm
    simp only [stepsO, Option.some.injEq] at h
    subst h
    exact hQ a w ⟨hn, γ, G⟩
  | o :: l, os, γ, σ, σ', a, w, hm, hdn, G, hn, h, Q, hQ => by
    simp only [mapOpt] at hm
    cases h1 : cO1 P ops o with
    | none => simp [h1] at hm
    | some p =>
      cases h2 : mapOpt (cO1 P ops) l with
      | none => simp [h1, h2] at hm
      | some ps =>
        simp only [h1, h2, Option.some.injEq] at hm
        subst hm
        simp only [stepsO] at h
        cases hs : stepO E T n p σ with
        | none => simp [hs] at h
        | some σ1 =>
          simp only [hs] at h
          refine wpList_step fun K hK => ?_
          exact stepO_sound hE h1 G hn (fun d hd => hdn o (List.mem_cons_self ..) d hd) hs fun a' w' ⟨hn', γ', G'⟩ => hK _ _ (stepsO_sound hE l ps γ' σ1 σ' a' w' h2 (fun o ho => hdn o (List.mem_cons_of_mem _ ho)) G' hn' h hQ)

/-! ### Code -/
def MatchC (P : Program) (n : Nat) : Code → Cd → Prop
  | .skip, .skip => True
  | .region _ ops draw, .reg draw' os => draw' = draw ∧ mapOpt (cO1 P ops) ops.toList = some os ∧ ∀ o ∈ ops.toList, ∀ d, o.dst = some d → d < n
  | .seq a b, .seq a' b' => MatchC P n a a' ∧ MatchC P n b b'
  | .cond c a b, .cond c' a' b' => cAr c = some c' ∧ MatchC P n a a' ∧ MatchC P n b b'
  | .block i b, .block j b' => i = j ∧ MatchC P n b b'
  | .loop b, .loop _ b' => MatchC P n b b'
  | .exit i, .exit j => i = j
  | .ret, .ret => True
  | _, _ => False

theorem put_match {n : Nat} {prs : List (Nat × List Nat)} {rl : List Nat} : ∀ (c : Code) (cd : Cd) (ex : List (Nat × List Nat)) (l : List Nat), MatchC P n c cd → MatchC P n c (putLive prs rl cd ex l) := by
  intro c
  induction c with
  | skip => intro cd ex l h; cases cd <;> first | exact h | exact h.elim
  | region i ops d => intro cd ex l h; cases cd <;> first | exact h | exact h.elim
  | seq x y ih1 ih2 =>
    intro cd ex l h
    cases cd with
    | seq x' y' => exact ⟨ih1 _ _ _ h.1, ih2 _ _ _ h.2⟩
    | _ => exact h.elim
  | cond c x y ih1 ih2 =>
    intro cd ex l h
    cases cd with
    | cond c' x' y' => exact ⟨h.1, ih1 _ _ _ h.2.1, ih2 _ _ _ h.2.2⟩
    | _ => exact h.elim
  | block i x ih =>
    intro cd ex l h
    cases cd with
    | block j x' => exact ⟨h.1, ih _ _ _ h.2⟩
    | _ => exact h.elim
  | loop x ih =>
    intro cd ex l h
    cases cd with
    | loop m x' => exact ih _ _ _ h
    | _ => exact h.elim
  | exit i => intro cd ex l h; cases cd <;> first | exact h | exact h.elim
  | ret => intro cd ex l h; cases cd <;> first | exact h | exact h.elim
  | _ => intro cd ex l h; cases cd <;> exact h.elim

/-- Less is told. -/
theorem GoodAt.forget (G : GoodAt T w0 St0 γ σ a w) {σ' : List AV} (hl : σ'.length = σ.length) (hs : ∀ (i : Nat) (x : AV), σ'[i]? = some x → x = .junk ∨ σ[i]? = some x) (hm : ∀ x, σ'[a.tmps.size]? = some x → σ[a.tmps.size]? = some x) : GoodAt T w0 St0 γ σ' a w := by
  refine ⟨G.hB, G.frm, G.st0, hl.trans G.len, G.defers, fun s x v h1 h2 => ?_, fun x h => G.mem x (hm x h), G.own, G.rho, G.stnew, G.unf, G.nest, fun s x t h1 h2 => ?_, G.fb, G.fn⟩
  · rcases hs s x h1 with rfl | h
    · exact R2.junk
    · exact G.slots s x v h h2
  · rcases hs s x h1 with rfl | h
    · simp [refTo] at h2
    · exact G.refs s x t h h2
theorem forget_get (live : List Nat) : ∀ (σ : List AV) (i : Nat), (forgetFrom live i σ).length = σ.length ∧ ∀ (j : Nat) (x : AV), (forgetFrom live i σ)[j]? = some x → (x = .junk ∧ ∀ os, σ[j]? ≠ some (.mem os)) ∨ σ[j]? = some x
  | [], i => ⟨rfl, fun j x h => by simp [forgetFrom] at h⟩
  | y :: σ, i => by
    obtain ⟨h1, h2⟩ := forget_get live σ (i + 1)
    refine ⟨by simp [forgetFrom, h1], fun j x h => ?_⟩
    cases j with
    | zero =>
      simp only [forgetFrom, List.getElem?_cons_zero, Option.some.injEq] at h ⊢
      split at h
      · subst h; exact .inr rfl
      · rename_i hne
        split at h
        · exact .inr h
        · exact .inl ⟨h.symm, fun os e => hne os (by simpa using e)⟩
    | succ j =>
      simp only [forgetFrom, List.getElem?_cons_succ] at h ⊢
      exact h2 j x h
theorem GoodAt.forgetFrom (G : GoodAt T w0 St0 γ σ a w) (live : List Nat) : GoodAt T w0 St0 γ (forgetFrom live 0 σ) a w := by
  obtain ⟨h1, h2⟩ := forget_get live σ 0
  refine G.forget h1 (fun i x h => (h2 i x h).imp (fun h => h.1) id) fun x h => ?_
  rcases h2 _ x h with ⟨rfl, hne⟩ | h'
  · exfalso
    have hlt : a.tmps.size < σ.length := by rw [G.len]; omega
    have hx := List.getElem?_eq_getElem hlt
    have hm := G.mem _ hx
    cases hc : σ[a.tmps.size] with
    | mem os => exact hne os (by rw [hx, hc])
    | _ => rw [hc] at hm; exact hm.elim
  · exact h'

theorem condOf_sound (G : GoodAt T w0 St0 γ σ a w) {c : Operand} {c' : Ar} (hc : cAr c = some c') {t : Bool} (h : condOf c' σ = some t) : a.eval c = .bool t := rdBool_sound G (cAr_ok hc) h

def exOf : Ex → Exit → Prop
  | .normal, .normal => True
  | .exit i, .exit j => i = j
  | .ret, .ret => True
  | _, _ => False
/-- Behind a piece of code: how it ended, and the state. -/
def After (T : List Nat) (w0 : World) (St0 : Nat → Nat) (n : Nat) (r : Ex × List AV) (e : Exit) (a : Act) (w : World) : Prop := exOf r.1 e ∧ Post T w0 St0 n r.2 a w

/-- Regions that draw their order. -/
def DrawSound (P : Program) (T : List Nat) (E : Fns) (n : Nat) : Prop :=
  ∀ (id : Nat) (ops : Array Oper) (os : List O1), mapOpt (cO1 P ops) ops.toList = some os → (∀ o ∈ ops.toList, ∀ d, o.dst = some d → d < n) → ∀ w0 St0 γ σ σ' a w, GoodAt T w0 St0 γ σ a w → a.tmps.size = n → runReg E T n true os σ = some σ' →
    ∀ (Q : Exit → Act → World → Prop), (∀ a' w', Post T w0 St0 n σ' a' w' → Q .normal a' w') → (Code.region id ops true).wp P Q a w

theorem least (p : Nat → Prop) (h : ∃ m, p m) : ∃ m, p m ∧ ∀ k, p k → m ≤ k := by
  obtain ⟨m, h⟩ := h
  induction m using Nat.strongRecOn with
  | ind m ih =>
    by_cases hl : ∃ k, k < m ∧ p k
    · obtain ⟨k, h1, h2⟩ := hl
      exact ih k h1 h2
    · exact ⟨m, h, fun k hk => by
        rcases Nat.lt_or_ge k m with h' | h'
        · exact absurd ⟨k, h', hk⟩ hl
        · exact h'⟩

theorem exec_sound {n k : Nat} (hE : CallSound P T E n) (hD : DrawSound P T E n) : ∀ (c : Code) (cd : Cd), MatchC P n c cd → ∀ w0 St0 γ σ r a w, GoodAt T w0 St0 γ σ a w → a.tmps.size = n → exec E T n k cd σ = some r →
    c.wp P (After T w0 St0 n r) a w := by
  intro c
  induction c with
  | skip =>
    intro cd hm w0 St0 γ σ r a w G hn h
    cases cd with
    | skip =>
      simp only [exec, Option.some.injEq] at h
      subst h
      exact wp_skip ⟨trivial, hn, γ, G⟩
    | _ => exact hm.elim
  | region i ops d =>
    intro cd hm w0 St0 γ σ r a w G hn h
    cases cd with
    | reg d' os =>
      obtain ⟨rfl, hm, hdn⟩ := hm
      simp only [exec] at h
      obtain ⟨σ', h1, rfl⟩ := map_some h
      cases d' with
      | true => exact hD i ops os hm hdn w0 St0 γ σ σ' a w G hn h1 _ fun a' w' h => ⟨trivial, h⟩
      | false => exact wp_region_list (stepsO_sound hE ops.toList os γ σ σ' a w hm hdn G hn h1 fun a' w' h => ⟨trivial, h⟩)
    | _ => exact hm.elim
  | seq x y ih1 ih2 =>
    intro cd hm w0 St0 γ σ r a w G hn h
    cases cd with
    | seq x' y' =>
      simp only [exec] at h
      refine wp_seq ?_
      split at h
      · rename_i σ1 h1
        refine Code.wp_mono (fun e a' w' q => ?_) (ih1 x' hm.1 w0 St0 γ σ _ a w G hn h1)
        obtain ⟨q1, hn', γ', G'⟩ := q
        cases e <;> first | exact ih2 y' hm.2 w0 St0 γ' σ1 r a' w' G' hn' h | exact q1.elim
      · rename_i hne
        refine Code.wp_mono (fun e a' w' q => ?_) (ih1 x' hm.1 w0 St0 γ σ r a w G hn h)
        cases e with
        | normal =>
          exfalso
          obtain ⟨ex, σ1⟩ := r
          cases ex <;> first | exact hne σ1 h | exact q.1.elim
        | _ => exact q
    | _ => exact hm.elim
  | cond c x y ih1 ih2 =>
    intro cd hm w0 St0 γ σ r a w G hn h
    cases cd with
    | cond c' x' y' =>
      simp only [exec] at h
      split at h
      · rename_i t ht
        refine wp_cond (condOf_sound G hm.1 ht) ?_
        cases t with
        | true => exact ih1 x' hm.2.1 w0 St0 γ σ r a w G hn h
        | false => exact ih2 y' hm.2.2 w0 St0 γ σ r a w G hn h
      · cases h
    | _ => exact hm.elim
  | block i x ih =>
    intro cd hm w0 St0 γ σ r a w G hn h
    cases cd with
    | block j x' =>
      obtain ⟨rfl, hm⟩ := hm
      simp only [exec] at h
      refine wp_block ?_
      split at h
      · rename_i j' σ1 h1
        refine Code.wp_mono (fun e a' w' q => ?_) (ih x' hm w0 St0 γ σ _ a w G hn h1)
        obtain ⟨q1, q2⟩ := q
        cases e with
        | exit e' =>
          have q1 : j' = e' := q1
          subst q1
          by_cases hji : j' = i
          · rw [if_pos hji] at h
            cases h
            simp only [Exit.inBlock, hji, if_true]
            exact ⟨trivial, q2⟩
          · rw [if_neg hji] at h
            cases h
            simp only [Exit.inBlock, if_neg hji]
            exact ⟨rfl, q2⟩
        | _ => exact q1.elim
      · rename_i hne
        refine Code.wp_mono (fun e a' w' q => ?_) (ih x' hm w0 St0 γ σ r a w G hn h)
        cases e with
        | exit e' =>
          exfalso
          obtain ⟨ex, σ1⟩ := r
          cases ex with
          | exit j' => exact hne j' σ1 h
          | _ => exact q.1.elim
        | _ => exact q
    | _ => exact hm.elim
  | loop x ih =>
    intro cd hm w0 St0 γ σ r a w G hn h
    cases cd with
    | loop live x' =>
      simp only [exec] at h
      let J : Nat → Act → World → Prop := fun m a w => ∃ γ σ, GoodAt T w0 St0 γ σ a w ∧ a.tmps.size = n ∧ iter (fun σ => exec E T n k x' (Go.Ev.forgetFrom live 0 σ)) m σ = some r
      have hJ : ∃ m, J m a w := ⟨k, γ, σ, G, hn, h⟩
      refine wp_loop (fun a w => ∃ m, J m a w) (fun a w => open Classical in if h : ∃ m, J m a w then Classical.choose (least _ h) else 0) hJ fun a w hI => ?_
      have hspec := Classical.choose_spec (least _ hI)
      have hmu : (open Classical in if h : ∃ m, J m a w then Classical.choose (least _ h) else 0) = Classical.choose (least _ hI) := dif_pos hI
      rw [hmu]
      replace hspec := hspec.1
      generalize Classical.choose (least _ hI) = m at hspec
      obtain ⟨γ1, σ1, G1, hn1, h1⟩ := hspec
      cases m with
      | zero => simp [iter] at h1
      | succ m =>
        simp only [iter] at h1
        split at h1
        · rename_i σ2 h2
          refine Code.wp_mono (fun e a' w' q => ?_) (ih x' hm w0 St0 γ1 _ _ a w (G1.forgetFrom live) hn1 h2)
          obtain ⟨q1, hn', γ', G'⟩ := q
          cases e with
          | normal =>
            have hI' : J m a' w' := ⟨γ', σ2, G', hn', h1⟩
            refine ⟨⟨m, hI'⟩, ?_⟩
            rw [dif_pos ⟨m, hI'⟩]
            exact Nat.lt_succ_of_le ((Classical.choose_spec (least _ ⟨m, hI'⟩)).2 m hI')
          | _ => exact q1.elim
        · rename_i hne
          refine Code.wp_mono (fun e a' w' q => ?_) (ih x' hm w0 St0 γ1 _ _ a w (G1.forgetFrom live) hn1 h1)
          cases e with
          | normal =>
            exfalso
            obtain ⟨ex, σ2⟩ := r
            cases ex <;> first | exact hne σ2 h1 | exact q.1.elim
          | _ => exact q
    | _ => exact hm.elim
  | exit i =>
    intro cd hm w0 St0 γ σ r a w G hn h
    cases cd with
    | exit j =>
      simp only [exec, Option.some.injEq] at h
      subst h
      exact wp_exit ⟨hm.symm, hn, γ, G⟩
    | _ => exact hm.elim
  | ret =>
    intro cd hm w0 St0 γ σ r a w G hn h
    cases cd with
    | ret =>
      simp only [exec, Option.some.injEq] at h
      subst h
      exact wp_ret ⟨trivial, hn, γ, G⟩
    | _ => exact hm.elim
  | _ => intro cd hm; cases cd <;> exact hm.elim
end
end Go.Ev

/-! text E31 -/
set_option linter.unusedVariables false
set_option linter.unusedSimpArgs false
namespace Go.Ev
open Go.RowKit

section
variable {P : Program} {T : List Nat} {E : Fns} {w0 : World} {St0 : Nat → Nat} {γ : Gh} {σ : List AV} {a : Act} {w : World} {U : List Nat}

/-! ### What a function answers -/
def rvAct (tmps : Array Value) : ResultVar → Sem Value
  | .tmp t => pure (tmps.getD t undef)
  | .cell a t => do loadVar t (← asAddr (tmps.getD a undef))
def ResOk (γ : Gh) (w : World) (p : AV × Option Key) (v : Value) : Prop :=
  match p.2 with
  | none => V γ w p.1 v
  | some k => ∃ f z xs, p.1 = .own f z xs ∧ Own γ w k f z xs v
theorem resV_sound (G : GoodAt T w0 St0 γ σ a w) {r : ResultVar} {rv : Rv} (hr : cRv P r = some rv) {p : AV × Option Key} (h : resV σ rv = some p) : ∃ v, (rvAct a.tmps r).run P w = .ok v w ∧ ResOk γ w p v := by
  cases r with
  | tmp t =>
    simp only [cRv, Option.some.injEq] at hr
    subst hr
    simp only [resV] at h
    cases hx : σ[t]? with
    | none => simp [hx] at h
    | some x =>
      have hget : (∀ os, x ≠ .mem os) → ∃ v, (rvAct a.tmps (.tmp t)).run P w = .ok v w ∧ a.tmps[t]? = some v ∧ R2 γ w a.tmps t x v := fun hm => by
        obtain ⟨v, hv, hr⟩ := get_tmp G hx hm
        exact ⟨v, by simp [rvAct, Array.getD_eq_getD_getElem?, hv], hv, hr⟩
      rw [hx] at h
      by_cases ho : ∃ f z xs, x = .own f z xs
      · obtain ⟨f, z, xs, rfl⟩ := ho
        obtain ⟨v, h1, h2, h3⟩ := hget (by simp)
        cases h
        exact ⟨v, h1, f, z, xs, rfl, h3⟩
      · by_cases ha : ∃ s j, x = .als s j
        · obtain ⟨s, j, rfl⟩ := ha
          obtain ⟨v, h1, h2, h3⟩ := hget (by simp)
          simp only at h
          cases hl : (look (s, j)).run [] σ with
          | none => simp [hl] at h
          | some y =>
            rw [hl] at h
            have hk := look_sound (k := (s, j)) G hl h3
            by_cases ho2 : ∃ f z xs, y = .own f z xs
            · obtain ⟨f, z, xs, rfl⟩ := ho2
              cases h
              exact ⟨v, h1, f, z, xs, rfl, hk.own⟩
            · have h' : (viewOf y).map (fun y => (y, (none : Option Key))) = some p := by
                cases y with
                | own f z xs => exact absurd ⟨f, z, xs, rfl⟩ ho2
                | _ => exact h
              obtain ⟨y', e1, rfl⟩ := map_some h'
              exact ⟨v, h1, view_RK hk e1⟩
        · have h' : (viewOf x).map (fun y => (y, (none : Option Key))) = some p := by
            cases x with
            | own f z xs => exact absurd ⟨f, z, xs, rfl⟩ ho
            | als s j => exact absurd ⟨s, j, rfl⟩ ha
            | _ => exact h
          obtain ⟨y', e1, rfl⟩ := map_some h'
          obtain ⟨v, h1, h2, h3⟩ := hget (by intro os e; subst e; simp [viewOf] at e1)
          exact ⟨v, h1, view_R2 h3 e1⟩
  | cell t ty =>
    simp only [cRv] at hr
    obtain ⟨n, hg, rfl⟩ := map_some hr
    simp only [resV] at h
    cases hx : σ[t]? with
    | none => simp [hx] at h
    | some x =>
      rw [hx] at h
      have hrun : ∀ {g o v}, a.tmps[t]? = some (.pointer (some ⟨g, o, none⟩)) → (loadVar ty ⟨g, o, none⟩).run P w = .ok v w → (rvAct a.tmps (.cell t ty)).run P w = .ok v w := by
        intro g o v h1 h2
        simp only [rvAct, Array.getD_eq_getD_getElem?, h1, Option.getD_some, asAddr, Sem.run_bind, Sem.run_pure, Result.andThen, h2]
      cases x with
      | box cs =>
        obtain ⟨v, hv, g, bs, e1, e2, e3, e4, e5, e6, e7⟩ := get_tmp G hx (by simp)
        subst e1
        cases n with
        | none =>
          simp only at h
          match cs, h, e5, e7 with
          | [], h, _, _ => cases h
          | x :: y :: r, h, _, _ => cases x <;> cases h
          | [x], h, e5, e7 =>
            obtain ⟨u, hu, hr⟩ := e7 0 x rfl
            have hld : (rvAct a.tmps (.cell t ty)).run P w = .ok u w := hrun hv (loadVar_one hg (cell_of_blk e4 hu))
            by_cases ho : ∃ f z xs, x = .own f z xs
            · obtain ⟨f, z, xs, rfl⟩ := ho
              cases h
              exact ⟨u, hld, f, z, xs, rfl, hr⟩
            · have h' : (viewOf x).map (fun y => (y, (none : Option Key))) = some p := by
                cases x with
                | own f z xs => exact absurd ⟨f, z, xs, rfl⟩ ho
                | _ => exact h
              obtain ⟨y', f1, rfl⟩ := map_some h'
              exact ⟨u, hld, view_R1 hr f1⟩
        | some k =>
          have h' : (if cs.length = k then (mapOpt viewOf cs).map fun ys => (AV.agg ys, (none : Option Key)) else none) = some p := by
            cases cs with
            | nil => exact h
            | cons c cs => cases c <;> exact h
          by_cases hk : cs.length = k
          · rw [if_pos hk] at h'
            obtain ⟨ys, hy, rfl⟩ := map_some h'
            have hvl : VL γ w ys bs.toList := mapView hy (by simpa using e5) (fun j x y h1 h2 => by
              obtain ⟨u, hu, hr⟩ := e7 j x h1
              exact ⟨u, by simpa using hu, view_R1 hr h2⟩)
            refine ⟨.agg bs, hrun hv (loadVar_many hg ?_), bs.toList, by simp, hvl⟩
            have := run_loadCells_list (P := P) w (⟨g, 0, none⟩ : Addr) bs.toList fun j u hu => by
              rw [add_none]
              exact cell_of_blk e4 (by simpa using hu)
            simp only [Array.length_toList, Array.toArray_toList] at this
            rw [← hk, ← e5]
            exact this
          · rw [if_neg hk] at h'; cases h'
      | pv cs =>
        obtain ⟨v, hv, g, o, e1, e2, e3⟩ := get_tmp G hx (by simp)
        subst e1
        cases n with
        | none =>
          match cs, h, e3 with
          | [], h, _ => cases h
          | x :: y :: r, h, _ => cases h
          | [x], h, e3 =>
            cases h
            obtain ⟨u, hu, hr⟩ := VC_get e3 0 x rfl
            exact ⟨u, hrun hv (loadVar_one hg hu), hr⟩
        | some k =>
          have h' : (if cs.length = k then some (AV.agg cs, (none : Option Key)) else none) = some p := by
            cases cs with
            | nil => exact h
            | cons c cs => exact h
          by_cases hk : cs.length = k
          · rw [if_pos hk] at h'
            cases h'
            obtain ⟨vs, hr, hvl⟩ := run_loadCells_VC (P := P) e3
            rw [hk] at hr
            exact ⟨.agg vs.toArray, hrun hv (loadVar_many hg hr), vs, rfl, hvl⟩
          · rw [if_neg hk] at h'; cases h'
      | _ => cases h

theorem demRes_sound : ∀ (res : List Rv) (γ : Gh) (σ : List AV), GoodAt T w0 St0 γ σ a w → ∃ γ', GoodAt T w0 St0 γ' (demRes T res σ) a w
  | [], γ, σ, G => ⟨γ, G⟩
  | .tmp t :: r, γ, σ, G => demRes_sound r γ σ G
  | .cell t none :: r, γ, σ, G => demRes_sound r γ σ G
  | .cell t (some k) :: r, γ, σ, G => by
    simp only [demRes]
    split
    · rename_i cs hs
      obtain ⟨γ', G'⟩ := demote_box G hs
      exact demRes_sound r γ' _ G'
    · exact demRes_sound r γ σ G

theorem results_run (G : GoodAt T w0 St0 γ σ a w) : ∀ {rs : List ResultVar} {res : List Rv} {ps : List (AV × Option Key)}, mapOpt (cRv P) rs = some res → mapOpt (resV σ) res = some ps →
    ∃ vs : List Value, (rs.mapM (rvAct a.tmps)).run P w = .ok vs w ∧ vs.length = ps.length ∧ ∀ (j : Nat) (p : AV × Option Key), ps[j]? = some p → ∃ v, vs[j]? = some v ∧ ResOk γ w p v
  | [], res, ps, h1, h2 => by
    simp only [mapOpt, Option.some.injEq] at h1
    subst h1
    simp only [mapOpt, Option.some.injEq] at h2
    subst h2
    exact ⟨[], by simp, rfl, fun j p h => by simp at h⟩
  | r :: rs, res, ps, h1, h2 => by
    simp only [mapOpt] at h1
    cases hr : cRv P r with
    | none => simp [hr] at h1
    | some rv =>
      cases hrs : mapOpt (cRv P) rs with
      | none => simp [hr, hrs] at h1
      | some rvs =>
        simp only [hr, hrs, Option.some.injEq] at h1
        subst h1
        simp only [mapOpt] at h2
        cases hp : resV σ rv with
        | none => simp [hp] at h2
        | some p =>
          cases hps : mapOpt (resV σ) rvs with
          | none => simp [hp, hps] at h2
          | some ps' =>
            simp only [hp, hps, Option.some.injEq] at h2
            subst h2
            obtain ⟨v, f1, f2⟩ := resV_sound G hr hp
            obtain ⟨vs, g1, g2, g3⟩ := results_run G hrs hps
            refine ⟨v :: vs, ?_, by simp [g2], fun j q hq => ?_⟩
            · simp only [List.mapM_cons, Sem.run_bind, f1, g1, Result.andThen, Sem.run_pure]
            · cases j with
              | zero => simp at hq; subst hq; exact ⟨v, rfl, f2⟩
              | succ j => simpa using g3 j q (by simpa using hq)

/-- The keys of an answer: by what was whose. -/
def outO (key : Nat → Nat) (ps : List (AV × Option Key)) (γ : Gh) (g : Nat) : Option ((Nat × Nat) × Bool) :=
  match γ.O g with
  | some (k, b) => match (List.range ps.length).find? fun i => ((ps[i]?).bind (·.2)) == some k with
    | some i => some ((0, key i), b)
    | none => none
  | none => none

theorem key_uniq : ∀ {ps : List (AV × Option Key)}, (ps.filterMap (·.2)).Nodup → ∀ {i j : Nat} {k : Key}, (ps[i]?).bind (·.2) = some k → (ps[j]?).bind (·.2) = some k → i = j
  | [], _, i, j, k, h, _ => by simp at h
  | p :: ps, hn, i, j, k, h1, h2 => by
    have hmem : ∀ {m : Nat}, (ps[m]?).bind (·.2) = some k → k ∈ ps.filterMap (·.2) := fun {m} h => by
      cases hp : ps[m]? with
      | none => simp [hp] at h
      | some q =>
        rw [hp] at h
        exact List.mem_filterMap.2 ⟨q, List.mem_of_getElem? hp, h⟩
    have hn2 : (ps.filterMap (·.2)).Nodup := by
      rw [List.filterMap_cons] at hn
      split at hn
      · exact hn
      · exact (List.nodup_cons.1 hn).2
    have hne : ∀ {m : Nat}, (ps[m]?).bind (·.2) = some k → p.2 ≠ some k := fun {m} h e => by
      rw [List.filterMap_cons] at hn
      rw [e] at hn
      exact (List.nodup_cons.1 hn).1 (hmem h)
    cases i with
    | zero =>
      cases j with
      | zero => rfl
      | succ j =>
        simp only [List.getElem?_cons_succ] at h2
        exact absurd (by simpa using h1) (hne h2)
    | succ i =>
      simp only [List.getElem?_cons_succ] at h1
      cases j with
      | zero => exact absurd (by simpa using h2) (hne h1)
      | succ j =>
        simp only [List.getElem?_cons_succ] at h2
        rw [key_uniq hn2 h1 h2]
theorem outO_key {key : Nat → Nat} {ps : List (AV × Option Key)} (hn : (ps.filterMap (·.2)).Nodup) {i : Nat} {k : Key} (hi : (ps[i]?).bind (·.2) = some k) {g : Nat} {b : Bool} (h : γ.O g = some (k, b)) : outO key ps γ g = some ((0, key i), b) := by
  have hlt : i < ps.length := by
    rcases Nat.lt_or_ge i ps.length with h' | h'
    · exact h'
    · rw [List.getElem?_eq_none h'] at hi; cases hi
  simp only [outO, h]
  cases hf : (List.range ps.length).find? fun i => ((ps[i]?).bind (·.2)) == some k with
  | none =>
    have := List.find?_eq_none.1 hf i (List.mem_range.2 hlt)
    rw [hi] at this
    simp at this
  | some j =>
    have hj := List.find?_some hf
    have : j = i := key_uniq hn (by simpa using hj) hi
    rw [this]
theorem outO_some {key : Nat → Nat} {ps : List (AV × Option Key)} {g : Nat} {q : (Nat × Nat) × Bool} (h : outO key ps γ g = some q) : ∃ k, γ.O g = some (k, q.2) := by
  unfold outO at h
  split at h
  · rename_i k b hk
    split at h
    · cases h; exact ⟨k, hk⟩
    · cases h
  · cases h

theorem fin_results (G : GoodAt T w0 St0 γ σ a w) {fn : Func} {res : List Rv} (h1 : mapOpt (cRv P) fn.results.toList = some res) {r : AV} (h : results T σ res = some r) :
    ∃ v, (Go.results fn a.tmps).run P w = .ok v w ∧ refTo r = none ∧ ∃ γ', GoodAt [] w0 St0 γ' [r, .mem []] ⟨#[v], []⟩ w := by
  obtain ⟨γ, G⟩ := demRes_sound res γ σ G
  unfold results at h
  cases hps : mapOpt (resV (demRes T res σ)) res with
  | none => simp [hps] at h
  | some ps =>
    simp only [hps] at h
    split at h
    · rename_i hn
      obtain ⟨vs, r1, r2, r3⟩ := results_run G h1 hps
      have hmap : (fn.results.mapM (rvAct a.tmps)).run P w = .ok vs.toArray w := by
        rw [Array.mapM_eq_mapM_toList]
        simp only [map_eq_pure_bind, Sem.run_bind, r1, Result.andThen, Sem.run_pure]
      have hrun : (Go.results fn a.tmps).run P w = .ok (if h : vs.toArray.size = 1 then vs.toArray[0] else .tuple vs.toArray) w := by
        have : Go.results fn a.tmps = (do let vs ← fn.results.mapM (rvAct a.tmps); pure (if h : vs.size = 1 then vs[0] else .tuple vs)) := by
          unfold Go.results
          congr 1
        rw [this]
        simp only [Sem.run_bind, hmap, Result.andThen, Sem.run_pure]
      have one : ∀ (key : Nat → Nat) (i : Nat) (p : AV × Option Key) (v : Value), ps[i]? = some p → ResOk γ w p v → R1 (withO γ (outO key ps γ)) w (0, key i) p.1 v := by
        intro key i p v hp hr
        obtain ⟨x, k⟩ := p
        cases k with
        | none => exact R1.of_V (V_mono (withO_ext _ _ _) _ _ hr)
        | some k =>
          obtain ⟨f, z, xs, e, ho⟩ := hr
          simp only at e
          subst e
          exact own_rekey ho fun g b hg => outO_key hn (by rw [hp]; rfl) hg
      have good : ∀ (key : Nat → Nat) (r : AV) (v : Value), refTo r = none → R2 (withO γ (outO key ps γ)) w #[v] 0 r v → GoodAt [] w0 St0 (withO γ (outO key ps γ)) [r, .mem []] ⟨#[v], []⟩ w := by
        intro key r v hrf hr
        refine ⟨G.hB, G.frm, G.st0, rfl, rfl, fun s x u hs hu => ?_, fun x hx => ?_, fun g k hk => ?_, G.rho, G.stnew, G.unf, fun g k hk => ?_, fun s x t hs ht => ?_, G.fb, G.fn⟩
        · cases s with
          | zero => simp at hs hu; subst hs hu; exact hr
          | succ s => simp at hu
        · simp at hx; subst hx; exact fun i x h => by simp at h
        · obtain ⟨k', hk'⟩ := outO_some hk
          exact G.own g _ hk'
        · obtain ⟨k', hk'⟩ := outO_some hk
          exact G.nest g _ hk'
        · cases s with
          | zero => simp at hs; subst hs; rw [hrf] at ht; cases ht
          | succ s =>
            cases s with
            | zero => simp at hs; subst hs; simp [refTo] at ht
            | succ s => simp at hs
      have r1_ref : ∀ {k : Key} {γ : Gh} {x : AV} {v : Value}, R1 γ w k x v → refTo x = none := fun {k γ x v} h => by
        cases x with
        | own _ _ _ => rfl
        | _ => exact V_ref (γ := γ) (w := w) (v := v) h
      by_cases hl : ps.length = 1
      · match ps, hl, h, r2, r3, one, good with
        | [p], _, h, r2, r3, one, good =>
          cases h
          obtain ⟨v, hv, hr⟩ := r3 0 p rfl
          have hvs : vs = [v] := by
            match vs, r2, hv with
            | [x], _, hv => simp at hv; rw [hv]
          subst hvs
          have h1 := one (fun _ => 0) 0 p v rfl hr
          exact ⟨v, by rw [hrun]; rfl, r1_ref h1, _, good (fun _ => 0) p.1 v (r1_ref h1) (R2.of_R1 h1)⟩
      · have hr : r = .tup (ps.map (·.1)) := by
          match ps, hl, h with
          | [], _, h => simpa using h.symm
          | [p], hl, _ => exact absurd rfl hl
          | p :: q :: ps, _, h => simpa using h.symm
        subst hr
        refine ⟨.tuple vs.toArray, ?_, rfl, _, good (fun i => i + 1) _ _ rfl ⟨vs.toArray, rfl, by simp [r2], fun j x hx => ?_⟩⟩
        · rw [hrun, dif_neg (by simpa [r2] using hl)]
        · rw [List.getElem?_map] at hx
          cases hp : ps[j]? with
          | none => rw [hp] at hx; cases hx
          | some p =>
            rw [hp] at hx
            simp only [Option.map_some, Option.some.injEq] at hx
            subst hx
            obtain ⟨v, hv, hr⟩ := r3 j p hp
            exact ⟨v, by simpa using hv, one (fun i => i + 1) j p v hp hr⟩
    · cases h

/-! ### A function -/
/-- What is asked of a table of functions. -/
def TabOk (P : Program) (tab : FuncId → Option Fd) : Prop :=
  ∀ f fd, tab f = some fd → ∃ fn c, P.funcs[f]? = some fn ∧ fn.name ≠ "runtime.NumGoroutine" ∧ fn.body = some c ∧ fn.ntmps = fd.n ∧ MatchC P fd.n c fd.body ∧ mapOpt (cRv P) fn.results.toList = some fd.res

theorem start_good {n : Nat} {ys : List AV} {args : List Value} {St : Nat → Nat} (hSt : ∀ g, w.heap.size ≤ g → St g = 0) (hv : VL ⟨w.heap.size, St, fun _ => none, fun _ => none, fun _ => False⟩ w ys args) (hn : ys.length ≤ n) (T : List Nat) :
    GoodAt T w St ⟨w.heap.size, St, fun _ => none, fun _ => none, fun _ => False⟩ (ys ++ List.replicate (n - ys.length) (.tup []) ++ [.mem []]) ⟨args.toArray ++ Array.replicate (n - args.toArray.size) undef, []⟩ w := by
  have hl := VL_len hv
  have hsz : (args.toArray ++ Array.replicate (n - args.toArray.size) undef).size = n := by simp; omega
  refine ⟨rfl, Frm.refl _ _ _, fun _ _ _ => rfl, by rw [hsz]; simp; omega, rfl, fun s x v hs hx => ?_, fun x hx => ?_, fun g k h => (by cases h), fun i g h => (by cases h), hSt, fun g cs e lo hi hg hh => ?_, fun g k h => (by cases h), fun s x t hs ht => ?_, fun g h => h.elim, fun g h => h⟩
  · rcases Nat.lt_or_ge s ys.length with h | h
    · rw [List.getElem?_append_left (by simp; omega), List.getElem?_append_left h] at hs
      obtain ⟨u, hu, hr⟩ := VL_get hv s x hs
      simp only [Array.getElem?_append, List.size_toArray, hl] at hx
      rw [if_pos h] at hx
      have : u = v := by simpa [hu] using hx
      subst this
      exact R2.of_V hr
    · have hlt := (Array.getElem?_eq_some_iff.1 hx).1
      rw [hsz] at hlt
      rw [List.getElem?_append_left (by simp; omega), List.getElem?_append_right h, List.getElem?_replicate] at hs
      simp only [Array.getElem?_append, List.size_toArray, hl] at hx
      rw [if_neg (by omega)] at hx
      have hv2 : v = undef := by
        rw [Array.getElem?_replicate] at hx
        split at hx
        · simpa using hx.symm
        · cases hx
      split at hs
      · cases hs
        subst hv2
        exact ⟨#[], rfl, rfl, fun j x h => by simp at h⟩
      · cases hs
  · rw [hsz, List.getElem?_append_right (by simp; omega)] at hx
    have : n - (ys ++ List.replicate (n - ys.length) (AV.tup [])).length = 0 := by simp; omega
    rw [this] at hx
    simp at hx
    subst hx
    exact fun i x h => by simp at h
  · have := (Array.getElem?_eq_some_iff.1 hh).1
    have hg : w.heap.size ≤ g := hg
    omega
  · rcases Nat.lt_or_ge s ys.length with h | h
    · rw [List.getElem?_append_left (by simp; omega), List.getElem?_append_left h] at hs
      obtain ⟨u, hu, hr⟩ := VL_get hv s x hs
      rw [V_ref hr] at ht
      cases ht
    · have hx : x = .tup [] ∨ x = .mem [] := by
        have := List.mem_of_getElem? hs
        simp only [List.mem_append, List.mem_singleton] at this
        rcases this with (hm | hm) | hm
        · exfalso
          rw [List.append_assoc, List.getElem?_append_right h] at hs
          have := List.mem_of_getElem? hs
          simp only [List.mem_append, List.mem_singleton] at this
          rcases this with h' | h'
          · rw [List.eq_of_mem_replicate h'] at ht; simp [refTo] at ht
          · rw [h'] at ht; simp [refTo] at ht
        · exact .inl (List.eq_of_mem_replicate hm)
        · exact .inr hm
      rcases hx with rfl | rfl <;> simp [refTo] at ht

theorem callFunc_run {f : FuncId} {fn : Func} {c : Code} (hf : P.funcs[f]? = some fn) (hn : fn.name ≠ "runtime.NumGoroutine") (hb : fn.body = some c) (args : Array Value) (w : World) : (callFunc f args).run P w = .ok (.enter f args) w := by
  unfold callFunc
  simp [hf, hn, hb, Result.andThen]

/-- What a function is run to, it does. -/
theorem runFd_sound {f : FuncId} {fd : Fd} {fn : Func} {c : Code} {k : Nat} (hE : CallSound P fd.body.T E fd.n) (hD : DrawSound P fd.body.T E fd.n) (hf : P.funcs[f]? = some fn) (hn : fn.name ≠ "runtime.NumGoroutine") (hb : fn.body = some c) (hnt : fn.ntmps = fd.n) (hm : MatchC P fd.n c fd.body) (hr : mapOpt (cRv P) fn.results.toList = some fd.res)
    {ys : List AV} {r : AV} (h : runFd E k fd ys [] = some (r, [])) : FnOk P f ys r := by
  unfold runFd at h
  split at h
  · rename_i hlen
    have key : ∀ ex σ, exec E fd.body.T fd.n k fd.body (ys ++ List.replicate (fd.n - ys.length) (.tup []) ++ [.mem []]) = some (ex, σ) → (ex = .normal ∨ ex = .ret) → results fd.body.T σ fd.res = some r → FnOk P f ys r := by
      intro ex σ hex hor hres w args St hSt hv
      have hl := VL_len hv
      rw [callFunc_run hf hn hb]
      refine calls_of_wp hf hb ?_
      have G := start_good (n := fd.n) hSt hv hlen fd.body.T
      rw [hnt]
      have hsz : (args.toArray ++ Array.replicate (fd.n - args.toArray.size) undef).size = fd.n := by simp; omega
      refine Code.wp_mono (fun e a' w' q => ?_) (exec_sound hE hD c fd.body hm _ _ _ _ _ _ _ G hsz hex)
      obtain ⟨q1, hn', γ', G'⟩ := q
      obtain ⟨v, f1, f2, γ2, G2⟩ := fin_results (P := P) G' hr hres
      rcases hor with rfl | rfl
      · cases e with
        | normal => exact ⟨G'.defers, v, f1, f2, _, γ2, G2⟩
        | _ => exact q1.elim
      · cases e with
        | ret => exact ⟨G'.defers, v, f1, f2, _, γ2, G2⟩
        | _ => exact q1.elim
    split at h
    · rename_i σ hex
      split at h
      · rename_i r' os' hres hmem
        simp only [Option.some.injEq, Prod.mk.injEq] at h
        obtain ⟨rfl, rfl⟩ := h
        exact key _ _ hex (.inl rfl) hres
      · cases h
    · rename_i σ hex
      split at h
      · rename_i r' os' hres hmem
        simp only [Option.some.injEq, Prod.mk.injEq] at h
        obtain ⟨rfl, rfl⟩ := h
        exact key _ _ hex (.inr rfl) hres
      · cases h
    · cases h
  · cases h

/-- All functions of a table. -/
theorem ex_sound {tab : FuncId → Option Fd} {prim : FuncId → Option (List AV → List AV → Option (AV × List AV))} {k : Nat} (hT : TabOk P tab) (hP : ∀ f g, prim f = some g → ∀ ys r, g ys [] = some (r, []) → FnOk P f ys r) (hD : ∀ (E : Fns) (T : List Nat) (n : Nat), CallSound P T E n → DrawSound P T E n) :
    ∀ (d : Nat) (f : FuncId) (ys : List AV) (r : AV), ex tab prim k d f ys [] = some (r, []) → FnOk P f ys r
  | 0, f, ys, r, h => by simp [ex] at h
  | d + 1, f, ys, r, h => by
    simp only [ex] at h
    split at h
    · rename_i g hg
      exact hP f g hg ys r h
    · split at h
      · rename_i fd hfd
        obtain ⟨fn, c, h1, h2, h3, h4, h5, h6⟩ := hT f fd hfd
        have hE : CallSound P fd.body.T (ex tab prim k d) fd.n := call_sound fun f ys r h => ex_sound hT hP hD d f ys r h
        exact runFd_sound hE (hD _ _ _ hE) h1 h2 h3 h4 h5 h6 h
      · cases h
end
end Go.Ev

/-! text E32 -/
set_option linter.unusedVariables false
set_option linter.unusedSimpArgs false
namespace Go.Ev
open Go.RowKit

section
variable {P : Program} {T : List Nat} {E : Fns} {w0 : World} {St0 : Nat → Nat} {γ : Gh} {σ : List AV} {a : Act} {w : World} {U : List Nat}

/-! ### Regions that draw their order -/
theorem runL_run {α : Type} {σ σ' : List AV} : ∀ {m : RM α} {r : α} {l : List Nat}, m.runL σ = some (r, l) → (∀ t ∈ l, σ'[t]? = σ[t]?) → m.run [] σ' = some r := by
  intro m
  induction m with
  | ret x => intro r l h _; simp only [RM.runL, Option.some.injEq, Prod.mk.injEq] at h; simp [RM.run, h.1]
  | fail => intro r l h; cases h
  | get s k ih =>
    intro r l h hl
    simp only [RM.runL] at h
    cases hs : σ[s]? with
    | none => simp [hs] at h
    | some x =>
      simp only [hs] at h
      cases hk : (k x).runL σ with
      | none => simp [hk] at h
      | some p =>
        obtain ⟨r', l'⟩ := p
        simp only [hk, Option.some.injEq, Prod.mk.injEq] at h
        obtain ⟨rfl, rfl⟩ := h
        have h1 := hl s (List.mem_cons_self ..)
        rw [hs] at h1
        simp only [RM.run, List.contains_nil, Bool.false_eq_true, if_false, h1]
        exact ih x hk fun t ht => hl t (List.mem_cons_of_mem _ ht)

theorem setAll_len : ∀ (ts : List Nat) (σ : List AV), (setAll ts σ).length = σ.length
  | [], σ => rfl
  | t :: ts, σ => by simp only [setAll, List.foldl_cons]; exact (setAll_len ts _).trans (by simp)
theorem setAll_get : ∀ (ts : List Nat) (σ : List AV) (t : Nat), (t ∉ ts → (setAll ts σ)[t]? = σ[t]?) ∧ (t ∈ ts → t < σ.length → (setAll ts σ)[t]? = some .junk)
  | [], σ, t => ⟨fun _ => rfl, fun h => by cases h⟩
  | s :: ts, σ, t => by
    obtain ⟨h1, h2⟩ := setAll_get ts (σ.set s .junk) t
    simp only [setAll, List.foldl_cons] at h1 h2 ⊢
    refine ⟨fun hn => ?_, fun hm hl => ?_⟩
    · simp only [List.mem_cons, not_or] at hn
      rw [h1 hn.2, List.getElem?_set_ne (fun e => hn.1 e.symm)]
    · by_cases ht : t ∈ ts
      · exact h2 ht (by simpa using hl)
      · have : t = s := by simpa [ht] using hm
        subst this
        rw [h1 ht, List.getElem?_set_self hl]
theorem Wr.appX_eq (x : Wr) (σ : List AV) : x.appX σ = σ.set x.dst x.val := by cases x <;> rfl
/-- What is written last to a slot. -/
def lastW (t : Nat) : List Wr → Option AV
  | [] => none
  | x :: r => match lastW t r with
    | some y => some y
    | none => if x.dst = t then some x.val else none
theorem appX_get : ∀ (ws : List Wr) (σ : List AV) (t : Nat), t < σ.length → (ws.foldl (fun σ x => x.appX σ) σ)[t]? = match lastW t ws with
    | some y => some y
    | none => σ[t]?
  | [], σ, t, h => rfl
  | x :: ws, σ, t, h => by
    have := appX_get ws (x.appX σ) t (by rw [Wr.appX_eq]; simpa using h)
    rw [List.foldl_cons, this]
    simp only [lastW]
    cases lastW t ws with
    | some y => rfl
    | none =>
      simp only [Wr.appX_eq]
      by_cases hx : x.dst = t
      · rw [if_pos hx, ← hx, List.getElem?_set_self (by rw [hx]; exact h)]
      · rw [if_neg hx, List.getElem?_set_ne hx]
theorem appX_len (kill : List Nat) (ws : List Wr) (σ : List AV) : (appX kill ws σ).length = σ.length := by
  have : ∀ (ws : List Wr) (σ : List AV), (ws.foldl (fun σ x => x.appX σ) σ).length = σ.length := by
    intro ws
    induction ws with
    | nil => intro σ; rfl
    | cons x ws ih => intro σ; rw [List.foldl_cons, ih, Wr.appX_eq]; simp
  unfold appX
  rw [this, setAll_len]
theorem lastW_none {t : Nat} : ∀ {ws : List Wr}, lastW t ws = none ↔ t ∉ ws.map Wr.dst
  | [] => by simp [lastW]
  | x :: ws => by
    simp only [lastW, List.map_cons, List.mem_cons, not_or]
    have ih := lastW_none (t := t) (ws := ws)
    cases h : lastW t ws with
    | some y =>
      have : t ∈ ws.map Wr.dst := by
        rcases Classical.em (t ∈ ws.map Wr.dst) with h' | h'
        · exact h'
        · rw [ih.2 h'] at h; cases h
      simp [this]
    | none =>
      simp only
      constructor
      · intro hx
        refine ⟨fun e => ?_, ih.1 h⟩
        rw [if_pos e.symm] at hx
        cases hx
      · intro hx
        rw [if_neg (fun e => hx.1 e.symm)]
theorem lastW_mem {t : Nat} {y : AV} : ∀ {ws : List Wr}, lastW t ws = some y → ∃ x ∈ ws, x.dst = t ∧ x.val = y
  | [], h => by cases h
  | x :: ws, h => by
    simp only [lastW] at h
    cases h1 : lastW t ws with
    | some z =>
      rw [h1] at h
      obtain ⟨x', h2, h3⟩ := lastW_mem h1
      simp only [Option.some.injEq] at h
      subst h
      exact ⟨x', List.mem_cons_of_mem _ h2, h3⟩
    | none =>
      rw [h1] at h
      simp only at h
      split at h
      · rename_i hx
        exact ⟨x, List.mem_cons_self .., hx, by simpa using h⟩
      · cases h

/-- What a write does to what another slot says. -/
theorem app_other {x : Wr} {σ : List AV} {t : Nat} {y : AV} (ht : x.dst ≠ t) (hy : σ[t]? = some y) (hk : isRef y = true → x.keeps y = true) : (x.app T σ)[t]? = some y := by
  cases x with
  | set d z =>
    have ht : d ≠ t := ht
    simp only [Wr.app]
    rw [List.getElem?_set_ne ht]
    by_cases hT : T.contains d = true
    · rw [if_pos hT, List.getElem?_map, hy]
      have : killSet d y = y := by
        cases y with
        | als s j => have := hk rfl; simp only [Wr.keeps, refTo, bne_iff_ne, ne_eq, Option.some.injEq] at this; simp only [killSet, if_neg this]
        | adr s j => have := hk rfl; simp only [Wr.keeps, refTo, bne_iff_ne, ne_eq, Option.some.injEq] at this; simp only [killSet, if_neg this]
        | nst s j z => have := hk rfl; simp only [Wr.keeps, refTo, bne_iff_ne, ne_eq, Option.some.injEq] at this; simp only [killSet, if_neg this]
        | npv s j z => have := hk rfl; simp only [Wr.keeps, refTo, bne_iff_ne, ne_eq, Option.some.injEq] at this; simp only [killSet, if_neg this]
        | _ => rfl
      simp [this]
    · rw [if_neg hT]; exact hy
  | mod s z ks =>
    have ht : s ≠ t := ht
    simp only [Wr.app]
    rw [List.getElem?_set_ne ht, List.getElem?_map, hy]
    have : killMod s ks y = y := by
      cases y with
      | als s' j =>
        have := hk rfl
        simp only [Wr.keeps, Bool.not_eq_true', Bool.and_eq_false_iff, beq_eq_false_iff_ne, ne_eq] at this
        simp only [killMod]
        rw [if_neg]
        rintro ⟨e1, e2⟩
        rcases this with h | h
        · exact h e1
        · rw [h] at e2; cases e2
      | nst s' j z => have := hk rfl; simp only [Wr.keeps, bne_iff_ne, ne_eq] at this; simp only [killMod, if_neg this]
      | npv s' j z => have := hk rfl; simp only [Wr.keeps, bne_iff_ne, ne_eq] at this; simp only [killMod, if_neg this]
      | _ => rfl
    simp [this]
theorem app_len (x : Wr) (σ : List AV) : (x.app T σ).length = σ.length := by
  cases x with
  | set d z => simp only [Wr.app]; split <;> simp
  | mod s z ks => simp [Wr.app]
theorem app_self (x : Wr) {σ : List AV} (h : x.dst < σ.length) : (x.app T σ)[x.dst]? = some x.val := by
  cases x with
  | set d z =>
    have h : d < σ.length := h
    simp only [Wr.app, Wr.dst, Wr.val]
    exact List.getElem?_set_self (by split <;> simpa using h)
  | mod s z ks =>
    have h : s < σ.length := h
    simp only [Wr.app, Wr.dst, Wr.val]
    exact List.getElem?_set_self (by simpa using h)
theorem apps_get : ∀ (ws : List Wr) (σ : List AV) (t : Nat), t < σ.length → selfOk ws = true →
    (∀ y, lastW t ws = some y → (apps T ws σ)[t]? = some y) ∧ (lastW t ws = none → ∀ y, σ[t]? = some y → (isRef y = true → ws.all (Wr.keeps y) = true) → (apps T ws σ)[t]? = some y)
  | [], σ, t, h, _ => ⟨(fun y h => nomatch h), fun _ y hy _ => hy⟩
  | x :: ws, σ, t, h, hs => by
    simp only [selfOk, Bool.and_eq_true, Bool.or_eq_true, Bool.not_eq_true'] at hs
    obtain ⟨ih1, ih2⟩ := apps_get ws (x.app T σ) t (by rw [app_len]; exact h) hs.2
    have hst : apps T (x :: ws) σ = apps T ws (x.app T σ) := rfl
    refine ⟨fun y hy => ?_, fun hn y hy hk => ?_⟩
    · rw [hst]
      simp only [lastW] at hy
      cases hl : lastW t ws with
      | some z => rw [hl] at hy; simp only [Option.some.injEq] at hy; subst hy; exact ih1 z hl
      | none =>
        rw [hl] at hy
        simp only at hy
        split at hy
        · rename_i hx
          simp only [Option.some.injEq] at hy
          subst hy
          refine ih2 hl _ (by rw [← hx]; exact app_self x (by rw [hx]; exact h)) fun hr => ?_
          rcases hs.1 with h' | h'
          · rw [h'] at hr; cases hr
          · exact h'
        · cases hy
    · rw [hst]
      simp only [lastW] at hn
      cases hl : lastW t ws with
      | some z => rw [hl] at hn; cases hn
      | none =>
        rw [hl] at hn
        simp only at hn
        split at hn
        · cases hn
        · rename_i hx
          refine ih2 hl y (app_other hx hy fun hr => ?_) fun hr => ?_
          · have := hk hr; simp only [List.all_cons, Bool.and_eq_true] at this; exact this.1
          · have := hk hr; simp only [List.all_cons, Bool.and_eq_true] at this; exact this.2

/-- One step of a region, told by what it looked at. -/
theorem stepD_spec {n : Nat} {o : O1} {kill : List Nat} {σ σ' : List AV} {r : Tr} (h : stepD E T n o kill σ = some (σ', r)) :
    ∃ kill', σ' = appX kill' r.ws σ ∧ r.W = r.ws.map Wr.dst ++ kill' ∧ selfOk r.ws = true ∧ (∀ t ∈ kill', t < n) ∧ ∀ σ2 : List AV, (∀ t ∈ r.L, σ2[t]? = σ[t]?) → stepO E T n o σ2 = some (apps T r.ws σ2) := by
  have go : ∀ {σ' : List AV} {r : Tr}, (match (semI E n o.d o.i).runL σ with
      | some (ws, l) => if ws.all (Wr.ok T n) && selfOk ws && kill.all (· < n) then some (appX kill ws σ, { W := ws.map Wr.dst ++ kill, L := l, ws := ws : Tr }) else none
      | none => none) = some (σ', r) → σ' = appX kill r.ws σ ∧ r.W = r.ws.map Wr.dst ++ kill ∧ selfOk r.ws = true ∧ (∀ t ∈ kill, t < n) ∧ ∀ σ2 : List AV, (∀ t ∈ r.L, σ2[t]? = σ[t]?) → (match (semI E n o.d o.i).run [] σ2 with
        | some ws => if ws.all (Wr.ok T n) then some (apps T ws σ2) else none
        | none => none) = some (apps T r.ws σ2) := by
    intro σ' r h
    cases hr : (semI E n o.d o.i).runL σ with
    | none => simp [hr] at h
    | some p =>
      obtain ⟨ws, l⟩ := p
      simp only [hr] at h
      split at h
      · rename_i hc
        simp only [Bool.and_eq_true] at hc
        simp only [Option.some.injEq, Prod.mk.injEq] at h
        obtain ⟨rfl, rfl⟩ := h
        refine ⟨rfl, rfl, hc.1.2, fun t ht => by simpa using List.all_eq_true.1 hc.2 t ht, fun σ2 hl => ?_⟩
        rw [runL_run hr hl]
        simp only [hc.1.1, if_true]
      · cases h
  have skip : ∀ {t : Nat} {σ' : List AV} {r : Tr}, (match o.d with
      | some d => some (appX [] [.set d (.tup [])] σ, { W := [d], L := [t], ws := [.set d (.tup [])] : Tr })
      | none => some (σ, { W := [], L := [t], ws := [] })) = some (σ', r) → σ' = appX [] r.ws σ ∧ r.W = r.ws.map Wr.dst ++ [] ∧ selfOk r.ws = true ∧ r.L = [t] ∧ ∀ σ2 : List AV, (match o.d with
        | some d => some ((Wr.set d (.tup [])).app T σ2)
        | none => some σ2) = some (apps T r.ws σ2) := by
    intro t σ' r h
    cases hd : o.d with
    | none =>
      simp only [hd, Option.some.injEq, Prod.mk.injEq] at h
      obtain ⟨rfl, rfl⟩ := h
      exact ⟨rfl, rfl, rfl, rfl, fun σ2 => rfl⟩
    | some d =>
      simp only [hd, Option.some.injEq, Prod.mk.injEq] at h
      obtain ⟨rfl, rfl⟩ := h
      exact ⟨rfl, rfl, rfl, rfl, fun σ2 => rfl⟩
  unfold stepD at h
  unfold stepO
  cases hg : o.g with
  | none =>
    simp only [hg] at h
    obtain ⟨h1, h2, h3, h4, h5⟩ := go h
    exact ⟨kill, h1, h2, h3, h4, h5⟩
  | some q =>
    obtain ⟨t, want⟩ := q
    simp only [hg] at h
    split at h
    · rename_i b hb
      by_cases hbw : b = want
      · rw [if_pos hbw] at h
        obtain ⟨⟨σ1, r1⟩, h1, h2⟩ := map_some h
        simp only [Prod.mk.injEq] at h2
        obtain ⟨rfl, rfl⟩ := h2
        obtain ⟨g1, g2, g3, g5, g4⟩ := go h1
        refine ⟨kill, g1, g2, g3, g5, fun σ2 hl => ?_⟩
        have ht := hl t (List.mem_cons_self ..)
        rw [hb] at ht
        simp only [ht, if_pos hbw]
        exact g4 σ2 fun s hs => hl s (List.mem_cons_of_mem _ hs)
      · rw [if_neg hbw] at h
        obtain ⟨g1, g2, g3, g4, g5⟩ := skip h
        refine ⟨[], g1, g2, g3, (fun _ h => nomatch h), fun σ2 hl => ?_⟩
        have ht := hl t (by rw [g4]; exact List.mem_cons_self ..)
        rw [hb] at ht
        simp only [ht, if_neg hbw]
        exact g5 σ2
    · rename_i hb
      obtain ⟨g1, g2, g3, g4, g5⟩ := skip h
      refine ⟨[], g1, g2, g3, (fun _ h => nomatch h), fun σ2 hl => ?_⟩
      have ht := hl t (by rw [g4]; exact List.mem_cons_self ..)
      rw [hb] at ht
      simp only [ht]
      exact g5 σ2
    · cases h

theorem stepsD_spec {n : Nat} : ∀ (oks : List (O1 × List Nat)) (σ σm : List AV) (rs : List Tr), stepsD E T n oks σ = some (σm, rs) →
    rs.length = oks.length ∧ ∃ S : Nat → List AV, S 0 = σ ∧ S oks.length = σm ∧ ∀ (i : Nat) (p : O1 × List Nat), oks[i]? = some p → ∃ r, rs[i]? = some r ∧ stepD E T n p.1 p.2 (S i) = some (S (i + 1), r)
  | [], σ, σm, rs, h => by
    simp only [stepsD, Option.some.injEq, Prod.mk.injEq] at h
    obtain ⟨rfl, rfl⟩ := h
    exact ⟨rfl, fun _ => σ, rfl, rfl, fun i p h => by simp at h⟩
  | (o, k) :: oks, σ, σm, rs, h => by
    simp only [stepsD] at h
    cases h1 : stepD E T n o k σ with
    | none => simp [h1] at h
    | some q =>
      obtain ⟨σ1, r⟩ := q
      simp only [h1] at h
      cases h2 : stepsD E T n oks σ1 with
      | none => simp [h2] at h
      | some q2 =>
        obtain ⟨σ2, rs2⟩ := q2
        simp only [h2, Option.some.injEq, Prod.mk.injEq] at h
        obtain ⟨rfl, rfl⟩ := h
        obtain ⟨hl, S, e1, e2, e3⟩ := stepsD_spec oks σ1 σ2 rs2 h2
        refine ⟨by simp [hl], fun i => match i with | 0 => σ | i + 1 => S i, rfl, e2, fun i p hp => ?_⟩
        cases i with
        | zero =>
          simp only [List.getElem?_cons_zero, Option.some.injEq] at hp
          subst hp
          exact ⟨r, rfl, by show stepD E T n o k σ = some (S 0, r); rw [e1]; exact h1⟩
        | succ i =>
          obtain ⟨r', f1, f2⟩ := e3 i p (by simpa using hp)
          exact ⟨r', by simpa using f1, f2⟩
end
end Go.Ev

/-! text E33 -/
set_option linter.unusedVariables false
set_option linter.unusedSimpArgs false
namespace Go.Ev
open Go.RowKit

/-- A run of a region in the order of its list: the states, what each step wrote and looked at. -/
structure Run (n m L : Nat) (S : Nat → List AV) (rs : List Tr) (bs : List (List Nat)) : Prop where
  rlen : rs.length = m
  len : ∀ i, i ≤ m → (S i).length = L
  step : ∀ i r, rs[i]? = some r → ∃ kill, S (i + 1) = appX kill r.ws (S i) ∧ r.W = r.ws.map Wr.dst ++ kill ∧ selfOk r.ws = true ∧ ∀ t ∈ kill, t < n
  apart : allIndep bs rs = true

section
variable {n m L : Nat} {S : Nat → List AV} {rs : List Tr} {bs : List (List Nat)}

def Wt (rs : List Tr) (i t : Nat) : Prop := ∃ r, rs[i]? = some r ∧ t ∈ r.W

theorem Run.apart_of (R : Run n m L S rs bs) {i j : Nat} {a b : Tr} (ha : rs[i]? = some a) (hb : rs[j]? = some b) (hij : j < i) (hn : (bs.getD i []).contains j = false) : indep a b = true := by
  have h := R.apart
  unfold allIndep at h
  have hi : i < rs.length := (List.getElem?_eq_some_iff.1 ha).1
  have h1 := List.all_eq_true.1 (List.all_eq_true.1 h i (List.mem_range.2 hi)) j (List.mem_range.2 hij)
  rw [hn, Bool.false_or] at h1
  have e1 : rs.getD i ⟨[], [], []⟩ = a := by rw [List.getD_eq_getElem?_getD, ha]; rfl
  have e2 : rs.getD j ⟨[], [], []⟩ = b := by rw [List.getD_eq_getElem?_getD, hb]; rfl
  rwa [e1, e2] at h1
theorem disj_not {a b : List Nat} (h : disj a b = true) {t : Nat} (h1 : t ∈ a) (h2 : t ∈ b) : False := by
  have := List.all_eq_true.1 h t h1
  simp only [Bool.not_eq_true', List.contains_eq_mem, decide_eq_false_iff_not] at this
  exact this h2

/-- A slot that step i doesn't write. -/
theorem Run.keep (R : Run n m L S rs bs) {i t : Nat} {r : Tr} (hr : rs[i]? = some r) (ht : t ∉ r.W) (hL : t < L) : (S (i + 1))[t]? = (S i)[t]? := by
  obtain ⟨kill, e1, e2, _⟩ := R.step i r hr
  have hi : i < m := by rw [← R.rlen]; exact (List.getElem?_eq_some_iff.1 hr).1
  rw [e2, List.mem_append, not_or] at ht
  have hlen := R.len i (Nat.le_of_lt hi)
  rw [e1, appX, appX_get _ _ _ (by rw [setAll_len, hlen]; exact hL), lastW_none.2 ht.1]
  exact (setAll_get kill (S i) t).1 ht.2

/-- Where a slot's value comes from. -/
theorem Run.from (R : Run n m L S rs bs) {t : Nat} (hL : t < L) : ∀ i, i ≤ m → (∃ j, j < i ∧ Wt rs j t ∧ (∀ j', j < j' → j' < i → ¬ Wt rs j' t) ∧ (S i)[t]? = (S (j + 1))[t]?) ∨ ((∀ j, j < i → ¬ Wt rs j t) ∧ (S i)[t]? = (S 0)[t]?)
  | 0, _ => .inr ⟨fun j h => by omega, rfl⟩
  | i + 1, hi => by
    have hir : i < rs.length := by rw [R.rlen]; omega
    have hr := List.getElem?_eq_getElem hir
    by_cases hw : Wt rs i t
    · exact .inl ⟨i, by omega, hw, fun j' h1 h2 => by omega, rfl⟩
    · have ht : t ∉ (rs[i]).W := fun h => hw ⟨_, hr, h⟩
      rw [R.keep hr ht hL]
      rcases R.from hL i (by omega) with ⟨j, h1, h2, h3, h4⟩ | ⟨h1, h2⟩
      · refine .inl ⟨j, by omega, h2, fun j' e1 e2 => ?_, h4⟩
        rcases Nat.lt_or_ge j' i with h | h
        · exact h3 j' e1 h
        · have : j' = i := by omega
          subst this; exact hw
      · refine .inr ⟨fun j e => ?_, h2⟩
        rcases Nat.lt_or_ge j i with h | h
        · exact h1 j h
        · have : j = i := by omega
          subst this; exact hw

/-- The state when the steps of D are done, in whatever order. -/
structure At (L : Nat) (S : Nat → List AV) (rs : List Tr) (D : Nat → Prop) (σ : List AV) : Prop where
  len : σ.length = L
  val : ∀ t, t < L → (∃ i, D i ∧ Wt rs i t ∧ (∀ j, D j → i < j → ¬ Wt rs j t) ∧ σ[t]? = (S (i + 1))[t]?) ∨ ((∀ i, D i → ¬ Wt rs i t) ∧ σ[t]? = (S 0)[t]?)

/-- What step i looks at is as it was in the list's order. -/
theorem Run.read (R : Run n m L S rs bs) {D : Nat → Prop} {σ : List AV} (A : At L S rs D σ) (hD : ∀ i j, D i → (bs.getD i []).contains j = true → D j) (hDm : ∀ i, D i → i < m) {i : Nat} {r : Tr} (hr : rs[i]? = some r) (hi : ¬ D i) (hb : ∀ j, (bs.getD i []).contains j = true → D j) {t : Nat} (ht : t ∈ r.L) (hL : t < L) :
    σ[t]? = (S i)[t]? := by
  have him : i < m := by rw [← R.rlen]; exact (List.getElem?_eq_some_iff.1 hr).1
  -- who writes t later waits for i
  have later : ∀ k, D k → i < k → ¬ Wt rs k t := by
    rintro k hk hik ⟨rk, hrk, hw⟩
    by_cases hc : (bs.getD k []).contains i = true
    · exact hi (hD k i hk hc)
    · have := R.apart_of hrk hr hik (by simpa using hc)
      simp only [indep, Bool.and_eq_true] at this
      exact disj_not this.1.2 hw ht
  have ahead : ∀ j, j < i → Wt rs j t → D j := by
    rintro j hji ⟨rj, hrj, hw⟩
    by_cases hc : (bs.getD i []).contains j = true
    · exact hb j hc
    · exfalso
      have := R.apart_of hr hrj hji (by simpa using hc)
      simp only [indep, Bool.and_eq_true] at this
      exact disj_not this.2 ht hw
  rcases R.from hL i (Nat.le_of_lt him) with ⟨j, h1, h2, h3, h4⟩ | ⟨h1, h2⟩
  · have hDj := ahead j h1 h2
    rcases A.val t hL with ⟨k, k1, k2, k3, k4⟩ | ⟨k1, k2⟩
    · have : k = j := by
        rcases Nat.lt_trichotomy k j with h | h | h
        · exact absurd h2 (k3 j hDj h)
        · exact h
        · rcases Nat.lt_trichotomy k i with h' | h' | h'
          · exact absurd k2 (h3 k h h')
          · subst h'; exact absurd k1 hi
          · exact absurd k2 (later k k1 h')
      subst this
      rw [k4, h4]
    · exact absurd h2 (k1 j hDj)
  · rcases A.val t hL with ⟨k, k1, k2, k3, k4⟩ | ⟨k1, k2⟩
    · exfalso
      rcases Nat.lt_trichotomy k i with h' | h' | h'
      · exact h1 k h' k2
      · subst h'; exact hi k1
      · exact later k k1 h' k2
    · rw [k2, h2]

/-- A slot that step i writes. -/
theorem appX_same {kill : List Nat} {ws : List Wr} {σ σ' : List AV} {t : Nat} (h1 : t < σ.length) (h2 : t < σ'.length) (ht : t ∈ ws.map Wr.dst ++ kill) : (appX kill ws σ)[t]? = (appX kill ws σ')[t]? ∧ (lastW t ws = none → t ∈ kill ∧ (appX kill ws σ)[t]? = some .junk) ∧ ∀ y, lastW t ws = some y → (appX kill ws σ)[t]? = some y := by
  unfold appX
  rw [appX_get _ _ _ (by rw [setAll_len]; exact h1), appX_get _ _ _ (by rw [setAll_len]; exact h2)]
  cases hl : lastW t ws with
  | some y => exact ⟨rfl, (fun h => nomatch h), fun z hz => hz⟩
  | none =>
    have hk : t ∈ kill := by
      rcases List.mem_append.1 ht with h | h
      · exact absurd h (lastW_none.1 hl)
      · exact h
    have e1 := (setAll_get kill σ t).2 hk h1
    have e2 := (setAll_get kill σ' t).2 hk h2
    exact ⟨by rw [e1, e2], fun _ => ⟨hk, e1⟩, fun y h => nomatch h⟩

theorem Run.next (R : Run n m L S rs bs) (hrefs : refsOk bs rs = true) (hold : oldOk rs 0 (S 0) = true) {T : List Nat} {D : Nat → Prop} {σ : List AV} (A : At L S rs D σ) (hD : ∀ i j, D i → (bs.getD i []).contains j = true → D j) (hDm : ∀ i, D i → i < m) {i : Nat} {r : Tr} (hr : rs[i]? = some r) (hi : ¬ D i) :
    ∃ σ2, At L S rs (fun j => D j ∨ j = i) σ2 ∧ ∀ t x, σ2[t]? = some x → (x = .junk ∧ t < n) ∨ (apps T r.ws σ)[t]? = some x := by
  obtain ⟨kill, e1, e2, e3, e4⟩ := R.step i r hr
  have him : i < m := by rw [← R.rlen]; exact (List.getElem?_eq_some_iff.1 hr).1
  have hSl := R.len i (Nat.le_of_lt him)
  have keepσ : ∀ t, t < L → t ∉ r.W → (appX kill r.ws σ)[t]? = σ[t]? := by
    intro t hL ht
    rw [e2, List.mem_append, not_or] at ht
    rw [appX, appX_get _ _ _ (by rw [setAll_len, A.len]; exact hL), lastW_none.2 ht.1]
    exact (setAll_get kill σ t).1 ht.2
  refine ⟨appX kill r.ws σ, ⟨by rw [appX_len, A.len], fun t hL => ?_⟩, fun t x hx => ?_⟩
  · by_cases ht : t ∈ r.W
    · refine .inl ⟨i, .inr rfl, ⟨r, hr, ht⟩, fun j hj hij => ?_, ?_⟩
      · rintro ⟨rj, hrj, hw⟩
        rcases hj with hj | hj
        · by_cases hc : (bs.getD j []).contains i = true
          · exact hi (hD j i hj hc)
          · have := R.apart_of hrj hr hij (by simpa using hc)
            simp only [indep, Bool.and_eq_true] at this
            exact disj_not this.1.1 hw ht
        · omega
      · rw [e1]
        exact (appX_same (by rw [A.len]; exact hL) (by rw [hSl]; exact hL) (by rw [← e2]; exact ht)).1
    · rw [keepσ t hL ht]
      rcases A.val t hL with ⟨k, k1, k2, k3, k4⟩ | ⟨k1, k2⟩
      · refine .inl ⟨k, .inl k1, k2, fun j hj hkj => ?_, k4⟩
        rcases hj with hj | rfl
        · exact k3 j hj hkj
        · rintro ⟨r', hr', hw⟩
          rw [hr] at hr'
          cases hr'
          exact ht hw
      · refine .inr ⟨fun j hj => ?_, k2⟩
        rcases hj with hj | rfl
        · exact k1 j hj
        · rintro ⟨r', hr', hw⟩
          rw [hr] at hr'
          cases hr'
          exact ht hw
  · have hL : t < L := by
      have := (List.getElem?_eq_some_iff.1 hx).1
      rwa [appX_len, A.len] at this
    obtain ⟨a1, a2⟩ := apps_get (T := T) r.ws σ t (by rw [A.len]; exact hL) e3
    by_cases ht : t ∈ r.W
    · obtain ⟨_, b2, b3⟩ := appX_same (σ := σ) (σ' := σ) (t := t) (by rw [A.len]; exact hL) (by rw [A.len]; exact hL) (by rw [← e2]; exact ht)
      cases hl : lastW t r.ws with
      | none =>
        obtain ⟨c1, c2⟩ := b2 hl
        rw [c2] at hx
        cases hx
        exact .inl ⟨rfl, e4 t c1⟩
      | some y =>
        rw [b3 y hl] at hx
        cases hx
        exact .inr (a1 _ hl)
    · rw [keepσ t hL ht] at hx
      have hl : lastW t r.ws = none := lastW_none.2 fun h => ht (by rw [e2]; exact List.mem_append_left _ h)
      refine .inr (a2 hl x hx fun href => ?_)
      rcases A.val t hL with ⟨k, k1, ⟨rk, k2, k2'⟩, k3, k4⟩ | ⟨k1, k2⟩
      · obtain ⟨kk, f1, f2, f3, f4⟩ := R.step k rk k2
        have hkm := hDm k k1
        obtain ⟨_, b2, b3⟩ := appX_same (σ := S k) (σ' := S k) (t := t) (by rw [R.len k (Nat.le_of_lt hkm)]; exact hL) (by rw [R.len k (Nat.le_of_lt hkm)]; exact hL) (by rw [← f2]; exact k2')
        rw [hx, f1] at k4
        cases hlk : lastW t rk.ws with
        | none =>
          rw [(b2 hlk).2] at k4
          cases k4
          cases href
        | some y =>
          rw [b3 y hlk] at k4
          cases k4
          obtain ⟨wr, w1, w2, w3⟩ := lastW_mem hlk
          have hkr : k < rs.length := (List.getElem?_eq_some_iff.1 k2).1
          have hir : i < rs.length := (List.getElem?_eq_some_iff.1 hr).1
          have gk : rs.getD k ⟨[], [], []⟩ = rk := by rw [List.getD_eq_getElem?_getD, k2]; rfl
          have gi : rs.getD i ⟨[], [], []⟩ = r := by rw [List.getD_eq_getElem?_getD, hr]; rfl
          have h1 := List.all_eq_true.1 hrefs k (List.mem_range.2 hkr)
          rw [gk] at h1
          have h2 := List.all_eq_true.1 h1 wr w1
          rw [w3, href] at h2
          simp only [Bool.not_true, Bool.false_or] at h2
          have h3 := List.all_eq_true.1 h2 i (List.mem_range.2 hir)
          rw [gi, w2] at h3
          have n1 : (i == k) = false := by
            have : i ≠ k := fun e => hi (by rw [e]; exact k1)
            simpa using this
          have n2 : (bs.getD k []).contains i = false := by
            cases hc : (bs.getD k []).contains i with
            | false => rfl
            | true => exact absurd (hD k i k1 hc) hi
          have n3 : r.W.contains t = false := by simpa using ht
          rw [n1, n2, n3] at h3
          simpa using h3
      · rw [hx] at k2
        have old : ∀ (σ : List AV) (t0 : Nat), oldOk rs t0 σ = true → ∀ j x, σ[j]? = some x → isRef x = true → rs.all (fun r => r.W.contains (t0 + j) || r.ws.all (Wr.keeps x)) = true := by
          intro σ
          induction σ with
          | nil => intro t0 _ j x h; simp at h
          | cons y ys ih =>
            intro t0 h j x hj hrx
            simp only [oldOk, Bool.and_eq_true] at h
            cases j with
            | zero =>
              simp only [List.getElem?_cons_zero, Option.some.injEq] at hj
              subst hj
              have := h.1
              rw [hrx] at this
              simpa using this
            | succ j =>
              have := ih (t0 + 1) h.2 j x (by simpa using hj) hrx
              rwa [show t0 + 1 + j = t0 + (j + 1) by omega] at this
        have h1 := List.all_eq_true.1 (old (S 0) 0 hold t x k2.symm href) r (List.mem_of_getElem? hr)
        have n3 : r.W.contains t = false := by simpa using ht
        rw [Nat.zero_add, n3] at h1
        simpa using h1

/-- When all are done. -/
theorem Run.all (R : Run n m L S rs bs) {D : Nat → Prop} {σ : List AV} (A : At L S rs D σ) (hDm : ∀ i, D i → i < m) (hall : ∀ i, i < m → D i) : σ = S m := by
  apply List.ext_getElem?
  intro t
  rcases Nat.lt_or_ge t L with hL | hL
  · rcases R.from hL m (Nat.le_refl _) with ⟨j, h1, h2, h3, h4⟩ | ⟨h1, h2⟩
    · rcases A.val t hL with ⟨k, k1, k2, k3, k4⟩ | ⟨k1, k2⟩
      · have : k = j := by
          rcases Nat.lt_trichotomy k j with h | h | h
          · exact absurd h2 (k3 j (hall j h1) h)
          · exact h
          · exact absurd k2 (h3 k h (hDm k k1))
        subst this
        rw [k4, h4]
      · exact absurd h2 (k1 j (hall j h1))
    · rcases A.val t hL with ⟨k, k1, k2, k3, k4⟩ | ⟨k1, k2⟩
      · exact absurd k2 (h1 k (hDm k k1))
      · rw [k2, h2]
  · rw [List.getElem?_eq_none (by rw [A.len]; exact hL), List.getElem?_eq_none (by rw [R.len m (Nat.le_refl _)]; exact hL)]
end
end Go.Ev

/-! text E34 -/
set_option linter.unusedVariables false
set_option linter.unusedSimpArgs false
namespace Go.Ev
open Go.RowKit

theorem mem_addAll : ∀ (ys xs : List Nat) (x : Nat), (addAll xs ys).contains x = true ↔ xs.contains x = true ∨ ys.contains x = true
  | [], xs, x => by simp [addAll]
  | y :: ys, xs, x => by
    have ih := mem_addAll ys (if xs.contains y then xs else y :: xs) x
    simp only [addAll, List.foldl_cons] at ih ⊢
    rw [ih]
    by_cases hy : xs.contains y = true
    · rw [if_pos hy]
      simp only [List.contains_eq_mem, decide_eq_true_eq, List.mem_cons] at hy ⊢
      constructor
      · rintro (h | h)
        · exact .inl h
        · exact .inr (.inr h)
      · rintro (h | h | h)
        · exact .inl h
        · exact .inl (h ▸ hy)
        · exact .inr h
    · rw [if_neg hy]
      simp only [List.contains_eq_mem, decide_eq_true_eq, List.mem_cons]
      constructor
      · rintro ((h | h) | h)
        · exact .inr (.inl h)
        · exact .inl h
        · exact .inr (.inr h)
      · rintro (h | h | h)
        · exact .inl (.inr h)
        · exact .inl (.inl h)
        · exact .inr h
/-- What stands ahead, one step after the other. -/
def bstep (acc : List (List Nat)) (o : O1) : List Nat := o.after.foldl (fun s e => addAll (addAll s [e]) (acc.getD e [])) []
theorem befores_eq (os : List O1) : befores os = os.foldl (fun acc o => acc ++ [bstep acc o]) [] := rfl
theorem fold_get : ∀ (os : List O1) (acc : List (List Nat)), (os.foldl (fun acc o => acc ++ [bstep acc o]) acc).length = acc.length + os.length ∧
    (∀ i, i < acc.length → (os.foldl (fun acc o => acc ++ [bstep acc o]) acc)[i]? = acc[i]?) ∧
    ∀ i o, os[i]? = some o → (os.foldl (fun acc o => acc ++ [bstep acc o]) acc)[acc.length + i]? = some (bstep ((os.foldl (fun acc o => acc ++ [bstep acc o]) acc).take (acc.length + i)) o)
  | [], acc => ⟨by simp, fun i h => rfl, fun i o h => by simp at h⟩
  | o :: os, acc => by
    obtain ⟨h1, h2, h3⟩ := fold_get os (acc ++ [bstep acc o])
    simp only [List.foldl_cons]
    refine ⟨by rw [h1]; simp; omega, fun i hi => ?_, fun i o' ho => ?_⟩
    · rw [h2 i (by simp; omega), List.getElem?_append_left hi]
    · cases i with
      | zero =>
        simp only [List.getElem?_cons_zero, Option.some.injEq] at ho
        subst ho
        rw [Nat.add_zero, h2 acc.length (by simp), List.getElem?_append_right (Nat.le_refl _)]
        have : (os.foldl (fun acc o => acc ++ [bstep acc o]) (acc ++ [bstep acc o])).take acc.length = acc := by
          apply List.ext_getElem?
          intro j
          rw [List.getElem?_take]
          split
          · rename_i hj
            rw [h2 j (by simp; omega), List.getElem?_append_left hj]
          · rename_i hj
            rw [List.getElem?_eq_none (by omega)]
        rw [this]
        simp
      | succ i =>
        have := h3 i o' (by simpa using ho)
        simp only [List.length_append, List.length_singleton] at this
        rw [show acc.length + (i + 1) = acc.length + 1 + i by omega]
        exact this
theorem bstep_mem (acc : List (List Nat)) (o : O1) (j : Nat) : (bstep acc o).contains j = true → ∃ e ∈ o.after, j = e ∨ (acc.getD e []).contains j = true := by
  have key : ∀ (es s : List Nat), (es.foldl (fun s e => addAll (addAll s [e]) (acc.getD e [])) s).contains j = true → s.contains j = true ∨ ∃ e ∈ es, j = e ∨ (acc.getD e []).contains j = true := by
    intro es
    induction es with
    | nil => intro s h; exact .inl h
    | cons e es ih =>
      intro s h
      rw [List.foldl_cons] at h
      rcases ih _ h with h | ⟨e', h1, h2⟩
      · rw [mem_addAll, mem_addAll] at h
        rcases h with (h | h) | h
        · exact .inl h
        · exact .inr ⟨e, List.mem_cons_self .., .inl (by simpa using h)⟩
        · exact .inr ⟨e, List.mem_cons_self .., .inr h⟩
      · exact .inr ⟨e', List.mem_cons_of_mem _ h1, h2⟩
  intro h
  rcases key o.after [] h with h | h
  · simp at h
  · exact h
theorem afterOk_get : ∀ (os : List O1) (i0 : Nat), afterOk i0 os = true → ∀ (i : Nat) (o : O1), os[i]? = some o → ∀ e ∈ o.after, e < i0 + i
  | [], i0, _, i, o, h => by simp at h
  | p :: os, i0, h, i, o, ho => by
    simp only [afterOk, Bool.and_eq_true] at h
    cases i with
    | zero =>
      simp only [List.getElem?_cons_zero, Option.some.injEq] at ho
      subst ho
      intro e he
      simpa using List.all_eq_true.1 h.1 e he
    | succ i =>
      intro e he
      have := afterOk_get os (i0 + 1) h.2 i o (by simpa using ho) e he
      omega
/-- What is closed under what is told to be ahead is closed under all that is. -/
theorem befores_closed {os : List O1} (hok : afterOk 0 os = true) {D : Nat → Prop} (hD : ∀ i o, D i → os[i]? = some o → ∀ e ∈ o.after, D e) : ∀ (i j : Nat), (∀ o, os[i]? = some o → ∀ e ∈ o.after, D e) → ((befores os).getD i []).contains j = true → D j := by
  obtain ⟨f1, f2, f3⟩ := fold_get os []
  intro i
  induction i using Nat.strongRecOn with
  | ind i ih =>
    intro j hi h
    rw [befores_eq] at h ih
    cases ho : os[i]? with
    | none =>
      rw [List.getD_eq_getElem?_getD, List.getElem?_eq_none (by rw [f1]; simpa using List.getElem?_eq_none_iff.1 ho)] at h
      simp at h
    | some o =>
      have hb := f3 i o ho
      simp only [List.length_nil, Nat.zero_add] at hb
      rw [List.getD_eq_getElem?_getD, hb] at h
      simp only [Option.getD_some] at h
      obtain ⟨e, he, hj⟩ := bstep_mem _ _ _ h
      have hei : e < i := by simpa using afterOk_get os 0 hok i o ho e he
      have hDe := hi o ho e he
      rcases hj with rfl | hj
      · exact hDe
      · refine ih e hei j (fun o' ho' e' he' => hD e o' hDe ho' e' he') ?_
        rw [List.getD_eq_getElem?_getD, List.getElem?_take, if_pos hei] at hj
        rw [List.getD_eq_getElem?_getD]
        exact hj

section
variable {P : Program} {T : List Nat} {E : Fns} {w0 : World} {St0 : Nat → Nat} {γ : Gh} {σ : List AV} {a : Act} {w : World}

theorem killsOf_len (os : List O1) : (killsOf os).length = os.length := by simp [killsOf]
theorem preKill_get (os : List O1) (T : List Nat) (σ : List AV) : (preKill os T σ).length = σ.length ∧ ∀ (i : Nat) (x : AV), (preKill os T σ)[i]? = some x → x = .junk ∧ (∃ y t, σ[i]? = some y ∧ refTo y = some t) ∨ σ[i]? = some x := by
  refine ⟨by simp [preKill], fun i x h => ?_⟩
  simp only [preKill, List.getElem?_map] at h
  cases hs : σ[i]? with
  | none => rw [hs] at h; cases h
  | some y =>
    rw [hs] at h
    simp only [Option.map_some, Option.some.injEq] at h
    split at h
    · rename_i t ht
      split at h
      · exact .inl ⟨h.symm, y, t, rfl, ht⟩
      · subst h; exact .inr rfl
    · subst h; exact .inr rfl
theorem GoodAt.preKill (G : GoodAt T w0 St0 γ σ a w) (os : List O1) : GoodAt T w0 St0 γ (preKill os T σ) a w := by
  obtain ⟨h1, h2⟩ := preKill_get os T σ
  refine G.forget h1 (fun i x h => (h2 i x h).imp (fun h => h.1) id) fun x h => ?_
  rcases h2 _ x h with ⟨_, y, t, hy, ht⟩ | h
  · have := G.mem y hy
    cases y <;> first | exact this.elim | (simp [refTo] at ht)
  · exact h

theorem filter_less {p q : Nat → Bool} {i : Nat} : ∀ (l : List Nat), (∀ j ∈ l, p j = true → q j = true) → i ∈ l → q i = true → p i = false → (l.filter p).length + 1 ≤ (l.filter q).length
  | [], _, h, _, _ => by cases h
  | x :: l, hpq, hi, hq, hp => by
    have mono : ∀ (l : List Nat), (∀ j ∈ l, p j = true → q j = true) → (l.filter p).length ≤ (l.filter q).length := by
      intro l
      induction l with
      | nil => intro _; exact Nat.le_refl _
      | cons y l ih =>
        intro h
        have ih := ih fun j hj => h j (List.mem_cons_of_mem _ hj)
        simp only [List.filter_cons]
        by_cases hpy : p y = true
        · rw [if_pos hpy, if_pos (h y (List.mem_cons_self ..) hpy)]
          simp only [List.length_cons]; omega
        · rw [if_neg hpy]
          split <;> (try simp only [List.length_cons]) <;> omega
    simp only [List.filter_cons]
    by_cases hx : x = i
    · subst hx
      rw [if_neg (by rw [hp]; simp), if_pos hq]
      have := mono l fun j hj => hpq j (List.mem_cons_of_mem _ hj)
      simp only [List.length_cons]; omega
    · have hil : i ∈ l := by
        rcases List.mem_cons.1 hi with h | h
        · exact absurd h.symm hx
        · exact h
      have ih := filter_less l (fun j hj => hpq j (List.mem_cons_of_mem _ hj)) hil hq hp
      by_cases hpx : p x = true
      · rw [if_pos hpx, if_pos (hpq x (List.mem_cons_self ..) hpx)]
        simp only [List.length_cons]; omega
      · rw [if_neg hpx]
        split <;> (try simp only [List.length_cons]) <;> omega
theorem At.congr {L : Nat} {S : Nat → List AV} {rs : List Tr} {D D' : Nat → Prop} {σ : List AV} (A : At L S rs D σ) (h : ∀ i, D i ↔ D' i) : At L S rs D' σ := by
  have : D = D' := funext fun i => propext (h i)
  rw [← this]; exact A
theorem apps_len (ws : List Wr) : ∀ σ : List AV, (apps T ws σ).length = σ.length := by
  induction ws with
  | nil => intro σ; rfl
  | cons x ws ih => intro σ; show (apps T ws (x.app T σ)).length = _; rw [ih, app_len]
theorem draw_sound {n : Nat} (hfol : P.follows .mixedOrders = true) (hE : CallSound P T E n) : DrawSound P T E n := by
  intro id ops os hos hdn w0 St0 γ σ σ' a w G hn h Q hQ
  simp only [runReg, if_true] at h
  obtain ⟨ol, og⟩ := mapOpt_get hos
  cases hst : stepsD E T n (os.zip (killsOf os)) (preKill os T σ) with
  | none => simp [hst] at h
  | some q =>
    obtain ⟨σm, rs⟩ := q
    simp only [hst] at h
    split at h
    · rename_i hc
      simp only [Bool.and_eq_true] at hc
      obtain ⟨⟨⟨c1, c2⟩, c3⟩, c4⟩ := hc
      cases h
      obtain ⟨hl, S, s0, sm, sstep⟩ := stepsD_spec _ _ _ _ hst
      have hzl : (os.zip (killsOf os)).length = ops.size := by rw [List.length_zip, killsOf_len, Nat.min_self, ol]; simp
      rw [hzl] at hl sm
      have hzip : ∀ (i : Nat) (o : O1), os[i]? = some o → ∃ k, (os.zip (killsOf os))[i]? = some (o, k) := by
        intro i o ho
        have hi : i < (killsOf os).length := by rw [killsOf_len]; exact (List.getElem?_eq_some_iff.1 ho).1
        exact ⟨(killsOf os)[i], by rw [List.getElem?_zip_eq_some]; exact ⟨ho, List.getElem?_eq_getElem hi⟩⟩
      have hstep : ∀ (i : Nat) (r : Tr), rs[i]? = some r → ∃ o k, os[i]? = some o ∧ stepD E T n o k (S i) = some (S (i + 1), r) := by
        intro i r hr
        have hi : i < os.length := by
          have := (List.getElem?_eq_some_iff.1 hr).1
          rw [hl] at this
          rw [ol]; simpa using this
        obtain ⟨k, hk⟩ := hzip i _ (List.getElem?_eq_getElem hi)
        obtain ⟨r', f1, f2⟩ := sstep i _ hk
        rw [hr] at f1
        cases f1
        exact ⟨_, k, List.getElem?_eq_getElem hi, f2⟩
      have hlenS : ∀ i, i ≤ ops.size → (S i).length = σ.length := by
        intro i
        induction i with
        | zero => intro _; rw [s0]; exact (preKill_get os T σ).1
        | succ i ih =>
          intro hi
          have hir : i < rs.length := by rw [hl]; omega
          obtain ⟨o, k, _, f2⟩ := hstep i _ (List.getElem?_eq_getElem hir)
          obtain ⟨k', g1, _⟩ := stepD_spec f2
          rw [g1, appX_len]
          exact ih (by omega)
      have R : Run n ops.size σ.length S rs (befores os) := ⟨hl, hlenS, fun i r hr => by
        obtain ⟨o, k, _, f2⟩ := hstep i r hr
        obtain ⟨k', g1, g2, g3, g4, _⟩ := stepD_spec f2
        exact ⟨k', g1, g2, g3, g4⟩, c1⟩
      refine wp_region_any hfol ?_
      -- any order
      have key : ∀ (fuel : Nat) (listed : Array Bool) (γ : Gh) (σD : List AV) (a : Act) (w : World), listed.size = ops.size → ((List.range ops.size).filter fun i => !listed.getD i true).length ≤ fuel → GoodAt T w0 St0 γ σD a w → a.tmps.size = n →
          At σ.length S rs (fun i => i < ops.size ∧ listed.getD i true = true) σD → (∀ (i : Nat) (o : O1), (i < ops.size ∧ listed.getD i true = true) → os[i]? = some o → ∀ e ∈ o.after, e < ops.size ∧ listed.getD e true = true) → wpAny P .any ops Q fuel listed a w := by
        have after_of : ∀ (i : Nat) (o : Oper) (p : O1), ops[i]? = some o → os[i]? = some p → cO1 P ops o = some p := by
          intro i o p ho hp
          obtain ⟨o', h1, h2⟩ := og i p hp
          have : o' = o := by
            have h1' : ops[i]? = some o' := by simpa using h1
            rw [ho] at h1'
            simpa using h1'.symm
          rw [← this]; exact h2
        have mem_ready : ∀ (listed : Array Bool) (i : Nat), i ∈ Region.ready .any ops listed → ∃ o p, ops[i]? = some o ∧ os[i]? = some p ∧ i < ops.size ∧ listed.getD i true = false ∧ ∀ e ∈ p.after, listed.getD e false = true := by
          intro listed i hi
          unfold Region.ready at hi
          rw [List.mem_filter, List.mem_range] at hi
          obtain ⟨h1, h2⟩ := hi
          rw [Bool.and_eq_true] at h2
          have ho : ops[i]? = some ops[i] := Array.getElem?_eq_getElem h1
          have hp := List.getElem?_eq_getElem (l := os) (i := i) (by rw [ol]; simpa using h1)
          refine ⟨_, _, ho, hp, h1, by simpa using h2.1, fun e he => ?_⟩
          obtain ⟨_, _, _, ha⟩ := cO1_parts (after_of i _ _ ho hp)
          rw [ha, List.mem_map] at he
          obtain ⟨e', h3, rfl⟩ := he
          rw [List.mem_filter] at h3
          have h4 := h2.2
          rw [ho] at h4
          simp only [Option.map_some, Option.getD_some] at h4
          have h5 := Array.all_eq_true_iff_forall_mem.1 h4 e' (by simpa using h3.1)
          rw [h3.2] at h5
          simpa using h5
        have to_ready : ∀ (listed : Array Bool) (i : Nat) (p : O1), i < ops.size → os[i]? = some p → listed.getD i true = false → (∀ e ∈ p.after, listed.getD e false = true) → i ∈ Region.ready .any ops listed := by
          intro listed i p h1 hp h2 h3
          unfold Region.ready
          rw [List.mem_filter, List.mem_range]
          have ho : ops[i]? = some ops[i] := Array.getElem?_eq_getElem h1
          refine ⟨h1, ?_⟩
          rw [Bool.and_eq_true]
          refine ⟨by rw [h2]; rfl, ?_⟩
          rw [ho]
          simp only [Option.map_some, Option.getD_some]
          obtain ⟨_, _, _, ha⟩ := cO1_parts (after_of i _ _ ho hp)
          refine Array.all_eq_true_iff_forall_mem.2 fun e he => ?_
          cases hb : Region.binds .any e with
          | false => rfl
          | true =>
            simp only [Bool.not_true, Bool.false_or]
            refine h3 e.on ?_
            rw [ha, List.mem_map]
            exact ⟨e, List.mem_filter.2 ⟨by simpa using he, hb⟩, rfl⟩
        have getD_eq : ∀ (listed : Array Bool) (i : Nat), listed.size = ops.size → i < ops.size → listed.getD i true = listed.getD i false := by
          intro listed i h1 h2
          simp [Array.getD, h1, h2]
        have done : ∀ (listed : Array Bool) (γ : Gh) (σD : List AV) (a : Act) (w : World), listed.size = ops.size → GoodAt T w0 St0 γ σD a w → a.tmps.size = n → At σ.length S rs (fun i => i < ops.size ∧ listed.getD i true = true) σD → Region.ready .any ops listed = [] → Q .normal a w := by
          intro listed γ σD a w hsz G hn A hr
          have hall : ∀ i, i < ops.size → listed.getD i true = true := by
            intro i
            induction i using Nat.strongRecOn with
            | ind i ih =>
              intro hi
              cases hb : listed.getD i true with
              | true => rfl
              | false =>
                exfalso
                have hp := List.getElem?_eq_getElem (l := os) (i := i) (by rw [ol]; simpa using hi)
                have := to_ready listed i _ hi hp hb fun e he => by
                  have hei : e < i := by simpa using afterOk_get os 0 c4 i _ hp e he
                  rw [← getD_eq listed e hsz (by omega)]
                  exact ih e hei (by omega)
                rw [hr] at this
                cases this
          have := R.all A (fun i h => h.1) (fun i h => ⟨h, hall i h⟩)
          rw [this, sm] at G
          exact hQ a w ⟨hn, γ, G⟩
        intro fuel
        induction fuel with
        | zero =>
          intro listed γ σD a w hsz hf G hn A hcl
          have hr : Region.ready .any ops listed = [] := by
            cases hr : Region.ready .any ops listed with
            | nil => rfl
            | cons i l =>
              exfalso
              obtain ⟨o, p, _, _, h1, h2, _⟩ := mem_ready listed i (by rw [hr]; exact List.mem_cons_self ..)
              have : i ∈ (List.range ops.size).filter fun i => !listed.getD i true := List.mem_filter.2 ⟨List.mem_range.2 h1, by rw [h2]; rfl⟩
              have h0 := List.eq_nil_of_length_eq_zero (Nat.le_zero.1 hf)
              rw [h0] at this
              cases this
          exact ⟨hr, done listed γ σD a w hsz G hn A hr⟩
        | succ fuel ih =>
          intro listed γ σD a w hsz hf G hn A hcl
          refine ⟨done listed γ σD a w hsz G hn A, fun i hi => ?_⟩
          obtain ⟨o, p, ho, hp, h1, h2, h3⟩ := mem_ready listed i hi
          have hir : i < rs.length := by rw [hl]; exact h1
          have hr := List.getElem?_eq_getElem hir
          obtain ⟨o2, k, g1, g2⟩ := hstep i _ hr
          rw [hp] at g1
          cases g1
          obtain ⟨kill', q1, q2, q3, q4, q5⟩ := stepD_spec g2
          have hD : ∀ i j, (i < ops.size ∧ listed.getD i true = true) → ((befores os).getD i []).contains j = true → (j < ops.size ∧ listed.getD j true = true) := fun i j hDi hb =>
            befores_closed c4 (D := fun i => i < ops.size ∧ listed.getD i true = true) hcl i j (fun o ho e he => hcl i o hDi ho e he) hb
          have hnD : ¬ (i < ops.size ∧ listed.getD i true = true) := fun h => by rw [h2] at h; cases h.2
          have hai : ∀ e ∈ p.after, e < ops.size ∧ listed.getD e true = true := fun e he => by
            have hei : e < i := by simpa using afterOk_get os 0 c4 i _ hp e he
            exact ⟨by omega, by rw [getD_eq listed e hsz (by omega)]; exact h3 e he⟩
          have hbi : ∀ j, ((befores os).getD i []).contains j = true → (j < ops.size ∧ listed.getD j true = true) := fun j hb =>
            befores_closed c4 (D := fun i => i < ops.size ∧ listed.getD i true = true) hcl i j (fun o' ho' e he => by
              rw [hp] at ho'
              cases ho'
              exact hai e he) hb
          have hso : stepO E T n p σD = some (apps T (rs[i]).ws σD) := q5 σD fun t ht => by
            by_cases hL : t < σ.length
            · exact R.read A hD (fun _ h => h.1) hr hnD hbi ht hL
            · rw [List.getElem?_eq_none (by rw [A.len]; omega), List.getElem?_eq_none (by rw [hlenS i (Nat.le_of_lt h1)]; omega)]
          obtain ⟨σ2, A2, F2⟩ := R.next c2 (by rw [s0]; exact c3) (T := T) A hD (fun _ h => h.1) hr hnD
          have st := stepO_sound (Q := Q) (K := wpAny P .any ops Q fuel (listed.setIfInBounds i true)) hE (after_of i o p ho hp) G hn (fun d hd => hdn o (by
            have : ops.toList[i]? = some o := by simpa using ho
            exact List.mem_of_getElem? this) d hd) hso fun a' w' hpost => by
            obtain ⟨hn', γ', G'⟩ := hpost
            have hset : ∀ j, j < ops.size → (listed.setIfInBounds i true).getD j true = (if j = i then true else listed.getD j true) := by
              intro j hj
              by_cases hji : j = i
              · subst hji
                simp [Array.getD, hsz, hj]
              · have : i ≠ j := fun e => hji e.symm
                simp [Array.getD, hsz, hj, hji, Array.getElem_setIfInBounds, this]
            refine ih (listed.setIfInBounds i true) γ' σ2 a' w' (by simpa using hsz) ?_ (G'.forget ?_ ?_ ?_) hn' (A2.congr fun j => ?_) ?_
            · -- one less
              have := filter_less (p := fun j => !(listed.setIfInBounds i true).getD j true) (q := fun j => !listed.getD j true) (i := i) (List.range ops.size) (fun j hj hpj => by
                rw [hset j (List.mem_range.1 hj)] at hpj
                split at hpj
                · cases hpj
                · exact hpj) (List.mem_range.2 h1) (by rw [h2]; rfl) (by rw [hset i h1, if_pos rfl]; rfl)
              omega
            · rw [A2.len, apps_len, A.len]
            · intro t x hx
              exact (F2 t x hx).imp (fun h => h.1) (fun h => h)
            · intro x hx
              rcases F2 _ x hx with ⟨_, h⟩ | h
              · omega
              · exact h
            · constructor
              · rintro (h | rfl)
                · refine ⟨h.1, ?_⟩
                  rw [hset j h.1]
                  split
                  · rfl
                  · exact h.2
                · exact ⟨h1, by rw [hset j h1, if_pos rfl]⟩
              · rintro ⟨h4, h5⟩
                rw [hset j h4] at h5
                by_cases hji : j = i
                · exact .inr hji
                · rw [if_neg hji] at h5
                  exact .inl ⟨h4, h5⟩
            · intro j o' hj ho' e he
              have hold : e < ops.size ∧ listed.getD e true = true := by
                rw [hset j hj.1] at hj
                by_cases hji : j = i
                · subst hji
                  rw [hp] at ho'
                  cases ho'
                  exact hai e he
                · rw [if_neg hji] at hj
                  exact hcl j o' hj ho' e he
              refine ⟨hold.1, ?_⟩
              rw [hset e hold.1]
              split
              · rfl
              · exact hold.2
          unfold wpOp
          rw [ho]
          simp only
          split
          · rename_i hw
            rw [if_pos hw] at st
            exact .inl st
          · rename_i hw
            rw [if_neg hw] at st
            exact st
      exact key ops.size (Array.replicate ops.size false) γ (preKill os T σ) a w.drew (by simp) (by exact Nat.le_trans (List.length_filter_le _ _) (by simp)) (G.drew.preKill os) hn ⟨(preKill_get os T σ).1, fun t ht => .inr ⟨fun i hi => by
        obtain ⟨h1, h2⟩ := hi
        simp [Array.getD, h1] at h2, by rw [s0]⟩⟩ (fun i o hi => by
        obtain ⟨h1, h2⟩ := hi
        simp [Array.getD, h1] at h2)
    · cases h

/-- What the functions of a table are run to, they do. -/
theorem ex_ok {tab : FuncId → Option Fd} {prim : FuncId → Option (List AV → List AV → Option (AV × List AV))} {k : Nat} (hfol : P.follows .mixedOrders = true) (hT : TabOk P tab) (hP : ∀ f g, prim f = some g → ∀ ys r, g ys [] = some (r, []) → FnOk P f ys r) {d : Nat} {f : FuncId} {ys : List AV} {r : AV} (h : ex tab prim k d f ys [] = some (r, [])) : FnOk P f ys r :=
  ex_sound hT hP (fun _ _ _ hE => draw_sound hfol hE) d f ys r h
end
end Go.Ev

/-! text E35 -/
set_option linter.unusedVariables false
set_option linter.unusedSimpArgs false
namespace Go.Ev
open Go.RowKit

/-! ### What comes in: from a reading to abstract values -/
/-- An element, by its cells. -/
def elD (g : Option Nat) (ys : List AV) : Option AV :=
  match g, ys with
  | some _, ys => some (.agg ys)
  | none, [y] => if single y then some y else none
  | _, _ => none
def fsD {H : Type} (P : Program) (f : TypeId → DataW H → Option (List AV)) : Nat → List Field → List (DataW H) → Option (List AV)
  | _, [], [] => some []
  | off, fl :: fs, d :: ds => match f fl.type d, fsD P f (off + P.cellsOf fl.type) fs ds with
    | some xs, some ys => if fl.offset = off ∧ xs.length = P.cellsOf fl.type then some (xs ++ ys) else none
    | _, _ => none
  | _, _, _ => none
/-- The cells of a value of a type, by what was read. -/
def avD {H : Type} (P : Program) : Nat → TypeId → DataW H → Option (List AV)
  | 0, _, _ => none
  | n + 1, t, d => match P.underlying t, d with
    | some .bool, .lit (.bool b) => some [.bool b]
    | some (.int _), .lit (.int k m) => some [.int k m]
    | some .string, .lit (.string bs) => some [.str ⟨bs.toArray⟩]
    | some (.pointer _), .nil => some [.nilp]
    | some (.slice e), .nil => some [.sl false false (P.cellsOf e) []]
    | some (.slice e), .slice elems _ => match aggOf P e with
      | some g => if 0 < P.cellsOf e then (mapOpt (fun d => match avD P n e d with
        | some ys => if ys.length = P.cellsOf e then elD g ys else none
        | none => none) elems).map fun xs => [.sl false false (P.cellsOf e) xs] else none
      | none => none
    | some (.struct fs), .agg ds => fsD P (avD P n) 0 fs.toList ds
    | some (.array m e), .agg ds => (mapOpt (fun d => match avD P n e d with
        | some ys => if ys.length = P.cellsOf e then some ys else none
        | none => none) ds).map List.flatten
    | _, _ => none

/-- All that is there stays as it is. -/
def cellsIn (W : World) (g : Nat) : Nat :=
  match W.heap[g]? with
  | some (.cells cs _ _) => cs.size
  | _ => 0
def ghIn (W : World) : Gh := ⟨W.heap.size, cellsIn W, fun _ => none, fun _ => none, fun _ => False⟩
theorem cellsIn_new (W : World) : ∀ g, W.heap.size ≤ g → cellsIn W g = 0 := by
  intro g hg
  unfold cellsIn
  rw [Array.getElem?_eq_none hg]
theorem cell_in {W : World} {a : Addr} {v : Value} (h : W.cell? a = some v) : a = ⟨a.block, a.off, none⟩ ∧ a.off < cellsIn W a.block := by
  unfold World.cell? at h
  unfold cellsIn
  cases hb : W.heap[a.block]? with
  | none => simp [hb] at h
  | some ob =>
    cases ob with
    | cells cs e f =>
      simp only [hb] at h ⊢
      split at h
      · cases h
      · rename_i hs
        refine ⟨?_, (Array.getElem?_eq_some_iff.1 h).1⟩
        cases a with
        | mk b o s =>
          cases s with
          | none => rfl
          | some _ => simp at hs
    | _ => simp [hb] at h

theorem mapM_some {α β : Type} {f : α → Option β} : ∀ {l : List α} {r : List β}, l.mapM f = some r → r.length = l.length ∧ ∀ (j : Nat) (x : α), l[j]? = some x → ∃ y, r[j]? = some y ∧ f x = some y
  | [], r, h => by
    simp at h
    subst h
    exact ⟨rfl, fun j x h => by simp at h⟩
  | x :: l, r, h => by
    rw [List.mapM_cons] at h
    cases h1 : f x with
    | none => simp [h1] at h
    | some y =>
      cases h2 : l.mapM f with
      | none => simp [h1, h2] at h
      | some ys =>
        simp [h1, h2] at h
        subst h
        obtain ⟨e1, e2⟩ := mapM_some h2
        refine ⟨by simp [e1], fun j z hz => ?_⟩
        cases j with
        | zero => simp at hz; subst hz; exact ⟨y, rfl, h1⟩
        | succ j => simpa using e2 j z (by simpa using hz)
theorem cells_in {W : World} {base n : Nat} {a : Addr} {cs : List Value} (h : W.cells? base a n = some cs) : cs.length = n ∧ ∀ (j : Nat), j < n → ∃ u, cs[j]? = some u ∧ W.cell? (a.add j) = some u := by
  unfold World.cells? at h
  split at h
  · obtain ⟨e1, e2⟩ := mapM_some h
    refine ⟨by simpa using e1, fun j hj => ?_⟩
    obtain ⟨u, h1, h2⟩ := e2 j j (by simp [hj])
    exact ⟨u, h1, h2⟩
  · cases h
theorem fsD_V {H : Type} {P : Program} {W : World} {f : TypeId → DataW H → Option (List AV)} {tr : TypeId → List Value → Option (DataW H × List MemPlace)} (hf : ∀ t cs d ps ys, tr t cs = some (d, ps) → f t d = some ys → cs.length = ys.length → VL (ghIn W) W ys cs) :
    ∀ (fs : List Field) (off : Nat) (cs : List Value) (xs : List (DataW H × List MemPlace)) (ys : List AV), (∀ (i : Nat) (fl : Field), fs[i]? = some fl → tr fl.type ((cs.drop fl.offset).take (P.cellsOf fl.type)) = xs[i]?) → fsD P f off fs (xs.map (·.1)) = some ys → cs.length = off + ys.length → VL (ghIn W) W ys (cs.drop off)
  | [], off, cs, xs, ys, h1, h2, hl => by
    cases xs with
    | cons _ _ => simp [fsD] at h2
    | nil =>
      simp only [List.map_nil, fsD, Option.some.injEq] at h2
      subst h2
      rw [List.drop_eq_nil_of_le (by simp at hl; omega)]
      rfl
  | fl :: fs, off, cs, xs, ys, h1, h2, hl => by
    cases xs with
    | nil => simp [fsD] at h2
    | cons x xs' =>
      have h3 : tr fl.type ((cs.drop fl.offset).take (P.cellsOf fl.type)) = some x := h1 0 fl rfl
      simp only [List.map_cons, fsD] at h2
      cases h5 : f fl.type x.1 with
      | none => simp [h5] at h2
      | some y1 =>
        cases h6 : fsD P f (off + P.cellsOf fl.type) fs (xs'.map (·.1)) with
        | none => simp [h5, h6] at h2
        | some y2 =>
          simp only [h5, h6] at h2
          split at h2
          · rename_i hc
            obtain ⟨c1, c2⟩ := hc
            simp only [Option.some.injEq] at h2
            subst h2
            have v1 := hf fl.type _ x.1 x.2 y1 h3 h5 (by rw [List.length_take, List.length_drop, c1, c2]; simp at hl; omega)
            have v2 := fsD_V hf fs (off + P.cellsOf fl.type) cs xs' y2 (fun i f' hi => by simpa using h1 (i + 1) f' (by simpa using hi)) h6 (by simp at hl; omega)
            rw [c1] at v1
            have hsplit : cs.drop off = (cs.drop off).take (P.cellsOf fl.type) ++ cs.drop (off + P.cellsOf fl.type) := by
              rw [← List.drop_drop, List.take_append_drop]
            rw [hsplit]
            exact VL_app v1 v2
          · cases h2
where
  VL_app {γ : Gh} {w : World} : ∀ {xs ys : List AV} {us vs : List Value}, VL γ w xs us → VL γ w ys vs → VL γ w (xs ++ ys) (us ++ vs)
    | [], _, _, _, h, h2 => by cases h; exact h2
    | x :: xs, _, _, _, ⟨v, r, e, h1, h2⟩, h3 => by subst e; exact ⟨v, r ++ _, rfl, h1, VL_app h2 h3⟩

theorem VL_flat {γ : Gh} {w : World} {z : Nat} : ∀ {yss : List (List AV)} {us : List Value}, (∀ y ∈ yss, y.length = z) → us.length = yss.length * z → (∀ (i : Nat) (y : List AV), yss[i]? = some y → VL γ w y ((us.drop (i * z)).take z)) → VL γ w yss.flatten us
  | [], us, _, hl, _ => by
    have : us = [] := List.eq_nil_of_length_eq_zero (by simpa using hl)
    subst this
    rfl
  | y :: yss, us, hz, hl, h => by
    have h0 := h 0 y rfl
    rw [Nat.zero_mul, List.drop_zero] at h0
    have hl' : us.length = yss.length * z + z := by rw [hl, List.length_cons, Nat.add_mul, Nat.one_mul]
    have h1 := VL_flat (γ := γ) (w := w) (z := z) (yss := yss) (us := us.drop z) (fun y hy => hz y (List.mem_cons_of_mem _ hy)) (by rw [List.length_drop, hl']; omega) (fun i y hy => by
      have := h (i + 1) y (by simpa using hy)
      rwa [List.drop_drop, show z + i * z = (i + 1) * z by rw [Nat.add_mul]; omega])
    rw [List.flatten_cons, ← List.take_append_drop z us]
    exact fsD_V.VL_app h0 h1

/-- What is read at the call's begin, as abstract values. -/
theorem open_V {H : Type} {enc : TypeId × Value → H} {P : Program} {W : World} {base : Nat} {sp : Nat → Bool} {held : Bool} : ∀ (m n : Nat) (t : TypeId) (cs : List Value) (d : DataW H) (ps : List MemPlace) (ys : List AV),
    DataW.trod enc P W base sp held n t cs = some (d, ps) → avD P m t d = some ys → cs.length = ys.length → VL (ghIn W) W ys cs
  | 0, n, t, cs, d, ps, ys, _, h, _ => by simp [avD] at h
  | m + 1, n, t, cs, d, ps, ys, h, ha, hcl => by
    have IH := fun n => open_V (enc := enc) (P := P) (W := W) (base := base) (sp := sp) (held := held) m n
    simp only [avD] at ha
    cases hu : P.underlying t with
    | none => simp [hu] at ha
    | some td =>
      rw [hu] at ha
      cases td with
      | bool =>
        obtain ⟨b, rfl, e⟩ := DataW.trod_bool hu h
        cases e
        simp only [Option.some.injEq] at ha
        subst ha
        exact ⟨_, _, rfl, rfl, rfl⟩
      | int k =>
        obtain ⟨b, rfl, e, _⟩ := DataW.trod_int hu h
        cases e
        simp only [Option.some.injEq] at ha
        subst ha
        exact ⟨_, _, rfl, rfl, rfl⟩
      | string =>
        obtain ⟨b, rfl, e, _⟩ := DataW.trod_string hu h
        cases e
        simp only [Option.some.injEq] at ha
        subst ha
        exact ⟨_, _, rfl, by show _ = _; simp, rfl⟩
      | pointer e =>
        rcases DataW.trod_pointer hu h with ⟨rfl, e⟩ | ⟨a, cs', y, n', _, rfl, e, _⟩
        · cases e
          simp only [Option.some.injEq] at ha
          subst ha
          exact ⟨_, _, rfl, rfl, rfl⟩
        · cases e; cases ha
      | slice e =>
        rcases DataW.trod_slice hu h with ⟨rfl, e⟩ | ⟨a, len, cap, elems, rest, n', _, rfl, e1, hb, hlc, _, hel, helem, _⟩
        · cases e
          simp only [Option.some.injEq] at ha
          subst ha
          exact ⟨_, _, rfl, ⟨none, 0, rfl, Nat.le_refl _, fun _ => ⟨rfl, rfl, rfl⟩, (fun _ _ h => nomatch h), fun h => absurd rfl h⟩, rfl⟩
        · cases e1
          simp only at ha
          cases hg : aggOf P e with
          | none => simp [hg] at ha
          | some g =>
            simp only [hg] at ha
            split at ha
            · rename_i hz
              obtain ⟨xs, hxs, rfl⟩ := map_some ha
              obtain ⟨m1, m2⟩ := mapOpt_get hxs
              rw [List.length_map] at m1
              -- element i, its cells
              have hi : ∀ (i : Nat) (x : AV), xs[i]? = some x → ∃ ys cs, cs.length = P.cellsOf e ∧ ys.length = P.cellsOf e ∧ elD g ys = some x ∧ VL (ghIn W) W ys cs ∧ ∀ j, j < P.cellsOf e → ∃ u, cs[j]? = some u ∧ W.cell? ((a.add (i * P.cellsOf e)).add j) = some u := by
                intro i x hx
                have hlt : i < len := by
                  have := (List.getElem?_eq_some_iff.1 hx).1
                  omega
                obtain ⟨d, hd, hdx⟩ := m2 i x hx
                rw [List.getElem?_map] at hd
                have hE := helem i hlt
                cases he : elems[i]? with
                | none => rw [he] at hd; cases hd
                | some z =>
                  rw [he] at hd hE
                  simp only [Option.map_some, Option.some.injEq] at hd
                  subst hd
                  obtain ⟨cs, hc, ht⟩ := bind_some hE
                  obtain ⟨hcl', hcc⟩ := cells_in hc
                  cases hy : avD P m e z.1 with
                  | none => simp [hy] at hdx
                  | some ys =>
                    simp only [hy] at hdx
                    split at hdx
                    · rename_i hyl
                      exact ⟨ys, cs, hcl', hyl, hdx, IH n' e cs z.1 z.2 ys ht hy (by rw [hcl', hyl]), hcc⟩
                    · cases hdx
              refine ⟨_, _, rfl, ⟨some a, cap, by rw [m1, hel], by rw [m1, hel]; exact hlc, (fun e => by cases e), (fun _ _ e => nomatch e), fun hne => ?_⟩, rfl⟩
              have hpos : 0 < xs.length := List.length_pos_iff.2 hne
              obtain ⟨ys0, cs0, _, _, _, _, hc0⟩ := hi 0 _ (List.getElem?_eq_getElem hpos)
              obtain ⟨u0, _, hu0⟩ := hc0 0 hz
              have ha : a = ⟨a.block, a.off, none⟩ := by
                have := (cell_in hu0).1
                rw [Nat.zero_mul] at this
                simpa [Addr.add] using this
              refine ⟨a.block, a.off, by rw [← ha], ?_, VS_mk fun i x hx => ?_⟩
              · obtain ⟨ys1, cs1, _, _, _, _, hc1⟩ := hi (xs.length - 1) _ (List.getElem?_eq_getElem (by omega))
                obtain ⟨u1, _, hu1⟩ := hc1 (P.cellsOf e - 1) (by omega)
                rw [ha, add_none, add_none] at hu1
                have := (cell_in hu1).2
                simp only at this
                show a.off + xs.length * P.cellsOf e ≤ cellsIn W a.block
                have e1 : xs.length * P.cellsOf e = (xs.length - 1) * P.cellsOf e + P.cellsOf e := by
                  rw [← Nat.succ_mul]; congr 1; omega
                omega
              · obtain ⟨ys, cs, l1, l2, hel', hv, hc⟩ := hi i x hx
                have hvc : VC (ghIn W) W ys a.block (a.off + i * P.cellsOf e) := VC_of_VL hv fun j u hj => by
                  obtain ⟨u', h1, h2⟩ := hc j (by have := (List.getElem?_eq_some_iff.1 hj).1; omega)
                  rw [hj] at h1
                  cases h1
                  rw [ha, add_none, add_none] at h2
                  exact h2
                have hcx : cellsOf x = ys := by
                  cases g with
                  | some k => simp only [elD, Option.some.injEq] at hel'; subst hel'; rfl
                  | none =>
                    match ys, hel' with
                    | [y], hel' =>
                      simp only [elD] at hel'
                      split at hel'
                      · rename_i hs
                        cases hel'
                        cases x <;> first | rfl | cases hs
                      · cases hel'
                exact VE_of (by rw [hcx]; exact l2) (by rw [hcx]; exact hvc)
            · cases ha
      | struct fs =>
        obtain ⟨xs, n', rfl, e, hcs, hxl, hx⟩ := DataW.trod_struct hu h
        cases e
        simp only at ha
        have := fsD_V (P := P) (W := W) (f := avD P m) (tr := DataW.trod enc P W base sp held n') (fun t cs d ps ys h1 h2 h3 => IH n' t cs d ps ys h1 h2 h3) fs.toList 0 cs xs ys (fun i f hf => hx i f (by simpa using hf)) ha (by rw [Nat.zero_add]; exact hcl)
        simpa using this
      | array k e =>
        obtain ⟨xs, n', rfl, e1, hcs, hxl, hx⟩ := DataW.trod_array hu h
        cases e1
        simp only at ha
        obtain ⟨yss, hy, rfl⟩ := map_some ha
        obtain ⟨m1, m2⟩ := mapOpt_get hy
        rw [List.length_map] at m1
        have hall : ∀ (i : Nat) (y : List AV), yss[i]? = some y → ∃ z, xs[i]? = some z ∧ avD P m e z.1 = some y ∧ y.length = P.cellsOf e := by
          intro i y hyi
          obtain ⟨d, hd, hdx⟩ := m2 i y hyi
          rw [List.getElem?_map] at hd
          cases hz : xs[i]? with
          | none => rw [hz] at hd; cases hd
          | some z =>
            rw [hz] at hd
            simp only [Option.map_some, Option.some.injEq] at hd
            subst hd
            cases hav : avD P m e z.1 with
            | none => simp [hav] at hdx
            | some y' =>
              simp only [hav] at hdx
              split at hdx
              · rename_i hl; cases hdx; exact ⟨z, rfl, hav, hl⟩
              · cases hdx
        have hlen : cs.length = yss.length * P.cellsOf e := by
          rw [hcl]
          have : ∀ (l : List (List AV)), (∀ y ∈ l, y.length = P.cellsOf e) → l.flatten.length = l.length * P.cellsOf e := by
            intro l
            induction l with
            | nil => intro _; simp
            | cons y l ih => intro h; rw [List.flatten_cons, List.length_append, ih fun y hy => h y (List.mem_cons_of_mem _ hy), h y (List.mem_cons_self ..), List.length_cons, Nat.add_mul]; omega
          exact this yss fun y hy => by
            obtain ⟨i, hi, e⟩ := List.getElem_of_mem hy
            obtain ⟨z, _, _, hl⟩ := hall i y (by rw [← e]; exact List.getElem?_eq_getElem hi)
            exact hl
        refine VL_flat (z := P.cellsOf e) (fun y hy => ?_) hlen fun i y hyi => ?_
        · obtain ⟨i, hi, e⟩ := List.getElem_of_mem hy
          obtain ⟨z, _, _, hl⟩ := hall i y (by rw [← e]; exact List.getElem?_eq_getElem hi)
          exact hl
        · obtain ⟨z, hz, hav, hl⟩ := hall i y hyi
          have hik : i < k := by
            have := (List.getElem?_eq_some_iff.1 hz).1
            omega
          have ht := hx i hik
          rw [hz] at ht
          refine IH n' e _ z.1 z.2 y ht hav ?_
          rw [List.length_take, List.length_drop, hl, hlen]
          have hi2 := (List.getElem?_eq_some_iff.1 hyi).1
          have : (i + 1) * P.cellsOf e ≤ yss.length * P.cellsOf e := Nat.mul_le_mul_right _ hi2
          rw [Nat.add_mul] at this
          omega
      | _ => simp at ha
end Go.Ev
