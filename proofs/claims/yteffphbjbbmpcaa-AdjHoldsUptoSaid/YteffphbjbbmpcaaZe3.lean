import Derived.Test.YteffphbjbbmpcaaZe2
import Derived.Test.YteffphbjbbmpcaaRows
import Derived.LoopN
import Derived.IntWalk
import Derived.WideKeyArgs
import Derived.ChangeSame
import Derived.ProofKit
import Derived.JoinedCond
import Derived.KernelRfl

/-! text E36 -/
set_option linter.unusedVariables false
set_option linter.unusedSimpArgs false
namespace Go.Ev
open Go.RowKit
open Go.Proofs.Yteffphbjbbmpcaa (Rows.uptoBulk Rows.uptoBulkAll)

/-! ### What comes in: its shape, and how much it is -/
def okFs (P : Program) (ok : TypeId → Bool) : Nat → List Field → Bool
  | _, [] => true
  | off, f :: fs => f.offset == off && ok f.type && okFs P ok (off + P.cellsOf f.type) fs
def sumFs (P : Program) : List Field → Nat
  | [] => 0
  | f :: fs => P.cellsOf f.type + sumFs P fs
/-- Types whose readings have their abstract values. -/
def okT (P : Program) : Nat → TypeId → Bool
  | 0, _ => false
  | m + 1, t => match P.underlying t with
    | some .bool | some (.int _) | some .string => P.cellsOf t == 1
    | some (.slice e) => P.cellsOf t == 1 && okT P m e && decide (0 < P.cellsOf e) && (match aggOf P e with
      | some (some _) => true
      | some none => P.cellsOf e == 1
      | none => false)
    | some (.struct fs) => okFs P (okT P m) 0 fs.toList && sumFs P fs.toList == P.cellsOf t
    | some (.array k e) => okT P m e && k * P.cellsOf e == P.cellsOf t
    | _ => false
def TyFs (ty : TypeId → List AV → Prop) : List Field → List AV → Prop
  | [], ys => ys = []
  | f :: fs, ys => ∃ a b, ys = a ++ b ∧ ty f.type a ∧ TyFs ty fs b
/-- Abstract values of a type. -/
def Ty (P : Program) : Nat → TypeId → List AV → Prop
  | 0, _, _ => False
  | m + 1, t, ys => match P.underlying t with
    | some .bool => ∃ b, ys = [.bool b]
    | some (.int k) => ∃ n, k.min ≤ n ∧ n ≤ k.max ∧ ys = [.int k n]
    | some .string => ∃ s, ys = [.str s]
    | some (.slice e) => ∃ xs, ys = [.sl false false (P.cellsOf e) xs] ∧ ∀ x ∈ xs, ∃ zs, Ty P m e zs ∧ elD ((aggOf P e).getD none) zs = some x
    | some (.struct fs) => TyFs (Ty P m) fs.toList ys
    | some (.array k e) => ∃ yss : List (List AV), yss.length = k ∧ ys = yss.flatten ∧ ∀ y ∈ yss, Ty P m e y
    | _ => False

/-- How much an abstract value holds. -/
def szA : AV → Nat
  | .str s => s.size + 1
  | .sl _ _ _ xs => szL xs + 1
  | .agg cs => szL cs
  | _ => 1
where
  szL : List AV → Nat
    | [] => 0
    | x :: xs => szA x + szL xs
theorem szL_append : ∀ (xs ys : List AV), szA.szL (xs ++ ys) = szA.szL xs + szA.szL ys
  | [], ys => by simp [szA.szL]
  | x :: xs, ys => by simp [szA.szL, szL_append xs ys]; omega

theorem mapOpt_some {α β : Type} {f : α → Option β} : ∀ {l : List α}, (∀ x ∈ l, ∃ y, f x = some y) → ∃ r, mapOpt f l = some r
  | [], _ => ⟨[], rfl⟩
  | x :: l, h => by
    obtain ⟨y, hy⟩ := h x (List.mem_cons_self ..)
    obtain ⟨r, hr⟩ := mapOpt_some (l := l) fun z hz => h z (List.mem_cons_of_mem _ hz)
    exact ⟨y :: r, by simp [mapOpt, hy, hr]⟩
theorem Ty_single {P : Program} {m : Nat} {e : TypeId} {ys : List AV} (hg : aggOf P e = some none) (h : Ty P m e ys) : ∃ y, ys = [y] ∧ single y = true := by
  obtain ⟨d, i, h1, h2, h3, h4⟩ := aggOf_cases hg
  cases m with
  | zero => exact h.elim
  | succ m =>
    simp only [Ty, h1] at h
    cases d with
    | struct fs => exact absurd rfl (h3 fs)
    | array n e => exact absurd rfl (h4 n e)
    | bool => obtain ⟨b, rfl⟩ := h; exact ⟨_, rfl, rfl⟩
    | int k => obtain ⟨b, _, _, rfl⟩ := h; exact ⟨_, rfl, rfl⟩
    | string => obtain ⟨b, rfl⟩ := h; exact ⟨_, rfl, rfl⟩
    | slice e => obtain ⟨xs, rfl, _⟩ := h; exact ⟨_, rfl, rfl⟩
    | _ => exact h.elim

variable {H : Type} {enc : TypeId × Value → H} {P : Program} {W : World} {base : Nat} {sp : Nat → Bool} {held : Bool}

/-- One reading's abstract values, their shape and size. -/
def Opened (P : Program) (m : Nat) (t : TypeId) (d : DataW H) : Prop := ∃ ys, avD P m t d = some ys ∧ Ty P m t ys ∧ ys.length = P.cellsOf t ∧ szA.szL ys ≤ Rows.uptoBulk d

theorem fs_open {m : Nat} : ∀ (fs : List Field) (off : Nat) (ds : List (DataW H)), okFs P (okT P m) off fs = true → ds.length = fs.length → (∀ (i : Nat) (f : Field) (d : DataW H), fs[i]? = some f → ds[i]? = some d → Opened P m f.type d) →
    ∃ ys, fsD P (avD P m) off fs ds = some ys ∧ TyFs (Ty P m) fs ys ∧ ys.length = sumFs P fs ∧ szA.szL ys ≤ Rows.uptoBulkAll ds
  | [], off, [], _, _, _ => ⟨[], rfl, rfl, rfl, by simp [szA.szL]⟩
  | [], _, _ :: _, _, h, _ => by simp at h
  | _ :: _, _, [], _, h, _ => by simp at h
  | f :: fs, off, d :: ds, h, hl, ho => by
    simp only [okFs, Bool.and_eq_true, beq_iff_eq] at h
    obtain ⟨xs, a1, a2, a3, a4⟩ := ho 0 f d rfl rfl
    obtain ⟨ys, b1, b2, b3, b4⟩ := fs_open fs (off + P.cellsOf f.type) ds h.2 (by simpa using hl) fun i f' d' h1 h2 => ho (i + 1) f' d' (by simpa using h1) (by simpa using h2)
    refine ⟨xs ++ ys, ?_, ⟨xs, ys, rfl, a2, b2⟩, by simp [sumFs, a3, b3], ?_⟩
    · simp only [fsD, a1, b1]
      rw [if_pos ⟨h.1.1, a3⟩]
    · rw [szL_append]
      simp only [Rows.uptoBulkAll]
      omega
theorem list_open {m : Nat} {e : TypeId} : ∀ (ds : List (DataW H)), (∀ d ∈ ds, Opened P m e d) → ∀ (g : List AV → Option AV), (∀ ys, Ty P m e ys → ys.length = P.cellsOf e → ∃ x, g ys = some x ∧ szA x ≤ szA.szL ys) →
    ∃ xs, mapOpt (fun d => match avD P m e d with
      | some ys => if ys.length = P.cellsOf e then g ys else none
      | none => none) ds = some xs ∧ (∀ x ∈ xs, ∃ zs, Ty P m e zs ∧ g zs = some x) ∧ szA.szL xs ≤ Rows.uptoBulkAll ds
  | [], _, g, _ => ⟨[], rfl, (fun x h => nomatch h), by simp [szA.szL]⟩
  | d :: ds, h, g, hg => by
    obtain ⟨ys, a1, a2, a3, a4⟩ := h d (List.mem_cons_self ..)
    obtain ⟨x, g1, g2⟩ := hg ys a2 a3
    obtain ⟨xs, b1, b2, b3⟩ := list_open ds (fun d hd => h d (List.mem_cons_of_mem _ hd)) g hg
    refine ⟨x :: xs, ?_, fun z hz => ?_, ?_⟩
    · simp only [mapOpt, a1, if_pos a3, g1, b1]
    · rcases List.mem_cons.1 hz with rfl | hz
      · exact ⟨ys, a2, g1⟩
      · exact b2 z hz
    · simp only [szA.szL, Rows.uptoBulkAll]
      omega
theorem arr_open {m : Nat} {e : TypeId} : ∀ (ds : List (DataW H)), (∀ d ∈ ds, Opened P m e d) →
    ∃ yss, mapOpt (fun d => match avD P m e d with
      | some ys => if ys.length = P.cellsOf e then some ys else none
      | none => none) ds = some yss ∧ yss.length = ds.length ∧ (∀ y ∈ yss, Ty P m e y) ∧ yss.flatten.length = ds.length * P.cellsOf e ∧ szA.szL yss.flatten ≤ Rows.uptoBulkAll ds
  | [], _ => ⟨[], rfl, rfl, (fun x h => nomatch h), by simp, by simp [szA.szL]⟩
  | d :: ds, h => by
    obtain ⟨ys, a1, a2, a3, a4⟩ := h d (List.mem_cons_self ..)
    obtain ⟨xs, b1, b2, b3, b4, b5⟩ := arr_open ds (fun d hd => h d (List.mem_cons_of_mem _ hd))
    refine ⟨ys :: xs, ?_, by simp [b2], fun z hz => ?_, by simp [a3, b4, Nat.add_mul]; omega, ?_⟩
    · simp only [mapOpt, a1, if_pos a3, b1]
    · rcases List.mem_cons.1 hz with rfl | hz
      · exact a2
      · exact b3 z hz
    · rw [List.flatten_cons, szL_append]
      simp only [Rows.uptoBulkAll]
      omega

theorem open_Ty : ∀ (m n : Nat) (t : TypeId) (cs : List Value) (d : DataW H) (ps : List MemPlace), DataW.trod enc P W base sp held n t cs = some (d, ps) → okT P m t = true → Opened P m t d
  | 0, _, _, _, _, _, _, h => by simp [okT] at h
  | m + 1, n, t, cs, d, ps, h, hok => by
    have IH := fun n => open_Ty m n
    simp only [okT] at hok
    unfold Opened
    simp only [avD, Ty]
    cases hu : P.underlying t with
    | none => simp [hu] at hok
    | some td =>
      rw [hu] at hok
      cases td with
      | bool =>
        obtain ⟨b, rfl, e⟩ := DataW.trod_bool hu h
        cases e
        exact ⟨_, rfl, ⟨b, rfl⟩, (beq_iff_eq.1 hok).symm, by simp [szA.szL, szA, Rows.uptoBulk]⟩
      | int k =>
        obtain ⟨b, rfl, e, hw⟩ := DataW.trod_int hu h
        cases e
        simp only [Lit.wf, Bool.and_eq_true, decide_eq_true_eq] at hw
        exact ⟨_, rfl, ⟨b, hw.1, hw.2, rfl⟩, (beq_iff_eq.1 hok).symm, by simp [szA.szL, szA, Rows.uptoBulk]⟩
      | string =>
        obtain ⟨b, rfl, e, _⟩ := DataW.trod_string hu h
        cases e
        refine ⟨_, rfl, ⟨_, rfl⟩, (beq_iff_eq.1 hok).symm, ?_⟩
        simp only [szA.szL, szA, Rows.uptoBulk]
        have : (⟨b.data.toList.toArray⟩ : ByteArray).size = b.data.toList.length := by
          show b.data.toList.toArray.size = _
          rw [List.size_toArray]
        rw [this]
        omega
      | slice e =>
        simp only [Bool.and_eq_true, decide_eq_true_eq, beq_iff_eq] at hok
        obtain ⟨⟨⟨o1, o2⟩, o3⟩, o4⟩ := hok
        rcases DataW.trod_slice hu h with ⟨rfl, e⟩ | ⟨a, len, cap, elems, rest, n', _, rfl, e1, _, _, _, hel, helem, _⟩
        · cases e
          exact ⟨_, rfl, ⟨[], rfl, fun x h => nomatch h⟩, o1.symm, by simp [szA.szL, szA, Rows.uptoBulk]⟩
        · cases e1
          cases hg : aggOf P e with
          | none => simp [hg] at o4
          | some g =>
            simp only [hg] at o4
            have hop : ∀ d ∈ elems.map (·.1), Opened P m e d := by
              intro d hd
              obtain ⟨z, hz, rfl⟩ := List.mem_map.1 hd
              obtain ⟨i, hi, rfl⟩ := List.getElem_of_mem hz
              have hE := helem i (by omega)
              rw [List.getElem?_eq_getElem hi] at hE
              obtain ⟨cs, hc, ht⟩ := bind_some hE
              exact IH n' e cs _ _ ht o2
            obtain ⟨xs, x1, x2, x3⟩ := list_open (elems.map (·.1)) hop (elD g) fun ys hty hys => by
              cases g with
              | some k => exact ⟨.agg ys, rfl, by simp [szA]⟩
              | none =>
                obtain ⟨y, rfl, hs⟩ := Ty_single hg hty
                exact ⟨y, by simp [elD, hs], by simp [szA.szL]⟩
            refine ⟨[.sl false false (P.cellsOf e) xs], by simp only [hg, if_pos o3]; exact congrArg (Option.map fun xs => [AV.sl false false (P.cellsOf e) xs]) x1, ⟨xs, rfl, by simpa [hg] using x2⟩, o1.symm, ?_⟩
            simp only [szA.szL, szA, Rows.uptoBulk]
            omega
      | struct fs =>
        simp only [Bool.and_eq_true, beq_iff_eq] at hok
        obtain ⟨xs, n', rfl, e, hcs, hxl, hx⟩ := DataW.trod_struct hu h
        cases e
        obtain ⟨ys, y1, y2, y3, y4⟩ := fs_open (P := P) (m := m) fs.toList 0 (xs.map (·.1)) hok.1 (by simp [hxl]) fun i f d hf hd => by
          rw [List.getElem?_map] at hd
          cases hz : xs[i]? with
          | none => rw [hz] at hd; cases hd
          | some z =>
            rw [hz] at hd
            simp only [Option.map_some, Option.some.injEq] at hd
            subst hd
            have ht := hx i f (by simpa using hf)
            rw [hz] at ht
            have hokf : ∀ (l : List Field) (off i : Nat) (f : Field), okFs P (okT P m) off l = true → l[i]? = some f → okT P m f.type = true := by
              intro l
              induction l with
              | nil => intro off i f _ h; simp at h
              | cons g l ih =>
                intro off i f h hf
                simp only [okFs, Bool.and_eq_true] at h
                cases i with
                | zero => simp at hf; subst hf; exact h.1.2
                | succ i => exact ih _ i f h.2 (by simpa using hf)
            exact IH n' f.type _ _ _ ht (hokf fs.toList 0 i f hok.1 hf)
        refine ⟨ys, y1, y2, by rw [y3]; exact hok.2, ?_⟩
        simp only [Rows.uptoBulk]
        omega
      | array k e =>
        simp only [Bool.and_eq_true, beq_iff_eq] at hok
        obtain ⟨xs, n', rfl, e1, hcs, hxl, hx⟩ := DataW.trod_array hu h
        cases e1
        obtain ⟨yss, y1, y2, y3, y4, y5⟩ := arr_open (P := P) (m := m) (e := e) (xs.map (·.1)) fun d hd => by
          obtain ⟨z, hz, rfl⟩ := List.mem_map.1 hd
          obtain ⟨i, hi, rfl⟩ := List.getElem_of_mem hz
          have ht := hx i (by omega)
          rw [List.getElem?_eq_getElem hi] at ht
          exact IH n' e _ _ _ ht hok.1
        refine ⟨yss.flatten, congrArg (Option.map List.flatten) y1, ⟨yss, by simpa [hxl] using y2, rfl, y3⟩, by rw [y4]; simp [hxl, hok.2], ?_⟩
        simp only [Rows.uptoBulk]
        omega
      | _ => simp at hok
end Go.Ev

/-! text E37 -/
set_option linter.unusedVariables false
set_option linter.unusedSimpArgs false
namespace Go.Ev
open Go.RowKit

/-! ### What a piece of code does, as a law -/
section
variable {P : Program} {T : List Nat} {w0 : World} {St0 : Nat → Nat} {γ : Gh} {σ : List AV} {a : Act} {w : World} {n : Nat}

def Runs (P : Program) (T : List Nat) (n : Nat) (cd : Cd) (σ : List AV) (Q : Ex × List AV → Prop) : Prop :=
  ∀ c, MatchC P n c cd → ∀ w0 St0 γ a w, GoodAt T w0 St0 γ σ a w → a.tmps.size = n → c.wp P (fun e a w => ∃ r, Q r ∧ After T w0 St0 n r e a w) a w

theorem Runs.mono {cd : Cd} {Q Q' : Ex × List AV → Prop} (h : Runs P T n cd σ Q) (hq : ∀ r, Q r → Q' r) : Runs P T n cd σ Q' :=
  fun c hm w0 St0 γ a w G hn => Code.wp_mono (fun e a w ⟨r, h1, h2⟩ => ⟨r, hq r h1, h2⟩) (h c hm w0 St0 γ a w G hn)

def notMem : AV → Bool
  | .mem _ => false
  | _ => true
/-- Less may be told of a value. -/
inductive LeR : AV → AV → Prop
  | refl {x : AV} : LeR x x
  | junk {x : AV} (h : notMem x = true) : LeR x .junk
  | nilsOwn {f : Bool} {z : Nat} : LeR .nils (.own f z [])
  | nilsSl {fr : Bool} {z : Nat} : LeR .nils (.sl fr false z [])
  | sl {fr nn : Bool} {z : Nat} {xs : List AV} : LeR (.sl fr nn z xs) (.sl false false z xs)
theorem LeR.of_eq {x y : AV} (h : x = y) : LeR x y := by subst h; exact .refl
theorem LeR.refs {x y : AV} (h : LeR x y) : refTo y = none ∨ refTo y = refTo x := by
  cases h <;> first | exact .inr rfl | exact .inl rfl
theorem V_nilsSl {fr : Bool} {z : Nat} {v : Value} (h : v = .slice none 0 0) : V γ w (.sl fr false z []) v :=
  ⟨none, 0, h, Nat.le_refl _, fun _ => ⟨rfl, rfl, rfl⟩, (fun _ h => nomatch h), fun h => absurd rfl h⟩
theorem V_slLess {fr nn : Bool} {z : Nat} {xs : List AV} {v : Value} (h : V γ w (.sl fr nn z xs) v) : V γ w (.sl false false z xs) v := by
  obtain ⟨A, c, h1, h2, h3, h4, h5⟩ := h
  exact ⟨A, c, h1, h2, fun e => ⟨(h3 e).1, rfl, (h3 e).2.2⟩, (fun _ _ h => nomatch h), h5⟩
theorem LeR.R1 {key : Key} {x y : AV} {v : Value} (h : LeR x y) (hr : Go.Ev.R1 γ w key x v) : Go.Ev.R1 γ w key y v := by
  cases h with
  | refl => exact hr
  | junk => exact trivial
  | nilsOwn => exact .inl ⟨hr, rfl⟩
  | nilsSl => exact V_nilsSl hr
  | sl => exact V_slLess hr
theorem LeR.R2 {tmps : Array Value} {s : Nat} {x y : AV} {v : Value} (h : LeR x y) (hr : Go.Ev.R2 γ w tmps s x v) : Go.Ev.R2 γ w tmps s y v := by
  cases h with
  | refl => exact hr
  | junk => exact trivial
  | nilsOwn => exact .inl ⟨hr, rfl⟩
  | nilsSl => exact V_nilsSl hr
  | sl => exact V_slLess hr
def LeS : List AV → List AV → Prop
  | [], [] => True
  | x :: xs, y :: ys => LeR x y ∧ LeS xs ys
  | _, _ => False
theorem LeS.refl : ∀ (σ : List AV), LeS σ σ
  | [] => trivial
  | x :: σ => ⟨.refl, LeS.refl σ⟩
theorem LeS.get : ∀ {σ σ' : List AV}, LeS σ σ' → σ'.length = σ.length ∧ ∀ (i : Nat) (y : AV), σ'[i]? = some y → ∃ x, σ[i]? = some x ∧ LeR x y
  | [], [], _ => ⟨rfl, fun i y h => by simp at h⟩
  | x :: σ, y :: σ', h => by
    obtain ⟨h1, h2⟩ := LeS.get h.2
    refine ⟨by simp [h1], fun i z hz => ?_⟩
    cases i with
    | zero => simp at hz; subst hz; exact ⟨x, rfl, h.1⟩
    | succ i => exact h2 i z (by simpa using hz)
  | [], _ :: _, h => h.elim
  | _ :: _, [], h => h.elim
theorem GoodAt.le (G : GoodAt T w0 St0 γ σ a w) {σ' : List AV} (h : LeS σ σ') : GoodAt T w0 St0 γ σ' a w := by
  obtain ⟨hl, hg⟩ := h.get
  refine ⟨G.hB, G.frm, G.st0, hl.trans G.len, G.defers, fun s y v h1 h2 => ?_, fun y hy => ?_, G.own, G.rho, G.stnew, G.unf, G.nest, fun s y t h1 h2 => ?_, G.fb, G.fn⟩
  · obtain ⟨x, hx, hle⟩ := hg s y h1
    exact hle.R2 (G.slots s x v hx h2)
  · obtain ⟨x, hx, hle⟩ := hg _ y hy
    have hm := G.mem x hx
    cases hle with
    | refl => exact hm
    | junk hn =>
      cases x <;> first | exact hm.elim | cases hn
    | _ => exact hm.elim
  · obtain ⟨x, hx, hle⟩ := hg s y h1
    rcases hle.refs with h | h
    · rw [h] at h2; cases h2
    · exact G.refs s x t hx (h ▸ h2)

theorem Runs.le {cd : Cd} {σ' : List AV} {Q : Ex × List AV → Prop} (h : Runs P T n cd σ' Q) (hl : LeS σ σ') : Runs P T n cd σ Q :=
  fun c hm w0 St0 γ a w G hn => h c hm w0 St0 γ a w (G.le hl) hn
theorem After.le {r : Ex × List AV} {e : Exit} {σ' : List AV} (h : After T w0 St0 n r e a w) (hl : LeS r.2 σ') : After T w0 St0 n (r.1, σ') e a w :=
  ⟨h.1, h.2.1, h.2.2.choose, h.2.2.choose_spec.le hl⟩
/-- Behind it, too, less may be told. -/
theorem Runs.ge {cd : Cd} {Q Q' : Ex × List AV → Prop} (h : Runs P T n cd σ Q) (hq : ∀ e σ1, Q (e, σ1) → ∃ σ2, LeS σ1 σ2 ∧ Q' (e, σ2)) : Runs P T n cd σ Q' :=
  fun c hm w0 St0 γ a w G hn => Code.wp_mono (fun e a w ⟨r, h1, h2⟩ => by
    obtain ⟨σ2, g1, g2⟩ := hq r.1 r.2 h1
    exact ⟨_, g2, h2.le g1⟩) (h c hm w0 St0 γ a w G hn)

theorem Runs.skip {Q : Ex × List AV → Prop} (h : Q (.normal, σ)) : Runs P T n .skip σ Q := by
  intro c hm w0 St0 γ a w G hn
  cases c <;> first | exact hm.elim | skip
  exact wp_skip ⟨_, h, trivial, hn, γ, G⟩
theorem Runs.ret {Q : Ex × List AV → Prop} (h : Q (.ret, σ)) : Runs P T n .ret σ Q := by
  intro c hm w0 St0 γ a w G hn
  cases c <;> first | exact hm.elim | skip
  exact wp_ret ⟨_, h, trivial, hn, γ, G⟩
theorem Runs.exit {i : Nat} {Q : Ex × List AV → Prop} (h : Q (.exit i, σ)) : Runs P T n (.exit i) σ Q := by
  intro c hm w0 St0 γ a w G hn
  cases c <;> first | exact hm.elim | skip
  exact wp_exit ⟨_, h, hm.symm, hn, γ, G⟩
theorem Runs.seq {x y : Cd} {Q R : Ex × List AV → Prop} (hx : Runs P T n x σ R) (hy : ∀ e σ1, R (e, σ1) → if e = .normal then Runs P T n y σ1 Q else Q (e, σ1)) : Runs P T n (.seq x y) σ Q := by
  intro c hm w0 St0 γ a w G hn
  cases c <;> first | exact hm.elim | skip
  obtain ⟨m1, m2⟩ := hm
  refine wp_seq (Code.wp_mono (fun e a' w' q => ?_) (hx _ m1 w0 St0 γ a w G hn))
  obtain ⟨⟨ex, σ1⟩, h1, q1, hn', γ', G'⟩ := q
  have := hy ex σ1 h1
  cases e with
  | normal =>
    cases ex <;> first | exact this _ m2 w0 St0 γ' a' w' G' hn' | exact q1.elim
  | _ =>
    cases ex <;> first | exact q1.elim | exact ⟨_, this, q1, hn', γ', G'⟩
theorem Runs.cond {c' : Ar} {x y : Cd} {Q : Ex × List AV → Prop} {t : Bool} (hc : condOf c' σ = some t) (h : Runs P T n (if t then x else y) σ Q) : Runs P T n (.cond c' x y) σ Q := by
  intro c hm w0 St0 γ a w G hn
  cases c <;> first | exact hm.elim | skip
  obtain ⟨m0, m1, m2⟩ := hm
  refine wp_cond (condOf_sound G m0 hc) ?_
  cases t with
  | true => exact h _ m1 w0 St0 γ a w G hn
  | false => exact h _ m2 w0 St0 γ a w G hn
theorem Runs.block {i : Nat} {x : Cd} {Q : Ex × List AV → Prop} (h : Runs P T n x σ fun r => Q (if r.1 = .exit i then (.normal, r.2) else r)) : Runs P T n (.block i x) σ Q := by
  intro c hm w0 St0 γ a w G hn
  cases c <;> first | exact hm.elim | skip
  rename_i i0 x0
  obtain ⟨hi, hm⟩ := hm
  have hi : i = i0 := hi.symm
  subst hi
  refine wp_block (Code.wp_mono (fun e a' w' q => ?_) (h _ hm w0 St0 γ a w G hn))
  obtain ⟨⟨ex, σ1⟩, h1, q1, q2⟩ := q
  cases e with
  | exit j =>
    cases ex with
    | exit i' =>
      have q1 : i' = j := q1
      subst q1
      by_cases hij : i' = i
      · subst hij
        simp only [if_true] at h1
        simp only [Exit.inBlock, if_true]
        exact ⟨_, h1, trivial, q2⟩
      · have h1' : Q (.exit i', σ1) := by
          have : ¬ (Ex.exit i' = Ex.exit i) := fun e => hij (by cases e; rfl)
          simpa only [if_neg this] using h1
        simp only [Exit.inBlock, if_neg hij]
        exact ⟨_, h1', rfl, q2⟩
    | _ => exact q1.elim
  | normal =>
    cases ex <;> first | exact q1.elim | exact ⟨_, h1, q1, q2⟩
  | ret =>
    cases ex <;> first | exact q1.elim | exact ⟨_, h1, q1, q2⟩
  | _ => cases ex <;> exact q1.elim

/-- A loop, round by round: at most m of them. -/
def LoopR (P : Program) (T : List Nat) (n : Nat) (x : Cd) (Q : Ex × List AV → Prop) : Nat → List AV → Prop
  | 0, _ => False
  | m + 1, σ => Runs P T n x σ fun r => if r.1 = .normal then LoopR P T n x Q m r.2 else Q r
theorem Runs.loop {live : List Nat} {x : Cd} {Q : Ex × List AV → Prop} {m : Nat} (h : LoopR P T n x Q m σ) : Runs P T n (.loop live x) σ Q := by
  intro c hm w0 St0 γ a w G hn
  cases c <;> first | exact hm.elim | skip
  rename_i x0
  have hm : MatchC P n x0 x := hm
  refine wp_loop_rounds m ?_
  induction m generalizing σ γ a w with
  | zero => exact h.elim
  | succ m ih =>
    rw [rounds_succ]
    refine Code.wp_mono (fun e a' w' q => ?_) (h _ hm w0 St0 γ a w G hn)
    obtain ⟨⟨ex, σ1⟩, h1, q1, hn', γ', G'⟩ := q
    cases e with
    | normal =>
      cases ex <;> first | exact q1.elim | skip
      simp only [if_true] at h1
      exact ih h1 γ' a' w' G' hn'
    | _ =>
      cases ex <;> first | exact q1.elim | exact ⟨_, h1, q1, hn', γ', G'⟩
/-- A round that goes on, whatever comes behind it. -/
theorem LoopR.next {x : Cd} {Q : Ex × List AV → Prop} {m : Nat} (h : Runs P T n x σ fun r => r.1 = .normal ∧ LoopR P T n x Q m r.2) : LoopR P T n x Q (m + 1) σ :=
  h.mono fun r hr => by rw [if_pos hr.1]; exact hr.2
theorem LoopR.out {x : Cd} {Q : Ex × List AV → Prop} {m : Nat} (h : Runs P T n x σ fun r => r.1 ≠ .normal ∧ Q r) : LoopR P T n x Q (m + 1) σ :=
  h.mono fun r hr => by rw [if_neg hr.1]; exact hr.2
theorem LoopR.le {x : Cd} {σ' : List AV} {Q : Ex × List AV → Prop} : ∀ {m : Nat}, LoopR P T n x Q m σ' → LeS σ σ' → LoopR P T n x Q m σ
  | 0, h, _ => h
  | m + 1, h, hl => Runs.le h hl
end
end Go.Ev

/-! text E38 -/
set_option linter.unusedVariables false
set_option linter.unusedSimpArgs false
namespace Go.Ev
open Go.RowKit

/-! ### A way through a piece of code, with answers to what hangs on what isn't known -/
/-- Answers. b, i, n: what is set is this (a bool, a number, anything). v, y, s: what is read is this (a value, a byte, a text). q: it is asked that it be so. c, cs: what a call is told, and what it answers (all new, or not). lp: a loop's begin, how it ends, and where; sg: any piece's. -/
inductive An where
  | b (x : Bool)
  | i (x : Int)
  | n (x : AV)
  | v (x : AV)
  | y (x : UInt8)
  | s (x : ByteArray)
  | q
  | q2
  | c (ys : List AV) (r : AV)
  | cs (ys : List AV) (r : AV)
  | lp (σ : List AV) (e : Ex) (σ' : List AV)
  | sg (σ : List AV) (e : Ex) (σ' : List AV)
abbrev Cs := FuncId × List AV × AV
/-- What is written, what must hold, which calls are made. -/
structure Rs where
  ws : List Wr
  ps : List Prop
  cs : List Cs
def AllP : List Prop → Prop
  | [] => True
  | p :: ps => p ∧ AllP ps
theorem AllP_append : ∀ {ps qs : List Prop}, AllP (ps ++ qs) ↔ AllP ps ∧ AllP qs
  | [], qs => by simp [AllP]
  | p :: ps, qs => by simp only [List.cons_append, AllP, AllP_append (ps := ps)]; exact and_assoc.symm
/-- A value may be told as another one. -/
def VLe (ys ys' : List AV) : Prop := ∀ γ w vs, VL γ w ys vs → VL γ w ys' vs
theorem VLe.refl {ys : List AV} : VLe ys ys := fun _ _ _ h => h
theorem VLe.of_eq {ys ys' : List AV} (h : ys = ys') : VLe ys ys' := by subst h; exact .refl
theorem VLe.cons {x y : AV} {xs ys : List AV} (h : ∀ γ w v, V γ w x v → V γ w y v) (hs : VLe xs ys) : VLe (x :: xs) (y :: ys) := by
  intro γ w vs ⟨v, r, e, h1, h2⟩
  exact ⟨v, r, e, h γ w v h1, hs γ w r h2⟩
def FnW (P : Program) (f : FuncId) (args ys : List AV) (r : AV) : Prop := VLe args ys ∧ FnOk P f ys r
theorem FnW.ok {P : Program} {f : FuncId} {args ys : List AV} {r : AV} (h : FnW P f args ys r) : FnOk P f args r :=
  fun w al St hSt hv => h.2 w al St hSt (h.1 _ _ _ hv)

/-! ### What each instruction does, with an answer -/
def ret1 (ws : List Wr) (ps : List Prop) : RM Rs := .ret ⟨ws, ps, []⟩
def plain (m : RM (List Wr)) : RM Rs := m.bind fun ws => ret1 ws []
def loadP (y : AV) (d : Nat) (n : Option Nat) (a : Ar) : RM Rs :=
  (target a).bind fun
    | .at_ s j => .get s fun
      | .box cs => match n with
        | none => match y with
          | .own f z xs => if s = d then .fail else ret1 [.set d (.als s (j + 1))] [cs[j]? = some (.own f z xs)]
          | y => (RM.opt (viewOf y)).bind fun y' => ret1 [.set d y'] [cs[j]? = some y]
        | some _ => .fail
      | .own true z xs => match n with
        | none => if flat y then ret1 [.set d y] [cellOf z xs j = some y] else if s = d then .fail else ret1 [.set d (.nst s 0 y)] [cellOf z xs j = some y]
        | some k => if k = z ∧ (cellsOf y).length = z then ret1 [.mod s (.own false z (undeep.uL xs)) [], .set d (.agg (cellsOf (undeep y)))] [j % z = 0, xs[j / z]? = some y] else .fail
      | .pv cs => match n with
        | none => ret1 [.set d y] [cs[j]? = some y]
        | some _ => .fail
      | _ => .fail
    | .ro (x :: _) => match n with
      | none => ret1 [.set d y] [x = y]
      | _ => .fail
    | _ => .fail
def storeP (n : Nat) (a x : Ar) : RM Rs :=
  (target a).bind fun
    | .at_ s j => (rd x).bind fun
      | (.own _ _ _, some _) => .fail
      | (y, _) => (RM.opt (viewOf y)).bind fun y => .get s fun
          | .box cs => if (cellsOf y).length = n ∧ (cellsOf y).all okCell = true then ret1 [.mod s (.box (splice cs j (cellsOf y))) (List.range' (j + 1) n)] [j + n ≤ cs.length] else .fail
          | .own true 1 xs => if n = 1 ∧ okCell y then ret1 [.mod s (.own true 1 (xs.set j y)) []] [j < xs.length] else .fail
          | _ => .fail
    | _ => .fail
def idxAP (y : Option AV) (d : Nat) (z : Nat) (x i : Ar) : RM Rs :=
  (rdInt i).bind fun (_, n) => (rd x).bind fun
    | (.own true z' xs, some (s, 0)) => if z' = z ∧ 0 < z ∧ s ≠ d then ret1 [.set d (.adr s (n.toNat * z))] [0 ≤ n, n < xs.length] else .fail
    | (.nst s j (.dsl _ z' xs), _) => match y with
      | some y => if z' = z ∧ 0 < z ∧ s ≠ d then ret1 [.set d (.npv s j (cellsOf y))] [0 ≤ n, xs[n.toNat]? = some y] else .fail
      | none => .fail
    | _ => match y with
      | some y => (rdView x).bind fun
        | (.sl _ _ z' xs, ws) => if z' = z then ret1 (ws ++ [.set d (.pv (cellsOf y))]) [0 ≤ n, xs[n.toNat]? = some y] else .fail
        | _ => .fail
      | none => .fail
def idxPP (d : Nat) (len z : Nat) (x i : Ar) : RM Rs :=
  (rdInt i).bind fun (_, n) => (target x).bind fun
    | .at_ s j => if s ≠ d then ret1 [.set d (.adr s (j + n.toNat * z))] [0 ≤ n, n < len] else .fail
    | .ro cs => ret1 [.set d (.pv (cs.drop (n.toNat * z)))] [0 ≤ n, n < len, n.toNat * z ≤ cs.length]
    | _ => .fail
def idxP' (y : Option AV) (d : Nat) (len z : Nat) (n : Option Nat) (x i : Ar) : RM Rs :=
  (rdInt i).bind fun (_, m) => (rdV x).bind fun
    | .agg cs => match n with
        | none => match y with
          | some y => ret1 [.set d y] [0 ≤ m, m < len, cs[m.toNat * z]? = some y]
          | none => .fail
        | some k => ret1 [.set d (.agg ((cs.drop (m.toNat * z)).take k))] [0 ≤ m, m < len, m.toNat * z + k ≤ cs.length]
    | _ => .fail
def idxSP (b : UInt8) (d : Nat) (x i : Ar) : RM Rs :=
  (rdInt i).bind fun (_, m) => (rdC x).bind fun
    | .str s => ret1 [.set d (.int .u8 b.toNat)] [0 ≤ m, s[m.toNat]? = some b]
    | _ => .fail
def sliceP (d : Nat) (z : Nat) (x : Ar) (lo hi : Option Ar) : RM Rs :=
  (rdOpt lo).bind fun l => (rdOpt hi).bind fun h => (rdView x).bind fun
    | (.sl fr nn z' xs, ws) => if z' = z then
        ret1 (ws ++ [.set d (.sl fr (nn || !xs.isEmpty) z ((xs.take (h.getD xs.length).toNat).drop (l.getD 0).toNat))]) [0 ≤ l.getD 0, l.getD 0 ≤ h.getD xs.length, h.getD xs.length ≤ xs.length] else .fail
    | _ => .fail
def slstrP (d : Nat) (x : Ar) (lo hi : Option Ar) : RM Rs :=
  (rdOpt lo).bind fun l => (rdOpt hi).bind fun h => (rdC x).bind fun
    | .str s => ret1 [.set d (.str (s.extract (l.getD 0).toNat (h.getD s.size).toNat))] [0 ≤ l.getD 0, l.getD 0 ≤ h.getD s.size, h.getD s.size ≤ s.size]
    | _ => .fail
def slarrP (d : Nat) (ag : Bool) (len z : Nat) (x : Ar) (lo hi : Option Ar) : RM Rs :=
  (rdOpt lo).bind fun l => (rdOpt hi).bind fun h => (target x).bind fun
    | .at_ s j => .get s fun
      | .box cs => (RM.opt (mapOpt viewOf cs)).bind fun ys =>
        if (ag || (z == 1 && ys.all single)) = true ∧ j + len * z ≤ ys.length then
          ret1 [.mod s (.pv ys) [], .set d (.sl true true z (((semSlarr.elems ag z len (ys.drop j)).take (h.getD len).toNat).drop (l.getD 0).toNat))] [0 ≤ l.getD 0, l.getD 0 ≤ h.getD len, h.getD len ≤ len] else .fail
      | .pv ys =>
        if (ag || (z == 1 && ys.all single)) = true ∧ j + len * z ≤ ys.length then
          ret1 [.set d (.sl false true z (((semSlarr.elems ag z len (ys.drop j)).take (h.getD len).toNat).drop (l.getD 0).toNat))] [0 ≤ l.getD 0, l.getD 0 ≤ h.getD len, h.getD len ≤ len] else .fail
      | _ => .fail
    | _ => .fail
def binP (d : Nat) (op : BinOp) (x y : Ar) : RM Rs :=
  (rdC x).bind fun p => (rdC y).bind fun q => match p, q, op with
    | .int k a, .int k' b, .quo => if k = k' then ret1 [.set d (.int k (k.wrap (a.tdiv b)))] [b ≠ 0] else .fail
    | .int k a, .int k' b, .rem => if k = k' then ret1 [.set d (.int k (a.tmod b))] [b ≠ 0] else .fail
    | .int k a, .int _ b, .shl => ret1 [.set d (.int k (k.wrap (a * 2 ^ (min b.toNat k.bits))))] [0 ≤ b]
    | .int k a, .int _ b, .shr => ret1 [.set d (.int k (a.fdiv (2 ^ (min b.toNat k.bits))))] [0 ≤ b]
    | .str a, .str b, .add => ret1 [.set d (.str (a ++ b))] [a.size + b.size ≤ 9223372036854775807]
    | _, _, _ => .fail
def s2bP (d : Nat) (x : Ar) : RM Rs :=
  (rdC x).bind fun
    | .str s => ret1 [.set d (.own true 1 (bytesAV s))] [s.size ≤ 140737488355328]
    | _ => .fail
def b2sP (b : ByteArray) (d : Nat) (x : Ar) : RM Rs :=
  (rdC x).bind fun
    | .own _ z ys | .sl _ _ z ys | .dsl _ z ys => if z = 1 then ret1 [.set d (.str b)] [toBytes ys = some b] else .fail
    | _ => .fail
def appT (d : Nat) (z bytes : Nat) (x : Ar) (z' : Option Nat) (ys : List AV) (us : List Wr) (ps : List Prop) : RM Rs :=
  if z' = none ∨ z' = some z then (rd x).bind fun
      | (.nils, _) => ret1 (us ++ [.set d (.own true z ys)]) (ps ++ [ys.all (okElem z) = true, ys.length * bytes ≤ 140737488355328])
      | (.own f z2 xs, some k) => if k.1 ≠ d ∧ us.all (fun u => u.dst != k.1) = true ∧ z2 = z then
          (putKey k (if f then .junk else .sl true false z xs)).bind fun ws => ret1 (us ++ ws ++ [.set d (.own f z (xs ++ ys))]) (ps ++ [ys.all (okElem z) = true, (xs.length + ys.length) * bytes ≤ 140737488355328]) else .fail
      | _ => .fail
    else .fail
/-- 'f': no memory is reached from what is appended. -/
def appP (f : Bool) (d : Nat) (z bytes : Nat) (x y : Ar) : RM Rs :=
  (rd y).bind fun
    | (.own true z' ys, some k) => if f then appT d z bytes x (some z') ys [] [ys.all flat = true] else (putKey k (.own false z' (undeep.uL ys))).bind fun ws => appT d z bytes x (some z') (undeep.uL ys) ws [ys.all flat = false]
    | (.str s, _) => appT d z bytes x (some 1) (bytesAV s) [] []
    | (.nils, _) => appT d z bytes x none [] [] []
    | _ => (rdView y).bind fun
      | (.sl _ _ z' ys, ws) => appT d z bytes x (some z') ys ws []
      | _ => .fail
def callP (P : Program) (sh : Bool) (ys' : List AV) (r : AV) (d : Nat) (f : FuncId) (xs : List Ar) : RM Rs :=
  (rdArgs xs).bind fun (ys, ws) =>
    if sh then (RM.opt ws).bind fun ws => .ret ⟨ws ++ [.set d r], [FnW P f (stale.sL ys) ys' r, freshA r = false], [(f, stale.sL ys, r)]⟩
    else .ret ⟨[.set d (deepR r)], [FnW P f (stale.sL ys) ys' r, freshA r = true], [(f, stale.sL ys, r)]⟩
def semP (P : Program) (n : Nat) (ans : Option An) (d : Option Nat) (i : I) : RM Rs :=
  match ans, i, d with
  | none, .call _ _, _ => .fail
  | none, i, d => plain (semI (fun _ _ _ => none) n d i)
  | some (.c ys r), .call f xs, some d => callP P false ys r d f xs
  | some (.cs ys r), .call f xs, some d => callP P true ys r d f xs
  | some (.v y), .load m a, some d => loadP y d m a
  | some .q, .store m a x, none => storeP m a x
  | some .q, .idxA z x j, some d => idxAP none d z x j
  | some (.v y), .idxA z x j, some d => idxAP (some y) d z x j
  | some .q, .idxP len z x j, some d => idxPP d len z x j
  | some .q, .idx len z m x j, some d => idxP' none d len z m x j
  | some (.v y), .idx len z m x j, some d => idxP' (some y) d len z m x j
  | some (.y b), .idxS x j, some d => idxSP b d x j
  | some .q, .slice z x lo hi, some d => sliceP d z x lo hi
  | some .q, .slstr x lo hi, some d => slstrP d x lo hi
  | some .q, .slarr g len z x lo hi, some d => slarrP d g len z x lo hi
  | some .q, .bin op x y, some d => binP d op x y
  | some .q, .s2b x, some d => s2bP d x
  | some (.s b), .b2s x, some d => b2sP b d x
  | some .q, .appd z b x y, some d => appP true d z b x y
  | some .q2, .appd z b x y, some d => appP false d z b x y
  | _, _, _ => .fail

/-! ### These are what the instructions do -/
def Sat (E : Fns) (x : Rs) : Prop := AllP x.ps ∧ ∀ c ∈ x.cs, E c.1 c.2.1 [] = some (c.2.2, [])
def CallsOk (P : Program) (x : Rs) : Prop := AllP x.ps → ∀ c ∈ x.cs, FnOk P c.1 c.2.1 c.2.2
def Rf (P : Program) (m' : RM Rs) (m : Fns → RM (List Wr)) : Prop :=
  (∀ U σ x, m'.run U σ = some x → CallsOk P x ∧ ∀ E, Sat E x → (m E).run U σ = some x.ws) ∧
  (∀ σ x l, m'.runL σ = some (x, l) → CallsOk P x ∧ ∀ E, Sat E x → (m E).runL σ = some (x.ws, l))
theorem Rf.fail {P : Program} {m : Fns → RM (List Wr)} : Rf P .fail m := ⟨fun _ _ _ h => (by cases h), fun _ _ _ h => (by cases h)⟩
theorem Rf.ret {P : Program} {x : Rs} {m : Fns → RM (List Wr)} (h1 : CallsOk P x) (h2 : ∀ E, Sat E x → m E = .ret x.ws) : Rf P (.ret x) m := by
  refine ⟨fun U σ x h => ?_, fun σ x l h => ?_⟩
  · simp only [RM.run, Option.some.injEq] at h
    subst h
    exact ⟨h1, fun E hs => by rw [h2 E hs]; rfl⟩
  · simp only [RM.runL, Option.some.injEq, Prod.mk.injEq] at h
    obtain ⟨rfl, rfl⟩ := h
    exact ⟨h1, fun E hs => by rw [h2 E hs]; rfl⟩
theorem Rf.get {P : Program} {s : Nat} {k' : AV → RM Rs} {m : Fns → RM (List Wr)} {k : Fns → AV → RM (List Wr)} (e : ∀ E, m E = .get s (k E)) (h : ∀ x, Rf P (k' x) fun E => k E x) : Rf P (.get s k') m := by
  refine ⟨fun U σ x hr => ?_, fun σ x l hr => ?_⟩
  · simp only [RM.run] at hr
    split at hr
    · cases hr
    · rename_i hu
      split at hr
      · rename_i y hy
        obtain ⟨h1, h2⟩ := (h y).1 U σ x hr
        refine ⟨h1, fun E hs => ?_⟩
        rw [e E]
        simp only [RM.run, hu, if_false, hy]
        exact h2 E hs
      · cases hr
  · simp only [RM.runL] at hr
    split at hr
    · rename_i y hy
      split at hr
      · rename_i r l' hk
        simp only [Option.some.injEq, Prod.mk.injEq] at hr
        obtain ⟨rfl, rfl⟩ := hr
        obtain ⟨h1, h2⟩ := (h y).2 σ _ _ hk
        refine ⟨h1, fun E hs => ?_⟩
        rw [e E]
        simp only [RM.runL, hy, h2 E hs]
      · cases hr
    · cases hr
/-- What is asked at every end of it. -/
def Asks (p : Prop) (m' : RM Rs) : Prop := (∀ U σ x, m'.run U σ = some x → AllP x.ps → p) ∧ ∀ σ x l, m'.runL σ = some (x, l) → AllP x.ps → p
theorem Rf.cond {P : Program} {p : Prop} {m' : RM Rs} {m : Fns → RM (List Wr)} (h : p → Rf P m' m) (ha : Asks p m') : Rf P m' m := by
  refine ⟨fun U σ x hr => ⟨fun hp => ((h (ha.1 U σ x hr hp)).1 U σ x hr).1 hp, fun E hs => ((h (ha.1 U σ x hr hs.1)).1 U σ x hr).2 E hs⟩, fun σ x l hr => ⟨fun hp => ((h (ha.2 σ x l hr hp)).2 σ x l hr).1 hp, fun E hs => ((h (ha.2 σ x l hr hs.1)).2 σ x l hr).2 E hs⟩⟩
theorem Asks.fail {p : Prop} : Asks p .fail := ⟨fun _ _ _ h => (by cases h), fun _ _ _ h => (by cases h)⟩
theorem Asks.ret {p : Prop} {x : Rs} (h : AllP x.ps → p) : Asks p (.ret x) := by
  refine ⟨fun U σ y hr => ?_, fun σ y l hr => ?_⟩
  · simp only [RM.run, Option.some.injEq] at hr
    subst hr
    exact h
  · simp only [RM.runL, Option.some.injEq, Prod.mk.injEq] at hr
    obtain ⟨rfl, rfl⟩ := hr
    exact h
theorem Asks.get {p : Prop} {s : Nat} {k' : AV → RM Rs} (h : ∀ x, Asks p (k' x)) : Asks p (.get s k') := by
  refine ⟨fun U σ x hr => ?_, fun σ x l hr => ?_⟩
  · simp only [RM.run] at hr
    split at hr
    · cases hr
    · split at hr
      · exact (h _).1 U σ x hr
      · cases hr
  · simp only [RM.runL] at hr
    split at hr
    · split at hr
      · rename_i r l' hk
        simp only [Option.some.injEq, Prod.mk.injEq] at hr
        obtain ⟨rfl, rfl⟩ := hr
        exact (h _).2 σ _ _ hk
      · cases hr
    · cases hr
theorem Asks.bind {p : Prop} {α : Type} {f' : α → RM Rs} : ∀ (m : RM α), (∀ a, Asks p (f' a)) → Asks p (m.bind f')
  | .ret a, h => h a
  | .fail, h => .fail
  | .get s k, h => .get fun x => Asks.bind (k x) h
theorem RM.bind_assoc {α β δ : Type} : ∀ (m : RM α) (f : α → RM β) (g : β → RM δ), (m.bind f).bind g = m.bind fun a => (f a).bind g
  | .ret a, f, g => rfl
  | .fail, f, g => rfl
  | .get s k, f, g => by simp only [RM.bind]; congr; funext x; exact RM.bind_assoc (k x) f g
theorem Rf.bind {P : Program} {α : Type} {f' : α → RM Rs} {f : Fns → α → RM (List Wr)} : ∀ (m : RM α), (∀ a, Rf P (f' a) fun E => f E a) → Rf P (m.bind f') fun E => m.bind (f E)
  | .ret a, h => h a
  | .fail, h => .fail
  | .get s k, h => .get (fun E => rfl) fun x => Rf.bind (k x) h
theorem Rf.ret1 {P : Program} {ws : List Wr} {ps : List Prop} {m : Fns → RM (List Wr)} (h : AllP ps → ∀ E, m E = .ret ws) : Rf P (Go.Ev.ret1 ws ps) m :=
  .ret (fun _ c hc => by cases hc) fun E hs => h hs.1 E
theorem RM.bind_ret {α : Type} : ∀ (m : RM α), m.bind RM.ret = m
  | .ret a => rfl
  | .fail => rfl
  | .get s k => by simp only [RM.bind]; congr; funext x; exact RM.bind_ret (k x)
theorem Rf.bindP {P : Program} {α : Type} {f' : α → RM Rs} {m : Fns → RM (List Wr)} {o : Option α} (h : ∀ a, o = some a → Rf P (f' a) m) : Rf P ((RM.opt o).bind f') m := by
  cases o with
  | none => exact .fail
  | some a => exact h a rfl
theorem Rf.plain {P : Program} (m : RM (List Wr)) : Rf P (Go.Ev.plain m) fun _ => m := by
  have := Rf.bind (P := P) (f' := fun ws => Go.Ev.ret1 ws []) (f := fun _ => RM.ret) m fun ws => Rf.ret1 fun _ _ => rfl
  simp only [RM.bind_ret] at this
  exact this

section
variable {P : Program} {n d : Nat}
theorem Rf.at {m' : RM Rs} {m : RM (List Wr)} (h : Rf P m' fun _ => m) : Rf P m' fun _ => m := h
theorem Rf.loadP {y : AV} {m : Option Nat} {a : Ar} : Rf P (Go.Ev.loadP y d m a) fun _ => semLoad d m a := by
  unfold Go.Ev.loadP semLoad
  refine Rf.bind _ fun t => ?_
  cases t with
  | at_ s j =>
    refine .get (fun _ => rfl) fun x => ?_
    cases x with
    | box cs =>
      cases m with
      | none =>
        cases y with
        | own f z xs =>
          dsimp only
          split
          · exact .fail
          · rename_i hs
            exact Rf.ret1 fun ⟨h, _⟩ E => by simp only [h, if_neg hs]
        | _ =>
          dsimp only
          refine Rf.bindP fun y' hy => ?_
          exact Rf.ret1 fun ⟨h, _⟩ E => by simp only [h]; simp only [hy, RM.opt, RM.bind]
      | some k => exact .fail
    | own f z xs =>
      cases f with
      | false => exact .fail
      | true =>
        cases m with
        | none =>
          dsimp only
          split
          · rename_i hf
            exact Rf.ret1 fun ⟨h, _⟩ E => by simp only [h, hf, if_true]
          · rename_i hf
            split
            · exact .fail
            · rename_i hs
              exact Rf.ret1 fun ⟨h, _⟩ E => by simp only [h, hf, if_neg hs]; rfl
        | some k =>
          dsimp only
          split
          · rename_i hc
            exact Rf.ret1 fun ⟨h1, h2, _⟩ E => by simp only [h2]; rw [if_pos ⟨h1, hc.1, hc.2⟩]
          · exact .fail
    | pv cs =>
      cases m with
      | none => exact Rf.ret1 fun ⟨h, _⟩ E => by simp only [h]
      | some k => exact .fail
    | _ => exact .fail
  | ro cs =>
    cases cs with
    | nil => exact .fail
    | cons x cs =>
      cases m with
      | none => exact Rf.ret1 fun ⟨h, _⟩ E => by subst h; rfl
      | some k => exact .fail
  | _ => exact .fail
end
end Go.Ev

/-! text E39 -/
set_option linter.unusedVariables false
set_option linter.unusedSimpArgs false
namespace Go.Ev
open Go.RowKit

section
variable {P : Program} {n d : Nat}
theorem Rf.storeP {m : Nat} {a x : Ar} : Rf P (Go.Ev.storeP m a x) fun _ => semStore m a x := by
  unfold Go.Ev.storeP semStore
  refine Rf.bind _ fun t => ?_
  cases t with
  | at_ s j =>
    refine Rf.bind _ fun p => ?_
    have key : ∀ (y : AV) (r : Option Key), (∀ f z xs k, (y, r) ≠ (AV.own f z xs, some k)) → Rf P ((RM.opt (viewOf y)).bind fun y => .get s fun
          | .box cs => if (cellsOf y).length = m ∧ (cellsOf y).all okCell = true then Go.Ev.ret1 [.mod s (.box (splice cs j (cellsOf y))) (List.range' (j + 1) m)] [j + m ≤ cs.length] else .fail
          | .own true 1 xs => if m = 1 ∧ okCell y then Go.Ev.ret1 [.mod s (.own true 1 (xs.set j y)) []] [j < xs.length] else .fail
          | _ => .fail) fun _ => (RM.opt (viewOf y)).bind fun y => .get s fun
          | .box cs => if (cellsOf y).length = m ∧ j + m ≤ cs.length ∧ (cellsOf y).all okCell = true then .ret [.mod s (.box (splice cs j (cellsOf y))) (List.range' (j + 1) m)] else .fail
          | .own true 1 xs => if m = 1 ∧ j < xs.length ∧ okCell y then .ret [.mod s (.own true 1 (xs.set j y)) []] else .fail
          | _ => .fail := by
      intro y r hy
      refine Rf.bind _ fun y' => ?_
      refine .get (fun _ => rfl) fun z => ?_
      cases z with
      | box cs =>
        try dsimp only
        split
        · rename_i hc
          exact Rf.ret1 fun ⟨h, _⟩ E => by rw [if_pos ⟨hc.1, h, hc.2⟩]
        · exact .fail
      | own f z xs =>
        cases f with
        | false => exact .fail
        | true =>
          match z with
          | 0 => exact .fail
          | 1 =>
            show Rf P (if m = 1 ∧ okCell y' = true then Go.Ev.ret1 [.mod s (.own true 1 (xs.set j y')) []] [j < xs.length] else .fail) fun _ => (if m = 1 ∧ j < xs.length ∧ okCell y' = true then .ret [.mod s (.own true 1 (xs.set j y')) []] else .fail)
            split
            · rename_i hc
              exact Rf.ret1 fun ⟨h, _⟩ E => by rw [if_pos ⟨hc.1, h, hc.2⟩]
            · exact .fail
          | z + 2 => exact .fail
      | _ => exact .fail
    obtain ⟨y, r⟩ := p
    cases y with
    | own f z xs =>
      cases r with
      | some k => exact .fail
      | none => exact key _ none (by simp)
    | _ => exact key _ r (by simp)
  | _ => exact .fail
theorem Rf.idxAP {y : Option AV} {z : Nat} {x i : Ar} : Rf P (Go.Ev.idxAP y d z x i) fun _ => semIdxA d z x i := by
  unfold Go.Ev.idxAP semIdxA
  refine Rf.bind _ fun ⟨k, m⟩ => ?_
  refine Rf.bind _ fun p => ?_
  have len : ∀ {xs : List AV} {y : AV}, 0 ≤ m → xs[m.toNat]? = some y → m < xs.length := by
    intro xs y h0 h
    have := (List.getElem?_eq_some_iff.1 h).1
    omega
  have key : Rf P (match y with
      | some y => (rdView x).bind fun
        | (.sl _ _ z' xs, ws) => if z' = z then Go.Ev.ret1 (ws ++ [.set d (.pv (cellsOf y))]) [0 ≤ m, xs[m.toNat]? = some y] else .fail
        | _ => .fail
      | none => .fail) fun _ => (rdView x).bind fun
      | (.sl _ _ z' xs, ws) => if z' = z ∧ 0 ≤ m ∧ m < xs.length then match xs[m.toNat]? with
          | some y => .ret (ws ++ [.set d (.pv (cellsOf y))])
          | none => .fail
        else .fail
      | _ => .fail := by
    cases y with
    | none => exact .fail
    | some y =>
      refine Rf.bind _ fun q => ?_
      obtain ⟨u, ws⟩ := q
      cases u with
      | sl fr nn z' xs =>
        try dsimp only
        split
        · rename_i hz
          exact Rf.ret1 fun ⟨h0, h1, _⟩ E => by rw [if_pos ⟨hz, h0, len h0 h1⟩, h1]
        · exact .fail
      | _ => exact .fail
  obtain ⟨u, r⟩ := p
  cases u with
  | own f z' xs =>
    cases f with
    | false => exact key
    | true =>
      match r with
      | none => exact key
      | some (s, 0) =>
        show Rf P (if z' = z ∧ 0 < z ∧ s ≠ d then Go.Ev.ret1 [.set d (.adr s (m.toNat * z))] [0 ≤ m, m < xs.length] else .fail) fun _ => (if z' = z ∧ 0 < z ∧ 0 ≤ m ∧ m < xs.length ∧ s ≠ d then .ret [.set d (.adr s (m.toNat * z))] else .fail)
        split
        · rename_i hc
          exact Rf.ret1 fun ⟨h0, h1, _⟩ E => by rw [if_pos ⟨hc.1, hc.2.1, h0, h1, hc.2.2⟩]
        · exact .fail
      | some (s, j + 1) => exact key
  | nst s j v =>
    cases v with
    | dsl nn z' xs =>
      cases y with
      | none => exact .fail
      | some y =>
        try dsimp only
        split
        · rename_i hc
          exact Rf.ret1 fun ⟨h0, h1, _⟩ E => by rw [if_pos ⟨hc.1, hc.2.1, h0, len h0 h1, hc.2.2⟩, h1]
        · exact .fail
    | _ => exact key
  | _ => exact key
theorem Rf.idxPP {len z : Nat} {x i : Ar} : Rf P (Go.Ev.idxPP d len z x i) fun _ => semIdxP d len z x i := by
  unfold Go.Ev.idxPP semIdxP
  refine Rf.bind _ fun ⟨k, m⟩ => ?_
  refine Rf.bind _ fun t => ?_
  cases t with
  | at_ s j =>
    try dsimp only
    split
    · rename_i hs
      exact Rf.ret1 fun ⟨h0, h1, _⟩ E => by rw [if_pos ⟨h0, h1, hs⟩]
    · exact .fail
  | ro cs => exact Rf.ret1 fun ⟨h0, h1, h2, _⟩ E => by simp only; rw [if_pos ⟨h0, h1, h2⟩]
  | _ => exact .fail
theorem Rf.idxP' {y : Option AV} {len z : Nat} {q : Option Nat} {x i : Ar} : Rf P (Go.Ev.idxP' y d len z q x i) fun _ => semIdx d len z q x i := by
  unfold Go.Ev.idxP' semIdx
  refine Rf.bind _ fun ⟨k, m⟩ => ?_
  refine Rf.bind _ fun t => ?_
  cases t with
  | agg cs =>
    cases q with
    | none =>
      cases y with
      | none => exact .fail
      | some y => exact Rf.ret1 fun ⟨h0, h1, h2, _⟩ E => by simp only [h2]; rw [if_pos ⟨h0, h1⟩]
    | some k => exact Rf.ret1 fun ⟨h0, h1, h2, _⟩ E => by simp only; rw [if_pos ⟨h0, h1⟩, if_pos h2]
  | _ => exact .fail
theorem Rf.idxSP {b : UInt8} {x i : Ar} : Rf P (Go.Ev.idxSP b d x i) fun _ => semIdxS d x i := by
  unfold Go.Ev.idxSP semIdxS
  refine Rf.bind _ fun ⟨k, m⟩ => ?_
  refine Rf.bind _ fun t => ?_
  cases t with
  | str s => exact Rf.ret1 fun ⟨h0, h1, _⟩ E => by simp only [h1]; rw [if_pos h0]
  | _ => exact .fail
theorem Rf.sliceP {z : Nat} {x : Ar} {lo hi : Option Ar} : Rf P (Go.Ev.sliceP d z x lo hi) fun _ => semSlice d z x lo hi := by
  unfold Go.Ev.sliceP semSlice
  refine Rf.bind _ fun l => Rf.bind _ fun h => Rf.bind _ fun p => ?_
  obtain ⟨u, ws⟩ := p
  cases u with
  | sl fr nn z' xs =>
    try dsimp only
    split
    · rename_i hz
      exact Rf.ret1 fun ⟨h0, h1, h2, _⟩ E => by rw [if_pos ⟨hz, h0, h1, h2⟩]
    · exact .fail
  | _ => exact .fail
theorem Rf.slstrP {x : Ar} {lo hi : Option Ar} : Rf P (Go.Ev.slstrP d x lo hi) fun _ => semSlstr d x lo hi := by
  unfold Go.Ev.slstrP semSlstr
  refine Rf.bind _ fun l => Rf.bind _ fun h => Rf.bind _ fun u => ?_
  cases u with
  | str s => exact Rf.ret1 fun ⟨h0, h1, h2, _⟩ E => by simp only; rw [if_pos ⟨h0, h1, h2⟩]
  | _ => exact .fail
theorem Rf.slarrP {ag : Bool} {len z : Nat} {x : Ar} {lo hi : Option Ar} : Rf P (Go.Ev.slarrP d ag len z x lo hi) fun _ => semSlarr d ag len z x lo hi := by
  unfold Go.Ev.slarrP semSlarr
  refine Rf.bind _ fun l => Rf.bind _ fun h => Rf.bind _ fun t => ?_
  cases t with
  | at_ s j =>
    refine .get (fun _ => rfl) fun u => ?_
    cases u with
    | box cs =>
      refine Rf.bind _ fun ys => ?_
      try dsimp only
      split
      · rename_i hc
        exact Rf.ret1 fun ⟨h0, h1, h2, _⟩ E => by rw [if_pos ⟨hc.1, hc.2, h0, h1, h2⟩]
      · exact .fail
    | pv ys =>
      try dsimp only
      split
      · rename_i hc
        exact Rf.ret1 fun ⟨h0, h1, h2, _⟩ E => by rw [if_pos ⟨hc.1, hc.2, h0, h1, h2⟩]
      · exact .fail
    | _ => exact .fail
  | _ => exact .fail
theorem Rf.binP {op : BinOp} {x y : Ar} : Rf P (Go.Ev.binP d op x y) fun _ => semBin d op x y := by
  unfold Go.Ev.binP semBin
  refine Rf.bind _ fun p => Rf.bind _ fun q => ?_
  cases p with
  | int k a =>
    cases q with
    | int k' b =>
      cases op <;> first | exact .fail | skip
      · dsimp only
        split
        · rename_i hk
          refine Rf.ret1 fun ⟨h, _⟩ E => ?_
          subst hk
          simp [intBin, h, RM.opt, RM.bind]
        · exact .fail
      · dsimp only
        split
        · rename_i hk
          refine Rf.ret1 fun ⟨h, _⟩ E => ?_
          subst hk
          simp [intBin, h, RM.opt, RM.bind]
        · exact .fail
      · refine Rf.ret1 fun ⟨h, _⟩ E => ?_
        have : ¬ b < 0 := by omega
        simp [shiftBin, this, RM.opt, RM.bind]
      · refine Rf.ret1 fun ⟨h, _⟩ E => ?_
        have : ¬ b < 0 := by omega
        simp [shiftBin, this, RM.opt, RM.bind]
    | _ => exact .fail
  | str a =>
    cases q with
    | str b =>
      cases op <;> first | exact .fail | skip
      refine Rf.ret1 fun ⟨h, _⟩ E => ?_
      simp only [strBin, if_pos h, RM.opt, RM.bind]
    | _ => exact .fail
  | _ => exact .fail
theorem Rf.s2bP {x : Ar} : Rf P (Go.Ev.s2bP d x) fun _ => semS2b d x := by
  unfold Go.Ev.s2bP semS2b
  refine Rf.bind _ fun u => ?_
  cases u with
  | str s => exact Rf.ret1 fun ⟨h, _⟩ E => by simp only; rw [if_pos h]
  | _ => exact .fail
theorem Rf.b2sP {b : ByteArray} {x : Ar} : Rf P (Go.Ev.b2sP b d x) fun _ => semB2s d x := by
  unfold Go.Ev.b2sP semB2s
  refine Rf.bind _ fun u => ?_
  cases u with
  | own f z ys =>
    try dsimp only
    split
    · exact Rf.ret1 fun ⟨h, _⟩ E => by simp only [h, RM.opt, RM.bind]
    · exact .fail
  | sl fr nn z ys =>
    try dsimp only
    split
    · exact Rf.ret1 fun ⟨h, _⟩ E => by simp only [h, RM.opt, RM.bind]
    · exact .fail
  | dsl nn z ys =>
    try dsimp only
    split
    · exact Rf.ret1 fun ⟨h, _⟩ E => by simp only [h, RM.opt, RM.bind]
    · exact .fail
  | _ => exact .fail
end
end Go.Ev

/-! text E40 -/
set_option linter.unusedVariables false
set_option linter.unusedSimpArgs false
namespace Go.Ev
open Go.RowKit

section
variable {P : Program} {n d : Nat}
def appT0 (d : Nat) (z bytes : Nat) (x : Ar) (p : (Option Nat × List AV) × List Wr) : RM (List Wr) :=
  if (p.1.1 = none ∨ p.1.1 = some z) ∧ p.1.2.all (okElem z) = true then (rd x).bind fun
      | (.nils, _) => if p.1.2.length * bytes ≤ 140737488355328 then .ret (p.2 ++ [.set d (.own true z p.1.2)]) else .fail
      | (.own f z2 xs, some k) => if k.1 ≠ d ∧ p.2.all (fun u => u.dst != k.1) = true ∧ z2 = z ∧ (xs.length + p.1.2.length) * bytes ≤ 140737488355328 then
          (putKey k (if f then .junk else .sl true false z xs)).bind fun ws => .ret (p.2 ++ ws ++ [.set d (.own f z (xs ++ p.1.2))]) else .fail
      | _ => .fail
    else .fail
theorem semApp_eq {z bytes : Nat} {x y : Ar} : semApp d z bytes x y = (rdElems y).bind (appT0 d z bytes x) := rfl
theorem Asks.appT {p : Prop} {z bytes : Nat} {x : Ar} {z' : Option Nat} {ys : List AV} {us : List Wr} {ps : List Prop} (h : AllP ps → p) : Asks p (Go.Ev.appT d z bytes x z' ys us ps) := by
  unfold Go.Ev.appT
  split
  · refine Asks.bind _ fun q => ?_
    obtain ⟨u, r⟩ := q
    cases u with
    | nils => exact Asks.ret fun hp => h (AllP_append.1 hp).1
    | own f z2 xs =>
      cases r with
      | none => exact .fail
      | some k =>
        try dsimp only
        split
        · exact Asks.bind _ fun ws => Asks.ret fun hp => h (AllP_append.1 hp).1
        · exact .fail
    | _ => exact .fail
  · exact .fail
theorem Rf.appT {z bytes : Nat} {x : Ar} {z' : Option Nat} {ys : List AV} {us : List Wr} {ps : List Prop} : Rf P (Go.Ev.appT d z bytes x z' ys us ps) fun _ => appT0 d z bytes x ((z', ys), us) := by
  refine Rf.cond (p := ys.all (okElem z) = true) (fun hall => ?_) ?_
  · unfold Go.Ev.appT appT0
    simp only
    by_cases hz : z' = none ∨ z' = some z
    · rw [if_pos hz, if_pos ⟨hz, hall⟩]
      refine Rf.bind _ fun q => ?_
      obtain ⟨u, r⟩ := q
      cases u with
      | nils => exact Rf.ret1 fun h E => by rw [if_pos (AllP_append.1 h).2.2.1]
      | own f z2 xs =>
        cases r with
        | none => exact .fail
        | some k =>
          try dsimp only
          by_cases hc : k.1 ≠ d ∧ us.all (fun u => u.dst != k.1) = true ∧ z2 = z
          · rw [if_pos hc]
            refine Rf.cond (p := (xs.length + ys.length) * bytes ≤ 140737488355328) (fun hl => ?_) (Asks.bind _ fun ws => Asks.ret fun hp => (AllP_append.1 hp).2.2.1)
            rw [if_pos (c := k.1 ≠ d ∧ us.all (fun u => u.dst != k.1) = true ∧ z2 = z ∧ (xs.length + ys.length) * bytes ≤ 140737488355328) ⟨hc.1, hc.2.1, hc.2.2, hl⟩]
            exact Rf.bind _ fun ws => Rf.ret1 fun _ _ => rfl
          · rw [if_neg hc]
            exact .fail
      | _ => exact .fail
    · rw [if_neg hz]
      exact .fail
  · unfold Go.Ev.appT
    split
    · refine Asks.bind _ fun q => ?_
      obtain ⟨u, r⟩ := q
      cases u with
      | nils => exact Asks.ret fun hp => (AllP_append.1 hp).2.1
      | own f z2 xs =>
        cases r with
        | none => exact .fail
        | some k =>
          try dsimp only
          split
          · exact Asks.bind _ fun ws => Asks.ret fun hp => (AllP_append.1 hp).2.1
          · exact .fail
      | _ => exact .fail
    · exact .fail
theorem Rf.appP {f : Bool} {z bytes : Nat} {x y : Ar} : Rf P (Go.Ev.appP f d z bytes x y) fun _ => semApp d z bytes x y := by
  rw [semApp_eq]
  unfold Go.Ev.appP rdElems
  rw [RM.bind_assoc]
  refine Rf.bind _ fun q => ?_
  have key : Rf P ((rdView y).bind fun
      | (.sl _ _ z' ys, ws) => Go.Ev.appT d z bytes x (some z') ys ws []
      | _ => .fail) fun _ => ((rdView y).bind fun
      | (.sl _ _ z ys, ws) => .ret ((some z, ys), ws)
      | _ => .fail).bind (appT0 d z bytes x) := by
    rw [RM.bind_assoc]
    refine Rf.bind _ fun p => ?_
    obtain ⟨u, ws⟩ := p
    cases u with
    | sl fr nn z' ys => exact Rf.appT
    | _ => exact .fail
  obtain ⟨u, r⟩ := q
  cases u with
  | own g z' ys =>
    cases g with
    | false => exact key
    | true =>
      cases r with
      | none => exact key
      | some k =>
        cases f with
        | true =>
          refine Rf.cond (p := ys.all flat = true) (fun hf => ?_) (Asks.appT fun h => h.1)
          simp only [hf, if_true]
          exact Rf.appT
        | false =>
          refine Rf.cond (p := ys.all flat = false) (fun hf => ?_) (Asks.bind _ fun ws => Asks.appT fun h => h.1)
          simp only [hf, Bool.false_eq_true, if_false]
          rw [RM.bind_assoc]
          exact Rf.bind _ fun ws => Rf.appT
  | str s => exact Rf.appT
  | nils => exact Rf.appT
  | _ => exact key
theorem Rf.callP {sh : Bool} {ys' : List AV} {r : AV} {f : FuncId} {xs : List Ar} : Rf P (Go.Ev.callP P sh ys' r d f xs) fun E => semCall E n d f xs := by
  unfold Go.Ev.callP semCall
  refine Rf.bind _ fun p => ?_
  obtain ⟨ys, ws⟩ := p
  have ok : ∀ (ps : List Prop) (ws : List Wr), CallsOk P ⟨ws, FnW P f (stale.sL ys) ys' r :: ps, [(f, stale.sL ys, r)]⟩ := by
    intro ps ws hp c hc
    simp only [List.mem_singleton] at hc
    subst hc
    exact hp.1.ok
  cases sh with
  | true =>
    simp only [if_true]
    cases ws with
    | none => exact .fail
    | some ws =>
      refine .ret (ok _ _) fun E hs => ?_
      have he := hs.2 _ (List.mem_singleton.2 rfl)
      have hf : freshA r = false := hs.1.2.1
      simp only at he
      simp only [he, hf, Bool.false_eq_true, if_false, RM.opt, RM.bind]
  | false =>
    simp only [Bool.false_eq_true, if_false]
    refine .ret (ok _ _) fun E hs => ?_
    have he := hs.2 _ (List.mem_singleton.2 rfl)
    have hf : freshA r = true := hs.1.2.1
    simp only at he
    simp only [he, hf, if_true]

/-- Each instruction, with any answer. -/
theorem Rf.semP {ans : Option An} {d : Option Nat} {i : I} : Rf P (Go.Ev.semP P n ans d i) fun E => semI E n d i := by
  have noCall : (∀ f xs, i ≠ .call f xs) → ∀ E E' : Fns, semI E n d i = semI E' n d i := by
    intro h E E'
    cases i with
    | call f xs => exact absurd rfl (h f xs)
    | _ => cases d <;> rfl
  cases ans with
  | none =>
    have : (∃ f xs, i = .call f xs) ∨ ∀ f xs, i ≠ .call f xs := by
      cases i <;> first | exact .inl ⟨_, _, rfl⟩ | exact .inr fun _ _ h => nomatch h
    rcases this with ⟨f, xs, rfl⟩ | h
    · exact .fail
    · have e : Go.Ev.semP P n none d i = Go.Ev.plain (semI (fun _ _ _ => none) n d i) := by
        cases i with
        | call f xs => exact absurd rfl (h f xs)
        | _ => rfl
      rw [e]
      have := Rf.plain (P := P) (semI (fun _ _ _ => none) n d i)
      refine ⟨fun U σ x hr => ⟨(this.1 U σ x hr).1, fun E hs => ?_⟩, fun σ x l hr => ⟨(this.2 σ x l hr).1, fun E hs => ?_⟩⟩
      · show (semI E n d i).run U σ = _
        rw [noCall h E fun _ _ _ => none]; exact (this.1 U σ x hr).2 E hs
      · show (semI E n d i).runL σ = _
        rw [noCall h E fun _ _ _ => none]; exact (this.2 σ x l hr).2 E hs
  | some a =>
    cases a <;> cases i <;> cases d <;> first
      | exact .fail
      | exact Rf.loadP
      | exact Rf.storeP
      | exact Rf.idxAP (y := some _)
      | exact Rf.idxAP (y := none)
      | exact Rf.idxPP
      | exact Rf.idxP' (y := some _)
      | exact Rf.idxP' (y := none)
      | exact Rf.idxSP
      | exact Rf.sliceP
      | exact Rf.slstrP
      | exact Rf.slarrP
      | exact Rf.binP
      | exact Rf.s2bP
      | exact Rf.b2sP
      | exact Rf.appP
      | exact Rf.callP (n := n)
end
end Go.Ev

/-! text E41 -/
set_option linter.unusedVariables false
set_option linter.unusedSimpArgs false
namespace Go.Ev
open Go.RowKit

/-! ### Ways -/
abbrev As := List (Nat × An)
/-- Where an operation's answer stands. -/
def keyO (o : O1) : Nat :=
  match o.d, o.i with
  | some d, _ => d
  | none, .store _ (.tmp a) _ => a
  | none, _ => 0
def isRead : An → Bool
  | .v _ | .y _ | .s _ | .q | .q2 | .c _ _ | .cs _ _ => true
  | _ => false
def takeA (k : Nat) : As → Option An × As
  | [] => (none, [])
  | (k', a) :: al => if k' = k ∧ isRead a = true then (some a, al) else (none, (k', a) :: al)
/-- What is set is told in other words. -/
def ovr1 (x : AV) : An → Option (AV × Prop)
  | .b v => match x with
    | .bool y => some (.bool v, y = v)
    | _ => none
  | .i m => match x with
    | .int k y => some (.int k m, y = m)
    | _ => none
  | .n z => some (z, x = z)
  | _ => none
def Wr.put (z : AV) : Wr → Wr
  | .set d _ => .set d z
  | .mod s _ ks => .mod s z ks
def ovr : List Wr → As → List Wr × List Prop × As
  | [], al => ([], [], al)
  | w :: ws, [] => (w :: ws, [], [])
  | w :: ws, (k, a) :: al => if k = w.dst then match ovr1 w.val a with
      | some (z, p) => ((w.put z :: (ovr ws al).1), p :: (ovr ws al).2.1, (ovr ws al).2.2)
      | none => (w :: (ovr ws ((k, a) :: al)).1, (ovr ws ((k, a) :: al)).2.1, (ovr ws ((k, a) :: al)).2.2)
    else (w :: (ovr ws ((k, a) :: al)).1, (ovr ws ((k, a) :: al)).2.1, (ovr ws ((k, a) :: al)).2.2)
theorem ovr1_eq {x : AV} {a : An} {z : AV} {p : Prop} (h : ovr1 x a = some (z, p)) (hp : p) : z = x := by
  cases a with
  | b v =>
    cases x with
    | bool y =>
      simp only [ovr1, Option.some.injEq, Prod.mk.injEq] at h
      obtain ⟨rfl, rfl⟩ := h
      rw [hp]
    | _ => cases h
  | i v =>
    cases x with
    | int k y =>
      simp only [ovr1, Option.some.injEq, Prod.mk.injEq] at h
      obtain ⟨rfl, rfl⟩ := h
      rw [hp]
    | _ => cases h
  | n v =>
    simp only [ovr1, Option.some.injEq, Prod.mk.injEq] at h
    obtain ⟨rfl, rfl⟩ := h
    exact hp.symm
  | _ => cases h
theorem Wr.put_self (w : Wr) : w.put w.val = w := by cases w <;> rfl
theorem ovr_eq : ∀ (ws : List Wr) (al : As), AllP (ovr ws al).2.1 → (ovr ws al).1 = ws
  | [], al, _ => rfl
  | w :: ws, [], _ => rfl
  | w :: ws, (k, a) :: al, h => by
    unfold ovr at h ⊢
    split
    · rename_i hk
      rw [if_pos hk] at h
      cases ho : ovr1 w.val a with
      | none =>
        simp only [ho] at h ⊢
        rw [ovr_eq ws _ h]
      | some q =>
        obtain ⟨z, p⟩ := q
        simp only [ho] at h ⊢
        rw [ovr_eq ws al h.2, ovr1_eq ho h.1, Wr.put_self]
    · rename_i hk
      rw [if_neg hk] at h
      simp only at h ⊢
      rw [ovr_eq ws _ h]

structure St where
  σ : List AV
  ps : List Prop
  cs : List Cs
  al : As
def stepP (P : Program) (T : List Nat) (n : Nat) (o : O1) (al : As) (σ : List AV) : Option St :=
  let go := match (semP P n (takeA (keyO o) al).1 o.d o.i).run [] σ with
    | some x => if (ovr x.ws (takeA (keyO o) al).2).1.all (Wr.ok T n) then some { σ := apps T (ovr x.ws (takeA (keyO o) al).2).1 σ, ps := x.ps ++ (ovr x.ws (takeA (keyO o) al).2).2.1, cs := x.cs, al := (ovr x.ws (takeA (keyO o) al).2).2.2 : St } else none
    | none => none
  match o.g with
  | none => go
  | some (t, want) => match σ[t]? with
    | some (.bool b) => if b = want then go else match o.d with
      | some d => some { σ := (Wr.set d (.tup [])).app T σ, ps := [], cs := [], al := al }
      | none => some { σ := σ, ps := [], cs := [], al := al }
    | some (.tup []) => match o.d with
      | some d => some { σ := (Wr.set d (.tup [])).app T σ, ps := [], cs := [], al := al }
      | none => some { σ := σ, ps := [], cs := [], al := al }
    | _ => none
def CsOk (P : Program) (cs : List Cs) : Prop := ∀ c ∈ cs, FnOk P c.1 c.2.1 c.2.2
def CsIn (E : Fns) (cs : List Cs) : Prop := ∀ c ∈ cs, E c.1 c.2.1 [] = some (c.2.2, [])
section
variable {P : Program} {T : List Nat} {n : Nat}
theorem stepP_step {o : O1} {al : As} {σ : List AV} {s : St} (h : stepP P T n o al σ = some s) (hp : AllP s.ps) : CsOk P s.cs ∧ ∀ E, CsIn E s.cs → stepO E T n o σ = some s.σ := by
  have go : ∀ {s : St}, (match (semP P n (takeA (keyO o) al).1 o.d o.i).run [] σ with
    | some x => if (ovr x.ws (takeA (keyO o) al).2).1.all (Wr.ok T n) then some { σ := apps T (ovr x.ws (takeA (keyO o) al).2).1 σ, ps := x.ps ++ (ovr x.ws (takeA (keyO o) al).2).2.1, cs := x.cs, al := (ovr x.ws (takeA (keyO o) al).2).2.2 : St } else none
    | none => none) = some s → AllP s.ps → CsOk P s.cs ∧ ∀ E, CsIn E s.cs → (match (semI E n o.d o.i).run [] σ with
      | some ws => if ws.all (Wr.ok T n) then some (apps T ws σ) else none
      | none => none) = some s.σ := by
    intro s h hp
    split at h
    · rename_i x hx
      split at h
      · rename_i hok
        simp only [Option.some.injEq] at h
        subst h
        obtain ⟨hp1, hp2⟩ := AllP_append.1 hp
        obtain ⟨c1, c2⟩ := Rf.semP.1 [] σ x hx
        refine ⟨c1 hp1, fun E hE => ?_⟩
        rw [c2 E ⟨hp1, hE⟩]
        simp only
        rw [ovr_eq _ _ hp2] at hok ⊢
        rw [if_pos hok]
      · cases h
    · cases h
  have skip : ∀ {s : St}, (match o.d with
      | some d => some { σ := (Wr.set d (.tup [])).app T σ, ps := [], cs := [], al := al : St }
      | none => some { σ := σ, ps := [], cs := [], al := al : St }) = some s → CsOk P s.cs ∧ (match o.d with
      | some d => some ((Wr.set d (.tup [])).app T σ)
      | none => some σ) = some s.σ := by
    intro s h
    cases hd : o.d with
    | none =>
      simp only [hd, Option.some.injEq] at h
      subst h
      exact ⟨fun c hc => (by cases hc), rfl⟩
    | some d =>
      simp only [hd, Option.some.injEq] at h
      subst h
      exact ⟨fun c hc => (by cases hc), rfl⟩
  unfold stepP at h
  unfold stepO
  cases hg : o.g with
  | none =>
    simp only [hg] at h
    exact go h hp
  | some q =>
    obtain ⟨t, want⟩ := q
    simp only [hg] at h
    split at h
    · rename_i b hb
      by_cases hbw : b = want
      · rw [if_pos hbw] at h
        simp only [hb, if_pos hbw]
        exact go h hp
      · rw [if_neg hbw] at h
        simp only [hb, if_neg hbw]
        obtain ⟨h1, h2⟩ := skip h
        exact ⟨h1, fun E _ => h2⟩
    · rename_i hb
      simp only [hb]
      obtain ⟨h1, h2⟩ := skip h
      exact ⟨h1, fun E _ => h2⟩
    · cases h
end
structure StD where
  σ : List AV
  rs : List Tr
  ps : List Prop
  cs : List Cs
  al : As
def stepDP (P : Program) (T : List Nat) (n : Nat) (o : O1) (kill : List Nat) (al : As) (σ : List AV) : Option StD :=
  let go : Option StD := match (semP P n (takeA (keyO o) al).1 o.d o.i).runL σ with
    | some (x, l) => if (ovr x.ws (takeA (keyO o) al).2).1.all (Wr.ok T n) && selfOk (ovr x.ws (takeA (keyO o) al).2).1 && kill.all (· < n) then some { σ := appX kill (ovr x.ws (takeA (keyO o) al).2).1 σ, rs := [{ W := (ovr x.ws (takeA (keyO o) al).2).1.map Wr.dst ++ kill, L := l, ws := (ovr x.ws (takeA (keyO o) al).2).1 }], ps := x.ps ++ (ovr x.ws (takeA (keyO o) al).2).2.1, cs := x.cs, al := (ovr x.ws (takeA (keyO o) al).2).2.2 } else none
    | none => none
  match o.g with
  | none => go
  | some (t, want) => match σ[t]? with
    | some (.bool b) => if b = want then go.map fun s => { s with rs := s.rs.map fun r => { r with L := t :: r.L } } else match o.d with
      | some d => some { σ := appX [] [.set d (.tup [])] σ, rs := [{ W := [d], L := [t], ws := [.set d (.tup [])] }], ps := [], cs := [], al := al }
      | none => some { σ := σ, rs := [{ W := [], L := [t], ws := [] }], ps := [], cs := [], al := al }
    | some (.tup []) => match o.d with
      | some d => some { σ := appX [] [.set d (.tup [])] σ, rs := [{ W := [d], L := [t], ws := [.set d (.tup [])] }], ps := [], cs := [], al := al }
      | none => some { σ := σ, rs := [{ W := [], L := [t], ws := [] }], ps := [], cs := [], al := al }
    | _ => none
section
variable {P : Program} {T : List Nat} {n : Nat}
theorem stepDP_step {o : O1} {kill : List Nat} {al : As} {σ : List AV} {s : StD} (h : stepDP P T n o kill al σ = some s) (hp : AllP s.ps) : CsOk P s.cs ∧ ∃ r, s.rs = [r] ∧ ∀ E, CsIn E s.cs → stepD E T n o kill σ = some (s.σ, r) := by
  have go : ∀ {s : StD}, (match (semP P n (takeA (keyO o) al).1 o.d o.i).runL σ with
    | some (x, l) => if (ovr x.ws (takeA (keyO o) al).2).1.all (Wr.ok T n) && selfOk (ovr x.ws (takeA (keyO o) al).2).1 && kill.all (· < n) then some { σ := appX kill (ovr x.ws (takeA (keyO o) al).2).1 σ, rs := [{ W := (ovr x.ws (takeA (keyO o) al).2).1.map Wr.dst ++ kill, L := l, ws := (ovr x.ws (takeA (keyO o) al).2).1 }], ps := x.ps ++ (ovr x.ws (takeA (keyO o) al).2).2.1, cs := x.cs, al := (ovr x.ws (takeA (keyO o) al).2).2.2 : StD } else none
    | none => none) = some s → AllP s.ps → CsOk P s.cs ∧ ∃ r, s.rs = [r] ∧ ∀ E, CsIn E s.cs → (match (semI E n o.d o.i).runL σ with
      | some (ws, l) => if ws.all (Wr.ok T n) && selfOk ws && kill.all (· < n) then some (appX kill ws σ, { W := ws.map Wr.dst ++ kill, L := l, ws := ws : Tr }) else none
      | none => none) = some (s.σ, r) := by
    intro s h hp
    split at h
    · rename_i x l hx
      split at h
      · rename_i hok
        simp only [Option.some.injEq] at h
        subst h
        obtain ⟨hp1, hp2⟩ := AllP_append.1 hp
        obtain ⟨c1, c2⟩ := Rf.semP.2 σ x l hx
        refine ⟨c1 hp1, _, rfl, fun E hE => ?_⟩
        rw [c2 E ⟨hp1, hE⟩]
        simp only
        rw [ovr_eq _ _ hp2] at hok ⊢
        rw [if_pos hok]
      · cases h
    · cases h
  have skip : ∀ {t : Nat} {s : StD}, (match o.d with
      | some d => some { σ := appX [] [.set d (.tup [])] σ, rs := [{ W := [d], L := [t], ws := [.set d (.tup [])] }], ps := [], cs := [], al := al : StD }
      | none => some { σ := σ, rs := [{ W := [], L := [t], ws := [] }], ps := [], cs := [], al := al : StD }) = some s → CsOk P s.cs ∧ ∃ r, s.rs = [r] ∧ (match o.d with
      | some d => some (appX [] [.set d (.tup [])] σ, ({ W := [d], L := [t], ws := [.set d (.tup [])] } : Tr))
      | none => some (σ, { W := [], L := [t], ws := [] })) = some (s.σ, r) := by
    intro t s h
    cases hd : o.d with
    | none =>
      simp only [hd, Option.some.injEq] at h
      subst h
      exact ⟨fun c hc => (by cases hc), _, rfl, rfl⟩
    | some d =>
      simp only [hd, Option.some.injEq] at h
      subst h
      exact ⟨fun c hc => (by cases hc), _, rfl, rfl⟩
  unfold stepDP at h
  unfold stepD
  cases hg : o.g with
  | none =>
    simp only [hg] at h
    exact go h hp
  | some q =>
    obtain ⟨t, want⟩ := q
    simp only [hg] at h
    split at h
    · rename_i b hb
      by_cases hbw : b = want
      · rw [if_pos hbw] at h
        simp only [hb, if_pos hbw]
        obtain ⟨s0, h1, h2⟩ := map_some h
        subst h2
        obtain ⟨g1, r, g2, g3⟩ := go h1 hp
        refine ⟨g1, { r with L := t :: r.L }, by simp [g2], fun E hE => ?_⟩
        exact congrArg (Option.map fun (x : List AV × Tr) => (x.1, ({ x.2 with L := t :: x.2.L } : Tr))) (g3 E hE)
      · rw [if_neg hbw] at h
        simp only [hb, if_neg hbw]
        obtain ⟨h1, r, h2, h3⟩ := skip h
        exact ⟨h1, r, h2, fun E _ => h3⟩
    · rename_i hb
      simp only [hb]
      obtain ⟨h1, r, h2, h3⟩ := skip h
      exact ⟨h1, r, h2, fun E _ => h3⟩
    · cases h
end
end Go.Ev

/-! text E42 -/
set_option linter.unusedVariables false
set_option linter.unusedSimpArgs false
namespace Go.Ev
open Go.RowKit

/-! ### Ways through regions, through code -/
/-- Two calls alike have one answer. -/
def uniq1 (c : Cs) : List Cs → List Prop
  | [] => []
  | e :: r => if c.1 = e.1 then (c.2.1 = e.2.1 → c.2.2 = e.2.2) :: uniq1 c r else uniq1 c r
def uniq : List Cs → List Prop
  | [] => []
  | c :: r => uniq1 c r ++ uniq r
def stepsP (P : Program) (T : List Nat) (n : Nat) : List O1 → As → List AV → Option (List AV × List Prop × As)
  | [], al, σ => some (σ, [], al)
  | o :: os, al, σ => match stepP P T n o al σ with
    | some s => match stepsP P T n os s.al s.σ with
      | some (σ', ps, as') => some (σ', s.ps ++ (uniq s.cs ++ ps), as')
      | none => none
    | none => none
def stepsDP (P : Program) (T : List Nat) (n : Nat) : List (O1 × List Nat) → As → List AV → Option StD
  | [], al, σ => some { σ := σ, rs := [], ps := [], cs := [], al := al }
  | (o, k) :: os, al, σ => match stepDP P T n o k al σ with
    | some s => match stepsDP P T n os s.al s.σ with
      | some s2 => some { σ := s2.σ, rs := s.rs ++ s2.rs, ps := s.ps ++ s2.ps, cs := s.cs ++ s2.cs, al := s2.al }
      | none => none
    | none => none
open Classical in
noncomputable def Efor : List Cs → Fns
  | [], _, _, _ => none
  | c :: r, f, ys, os => if c.1 = f ∧ c.2.1 = ys ∧ os = [] then some (c.2.2, []) else Efor r f ys os
theorem uniq1_get {c : Cs} : ∀ {l : List Cs}, AllP (uniq1 c l) → ∀ e ∈ l, c.1 = e.1 → c.2.1 = e.2.1 → c.2.2 = e.2.2
  | [], _, e, he, _, _ => by cases he
  | x :: l, h, e, he, h1, h2 => by
    unfold uniq1 at h
    split at h
    · rcases List.mem_cons.1 he with rfl | he
      · exact h.1 h2
      · exact uniq1_get h.2 e he h1 h2
    · rename_i hx
      rcases List.mem_cons.1 he with rfl | he
      · exact absurd h1 hx
      · exact uniq1_get h e he h1 h2
theorem Efor_in : ∀ {cs : List Cs}, AllP (uniq cs) → CsIn (Efor cs) cs
  | [], _, c, hc => by cases hc
  | x :: l, h, c, hc => by
    obtain ⟨h1, h2⟩ := AllP_append.1 h
    simp only [Efor]
    rcases List.mem_cons.1 hc with rfl | hc
    · rw [if_pos ⟨rfl, rfl, rfl⟩]
    · split
      · rename_i he
        rw [uniq1_get h1 c hc he.1 he.2.1]
      · exact Efor_in h2 c hc
theorem Efor_ok {P : Program} : ∀ {cs : List Cs}, CsOk P cs → ∀ f ys r, Efor cs f ys [] = some (r, []) → FnOk P f ys r
  | [], _, f, ys, r, h => by cases h
  | x :: l, hok, f, ys, r, h => by
    simp only [Efor] at h
    split at h
    · rename_i he
      obtain ⟨rfl, rfl, _⟩ := he
      simp only [Option.some.injEq, Prod.mk.injEq, and_true] at h
      subst h
      exact hok x (List.mem_cons_self ..)
    · exact Efor_ok (fun c hc => hok c (List.mem_cons_of_mem _ hc)) f ys r h
def runRegP (P : Program) (T : List Nat) (n : Nat) (draw : Bool) (os : List O1) (al : As) (σ : List AV) : Option (List AV × List Prop × As) :=
  if draw then
    match stepsDP P T n (os.zip (killsOf os)) al (preKill os T σ) with
    | some s => if allIndep (befores os) s.rs && refsOk (befores os) s.rs && oldOk s.rs 0 (preKill os T σ) && afterOk 0 os then some (s.σ, s.ps ++ uniq s.cs, s.al) else none
    | none => none
  else stepsP P T n os al σ
/-- What must be shown for less to be told. -/
def leS : List AV → List AV → Option (List Prop)
  | [], [] => some []
  | x :: xs, y :: ys => match y with
    | .junk => if notMem x then leS xs ys else none
    | y => (leS xs ys).map (LeR x y :: ·)
  | _, _ => none
theorem leS_ok : ∀ {σ σ' : List AV} {ps : List Prop}, leS σ σ' = some ps → AllP ps → LeS σ σ'
  | [], [], _, _, _ => trivial
  | x :: xs, y :: ys, ps, h, hp => by
    cases y with
    | junk =>
      simp only [leS] at h
      split at h
      · rename_i hn
        exact ⟨.junk hn, leS_ok h hp⟩
      · cases h
    | _ =>
      simp only [leS] at h
      obtain ⟨qs, h1, h2⟩ := map_some h
      subst h2
      exact ⟨hp.1, leS_ok h1 hp.2⟩
  | [], _ :: _, _, h, _ => by cases h
  | _ :: _, [], _, h, _ => by cases h
/-- The first and the last slot that a piece sets: its mark. -/
def firstO : Cd → Nat
  | .reg _ (o :: _) => keyO o
  | .seq a b => if firstO a = 0 then firstO b else firstO a
  | .cond _ a b => if firstO a = 0 then firstO b else firstO a
  | .block _ b => firstO b
  | .loop _ b => firstO b
  | _ => 0
def lastOps : List O1 → Nat
  | [] => 0
  | o :: os => if lastOps os = 0 then keyO o else lastOps os
def lastO : Cd → Nat
  | .reg _ os => lastOps os
  | .seq a b => if lastO b = 0 then lastO a else lastO b
  | .cond _ a b => if lastO b = 0 then lastO a else lastO b
  | .block _ b => lastO b
  | .loop _ b => lastO b
  | _ => 0
def markO (c : Cd) : Nat := firstO c * 10000 + lastO c
/-- A piece whose law is at hand. -/
def opq (P : Program) (T : List Nat) (n : Nat) (c : Cd) (al : As) (σ : List AV) : Option ((Ex × List AV) × List Prop × As) :=
  match al with
  | (k, .sg σ1 e σ') :: al' => if k = markO c then match leS σ σ1 with
      | some ps => some ((e, σ'), ps ++ [Runs P T n c σ1 (· = (e, σ'))], al')
      | none => none
    else none
  | _ => none
def pr (P : Program) (T : List Nat) (n : Nat) : Cd → As → List AV → Option ((Ex × List AV) × List Prop × As)
  | .skip, al, σ => some ((.normal, σ), [], al)
  | .reg draw os, al, σ => match opq P T n (.reg draw os) al σ with
    | some r => some r
    | none => match runRegP P T n draw os al σ with
      | some (σ', ps, al') => some ((.normal, σ'), ps, al')
      | none => none
  | .seq a b, al, σ => match opq P T n (.seq a b) al σ with
    | some r => some r
    | none => match pr P T n a al σ with
      | some ((.normal, σ'), ps, al') => match pr P T n b al' σ' with
        | some (r, qs, al2) => some (r, ps ++ qs, al2)
        | none => none
      | r => r
  | .cond c a b, al, σ => match opq P T n (.cond c a b) al σ with
    | some r => some r
    | none => match condOf c σ with
      | some t => if t then pr P T n a al σ else pr P T n b al σ
      | none => none
  | .block id b, al, σ => match opq P T n (.block id b) al σ with
    | some r => some r
    | none => match pr P T n b al σ with
      | some ((.exit j, σ'), ps, al') => if j = id then some ((.normal, σ'), ps, al') else some ((.exit j, σ'), ps, al')
      | r => r
  | .loop live b, (_, .lp σ1 e σ') :: al, σ => match leS σ σ1 with
    | some ps => some ((e, σ'), ps ++ [Runs P T n (.loop live b) σ1 (· = (e, σ'))], al)
    | none => none
  | .loop _ _, _, _ => none
  | .exit id, al, σ => some ((.exit id, σ), [], al)
  | .ret, al, σ => some ((.ret, σ), [], al)

section
variable {P : Program} {T : List Nat} {n : Nat} {w0 : World} {St0 : Nat → Nat} {γ : Gh} {σ : List AV} {a : Act} {w : World}
theorem stepsP_sound {ops : Array Oper} : ∀ (l : List Oper) (os : List O1) (al : As) (γ : Gh) (σ σ' : List AV) (ps : List Prop) (as' : As) (a : Act) (w : World), mapOpt (cO1 P ops) l = some os → (∀ o ∈ l, ∀ d, o.dst = some d → d < n) → GoodAt T w0 St0 γ σ a w → a.tmps.size = n →
    stepsP P T n os al σ = some (σ', ps, as') → AllP ps → ∀ {Q : Exit → Act → World → Prop}, (∀ a' w', Post T w0 St0 n σ' a' w' → Q .normal a' w') → wpList P ops Q l a w
  | [], os, al, γ, σ, σ', ps, as', a, w, hm, _, G, hn, h, _, Q, hQ => by
    simp only [mapOpt, Option.some.injEq] at hm
    subst hm
    simp only [stepsP, Option.some.injEq, Prod.mk.injEq] at h
    obtain ⟨rfl, _, _⟩ := h
    exact hQ a w ⟨hn, γ, G⟩
  | o :: l, os, al, γ, σ, σ', ps, as', a, w, hm, hdn, G, hn, h, hp, Q, hQ => by
    simp only [mapOpt] at hm
    cases h1 : cO1 P ops o with
    | none => simp [h1] at hm
    | some p =>
      cases h2 : mapOpt (cO1 P ops) l with
      | none => simp [h1, h2] at hm
      | some os2 =>
        simp only [h1, h2, Option.some.injEq] at hm
        subst hm
        simp only [stepsP] at h
        cases hs : stepP P T n p al σ with
        | none => simp [hs] at h
        | some s =>
          simp only [hs] at h
          cases ht : stepsP P T n os2 s.al s.σ with
          | none => simp [ht] at h
          | some q =>
            obtain ⟨σ2, ps2, as2⟩ := q
            simp only [ht, Option.some.injEq, Prod.mk.injEq] at h
            obtain ⟨rfl, rfl, rfl⟩ := h
            obtain ⟨p1, p2⟩ := AllP_append.1 hp
            obtain ⟨p2, p3⟩ := AllP_append.1 p2
            obtain ⟨c1, c2⟩ := stepP_step hs p1
            refine wpList_step fun K hK => ?_
            exact stepO_sound (call_sound (Efor_ok c1)) h1 G hn (fun d hd => hdn o (List.mem_cons_self ..) d hd) (c2 _ (Efor_in p2)) fun a' w' ⟨hn', γ', G'⟩ => hK _ _ (stepsP_sound l os2 s.al γ' s.σ σ2 ps2 as2 a' w' h2 (fun o ho => hdn o (List.mem_cons_of_mem _ ho)) G' hn' ht p3 hQ)
theorem stepsDP_step : ∀ (oks : List (O1 × List Nat)) (al : As) (σ : List AV) (s : StD), stepsDP P T n oks al σ = some s → AllP s.ps → CsOk P s.cs ∧ ∀ E, CsIn E s.cs → stepsD E T n oks σ = some (s.σ, s.rs)
  | [], al, σ, s, h, _ => by
    simp only [stepsDP, Option.some.injEq] at h
    subst h
    exact ⟨fun c hc => (by cases hc), fun E _ => rfl⟩
  | (o, k) :: oks, al, σ, s, h, hp => by
    simp only [stepsDP] at h
    cases hs : stepDP P T n o k al σ with
    | none => simp [hs] at h
    | some s1 =>
      simp only [hs] at h
      cases ht : stepsDP P T n oks s1.al s1.σ with
      | none => simp [ht] at h
      | some s2 =>
        simp only [ht, Option.some.injEq] at h
        subst h
        obtain ⟨p1, p2⟩ := AllP_append.1 hp
        obtain ⟨c1, r, e1, c2⟩ := stepDP_step hs p1
        obtain ⟨d1, d2⟩ := stepsDP_step oks s1.al s1.σ s2 ht p2
        refine ⟨fun c hc => (List.mem_append.1 hc).elim (c1 c) (d1 c), fun E hE => ?_⟩
        simp only [stepsD]
        rw [c2 E fun c hc => hE c (List.mem_append.2 (.inl hc))]
        simp only
        rw [d2 E fun c hc => hE c (List.mem_append.2 (.inr hc))]
        simp [e1]
theorem opq_sound {c : Cd} {al : As} {σ : List AV} {r : Ex × List AV} {ps : List Prop} {al' : As} (h : opq P T n c al σ = some (r, ps, al')) (hp : AllP ps) : Runs P T n c σ (· = r) := by
  unfold opq at h
  split at h
  · split at h
    · split at h
      · rename_i ps1 h1
        simp only [Option.some.injEq, Prod.mk.injEq] at h
        obtain ⟨rfl, rfl, rfl⟩ := h
        obtain ⟨p1, p2⟩ := AllP_append.1 hp
        exact Runs.le p2.1 (leS_ok h1 p1)
      · cases h
    · cases h
  · cases h
/-- A way: what it comes to, where what is asked holds. -/
theorem pr_sound (hfol : P.follows .mixedOrders = true) : ∀ (cd : Cd) (al : As) (σ : List AV) (r : Ex × List AV) (ps : List Prop) (as' : As), pr P T n cd al σ = some (r, ps, as') → AllP ps → Runs P T n cd σ (· = r)
  | .skip, al, σ, r, ps, as', h, hp => by
    simp only [pr, Option.some.injEq, Prod.mk.injEq] at h
    obtain ⟨rfl, _⟩ := h
    exact Runs.skip rfl
  | .reg draw os, al, σ, r, ps, as', h, hp => by
    simp only [pr] at h
    split at h
    · rename_i q hq
      simp only [Option.some.injEq] at h
      subst h
      exact opq_sound hq hp
    split at h
    · rename_i σ' ps2 as2 hr
      simp only [Option.some.injEq, Prod.mk.injEq] at h
      obtain ⟨rfl, rfl, rfl⟩ := h
      intro c hm w0 St0 γ a w G hn
      cases c <;> first | exact hm.elim | skip
      rename_i id ops draw'
      obtain ⟨rfl, hm, hdn⟩ := hm
      cases draw with
      | false =>
        simp only [runRegP, Bool.false_eq_true, if_false] at hr
        exact wp_region_list (stepsP_sound ops.toList os al γ σ σ' _ _ a w hm hdn G hn hr hp fun a' w' h => ⟨_, rfl, trivial, h⟩)
      | true =>
        simp only [runRegP, if_true] at hr
        split at hr
        · rename_i s hs
          split at hr
          · rename_i hc
            simp only [Option.some.injEq, Prod.mk.injEq] at hr
            obtain ⟨rfl, rfl, rfl⟩ := hr
            obtain ⟨p1, p2⟩ := AllP_append.1 hp
            obtain ⟨c1, c2⟩ := stepsDP_step _ al _ s hs p1
            have hE : CallSound P T (Efor s.cs) n := call_sound (Efor_ok c1)
            refine draw_sound hfol hE id ops os hm hdn w0 St0 γ σ s.σ a w G hn ?_ _ fun a' w' h => ⟨_, rfl, trivial, h⟩
            simp only [runReg, if_true]
            rw [c2 _ (Efor_in p2)]
            simp only
            rw [if_pos hc]
          · cases hr
        · cases hr
    · cases h
  | .seq x y, al, σ, r, ps, as', h, hp => by
    simp only [pr] at h
    split at h
    · rename_i q hq
      simp only [Option.some.injEq] at h
      subst h
      exact opq_sound hq hp
    split at h
    · rename_i σ1 ps1 as1 h1
      split at h
      · rename_i r2 qs as2 h2
        simp only [Option.some.injEq, Prod.mk.injEq] at h
        obtain ⟨rfl, rfl, rfl⟩ := h
        obtain ⟨p1, p2⟩ := AllP_append.1 hp
        refine Runs.seq (pr_sound hfol x al σ _ ps1 as1 h1 p1) fun e σ' he => ?_
        cases he
        rw [if_pos rfl]
        exact pr_sound hfol y as1 σ1 _ qs as2 h2 p2
      · cases h
    · rename_i hne
      refine Runs.seq (pr_sound hfol x al σ _ ps as' h hp) fun e σ' he => ?_
      have hn : e ≠ .normal := by
        rintro rfl
        cases he
        exact hne _ _ _ h
      rw [if_neg hn]
      exact he
  | .cond c x y, al, σ, r, ps, as', h, hp => by
    simp only [pr] at h
    split at h
    · rename_i q hq
      simp only [Option.some.injEq] at h
      subst h
      exact opq_sound hq hp
    split at h
    · rename_i t ht
      refine Runs.cond ht ?_
      cases t with
      | true => exact pr_sound hfol x al σ r ps as' h hp
      | false => exact pr_sound hfol y al σ r ps as' h hp
    · cases h
  | .block id x, al, σ, r, ps, as', h, hp => by
    simp only [pr] at h
    split at h
    · rename_i q hq
      simp only [Option.some.injEq] at h
      subst h
      exact opq_sound hq hp
    refine Runs.block ?_
    split at h
    · rename_i j σ1 ps1 as1 h1
      split at h
      · rename_i hj
        simp only [Option.some.injEq, Prod.mk.injEq] at h
        obtain ⟨rfl, rfl, rfl⟩ := h
        refine (pr_sound hfol x al σ _ ps1 as1 h1 hp).mono fun r hr => ?_
        subst hr
        simp [hj]
      · rename_i hj
        simp only [Option.some.injEq, Prod.mk.injEq] at h
        obtain ⟨rfl, rfl, rfl⟩ := h
        refine (pr_sound hfol x al σ _ ps1 as1 h1 hp).mono fun r hr => ?_
        subst hr
        simp [hj]
    · rename_i hne
      refine (pr_sound hfol x al σ _ ps as' h hp).mono fun r' hr => ?_
      subst hr
      split
      · rename_i hx
        obtain ⟨ex, σ1⟩ := r'
        simp only at hx
        subst hx
        exact absurd h (hne _ _ _ _)
      · rfl
  | .loop live x, al, σ, r, ps, as', h, hp => by
    match al, h with
    | [], h => cases h
    | (_, .b _) :: _, h => cases h
    | (_, .i _) :: _, h => cases h
    | (_, .n _) :: _, h => cases h
    | (_, .v _) :: _, h => cases h
    | (_, .y _) :: _, h => cases h
    | (_, .s _) :: _, h => cases h
    | (_, .q) :: _, h => cases h
    | (_, .q2) :: _, h => cases h
    | (_, .c _ _) :: _, h => cases h
    | (_, .cs _ _) :: _, h => cases h
    | (_, .sg _ _ _) :: _, h => cases h
    | (k, .lp σ1 e σ') :: al, h =>
      simp only [pr] at h
      split at h
      · rename_i ps1 h1
        simp only [Option.some.injEq, Prod.mk.injEq] at h
        obtain ⟨rfl, rfl, rfl⟩ := h
        obtain ⟨p1, p2⟩ := AllP_append.1 hp
        exact Runs.le p2.1 (leS_ok h1 p1)
      · cases h
  | .exit id, al, σ, r, ps, as', h, hp => by
    simp only [pr, Option.some.injEq, Prod.mk.injEq] at h
    obtain ⟨rfl, _⟩ := h
    exact Runs.exit rfl
  | .ret, al, σ, r, ps, as', h, hp => by
    simp only [pr, Option.some.injEq, Prod.mk.injEq] at h
    obtain ⟨rfl, _⟩ := h
    exact Runs.ret rfl
end
end Go.Ev

/-! text E43 -/
set_option linter.unusedVariables false
set_option linter.unusedSimpArgs false
namespace Go.Ev
open Go.RowKit

/-! ### A function -/
/-- The operations write no slot that there is not. -/
def dstOk (n : Nat) : Code → Bool
  | .region _ ops _ => ops.toList.all fun o => match o.dst with
    | some d => decide (d < n)
    | none => true
  | .seq a b => dstOk n a && dstOk n b
  | .cond _ a b => dstOk n a && dstOk n b
  | .block _ b => dstOk n b
  | .loop b => dstOk n b
  | _ => true
theorem cCode_match {P : Program} {n : Nat} : ∀ (c : Code) (cd : Cd), cCode P c = some cd → dstOk n c = true → MatchC P n c cd := by
  intro c
  induction c with
  | skip => intro cd h _; simp only [cCode, Option.some.injEq] at h; subst h; trivial
  | ret => intro cd h _; simp only [cCode, Option.some.injEq] at h; subst h; trivial
  | exit i => intro cd h _; simp only [cCode, Option.some.injEq] at h; subst h; rfl
  | region i ops d =>
    intro cd h hd
    simp only [cCode] at h
    obtain ⟨os, h1, rfl⟩ := map_some h
    refine ⟨rfl, h1, fun o ho d hod => ?_⟩
    simp only [dstOk, List.all_eq_true] at hd
    have := hd o ho
    rw [hod] at this
    simpa using this
  | seq x y ih1 ih2 =>
    intro cd h hd
    simp only [cCode] at h
    simp only [dstOk, Bool.and_eq_true] at hd
    split at h
    · rename_i a b ha hb
      simp only [Option.some.injEq] at h
      subst h
      exact ⟨ih1 a ha hd.1, ih2 b hb hd.2⟩
    · cases h
  | cond c x y ih1 ih2 =>
    intro cd h hd
    simp only [cCode] at h
    simp only [dstOk, Bool.and_eq_true] at hd
    split at h
    · rename_i c' a b hc ha hb
      simp only [Option.some.injEq] at h
      subst h
      exact ⟨hc, ih1 a ha hd.1, ih2 b hb hd.2⟩
    · cases h
  | block i x ih =>
    intro cd h hd
    simp only [cCode] at h
    obtain ⟨b, h1, rfl⟩ := map_some h
    exact ⟨rfl, ih b h1 hd⟩
  | loop x ih =>
    intro cd h hd
    simp only [cCode] at h
    obtain ⟨b, h1, rfl⟩ := map_some h
    exact ih b h1 hd
  | _ => intro cd h hd; simp [cCode] at h

/-- A function's instructions. -/
def FdOk (P : Program) (f : FuncId) (fd : Fd) : Prop :=
  ∃ fn c, P.funcs[f]? = some fn ∧ fn.name ≠ "runtime.NumGoroutine" ∧ fn.body = some c ∧ fn.ntmps = fd.n ∧ MatchC P fd.n c fd.body ∧ mapOpt (cRv P) fn.results.toList = some fd.res
/-- What the kernel is asked. -/
def cFd (P : Program) (f : FuncId) : Option Fd :=
  match P.funcs[f]? with
  | some fn => match fn.body, mapOpt (cRv P) fn.results.toList with
    | some b, some r => match cCode P b with
      | some c => if fn.name ≠ "runtime.NumGoroutine" ∧ dstOk fn.ntmps b = true then some ⟨fn.ntmps, c, r⟩ else none
      | none => none
    | _, _ => none
  | none => none
theorem FdOk.of {P : Program} {f : FuncId} {fd : Fd} (h : cFd P f = some fd) : FdOk P f fd := by
  unfold cFd at h
  split at h
  · rename_i fn hf
    split at h
    · rename_i b r hb hr
      split at h
      · rename_i c hc
        split at h
        · rename_i hok
          simp only [Option.some.injEq] at h
          subst h
          exact ⟨fn, b, hf, hok.1, hb, rfl, cCode_match b c hc hok.2, hr⟩
        · cases h
      · cases h
    · cases h
  · cases h

def startOf (n : Nat) (ys : List AV) : List AV := ys ++ List.replicate (n - ys.length) (.tup []) ++ [.mem []]
theorem fn_of_runs {P : Program} {f : FuncId} {fd : Fd} {ys : List AV} {r : AV} (hf : FdOk P f fd) (hlen : ys.length ≤ fd.n)
    (h : Runs P fd.body.T fd.n fd.body (startOf fd.n ys) fun q => (q.1 = .normal ∨ q.1 = .ret) ∧ results fd.body.T q.2 fd.res = some r) : FnOk P f ys r := by
  obtain ⟨fn, c, h1, h2, h3, h4, h5, h6⟩ := hf
  intro w args St hSt hv
  have hl := VL_len hv
  rw [callFunc_run h1 h2 h3]
  refine calls_of_wp h1 h3 ?_
  have G := start_good (n := fd.n) hSt hv hlen fd.body.T
  rw [h4]
  have hsz : (args.toArray ++ Array.replicate (fd.n - args.toArray.size) undef).size = fd.n := by simp; omega
  refine Code.wp_mono (fun e a' w' q => ?_) (h c h5 _ _ _ _ _ G hsz)
  obtain ⟨⟨ex, σ⟩, ⟨hor, hres⟩, q1, hn', γ', G'⟩ := q
  obtain ⟨v, f1, f2, γ2, G2⟩ := fin_results (P := P) G' h6 hres
  rcases hor with rfl | rfl
  · cases e with
    | normal => exact ⟨G'.defers, v, f1, f2, _, γ2, G2⟩
    | _ => exact q1.elim
  · cases e with
    | ret => exact ⟨G'.defers, v, f1, f2, _, γ2, G2⟩
    | _ => exact q1.elim

/-- A way through a function: what must hold for it to answer r. -/
def prF (P : Program) (f : FuncId) (T : List Nat) (fd : Fd) (al : As) (ys : List AV) (r : AV) : Option (List Prop) :=
  match pr P T fd.n fd.body al (startOf fd.n ys) with
  | some ((e, σ), ps, []) => if ys.length ≤ fd.n ∧ (e = .normal ∨ e = .ret) then match results T σ fd.res with
      | some r' => some (ps ++ [r' = r])
      | none => none
    else none
  | _ => none
theorem fn_of_pr {P : Program} {f : FuncId} {fd : Fd} {T : List Nat} {al : As} {ys : List AV} {r : AV} {ps : List Prop} (hfol : P.follows .mixedOrders = true) (hf : FdOk P f fd) (hT : fd.body.T = T) (h : prF P f T fd al ys r = some ps) (hp : AllP ps) : FnOk P f ys r := by
  subst hT
  unfold prF at h
  split at h
  · rename_i e σ ps1 h1
    split at h
    · rename_i hc
      split at h
      · rename_i r' hr
        simp only [Option.some.injEq] at h
        subst h
        obtain ⟨p1, p2⟩ := AllP_append.1 hp
        refine fn_of_runs hf hc.1 ((pr_sound hfol _ _ _ _ _ _ h1 p1).mono fun q hq => ?_)
        subst hq
        exact ⟨hc.2, by rw [hr]; exact congrArg some p2.1⟩
      · cases h
    · cases h
  · cases h
/-- A way through a piece of code, to a state of which less is told. -/
def prR (P : Program) (T : List Nat) (n : Nat) (cd : Cd) (al : As) (σ : List AV) (e : Ex) (σ' : List AV) : Option (List Prop) :=
  match pr P T n cd al σ with
  | some ((e', σ1), ps, []) => if e' = e then match leS σ1 σ' with
      | some qs => some (ps ++ qs)
      | none => none
    else none
  | _ => none
theorem runs_of_pr {P : Program} {T : List Nat} {n : Nat} {cd : Cd} {al : As} {σ σ' : List AV} {e : Ex} {ps : List Prop} (hfol : P.follows .mixedOrders = true) (h : prR P T n cd al σ e σ' = some ps) (hp : AllP ps) : Runs P T n cd σ (· = (e, σ')) := by
  unfold prR at h
  split at h
  · rename_i e' σ1 ps1 h1
    split at h
    · rename_i he
      subst he
      split at h
      · rename_i qs hq
        simp only [Option.some.injEq] at h
        subst h
        obtain ⟨p1, p2⟩ := AllP_append.1 hp
        refine (pr_sound hfol _ _ _ _ _ _ h1 p1).ge fun e σ2 he => ?_
        cases he
        exact ⟨σ', leS_ok hq p2, rfl⟩
      · cases h
    · cases h
  · cases h
theorem AllP.n : AllP [] := trivial
theorem AllP.c {p : Prop} {ps : List Prop} (h : p) (hs : AllP ps) : AllP (p :: ps) := ⟨h, hs⟩
abbrev WayR (P : Program) (T : List Nat) (n : Nat) (cd : Cd) (al : As) (σ : List AV) (e : Ex) (σ' : List AV) : Prop := Runs P T n cd σ (· = (e, σ'))
abbrev WayF (P : Program) (f : FuncId) (T : List Nat) (fd : Fd) (al : As) (ys : List AV) (r : AV) : Prop := FnOk P f ys r
section
variable {P : Program} {T : List Nat} {n : Nat} {x : Cd} {σ σ' : List AV} {Q : Ex × List AV → Prop} {m : Nat}
theorem LoopR.step (h : Runs P T n x σ (· = (.normal, σ'))) (k : LoopR P T n x Q m σ') : LoopR P T n x Q (m + 1) σ :=
  LoopR.next (h.mono fun r hr => by subst hr; exact ⟨rfl, k⟩)
theorem LoopR.fin {e : Ex} (h : Runs P T n x σ (· = (e, σ'))) (he : e ≠ .normal) (hq : Q (e, σ')) : LoopR P T n x Q (m + 1) σ :=
  LoopR.out (h.mono fun r hr => by subst hr; exact ⟨he, hq⟩)
end
/-- A loop of j rounds. -/
theorem Runs.upto {P : Program} {T : List Nat} {n : Nat} {x : Cd} {live : List Nat} {S : Nat → List AV} {j : Nat} {r : Ex × List AV} (hs : ∀ i, i < j → Runs P T n x (S i) (· = (.normal, S (i + 1)))) (he : Runs P T n x (S j) (· = r)) (hne : r.1 ≠ .normal) : Runs P T n (.loop live x) (S 0) (· = r) := by
  have key : ∀ d i, i + d = j → LoopR P T n x (· = r) (d + 1) (S i) := by
    intro d
    induction d with
    | zero => intro i hi; obtain rfl : i = j := by omega
              exact LoopR.out (he.mono fun q hq => by subst hq; exact ⟨hne, rfl⟩)
    | succ d ih => intro i hi; exact LoopR.step (hs i (by omega)) (ih (i + 1) (by omega))
  exact Runs.loop (key j 0 (by omega))
theorem wrap64_eq {n : Int} (h0 : -9223372036854775808 ≤ n) (h1 : n < 9223372036854775808) : IntKind.i64.wrap n = n := IntWalk.i64_in n ⟨h0, by omega⟩
theorem wrap_succ {i : Nat} (h : i < 4611686018427387904) : IntKind.i64.wrap ((i : Int) + 1) = ((i + 1 : Nat) : Int) := by
  rw [wrap64_eq (by omega) (by omega)]
  omega
theorem wrap8_eq {n : Int} (h0 : 0 ≤ n) (h1 : n < 256) : IntKind.u8.wrap n = n := IntWalk.u8_in n ⟨h0, by omega⟩
/-- Slots by their numbers; of all others nothing is told. -/
def st (n : Nat) (l : List (Nat × AV)) : List AV := ((List.range n).map fun i => match l.find? fun p => p.1 == i with
  | some p => p.2
  | none => .junk) ++ [.mem []]
end Go.Ev

/-! text E44 -/
set_option linter.unusedVariables false
set_option linter.unusedSimpArgs false
namespace Go.Ev

/-! ### Bytes as abstract values -/
def bA (b : UInt8) : AV := .int .u8 b.toNat
def bsA (l : List UInt8) : List AV := l.map bA
def slB (l : List UInt8) : AV := .sl false false 1 (bsA l)
@[simp] theorem bsA_len (l : List UInt8) : (bsA l).length = l.length := by simp [bsA]
theorem bsA_get (l : List UInt8) (i : Nat) : (bsA l)[i]? = (l[i]?).map bA := by simp [bsA]
theorem bsA_app (l m : List UInt8) : bsA (l ++ m) = bsA l ++ bsA m := by simp [bsA]
theorem bsA_take (l : List UInt8) (n : Nat) : bsA (l.take n) = (bsA l).take n := by simp [bsA]
theorem bsA_drop (l : List UInt8) (n : Nat) : bsA (l.drop n) = (bsA l).drop n := by simp [bsA]
@[simp] theorem bsA_uL : ∀ (l : List UInt8), undeep.uL (bsA l) = bsA l
  | [] => rfl
  | b :: l => by simp only [bsA, List.map_cons, undeep.uL]; exact congrArg _ (bsA_uL l)
@[simp] theorem bsA_sL : ∀ (l : List UInt8), stale.sL (bsA l) = bsA l
  | [] => rfl
  | b :: l => by simp only [bsA, List.map_cons, stale.sL]; exact congrArg _ (bsA_sL l)
@[simp] theorem bsA_dL : ∀ (l : List UInt8), deepen.dL (bsA l) = bsA l
  | [] => rfl
  | b :: l => by simp only [bsA, List.map_cons, deepen.dL]; exact congrArg _ (bsA_dL l)
@[simp] theorem bsA_freshL : ∀ (l : List UInt8), freshA.freshL (bsA l) = true
  | [] => rfl
  | b :: l => by simp only [bsA, List.map_cons, freshA.freshL]; exact bsA_freshL l
@[simp] theorem bsA_flat (l : List UInt8) : (bsA l).all flat = true := by simp [bsA, bA, flat]
@[simp] theorem bsA_okElem (l : List UInt8) : (bsA l).all (okElem 1) = true := by simp [bsA, bA, okElem, cellsOf, okCell]

theorem get_bA {l : List UInt8} {i : Nat} (h : i < l.length) : (bsA l)[i]? = some (bA l[i]) := by rw [bsA_get, List.getElem?_eq_getElem h]; rfl
mutual
/-- Less is told of what is handed over. -/
inductive Lv : AV → AV → Prop
  | refl {x : AV} : Lv x x
  | nils {z : Nat} : Lv .nils (.sl false false z [])
  | sl {fr nn : Bool} {z : Nat} {xs ys : List AV} (h : Lvs xs ys) : Lv (.sl fr nn z xs) (.sl false false z ys)
  | agg {xs ys : List AV} (h : Lvs xs ys) : Lv (.agg xs) (.agg ys)
inductive Lvs : List AV → List AV → Prop
  | nil : Lvs [] []
  | cons {x y : AV} {xs ys : List AV} (h : Lv x y) (hs : Lvs xs ys) : Lvs (x :: xs) (y :: ys)
end
theorem Lvs.refl : ∀ (xs : List AV), Lvs xs xs
  | [] => .nil
  | x :: xs => .cons .refl (Lvs.refl xs)
theorem Lvs.of_eq {xs ys : List AV} (h : xs = ys) : Lvs xs ys := by subst h; exact .refl _
theorem Lvs.len : ∀ {xs ys : List AV}, Lvs xs ys → ys.length = xs.length
  | _, _, .nil => rfl
  | _, _, .cons _ hs => by simp [Lvs.len hs]
theorem Lv.sl_eq {fr nn : Bool} {z : Nat} {xs ys : List AV} (h : xs = ys) : Lv (.sl fr nn z xs) (.sl false false z ys) := .sl (.of_eq h)
mutual
theorem Lv.V {γ : Gh} {w : World} : ∀ {x y : AV}, Lv x y → ∀ v, Go.Ev.V γ w x v → Go.Ev.V γ w y v
  | _, _, .refl, _, h => h
  | _, _, .nils, _, h => V_nilsSl h
  | .sl fr nn z xs, _, .sl (ys := ys) hl, v, ⟨A, c, h1, h2, h3, h4, h5⟩ => by
    refine ⟨A, c, by rw [hl.len]; exact h1, by rw [hl.len]; exact h2, fun e => ?_, (fun _ _ h => nomatch h), fun hne => ?_⟩
    · obtain ⟨e1, e2, e3⟩ := h3 e
      subst e1
      exact ⟨List.eq_nil_of_length_eq_zero (by rw [hl.len]; rfl), rfl, e3⟩
    · have : xs ≠ [] := fun e => hne (List.eq_nil_of_length_eq_zero (by rw [hl.len, e]; rfl))
      obtain ⟨g, o, e1, e2, e3⟩ := h5 this
      exact ⟨g, o, e1, by rw [hl.len]; exact e2, Lvs.VS hl _ g o e3⟩
  | _, _, .agg hl, v, ⟨vs, h1, h2⟩ => ⟨vs, h1, Lvs.VL hl vs h2⟩
theorem Lvs.VL {γ : Gh} {w : World} : ∀ {xs ys : List AV}, Lvs xs ys → ∀ vs, Go.Ev.VL γ w xs vs → Go.Ev.VL γ w ys vs
  | _, _, .nil, _, h => h
  | _, _, .cons h hs, _, ⟨v, r, e, h1, h2⟩ => ⟨v, r, e, Lv.V h v h1, Lvs.VL hs r h2⟩
theorem Lvs.VC {γ : Gh} {w : World} : ∀ {xs ys : List AV}, Lvs xs ys → ∀ g o, Go.Ev.VC γ w xs g o → Go.Ev.VC γ w ys g o
  | _, _, .nil, _, _, _ => trivial
  | _, _, .cons h hs, g, o, ⟨⟨u, h1, h2⟩, h3⟩ => ⟨⟨u, h1, Lv.V h u h2⟩, Lvs.VC hs g (o + 1) h3⟩
theorem Lvs.VS {γ : Gh} {w : World} : ∀ {xs ys : List AV}, Lvs xs ys → ∀ z g o, Go.Ev.VS γ w z xs g o → Go.Ev.VS γ w z ys g o
  | _, _, .nil, _, _, _, _ => trivial
  | _, _, .cons (x := x) (y := y) (xs := xs) (ys := ys) h hs, z, g, o, hv => by
    have h2 : Go.Ev.VS γ w z xs g (o + z) → Go.Ev.VS γ w z ys g (o + z) := Lvs.VS hs z g (o + z)
    rw [VS_cons] at hv
    rw [VS_cons]
    exact ⟨Lv.VE h z g o hv.1, h2 hv.2⟩
theorem Lv.VE {γ : Gh} {w : World} : ∀ {x y : AV}, Lv x y → ∀ z g o, Go.Ev.VE γ w z x g o → Go.Ev.VE γ w z y g o
  | _, _, .refl, _, _, _, h => h
  | _, _, .nils, z, g, o, ⟨h1, u, h2, h3⟩ => ⟨h1, u, h2, V_nilsSl h3⟩
  | _, _, .sl hl, z, g, o, ⟨h1, u, h2, h3⟩ => ⟨h1, u, h2, Lv.V (.sl hl) u h3⟩
  | _, _, .agg hl, z, g, o, ⟨h1, h2⟩ => ⟨by rw [hl.len]; exact h1, Lvs.VC hl g o h2⟩
end
theorem Lvs.VLe {xs ys : List AV} (h : Lvs xs ys) : Go.Ev.VLe xs ys := fun _ _ vs hv => Lvs.VL h vs hv
theorem FnW.of {P : Program} {f : FuncId} {args ys : List AV} {r : AV} (h : Lvs args ys) (hf : FnOk P f ys r) : FnW P f args ys r := ⟨h.VLe, hf⟩
/-- Less is told of an answer. -/
theorem FnOk.le {P : Program} {f : FuncId} {ys : List AV} {r r' : AV} (h : FnOk P f ys r) (hl : LeR r r') (hr : refTo r' = none) : FnOk P f ys r' := fun w args St hSt hv =>
  CallRes.mono (h w args St hSt hv) fun v w' ⟨h1, T, γ, G⟩ => ⟨hr, T, γ, G.le ⟨hl, LeS.refl _⟩⟩
/-- A slice of no cells: it may be nil, or not. -/
theorem FnOk.nil_or {P : Program} {f : FuncId} {z : Nat} {r : AV} (h1 : FnOk P f [.nils] r) (h2 : FnOk P f [.sl false true z []] r) : FnOk P f [.sl false false z []] r := by
  intro w args St hSt hv
  obtain ⟨v, rest, e, ⟨A, c, e1, e2, e3, e4, e5⟩, e6⟩ := hv
  subst e
  cases A with
  | none =>
    obtain ⟨_, _, rfl⟩ := e3 rfl
    exact h1 w _ St hSt ⟨v, rest, rfl, e1, e6⟩
  | some a => exact h2 w _ St hSt ⟨v, rest, rfl, ⟨some a, c, e1, e2, (fun h => nomatch h), e4, e5⟩, e6⟩
end Go.Ev

/-! text E45 -/
set_option linter.unusedVariables false
set_option linter.unusedSimpArgs false
namespace Go.Ev
open Go.RowKit Go.WideShapes Go.ChangeShapes
open Go.Proofs.Yteffphbjbbmpcaa (Rows.uptoBulk Rows.uptoBulkAll Rows.uptoSmall)

/-! ### A law: what comes in is opened; behind the call it reads as it did -/
/-- A value of a type, by its cells. -/
def argOf (P : Program) (t : TypeId) (ys : List AV) : AV :=
  match P.underlying t with
  | some (.struct _) | some (.array _ _) => .agg ys
  | _ => ys.headD .junk
/-- Arguments of their types. -/
def TyAll (P : Program) (m : Nat) : List TypeId → List AV → Prop
  | [], xs => xs = []
  | t :: ts, xs => ∃ ys rest, xs = argOf P t ys :: rest ∧ Ty P m t ys ∧ ys.length = P.cellsOf t ∧ TyAll P m ts rest

variable {H : Type} {enc : TypeId × Value → H} {P : Program} {W W' : World} {base : Nat} {sp : Nat → Bool} {held : Bool}

theorem arg_open {m : Nat} {t : TypeId} {v : Value} {d : DataW H} {p : List MemPlace} {b0 : Nat} (h : DataW.Trod enc P W base sp held t v d p) (hok : okT P m t = true) (hv : Value.okWide P W .any b0 t v) :
    ∃ ys, V (ghIn W) W (argOf P t ys) v ∧ Ty P m t ys ∧ ys.length = P.cellsOf t ∧ szA (argOf P t ys) ≤ Rows.uptoBulk d := by
  obtain ⟨n, hn⟩ := h
  obtain ⟨ys, h1, h2, h3, h4⟩ := open_Ty m n t _ d p hn hok
  have hlen : v.cells.toList.length = ys.length → VL (ghIn W) W ys v.cells.toList := fun hl => open_V m n t _ d p ys hn h1 hl
  cases m with
  | zero => simp [okT] at hok
  | succ m =>
    simp only [okT] at hok
    unfold Value.okWide at hv
    have one : ∀ {z : AV}, ys = [z] → (∀ cs, v ≠ .agg cs) → argOf P t ys = z → V (ghIn W) W (argOf P t ys) v ∧ szA (argOf P t ys) ≤ Rows.uptoBulk d := by
      intro z hz hne ha
      have hc : v.cells.toList = [v] := by
        cases v <;> first | rfl | exact absurd rfl (hne _)
      have hvl := hlen (by rw [hc, hz]; rfl)
      rw [hc, hz] at hvl
      obtain ⟨u, r, e, g1, g2⟩ := hvl
      cases e
      rw [ha]
      refine ⟨g1, ?_⟩
      rw [hz] at h4
      simpa [szA.szL] using h4
    cases hu : P.underlying t with
    | none => simp [hu] at hok
    | some td =>
      rw [hu] at hok hv
      have cell : (match td with | .struct _ | .array _ _ => False | _ => True) → (∀ cs, v ≠ .agg cs) := by
        intro hs cs e
        subst e
        cases td <;> first | exact hs.elim | (simp only [Cell.okWide, Cell.ok, hu] at hv)
      cases td with
      | bool =>
        have h2' := h2
        simp only [Ty, hu] at h2'
        obtain ⟨b, e⟩ := h2'
        obtain ⟨g1, g2⟩ := one e (cell trivial) (by simp [argOf, hu, e])
        exact ⟨ys, g1, h2, h3, g2⟩
      | int k =>
        have h2' := h2
        simp only [Ty, hu] at h2'
        obtain ⟨b, _, _, e⟩ := h2'
        obtain ⟨g1, g2⟩ := one e (cell trivial) (by simp [argOf, hu, e])
        exact ⟨ys, g1, h2, h3, g2⟩
      | string =>
        have h2' := h2
        simp only [Ty, hu] at h2'
        obtain ⟨b, e⟩ := h2'
        obtain ⟨g1, g2⟩ := one e (cell trivial) (by simp [argOf, hu, e])
        exact ⟨ys, g1, h2, h3, g2⟩
      | slice e0 =>
        have h2' := h2
        simp only [Ty, hu] at h2'
        obtain ⟨b, e, _⟩ := h2'
        obtain ⟨g1, g2⟩ := one e (cell trivial) (by simp [argOf, hu, e])
        exact ⟨ys, g1, h2, h3, g2⟩
      | struct fs =>
        simp only at hv
        obtain ⟨cs, rfl, hs, _⟩ := hv
        refine ⟨ys, ?_, h2, h3, by simp only [argOf, hu, szA]; exact h4⟩
        simp only [argOf, hu]
        exact ⟨cs.toList, by simp, hlen (by simp [Value.cells, hs, h3])⟩
      | array k e =>
        simp only at hv
        obtain ⟨cs, rfl, hs, _⟩ := hv
        refine ⟨ys, ?_, h2, h3, by simp only [argOf, hu, szA]; exact h4⟩
        simp only [argOf, hu]
        exact ⟨cs.toList, by simp, hlen (by simp [Value.cells, hs, h3])⟩
      | _ => simp at hok
theorem args_open {m : Nat} {b0 : Nat} : ∀ (ts : List TypeId) (vs : List Value) (ds : List (DataW H)) (p : List MemPlace), DataW.TrodAll enc P W base sp held ts vs ds p → ts.all (okT P m) = true →
    (∀ (j : Nat) t v, ts[j]? = some t → vs[j]? = some v → Value.okWide P W .any b0 t v) → ∃ xs, VL (ghIn W) W xs vs ∧ TyAll P m ts xs ∧ szA.szL xs ≤ Rows.uptoBulkAll ds
  | [], vs, ds, p, h, _, _ => by
    obtain ⟨rfl, rfl, rfl⟩ := trodAll_nil h
    exact ⟨[], rfl, rfl, by simp [szA.szL]⟩
  | t :: ts, vs, ds, p, h, hok, hv => by
    obtain ⟨v, vs', d, ds', p1, p2, rfl, rfl, rfl, h1, h2⟩ := trodAll_cons h
    simp only [List.all_cons, Bool.and_eq_true] at hok
    obtain ⟨ys, a1, a2, a3, a4⟩ := arg_open h1 hok.1 (hv 0 t v rfl rfl)
    obtain ⟨xs, b1, b2, b3⟩ := args_open ts vs' ds' p2 h2 hok.2 fun j t' v' e1 e2 => hv (j + 1) t' v' (by simpa using e1) (by simpa using e2)
    exact ⟨argOf P t ys :: xs, ⟨v, vs', rfl, a1, b1⟩, ⟨ys, xs, rfl, a2, a3, b2⟩, by simp only [szA.szL, Rows.uptoBulkAll]; omega⟩
theorem args_stay (hl : laidOutB P = true) {sp' : Nat → Bool} : ∀ (ts : List TypeId) (vs : List Value) (ds : List (DataW H)) (p : List MemPlace), DataW.TrodAll enc P W 0 (fun _ => true) true ts vs ds p → ts.all (fun t => P.readableRec t && decide (t < P.types.size)) = true →
    (∀ x ∈ p, W.sameAt W' x) → (∀ x ∈ p, sp' x.block = true) → DataW.TrodAll enc P W' 0 sp' true ts vs ds p
  | [], vs, ds, p, h, _, _, _ => by
    obtain ⟨rfl, rfl, rfl⟩ := trodAll_nil h
    exact trodAll_mk0
  | t :: ts, vs, ds, p, h, hok, hs, hp => by
    obtain ⟨v, vs', d, ds', p1, p2, rfl, rfl, rfl, h1, h2⟩ := trodAll_cons h
    simp only [List.all_cons, Bool.and_eq_true, decide_eq_true_eq] at hok
    exact trodAll_cons_mk (WideElems.Trod_stays hl hok.1.1 hok.1.2 h1 (fun x hx => hs x (List.mem_append.2 (.inl hx))) (fun x hx => hp x (List.mem_append.2 (.inl hx))))
      (args_stay hl ts vs' ds' p2 h2 hok.2 (fun x hx => hs x (List.mem_append.2 (.inr hx))) (fun x hx => hp x (List.mem_append.2 (.inr hx))))

theorem post_below {f : Func} {s : ChangeSpec} {apart fresh handsOn again : Bool} {args : Array Value} {v : Value} {ds gs : List (DataW H)} {before pa pv : List MemPlace}
    (hW : DataW.Whole enc P f.params.toList s.vars apart W args.toList ds gs before)
    (hres : ∀ (b : Nat) (sp : Nat → Bool) (hd : Bool), DataW.TrodAll enc P W' b sp hd f.resultTypes.toList (v.resultList f.resultTypes.size) (s.fn H (ds ++ gs)).results [])
    (hargs : ∀ sp : Nat → Bool, (∀ p ∈ before, sp p.block = true) → DataW.TrodAll enc P W' 0 sp true f.params.toList args.toList (s.fn H (ds ++ gs)).args pa)
    (hvars : ∀ sp : Nat → Bool, (∀ p ∈ before, sp p.block = true) → DataW.TrodVars enc P W' sp s.vars (s.fn H (ds ++ gs)).vars pv)
    (hps : before = pa ++ pv) (hb : Below W.heap.size W W')
    (hok : ∀ (j : Nat) (t : TypeId) (r : Value), f.resultTypes[j]? = some t → (v.resultList f.resultTypes.size)[j]? = some r → Value.okWide P W' .any 0 t r) :
    s.post enc P f apart fresh handsOn again W args v W' := by
  have hlt : ∀ p ∈ before, p.block < W.heap.size := fun p hp => hW.lt p hp
  have hold : ∀ p ∈ before, (fun b => decide (b < W.heap.size)) p.block = true := fun p hp => by simpa using hlt p hp
  refine ⟨ds, gs, before, [], pa, pv, hW, hres _ _ _, hargs _ hold, hvars _ hold, World.keptBut_mono (fun p hp => ⟨hp, ?_⟩) (hb.frame (· ∈ before)), fun _ => ?_⟩
  · rw [hps, List.mem_append] at hp
    exact Or.inr hp
  · obtain ⟨_, _, _, _, _, hz, hn⟩ := hW
    refine ⟨hok, _, _, ([] ++ pa) ++ pv, ⟨[] ++ pa, pv, trodAll_append (hargs _ (fun _ _ => rfl)) (hres _ _ _), hvars _ (fun _ _ => rfl), rfl, ?_, ?_⟩, ?_⟩
    · intro b off hp
      have hin : MemPlace.cell b off ∈ before := by rw [hps]; simpa using hp
      rw [hb.frozen (hlt _ hin)]
      exact hz b off hin
    · intro ha
      have := hn ha
      rw [hps] at this
      simpa using this
    · intro p hp _
      rw [hps]
      simpa using hp

/-- The contract of a law, as its row asks it. -/
theorem law_contract {fid : FuncId} {f : Func} {s : ChangeSpec} {tb : TypeId} {m : Nat} {apart fresh handsOn again : Bool}
    (hl : laidOutB P = true) (hf : P.funcs[fid]? = some f) (hn : f.name ≠ "runtime.NumGoroutine") (hb : f.body.isSome = true)
    (hts : f.params.toList.all (fun t => P.readableRec t && decide (t < P.types.size)) = true) (hto : f.params.toList.all (okT P m) = true)
    (hres : f.resultTypes = #[tb]) (hbool : P.underlying tb = some .bool) (hvars : s.vars = [])
    (hs : ∀ (ds : List (DataW H)), ds.length = f.params.toList.length → (s.fn H ds).results = [.lit (.bool true)] ∧ (s.fn H ds).args = ds ∧ (s.fn H ds).vars = [])
    (law : ∀ ys, TyAll P m f.params.toList ys → szA.szL ys ≤ 1048576 → FnOk P fid ys (.bool true))
    {args : Array Value} {ds gs : List (DataW H)} {before : List MemPlace}
    (hval : ∀ (j : Nat) t v, f.params[j]? = some t → args[j]? = some v → Value.okWide P W .any base t v)
    (hW : DataW.Whole enc P f.params.toList s.vars apart W args.toList ds gs before) (hk : Rows.uptoSmall H (ds ++ gs) = true) :
    Calls P fid args W fun e W' => ∃ v, e = .returned v ∧ s.post enc P f apart fresh handsOn again W args v W' := by
  have hW' := hW
  obtain ⟨p, q, hA, hV, rfl, hfz, hnd⟩ := hW
  rw [hvars] at hV
  obtain ⟨rfl, rfl⟩ := trodVars_none hV
  rw [List.append_nil] at hk
  obtain ⟨xs, x1, x2, x3⟩ := args_open _ _ _ _ hA hto fun j t v h1 h2 => hval j t v (by simpa using h1) (by simpa using h2)
  have hbulk : Rows.uptoBulkAll ds ≤ 1048576 := of_decide_eq_true hk
  have hok := law xs x2 (by omega)
  have hlen : ds.length = f.params.toList.length := by
    have : ∀ (ts : List TypeId) (vs : List Value) (ds : List (DataW H)) (p : List MemPlace), DataW.TrodAll enc P W 0 (fun _ => true) true ts vs ds p → ds.length = ts.length := by
      intro ts
      induction ts with
      | nil => intro vs ds p h; obtain ⟨_, rfl, _⟩ := trodAll_nil h; rfl
      | cons t ts ih => intro vs ds p h; obtain ⟨_, vs', _, ds', _, p2, _, rfl, _, _, h2⟩ := trodAll_cons h; simp [ih vs' ds' p2 h2]
    exact this _ _ _ _ hA
  obtain ⟨s1, s2, s3⟩ := hs ds hlen
  have h := hok W args.toList (cellsIn W) (cellsIn_new W) x1
  cases hbd : f.body with
  | none => rw [hbd] at hb; cases hb
  | some c =>
    have hrun := callFunc_run (P := P) hf hn hbd args W
    have ha : args.toList.toArray = args := by simp
    rw [ha, hrun] at h
    refine Calls.mono h fun e W' hq => ?_
    cases e with
    | returned v =>
      obtain ⟨_, T, γ, G⟩ := hq
      have hv : v = .bool true := G.slots 0 (.bool true) v rfl rfl
      subst hv
      have hbl : Below W.heap.size W W' := by
        have := G.frm.below G.fn
        rwa [G.hB] at this
      refine ⟨_, rfl, post_below (pa := p) (pv := []) hW' (fun b sp hd => ?_) (fun sp hsp => ?_) (fun sp hsp => ?_) rfl hbl (ok_one hres rfl (okWide_bool_mk hbool _))⟩
      · rw [List.append_nil, s1, hres]
        exact trodAll_cons_mk (shut_bool hbool true) trodAll_mk0
      · rw [List.append_nil, s2]
        exact args_stay hl _ _ _ _ hA hts (fun x hx => hbl.same (hW'.lt x (List.mem_append.2 (.inl hx)))) fun x hx => hsp x (List.mem_append.2 (.inl hx))
      · rw [List.append_nil, s3, hvars]
        rfl
    | panicked c => exact hq.elim
    | outgrown => exact hq.elim
end Go.Ev

/-! text E46 -/
set_option linter.unusedVariables false
set_option linter.unusedSimpArgs false
namespace Go.Ev
open Go.RowKit

/-! ### Abstract values of a type, as values of Lean's own -/
variable {P : Program} {m : Nat} {t e : TypeId} {ys : List AV}
theorem Ty_u8 (hu : P.underlying t = some (.int .u8)) (h : Ty P (m + 1) t ys) : ∃ b : UInt8, ys = [bA b] := by
  simp only [Ty, hu] at h
  obtain ⟨n, h1, h2, e⟩ := h
  simp only [IntKind.min, IntKind.max, IntKind.signed, IntKind.bits] at h1 h2
  refine ⟨UInt8.ofNat n.toNat, ?_⟩
  rw [e]
  unfold bA
  have h1' : 0 ≤ n := h1
  have h2' : n ≤ 255 := h2
  have : ((UInt8.ofNat n.toNat).toNat : Int) = n := by
    rw [UInt8.toNat_ofNat_of_lt' (by simp; omega)]
    omega
  rw [this]
theorem Ty_int {k : IntKind} (hu : P.underlying t = some (.int k)) (h : Ty P (m + 1) t ys) : ∃ n : Int, k.min ≤ n ∧ n ≤ k.max ∧ ys = [.int k n] := by
  simpa only [Ty, hu] using h
theorem Ty_bool (hu : P.underlying t = some .bool) (h : Ty P (m + 1) t ys) : ∃ b, ys = [.bool b] := by
  simpa only [Ty, hu] using h
theorem list_of {α : Type} {f : α → AV} : ∀ {xs : List AV}, (∀ x ∈ xs, ∃ a, x = f a) → ∃ l : List α, xs = l.map f
  | [], _ => ⟨[], rfl⟩
  | x :: xs, h => by
    obtain ⟨a, rfl⟩ := h x (List.mem_cons_self ..)
    obtain ⟨l, rfl⟩ := list_of (f := f) fun y hy => h y (List.mem_cons_of_mem _ hy)
    exact ⟨a :: l, rfl⟩
theorem Ty_slice {α : Type} {f : α → AV} (hu : P.underlying t = some (.slice e)) (hf : ∀ zs x, Ty P m e zs → elD ((aggOf P e).getD none) zs = some x → ∃ a, x = f a) (h : Ty P (m + 1) t ys) : ∃ l : List α, ys = [.sl false false (P.cellsOf e) (l.map f)] := by
  simp only [Ty, hu] at h
  obtain ⟨xs, rfl, hx⟩ := h
  obtain ⟨l, rfl⟩ := list_of (f := f) (xs := xs) fun x hx' => by
    obtain ⟨zs, h1, h2⟩ := hx x hx'
    exact hf zs x h1 h2
  exact ⟨l, rfl⟩
theorem Ty_bytes (hu : P.underlying t = some (.slice e)) (he : P.underlying e = some (.int .u8)) (hc : P.cellsOf e = 1) (hg : aggOf P e = some none) (h : Ty P (m + 2) t ys) : ∃ l, ys = [slB l] := by
  obtain ⟨l, rfl⟩ := Ty_slice (f := bA) hu (fun zs x hz hx => by
    obtain ⟨b, rfl⟩ := Ty_u8 he hz
    rw [hg] at hx
    simp only [Option.getD_some, elD] at hx
    split at hx
    · cases hx; exact ⟨b, rfl⟩
    · cases hx) h
  exact ⟨l, by rw [hc]; rfl⟩
theorem TyFs_nil {ty : TypeId → List AV → Prop} (h : TyFs ty [] ys) : ys = [] := h
theorem Ty_struct {fs : Array Field} (hu : P.underlying t = some (.struct fs)) (h : Ty P (m + 1) t ys) : TyFs (Ty P m) fs.toList ys := by
  simpa only [Ty, hu] using h
theorem Ty_array {k : Nat} (hu : P.underlying t = some (.array k e)) (h : Ty P (m + 1) t ys) : ∃ yss : List (List AV), yss.length = k ∧ ys = yss.flatten ∧ ∀ y ∈ yss, Ty P m e y := by
  simpa only [Ty, hu] using h

@[simp] theorem szL_bs : ∀ l : List UInt8, szA.szL (bsA l) = l.length
  | [] => rfl
  | b :: l => by
    show szA (bA b) + szA.szL (bsA l) = _
    rw [szL_bs l]
    simp only [bA, szA, List.length_cons]
    omega
theorem szL_mem {x : AV} : ∀ {xs : List AV}, x ∈ xs → szA x ≤ szA.szL xs
  | y :: xs, h => by
    rcases List.mem_cons.1 h with rfl | h
    · simp only [szA.szL]; omega
    · have := szL_mem h
      simp only [szA.szL]; omega
theorem szL_len {xs : List AV} (h : ∀ x ∈ xs, 1 ≤ szA x) : xs.length ≤ szA.szL xs := by
  induction xs with
  | nil => simp
  | cons x xs ih =>
    have h1 := h x (List.mem_cons_self ..)
    have h2 := ih fun y hy => h y (List.mem_cons_of_mem _ hy)
    simp only [szA.szL, List.length_cons]
    omega
end Go.Ev

/-! text F1 -/
namespace Go.Ev
open Go.Proofs (Try.prog)
theorem hfol : Try.prog.follows .mixedOrders = true := by kernel_rfl

/-- waymark/waymarklaw10.AdjSteps -/
def fd3 : Fd := ⟨59,
 (.seq
  (.reg false [
    ⟨(some 4), .box (.tmp 0), none, []⟩,
    ⟨(some 5), .box (.tmp 1), none, []⟩,
    ⟨(some 6), .box (.tmp 2), none, []⟩,
    ⟨(some 8), .asg (.val (.bool false)), none, []⟩])
  (.seq
   (.seq
    (.reg false [
      ⟨(some 15), .call 10 [], none, []⟩,
      ⟨(some 16), .un .not (.tmp 15), none, [0]⟩])
    (.cond (.tmp 16)
     (.seq
      (.reg false [
        ⟨(some 8), .asg (.val (.bool false)), none, []⟩])
      .ret)
     .skip))
   (.seq
    (.reg true [
      ⟨(some 17), .load (some 9) (.tmp 4), none, []⟩,
      ⟨(some 18), .call 11 [(.tmp 17)], none, [0]⟩,
      ⟨(some 19), .load (some 19) (.tmp 6), none, []⟩,
      ⟨(some 20), .call 12 [(.tmp 19)], none, [2, 1]⟩,
      ⟨(some 9), .alloc [(.int .u8 0), (.int .u8 0), (.int .u8 0), (.int .u8 0), (.int .u8 0), (.int .u8 0), (.int .u8 0), (.int .i64 0), .nils], none, []⟩,
      ⟨(some 10), .alloc [(.int .u8 0), (.int .u8 0), (.int .u8 0), (.int .u8 0), (.int .u8 0), (.int .u8 0), (.int .u8 0), (.int .i64 0), (.int .i64 0), .nils, (.int .i64 0), (.bool false), (.int .u8 0), (.int .u8 0), (.int .u8 0), (.int .u8 0), (.int .u8 0), (.int .u8 0), (.int .u8 0)], none, []⟩,
      ⟨none, .store 9 (.tmp 9) (.tmp 18), none, [4, 1, 3, 0, 1, 4, 5]⟩,
      ⟨none, .store 19 (.tmp 10) (.tmp 20), none, [5, 3, 6, 0, 1, 2, 3, 4, 5, 6]⟩])
    (.seq
     (.reg false [
       ⟨(some 22), .load (some 9) (.tmp 9), none, []⟩,
       ⟨(some 23), .load (some 10) (.tmp 5), none, []⟩,
       ⟨(some 24), .load (some 19) (.tmp 10), none, []⟩,
       ⟨(some 25), .mov (.tmp 3), none, []⟩,
       ⟨(some 26), .call 13 [(.tmp 22), (.tmp 23), (.tmp 24), (.tmp 25)], none, [0, 1, 2, 3]⟩,
       ⟨(some 21), .mov (.tmp 26), none, [4]⟩,
       ⟨(some 27), .ext 0 (.tmp 21), none, [5]⟩,
       ⟨(some 28), .ext 1 (.tmp 21), none, [5]⟩,
       ⟨(some 11), .alloc [(.int .i64 0), (.int .u8 0), (.int .u8 0), (.int .u8 0), (.int .u8 0), (.int .u8 0), (.int .u8 0), (.int .u8 0), (.int .i64 0), (.int .i64 0)], none, []⟩,
       ⟨none, .store 10 (.tmp 11) (.tmp 27), none, [8, 6, 4, 0, 1, 2, 3, 4, 5, 6, 8]⟩,
       ⟨(some 12), .asg (.tmp 28), none, [7, 9, 0, 1, 2, 3, 4, 5, 6, 7, 8, 9]⟩])
     (.seq
      (.reg false [
        ⟨(some 30), .load (some 9) (.tmp 4), none, []⟩,
        ⟨(some 31), .load (some 10) (.tmp 5), none, []⟩,
        ⟨(some 32), .load (some 19) (.tmp 6), none, []⟩,
        ⟨(some 33), .mov (.tmp 3), none, []⟩,
        ⟨(some 34), .call 14 [(.tmp 30), (.tmp 31), (.tmp 32), (.tmp 33)], none, [0, 1, 2, 3]⟩,
        ⟨(some 29), .mov (.tmp 34), none, [4]⟩,
        ⟨(some 35), .ext 0 (.tmp 29), none, [5]⟩,
        ⟨(some 36), .ext 1 (.tmp 29), none, [5]⟩,
        ⟨(some 13), .alloc [(.int .i64 0), (.int .u8 0), (.int .u8 0), (.int .u8 0), (.int .u8 0), (.int .u8 0), (.int .u8 0), (.int .u8 0), (.int .i64 0), (.int .i64 0)], none, []⟩,
        ⟨none, .store 10 (.tmp 13) (.tmp 35), none, [8, 6, 4, 0, 1, 2, 3, 4, 5, 6, 8]⟩,
        ⟨(some 14), .asg (.tmp 36), none, [7, 9, 0, 1, 2, 3, 4, 5, 6, 7, 8, 9]⟩])
      (.seq
       (.reg false [
         ⟨(some 37), .load (some 10) (.tmp 11), none, []⟩,
         ⟨(some 38), .load (some 10) (.tmp 13), none, []⟩,
         ⟨(some 39), .eq (.flat [0, 0, 0, 0, 0, 0, 0, 0, 0, 0]) false (.tmp 37) (.tmp 38), none, [0, 1]⟩,
         ⟨(some 40), .mov (.tmp 39), none, [2]⟩,
         ⟨(some 41), .mov (.tmp 12), (some (40, true)), [3]⟩,
         ⟨(some 42), .mov (.tmp 14), (some (40, true)), [3]⟩,
         ⟨(some 43), .bin .eql (.tmp 41) (.tmp 42), (some (40, true)), [4, 5, 3]⟩,
         ⟨(some 44), .pick (.tmp 40) (.tmp 43) (.val (.bool false)), none, [3, 6]⟩,
         ⟨(some 45), .mov (.tmp 44), none, [7, 3]⟩,
         ⟨(some 46), .fadr 8 (.tmp 9), (some (45, true)), [8]⟩,
         ⟨(some 47), .load none (.tmp 46), (some (45, true)), [9, 8]⟩,
         ⟨(some 48), .fadr 8 (.tmp 4), (some (45, true)), [8]⟩,
         ⟨(some 49), .load none (.tmp 48), (some (45, true)), [11, 8]⟩,
         ⟨(some 50), .call 15 [(.tmp 47), (.tmp 49)], (some (45, true)), [10, 12, 8, 8]⟩,
         ⟨(some 51), .pick (.tmp 45) (.tmp 50) (.val (.bool false)), none, [8, 13]⟩,
         ⟨(some 52), .mov (.tmp 51), none, [14, 13]⟩,
         ⟨(some 53), .fadr 9 (.tmp 10), (some (52, true)), [15]⟩,
         ⟨(some 54), .load none (.tmp 53), (some (52, true)), [16, 15]⟩,
         ⟨(some 55), .fadr 9 (.tmp 6), (some (52, true)), [15]⟩,
         ⟨(some 56), .load none (.tmp 55), (some (52, true)), [18, 15]⟩,
         ⟨(some 57), .call 15 [(.tmp 54), (.tmp 56)], (some (52, true)), [17, 19, 15, 15]⟩,
         ⟨(some 58), .pick (.tmp 52) (.tmp 57) (.val (.bool false)), none, [15, 20]⟩,
         ⟨(some 8), .asg (.tmp 58), none, [21, 20, 0, 1, 2, 3, 4, 5, 6, 7, 8, 9, 10, 11, 12, 13, 14, 15, 16, 17, 18, 19, 20, 21]⟩])
       .ret)))))),
 [.tmp 8]⟩
theorem ok3 : FdOk Try.prog 3 fd3 := FdOk.of (by kernel_rfl)
abbrev T3 : List Nat := [57, 55, 6, 53, 10, 51, 50, 48, 4, 46, 9, 44, 43, 14, 12, 39, 34, 26, 3]
theorem hT3 : fd3.body.T = T3 := by kernel_rfl

def sg4x16x26 : Cd :=
 (.seq
  (.reg false [
    ⟨(some 16), .fadr 12 (.tmp 6), none, []⟩,
    ⟨(some 17), .load (some 6) (.tmp 16), none, [0]⟩,
    ⟨(some 18), .fadr 0 (.tmp 4), none, []⟩,
    ⟨(some 19), .load (some 6) (.tmp 18), none, [2]⟩,
    ⟨(some 20), .eq (.flat [0, 0, 0, 0, 0, 0]) false (.tmp 17) (.tmp 19), none, [1, 3]⟩])
  (.cond (.tmp 20)
   (.reg false [
     ⟨(some 21), .fadr 12 (.tmp 6), none, []⟩,
     ⟨(some 22), .idxP 6 1 (.tmp 21) (.val (.int .i64 0)), none, [0]⟩,
     ⟨(some 23), .load none (.tmp 22), none, [1]⟩,
     ⟨(some 24), .bin .xor (.tmp 23) (.val (.int .u8 1)), none, [2]⟩,
     ⟨(some 25), .fadr 12 (.tmp 6), none, []⟩,
     ⟨(some 26), .idxP 6 1 (.tmp 25) (.val (.int .i64 0)), none, [4, 0, 1, 2, 3]⟩,
     ⟨none, .store 1 (.tmp 26) (.tmp 24), none, [5, 3, 0, 1, 2, 3]⟩])
   .skip))
def sg4x37x56 : Cd :=
 (.reg false [
   ⟨(some 37), .mov (.tmp 10), none, []⟩,
   ⟨(some 38), .bin .neq (.tmp 37) (.val (.int .i64 0)), none, [0]⟩,
   ⟨(some 39), .mov (.tmp 38), none, [1]⟩,
   ⟨(some 40), .mov (.tmp 10), (some (39, true)), [2]⟩,
   ⟨(some 41), .bin .neq (.tmp 40) (.val (.int .i64 12)), (some (39, true)), [3, 2]⟩,
   ⟨(some 42), .pick (.tmp 39) (.tmp 41) (.val (.bool false)), none, [2, 4]⟩,
   ⟨(some 43), .mov (.tmp 42), none, [5, 2]⟩,
   ⟨(some 44), .load (some 10) (.tmp 9), (some (43, true)), [6]⟩,
   ⟨(some 45), .load (some 10) (.tmp 5), (some (43, true)), [6]⟩,
   ⟨(some 46), .eq (.flat [0, 0, 0, 0, 0, 0, 0, 0, 0, 0]) true (.tmp 44) (.tmp 45), (some (43, true)), [7, 8, 6]⟩,
   ⟨(some 47), .pick (.tmp 43) (.tmp 46) (.val (.bool false)), none, [6, 9]⟩,
   ⟨(some 48), .mov (.tmp 47), none, [10, 6]⟩,
   ⟨(some 49), .mov (.tmp 10), (some (48, false)), [11]⟩,
   ⟨(some 50), .bin .eql (.tmp 49) (.val (.int .i64 0)), (some (48, false)), [12, 11]⟩,
   ⟨(some 51), .mov (.tmp 50), (some (48, false)), [13, 11, 11]⟩,
   ⟨(some 52), .load (some 10) (.tmp 9), (some (51, true)), [14]⟩,
   ⟨(some 53), .load (some 10) (.tmp 5), (some (51, true)), [14]⟩,
   ⟨(some 54), .eq (.flat [0, 0, 0, 0, 0, 0, 0, 0, 0, 0]) true (.tmp 52) (.tmp 53), (some (51, true)), [15, 16, 14]⟩,
   ⟨(some 55), .pick (.tmp 51) (.tmp 54) (.val (.bool false)), (some (48, false)), [14, 17, 11]⟩,
   ⟨(some 56), .pick (.tmp 48) (.val (.bool true)) (.tmp 55), none, [11, 18]⟩])
/-- waymark/waymarklaw10.AdjApart -/
def fd4 : Fd := ⟨92,
 (.seq
  (.reg false [
    ⟨(some 4), .box (.tmp 0), none, []⟩,
    ⟨(some 5), .box (.tmp 1), none, []⟩,
    ⟨(some 6), .box (.tmp 2), none, []⟩,
    ⟨(some 8), .asg (.val (.bool false)), none, []⟩])
  (.seq
   (.seq
    (.reg false [
      ⟨(some 13), .call 10 [], none, []⟩,
      ⟨(some 14), .un .not (.tmp 13), none, [0]⟩])
    (.cond (.tmp 14)
     (.seq
      (.reg false [
        ⟨(some 8), .asg (.val (.bool false)), none, []⟩])
      .ret)
     .skip))
   (.seq
    (.reg false [
      ⟨(some 15), .fadr 11 (.tmp 6), none, []⟩,
      ⟨none, .store 1 (.tmp 15) (.val (.bool true)), none, [0]⟩])
    (.seq
     sg4x16x26
     (.seq
      (.reg true [
        ⟨(some 28), .load (some 9) (.tmp 4), none, []⟩,
        ⟨(some 29), .call 11 [(.tmp 28)], none, [0]⟩,
        ⟨(some 30), .load (some 10) (.tmp 5), none, []⟩,
        ⟨(some 31), .load (some 19) (.tmp 6), none, []⟩,
        ⟨(some 32), .call 12 [(.tmp 31)], none, [3, 1]⟩,
        ⟨(some 33), .mov (.tmp 3), none, []⟩,
        ⟨(some 34), .call 13 [(.tmp 29), (.tmp 30), (.tmp 32), (.tmp 33)], none, [1, 2, 4, 5, 4]⟩,
        ⟨(some 27), .mov (.tmp 34), none, [6]⟩,
        ⟨(some 35), .ext 0 (.tmp 27), none, [7]⟩,
        ⟨(some 36), .ext 1 (.tmp 27), none, [7]⟩,
        ⟨(some 9), .alloc [(.int .i64 0), (.int .u8 0), (.int .u8 0), (.int .u8 0), (.int .u8 0), (.int .u8 0), (.int .u8 0), (.int .u8 0), (.int .i64 0), (.int .i64 0)], none, []⟩,
        ⟨none, .store 10 (.tmp 9) (.tmp 35), none, [10, 8, 6, 0, 1, 2, 3, 4, 5, 6, 7, 8, 10]⟩,
        ⟨(some 10), .asg (.tmp 36), none, [9, 11, 0, 1, 2, 3, 4, 5, 6, 7, 8, 9, 10, 11]⟩])
      (.seq
       (.seq
        sg4x37x56
        (.cond (.tmp 56)
         (.seq
          (.reg false [
            ⟨(some 8), .asg (.val (.bool false)), none, []⟩])
          .ret)
         .skip))
       (.seq
        (.reg false [
          ⟨(some 57), .fadr 11 (.tmp 6), none, []⟩,
          ⟨none, .store 1 (.tmp 57) (.val (.bool false)), none, [0]⟩,
          ⟨(some 58), .fadr 10 (.tmp 6), none, [0, 1]⟩,
          ⟨none, .store 1 (.tmp 58) (.val (.int .i64 2)), none, [2, 1, 0, 1]⟩])
        (.seq
         (.reg true [
           ⟨(some 60), .load (some 9) (.tmp 4), none, []⟩,
           ⟨(some 61), .call 11 [(.tmp 60)], none, [0]⟩,
           ⟨(some 62), .load (some 10) (.tmp 5), none, []⟩,
           ⟨(some 63), .load (some 19) (.tmp 6), none, []⟩,
           ⟨(some 64), .call 12 [(.tmp 63)], none, [3, 1]⟩,
           ⟨(some 65), .mov (.tmp 3), none, []⟩,
           ⟨(some 66), .call 13 [(.tmp 61), (.tmp 62), (.tmp 64), (.tmp 65)], none, [1, 2, 4, 5, 4]⟩,
           ⟨(some 59), .mov (.tmp 66), none, [6]⟩,
           ⟨(some 67), .ext 0 (.tmp 59), none, [7]⟩,
           ⟨(some 68), .ext 1 (.tmp 59), none, [7]⟩,
           ⟨(some 11), .alloc [(.int .i64 0), (.int .u8 0), (.int .u8 0), (.int .u8 0), (.int .u8 0), (.int .u8 0), (.int .u8 0), (.int .u8 0), (.int .i64 0), (.int .i64 0)], none, []⟩,
           ⟨none, .store 10 (.tmp 11) (.tmp 67), none, [10, 8, 6, 0, 1, 2, 3, 4, 5, 6, 7, 8, 10]⟩,
           ⟨(some 12), .asg (.tmp 68), none, [9, 11, 0, 1, 2, 3, 4, 5, 6, 7, 8, 9, 10, 11]⟩])
         (.seq
          (.reg false [
            ⟨(some 69), .mov (.tmp 12), none, []⟩,
            ⟨(some 70), .bin .neq (.tmp 69) (.val (.int .i64 0)), none, [0]⟩,
            ⟨(some 71), .mov (.tmp 70), none, [1]⟩,
            ⟨(some 72), .fadr 0 (.tmp 11), (some (71, false)), [2]⟩,
            ⟨(some 73), .load none (.tmp 72), (some (71, false)), [3, 2]⟩,
            ⟨(some 74), .bin .eql (.tmp 73) (.val (.int .i64 1)), (some (71, false)), [4, 2]⟩,
            ⟨(some 75), .mov (.tmp 74), (some (71, false)), [5, 2, 2]⟩,
            ⟨(some 76), .fadr 1 (.tmp 11), (some (75, true)), [6]⟩,
            ⟨(some 77), .load (some 6) (.tmp 76), (some (75, true)), [7, 6]⟩,
            ⟨(some 78), .fadr 0 (.tmp 6), (some (75, true)), [6]⟩,
            ⟨(some 79), .load (some 6) (.tmp 78), (some (75, true)), [9, 6]⟩,
            ⟨(some 80), .eq (.flat [0, 0, 0, 0, 0, 0]) false (.tmp 77) (.tmp 79), (some (75, true)), [8, 10, 6]⟩,
            ⟨(some 81), .pick (.tmp 75) (.tmp 80) (.val (.bool false)), (some (71, false)), [6, 11, 2]⟩,
            ⟨(some 82), .mov (.tmp 81), (some (71, false)), [12, 6, 2]⟩,
            ⟨(some 83), .fadr 9 (.tmp 11), (some (82, true)), [13]⟩,
            ⟨(some 84), .load none (.tmp 83), (some (82, true)), [14, 13]⟩,
            ⟨(some 85), .mov (.tmp 3), (some (82, true)), [13]⟩,
            ⟨(some 86), .fadr 8 (.tmp 6), (some (82, true)), [13]⟩,
            ⟨(some 87), .load none (.tmp 86), (some (82, true)), [17, 13]⟩,
            ⟨(some 88), .bin .add (.tmp 85) (.tmp 87), (some (82, true)), [16, 18, 13]⟩,
            ⟨(some 89), .bin .eql (.tmp 84) (.tmp 88), (some (82, true)), [15, 19, 13]⟩,
            ⟨(some 90), .pick (.tmp 82) (.tmp 89) (.val (.bool false)), (some (71, false)), [13, 20, 2]⟩,
            ⟨(some 91), .pick (.tmp 71) (.val (.bool true)) (.tmp 90), none, [2, 21]⟩,
            ⟨(some 8), .asg (.tmp 91), none, [22, 13, 0, 1, 2, 3, 4, 5, 6, 7, 8, 9, 10, 11, 12, 13, 14, 15, 16, 17, 18, 19, 20, 21, 22]⟩])
          .ret))))))))),
 [.tmp 8]⟩
theorem ok4 : FdOk Try.prog 4 fd4 := FdOk.of (by kernel_rfl)
abbrev T4 : List Nat := [90, 89, 86, 83, 81, 80, 74, 72, 11, 70, 12, 66, 55, 54, 50, 47, 46, 42, 41, 38, 10, 34, 3, 25, 22, 21, 4, 6]
theorem hT4 : fd4.body.T = T4 := by kernel_rfl

/-- waymark/waymarklaw10.AdjTwice -/
def fd5 : Fd := ⟨78,
 (.seq
  (.reg false [
    ⟨(some 4), .box (.tmp 0), none, []⟩,
    ⟨(some 5), .box (.tmp 1), none, []⟩,
    ⟨(some 6), .box (.tmp 2), none, []⟩,
    ⟨(some 8), .asg (.val (.bool false)), none, []⟩])
  (.seq
   (.seq
    (.reg false [
      ⟨(some 15), .call 10 [], none, []⟩,
      ⟨(some 16), .un .not (.tmp 15), none, [0]⟩])
    (.cond (.tmp 16)
     (.seq
      (.reg false [
        ⟨(some 8), .asg (.val (.bool false)), none, []⟩])
      .ret)
     .skip))
   (.seq
    (.reg true [
      ⟨(some 18), .load (some 9) (.tmp 4), none, []⟩,
      ⟨(some 19), .call 11 [(.tmp 18)], none, [0]⟩,
      ⟨(some 20), .load (some 10) (.tmp 5), none, []⟩,
      ⟨(some 21), .load (some 19) (.tmp 6), none, []⟩,
      ⟨(some 22), .call 12 [(.tmp 21)], none, [3, 1]⟩,
      ⟨(some 23), .mov (.tmp 3), none, []⟩,
      ⟨(some 24), .call 13 [(.tmp 19), (.tmp 20), (.tmp 22), (.tmp 23)], none, [1, 2, 4, 5, 4]⟩,
      ⟨(some 17), .mov (.tmp 24), none, [6]⟩,
      ⟨(some 25), .ext 0 (.tmp 17), none, [7]⟩,
      ⟨(some 26), .ext 1 (.tmp 17), none, [7]⟩,
      ⟨(some 9), .alloc [(.int .i64 0), (.int .u8 0), (.int .u8 0), (.int .u8 0), (.int .u8 0), (.int .u8 0), (.int .u8 0), (.int .u8 0), (.int .i64 0), (.int .i64 0)], none, []⟩,
      ⟨none, .store 10 (.tmp 9) (.tmp 25), none, [10, 8, 6, 0, 1, 2, 3, 4, 5, 6, 7, 8, 10]⟩,
      ⟨(some 10), .asg (.tmp 26), none, [9, 11, 0, 1, 2, 3, 4, 5, 6, 7, 8, 9, 10, 11]⟩])
    (.seq
     (.reg true [
       ⟨(some 28), .load (some 9) (.tmp 4), none, []⟩,
       ⟨(some 29), .call 11 [(.tmp 28)], none, [0]⟩,
       ⟨(some 30), .load (some 10) (.tmp 9), none, []⟩,
       ⟨(some 31), .load (some 19) (.tmp 6), none, []⟩,
       ⟨(some 32), .call 12 [(.tmp 31)], none, [3, 1]⟩,
       ⟨(some 33), .mov (.tmp 3), none, []⟩,
       ⟨(some 34), .call 13 [(.tmp 29), (.tmp 30), (.tmp 32), (.tmp 33)], none, [1, 2, 4, 5, 4]⟩,
       ⟨(some 27), .mov (.tmp 34), none, [6]⟩,
       ⟨(some 35), .ext 0 (.tmp 27), none, [7]⟩,
       ⟨(some 36), .ext 1 (.tmp 27), none, [7]⟩,
       ⟨(some 11), .alloc [(.int .i64 0), (.int .u8 0), (.int .u8 0), (.int .u8 0), (.int .u8 0), (.int .u8 0), (.int .u8 0), (.int .u8 0), (.int .i64 0), (.int .i64 0)], none, []⟩,
       ⟨none, .store 10 (.tmp 11) (.tmp 35), none, [10, 8, 6, 0, 1, 2, 3, 4, 5, 6, 7, 8, 10]⟩,
       ⟨(some 12), .asg (.tmp 36), none, [9, 11, 0, 1, 2, 3, 4, 5, 6, 7, 8, 9, 10, 11]⟩])
     (.seq
      (.reg true [
        ⟨(some 38), .load (some 9) (.tmp 4), none, []⟩,
        ⟨(some 39), .call 11 [(.tmp 38)], none, [0]⟩,
        ⟨(some 40), .load (some 10) (.tmp 11), none, []⟩,
        ⟨(some 41), .load (some 19) (.tmp 6), none, []⟩,
        ⟨(some 42), .call 12 [(.tmp 41)], none, [3, 1]⟩,
        ⟨(some 43), .mov (.tmp 3), none, []⟩,
        ⟨(some 44), .call 13 [(.tmp 39), (.tmp 40), (.tmp 42), (.tmp 43)], none, [1, 2, 4, 5, 4]⟩,
        ⟨(some 37), .mov (.tmp 44), none, [6]⟩,
        ⟨(some 45), .ext 0 (.tmp 37), none, [7]⟩,
        ⟨(some 46), .ext 1 (.tmp 37), none, [7]⟩,
        ⟨(some 13), .alloc [(.int .i64 0), (.int .u8 0), (.int .u8 0), (.int .u8 0), (.int .u8 0), (.int .u8 0), (.int .u8 0), (.int .u8 0), (.int .i64 0), (.int .i64 0)], none, []⟩,
        ⟨none, .store 10 (.tmp 13) (.tmp 45), none, [10, 8, 6, 0, 1, 2, 3, 4, 5, 6, 7, 8, 10]⟩,
        ⟨(some 14), .asg (.tmp 46), none, [9, 11, 0, 1, 2, 3, 4, 5, 6, 7, 8, 9, 10, 11]⟩])
      (.seq
       (.seq
        (.reg false [
          ⟨(some 47), .mov (.tmp 10), none, []⟩,
          ⟨(some 48), .bin .eql (.tmp 47) (.val (.int .i64 1)), none, [0]⟩,
          ⟨(some 49), .mov (.tmp 48), none, [1]⟩,
          ⟨(some 50), .mov (.tmp 10), (some (49, false)), [2]⟩,
          ⟨(some 51), .bin .eql (.tmp 50) (.val (.int .i64 2)), (some (49, false)), [3, 2]⟩,
          ⟨(some 52), .pick (.tmp 49) (.val (.bool true)) (.tmp 51), none, [2, 4]⟩,
          ⟨(some 53), .mov (.tmp 52), none, [5, 2]⟩,
          ⟨(some 54), .mov (.tmp 10), (some (53, false)), [6]⟩,
          ⟨(some 55), .bin .eql (.tmp 54) (.val (.int .i64 7)), (some (53, false)), [7, 6]⟩,
          ⟨(some 56), .pick (.tmp 53) (.val (.bool true)) (.tmp 55), none, [6, 8]⟩])
        (.cond (.tmp 56)
         (.seq
          (.reg false [
            ⟨(some 57), .load (some 10) (.tmp 9), none, []⟩,
            ⟨(some 58), .load (some 10) (.tmp 5), none, []⟩,
            ⟨(some 59), .eq (.flat [0, 0, 0, 0, 0, 0, 0, 0, 0, 0]) false (.tmp 57) (.tmp 58), none, [0, 1]⟩,
            ⟨(some 8), .asg (.tmp 59), none, [2, 0, 1, 2]⟩])
          .ret)
         .skip))
       (.seq
        (.reg false [
          ⟨(some 60), .mov (.tmp 10), none, []⟩,
          ⟨(some 61), .mov (.tmp 12), none, []⟩,
          ⟨(some 62), .bin .eql (.tmp 60) (.tmp 61), none, [0, 1]⟩,
          ⟨(some 63), .mov (.tmp 62), none, [2]⟩,
          ⟨(some 64), .mov (.tmp 12), (some (63, true)), [3]⟩,
          ⟨(some 65), .mov (.tmp 14), (some (63, true)), [3]⟩,
          ⟨(some 66), .bin .eql (.tmp 64) (.tmp 65), (some (63, true)), [4, 5, 3]⟩,
          ⟨(some 67), .pick (.tmp 63) (.tmp 66) (.val (.bool false)), none, [3, 6]⟩,
          ⟨(some 68), .mov (.tmp 67), none, [7, 3]⟩,
          ⟨(some 69), .load (some 10) (.tmp 9), (some (68, true)), [8]⟩,
          ⟨(some 70), .load (some 10) (.tmp 11), (some (68, true)), [8]⟩,
          ⟨(some 71), .eq (.flat [0, 0, 0, 0, 0, 0, 0, 0, 0, 0]) false (.tmp 69) (.tmp 70), (some (68, true)), [9, 10, 8]⟩,
          ⟨(some 72), .pick (.tmp 68) (.tmp 71) (.val (.bool false)), none, [8, 11]⟩,
          ⟨(some 73), .mov (.tmp 72), none, [12, 8]⟩,
          ⟨(some 74), .load (some 10) (.tmp 11), (some (73, true)), [13]⟩,
          ⟨(some 75), .load (some 10) (.tmp 13), (some (73, true)), [13]⟩,
          ⟨(some 76), .eq (.flat [0, 0, 0, 0, 0, 0, 0, 0, 0, 0]) false (.tmp 74) (.tmp 75), (some (73, true)), [14, 15, 13]⟩,
          ⟨(some 77), .pick (.tmp 73) (.tmp 76) (.val (.bool false)), none, [13, 16]⟩,
          ⟨(some 8), .asg (.tmp 77), none, [17, 13, 0, 1, 2, 3, 4, 5, 6, 7, 8, 9, 10, 11, 12, 13, 14, 15, 16, 17]⟩])
        .ret))))))),
 [.tmp 8]⟩
theorem ok5 : FdOk Try.prog 5 fd5 := FdOk.of (by kernel_rfl)
abbrev T5 : List Nat := [76, 72, 71, 67, 66, 14, 62, 12, 55, 52, 51, 48, 10, 44, 34, 24, 3]
theorem hT5 : fd5.body.T = T5 := by kernel_rfl

def lp6x0 : Cd :=
 (.seq
  (.reg false [
    ⟨(some 47), .bin .lss (.tmp 46) (.tmp 45), none, []⟩])
  (.seq
   (.cond (.tmp 47)
    .skip
    (.exit 2))
   (.seq
    (.block 3
     (.seq
      (.reg false [
        ⟨(some 48), .idxA 1 (.tmp 44) (.tmp 46), none, []⟩,
        ⟨(some 49), .load none (.tmp 48), none, [0]⟩,
        ⟨(some 13), .asg (.tmp 49), none, [1, 0, 1]⟩])
      (.reg false [
        ⟨(some 50), .mov (.tmp 9), none, []⟩,
        ⟨(some 51), .mov (.tmp 50), none, [0]⟩,
        ⟨(some 52), .mov (.tmp 11), (some (51, false)), [1]⟩,
        ⟨(some 53), .mov (.tmp 13), (some (51, false)), [1]⟩,
        ⟨(some 54), .call 16 [(.tmp 52), (.tmp 53)], (some (51, false)), [2, 3, 1, 1]⟩,
        ⟨(some 55), .pick (.tmp 51) (.val (.bool true)) (.tmp 54), none, [1, 4]⟩,
        ⟨(some 9), .asg (.tmp 55), none, [5, 4, 0, 1, 2, 3, 4, 5]⟩])))
    (.reg false [
      ⟨(some 56), .bin .add (.tmp 46) (.val (.int .i64 1)), none, []⟩,
      ⟨(some 46), .mov (.tmp 56), none, [0]⟩]))))
def lp6x1 : Cd :=
 (.seq
  (.reg false [
    ⟨(some 40), .bin .lss (.tmp 39) (.tmp 38), none, []⟩])
  (.seq
   (.cond (.tmp 40)
    .skip
    (.exit 0))
   (.seq
    (.block 1
     (.seq
      (.reg false [
        ⟨(some 41), .idxA 1 (.tmp 37) (.tmp 39), none, []⟩,
        ⟨(some 42), .load none (.tmp 41), none, [0]⟩,
        ⟨(some 11), .asg (.tmp 42), none, [1, 0, 1]⟩])
      (.seq
       (.reg false [
         ⟨(some 43), .fadr 9 (.tmp 4), none, []⟩,
         ⟨(some 44), .load none (.tmp 43), none, [0]⟩,
         ⟨(some 45), .len false (.tmp 44), none, [1]⟩,
         ⟨(some 46), .mov (.val (.int .i64 0)), none, []⟩])
       (.block 2
        (.loop [] lp6x0)))))
    (.reg false [
      ⟨(some 57), .bin .add (.tmp 39) (.val (.int .i64 1)), none, []⟩,
      ⟨(some 39), .mov (.tmp 57), none, [0]⟩]))))
/-- waymark/waymarklaw10.AdjLevels -/
def fd6 : Fd := ⟨107,
 (.seq
  (.reg false [
    ⟨(some 3), .box (.tmp 0), none, []⟩,
    ⟨(some 4), .box (.tmp 1), none, []⟩,
    ⟨(some 6), .asg (.val (.bool false)), none, []⟩])
  (.seq
   (.seq
    (.reg false [
      ⟨(some 14), .call 10 [], none, []⟩,
      ⟨(some 15), .un .not (.tmp 14), none, [0]⟩])
    (.cond (.tmp 15)
     (.seq
      (.reg false [
        ⟨(some 6), .asg (.val (.bool false)), none, []⟩])
      .ret)
     .skip))
   (.seq
    (.reg true [
      ⟨(some 17), .load (some 9) (.tmp 3), none, []⟩,
      ⟨(some 18), .call 11 [(.tmp 17)], none, [0]⟩,
      ⟨(some 19), .build [(.int .i64 0), (.int .u8 0), (.int .u8 0), (.int .u8 0), (.int .u8 0), (.int .u8 0), (.int .u8 0), (.int .u8 0), (.int .i64 0), (.int .i64 0)] [(0, 1, (.val (.int .i64 2)))], none, []⟩,
      ⟨(some 20), .load (some 19) (.tmp 4), none, []⟩,
      ⟨(some 21), .call 12 [(.tmp 20)], none, [3, 1]⟩,
      ⟨(some 22), .mov (.tmp 2), none, []⟩,
      ⟨(some 23), .call 13 [(.tmp 18), (.tmp 19), (.tmp 21), (.tmp 22)], none, [1, 2, 4, 5, 4]⟩,
      ⟨(some 16), .mov (.tmp 23), none, [6]⟩,
      ⟨(some 24), .ext 0 (.tmp 16), none, [7]⟩,
      ⟨(some 25), .ext 1 (.tmp 16), none, [7]⟩,
      ⟨(some 7), .alloc [(.int .i64 0), (.int .u8 0), (.int .u8 0), (.int .u8 0), (.int .u8 0), (.int .u8 0), (.int .u8 0), (.int .u8 0), (.int .i64 0), (.int .i64 0)], none, []⟩,
      ⟨none, .store 10 (.tmp 7) (.tmp 24), none, [10, 8, 6, 0, 1, 2, 3, 4, 5, 6, 7, 8, 10]⟩,
      ⟨(some 8), .asg (.tmp 25), none, [9, 11, 0, 1, 2, 3, 4, 5, 6, 7, 8, 9, 10, 11]⟩])
    (.seq
     (.seq
      (.reg false [
        ⟨(some 26), .mov (.tmp 8), none, []⟩,
        ⟨(some 27), .bin .neq (.tmp 26) (.val (.int .i64 0)), none, [0]⟩,
        ⟨(some 28), .mov (.tmp 27), none, [1]⟩,
        ⟨(some 29), .fadr 0 (.tmp 7), (some (28, false)), [2]⟩,
        ⟨(some 30), .load none (.tmp 29), (some (28, false)), [3, 2]⟩,
        ⟨(some 31), .bin .eql (.tmp 30) (.val (.int .i64 2)), (some (28, false)), [4, 2]⟩,
        ⟨(some 32), .pick (.tmp 28) (.val (.bool true)) (.tmp 31), none, [2, 5]⟩])
      (.cond (.tmp 32)
       (.seq
        (.reg false [
          ⟨(some 33), .load (some 10) (.tmp 7), none, []⟩,
          ⟨(some 34), .build [(.int .i64 0), (.int .u8 0), (.int .u8 0), (.int .u8 0), (.int .u8 0), (.int .u8 0), (.int .u8 0), (.int .u8 0), (.int .i64 0), (.int .i64 0)] [(0, 1, (.val (.int .i64 2)))], none, []⟩,
          ⟨(some 35), .eq (.flat [0, 0, 0, 0, 0, 0, 0, 0, 0, 0]) false (.tmp 33) (.tmp 34), none, [0, 1]⟩,
          ⟨(some 6), .asg (.tmp 35), none, [2, 0, 1, 2]⟩])
        .ret)
       .skip))
     (.seq
      (.reg false [
        ⟨(some 9), .asg (.val (.bool false)), none, []⟩])
      (.seq
       (.seq
        (.reg false [
          ⟨(some 36), .fadr 8 (.tmp 3), none, []⟩,
          ⟨(some 37), .load none (.tmp 36), none, [0]⟩,
          ⟨(some 38), .len false (.tmp 37), none, [1]⟩,
          ⟨(some 39), .mov (.val (.int .i64 0)), none, []⟩])
        (.block 0
         (.loop [] lp6x1)))
       (.seq
        (.reg false [
          ⟨(some 58), .fadr 8 (.tmp 7), none, []⟩,
          ⟨(some 59), .load none (.tmp 58), none, [0]⟩,
          ⟨(some 60), .fadr 7 (.tmp 3), none, []⟩,
          ⟨(some 61), .load none (.tmp 60), none, [2]⟩,
          ⟨(some 62), .bin .andNot (.tmp 59) (.tmp 61), none, [1, 3]⟩,
          ⟨(some 63), .bin .eql (.tmp 62) (.val (.int .i64 0)), none, [4]⟩,
          ⟨(some 64), .mov (.tmp 63), none, [5]⟩,
          ⟨(some 65), .fadr 8 (.tmp 7), (some (64, true)), [6]⟩,
          ⟨(some 66), .load none (.tmp 65), (some (64, true)), [7, 6]⟩,
          ⟨(some 67), .fadr 7 (.tmp 4), (some (64, true)), [6]⟩,
          ⟨(some 68), .load none (.tmp 67), (some (64, true)), [9, 6]⟩,
          ⟨(some 69), .bin .andNot (.tmp 66) (.tmp 68), (some (64, true)), [8, 10, 6]⟩,
          ⟨(some 70), .bin .eql (.tmp 69) (.val (.int .i64 0)), (some (64, true)), [11, 6]⟩,
          ⟨(some 71), .pick (.tmp 64) (.tmp 70) (.val (.bool false)), none, [6, 12]⟩,
          ⟨(some 72), .mov (.tmp 71), none, [13, 6]⟩,
          ⟨(some 73), .fadr 8 (.tmp 7), (some (72, true)), [14]⟩,
          ⟨(some 74), .load none (.tmp 73), (some (72, true)), [15, 14]⟩,
          ⟨(some 75), .bin .gtr (.tmp 74) (.val (.int .i64 0)), (some (72, true)), [16, 14]⟩,
          ⟨(some 76), .pick (.tmp 72) (.tmp 75) (.val (.bool false)), none, [14, 17]⟩,
          ⟨(some 77), .mov (.tmp 76), none, [18, 14]⟩,
          ⟨(some 78), .fadr 8 (.tmp 7), (some (77, true)), [19]⟩,
          ⟨(some 79), .load none (.tmp 78), (some (77, true)), [20, 19]⟩,
          ⟨(some 80), .bin .neq (.tmp 79) (.val (.int .i64 1)), (some (77, true)), [21, 19]⟩,
          ⟨(some 81), .mov (.tmp 80), (some (77, true)), [22, 19, 19]⟩,
          ⟨(some 82), .fadr 8 (.tmp 7), (some (81, true)), [23]⟩,
          ⟨(some 83), .load none (.tmp 82), (some (81, true)), [24, 23]⟩,
          ⟨(some 84), .bin .neq (.tmp 83) (.val (.int .i64 3)), (some (81, true)), [25, 23]⟩,
          ⟨(some 85), .pick (.tmp 81) (.tmp 84) (.val (.bool false)), (some (77, true)), [23, 26, 19]⟩,
          ⟨(some 86), .mov (.tmp 85), (some (77, true)), [27, 23, 19]⟩,
          ⟨(some 87), .mov (.tmp 9), (some (86, false)), [28]⟩,
          ⟨(some 88), .pick (.tmp 86) (.val (.bool true)) (.tmp 87), (some (77, true)), [28, 29, 19]⟩,
          ⟨(some 89), .pick (.tmp 77) (.tmp 88) (.val (.bool false)), none, [19, 30]⟩,
          ⟨(some 90), .mov (.tmp 89), none, [31, 28]⟩,
          ⟨(some 91), .fadr 8 (.tmp 7), (some (90, true)), [32]⟩,
          ⟨(some 92), .load none (.tmp 91), (some (90, true)), [33, 32]⟩,
          ⟨(some 93), .bin .and (.tmp 92) (.val (.int .i64 2)), (some (90, true)), [34, 32]⟩,
          ⟨(some 94), .bin .neq (.tmp 93) (.val (.int .i64 0)), (some (90, true)), [35, 32]⟩,
          ⟨(some 95), .fadr 7 (.tmp 3), (some (90, true)), [32]⟩,
          ⟨(some 96), .load none (.tmp 95), (some (90, true)), [37, 32]⟩,
          ⟨(some 97), .bin .and (.tmp 96) (.val (.int .i64 2)), (some (90, true)), [38, 32]⟩,
          ⟨(some 98), .bin .neq (.tmp 97) (.val (.int .i64 0)), (some (90, true)), [39, 32]⟩,
          ⟨(some 99), .mov (.tmp 98), (some (90, true)), [40, 32, 32]⟩,
          ⟨(some 100), .fadr 7 (.tmp 4), (some (99, true)), [41]⟩,
          ⟨(some 101), .load none (.tmp 100), (some (99, true)), [42, 41]⟩,
          ⟨(some 102), .bin .and (.tmp 101) (.val (.int .i64 2)), (some (99, true)), [43, 41]⟩,
          ⟨(some 103), .bin .neq (.tmp 102) (.val (.int .i64 0)), (some (99, true)), [44, 41]⟩,
          ⟨(some 104), .pick (.tmp 99) (.tmp 103) (.val (.bool false)), (some (90, true)), [41, 45, 32]⟩,
          ⟨(some 105), .eq .bool false (.tmp 94) (.tmp 104), (some (90, true)), [36, 46, 32]⟩,
          ⟨(some 106), .pick (.tmp 90) (.tmp 105) (.val (.bool false)), none, [32, 47]⟩,
          ⟨(some 6), .asg (.tmp 106), none, [48, 41, 0, 1, 2, 3, 4, 5, 6, 7, 8, 9, 10, 11, 12, 13, 14, 15, 16, 17, 18, 19, 20, 21, 22, 23, 24, 25, 26, 27, 28, 29, 30, 31, 32, 33, 34, 35, 36, 37, 38, 39, 40, 41, 42, 43, 44, 45, 46, 47, 48]⟩])
        .ret))))))),
 [.tmp 6]⟩
theorem ok6 : FdOk Try.prog 6 fd6 := FdOk.of (by kernel_rfl)
abbrev T6 : List Nat := [105, 103, 100, 98, 95, 91, 89, 88, 87, 85, 84, 82, 80, 78, 76, 75, 73, 71, 70, 67, 65, 63, 60, 58, 57, 56, 54, 13, 11, 50, 9, 48, 44, 43, 4, 41, 37, 36, 3, 31, 29, 7, 27, 8, 23, 2]
theorem hT6 : fd6.body.T = T6 := by kernel_rfl

/-- waymark/waymarklaw10.AdjHolds -/
def fd7 : Fd := ⟨65,
 (.seq
  (.reg false [
    ⟨(some 3), .box (.tmp 0), none, []⟩,
    ⟨(some 4), .box (.tmp 1), none, []⟩,
    ⟨(some 6), .asg (.val (.bool false)), none, []⟩])
  (.seq
   (.seq
    (.reg false [
      ⟨(some 11), .call 10 [], none, []⟩,
      ⟨(some 12), .un .not (.tmp 11), none, [0]⟩])
    (.cond (.tmp 12)
     (.seq
      (.reg false [
        ⟨(some 6), .asg (.val (.bool false)), none, []⟩])
      .ret)
     .skip))
   (.seq
    (.reg false [
      ⟨(some 13), .mov (.tmp 2), none, []⟩,
      ⟨(some 14), .conv .i64 (.tmp 13), none, [0]⟩,
      ⟨(some 15), .bin .add (.tmp 14) (.val (.int .i64 2147483648)), none, [1]⟩,
      ⟨(some 7), .asg (.tmp 15), none, [2, 0, 1, 2]⟩])
    (.seq
     (.reg true [
       ⟨(some 17), .load (some 9) (.tmp 3), none, []⟩,
       ⟨(some 18), .call 11 [(.tmp 17)], none, [0]⟩,
       ⟨(some 19), .build [(.int .i64 0), (.int .u8 0), (.int .u8 0), (.int .u8 0), (.int .u8 0), (.int .u8 0), (.int .u8 0), (.int .u8 0), (.int .i64 0), (.int .i64 0)] [(0, 1, (.val (.int .i64 2)))], none, []⟩,
       ⟨(some 20), .load (some 19) (.tmp 4), none, []⟩,
       ⟨(some 21), .call 12 [(.tmp 20)], none, [3, 1]⟩,
       ⟨(some 22), .mov (.tmp 7), none, []⟩,
       ⟨(some 23), .call 13 [(.tmp 18), (.tmp 19), (.tmp 21), (.tmp 22)], none, [1, 2, 4, 5, 4]⟩,
       ⟨(some 16), .mov (.tmp 23), none, [6]⟩,
       ⟨(some 24), .ext 0 (.tmp 16), none, [7]⟩,
       ⟨(some 25), .ext 1 (.tmp 16), none, [7]⟩,
       ⟨(some 8), .alloc [(.int .i64 0), (.int .u8 0), (.int .u8 0), (.int .u8 0), (.int .u8 0), (.int .u8 0), (.int .u8 0), (.int .u8 0), (.int .i64 0), (.int .i64 0)], none, []⟩,
       ⟨none, .store 10 (.tmp 8) (.tmp 24), none, [10, 8, 6, 0, 1, 2, 3, 4, 5, 6, 7, 8, 10]⟩,
       ⟨(some 9), .asg (.tmp 25), none, [9, 11, 0, 1, 2, 3, 4, 5, 6, 7, 8, 9, 10, 11]⟩])
     (.seq
      (.seq
       (.reg false [
         ⟨(some 26), .mov (.tmp 9), none, []⟩,
         ⟨(some 27), .bin .neq (.tmp 26) (.val (.int .i64 0)), none, [0]⟩,
         ⟨(some 28), .mov (.tmp 27), none, [1]⟩,
         ⟨(some 29), .fadr 0 (.tmp 8), (some (28, false)), [2]⟩,
         ⟨(some 30), .load none (.tmp 29), (some (28, false)), [3, 2]⟩,
         ⟨(some 31), .bin .eql (.tmp 30) (.val (.int .i64 2)), (some (28, false)), [4, 2]⟩,
         ⟨(some 32), .pick (.tmp 28) (.val (.bool true)) (.tmp 31), none, [2, 5]⟩])
       (.cond (.tmp 32)
        (.seq
         (.reg false [
           ⟨(some 6), .asg (.val (.bool true)), none, []⟩])
         .ret)
        .skip))
      (.seq
       (.reg false [
         ⟨(some 33), .mov (.tmp 7), none, []⟩,
         ⟨(some 34), .fadr 8 (.tmp 4), none, []⟩,
         ⟨(some 35), .load none (.tmp 34), none, [1]⟩,
         ⟨(some 36), .bin .add (.tmp 33) (.tmp 35), none, [0, 2]⟩,
         ⟨(some 10), .asg (.tmp 36), none, [3, 0, 1, 2, 3]⟩])
       (.seq
        (.reg true [
          ⟨(some 37), .load (some 10) (.tmp 8), none, []⟩,
          ⟨(some 38), .mov (.tmp 7), none, []⟩,
          ⟨(some 39), .call 17 [(.tmp 37), (.tmp 38)], none, [0, 1]⟩,
          ⟨(some 40), .load (some 10) (.tmp 8), none, []⟩,
          ⟨(some 41), .eq (.flat [0, 0, 0, 0, 0, 0, 0, 0, 0, 0]) false (.tmp 39) (.tmp 40), none, [2, 3]⟩,
          ⟨(some 42), .mov (.tmp 41), none, [4, 2]⟩,
          ⟨(some 43), .load (some 10) (.tmp 8), (some (42, true)), [5]⟩,
          ⟨(some 44), .mov (.tmp 10), (some (42, true)), [5]⟩,
          ⟨(some 45), .bin .sub (.tmp 44) (.val (.int .i64 1)), (some (42, true)), [7, 5]⟩,
          ⟨(some 46), .call 17 [(.tmp 43), (.tmp 45)], (some (42, true)), [6, 8, 5, 5]⟩,
          ⟨(some 47), .load (some 10) (.tmp 8), (some (42, true)), [5]⟩,
          ⟨(some 48), .eq (.flat [0, 0, 0, 0, 0, 0, 0, 0, 0, 0]) false (.tmp 46) (.tmp 47), (some (42, true)), [9, 10, 5]⟩,
          ⟨(some 49), .pick (.tmp 42) (.tmp 48) (.val (.bool false)), none, [5, 11]⟩,
          ⟨(some 50), .mov (.tmp 49), none, [12, 9]⟩,
          ⟨(some 51), .load (some 10) (.tmp 8), (some (50, true)), [13]⟩,
          ⟨(some 52), .mov (.tmp 10), (some (50, true)), [13]⟩,
          ⟨(some 53), .call 17 [(.tmp 51), (.tmp 52)], (some (50, true)), [14, 15, 13, 13]⟩,
          ⟨(some 54), .build [(.int .i64 0), (.int .u8 0), (.int .u8 0), (.int .u8 0), (.int .u8 0), (.int .u8 0), (.int .u8 0), (.int .u8 0), (.int .i64 0), (.int .i64 0)] [(0, 1, (.val (.int .i64 2)))], (some (50, true)), [13]⟩,
          ⟨(some 55), .eq (.flat [0, 0, 0, 0, 0, 0, 0, 0, 0, 0]) false (.tmp 53) (.tmp 54), (some (50, true)), [16, 17, 13]⟩,
          ⟨(some 56), .pick (.tmp 50) (.tmp 55) (.val (.bool false)), none, [13, 18]⟩,
          ⟨(some 57), .mov (.tmp 56), none, [19, 16]⟩,
          ⟨(some 58), .load (some 10) (.tmp 8), (some (57, true)), [20]⟩,
          ⟨(some 59), .mov (.tmp 10), (some (57, true)), [20]⟩,
          ⟨(some 60), .bin .add (.tmp 59) (.val (.int .i64 1000)), (some (57, true)), [22, 20]⟩,
          ⟨(some 61), .call 17 [(.tmp 58), (.tmp 60)], (some (57, true)), [21, 23, 20, 20]⟩,
          ⟨(some 62), .build [(.int .i64 0), (.int .u8 0), (.int .u8 0), (.int .u8 0), (.int .u8 0), (.int .u8 0), (.int .u8 0), (.int .u8 0), (.int .i64 0), (.int .i64 0)] [(0, 1, (.val (.int .i64 2)))], (some (57, true)), [20]⟩,
          ⟨(some 63), .eq (.flat [0, 0, 0, 0, 0, 0, 0, 0, 0, 0]) false (.tmp 61) (.tmp 62), (some (57, true)), [24, 25, 20]⟩,
          ⟨(some 64), .pick (.tmp 57) (.tmp 63) (.val (.bool false)), none, [20, 26]⟩,
          ⟨(some 6), .asg (.tmp 64), none, [27, 24, 0, 1, 2, 3, 4, 5, 6, 7, 8, 9, 10, 11, 12, 13, 14, 15, 16, 17, 18, 19, 20, 21, 22, 23, 24, 25, 26, 27]⟩])
        .ret))))))),
 [.tmp 6]⟩
theorem ok7 : FdOk Try.prog 7 fd7 := FdOk.of (by kernel_rfl)
abbrev T7 : List Nat := [63, 56, 55, 49, 48, 10, 41, 34, 4, 31, 29, 8, 27, 9, 23, 7, 2]
theorem hT7 : fd7.body.T = T7 := by kernel_rfl

def lp8x0 : Cd :=
 (.seq
  (.reg false [
    ⟨(some 125), .bin .lss (.tmp 124) (.tmp 123), none, []⟩])
  (.seq
   (.cond (.tmp 125)
    .skip
    (.exit 0))
   (.seq
    (.block 1
     (.seq
      (.reg false [
        ⟨(some 126), .mov (.tmp 124), none, []⟩,
        ⟨(some 17), .asg (.tmp 126), none, [0, 0]⟩])
      (.seq
       (.reg false [
         ⟨(some 127), .mov (.tmp 13), none, []⟩,
         ⟨(some 128), .mov (.tmp 14), none, []⟩,
         ⟨(some 129), .mov (.tmp 17), none, []⟩,
         ⟨(some 130), .call 18 [(.tmp 127), (.tmp 128), (.tmp 129)], none, [0, 1, 2]⟩,
         ⟨(some 131), .un .not (.tmp 130), none, [3]⟩,
         ⟨(some 132), .mov (.tmp 131), none, [4, 3]⟩,
         ⟨(some 133), .mov (.tmp 14), (some (132, false)), [5]⟩,
         ⟨(some 134), .mov (.tmp 13), (some (132, false)), [5]⟩,
         ⟨(some 135), .mov (.tmp 17), (some (132, false)), [5]⟩,
         ⟨(some 136), .call 18 [(.tmp 133), (.tmp 134), (.tmp 135)], (some (132, false)), [6, 7, 8, 5, 5]⟩,
         ⟨(some 137), .un .not (.tmp 136), (some (132, false)), [9, 5]⟩,
         ⟨(some 138), .pick (.tmp 132) (.val (.bool true)) (.tmp 137), none, [5, 10]⟩])
       (.cond (.tmp 138)
        (.seq
         (.reg false [
           ⟨(some 12), .asg (.val (.bool false)), none, []⟩])
         .ret)
        .skip))))
    (.reg false [
      ⟨(some 139), .bin .add (.tmp 124) (.val (.int .i64 1)), none, []⟩,
      ⟨(some 124), .mov (.tmp 139), none, [0]⟩]))))
def lp8x1 : Cd :=
 (.seq
  (.reg false [
    ⟨(some 141), .bin .lss (.tmp 140) (.val (.int .i64 2)), none, []⟩])
  (.seq
   (.cond (.tmp 141)
    .skip
    (.exit 2))
   (.seq
    (.block 3
     (.seq
      (.reg false [
        ⟨(some 142), .mov (.tmp 140), none, []⟩,
        ⟨(some 18), .asg (.tmp 142), none, [0, 0]⟩])
      (.seq
       (.reg true [
         ⟨(some 143), .mov (.tmp 13), none, []⟩,
         ⟨(some 144), .nilchk (.tmp 143), none, [0]⟩,
         ⟨(some 145), .fadr 9 (.tmp 144), none, [1]⟩,
         ⟨(some 146), .fadr 0 (.tmp 145), none, [2]⟩,
         ⟨(some 147), .load none (.tmp 146), none, [3]⟩,
         ⟨(some 148), .bin .neq (.tmp 147) (.val (.int .i64 0)), none, [4]⟩,
         ⟨(some 149), .mov (.tmp 148), none, [5]⟩,
         ⟨(some 150), .mov (.tmp 14), (some (149, false)), [6]⟩,
         ⟨(some 151), .nilchk (.tmp 150), (some (149, false)), [7, 6]⟩,
         ⟨(some 152), .fadr 9 (.tmp 151), (some (149, false)), [8, 6]⟩,
         ⟨(some 153), .fadr 0 (.tmp 152), (some (149, false)), [9, 6]⟩,
         ⟨(some 154), .load none (.tmp 153), (some (149, false)), [10, 6]⟩,
         ⟨(some 155), .bin .neq (.tmp 154) (.val (.int .i64 0)), (some (149, false)), [11, 6]⟩,
         ⟨(some 156), .pick (.tmp 149) (.val (.bool true)) (.tmp 155), none, [6, 12]⟩,
         ⟨(some 157), .mov (.tmp 156), none, [13, 6]⟩,
         ⟨(some 158), .mov (.tmp 13), (some (157, false)), [14]⟩,
         ⟨(some 159), .nilchk (.tmp 158), (some (157, false)), [15, 14]⟩,
         ⟨(some 160), .fadr 9 (.tmp 159), (some (157, false)), [16, 14]⟩,
         ⟨(some 161), .fadr 1 (.tmp 160), (some (157, false)), [17, 14]⟩,
         ⟨(some 162), .load (some 6) (.tmp 161), (some (157, false)), [18, 14]⟩,
         ⟨(some 163), .fadr 0 (.tmp 7), (some (157, false)), [14]⟩,
         ⟨(some 164), .load (some 6) (.tmp 163), (some (157, false)), [20, 14]⟩,
         ⟨(some 165), .eq (.flat [0, 0, 0, 0, 0, 0]) true (.tmp 162) (.tmp 164), (some (157, false)), [19, 21, 14]⟩,
         ⟨(some 166), .pick (.tmp 157) (.val (.bool true)) (.tmp 165), none, [14, 22]⟩,
         ⟨(some 167), .mov (.tmp 166), none, [23, 14]⟩,
         ⟨(some 168), .mov (.tmp 14), (some (167, false)), [24]⟩,
         ⟨(some 169), .nilchk (.tmp 168), (some (167, false)), [25, 24]⟩,
         ⟨(some 170), .fadr 9 (.tmp 169), (some (167, false)), [26, 24]⟩,
         ⟨(some 171), .fadr 1 (.tmp 170), (some (167, false)), [27, 24]⟩,
         ⟨(some 172), .load (some 6) (.tmp 171), (some (167, false)), [28, 24]⟩,
         ⟨(some 173), .fadr 0 (.tmp 6), (some (167, false)), [24]⟩,
         ⟨(some 174), .load (some 6) (.tmp 173), (some (167, false)), [30, 24]⟩,
         ⟨(some 175), .eq (.flat [0, 0, 0, 0, 0, 0]) true (.tmp 172) (.tmp 174), (some (167, false)), [29, 31, 24]⟩,
         ⟨(some 176), .pick (.tmp 167) (.val (.bool true)) (.tmp 175), none, [24, 32]⟩,
         ⟨(some 177), .mov (.tmp 176), none, [33, 24]⟩,
         ⟨(some 178), .mov (.tmp 13), (some (177, false)), [34]⟩,
         ⟨(some 179), .nilchk (.tmp 178), (some (177, false)), [35, 34]⟩,
         ⟨(some 180), .fadr 9 (.tmp 179), (some (177, false)), [36, 34]⟩,
         ⟨(some 181), .fadr 7 (.tmp 180), (some (177, false)), [37, 34]⟩,
         ⟨(some 182), .load none (.tmp 181), (some (177, false)), [38, 34]⟩,
         ⟨(some 183), .fadr 6 (.tmp 7), (some (177, false)), [34]⟩,
         ⟨(some 184), .load none (.tmp 183), (some (177, false)), [40, 34]⟩,
         ⟨(some 185), .bin .neq (.tmp 182) (.tmp 184), (some (177, false)), [39, 41, 34]⟩,
         ⟨(some 186), .pick (.tmp 177) (.val (.bool true)) (.tmp 185), none, [34, 42]⟩,
         ⟨(some 187), .mov (.tmp 186), none, [43, 34]⟩,
         ⟨(some 188), .mov (.tmp 14), (some (187, false)), [44]⟩,
         ⟨(some 189), .nilchk (.tmp 188), (some (187, false)), [45, 44]⟩,
         ⟨(some 190), .fadr 9 (.tmp 189), (some (187, false)), [46, 44]⟩,
         ⟨(some 191), .fadr 7 (.tmp 190), (some (187, false)), [47, 44]⟩,
         ⟨(some 192), .load none (.tmp 191), (some (187, false)), [48, 44]⟩,
         ⟨(some 193), .fadr 6 (.tmp 6), (some (187, false)), [44]⟩,
         ⟨(some 194), .load none (.tmp 193), (some (187, false)), [50, 44]⟩,
         ⟨(some 195), .bin .neq (.tmp 192) (.tmp 194), (some (187, false)), [49, 51, 44]⟩,
         ⟨(some 196), .pick (.tmp 187) (.val (.bool true)) (.tmp 195), none, [44, 52]⟩,
         ⟨(some 197), .mov (.tmp 196), none, [53, 44]⟩,
         ⟨(some 198), .mov (.tmp 13), (some (197, false)), [54]⟩,
         ⟨(some 199), .nilchk (.tmp 198), (some (197, false)), [55, 54]⟩,
         ⟨(some 200), .fadr 9 (.tmp 199), (some (197, false)), [56, 54]⟩,
         ⟨(some 201), .fadr 8 (.tmp 200), (some (197, false)), [57, 54]⟩,
         ⟨(some 202), .load none (.tmp 201), (some (197, false)), [58, 54]⟩,
         ⟨(some 203), .mov (.tmp 14), (some (197, false)), [54]⟩,
         ⟨(some 204), .nilchk (.tmp 203), (some (197, false)), [60, 54]⟩,
         ⟨(some 205), .fadr 9 (.tmp 204), (some (197, false)), [61, 54]⟩,
         ⟨(some 206), .fadr 8 (.tmp 205), (some (197, false)), [62, 54]⟩,
         ⟨(some 207), .load none (.tmp 206), (some (197, false)), [63, 54]⟩,
         ⟨(some 208), .bin .neq (.tmp 202) (.tmp 207), (some (197, false)), [59, 64, 54]⟩,
         ⟨(some 209), .pick (.tmp 197) (.val (.bool true)) (.tmp 208), none, [54, 65]⟩,
         ⟨(some 210), .mov (.tmp 209), none, [66, 54]⟩,
         ⟨(some 211), .mov (.tmp 13), (some (210, false)), [67]⟩,
         ⟨(some 212), .mov (.tmp 14), (some (210, false)), [67]⟩,
         ⟨(some 213), .mov (.tmp 18), (some (210, false)), [67]⟩,
         ⟨(some 214), .bin .add (.val (.int .i64 20)) (.tmp 213), (some (210, false)), [70, 67]⟩,
         ⟨(some 215), .call 18 [(.tmp 211), (.tmp 212), (.tmp 214)], (some (210, false)), [68, 69, 71, 67, 67]⟩,
         ⟨(some 216), .un .not (.tmp 215), (some (210, false)), [72, 67]⟩,
         ⟨(some 217), .pick (.tmp 210) (.val (.bool true)) (.tmp 216), none, [67, 73]⟩])
       (.cond (.tmp 217)
        (.seq
         (.reg false [
           ⟨(some 12), .asg (.val (.bool false)), none, []⟩])
         .ret)
        .skip))))
    (.reg false [
      ⟨(some 218), .bin .add (.tmp 140) (.val (.int .i64 1)), none, []⟩,
      ⟨(some 140), .mov (.tmp 218), none, [0]⟩]))))
/-- waymark/waymarklaw10.AdjMeet -/
def fd8 : Fd := ⟨219,
 (.seq
  (.reg false [
    ⟨(some 6), .box (.tmp 0), none, []⟩,
    ⟨(some 7), .box (.tmp 1), none, []⟩,
    ⟨(some 10), .box (.tmp 4), none, []⟩,
    ⟨(some 12), .asg (.val (.bool false)), none, []⟩])
  (.seq
   (.seq
    (.reg false [
      ⟨(some 19), .call 10 [], none, []⟩,
      ⟨(some 20), .un .not (.tmp 19), none, [0]⟩])
    (.cond (.tmp 20)
     (.seq
      (.reg false [
        ⟨(some 12), .asg (.val (.bool false)), none, []⟩])
      .ret)
     .skip))
   (.seq
    (.reg true [
      ⟨(some 21), .fadr 7 (.tmp 6), none, []⟩,
      ⟨(some 22), .load none (.tmp 21), none, [0]⟩,
      ⟨(some 23), .conv .u64 (.tmp 22), none, [1]⟩,
      ⟨(some 24), .bin .rem (.tmp 23) (.val (.int .u64 3)), none, [2]⟩,
      ⟨(some 25), .conv .i64 (.tmp 24), none, [3]⟩,
      ⟨(some 26), .bin .add (.val (.int .i64 1)) (.tmp 25), none, [4]⟩,
      ⟨(some 27), .fadr 7 (.tmp 7), none, []⟩,
      ⟨(some 28), .load none (.tmp 27), none, [6]⟩,
      ⟨(some 29), .conv .u64 (.tmp 28), none, [7]⟩,
      ⟨(some 30), .bin .rem (.tmp 29) (.val (.int .u64 3)), none, [8]⟩,
      ⟨(some 31), .conv .i64 (.tmp 30), none, [9]⟩,
      ⟨(some 32), .bin .add (.val (.int .i64 1)) (.tmp 31), none, [10]⟩,
      ⟨(some 33), .fadr 7 (.tmp 6), none, [0, 1, 2, 3, 4, 5]⟩,
      ⟨none, .store 1 (.tmp 33) (.tmp 26), none, [12, 5, 0, 1, 2, 3, 4, 5]⟩,
      ⟨(some 34), .fadr 7 (.tmp 7), none, [0, 1, 2, 3, 4, 5, 6, 7, 8, 9, 10, 11, 12, 13]⟩,
      ⟨none, .store 1 (.tmp 34) (.tmp 32), none, [14, 11, 13, 0, 1, 2, 3, 4, 5, 6, 7, 8, 9, 10, 11, 12, 13]⟩])
    (.seq
     (.reg true [
       ⟨(some 35), .fadr 8 (.tmp 6), none, []⟩,
       ⟨(some 36), .load none (.tmp 35), none, [0]⟩,
       ⟨(some 37), .fadr 8 (.tmp 6), none, []⟩,
       ⟨(some 38), .load none (.tmp 37), none, [2]⟩,
       ⟨(some 39), .len false (.tmp 38), none, [3]⟩,
       ⟨(some 40), .mm false [(.tmp 39), (.val (.int .i64 3))], none, [4]⟩,
       ⟨(some 41), .slice 1 (.tmp 36) none (some (.tmp 40)), none, [1, 5]⟩,
       ⟨(some 42), .fadr 8 (.tmp 7), none, []⟩,
       ⟨(some 43), .load none (.tmp 42), none, [7]⟩,
       ⟨(some 44), .fadr 8 (.tmp 7), none, []⟩,
       ⟨(some 45), .load none (.tmp 44), none, [9]⟩,
       ⟨(some 46), .len false (.tmp 45), none, [10]⟩,
       ⟨(some 47), .mm false [(.tmp 46), (.val (.int .i64 3))], none, [11]⟩,
       ⟨(some 48), .slice 1 (.tmp 43) none (some (.tmp 47)), none, [8, 12]⟩,
       ⟨(some 49), .fadr 8 (.tmp 6), none, [0, 1, 2, 3, 4, 5, 6]⟩,
       ⟨none, .store 1 (.tmp 49) (.tmp 41), none, [14, 6, 0, 1, 2, 3, 4, 5, 6]⟩,
       ⟨(some 50), .fadr 8 (.tmp 7), none, [0, 1, 2, 3, 4, 5, 6, 7, 8, 9, 10, 11, 12, 13, 14, 15]⟩,
       ⟨none, .store 1 (.tmp 50) (.tmp 48), none, [16, 13, 15, 0, 1, 2, 3, 4, 5, 6, 7, 8, 9, 10, 11, 12, 13, 14, 15]⟩])
     (.seq
      (.seq
       (.reg false [
         ⟨(some 51), .fadr 0 (.tmp 6), none, []⟩,
         ⟨(some 52), .load (some 6) (.tmp 51), none, [0]⟩,
         ⟨(some 53), .fadr 0 (.tmp 7), none, []⟩,
         ⟨(some 54), .load (some 6) (.tmp 53), none, [2]⟩,
         ⟨(some 55), .eq (.flat [0, 0, 0, 0, 0, 0]) false (.tmp 52) (.tmp 54), none, [1, 3]⟩])
       (.cond (.tmp 55)
        (.seq
         (.reg false [
           ⟨(some 12), .asg (.val (.bool true)), none, []⟩])
         .ret)
        .skip))
      (.seq
       (.reg true [
         ⟨(some 56), .load (some 9) (.tmp 6), none, []⟩,
         ⟨(some 57), .build [(.int .i64 0), (.int .u8 0), (.int .u8 0), (.int .u8 0), (.int .u8 0), (.int .u8 0), (.int .u8 0), (.int .u8 0), (.int .i64 0), (.int .i64 0)] [(0, 1, (.val (.int .i64 2)))], none, []⟩,
         ⟨(some 58), .build [(.int .u8 0), (.int .u8 0), (.int .u8 0), (.int .u8 0), (.int .u8 0), (.int .u8 0), (.int .u8 0), (.int .i64 0), .nils, (.int .i64 0), (.int .u8 0), (.int .u8 0), (.int .u8 0), (.int .u8 0), (.int .u8 0), (.int .u8 0), (.int .u8 0), (.int .i64 0), (.int .i64 0)] [(0, 9, (.tmp 56)), (9, 10, (.tmp 57))], none, [0, 1]⟩,
         ⟨(some 59), .box (.tmp 58), none, [2]⟩,
         ⟨(some 60), .load (some 9) (.tmp 7), none, []⟩,
         ⟨(some 61), .build [(.int .i64 0), (.int .u8 0), (.int .u8 0), (.int .u8 0), (.int .u8 0), (.int .u8 0), (.int .u8 0), (.int .u8 0), (.int .i64 0), (.int .i64 0)] [(0, 1, (.val (.int .i64 2)))], none, []⟩,
         ⟨(some 62), .build [(.int .u8 0), (.int .u8 0), (.int .u8 0), (.int .u8 0), (.int .u8 0), (.int .u8 0), (.int .u8 0), (.int .i64 0), .nils, (.int .i64 0), (.int .u8 0), (.int .u8 0), (.int .u8 0), (.int .u8 0), (.int .u8 0), (.int .u8 0), (.int .u8 0), (.int .i64 0), (.int .i64 0)] [(0, 9, (.tmp 60)), (9, 10, (.tmp 61))], none, [4, 5]⟩,
         ⟨(some 63), .box (.tmp 62), none, [6]⟩,
         ⟨(some 13), .asg (.tmp 59), none, [3, 0, 1, 2, 3]⟩,
         ⟨(some 14), .asg (.tmp 63), none, [7, 8, 0, 1, 2, 3, 4, 5, 6, 7, 8]⟩])
       (.seq
        (.seq
         (.reg false [
           ⟨(some 64), .mov (.tmp 2), none, []⟩,
           ⟨(some 65), .bin .rem (.tmp 64) (.val (.int .u8 3)), none, [0]⟩,
           ⟨(some 66), .bin .lss (.tmp 65) (.val (.int .u8 2)), none, [1]⟩])
         (.cond (.tmp 66)
          (.reg false [
            ⟨(some 67), .mov (.tmp 13), none, []⟩,
            ⟨(some 68), .mov (.tmp 2), none, []⟩,
            ⟨(some 69), .bin .rem (.tmp 68) (.val (.int .u8 3)), none, [1]⟩,
            ⟨(some 70), .conv .i64 (.tmp 69), none, [2]⟩,
            ⟨(some 71), .fadr 0 (.tmp 7), none, []⟩,
            ⟨(some 72), .load (some 6) (.tmp 71), none, [4]⟩,
            ⟨(some 73), .fadr 6 (.tmp 7), none, []⟩,
            ⟨(some 74), .load none (.tmp 73), none, [6]⟩,
            ⟨(some 75), .mov (.tmp 2), none, []⟩,
            ⟨(some 76), .bin .quo (.tmp 75) (.val (.int .u8 3)), none, [8]⟩,
            ⟨(some 77), .conv .i64 (.tmp 76), none, [9]⟩,
            ⟨(some 78), .bin .rem (.tmp 77) (.val (.int .i64 3)), none, [10]⟩,
            ⟨(some 79), .bin .add (.val (.int .i64 1)) (.tmp 78), none, [11]⟩,
            ⟨(some 80), .build [(.int .i64 0), (.int .u8 0), (.int .u8 0), (.int .u8 0), (.int .u8 0), (.int .u8 0), (.int .u8 0), (.int .u8 0), (.int .i64 0), (.int .i64 0)] [(0, 1, (.tmp 70)), (1, 6, (.tmp 72)), (7, 1, (.tmp 74)), (8, 1, (.tmp 79)), (9, 1, (.val (.int .i64 5)))], none, [3, 5, 7, 12]⟩,
            ⟨(some 81), .nilchk (.tmp 67), none, [0, 0, 1, 2, 3, 4, 5, 6, 7, 8, 9, 10, 11, 12, 13]⟩,
            ⟨(some 82), .fadr 9 (.tmp 81), none, [14, 0, 1, 2, 3, 4, 5, 6, 7, 8, 9, 10, 11, 12, 13]⟩,
            ⟨none, .store 10 (.tmp 82) (.tmp 80), none, [15, 13, 0, 1, 2, 3, 4, 5, 6, 7, 8, 9, 10, 11, 12, 13]⟩])
          .skip))
        (.seq
         (.seq
          (.reg false [
            ⟨(some 83), .mov (.tmp 3), none, []⟩,
            ⟨(some 84), .bin .rem (.tmp 83) (.val (.int .u8 3)), none, [0]⟩,
            ⟨(some 85), .bin .lss (.tmp 84) (.val (.int .u8 2)), none, [1]⟩])
          (.cond (.tmp 85)
           (.reg false [
             ⟨(some 86), .mov (.tmp 14), none, []⟩,
             ⟨(some 87), .mov (.tmp 3), none, []⟩,
             ⟨(some 88), .bin .rem (.tmp 87) (.val (.int .u8 3)), none, [1]⟩,
             ⟨(some 89), .conv .i64 (.tmp 88), none, [2]⟩,
             ⟨(some 90), .load (some 6) (.tmp 10), none, []⟩,
             ⟨(some 91), .fadr 6 (.tmp 6), none, []⟩,
             ⟨(some 92), .load none (.tmp 91), none, [5]⟩,
             ⟨(some 93), .mov (.tmp 3), none, []⟩,
             ⟨(some 94), .bin .quo (.tmp 93) (.val (.int .u8 3)), none, [7]⟩,
             ⟨(some 95), .conv .i64 (.tmp 94), none, [8]⟩,
             ⟨(some 96), .bin .rem (.tmp 95) (.val (.int .i64 3)), none, [9]⟩,
             ⟨(some 97), .bin .add (.val (.int .i64 1)) (.tmp 96), none, [10]⟩,
             ⟨(some 98), .build [(.int .i64 0), (.int .u8 0), (.int .u8 0), (.int .u8 0), (.int .u8 0), (.int .u8 0), (.int .u8 0), (.int .u8 0), (.int .i64 0), (.int .i64 0)] [(0, 1, (.tmp 89)), (1, 6, (.tmp 90)), (7, 1, (.tmp 92)), (8, 1, (.tmp 97)), (9, 1, (.val (.int .i64 5)))], none, [3, 4, 6, 11]⟩,
             ⟨(some 99), .nilchk (.tmp 86), none, [0, 0, 1, 2, 3, 4, 5, 6, 7, 8, 9, 10, 11, 12]⟩,
             ⟨(some 100), .fadr 9 (.tmp 99), none, [13, 0, 1, 2, 3, 4, 5, 6, 7, 8, 9, 10, 11, 12]⟩,
             ⟨none, .store 10 (.tmp 100) (.tmp 98), none, [14, 12, 0, 1, 2, 3, 4, 5, 6, 7, 8, 9, 10, 11, 12]⟩])
           .skip))
         (.seq
          (.seq
           (.reg true [
             ⟨(some 102), .load (some 9) (.tmp 6), none, []⟩,
             ⟨(some 103), .call 11 [(.tmp 102)], none, [0]⟩,
             ⟨(some 104), .build [(.int .i64 0), (.int .u8 0), (.int .u8 0), (.int .u8 0), (.int .u8 0), (.int .u8 0), (.int .u8 0), (.int .u8 0), (.int .i64 0), (.int .i64 0)] [(0, 1, (.val (.int .i64 2)))], none, []⟩,
             ⟨(some 105), .fadr 0 (.tmp 7), none, []⟩,
             ⟨(some 106), .load (some 6) (.tmp 105), none, [3]⟩,
             ⟨(some 107), .fadr 7 (.tmp 7), none, []⟩,
             ⟨(some 108), .load none (.tmp 107), none, [5]⟩,
             ⟨(some 109), .fadr 8 (.tmp 7), none, []⟩,
             ⟨(some 110), .load none (.tmp 109), none, [7]⟩,
             ⟨(some 111), .build [(.int .u8 0), (.int .u8 0), (.int .u8 0), (.int .u8 0), (.int .u8 0), (.int .u8 0), (.int .u8 0), (.int .i64 0), (.int .i64 0), .nils, (.int .i64 0), (.bool false), (.int .u8 0), (.int .u8 0), (.int .u8 0), (.int .u8 0), (.int .u8 0), (.int .u8 0), (.int .u8 0)] [(0, 6, (.tmp 106)), (7, 1, (.tmp 108)), (8, 1, (.val (.int .i64 1))), (9, 1, (.tmp 110)), (10, 1, (.val (.int .i64 2)))], none, [4, 6, 8]⟩,
             ⟨(some 112), .call 12 [(.tmp 111)], none, [9, 1]⟩,
             ⟨(some 113), .call 13 [(.tmp 103), (.tmp 104), (.tmp 112), (.val (.int .i64 0))], none, [1, 2, 10, 10]⟩,
             ⟨(some 101), .mov (.tmp 113), none, [11]⟩,
             ⟨(some 114), .ext 0 (.tmp 101), none, [12]⟩,
             ⟨(some 115), .ext 1 (.tmp 101), none, [12]⟩,
             ⟨(some 15), .alloc [(.int .i64 0), (.int .u8 0), (.int .u8 0), (.int .u8 0), (.int .u8 0), (.int .u8 0), (.int .u8 0), (.int .u8 0), (.int .i64 0), (.int .i64 0)], none, []⟩,
             ⟨none, .store 10 (.tmp 15) (.tmp 114), none, [15, 13, 11, 0, 1, 2, 3, 4, 5, 6, 7, 8, 9, 10, 11, 12, 13, 15]⟩,
             ⟨(some 16), .asg (.tmp 115), none, [14, 16, 0, 1, 2, 3, 4, 5, 6, 7, 8, 9, 10, 11, 12, 13, 14, 15, 16]⟩])
           (.seq
            (.reg false [
              ⟨(some 116), .mov (.tmp 16), none, []⟩,
              ⟨(some 117), .bin .neq (.tmp 116) (.val (.int .i64 0)), none, [0]⟩])
            (.cond (.tmp 117)
             (.seq
              (.reg false [
                ⟨(some 118), .mov (.tmp 16), none, []⟩,
                ⟨(some 119), .bin .eql (.tmp 118) (.val (.int .i64 12)), none, [0]⟩,
                ⟨(some 12), .asg (.tmp 119), none, [1, 0, 1]⟩])
              .ret)
             .skip)))
          (.seq
           (.seq
            (.reg false [
              ⟨(some 120), .mov (.tmp 5), none, []⟩,
              ⟨(some 121), .bin .rem (.tmp 120) (.val (.int .u8 5)), none, [0]⟩,
              ⟨(some 122), .conv .i64 (.tmp 121), none, [1]⟩,
              ⟨(some 123), .bin .add (.val (.int .i64 4)) (.tmp 122), none, [2]⟩,
              ⟨(some 124), .mov (.val (.int .i64 0)), none, []⟩])
            (.block 0
             (.loop [] lp8x0)))
           (.seq
            (.seq
             (.reg false [
               ⟨(some 140), .mov (.val (.int .i64 0)), none, []⟩])
             (.block 2
              (.loop [] lp8x1)))
            (.seq
             (.reg false [
               ⟨(some 12), .asg (.val (.bool true)), none, []⟩])
             .ret)))))))))))),
 [.tmp 12]⟩
theorem ok8 : FdOk Try.prog 8 fd8 := FdOk.of (by kernel_rfl)
abbrev T8 : List Nat := [218, 216, 18, 209, 208, 206, 205, 204, 203, 201, 200, 199, 198, 196, 195, 193, 191, 190, 189, 188, 186, 185, 183, 181, 180, 179, 178, 176, 175, 170, 169, 168, 166, 165, 160, 159, 158, 156, 155, 153, 152, 151, 150, 148, 146, 145, 144, 143, 140, 139, 137, 131, 17, 124, 5, 16, 113, 109, 107, 99, 86, 91, 14, 3, 81, 67, 73, 13, 2, 44, 42, 37, 35, 27, 7, 21, 6]
theorem hT8 : fd8.body.T = T8 := by kernel_rfl

def lp9x0 : Cd :=
 (.seq
  (.reg false [
    ⟨(some 56), .bin .lss (.tmp 55) (.tmp 54), none, []⟩])
  (.seq
   (.cond (.tmp 56)
    .skip
    (.exit 2))
   (.seq
    (.block 3
     (.seq
      (.reg false [
        ⟨(some 57), .mov (.tmp 55), none, []⟩,
        ⟨(some 16), .asg (.tmp 57), none, [0, 0]⟩])
      (.reg false [
        ⟨(some 58), .fadr 9 (.tmp 10), none, []⟩,
        ⟨(some 59), .load none (.tmp 58), none, [0]⟩,
        ⟨(some 60), .mov (.tmp 15), none, []⟩,
        ⟨(some 61), .idxA 1 (.tmp 59) (.tmp 60), none, [1, 2]⟩,
        ⟨(some 62), .load none (.tmp 61), none, [3]⟩,
        ⟨(some 63), .mov (.tmp 16), none, []⟩,
        ⟨(some 64), .idxA 1 (.tmp 62) (.tmp 63), none, [4, 5]⟩,
        ⟨(some 65), .load none (.tmp 64), none, [6]⟩,
        ⟨(some 66), .bin .xor (.tmp 65) (.val (.int .u8 1)), none, [7]⟩,
        ⟨(some 67), .idxA 1 (.tmp 62) (.tmp 63), none, [4, 5, 0, 1, 2, 3, 4, 5, 6, 7, 8]⟩,
        ⟨none, .store 1 (.tmp 67) (.tmp 66), none, [9, 8, 0, 1, 2, 3, 4, 5, 6, 7, 8]⟩])))
    (.reg false [
      ⟨(some 68), .bin .add (.tmp 55) (.val (.int .i64 1)), none, []⟩,
      ⟨(some 55), .mov (.tmp 68), none, [0]⟩]))))
def lp9x1 : Cd :=
 (.seq
  (.reg false [
    ⟨(some 47), .bin .lss (.tmp 46) (.tmp 45), none, []⟩])
  (.seq
   (.cond (.tmp 47)
    .skip
    (.exit 0))
   (.seq
    (.block 1
     (.seq
      (.reg false [
        ⟨(some 48), .mov (.tmp 46), none, []⟩,
        ⟨(some 15), .asg (.tmp 48), none, [0, 0]⟩])
      (.seq
       (.reg false [
         ⟨(some 49), .fadr 9 (.tmp 10), none, []⟩,
         ⟨(some 50), .load none (.tmp 49), none, [0]⟩,
         ⟨(some 51), .mov (.tmp 15), none, []⟩,
         ⟨(some 52), .idxA 1 (.tmp 50) (.tmp 51), none, [1, 2]⟩,
         ⟨(some 53), .load none (.tmp 52), none, [3]⟩,
         ⟨(some 54), .len false (.tmp 53), none, [4]⟩,
         ⟨(some 55), .mov (.val (.int .i64 0)), none, []⟩])
       (.block 2
        (.loop [] lp9x0)))))
    (.reg false [
      ⟨(some 69), .bin .add (.tmp 46) (.val (.int .i64 1)), none, []⟩,
      ⟨(some 46), .mov (.tmp 69), none, [0]⟩]))))
/-- waymark/waymarklaw10.AdjTells -/
def fd9 : Fd := ⟨87,
 (.seq
  (.reg false [
    ⟨(some 4), .box (.tmp 0), none, []⟩,
    ⟨(some 5), .box (.tmp 1), none, []⟩,
    ⟨(some 8), .asg (.val (.bool false)), none, []⟩])
  (.seq
   (.seq
    (.reg false [
      ⟨(some 17), .call 10 [], none, []⟩,
      ⟨(some 18), .un .not (.tmp 17), none, [0]⟩])
    (.cond (.tmp 18)
     (.seq
      (.reg false [
        ⟨(some 8), .asg (.val (.bool false)), none, []⟩])
      .ret)
     .skip))
   (.seq
    (.reg false [
      ⟨(some 19), .load (some 9) (.tmp 4), none, []⟩,
      ⟨(some 20), .call 11 [(.tmp 19)], none, [0]⟩,
      ⟨(some 9), .alloc [(.int .u8 0), (.int .u8 0), (.int .u8 0), (.int .u8 0), (.int .u8 0), (.int .u8 0), (.int .u8 0), (.int .i64 0), .nils], none, []⟩,
      ⟨none, .store 9 (.tmp 9) (.tmp 20), none, [2, 1, 1, 0, 1, 2]⟩])
    (.seq
     (.reg false [
       ⟨(some 22), .load (some 9) (.tmp 9), none, []⟩,
       ⟨(some 23), .load (some 10) (.tmp 5), none, []⟩,
       ⟨(some 24), .mov (.tmp 2), none, []⟩,
       ⟨(some 25), .call 19 [(.tmp 22), (.tmp 23), (.tmp 24)], none, [0, 1, 2]⟩,
       ⟨(some 21), .mov (.tmp 25), none, [3]⟩,
       ⟨(some 26), .ext 0 (.tmp 21), none, [4]⟩,
       ⟨(some 27), .ext 1 (.tmp 21), none, [4]⟩,
       ⟨(some 10), .alloc [(.int .u8 0), (.int .u8 0), (.int .u8 0), (.int .u8 0), (.int .u8 0), (.int .u8 0), (.int .u8 0), (.int .i64 0), (.int .i64 0), .nils, (.int .i64 0), (.bool false), (.int .u8 0), (.int .u8 0), (.int .u8 0), (.int .u8 0), (.int .u8 0), (.int .u8 0), (.int .u8 0)], none, []⟩,
       ⟨none, .store 19 (.tmp 10) (.tmp 26), none, [7, 5, 3, 0, 1, 2, 3, 4, 5, 7]⟩,
       ⟨(some 11), .asg (.tmp 27), none, [6, 8, 0, 1, 2, 3, 4, 5, 6, 7, 8]⟩])
     (.seq
      (.reg false [
        ⟨(some 29), .load (some 9) (.tmp 4), none, []⟩,
        ⟨(some 30), .load (some 10) (.tmp 5), none, []⟩,
        ⟨(some 31), .mov (.tmp 2), none, []⟩,
        ⟨(some 32), .call 20 [(.tmp 29), (.tmp 30), (.tmp 31)], none, [0, 1, 2]⟩,
        ⟨(some 28), .mov (.tmp 32), none, [3]⟩,
        ⟨(some 33), .ext 0 (.tmp 28), none, [4]⟩,
        ⟨(some 34), .ext 1 (.tmp 28), none, [4]⟩,
        ⟨(some 12), .alloc [(.int .u8 0), (.int .u8 0), (.int .u8 0), (.int .u8 0), (.int .u8 0), (.int .u8 0), (.int .u8 0), (.int .i64 0), (.int .i64 0), .nils, (.int .i64 0), (.bool false), (.int .u8 0), (.int .u8 0), (.int .u8 0), (.int .u8 0), (.int .u8 0), (.int .u8 0), (.int .u8 0)], none, []⟩,
        ⟨none, .store 19 (.tmp 12) (.tmp 33), none, [7, 5, 3, 0, 1, 2, 3, 4, 5, 7]⟩,
        ⟨(some 13), .asg (.tmp 34), none, [6, 8, 0, 1, 2, 3, 4, 5, 6, 7, 8]⟩])
      (.seq
       (.reg false [
         ⟨(some 35), .load (some 19) (.tmp 10), none, []⟩,
         ⟨(some 36), .load (some 19) (.tmp 12), none, []⟩,
         ⟨(some 37), .call 21 [(.tmp 35), (.tmp 36)], none, [0, 1]⟩,
         ⟨(some 38), .mov (.tmp 37), none, [2, 2]⟩,
         ⟨(some 39), .mov (.tmp 11), (some (38, true)), [3]⟩,
         ⟨(some 40), .mov (.tmp 13), (some (38, true)), [3]⟩,
         ⟨(some 41), .bin .eql (.tmp 39) (.tmp 40), (some (38, true)), [4, 5, 3]⟩,
         ⟨(some 42), .pick (.tmp 38) (.tmp 41) (.val (.bool false)), none, [3, 6]⟩,
         ⟨(some 14), .asg (.tmp 42), none, [7, 3, 0, 1, 2, 3, 4, 5, 6, 7]⟩])
       (.seq
        (.seq
         (.reg false [
           ⟨(some 43), .fadr 9 (.tmp 10), none, []⟩,
           ⟨(some 44), .load none (.tmp 43), none, [0]⟩,
           ⟨(some 45), .len false (.tmp 44), none, [1]⟩,
           ⟨(some 46), .mov (.val (.int .i64 0)), none, []⟩])
         (.block 0
          (.loop [] lp9x1)))
        (.seq
         (.reg true [
           ⟨(some 70), .mov (.tmp 14), none, []⟩,
           ⟨(some 71), .mov (.tmp 70), none, [0]⟩,
           ⟨(some 72), .fadr 8 (.tmp 9), (some (71, true)), [1]⟩,
           ⟨(some 73), .load none (.tmp 72), (some (71, true)), [2, 1]⟩,
           ⟨(some 74), .fadr 8 (.tmp 4), (some (71, true)), [1]⟩,
           ⟨(some 75), .load none (.tmp 74), (some (71, true)), [4, 1]⟩,
           ⟨(some 76), .call 15 [(.tmp 73), (.tmp 75)], (some (71, true)), [3, 5, 1, 1]⟩,
           ⟨(some 77), .pick (.tmp 71) (.tmp 76) (.val (.bool false)), none, [1, 6]⟩,
           ⟨(some 78), .mov (.tmp 77), none, [7, 6]⟩,
           ⟨(some 79), .load (some 10) (.tmp 5), (some (78, true)), [8]⟩,
           ⟨(some 80), .mov (.tmp 3), (some (78, true)), [8]⟩,
           ⟨(some 81), .call 17 [(.tmp 79), (.tmp 80)], (some (78, true)), [9, 10, 8, 8]⟩,
           ⟨(some 82), .load (some 10) (.tmp 5), (some (78, true)), [8]⟩,
           ⟨(some 83), .mov (.tmp 3), (some (78, true)), [8]⟩,
           ⟨(some 84), .call 22 [(.tmp 82), (.tmp 83)], (some (78, true)), [12, 13, 11, 8]⟩,
           ⟨(some 85), .eq (.flat [0, 0, 0, 0, 0, 0, 0, 0, 0, 0]) false (.tmp 81) (.tmp 84), (some (78, true)), [11, 14, 8]⟩,
           ⟨(some 86), .pick (.tmp 78) (.tmp 85) (.val (.bool false)), none, [8, 15]⟩,
           ⟨(some 8), .asg (.tmp 86), none, [16, 14, 0, 1, 2, 3, 4, 5, 6, 7, 8, 9, 10, 11, 12, 13, 14, 15, 16]⟩])
         .ret)))))))),
 [.tmp 8]⟩
theorem ok9 : FdOk Try.prog 9 fd9 := FdOk.of (by kernel_rfl)
abbrev T9 : List Nat := [85, 3, 77, 76, 74, 4, 72, 9, 70, 14, 69, 68, 64, 62, 16, 61, 59, 58, 55, 52, 50, 15, 49, 46, 43, 10, 41, 13, 11, 37, 32, 25, 2]
theorem hT9 : fd9.body.T = T9 := by kernel_rfl

/-- waymark/waymarklaw10.awake -/
def fd10 : Fd := ⟨22,
 (.seq
  (.reg false [
    ⟨(some 0), .asg (.val (.bool false)), none, []⟩])
  (.seq
   (.reg false [
     ⟨(some 4), .build [(.int .u8 0), (.int .u8 0), (.int .u8 0), (.int .u8 0), (.int .u8 0), (.int .u8 0)] [(0, 1, (.val (.int .u8 1)))], none, []⟩,
     ⟨(some 5), .build [(.int .u8 0), (.int .u8 0), (.int .u8 0), (.int .u8 0), (.int .u8 0), (.int .u8 0), (.int .u8 0), (.int .i64 0), .nils] [(0, 6, (.tmp 4)), (7, 1, (.val (.int .i64 2)))], none, [0]⟩,
     ⟨(some 1), .alloc [(.int .u8 0), (.int .u8 0), (.int .u8 0), (.int .u8 0), (.int .u8 0), (.int .u8 0), (.int .u8 0), (.int .i64 0), .nils], none, []⟩,
     ⟨none, .store 9 (.tmp 1) (.tmp 5), none, [2, 1, 0, 1, 2]⟩])
   (.seq
    (.reg false [
      ⟨(some 7), .load (some 9) (.tmp 1), none, []⟩,
      ⟨(some 8), .build [(.int .i64 0), (.int .u8 0), (.int .u8 0), (.int .u8 0), (.int .u8 0), (.int .u8 0), (.int .u8 0), (.int .u8 0), (.int .i64 0), (.int .i64 0)] [(0, 1, (.val (.int .i64 2)))], none, []⟩,
      ⟨(some 9), .build [(.int .u8 0), (.int .u8 0), (.int .u8 0), (.int .u8 0), (.int .u8 0), (.int .u8 0)] [(0, 1, (.val (.int .u8 2)))], none, []⟩,
      ⟨(some 10), .build [(.int .u8 0), (.int .u8 0), (.int .u8 0), (.int .u8 0), (.int .u8 0), (.int .u8 0), (.int .u8 0), (.int .i64 0), (.int .i64 0), .nils, (.int .i64 0), (.bool false), (.int .u8 0), (.int .u8 0), (.int .u8 0), (.int .u8 0), (.int .u8 0), (.int .u8 0), (.int .u8 0)] [(0, 6, (.tmp 9)), (7, 1, (.val (.int .i64 2))), (8, 1, (.val (.int .i64 10))), (10, 1, (.val (.int .i64 2)))], none, [2]⟩,
      ⟨(some 11), .call 13 [(.tmp 7), (.tmp 8), (.tmp 10), (.val (.int .i64 5))], none, [0, 1, 3]⟩,
      ⟨(some 6), .mov (.tmp 11), none, [4]⟩,
      ⟨(some 12), .ext 0 (.tmp 6), none, [5]⟩,
      ⟨(some 13), .ext 1 (.tmp 6), none, [5]⟩,
      ⟨(some 2), .alloc [(.int .i64 0), (.int .u8 0), (.int .u8 0), (.int .u8 0), (.int .u8 0), (.int .u8 0), (.int .u8 0), (.int .u8 0), (.int .i64 0), (.int .i64 0)], none, []⟩,
      ⟨none, .store 10 (.tmp 2) (.tmp 12), none, [8, 6, 4, 0, 1, 2, 3, 4, 5, 6, 8]⟩,
      ⟨(some 3), .asg (.tmp 13), none, [7, 9, 0, 1, 2, 3, 4, 5, 6, 7, 8, 9]⟩])
    (.seq
     (.reg false [
       ⟨(some 14), .mov (.tmp 3), none, []⟩,
       ⟨(some 15), .bin .eql (.tmp 14) (.val (.int .i64 0)), none, [0]⟩,
       ⟨(some 16), .mov (.tmp 15), none, [1]⟩,
       ⟨(some 17), .load (some 10) (.tmp 2), (some (16, true)), [2]⟩,
       ⟨(some 18), .build [(.int .u8 0), (.int .u8 0), (.int .u8 0), (.int .u8 0), (.int .u8 0), (.int .u8 0)] [(0, 1, (.val (.int .u8 2)))], (some (16, true)), [2]⟩,
       ⟨(some 19), .build [(.int .i64 0), (.int .u8 0), (.int .u8 0), (.int .u8 0), (.int .u8 0), (.int .u8 0), (.int .u8 0), (.int .u8 0), (.int .i64 0), (.int .i64 0)] [(0, 1, (.val (.int .i64 1))), (1, 6, (.tmp 18)), (8, 1, (.val (.int .i64 2))), (9, 1, (.val (.int .i64 15)))], (some (16, true)), [4, 2]⟩,
       ⟨(some 20), .eq (.flat [0, 0, 0, 0, 0, 0, 0, 0, 0, 0]) false (.tmp 17) (.tmp 19), (some (16, true)), [3, 5, 2]⟩,
       ⟨(some 21), .pick (.tmp 16) (.tmp 20) (.val (.bool false)), none, [2, 6]⟩,
       ⟨(some 0), .asg (.tmp 21), none, [7, 2, 0, 1, 2, 3, 4, 5, 6, 7]⟩])
     .ret)))),
 [.tmp 0]⟩
theorem ok10 : FdOk Try.prog 10 fd10 := FdOk.of (by kernel_rfl)
abbrev T10 : List Nat := [20, 15, 3, 11]
theorem hT10 : fd10.body.T = T10 := by kernel_rfl

/-- waymark/waymarklaw10.local -/
def fd11 : Fd := ⟨10,
 (.seq
  (.reg false [
    ⟨(some 1), .box (.tmp 0), none, []⟩,
    ⟨(some 2), .alloc [(.int .u8 0), (.int .u8 0), (.int .u8 0), (.int .u8 0), (.int .u8 0), (.int .u8 0), (.int .u8 0), (.int .i64 0), .nils], none, []⟩])
  (.seq
   (.reg false [
     ⟨(some 4), .load (some 9) (.tmp 1), none, []⟩,
     ⟨(some 3), .alloc [(.int .u8 0), (.int .u8 0), (.int .u8 0), (.int .u8 0), (.int .u8 0), (.int .u8 0), (.int .u8 0), (.int .i64 0), .nils], none, []⟩,
     ⟨none, .store 9 (.tmp 3) (.tmp 4), none, [1, 0, 0, 1]⟩])
   (.seq
    (.reg false [
      ⟨(some 5), .fadr 8 (.tmp 1), none, []⟩,
      ⟨(some 6), .load none (.tmp 5), none, [0]⟩,
      ⟨(some 7), .call 23 [(.tmp 6)], none, [1]⟩,
      ⟨(some 8), .fadr 8 (.tmp 3), none, [0, 1, 2]⟩,
      ⟨none, .store 1 (.tmp 8) (.tmp 7), none, [3, 2, 2, 0, 1, 2]⟩])
    (.seq
     (.reg false [
       ⟨(some 9), .load (some 9) (.tmp 3), none, []⟩,
       ⟨none, .store 9 (.tmp 2) (.tmp 9), none, [0, 0]⟩])
     .ret)))),
 [.cell 2 (some 9)]⟩
theorem ok11 : FdOk Try.prog 11 fd11 := FdOk.of (by kernel_rfl)
abbrev T11 : List Nat := [3, 5, 1]
theorem hT11 : fd11.body.T = T11 := by kernel_rfl

/-- waymark/waymarklaw10.hello -/
def fd12 : Fd := ⟨10,
 (.seq
  (.reg false [
    ⟨(some 1), .box (.tmp 0), none, []⟩,
    ⟨(some 2), .alloc [(.int .u8 0), (.int .u8 0), (.int .u8 0), (.int .u8 0), (.int .u8 0), (.int .u8 0), (.int .u8 0), (.int .i64 0), (.int .i64 0), .nils, (.int .i64 0), (.bool false), (.int .u8 0), (.int .u8 0), (.int .u8 0), (.int .u8 0), (.int .u8 0), (.int .u8 0), (.int .u8 0)], none, []⟩])
  (.seq
   (.reg false [
     ⟨(some 4), .load (some 19) (.tmp 1), none, []⟩,
     ⟨(some 3), .alloc [(.int .u8 0), (.int .u8 0), (.int .u8 0), (.int .u8 0), (.int .u8 0), (.int .u8 0), (.int .u8 0), (.int .i64 0), (.int .i64 0), .nils, (.int .i64 0), (.bool false), (.int .u8 0), (.int .u8 0), (.int .u8 0), (.int .u8 0), (.int .u8 0), (.int .u8 0), (.int .u8 0)], none, []⟩,
     ⟨none, .store 19 (.tmp 3) (.tmp 4), none, [1, 0, 0, 1]⟩])
   (.seq
    (.reg false [
      ⟨(some 5), .fadr 9 (.tmp 1), none, []⟩,
      ⟨(some 6), .load none (.tmp 5), none, [0]⟩,
      ⟨(some 7), .call 23 [(.tmp 6)], none, [1]⟩,
      ⟨(some 8), .fadr 9 (.tmp 3), none, [0, 1, 2]⟩,
      ⟨none, .store 1 (.tmp 8) (.tmp 7), none, [3, 2, 2, 0, 1, 2]⟩])
    (.seq
     (.reg false [
       ⟨(some 9), .load (some 19) (.tmp 3), none, []⟩,
       ⟨none, .store 19 (.tmp 2) (.tmp 9), none, [0, 0]⟩])
     .ret)))),
 [.cell 2 (some 19)]⟩
theorem ok12 : FdOk Try.prog 12 fd12 := FdOk.of (by kernel_rfl)
abbrev T12 : List Nat := [3, 5, 1]
theorem hT12 : fd12.body.T = T12 := by kernel_rfl

def sg13x29x11 : Cd :=
 (.seq
  (.reg false [
    ⟨(some 29), .fadr 8 (.tmp 4), none, []⟩,
    ⟨(some 30), .load none (.tmp 29), none, [0]⟩,
    ⟨(some 31), .fadr 9 (.tmp 6), none, []⟩,
    ⟨(some 32), .load none (.tmp 31), none, [2]⟩,
    ⟨(some 33), .call 25 [(.tmp 30), (.tmp 32)], none, [1, 3]⟩,
    ⟨(some 34), .un .not (.tmp 33), none, [4]⟩])
  (.cond (.tmp 34)
   (.reg false [
     ⟨(some 35), .mov (.tmp 11), none, []⟩,
     ⟨(some 36), .bin .andNot (.tmp 35) (.val (.int .i64 1)), none, [0]⟩,
     ⟨(some 11), .asg (.tmp 36), none, [1, 0, 1]⟩])
   .skip))
def sg13x42x41 : Cd :=
 (.reg false [
   ⟨(some 42), .fadr 11 (.tmp 6), none, []⟩,
   ⟨(some 43), .load none (.tmp 42), none, [0]⟩,
   ⟨(some 44), .mov (.tmp 43), none, [1]⟩,
   ⟨(some 45), .fadr 12 (.tmp 6), (some (44, true)), [2]⟩,
   ⟨(some 46), .load (some 6) (.tmp 45), (some (44, true)), [3, 2]⟩,
   ⟨(some 47), .fadr 0 (.tmp 4), (some (44, true)), [2]⟩,
   ⟨(some 48), .load (some 6) (.tmp 47), (some (44, true)), [5, 2]⟩,
   ⟨(some 49), .eq (.flat [0, 0, 0, 0, 0, 0]) true (.tmp 46) (.tmp 48), (some (44, true)), [4, 6, 2]⟩,
   ⟨(some 50), .mov (.tmp 49), (some (44, true)), [7, 2, 2]⟩,
   ⟨(some 51), .fadr 18 (.tmp 6), (some (50, false)), [8]⟩,
   ⟨(some 52), .load none (.tmp 51), (some (50, false)), [9, 8]⟩,
   ⟨(some 53), .fadr 6 (.tmp 4), (some (50, false)), [8]⟩,
   ⟨(some 54), .load none (.tmp 53), (some (50, false)), [11, 8]⟩,
   ⟨(some 55), .bin .neq (.tmp 52) (.tmp 54), (some (50, false)), [10, 12, 8]⟩,
   ⟨(some 56), .pick (.tmp 50) (.val (.bool true)) (.tmp 55), (some (44, true)), [8, 13, 2]⟩,
   ⟨(some 57), .pick (.tmp 44) (.tmp 56) (.val (.bool false)), none, [2, 14]⟩,
   ⟨(some 41), .asg (.tmp 57), none, [15, 8]⟩])
def sg13x63x12 : Cd :=
 (.seq
  (.reg false [
    ⟨(some 63), .fadr 1 (.tmp 5), none, []⟩,
    ⟨(some 64), .load (some 6) (.tmp 63), none, [0]⟩,
    ⟨(some 65), .fadr 0 (.tmp 6), none, []⟩,
    ⟨(some 66), .load (some 6) (.tmp 65), none, [2]⟩,
    ⟨(some 67), .eq (.flat [0, 0, 0, 0, 0, 0]) true (.tmp 64) (.tmp 66), none, [1, 3]⟩,
    ⟨(some 68), .mov (.tmp 67), none, [4]⟩,
    ⟨(some 69), .fadr 7 (.tmp 5), (some (68, false)), [5]⟩,
    ⟨(some 70), .load none (.tmp 69), (some (68, false)), [6, 5]⟩,
    ⟨(some 71), .fadr 6 (.tmp 6), (some (68, false)), [5]⟩,
    ⟨(some 72), .load none (.tmp 71), (some (68, false)), [8, 5]⟩,
    ⟨(some 73), .bin .neq (.tmp 70) (.tmp 72), (some (68, false)), [7, 9, 5]⟩,
    ⟨(some 74), .pick (.tmp 68) (.val (.bool true)) (.tmp 73), none, [5, 10]⟩,
    ⟨(some 75), .mov (.tmp 74), none, [11, 5]⟩,
    ⟨(some 76), .fadr 8 (.tmp 5), (some (75, false)), [12]⟩,
    ⟨(some 77), .load none (.tmp 76), (some (75, false)), [13, 12]⟩,
    ⟨(some 78), .mov (.tmp 11), (some (75, false)), [12]⟩,
    ⟨(some 79), .bin .neq (.tmp 77) (.tmp 78), (some (75, false)), [14, 15, 12]⟩,
    ⟨(some 80), .pick (.tmp 75) (.val (.bool true)) (.tmp 79), none, [12, 16]⟩])
  (.cond (.tmp 80)
   (.reg false [
     ⟨(some 12), .asg (.val (.int .i64 2)), none, []⟩])
   .skip))
def sg13x81x13 : Cd :=
 (.seq
  (.reg false [
    ⟨(some 81), .fadr 11 (.tmp 6), none, []⟩,
    ⟨(some 82), .load none (.tmp 81), none, [0]⟩,
    ⟨(some 83), .un .not (.tmp 82), none, [1]⟩])
  (.cond (.tmp 83)
   (.reg false [
     ⟨(some 13), .asg (.val (.int .i64 2)), none, []⟩])
   .skip))
/-- waymark/adj.Step -/
def fd13 : Fd := ⟨101,
 (.seq
  (.reg false [
    ⟨(some 4), .box (.tmp 0), none, []⟩,
    ⟨(some 5), .box (.tmp 1), none, []⟩,
    ⟨(some 6), .box (.tmp 2), none, []⟩,
    ⟨(some 8), .alloc [(.int .i64 0), (.int .u8 0), (.int .u8 0), (.int .u8 0), (.int .u8 0), (.int .u8 0), (.int .u8 0), (.int .u8 0), (.int .i64 0), (.int .i64 0)], none, []⟩,
    ⟨(some 9), .asg (.val (.int .i64 0)), none, []⟩])
  (.seq
   (.seq
    (.reg false [
      ⟨(some 15), .load (some 9) (.tmp 4), none, []⟩,
      ⟨(some 16), .load (some 10) (.tmp 5), none, []⟩,
      ⟨(some 17), .load (some 19) (.tmp 6), none, []⟩,
      ⟨(some 18), .mov (.tmp 3), none, []⟩,
      ⟨(some 19), .call 24 [(.tmp 15), (.tmp 16), (.tmp 17), (.tmp 18)], none, [0, 1, 2, 3]⟩,
      ⟨(some 10), .asg (.tmp 19), none, [4, 4, 0, 1, 2, 3, 4]⟩])
    (.seq
     (.reg false [
       ⟨(some 20), .mov (.tmp 10), none, []⟩,
       ⟨(some 21), .bin .neq (.tmp 20) (.val (.int .i64 0)), none, [0]⟩])
     (.cond (.tmp 21)
      (.seq
       (.reg false [
         ⟨(some 22), .load (some 10) (.tmp 5), none, []⟩,
         ⟨(some 23), .mov (.tmp 10), none, []⟩,
         ⟨none, .store 10 (.tmp 8) (.tmp 22), none, [0, 0]⟩,
         ⟨(some 9), .asg (.tmp 23), none, [1, 2, 0, 1, 2]⟩])
       .ret)
      .skip)))
   (.seq
    (.reg false [
      ⟨(some 24), .fadr 7 (.tmp 4), none, []⟩,
      ⟨(some 25), .load none (.tmp 24), none, [0]⟩,
      ⟨(some 26), .fadr 7 (.tmp 6), none, []⟩,
      ⟨(some 27), .load none (.tmp 26), none, [2]⟩,
      ⟨(some 28), .bin .and (.tmp 25) (.tmp 27), none, [1, 3]⟩,
      ⟨(some 11), .asg (.tmp 28), none, [4, 0, 1, 2, 3, 4]⟩])
    (.seq
     sg13x29x11
     (.seq
      (.block 0
       (.seq
        (.reg false [
          ⟨(some 38), .mov (.tmp 11), none, []⟩,
          ⟨(some 39), .bin .eql (.tmp 38) (.val (.int .i64 0)), none, [0]⟩,
          ⟨(some 37), .asg (.tmp 39), none, [1]⟩])
        (.cond (.tmp 37)
         (.seq
          (.reg false [
            ⟨(some 40), .call 26 [], none, []⟩,
            ⟨none, .store 10 (.tmp 8) (.tmp 40), none, [0, 0, 0]⟩,
            ⟨(some 9), .asg (.val (.int .i64 12)), none, [1, 0, 1]⟩])
          .ret)
         (.seq
          sg13x42x41
          (.cond (.tmp 41)
           (.seq
            (.reg false [
              ⟨(some 58), .load (some 10) (.tmp 5), none, []⟩,
              ⟨none, .store 10 (.tmp 8) (.tmp 58), none, [0, 0]⟩,
              ⟨(some 9), .asg (.val (.int .i64 0)), none, [1, 0, 1]⟩])
            .ret)
           .skip)))))
      (.seq
       (.reg true [
         ⟨(some 59), .fadr 0 (.tmp 5), none, []⟩,
         ⟨(some 60), .load none (.tmp 59), none, [0]⟩,
         ⟨(some 61), .fadr 10 (.tmp 6), none, []⟩,
         ⟨(some 62), .load none (.tmp 61), none, [2]⟩,
         ⟨(some 12), .asg (.tmp 60), none, [1, 0, 1]⟩,
         ⟨(some 13), .asg (.tmp 62), none, [3, 4, 0, 1, 2, 3, 4]⟩])
       (.seq
        sg13x63x12
        (.seq
         sg13x81x13
         (.seq
          (.reg false [
            ⟨(some 84), .mov (.tmp 12), none, []⟩,
            ⟨(some 85), .mov (.tmp 13), none, []⟩,
            ⟨(some 86), .call 27 [(.tmp 84), (.tmp 85)], none, [0, 1]⟩,
            ⟨(some 14), .asg (.tmp 86), none, [2, 2, 0, 1, 2]⟩])
          (.seq
           (.seq
            (.reg false [
              ⟨(some 87), .mov (.tmp 14), none, []⟩,
              ⟨(some 88), .bin .eql (.tmp 87) (.val (.int .i64 2)), none, [0]⟩])
            (.cond (.tmp 88)
             (.seq
              (.reg false [
                ⟨(some 89), .call 26 [], none, []⟩,
                ⟨none, .store 10 (.tmp 8) (.tmp 89), none, [0, 0, 0]⟩,
                ⟨(some 9), .asg (.val (.int .i64 0)), none, [1, 0, 1]⟩])
              .ret)
             .skip))
           (.seq
            (.reg false [
              ⟨(some 90), .mov (.tmp 14), none, []⟩,
              ⟨(some 91), .fadr 0 (.tmp 6), none, []⟩,
              ⟨(some 92), .load (some 6) (.tmp 91), none, [1]⟩,
              ⟨(some 93), .fadr 6 (.tmp 6), none, []⟩,
              ⟨(some 94), .load none (.tmp 93), none, [3]⟩,
              ⟨(some 95), .mov (.tmp 11), none, []⟩,
              ⟨(some 96), .mov (.tmp 3), none, []⟩,
              ⟨(some 97), .fadr 8 (.tmp 6), none, []⟩,
              ⟨(some 98), .load none (.tmp 97), none, [7]⟩,
              ⟨(some 99), .bin .add (.tmp 96) (.tmp 98), none, [6, 8]⟩,
              ⟨(some 100), .build [(.int .i64 0), (.int .u8 0), (.int .u8 0), (.int .u8 0), (.int .u8 0), (.int .u8 0), (.int .u8 0), (.int .u8 0), (.int .i64 0), (.int .i64 0)] [(0, 1, (.tmp 90)), (1, 6, (.tmp 92)), (7, 1, (.tmp 94)), (8, 1, (.tmp 95)), (9, 1, (.tmp 99))], none, [0, 2, 4, 5, 9]⟩,
              ⟨none, .store 10 (.tmp 8) (.tmp 100), none, [10, 0, 1, 2, 3, 4, 5, 6, 7, 8, 9, 10]⟩,
              ⟨(some 9), .asg (.val (.int .i64 0)), none, [11, 0, 1, 2, 3, 4, 5, 6, 7, 8, 9, 10, 11]⟩])
            .ret))))))))))),
 [.cell 8 (some 10), .tmp 9]⟩
theorem ok13 : FdOk Try.prog 13 fd13 := FdOk.of (by kernel_rfl)
abbrev T13 : List Nat := [97, 93, 14, 13, 12, 81, 79, 76, 74, 73, 71, 69, 67, 61, 59, 5, 56, 55, 53, 51, 49, 43, 42, 11, 31, 29, 26, 6, 24, 4, 10, 3]
theorem hT13 : fd13.body.T = T13 := by kernel_rfl

def sg14x15x50 : Cd :=
 (.reg false [
   ⟨(some 15), .fadr 7 (.tmp 4), none, []⟩,
   ⟨(some 16), .load none (.tmp 15), none, [0]⟩,
   ⟨(some 17), .call 28 [(.tmp 16), (.val (.int .i64 1)), (.val (.int .i64 3))], none, [1]⟩,
   ⟨(some 18), .un .not (.tmp 17), none, [2]⟩,
   ⟨(some 19), .mov (.tmp 18), none, [3, 2]⟩,
   ⟨(some 20), .fadr 7 (.tmp 6), (some (19, false)), [4]⟩,
   ⟨(some 21), .load none (.tmp 20), (some (19, false)), [5, 4]⟩,
   ⟨(some 22), .call 28 [(.tmp 21), (.val (.int .i64 1)), (.val (.int .i64 3))], (some (19, false)), [6, 4, 4]⟩,
   ⟨(some 23), .un .not (.tmp 22), (some (19, false)), [7, 4]⟩,
   ⟨(some 24), .pick (.tmp 19) (.val (.bool true)) (.tmp 23), none, [4, 8]⟩,
   ⟨(some 25), .mov (.tmp 24), none, [9, 7]⟩,
   ⟨(some 26), .fadr 0 (.tmp 5), (some (25, false)), [10]⟩,
   ⟨(some 27), .load none (.tmp 26), (some (25, false)), [11, 10]⟩,
   ⟨(some 28), .call 28 [(.tmp 27), (.val (.int .i64 0)), (.val (.int .i64 2))], (some (25, false)), [12, 10, 10]⟩,
   ⟨(some 29), .un .not (.tmp 28), (some (25, false)), [13, 10]⟩,
   ⟨(some 30), .pick (.tmp 25) (.val (.bool true)) (.tmp 29), none, [10, 14]⟩,
   ⟨(some 31), .mov (.tmp 30), none, [15, 13]⟩,
   ⟨(some 32), .fadr 10 (.tmp 6), (some (31, false)), [16]⟩,
   ⟨(some 33), .load none (.tmp 32), (some (31, false)), [17, 16]⟩,
   ⟨(some 34), .call 28 [(.tmp 33), (.val (.int .i64 0)), (.val (.int .i64 2))], (some (31, false)), [18, 16, 16]⟩,
   ⟨(some 35), .un .not (.tmp 34), (some (31, false)), [19, 16]⟩,
   ⟨(some 36), .pick (.tmp 31) (.val (.bool true)) (.tmp 35), none, [16, 20]⟩,
   ⟨(some 37), .mov (.tmp 36), none, [21, 19]⟩,
   ⟨(some 38), .fadr 8 (.tmp 6), (some (37, false)), [22]⟩,
   ⟨(some 39), .load none (.tmp 38), (some (37, false)), [23, 22]⟩,
   ⟨(some 40), .call 28 [(.tmp 39), (.val (.int .i64 1)), (.val (.int .i64 65535))], (some (37, false)), [24, 22, 22]⟩,
   ⟨(some 41), .un .not (.tmp 40), (some (37, false)), [25, 22]⟩,
   ⟨(some 42), .pick (.tmp 37) (.val (.bool true)) (.tmp 41), none, [22, 26]⟩,
   ⟨(some 43), .mov (.tmp 42), none, [27, 25]⟩,
   ⟨(some 44), .mov (.tmp 3), (some (43, false)), [28]⟩,
   ⟨(some 45), .bin .lss (.tmp 44) (.val (.int .i64 0)), (some (43, false)), [29, 28]⟩,
   ⟨(some 46), .pick (.tmp 43) (.val (.bool true)) (.tmp 45), none, [28, 30]⟩,
   ⟨(some 47), .mov (.tmp 46), none, [31, 28]⟩,
   ⟨(some 48), .mov (.tmp 3), (some (47, false)), [32]⟩,
   ⟨(some 49), .bin .gtr (.tmp 48) (.val (.int .i64 4611686018427387904)), (some (47, false)), [33, 32]⟩,
   ⟨(some 50), .pick (.tmp 47) (.val (.bool true)) (.tmp 49), none, [32, 34]⟩])
def sg14x52x61 : Cd :=
 (.reg false [
   ⟨(some 52), .fadr 8 (.tmp 4), none, []⟩,
   ⟨(some 53), .load none (.tmp 52), none, [0]⟩,
   ⟨(some 54), .len false (.tmp 53), none, [1]⟩,
   ⟨(some 55), .bin .gtr (.tmp 54) (.val (.int .i64 3)), none, [2]⟩,
   ⟨(some 56), .mov (.tmp 55), none, [3]⟩,
   ⟨(some 57), .fadr 9 (.tmp 6), (some (56, false)), [4]⟩,
   ⟨(some 58), .load none (.tmp 57), (some (56, false)), [5, 4]⟩,
   ⟨(some 59), .len false (.tmp 58), (some (56, false)), [6, 4]⟩,
   ⟨(some 60), .bin .gtr (.tmp 59) (.val (.int .i64 3)), (some (56, false)), [7, 4]⟩,
   ⟨(some 61), .pick (.tmp 56) (.val (.bool true)) (.tmp 60), none, [4, 8]⟩])
def sg14x82x98 : Cd :=
 (.reg false [
   ⟨(some 82), .fadr 11 (.tmp 6), none, []⟩,
   ⟨(some 83), .load none (.tmp 82), none, [0]⟩,
   ⟨(some 84), .mov (.tmp 83), none, [1]⟩,
   ⟨(some 85), .fadr 12 (.tmp 6), (some (84, true)), [2]⟩,
   ⟨(some 86), .load (some 6) (.tmp 85), (some (84, true)), [3, 2]⟩,
   ⟨(some 87), .fadr 0 (.tmp 4), (some (84, true)), [2]⟩,
   ⟨(some 88), .load (some 6) (.tmp 87), (some (84, true)), [5, 2]⟩,
   ⟨(some 89), .eq (.flat [0, 0, 0, 0, 0, 0]) false (.tmp 86) (.tmp 88), (some (84, true)), [4, 6, 2]⟩,
   ⟨(some 90), .mov (.tmp 89), (some (84, true)), [7, 2, 2]⟩,
   ⟨(some 91), .fadr 18 (.tmp 6), (some (90, true)), [8]⟩,
   ⟨(some 92), .load none (.tmp 91), (some (90, true)), [9, 8]⟩,
   ⟨(some 93), .fadr 6 (.tmp 4), (some (90, true)), [8]⟩,
   ⟨(some 94), .load none (.tmp 93), (some (90, true)), [11, 8]⟩,
   ⟨(some 95), .bin .eql (.tmp 92) (.tmp 94), (some (90, true)), [10, 12, 8]⟩,
   ⟨(some 96), .pick (.tmp 90) (.tmp 95) (.val (.bool false)), (some (84, true)), [8, 13, 2]⟩,
   ⟨(some 97), .un .not (.tmp 96), (some (84, true)), [14, 2]⟩,
   ⟨(some 98), .pick (.tmp 84) (.tmp 97) (.val (.bool false)), none, [2, 15]⟩])
def sg14x102x11 : Cd :=
 (.seq
  (.reg false [
    ⟨(some 102), .mov (.tmp 11), none, []⟩,
    ⟨(some 103), .bin .neq (.tmp 102) (.val (.int .i64 2)), none, [0]⟩,
    ⟨(some 104), .mov (.tmp 103), none, [1]⟩,
    ⟨(some 105), .fadr 1 (.tmp 5), (some (104, true)), [2]⟩,
    ⟨(some 106), .load (some 6) (.tmp 105), (some (104, true)), [3, 2]⟩,
    ⟨(some 107), .fadr 0 (.tmp 6), (some (104, true)), [2]⟩,
    ⟨(some 108), .load (some 6) (.tmp 107), (some (104, true)), [5, 2]⟩,
    ⟨(some 109), .eq (.flat [0, 0, 0, 0, 0, 0]) false (.tmp 106) (.tmp 108), (some (104, true)), [4, 6, 2]⟩,
    ⟨(some 110), .mov (.tmp 109), (some (104, true)), [7, 2, 2]⟩,
    ⟨(some 111), .fadr 7 (.tmp 5), (some (110, true)), [8]⟩,
    ⟨(some 112), .load none (.tmp 111), (some (110, true)), [9, 8]⟩,
    ⟨(some 113), .fadr 6 (.tmp 6), (some (110, true)), [8]⟩,
    ⟨(some 114), .load none (.tmp 113), (some (110, true)), [11, 8]⟩,
    ⟨(some 115), .bin .eql (.tmp 112) (.tmp 114), (some (110, true)), [10, 12, 8]⟩,
    ⟨(some 116), .pick (.tmp 110) (.tmp 115) (.val (.bool false)), (some (104, true)), [8, 13, 2]⟩,
    ⟨(some 117), .mov (.tmp 116), (some (104, true)), [14, 8, 2]⟩,
    ⟨(some 118), .fadr 8 (.tmp 5), (some (117, true)), [15]⟩,
    ⟨(some 119), .load none (.tmp 118), (some (117, true)), [16, 15]⟩,
    ⟨(some 120), .mov (.tmp 10), (some (117, true)), [15]⟩,
    ⟨(some 121), .bin .eql (.tmp 119) (.tmp 120), (some (117, true)), [17, 18, 15]⟩,
    ⟨(some 122), .pick (.tmp 117) (.tmp 121) (.val (.bool false)), (some (104, true)), [15, 19, 2]⟩,
    ⟨(some 123), .un .not (.tmp 122), (some (104, true)), [20, 2]⟩,
    ⟨(some 124), .pick (.tmp 104) (.tmp 123) (.val (.bool false)), none, [2, 21]⟩])
  (.cond (.tmp 124)
   (.reg false [
     ⟨(some 11), .asg (.val (.int .i64 2)), none, []⟩])
   .skip))
def sg14x127x12 : Cd :=
 (.seq
  (.reg false [
    ⟨(some 127), .fadr 11 (.tmp 6), none, []⟩,
    ⟨(some 128), .load none (.tmp 127), none, [0]⟩,
    ⟨(some 129), .un .not (.tmp 128), none, [1]⟩])
  (.cond (.tmp 129)
   (.reg false [
     ⟨(some 12), .asg (.val (.int .i64 2)), none, []⟩])
   .skip))
/-- waymark/waymarkref10.DocStep -/
def fd14 : Fd := ⟨153,
 (.seq
  (.reg false [
    ⟨(some 4), .box (.tmp 0), none, []⟩,
    ⟨(some 5), .box (.tmp 1), none, []⟩,
    ⟨(some 6), .box (.tmp 2), none, []⟩,
    ⟨(some 8), .alloc [(.int .i64 0), (.int .u8 0), (.int .u8 0), (.int .u8 0), (.int .u8 0), (.int .u8 0), (.int .u8 0), (.int .u8 0), (.int .i64 0), (.int .i64 0)], none, []⟩,
    ⟨(some 9), .asg (.val (.int .i64 0)), none, []⟩])
  (.seq
   (.seq
    sg14x15x50
    (.cond (.tmp 50)
     (.seq
      (.reg false [
        ⟨(some 51), .load (some 10) (.tmp 5), none, []⟩,
        ⟨none, .store 10 (.tmp 8) (.tmp 51), none, [0, 0]⟩,
        ⟨(some 9), .asg (.val (.int .i64 1)), none, [1, 0, 1]⟩])
      .ret)
     .skip))
   (.seq
    (.seq
     sg14x52x61
     (.cond (.tmp 61)
      (.seq
       (.reg false [
         ⟨(some 62), .load (some 10) (.tmp 5), none, []⟩,
         ⟨none, .store 10 (.tmp 8) (.tmp 62), none, [0, 0]⟩,
         ⟨(some 9), .asg (.val (.int .i64 2)), none, [1, 0, 1]⟩])
       .ret)
      .skip))
    (.seq
     (.seq
      (.reg false [
        ⟨(some 63), .fadr 0 (.tmp 4), none, []⟩,
        ⟨(some 64), .load (some 6) (.tmp 63), none, [0]⟩,
        ⟨(some 65), .fadr 0 (.tmp 6), none, []⟩,
        ⟨(some 66), .load (some 6) (.tmp 65), none, [2]⟩,
        ⟨(some 67), .eq (.flat [0, 0, 0, 0, 0, 0]) false (.tmp 64) (.tmp 66), none, [1, 3]⟩])
      (.cond (.tmp 67)
       (.seq
        (.reg false [
          ⟨(some 68), .load (some 10) (.tmp 5), none, []⟩,
          ⟨none, .store 10 (.tmp 8) (.tmp 68), none, [0, 0]⟩,
          ⟨(some 9), .asg (.val (.int .i64 7)), none, [1, 0, 1]⟩])
        .ret)
       .skip))
     (.seq
      (.reg true [
        ⟨(some 69), .fadr 7 (.tmp 4), none, []⟩,
        ⟨(some 70), .load none (.tmp 69), none, [0]⟩,
        ⟨(some 71), .fadr 7 (.tmp 6), none, []⟩,
        ⟨(some 72), .load none (.tmp 71), none, [2]⟩,
        ⟨(some 73), .fadr 8 (.tmp 4), none, []⟩,
        ⟨(some 74), .load none (.tmp 73), none, [4]⟩,
        ⟨(some 75), .fadr 9 (.tmp 6), none, []⟩,
        ⟨(some 76), .load none (.tmp 75), none, [6]⟩,
        ⟨(some 77), .call 30 [(.tmp 74), (.tmp 76)], none, [5, 7]⟩,
        ⟨(some 78), .call 29 [(.tmp 70), (.tmp 72), (.tmp 77)], none, [1, 3, 8, 8]⟩,
        ⟨(some 10), .asg (.tmp 78), none, [9, 9, 0, 1, 2, 3, 4, 5, 6, 7, 8, 9]⟩])
      (.seq
       (.seq
        (.reg false [
          ⟨(some 79), .mov (.tmp 10), none, []⟩,
          ⟨(some 80), .bin .eql (.tmp 79) (.val (.int .i64 0)), none, [0]⟩])
        (.cond (.tmp 80)
         (.seq
          (.reg false [
            ⟨(some 81), .build [(.int .i64 0), (.int .u8 0), (.int .u8 0), (.int .u8 0), (.int .u8 0), (.int .u8 0), (.int .u8 0), (.int .u8 0), (.int .i64 0), (.int .i64 0)] [(0, 1, (.val (.int .i64 2)))], none, []⟩,
            ⟨none, .store 10 (.tmp 8) (.tmp 81), none, [0, 0]⟩,
            ⟨(some 9), .asg (.val (.int .i64 12)), none, [1, 0, 1]⟩])
          .ret)
         .skip))
       (.seq
        (.seq
         sg14x82x98
         (.cond (.tmp 98)
          (.seq
           (.reg false [
             ⟨(some 99), .load (some 10) (.tmp 5), none, []⟩,
             ⟨none, .store 10 (.tmp 8) (.tmp 99), none, [0, 0]⟩,
             ⟨(some 9), .asg (.val (.int .i64 0)), none, [1, 0, 1]⟩])
           .ret)
          .skip))
        (.seq
         (.reg false [
           ⟨(some 100), .fadr 0 (.tmp 5), none, []⟩,
           ⟨(some 101), .load none (.tmp 100), none, [0]⟩,
           ⟨(some 11), .asg (.tmp 101), none, [1, 0, 1]⟩])
         (.seq
          sg14x102x11
          (.seq
           (.reg false [
             ⟨(some 125), .fadr 10 (.tmp 6), none, []⟩,
             ⟨(some 126), .load none (.tmp 125), none, [0]⟩,
             ⟨(some 12), .asg (.tmp 126), none, [1, 0, 1]⟩])
           (.seq
            sg14x127x12
            (.seq
             (.reg false [
               ⟨(some 130), .build [(.int .i64 0), (.int .i64 0), (.int .i64 0)] [(0, 1, (.val (.int .i64 0))), (1, 1, (.val (.int .i64 0))), (2, 1, (.val (.int .i64 1)))], none, []⟩,
               ⟨(some 131), .build [(.int .i64 0), (.int .i64 0), (.int .i64 0)] [(0, 1, (.val (.int .i64 0))), (1, 1, (.val (.int .i64 0))), (2, 1, (.val (.int .i64 1)))], none, []⟩,
               ⟨(some 132), .build [(.int .i64 0), (.int .i64 0), (.int .i64 0)] [(0, 1, (.val (.int .i64 2))), (1, 1, (.val (.int .i64 0))), (2, 1, (.val (.int .i64 1)))], none, []⟩,
               ⟨(some 133), .build [(.int .i64 0), (.int .i64 0), (.int .i64 0), (.int .i64 0), (.int .i64 0), (.int .i64 0), (.int .i64 0), (.int .i64 0), (.int .i64 0)] [(0, 3, (.tmp 130)), (3, 3, (.tmp 131)), (6, 3, (.tmp 132))], none, [0, 1, 2]⟩,
               ⟨(some 13), .alloc [(.int .i64 0), (.int .i64 0), (.int .i64 0), (.int .i64 0), (.int .i64 0), (.int .i64 0), (.int .i64 0), (.int .i64 0), (.int .i64 0)], none, []⟩,
               ⟨none, .store 9 (.tmp 13) (.tmp 133), none, [4, 3, 0, 1, 2, 3, 4]⟩])
             (.seq
              (.reg false [
                ⟨(some 134), .mov (.tmp 11), none, []⟩,
                ⟨(some 135), .mov (.tmp 12), none, []⟩,
                ⟨(some 136), .idxP 3 3 (.tmp 13) (.tmp 134), none, [0]⟩,
                ⟨(some 137), .idxP 3 1 (.tmp 136) (.tmp 135), none, [2, 1]⟩,
                ⟨(some 138), .load none (.tmp 137), none, [3]⟩,
                ⟨(some 14), .asg (.tmp 138), none, [4, 0, 1, 2, 3, 4]⟩])
              (.seq
               (.seq
                (.reg false [
                  ⟨(some 139), .mov (.tmp 14), none, []⟩,
                  ⟨(some 140), .bin .eql (.tmp 139) (.val (.int .i64 2)), none, [0]⟩])
                (.cond (.tmp 140)
                 (.seq
                  (.reg false [
                    ⟨(some 141), .build [(.int .i64 0), (.int .u8 0), (.int .u8 0), (.int .u8 0), (.int .u8 0), (.int .u8 0), (.int .u8 0), (.int .u8 0), (.int .i64 0), (.int .i64 0)] [(0, 1, (.val (.int .i64 2)))], none, []⟩,
                    ⟨none, .store 10 (.tmp 8) (.tmp 141), none, [0, 0]⟩,
                    ⟨(some 9), .asg (.val (.int .i64 0)), none, [1, 0, 1]⟩])
                  .ret)
                 .skip))
               (.seq
                (.reg false [
                  ⟨(some 142), .mov (.tmp 14), none, []⟩,
                  ⟨(some 143), .fadr 0 (.tmp 6), none, []⟩,
                  ⟨(some 144), .load (some 6) (.tmp 143), none, [1]⟩,
                  ⟨(some 145), .fadr 6 (.tmp 6), none, []⟩,
                  ⟨(some 146), .load none (.tmp 145), none, [3]⟩,
                  ⟨(some 147), .mov (.tmp 10), none, []⟩,
                  ⟨(some 148), .mov (.tmp 3), none, []⟩,
                  ⟨(some 149), .fadr 8 (.tmp 6), none, []⟩,
                  ⟨(some 150), .load none (.tmp 149), none, [7]⟩,
                  ⟨(some 151), .bin .add (.tmp 148) (.tmp 150), none, [6, 8]⟩,
                  ⟨(some 152), .build [(.int .i64 0), (.int .u8 0), (.int .u8 0), (.int .u8 0), (.int .u8 0), (.int .u8 0), (.int .u8 0), (.int .u8 0), (.int .i64 0), (.int .i64 0)] [(0, 1, (.tmp 142)), (1, 6, (.tmp 144)), (7, 1, (.tmp 146)), (8, 1, (.tmp 147)), (9, 1, (.tmp 151))], none, [0, 2, 4, 5, 9]⟩,
                  ⟨none, .store 10 (.tmp 8) (.tmp 152), none, [10, 0, 1, 2, 3, 4, 5, 6, 7, 8, 9, 10]⟩,
                  ⟨(some 9), .asg (.val (.int .i64 0)), none, [11, 0, 1, 2, 3, 4, 5, 6, 7, 8, 9, 10, 11]⟩])
                .ret))))))))))))))),
 [.cell 8 (some 10), .tmp 9]⟩
theorem ok14 : FdOk Try.prog 14 fd14 := FdOk.of (by kernel_rfl)
abbrev T14 : List Nat := [149, 145, 14, 137, 136, 13, 12, 127, 125, 123, 121, 118, 116, 115, 113, 111, 109, 103, 11, 100, 97, 95, 93, 91, 89, 83, 82, 10, 75, 73, 71, 69, 60, 57, 55, 52, 49, 46, 45, 3, 42, 41, 38, 36, 35, 32, 30, 29, 26, 5, 24, 23, 20, 6, 18, 15, 4]
theorem hT14 : fd14.body.T = T14 := by kernel_rfl

def lp15x0 : Cd :=
 (.seq
  (.reg false [
    ⟨(some 14), .bin .lss (.tmp 13) (.tmp 12), none, []⟩])
  (.seq
   (.cond (.tmp 14)
    .skip
    (.exit 0))
   (.seq
    (.block 1
     (.seq
      (.reg false [
        ⟨(some 15), .mov (.tmp 13), none, []⟩,
        ⟨(some 5), .asg (.tmp 15), none, [0, 0]⟩])
      (.seq
       (.reg true [
         ⟨(some 16), .mov (.tmp 0), none, []⟩,
         ⟨(some 17), .mov (.tmp 5), none, []⟩,
         ⟨(some 18), .idxA 1 (.tmp 16) (.tmp 17), none, [0, 1]⟩,
         ⟨(some 19), .load none (.tmp 18), none, [2]⟩,
         ⟨(some 20), .mov (.tmp 1), none, []⟩,
         ⟨(some 21), .mov (.tmp 5), none, []⟩,
         ⟨(some 22), .idxA 1 (.tmp 20) (.tmp 21), none, [4, 5]⟩,
         ⟨(some 23), .load none (.tmp 22), none, [6]⟩,
         ⟨(some 24), .call 16 [(.tmp 19), (.tmp 23)], none, [3, 7]⟩,
         ⟨(some 25), .un .not (.tmp 24), none, [8]⟩])
       (.cond (.tmp 25)
        (.seq
         (.reg false [
           ⟨(some 4), .asg (.val (.bool false)), none, []⟩])
         .ret)
        .skip))))
    (.reg false [
      ⟨(some 26), .bin .add (.tmp 13) (.val (.int .i64 1)), none, []⟩,
      ⟨(some 13), .mov (.tmp 26), none, [0]⟩]))))
/-- waymark/waymarkref07.SameAreas -/
def fd15 : Fd := ⟨27,
 (.seq
  (.reg false [
    ⟨(some 4), .asg (.val (.bool false)), none, []⟩])
  (.seq
   (.seq
    (.reg false [
      ⟨(some 6), .mov (.tmp 0), none, []⟩,
      ⟨(some 7), .len false (.tmp 6), none, [0]⟩,
      ⟨(some 8), .mov (.tmp 1), none, []⟩,
      ⟨(some 9), .len false (.tmp 8), none, [2]⟩,
      ⟨(some 10), .bin .neq (.tmp 7) (.tmp 9), none, [1, 3]⟩])
    (.cond (.tmp 10)
     (.seq
      (.reg false [
        ⟨(some 4), .asg (.val (.bool false)), none, []⟩])
      .ret)
     .skip))
   (.seq
    (.seq
     (.reg false [
       ⟨(some 11), .mov (.tmp 0), none, []⟩,
       ⟨(some 12), .len false (.tmp 11), none, [0]⟩,
       ⟨(some 13), .mov (.val (.int .i64 0)), none, []⟩])
     (.block 0
      (.loop [] lp15x0)))
    (.seq
     (.reg false [
       ⟨(some 4), .asg (.val (.bool true)), none, []⟩])
     .ret)))),
 [.tmp 4]⟩
theorem ok15 : FdOk Try.prog 15 fd15 := FdOk.of (by kernel_rfl)
abbrev T15 : List Nat := [26, 22, 20, 18, 16, 5, 13, 1, 0]
theorem hT15 : fd15.body.T = T15 := by kernel_rfl

def lp16x0 : Cd :=
 (.seq
  (.reg false [
    ⟨(some 14), .bin .lss (.tmp 13) (.tmp 12), none, []⟩])
  (.seq
   (.cond (.tmp 14)
    .skip
    (.exit 0))
   (.seq
    (.block 1
     (.seq
      (.reg false [
        ⟨(some 15), .mov (.tmp 13), none, []⟩,
        ⟨(some 5), .asg (.tmp 15), none, [0, 0]⟩])
      (.seq
       (.reg true [
         ⟨(some 16), .mov (.tmp 0), none, []⟩,
         ⟨(some 17), .mov (.tmp 5), none, []⟩,
         ⟨(some 18), .idxA 1 (.tmp 16) (.tmp 17), none, [0, 1]⟩,
         ⟨(some 19), .load none (.tmp 18), none, [2]⟩,
         ⟨(some 20), .mov (.tmp 1), none, []⟩,
         ⟨(some 21), .mov (.tmp 5), none, []⟩,
         ⟨(some 22), .idxA 1 (.tmp 20) (.tmp 21), none, [4, 5]⟩,
         ⟨(some 23), .load none (.tmp 22), none, [6]⟩,
         ⟨(some 24), .bin .neq (.tmp 19) (.tmp 23), none, [3, 7]⟩])
       (.cond (.tmp 24)
        (.seq
         (.reg false [
           ⟨(some 4), .asg (.val (.bool false)), none, []⟩])
         .ret)
        .skip))))
    (.reg false [
      ⟨(some 25), .bin .add (.tmp 13) (.val (.int .i64 1)), none, []⟩,
      ⟨(some 13), .mov (.tmp 25), none, [0]⟩]))))
/-- waymark/waymarkref01.SameBytes -/
def fd16 : Fd := ⟨26,
 (.seq
  (.reg false [
    ⟨(some 4), .asg (.val (.bool false)), none, []⟩])
  (.seq
   (.seq
    (.reg false [
      ⟨(some 6), .mov (.tmp 0), none, []⟩,
      ⟨(some 7), .len false (.tmp 6), none, [0]⟩,
      ⟨(some 8), .mov (.tmp 1), none, []⟩,
      ⟨(some 9), .len false (.tmp 8), none, [2]⟩,
      ⟨(some 10), .bin .neq (.tmp 7) (.tmp 9), none, [1, 3]⟩])
    (.cond (.tmp 10)
     (.seq
      (.reg false [
        ⟨(some 4), .asg (.val (.bool false)), none, []⟩])
      .ret)
     .skip))
   (.seq
    (.seq
     (.reg false [
       ⟨(some 11), .mov (.tmp 0), none, []⟩,
       ⟨(some 12), .len false (.tmp 11), none, [0]⟩,
       ⟨(some 13), .mov (.val (.int .i64 0)), none, []⟩])
     (.block 0
      (.loop [] lp16x0)))
    (.seq
     (.reg false [
       ⟨(some 4), .asg (.val (.bool true)), none, []⟩])
     .ret)))),
 [.tmp 4]⟩
theorem ok16 : FdOk Try.prog 16 fd16 := FdOk.of (by kernel_rfl)
abbrev T16 : List Nat := [25, 22, 20, 18, 16, 5, 13, 1, 0]
theorem hT16 : fd16.body.T = T16 := by kernel_rfl

/-- waymark/adj.Expire -/
def fd17 : Fd := ⟨21,
 (.seq
  (.reg false [
    ⟨(some 2), .box (.tmp 0), none, []⟩,
    ⟨(some 4), .alloc [(.int .i64 0), (.int .u8 0), (.int .u8 0), (.int .u8 0), (.int .u8 0), (.int .u8 0), (.int .u8 0), (.int .u8 0), (.int .i64 0), (.int .i64 0)], none, []⟩])
  (.seq
   (.seq
    (.reg false [
      ⟨(some 5), .fadr 0 (.tmp 2), none, []⟩,
      ⟨(some 6), .load none (.tmp 5), none, [0]⟩,
      ⟨(some 7), .bin .eql (.tmp 6) (.val (.int .i64 1)), none, [1]⟩,
      ⟨(some 8), .mov (.tmp 7), none, [2]⟩,
      ⟨(some 9), .fadr 0 (.tmp 2), (some (8, false)), [3]⟩,
      ⟨(some 10), .load none (.tmp 9), (some (8, false)), [4, 3]⟩,
      ⟨(some 11), .bin .eql (.tmp 10) (.val (.int .i64 0)), (some (8, false)), [5, 3]⟩,
      ⟨(some 12), .pick (.tmp 8) (.val (.bool true)) (.tmp 11), none, [3, 6]⟩,
      ⟨(some 13), .mov (.tmp 12), none, [7, 3]⟩,
      ⟨(some 14), .mov (.tmp 1), (some (13, true)), [8]⟩,
      ⟨(some 15), .fadr 9 (.tmp 2), (some (13, true)), [8]⟩,
      ⟨(some 16), .load none (.tmp 15), (some (13, true)), [10, 8]⟩,
      ⟨(some 17), .bin .geq (.tmp 14) (.tmp 16), (some (13, true)), [9, 11, 8]⟩,
      ⟨(some 18), .pick (.tmp 13) (.tmp 17) (.val (.bool false)), none, [8, 12]⟩])
    (.cond (.tmp 18)
     (.seq
      (.reg false [
        ⟨(some 19), .call 26 [], none, []⟩,
        ⟨none, .store 10 (.tmp 4) (.tmp 19), none, [0, 0, 0]⟩])
      .ret)
     .skip))
   (.seq
    (.reg false [
      ⟨(some 20), .load (some 10) (.tmp 2), none, []⟩,
      ⟨none, .store 10 (.tmp 4) (.tmp 20), none, [0, 0]⟩])
    .ret))),
 [.cell 4 (some 10)]⟩
theorem ok17 : FdOk Try.prog 17 fd17 := FdOk.of (by kernel_rfl)
abbrev T17 : List Nat := [17, 15, 1, 12, 11, 9, 7, 5, 2]
theorem hT17 : fd17.body.T = T17 := by kernel_rfl

/-- waymark/waymarklaw10.speak -/
def fd18 : Fd := ⟨47,
 (.seq
  (.reg false [
    ⟨(some 6), .asg (.val (.bool false)), none, []⟩])
  (.seq
   (.reg true [
     ⟨(some 12), .mov (.tmp 0), none, []⟩,
     ⟨(some 13), .nilchk (.tmp 12), none, [0]⟩,
     ⟨(some 14), .fadr 0 (.tmp 13), none, [1]⟩,
     ⟨(some 15), .load (some 9) (.tmp 14), none, [2]⟩,
     ⟨(some 16), .call 11 [(.tmp 15)], none, [3]⟩,
     ⟨(some 17), .mov (.tmp 0), none, []⟩,
     ⟨(some 18), .nilchk (.tmp 17), none, [5]⟩,
     ⟨(some 19), .fadr 9 (.tmp 18), none, [6]⟩,
     ⟨(some 20), .load (some 10) (.tmp 19), none, [7]⟩,
     ⟨(some 21), .call 19 [(.tmp 16), (.tmp 20), (.val (.int .i64 10))], none, [4, 8, 4]⟩,
     ⟨(some 11), .mov (.tmp 21), none, [9]⟩,
     ⟨(some 22), .ext 0 (.tmp 11), none, [10]⟩,
     ⟨(some 23), .ext 1 (.tmp 11), none, [10]⟩,
     ⟨(some 7), .alloc [(.int .u8 0), (.int .u8 0), (.int .u8 0), (.int .u8 0), (.int .u8 0), (.int .u8 0), (.int .u8 0), (.int .i64 0), (.int .i64 0), .nils, (.int .i64 0), (.bool false), (.int .u8 0), (.int .u8 0), (.int .u8 0), (.int .u8 0), (.int .u8 0), (.int .u8 0), (.int .u8 0)], none, []⟩,
     ⟨none, .store 19 (.tmp 7) (.tmp 22), none, [13, 11, 9, 0, 1, 2, 3, 4, 5, 6, 7, 8, 9, 10, 11, 13]⟩,
     ⟨(some 8), .asg (.tmp 23), none, [12, 14, 0, 1, 2, 3, 4, 5, 6, 7, 8, 9, 10, 11, 12, 13, 14]⟩])
   (.seq
    (.seq
     (.reg false [
       ⟨(some 24), .mov (.tmp 8), none, []⟩,
       ⟨(some 25), .bin .neq (.tmp 24) (.val (.int .i64 0)), none, [0]⟩])
     (.cond (.tmp 25)
      (.seq
       (.reg false [
         ⟨(some 6), .asg (.val (.bool false)), none, []⟩])
       .ret)
      .skip))
    (.seq
     (.reg true [
       ⟨(some 27), .mov (.tmp 1), none, []⟩,
       ⟨(some 28), .nilchk (.tmp 27), none, [0]⟩,
       ⟨(some 29), .fadr 0 (.tmp 28), none, [1]⟩,
       ⟨(some 30), .load (some 9) (.tmp 29), none, [2]⟩,
       ⟨(some 31), .call 11 [(.tmp 30)], none, [3]⟩,
       ⟨(some 32), .mov (.tmp 1), none, []⟩,
       ⟨(some 33), .nilchk (.tmp 32), none, [5]⟩,
       ⟨(some 34), .fadr 9 (.tmp 33), none, [6]⟩,
       ⟨(some 35), .load (some 10) (.tmp 34), none, [7]⟩,
       ⟨(some 36), .load (some 19) (.tmp 7), none, []⟩,
       ⟨(some 37), .mov (.tmp 2), none, []⟩,
       ⟨(some 38), .call 13 [(.tmp 31), (.tmp 35), (.tmp 36), (.tmp 37)], none, [4, 8, 9, 10, 4]⟩,
       ⟨(some 26), .mov (.tmp 38), none, [11]⟩,
       ⟨(some 39), .ext 0 (.tmp 26), none, [12]⟩,
       ⟨(some 40), .ext 1 (.tmp 26), none, [12]⟩,
       ⟨(some 9), .alloc [(.int .i64 0), (.int .u8 0), (.int .u8 0), (.int .u8 0), (.int .u8 0), (.int .u8 0), (.int .u8 0), (.int .u8 0), (.int .i64 0), (.int .i64 0)], none, []⟩,
       ⟨none, .store 10 (.tmp 9) (.tmp 39), none, [15, 13, 11, 0, 1, 2, 3, 4, 5, 6, 7, 8, 9, 10, 11, 12, 13, 15]⟩,
       ⟨(some 10), .asg (.tmp 40), none, [14, 16, 0, 1, 2, 3, 4, 5, 6, 7, 8, 9, 10, 11, 12, 13, 14, 15, 16]⟩])
     (.seq
      (.reg false [
        ⟨(some 41), .mov (.tmp 1), none, []⟩,
        ⟨(some 42), .load (some 10) (.tmp 9), none, []⟩,
        ⟨(some 43), .nilchk (.tmp 41), none, [0, 0, 1]⟩,
        ⟨(some 44), .fadr 9 (.tmp 43), none, [2, 0, 1]⟩,
        ⟨none, .store 10 (.tmp 44) (.tmp 42), none, [3, 1, 0, 1]⟩])
      (.seq
       (.reg false [
         ⟨(some 45), .mov (.tmp 10), none, []⟩,
         ⟨(some 46), .bin .eql (.tmp 45) (.val (.int .i64 0)), none, [0]⟩,
         ⟨(some 6), .asg (.tmp 46), none, [1, 0, 1]⟩])
       .ret)))))),
 [.tmp 6]⟩
theorem ok18 : FdOk Try.prog 18 fd18 := FdOk.of (by kernel_rfl)
abbrev T18 : List Nat := [10, 43, 41, 38, 2, 33, 32, 28, 27, 1, 8, 21, 18, 17, 13, 12, 0]
theorem hT18 : fd18.body.T = T18 := by kernel_rfl

def lp19x0 : Cd :=
 (.seq
  (.reg false [
    ⟨(some 48), .bin .lss (.tmp 47) (.tmp 46), none, []⟩])
  (.seq
   (.cond (.tmp 48)
    .skip
    (.exit 1))
   (.seq
    (.block 2
     (.seq
      (.reg false [
        ⟨(some 49), .idxA 1 (.tmp 45) (.tmp 47), none, []⟩,
        ⟨(some 50), .load none (.tmp 49), none, [0]⟩,
        ⟨(some 10), .asg (.tmp 50), none, [1, 0, 1]⟩])
      (.reg true [
        ⟨(some 51), .fadr 9 (.tmp 8), none, []⟩,
        ⟨(some 52), .load none (.tmp 51), none, [0]⟩,
        ⟨(some 53), .mov (.tmp 10), none, []⟩,
        ⟨(some 54), .call 34 [(.tmp 53)], none, [2]⟩,
        ⟨(some 55), .bslice false 1 1 [.nils] [(0, 1, (.tmp 54))], none, [3]⟩,
        ⟨(some 56), .appd 1 24 (.tmp 52) (.tmp 55), none, [1, 4, 3]⟩,
        ⟨(some 57), .fadr 9 (.tmp 8), none, [0, 1, 2, 3, 4, 5]⟩,
        ⟨none, .store 1 (.tmp 57) (.tmp 56), none, [6, 5, 5, 0, 1, 2, 3, 4, 5]⟩])))
    (.reg false [
      ⟨(some 58), .bin .add (.tmp 47) (.val (.int .i64 1)), none, []⟩,
      ⟨(some 47), .mov (.tmp 58), none, [0]⟩]))))
/-- waymark/adj.Tell -/
def fd19 : Fd := ⟨70,
 (.seq
  (.reg false [
    ⟨(some 3), .box (.tmp 0), none, []⟩,
    ⟨(some 4), .box (.tmp 1), none, []⟩,
    ⟨(some 6), .alloc [(.int .u8 0), (.int .u8 0), (.int .u8 0), (.int .u8 0), (.int .u8 0), (.int .u8 0), (.int .u8 0), (.int .i64 0), (.int .i64 0), .nils, (.int .i64 0), (.bool false), (.int .u8 0), (.int .u8 0), (.int .u8 0), (.int .u8 0), (.int .u8 0), (.int .u8 0), (.int .u8 0)], none, []⟩,
    ⟨(some 7), .asg (.val (.int .i64 0)), none, []⟩])
  (.seq
   (.block 0
    (.seq
     (.reg false [
       ⟨(some 12), .fadr 7 (.tmp 3), none, []⟩,
       ⟨(some 13), .load none (.tmp 12), none, [0]⟩,
       ⟨(some 14), .call 31 [(.tmp 13)], none, [1]⟩,
       ⟨(some 15), .un .not (.tmp 14), none, [2]⟩,
       ⟨(some 16), .mov (.tmp 15), none, [3, 2]⟩,
       ⟨(some 17), .fadr 0 (.tmp 4), (some (16, false)), [4]⟩,
       ⟨(some 18), .load none (.tmp 17), (some (16, false)), [5, 4]⟩,
       ⟨(some 19), .call 32 [(.tmp 18)], (some (16, false)), [6, 4, 4]⟩,
       ⟨(some 20), .un .not (.tmp 19), (some (16, false)), [7, 4]⟩,
       ⟨(some 21), .pick (.tmp 16) (.val (.bool true)) (.tmp 20), none, [4, 8]⟩,
       ⟨(some 22), .mov (.tmp 21), none, [9, 7]⟩,
       ⟨(some 23), .mov (.tmp 2), (some (22, false)), [10]⟩,
       ⟨(some 24), .call 33 [(.tmp 23)], (some (22, false)), [11, 10, 10]⟩,
       ⟨(some 25), .un .not (.tmp 24), (some (22, false)), [12, 10]⟩,
       ⟨(some 26), .pick (.tmp 22) (.val (.bool true)) (.tmp 25), none, [10, 13]⟩,
       ⟨(some 11), .asg (.tmp 26), none, [14, 12]⟩])
     (.cond (.tmp 11)
      (.seq
       (.reg false [
         ⟨(some 27), .build [(.int .u8 0), (.int .u8 0), (.int .u8 0), (.int .u8 0), (.int .u8 0), (.int .u8 0), (.int .u8 0), (.int .i64 0), (.int .i64 0), .nils, (.int .i64 0), (.bool false), (.int .u8 0), (.int .u8 0), (.int .u8 0), (.int .u8 0), (.int .u8 0), (.int .u8 0), (.int .u8 0)] [], none, []⟩,
         ⟨none, .store 19 (.tmp 6) (.tmp 27), none, [0, 0]⟩,
         ⟨(some 7), .asg (.val (.int .i64 1)), none, [1, 0, 1]⟩])
       .ret)
      (.seq
       (.reg false [
         ⟨(some 29), .fadr 8 (.tmp 3), none, []⟩,
         ⟨(some 30), .load none (.tmp 29), none, [0]⟩,
         ⟨(some 31), .len false (.tmp 30), none, [1]⟩,
         ⟨(some 32), .bin .gtr (.tmp 31) (.val (.int .i64 3)), none, [2]⟩,
         ⟨(some 28), .asg (.tmp 32), none, [3]⟩])
       (.cond (.tmp 28)
        (.seq
         (.reg false [
           ⟨(some 33), .build [(.int .u8 0), (.int .u8 0), (.int .u8 0), (.int .u8 0), (.int .u8 0), (.int .u8 0), (.int .u8 0), (.int .i64 0), (.int .i64 0), .nils, (.int .i64 0), (.bool false), (.int .u8 0), (.int .u8 0), (.int .u8 0), (.int .u8 0), (.int .u8 0), (.int .u8 0), (.int .u8 0)] [], none, []⟩,
           ⟨none, .store 19 (.tmp 6) (.tmp 33), none, [0, 0]⟩,
           ⟨(some 7), .asg (.val (.int .i64 2)), none, [1, 0, 1]⟩])
         .ret)
        .skip)))))
   (.seq
    (.reg false [
      ⟨(some 34), .fadr 0 (.tmp 3), none, []⟩,
      ⟨(some 35), .load (some 6) (.tmp 34), none, [0]⟩,
      ⟨(some 36), .fadr 6 (.tmp 3), none, []⟩,
      ⟨(some 37), .load none (.tmp 36), none, [2]⟩,
      ⟨(some 38), .fadr 7 (.tmp 3), none, []⟩,
      ⟨(some 39), .load none (.tmp 38), none, [4]⟩,
      ⟨(some 40), .mov (.tmp 2), none, []⟩,
      ⟨(some 41), .fadr 0 (.tmp 4), none, []⟩,
      ⟨(some 42), .load none (.tmp 41), none, [7]⟩,
      ⟨(some 43), .build [(.int .u8 0), (.int .u8 0), (.int .u8 0), (.int .u8 0), (.int .u8 0), (.int .u8 0), (.int .u8 0), (.int .i64 0), (.int .i64 0), .nils, (.int .i64 0), (.bool false), (.int .u8 0), (.int .u8 0), (.int .u8 0), (.int .u8 0), (.int .u8 0), (.int .u8 0), (.int .u8 0)] [(0, 6, (.tmp 35)), (6, 1, (.tmp 37)), (7, 1, (.tmp 39)), (8, 1, (.tmp 40)), (10, 1, (.tmp 42))], none, [1, 3, 5, 6, 8]⟩,
      ⟨(some 8), .alloc [(.int .u8 0), (.int .u8 0), (.int .u8 0), (.int .u8 0), (.int .u8 0), (.int .u8 0), (.int .u8 0), (.int .i64 0), (.int .i64 0), .nils, (.int .i64 0), (.bool false), (.int .u8 0), (.int .u8 0), (.int .u8 0), (.int .u8 0), (.int .u8 0), (.int .u8 0), (.int .u8 0)], none, []⟩,
      ⟨none, .store 19 (.tmp 8) (.tmp 43), none, [10, 9, 0, 1, 2, 3, 4, 5, 6, 7, 8, 9, 10]⟩])
    (.seq
     (.seq
      (.reg false [
        ⟨(some 44), .fadr 8 (.tmp 3), none, []⟩,
        ⟨(some 45), .load none (.tmp 44), none, [0]⟩,
        ⟨(some 46), .len false (.tmp 45), none, [1]⟩,
        ⟨(some 47), .mov (.val (.int .i64 0)), none, []⟩])
      (.block 1
       (.loop [] lp19x0)))
     (.seq
      (.seq
       (.reg false [
         ⟨(some 59), .fadr 0 (.tmp 4), none, []⟩,
         ⟨(some 60), .load none (.tmp 59), none, [0]⟩,
         ⟨(some 61), .bin .neq (.tmp 60) (.val (.int .i64 2)), none, [1]⟩])
       (.cond (.tmp 61)
        (.reg true [
          ⟨(some 62), .fadr 1 (.tmp 4), none, []⟩,
          ⟨(some 63), .load (some 6) (.tmp 62), none, [0]⟩,
          ⟨(some 64), .fadr 7 (.tmp 4), none, []⟩,
          ⟨(some 65), .load none (.tmp 64), none, [2]⟩,
          ⟨(some 66), .fadr 11 (.tmp 8), none, []⟩,
          ⟨none, .store 1 (.tmp 66) (.val (.bool true)), none, [4]⟩,
          ⟨(some 67), .fadr 12 (.tmp 8), none, [0, 1, 4, 5]⟩,
          ⟨none, .store 6 (.tmp 67) (.tmp 63), none, [6, 1, 5, 0, 1, 4, 5]⟩,
          ⟨(some 68), .fadr 18 (.tmp 8), none, [0, 1, 2, 3, 4, 5, 6, 7]⟩,
          ⟨none, .store 1 (.tmp 68) (.tmp 65), none, [8, 3, 7, 0, 1, 2, 3, 4, 5, 6, 7]⟩])
        .skip))
      (.seq
       (.reg false [
         ⟨(some 69), .load (some 19) (.tmp 8), none, []⟩,
         ⟨none, .store 19 (.tmp 6) (.tmp 69), none, [0, 0]⟩,
         ⟨(some 7), .asg (.val (.int .i64 0)), none, [1, 0, 1]⟩])
       .ret)))))),
 [.cell 6 (some 19), .tmp 7]⟩
theorem ok19 : FdOk Try.prog 19 fd19 := FdOk.of (by kernel_rfl)
abbrev T19 : List Nat := [64, 59, 58, 10, 51, 8, 49, 45, 44, 41, 38, 36, 29, 25, 2, 21, 20, 17, 4, 15, 12, 3]
theorem hT19 : fd19.body.T = T19 := by kernel_rfl

/-- waymark/waymarkref10.DocTell -/
def fd20 : Fd := ⟨53,
 (.seq
  (.reg false [
    ⟨(some 3), .box (.tmp 0), none, []⟩,
    ⟨(some 4), .box (.tmp 1), none, []⟩,
    ⟨(some 6), .alloc [(.int .u8 0), (.int .u8 0), (.int .u8 0), (.int .u8 0), (.int .u8 0), (.int .u8 0), (.int .u8 0), (.int .i64 0), (.int .i64 0), .nils, (.int .i64 0), (.bool false), (.int .u8 0), (.int .u8 0), (.int .u8 0), (.int .u8 0), (.int .u8 0), (.int .u8 0), (.int .u8 0)], none, []⟩,
    ⟨(some 7), .asg (.val (.int .i64 0)), none, []⟩])
  (.seq
   (.seq
    (.reg false [
      ⟨(some 9), .fadr 7 (.tmp 3), none, []⟩,
      ⟨(some 10), .load none (.tmp 9), none, [0]⟩,
      ⟨(some 11), .call 28 [(.tmp 10), (.val (.int .i64 1)), (.val (.int .i64 3))], none, [1]⟩,
      ⟨(some 12), .un .not (.tmp 11), none, [2]⟩,
      ⟨(some 13), .mov (.tmp 12), none, [3, 2]⟩,
      ⟨(some 14), .fadr 0 (.tmp 4), (some (13, false)), [4]⟩,
      ⟨(some 15), .load none (.tmp 14), (some (13, false)), [5, 4]⟩,
      ⟨(some 16), .call 28 [(.tmp 15), (.val (.int .i64 0)), (.val (.int .i64 2))], (some (13, false)), [6, 4, 4]⟩,
      ⟨(some 17), .un .not (.tmp 16), (some (13, false)), [7, 4]⟩,
      ⟨(some 18), .pick (.tmp 13) (.val (.bool true)) (.tmp 17), none, [4, 8]⟩,
      ⟨(some 19), .mov (.tmp 18), none, [9, 7]⟩,
      ⟨(some 20), .mov (.tmp 2), (some (19, false)), [10]⟩,
      ⟨(some 21), .call 28 [(.tmp 20), (.val (.int .i64 1)), (.val (.int .i64 65535))], (some (19, false)), [11, 10, 10]⟩,
      ⟨(some 22), .un .not (.tmp 21), (some (19, false)), [12, 10]⟩,
      ⟨(some 23), .pick (.tmp 19) (.val (.bool true)) (.tmp 22), none, [10, 13]⟩])
    (.cond (.tmp 23)
     (.seq
      (.reg false [
        ⟨(some 24), .build [(.int .u8 0), (.int .u8 0), (.int .u8 0), (.int .u8 0), (.int .u8 0), (.int .u8 0), (.int .u8 0), (.int .i64 0), (.int .i64 0), .nils, (.int .i64 0), (.bool false), (.int .u8 0), (.int .u8 0), (.int .u8 0), (.int .u8 0), (.int .u8 0), (.int .u8 0), (.int .u8 0)] [], none, []⟩,
        ⟨none, .store 19 (.tmp 6) (.tmp 24), none, [0, 0]⟩,
        ⟨(some 7), .asg (.val (.int .i64 1)), none, [1, 0, 1]⟩])
      .ret)
     .skip))
   (.seq
    (.seq
     (.reg false [
       ⟨(some 25), .fadr 8 (.tmp 3), none, []⟩,
       ⟨(some 26), .load none (.tmp 25), none, [0]⟩,
       ⟨(some 27), .len false (.tmp 26), none, [1]⟩,
       ⟨(some 28), .bin .gtr (.tmp 27) (.val (.int .i64 3)), none, [2]⟩])
     (.cond (.tmp 28)
      (.seq
       (.reg false [
         ⟨(some 29), .build [(.int .u8 0), (.int .u8 0), (.int .u8 0), (.int .u8 0), (.int .u8 0), (.int .u8 0), (.int .u8 0), (.int .i64 0), (.int .i64 0), .nils, (.int .i64 0), (.bool false), (.int .u8 0), (.int .u8 0), (.int .u8 0), (.int .u8 0), (.int .u8 0), (.int .u8 0), (.int .u8 0)] [], none, []⟩,
         ⟨none, .store 19 (.tmp 6) (.tmp 29), none, [0, 0]⟩,
         ⟨(some 7), .asg (.val (.int .i64 2)), none, [1, 0, 1]⟩])
       .ret)
      .skip))
    (.seq
     (.reg false [
       ⟨(some 30), .fadr 0 (.tmp 3), none, []⟩,
       ⟨(some 31), .load (some 6) (.tmp 30), none, [0]⟩,
       ⟨(some 32), .fadr 6 (.tmp 3), none, []⟩,
       ⟨(some 33), .load none (.tmp 32), none, [2]⟩,
       ⟨(some 34), .fadr 7 (.tmp 3), none, []⟩,
       ⟨(some 35), .load none (.tmp 34), none, [4]⟩,
       ⟨(some 36), .mov (.tmp 2), none, []⟩,
       ⟨(some 37), .fadr 8 (.tmp 3), none, []⟩,
       ⟨(some 38), .load none (.tmp 37), none, [7]⟩,
       ⟨(some 39), .fadr 0 (.tmp 4), none, []⟩,
       ⟨(some 40), .load none (.tmp 39), none, [9]⟩,
       ⟨(some 41), .build [(.int .u8 0), (.int .u8 0), (.int .u8 0), (.int .u8 0), (.int .u8 0), (.int .u8 0), (.int .u8 0), (.int .i64 0), (.int .i64 0), .nils, (.int .i64 0), (.bool false), (.int .u8 0), (.int .u8 0), (.int .u8 0), (.int .u8 0), (.int .u8 0), (.int .u8 0), (.int .u8 0)] [(0, 6, (.tmp 31)), (6, 1, (.tmp 33)), (7, 1, (.tmp 35)), (8, 1, (.tmp 36)), (9, 1, (.tmp 38)), (10, 1, (.tmp 40))], none, [1, 3, 5, 6, 8, 10]⟩,
       ⟨(some 8), .alloc [(.int .u8 0), (.int .u8 0), (.int .u8 0), (.int .u8 0), (.int .u8 0), (.int .u8 0), (.int .u8 0), (.int .i64 0), (.int .i64 0), .nils, (.int .i64 0), (.bool false), (.int .u8 0), (.int .u8 0), (.int .u8 0), (.int .u8 0), (.int .u8 0), (.int .u8 0), (.int .u8 0)], none, []⟩,
       ⟨none, .store 19 (.tmp 8) (.tmp 41), none, [12, 11, 0, 1, 2, 3, 4, 5, 6, 7, 8, 9, 10, 11, 12]⟩])
     (.seq
      (.seq
       (.reg false [
         ⟨(some 42), .fadr 0 (.tmp 4), none, []⟩,
         ⟨(some 43), .load none (.tmp 42), none, [0]⟩,
         ⟨(some 44), .bin .lss (.tmp 43) (.val (.int .i64 2)), none, [1]⟩])
       (.cond (.tmp 44)
        (.reg true [
          ⟨(some 45), .fadr 1 (.tmp 4), none, []⟩,
          ⟨(some 46), .load (some 6) (.tmp 45), none, [0]⟩,
          ⟨(some 47), .fadr 7 (.tmp 4), none, []⟩,
          ⟨(some 48), .load none (.tmp 47), none, [2]⟩,
          ⟨(some 49), .fadr 11 (.tmp 8), none, []⟩,
          ⟨none, .store 1 (.tmp 49) (.val (.bool true)), none, [4]⟩,
          ⟨(some 50), .fadr 12 (.tmp 8), none, [0, 1, 4, 5]⟩,
          ⟨none, .store 6 (.tmp 50) (.tmp 46), none, [6, 1, 5, 0, 1, 4, 5]⟩,
          ⟨(some 51), .fadr 18 (.tmp 8), none, [0, 1, 2, 3, 4, 5, 6, 7]⟩,
          ⟨none, .store 1 (.tmp 51) (.tmp 48), none, [8, 3, 7, 0, 1, 2, 3, 4, 5, 6, 7]⟩])
        .skip))
      (.seq
       (.reg false [
         ⟨(some 52), .load (some 19) (.tmp 8), none, []⟩,
         ⟨none, .store 19 (.tmp 6) (.tmp 52), none, [0, 0]⟩,
         ⟨(some 7), .asg (.val (.int .i64 0)), none, [1, 0, 1]⟩])
       .ret)))))),
 [.cell 6 (some 19), .tmp 7]⟩
theorem ok20 : FdOk Try.prog 20 fd20 := FdOk.of (by kernel_rfl)
abbrev T20 : List Nat := [8, 47, 42, 39, 37, 34, 32, 25, 22, 2, 18, 17, 14, 4, 12, 9, 3]
theorem hT20 : fd20.body.T = T20 := by kernel_rfl

/-- waymark/waymarkref10.Same -/
def fd21 : Fd := ⟨66,
 (.seq
  (.reg false [
    ⟨(some 2), .box (.tmp 0), none, []⟩,
    ⟨(some 3), .box (.tmp 1), none, []⟩,
    ⟨(some 4), .asg (.val (.bool false)), none, []⟩])
  (.seq
   (.reg false [
     ⟨(some 5), .fadr 0 (.tmp 2), none, []⟩,
     ⟨(some 6), .load (some 6) (.tmp 5), none, [0]⟩,
     ⟨(some 7), .fadr 0 (.tmp 3), none, []⟩,
     ⟨(some 8), .load (some 6) (.tmp 7), none, [2]⟩,
     ⟨(some 9), .eq (.flat [0, 0, 0, 0, 0, 0]) false (.tmp 6) (.tmp 8), none, [1, 3]⟩,
     ⟨(some 10), .mov (.tmp 9), none, [4]⟩,
     ⟨(some 11), .fadr 6 (.tmp 2), (some (10, true)), [5]⟩,
     ⟨(some 12), .load none (.tmp 11), (some (10, true)), [6, 5]⟩,
     ⟨(some 13), .fadr 6 (.tmp 3), (some (10, true)), [5]⟩,
     ⟨(some 14), .load none (.tmp 13), (some (10, true)), [8, 5]⟩,
     ⟨(some 15), .bin .eql (.tmp 12) (.tmp 14), (some (10, true)), [7, 9, 5]⟩,
     ⟨(some 16), .pick (.tmp 10) (.tmp 15) (.val (.bool false)), none, [5, 10]⟩,
     ⟨(some 17), .mov (.tmp 16), none, [11, 5]⟩,
     ⟨(some 18), .fadr 7 (.tmp 2), (some (17, true)), [12]⟩,
     ⟨(some 19), .load none (.tmp 18), (some (17, true)), [13, 12]⟩,
     ⟨(some 20), .fadr 7 (.tmp 3), (some (17, true)), [12]⟩,
     ⟨(some 21), .load none (.tmp 20), (some (17, true)), [15, 12]⟩,
     ⟨(some 22), .bin .eql (.tmp 19) (.tmp 21), (some (17, true)), [14, 16, 12]⟩,
     ⟨(some 23), .pick (.tmp 17) (.tmp 22) (.val (.bool false)), none, [12, 17]⟩,
     ⟨(some 24), .mov (.tmp 23), none, [18, 12]⟩,
     ⟨(some 25), .fadr 8 (.tmp 2), (some (24, true)), [19]⟩,
     ⟨(some 26), .load none (.tmp 25), (some (24, true)), [20, 19]⟩,
     ⟨(some 27), .fadr 8 (.tmp 3), (some (24, true)), [19]⟩,
     ⟨(some 28), .load none (.tmp 27), (some (24, true)), [22, 19]⟩,
     ⟨(some 29), .bin .eql (.tmp 26) (.tmp 28), (some (24, true)), [21, 23, 19]⟩,
     ⟨(some 30), .pick (.tmp 24) (.tmp 29) (.val (.bool false)), none, [19, 24]⟩,
     ⟨(some 31), .mov (.tmp 30), none, [25, 19]⟩,
     ⟨(some 32), .fadr 10 (.tmp 2), (some (31, true)), [26]⟩,
     ⟨(some 33), .load none (.tmp 32), (some (31, true)), [27, 26]⟩,
     ⟨(some 34), .fadr 10 (.tmp 3), (some (31, true)), [26]⟩,
     ⟨(some 35), .load none (.tmp 34), (some (31, true)), [29, 26]⟩,
     ⟨(some 36), .bin .eql (.tmp 33) (.tmp 35), (some (31, true)), [28, 30, 26]⟩,
     ⟨(some 37), .pick (.tmp 31) (.tmp 36) (.val (.bool false)), none, [26, 31]⟩,
     ⟨(some 38), .mov (.tmp 37), none, [32, 26]⟩,
     ⟨(some 39), .fadr 11 (.tmp 2), (some (38, true)), [33]⟩,
     ⟨(some 40), .load none (.tmp 39), (some (38, true)), [34, 33]⟩,
     ⟨(some 41), .fadr 11 (.tmp 3), (some (38, true)), [33]⟩,
     ⟨(some 42), .load none (.tmp 41), (some (38, true)), [36, 33]⟩,
     ⟨(some 43), .eq .bool false (.tmp 40) (.tmp 42), (some (38, true)), [35, 37, 33]⟩,
     ⟨(some 44), .pick (.tmp 38) (.tmp 43) (.val (.bool false)), none, [33, 38]⟩,
     ⟨(some 45), .mov (.tmp 44), none, [39, 33]⟩,
     ⟨(some 46), .fadr 12 (.tmp 2), (some (45, true)), [40]⟩,
     ⟨(some 47), .load (some 6) (.tmp 46), (some (45, true)), [41, 40]⟩,
     ⟨(some 48), .fadr 12 (.tmp 3), (some (45, true)), [40]⟩,
     ⟨(some 49), .load (some 6) (.tmp 48), (some (45, true)), [43, 40]⟩,
     ⟨(some 50), .eq (.flat [0, 0, 0, 0, 0, 0]) false (.tmp 47) (.tmp 49), (some (45, true)), [42, 44, 40]⟩,
     ⟨(some 51), .pick (.tmp 45) (.tmp 50) (.val (.bool false)), none, [40, 45]⟩,
     ⟨(some 52), .mov (.tmp 51), none, [46, 40]⟩,
     ⟨(some 53), .fadr 18 (.tmp 2), (some (52, true)), [47]⟩,
     ⟨(some 54), .load none (.tmp 53), (some (52, true)), [48, 47]⟩,
     ⟨(some 55), .fadr 18 (.tmp 3), (some (52, true)), [47]⟩,
     ⟨(some 56), .load none (.tmp 55), (some (52, true)), [50, 47]⟩,
     ⟨(some 57), .bin .eql (.tmp 54) (.tmp 56), (some (52, true)), [49, 51, 47]⟩,
     ⟨(some 58), .pick (.tmp 52) (.tmp 57) (.val (.bool false)), none, [47, 52]⟩,
     ⟨(some 59), .mov (.tmp 58), none, [53, 47]⟩,
     ⟨(some 60), .fadr 9 (.tmp 2), (some (59, true)), [54]⟩,
     ⟨(some 61), .load none (.tmp 60), (some (59, true)), [55, 54]⟩,
     ⟨(some 62), .fadr 9 (.tmp 3), (some (59, true)), [54]⟩,
     ⟨(some 63), .load none (.tmp 62), (some (59, true)), [57, 54]⟩,
     ⟨(some 64), .call 15 [(.tmp 61), (.tmp 63)], (some (59, true)), [56, 58, 54, 54]⟩,
     ⟨(some 65), .pick (.tmp 59) (.tmp 64) (.val (.bool false)), none, [54, 59]⟩,
     ⟨(some 4), .asg (.tmp 65), none, [60, 59, 0, 1, 2, 3, 4, 5, 6, 7, 8, 9, 10, 11, 12, 13, 14, 15, 16, 17, 18, 19, 20, 21, 22, 23, 24, 25, 26, 27, 28, 29, 30, 31, 32, 33, 34, 35, 36, 37, 38, 39, 40, 41, 42, 43, 44, 45, 46, 47, 48, 49, 50, 51, 52, 53, 54, 55, 56, 57, 58, 59, 60]⟩])
   .ret)),
 [.tmp 4]⟩
theorem ok21 : FdOk Try.prog 21 fd21 := FdOk.of (by kernel_rfl)
abbrev T21 : List Nat := [64, 62, 60, 58, 57, 55, 53, 51, 50, 44, 43, 41, 39, 37, 36, 34, 32, 30, 29, 27, 25, 23, 22, 20, 18, 16, 15, 13, 11, 9, 3, 2]
theorem hT21 : fd21.body.T = T21 := by kernel_rfl

/-- waymark/waymarkref10.Expire -/
def fd22 : Fd := ⟨16,
 (.seq
  (.reg false [
    ⟨(some 2), .box (.tmp 0), none, []⟩,
    ⟨(some 4), .alloc [(.int .i64 0), (.int .u8 0), (.int .u8 0), (.int .u8 0), (.int .u8 0), (.int .u8 0), (.int .u8 0), (.int .u8 0), (.int .i64 0), (.int .i64 0)], none, []⟩])
  (.seq
   (.seq
    (.reg false [
      ⟨(some 5), .fadr 0 (.tmp 2), none, []⟩,
      ⟨(some 6), .load none (.tmp 5), none, [0]⟩,
      ⟨(some 7), .call 28 [(.tmp 6), (.val (.int .i64 0)), (.val (.int .i64 1))], none, [1]⟩,
      ⟨(some 8), .mov (.tmp 7), none, [2, 2]⟩,
      ⟨(some 9), .mov (.tmp 1), (some (8, true)), [3]⟩,
      ⟨(some 10), .fadr 9 (.tmp 2), (some (8, true)), [3]⟩,
      ⟨(some 11), .load none (.tmp 10), (some (8, true)), [5, 3]⟩,
      ⟨(some 12), .bin .geq (.tmp 9) (.tmp 11), (some (8, true)), [4, 6, 3]⟩,
      ⟨(some 13), .pick (.tmp 8) (.tmp 12) (.val (.bool false)), none, [3, 7]⟩])
    (.cond (.tmp 13)
     (.seq
      (.reg false [
        ⟨(some 14), .build [(.int .i64 0), (.int .u8 0), (.int .u8 0), (.int .u8 0), (.int .u8 0), (.int .u8 0), (.int .u8 0), (.int .u8 0), (.int .i64 0), (.int .i64 0)] [(0, 1, (.val (.int .i64 2)))], none, []⟩,
        ⟨none, .store 10 (.tmp 4) (.tmp 14), none, [0, 0]⟩])
      .ret)
     .skip))
   (.seq
    (.reg false [
      ⟨(some 15), .load (some 10) (.tmp 2), none, []⟩,
      ⟨none, .store 10 (.tmp 4) (.tmp 15), none, [0, 0]⟩])
    .ret))),
 [.cell 4 (some 10)]⟩
theorem ok22 : FdOk Try.prog 22 fd22 := FdOk.of (by kernel_rfl)
abbrev T22 : List Nat := [12, 10, 1, 7, 5, 2]
theorem hT22 : fd22.body.T = T22 := by kernel_rfl

def lp23x0 : Cd :=
 (.seq
  (.reg false [
    ⟨(some 9), .bin .lss (.tmp 8) (.tmp 7), none, []⟩])
  (.seq
   (.cond (.tmp 9)
    .skip
    (.exit 0))
   (.seq
    (.block 1
     (.seq
      (.reg false [
        ⟨(some 10), .idxA 1 (.tmp 6) (.tmp 8), none, []⟩,
        ⟨(some 11), .load none (.tmp 10), none, [0]⟩,
        ⟨(some 5), .asg (.tmp 11), none, [1, 0, 1]⟩])
      (.reg false [
        ⟨(some 12), .mov (.tmp 3), none, []⟩,
        ⟨(some 13), .mov (.tmp 5), none, []⟩,
        ⟨(some 14), .call 35 [(.tmp 13)], none, [1]⟩,
        ⟨(some 15), .bslice false 1 1 [.nils] [(0, 1, (.tmp 14))], none, [2]⟩,
        ⟨(some 16), .appd 1 24 (.tmp 12) (.tmp 15), none, [0, 3, 2]⟩,
        ⟨(some 3), .asg (.tmp 16), none, [4, 4, 0, 1, 2, 3, 4]⟩])))
    (.reg false [
      ⟨(some 17), .bin .add (.tmp 8) (.val (.int .i64 1)), none, []⟩,
      ⟨(some 8), .mov (.tmp 17), none, [0]⟩]))))
/-- waymark/waymarklaw10.areas -/
def fd23 : Fd := ⟨19,
 (.seq
  (.reg false [
    ⟨(some 2), .asg (.val .nils), none, []⟩])
  (.seq
   (.reg false [
     ⟨(some 3), .asg (.val .nils), none, []⟩])
   (.seq
    (.seq
     (.reg false [
       ⟨(some 6), .mov (.tmp 0), none, []⟩,
       ⟨(some 7), .len false (.tmp 6), none, [0]⟩,
       ⟨(some 8), .mov (.val (.int .i64 0)), none, []⟩])
     (.block 0
      (.loop [] lp23x0)))
    (.seq
     (.reg false [
       ⟨(some 18), .mov (.tmp 3), none, []⟩,
       ⟨(some 2), .asg (.tmp 18), none, [0, 0]⟩])
     .ret)))),
 [.tmp 2]⟩
theorem ok23 : FdOk Try.prog 23 fd23 := FdOk.of (by kernel_rfl)
abbrev T23 : List Nat := [17, 5, 3, 10, 6, 0]
theorem hT23 : fd23.body.T = T23 := by kernel_rfl

/-- waymark/adj.check -/
def fd24 : Fd := ⟨63,
 (.seq
  (.reg false [
    ⟨(some 4), .box (.tmp 0), none, []⟩,
    ⟨(some 5), .box (.tmp 1), none, []⟩,
    ⟨(some 6), .box (.tmp 2), none, []⟩,
    ⟨(some 8), .asg (.val (.int .i64 0)), none, []⟩])
  (.seq
   (.block 0
    (.seq
     (.reg false [
       ⟨(some 10), .fadr 7 (.tmp 4), none, []⟩,
       ⟨(some 11), .load none (.tmp 10), none, [0]⟩,
       ⟨(some 12), .call 31 [(.tmp 11)], none, [1]⟩,
       ⟨(some 13), .un .not (.tmp 12), none, [2]⟩,
       ⟨(some 14), .mov (.tmp 13), none, [3, 2]⟩,
       ⟨(some 15), .fadr 7 (.tmp 6), (some (14, false)), [4]⟩,
       ⟨(some 16), .load none (.tmp 15), (some (14, false)), [5, 4]⟩,
       ⟨(some 17), .call 31 [(.tmp 16)], (some (14, false)), [6, 4, 4]⟩,
       ⟨(some 18), .un .not (.tmp 17), (some (14, false)), [7, 4]⟩,
       ⟨(some 19), .pick (.tmp 14) (.val (.bool true)) (.tmp 18), none, [4, 8]⟩,
       ⟨(some 20), .mov (.tmp 19), none, [9, 7]⟩,
       ⟨(some 21), .fadr 0 (.tmp 5), (some (20, false)), [10]⟩,
       ⟨(some 22), .load none (.tmp 21), (some (20, false)), [11, 10]⟩,
       ⟨(some 23), .call 32 [(.tmp 22)], (some (20, false)), [12, 10, 10]⟩,
       ⟨(some 24), .un .not (.tmp 23), (some (20, false)), [13, 10]⟩,
       ⟨(some 25), .pick (.tmp 20) (.val (.bool true)) (.tmp 24), none, [10, 14]⟩,
       ⟨(some 26), .mov (.tmp 25), none, [15, 13]⟩,
       ⟨(some 27), .fadr 10 (.tmp 6), (some (26, false)), [16]⟩,
       ⟨(some 28), .load none (.tmp 27), (some (26, false)), [17, 16]⟩,
       ⟨(some 29), .call 32 [(.tmp 28)], (some (26, false)), [18, 16, 16]⟩,
       ⟨(some 30), .un .not (.tmp 29), (some (26, false)), [19, 16]⟩,
       ⟨(some 31), .pick (.tmp 26) (.val (.bool true)) (.tmp 30), none, [16, 20]⟩,
       ⟨(some 32), .mov (.tmp 31), none, [21, 19]⟩,
       ⟨(some 33), .fadr 8 (.tmp 6), (some (32, false)), [22]⟩,
       ⟨(some 34), .load none (.tmp 33), (some (32, false)), [23, 22]⟩,
       ⟨(some 35), .call 33 [(.tmp 34)], (some (32, false)), [24, 22, 22]⟩,
       ⟨(some 36), .un .not (.tmp 35), (some (32, false)), [25, 22]⟩,
       ⟨(some 37), .pick (.tmp 32) (.val (.bool true)) (.tmp 36), none, [22, 26]⟩,
       ⟨(some 38), .mov (.tmp 37), none, [27, 25]⟩,
       ⟨(some 39), .mov (.tmp 3), (some (38, false)), [28]⟩,
       ⟨(some 40), .bin .lss (.tmp 39) (.val (.int .i64 0)), (some (38, false)), [29, 28]⟩,
       ⟨(some 41), .pick (.tmp 38) (.val (.bool true)) (.tmp 40), none, [28, 30]⟩,
       ⟨(some 42), .mov (.tmp 41), none, [31, 28]⟩,
       ⟨(some 43), .mov (.tmp 3), (some (42, false)), [32]⟩,
       ⟨(some 44), .bin .gtr (.tmp 43) (.val (.int .i64 4611686018427387904)), (some (42, false)), [33, 32]⟩,
       ⟨(some 45), .pick (.tmp 42) (.val (.bool true)) (.tmp 44), none, [32, 34]⟩,
       ⟨(some 9), .asg (.tmp 45), none, [35, 32]⟩])
     (.cond (.tmp 9)
      (.seq
       (.reg false [
         ⟨(some 8), .asg (.val (.int .i64 1)), none, []⟩])
       .ret)
      (.seq
       (.reg false [
         ⟨(some 47), .fadr 8 (.tmp 4), none, []⟩,
         ⟨(some 48), .load none (.tmp 47), none, [0]⟩,
         ⟨(some 49), .len false (.tmp 48), none, [1]⟩,
         ⟨(some 50), .bin .gtr (.tmp 49) (.val (.int .i64 3)), none, [2]⟩,
         ⟨(some 51), .mov (.tmp 50), none, [3]⟩,
         ⟨(some 52), .fadr 9 (.tmp 6), (some (51, false)), [4]⟩,
         ⟨(some 53), .load none (.tmp 52), (some (51, false)), [5, 4]⟩,
         ⟨(some 54), .len false (.tmp 53), (some (51, false)), [6, 4]⟩,
         ⟨(some 55), .bin .gtr (.tmp 54) (.val (.int .i64 3)), (some (51, false)), [7, 4]⟩,
         ⟨(some 56), .pick (.tmp 51) (.val (.bool true)) (.tmp 55), none, [4, 8]⟩,
         ⟨(some 46), .asg (.tmp 56), none, [9, 4]⟩])
       (.cond (.tmp 46)
        (.seq
         (.reg false [
           ⟨(some 8), .asg (.val (.int .i64 2)), none, []⟩])
         .ret)
        (.seq
         (.reg false [
           ⟨(some 58), .fadr 0 (.tmp 4), none, []⟩,
           ⟨(some 59), .load (some 6) (.tmp 58), none, [0]⟩,
           ⟨(some 60), .fadr 0 (.tmp 6), none, []⟩,
           ⟨(some 61), .load (some 6) (.tmp 60), none, [2]⟩,
           ⟨(some 62), .eq (.flat [0, 0, 0, 0, 0, 0]) false (.tmp 59) (.tmp 61), none, [1, 3]⟩,
           ⟨(some 57), .asg (.tmp 62), none, [4]⟩])
         (.cond (.tmp 57)
          (.seq
           (.reg false [
             ⟨(some 8), .asg (.val (.int .i64 7)), none, []⟩])
           .ret)
          .skip)))))))
   (.seq
    (.reg false [
      ⟨(some 8), .asg (.val (.int .i64 0)), none, []⟩])
    .ret))),
 [.tmp 8]⟩
theorem ok24 : FdOk Try.prog 24 fd24 := FdOk.of (by kernel_rfl)
abbrev T24 : List Nat := [55, 52, 50, 47, 44, 41, 40, 3, 37, 36, 33, 31, 30, 27, 25, 24, 21, 5, 19, 18, 15, 6, 13, 10, 4]
theorem hT24 : fd24.body.T = T24 := by kernel_rfl

def lp25x0 : Cd :=
 (.seq
  (.reg false [
    ⟨(some 18), .bin .lss (.tmp 17) (.tmp 16), none, []⟩])
  (.seq
   (.cond (.tmp 18)
    .skip
    (.exit 2))
   (.seq
    (.block 3
     (.seq
      (.reg false [
        ⟨(some 19), .idxA 1 (.tmp 15) (.tmp 17), none, []⟩,
        ⟨(some 20), .load none (.tmp 19), none, [0]⟩,
        ⟨(some 8), .asg (.tmp 20), none, [1, 0, 1]⟩])
      (.seq
       (.reg false [
         ⟨(some 21), .mov (.tmp 6), none, []⟩,
         ⟨(some 22), .mov (.tmp 8), none, []⟩,
         ⟨(some 23), .call 36 [(.tmp 21), (.tmp 22)], none, [0, 1]⟩])
       (.cond (.tmp 23)
        (.seq
         (.reg false [
           ⟨(some 4), .asg (.val (.bool true)), none, []⟩])
         .ret)
        .skip))))
    (.reg false [
      ⟨(some 24), .bin .add (.tmp 17) (.val (.int .i64 1)), none, []⟩,
      ⟨(some 17), .mov (.tmp 24), none, [0]⟩]))))
def lp25x1 : Cd :=
 (.seq
  (.reg false [
    ⟨(some 12), .bin .lss (.tmp 11) (.tmp 10), none, []⟩])
  (.seq
   (.cond (.tmp 12)
    .skip
    (.exit 0))
   (.seq
    (.block 1
     (.seq
      (.reg false [
        ⟨(some 13), .idxA 1 (.tmp 9) (.tmp 11), none, []⟩,
        ⟨(some 14), .load none (.tmp 13), none, [0]⟩,
        ⟨(some 6), .asg (.tmp 14), none, [1, 0, 1]⟩])
      (.seq
       (.reg false [
         ⟨(some 15), .mov (.tmp 1), none, []⟩,
         ⟨(some 16), .len false (.tmp 15), none, [0]⟩,
         ⟨(some 17), .mov (.val (.int .i64 0)), none, []⟩])
       (.block 2
        (.loop [] lp25x0)))))
    (.reg false [
      ⟨(some 25), .bin .add (.tmp 11) (.val (.int .i64 1)), none, []⟩,
      ⟨(some 11), .mov (.tmp 25), none, [0]⟩]))))
/-- waymark/adj.share -/
def fd25 : Fd := ⟨26,
 (.seq
  (.reg false [
    ⟨(some 4), .asg (.val (.bool false)), none, []⟩])
  (.seq
   (.seq
    (.reg false [
      ⟨(some 9), .mov (.tmp 0), none, []⟩,
      ⟨(some 10), .len false (.tmp 9), none, [0]⟩,
      ⟨(some 11), .mov (.val (.int .i64 0)), none, []⟩])
    (.block 0
     (.loop [] lp25x1)))
   (.seq
    (.reg false [
      ⟨(some 4), .asg (.val (.bool false)), none, []⟩])
    .ret))),
 [.tmp 4]⟩
theorem ok25 : FdOk Try.prog 25 fd25 := FdOk.of (by kernel_rfl)
abbrev T25 : List Nat := [25, 24, 8, 6, 19, 15, 1, 13, 9, 0]
theorem hT25 : fd25.body.T = T25 := by kernel_rfl

/-- waymark/adj.down -/
def fd26 : Fd := ⟨2,
 (.seq
  (.reg false [
    ⟨(some 0), .alloc [(.int .i64 0), (.int .u8 0), (.int .u8 0), (.int .u8 0), (.int .u8 0), (.int .u8 0), (.int .u8 0), (.int .u8 0), (.int .i64 0), (.int .i64 0)], none, []⟩])
  (.seq
   (.reg false [
     ⟨(some 1), .build [(.int .i64 0), (.int .u8 0), (.int .u8 0), (.int .u8 0), (.int .u8 0), (.int .u8 0), (.int .u8 0), (.int .u8 0), (.int .i64 0), (.int .i64 0)] [(0, 1, (.val (.int .i64 2)))], none, []⟩,
     ⟨none, .store 10 (.tmp 0) (.tmp 1), none, [0, 0]⟩])
   .ret)),
 [.cell 0 (some 10)]⟩
theorem ok26 : FdOk Try.prog 26 fd26 := FdOk.of (by kernel_rfl)
abbrev T26 : List Nat := []
theorem hT26 : fd26.body.T = T26 := by kernel_rfl

/-- waymark/adj.next -/
def fd27 : Fd := ⟨15,
 (.seq
  (.reg false [
    ⟨(some 4), .asg (.val (.int .i64 0)), none, []⟩])
  (.seq
   (.block 0
    (.seq
     (.reg false [
       ⟨(some 6), .mov (.tmp 1), none, []⟩,
       ⟨(some 7), .bin .eql (.tmp 6) (.val (.int .i64 2)), none, [0]⟩,
       ⟨(some 5), .asg (.tmp 7), none, [1]⟩])
     (.cond (.tmp 5)
      (.seq
       (.reg false [
         ⟨(some 4), .asg (.val (.int .i64 1)), none, []⟩])
       .ret)
      (.seq
       (.reg false [
         ⟨(some 9), .mov (.tmp 0), none, []⟩,
         ⟨(some 10), .bin .eql (.tmp 9) (.val (.int .i64 2)), none, [0]⟩,
         ⟨(some 11), .mov (.tmp 10), none, [1]⟩,
         ⟨(some 12), .mov (.tmp 1), (some (11, true)), [2]⟩,
         ⟨(some 13), .bin .eql (.tmp 12) (.val (.int .i64 0)), (some (11, true)), [3, 2]⟩,
         ⟨(some 14), .pick (.tmp 11) (.tmp 13) (.val (.bool false)), none, [2, 4]⟩,
         ⟨(some 8), .asg (.tmp 14), none, [5, 2]⟩])
       (.cond (.tmp 8)
        (.seq
         (.reg false [
           ⟨(some 4), .asg (.val (.int .i64 2)), none, []⟩])
         .ret)
        .skip)))))
   (.seq
    (.reg false [
      ⟨(some 4), .asg (.val (.int .i64 0)), none, []⟩])
    .ret))),
 [.tmp 4]⟩
theorem ok27 : FdOk Try.prog 27 fd27 := FdOk.of (by kernel_rfl)
abbrev T27 : List Nat := [13, 10, 0, 1]
theorem hT27 : fd27.body.T = T27 := by kernel_rfl

/-- waymark/waymarkref10.within -/
def fd28 : Fd := ⟨15,
 (.seq
  (.reg false [
    ⟨(some 6), .asg (.val (.bool false)), none, []⟩])
  (.seq
   (.reg false [
     ⟨(some 7), .mov (.tmp 0), none, []⟩,
     ⟨(some 8), .mov (.tmp 1), none, []⟩,
     ⟨(some 9), .bin .geq (.tmp 7) (.tmp 8), none, [0, 1]⟩,
     ⟨(some 10), .mov (.tmp 9), none, [2]⟩,
     ⟨(some 11), .mov (.tmp 0), (some (10, true)), [3]⟩,
     ⟨(some 12), .mov (.tmp 2), (some (10, true)), [3]⟩,
     ⟨(some 13), .bin .leq (.tmp 11) (.tmp 12), (some (10, true)), [4, 5, 3]⟩,
     ⟨(some 14), .pick (.tmp 10) (.tmp 13) (.val (.bool false)), none, [3, 6]⟩,
     ⟨(some 6), .asg (.tmp 14), none, [7, 3, 0, 1, 2, 3, 4, 5, 6, 7]⟩])
   .ret)),
 [.tmp 6]⟩
theorem ok28 : FdOk Try.prog 28 fd28 := FdOk.of (by kernel_rfl)
abbrev T28 : List Nat := [13, 2, 9, 1, 0]
theorem hT28 : fd28.body.T = T28 := by kernel_rfl

/-- waymark/waymarkref10.Common -/
def fd29 : Fd := ⟨36,
 (.seq
  (.reg false [
    ⟨(some 6), .asg (.val (.int .i64 0)), none, []⟩])
  (.seq
   (.reg false [
     ⟨(some 10), .mov (.tmp 2), none, []⟩,
     ⟨(some 11), .mov (.tmp 10), none, [0]⟩,
     ⟨(some 12), .mov (.tmp 0), (some (11, true)), [1]⟩,
     ⟨(some 13), .bin .rem (.tmp 12) (.val (.int .i64 2)), (some (11, true)), [2, 1]⟩,
     ⟨(some 14), .bin .eql (.tmp 13) (.val (.int .i64 1)), (some (11, true)), [3, 1]⟩,
     ⟨(some 15), .pick (.tmp 11) (.tmp 14) (.val (.bool false)), none, [1, 4]⟩,
     ⟨(some 16), .mov (.tmp 15), none, [5, 1]⟩,
     ⟨(some 17), .mov (.tmp 1), (some (16, true)), [6]⟩,
     ⟨(some 18), .bin .rem (.tmp 17) (.val (.int .i64 2)), (some (16, true)), [7, 6]⟩,
     ⟨(some 19), .bin .eql (.tmp 18) (.val (.int .i64 1)), (some (16, true)), [8, 6]⟩,
     ⟨(some 20), .pick (.tmp 16) (.tmp 19) (.val (.bool false)), none, [6, 9]⟩,
     ⟨(some 7), .asg (.tmp 20), none, [10, 6, 0, 1, 2, 3, 4, 5, 6, 7, 8, 9, 10]⟩])
   (.seq
    (.reg false [
      ⟨(some 21), .mov (.tmp 0), none, []⟩,
      ⟨(some 22), .bin .quo (.tmp 21) (.val (.int .i64 2)), none, [0]⟩,
      ⟨(some 23), .bin .eql (.tmp 22) (.val (.int .i64 1)), none, [1]⟩,
      ⟨(some 24), .mov (.tmp 23), none, [2]⟩,
      ⟨(some 25), .mov (.tmp 1), (some (24, true)), [3]⟩,
      ⟨(some 26), .bin .quo (.tmp 25) (.val (.int .i64 2)), (some (24, true)), [4, 3]⟩,
      ⟨(some 27), .bin .eql (.tmp 26) (.val (.int .i64 1)), (some (24, true)), [5, 3]⟩,
      ⟨(some 28), .pick (.tmp 24) (.tmp 27) (.val (.bool false)), none, [3, 6]⟩,
      ⟨(some 8), .asg (.tmp 28), none, [7, 3, 0, 1, 2, 3, 4, 5, 6, 7]⟩])
    (.seq
     (.reg false [
       ⟨(some 9), .asg (.val (.int .i64 0)), none, []⟩])
     (.seq
      (.seq
       (.reg false [
         ⟨(some 29), .mov (.tmp 7), none, []⟩])
       (.cond (.tmp 29)
        (.reg false [
          ⟨(some 30), .mov (.tmp 9), none, []⟩,
          ⟨(some 31), .bin .add (.tmp 30) (.val (.int .i64 1)), none, [0]⟩,
          ⟨(some 9), .asg (.tmp 31), none, [1, 0, 1]⟩])
        .skip))
      (.seq
       (.seq
        (.reg false [
          ⟨(some 32), .mov (.tmp 8), none, []⟩])
        (.cond (.tmp 32)
         (.reg false [
           ⟨(some 33), .mov (.tmp 9), none, []⟩,
           ⟨(some 34), .bin .add (.tmp 33) (.val (.int .i64 2)), none, [0]⟩,
           ⟨(some 9), .asg (.tmp 34), none, [1, 0, 1]⟩])
         .skip))
       (.seq
        (.reg false [
          ⟨(some 35), .mov (.tmp 9), none, []⟩,
          ⟨(some 6), .asg (.tmp 35), none, [0, 0]⟩])
        .ret))))))),
 [.tmp 6]⟩
theorem ok29 : FdOk Try.prog 29 fd29 := FdOk.of (by kernel_rfl)
abbrev T29 : List Nat := [8, 9, 7, 27, 23, 19, 1, 15, 14, 0, 10, 2]
theorem hT29 : fd29.body.T = T29 := by kernel_rfl

def lp30x0 : Cd :=
 (.seq
  (.reg false [
    ⟨(some 15), .bin .lss (.tmp 14) (.tmp 13), none, []⟩])
  (.seq
   (.cond (.tmp 15)
    .skip
    (.exit 2))
   (.seq
    (.block 3
     (.seq
      (.reg false [
        ⟨(some 16), .mov (.tmp 14), none, []⟩,
        ⟨(some 6), .asg (.tmp 16), none, [0, 0]⟩])
      (.seq
       (.reg true [
         ⟨(some 17), .mov (.tmp 0), none, []⟩,
         ⟨(some 18), .mov (.tmp 5), none, []⟩,
         ⟨(some 19), .idxA 1 (.tmp 17) (.tmp 18), none, [0, 1]⟩,
         ⟨(some 20), .load none (.tmp 19), none, [2]⟩,
         ⟨(some 21), .mov (.tmp 1), none, []⟩,
         ⟨(some 22), .mov (.tmp 6), none, []⟩,
         ⟨(some 23), .idxA 1 (.tmp 21) (.tmp 22), none, [4, 5]⟩,
         ⟨(some 24), .load none (.tmp 23), none, [6]⟩,
         ⟨(some 25), .call 16 [(.tmp 20), (.tmp 24)], none, [3, 7]⟩])
       (.cond (.tmp 25)
        (.seq
         (.reg false [
           ⟨(some 4), .asg (.val (.bool true)), none, []⟩])
         .ret)
        .skip))))
    (.reg false [
      ⟨(some 26), .bin .add (.tmp 14) (.val (.int .i64 1)), none, []⟩,
      ⟨(some 14), .mov (.tmp 26), none, [0]⟩]))))
def lp30x1 : Cd :=
 (.seq
  (.reg false [
    ⟨(some 10), .bin .lss (.tmp 9) (.tmp 8), none, []⟩])
  (.seq
   (.cond (.tmp 10)
    .skip
    (.exit 0))
   (.seq
    (.block 1
     (.seq
      (.reg false [
        ⟨(some 11), .mov (.tmp 9), none, []⟩,
        ⟨(some 5), .asg (.tmp 11), none, [0, 0]⟩])
      (.seq
       (.reg false [
         ⟨(some 12), .mov (.tmp 1), none, []⟩,
         ⟨(some 13), .len false (.tmp 12), none, [0]⟩,
         ⟨(some 14), .mov (.val (.int .i64 0)), none, []⟩])
       (.block 2
        (.loop [] lp30x0)))))
    (.reg false [
      ⟨(some 27), .bin .add (.tmp 9) (.val (.int .i64 1)), none, []⟩,
      ⟨(some 9), .mov (.tmp 27), none, [0]⟩]))))
/-- waymark/waymarkref10.share -/
def fd30 : Fd := ⟨28,
 (.seq
  (.reg false [
    ⟨(some 4), .asg (.val (.bool false)), none, []⟩])
  (.seq
   (.seq
    (.reg false [
      ⟨(some 7), .mov (.tmp 0), none, []⟩,
      ⟨(some 8), .len false (.tmp 7), none, [0]⟩,
      ⟨(some 9), .mov (.val (.int .i64 0)), none, []⟩])
    (.block 0
     (.loop [] lp30x1)))
   (.seq
    (.reg false [
      ⟨(some 4), .asg (.val (.bool false)), none, []⟩])
    .ret))),
 [.tmp 4]⟩
theorem ok30 : FdOk Try.prog 30 fd30 := FdOk.of (by kernel_rfl)
abbrev T30 : List Nat := [27, 26, 23, 21, 6, 19, 17, 5, 14, 1, 9, 0]
theorem hT30 : fd30.body.T = T30 := by kernel_rfl

/-- waymark/adj.level -/
def fd31 : Fd := ⟨9,
 (.seq
  (.reg false [
    ⟨(some 2), .asg (.val (.bool false)), none, []⟩])
  (.seq
   (.reg false [
     ⟨(some 3), .mov (.tmp 0), none, []⟩,
     ⟨(some 4), .bin .geq (.tmp 3) (.val (.int .i64 1)), none, [0]⟩,
     ⟨(some 5), .mov (.tmp 4), none, [1]⟩,
     ⟨(some 6), .mov (.tmp 0), (some (5, true)), [2]⟩,
     ⟨(some 7), .bin .leq (.tmp 6) (.val (.int .i64 3)), (some (5, true)), [3, 2]⟩,
     ⟨(some 8), .pick (.tmp 5) (.tmp 7) (.val (.bool false)), none, [2, 4]⟩,
     ⟨(some 2), .asg (.tmp 8), none, [5, 2, 0, 1, 2, 3, 4, 5]⟩])
   .ret)),
 [.tmp 2]⟩
theorem ok31 : FdOk Try.prog 31 fd31 := FdOk.of (by kernel_rfl)
abbrev T31 : List Nat := [7, 4, 0]
theorem hT31 : fd31.body.T = T31 := by kernel_rfl

/-- waymark/adj.state -/
def fd32 : Fd := ⟨9,
 (.seq
  (.reg false [
    ⟨(some 2), .asg (.val (.bool false)), none, []⟩])
  (.seq
   (.reg false [
     ⟨(some 3), .mov (.tmp 0), none, []⟩,
     ⟨(some 4), .bin .geq (.tmp 3) (.val (.int .i64 0)), none, [0]⟩,
     ⟨(some 5), .mov (.tmp 4), none, [1]⟩,
     ⟨(some 6), .mov (.tmp 0), (some (5, true)), [2]⟩,
     ⟨(some 7), .bin .leq (.tmp 6) (.val (.int .i64 2)), (some (5, true)), [3, 2]⟩,
     ⟨(some 8), .pick (.tmp 5) (.tmp 7) (.val (.bool false)), none, [2, 4]⟩,
     ⟨(some 2), .asg (.tmp 8), none, [5, 2, 0, 1, 2, 3, 4, 5]⟩])
   .ret)),
 [.tmp 2]⟩
theorem ok32 : FdOk Try.prog 32 fd32 := FdOk.of (by kernel_rfl)
abbrev T32 : List Nat := [7, 4, 0]
theorem hT32 : fd32.body.T = T32 := by kernel_rfl

/-- waymark/adj.hold -/
def fd33 : Fd := ⟨9,
 (.seq
  (.reg false [
    ⟨(some 2), .asg (.val (.bool false)), none, []⟩])
  (.seq
   (.reg false [
     ⟨(some 3), .mov (.tmp 0), none, []⟩,
     ⟨(some 4), .bin .geq (.tmp 3) (.val (.int .i64 1)), none, [0]⟩,
     ⟨(some 5), .mov (.tmp 4), none, [1]⟩,
     ⟨(some 6), .mov (.tmp 0), (some (5, true)), [2]⟩,
     ⟨(some 7), .bin .leq (.tmp 6) (.val (.int .i64 65535)), (some (5, true)), [3, 2]⟩,
     ⟨(some 8), .pick (.tmp 5) (.tmp 7) (.val (.bool false)), none, [2, 4]⟩,
     ⟨(some 2), .asg (.tmp 8), none, [5, 2, 0, 1, 2, 3, 4, 5]⟩])
   .ret)),
 [.tmp 2]⟩
theorem ok33 : FdOk Try.prog 33 fd33 := FdOk.of (by kernel_rfl)
abbrev T33 : List Nat := [7, 4, 0]
theorem hT33 : fd33.body.T = T33 := by kernel_rfl

/-- bytes.Clone -/
def fd34 : Fd := ⟨8,
 (.seq
  (.reg false [
    ⟨(some 2), .asg (.val .nils), none, []⟩])
  (.seq
   (.seq
    (.reg false [
      ⟨(some 3), .mov (.tmp 0), none, []⟩,
      ⟨(some 4), .eq .slice false (.tmp 3) (.val .nils), none, [0]⟩])
    (.cond (.tmp 4)
     (.seq
      (.reg false [
        ⟨(some 2), .asg (.val .nils), none, []⟩])
      .ret)
     .skip))
   (.seq
    (.reg false [
      ⟨(some 5), .bslice false 1 0 [(.int .u8 0)] [], none, []⟩,
      ⟨(some 6), .mov (.tmp 0), none, []⟩,
      ⟨(some 7), .appd 1 1 (.tmp 5) (.tmp 6), none, [0, 1]⟩,
      ⟨(some 2), .asg (.tmp 7), none, [2, 2, 0, 1, 2]⟩])
    .ret))),
 [.tmp 2]⟩
theorem ok34 : FdOk Try.prog 34 fd34 := FdOk.of (by kernel_rfl)
abbrev T34 : List Nat := [0]
theorem hT34 : fd34.body.T = T34 := by kernel_rfl

/-- waymark/waymarkref01.Twin -/
def fd35 : Fd := ⟨6,
 (.seq
  (.reg false [
    ⟨(some 2), .asg (.val .nils), none, []⟩])
  (.seq
   (.reg false [
     ⟨(some 3), .bslice false 1 0 [(.int .u8 0)] [], none, []⟩,
     ⟨(some 4), .mov (.tmp 0), none, []⟩,
     ⟨(some 5), .appd 1 1 (.tmp 3) (.tmp 4), none, [0, 1]⟩,
     ⟨(some 2), .asg (.tmp 5), none, [2, 2, 0, 1, 2]⟩])
   .ret)),
 [.tmp 2]⟩
theorem ok35 : FdOk Try.prog 35 fd35 := FdOk.of (by kernel_rfl)
abbrev T35 : List Nat := [0]
theorem hT35 : fd35.body.T = T35 := by kernel_rfl

/-- bytes.Equal -/
def fd36 : Fd := ⟨10,
 (.seq
  (.reg false [
    ⟨(some 4), .asg (.val (.bool false)), none, []⟩])
  (.seq
   (.reg false [
     ⟨(some 5), .mov (.tmp 0), none, []⟩,
     ⟨(some 6), .b2s (.tmp 5), none, [0]⟩,
     ⟨(some 7), .mov (.tmp 1), none, []⟩,
     ⟨(some 8), .b2s (.tmp 7), none, [2]⟩,
     ⟨(some 9), .bin .eql (.tmp 6) (.tmp 8), none, [1, 3]⟩,
     ⟨(some 4), .asg (.tmp 9), none, [4, 0, 1, 2, 3, 4]⟩])
   .ret)),
 [.tmp 4]⟩
theorem ok36 : FdOk Try.prog 36 fd36 := FdOk.of (by kernel_rfl)
abbrev T36 : List Nat := [1, 0]
theorem hT36 : fd36.body.T = T36 := by kernel_rfl


end Go.Ev

/-! text T1 -/
set_option linter.unusedVariables false
namespace Go.Ev
open Go.Proofs (Try.prog)

/-! ### Names, sides, adjacencies, hellos -/
structure Sy where
  (a b c d e f : UInt8)
  deriving DecidableEq
def syL (s : Sy) : List AV := [bA s.a, bA s.b, bA s.c, bA s.d, bA s.e, bA s.f]
abbrev ni (n : Int) : AV := .int .i64 n
abbrev nn (n : Nat) : AV := .int .i64 n
def vS (v : List UInt8) : AV := .sl false false 1 (bsA v)
def vF (v : List UInt8) : AV := .sl true false 1 (bsA v)
def vsS (l : List (List UInt8)) : List AV := l.map vS
def vsF (l : List (List UInt8)) : List AV := l.map vF
def slV (l : List (List UInt8)) : AV := .sl false false 1 (vsS l)
def slF (l : List (List UInt8)) : AV := .sl true false 1 (vsF l)
structure Loc where
  sys : Sy
  num : UInt8
  level : Int
  areas : List (List UInt8)
structure Adj where
  state : Int
  peer : Sy
  num : UInt8
  level : Int
  til : Int
  deriving DecidableEq
structure Hel where
  sys : Sy
  num : UInt8
  level : Int
  hold : Int
  areas : List (List UInt8)
  state : Int
  named : Bool
  their : Sy
  there : UInt8
def locC (l : Loc) : List AV := [bA l.sys.a, bA l.sys.b, bA l.sys.c, bA l.sys.d, bA l.sys.e, bA l.sys.f, bA l.num, ni l.level, slV l.areas]
def adjC (a : Adj) : List AV := [ni a.state, bA a.peer.a, bA a.peer.b, bA a.peer.c, bA a.peer.d, bA a.peer.e, bA a.peer.f, bA a.num, ni a.level, ni a.til]
def helC (h : Hel) : List AV := [bA h.sys.a, bA h.sys.b, bA h.sys.c, bA h.sys.d, bA h.sys.e, bA h.sys.f, bA h.num, ni h.level, ni h.hold, slV h.areas, ni h.state, .bool h.named, bA h.their.a, bA h.their.b, bA h.their.c, bA h.their.d, bA h.their.e, bA h.their.f, bA h.there]
def locA (l : Loc) : AV := .agg (locC l)
def adjA (a : Adj) : AV := .agg (adjC a)
def helA (h : Hel) : AV := .agg (helC h)
def locF (l : Loc) : AV := .agg [bA l.sys.a, bA l.sys.b, bA l.sys.c, bA l.sys.d, bA l.sys.e, bA l.sys.f, bA l.num, ni l.level, slF l.areas]
def helF (h : Hel) : AV := .agg [bA h.sys.a, bA h.sys.b, bA h.sys.c, bA h.sys.d, bA h.sys.e, bA h.sys.f, bA h.num, ni h.level, ni h.hold, slF h.areas, ni h.state, .bool h.named, bA h.their.a, bA h.their.b, bA h.their.c, bA h.their.d, bA h.their.e, bA h.their.f, bA h.there]
def sy0 : Sy := ⟨0, 0, 0, 0, 0, 0⟩
/-- What is down knows nothing. -/
def dn : Adj := ⟨2, sy0, 0, 0, 0⟩
abbrev sTw (l out : List (List UInt8)) (i : Nat) : List AV := st 19 [(3, .own true 1 (vsF out)), (6, slV l), (7, nn l.length), (8, nn i)]
abbrev sSA (a b : List (List UInt8)) (i : Nat) : List AV := st 27 [(0, slV a), (1, slV b), (12, nn a.length), (13, nn i)]
abbrev sSB (a b : List UInt8) (i : Nat) : List AV := st 26 [(0, slB a), (1, slB b), (12, nn a.length), (13, nn i)]
abbrev sShO (a b : List (List UInt8)) (i : Nat) : List AV := st 26 [(1, slV b), (9, slV a), (10, nn a.length), (11, nn i)]
abbrev sShI (a b : List (List UInt8)) (i : Nat) (x : List UInt8) (j : Nat) : List AV := st 26 [(1, slV b), (6, vS x), (9, slV a), (10, nn a.length), (11, nn i), (15, slV b), (16, nn b.length), (17, nn j)]
abbrev rShO (a b : List (List UInt8)) (i : Nat) : List AV := st 28 [(0, slV a), (1, slV b), (8, nn a.length), (9, nn i)]
abbrev rShI (a b : List (List UInt8)) (i j : Nat) : List AV := st 28 [(0, slV a), (1, slV b), (5, nn i), (8, nn a.length), (9, nn i), (13, nn b.length), (14, nn j)]
end Go.Ev
