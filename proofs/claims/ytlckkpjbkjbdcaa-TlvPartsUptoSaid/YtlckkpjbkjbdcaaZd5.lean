import Derived.Test.YtlckkpjbkjbdcaaZd4
import Derived.ChangeArms
import Derived.OpenShut
import Derived.Test.YtlckkpjbkjbdcaaRows
import Derived.WideKeyArgs
import Derived.ChangeSame
import Derived.ProofKit
import Derived.JoinedCond

/-! text E35 -/
set_option linter.unusedVariables false
set_option linter.unusedSimpArgs false
namespace Go.Ev
open Go.RowKit

/-! ### What comes in: from a reading to abstract values -/
/-- An element, by its cells. -/
def elD (g : Option Nat) (ys : List AV) : Option AV :=
  match g, ys with
  | some _, ys => some (.agg ys)
  | none, [y] => if single y then some y else none
  | _, _ => none
def fsD {H : Type} (P : Program) (f : TypeId → DataW H → Option (List AV)) : Nat → List Field → List (DataW H) → Option (List AV)
  | _, [], [] => some []
  | off, fl :: fs, d :: ds => match f fl.type d, fsD P f (off + P.cellsOf fl.type) fs ds with
    | some xs, some ys => if fl.offset = off ∧ xs.length = P.cellsOf fl.type then some (xs ++ ys) else none
    | _, _ => none
  | _, _, _ => none
/-- The cells of a value of a type, by what was read. -/
def avD {H : Type} (P : Program) : Nat → TypeId → DataW H → Option (List AV)
  | 0, _, _ => none
  | n + 1, t, d => match P.underlying t, d with
    | some .bool, .lit (.bool b) => some [.bool b]
    | some (.int _), .lit (.int k m) => some [.int k m]
    | some .string, .lit (.string bs) => some [.str ⟨bs.toArray⟩]
    | some (.pointer _), .nil => some [.nilp]
    | some (.slice e), .nil => some [.sl false false (P.cellsOf e) []]
    | some (.slice e), .slice elems _ => match aggOf P e with
      | some g => if 0 < P.cellsOf e then (mapOpt (fun d => match avD P n e d with
        | some ys => if ys.length = P.cellsOf e then elD g ys else none
        | none => none) elems).map fun xs => [.sl false false (P.cellsOf e) xs] else none
      | none => none
    | some (.struct fs), .agg ds => fsD P (avD P n) 0 fs.toList ds
    | some (.array m e), .agg ds => (mapOpt (fun d => match avD P n e d with
        | some ys => if ys.length = P.cellsOf e then some ys else none
        | none => none) ds).map List.flatten
    | _, _ => none

/-- All that is there stays as it is. -/
def cellsIn (W : World) (g : Nat) : Nat :=
  match W.heap[g]? with
  | some (.cells cs _ _) => cs.size
  | _ => 0
def ghIn (W : World) : Gh := ⟨W.heap.size, cellsIn W, fun _ => none, fun _ => none, fun _ => False⟩
theorem cellsIn_new (W : World) : ∀ g, W.heap.size ≤ g → cellsIn W g = 0 := by
  intro g hg
  unfold cellsIn
  rw [Array.getElem?_eq_none hg]
theorem cell_in {W : World} {a : Addr} {v : Value} (h : W.cell? a = some v) : a = ⟨a.block, a.off, none⟩ ∧ a.off < cellsIn W a.block := by
  unfold World.cell? at h
  unfold cellsIn
  cases hb : W.heap[a.block]? with
  | none => simp [hb] at h
  | some ob =>
    cases ob with
    | cells cs e f =>
      simp only [hb] at h ⊢
      split at h
      · cases h
      · rename_i hs
        refine ⟨?_, (Array.getElem?_eq_some_iff.1 h).1⟩
        cases a with
        | mk b o s =>
          cases s with
          | none => rfl
          | some _ => simp at hs
    | _ => simp [hb] at h

theorem mapM_some {α β : Type} {f : α → Option β} : ∀ {l : List α} {r : List β}, l.mapM f = some r → r.length = l.length ∧ ∀ (j : Nat) (x : α), l[j]? = some x → ∃ y, r[j]? = some y ∧ f x = some y
  | [], r, h => by
    simp at h
    subst h
    exact ⟨rfl, fun j x h => by simp at h⟩
  | x :: l, r, h => by
    rw [List.mapM_cons] at h
    cases h1 : f x with
    | none => simp [h1] at h
    | some y =>
      cases h2 : l.mapM f with
      | none => simp [h1, h2] at h
      | some ys =>
        simp [h1, h2] at h
        subst h
        obtain ⟨e1, e2⟩ := mapM_some h2
        refine ⟨by simp [e1], fun j z hz => ?_⟩
        cases j with
        | zero => simp at hz; subst hz; exact ⟨y, rfl, h1⟩
        | succ j => simpa using e2 j z (by simpa using hz)
theorem cells_in {W : World} {base n : Nat} {a : Addr} {cs : List Value} (h : W.cells? base a n = some cs) : cs.length = n ∧ ∀ (j : Nat), j < n → ∃ u, cs[j]? = some u ∧ W.cell? (a.add j) = some u := by
  unfold World.cells? at h
  split at h
  · obtain ⟨e1, e2⟩ := mapM_some h
    refine ⟨by simpa using e1, fun j hj => ?_⟩
    obtain ⟨u, h1, h2⟩ := e2 j j (by simp [hj])
    exact ⟨u, h1, h2⟩
  · cases h
theorem fsD_V {H : Type} {P : Program} {W : World} {f : TypeId → DataW H → Option (List AV)} {tr : TypeId → List Value → Option (DataW H × List MemPlace)} (hf : ∀ t cs d ps ys, tr t cs = some (d, ps) → f t d = some ys → cs.length = ys.length → VL (ghIn W) W ys cs) :
    ∀ (fs : List Field) (off : Nat) (cs : List Value) (xs : List (DataW H × List MemPlace)) (ys : List AV), (∀ (i : Nat) (fl : Field), fs[i]? = some fl → tr fl.type ((cs.drop fl.offset).take (P.cellsOf fl.type)) = xs[i]?) → fsD P f off fs (xs.map (·.1)) = some ys → cs.length = off + ys.length → VL (ghIn W) W ys (cs.drop off)
  | [], off, cs, xs, ys, h1, h2, hl => by
    cases xs with
    | cons _ _ => simp [fsD] at h2
    | nil =>
      simp only [List.map_nil, fsD, Option.some.injEq] at h2
      subst h2
      rw [List.drop_eq_nil_of_le (by simp at hl; omega)]
      rfl
  | fl :: fs, off, cs, xs, ys, h1, h2, hl => by
    cases xs with
    | nil => simp [fsD] at h2
    | cons x xs' =>
      have h3 : tr fl.type ((cs.drop fl.offset).take (P.cellsOf fl.type)) = some x := h1 0 fl rfl
      simp only [List.map_cons, fsD] at h2
      cases h5 : f fl.type x.1 with
      | none => simp [h5] at h2
      | some y1 =>
        cases h6 : fsD P f (off + P.cellsOf fl.type) fs (xs'.map (·.1)) with
        | none => simp [h5, h6] at h2
        | some y2 =>
          simp only [h5, h6] at h2
          split at h2
          · rename_i hc
            obtain ⟨c1, c2⟩ := hc
            simp only [Option.some.injEq] at h2
            subst h2
            have v1 := hf fl.type _ x.1 x.2 y1 h3 h5 (by rw [List.length_take, List.length_drop, c1, c2]; simp at hl; omega)
            have v2 := fsD_V hf fs (off + P.cellsOf fl.type) cs xs' y2 (fun i f' hi => by simpa using h1 (i + 1) f' (by simpa using hi)) h6 (by simp at hl; omega)
            rw [c1] at v1
            have hsplit : cs.drop off = (cs.drop off).take (P.cellsOf fl.type) ++ cs.drop (off + P.cellsOf fl.type) := by
              rw [← List.drop_drop, List.take_append_drop]
            rw [hsplit]
            exact VL_app v1 v2
          · cases h2
where
  VL_app {γ : Gh} {w : World} : ∀ {xs ys : List AV} {us vs : List Value}, VL γ w xs us → VL γ w ys vs → VL γ w (xs ++ ys) (us ++ vs)
    | [], _, _, _, h, h2 => by cases h; exact h2
    | x :: xs, _, _, _, ⟨v, r, e, h1, h2⟩, h3 => by subst e; exact ⟨v, r ++ _, rfl, h1, VL_app h2 h3⟩

theorem VL_flat {γ : Gh} {w : World} {z : Nat} : ∀ {yss : List (List AV)} {us : List Value}, (∀ y ∈ yss, y.length = z) → us.length = yss.length * z → (∀ (i : Nat) (y : List AV), yss[i]? = some y → VL γ w y ((us.drop (i * z)).take z)) → VL γ w yss.flatten us
  | [], us, _, hl, _ => by
    have : us = [] := List.eq_nil_of_length_eq_zero (by simpa using hl)
    subst this
    rfl
  | y :: yss, us, hz, hl, h => by
    have h0 := h 0 y rfl
    rw [Nat.zero_mul, List.drop_zero] at h0
    have hl' : us.length = yss.length * z + z := by rw [hl, List.length_cons, Nat.add_mul, Nat.one_mul]
    have h1 := VL_flat (γ := γ) (w := w) (z := z) (yss := yss) (us := us.drop z) (fun y hy => hz y (List.mem_cons_of_mem _ hy)) (by rw [List.length_drop, hl']; omega) (fun i y hy => by
      have := h (i + 1) y (by simpa using hy)
      rwa [List.drop_drop, show z + i * z = (i + 1) * z by rw [Nat.add_mul]; omega])
    rw [List.flatten_cons, ← List.take_append_drop z us]
    exact fsD_V.VL_app h0 h1

/-- What is read at the call's begin, as abstract values. -/
theorem open_V {H : Type} {enc : TypeId × Value → H} {P : Program} {W : World} {base : Nat} {sp : Nat → Bool} {held : Bool} : ∀ (m n : Nat) (t : TypeId) (cs : List Value) (d : DataW H) (ps : List MemPlace) (ys : List AV),
    DataW.trod enc P W base sp held n t cs = some (d, ps) → avD P m t d = some ys → cs.length = ys.length → VL (ghIn W) W ys cs
  | 0, n, t, cs, d, ps, ys, _, h, _ => by simp [avD] at h
  | m + 1, n, t, cs, d, ps, ys, h, ha, hcl => by
    have IH := fun n => open_V (enc := enc) (P := P) (W := W) (base := base) (sp := sp) (held := held) m n
    simp only [avD] at ha
    cases hu : P.underlying t with
    | none => simp [hu] at ha
    | some td =>
      rw [hu] at ha
      cases td with
      | bool =>
        obtain ⟨b, rfl, e⟩ := DataW.trod_bool hu h
        cases e
        simp only [Option.some.injEq] at ha
        subst ha
        exact ⟨_, _, rfl, rfl, rfl⟩
      | int k =>
        obtain ⟨b, rfl, e, _⟩ := DataW.trod_int hu h
        cases e
        simp only [Option.some.injEq] at ha
        subst ha
        exact ⟨_, _, rfl, rfl, rfl⟩
      | string =>
        obtain ⟨b, rfl, e, _⟩ := DataW.trod_string hu h
        cases e
        simp only [Option.some.injEq] at ha
        subst ha
        exact ⟨_, _, rfl, by show _ = _; simp, rfl⟩
      | pointer e =>
        rcases DataW.trod_pointer hu h with ⟨rfl, e⟩ | ⟨a, cs', y, n', _, rfl, e, _⟩
        · cases e
          simp only [Option.some.injEq] at ha
          subst ha
          exact ⟨_, _, rfl, rfl, rfl⟩
        · cases e; cases ha
      | slice e =>
        rcases DataW.trod_slice hu h with ⟨rfl, e⟩ | ⟨a, len, cap, elems, rest, n', _, rfl, e1, hb, hlc, _, hel, helem, _⟩
        · cases e
          simp only [Option.some.injEq] at ha
          subst ha
          exact ⟨_, _, rfl, ⟨none, 0, rfl, Nat.le_refl _, fun _ => ⟨rfl, rfl, rfl⟩, (fun _ _ h => nomatch h), fun h => absurd rfl h⟩, rfl⟩
        · cases e1
          simp only at ha
          cases hg : aggOf P e with
          | none => simp [hg] at ha
          | some g =>
            simp only [hg] at ha
            split at ha
            · rename_i hz
              obtain ⟨xs, hxs, rfl⟩ := map_some ha
              obtain ⟨m1, m2⟩ := mapOpt_get hxs
              rw [List.length_map] at m1
              -- element i, its cells
              have hi : ∀ (i : Nat) (x : AV), xs[i]? = some x → ∃ ys cs, cs.length = P.cellsOf e ∧ ys.length = P.cellsOf e ∧ elD g ys = some x ∧ VL (ghIn W) W ys cs ∧ ∀ j, j < P.cellsOf e → ∃ u, cs[j]? = some u ∧ W.cell? ((a.add (i * P.cellsOf e)).add j) = some u := by
                intro i x hx
                have hlt : i < len := by
                  have := (List.getElem?_eq_some_iff.1 hx).1
                  omega
                obtain ⟨d, hd, hdx⟩ := m2 i x hx
                rw [List.getElem?_map] at hd
                have hE := helem i hlt
                cases he : elems[i]? with
                | none => rw [he] at hd; cases hd
                | some z =>
                  rw [he] at hd hE
                  simp only [Option.map_some, Option.some.injEq] at hd
                  subst hd
                  obtain ⟨cs, hc, ht⟩ := bind_some hE
                  obtain ⟨hcl', hcc⟩ := cells_in hc
                  cases hy : avD P m e z.1 with
                  | none => simp [hy] at hdx
                  | some ys =>
                    simp only [hy] at hdx
                    split at hdx
                    · rename_i hyl
                      exact ⟨ys, cs, hcl', hyl, hdx, IH n' e cs z.1 z.2 ys ht hy (by rw [hcl', hyl]), hcc⟩
                    · cases hdx
              refine ⟨_, _, rfl, ⟨some a, cap, by rw [m1, hel], by rw [m1, hel]; exact hlc, (fun e => by cases e), (fun _ _ e => nomatch e), fun hne => ?_⟩, rfl⟩
              have hpos : 0 < xs.length := List.length_pos_iff.2 hne
              obtain ⟨ys0, cs0, _, _, _, _, hc0⟩ := hi 0 _ (List.getElem?_eq_getElem hpos)
              obtain ⟨u0, _, hu0⟩ := hc0 0 hz
              have ha : a = ⟨a.block, a.off, none⟩ := by
                have := (cell_in hu0).1
                rw [Nat.zero_mul] at this
                simpa [Addr.add] using this
              refine ⟨a.block, a.off, by rw [← ha], ?_, VS_mk fun i x hx => ?_⟩
              · obtain ⟨ys1, cs1, _, _, _, _, hc1⟩ := hi (xs.length - 1) _ (List.getElem?_eq_getElem (by omega))
                obtain ⟨u1, _, hu1⟩ := hc1 (P.cellsOf e - 1) (by omega)
                rw [ha, add_none, add_none] at hu1
                have := (cell_in hu1).2
                simp only at this
                show a.off + xs.length * P.cellsOf e ≤ cellsIn W a.block
                have e1 : xs.length * P.cellsOf e = (xs.length - 1) * P.cellsOf e + P.cellsOf e := by
                  rw [← Nat.succ_mul]; congr 1; omega
                omega
              · obtain ⟨ys, cs, l1, l2, hel', hv, hc⟩ := hi i x hx
                have hvc : VC (ghIn W) W ys a.block (a.off + i * P.cellsOf e) := VC_of_VL hv fun j u hj => by
                  obtain ⟨u', h1, h2⟩ := hc j (by have := (List.getElem?_eq_some_iff.1 hj).1; omega)
                  rw [hj] at h1
                  cases h1
                  rw [ha, add_none, add_none] at h2
                  exact h2
                have hcx : cellsOf x = ys := by
                  cases g with
                  | some k => simp only [elD, Option.some.injEq] at hel'; subst hel'; rfl
                  | none =>
                    match ys, hel' with
                    | [y], hel' =>
                      simp only [elD] at hel'
                      split at hel'
                      · rename_i hs
                        cases hel'
                        cases x <;> first | rfl | cases hs
                      · cases hel'
                exact VE_of (by rw [hcx]; exact l2) (by rw [hcx]; exact hvc)
            · cases ha
      | struct fs =>
        obtain ⟨xs, n', rfl, e, hcs, hxl, hx⟩ := DataW.trod_struct hu h
        cases e
        simp only at ha
        have := fsD_V (P := P) (W := W) (f := avD P m) (tr := DataW.trod enc P W base sp held n') (fun t cs d ps ys h1 h2 h3 => IH n' t cs d ps ys h1 h2 h3) fs.toList 0 cs xs ys (fun i f hf => hx i f (by simpa using hf)) ha (by rw [Nat.zero_add]; exact hcl)
        simpa using this
      | array k e =>
        obtain ⟨xs, n', rfl, e1, hcs, hxl, hx⟩ := DataW.trod_array hu h
        cases e1
        simp only at ha
        obtain ⟨yss, hy, rfl⟩ := map_some ha
        obtain ⟨m1, m2⟩ := mapOpt_get hy
        rw [List.length_map] at m1
        have hall : ∀ (i : Nat) (y : List AV), yss[i]? = some y → ∃ z, xs[i]? = some z ∧ avD P m e z.1 = some y ∧ y.length = P.cellsOf e := by
          intro i y hyi
          obtain ⟨d, hd, hdx⟩ := m2 i y hyi
          rw [List.getElem?_map] at hd
          cases hz : xs[i]? with
          | none => rw [hz] at hd; cases hd
          | some z =>
            rw [hz] at hd
            simp only [Option.map_some, Option.some.injEq] at hd
            subst hd
            cases hav : avD P m e z.1 with
            | none => simp [hav] at hdx
            | some y' =>
              simp only [hav] at hdx
              split at hdx
              · rename_i hl; cases hdx; exact ⟨z, rfl, hav, hl⟩
              · cases hdx
        have hlen : cs.length = yss.length * P.cellsOf e := by
          rw [hcl]
          have : ∀ (l : List (List AV)), (∀ y ∈ l, y.length = P.cellsOf e) → l.flatten.length = l.length * P.cellsOf e := by
            intro l
            induction l with
            | nil => intro _; simp
            | cons y l ih => intro h; rw [List.flatten_cons, List.length_append, ih fun y hy => h y (List.mem_cons_of_mem _ hy), h y (List.mem_cons_self ..), List.length_cons, Nat.add_mul]; omega
          exact this yss fun y hy => by
            obtain ⟨i, hi, e⟩ := List.getElem_of_mem hy
            obtain ⟨z, _, _, hl⟩ := hall i y (by rw [← e]; exact List.getElem?_eq_getElem hi)
            exact hl
        refine VL_flat (z := P.cellsOf e) (fun y hy => ?_) hlen fun i y hyi => ?_
        · obtain ⟨i, hi, e⟩ := List.getElem_of_mem hy
          obtain ⟨z, _, _, hl⟩ := hall i y (by rw [← e]; exact List.getElem?_eq_getElem hi)
          exact hl
        · obtain ⟨z, hz, hav, hl⟩ := hall i y hyi
          have hik : i < k := by
            have := (List.getElem?_eq_some_iff.1 hz).1
            omega
          have ht := hx i hik
          rw [hz] at ht
          refine IH n' e _ z.1 z.2 y ht hav ?_
          rw [List.length_take, List.length_drop, hl, hlen]
          have hi2 := (List.getElem?_eq_some_iff.1 hyi).1
          have : (i + 1) * P.cellsOf e ≤ yss.length * P.cellsOf e := Nat.mul_le_mul_right _ hi2
          rw [Nat.add_mul] at this
          omega
      | _ => simp at ha
end Go.Ev

/-! text E36 -/
set_option linter.unusedVariables false
set_option linter.unusedSimpArgs false
namespace Go.Ev
open Go.RowKit
open Go.Proofs.Ytlckkpjbkjbdcaa (Rows.uptoBulk Rows.uptoBulkAll)

/-! ### What comes in: its shape, and how much it is -/
def okFs (P : Program) (ok : TypeId → Bool) : Nat → List Field → Bool
  | _, [] => true
  | off, f :: fs => f.offset == off && ok f.type && okFs P ok (off + P.cellsOf f.type) fs
def sumFs (P : Program) : List Field → Nat
  | [] => 0
  | f :: fs => P.cellsOf f.type + sumFs P fs
/-- Types whose readings have their abstract values. -/
def okT (P : Program) : Nat → TypeId → Bool
  | 0, _ => false
  | m + 1, t => match P.underlying t with
    | some .bool | some (.int _) | some .string => P.cellsOf t == 1
    | some (.slice e) => P.cellsOf t == 1 && okT P m e && decide (0 < P.cellsOf e) && (match aggOf P e with
      | some (some _) => true
      | some none => P.cellsOf e == 1
      | none => false)
    | some (.struct fs) => okFs P (okT P m) 0 fs.toList && sumFs P fs.toList == P.cellsOf t
    | some (.array k e) => okT P m e && k * P.cellsOf e == P.cellsOf t
    | _ => false
def TyFs (ty : TypeId → List AV → Prop) : List Field → List AV → Prop
  | [], ys => ys = []
  | f :: fs, ys => ∃ a b, ys = a ++ b ∧ ty f.type a ∧ TyFs ty fs b
/-- Abstract values of a type. -/
def Ty (P : Program) : Nat → TypeId → List AV → Prop
  | 0, _, _ => False
  | m + 1, t, ys => match P.underlying t with
    | some .bool => ∃ b, ys = [.bool b]
    | some (.int k) => ∃ n, k.min ≤ n ∧ n ≤ k.max ∧ ys = [.int k n]
    | some .string => ∃ s, ys = [.str s]
    | some (.slice e) => ∃ xs, ys = [.sl false false (P.cellsOf e) xs] ∧ ∀ x ∈ xs, ∃ zs, Ty P m e zs ∧ elD ((aggOf P e).getD none) zs = some x
    | some (.struct fs) => TyFs (Ty P m) fs.toList ys
    | some (.array k e) => ∃ yss : List (List AV), yss.length = k ∧ ys = yss.flatten ∧ ∀ y ∈ yss, Ty P m e y
    | _ => False

/-- How much an abstract value holds. -/
def szA : AV → Nat
  | .str s => s.size + 1
  | .sl _ _ _ xs => szL xs + 1
  | .agg cs => szL cs
  | _ => 1
where
  szL : List AV → Nat
    | [] => 0
    | x :: xs => szA x + szL xs
theorem szL_append : ∀ (xs ys : List AV), szA.szL (xs ++ ys) = szA.szL xs + szA.szL ys
  | [], ys => by simp [szA.szL]
  | x :: xs, ys => by simp [szA.szL, szL_append xs ys]; omega

theorem mapOpt_some {α β : Type} {f : α → Option β} : ∀ {l : List α}, (∀ x ∈ l, ∃ y, f x = some y) → ∃ r, mapOpt f l = some r
  | [], _ => ⟨[], rfl⟩
  | x :: l, h => by
    obtain ⟨y, hy⟩ := h x (List.mem_cons_self ..)
    obtain ⟨r, hr⟩ := mapOpt_some (l := l) fun z hz => h z (List.mem_cons_of_mem _ hz)
    exact ⟨y :: r, by simp [mapOpt, hy, hr]⟩
theorem Ty_single {P : Program} {m : Nat} {e : TypeId} {ys : List AV} (hg : aggOf P e = some none) (h : Ty P m e ys) : ∃ y, ys = [y] ∧ single y = true := by
  obtain ⟨d, i, h1, h2, h3, h4⟩ := aggOf_cases hg
  cases m with
  | zero => exact h.elim
  | succ m =>
    simp only [Ty, h1] at h
    cases d with
    | struct fs => exact absurd rfl (h3 fs)
    | array n e => exact absurd rfl (h4 n e)
    | bool => obtain ⟨b, rfl⟩ := h; exact ⟨_, rfl, rfl⟩
    | int k => obtain ⟨b, _, _, rfl⟩ := h; exact ⟨_, rfl, rfl⟩
    | string => obtain ⟨b, rfl⟩ := h; exact ⟨_, rfl, rfl⟩
    | slice e => obtain ⟨xs, rfl, _⟩ := h; exact ⟨_, rfl, rfl⟩
    | _ => exact h.elim

variable {H : Type} {enc : TypeId × Value → H} {P : Program} {W : World} {base : Nat} {sp : Nat → Bool} {held : Bool}

/-- One reading's abstract values, their shape and size. -/
def Opened (P : Program) (m : Nat) (t : TypeId) (d : DataW H) : Prop := ∃ ys, avD P m t d = some ys ∧ Ty P m t ys ∧ ys.length = P.cellsOf t ∧ szA.szL ys ≤ Rows.uptoBulk d

theorem fs_open {m : Nat} : ∀ (fs : List Field) (off : Nat) (ds : List (DataW H)), okFs P (okT P m) off fs = true → ds.length = fs.length → (∀ (i : Nat) (f : Field) (d : DataW H), fs[i]? = some f → ds[i]? = some d → Opened P m f.type d) →
    ∃ ys, fsD P (avD P m) off fs ds = some ys ∧ TyFs (Ty P m) fs ys ∧ ys.length = sumFs P fs ∧ szA.szL ys ≤ Rows.uptoBulkAll ds
  | [], off, [], _, _, _ => ⟨[], rfl, rfl, rfl, by simp [szA.szL]⟩
  | [], _, _ :: _, _, h, _ => by simp at h
  | _ :: _, _, [], _, h, _ => by simp at h
  | f :: fs, off, d :: ds, h, hl, ho => by
    simp only [okFs, Bool.and_eq_true, beq_iff_eq] at h
    obtain ⟨xs, a1, a2, a3, a4⟩ := ho 0 f d rfl rfl
    obtain ⟨ys, b1, b2, b3, b4⟩ := fs_open fs (off + P.cellsOf f.type) ds h.2 (by simpa using hl) fun i f' d' h1 h2 => ho (i + 1) f' d' (by simpa using h1) (by simpa using h2)
    refine ⟨xs ++ ys, ?_, ⟨xs, ys, rfl, a2, b2⟩, by simp [sumFs, a3, b3], ?_⟩
    · simp only [fsD, a1, b1]
      rw [if_pos ⟨h.1.1, a3⟩]
    · rw [szL_append]
      simp only [Rows.uptoBulkAll]
      omega
theorem list_open {m : Nat} {e : TypeId} : ∀ (ds : List (DataW H)), (∀ d ∈ ds, Opened P m e d) → ∀ (g : List AV → Option AV), (∀ ys, Ty P m e ys → ys.length = P.cellsOf e → ∃ x, g ys = some x ∧ szA x ≤ szA.szL ys) →
    ∃ xs, mapOpt (fun d => match avD P m e d with
      | some ys => if ys.length = P.cellsOf e then g ys else none
      | none => none) ds = some xs ∧ (∀ x ∈ xs, ∃ zs, Ty P m e zs ∧ g zs = some x) ∧ szA.szL xs ≤ Rows.uptoBulkAll ds
  | [], _, g, _ => ⟨[], rfl, (fun x h => nomatch h), by simp [szA.szL]⟩
  | d :: ds, h, g, hg => by
    obtain ⟨ys, a1, a2, a3, a4⟩ := h d (List.mem_cons_self ..)
    obtain ⟨x, g1, g2⟩ := hg ys a2 a3
    obtain ⟨xs, b1, b2, b3⟩ := list_open ds (fun d hd => h d (List.mem_cons_of_mem _ hd)) g hg
    refine ⟨x :: xs, ?_, fun z hz => ?_, ?_⟩
    · simp only [mapOpt, a1, if_pos a3, g1, b1]
    · rcases List.mem_cons.1 hz with rfl | hz
      · exact ⟨ys, a2, g1⟩
      · exact b2 z hz
    · simp only [szA.szL, Rows.uptoBulkAll]
      omega
theorem arr_open {m : Nat} {e : TypeId} : ∀ (ds : List (DataW H)), (∀ d ∈ ds, Opened P m e d) →
    ∃ yss, mapOpt (fun d => match avD P m e d with
      | some ys => if ys.length = P.cellsOf e then some ys else none
      | none => none) ds = some yss ∧ yss.length = ds.length ∧ (∀ y ∈ yss, Ty P m e y) ∧ yss.flatten.length = ds.length * P.cellsOf e ∧ szA.szL yss.flatten ≤ Rows.uptoBulkAll ds
  | [], _ => ⟨[], rfl, rfl, (fun x h => nomatch h), by simp, by simp [szA.szL]⟩
  | d :: ds, h => by
    obtain ⟨ys, a1, a2, a3, a4⟩ := h d (List.mem_cons_self ..)
    obtain ⟨xs, b1, b2, b3, b4, b5⟩ := arr_open ds (fun d hd => h d (List.mem_cons_of_mem _ hd))
    refine ⟨ys :: xs, ?_, by simp [b2], fun z hz => ?_, by simp [a3, b4, Nat.add_mul]; omega, ?_⟩
    · simp only [mapOpt, a1, if_pos a3, b1]
    · rcases List.mem_cons.1 hz with rfl | hz
      · exact a2
      · exact b3 z hz
    · rw [List.flatten_cons, szL_append]
      simp only [Rows.uptoBulkAll]
      omega

theorem open_Ty : ∀ (m n : Nat) (t : TypeId) (cs : List Value) (d : DataW H) (ps : List MemPlace), DataW.trod enc P W base sp held n t cs = some (d, ps) → okT P m t = true → Opened P m t d
  | 0, _, _, _, _, _, _, h => by simp [okT] at h
  | m + 1, n, t, cs, d, ps, h, hok => by
    have IH := fun n => open_Ty m n
    simp only [okT] at hok
    unfold Opened
    simp only [avD, Ty]
    cases hu : P.underlying t with
    | none => simp [hu] at hok
    | some td =>
      rw [hu] at hok
      cases td with
      | bool =>
        obtain ⟨b, rfl, e⟩ := DataW.trod_bool hu h
        cases e
        exact ⟨_, rfl, ⟨b, rfl⟩, (beq_iff_eq.1 hok).symm, by simp [szA.szL, szA, Rows.uptoBulk]⟩
      | int k =>
        obtain ⟨b, rfl, e, hw⟩ := DataW.trod_int hu h
        cases e
        simp only [Lit.wf, Bool.and_eq_true, decide_eq_true_eq] at hw
        exact ⟨_, rfl, ⟨b, hw.1, hw.2, rfl⟩, (beq_iff_eq.1 hok).symm, by simp [szA.szL, szA, Rows.uptoBulk]⟩
      | string =>
        obtain ⟨b, rfl, e, _⟩ := DataW.trod_string hu h
        cases e
        refine ⟨_, rfl, ⟨_, rfl⟩, (beq_iff_eq.1 hok).symm, ?_⟩
        simp only [szA.szL, szA, Rows.uptoBulk]
        have : (⟨b.data.toList.toArray⟩ : ByteArray).size = b.data.toList.length := by
          show b.data.toList.toArray.size = _
          rw [List.size_toArray]
        rw [this]
        omega
      | slice e =>
        simp only [Bool.and_eq_true, decide_eq_true_eq, beq_iff_eq] at hok
        obtain ⟨⟨⟨o1, o2⟩, o3⟩, o4⟩ := hok
        rcases DataW.trod_slice hu h with ⟨rfl, e⟩ | ⟨a, len, cap, elems, rest, n', _, rfl, e1, _, _, _, hel, helem, _⟩
        · cases e
          exact ⟨_, rfl, ⟨[], rfl, fun x h => nomatch h⟩, o1.symm, by simp [szA.szL, szA, Rows.uptoBulk]⟩
        · cases e1
          cases hg : aggOf P e with
          | none => simp [hg] at o4
          | some g =>
            simp only [hg] at o4
            have hop : ∀ d ∈ elems.map (·.1), Opened P m e d := by
              intro d hd
              obtain ⟨z, hz, rfl⟩ := List.mem_map.1 hd
              obtain ⟨i, hi, rfl⟩ := List.getElem_of_mem hz
              have hE := helem i (by omega)
              rw [List.getElem?_eq_getElem hi] at hE
              obtain ⟨cs, hc, ht⟩ := bind_some hE
              exact IH n' e cs _ _ ht o2
            obtain ⟨xs, x1, x2, x3⟩ := list_open (elems.map (·.1)) hop (elD g) fun ys hty hys => by
              cases g with
              | some k => exact ⟨.agg ys, rfl, by simp [szA]⟩
              | none =>
                obtain ⟨y, rfl, hs⟩ := Ty_single hg hty
                exact ⟨y, by simp [elD, hs], by simp [szA.szL]⟩
            refine ⟨[.sl false false (P.cellsOf e) xs], by simp only [hg, if_pos o3]; exact congrArg (Option.map fun xs => [AV.sl false false (P.cellsOf e) xs]) x1, ⟨xs, rfl, by simpa [hg] using x2⟩, o1.symm, ?_⟩
            simp only [szA.szL, szA, Rows.uptoBulk]
            omega
      | struct fs =>
        simp only [Bool.and_eq_true, beq_iff_eq] at hok
        obtain ⟨xs, n', rfl, e, hcs, hxl, hx⟩ := DataW.trod_struct hu h
        cases e
        obtain ⟨ys, y1, y2, y3, y4⟩ := fs_open (P := P) (m := m) fs.toList 0 (xs.map (·.1)) hok.1 (by simp [hxl]) fun i f d hf hd => by
          rw [List.getElem?_map] at hd
          cases hz : xs[i]? with
          | none => rw [hz] at hd; cases hd
          | some z =>
            rw [hz] at hd
            simp only [Option.map_some, Option.some.injEq] at hd
            subst hd
            have ht := hx i f (by simpa using hf)
            rw [hz] at ht
            have hokf : ∀ (l : List Field) (off i : Nat) (f : Field), okFs P (okT P m) off l = true → l[i]? = some f → okT P m f.type = true := by
              intro l
              induction l with
              | nil => intro off i f _ h; simp at h
              | cons g l ih =>
                intro off i f h hf
                simp only [okFs, Bool.and_eq_true] at h
                cases i with
                | zero => simp at hf; subst hf; exact h.1.2
                | succ i => exact ih _ i f h.2 (by simpa using hf)
            exact IH n' f.type _ _ _ ht (hokf fs.toList 0 i f hok.1 hf)
        refine ⟨ys, y1, y2, by rw [y3]; exact hok.2, ?_⟩
        simp only [Rows.uptoBulk]
        omega
      | array k e =>
        simp only [Bool.and_eq_true, beq_iff_eq] at hok
        obtain ⟨xs, n', rfl, e1, hcs, hxl, hx⟩ := DataW.trod_array hu h
        cases e1
        obtain ⟨yss, y1, y2, y3, y4, y5⟩ := arr_open (P := P) (m := m) (e := e) (xs.map (·.1)) fun d hd => by
          obtain ⟨z, hz, rfl⟩ := List.mem_map.1 hd
          obtain ⟨i, hi, rfl⟩ := List.getElem_of_mem hz
          have ht := hx i (by omega)
          rw [List.getElem?_eq_getElem hi] at ht
          exact IH n' e _ _ _ ht hok.1
        refine ⟨yss.flatten, congrArg (Option.map List.flatten) y1, ⟨yss, by simpa [hxl] using y2, rfl, y3⟩, by rw [y4]; simp [hxl, hok.2], ?_⟩
        simp only [Rows.uptoBulk]
        omega
      | _ => simp at hok
end Go.Ev

/-! text E45 -/
set_option linter.unusedVariables false
set_option linter.unusedSimpArgs false
namespace Go.Ev
open Go.RowKit Go.WideShapes Go.ChangeShapes
open Go.Proofs.Ytlckkpjbkjbdcaa (Rows.uptoBulk Rows.uptoBulkAll Rows.uptoSmall)

/-! ### A law: what comes in is opened; behind the call it reads as it did -/
/-- A value of a type, by its cells. -/
def argOf (P : Program) (t : TypeId) (ys : List AV) : AV :=
  match P.underlying t with
  | some (.struct _) | some (.array _ _) => .agg ys
  | _ => ys.headD .junk
/-- Arguments of their types. -/
def TyAll (P : Program) (m : Nat) : List TypeId → List AV → Prop
  | [], xs => xs = []
  | t :: ts, xs => ∃ ys rest, xs = argOf P t ys :: rest ∧ Ty P m t ys ∧ ys.length = P.cellsOf t ∧ TyAll P m ts rest

variable {H : Type} {enc : TypeId × Value → H} {P : Program} {W W' : World} {base : Nat} {sp : Nat → Bool} {held : Bool}

theorem arg_open {m : Nat} {t : TypeId} {v : Value} {d : DataW H} {p : List MemPlace} {b0 : Nat} (h : DataW.Trod enc P W base sp held t v d p) (hok : okT P m t = true) (hv : Value.okWide P W .any b0 t v) :
    ∃ ys, V (ghIn W) W (argOf P t ys) v ∧ Ty P m t ys ∧ ys.length = P.cellsOf t ∧ szA (argOf P t ys) ≤ Rows.uptoBulk d := by
  obtain ⟨n, hn⟩ := h
  obtain ⟨ys, h1, h2, h3, h4⟩ := open_Ty m n t _ d p hn hok
  have hlen : v.cells.toList.length = ys.length → VL (ghIn W) W ys v.cells.toList := fun hl => open_V m n t _ d p ys hn h1 hl
  cases m with
  | zero => simp [okT] at hok
  | succ m =>
    simp only [okT] at hok
    unfold Value.okWide at hv
    have one : ∀ {z : AV}, ys = [z] → (∀ cs, v ≠ .agg cs) → argOf P t ys = z → V (ghIn W) W (argOf P t ys) v ∧ szA (argOf P t ys) ≤ Rows.uptoBulk d := by
      intro z hz hne ha
      have hc : v.cells.toList = [v] := by
        cases v <;> first | rfl | exact absurd rfl (hne _)
      have hvl := hlen (by rw [hc, hz]; rfl)
      rw [hc, hz] at hvl
      obtain ⟨u, r, e, g1, g2⟩ := hvl
      cases e
      rw [ha]
      refine ⟨g1, ?_⟩
      rw [hz] at h4
      simpa [szA.szL] using h4
    cases hu : P.underlying t with
    | none => simp [hu] at hok
    | some td =>
      rw [hu] at hok hv
      have cell : (match td with | .struct _ | .array _ _ => False | _ => True) → (∀ cs, v ≠ .agg cs) := by
        intro hs cs e
        subst e
        cases td <;> first | exact hs.elim | (simp only [Cell.okWide, Cell.ok, hu] at hv)
      cases td with
      | bool =>
        have h2' := h2
        simp only [Ty, hu] at h2'
        obtain ⟨b, e⟩ := h2'
        obtain ⟨g1, g2⟩ := one e (cell trivial) (by simp [argOf, hu, e])
        exact ⟨ys, g1, h2, h3, g2⟩
      | int k =>
        have h2' := h2
        simp only [Ty, hu] at h2'
        obtain ⟨b, _, _, e⟩ := h2'
        obtain ⟨g1, g2⟩ := one e (cell trivial) (by simp [argOf, hu, e])
        exact ⟨ys, g1, h2, h3, g2⟩
      | string =>
        have h2' := h2
        simp only [Ty, hu] at h2'
        obtain ⟨b, e⟩ := h2'
        obtain ⟨g1, g2⟩ := one e (cell trivial) (by simp [argOf, hu, e])
        exact ⟨ys, g1, h2, h3, g2⟩
      | slice e0 =>
        have h2' := h2
        simp only [Ty, hu] at h2'
        obtain ⟨b, e, _⟩ := h2'
        obtain ⟨g1, g2⟩ := one e (cell trivial) (by simp [argOf, hu, e])
        exact ⟨ys, g1, h2, h3, g2⟩
      | struct fs =>
        simp only at hv
        obtain ⟨cs, rfl, hs, _⟩ := hv
        refine ⟨ys, ?_, h2, h3, by simp only [argOf, hu, szA]; exact h4⟩
        simp only [argOf, hu]
        exact ⟨cs.toList, by simp, hlen (by simp [Value.cells, hs, h3])⟩
      | array k e =>
        simp only at hv
        obtain ⟨cs, rfl, hs, _⟩ := hv
        refine ⟨ys, ?_, h2, h3, by simp only [argOf, hu, szA]; exact h4⟩
        simp only [argOf, hu]
        exact ⟨cs.toList, by simp, hlen (by simp [Value.cells, hs, h3])⟩
      | _ => simp at hok
theorem args_open {m : Nat} {b0 : Nat} : ∀ (ts : List TypeId) (vs : List Value) (ds : List (DataW H)) (p : List MemPlace), DataW.TrodAll enc P W base sp held ts vs ds p → ts.all (okT P m) = true →
    (∀ (j : Nat) t v, ts[j]? = some t → vs[j]? = some v → Value.okWide P W .any b0 t v) → ∃ xs, VL (ghIn W) W xs vs ∧ TyAll P m ts xs ∧ szA.szL xs ≤ Rows.uptoBulkAll ds
  | [], vs, ds, p, h, _, _ => by
    obtain ⟨rfl, rfl, rfl⟩ := trodAll_nil h
    exact ⟨[], rfl, rfl, by simp [szA.szL]⟩
  | t :: ts, vs, ds, p, h, hok, hv => by
    obtain ⟨v, vs', d, ds', p1, p2, rfl, rfl, rfl, h1, h2⟩ := trodAll_cons h
    simp only [List.all_cons, Bool.and_eq_true] at hok
    obtain ⟨ys, a1, a2, a3, a4⟩ := arg_open h1 hok.1 (hv 0 t v rfl rfl)
    obtain ⟨xs, b1, b2, b3⟩ := args_open ts vs' ds' p2 h2 hok.2 fun j t' v' e1 e2 => hv (j + 1) t' v' (by simpa using e1) (by simpa using e2)
    exact ⟨argOf P t ys :: xs, ⟨v, vs', rfl, a1, b1⟩, ⟨ys, xs, rfl, a2, a3, b2⟩, by simp only [szA.szL, Rows.uptoBulkAll]; omega⟩
theorem args_stay (hl : laidOutB P = true) {sp' : Nat → Bool} : ∀ (ts : List TypeId) (vs : List Value) (ds : List (DataW H)) (p : List MemPlace), DataW.TrodAll enc P W 0 (fun _ => true) true ts vs ds p → ts.all (fun t => P.readableRec t && decide (t < P.types.size)) = true →
    (∀ x ∈ p, W.sameAt W' x) → (∀ x ∈ p, sp' x.block = true) → DataW.TrodAll enc P W' 0 sp' true ts vs ds p
  | [], vs, ds, p, h, _, _, _ => by
    obtain ⟨rfl, rfl, rfl⟩ := trodAll_nil h
    exact trodAll_mk0
  | t :: ts, vs, ds, p, h, hok, hs, hp => by
    obtain ⟨v, vs', d, ds', p1, p2, rfl, rfl, rfl, h1, h2⟩ := trodAll_cons h
    simp only [List.all_cons, Bool.and_eq_true, decide_eq_true_eq] at hok
    exact trodAll_cons_mk (WideElems.Trod_stays hl hok.1.1 hok.1.2 h1 (fun x hx => hs x (List.mem_append.2 (.inl hx))) (fun x hx => hp x (List.mem_append.2 (.inl hx))))
      (args_stay hl ts vs' ds' p2 h2 hok.2 (fun x hx => hs x (List.mem_append.2 (.inr hx))) (fun x hx => hp x (List.mem_append.2 (.inr hx))))

theorem post_below {f : Func} {s : ChangeSpec} {apart fresh handsOn again : Bool} {args : Array Value} {v : Value} {ds gs : List (DataW H)} {before pa pv : List MemPlace}
    (hW : DataW.Whole enc P f.params.toList s.vars apart W args.toList ds gs before)
    (hres : ∀ (b : Nat) (sp : Nat → Bool) (hd : Bool), DataW.TrodAll enc P W' b sp hd f.resultTypes.toList (v.resultList f.resultTypes.size) (s.fn H (ds ++ gs)).results [])
    (hargs : ∀ sp : Nat → Bool, (∀ p ∈ before, sp p.block = true) → DataW.TrodAll enc P W' 0 sp true f.params.toList args.toList (s.fn H (ds ++ gs)).args pa)
    (hvars : ∀ sp : Nat → Bool, (∀ p ∈ before, sp p.block = true) → DataW.TrodVars enc P W' sp s.vars (s.fn H (ds ++ gs)).vars pv)
    (hps : before = pa ++ pv) (hb : Below W.heap.size W W')
    (hok : ∀ (j : Nat) (t : TypeId) (r : Value), f.resultTypes[j]? = some t → (v.resultList f.resultTypes.size)[j]? = some r → Value.okWide P W' .any 0 t r) :
    s.post enc P f apart fresh handsOn again W args v W' := by
  have hlt : ∀ p ∈ before, p.block < W.heap.size := fun p hp => hW.lt p hp
  have hold : ∀ p ∈ before, (fun b => decide (b < W.heap.size)) p.block = true := fun p hp => by simpa using hlt p hp
  refine ⟨ds, gs, before, [], pa, pv, hW, hres _ _ _, hargs _ hold, hvars _ hold, World.keptBut_mono (fun p hp => ⟨hp, ?_⟩) (hb.frame (· ∈ before)), fun _ => ?_⟩
  · rw [hps, List.mem_append] at hp
    exact Or.inr hp
  · obtain ⟨_, _, _, _, _, hz, hn⟩ := hW
    refine ⟨hok, _, _, ([] ++ pa) ++ pv, ⟨[] ++ pa, pv, trodAll_append (hargs _ (fun _ _ => rfl)) (hres _ _ _), hvars _ (fun _ _ => rfl), rfl, ?_, ?_⟩, ?_⟩
    · intro b off hp
      have hin : MemPlace.cell b off ∈ before := by rw [hps]; simpa using hp
      rw [hb.frozen (hlt _ hin)]
      exact hz b off hin
    · intro ha
      have := hn ha
      rw [hps] at this
      simpa using this
    · intro p hp _
      rw [hps]
      simpa using hp

/-- The contract of a law, as its row asks it. -/
theorem law_contract {fid : FuncId} {f : Func} {s : ChangeSpec} {tb : TypeId} {m : Nat} {apart fresh handsOn again : Bool}
    (hl : laidOutB P = true) (hf : P.funcs[fid]? = some f) (hn : f.name ≠ "runtime.NumGoroutine") (hb : f.body.isSome = true)
    (hts : f.params.toList.all (fun t => P.readableRec t && decide (t < P.types.size)) = true) (hto : f.params.toList.all (okT P m) = true)
    (hres : f.resultTypes = #[tb]) (hbool : P.underlying tb = some .bool) (hvars : s.vars = [])
    (hs : ∀ (ds : List (DataW H)), ds.length = f.params.toList.length → (s.fn H ds).results = [.lit (.bool true)] ∧ (s.fn H ds).args = ds ∧ (s.fn H ds).vars = [])
    (law : ∀ ys, TyAll P m f.params.toList ys → szA.szL ys ≤ 1048576 → FnOk P fid ys (.bool true))
    {args : Array Value} {ds gs : List (DataW H)} {before : List MemPlace}
    (hval : ∀ (j : Nat) t v, f.params[j]? = some t → args[j]? = some v → Value.okWide P W .any base t v)
    (hW : DataW.Whole enc P f.params.toList s.vars apart W args.toList ds gs before) (hk : Rows.uptoSmall H (ds ++ gs) = true) :
    Calls P fid args W fun e W' => ∃ v, e = .returned v ∧ s.post enc P f apart fresh handsOn again W args v W' := by
  have hW' := hW
  obtain ⟨p, q, hA, hV, rfl, hfz, hnd⟩ := hW
  rw [hvars] at hV
  obtain ⟨rfl, rfl⟩ := trodVars_none hV
  rw [List.append_nil] at hk
  obtain ⟨xs, x1, x2, x3⟩ := args_open _ _ _ _ hA hto fun j t v h1 h2 => hval j t v (by simpa using h1) (by simpa using h2)
  have hbulk : Rows.uptoBulkAll ds ≤ 1048576 := of_decide_eq_true hk
  have hok := law xs x2 (by omega)
  have hlen : ds.length = f.params.toList.length := by
    have : ∀ (ts : List TypeId) (vs : List Value) (ds : List (DataW H)) (p : List MemPlace), DataW.TrodAll enc P W 0 (fun _ => true) true ts vs ds p → ds.length = ts.length := by
      intro ts
      induction ts with
      | nil => intro vs ds p h; obtain ⟨_, rfl, _⟩ := trodAll_nil h; rfl
      | cons t ts ih => intro vs ds p h; obtain ⟨_, vs', _, ds', _, p2, _, rfl, _, _, h2⟩ := trodAll_cons h; simp [ih vs' ds' p2 h2]
    exact this _ _ _ _ hA
  obtain ⟨s1, s2, s3⟩ := hs ds hlen
  have h := hok W args.toList (cellsIn W) (cellsIn_new W) x1
  cases hbd : f.body with
  | none => rw [hbd] at hb; cases hb
  | some c =>
    have hrun := callFunc_run (P := P) hf hn hbd args W
    have ha : args.toList.toArray = args := by simp
    rw [ha, hrun] at h
    refine Calls.mono h fun e W' hq => ?_
    cases e with
    | returned v =>
      obtain ⟨_, T, γ, G⟩ := hq
      have hv : v = .bool true := G.slots 0 (.bool true) v rfl rfl
      subst hv
      have hbl : Below W.heap.size W W' := by
        have := G.frm.below G.fn
        rwa [G.hB] at this
      refine ⟨_, rfl, post_below (pa := p) (pv := []) hW' (fun b sp hd => ?_) (fun sp hsp => ?_) (fun sp hsp => ?_) rfl hbl (ok_one hres rfl (okWide_bool_mk hbool _))⟩
      · rw [List.append_nil, s1, hres]
        exact trodAll_cons_mk (shut_bool hbool true) trodAll_mk0
      · rw [List.append_nil, s2]
        exact args_stay hl _ _ _ _ hA hts (fun x hx => hbl.same (hW'.lt x (List.mem_append.2 (.inl hx)))) fun x hx => hsp x (List.mem_append.2 (.inl hx))
      · rw [List.append_nil, s3, hvars]
        rfl
    | panicked c => exact hq.elim
    | outgrown => exact hq.elim
end Go.Ev

/-! text E46 -/
set_option linter.unusedVariables false
set_option linter.unusedSimpArgs false
namespace Go.Ev
open Go.RowKit

/-! ### Abstract values of a type, as values of Lean's own -/
variable {P : Program} {m : Nat} {t e : TypeId} {ys : List AV}
theorem Ty_u8 (hu : P.underlying t = some (.int .u8)) (h : Ty P (m + 1) t ys) : ∃ b : UInt8, ys = [bA b] := by
  simp only [Ty, hu] at h
  obtain ⟨n, h1, h2, e⟩ := h
  simp only [IntKind.min, IntKind.max, IntKind.signed, IntKind.bits] at h1 h2
  refine ⟨UInt8.ofNat n.toNat, ?_⟩
  rw [e]
  unfold bA
  have h1' : 0 ≤ n := h1
  have h2' : n ≤ 255 := h2
  have : ((UInt8.ofNat n.toNat).toNat : Int) = n := by
    rw [UInt8.toNat_ofNat_of_lt' (by simp; omega)]
    omega
  rw [this]
theorem Ty_int {k : IntKind} (hu : P.underlying t = some (.int k)) (h : Ty P (m + 1) t ys) : ∃ n : Int, k.min ≤ n ∧ n ≤ k.max ∧ ys = [.int k n] := by
  simpa only [Ty, hu] using h
theorem Ty_bool (hu : P.underlying t = some .bool) (h : Ty P (m + 1) t ys) : ∃ b, ys = [.bool b] := by
  simpa only [Ty, hu] using h
theorem list_of {α : Type} {f : α → AV} : ∀ {xs : List AV}, (∀ x ∈ xs, ∃ a, x = f a) → ∃ l : List α, xs = l.map f
  | [], _ => ⟨[], rfl⟩
  | x :: xs, h => by
    obtain ⟨a, rfl⟩ := h x (List.mem_cons_self ..)
    obtain ⟨l, rfl⟩ := list_of (f := f) fun y hy => h y (List.mem_cons_of_mem _ hy)
    exact ⟨a :: l, rfl⟩
theorem Ty_slice {α : Type} {f : α → AV} (hu : P.underlying t = some (.slice e)) (hf : ∀ zs x, Ty P m e zs → elD ((aggOf P e).getD none) zs = some x → ∃ a, x = f a) (h : Ty P (m + 1) t ys) : ∃ l : List α, ys = [.sl false false (P.cellsOf e) (l.map f)] := by
  simp only [Ty, hu] at h
  obtain ⟨xs, rfl, hx⟩ := h
  obtain ⟨l, rfl⟩ := list_of (f := f) (xs := xs) fun x hx' => by
    obtain ⟨zs, h1, h2⟩ := hx x hx'
    exact hf zs x h1 h2
  exact ⟨l, rfl⟩
theorem Ty_bytes (hu : P.underlying t = some (.slice e)) (he : P.underlying e = some (.int .u8)) (hc : P.cellsOf e = 1) (hg : aggOf P e = some none) (h : Ty P (m + 2) t ys) : ∃ l, ys = [slB l] := by
  obtain ⟨l, rfl⟩ := Ty_slice (f := bA) hu (fun zs x hz hx => by
    obtain ⟨b, rfl⟩ := Ty_u8 he hz
    rw [hg] at hx
    simp only [Option.getD_some, elD] at hx
    split at hx
    · cases hx; exact ⟨b, rfl⟩
    · cases hx) h
  exact ⟨l, by rw [hc]; rfl⟩
theorem TyFs_nil {ty : TypeId → List AV → Prop} (h : TyFs ty [] ys) : ys = [] := h
theorem Ty_struct {fs : Array Field} (hu : P.underlying t = some (.struct fs)) (h : Ty P (m + 1) t ys) : TyFs (Ty P m) fs.toList ys := by
  simpa only [Ty, hu] using h
theorem Ty_array {k : Nat} (hu : P.underlying t = some (.array k e)) (h : Ty P (m + 1) t ys) : ∃ yss : List (List AV), yss.length = k ∧ ys = yss.flatten ∧ ∀ y ∈ yss, Ty P m e y := by
  simpa only [Ty, hu] using h

@[simp] theorem szL_bs : ∀ l : List UInt8, szA.szL (bsA l) = l.length
  | [] => rfl
  | b :: l => by
    show szA (bA b) + szA.szL (bsA l) = _
    rw [szL_bs l]
    simp only [bA, szA, List.length_cons]
    omega
theorem szL_mem {x : AV} : ∀ {xs : List AV}, x ∈ xs → szA x ≤ szA.szL xs
  | y :: xs, h => by
    rcases List.mem_cons.1 h with rfl | h
    · simp only [szA.szL]; omega
    · have := szL_mem h
      simp only [szA.szL]; omega
theorem szL_len {xs : List AV} (h : ∀ x ∈ xs, 1 ≤ szA x) : xs.length ≤ szA.szL xs := by
  induction xs with
  | nil => simp
  | cons x xs ih =>
    have h1 := h x (List.mem_cons_self ..)
    have h2 := ih fun y hy => h y (List.mem_cons_of_mem _ hy)
    simp only [szA.szL, List.length_cons]
    omega
end Go.Ev

/-! text O1 -/
set_option linter.unusedVariables false
namespace Go.Ev
open Go.Proofs (Try.prog)

/-! ### What comes in, of this program's types -/
theorem u5 : Try.prog.underlying 5 = some (.int .u8) := by kernel_rfl
theorem u29 : Try.prog.underlying 29 = some (.slice 5) := by kernel_rfl
theorem u22 : Try.prog.underlying 22 = some (.slice 42) := by kernel_rfl
theorem u4 : Try.prog.underlying 4 = some .bool := by kernel_rfl
theorem c5 : Try.prog.cellsOf 5 = 1 := by kernel_rfl
theorem c42 : Try.prog.cellsOf 42 = 2 := by kernel_rfl
theorem g5 : aggOf Try.prog 5 = some none := by kernel_rfl
theorem g42 : aggOf Try.prog 42 = some (some 2) := by kernel_rfl
theorem u42 : Try.prog.underlying 42 = some (.struct #[{ name := "Type", type := 5, offset := 0, embedded := false, tag := "", pkgPath := "", byteOffset := 0 }, { name := "Value", type := 29, offset := 1, embedded := false, tag := "", pkgPath := "", byteOffset := 8 }]) := by kernel_rfl
theorem u44 : Try.prog.underlying 44 = some (.int .u16) := by kernel_rfl
theorem laid : laidOutB Try.prog = true := by kernel_rfl
theorem Ty_tlvs {m : Nat} {ys : List AV} (h : Ty Try.prog (m + 4) 22 ys) : ∃ l : List TLV, ys = [slT l] := by
  obtain ⟨l, rfl⟩ := Ty_slice (f := tS) u22 (fun zs x hz hx => by
    obtain ⟨a, b, rfl, h1, c, d, rfl, h2, h3⟩ := Ty_struct u42 hz
    cases TyFs_nil h3
    obtain ⟨t, rfl⟩ := Ty_u8 u5 h1
    obtain ⟨v, rfl⟩ := Ty_bytes u29 u5 c5 g5 h2
    rw [g42] at hx
    cases hx
    exact ⟨(t, v), rfl⟩) h
  exact ⟨l, by rw [c42]; rfl⟩
theorem sz_tlvs {l : List TLV} {n : Nat} (h : szA (slT l) ≤ n) : l.length ≤ n ∧ ∀ t ∈ l, t.2.length ≤ n := by
  have e : szA (slT l) = szA.szL (tsS l) + 1 := rfl
  rw [e] at h
  have ht : ∀ t : TLV, szA (tS t) = t.2.length + 2 := fun t => by
    show szA (bA t.1) + (szA (.sl false false 1 (bsA t.2)) + 0) = _
    simp only [bA, szA, szL_bs]
    omega
  refine ⟨?_, fun t hm => ?_⟩
  · have := szL_len (xs := tsS l) fun x hx => by
      obtain ⟨t, _, rfl⟩ := List.mem_map.1 hx
      rw [ht]; omega
    rw [show (tsS l).length = l.length by simp [tsS]] at this
    omega
  · have := szL_mem (x := tS t) (xs := tsS l) (List.mem_map.2 ⟨t, hm, rfl⟩)
    rw [ht] at this
    omega
end Go.Ev
