import Derived.Below
import Derived.WalkKit
import Derived.Laws.Tables

/-! text E1 -/
set_option linter.unusedVariables false
namespace Go.Ev
open Go.RowKit

/-- Abstract values. -/
inductive AV where
  | junk
  | int (k : IntKind) (n : Int)
  | bool (b : Bool)
  | str (s : ByteArray)
  | nils
  | sl (fr nn : Bool) (z : Nat) (xs : List AV)
  | agg (cs : List AV)
  | tup (vs : List AV)
  | pv (cs : List AV)
  | nilp
  | nilm
  | nili
  | nilf
  | ifc (t : TypeId) (x : AV)
  | fn (f : FuncId) (caps : List AV)
  | ref (i o : Nat)
  | mref (i : Nat)
  | own (full : Bool) (z : Nat) (xs : List AV)
  | box (cs : List AV)
  | als (s j : Nat)
  | adr (s j : Nat)
  | anyint (k : IntKind)
  | nst (s j : Nat) (x : AV)
  | npv (s j : Nat) (cs : List AV)
  | dsl (nn : Bool) (z : Nat) (xs : List AV)
  | obj (cs : List AV)
  | ent (born : Nat) (k v : AV)
  | mp (clock : Nat) (es : List AV)
  | mem (os : List AV)
  deriving Inhabited

/-- What the proof knows of memory: blocks from B on are the call's own; the cells below 'St' of a block stay as they are; where objects lie; whose a block is; which elder blocks are objects', and may change. -/
structure Gh where
  B : Nat
  St : Nat → Nat
  ρ : Nat → Option Nat
  O : Nat → Option ((Nat × Nat) × Bool)
  F : Nat → Prop

def cellAt (w : World) (g o : Nat) : Option Value := w.cell? ⟨g, o, none⟩

mutual
/-- What a value that is only read says. -/
def V (γ : Gh) (w : World) : AV → Value → Prop
  | .junk, _ => True
  | .int k n, v => v = .int k n
  | .bool b, v => v = .bool b
  | .str s, v => v = .string s
  | .nils, v => v = .slice none 0 0
  | .nilp, v => v = .pointer none
  | .nilm, v => v = .map none
  | .nili, v => v = .nilIface
  | .nilf, v => v = .nilFunc
  | .ifc t x, v => ∃ u, v = .iface t u ∧ V γ w x u
  | .fn f caps, v => ∃ vs : List Value, v = .func (.func f) #[] vs.toArray ∧ VL γ w caps vs
  | .anyint k, v => ∃ n, v = .int k n
  | .ref i o, v => ∃ g, γ.ρ i = some g ∧ v = .pointer (some ⟨g, o, none⟩)
  | .mref i, v => ∃ g, γ.ρ i = some g ∧ v = .map (some g)
  | .sl fr nn z xs, v => ∃ A c, v = .slice A xs.length c ∧ xs.length ≤ c ∧ (A = none → xs = [] ∧ nn = false ∧ c = 0) ∧
      (∀ ad, A = some ad → fr = true → γ.B ≤ ad.block) ∧
      (xs ≠ [] → ∃ g o, A = some ⟨g, o, none⟩ ∧ o + xs.length * z ≤ γ.St g ∧ VS γ w z xs g o)
  | .dsl nn z xs, v => ∃ A c, v = .slice A xs.length c ∧ xs.length ≤ c ∧ (A = none → xs = [] ∧ nn = false ∧ c = 0) ∧
      (∀ ad, A = some ad → γ.B ≤ ad.block) ∧
      (xs ≠ [] → ∃ g o, A = some ⟨g, o, none⟩ ∧ o + xs.length * z ≤ γ.St g ∧ (0 < z → γ.F g) ∧ VS γ w z xs g o)
  | .agg cs, v => ∃ vs : List Value, v = .agg vs.toArray ∧ VL γ w cs vs
  | .pv cs, v => ∃ g o, v = .pointer (some ⟨g, o, none⟩) ∧ o + cs.length ≤ γ.St g ∧ VC γ w cs g o
  | _, _ => False
termination_by structural x => x
def VL (γ : Gh) (w : World) : List AV → List Value → Prop
  | [], vs => vs = []
  | x :: xs, vs => ∃ v r, vs = v :: r ∧ V γ w x v ∧ VL γ w xs r
termination_by structural x => x
def VC (γ : Gh) (w : World) : List AV → Nat → Nat → Prop
  | [], _, _ => True
  | x :: xs, g, o => (∃ u, cellAt w g o = some u ∧ V γ w x u) ∧ VC γ w xs g (o + 1)
termination_by structural x => x
def VS (γ : Gh) (w : World) (z : Nat) : List AV → Nat → Nat → Prop
  | [], _, _ => True
  | .agg cs :: xs, g, o => (cs.length = z ∧ VC γ w cs g o) ∧ VS γ w z xs g (o + z)
  | x :: xs, g, o => (z = 1 ∧ ∃ u, cellAt w g o = some u ∧ V γ w x u) ∧ VS γ w z xs g (o + z)
termination_by structural x => x
end
def VE (γ : Gh) (w : World) (z : Nat) : AV → Nat → Nat → Prop
  | .agg cs, g, o => cs.length = z ∧ VC γ w cs g o
  | x, g, o => z = 1 ∧ ∃ u, cellAt w g o = some u ∧ V γ w x u
theorem VS_cons (γ : Gh) (w : World) (z : Nat) (x : AV) (xs : List AV) (g o : Nat) :
    VS γ w z (x :: xs) g o = (VE γ w z x g o ∧ VS γ w z xs g (o + z)) := by cases x <;> rfl

/-- From one moment to a later one: what stays. -/
structure Ext (γ γ' : Gh) (w w' : World) : Prop where
  cells : ∀ g o, o < γ.St g → cellAt w' g o = cellAt w g o
  st : ∀ g, γ.St g ≤ γ'.St g
  B : γ'.B ≤ γ.B
  ρ : ∀ i g, γ.ρ i = some g → γ'.ρ i = some g
  F : ∀ g, γ.F g → γ'.F g
theorem Ext.refl (γ : Gh) (w : World) : Ext γ γ w w := ⟨fun _ _ _ => rfl, fun _ => Nat.le_refl _, Nat.le_refl _, fun _ _ h => h, fun _ h => h⟩
theorem Ext.trans {γ γ' γ'' : Gh} {w w' w'' : World} (h : Ext γ γ' w w') (k : Ext γ' γ'' w' w'') : Ext γ γ'' w w'' :=
  ⟨fun g o ho => (k.cells g o (Nat.lt_of_lt_of_le ho (h.st g))).trans (h.cells g o ho), fun g => Nat.le_trans (h.st g) (k.st g), Nat.le_trans k.B h.B, fun i g e => k.ρ i g (h.ρ i g e), fun g e => k.F g (h.F g e)⟩

mutual
theorem V_mono {γ γ' : Gh} {w w' : World} (E : Ext γ γ' w w') : ∀ (x : AV) (v : Value), V γ w x v → V γ' w' x v
  | .junk, _, _ => trivial
  | .int _ _, _, h => h
  | .bool _, _, h => h
  | .str _, _, h => h
  | .nils, _, h => h
  | .nilp, _, h => h
  | .nilm, _, h => h
  | .nili, _, h => h
  | .nilf, _, h => h
  | .ifc t x, _, ⟨u, hv, h⟩ => ⟨u, hv, V_mono E x u h⟩
  | .fn f caps, _, ⟨vs, hv, h⟩ => ⟨vs, hv, VL_mono E caps vs h⟩
  | .anyint _, _, h => h
  | .nst _ _ _, _, h => h.elim
  | .npv _ _ _, _, h => h.elim
  | .ref i o, _, ⟨g, h, hv⟩ => ⟨g, E.ρ i g h, hv⟩
  | .mref i, _, ⟨g, h, hv⟩ => ⟨g, E.ρ i g h, hv⟩
  | .sl fr nn z xs, v, ⟨A, c, hv, hc, hn, hf, hx⟩ => ⟨A, c, hv, hc, hn, fun ad ha hfr => Nat.le_trans E.B (hf ad ha hfr), fun hne => by
      obtain ⟨g, o, ha, hs, hv⟩ := hx hne
      exact ⟨g, o, ha, Nat.le_trans hs (E.st g), VS_mono E z xs g o (fun i _ h2 => E.cells g i (by omega)) hv⟩⟩
  | .dsl nn z xs, v, ⟨A, c, hv, hc, hn, hf, hx⟩ => ⟨A, c, hv, hc, hn, fun ad ha => Nat.le_trans E.B (hf ad ha), fun hne => by
      obtain ⟨g, o, ha, hs, hF, hv⟩ := hx hne
      exact ⟨g, o, ha, Nat.le_trans hs (E.st g), fun h => E.F g (hF h), VS_mono E z xs g o (fun i _ h2 => E.cells g i (by omega)) hv⟩⟩
  | .agg cs, v, ⟨vs, hv, hl⟩ => ⟨vs, hv, VL_mono E cs vs hl⟩
  | .pv cs, v, ⟨g, o, hv, hs, hc⟩ => ⟨g, o, hv, Nat.le_trans hs (E.st g), VC_mono E cs g o (fun i _ h2 => E.cells g i (by omega)) hc⟩
  | .tup _, _, h => h.elim
  | .own _ _ _, _, h => h.elim
  | .box _, _, h => h.elim
  | .als _ _, _, h => h.elim
  | .adr _ _, _, h => h.elim
  | .obj _, _, h => h.elim
  | .ent _ _ _, _, h => h.elim
  | .mp _ _, _, h => h.elim
  | .mem _, _, h => h.elim
theorem VL_mono {γ γ' : Gh} {w w' : World} (E : Ext γ γ' w w') : ∀ (xs : List AV) (vs : List Value), VL γ w xs vs → VL γ' w' xs vs
  | [], _, h => h
  | x :: xs, _, ⟨v, r, e, h1, h2⟩ => ⟨v, r, e, V_mono E x v h1, VL_mono E xs r h2⟩
theorem VC_mono {γ γ' : Gh} {w w' : World} (E : Ext γ γ' w w') : ∀ (xs : List AV) (g o : Nat), (∀ i, o ≤ i → i < o + xs.length → cellAt w' g i = cellAt w g i) → VC γ w xs g o → VC γ' w' xs g o
  | [], _, _, _, _ => trivial
  | x :: xs, g, o, hc, ⟨⟨u, hu, hx⟩, h2⟩ => ⟨⟨u, (hc o (Nat.le_refl _) (by simp)).trans hu, V_mono E x u hx⟩,
      VC_mono E xs g (o + 1) (fun i h1 h3 => hc i (by omega) (by simp only [List.length_cons]; omega)) h2⟩
theorem VS_mono {γ γ' : Gh} {w w' : World} (E : Ext γ γ' w w') (z : Nat) : ∀ (xs : List AV) (g o : Nat), (∀ i, o ≤ i → i < o + xs.length * z → cellAt w' g i = cellAt w g i) → VS γ w z xs g o → VS γ' w' z xs g o
  | [], _, _, _, _ => trivial
  | .agg cs :: xs, g, o, hc, ⟨⟨hl, h⟩, h2⟩ => by
      have e : (AV.agg cs :: xs).length * z = xs.length * z + z := by simp [Nat.add_mul]
      rw [e] at hc
      exact ⟨⟨hl, VC_mono E cs g o (fun i a b => hc i a (by omega)) h⟩, VS_mono E z xs g (o + z) (fun i a b => hc i (by omega) (by omega)) h2⟩
  | .junk :: xs, g, o, hc, ⟨⟨hz, u, hu, h⟩, h2⟩ => by
      have e : (AV.junk :: xs).length * z = xs.length * z + z := by simp [Nat.add_mul]
      rw [e] at hc
      exact ⟨⟨hz, u, (hc o (Nat.le_refl _) (by omega)).trans hu, V_mono E .junk u h⟩, VS_mono E z xs g (o + z) (fun i a b => hc i (by omega) (by omega)) h2⟩
  | (.int k n) :: xs, g, o, hc, ⟨⟨hz, u, hu, h⟩, h2⟩ => by
      have e : ((AV.int k n) :: xs).length * z = xs.length * z + z := by simp [Nat.add_mul]
      rw [e] at hc
      exact ⟨⟨hz, u, (hc o (Nat.le_refl _) (by omega)).trans hu, V_mono E (.int k n) u h⟩, VS_mono E z xs g (o + z) (fun i a b => hc i (by omega) (by omega)) h2⟩
  | (.bool b) :: xs, g, o, hc, ⟨⟨hz, u, hu, h⟩, h2⟩ => by
      have e : ((AV.bool b) :: xs).length * z = xs.length * z + z := by simp [Nat.add_mul]
      rw [e] at hc
      exact ⟨⟨hz, u, (hc o (Nat.le_refl _) (by omega)).trans hu, V_mono E (.bool b) u h⟩, VS_mono E z xs g (o + z) (fun i a b => hc i (by omega) (by omega)) h2⟩
  | (.str b) :: xs, g, o, hc, ⟨⟨hz, u, hu, h⟩, h2⟩ => by
      have e : ((AV.str b) :: xs).length * z = xs.length * z + z := by simp [Nat.add_mul]
      rw [e] at hc
      exact ⟨⟨hz, u, (hc o (Nat.le_refl _) (by omega)).trans hu, V_mono E (.str b) u h⟩, VS_mono E z xs g (o + z) (fun i a b => hc i (by omega) (by omega)) h2⟩
  | .nils :: xs, g, o, hc, ⟨⟨hz, u, hu, h⟩, h2⟩ => by
      have e : (AV.nils :: xs).length * z = xs.length * z + z := by simp [Nat.add_mul]
      rw [e] at hc
      exact ⟨⟨hz, u, (hc o (Nat.le_refl _) (by omega)).trans hu, V_mono E .nils u h⟩, VS_mono E z xs g (o + z) (fun i a b => hc i (by omega) (by omega)) h2⟩
  | (.sl fr nn z2 ys) :: xs, g, o, hc, ⟨⟨hz, u, hu, h⟩, h2⟩ => by
      have e : ((AV.sl fr nn z2 ys) :: xs).length * z = xs.length * z + z := by simp [Nat.add_mul]
      rw [e] at hc
      exact ⟨⟨hz, u, (hc o (Nat.le_refl _) (by omega)).trans hu, V_mono E (.sl fr nn z2 ys) u h⟩, VS_mono E z xs g (o + z) (fun i a b => hc i (by omega) (by omega)) h2⟩
  | (.pv cs) :: xs, g, o, hc, ⟨⟨hz, u, hu, h⟩, h2⟩ => by
      have e : ((AV.pv cs) :: xs).length * z = xs.length * z + z := by simp [Nat.add_mul]
      rw [e] at hc
      exact ⟨⟨hz, u, (hc o (Nat.le_refl _) (by omega)).trans hu, V_mono E (.pv cs) u h⟩, VS_mono E z xs g (o + z) (fun i a b => hc i (by omega) (by omega)) h2⟩
  | (.tup ys) :: xs, g, o, hc, ⟨⟨hz, u, hu, h⟩, h2⟩ => by
      have e : ((AV.tup ys) :: xs).length * z = xs.length * z + z := by simp [Nat.add_mul]
      rw [e] at hc
      exact ⟨⟨hz, u, (hc o (Nat.le_refl _) (by omega)).trans hu, V_mono E (.tup ys) u h⟩, VS_mono E z xs g (o + z) (fun i a b => hc i (by omega) (by omega)) h2⟩
  | (.own f z2 ys) :: xs, g, o, hc, ⟨⟨hz, u, hu, h⟩, h2⟩ => by
      have e : ((AV.own f z2 ys) :: xs).length * z = xs.length * z + z := by simp [Nat.add_mul]
      rw [e] at hc
      exact ⟨⟨hz, u, (hc o (Nat.le_refl _) (by omega)).trans hu, V_mono E (.own f z2 ys) u h⟩, VS_mono E z xs g (o + z) (fun i a b => hc i (by omega) (by omega)) h2⟩
  | (.box ys) :: xs, g, o, hc, ⟨⟨hz, u, hu, h⟩, h2⟩ => by
      have e : ((AV.box ys) :: xs).length * z = xs.length * z + z := by simp [Nat.add_mul]
      rw [e] at hc
      exact ⟨⟨hz, u, (hc o (Nat.le_refl _) (by omega)).trans hu, V_mono E (.box ys) u h⟩, VS_mono E z xs g (o + z) (fun i a b => hc i (by omega) (by omega)) h2⟩
  | (.als i j) :: xs, g, o, hc, ⟨⟨hz, u, hu, h⟩, h2⟩ => by
      have e : ((AV.als i j) :: xs).length * z = xs.length * z + z := by simp [Nat.add_mul]
      rw [e] at hc
      exact ⟨⟨hz, u, (hc o (Nat.le_refl _) (by omega)).trans hu, V_mono E (.als i j) u h⟩, VS_mono E z xs g (o + z) (fun i a b => hc i (by omega) (by omega)) h2⟩
  | (.adr i j) :: xs, g, o, hc, ⟨⟨hz, u, hu, h⟩, h2⟩ => by
      have e : ((AV.adr i j) :: xs).length * z = xs.length * z + z := by simp [Nat.add_mul]
      rw [e] at hc
      exact ⟨⟨hz, u, (hc o (Nat.le_refl _) (by omega)).trans hu, V_mono E (.adr i j) u h⟩, VS_mono E z xs g (o + z) (fun i a b => hc i (by omega) (by omega)) h2⟩
  | .nilp :: xs, g, o, hc, ⟨⟨hz, u, hu, h⟩, h2⟩ => by
      have e : (AV.nilp :: xs).length * z = xs.length * z + z := by simp [Nat.add_mul]
      rw [e] at hc
      exact ⟨⟨hz, u, (hc o (Nat.le_refl _) (by omega)).trans hu, V_mono E .nilp u h⟩, VS_mono E z xs g (o + z) (fun i a b => hc i (by omega) (by omega)) h2⟩
  | .nilm :: xs, g, o, hc, ⟨⟨hz, u, hu, h⟩, h2⟩ => by
      have e : (AV.nilm :: xs).length * z = xs.length * z + z := by simp [Nat.add_mul]
      rw [e] at hc
      exact ⟨⟨hz, u, (hc o (Nat.le_refl _) (by omega)).trans hu, V_mono E .nilm u h⟩, VS_mono E z xs g (o + z) (fun i a b => hc i (by omega) (by omega)) h2⟩
  | .nili :: xs, g, o, hc, ⟨⟨hz, u, hu, h⟩, h2⟩ => by
      have e : (AV.nili :: xs).length * z = xs.length * z + z := by simp [Nat.add_mul]
      rw [e] at hc
      exact ⟨⟨hz, u, (hc o (Nat.le_refl _) (by omega)).trans hu, V_mono E .nili u h⟩, VS_mono E z xs g (o + z) (fun i a b => hc i (by omega) (by omega)) h2⟩
  | .nilf :: xs, g, o, hc, ⟨⟨hz, u, hu, h⟩, h2⟩ => by
      have e : (AV.nilf :: xs).length * z = xs.length * z + z := by simp [Nat.add_mul]
      rw [e] at hc
      exact ⟨⟨hz, u, (hc o (Nat.le_refl _) (by omega)).trans hu, V_mono E .nilf u h⟩, VS_mono E z xs g (o + z) (fun i a b => hc i (by omega) (by omega)) h2⟩
  | (.ifc t y) :: xs, g, o, hc, ⟨⟨hz, u, hu, h⟩, h2⟩ => by
      have e : ((AV.ifc t y) :: xs).length * z = xs.length * z + z := by simp [Nat.add_mul]
      rw [e] at hc
      exact ⟨⟨hz, u, (hc o (Nat.le_refl _) (by omega)).trans hu, V_mono E (.ifc t y) u h⟩, VS_mono E z xs g (o + z) (fun i a b => hc i (by omega) (by omega)) h2⟩
  | (.fn f ys) :: xs, g, o, hc, ⟨⟨hz, u, hu, h⟩, h2⟩ => by
      have e : ((AV.fn f ys) :: xs).length * z = xs.length * z + z := by simp [Nat.add_mul]
      rw [e] at hc
      exact ⟨⟨hz, u, (hc o (Nat.le_refl _) (by omega)).trans hu, V_mono E (.fn f ys) u h⟩, VS_mono E z xs g (o + z) (fun i a b => hc i (by omega) (by omega)) h2⟩
  | (.ref i j) :: xs, g, o, hc, ⟨⟨hz, u, hu, h⟩, h2⟩ => by
      have e : ((AV.ref i j) :: xs).length * z = xs.length * z + z := by simp [Nat.add_mul]
      rw [e] at hc
      exact ⟨⟨hz, u, (hc o (Nat.le_refl _) (by omega)).trans hu, V_mono E (.ref i j) u h⟩, VS_mono E z xs g (o + z) (fun i a b => hc i (by omega) (by omega)) h2⟩
  | (.mref i) :: xs, g, o, hc, ⟨⟨hz, u, hu, h⟩, h2⟩ => by
      have e : ((AV.mref i) :: xs).length * z = xs.length * z + z := by simp [Nat.add_mul]
      rw [e] at hc
      exact ⟨⟨hz, u, (hc o (Nat.le_refl _) (by omega)).trans hu, V_mono E (.mref i) u h⟩, VS_mono E z xs g (o + z) (fun i a b => hc i (by omega) (by omega)) h2⟩
  | (.obj ys) :: xs, g, o, hc, ⟨⟨hz, u, hu, h⟩, h2⟩ => by
      have e : ((AV.obj ys) :: xs).length * z = xs.length * z + z := by simp [Nat.add_mul]
      rw [e] at hc
      exact ⟨⟨hz, u, (hc o (Nat.le_refl _) (by omega)).trans hu, V_mono E (.obj ys) u h⟩, VS_mono E z xs g (o + z) (fun i a b => hc i (by omega) (by omega)) h2⟩
  | (.ent b k y) :: xs, g, o, hc, ⟨⟨hz, u, hu, h⟩, h2⟩ => by
      have e : ((AV.ent b k y) :: xs).length * z = xs.length * z + z := by simp [Nat.add_mul]
      rw [e] at hc
      exact ⟨⟨hz, u, (hc o (Nat.le_refl _) (by omega)).trans hu, V_mono E (.ent b k y) u h⟩, VS_mono E z xs g (o + z) (fun i a b => hc i (by omega) (by omega)) h2⟩
  | (.mp c ys) :: xs, g, o, hc, ⟨⟨hz, u, hu, h⟩, h2⟩ => by
      have e : ((AV.mp c ys) :: xs).length * z = xs.length * z + z := by simp [Nat.add_mul]
      rw [e] at hc
      exact ⟨⟨hz, u, (hc o (Nat.le_refl _) (by omega)).trans hu, V_mono E (.mp c ys) u h⟩, VS_mono E z xs g (o + z) (fun i a b => hc i (by omega) (by omega)) h2⟩
  | (.anyint k) :: xs, g, o, hc, ⟨⟨hz, u, hu, h⟩, h2⟩ => by
      have e : ((AV.anyint k) :: xs).length * z = xs.length * z + z := by simp [Nat.add_mul]
      rw [e] at hc
      exact ⟨⟨hz, u, (hc o (Nat.le_refl _) (by omega)).trans hu, V_mono E (.anyint k) u h⟩, VS_mono E z xs g (o + z) (fun i a b => hc i (by omega) (by omega)) h2⟩
  | (.nst i j y) :: xs, g, o, hc, ⟨⟨hz, u, hu, h⟩, h2⟩ => by
      have e : ((AV.nst i j y) :: xs).length * z = xs.length * z + z := by simp [Nat.add_mul]
      rw [e] at hc
      exact ⟨⟨hz, u, (hc o (Nat.le_refl _) (by omega)).trans hu, V_mono E (.nst i j y) u h⟩, VS_mono E z xs g (o + z) (fun i a b => hc i (by omega) (by omega)) h2⟩
  | (.npv i j ys) :: xs, g, o, hc, ⟨⟨hz, u, hu, h⟩, h2⟩ => by
      have e : ((AV.npv i j ys) :: xs).length * z = xs.length * z + z := by simp [Nat.add_mul]
      rw [e] at hc
      exact ⟨⟨hz, u, (hc o (Nat.le_refl _) (by omega)).trans hu, V_mono E (.npv i j ys) u h⟩, VS_mono E z xs g (o + z) (fun i a b => hc i (by omega) (by omega)) h2⟩
  | (.mem ys) :: xs, g, o, hc, ⟨⟨hz, u, hu, h⟩, h2⟩ => by
      have e : ((AV.mem ys) :: xs).length * z = xs.length * z + z := by simp [Nat.add_mul]
      rw [e] at hc
      exact ⟨⟨hz, u, (hc o (Nat.le_refl _) (by omega)).trans hu, V_mono E (.mem ys) u h⟩, VS_mono E z xs g (o + z) (fun i a b => hc i (by omega) (by omega)) h2⟩
  | (.dsl i j ys) :: xs, g, o, hc, ⟨⟨hz, u, hu, h⟩, h2⟩ => by
      have e : ((AV.dsl i j ys) :: xs).length * z = xs.length * z + z := by simp [Nat.add_mul]
      rw [e] at hc
      exact ⟨⟨hz, u, (hc o (Nat.le_refl _) (by omega)).trans hu, V_mono E (.dsl i j ys) u h⟩, VS_mono E z xs g (o + z) (fun i a b => hc i (by omega) (by omega)) h2⟩
end
end Go.Ev

/-! text E2 -/
set_option linter.unusedVariables false
namespace Go.Ev
open Go.RowKit

/-- Below block B the world is as it was, but for the blocks of F. -/
structure Frm (B : Nat) (F : Nat → Prop) (w w' : World) : Prop where
  os : w'.os = w.os
  tape : w'.tape = w.tape
  output : w'.output = w.output
  size : w.heap.size ≤ w'.heap.size
  block : ∀ k, k < B → ¬ F k → w'.heap[k]? = w.heap[k]?
theorem Frm.refl (B : Nat) (F : Nat → Prop) (w : World) : Frm B F w w := ⟨rfl, rfl, rfl, Nat.le_refl _, fun _ _ _ => rfl⟩
theorem Frm.trans {B : Nat} {F : Nat → Prop} {a b c : World} (h : Frm B F a b) (k : Frm B F b c) : Frm B F a c :=
  ⟨k.os.trans h.os, k.tape.trans h.tape, k.output.trans h.output, Nat.le_trans h.size k.size, fun i hi hf => (k.block i hi hf).trans (h.block i hi hf)⟩
theorem Frm.below {B : Nat} {F : Nat → Prop} {w w' : World} (h : Frm B F w w') (hF : ∀ k, ¬ F k) : Below B w w' := ⟨h.os, h.tape, h.output, h.size, fun k hk => h.block k hk (hF k)⟩

/-- No new row is shared with a text. -/
def Unf (B : Nat) (w : World) : Prop := ∀ g cs e lo hi, B ≤ g → w.heap[g]? = some (.cells cs e (lo, hi)) → lo = hi ∨ cs.size ≤ lo

/-- A block of cells that may be written. -/
def Blk (w : World) (g : Nat) (cs : Array Value) : Prop := ∃ e lo hi, w.heap[g]? = some (.cells cs e (lo, hi)) ∧ (lo = hi ∨ cs.size ≤ lo)

/-- What key's own row leads to is held as it is. -/
def liftN (γ : Gh) (key : Nat × Nat) (M : Nat) : Gh := { γ with St := fun h => if γ.O h = some (key, true) then max M (γ.St h) else γ.St h }
def lift (γ : Gh) (key : Nat × Nat) (M : Nat) : Gh := { γ with St := fun h => if γ.O h = some (key, true) then max M (γ.St h) else γ.St h, F := fun h => γ.F h ∨ γ.O h = some (key, true) }

def Own (γ : Gh) (w : World) (key : Nat × Nat) (full : Bool) (z : Nat) (xs : List AV) (v : Value) : Prop :=
  (v = .slice none 0 0 ∧ xs = []) ∨ ∃ g o c cs, v = .slice (some ⟨g, o, none⟩) xs.length c ∧ xs.length ≤ c ∧ γ.B ≤ g ∧ γ.O g = some (key, false) ∧
    Blk w g cs ∧ o + c * z ≤ cs.size ∧ (if full then γ.St g = 0 ∧ ∃ M, VS (lift γ key M) w z xs g o else γ.St g = o + xs.length * z ∧ VS γ w z xs g o)

/-- What a value with rights says: 'key' is whose it is. -/
def R1 (γ : Gh) (w : World) (key : Nat × Nat) : AV → Value → Prop
  | .own full z xs, v => Own γ w key full z xs v
  | x, v => V γ w x v

def BoxAt (γ : Gh) (w : World) (s : Nat) (xs : List AV) (v : Value) : Prop :=
  ∃ g cs, v = .pointer (some ⟨g, 0, none⟩) ∧ γ.B ≤ g ∧ γ.O g = some ((s, 0), false) ∧ Blk w g cs ∧ cs.size = xs.length ∧ γ.St g = 0 ∧
    ∀ j x, xs[j]? = some x → ∃ u, cs[j]? = some u ∧ R1 γ w (s, j + 1) x u

/-- The header that (s, j) stands for: slot s itself, or cell j - 1 of its box. -/
def Hdr (γ : Gh) (w : World) (tmps : Array Value) (s : Nat) : Nat → Value → Prop
  | 0, v => tmps[s]? = some v
  | j + 1, v => ∃ g, tmps[s]? = some (.pointer (some ⟨g, 0, none⟩)) ∧ γ.O g = some ((s, 0), false) ∧ cellAt w g j = some v

def Adr (tmps : Array Value) (s j : Nat) (v : Value) : Prop :=
  ∃ g o, (tmps[s]? = some (.pointer (some ⟨g, o, none⟩)) ∨ ∃ n c, tmps[s]? = some (.slice (some ⟨g, o, none⟩) n c)) ∧ v = .pointer (some ⟨g, o + j, none⟩)

/-- What slot s's value says. -/
def R2 (γ : Gh) (w : World) (tmps : Array Value) (s : Nat) : AV → Value → Prop
  | .box xs, v => BoxAt γ w s xs v
  | .tup vs, v => ∃ us : Array Value, v = .tuple us ∧ us.size = vs.length ∧ ∀ j x, vs[j]? = some x → ∃ u, us[j]? = some u ∧ R1 γ w (s, j + 1) x u
  | .als t j, v => Hdr γ w tmps t j v
  | .adr t j, v => Adr tmps t j v
  | .nst t j x, v => ∃ M, V (lift γ (t, j) M) w x v
  | .npv t j cs, v => ∃ M h o, v = .pointer (some ⟨h, o, none⟩) ∧ γ.O h = some ((t, j), true) ∧ VC (lift γ (t, j) M) w cs h o
  | x, v => R1 γ w (s, 0) x v

def EntOk (γ : Gh) (w : World) (m : MapEntry) : AV → Prop
  | .ent b k v => m.born = b ∧ V γ w k m.key ∧ V γ w v m.val
  | _ => False

/-- An object of the abstract memory. -/
def RObj (γ : Gh) (w : World) (n i : Nat) : AV → Prop
  | .obj cs => ∃ g, γ.ρ i = some g ∧ γ.O g = some ((n, i + 1), false) ∧ ∃ vs : Array Value, Blk w g vs ∧ vs.size = cs.length ∧ γ.St g = 0 ∧ ∀ (j : Nat) (x : AV), cs[j]? = some x → ∃ u, vs[j]? = some u ∧ V γ w x u
  | .mp clock es => ∃ g, γ.ρ i = some g ∧ γ.O g = some ((n, i + 1), false) ∧ ∃ ms : Array MapEntry, w.heap[g]? = some (.map ms clock) ∧ ms.size = es.length ∧
      ∀ (j : Nat) (x : AV), es[j]? = some x → ∃ m, ms[j]? = some m ∧ EntOk γ w m x
  | .junk => True
  | _ => False

def Mem (γ : Gh) (w : World) (n : Nat) : AV → Prop
  | .mem os => ∀ i x, os[i]? = some x → RObj γ w n i x
  | _ => False

def refTo : AV → Option Nat
  | .als s _ => some s
  | .adr s _ => some s
  | .nst s _ _ => some s
  | .npv s _ _ => some s
  | _ => none

/-- The state of a call: σ has a place for each slot and, behind them, one for the memory. 'T': the slots to which others may refer. -/
structure GoodAt (T : List Nat) (w0 : World) (St0 : Nat → Nat) (γ : Gh) (σ : List AV) (a : Act) (w : World) : Prop where
  hB : γ.B = w0.heap.size
  frm : Frm γ.B γ.F w0 w
  st0 : ∀ g, g < γ.B → ¬ γ.F g → γ.St g = St0 g
  len : σ.length = a.tmps.size + 1
  defers : a.defers = []
  slots : ∀ s x v, σ[s]? = some x → a.tmps[s]? = some v → R2 γ w a.tmps s x v
  mem : ∀ x, σ[a.tmps.size]? = some x → Mem γ w a.tmps.size x
  own : ∀ g k, γ.O g = some k → (γ.B ≤ g ∨ γ.F g) ∧ g < w.heap.size
  rho : ∀ i g, γ.ρ i = some g → False
  stnew : ∀ g, w.heap.size ≤ g → γ.St g = 0
  unf : Unf γ.B w
  nest : ∀ g k, γ.O g = some (k, true) → γ.St g = 0 ∧ γ.B ≤ g
  refs : ∀ (s : Nat) (x : AV) (t : Nat), σ[s]? = some x → refTo x = some t → T.contains t = true
  fb : ∀ g, γ.F g → g < γ.B
  fn : ∀ g, ¬ γ.F g

/-- A write. 'set': the slot's own value; 'mod': what it leads to (the headers in the cells 'ks' are told anew). -/
inductive Wr where
  | set (d : Nat) (x : AV)
  | mod (s : Nat) (x : AV) (ks : List Nat)

def killSet (d : Nat) : AV → AV
  | .als s j => if s = d then .junk else .als s j
  | .adr s j => if s = d then .junk else .adr s j
  | .nst s j x => if s = d then .junk else .nst s j x
  | .npv s j x => if s = d then .junk else .npv s j x
  | x => x
def killMod (d : Nat) (ks : List Nat) : AV → AV
  | .als s j => if s = d ∧ ks.contains j then .junk else .als s j
  | .nst s j x => if s = d then .junk else .nst s j x
  | .npv s j x => if s = d then .junk else .npv s j x
  | x => x
def Wr.dst : Wr → Nat
  | .set d _ => d
  | .mod s _ _ => s
def Wr.app (T : List Nat) : Wr → List AV → List AV
  | .set d x, σ => (if T.contains d then σ.map (killSet d) else σ).set d x
  | .mod s x ks, σ => (σ.map (killMod s ks)).set s x

/-- What is not in X has stayed. -/
structure Keep (γ γ' : Gh) (w w' : World) (X : Nat × Nat → Prop) : Prop where
  ext : Ext γ γ' w w'
  B : γ'.B = γ.B
  F : γ'.F = γ.F
  frm : Frm γ.B γ.F w w'
  st0 : ∀ g, g < γ.B → ¬ γ.F g → γ'.St g = γ.St g
  keep : ∀ g k b, γ.O g = some (k, b) → ¬ X k → γ'.O g = some (k, b) ∧ w'.heap[g]? = w.heap[g]? ∧ γ'.St g = γ.St g
  own : ∀ g k, γ'.O g = some k → (γ.B ≤ g ∨ γ.F g) ∧ g < w'.heap.size
  rho : ∀ i g, γ'.ρ i = some g → False
  stnew : ∀ g, w'.heap.size ≤ g → γ'.St g = 0
  unf : Unf γ.B w → Unf γ.B w'
  nest : ∀ g k, γ'.O g = some (k, true) → γ'.St g = 0 ∧ γ.B ≤ g
theorem Keep.weaken {γ γ' : Gh} {w w' : World} {X Y : Nat × Nat → Prop} (K : Keep γ γ' w w' X) (h : ∀ k, X k → Y k) : Keep γ γ' w w' Y :=
  ⟨K.ext, K.B, K.F, K.frm, K.st0, fun g k b h1 h2 => K.keep g k b h1 (fun h3 => h2 (h k h3)), K.own, K.rho, K.stnew, K.unf, K.nest⟩
/-- All of slot s. -/
def Of (s : Nat) (k : Nat × Nat) : Prop := k.1 = s

theorem cellAt_of_heap {w w' : World} {g : Nat} (h : w'.heap[g]? = w.heap[g]?) (o : Nat) : cellAt w' g o = cellAt w g o := by
  unfold cellAt World.cell?
  simp only [h]
theorem Blk.of_heap {w w' : World} {g : Nat} {cs : Array Value} (hb : Blk w g cs) (h : w'.heap[g]? = w.heap[g]?) : Blk w' g cs := by
  obtain ⟨e, lo, hi, h1, h2⟩ := hb
  exact ⟨e, lo, hi, h.trans h1, h2⟩
theorem VS_keep {γ γ' : Gh} {w w' : World} (E : Ext γ γ' w w') {g : Nat} (h : w'.heap[g]? = w.heap[g]?) {z : Nat} {xs : List AV} {o : Nat} (hv : VS γ w z xs g o) : VS γ' w' z xs g o :=
  VS_mono E z xs g o (fun i _ _ => cellAt_of_heap h i) hv
theorem Keep.lift {γ γ' : Gh} {w w' : World} {X : Nat × Nat → Prop} (K : Keep γ γ' w w' X) {key : Nat × Nat} (ht : ¬ X key) (M : Nat) : Ext (lift γ key M) (lift γ' key M) w w' := by
  refine ⟨fun h o ho => ?_, fun h => ?_, K.ext.B, K.ext.ρ, fun h hf => hf.elim (fun hf => .inl (K.ext.F h hf)) (fun hf => .inr (K.keep h key true hf ht).1)⟩
  · simp only [Go.Ev.lift] at ho
    split at ho
    · rename_i hk
      exact cellAt_of_heap (K.keep h key true hk ht).2.1 o
    · exact K.ext.cells h o ho
  · simp only [Go.Ev.lift]
    have hs := K.ext.st h
    by_cases hk : γ.O h = some (key, true)
    · rw [if_pos hk, if_pos (K.keep h key true hk ht).1]
      omega
    · rw [if_neg hk]
      split <;> omega
theorem Own.keep {γ γ' : Gh} {w w' : World} {X : Nat × Nat → Prop} (K : Keep γ γ' w w' X) {t j : Nat} (ht : ¬ X (t, j)) {full : Bool} {z : Nat} {xs : List AV} {v : Value} (h : Own γ w (t, j) full z xs v) : Own γ' w' (t, j) full z xs v := by
  rcases h with h | ⟨g, o, c, cs, h1, h2, h3, h4, h5, h6, h7⟩
  · exact .inl h
  · obtain ⟨k1, k2, k3⟩ := K.keep g _ _ h4 ht
    refine .inr ⟨g, o, c, cs, h1, h2, by rw [K.B]; exact h3, k1, h5.of_heap k2, h6, ?_⟩
    cases full with
    | false =>
      simp only [Bool.false_eq_true, if_false] at h7 ⊢
      exact ⟨by rw [k3]; exact h7.1, VS_keep K.ext k2 h7.2⟩
    | true =>
      simp only [if_true] at h7 ⊢
      obtain ⟨h8, M, h9⟩ := h7
      exact ⟨by rw [k3]; exact h8, M, VS_keep (K.lift ht M) k2 h9⟩
theorem R1.keep {γ γ' : Gh} {w w' : World} {X : Nat × Nat → Prop} (K : Keep γ γ' w w' X) {t j : Nat} (ht : ¬ X (t, j)) : ∀ {x : AV} {v : Value}, R1 γ w (t, j) x v → R1 γ' w' (t, j) x v := by
  intro x v h
  cases x with
  | own full z xs => exact Own.keep K ht h
  | _ => exact V_mono K.ext _ v h
theorem R1.of_V {γ : Gh} {w : World} {key : Nat × Nat} {x : AV} {v : Value} (h : V γ w x v) : R1 γ w key x v := by
  cases x with
  | own full z xs => exact h.elim
  | _ => exact h
theorem R2.of_R1 {γ : Gh} {w : World} {tmps : Array Value} {s : Nat} {x : AV} {v : Value} (h : R1 γ w (s, 0) x v) : R2 γ w tmps s x v := by
  cases x with
  | box _ => exact h.elim
  | tup _ => exact h.elim
  | als _ _ => exact h.elim
  | adr _ _ => exact h.elim
  | nst _ _ _ => exact h.elim
  | npv _ _ _ => exact h.elim
  | _ => exact h
theorem R2.of_V {γ : Gh} {w : World} {tmps : Array Value} {s : Nat} {x : AV} {v : Value} (h : V γ w x v) : R2 γ w tmps s x v := R2.of_R1 (R1.of_V h)
theorem BoxAt.keep {γ γ' : Gh} {w w' : World} {X : Nat × Nat → Prop} (K : Keep γ γ' w w' X) {t : Nat} (ht : ∀ j, ¬ X (t, j)) {xs : List AV} {v : Value} (h : BoxAt γ w t xs v) : BoxAt γ' w' t xs v := by
  obtain ⟨g, cs, h1, h2, h3, h4, h5, h6, h7⟩ := h
  obtain ⟨k1, k2, k3⟩ := K.keep g _ _ h3 (ht 0)
  exact ⟨g, cs, h1, by rw [K.B]; exact h2, k1, h4.of_heap k2, h5, by rw [k3]; exact h6, fun j x hx => by
    obtain ⟨u, hu, hr⟩ := h7 j x hx
    exact ⟨u, hu, R1.keep K (ht _) hr⟩⟩
/-- A slot that is not s, and does not refer to it. -/
theorem R2.keep {γ γ' : Gh} {w w' : World} {X : Nat × Nat → Prop} (K : Keep γ γ' w w' X) {tmps tmps' : Array Value} {t : Nat} (ht : ∀ j, ¬ X (t, j)) :
    ∀ {x : AV} {v : Value}, (∀ q, refTo x = some q → (∀ j, ¬ X (q, j)) ∧ tmps'[q]? = tmps[q]?) → R2 γ w tmps t x v → R2 γ' w' tmps' t x v := by
  intro x v hx h
  cases x with
  | box xs => exact BoxAt.keep K ht h
  | tup vs =>
    obtain ⟨us, h1, h2, h3⟩ := h
    exact ⟨us, h1, h2, fun j x hx => by
      obtain ⟨u, hu, hr⟩ := h3 j x hx
      exact ⟨u, hu, R1.keep K (ht _) hr⟩⟩
  | als q j =>
    obtain ⟨hq, hp⟩ := hx q rfl
    cases j with
    | zero => exact hp.trans h
    | succ j =>
      obtain ⟨g, h1, h2, h3⟩ := h
      obtain ⟨k1, k2, k3⟩ := K.keep g _ _ h2 (hq 0)
      exact ⟨g, hp.trans h1, k1, (cellAt_of_heap k2 j).trans h3⟩
  | adr q j =>
    obtain ⟨hq, hp⟩ := hx q rfl
    obtain ⟨g, o, h1, h2⟩ := h
    exact ⟨g, o, by rw [hp]; exact h1, h2⟩
  | nst q j y =>
    obtain ⟨hq, hp⟩ := hx q rfl
    obtain ⟨M, h⟩ := h
    exact ⟨M, V_mono (K.lift (hq j) M) _ _ h⟩
  | npv q j cs =>
    obtain ⟨hq, hp⟩ := hx q rfl
    obtain ⟨M, h, o, h1, h2, h4⟩ := h
    exact ⟨M, h, o, h1, (K.keep h _ _ h2 (hq j)).1, VC_mono (K.lift (hq j) M) _ _ _ (fun i _ _ => cellAt_of_heap (K.keep h _ _ h2 (hq j)).2.1 i) h4⟩
  | own full z xs => exact Own.keep K (ht 0) h
  | _ => exact V_mono K.ext _ v h
theorem EntOk.mono {γ γ' : Gh} {w w' : World} (E : Ext γ γ' w w') {m : MapEntry} : ∀ {x : AV}, EntOk γ w m x → EntOk γ' w' m x := by
  intro x h
  cases x with
  | ent b k v => exact ⟨h.1, V_mono E _ _ h.2.1, V_mono E _ _ h.2.2⟩
  | _ => exact h.elim
theorem RObj.keep {γ γ' : Gh} {w w' : World} {X : Nat × Nat → Prop} (K : Keep γ γ' w w' X) {n i : Nat} (hn : ∀ j, ¬ X (n, j)) : ∀ {x : AV}, RObj γ w n i x → RObj γ' w' n i x := by
  intro x h
  cases x with
  | obj cs =>
    obtain ⟨g, h0, h2, vs, h3, h4, h5, h6⟩ := h
    obtain ⟨k1, k2, k3⟩ := K.keep g _ _ h2 (hn _)
    exact ⟨g, K.ext.ρ _ _ h0, k1, vs, h3.of_heap k2, h4, by rw [k3]; exact h5, fun j x hx => by
      obtain ⟨u, hu, hr⟩ := h6 j x hx
      exact ⟨u, hu, V_mono K.ext _ _ hr⟩⟩
  | mp clock es =>
    obtain ⟨g, h0, h2, ms, h3, h4, h5⟩ := h
    obtain ⟨k1, k2, k3⟩ := K.keep g _ _ h2 (hn _)
    exact ⟨g, K.ext.ρ _ _ h0, k1, ms, k2.trans h3, h4, fun j x hx => by
      obtain ⟨m, hm, hr⟩ := h5 j x hx
      exact ⟨m, hm, EntOk.mono K.ext hr⟩⟩
  | junk => trivial
  | _ => exact h.elim
theorem Mem.keep {γ γ' : Gh} {w w' : World} {X : Nat × Nat → Prop} (K : Keep γ γ' w w' X) {n : Nat} (hn : ∀ j, ¬ X (n, j)) : ∀ {x : AV}, Mem γ w n x → Mem γ' w' n x := by
  intro x h
  cases x with
  | mem os => exact fun i x hx => RObj.keep K hn (h i x hx)
  | _ => exact h.elim

theorem killSet_ref {d : Nat} {x : AV} : refTo (killSet d x) ≠ some d := by
  cases x with
  | als s j => simp only [killSet]; split <;> simp_all [refTo]
  | adr s j => simp only [killSet]; split <;> simp_all [refTo]
  | nst s j y => simp only [killSet]; split <;> simp_all [refTo]
  | npv s j y => simp only [killSet]; split <;> simp_all [refTo]
  | _ => simp [killSet, refTo]
theorem killSet_or (d : Nat) (x : AV) : killSet d x = .junk ∨ killSet d x = x := by
  cases x with
  | als s j => simp only [killSet]; split <;> simp
  | adr s j => simp only [killSet]; split <;> simp
  | nst s j y => simp only [killSet]; split <;> simp
  | npv s j y => simp only [killSet]; split <;> simp
  | _ => exact .inr rfl
theorem killMod_or (d : Nat) (ks : List Nat) (x : AV) : killMod d ks x = .junk ∨ killMod d ks x = x := by
  cases x with
  | als s j => simp only [killMod]; split <;> simp
  | nst s j y => simp only [killMod]; split <;> simp
  | npv s j y => simp only [killMod]; split <;> simp
  | _ => exact .inr rfl
theorem R2.junk {γ : Gh} {w : World} {tmps : Array Value} {s : Nat} {v : Value} : R2 γ w tmps s .junk v := trivial

/-- A slot is set. -/
theorem GoodAt.set {T : List Nat} {w0 : World} {St0 : Nat → Nat} {γ γ' : Gh} {σ : List AV} {a : Act} {w w' : World} (G : GoodAt T w0 St0 γ σ a w) {d : Nat} {x : AV} {v : Value}
    (K : Keep γ γ' w w' (Of d)) (hd : d < a.tmps.size) (hx : R2 γ' w' (a.put (some d) v).tmps d x v) (hr : ∀ t, refTo x = some t → T.contains t = true) :
    GoodAt T w0 St0 γ' ((Wr.set d x).app T σ) (a.put (some d) v) w' := by
  have hsz : (a.put (some d) v).tmps.size = a.tmps.size := by simp [Act.put]
  have hl : ((Wr.set d x).app T σ).length = σ.length := by simp only [Wr.app]; split <;> simp
  -- what slot s holds now
  have hget : ∀ s y, s ≠ d → ((Wr.set d x).app T σ)[s]? = some y → ∃ y0, σ[s]? = some y0 ∧ (y = .junk ∨ y = y0) ∧ (T.contains d = true → refTo y ≠ some d) := by
    intro s y hs h
    simp only [Wr.app] at h
    rw [List.getElem?_set_ne (fun e => hs e.symm)] at h
    by_cases hT : T.contains d = true
    · rw [if_pos hT, List.getElem?_map] at h
      cases h0 : σ[s]? with
      | none => simp [h0] at h
      | some y0 =>
        rw [h0] at h
        simp only [Option.map_some, Option.some.injEq] at h
        subst h
        exact ⟨y0, rfl, killSet_or d y0, fun _ => killSet_ref⟩
    · rw [if_neg hT] at h
      exact ⟨y, h, .inr rfl, fun h' => absurd h' hT⟩
  have hp : ∀ i, i ≠ d → (a.put (some d) v).tmps[i]? = a.tmps[i]? := by
    intro i hi
    simp only [Act.put]
    exact Array.getElem?_setIfInBounds_ne (fun e => hi e.symm)
  refine ⟨K.B.trans G.hB, ?_, ?_, ?_, ?_, ?_, ?_, ?_, K.rho, K.stnew, by rw [K.B]; exact K.unf G.unf, fun g k h => ⟨(K.nest g k h).1, by rw [K.B]; exact (K.nest g k h).2⟩, ?_, by rw [K.B, K.F]; exact G.fb, by rw [K.F]; exact G.fn⟩
  · rw [K.B, K.F]; exact G.frm.trans K.frm
  · intro g hg hF
    rw [K.B] at hg
    rw [K.F] at hF
    rw [K.st0 g hg hF, G.st0 g hg hF]
  · rw [hl, hsz]; exact G.len
  · exact G.defers
  · intro s y u hy hu
    by_cases hs : s = d
    · subst hs
      have e1 : y = x := by
        simp only [Wr.app] at hy
        rw [List.getElem?_set_self] at hy
        · simpa using hy.symm
        · split <;> simp [G.len] <;> omega
      have e2 : u = v := by
        simp only [Act.put] at hu
        rw [Array.getElem?_setIfInBounds_self_of_lt hd] at hu
        simpa using hu.symm
      subst e1 e2
      exact hx
    · obtain ⟨y0, h0, hor, href⟩ := hget s y hs hy
      rcases hor with rfl | rfl
      · exact R2.junk
      · refine R2.keep K (fun _ => hs) (fun q hq => ?_) (G.slots s y u h0 ((hp s hs).symm.trans hu))
        have hqd : q ≠ d := fun e => by
          subst e
          exact (href (G.refs s y q h0 hq)) hq
        exact ⟨fun _ => hqd, hp q hqd⟩
  · intro y hy
    rw [hsz] at hy ⊢
    obtain ⟨y0, h0, hor, href⟩ := hget _ y (by omega) hy
    have hm := G.mem y0 h0
    rcases hor with rfl | rfl
    · exfalso
      by_cases hT : T.contains d = true
      · simp only [Wr.app] at hy
        rw [List.getElem?_set_ne (by omega), if_pos hT, List.getElem?_map, h0] at hy
        cases y0 <;> first | exact hm.elim | simp [killSet] at hy
      · simp only [Wr.app] at hy
        rw [List.getElem?_set_ne (by omega), if_neg hT, h0] at hy
        cases hy
        exact hm.elim
    · exact Mem.keep K (fun _ => by simp only [Of]; omega) hm
  · intro g k h
    rw [K.B, K.F]
    exact K.own g k h
  · intro s y t hy ht
    by_cases hs : s = d
    · subst hs
      have e1 : y = x := by
        simp only [Wr.app] at hy
        rw [List.getElem?_set_self] at hy
        · simpa using hy.symm
        · split <;> simp [G.len] <;> omega
      subst e1
      exact hr t ht
    · obtain ⟨y0, h0, hor, href⟩ := hget s y hs hy
      rcases hor with rfl | rfl
      · simp [refTo] at ht
      · exact G.refs s y t h0 ht
/-- What slot s leads to is told anew. -/
theorem GoodAt.mod {T : List Nat} {w0 : World} {St0 : Nat → Nat} {γ γ' : Gh} {σ : List AV} {a : Act} {w w' : World} (G : GoodAt T w0 St0 γ σ a w) {s : Nat} {x : AV} {ks : List Nat}
    (K : Keep γ γ' w w' (Of s)) (hd : s < a.tmps.size) (hx : ∀ v, a.tmps[s]? = some v → R2 γ' w' a.tmps s x v) (hr : ∀ t, refTo x = some t → T.contains t = true)
    (hh : ∀ j v, ks.contains j = false → Hdr γ w a.tmps s j v → Hdr γ' w' a.tmps s j v) :
    GoodAt T w0 St0 γ' ((Wr.mod s x ks).app T σ) a w' := by
  have hl : ((Wr.mod s x ks).app T σ).length = σ.length := by simp [Wr.app]
  have hget : ∀ q y, q ≠ s → ((Wr.mod s x ks).app T σ)[q]? = some y → ∃ y0, σ[q]? = some y0 ∧ (y = .junk ∨ y = y0) ∧ (∀ j, y = .als s j → ks.contains j = false) ∧ (∀ j z, y ≠ .nst s j z) ∧ (∀ j z, y ≠ .npv s j z) := by
    intro q y hs h
    simp only [Wr.app] at h
    rw [List.getElem?_set_ne (fun e => hs e.symm), List.getElem?_map] at h
    cases h0 : σ[q]? with
    | none => simp [h0] at h
    | some y0 =>
      rw [h0] at h
      simp only [Option.map_some, Option.some.injEq] at h
      subst h
      refine ⟨y0, rfl, killMod_or s ks y0, fun j hj => ?_, fun j z hj => ?_, fun j z hj => ?_⟩
      · cases y0 with
        | als t i =>
          simp only [killMod] at hj
          split at hj
          · cases hj
          · rename_i hc
            injection hj with e1 e2
            subst e1 e2
            cases hk : ks.contains i with
            | false => rfl
            | true => exact absurd ⟨rfl, hk⟩ hc
        | nst t i z => simp only [killMod] at hj; split at hj <;> cases hj
        | npv t i z => simp only [killMod] at hj; split at hj <;> cases hj
        | _ => simp [killMod] at hj
      · cases y0 with
        | als t i => simp only [killMod] at hj; split at hj <;> cases hj
        | nst t i z => simp only [killMod] at hj; split at hj <;> cases hj; simp_all
        | npv t i z => simp only [killMod] at hj; split at hj <;> cases hj
        | _ => simp [killMod] at hj
      · cases y0 with
        | als t i => simp only [killMod] at hj; split at hj <;> cases hj
        | nst t i z => simp only [killMod] at hj; split at hj <;> cases hj
        | npv t i z => simp only [killMod] at hj; split at hj <;> cases hj; simp_all
        | _ => simp [killMod] at hj
  refine ⟨K.B.trans G.hB, ?_, ?_, ?_, G.defers, ?_, ?_, ?_, K.rho, K.stnew, by rw [K.B]; exact K.unf G.unf, fun g k h => ⟨(K.nest g k h).1, by rw [K.B]; exact (K.nest g k h).2⟩, ?_, by rw [K.B, K.F]; exact G.fb, by rw [K.F]; exact G.fn⟩
  · rw [K.B, K.F]; exact G.frm.trans K.frm
  · intro g hg hF
    rw [K.B] at hg
    rw [K.F] at hF
    rw [K.st0 g hg hF, G.st0 g hg hF]
  · rw [hl]; exact G.len
  · intro q y u hy hu
    by_cases hs : q = s
    · subst hs
      have e1 : y = x := by
        simp only [Wr.app] at hy
        rw [List.getElem?_set_self] at hy
        · simpa using hy.symm
        · simp [G.len]; omega
      subst e1
      exact hx u hu
    · obtain ⟨y0, h0, hor, href, hn1, hn2⟩ := hget q y hs hy
      rcases hor with rfl | rfl
      · exact R2.junk
      · have h2 := G.slots q y u h0 hu
        by_cases hrr : refTo y = some s
        · cases y with
          | als t j =>
            have e : t = s := by simpa [refTo] using hrr
            subst e
            exact hh j u (href j rfl) h2
          | adr t j => exact h2
          | nst t j z => exact absurd rfl (by have e : t = s := (by simpa [refTo] using hrr); subst e; exact hn1 j z)
          | npv t j z => exact absurd rfl (by have e : t = s := (by simpa [refTo] using hrr); subst e; exact hn2 j z)
          | _ => simp [refTo] at hrr
        · exact R2.keep K (fun _ => hs) (fun q hq => ⟨fun _ e => hrr (by rw [hq]; exact congrArg some e), rfl⟩) h2
  · intro y hy
    obtain ⟨y0, h0, hor, href, _, _⟩ := hget _ y (by omega) hy
    have hm := G.mem y0 h0
    rcases hor with rfl | rfl
    · exfalso
      simp only [Wr.app] at hy
      rw [List.getElem?_set_ne (by omega), List.getElem?_map, h0] at hy
      cases y0 <;> first | exact hm.elim | simp [killMod] at hy
    · exact Mem.keep K (fun _ => by simp only [Of]; omega) hm
  · intro g k h
    rw [K.B, K.F]
    exact K.own g k h
  · intro q y t hy ht
    by_cases hs : q = s
    · subst hs
      have e1 : y = x := by
        simp only [Wr.app] at hy
        rw [List.getElem?_set_self] at hy
        · simpa using hy.symm
        · simp [G.len]; omega
      subst e1
      exact hr t ht
    · obtain ⟨y0, h0, hor, href, hn1, hn2⟩ := hget q y hs hy
      rcases hor with rfl | rfl
      · simp [refTo] at ht
      · exact G.refs q y t h0 ht
end Go.Ev

/-! text E3 -/
set_option linter.unusedVariables false
namespace Go.Ev

/-! ### Reading the state -/
inductive RM (α : Type) where
  | ret (a : α)
  | fail
  | get (s : Nat) (k : AV → RM α)
def RM.run {α : Type} (U : List Nat) (σ : List AV) : RM α → Option α
  | .ret a => some a
  | .fail => none
  | .get s k => if U.contains s then none else match σ[s]? with
    | some x => (k x).run U σ
    | none => none
def RM.bind {α β : Type} : RM α → (α → RM β) → RM β
  | .ret a, f => f a
  | .fail, _ => .fail
  | .get s k, f => .get s fun x => (k x).bind f
instance : Monad RM where
  pure := RM.ret
  bind := RM.bind
theorem RM.run_bind {α β : Type} (U : List Nat) (σ : List AV) (m : RM α) (f : α → RM β) : (m.bind f).run U σ = (m.run U σ).bind fun a => (f a).run U σ := by
  induction m with
  | ret a => rfl
  | fail => rfl
  | get s k ih =>
    simp only [RM.bind, RM.run]
    split
    · rfl
    · split
      · exact ih _
      · rfl
def RM.opt {α : Type} : Option α → RM α
  | some a => .ret a
  | none => .fail

/-! ### Instructions -/
inductive Ar where
  | tmp (t : Nat)
  | val (x : AV)

/-- Of what type '==' is. -/
inductive EqK where
  | bool | slice | ptr | iface | flat (tags : List Nat)

inductive I where
  | mov (x : Ar)
  | asg (x : Ar)
  | pick (c a b : Ar)
  | alloc (cs : List AV)
  | box (x : Ar)
  | build (zero : List AV) (parts : List (Nat × Nat × Ar))
  | bslice (ag : Bool) (z n : Nat) (zero : List AV) (parts : List (Nat × Nat × Ar))
  | load (n : Option Nat) (a : Ar)
  | store (n : Nat) (a x : Ar)
  | nilchk (x : Ar)
  | bin (op : BinOp) (x y : Ar)
  | eq (k : EqK) (neg : Bool) (x y : Ar)
  | un (op : UnOp) (x : Ar)
  | conv (k : IntKind) (x : Ar)
  | s2b (x : Ar)
  | b2s (x : Ar)
  | cvb (x : Ar)
  | slice (z : Nat) (x : Ar) (lo hi : Option Ar)
  | slarr (ag : Bool) (len z : Nat) (x : Ar) (lo hi : Option Ar)
  | slstr (x : Ar) (lo hi : Option Ar)
  | fadr (off : Nat) (x : Ar)
  | fld (off : Nat) (n : Option Nat) (x : Ar)
  | idxA (z : Nat) (x i : Ar)
  | idxP (len z : Nat) (x i : Ar)
  | idx (len z : Nat) (n : Option Nat) (x i : Ar)
  | idxS (x i : Ar)
  | ext (j : Nat) (x : Ar)
  | len (s : Bool) (x : Ar)
  | appd (z bytes : Nat) (x y : Ar)
  | mm (big : Bool) (xs : List Ar)
  | call (f : FuncId) (xs : List Ar)

/-- Where a value with rights lies. -/
abbrev Key := Nat × Nat

/-- What stands at (s, j). -/
def look : Key → RM AV
  | (s, 0) => .get s .ret
  | (s, j + 1) => .get s fun
    | .box cs => .opt cs[j]?
    | _ => .fail
/-- An operand: what it says, and where it lies. -/
def rd : Ar → RM (AV × Option Key)
  | .val x => .ret (x, none)
  | .tmp t => .get t fun
    | .als s j => (look (s, j)).bind fun x => .ret (x, some (s, j))
    | .mem _ => .fail
    | x => .ret (x, some (t, 0))
/-- Rights to all that is reached are given up. -/
def undeep : AV → AV
  | .dsl nn z xs => .sl true nn z (uL xs)
  | .sl fr nn z xs => .sl fr nn z (uL xs)
  | .agg cs => .agg (uL cs)
  | .pv cs => .pv (uL cs)
  | .ifc t x => .ifc t (undeep x)
  | .fn f cs => .fn f (uL cs)
  | x => x
where
  uL : List AV → List AV
    | [] => []
    | x :: xs => undeep x :: uL xs
/-- All that is reached is one slot's own. -/
def deepen : AV → AV
  | .sl true nn z xs => .dsl nn z (dL xs)
  | .dsl nn z xs => .dsl nn z (dL xs)
  | .agg cs => .agg (dL cs)
  | x => x
where
  dL : List AV → List AV
    | [] => []
    | x :: xs => deepen x :: dL xs
/-- For whoever is called: nothing of it is its own. -/
def stale : AV → AV
  | .sl _ nn z xs => .sl false nn z (sL xs)
  | .dsl nn z xs => .sl false nn z (sL xs)
  | .agg cs => .agg (sL cs)
  | .pv cs => .pv (sL cs)
  | .ifc t x => .ifc t (stale x)
  | .fn f cs => .fn f (sL cs)
  | x => x
where
  sL : List AV → List AV
    | [] => []
    | x :: xs => stale x :: sL xs
/-- What is told of a value that is only read. -/
def viewOf : AV → Option AV
  | .junk => none
  | .own false z xs => some (.sl true false z xs)
  | .own true _ _ | .box _ | .tup _ | .als _ _ | .adr _ _ | .obj _ | .ent _ _ _ | .mp _ _ | .mem _ | .nst _ _ _ | .npv _ _ _ | .dsl _ _ _ => none
  | x => some x
/-- (s, j) is told anew. -/
def putKey (k : Key) (x : AV) : RM (List Wr) :=
  match k with
  | (s, 0) => .ret [.mod s x []]
  | (s, j + 1) => .get s fun
    | .box cs => .ret [.mod s (.box (cs.set j x)) []]
    | _ => .fail
/-- An operand that is read and may be kept: rights to its cells are given up. -/
def rdView (x : Ar) : RM (AV × List Wr) :=
  (rd x).bind fun
    | (.own true z xs, some k) => (putKey k (.own false z (undeep.uL xs))).bind fun ws => .ret (.sl true false z (undeep.uL xs), ws)
    | (.nst s j y, _) => (look (s, j)).bind fun
      | .own true z xs => (RM.opt (viewOf (undeep y))).bind fun v => (putKey (s, j) (.own false z (undeep.uL xs))).bind fun ws => .ret (v, ws)
      | _ => .fail
    | (y, _) => (RM.opt (viewOf y)).bind fun v => .ret (v, [])
/-- An operand that is read. -/
def rdV (x : Ar) : RM AV := (rd x).bind fun (y, _) => .opt (viewOf y)
/-- An operand that is only looked at. -/
def rdC (x : Ar) : RM AV := (rd x).bind fun
  | (.nst _ _ y, _) => .ret y
  | (y, _) => .ret y
def rdInt (x : Ar) : RM (IntKind × Int) := (rdC x).bind fun
  | .int k n => .ret (k, n)
  | _ => .fail
def rdBool (x : Ar) : RM Bool := (rdC x).bind fun
  | .bool b => .ret b
  | _ => .fail
def cellsOf : AV → List AV
  | .agg cs => cs
  | x => [x]
def single : AV → Bool
  | .agg _ => false
  | _ => true
/-- What a copy in a slot says. -/
def copyOf (x : Ar) : RM AV :=
  match x with
  | .val v => .opt (viewOf v)
  | .tmp t => .get t fun
    | .own _ _ _ => .ret (.als t 0)
    | .als s j => .ret (.als s j)
    | .adr s j => .ret (.adr s j)
    | .nst s j x => .ret (.nst s j x)
    | .npv s j cs => .ret (.npv s j cs)
    | .box _ => .ret (.adr t 0)
    | v => .opt (viewOf v)
/-- A value that is taken, with its rights, out of where it lies. -/
def takeOf (x : Ar) : RM (AV × List Wr) :=
  (rd x).bind fun
    | (.own f z xs, some k) => (putKey k (if f then .junk else .sl true false z xs)).bind fun ws => .ret (.own f z xs, ws)
    | (.adr s j, _) => .ret (.adr s j, [])
    | _ => rdView x

def setD (d : Option Nat) (x : AV) : List Wr :=
  match d with
  | some d => [.set d x]
  | none => []

end Go.Ev

/-! text E4 -/
set_option linter.unusedVariables false
namespace Go.Ev
open Go.RowKit

/-- What stands at a key. -/
def RK (γ : Gh) (w : World) (tmps : Array Value) : Key → AV → Value → Prop
  | (s, 0), y, v => tmps[s]? = some v ∧ R2 γ w tmps s y v
  | (s, j + 1), y, v => Hdr γ w tmps s (j + 1) v ∧ R1 γ w (s, j + 1) y v

def ArOk (o : Operand) : Ar → Prop
  | .tmp t => o = .tmp t
  | .val y => (∀ γ w (a : Act), V γ w y (a.eval o)) ∧ (∀ s j, y ≠ .als s j) ∧ (∀ s j, y ≠ .adr s j)

section
variable {T : List Nat} {w0 : World} {St0 : Nat → Nat} {γ : Gh} {σ : List AV} {a : Act} {w : World} {U : List Nat}

theorem GoodAt.lt_of_get (G : GoodAt T w0 St0 γ σ a w) {s : Nat} {x : AV} (h : σ[s]? = some x) : s < a.tmps.size ∨ (s = a.tmps.size ∧ ∃ os, x = .mem os) := by
  obtain ⟨h1, _⟩ := List.getElem?_eq_some_iff.1 h
  have hl := G.len
  rcases Nat.lt_or_ge s a.tmps.size with h2 | h2
  · exact .inl h2
  · have e : s = a.tmps.size := by omega
    subst e
    have hm := G.mem x h
    cases x with
    | mem os => exact .inr ⟨rfl, os, rfl⟩
    | _ => exact hm.elim
theorem run_get {α : Type} {s : Nat} {k : AV → RM α} {r : α} (h : (RM.get s k).run U σ = some r) : ∃ x, σ[s]? = some x ∧ (k x).run U σ = some r := by
  simp only [RM.run] at h
  split at h
  · cases h
  · split at h
    · exact ⟨_, by assumption, h⟩
    · cases h
theorem run_bind {α β : Type} {m : RM α} {f : α → RM β} {r : β} (h : (m.bind f).run U σ = some r) : ∃ x, m.run U σ = some x ∧ (f x).run U σ = some r := by
  rw [RM.run_bind] at h
  cases hm : m.run U σ with
  | none => simp [hm] at h
  | some x => rw [hm] at h; exact ⟨x, rfl, h⟩
theorem run_opt {α : Type} {o : Option α} {r : α} (h : (RM.opt o).run U σ = some r) : o = some r := by
  cases o <;> simp [RM.opt, RM.run] at h ⊢
  exact h

theorem run_ret {α : Type} {x r : α} (h : (RM.ret x).run U σ = some r) : x = r := by simpa [RM.run] using h
theorem run_fail {α : Type} {r : α} (h : (RM.fail : RM α).run U σ = some r) : False := by simp [RM.run] at h
/-- A test that must have gone well. -/
theorem run_if {α : Type} {c : Prop} [Decidable c] {m : RM α} {r : α} (h : (if c then m else .fail).run U σ = some r) : c ∧ m.run U σ = some r := by
  by_cases hc : c
  · rw [if_pos hc] at h; exact ⟨hc, h⟩
  · rw [if_neg hc] at h; exact (run_fail h).elim
theorem run_ifn {α : Type} {c : Prop} [Decidable c] {m : RM α} {r : α} (h : (if c then .fail else m).run U σ = some r) : ¬ c ∧ m.run U σ = some r := by
  by_cases hc : c
  · rw [if_pos hc] at h; exact (run_fail h).elim
  · rw [if_neg hc] at h; exact ⟨hc, h⟩

theorem look_sound (G : GoodAt T w0 St0 γ σ a w) {k : Key} {y : AV} {v : Value} (h : (look k).run U σ = some y) (hv : Hdr γ w a.tmps k.1 k.2 v) : RK γ w a.tmps k y v := by
  obtain ⟨s, j⟩ := k
  cases j with
  | zero =>
    obtain ⟨x, hx, h⟩ := run_get h
    simp only [RM.run, Option.some.injEq] at h
    subst h
    exact ⟨hv, G.slots s x v hx hv⟩
  | succ j =>
    obtain ⟨x, hx, h⟩ := run_get h
    cases x with
    | box cs =>
      have h := run_opt h
      obtain ⟨g, h1, h2, h3⟩ := hv
      have hb := G.slots s _ _ hx h1
      obtain ⟨g', cs', e1, e2, e3, e4, e5, e6, e7⟩ := hb
      have eg : g = g' := by simpa using e1
      subst eg
      obtain ⟨u, hu, hr⟩ := e7 j y h
      have : u = v := by
        obtain ⟨e, lo, hi, hh, _⟩ := e4
        simp only [cellAt, World.cell?, hh] at h3
        simp at h3
        rw [hu] at h3
        simpa using h3
      subst this
      exact ⟨⟨g, h1, h2, h3⟩, hr⟩
    | _ => simp [RM.run] at h

theorem rd_sound (G : GoodAt T w0 St0 γ σ a w) {o : Operand} {x : Ar} (hx : ArOk o x) {y : AV} {k : Option Key} (h : (rd x).run U σ = some (y, k)) :
    match k with
    | none => V γ w y (a.eval o)
    | some k => RK γ w a.tmps k y (a.eval o) := by
  cases x with
  | val z =>
    simp only [rd, RM.run, Option.some.injEq, Prod.mk.injEq] at h
    obtain ⟨rfl, rfl⟩ := h
    exact hx.1 _ _ _
  | tmp t =>
    have ho : o = .tmp t := hx
    subst ho
    obtain ⟨z, hz, h⟩ := run_get h
    rcases G.lt_of_get hz with ht | ⟨rfl, os, rfl⟩
    · have he : a.tmps[t]? = some (a.eval (.tmp t)) := by simp [Act.eval, Array.getD_eq_getD_getElem?, Array.getElem?_eq_getElem ht]
      have hs := G.slots t z _ hz he
      cases z with
      | als s j =>
        obtain ⟨y', hy', h⟩ := run_bind h
        simp only [RM.run, Option.some.injEq, Prod.mk.injEq] at h
        obtain ⟨rfl, rfl⟩ := h
        exact look_sound G hy' hs
      | mem _ => simp [RM.run] at h
      | _ =>
        simp only [RM.run, Option.some.injEq, Prod.mk.injEq] at h
        obtain ⟨rfl, rfl⟩ := h
        exact ⟨he, hs⟩
    · cases h
theorem view_V {y x : AV} {v : Value} (h : V γ w y v) (hx : viewOf y = some x) : V γ w x v := by
  cases y with
  | own f z xs => exact h.elim
  | junk => simp [viewOf] at hx
  | box _ => exact h.elim
  | tup _ => exact h.elim
  | als _ _ => exact h.elim
  | adr _ _ => exact h.elim
  | obj _ => exact h.elim
  | ent _ _ _ => exact h.elim
  | mp _ _ => exact h.elim
  | mem _ => exact h.elim
  | nst _ _ _ => exact h.elim
  | npv _ _ _ => exact h.elim
  | dsl _ _ _ => simp [viewOf] at hx
  | _ => simp only [viewOf, Option.some.injEq] at hx; subst hx; exact h
theorem own_view {key : Key} {z : Nat} {xs : List AV} {v : Value} (h : Own γ w key false z xs v) : V γ w (.sl true false z xs) v := by
  rcases h with ⟨rfl, rfl⟩ | ⟨g, o, c, cs, h1, h2, h3, h4, h5, h6, h7⟩
  · exact ⟨none, 0, rfl, Nat.le_refl _, fun _ => ⟨rfl, rfl, rfl⟩, fun _ h => (by cases h), fun h => absurd rfl h⟩
  · simp only [Bool.false_eq_true, if_false] at h7
    refine ⟨_, c, h1, h2, fun h => (by cases h), fun ad ha _ => ?_, fun _ => ⟨g, o, rfl, ?_, h7.2⟩⟩
    · cases ha
      exact h3
    · omega
theorem view_R1 {key : Key} {y x : AV} {v : Value} (h : R1 γ w key y v) (hx : viewOf y = some x) : V γ w x v := by
  cases y with
  | own f z xs =>
    cases f with
    | false =>
      simp [viewOf] at hx
      subst hx
      exact own_view h
    | true => simp [viewOf] at hx
  | _ => exact view_V h hx
theorem R2.to_R1 {tmps : Array Value} {s : Nat} {y x : AV} {v : Value} (h : R2 γ w tmps s y v) (hx : viewOf y = some x) : R1 γ w (s, 0) y v := by
  cases y with
  | box _ => simp [viewOf] at hx
  | tup _ => simp [viewOf] at hx
  | als _ _ => simp [viewOf] at hx
  | adr _ _ => simp [viewOf] at hx
  | nst _ _ _ => simp [viewOf] at hx
  | npv _ _ _ => simp [viewOf] at hx
  | dsl _ _ _ => simp [viewOf] at hx
  | _ => exact h
theorem view_R2 {tmps : Array Value} {s : Nat} {y x : AV} {v : Value} (h : R2 γ w tmps s y v) (hx : viewOf y = some x) : V γ w x v :=
  view_R1 (R2.to_R1 h hx) hx
theorem view_RK {tmps : Array Value} {k : Key} {y x : AV} {v : Value} (h : RK γ w tmps k y v) (hx : viewOf y = some x) : V γ w x v := by
  obtain ⟨s, j⟩ := k
  cases j with
  | zero => exact view_R2 h.2 hx
  | succ j => exact view_R1 h.2 hx
theorem RK.own {tmps : Array Value} {k : Key} {f : Bool} {z : Nat} {xs : List AV} {v : Value} (h : RK γ w tmps k (.own f z xs) v) : Own γ w k f z xs v := by
  obtain ⟨s, j⟩ := k
  cases j with
  | zero => exact h.2
  | succ j => exact h.2
theorem rd_view (G : GoodAt T w0 St0 γ σ a w) {o : Operand} {x : Ar} (hx : ArOk o x) {y : AV} {k : Option Key} (h : (rd x).run U σ = some (y, k)) {y' : AV} (hy : viewOf y = some y') : V γ w y' (a.eval o) := by
  have := rd_sound G hx h
  cases k with
  | none => exact view_V this hy
  | some k => exact view_RK this hy
theorem rdV_sound (G : GoodAt T w0 St0 γ σ a w) {o : Operand} {x : Ar} (hx : ArOk o x) {y : AV} (h : (rdV x).run U σ = some y) : V γ w y (a.eval o) := by
  obtain ⟨⟨y0, k⟩, h1, h2⟩ := run_bind h
  exact rd_view G hx h1 (run_opt h2)
/-- What an operand says now. -/
def Now (γ : Gh) (w : World) (tmps : Array Value) (y : AV) (v : Value) : Prop := (∃ γ', V γ' w y v) ∨ ∃ k, RK γ w tmps k y v
theorem rdC_sound (G : GoodAt T w0 St0 γ σ a w) {o : Operand} {x : Ar} (hx : ArOk o x) {y : AV} (h : (rdC x).run U σ = some y) : Now γ w a.tmps y (a.eval o) := by
  obtain ⟨⟨y0, k⟩, h1, h2⟩ := run_bind h
  have hr := rd_sound G hx h1
  by_cases hn : ∃ s j z, y0 = .nst s j z
  · obtain ⟨s, j, z, rfl⟩ := hn
    simp only [RM.run, Option.some.injEq] at h2
    subst h2
    cases k with
    | none => exact hr.elim
    | some k =>
      obtain ⟨s', j'⟩ := k
      cases j' with
      | zero => obtain ⟨_, M, hv⟩ := hr; exact .inl ⟨_, hv⟩
      | succ j' => obtain ⟨_, hv⟩ := hr; exact hv.elim
  · have e : y0 = y := by
      cases y0 with
      | nst s j z => exact absurd ⟨s, j, z, rfl⟩ hn
      | _ => simpa [RM.run] using h2
    subst e
    cases k with
    | none => exact .inl ⟨_, hr⟩
    | some k => exact .inr ⟨k, hr⟩
theorem Now.V {tmps : Array Value} {y y' : AV} {v : Value} (h : Now γ w tmps y v) (hy : viewOf y = some y') : ∃ γ', V γ' w y' v := by
  rcases h with ⟨γ', h⟩ | ⟨k, h⟩
  · exact ⟨γ', view_V h hy⟩
  · exact ⟨γ, view_RK h hy⟩
theorem rdInt_sound (G : GoodAt T w0 St0 γ σ a w) {o : Operand} {x : Ar} (hx : ArOk o x) {p : IntKind × Int} (h : (rdInt x).run U σ = some p) : a.eval o = .int p.1 p.2 := by
  obtain ⟨y, h1, h2⟩ := run_bind h
  have hn := rdC_sound G hx h1
  cases y with
  | int kk n =>
    simp only [RM.run, Option.some.injEq] at h2
    subst h2
    obtain ⟨γ', hv⟩ := hn.V (y' := .int kk n) rfl
    exact hv
  | _ => simp [RM.run] at h2
theorem rdBool_sound (G : GoodAt T w0 St0 γ σ a w) {o : Operand} {x : Ar} (hx : ArOk o x) {b : Bool} (h : (rdBool x).run U σ = some b) : a.eval o = .bool b := by
  obtain ⟨y, h1, h2⟩ := run_bind h
  have hn := rdC_sound G hx h1
  cases y with
  | bool bb =>
    simp only [RM.run, Option.some.injEq] at h2
    subst h2
    obtain ⟨γ', hv⟩ := hn.V (y' := .bool bb) rfl
    exact hv
  | _ => simp [RM.run] at h2

def apps (T : List Nat) (ws : List Wr) (σ : List AV) : List AV := ws.foldl (fun σ x => x.app T σ) σ
theorem apps_append (T : List Nat) (xs ys : List Wr) (σ : List AV) : apps T (xs ++ ys) σ = apps T ys (apps T xs σ) := List.foldl_append

theorem keep_refl (G : GoodAt T w0 St0 γ σ a w) (X : Key → Prop) : Keep γ γ w w X :=
  ⟨Ext.refl _ _, rfl, rfl, Frm.refl _ _ _, fun _ _ _ => rfl, fun _ _ _ h _ => ⟨h, rfl, rfl⟩, G.own, G.rho, G.stnew, id, G.nest⟩

/-- (s, j) is told anew. -/
theorem putKey_sound (G : GoodAt T w0 St0 γ σ a w) {k : Key} {y x : AV} {v : Value} (hk : RK γ w a.tmps k y v) (hp : ∀ p, v ≠ .pointer p) {ws : List Wr} (h : (putKey k x).run U σ = some ws) {γ' : Gh} {w' : World}
    (K : Keep γ γ' w w' (· = k)) (hx : R1 γ' w' k x v) (hr : ∀ t, refTo x ≠ some t) : GoodAt T w0 St0 γ' (apps T ws σ) a w' := by
  obtain ⟨s, j⟩ := k
  cases j with
  | zero =>
    simp only [putKey, RM.run, Option.some.injEq] at h
    subst h
    obtain ⟨hv, _⟩ := hk
    have hlt : s < a.tmps.size := (Array.getElem?_eq_some_iff.1 hv).1
    refine GoodAt.mod G (K.weaken fun k e => by subst e; rfl) hlt (fun u hu => ?_) (fun t ht => absurd ht (hr t)) (fun j u _ hh => ?_)
    · rw [hv] at hu
      cases hu
      exact R2.of_R1 hx
    · cases j with
      | zero => exact hh
      | succ j =>
        obtain ⟨g, h1, h2, h3⟩ := hh
        rw [hv] at h1
        simp only [Option.some.injEq] at h1
        exact absurd h1 (hp _)
  | succ j =>
    obtain ⟨z, hz, h⟩ := run_get h
    cases z with
    | box cs =>
      simp only [RM.run, Option.some.injEq] at h
      subst h
      obtain ⟨⟨g, h1, h2, h3⟩, _⟩ := hk
      have hlt : s < a.tmps.size := (Array.getElem?_eq_some_iff.1 h1).1
      have hb := G.slots s _ _ hz h1
      obtain ⟨g', cs', e1, e2, e3, e4, e5, e6, e7⟩ := hb
      have eg : g = g' := by simpa using e1
      subst eg
      obtain ⟨k1, k2, k3⟩ := K.keep g _ _ h2 (by simp)
      refine GoodAt.mod G (K.weaken fun k e => by subst e; rfl) hlt (fun u hu => ?_) (fun t ht => by simp [refTo] at ht) (fun i u _ hh => ?_)
      · rw [h1] at hu
        cases hu
        refine ⟨g, cs', rfl, by rw [K.B]; exact e2, k1, e4.of_heap k2, by simp [e5], by rw [k3]; exact e6, fun i y hy => ?_⟩
        by_cases hij : i = j
        · subst hij
          have hlt2 : i < cs.length := by
            rcases Nat.lt_or_ge i cs.length with h' | h'
            · exact h'
            · rw [List.getElem?_eq_none (by simpa using h')] at hy; cases hy
          rw [List.getElem?_set_self hlt2] at hy
          cases hy
          refine ⟨v, ?_, hx⟩
          obtain ⟨e, lo, hi, hh, _⟩ := e4
          simp only [cellAt, World.cell?, hh] at h3
          simpa using h3
        · rw [List.getElem?_set_ne (fun e => hij e.symm)] at hy
          obtain ⟨u, hu, hr⟩ := e7 i y hy
          exact ⟨u, hu, R1.keep K (by simp; omega) hr⟩
      · cases i with
        | zero => exact hh
        | succ i =>
          obtain ⟨g2, f1, f2, f3⟩ := hh
          have : g2 = g := by rw [h1] at f1; simpa using f1.symm
          subst this
          exact ⟨g2, f1, k1, (cellAt_of_heap k2 i).trans f3⟩
    | _ => simp [RM.run] at h

end
end Go.Ev

/-! text E5 -/
set_option linter.unusedVariables false
namespace Go.Ev
open Go.RowKit

theorem add_none (g o n : Nat) : (⟨g, o, none⟩ : Addr).add n = ⟨g, o + n, none⟩ := by
  unfold Addr.add
  split
  · rename_i h; subst h; rfl
  · rfl
theorem Blk.cell {w : World} {g : Nat} {cs : Array Value} (h : Blk w g cs) (j : Nat) : cellAt w g j = cs[j]? := by
  obtain ⟨e, lo, hi, hh, _⟩ := h
  simp [cellAt, World.cell?, hh]
theorem Blk.lt {w : World} {g : Nat} {cs : Array Value} (h : Blk w g cs) : g < w.heap.size := by
  obtain ⟨e, lo, hi, hh, _⟩ := h
  exact (Array.getElem?_eq_some_iff.1 hh).1

theorem VL_len {γ : Gh} {w : World} : ∀ {cs : List AV} {vs : List Value}, VL γ w cs vs → vs.length = cs.length
  | [], _, h => by cases h; rfl
  | x :: xs, _, ⟨v, r, e, _, h⟩ => by subst e; simp [VL_len h]
theorem VL_get {γ : Gh} {w : World} : ∀ {cs : List AV} {vs : List Value}, VL γ w cs vs → ∀ (j : Nat) (x : AV), cs[j]? = some x → ∃ u, vs[j]? = some u ∧ V γ w x u
  | [], _, _, j, x, h => by simp at h
  | y :: ys, _, ⟨v, r, e, hv, hl⟩, j, x, h => by
    subst e
    cases j with
    | zero => simp at h; subst h; exact ⟨v, rfl, hv⟩
    | succ j => simpa using VL_get hl j x (by simpa using h)
theorem VL_mk {γ : Gh} {w : World} : ∀ {cs : List AV} {vs : List Value}, vs.length = cs.length → (∀ (j : Nat) (x : AV), cs[j]? = some x → ∃ u, vs[j]? = some u ∧ V γ w x u) → VL γ w cs vs
  | [], [], _, _ => rfl
  | y :: ys, v :: r, hl, h => by
    refine ⟨v, r, rfl, ?_, VL_mk (by simpa using hl) fun j x hx => by simpa using h (j + 1) x (by simpa using hx)⟩
    obtain ⟨u, hu, hv⟩ := h 0 y rfl
    simp at hu
    subst hu
    exact hv
theorem VC_get {γ : Gh} {w : World} : ∀ {cs : List AV} {g o : Nat}, VC γ w cs g o → ∀ (j : Nat) (x : AV), cs[j]? = some x → ∃ u, cellAt w g (o + j) = some u ∧ V γ w x u
  | [], _, _, _, j, x, h => by simp at h
  | y :: ys, g, o, ⟨⟨u, hu, hv⟩, hc⟩, j, x, h => by
    cases j with
    | zero => simp at h; subst h; exact ⟨u, hu, hv⟩
    | succ j =>
      obtain ⟨u, h1, h2⟩ := VC_get hc j x (by simpa using h)
      exact ⟨u, by rwa [show o + (j + 1) = o + 1 + j by omega], h2⟩
theorem VC_mk {γ : Gh} {w : World} : ∀ {cs : List AV} {g o : Nat}, (∀ (j : Nat) (x : AV), cs[j]? = some x → ∃ u, cellAt w g (o + j) = some u ∧ V γ w x u) → VC γ w cs g o
  | [], _, _, _ => trivial
  | y :: ys, g, o, h => ⟨by simpa using h 0 y rfl, VC_mk fun j x hx => by
      obtain ⟨u, h1, h2⟩ := h (j + 1) x (by simpa using hx)
      exact ⟨u, by rwa [show o + 1 + j = o + (j + 1) by omega], h2⟩⟩
/-- The cells, as values. -/
theorem VC_vals {γ : Gh} {w : World} : ∀ {cs : List AV} {g o : Nat}, VC γ w cs g o → ∃ vs : List Value, VL γ w cs vs ∧ ∀ (j : Nat) (u : Value), vs[j]? = some u → cellAt w g (o + j) = some u
  | [], _, _, _ => ⟨[], rfl, fun j u h => by simp at h⟩
  | y :: ys, g, o, ⟨⟨u, hu, hv⟩, hc⟩ => by
    obtain ⟨vs, h1, h2⟩ := VC_vals hc
    refine ⟨u :: vs, ⟨u, vs, rfl, hv, h1⟩, fun j u' h => ?_⟩
    cases j with
    | zero => simp at h; subst h; exact hu
    | succ j => rw [show o + (j + 1) = o + 1 + j by omega]; exact h2 j u' (by simpa using h)
theorem VS_get {γ : Gh} {w : World} {z : Nat} : ∀ {xs : List AV} {g o : Nat}, VS γ w z xs g o → ∀ (i : Nat) (x : AV), xs[i]? = some x → VE γ w z x g (o + i * z)
  | [], _, _, _, i, x, h => by simp at h
  | y :: ys, g, o, hs, i, x, h => by
    rw [VS_cons] at hs
    cases i with
    | zero => simp at h; subst h; simpa using hs.1
    | succ i =>
      have := VS_get hs.2 i x (by simpa using h)
      rwa [show o + (i + 1) * z = o + z + i * z by rw [Nat.add_mul]; omega]
theorem VS_mk {γ : Gh} {w : World} {z : Nat} : ∀ {xs : List AV} {g o : Nat}, (∀ (i : Nat) (x : AV), xs[i]? = some x → VE γ w z x g (o + i * z)) → VS γ w z xs g o
  | [], _, _, _ => trivial
  | y :: ys, g, o, h => by
    rw [VS_cons]
    refine ⟨by simpa using h 0 y rfl, VS_mk fun i x hx => ?_⟩
    have := h (i + 1) x (by simpa using hx)
    rwa [show o + z + i * z = o + (i + 1) * z by rw [Nat.add_mul]; omega]
/-- An element, cell by cell. -/
theorem VE_cells {γ : Gh} {w : World} {z : Nat} {x : AV} {g o : Nat} (h : VE γ w z x g o) : (cellsOf x).length = z ∧ VC γ w (cellsOf x) g o := by
  cases x with
  | agg cs => exact h
  | _ => obtain ⟨rfl, h⟩ := h; exact ⟨rfl, h, trivial⟩
theorem VE_of {γ : Gh} {w : World} {z : Nat} {x : AV} {g o : Nat} (h1 : (cellsOf x).length = z) (h2 : VC γ w (cellsOf x) g o) : VE γ w z x g o := by
  cases x with
  | agg cs => exact ⟨h1, h2⟩
  | _ => exact ⟨h1.symm, h2.1⟩
theorem V_one {γ : Gh} {w : World} {x : AV} {v : Value} (h : V γ w x v) (hs : single x = true) (hj : x ≠ .junk) : v.oneCell' = true := by
  cases x with
  | agg cs => simp [single] at hs
  | junk => exact absurd rfl hj
  | sl _ _ _ _ => obtain ⟨A, c, rfl, _⟩ := h; rfl
  | dsl _ _ _ => obtain ⟨A, c, rfl, _⟩ := h; rfl
  | pv _ => obtain ⟨g, o, rfl, _⟩ := h; rfl
  | ifc _ _ => obtain ⟨u, rfl, _⟩ := h; rfl
  | fn _ _ => obtain ⟨u, rfl, _⟩ := h; rfl
  | ref _ _ => obtain ⟨u, _, rfl⟩ := h; rfl
  | mref _ => obtain ⟨u, _, rfl⟩ := h; rfl
  | tup _ => exact h.elim
  | own _ _ _ => exact h.elim
  | box _ => exact h.elim
  | als _ _ => exact h.elim
  | adr _ _ => exact h.elim
  | obj _ => exact h.elim
  | ent _ _ _ => exact h.elim
  | mp _ _ => exact h.elim
  | mem _ => exact h.elim
  | nst _ _ _ => exact h.elim
  | npv _ _ _ => exact h.elim
  | anyint _ => obtain ⟨n, rfl⟩ := h; rfl
  | _ => cases h; rfl
theorem one_cells {v : Value} (h : v.oneCell' = true) : v.cells = #[v] := by
  cases v <;> first | rfl | simp [Value.oneCell'] at h

theorem VC_of_VL {γ : Gh} {w : World} : ∀ {cs : List AV} {vs : List Value} {g o : Nat}, VL γ w cs vs → (∀ (j : Nat) (u : Value), vs[j]? = some u → cellAt w g (o + j) = some u) → VC γ w cs g o := by
  intro cs vs g o h hc
  refine VC_mk fun j x hx => ?_
  obtain ⟨u, h1, h2⟩ := VL_get h j x hx
  exact ⟨u, hc j u h1, h2⟩
theorem single_cases (x : AV) : (∃ cs, x = .agg cs) ∨ single x = true := by
  cases x with
  | agg cs => exact .inl ⟨cs, rfl⟩
  | _ => exact .inr rfl
theorem VE_single {γ : Gh} {w : World} {z : Nat} {x : AV} {g o : Nat} (hs : single x = true) : VE γ w z x g o ↔ (z = 1 ∧ ∃ u, cellAt w g o = some u ∧ V γ w x u) := by
  cases x with
  | agg _ => cases hs
  | _ => exact Iff.rfl
theorem VE_map {γ γ' : Gh} {w : World} {z : Nat} {x y : AV} {g o : Nat} (hs : single x = true → single y = true) (ha : ∀ cs, x = .agg cs → ∃ cs', y = .agg cs' ∧ cs'.length = cs.length) (hf : ∀ v, V γ w x v → V γ' w y v) (h : VE γ w z x g o) : VE γ' w z y g o := by
  rcases single_cases x with ⟨cs, rfl⟩ | h1
  · obtain ⟨cs', rfl, hl⟩ := ha cs rfl
    obtain ⟨h2, h3⟩ := h
    obtain ⟨vs, h4, h5⟩ := VC_vals h3
    obtain ⟨vs', e, h6⟩ := hf (.agg vs.toArray) ⟨vs, rfl, h4⟩
    have e : vs = vs' := by simpa using e
    subst e
    exact ⟨hl.trans h2, VC_of_VL h6 h5⟩
  · rw [VE_single (hs h1)]
    rw [VE_single h1] at h
    obtain ⟨h2, u, h3, h4⟩ := h
    exact ⟨h2, u, h3, hf u h4⟩

theorem uL_len : ∀ (xs : List AV), (undeep.uL xs).length = xs.length
  | [] => rfl
  | x :: xs => by simp [undeep.uL, uL_len xs]
theorem uL_map : ∀ (xs : List AV), undeep.uL xs = xs.map undeep
  | [] => rfl
  | x :: xs => by simp [undeep.uL, uL_map xs]
theorem undeep_single {x : AV} (h : single x = true) : single (undeep x) = true := by
  cases x <;> first | rfl | cases h
mutual
theorem V_undeep {γ : Gh} {w : World} (F' : Nat → Prop) : ∀ (x : AV) (v : Value), V γ w x v → V { γ with F := F' } w (undeep x) v
  | .junk, _, _ => trivial
  | .int _ _, _, h => h
  | .bool _, _, h => h
  | .str _, _, h => h
  | .nils, _, h => h
  | .nilp, _, h => h
  | .nilm, _, h => h
  | .nili, _, h => h
  | .nilf, _, h => h
  | .anyint _, _, h => h
  | .ref _ _, _, h => h
  | .mref _, _, h => h
  | .ifc t x, _, ⟨u, hv, h⟩ => ⟨u, hv, V_undeep F' x u h⟩
  | .fn f caps, _, ⟨vs, hv, h⟩ => ⟨vs, hv, VL_undeep F' caps vs h⟩
  | .sl fr nn z xs, v, ⟨A, c, h1, h2, h3, h4, h5⟩ => ⟨A, c, by rw [uL_len]; exact h1, by rw [uL_len]; exact h2, fun e => by
        obtain ⟨e1, e2, e3⟩ := h3 e
        subst e1
        exact ⟨rfl, e2, e3⟩, h4, fun hne => by
        have : xs ≠ [] := by intro e; subst e; exact hne rfl
        obtain ⟨g, o, e1, e2, e3⟩ := h5 this
        exact ⟨g, o, e1, by rw [uL_len]; exact e2, VS_undeep F' z xs g o e3⟩⟩
  | .dsl nn z xs, v, ⟨A, c, h1, h2, h3, h4, h5⟩ => ⟨A, c, by rw [uL_len]; exact h1, by rw [uL_len]; exact h2, fun e => by
        obtain ⟨e1, e2, e3⟩ := h3 e
        subst e1
        exact ⟨rfl, e2, e3⟩, fun ad ha _ => h4 ad ha, fun hne => by
        have : xs ≠ [] := by intro e; subst e; exact hne rfl
        obtain ⟨g, o, e1, e2, _, e3⟩ := h5 this
        exact ⟨g, o, e1, by rw [uL_len]; exact e2, VS_undeep F' z xs g o e3⟩⟩
  | .agg cs, v, ⟨vs, h1, h2⟩ => ⟨vs, h1, VL_undeep F' cs vs h2⟩
  | .pv cs, v, ⟨g, o, h1, h2, h3⟩ => ⟨g, o, h1, by rw [uL_len]; exact h2, VC_undeep F' cs g o h3⟩
  | .tup _, _, h => h.elim
  | .own _ _ _, _, h => h.elim
  | .box _, _, h => h.elim
  | .als _ _, _, h => h.elim
  | .adr _ _, _, h => h.elim
  | .obj _, _, h => h.elim
  | .ent _ _ _, _, h => h.elim
  | .mp _ _, _, h => h.elim
  | .mem _, _, h => h.elim
  | .nst _ _ _, _, h => h.elim
  | .npv _ _ _, _, h => h.elim
theorem VL_undeep {γ : Gh} {w : World} (F' : Nat → Prop) : ∀ (xs : List AV) (vs : List Value), VL γ w xs vs → VL { γ with F := F' } w (undeep.uL xs) vs
  | [], _, h => h
  | x :: xs, _, ⟨v, r, e, h1, h2⟩ => ⟨v, r, e, V_undeep F' x v h1, VL_undeep F' xs r h2⟩
theorem VC_undeep {γ : Gh} {w : World} (F' : Nat → Prop) : ∀ (xs : List AV) (g o : Nat), VC γ w xs g o → VC { γ with F := F' } w (undeep.uL xs) g o
  | [], _, _, _ => trivial
  | x :: xs, g, o, ⟨⟨u, h1, h2⟩, h3⟩ => ⟨⟨u, h1, V_undeep F' x u h2⟩, VC_undeep F' xs g (o + 1) h3⟩
theorem VS_undeep {γ : Gh} {w : World} (F' : Nat → Prop) (z : Nat) : ∀ (xs : List AV) (g o : Nat), VS γ w z xs g o → VS { γ with F := F' } w z (undeep.uL xs) g o
  | [], _, _, _ => trivial
  | x :: xs, g, o, h => by
    have h1 := fun v => V_undeep F' (γ := γ) (w := w) x v
    have h2 := VS_undeep F' (γ := γ) (w := w) z xs g (o + z)
    rw [VS_cons] at h
    simp only [undeep.uL]
    rw [VS_cons]
    exact ⟨VE_map undeep_single (fun cs e => by subst e; exact ⟨_, rfl, uL_len cs⟩) h1 h.1, h2 h.2⟩
end

/-! ### Runs -/
theorem run_loadCells_VC {P : Program} {γ : Gh} {w : World} {cs : List AV} {g o : Nat} (h : VC γ w cs g o) : ∃ vs : List Value, (loadCells ⟨g, o, none⟩ cs.length).run P w = .ok vs.toArray w ∧ VL γ w cs vs := by
  obtain ⟨vs, h1, h2⟩ := VC_vals h
  refine ⟨vs, ?_, h1⟩
  rw [← VL_len h1]
  exact run_loadCells_list w _ vs fun j u hu => by rw [add_none]; exact h2 j u hu

theorem setCell_heap {w : World} {g o : Nat} {v : Value} {cs : Array Value} {e : TypeId} {f : Nat × Nat} (h : w.heap[g]? = some (.cells cs e f)) :
    (w.setCell ⟨g, o, none⟩ v).heap[g]? = some (.cells (cs.setIfInBounds o v) e f) := by
  simp [World.setCell, Array.getElem?_modify, h]
theorem setCell_heap_ne {w : World} {g g' o : Nat} {v : Value} (h : g' ≠ g) : (w.setCell ⟨g, o, none⟩ v).heap[g']? = w.heap[g']? := by
  simp only [World.setCell, Array.getElem?_modify]
  rw [if_neg (by omega)]

/-- From one world to the next: but for block g all is as it was. -/
structure Only (w w' : World) (g : Nat) : Prop where
  os : w'.os = w.os
  tape : w'.tape = w.tape
  output : w'.output = w.output
  size : w'.heap.size = w.heap.size
  block : ∀ k, k ≠ g → w'.heap[k]? = w.heap[k]?
theorem Only.refl (w : World) (g : Nat) : Only w w g := ⟨rfl, rfl, rfl, rfl, fun _ _ => rfl⟩
theorem Only.trans {a b c : World} {g : Nat} (h : Only a b g) (k : Only b c g) : Only a c g :=
  ⟨k.os.trans h.os, k.tape.trans h.tape, k.output.trans h.output, k.size.trans h.size, fun i hi => (k.block i hi).trans (h.block i hi)⟩
theorem only_setCell (w : World) (g o : Nat) (v : Value) : Only w (w.setCell ⟨g, o, none⟩ v) g :=
  ⟨rfl, rfl, rfl, by simp, fun k hk => setCell_heap_ne hk⟩

theorem run_storeCells_blk {P : Program} {g o : Nat} : ∀ (vs : List Value) (i : Nat) (w : World) (cs : Array Value), Blk w g cs → o + i + vs.length ≤ cs.size → (∀ v ∈ vs, v.oneCell' = true) →
    ∃ w' cs', (storeCells ⟨g, o, none⟩ vs i).run P w = .ok () w' ∧ Blk w' g cs' ∧ cs'.size = cs.size ∧ Only w w' g ∧
      (∀ j, o + i ≤ j → j < o + i + vs.length → cs'[j]? = vs[j - (o + i)]?) ∧ (∀ j, j < o + i ∨ o + i + vs.length ≤ j → cs'[j]? = cs[j]?)
  | [], i, w, cs, hb, _, _ => ⟨w, cs, by simp [storeCells], hb, rfl, Only.refl _ _, fun j h1 h2 => by simp at h2; omega, fun _ _ => rfl⟩
  | v :: vs, i, w, cs, hb, hl, h1 => by
    simp only [List.length_cons] at hl
    obtain ⟨e, lo, hi, hh, hf⟩ := hb
    have hlt : o + i < cs.size := by omega
    have hcell : w.cell? ⟨g, o + i, none⟩ = some cs[o + i] := by simp [World.cell?, hh, hlt]
    have hfr : w.frozen? ⟨g, o + i, none⟩ = false := by
      simp only [World.frozen?, hh]
      simp only [Bool.and_eq_false_iff, decide_eq_false_iff_not]
      omega
    have hb1 : Blk (w.setCell ⟨g, o + i, none⟩ v) g (cs.setIfInBounds (o + i) v) := ⟨e, lo, hi, setCell_heap hh, by simpa using hf⟩
    obtain ⟨w', cs', r1, r2, r3, r4, r5, r6⟩ := run_storeCells_blk (P := P) (g := g) (o := o) vs (i + 1) (w.setCell ⟨g, o + i, none⟩ v) (cs.setIfInBounds (o + i) v) hb1 (by simp only [Array.size_setIfInBounds]; omega) (fun u hu => h1 u (List.mem_cons_of_mem _ hu))
    refine ⟨w', cs', ?_, r2, by rw [r3]; simp, (only_setCell w g (o + i) v).trans r4, fun j h2 h3 => ?_, fun j hj => ?_⟩
    · simp only [storeCells, Sem.run_bind, add_none]
      rw [run_store P w _ v .plain (h1 v (List.mem_cons_self ..)), hcell]
      simp only [hfr, Result.andThen, Bool.false_eq_true, if_false]
      exact r1
    · simp only [List.length_cons] at h3
      rcases Nat.eq_or_lt_of_le h2 with h4 | h4
      · subst h4
        rw [r6 _ (.inl (by omega))]
        simp [hlt]
      · rw [r5 j (by omega) (by omega)]
        rw [show j - (o + i) = (j - (o + (i + 1))) + 1 by omega]
        rfl
    · simp only [List.length_cons] at hj
      rw [r6 j (by omega)]
      exact Array.getElem?_setIfInBounds_ne (by omega)
end Go.Ev

/-! text E6 -/
set_option linter.unusedVariables false
namespace Go.Ev

/-! ### What each instruction does -/
def mapOpt {α β : Type} (f : α → Option β) : List α → Option (List β)
  | [] => some []
  | x :: xs => match f x, mapOpt f xs with
    | some y, some ys => some (y :: ys)
    | _, _ => none
def okCell (x : AV) : Bool :=
  match x with
  | .agg _ | .junk => false
  | _ => true
def splice (cs : List AV) (j : Nat) (ys : List AV) : List AV := cs.take j ++ ys ++ cs.drop (j + ys.length)
inductive Tg where
  | at_ (s j : Nat)
  | ro (cs : List AV)
  | ns (s j : Nat) (cs : List AV)
  | gl (i o : Nat)
def target (x : Ar) : RM Tg :=
  match x with
  | .val _ => .fail
  | .tmp t => .get t fun
    | .box _ => .ret (.at_ t 0)
    | .adr s j => .ret (.at_ s j)
    | .pv cs => .ret (.ro cs)
    | .npv s j cs => .ret (.ns s j cs)
    | .ref i o => .ret (.gl i o)
    | _ => .fail

/-- No memory is reached from it. -/
def flat : AV → Bool
  | .int _ _ | .bool _ | .str _ | .anyint _ | .nils | .nilp | .nilm | .nili | .nilf => true
  | _ => false
/-- All memory that is reached is the call's own. -/
def freshA : AV → Bool
  | .int _ _ | .bool _ | .str _ | .anyint _ | .nils | .nilp | .nilm | .nili | .nilf => true
  | .sl fr _ _ xs => fr && freshL xs
  | .dsl _ _ xs => freshL xs
  | .own _ _ xs => freshL xs
  | .agg cs => freshL cs
  | .tup cs => freshL cs
  | _ => false
where
  freshL : List AV → Bool
    | [] => true
    | x :: xs => freshA x && freshL xs
/-- A cell of a row. -/
def cellOf (z : Nat) (xs : List AV) (j : Nat) : Option AV := (xs[j / z]?).bind fun e => (cellsOf e)[j % z]?
/-- Numbers are forgotten. -/
def hv : AV → AV
  | .int k _ => .anyint k
  | .sl fr nn z xs => .sl fr nn z (hvL xs)
  | .dsl nn z xs => .dsl nn z (hvL xs)
  | .agg cs => .agg (hvL cs)
  | .pv _ | .ifc _ _ | .fn _ _ => .junk
  | x => x
where
  hvL : List AV → List AV
    | [] => []
    | x :: xs => hv x :: hvL xs
def semMov1 (d : Nat) (x : Ar) : RM (List Wr) := (copyOf x).bind fun y => if refTo y = some d then .fail else .ret [.set d y]
/-- A tuple is handed on with its rights. -/
def semTup (d : Nat) (x : Ar) (other : RM (List Wr)) : RM (List Wr) :=
  match x with
  | .val _ => other
  | .tmp t => .get t fun
    | .tup vs => if t = d then .fail else .ret [.mod t .junk [], .set d (.tup vs)]
    | _ => other
def semMov (d : Nat) (x : Ar) : RM (List Wr) := semTup d x (semMov1 d x)
def semAsg1 (d : Nat) (x : Ar) : RM (List Wr) := (takeOf x).bind fun (y, ws) => if refTo y = some d then .fail else .ret (ws ++ [.set d y])
def semAsg (d : Nat) (x : Ar) : RM (List Wr) := semTup d x (semAsg1 d x)
def semPick (d : Nat) (c a b : Ar) : RM (List Wr) := (rdBool c).bind fun t => semMov1 d (if t then a else b)
/-- Rights to the cells are given up. -/
def dem : AV → AV
  | .own true z xs => .own false z (undeep.uL xs)
  | x => x
def isFull : AV → Bool
  | .own true _ _ => true
  | _ => false
def semAlloc (d : Nat) (cs : List AV) : RM (List Wr) := .ret [.set d (.box cs)]
def semBox (d : Nat) (x : Ar) : RM (List Wr) := (rdView x).bind fun (y, ws) => if (cellsOf y).all okCell then .ret (ws ++ [.set d (.box (cellsOf y))]) else .fail
def semLoad (d : Nat) (n : Option Nat) (a : Ar) : RM (List Wr) :=
  (target a).bind fun
    | .at_ s j => .get s fun
      | .box cs => match n with
        | none => match cs[j]? with
          | some (.own _ _ _) => if s = d then .fail else .ret [.set d (.als s (j + 1))]
          | some x => (RM.opt (viewOf x)).bind fun y => .ret [.set d y]
          | none => .fail
        | some k => if j + k ≤ cs.length then (RM.opt (mapOpt (fun x => viewOf (dem x)) ((cs.drop j).take k))).bind fun ys =>
            .ret ((if ((cs.drop j).take k).any isFull then [.mod s (.box (cs.map dem)) []] else []) ++ [.set d (.agg ys)]) else .fail
      | .own true z xs => match n with
        | none => match cellOf z xs j with
          | some x => if flat x then .ret [.set d x] else if s = d then .fail else .ret [.set d (.nst s 0 x)]
          | none => .fail
        | some k => match xs[j / z]? with
          | some e => if j % z = 0 ∧ k = z ∧ (cellsOf e).length = z then .ret [.mod s (.own false z (undeep.uL xs)) [], .set d (.agg (cellsOf (undeep e)))] else .fail
          | none => .fail
      | .pv cs => match n with
        | none => match cs[j]? with
          | some x => .ret [.set d x]
          | none => .fail
        | some k => if j + k ≤ cs.length then .ret [.set d (.agg ((cs.drop j).take k))] else .fail
      | _ => .fail
    | .ro cs => match n with
      | none => match cs with
        | x :: _ => .ret [.set d x]
        | [] => .fail
      | some k => if k ≤ cs.length then .ret [.set d (.agg (cs.take k))] else .fail
    | .ns s j cs => match n, cs with
      | none, x :: _ => if flat x then .ret [.set d x] else if s = d then .fail else .ret [.set d (.nst s j x)]
      | _, _ => .fail
    | .gl _ _ => .fail
def isNum : AV → Option IntKind
  | .int k _ => some k
  | .anyint k => some k
  | _ => none
def semStore (n : Nat) (a x : Ar) : RM (List Wr) :=
  (target a).bind fun
    | .at_ s j => (rd x).bind fun
      | (.own f z ys, some k) => if n = 1 ∧ k.1 ≠ s then (putKey k (if f then .junk else .sl true false z ys)).bind fun ws => .get s fun
          | .box cs => if j < cs.length then .ret (ws ++ [.mod s (.box (cs.set j (.own f z ys))) [j + 1]]) else .fail
          | _ => .fail
        else .fail
      | (y, _) => (RM.opt (viewOf y)).bind fun y => .get s fun
          | .box cs => if (cellsOf y).length = n ∧ j + n ≤ cs.length ∧ (cellsOf y).all okCell = true then .ret [.mod s (.box (splice cs j (cellsOf y))) (List.range' (j + 1) n)] else .fail
          | .own true 1 xs => if n = 1 ∧ j < xs.length ∧ okCell y then .ret [.mod s (.own true 1 (xs.set j y)) []] else .fail
          | _ => .fail
    | .ns s j cs => (rdC x).bind fun y => match isNum y, cs.head?.bind isNum with
      | some k, some k' => if n = 1 ∧ k = k' then (look (s, j)).bind fun
          | .own true z xs => putKey (s, j) (.own true z (hv.hvL xs))
          | _ => .fail
        else .fail
      | _, _ => .fail
    | _ => .fail

def partsOf (cs : List AV) : List (Nat × Nat × AV) → Option (List AV)
  | [] => some cs
  | (off, size, y) :: rest => if (cellsOf y).length = size ∧ off + size ≤ cs.length then partsOf (splice cs off (cellsOf y)) rest else none
/-- Rights of one operand alone are given up. -/
def one : List Wr → List Wr → Option (List Wr)
  | [], us => some us
  | ws, [] => some ws
  | _, _ => none
def rdParts : List (Nat × Nat × Ar) → RM (List (Nat × Nat × AV) × List Wr)
  | [] => .ret ([], [])
  | (o, s, x) :: r => (rdView x).bind fun (y, ws) => (rdParts r).bind fun (ys, us) => (RM.opt (one ws us)).bind fun vs => .ret ((o, s, y) :: ys, vs)
def rep : Nat → List AV → List AV
  | 0, _ => []
  | n + 1, cs => cs ++ rep n cs
def semBuild (d : Nat) (zero : List AV) (parts : List (Nat × Nat × Ar)) : RM (List Wr) :=
  (rdParts parts).bind fun (ps, ws) => (RM.opt (partsOf zero ps)).bind fun cs => if cs.all okCell then .ret (ws ++ [.set d (.agg cs)]) else .fail
/-- 'ag': elements are structs or arrays. -/
def semBslice (d : Nat) (ag : Bool) (z n : Nat) (zero : List AV) (parts : List (Nat × Nat × Ar)) : RM (List Wr) :=
  (rdParts parts).bind fun (ps, ws) => (RM.opt (partsOf (rep n zero) ps)).bind fun cs => if cs.all okCell then .ret (ws ++ [.set d (.own true z (if ag then (chunksA z n cs) else cs))]) else .fail
where
  chunksA (z : Nat) : Nat → List AV → List AV
    | 0, _ => []
    | n + 1, cs => .agg (cs.take z) :: chunksA z n (cs.drop z)

def intBin (op : BinOp) (k : IntKind) (x y : Int) : Option AV :=
  match op with
  | .add => some (.int k (k.wrap (x + y)))
  | .sub => some (.int k (k.wrap (x - y)))
  | .mul => some (.int k (k.wrap (x * y)))
  | .quo => if y = 0 then none else some (.int k (k.wrap (x.tdiv y)))
  | .rem => if y = 0 then none else some (.int k (x.tmod y))
  | .and => some (.int k (k.wrap ((BitVec.ofInt k.bits x &&& BitVec.ofInt k.bits y).toNat)))
  | .or => some (.int k (k.wrap ((BitVec.ofInt k.bits x ||| BitVec.ofInt k.bits y).toNat)))
  | .xor => some (.int k (k.wrap ((BitVec.ofInt k.bits x ^^^ BitVec.ofInt k.bits y).toNat)))
  | .andNot => some (.int k (k.wrap ((BitVec.ofInt k.bits x &&& ~~~(BitVec.ofInt k.bits y)).toNat)))
  | .eql => some (.bool (x == y))
  | .neq => some (.bool (x != y))
  | .lss => some (.bool (decide (x < y)))
  | .leq => some (.bool (decide (x ≤ y)))
  | .gtr => some (.bool (decide (x > y)))
  | .geq => some (.bool (decide (x ≥ y)))
  | _ => none
def shiftBin (op : BinOp) (k : IntKind) (x y : Int) : Option AV :=
  if y < 0 then none else match op with
    | .shl => some (.int k (k.wrap (x * 2 ^ (min y.toNat k.bits))))
    | .shr => some (.int k (x.fdiv (2 ^ (min y.toNat k.bits))))
    | _ => none
def strBin (op : BinOp) (x y : ByteArray) : Option AV :=
  match op with
  | .add => if x.size + y.size ≤ 9223372036854775807 then some (.str (x ++ y)) else none
  | .eql => some (.bool (x.toList == y.toList))
  | .neq => some (.bool (!(x.toList == y.toList)))
  | .lss => some (.bool (Op.bytesLess x.toList y.toList))
  | .leq => some (.bool (Op.bytesLess x.toList y.toList || x.toList == y.toList))
  | .gtr => some (.bool (!(Op.bytesLess x.toList y.toList || x.toList == y.toList)))
  | .geq => some (.bool (!(Op.bytesLess x.toList y.toList)))
  | _ => none
def semBin (d : Nat) (op : BinOp) (x y : Ar) : RM (List Wr) :=
  (rdC x).bind fun p => (rdC y).bind fun q => match p, q with
    | .int k a, .int k' b => if op matches .shl | .shr then (RM.opt (shiftBin op k a b)).bind fun r => .ret [.set d r]
        else if k = k' then (RM.opt (intBin op k a b)).bind fun r => .ret [.set d r] else .fail
    | .str a, .str b => (RM.opt (strBin op a b)).bind fun r => .ret [.set d r]
    | .anyint k, .int k' _ => if k = k' ∧ op = .xor then .ret [.set d (.anyint k)] else .fail
    | _, _ => .fail
/-- Two cells that hold numbers, bools or texts: are they alike? -/
def eqCell : Nat → AV → AV → Option Bool
  | 0, .int k a, .int k' b => if k = k' then some (a == b) else none
  | 1, .bool a, .bool b => some (a == b)
  | 2, .str a, .str b => some (a == b)
  | _, _, _ => none
def eqCells : List Nat → List AV → List AV → Option Bool
  | [], [], [] => some true
  | t :: ts, x :: xs, y :: ys => match eqCell t x y, eqCells ts xs ys with
    | some a, some b => some (a && b)
    | _, _ => none
  | _, _, _ => none
/-- '==' beside whole numbers and texts. -/
def eqv : EqK → AV → AV → Option Bool
  | .bool, .bool a, .bool b => some (a == b)
  | .flat ts, .agg xs, .agg ys => eqCells ts xs ys
  | .slice, .nils, .nils => some true
  | .slice, .sl _ nn _ xs, .nils | .slice, .nils, .sl _ nn _ xs | .slice, .dsl nn _ xs, .nils | .slice, .nils, .dsl nn _ xs => if nn || !xs.isEmpty then some false else none
  | .slice, .own _ _ (_ :: _), .nils | .slice, .nils, .own _ _ (_ :: _) => some false
  | .ptr, .nilp, .nilp => some true
  | .ptr, .nilp, .ref _ _ | .ptr, .ref _ _, .nilp => some false
  | .iface, .nili, .nili => some true
  | .iface, .nili, .ifc _ _ | .iface, .ifc _ _, .nili => some false
  | _, _, _ => none
def semEq (d : Nat) (ek : EqK) (neg : Bool) (x y : Ar) : RM (List Wr) :=
  (rdC x).bind fun p => (rdC y).bind fun q => (RM.opt (eqv ek p q)).bind fun b => .ret [.set d (.bool (if neg then !b else b))]
def semUn (d : Nat) (op : UnOp) (x : Ar) : RM (List Wr) :=
  (rdC x).bind fun p => match op, p with
    | .neg, .int k n => .ret [.set d (.int k (k.wrap (0 - n)))]
    | .xor, .int k n => .ret [.set d (.int k (k.wrap ((BitVec.ofInt k.bits (if k.signed then -1 else k.max) ^^^ BitVec.ofInt k.bits n).toNat)))]
    | .not, .bool b => .ret [.set d (.bool (!b))]
    | _, _ => .fail
def semConv (d : Nat) (k : IntKind) (x : Ar) : RM (List Wr) := (rdInt x).bind fun (_, n) => .ret [.set d (.int k (k.wrap n))]
def rdOpt : Option Ar → RM (Option Int)
  | none => .ret none
  | some x => (rdInt x).bind fun (_, n) => .ret (some n)
def semSlice (d : Nat) (z : Nat) (x : Ar) (lo hi : Option Ar) : RM (List Wr) :=
  (rdOpt lo).bind fun l => (rdOpt hi).bind fun h => (rdView x).bind fun
    | (.sl fr nn z' xs, ws) =>
      if z' = z ∧ 0 ≤ l.getD 0 ∧ l.getD 0 ≤ h.getD xs.length ∧ h.getD xs.length ≤ xs.length then
        .ret (ws ++ [.set d (.sl fr (nn || !xs.isEmpty) z ((xs.take (h.getD xs.length).toNat).drop (l.getD 0).toNat))]) else .fail
    | _ => .fail
/-- A slice of an array: its box is read only from there on. -/
def semSlarr (d : Nat) (ag : Bool) (len z : Nat) (x : Ar) (lo hi : Option Ar) : RM (List Wr) :=
  (rdOpt lo).bind fun l => (rdOpt hi).bind fun h => (target x).bind fun
    | .at_ s j => .get s fun
      | .box cs => (RM.opt (mapOpt viewOf cs)).bind fun ys =>
        if (ag || (z == 1 && ys.all single)) = true ∧ j + len * z ≤ ys.length ∧ 0 ≤ l.getD 0 ∧ l.getD 0 ≤ h.getD len ∧ h.getD len ≤ len then
          .ret [.mod s (.pv ys) [], .set d (.sl true true z (((elems ag z len (ys.drop j)).take (h.getD len).toNat).drop (l.getD 0).toNat))] else .fail
      | .pv ys =>
        if (ag || (z == 1 && ys.all single)) = true ∧ j + len * z ≤ ys.length ∧ 0 ≤ l.getD 0 ∧ l.getD 0 ≤ h.getD len ∧ h.getD len ≤ len then
          .ret [.set d (.sl false true z (((elems ag z len (ys.drop j)).take (h.getD len).toNat).drop (l.getD 0).toNat))] else .fail
      | _ => .fail
    | _ => .fail
where
  elems (ag : Bool) (z : Nat) : Nat → List AV → List AV
    | 0, _ => []
    | n + 1, cs => (if ag then .agg (cs.take z) else cs.headD .junk) :: elems ag z n (cs.drop z)
def semSlstr (d : Nat) (x : Ar) (lo hi : Option Ar) : RM (List Wr) :=
  (rdOpt lo).bind fun l => (rdOpt hi).bind fun h => (rdC x).bind fun
    | .str s => if 0 ≤ l.getD 0 ∧ l.getD 0 ≤ h.getD s.size ∧ h.getD s.size ≤ s.size then .ret [.set d (.str (s.extract (l.getD 0).toNat (h.getD s.size).toNat))] else .fail
    | _ => .fail
def semFadr (d : Nat) (off : Nat) (x : Ar) : RM (List Wr) :=
  (target x).bind fun
    | .at_ s j => if s = d then .fail else .ret [.set d (.adr s (j + off))]
    | .ro cs => if off ≤ cs.length then .ret [.set d (.pv (cs.drop off))] else .fail
    | .ns _ _ _ => .fail
    | .gl i o => .ret [.set d (.ref i (o + off))]
def semFld (d : Nat) (off : Nat) (n : Option Nat) (x : Ar) : RM (List Wr) :=
  (rdV x).bind fun
    | .agg cs => match n with
      | none => match cs[off]? with
        | some y => .ret [.set d y]
        | none => .fail
      | some k => if off + k ≤ cs.length then .ret [.set d (.agg ((cs.drop off).take k))] else .fail
    | _ => .fail
/-- The address of a slice's element. -/
def semIdxA (d : Nat) (z : Nat) (x i : Ar) : RM (List Wr) :=
  (rdInt i).bind fun (_, n) => (rd x).bind fun
    | (.own true z' xs, some (s, 0)) => if z' = z ∧ 0 < z ∧ 0 ≤ n ∧ n < xs.length ∧ s ≠ d then .ret [.set d (.adr s (n.toNat * z))] else .fail
    | (.nst s j (.dsl _ z' xs), _) => if z' = z ∧ 0 < z ∧ 0 ≤ n ∧ n < xs.length ∧ s ≠ d then match xs[n.toNat]? with
        | some y => .ret [.set d (.npv s j (cellsOf y))]
        | none => .fail
      else .fail
    | _ => (rdView x).bind fun
      | (.sl _ _ z' xs, ws) => if z' = z ∧ 0 ≤ n ∧ n < xs.length then match xs[n.toNat]? with
          | some y => .ret (ws ++ [.set d (.pv (cellsOf y))])
          | none => .fail
        else .fail
      | _ => .fail
/-- The address of an array's element. -/
def semIdxP (d : Nat) (len z : Nat) (x i : Ar) : RM (List Wr) :=
  (rdInt i).bind fun (_, n) => (target x).bind fun
    | .at_ s j => if 0 ≤ n ∧ n < len ∧ s ≠ d then .ret [.set d (.adr s (j + n.toNat * z))] else .fail
    | .ro cs => if 0 ≤ n ∧ n < len ∧ n.toNat * z ≤ cs.length then .ret [.set d (.pv (cs.drop (n.toNat * z)))] else .fail
    | _ => .fail
def semIdx (d : Nat) (len z : Nat) (n : Option Nat) (x i : Ar) : RM (List Wr) :=
  (rdInt i).bind fun (_, m) => (rdV x).bind fun
    | .agg cs => if 0 ≤ m ∧ m < len then match n with
        | none => match cs[m.toNat * z]? with
          | some y => .ret [.set d y]
          | none => .fail
        | some k => if m.toNat * z + k ≤ cs.length then .ret [.set d (.agg ((cs.drop (m.toNat * z)).take k))] else .fail
      else .fail
    | _ => .fail
def semIdxS (d : Nat) (x i : Ar) : RM (List Wr) :=
  (rdInt i).bind fun (_, m) => (rdC x).bind fun
    | .str s => if 0 ≤ m then match s[m.toNat]? with
        | some b => .ret [.set d (.int .u8 b.toNat)]
        | none => .fail
      else .fail
    | _ => .fail
def semExt (d : Nat) (j : Nat) (x : Ar) : RM (List Wr) :=
  match x with
  | .val _ => .fail
  | .tmp t => .get t fun
    | .tup vs => match vs[j]? with
      | some (.own f z xs) => if t = d then .fail else .ret [.mod t (.tup (vs.set j .junk)) [], .set d (.own f z xs)]
      | some x => (RM.opt (viewOf x)).bind fun y => .ret [.set d y]
      | none => .fail
    | _ => .fail
def semLen (d : Nat) (s : Bool) (x : Ar) : RM (List Wr) :=
  (rdC x).bind fun
    | .sl _ _ _ xs | .own _ _ xs | .dsl _ _ xs => if s then .fail else .ret [.set d (.int .i64 xs.length)]
    | .nils => if s then .fail else .ret [.set d (.int .i64 0)]
    | .str b => if s then .ret [.set d (.int .i64 b.size)] else .fail
    | _ => .fail
def bytesAV (s : ByteArray) : List AV := s.data.toList.map fun b => .int .u8 b.toNat
/-- What is appended, or turned into a text: its elements' size, the elements. -/
def rdElems (y : Ar) : RM ((Option Nat × List AV) × List Wr) :=
  (rd y).bind fun
    | (.own true z ys, some k) => if ys.all flat then .ret ((some z, ys), []) else (putKey k (.own false z (undeep.uL ys))).bind fun ws => .ret ((some z, undeep.uL ys), ws)
    | (.str s, _) => .ret ((some 1, bytesAV s), [])
    | (.nils, _) => .ret ((none, []), [])
    | _ => (rdView y).bind fun
      | (.sl _ _ z ys, ws) => .ret ((some z, ys), ws)
      | _ => .fail
def okElem (z : Nat) (x : AV) : Bool := (cellsOf x).length == z && (cellsOf x).all okCell
def semApp (d : Nat) (z bytes : Nat) (x y : Ar) : RM (List Wr) :=
  (rdElems y).bind fun ((z', ys), us) => if (z' = none ∨ z' = some z) ∧ ys.all (okElem z) = true then (rd x).bind fun
      | (.nils, _) => if ys.length * bytes ≤ 140737488355328 then .ret (us ++ [.set d (.own true z ys)]) else .fail
      | (.own f z2 xs, some k) => if k.1 ≠ d ∧ us.all (fun u => u.dst != k.1) = true ∧ z2 = z ∧ (xs.length + ys.length) * bytes ≤ 140737488355328 then
          (putKey k (if f then .junk else .sl true false z xs)).bind fun ws => .ret (us ++ ws ++ [.set d (.own f z (xs ++ ys))]) else .fail
      | _ => .fail
    else .fail
def semS2b (d : Nat) (x : Ar) : RM (List Wr) :=
  (rdC x).bind fun
    | .str s => if s.size ≤ 140737488355328 then .ret [.set d (.own true 1 (bytesAV s))] else .fail
    | _ => .fail
/-- '[]byte("..")' of a constant: a row that has just been made. -/
def semCvb (d : Nat) (x : Ar) : RM (List Wr) :=
  match x with
  | .val _ => .fail
  | .tmp t => .get t fun
    | .own true 1 xs => if t = d ∨ xs.isEmpty then .fail else .ret [.mod t .junk [], .set d (.own true 1 xs)]
    | _ => .fail
def toBytes : List AV → Option ByteArray
  | [] => some ByteArray.empty
  | .int .u8 n :: r => match toBytes r with
    | some b => some ⟨(UInt8.ofNat n.toNat :: b.data.toList).toArray⟩
    | none => none
  | _ => none
def semB2s (d : Nat) (x : Ar) : RM (List Wr) :=
  (rdC x).bind fun
    | .own _ z ys | .sl _ _ z ys | .dsl _ z ys => if z = 1 then (RM.opt (toBytes ys)).bind fun b => .ret [.set d (.str b)] else .fail
    | .nils => .ret [.set d (.str ByteArray.empty)]
    | _ => .fail
def mmOf (big : Bool) (k : IntKind) : Int → List (IntKind × Int) → Option Int
  | x, [] => some x
  | x, (k', y) :: r => if k = k' then mmOf big k (if big then (if y > x then y else x) else (if y < x then y else x)) r else none
def rdInts : List Ar → RM (List (IntKind × Int))
  | [] => .ret []
  | x :: r => (rdInt x).bind fun p => (rdInts r).bind fun ps => .ret (p :: ps)
def semMm (d : Nat) (big : Bool) (xs : List Ar) : RM (List Wr) :=
  (rdInts xs).bind fun
    | (k, x) :: r => (RM.opt (mmOf big k x r)).bind fun n => .ret [.set d (.int k n)]
    | [] => .fail
def semNil (d : Nat) (x : Ar) : RM (List Wr) := (target x).bind fun _ => semMov1 d x

/-- What a call is told: its arguments, the memory; its answer, the memory behind. -/
abbrev Fns := FuncId → List AV → List AV → Option (AV × List AV)
/-- The arguments, as they are now; and what must be given up if they may be kept. -/
def rdArgs : List Ar → RM (List AV × Option (List Wr))
  | [] => .ret ([], some [])
  | x :: r => (rdView x).bind fun (y, ws) => (rdArgs r).bind fun (ys, us) => .ret (y :: ys, us.bind (one ws))
def flatR : AV → Bool
  | .own true _ xs => xs.all flat
  | x => flat x
def deepT : List AV → List AV
  | [] => []
  | x :: r => if flatR x then x :: deepT r else match x with
    | .own true z xs => if r.all flatR then .own true z (deepen.dL xs) :: r else x :: r
    | x => x :: r
/-- An answer that is all new. -/
def deepR : AV → AV
  | .own true z xs => .own true z (deepen.dL xs)
  | .tup vs => .tup (deepT vs)
  | x => x
def semCall (E : Fns) (n : Nat) (d : Nat) (f : FuncId) (xs : List Ar) : RM (List Wr) :=
  (rdArgs xs).bind fun (ys, ws) => match E f (stale.sL ys) [] with
    | some (r, []) => if freshA r then .ret [.set d (deepR r)] else (RM.opt ws).bind fun ws => .ret (ws ++ [.set d r])
    | _ => .fail
end Go.Ev

/-! text E7 -/
set_option linter.unusedVariables false
namespace Go.Ev

/-! ### From the loaded program to instructions -/
def ofV1 : Value → Option AV
  | .int k n => some (.int k n)
  | .bool b => some (.bool b)
  | .string s => some (.str s)
  | .slice none 0 0 => some .nils
  | .pointer none => some .nilp
  | .map none => some .nilm
  | .nilIface => some .nili
  | .nilFunc => some .nilf
  | _ => none
def ofV : Value → Option AV
  | .agg cs => (mapOpt ofV1 cs.toList).map .agg
  | v => ofV1 v
def cAr : Operand → Option Ar
  | .tmp t => some (.tmp t)
  | .const v => (ofV v).map .val
  | .func f => some (.val (.fn f []))
  | .global _ => none
/-- Is a value of the type several cells? Then their count. -/
def aggOf (P : Program) (t : TypeId) : Option (Option Nat) :=
  match P.underlying t, P.info? t with
  | some (.struct _), some i | some (.array _ _), some i => some (some i.size)
  | some _, some _ => some none
  | _, _ => none
def zeroOf (P : Program) (t : TypeId) : Option (List AV) :=
  match (P.info? t).bind (·.zero) with
  | some v => mapOpt ofV1 v.cells.toList
  | none => none
def sizeOfT (P : Program) (t : TypeId) : Option Nat := (P.info? t).map (·.size)
def cOptAr : Option Operand → Option (Option Ar)
  | none => some none
  | some x => (cAr x).map some
def cArs (xs : List Operand) : Option (List Ar) := mapOpt cAr xs
/-- Is '==' of the type that of its cells, one by one? What each is: a number (0), a bool (1), a text (2). -/
def flatFsQ (P : Program) (q : TypeId → Option (List Nat)) : Nat → List Field → Option (List Nat)
  | _, [] => some []
  | off, f :: fs => match q f.type, flatFsQ P q (off + ((sizeOfT P f.type).getD 0)) fs with
      | some ts, some us => if f.name ≠ "_" ∧ f.offset = off ∧ sizeOfT P f.type = some ts.length ∧ (aggOf P f.type).isSome then some (ts ++ us) else none
      | _, _ => none
def flatEq (P : Program) : Nat → TypeId → Option (List Nat)
  | 0, _ => none
  | d + 1, t =>
    match P.underlying t with
    | some (.int _) => some [0]
    | some .bool => some [1]
    | some .string => some [2]
    | some (.struct fs) => if P.stoodInHeld t then none else flatFsQ P (fun u => flatEq P d u) 0 fs.toList
    | some (.array n e) => match flatEq P d e with
      | some ts => if sizeOfT P e = some ts.length ∧ (aggOf P e).isSome then some (List.replicate n ts).flatten else none
      | none => none
    | _ => none
def cParts (P : Program) (place : Nat → Option (Nat × Nat)) : List (Nat × Operand) → Option (List (Nat × Nat × Ar))
  | [] => some []
  | (i, x) :: r => match place i, cAr x, cParts P place r with
    | some (o, s), some a, some rs => some ((o, s, a) :: rs)
    | _, _, _ => none
def cOp (P : Program) (o : Oper) : Option I :=
  match o.op with
  | .move x => (cAr x).map .mov
  | .assign x => (cAr x).map .asg
  | .pick c a b => match cAr c, cAr a, cAr b with
    | some c, some a, some b => some (.pick c a b)
    | _, _, _ => none
  | .alloc t => (zeroOf P t).map .alloc
  | .box t x => (cAr x).map .box
  | .build t parts => match P.underlying t, zeroOf P t with
    | some (.struct fs), some z => (fs.toList.mapM fun f => (P.info? f.type).map fun i => (f.offset, i.size)).bind fun places => (cParts P (places.toArray[·]?) parts.toList).map (.build z)
    | some (.array _ e), some z => (P.info? e).bind fun ie => (cParts P (fun i => some (i * ie.size, ie.size)) parts.toList).map (.build z)
    | _, _ => none
  | .buildSlice t n parts => match P.underlying t with
    | some (.slice e) => match sizeOfT P e, zeroOf P e, aggOf P e with
      | some s, some z, some g => if n * s ≤ 2 ^ 24 ∧ 0 < s ∧ z.length = s ∧ (g.isSome = false → s = 1) then (cParts P (fun i => some (i * s, s)) parts.toList).map (.bslice g.isSome s n z) else none
      | _, _, _ => none
    | _ => none
  | .load t a => match aggOf P t, cAr a with
    | some g, some a => some (.load g a)
    | _, _ => none
  | .store t a x => match sizeOfT P t, cAr a, cAr x with
    | some n, some a, some x => some (.store n a x)
    | _, _, _ => none
  | .nilCheck x => (cAr x).map .nilchk
  | .binOp op t x y _ => match cAr x, cAr y, P.underlying t with
    | some x, some y, some (.int _) | some x, some y, some .string => some (.bin op x y)
    | some x', some y', some d => if (op == .eql || op == .neq) then (match d with
        | .bool => some (.eq .bool (op == .neq) x' y')
        | .slice _ => some (.eq .slice (op == .neq) x' y')
        | .pointer _ => some (.eq .ptr (op == .neq) x' y')
        | .interface _ => match x, y with
          | .const _, _ | _, .const _ => some (.eq .iface (op == .neq) x' y')
          | _, _ => none
        | _ => match flatEq P 100 t, aggOf P t with
          | some ts, some (some _) => if P.eqGuardType P.depth t = false then some (.eq (.flat ts) (op == .neq) x' y') else none
          | _, _ => none) else none
    | _, _, _ => none
  | .unOp op t x => (cAr x).map (.un op)
  | .convert s t x => match P.underlying s, P.underlying t, cAr x with
    | some (.int _), some (.int k), some x' => some (.conv k x')
    | some (.slice e), some .string, some x' => match P.underlying e with
      | some (.int .u8) => some (.b2s x')
      | _ => none
    | some .string, some (.slice e), some x' => match P.underlying e with
      | some (.int .u8) => some (.s2b x')
      | _ => none
    | some _, some (.slice e), some x' => match P.underlying e with
      | some (.int .u8) => match x with
        | .const (.string _) => some (.s2b x')
        | _ => if s = t then some (.cvb x') else none
      | _ => none
    | _, _, _ => none
  | .slice t x lo hi none => match cAr x, cOptAr lo, cOptAr hi, P.underlying t with
    | some x, some lo, some hi, some (.slice e) => (sizeOfT P e).map fun s => .slice s x lo hi
    | some x, some lo, some hi, some .string => some (.slstr x lo hi)
    | some x, some lo, some hi, some (.array n e) => match sizeOfT P e, aggOf P e with
      | some s, some g => some (.slarr g.isSome n s x lo hi)
      | _, _ => none
    | _, _, _, _ => none
  | .fieldAddr s x f => match P.underlying s, cAr x with
    | some (.struct fs), some x => match fs[f]? with
      | some fl => match sizeOfT P fl.type with
        | some (_ + 1) => some (.fadr fl.offset x)
        | _ => none
      | none => none
    | _, _ => none
  | .field s x f => match P.underlying s, cAr x with
    | some (.struct fs), some x => (fs[f]?).bind fun fl => (aggOf P fl.type).map fun g => .fld fl.offset g x
    | _, _ => none
  | .indexAddr t x i => match P.underlying t, cAr x, cAr i with
    | some (.slice e), some x, some i => (sizeOfT P e).map fun s => .idxA s x i
    | some (.array n e), some x, some i => (sizeOfT P e).map fun s => .idxP n s x i
    | _, _, _ => none
  | .index t x i => match P.underlying t, cAr x, cAr i with
    | some (.array n e), some x, some i => match sizeOfT P e, aggOf P e with
      | some s, some g => some (.idx n s g x i)
      | _, _ => none
    | some .string, some x, some i => some (.idxS x i)
    | _, _, _ => none
  | .extract x j => (cAr x).map (.ext j)
  | .call c => match c.callee, c.args.toList with
    | .builtin .len, [x] => match (c.argTypes[0]?).bind P.underlying with
      | some (.slice _) => (cAr x).map (.len false)
      | some .string => (cAr x).map (.len true)
      | _ => none
    | .builtin .append, [x, y] => match c.argTypes.toList with
      | [t, tx] => match P.underlying t, P.underlying tx, cAr x, cAr y with
        | some (.slice e), some (.slice _), some x, some y | some (.slice e), some .string, some x, some y => match P.info? e, zeroOf P e with
          | some i, some zs => if zs.length = i.size ∧ 0 < i.size ∧ 0 < i.bytes then some (.appd i.size i.bytes x y) else none
          | _, _ => none
        | _, _, _, _ => none
      | _ => none
    | .builtin .max, xs => (cArs xs).map (.mm true)
    | .builtin .min, xs => (cArs xs).map (.mm false)
    | .value (.func f), xs => (cArs xs).map (.call f)
    | _, _ => none
  | _ => none

/-- One operation, ready to run. 'g': it runs only if that slot holds that bool. -/
structure O1 where
  d : Option Nat
  i : I
  g : Option (Nat × Bool)
  after : List Nat
inductive Cd where
  | skip
  | reg (draw : Bool) (ops : List O1)
  | seq (a b : Cd)
  | cond (c : Ar) (a b : Cd)
  | block (id : Nat) (b : Cd)
  | loop (live : List Nat) (b : Cd)
  | exit (id : Nat)
  | ret
inductive Rv where
  | tmp (t : Nat)
  | cell (t : Nat) (n : Option Nat)
structure Fd where
  n : Nat
  body : Cd
  res : List Rv

def cO1 (P : Program) (ops : Array Oper) (o : Oper) : Option O1 :=
  match cOp P o, (match o.guard with
    | none => some none
    | some (j, b) => match (ops[j]?).bind (·.dst) with
      | some t => some (some (t, b))
      | none => none : Option (Option (Nat × Bool))) with
  | some i, some g => some ⟨o.dst, i, g, (o.after.toList.filter (Region.binds .any)).map (·.on)⟩
  | _, _ => none
def cCode (P : Program) : Code → Option Cd
  | .skip => some .skip
  | .region _ ops draw => (mapOpt (cO1 P ops) ops.toList).map (.reg draw)
  | .seq a b => match cCode P a, cCode P b with
    | some a, some b => some (.seq a b)
    | _, _ => none
  | .cond c a b => match cAr c, cCode P a, cCode P b with
    | some c, some a, some b => some (.cond c a b)
    | _, _, _ => none
  | .block id b => (cCode P b).map (.block id)
  | .loop b => (cCode P b).map (.loop [])
  | .exit id => some (.exit id)
  | .ret => some .ret
  | _ => none
def cRv (P : Program) : ResultVar → Option Rv
  | .tmp t => some (.tmp t)
  | .cell a t => (aggOf P t).map (.cell a)
def cFn (P : Program) (f : Func) : Option Fd :=
  match f.body, mapOpt (cRv P) f.results.toList with
  | some b, some r => (cCode P b).map fun c => ⟨f.ntmps, c, r⟩
  | _, _ => none

/-! ### Running them -/
def semI (E : Fns) (n : Nat) (d : Option Nat) (i : I) : RM (List Wr) :=
  match i, d with
  | .store n a x, none => semStore n a x
  | .mov x, some d => semMov d x
  | .asg x, some d => semAsg d x
  | .pick c a b, some d => semPick d c a b
  | .alloc cs, some d => semAlloc d cs
  | .box x, some d => semBox d x
  | .build z ps, some d => semBuild d z ps
  | .bslice g z n zero ps, some d => semBslice d g z n zero ps
  | .load n a, some d => semLoad d n a
  | .nilchk x, some d => semNil d x
  | .bin op x y, some d => semBin d op x y
  | .eq k neg x y, some d => semEq d k neg x y
  | .un op x, some d => semUn d op x
  | .conv k x, some d => semConv d k x
  | .s2b x, some d => semS2b d x
  | .b2s x, some d => semB2s d x
  | .cvb x, some d => semCvb d x
  | .slice z x lo hi, some d => semSlice d z x lo hi
  | .slarr g len z x lo hi, some d => semSlarr d g len z x lo hi
  | .slstr x lo hi, some d => semSlstr d x lo hi
  | .fadr off x, some d => semFadr d off x
  | .fld off n x, some d => semFld d off n x
  | .idxA z x i, some d => semIdxA d z x i
  | .idxP len z x i, some d => semIdxP d len z x i
  | .idx len z n x i, some d => semIdx d len z n x i
  | .idxS x i, some d => semIdxS d x i
  | .ext j x, some d => semExt d j x
  | .len s x, some d => semLen d s x
  | .appd z b x y, some d => semApp d z b x y
  | .mm big xs, some d => semMm d big xs
  | .call f xs, some d => semCall E n d f xs
  | _, _ => .fail
end Go.Ev

/-! text E8 -/
set_option linter.unusedVariables false
namespace Go.Ev

/-! ### Which slots an instruction looks at; where references come from; what lives -/
def Ar.slots : Ar → List Nat
  | .tmp t => [t]
  | .val _ => []
def optSlots : Option Ar → List Nat
  | some x => x.slots
  | none => []
def I.slots : I → List Nat
  | .mov x | .asg x | .box x | .load _ x | .nilchk x | .un _ x | .conv _ x | .s2b x | .b2s x | .cvb x | .fadr _ x | .fld _ _ x | .ext _ x | .len _ x => x.slots
  | .pick a b c => a.slots ++ b.slots ++ c.slots
  | .alloc _ => []
  | .build _ ps | .bslice _ _ _ _ ps => ps.flatMap fun p => p.2.2.slots
  | .store _ a x | .bin _ a x | .eq _ _ a x | .idxA _ a x | .idxP _ _ a x | .idx _ _ _ a x | .idxS a x | .appd _ _ a x => a.slots ++ x.slots
  | .slice _ x l h | .slarr _ _ _ x l h | .slstr x l h => x.slots ++ optSlots l ++ optSlots h
  | .mm _ xs | .call _ xs => xs.flatMap Ar.slots
/-- Slots to which the answer may refer. -/
def I.refs : I → List Nat
  | .mov x | .nilchk x | .fadr _ x | .load none x => x.slots
  | .pick _ a b => a.slots ++ b.slots
  | .idxA _ x _ | .idxP _ _ x _ => x.slots
  | _ => []
def O1.slots (o : O1) : List Nat := o.i.slots ++ (match o.g with | some (t, _) => [t] | none => [])
def addAll (xs ys : List Nat) : List Nat := ys.foldl (fun acc y => if acc.contains y then acc else y :: acc) xs
def Cd.ops : Cd → List O1
  | .reg _ os => os
  | .seq a b => a.ops ++ b.ops
  | .cond _ a b => a.ops ++ b.ops
  | .block _ b => b.ops
  | .loop _ b => b.ops
  | _ => []
/-- The slots to which others may refer. -/
def Cd.T (c : Cd) : List Nat := c.ops.foldl (fun acc o => addAll acc o.i.refs) []
/-- Whoever lives, and whatever it may refer to. -/
def closeRefs (prs : List (Nat × List Nat)) : Nat → List Nat → List Nat
  | 0, l => l
  | n + 1, l => closeRefs prs n (prs.foldl (fun acc (d, rs) => if acc.contains d then addAll acc rs else acc) l)
def liveOps (os : List O1) (l : List Nat) : List Nat :=
  os.foldr (fun o l => addAll (match o.d with | some d => l.filter (· != d) | none => l) o.slots) l
/-- What lives ahead of c: 'l' behind it; 'ex': behind its exits. -/
def liveIn (prs : List (Nat × List Nat)) (rl : List Nat) : Cd → (List (Nat × List Nat)) → List Nat → List Nat
  | .skip, _, l => l
  | .reg _ os, _, l => liveOps os l
  | .seq a b, ex, l => liveIn prs rl a ex (liveIn prs rl b ex l)
  | .cond c a b, ex, l => addAll (addAll c.slots (liveIn prs rl a ex l)) (liveIn prs rl b ex l)
  | .block id b, ex, l => liveIn prs rl b ((id, l) :: ex) l
  | .loop _ b, ex, l => let l1 := closeRefs prs 3 (liveIn prs rl b ex []); let l2 := closeRefs prs 3 (liveIn prs rl b ex l1); closeRefs prs 3 (liveIn prs rl b ex l2)
  | .exit id, ex, _ => ((ex.find? (·.1 == id)).map (·.2)).getD []
  | .ret, _, _ => rl
/-- Each loop is told what lives at its head. -/
def putLive (prs : List (Nat × List Nat)) (rl : List Nat) : Cd → (List (Nat × List Nat)) → List Nat → Cd
  | .seq a b, ex, l => .seq (putLive prs rl a ex (liveIn prs rl b ex l)) (putLive prs rl b ex l)
  | .cond c a b, ex, l => .cond c (putLive prs rl a ex l) (putLive prs rl b ex l)
  | .block id b, ex, l => .block id (putLive prs rl b ((id, l) :: ex) l)
  | .loop m b, ex, l => let l0 := liveIn prs rl (.loop m b) ex l; .loop l0 (putLive prs rl b ex l0)
  | c, _, _ => c
/-- Ahead of each operation of a region that draws: transitively. -/
def befores (os : List O1) : List (List Nat) :=
  os.foldl (fun acc o => acc ++ [o.after.foldl (fun s e => addAll (addAll s [e]) (acc.getD e [])) []]) []
/-- Slots that may come to refer to one of S. -/
def potRefs (os : List O1) (S : List Nat) : List Nat :=
  os.foldl (fun S o => match o.d with
    | some d => if o.i.refs.any S.contains then addAll S [d] else S
    | none => S) S
/-- The slot whose memory an address is in. -/
def baseOf (os : List O1) : Nat → Nat → Nat
  | 0, s => s
  | n + 1, s => match os.reverse.find? fun o => o.d == some s with
    | some o => match o.i with
      | .fadr _ (.tmp t) | .idxP _ _ (.tmp t) _ => baseOf os n t
      | _ => s
    | none => s
def isLoad1 (os : List O1) (t : Nat) : Bool := os.any fun o => o.d == some t && (match o.i with | .load none _ => true | _ => false)
/-- What each operation of a region that draws lays aside: references to what it sets, at which nobody behind it looks. -/
def killsOf (os : List O1) : List (List Nat) :=
  let bs := befores os
  (os.zip (List.range os.length)).map fun (o, j) =>
    let upto := os.take j
    let later := ((os.drop (j + 1)).flatMap O1.slots)
    let b := (bs.getD j []).filterMap fun i => (os[i]?).bind (·.d)
    let ok := fun t => b.contains t && !later.contains t
    match o.i, o.d with
    | .store _ (.tmp a) _, _ => (potRefs upto [baseOf upto 8 a]).filter fun t => ok t && isLoad1 upto t
    | .asg _, some d => (potRefs upto [d]).filter fun t => t != d && ok t
    | _, _ => []

def Fd.prep (f : Fd) : Fd :=
  let prs := f.body.ops.filterMap fun o => match o.d with
    | some d => if o.i.refs.isEmpty then none else some (d, o.i.refs)
    | none => none
  let rl := f.res.map fun | .tmp t => t | .cell t _ => t
  { f with body := putLive prs rl f.body [] rl }

/-! ### Running -/
inductive Ex where
  | normal
  | exit (id : Nat)
  | ret
  deriving DecidableEq
def refOk (T : List Nat) (x : AV) : Bool :=
  match refTo x with
  | some t => T.contains t
  | none => true
def Wr.ok (T : List Nat) (n : Nat) : Wr → Bool
  | .set d x => decide (d < n) && refOk T x
  | .mod _ x _ => refOk T x
def stepO (E : Fns) (T : List Nat) (n : Nat) (o : O1) (σ : List AV) : Option (List AV) :=
  let go := match (semI E n o.d o.i).run [] σ with
    | some ws => if ws.all (Wr.ok T n) then some (apps T ws σ) else none
    | none => none
  match o.g with
  | none => go
  | some (t, want) => match σ[t]? with
    | some (.bool b) => if b = want then go else match o.d with
      | some d => some ((Wr.set d (.tup [])).app T σ)
      | none => some σ
    | some (.tup []) => match o.d with
      | some d => some ((Wr.set d (.tup [])).app T σ)
      | none => some σ
    | _ => none
def stepsO (E : Fns) (T : List Nat) (n : Nat) : List O1 → List AV → Option (List AV)
  | [], σ => some σ
  | o :: os, σ => match stepO E T n o σ with
    | some σ' => stepsO E T n os σ'
    | none => none
/-- With a list of what was looked at. -/
def RM.runL {α : Type} (σ : List AV) : RM α → Option (α × List Nat)
  | .ret a => some (a, [])
  | .fail => none
  | .get s k => match σ[s]? with
    | some x => match (k x).runL σ with
      | some (r, l) => some (r, s :: l)
      | none => none
    | none => none
structure Tr where
  W : List Nat
  L : List Nat
  ws : List Wr
def Wr.val : Wr → AV
  | .set _ x => x
  | .mod _ x _ => x
/-- A reference stays what it is. -/
def Wr.keeps (x : AV) : Wr → Bool
  | .set d _ => refTo x != some d
  | .mod s _ ks => match x with
    | .als t j => !(t == s && ks.contains j)
    | .nst t _ _ => t != s
    | .npv t _ _ => t != s
    | _ => true
def isRef (x : AV) : Bool := (refTo x).isSome
/-- What is written is not told anew behind it. -/
def selfOk : List Wr → Bool
  | [] => true
  | x :: r => (!isRef x.val || r.all (Wr.keeps x.val)) && selfOk r
def setAll (ts : List Nat) (σ : List AV) : List AV := ts.foldl (fun σ t => σ.set t .junk) σ
def Wr.appX : Wr → List AV → List AV
  | .set d x, σ => σ.set d x
  | .mod s x _, σ => σ.set s x
def appX (kill : List Nat) (ws : List Wr) (σ : List AV) : List AV := ws.foldl (fun σ x => x.appX σ) (setAll kill σ)
def stepD (E : Fns) (T : List Nat) (n : Nat) (o : O1) (kill : List Nat) (σ : List AV) : Option (List AV × Tr) :=
  let go := match (semI E n o.d o.i).runL σ with
    | some (ws, l) => if ws.all (Wr.ok T n) && selfOk ws && kill.all (· < n) then some (appX kill ws σ, { W := ws.map Wr.dst ++ kill, L := l, ws := ws : Tr }) else none
    | none => none
  match o.g with
  | none => go
  | some (t, want) => match σ[t]? with
    | some (.bool b) => if b = want then go.map fun (σ, r) => (σ, { r with L := t :: r.L }) else match o.d with
      | some d => some (appX [] [.set d (.tup [])] σ, { W := [d], L := [t], ws := [.set d (.tup [])] })
      | none => some (σ, { W := [], L := [t], ws := [] })
    | some (.tup []) => match o.d with
      | some d => some (appX [] [.set d (.tup [])] σ, { W := [d], L := [t], ws := [.set d (.tup [])] })
      | none => some (σ, { W := [], L := [t], ws := [] })
    | _ => none
def stepsD (E : Fns) (T : List Nat) (n : Nat) : List (O1 × List Nat) → List AV → Option (List AV × List Tr)
  | [], σ => some (σ, [])
  | (o, k) :: os, σ => match stepD E T n o k σ with
    | some (σ', r) => match stepsD E T n os σ' with
      | some (σ2, rs) => some (σ2, r :: rs)
      | none => none
    | none => none
def disj (a b : List Nat) : Bool := a.all fun x => !b.contains x
def indep (a b : Tr) : Bool := disj a.W b.W && disj a.W b.L && disj a.L b.W
/-- Whatever has no order among them touches nothing of one another's. -/
def allIndep (bs : List (List Nat)) (rs : List Tr) : Bool :=
  (List.range rs.length).all fun i => (List.range i).all fun j => (bs.getD i []).contains j || indep (rs.getD i ⟨[], [], []⟩) (rs.getD j ⟨[], [], []⟩)
/-- A reference that is told in the region stays, or is laid aside, whoever comes behind it. -/
def refsOk (bs : List (List Nat)) (rs : List Tr) : Bool :=
  (List.range rs.length).all fun i => (rs.getD i ⟨[], [], []⟩).ws.all fun x => !isRef x.val || (List.range rs.length).all fun j =>
    j == i || (bs.getD i []).contains j || (rs.getD j ⟨[], [], []⟩).W.contains x.dst || (rs.getD j ⟨[], [], []⟩).ws.all (Wr.keeps x.val)
/-- A reference that was there stays, or is laid aside. -/
def oldOk (rs : List Tr) : Nat → List AV → Bool
  | _, [] => true
  | t, x :: σ => (!isRef x || rs.all fun r => r.W.contains t || r.ws.all (Wr.keeps x)) && oldOk rs (t + 1) σ
/-- Orders lead back. -/
def afterOk : Nat → List O1 → Bool
  | _, [] => true
  | i, o :: os => o.after.all (· < i) && afterOk (i + 1) os
/-- What is set in the region, and may be referred to, is referred to by nobody when it begins. -/
def preKill (os : List O1) (T : List Nat) (σ : List AV) : List AV :=
  let ds := os.filterMap fun o => match o.d with
    | some d => if T.contains d then some d else none
    | none => none
  σ.map fun x => match refTo x with
    | some t => if ds.contains t then .junk else x
    | none => x
def runReg (E : Fns) (T : List Nat) (n : Nat) (draw : Bool) (os : List O1) (σ : List AV) : Option (List AV) :=
  if draw then
    let ks := killsOf os
    match stepsD E T n (os.zip ks) (preKill os T σ) with
    | some (σ', rs) => if allIndep (befores os) rs && refsOk (befores os) rs && oldOk rs 0 (preKill os T σ) && afterOk 0 os then some σ' else none
    | none => none
  else stepsO E T n os σ
def iter (f : List AV → Option (Ex × List AV)) : Nat → List AV → Option (Ex × List AV)
  | 0, _ => none
  | k + 1, σ => match f σ with
    | some (.normal, σ') => iter f k σ'
    | r => r
def forgetFrom (live : List Nat) : Nat → List AV → List AV
  | _, [] => []
  | i, x :: xs => (match x with
      | .mem os => .mem os
      | x => if live.contains i then x else .junk) :: forgetFrom live (i + 1) xs
def condOf (c : Ar) (σ : List AV) : Option Bool := (rdBool c).run [] σ
def exec (E : Fns) (T : List Nat) (n k : Nat) : Cd → List AV → Option (Ex × List AV)
  | .skip, σ => some (.normal, σ)
  | .reg draw os, σ => (runReg E T n draw os σ).map fun σ' => (.normal, σ')
  | .seq a b, σ => match exec E T n k a σ with
    | some (.normal, σ') => exec E T n k b σ'
    | r => r
  | .cond c a b, σ => match condOf c σ with
    | some t => if t then exec E T n k a σ else exec E T n k b σ
    | none => none
  | .block id b, σ => match exec E T n k b σ with
    | some (.exit j, σ') => if j = id then some (.normal, σ') else some (.exit j, σ')
    | r => r
  | .loop live b, σ => iter (fun σ => exec E T n k b (forgetFrom live 0 σ)) k σ
  | .exit id, σ => some (.exit id, σ)
  | .ret, σ => some (.ret, σ)
/-- A result: what it says; if it has rights, whose it was. -/
def resV (σ : List AV) : Rv → Option (AV × Option Key)
  | .tmp t => match σ[t]? with
    | some (.own f z xs) => some (.own f z xs, some (t, 0))
    | some (.als s j) => match (look (s, j)).run [] σ with
      | some (.own f z xs) => some (.own f z xs, some (s, j))
      | some x => (viewOf x).map fun y => (y, none)
      | none => none
    | some x => (viewOf x).map fun y => (y, none)
    | none => none
  | .cell t n => match σ[t]? with
    | some (.box cs) => match n, cs with
      | none, [.own f z xs] => some (.own f z xs, some (t, 1))
      | none, [x] => (viewOf x).map fun y => (y, none)
      | some k, cs => if cs.length = k then (mapOpt viewOf cs).map fun ys => (.agg ys, none) else none
      | _, _ => none
    | some (.pv cs) => match n, cs with
      | none, [x] => some (x, none)
      | some k, cs => if cs.length = k then some (.agg cs, none) else none
      | _, _ => none
    | _ => none
/-- Rights within structs that are handed back are given up. -/
def demRes (T : List Nat) : List Rv → List AV → List AV
  | [], σ => σ
  | .cell t (some _) :: r, σ => match σ[t]? with
    | some (.box cs) => demRes T r (apps T [.mod t (.box (cs.map dem)) []] σ)
    | _ => demRes T r σ
  | _ :: r, σ => demRes T r σ
def results (T : List Nat) (σ : List AV) (res : List Rv) : Option AV :=
  match mapOpt (resV (demRes T res σ)) res with
  | some ps => if (ps.filterMap (·.2)).Nodup then (match ps with
    | [p] => some p.1
    | ps => some (.tup (ps.map (·.1)))) else none
  | none => none
def runFd (E : Fns) (k : Nat) (f : Fd) (args os : List AV) : Option (AV × List AV) :=
  if args.length ≤ f.n then
    match exec E f.body.T f.n k f.body (args ++ List.replicate (f.n - args.length) (.tup []) ++ [.mem os]) with
    | some (.normal, σ) | some (.ret, σ) => match results f.body.T σ f.res, σ[f.n]? with
      | some r, some (.mem os') => some (r, os')
      | _, _ => none
    | _ => none
  else none
/-- All functions, to a depth of calls; 'prim': those that are told by hand. -/
def ex (tab : FuncId → Option Fd) (prim : FuncId → Option (List AV → List AV → Option (AV × List AV))) (k : Nat) : Nat → Fns
  | 0, _, _, _ => none
  | d + 1, f, args, os => match prim f with
    | some g => g args os
    | none => match tab f with
      | some fd => runFd (ex tab prim k d) k fd args os
      | none => none
end Go.Ev

/-! text E9 -/
set_option linter.unusedVariables false
namespace Go.Ev
open Go.RowKit

section
variable {P : Program} {T : List Nat} {w0 : World} {St0 : Nat → Nat} {γ : Gh} {σ : List AV} {a : Act} {w : World} {U : List Nat}

theorem size_put (a : Act) (d : Option Nat) (v : Value) : (a.put d v).tmps.size = a.tmps.size := by
  cases d <;> simp [Act.put]

/-- What an operation must show: behind it, the state is told by what it writes. -/
def Post (T : List Nat) (w0 : World) (St0 : Nat → Nat) (n : Nat) (σ' : List AV) (a' : Act) (w' : World) : Prop := a'.tmps.size = n ∧ ∃ γ', GoodAt T w0 St0 γ' σ' a' w'
def OpSound (P : Program) (T : List Nat) (o : Oper) (m : RM (List Wr)) : Prop :=
  ∀ w0 St0 γ σ a w U ws, GoodAt T w0 St0 γ σ a w → m.run U σ = some ws → ws.all (Wr.ok T a.tmps.size) = true →
    ∀ Q, o.wp P a w (Post T w0 St0 a.tmps.size (apps T ws σ)) Q

theorem wp_value {o : Oper} {d : Nat} {v : Value} {w' : World} {σ' : List AV} (hrun : (execOp a.eval o).run P w = .ok (.value v) w') (hd : o.dst = some d)
    (hG : ∃ γ', GoodAt T w0 St0 γ' σ' (a.put (some d) v) w') (Q : Exit → Act → World → Prop) : o.wp P a w (Post T w0 St0 a.tmps.size σ') Q := by
  unfold Oper.wp
  rw [hrun, Oper.upon_value, hd]
  exact ⟨size_put _ _ _, hG⟩

theorem lift_ext {γ γ' : Gh} {k : Key} {M : Nat} (h : ∀ g, (liftN γ k M).St g ≤ γ'.St g) (hB : γ'.B ≤ γ.B) (hρ : ∀ i g, γ.ρ i = some g → γ'.ρ i = some g) (hF : ∀ g, γ.F g → γ'.F g) : Ext (liftN γ k M) γ' w w :=
  ⟨fun _ _ _ => rfl, h, hB, hρ, hF⟩
theorem V_unlift {k : Key} {M : Nat} {x : AV} {v : Value} (h : V (lift γ k M) w x v) : V (liftN γ k M) w (undeep x) v := V_undeep γ.F x v h
theorem VS_unlift {k : Key} {M z : Nat} {xs : List AV} {g o : Nat} (h : VS (lift γ k M) w z xs g o) : VS (liftN γ k M) w z (undeep.uL xs) g o := VS_undeep γ.F z xs g o h

/-- Rights to the cells of a row are given up, and to all that it leads to. -/
theorem demote (G : GoodAt T w0 St0 γ σ a w) {k : Key} {z : Nat} {xs : List AV} {v : Value} (h : Own γ w k true z xs v) (M2 : Nat) :
    ∃ γ', Keep γ γ' w w (· = k) ∧ Own γ' w k false z (undeep.uL xs) v ∧ Ext (liftN γ k M2) γ' w w ∧ γ'.ρ = γ.ρ := by
  rcases h with ⟨rfl, rfl⟩ | ⟨g, o, c, cs, h1, h2, h3, h4, h5, h6, h7⟩
  · -- nil: what else is of the key is held
    refine ⟨{ γ with St := fun h => if γ.O h = some (k, true) then max M2 (γ.St h) else γ.St h, O := fun h => if γ.O h = some (k, true) then none else γ.O h }, ⟨⟨fun _ _ _ => rfl, fun h => ?_, Nat.le_refl _, fun _ _ h => h, fun _ h => h⟩, rfl, rfl, Frm.refl _ _ _, fun h hb hf => ?_, fun h q b e hq => ?_, fun h q e => ?_, G.rho, fun h hh => ?_, id, fun h q e => ?_⟩, .inl ⟨rfl, rfl⟩, lift_ext (fun h => ?_) (Nat.le_refl _) (fun _ _ h => h) (fun _ h => h), rfl⟩
    · dsimp only; split <;> omega
    · dsimp only
      rw [if_neg]
      intro e
      have := (G.own h _ e).1
      rcases this with h' | h'
      · omega
      · exact hf h'
    · have hne : ¬ (γ.O h = some (k, true)) := by
        rw [e]
        intro e2
        cases e2
        exact hq rfl
      dsimp only
      rw [if_neg hne, if_neg hne]
      exact ⟨e, rfl, rfl⟩
    · dsimp only at e
      split at e
      · cases e
      · exact G.own h q e
    · dsimp only
      rw [if_neg, G.stnew h hh]
      intro e
      have := (G.own h _ e).2
      omega
    · dsimp only at e ⊢
      split at e
      · cases e
      · rename_i hne
        rw [if_neg hne]
        exact G.nest h q e
    · dsimp only [liftN]; exact Nat.le_refl _
  · simp only [if_true] at h7
    obtain ⟨h7, M, h8⟩ := h7
    have hgB := G.own g _ h4
    refine ⟨{ γ with St := fun h => if γ.O h = some (k, true) then max (max M M2) (γ.St h) else if h = g then o + xs.length * z else γ.St h, O := fun h => if γ.O h = some (k, true) then none else γ.O h }, ⟨⟨fun _ _ _ => rfl, fun h => ?_, Nat.le_refl _, fun _ _ h => h, fun _ h => h⟩, rfl, rfl, Frm.refl _ _ _, fun h hb hf => ?_, fun h q b e hq => ?_, fun h q e => ?_, G.rho, fun h hh => ?_, id, fun h q e => ?_⟩, .inr ⟨g, o, c, cs, by rw [uL_len]; exact h1, by rw [uL_len]; exact h2, h3, ?_, h5, h6, ?_⟩, lift_ext (fun h => ?_) (Nat.le_refl _) (fun _ _ h => h) (fun _ h => h), rfl⟩
    · dsimp only
      split
      · omega
      · split
        · rename_i e; subst e; omega
        · omega
    · dsimp only
      rw [if_neg, if_neg]
      · intro e; subst e; omega
      · intro e
        have := (G.own h _ e).1
        rcases this with h' | h'
        · omega
        · exact hf h'
    · have hne : ¬ (γ.O h = some (k, true)) := by
        rw [e]
        intro e2
        cases e2
        exact hq rfl
      have hne2 : h ≠ g := by
        intro e2
        subst e2
        rw [h4] at e
        cases e
        exact hq rfl
      dsimp only
      rw [if_neg hne, if_neg hne, if_neg hne2]
      exact ⟨e, rfl, rfl⟩
    · dsimp only at e
      split at e
      · cases e
      · exact G.own h q e
    · dsimp only
      rw [if_neg, if_neg, G.stnew h hh]
      · intro e; subst e; omega
      · intro e
        have := (G.own h _ e).2
        omega
    · dsimp only at e ⊢
      split at e
      · cases e
      · rename_i hne
        rw [if_neg hne, if_neg]
        · exact G.nest h q e
        · intro e2
          subst e2
          rw [h4] at e
          cases e
    · dsimp only
      rw [if_neg (by rw [h4]; simp)]
      exact h4
    · simp only [Bool.false_eq_true, if_false]
      refine ⟨by rw [h4, uL_len]; simp, VS_mono ?_ z _ g o (fun _ _ _ => rfl) (VS_unlift h8)⟩
      refine lift_ext (fun h => ?_) (Nat.le_refl _) (fun _ _ h => h) (fun _ h => h)
      dsimp only [liftN]
      split
      · omega
      · split
        · rename_i e; subst e; omega
        · omega
    · dsimp only [liftN]
      split
      · omega
      · split
        · rename_i e; subst e; omega
        · omega

theorem get_tmp (G : GoodAt T w0 St0 γ σ a w) {s : Nat} {x : AV} (h : σ[s]? = some x) (hm : ∀ os, x ≠ .mem os) : ∃ v, a.tmps[s]? = some v ∧ R2 γ w a.tmps s x v := by
  rcases G.lt_of_get h with h1 | ⟨_, os, rfl⟩
  · exact ⟨_, Array.getElem?_eq_getElem h1, G.slots s x _ h (Array.getElem?_eq_getElem h1)⟩
  · exact absurd rfl (hm os)
/-- Whatever is looked at stands somewhere. -/
theorem look_at (G : GoodAt T w0 St0 γ σ a w) {k : Key} {y : AV} (h : (look k).run U σ = some y) (hm : ∀ os, y ≠ .mem os) : ∃ v, RK γ w a.tmps k y v := by
  obtain ⟨s, j⟩ := k
  cases j with
  | zero =>
    obtain ⟨x, hx, h⟩ := run_get h
    simp only [RM.run, Option.some.injEq] at h
    subst h
    exact get_tmp G hx hm
  | succ j =>
    obtain ⟨x, hx, h⟩ := run_get h
    cases x with
    | box cs =>
      have h := run_opt h
      obtain ⟨v, hv, hr⟩ := get_tmp G hx (by simp)
      obtain ⟨g, cs', e1, e2, e3, e4, e5, e6, e7⟩ := hr
      obtain ⟨u, hu, hr⟩ := e7 j y h
      exact ⟨u, ⟨g, by rw [hv, e1], e3, (e4.cell j).trans hu⟩, hr⟩
    | _ => simp [RM.run] at h
theorem own_nptr {k : Key} {f : Bool} {z : Nat} {xs : List AV} {v : Value} (h : Own γ w k f z xs v) : ∀ p, v ≠ .pointer p := by
  intro p e
  rcases h with ⟨h, _⟩ | ⟨g, o, c, cs, h, _⟩ <;> rw [h] at e <;> cases e

/-- What is told anew by it: nothing, or one slot. -/
def OneMod (γ γ' : Gh) (w : World) (ws : List Wr) : Prop := (ws = [] ∧ γ' = γ) ∨ γ'.ρ = γ.ρ ∧ ∃ (k : Key) (x : AV), Keep γ γ' w w (· = k) ∧ ws = [.mod k.1 x []]
theorem putKey_one {k : Key} {x : AV} {ws : List Wr} (h : (putKey k x).run U σ = some ws) : ∃ u, ws = [.mod k.1 u []] := by
  obtain ⟨k1, k2⟩ := k
  cases k2 with
  | zero => exact ⟨_, (run_ret h).symm⟩
  | succ k2 =>
    obtain ⟨q2, _, h8⟩ := run_get h
    cases q2 <;> first | exact (run_fail h8).elim | exact ⟨_, (run_ret h8).symm⟩
/-- An operand that is read and may be kept. -/
theorem rdView_sound2 (G : GoodAt T w0 St0 γ σ a w) {o : Operand} {x : Ar} (hx : ArOk o x) {y : AV} {ws : List Wr} (h : (rdView x).run U σ = some (y, ws)) :
    ∃ γ', GoodAt T w0 St0 γ' (apps T ws σ) a w ∧ OneMod γ γ' w ws ∧ V γ' w y (a.eval o) := by
  obtain ⟨⟨y0, k⟩, h1, h2⟩ := run_bind h
  have hr := rd_sound G hx h1
  have plain : ∀ {v}, (RM.opt (viewOf y0)).bind (fun v => RM.ret (v, ([] : List Wr))) = v → RM.run U σ v = some (y, ws) → ∃ γ', GoodAt T w0 St0 γ' (apps T ws σ) a w ∧ OneMod γ γ' w ws ∧ V γ' w y (a.eval o) := by
    intro v e hv
    subst e
    obtain ⟨y', h3, h4⟩ := run_bind hv
    simp only [RM.run, Option.some.injEq, Prod.mk.injEq] at h4
    obtain ⟨rfl, rfl⟩ := h4
    exact ⟨γ, G, .inl ⟨rfl, rfl⟩, rd_view G hx h1 (run_opt h3)⟩
  cases y0 with
  | own f z xs =>
    cases f with
    | false => exact plain rfl (by simpa using h2)
    | true =>
      cases k with
      | none => exact hr.elim
      | some k =>
        obtain ⟨us, h3, h4⟩ := run_bind h2
        simp only [RM.run, Option.some.injEq, Prod.mk.injEq] at h4
        obtain ⟨rfl, rfl⟩ := h4
        have ho := RK.own hr
        obtain ⟨γ', K, ho', _, hρ⟩ := demote G ho 0
        exact ⟨γ', putKey_sound G hr (own_nptr ho) h3 K ho' (by simp [refTo]), (putKey_one h3).elim fun u hu => .inr ⟨hρ, k, u, K, hu⟩, own_view ho'⟩
  | nst s j z =>
    obtain ⟨t, h3, h4⟩ := run_bind h2
    have hv : ∃ M, V (lift γ (s, j) M) w z (a.eval o) := by
      cases k with
      | none => exact hr.elim
      | some k =>
        obtain ⟨s', j'⟩ := k
        cases j' with
        | zero => exact hr.2
        | succ j' => exact hr.2.elim
    obtain ⟨M, hv⟩ := hv
    cases t with
    | own f z' xs =>
      cases f with
      | false => simp [RM.run] at h4
      | true =>
        obtain ⟨y', h5, h6⟩ := run_bind h4
        obtain ⟨us, h7, h8⟩ := run_bind h6
        simp only [RM.run, Option.some.injEq, Prod.mk.injEq] at h8
        obtain ⟨rfl, rfl⟩ := h8
        obtain ⟨u, hu⟩ := look_at G h3 (by simp)
        have ho := RK.own hu
        obtain ⟨γ', K, ho', hE, hρ⟩ := demote G ho M
        exact ⟨γ', putKey_sound G hu (own_nptr ho) h7 K ho' (by simp [refTo]), (putKey_one h7).elim fun u hu => .inr ⟨hρ, (s, j), u, K, hu⟩, V_mono hE _ _ (view_V (V_unlift hv) (run_opt h5))⟩
    | _ => simp [RM.run] at h4
  | _ => first | exact plain rfl (by simpa using h2) | exact plain rfl h2
theorem OneMod.ext {γ γ' : Gh} {ws : List Wr} (h : OneMod γ γ' w ws) : Ext γ γ' w w := by
  rcases h with ⟨_, rfl⟩ | ⟨_, k, x, K, _⟩
  · exact Ext.refl _ _
  · exact K.ext
theorem rdView_sound (G : GoodAt T w0 St0 γ σ a w) {o : Operand} {x : Ar} (hx : ArOk o x) {y : AV} {ws : List Wr} (h : (rdView x).run U σ = some (y, ws)) :
    ∃ γ', GoodAt T w0 St0 γ' (apps T ws σ) a w ∧ Ext γ γ' w w ∧ V γ' w y (a.eval o) := by
  obtain ⟨γ', h1, h2, h3⟩ := rdView_sound2 G hx h
  exact ⟨γ', h1, h2.ext, h3⟩
end
end Go.Ev

/-! text E10 -/
set_option linter.unusedVariables false
namespace Go.Ev
open Go.RowKit

section
variable {P : Program} {T : List Nat} {w0 : World} {St0 : Nat → Nat} {γ : Gh} {σ : List AV} {a : Act} {w : World} {U : List Nat}

/-- Ownership changes hands. -/
def withO (γ : Gh) (O : Nat → Option ((Nat × Nat) × Bool)) : Gh := { γ with O := O }
theorem withO_ext (γ : Gh) (O : Nat → Option ((Nat × Nat) × Bool)) (w : World) : Ext γ (withO γ O) w w := ⟨fun _ _ _ => rfl, fun _ => Nat.le_refl _, Nat.le_refl _, fun _ _ h => h, fun _ h => h⟩
theorem keep_withO (G : GoodAt T w0 St0 γ σ a w) {O : Nat → Option ((Nat × Nat) × Bool)} {X : Key → Prop} (h1 : ∀ g k b, γ.O g = some (k, b) → ¬ X k → O g = some (k, b))
    (h2 : ∀ g q, O g = some q → ∃ k, γ.O g = some (k, q.2)) : Keep γ (withO γ O) w w X :=
  ⟨withO_ext _ _ _, rfl, rfl, Frm.refl _ _ _, fun _ _ _ => rfl, fun g k b h hx => ⟨h1 g k b h hx, rfl, rfl⟩, fun g q h => by obtain ⟨q', hq⟩ := h2 g q h; exact G.own g _ hq, G.rho, G.stnew, id, fun g q h => by obtain ⟨q', hq⟩ := h2 g _ h; exact G.nest g _ hq⟩
theorem lift_St (γ : Gh) (k : Key) (M h : Nat) : (lift γ k M).St h = if γ.O h = some (k, true) then max M (γ.St h) else γ.St h := rfl
theorem lift_rekey {k k2 : Key} {M : Nat} {O : Nat → Option ((Nat × Nat) × Bool)} (hO : ∀ g b, γ.O g = some (k, b) → O g = some (k2, b)) (h : Nat) : (lift γ k M).St h ≤ (lift (withO γ O) k2 M).St h := by
  rw [lift_St, lift_St]
  by_cases e : γ.O h = some (k, true)
  · have e' : (withO γ O).O h = some (k2, true) := hO h true e
    rw [if_pos e, if_pos e']
    exact Nat.le_refl _
  · rw [if_neg e]
    split
    · exact Nat.le_max_right _ _
    · exact Nat.le_refl _
theorem own_rekey {k k2 : Key} {f : Bool} {z : Nat} {xs : List AV} {v : Value} {O : Nat → Option ((Nat × Nat) × Bool)} (h : Own γ w k f z xs v) (hO : ∀ g b, γ.O g = some (k, b) → O g = some (k2, b)) : Own (withO γ O) w k2 f z xs v := by
  rcases h with h | ⟨g, o, c, cs, h1, h2, h3, h4, h5, h6, h7⟩
  · exact .inl h
  · refine .inr ⟨g, o, c, cs, h1, h2, h3, hO g _ h4, h5, h6, ?_⟩
    cases f with
    | false =>
      simp only [Bool.false_eq_true, if_false] at h7 ⊢
      exact ⟨h7.1, VS_mono (withO_ext _ _ _) z xs g o (fun _ _ _ => rfl) h7.2⟩
    | true =>
      simp only [if_true] at h7 ⊢
      obtain ⟨h7, M, h8⟩ := h7
      refine ⟨h7, M, VS_mono ?_ z xs g o (fun _ _ _ => rfl) h8⟩
      exact ⟨fun _ _ _ => rfl, lift_rekey hO, Nat.le_refl _, fun _ _ h => h, fun h hf => hf.elim .inl (fun e => .inr (hO h true e))⟩
theorem R1_rekey {k k2 : Key} {x : AV} {v : Value} {O : Nat → Option ((Nat × Nat) × Bool)} (h : R1 γ w k x v) (hO : ∀ g b, γ.O g = some (k, b) → O g = some (k2, b)) : R1 (withO γ O) w k2 x v := by
  cases x with
  | own f z xs => exact own_rekey h hO
  | _ => exact V_mono (withO_ext _ _ _) _ _ h

theorem take_sound (G : GoodAt T w0 St0 γ σ a w) {k : Key} {f : Bool} {z : Nat} {xs : List AV} {v : Value} (hk : RK γ w a.tmps k (.own f z xs) v) {ws : List Wr}
    (h : (putKey k (if f then .junk else .sl true false z xs)).run U σ = some ws) :
    ∃ γ1, GoodAt T w0 St0 γ1 (apps T ws σ) a w ∧ Ext γ γ1 w w ∧ ∀ k2, ∃ γ2, Keep γ1 γ2 w w (· = k2) ∧ Own γ2 w k2 f z xs v := by
  have ho := RK.own hk
  let O1 : Nat → Option ((Nat × Nat) × Bool) := fun g => match γ.O g with
    | some (q, b) => if q = k then none else some (q, b)
    | none => none
  have hO1 : ∀ g q b, O1 g = some (q, b) → γ.O g = some (q, b) ∧ q ≠ k := by
    intro g q b e
    simp only [O1] at e
    split at e
    · rename_i q' b' e'
      split at e
      · cases e
      · rename_i hne
        cases e
        exact ⟨e', hne⟩
    · cases e
  have K1 : Keep γ (withO γ O1) w w (· = k) := keep_withO G (fun g q b e hne => by simp only [O1, e]; rw [if_neg hne]) (fun g q e => ⟨_, (hO1 g q.1 q.2 e).1⟩)
  have hx : R1 (withO γ O1) w k (if f then .junk else .sl true false z xs) v := by
    cases f with
    | true => exact trivial
    | false => exact V_mono (withO_ext _ _ _) _ _ (own_view ho)
  have G1 := putKey_sound G hk (own_nptr ho) h K1 hx (by cases f <;> simp [refTo])
  refine ⟨withO γ O1, G1, withO_ext _ _ _, fun k2 => ⟨withO γ (fun g => match γ.O g with
    | some (q, b) => if q = k then some (k2, b) else some (q, b)
    | none => none), ⟨⟨fun _ _ _ => rfl, fun _ => Nat.le_refl _, Nat.le_refl _, fun _ _ h => h, fun _ h => h⟩, rfl, rfl, Frm.refl _ _ _, fun _ _ _ => rfl, fun g q b e hne => ⟨?_, rfl, rfl⟩, fun g q e => ?_, G.rho, G.stnew, id, fun g q e => ?_⟩, own_rekey ho fun g b e => ?_⟩⟩
  · obtain ⟨e1, e2⟩ := hO1 g q b e
    simp only [withO, e1]
    rw [if_neg e2]
  · cases e' : γ.O g with
    | none => simp [withO, e'] at e
    | some q' => exact G.own g q' e'
  · cases e' : γ.O g with
    | none => simp [withO, e'] at e
    | some q' =>
      obtain ⟨q1, b⟩ := q'
      have hb : b = true := by
        simp only [withO, e'] at e
        split at e <;> simp at e <;> exact e.2
      subst hb
      exact G.nest g _ e'
  · simp only [e]
    simp

theorem setV (G : GoodAt T w0 St0 γ σ a w) {d : Nat} {x : AV} {v : Value} (hd : d < a.tmps.size) (hx : V γ w x v) (hr : refTo x = none) : GoodAt T w0 St0 γ ((Wr.set d x).app T σ) (a.put (some d) v) w :=
  GoodAt.set G (keep_refl G _) hd (R2.of_V hx) (fun t ht => by rw [hr] at ht; cases ht)
theorem V_ref {x : AV} {v : Value} (h : V γ w x v) : refTo x = none := by
  cases x <;> first | rfl | exact h.elim

theorem put_ne {d t : Nat} {v : Value} (h : t ≠ d) : (a.put (some d) v).tmps[t]? = a.tmps[t]? := by
  simp only [Act.put]
  exact Array.getElem?_setIfInBounds_ne (fun e => h e.symm)

theorem copyOf_sound (G : GoodAt T w0 St0 γ σ a w) {o : Operand} {x : Ar} (hx : ArOk o x) {y : AV} (h : (copyOf x).run U σ = some y) {d : Nat} (hd : refTo y ≠ some d) :
    R2 γ w (a.put (some d) (a.eval o)).tmps d y (a.eval o) := by
  cases x with
  | val z => exact R2.of_V (view_V (hx.1 _ _ _) (run_opt h))
  | tmp t =>
    have ho : o = .tmp t := hx
    subst ho
    obtain ⟨z, hz, h⟩ := run_get h
    rcases G.lt_of_get hz with ht | ⟨rfl, os, rfl⟩
    · have he : a.tmps[t]? = some (a.eval (.tmp t)) := by simp [Act.eval, Array.getD_eq_getD_getElem?, Array.getElem?_eq_getElem ht]
      have hs := G.slots t z _ hz he
      have plain : (RM.opt (viewOf z)).run U σ = some y → R2 γ w (a.put (some d) (a.eval (.tmp t))).tmps d y (a.eval (.tmp t)) := fun h => R2.of_V (view_R2 hs (run_opt h))
      cases z with
      | own f q xs =>
        simp only [RM.run, Option.some.injEq] at h
        subst h
        have htd : t ≠ d := fun e => hd (by simp [refTo, e])
        exact (put_ne htd).trans he
      | als s j =>
        simp only [RM.run, Option.some.injEq] at h
        subst h
        have htd : s ≠ d := fun e => hd (by simp [refTo, e])
        cases j with
        | zero => exact (put_ne htd).trans hs
        | succ j =>
          obtain ⟨g, h1, h2, h3⟩ := hs
          exact ⟨g, (put_ne htd).trans h1, h2, h3⟩
      | adr s j =>
        simp only [RM.run, Option.some.injEq] at h
        subst h
        have htd : s ≠ d := fun e => hd (by simp [refTo, e])
        obtain ⟨g, o, h1, h2⟩ := hs
        exact ⟨g, o, by rw [put_ne htd]; exact h1, h2⟩
      | nst s j z =>
        simp only [RM.run, Option.some.injEq] at h
        subst h
        exact hs
      | npv s j z =>
        simp only [RM.run, Option.some.injEq] at h
        subst h
        exact hs
      | box cs =>
        simp only [RM.run, Option.some.injEq] at h
        subst h
        have htd : t ≠ d := fun e => hd (by simp [refTo, e])
        obtain ⟨g, cs', h1, _⟩ := hs
        exact ⟨g, 0, .inl (by rw [put_ne htd, he, h1]), h1⟩
      | _ => exact plain h
    · simp [viewOf, RM.run, RM.opt] at h

/-- The value that a move hands on. -/
theorem semMov1_sound (G : GoodAt T w0 St0 γ σ a w) {o : Operand} {x : Ar} (hx : ArOk o x) {d : Nat} {ws : List Wr} (h : (semMov1 d x).run U σ = some ws) (hok : ws.all (Wr.ok T a.tmps.size) = true) :
    ∃ γ', GoodAt T w0 St0 γ' (apps T ws σ) (a.put (some d) (a.eval o)) w := by
  obtain ⟨y, h1, h2⟩ := run_bind h
  by_cases hr : refTo y = some d
  · rw [if_pos hr] at h2; simp [RM.run] at h2
  · rw [if_neg hr] at h2
    simp only [RM.run, Option.some.injEq] at h2
    subst h2
    simp only [List.all_cons, List.all_nil, Wr.ok, Bool.and_true, Bool.and_eq_true, decide_eq_true_eq] at hok
    refine ⟨γ, GoodAt.set G (keep_refl G _) hok.1 (copyOf_sound G hx h1 hr) fun t ht => ?_⟩
    have := hok.2
    simp only [refOk, ht] at this
    exact this

theorem semTup_sound (G : GoodAt T w0 St0 γ σ a w) {o : Operand} {x : Ar} (hx : ArOk o x) {d : Nat} {ws : List Wr} {m : RM (List Wr)} (h : (semTup d x m).run U σ = some ws) (hok : ws.all (Wr.ok T a.tmps.size) = true)
    (hm : m.run U σ = some ws → ∃ γ', GoodAt T w0 St0 γ' (apps T ws σ) (a.put (some d) (a.eval o)) w) :
    ∃ γ', GoodAt T w0 St0 γ' (apps T ws σ) (a.put (some d) (a.eval o)) w := by
  cases x with
  | val z => exact hm h
  | tmp t =>
    have ho : o = .tmp t := hx
    subst ho
    obtain ⟨z, hz, h⟩ := run_get h
    by_cases hzt : ∃ vs, z = .tup vs
    · obtain ⟨vs, rfl⟩ := hzt
      by_cases htd : t = d
      · simp [htd, RM.run] at h
      · simp only [if_neg htd, RM.run, Option.some.injEq] at h
        subst h
        obtain ⟨v, hv, hs⟩ := get_tmp G hz (by simp)
        have hev : a.eval (.tmp t) = v := by simp [Act.eval, Array.getD_eq_getD_getElem?, hv]
        rw [hev]
        obtain ⟨us, e1, e2, e3⟩ := hs
        have hlt : t < a.tmps.size := (Array.getElem?_eq_some_iff.1 hv).1
        simp only [List.all_cons, List.all_nil, Wr.ok, Bool.and_true, Bool.and_eq_true, decide_eq_true_eq] at hok
        let O1 : Nat → Option ((Nat × Nat) × Bool) := fun g => match γ.O g with
          | some (q, b) => if q.1 = t then none else some (q, b)
          | none => none
        have hO1 : ∀ g q b, O1 g = some (q, b) → γ.O g = some (q, b) ∧ q.1 ≠ t := by
          intro g q b e
          simp only [O1] at e
          split at e
          · rename_i q' b' e'
            split at e
            · cases e
            · rename_i hne
              cases e
              exact ⟨e', hne⟩
          · cases e
        have K1 : Keep γ (withO γ O1) w w (Of t) := keep_withO G (fun g q b e hne => by simp only [O1, e]; rw [if_neg (show ¬ q.1 = t from hne)]) (fun g q e => ⟨_, (hO1 g q.1 q.2 e).1⟩)
        have G1 : GoodAt T w0 St0 (withO γ O1) ((Wr.mod t .junk []).app T σ) a w := GoodAt.mod G K1 hlt (fun _ _ => R2.junk) (fun q hq => by simp [refTo] at hq) (fun j u _ hh => by
          cases j with
          | zero => exact hh
          | succ j =>
            obtain ⟨g, h1, _⟩ := hh
            rw [hv, e1] at h1
            cases h1)
        let O2 : Nat → Option ((Nat × Nat) × Bool) := fun g => match γ.O g with
          | some (q, b) => if q.1 = t then some ((d, q.2), b) else some (q, b)
          | none => none
        refine ⟨withO γ O2, GoodAt.set G1 ⟨⟨fun _ _ _ => rfl, fun _ => Nat.le_refl _, Nat.le_refl _, fun _ _ h => h, fun _ h => h⟩, rfl, rfl, Frm.refl _ _ _, fun _ _ _ => rfl, fun g q b e hne => ⟨?_, rfl, rfl⟩, fun g q e => ?_, G.rho, G.stnew, id, fun g q e => ?_⟩ hok.2.1 ⟨us, e1, e2, fun j y hy => ?_⟩ (fun q hq => by simp [refTo] at hq)⟩
        · obtain ⟨e1, e2⟩ := hO1 g q b e
          simp only [withO, O2, e1]
          rw [if_neg e2]
        · cases e' : γ.O g with
          | none => simp [withO, O2, e'] at e
          | some q' => exact G.own g q' e'
        · cases e' : γ.O g with
          | none => simp [withO, O2, e'] at e
          | some q' =>
            obtain ⟨q1, b⟩ := q'
            have hb : b = true := by
              simp only [withO, O2, e'] at e
              split at e <;> simp at e <;> exact e.2
            subst hb
            exact G.nest g _ e'
        · obtain ⟨u, hu, hr⟩ := e3 j y hy
          exact ⟨u, hu, R1_rekey hr fun g b e => by simp only [O2, e]; simp⟩
    · refine hm ?_
      cases z with
      | tup vs => exact absurd ⟨vs, rfl⟩ hzt
      | _ => exact h

theorem takeOf_sound (G : GoodAt T w0 St0 γ σ a w) {o : Operand} {x : Ar} (hx : ArOk o x) {y : AV} {ws : List Wr} (h : (takeOf x).run U σ = some (y, ws)) {d : Nat} (hd : d < a.tmps.size) (hr : refTo y ≠ some d) (hok : refOk T y = true) :
    ∃ γ', GoodAt T w0 St0 γ' (apps T (ws ++ [.set d y]) σ) (a.put (some d) (a.eval o)) w := by
  obtain ⟨⟨y0, k⟩, h1, h2⟩ := run_bind h
  have hrd := rd_sound G hx h1
  have viaView : (rdView x).run U σ = some (y, ws) → ∃ γ', GoodAt T w0 St0 γ' (apps T (ws ++ [.set d y]) σ) (a.put (some d) (a.eval o)) w := by
    intro h
    obtain ⟨γ', G', E, hv⟩ := rdView_sound G hx h
    rw [apps_append]
    exact ⟨γ', setV G' hd hv (V_ref hv)⟩
  cases y0 with
  | own f z xs =>
    cases k with
    | none => exact hrd.elim
    | some k =>
      obtain ⟨us, h3, h4⟩ := run_bind h2
      simp only [RM.run, Option.some.injEq, Prod.mk.injEq] at h4
      obtain ⟨rfl, rfl⟩ := h4
      obtain ⟨γ1, G1, _, hk2⟩ := take_sound G hrd h3
      obtain ⟨γ2, K, hown⟩ := hk2 (d, 0)
      rw [apps_append]
      exact ⟨γ2, GoodAt.set G1 (K.weaken fun k e => by subst e; rfl) hd hown (fun t ht => by simp [refTo] at ht)⟩
  | adr s j =>
    simp only [RM.run, Option.some.injEq, Prod.mk.injEq] at h2
    obtain ⟨rfl, rfl⟩ := h2
    cases k with
    | none => exact hrd.elim
    | some k =>
      obtain ⟨s', j'⟩ := k
      cases j' with
      | succ j' => exact hrd.2.elim
      | zero =>
        obtain ⟨_, g, o', h3, h4⟩ := hrd
        have hsd : s ≠ d := fun e => hr (by simp [refTo, e])
        refine ⟨γ, GoodAt.set G (keep_refl G _) hd ⟨g, o', by rw [put_ne hsd]; exact h3, h4⟩ fun t ht => ?_⟩
        simp only [refOk, ht] at hok
        exact hok
  | _ => exact viaView h2
end
end Go.Ev

/-! text E11 -/
set_option linter.unusedVariables false
namespace Go.Ev
open Go.RowKit

section
variable {P : Program} {T : List Nat} {w0 : World} {St0 : Nat → Nat} {γ : Gh} {σ : List AV} {a : Act} {w : World} {U : List Nat}

theorem run_underlying' {t : TypeId} {d : TypeDesc} (h : P.underlying t = some d) (w : World) : (underlying t).run P w = .ok d w := by
  unfold underlying
  simp [h]
theorem run_sizeOf' {t : TypeId} {i : TypeInfo} (h : P.info? t = some i) (w : World) : (sizeOf t).run P w = .ok i.size w := by
  unfold sizeOf typeInfo
  simp [h]
theorem aggOf_cases {t : TypeId} {g : Option Nat} (h : aggOf P t = some g) : ∃ d i, P.underlying t = some d ∧ P.info? t = some i ∧ (match g with
    | some k => ((∃ fs, d = .struct fs) ∨ ∃ n e, d = .array n e) ∧ i.size = k
    | none => (∀ fs, d ≠ .struct fs) ∧ ∀ n e, d ≠ .array n e) := by
  unfold aggOf at h
  cases hu : P.underlying t with
  | none => simp [hu] at h
  | some d =>
    cases hi : P.info? t with
    | none => cases d <;> simp [hu, hi] at h
    | some i =>
      refine ⟨d, i, rfl, rfl, ?_⟩
      cases d <;> simp [hu, hi] at h <;> subst h <;> simp
theorem run_isAgg {t : TypeId} {g : Option Nat} (h : aggOf P t = some g) (w : World) : (isAgg t).run P w = .ok g.isSome w := by
  obtain ⟨d, i, h1, h2, h3⟩ := aggOf_cases h
  unfold isAgg
  simp only [Sem.run_bind, run_underlying' h1, Result.andThen]
  cases g with
  | some k =>
    rcases h3.1 with ⟨fs, rfl⟩ | ⟨n, e, rfl⟩ <;> simp
  | none =>
    cases d <;> simp <;> first | exact absurd rfl (h3.1 _) | exact absurd rfl (h3.2 _ _)
theorem loadVar_one {t : TypeId} (h : aggOf P t = some none) {ad : Addr} {v : Value} (hc : w.cell? ad = some v) : (loadVar t ad).run P w = .ok v w := by
  unfold loadVar
  simp only [Sem.run_bind, run_isAgg h, Result.andThen]
  simp [hc]
theorem loadVar_many {t : TypeId} {k : Nat} (h : aggOf P t = some (some k)) {ad : Addr} {vs : Array Value} (hc : (loadCells ad k).run P w = .ok vs w) : (loadVar t ad).run P w = .ok (.agg vs) w := by
  obtain ⟨d, i, h1, h2, h3⟩ := aggOf_cases h
  unfold loadVar
  simp only [Sem.run_bind, run_isAgg h, Result.andThen]
  simp only [Option.isSome_some, if_true, Sem.run_bind, run_sizeOf' h2, Result.andThen, h3.2, hc]
  rfl
theorem storeVar_run {t : TypeId} {n : Nat} (h : sizeOfT P t = some n) {g o : Nat} {v : Value} {cs : Array Value} (hb : Blk w g cs) (hv : v.cells.size = n) (hl : o + n ≤ cs.size) (h1 : ∀ u ∈ v.cells.toList, u.oneCell' = true) :
    ∃ w' cs', (storeVar t ⟨g, o, none⟩ v).run P w = .ok () w' ∧ Blk w' g cs' ∧ cs'.size = cs.size ∧ Only w w' g ∧
      (∀ j, o ≤ j → j < o + n → cs'[j]? = v.cells.toList[j - o]?) ∧ (∀ j, j < o ∨ o + n ≤ j → cs'[j]? = cs[j]?) := by
  obtain ⟨i, hi, hn⟩ : ∃ i, P.info? t = some i ∧ i.size = n := by
    unfold sizeOfT at h
    cases hi : P.info? t with
    | none => simp [hi] at h
    | some i => simp [hi] at h; exact ⟨i, rfl, h⟩
  have hlen : v.cells.toList.length = n := by simpa using hv
  obtain ⟨w', cs', r1, r2, r3, r4, r5, r6⟩ := run_storeCells_blk (P := P) (g := g) (o := o) v.cells.toList 0 w cs hb (by omega) h1
  refine ⟨w', cs', ?_, r2, r3, r4, fun j a b => by rw [r5 j (by omega) (by omega)]; rfl, fun j hj => r6 j (by omega)⟩
  unfold storeVar
  simp only [Sem.run_bind, run_sizeOf' hi, Result.andThen]
  rw [if_neg (by omega)]
  exact r1

def TgOk (γ : Gh) (w : World) (tmps : Array Value) : Tg → Value → Prop
  | .at_ s j, v => Adr tmps s j v
  | .ro cs, v => V γ w (.pv cs) v
  | .ns s j cs, v => R2 γ w tmps 0 (.npv s j cs) v
  | .gl i o, v => V γ w (.ref i o) v
theorem target_sound (G : GoodAt T w0 St0 γ σ a w) {o : Operand} {x : Ar} (hx : ArOk o x) {tg : Tg} (h : (target x).run U σ = some tg) : TgOk γ w a.tmps tg (a.eval o) := by
  cases x with
  | val z => simp [target, RM.run] at h
  | tmp t =>
    have ho : o = .tmp t := hx
    subst ho
    obtain ⟨z, hz, h⟩ := run_get h
    cases z with
    | box cs =>
      obtain ⟨v, hv, hs⟩ := get_tmp G hz (by simp)
      have hev : a.eval (.tmp t) = v := by simp [Act.eval, Array.getD_eq_getD_getElem?, hv]
      simp only [RM.run, Option.some.injEq] at h
      subst h
      obtain ⟨g, cs', h1, _⟩ := hs
      exact ⟨g, 0, .inl (by rw [hv, h1]), by rw [hev, h1]⟩
    | adr s j =>
      obtain ⟨v, hv, hs⟩ := get_tmp G hz (by simp)
      have hev : a.eval (.tmp t) = v := by simp [Act.eval, Array.getD_eq_getD_getElem?, hv]
      simp only [RM.run, Option.some.injEq] at h
      subst h
      rw [hev]
      exact hs
    | pv cs =>
      obtain ⟨v, hv, hs⟩ := get_tmp G hz (by simp)
      have hev : a.eval (.tmp t) = v := by simp [Act.eval, Array.getD_eq_getD_getElem?, hv]
      simp only [RM.run, Option.some.injEq] at h
      subst h
      rw [hev]
      exact hs
    | npv s j cs =>
      obtain ⟨v, hv, hs⟩ := get_tmp G hz (by simp)
      have hev : a.eval (.tmp t) = v := by simp [Act.eval, Array.getD_eq_getD_getElem?, hv]
      simp only [RM.run, Option.some.injEq] at h
      subst h
      rw [hev]
      exact hs
    | ref i q =>
      obtain ⟨v, hv, hs⟩ := get_tmp G hz (by simp)
      have hev : a.eval (.tmp t) = v := by simp [Act.eval, Array.getD_eq_getD_getElem?, hv]
      simp only [RM.run, Option.some.injEq] at h
      subst h
      rw [hev]
      exact hs
    | _ => simp [RM.run] at h

/-- One value more in slot d. -/
theorem finV {o : Oper} {d : Nat} {v : Value} {x : AV} (G : GoodAt T w0 St0 γ σ a w) (hrun : (execOp a.eval o).run P w = .ok (.value v) w) (hd : o.dst = some d) (hok : [Wr.set d x].all (Wr.ok T a.tmps.size) = true) (hv : V γ w x v) (Q : Exit → Act → World → Prop) :
    o.wp P a w (Post T w0 St0 a.tmps.size (apps T [.set d x] σ)) Q := by
  simp only [List.all_cons, List.all_nil, Wr.ok, Bool.and_true, Bool.and_eq_true, decide_eq_true_eq] at hok
  exact wp_value hrun hd ⟨γ, setV G hok.1 hv (V_ref hv)⟩ Q

theorem mov_sound {o : Oper} {d : Nat} {x : Operand} {y : Ar} (hop : o.op = .move x ∨ o.op = .assign x) (hx : ArOk x y) (hd : o.dst = some d) : OpSound P T o (semMov d y) := by
  intro w0 St0 γ σ a w U ws G h hok Q
  refine wp_value (v := a.eval x) (w' := w) ?_ hd ?_ Q
  · rcases hop with e | e <;> simp [execOp, e]
  · exact semTup_sound G hx h hok fun h => semMov1_sound G hx h hok
theorem asg_sound {o : Oper} {d : Nat} {x : Operand} {y : Ar} (hop : o.op = .move x ∨ o.op = .assign x) (hx : ArOk x y) (hd : o.dst = some d) : OpSound P T o (semAsg d y) := by
  intro w0 St0 γ σ a w U ws G h hok Q
  refine wp_value (v := a.eval x) (w' := w) ?_ hd ?_ Q
  · rcases hop with e | e <;> simp [execOp, e]
  · refine semTup_sound G hx h hok fun h => ?_
    obtain ⟨⟨z, us⟩, h1, h2⟩ := run_bind h
    by_cases hr : refTo z = some d
    · simp [hr, RM.run] at h2
    · simp only [if_neg hr, RM.run, Option.some.injEq] at h2
      subst h2
      simp only [List.all_append, List.all_cons, List.all_nil, Wr.ok, Bool.and_true, Bool.and_eq_true, decide_eq_true_eq] at hok
      exact takeOf_sound G hx h1 hok.2.1 hr hok.2.2
theorem pick_sound {o : Oper} {d : Nat} {c x y : Operand} {c' x' y' : Ar} (hop : o.op = .pick c x y) (hc : ArOk c c') (hx : ArOk x x') (hy : ArOk y y') (hd : o.dst = some d) : OpSound P T o (semPick d c' x' y') := by
  intro w0 St0 γ σ a w U ws G h hok Q
  obtain ⟨b, h1, h2⟩ := run_bind h
  have hb := rdBool_sound G hc h1
  refine wp_value (v := if b then a.eval x else a.eval y) (w' := w) ?_ hd ?_ Q
  · simp only [execOp, hop, hb, asBool, Sem.run_bind, Sem.run_pure, Result.andThen]
  · cases b with
    | true => exact semMov1_sound G hx h2 hok
    | false => exact semMov1_sound G hy h2 hok

/-- A new block. -/
theorem keep_alloc (G : GoodAt T w0 St0 γ σ a w) (ob : Obj) (key : Key) (b : Bool) (X : Key → Prop) (hfz : ∀ cs e lo hi, ob = .cells cs e (lo, hi) → lo = hi ∨ cs.size ≤ lo) :
    Keep γ (withO γ fun g => if g = w.heap.size then some (key, b) else γ.O g) w (w.alloc ob) X := by
  have hB : γ.B ≤ w.heap.size := by have := G.frm.size; have := G.hB; omega
  refine ⟨⟨fun g o ho => ?_, fun _ => Nat.le_refl _, Nat.le_refl _, fun _ _ h => h, fun _ h => h⟩, rfl, rfl, ⟨rfl, rfl, rfl, by simp, fun k hk _ => ?_⟩, fun _ _ _ => rfl, fun g k c h _ => ?_, fun g k h => ?_, fun i g h => ?_, fun g hg => ?_, fun hu g cs e lo hi hg h => ?_, fun g k h => ?_⟩
  · have hne : g < w.heap.size := by
      rcases Nat.lt_or_ge g w.heap.size with h | h
      · exact h
      · rw [G.stnew g h] at ho; omega
    exact cellAt_of_heap (Below.heap_alloc w ob g hne) o
  · exact Below.heap_alloc w ob k (by omega)
  · have hlt := (G.own g _ h).2
    refine ⟨?_, Below.heap_alloc w ob g hlt, rfl⟩
    simp only [withO]
    rw [if_neg (by omega)]
    exact h
  · simp only [withO] at h
    split at h
    · rename_i e
      subst e
      exact ⟨.inl hB, by simp⟩
    · have := G.own g _ h
      exact ⟨this.1, by simp; omega⟩
  · exact G.rho i g h
  · exact G.stnew g (by simp at hg; omega)
  · by_cases e2 : g = w.heap.size
    · subst e2
      have : (w.alloc ob).heap[w.heap.size]? = some ob := by show (w.heap.push ob)[w.heap.size]? = some ob; simp
      rw [this] at h
      simp only [Option.some.injEq] at h
      exact hfz cs e lo hi h
    · have hlt : g < w.heap.size := by
        have := (Array.getElem?_eq_some_iff.1 h).1
        simp at this
        omega
      rw [Below.heap_alloc w ob g hlt] at h
      exact hu g cs e lo hi hg h
  · simp only [withO] at h
    split at h
    · rename_i e
      subst e
      exact ⟨G.stnew _ (Nat.le_refl _), hB⟩
    · exact G.nest g k h
theorem alloc_heap (w : World) (ob : Obj) : (w.alloc ob).heap[w.heap.size]? = some ob := by
  show (w.heap.push ob)[w.heap.size]? = some ob
  simp
theorem blk_alloc (w : World) (cs : Array Value) (t : TypeId) : Blk (w.alloc (.cells cs t)) w.heap.size cs := ⟨t, 0, 0, alloc_heap w _, .inl rfl⟩

/-- A new box. -/
theorem box_new (G : GoodAt T w0 St0 γ σ a w) {d : Nat} (hd : d < a.tmps.size) {t : TypeId} {xs : List AV} {vs : Array Value} (hl : vs.size = xs.length) (hv : ∀ (j : Nat) (x : AV), xs[j]? = some x → ∃ u, vs[j]? = some u ∧ V γ w x u) :
    ∃ γ', GoodAt T w0 St0 γ' (apps T [.set d (.box xs)] σ) (a.put (some d) (.pointer (some ⟨w.heap.size, 0, none⟩))) (w.alloc (.cells vs t)) := by
  have K := keep_alloc G (.cells vs t) (d, 0) false (Of d) (fun cs e lo hi h => by cases h; exact .inl rfl)
  refine ⟨_, GoodAt.set G K hd ⟨w.heap.size, vs, rfl, ?_, ?_, blk_alloc w vs t, hl, ?_, fun j x hx => ?_⟩ (fun t ht => by simp [refTo] at ht)⟩
  · have := G.frm.size; have := G.hB; show γ.B ≤ _; omega
  · simp [withO]
  · exact G.stnew _ (Nat.le_refl _)
  · obtain ⟨u, hu, hr⟩ := hv j x hx
    exact ⟨u, hu, R1.of_V (V_mono K.ext _ _ hr)⟩
theorem ofV1_V {v : Value} {x : AV} (h : ofV1 v = some x) (γ : Gh) (w : World) : V γ w x v := by
  unfold ofV1 at h
  split at h <;> simp at h <;> subst h <;> rfl
theorem mapOpt_get {α β : Type} {f : α → Option β} : ∀ {l : List α} {r : List β}, mapOpt f l = some r → r.length = l.length ∧ ∀ (j : Nat) (y : β), r[j]? = some y → ∃ x, l[j]? = some x ∧ f x = some y
  | [], r, h => by simp [mapOpt] at h; subst h; exact ⟨rfl, fun j y hy => by simp at hy⟩
  | x :: xs, r, h => by
    simp only [mapOpt] at h
    split at h
    · rename_i y ys h1 h2
      cases h
      obtain ⟨e, hg⟩ := mapOpt_get h2
      refine ⟨by simp [e], fun j z hz => ?_⟩
      cases j with
      | zero => simp at hz; subst hz; exact ⟨x, rfl, h1⟩
      | succ j => simpa using hg j z (by simpa using hz)
    · cases h
theorem zeroOf_run {t : TypeId} {xs : List AV} (h : zeroOf P t = some xs) (w : World) : ∃ z, (zeroValue t).run P w = .ok z w ∧ z.cells.size = xs.length ∧ ∀ γ (j : Nat) (x : AV), xs[j]? = some x → ∃ u, z.cells[j]? = some u ∧ V γ w x u := by
  unfold zeroOf at h
  cases hi : P.info? t with
  | none => simp [hi] at h
  | some i =>
    cases hz : i.zero with
    | none => simp [hi, hz] at h
    | some z =>
      simp [hi, hz] at h
      obtain ⟨e, hg⟩ := mapOpt_get h
      refine ⟨z, by unfold zeroValue typeInfo; simp [hi, hz], by simpa using e.symm, fun γ j x hx => ?_⟩
      obtain ⟨u, hu, hv⟩ := hg j x hx
      exact ⟨u, by simpa using hu, ofV1_V hv γ w⟩
theorem alloc_sound {o : Oper} {d : Nat} {t : TypeId} {xs : List AV} (hop : o.op = .alloc t) (hz : zeroOf P t = some xs) (hd : o.dst = some d) : OpSound P T o (semAlloc d xs) := by
  intro w0 St0 γ σ a w U ws G h hok Q
  simp only [semAlloc, RM.run, Option.some.injEq] at h
  subst h
  simp only [List.all_cons, List.all_nil, Wr.ok, Bool.and_true, Bool.and_eq_true, decide_eq_true_eq] at hok
  obtain ⟨z, h1, h2, h3⟩ := zeroOf_run (P := P) hz w
  refine wp_value (v := .pointer (some ⟨w.heap.size, 0, none⟩)) (w' := w.alloc (.cells z.cells t)) ?_ hd (box_new G hok.1 h2 fun j x hx => h3 γ j x hx) Q
  simp [execOp, hop, Instr.alloc, h1, Result.andThen, newVar, newRow]
end
end Go.Ev

/-! text E12 -/
set_option linter.unusedVariables false
namespace Go.Ev
open Go.RowKit

section
variable {P : Program} {T : List Nat} {w0 : World} {St0 : Nat → Nat} {γ : Gh} {σ : List AV} {a : Act} {w : World} {U : List Nat}

theorem cells_of_V {y : AV} {v : Value} (h : V γ w y v) (hj : y ≠ .junk) : VL γ w (cellsOf y) v.cells.toList := by
  cases y with
  | agg cs =>
    obtain ⟨vs, rfl, hl⟩ := h
    exact hl
  | junk => exact absurd rfl hj
  | _ =>
    rw [one_cells (V_one h rfl hj)]
    exact ⟨v, [], rfl, h, rfl⟩
theorem VL_ext {γ γ' : Gh} {w w' : World} (E : Ext γ γ' w w') {xs : List AV} {vs : List Value} (h : VL γ w xs vs) : VL γ' w' xs vs := VL_mono E xs vs h
theorem view_ne_junk {y x : AV} (h : viewOf y = some x) : x ≠ .junk := by
  intro e
  subst e
  cases y with
  | own f z xs => cases f <;> simp [viewOf] at h
  | _ => simp [viewOf] at h
theorem rdView_ne_junk {x : Ar} {y : AV} {ws : List Wr} (h : (rdView x).run U σ = some (y, ws)) : y ≠ .junk := by
  obtain ⟨⟨y0, k⟩, h1, h2⟩ := run_bind h
  have plain : RM.run U σ ((RM.opt (viewOf y0)).bind (fun v => RM.ret (v, ([] : List Wr)))) = some (y, ws) → y ≠ .junk := by
    intro h
    obtain ⟨y', h3, h4⟩ := run_bind h
    simp only [RM.run, Option.some.injEq, Prod.mk.injEq] at h4
    rw [← h4.1]
    exact view_ne_junk (run_opt h3)
  cases y0 with
  | own f z xs =>
    cases f with
    | false => exact plain (by simpa using h2)
    | true =>
      cases k with
      | none => exact plain (by simpa using h2)
      | some k =>
        obtain ⟨us, h3, h4⟩ := run_bind h2
        simp only [RM.run, Option.some.injEq, Prod.mk.injEq] at h4
        rw [← h4.1]
        simp
  | nst s j z =>
    obtain ⟨t, h3, h4⟩ := run_bind h2
    cases t with
    | own f z' xs =>
      cases f with
      | false => simp [RM.run] at h4
      | true =>
        obtain ⟨y', h5, h6⟩ := run_bind h4
        obtain ⟨us, h7, h8⟩ := run_bind h6
        simp only [RM.run, Option.some.injEq, Prod.mk.injEq] at h8
        rw [← h8.1]
        exact view_ne_junk (run_opt h5)
    | _ => simp [RM.run] at h4
  | _ => first | exact plain (by simpa using h2) | exact plain h2

theorem putKey_ne {k : Key} {x : AV} {ws : List Wr} (h : (putKey k x).run U σ = some ws) : ws ≠ [] := by
  obtain ⟨s, j⟩ := k
  cases j with
  | zero =>
    simp only [putKey, RM.run, Option.some.injEq] at h
    subst h
    simp
  | succ j =>
    obtain ⟨z, hz, h⟩ := run_get h
    cases z <;> simp [RM.run] at h
    subst h
    simp
theorem rdView_nil (G : GoodAt T w0 St0 γ σ a w) {o : Operand} {x : Ar} (hx : ArOk o x) {y : AV} (h : (rdView x).run U σ = some (y, [])) : V γ w y (a.eval o) := by
  obtain ⟨⟨y0, k⟩, h1, h2⟩ := run_bind h
  have plain : RM.run U σ ((RM.opt (viewOf y0)).bind (fun v => RM.ret (v, ([] : List Wr)))) = some (y, []) → V γ w y (a.eval o) := by
    intro h
    obtain ⟨y', h3, h4⟩ := run_bind h
    simp only [RM.run, Option.some.injEq, Prod.mk.injEq] at h4
    rw [← h4.1]
    exact rd_view G hx h1 (run_opt h3)
  cases y0 with
  | own f z xs =>
    cases f with
    | false => exact plain (by simpa using h2)
    | true =>
      cases k with
      | none => exact plain (by simpa using h2)
      | some k =>
        obtain ⟨us, h3, h4⟩ := run_bind h2
        simp only [RM.run, Option.some.injEq, Prod.mk.injEq] at h4
        exact absurd h4.2 (putKey_ne h3)
  | nst s j z =>
    obtain ⟨t, h3, h4⟩ := run_bind h2
    cases t with
    | own f z' xs =>
      cases f with
      | false => simp [RM.run] at h4
      | true =>
        obtain ⟨y', h5, h6⟩ := run_bind h4
        obtain ⟨us, h7, h8⟩ := run_bind h6
        simp only [RM.run, Option.some.injEq, Prod.mk.injEq] at h8
        exact absurd h8.2 (putKey_ne h7)
    | _ => simp [RM.run] at h4
  | _ => first | exact plain (by simpa using h2) | exact plain h2
theorem one_cases {ws us vs : List Wr} (h : one ws us = some vs) : (ws = [] ∧ vs = us) ∨ (us = [] ∧ vs = ws) := by
  cases ws with
  | nil => simp [one] at h; exact .inl ⟨rfl, h.symm⟩
  | cons w ws =>
    cases us with
    | nil => simp [one] at h; exact .inr ⟨rfl, h.symm⟩
    | cons u us => simp [one] at h

/-- The parts of a value that is built. -/
def PartsV (γ : Gh) (w : World) : List (Nat × Nat × AV) → List Value → Prop
  | [], [] => True
  | (_, _, y) :: r, v :: vs => (V γ w y v ∧ y ≠ .junk) ∧ PartsV γ w r vs
  | _, _ => False
theorem PartsV.mono {γ γ' : Gh} {w w' : World} (E : Ext γ γ' w w') : ∀ {ps : List (Nat × Nat × AV)} {vs : List Value}, PartsV γ w ps vs → PartsV γ' w' ps vs
  | [], [], _ => trivial
  | (_, _, y) :: r, v :: vs, ⟨⟨h, hj⟩, h2⟩ => ⟨⟨V_mono E _ _ h, hj⟩, PartsV.mono E h2⟩
theorem cParts_cons {place : Nat → Option (Nat × Nat)} {i : Nat} {x : Operand} {r : List (Nat × Operand)} {ps : List (Nat × Nat × Ar)} (h : cParts P place ((i, x) :: r) = some ps) :
    ∃ o s a rs, place i = some (o, s) ∧ cAr x = some a ∧ cParts P place r = some rs ∧ ps = (o, s, a) :: rs := by
  simp only [cParts] at h
  split at h
  · rename_i o s a rs h1 h2 h3
    cases h
    exact ⟨o, s, a, rs, h1, h2, h3, rfl⟩
  · cases h
theorem cAr_ok {x : Operand} {y : Ar} (h : cAr x = some y) : ArOk x y := by
  cases x with
  | tmp t => simp [cAr] at h; subst h; rfl
  | const v =>
    simp only [cAr] at h
    cases hv : ofV v with
    | none => simp [hv] at h
    | some z =>
      simp [hv] at h
      subst h
      have key : ∀ γ w, V γ w z v := by
        intro γ w
        unfold ofV at hv
        split at hv
        · rename_i cs
          cases hm : mapOpt ofV1 cs.toList with
          | none => simp [hm] at hv
          | some l =>
            simp [hm] at hv
            subst hv
            obtain ⟨e, hg⟩ := mapOpt_get hm
            exact ⟨cs.toList, by simp, VL_mk (by simpa using e.symm) fun j x hx => by
              obtain ⟨u, hu, hh⟩ := hg j x hx
              exact ⟨u, hu, ofV1_V hh γ w⟩⟩
        · exact ofV1_V hv γ w
      refine ⟨fun γ w a => key γ w, fun s j e => ?_, fun s j e => ?_⟩
      · subst e; exact (key ⟨0, fun _ => 0, fun _ => none, fun _ => none, fun _ => False⟩ default).elim
      · subst e; exact (key ⟨0, fun _ => 0, fun _ => none, fun _ => none, fun _ => False⟩ default).elim
  | func f =>
    simp [cAr] at h
    subst h
    refine ⟨fun γ w a => ⟨[], rfl, rfl⟩, fun s j e => ?_, fun s j e => ?_⟩ <;> cases e
  | global g => simp [cAr] at h

theorem rdParts_sound (G : GoodAt T w0 St0 γ σ a w) {place : Nat → Option (Nat × Nat)} : ∀ {parts : List (Nat × Operand)} {ps : List (Nat × Nat × Ar)} {ys : List (Nat × Nat × AV)} {ws : List Wr},
    cParts P place parts = some ps → (rdParts ps).run U σ = some (ys, ws) →
    (∃ γ', GoodAt T w0 St0 γ' (apps T ws σ) a w ∧ Ext γ γ' w w ∧ PartsV γ' w ys (parts.map fun p => a.eval p.2)) ∧ (ws = [] → PartsV γ w ys (parts.map fun p => a.eval p.2)) ∧
      ys.length = parts.length ∧ ∀ (j : Nat) (p : Nat × Operand), parts[j]? = some p → ∃ y, ys[j]? = some y ∧ place p.1 = some (y.1, y.2.1)
  | [], ps, ys, ws, hc, h => by
    simp [cParts] at hc
    subst hc
    simp only [rdParts, RM.run, Option.some.injEq, Prod.mk.injEq] at h
    obtain ⟨rfl, rfl⟩ := h
    exact ⟨⟨γ, G, Ext.refl _ _, trivial⟩, fun _ => trivial, rfl, fun j p hp => by simp at hp⟩
  | (i, x) :: r, ps, ys, ws, hc, h => by
    obtain ⟨o, s, b, rs, h1, h2, h3, rfl⟩ := cParts_cons hc
    obtain ⟨⟨y, us⟩, h4, h5⟩ := run_bind h
    obtain ⟨⟨ys', us'⟩, h6, h7⟩ := run_bind h5
    obtain ⟨vs, h8, h9⟩ := run_bind h7
    simp only [RM.run, Option.some.injEq, Prod.mk.injEq] at h9
    obtain ⟨rfl, rfl⟩ := h9
    obtain ⟨⟨γ2, G2, E2, hp2⟩, hq2, hl2, hg2⟩ := rdParts_sound G h3 h6
    obtain ⟨γ1, G1, E1, hv1⟩ := rdView_sound G (cAr_ok h2) h4
    have hnj := rdView_ne_junk h4
    refine ⟨?_, ?_, by simp [hl2], fun j p hp => ?_⟩
    · rcases one_cases (run_opt h8) with ⟨rfl, rfl⟩ | ⟨rfl, rfl⟩
      · -- the head gives nothing up
        have hv := rdView_nil G (cAr_ok h2) h4
        exact ⟨γ2, G2, E2, ⟨V_mono E2 _ _ hv, hnj⟩, hp2⟩
      · exact ⟨γ1, G1, E1, ⟨hv1, hnj⟩, (hq2 rfl).mono E1⟩
    · intro e
      rcases one_cases (run_opt h8) with ⟨rfl, rfl⟩ | ⟨rfl, rfl⟩
      · subst e
        exact ⟨⟨rdView_nil G (cAr_ok h2) h4, hnj⟩, hq2 rfl⟩
      · subst e
        exact ⟨⟨rdView_nil G (cAr_ok h2) h4, hnj⟩, hq2 rfl⟩
    · cases j with
      | zero => simp at hp; subst hp; exact ⟨_, rfl, h1⟩
      | succ j => simpa using hg2 j p (by simpa using hp)
end
end Go.Ev

/-! text E13 -/
set_option linter.unusedVariables false
namespace Go.Ev
open Go.RowKit

section
variable {P : Program} {T : List Nat} {w0 : World} {St0 : Nat → Nat} {γ : Gh} {σ : List AV} {a : Act} {w : World} {U : List Nat}

theorem splice_len {cs ys : List AV} {j : Nat} (h : j + ys.length ≤ cs.length) : (splice cs j ys).length = cs.length := by
  simp [splice]; omega
theorem splice_get {cs ys : List AV} {j : Nat} (h : j + ys.length ≤ cs.length) (i : Nat) :
    (splice cs j ys)[i]? = if i < j then cs[i]? else if i < j + ys.length then ys[i - j]? else cs[i]? := by
  unfold splice
  by_cases h1 : i < j
  · rw [if_pos h1, List.append_assoc, List.getElem?_append_left (by simp; omega)]
    simp [h1]
  · rw [if_neg h1, List.append_assoc, List.getElem?_append_right (by simp; omega)]
    have e : (cs.take j).length = j := by simp; omega
    rw [e]
    by_cases h2 : i < j + ys.length
    · rw [if_pos h2, List.getElem?_append_left (by omega)]
    · rw [if_neg h2, List.getElem?_append_right (by omega), List.getElem?_drop]
      congr 1
      omega
theorem fold_set (off : Nat) : ∀ (l : List Value) (k : Nat) (cs : Array Value), off + k + l.length ≤ cs.size →
    ∃ cs', (l.zipIdx k).foldl (fun cs (c, j) => cs.setIfInBounds (off + j) c) cs = cs' ∧ cs'.size = cs.size ∧
      ∀ i, cs'[i]? = if off + k ≤ i ∧ i < off + k + l.length then l[i - (off + k)]? else cs[i]?
  | [], k, cs, _ => ⟨cs, rfl, rfl, fun i => by rw [if_neg (by simp only [List.length_nil]; omega)]⟩
  | v :: l, k, cs, h => by
    simp only [List.length_cons] at h
    obtain ⟨cs', h1, h2, h3⟩ := fold_set off l (k + 1) (cs.setIfInBounds (off + k) v) (by simp only [Array.size_setIfInBounds]; omega)
    refine ⟨cs', by simpa [List.zipIdx_cons] using h1, by simpa using h2, fun i => ?_⟩
    rw [h3]
    by_cases e : i = off + k
    · subst e
      rw [if_neg (by omega), if_pos (by simp only [List.length_cons]; omega)]
      simp only [Array.getElem?_setIfInBounds_self_of_lt (show off + k < cs.size by omega)]
      simp
    · by_cases hi : off + k ≤ i ∧ i < off + k + (v :: l).length
      · rw [if_pos (by simp only [List.length_cons] at hi; omega), if_pos hi]
        rw [show i - (off + k) = (i - (off + (k + 1))) + 1 by omega]
        rfl
      · rw [if_neg (by simp only [List.length_cons] at hi; omega), if_neg hi]
        exact Array.getElem?_setIfInBounds_ne (fun e' => e e'.symm)
theorem fill_cons (place : Nat → Option (Nat × Nat)) (cells : Array Value) (i : Nat) (v : Value) (rest : List (Nat × Value)) {off size : Nat} (hp : place i = some (off, size)) (h1 : v.cells.size = size) (h2 : off + size ≤ cells.size) :
    ∃ cells', Instr.fill place cells ((i, v) :: rest) = Instr.fill place cells' rest ∧ cells'.size = cells.size ∧ ∀ j, cells'[j]? = if off ≤ j ∧ j < off + size then v.cells[j - off]? else cells[j]? := by
  obtain ⟨cs', e1, e2, e3⟩ := fold_set off v.cells.toList 0 cells (by simp; omega)
  refine ⟨cs', ?_, e2, fun j => ?_⟩
  · simp only [Instr.fill, hp]
    have hc : (decide (v.cells.size ≠ size) || decide (off + v.cells.size > cells.size)) = false := by
      simp only [Bool.or_eq_false_iff, decide_eq_false_iff_not]
      omega
    rw [if_neg (by rw [hc]; simp)]
    rw [← e1, ← Array.foldl_toList]
    congr 2
    simp
  · rw [e3]
    simp only [Nat.add_zero, Array.length_toList, h1, Array.getElem?_toList]
theorem fill_sound {place : Nat → Option (Nat × Nat)} : ∀ {parts : List (Nat × Operand)} {ys : List (Nat × Nat × AV)} {cs cs' : List AV} {zc : Array Value},
    VL γ w cs zc.toList → PartsV γ w ys (parts.map fun p => a.eval p.2) → (∀ (j : Nat) (p : Nat × Operand), parts[j]? = some p → ∃ y, ys[j]? = some y ∧ place p.1 = some (y.1, y.2.1)) → ys.length = parts.length → partsOf cs ys = some cs' →
    ∃ zc', Instr.fill place zc (parts.map fun p => (p.1, a.eval p.2)) = some zc' ∧ VL γ w cs' zc'.toList
  | [], ys, cs, cs', zc, hz, hp, hpl, hl, h => by
    have : ys = [] := List.eq_nil_of_length_eq_zero (by simpa using hl)
    subst this
    simp [partsOf] at h
    subst h
    exact ⟨zc, rfl, hz⟩
  | p :: r, ys, cs, cs', zc, hz, hp, hpl, hl, h => by
    cases ys with
    | nil => simp at hl
    | cons y ys =>
      obtain ⟨off, size, y⟩ := y
      obtain ⟨⟨hv, hnj⟩, hp2⟩ := hp
      simp only [partsOf] at h
      split at h
      · rename_i hc
        obtain ⟨hc1, hc2⟩ := hc
        obtain ⟨y', hy', hpl0⟩ := hpl 0 p rfl
        simp at hy'
        subst hy'
        have hvl := cells_of_V hv hnj
        have hlen := VL_len hvl
        have hzl := VL_len hz
        have hlen' : (a.eval p.2).cells.size = size := by rw [← hc1, ← hlen]; simp
        have hzl' : zc.size = cs.length := by simpa using hzl
        obtain ⟨cells', e1, e2, e3⟩ := fill_cons place zc p.1 (a.eval p.2) (r.map fun p => (p.1, a.eval p.2)) hpl0 hlen' (by show off + size ≤ zc.size; omega)
        have hz' : VL γ w (splice cs off (cellsOf y)) cells'.toList := by
          refine VL_mk (by rw [splice_len (by omega)]; simp at hzl ⊢; omega) fun j x hx => ?_
          rw [splice_get (by omega)] at hx
          simp only [Array.getElem?_toList, e3]
          by_cases h1 : j < off
          · rw [if_pos h1] at hx
            rw [if_neg (by omega)]
            simpa using VL_get hz j x hx
          · rw [if_neg h1] at hx
            by_cases h2 : j < off + (cellsOf y).length
            · rw [if_pos h2] at hx
              rw [if_pos (by omega)]
              simpa using VL_get hvl (j - off) x hx
            · rw [if_neg h2] at hx
              rw [if_neg (by omega)]
              simpa using VL_get hz j x hx
        obtain ⟨zc', f1, f2⟩ := fill_sound hz' hp2 (fun j q hq => by simpa using hpl (j + 1) q (by simpa using hq)) (by simpa using hl) h
        exact ⟨zc', by simp only [List.map_cons]; rw [e1]; exact f1, f2⟩
      · cases h

theorem box_sound {o : Oper} {d : Nat} {t : TypeId} {x : Operand} {y : Ar} (hop : o.op = .box t x) (hx : ArOk x y) (hd : o.dst = some d) : OpSound P T o (semBox d y) := by
  intro w0 St0 γ σ a w U ws G h hok Q
  obtain ⟨⟨z, us⟩, h1, h2⟩ := run_bind h
  obtain ⟨hc, h2⟩ := run_if h2
  have h2 := run_ret h2
  subst h2
  obtain ⟨γ', G', E, hv⟩ := rdView_sound G hx h1
  have hvl := cells_of_V hv (rdView_ne_junk h1)
  simp only [List.all_append, List.all_cons, List.all_nil, Wr.ok, Bool.and_true, Bool.and_eq_true, decide_eq_true_eq] at hok
  refine wp_value (v := .pointer (some ⟨w.heap.size, 0, none⟩)) (w' := w.alloc (.cells (a.eval x).cells t)) ?_ hd ?_ Q
  · simp [execOp, hop, Instr.box, newVar, newRow, Result.andThen]
  · rw [apps_append]
    exact box_new G' hok.2.1 (by have := VL_len hvl; simpa using this) fun j u hu => by simpa using VL_get hvl j u hu

theorem build_sound {o : Oper} {d : Nat} {t : TypeId} {parts : Array (Nat × Operand)} {zs : List AV} {ps : List (Nat × Nat × Ar)} (hop : o.op = .build t parts) (hz : zeroOf P t = some zs)
    (hc : (∃ fs places, P.underlying t = some (.struct fs) ∧ (fs.toList.mapM fun f => (P.info? f.type).map fun i => (f.offset, i.size)) = some places ∧ cParts P (places.toArray[·]?) parts.toList = some ps) ∨
      (∃ n e ie, P.underlying t = some (.array n e) ∧ P.info? e = some ie ∧ cParts P (fun i => some (i * ie.size, ie.size)) parts.toList = some ps))
    (hd : o.dst = some d) : OpSound P T o (semBuild d zs ps) := by
  intro w0 St0 γ σ a w U ws G h hok Q
  obtain ⟨⟨ys, us⟩, h1, h2⟩ := run_bind h
  obtain ⟨cs, h3, h4⟩ := run_bind h2
  split at h4
  · simp only [RM.run, Option.some.injEq] at h4
    subst h4
    simp only [List.all_append, List.all_cons, List.all_nil, Wr.ok, Bool.and_true, Bool.and_eq_true, decide_eq_true_eq] at hok
    obtain ⟨it, hit⟩ : ∃ it, P.info? t = some it := by
      cases hi : P.info? t with
      | none => simp [zeroOf, hi] at hz
      | some it => exact ⟨it, rfl⟩
    obtain ⟨z, hzz⟩ : ∃ z, it.zero = some z := by
      cases hi : it.zero with
      | none => simp [zeroOf, hit, hi] at hz
      | some z => exact ⟨z, rfl⟩
    have hm : mapOpt ofV1 z.cells.toList = some zs := by simpa [zeroOf, hit, hzz] using hz
    obtain ⟨z2, z3⟩ := mapOpt_get hm
    have key : ∀ {place : Nat → Option (Nat × Nat)}, cParts P place parts.toList = some ps → ∃ zc' γ', GoodAt T w0 St0 γ' (apps T us σ) a w ∧ Instr.fill place z.cells (parts.toList.map fun p => (p.1, a.eval p.2)) = some zc' ∧ VL γ' w cs zc'.toList := by
      intro place hpl
      obtain ⟨⟨γ', G', E, hp⟩, _, hl, hg⟩ := rdParts_sound G hpl h1
      obtain ⟨zc', f1, f2⟩ := fill_sound (a := a) (VL_mk (by simpa using z2.symm) fun j x hx => by
        obtain ⟨u, hu, hv⟩ := z3 j x hx
        exact ⟨u, hu, ofV1_V hv γ' w⟩) hp hg hl (run_opt h3)
      exact ⟨zc', γ', G', f1, f2⟩
    have fin : ∀ {zc' : Array Value} {γ' : Gh}, GoodAt T w0 St0 γ' (apps T us σ) a w → VL γ' w cs zc'.toList → P.built t (parts.toList.map fun p => (p.1, a.eval p.2)) = some zc' → o.wp P a w (Post T w0 St0 a.tmps.size (apps T (us ++ [.set d (.agg cs)]) σ)) Q := by
      intro zc' γ' G' hvl hb
      have hrun := run_build (P := P) w t (parts.map fun (i, x) => (i, a.eval x)) zc' (by rw [← hb]; simp)
      refine wp_value (v := .agg zc') (w' := w) ?_ hd ⟨γ', ?_⟩ Q
      · simp only [execOp, hop, Sem.run_bind, hrun, Result.andThen]
        rfl
      rw [apps_append]
      exact setV G' hok.2.1 ⟨zc'.toList, by simp, hvl⟩ rfl
    rcases hc with ⟨fs, places, hu, hfs, hpl⟩ | ⟨n, e, ie, hu, hi, hpl⟩
    · obtain ⟨zc', γ', G', f1, f2⟩ := key hpl
      exact fin G' f2 (by simp only [Program.built, hit, hu, hzz, hfs]; exact f1)
    · obtain ⟨zc', γ', G', f1, f2⟩ := key hpl
      exact fin G' f2 (by simp only [Program.built, hit, hu, hzz, hi]; exact f1)
  · simp [RM.run] at h4
end
end Go.Ev

/-! text E14 -/
set_option linter.unusedVariables false
namespace Go.Ev
open Go.RowKit

section
variable {P : Program} {T : List Nat} {w0 : World} {St0 : Nat → Nat} {γ : Gh} {σ : List AV} {a : Act} {w : World} {U : List Nat}

/-- A new row of the call's own. -/
theorem own_new (G : GoodAt T w0 St0 γ σ a w) {d : Nat} (hd : d < a.tmps.size) {t : TypeId} {z c : Nat} {xs : List AV} {vs : Array Value} {fz : Nat × Nat} (hfz : fz.1 = fz.2 ∨ vs.size ≤ fz.1) (hc : xs.length ≤ c) (hl : c * z ≤ vs.size)
    (hv : ∀ (i : Nat) (x : AV), xs[i]? = some x → (cellsOf x).length = z ∧ ∀ (j : Nat) (y : AV), (cellsOf x)[j]? = some y → ∃ u, vs[i * z + j]? = some u ∧ V γ w y u) :
    ∃ γ', GoodAt T w0 St0 γ' (apps T [.set d (.own true z xs)] σ) (a.put (some d) (.slice (some ⟨w.heap.size, 0, none⟩) xs.length c)) (w.alloc (.cells vs t fz)) := by
  have K := keep_alloc G (.cells vs t fz) (d, 0) false (Of d) (fun cs e lo hi h => by cases h; exact hfz)
  have hb : Blk (w.alloc (.cells vs t fz)) w.heap.size vs := ⟨t, fz.1, fz.2, alloc_heap w _, hfz⟩
  refine ⟨_, GoodAt.set G K hd (R2.of_R1 (x := .own true z xs) (.inr ⟨w.heap.size, 0, c, vs, rfl, hc, ?_, ?_, hb, by omega, ?_⟩)) (fun t ht => by simp [refTo] at ht)⟩
  · have := G.frm.size; have := G.hB; show γ.B ≤ _; omega
  · simp [withO]
  · simp only [if_true]
    refine ⟨G.stnew _ (Nat.le_refl _), 0, VS_mk fun i x hx => ?_⟩
    obtain ⟨h1, h2⟩ := hv i x hx
    refine VE_of h1 (VC_mk fun j y hy => ?_)
    obtain ⟨u, hu, hr⟩ := h2 j y hy
    refine ⟨u, by rw [hb.cell, Nat.zero_add]; exact hu, V_mono ?_ _ _ hr⟩
    refine ⟨K.ext.cells, fun g => ?_, K.ext.B, K.ext.ρ, fun _ h => .inl h⟩
    rw [lift_St]
    split
    · exact Nat.le_trans (K.ext.st g) (Nat.le_max_right _ _)
    · exact K.ext.st g

theorem rep_len (cs : List AV) : ∀ n, (rep n cs).length = n * cs.length
  | 0 => by simp [rep]
  | n + 1 => by simp [rep, rep_len cs n, Nat.add_mul]; omega
theorem rep_get {cs : List AV} (hz : 0 < cs.length) : ∀ n j, j < n * cs.length → (rep n cs)[j]? = cs[j % cs.length]?
  | 0, j, h => by simp at h
  | n + 1, j, h => by
    simp only [rep]
    by_cases hj : j < cs.length
    · rw [List.getElem?_append_left hj, Nat.mod_eq_of_lt hj]
    · have h' : j < n * cs.length + cs.length := by rw [Nat.add_mul, Nat.one_mul] at h; exact h
      rw [List.getElem?_append_right (by omega), rep_get hz n (j - cs.length) (by omega), ← Nat.mod_eq_sub_mod (by omega)]
theorem chunksA_get (z : Nat) : ∀ (n : Nat) (cs : List AV), (semBslice.chunksA z n cs).length = n ∧ ∀ i, i < n → (semBslice.chunksA z n cs)[i]? = some (.agg ((cs.drop (i * z)).take z))
  | 0, cs => ⟨rfl, fun i h => by omega⟩
  | n + 1, cs => by
    obtain ⟨h1, h2⟩ := chunksA_get z n (cs.drop z)
    refine ⟨by simp [semBslice.chunksA, h1], fun i hi => ?_⟩
    cases i with
    | zero => simp [semBslice.chunksA]
    | succ i =>
      simp only [semBslice.chunksA, List.getElem?_cons_succ, h2 i (by omega), List.drop_drop]
      rw [show z + i * z = (i + 1) * z by rw [Nat.add_mul]; omega]
theorem VL_rep {cs : List AV} {vs : Array Value} (hz : 0 < cs.length) (hl : vs.size = cs.length) (hv : ∀ (j : Nat) (x : AV), cs[j]? = some x → ∃ u, vs[j]? = some u ∧ V γ w x u) (n : Nat) :
    VL γ w (rep n cs) ((Array.range (n * cs.length)).map (vs[· % vs.size]!)).toList := by
  refine VL_mk (by simp [rep_len]) fun j x hx => ?_
  have hj : j < n * cs.length := by
    have := (List.getElem?_eq_some_iff.1 hx).1
    rwa [rep_len] at this
  rw [rep_get hz n j hj] at hx
  obtain ⟨u, hu, hr⟩ := hv _ x hx
  refine ⟨u, ?_, hr⟩
  have hm : j % vs.size < vs.size := Nat.mod_lt _ (by omega)
  have e : vs[j % vs.size]! = u := by
    rw [← hl] at hu
    rw [getElem!_pos vs _ hm]
    rw [Array.getElem?_eq_getElem hm] at hu
    simpa using hu
  simp [hj, e]

theorem partsOf_len : ∀ {ps : List (Nat × Nat × AV)} {cs cs' : List AV}, partsOf cs ps = some cs' → cs'.length = cs.length
  | [], cs, cs', h => by simp [partsOf] at h; rw [h]
  | (o, s, y) :: r, cs, cs', h => by
    simp only [partsOf] at h
    split at h
    · rename_i hc
      rw [partsOf_len h, splice_len (by omega)]
    · cases h

theorem bslice_sound {o : Oper} {d : Nat} {t e : TypeId} {n s : Nat} {ag : Bool} {parts : Array (Nat × Operand)} {zs : List AV} {ps : List (Nat × Nat × Ar)} (hop : o.op = .buildSlice t n parts) (hu : P.underlying t = some (.slice e)) (hs : sizeOfT P e = some s) (hz : zeroOf P e = some zs)
    (h24 : n * s ≤ 2 ^ 24) (hs0 : 0 < s) (hzl : zs.length = s) (hag : ag = false → s = 1) (hc : cParts P (fun i => some (i * s, s)) parts.toList = some ps) (hd : o.dst = some d) : OpSound P T o (semBslice d ag s n zs ps) := by
  intro w0 St0 γ σ a w U ws G h hok Q
  obtain ⟨⟨ys, us⟩, h1, h2⟩ := run_bind h
  obtain ⟨cs, h3, h4⟩ := run_bind h2
  obtain ⟨hcells, h4⟩ := run_if h4
  have h4 := run_ret h4
  subst h4
  simp only [List.all_append, List.all_cons, List.all_nil, Wr.ok, Bool.and_true, Bool.and_eq_true, decide_eq_true_eq] at hok
  obtain ⟨⟨γ', G', E, hp⟩, _, hl, hg⟩ := rdParts_sound G hc h1
  obtain ⟨z, z1, z2, z3⟩ := zeroOf_run (P := P) hz w
  obtain ⟨i, hi, rfl⟩ : ∃ i, P.info? e = some i ∧ i.size = s := by
    unfold sizeOfT at hs
    cases hi : P.info? e with
    | none => simp [hi] at hs
    | some i => simp [hi] at hs; exact ⟨i, rfl, hs⟩
  have hzv := VL_rep (γ := γ') (w := w) (cs := zs) (vs := z.cells) (by omega) z2 (fun j x hx => z3 γ' j x hx) n
  rw [hzl] at hzv
  obtain ⟨zc', f1, f2⟩ := fill_sound (a := a) (place := fun k => some (k * i.size, i.size)) hzv hp hg hl (run_opt h3)
  have hlen := VL_len f2
  have hcl : cs.length = n * i.size := by rw [partsOf_len (run_opt h3), rep_len, hzl]
  have hsz : zc'.size = n * i.size := by simpa [hcl] using hlen
  rw [apps_append]
  have hxl : (if ag = true then semBslice.chunksA i.size n cs else cs).length = n := by
    cases ag with
    | true => simp [(chunksA_get i.size n cs).1]
    | false => simp [hcl, hag rfl]
  have hG := own_new G' (d := d) hok.2.1 (t := e) (z := i.size) (c := n) (xs := if ag = true then semBslice.chunksA i.size n cs else cs) (vs := zc') (fz := (0, 0)) (.inl rfl) (by omega) (by omega) (fun k x hx => by
    cases ag with
    | true =>
      simp only [if_true] at hx
      have hk : k < n := by
        have := (List.getElem?_eq_some_iff.1 hx).1
        rwa [(chunksA_get i.size n cs).1] at this
      rw [(chunksA_get i.size n cs).2 k hk] at hx
      cases hx
      have hkm : k * i.size + i.size ≤ n * i.size := by
        have : (k + 1) * i.size ≤ n * i.size := Nat.mul_le_mul_right _ hk
        rw [Nat.add_mul] at this
        omega
      refine ⟨by simp [cellsOf, hcl]; omega, fun j y hy => ?_⟩
      simp only [cellsOf] at hy
      have hj : j < i.size := by
        have := (List.getElem?_eq_some_iff.1 hy).1
        simp at this
        omega
      rw [List.getElem?_take_of_lt hj, List.getElem?_drop] at hy
      simpa using VL_get f2 _ y hy
    | false =>
      simp only [Bool.false_eq_true, if_false] at hx
      have h1 := hag rfl
      have hx2 : okCell x = true := List.all_eq_true.1 hcells x (List.mem_of_getElem? hx)
      have hcx : cellsOf x = [x] := by cases x <;> first | rfl | simp [okCell] at hx2
      rw [hcx, h1]
      refine ⟨rfl, fun j y hy => ?_⟩
      have hj : j = 0 := by
        have := (List.getElem?_eq_some_iff.1 hy).1
        simpa using this
      subst hj
      simp at hy
      subst hy
      simpa using VL_get f2 k x hx)
  rw [hxl] at hG
  refine wp_value ?_ hd hG Q
  simp only [execOp, hop, Instr.buildSlice, Sem.run_bind, run_underlying' hu, Result.andThen, run_sizeOf' hi]
  rw [if_neg (by omega)]
  have hfill : Instr.fill (fun k => some (k * i.size, i.size)) ((Array.range (n * i.size)).map (z.cells[· % z.cells.size]!)) (parts.map fun (k, x) => (k, a.eval x)).toList = some zc' := by
    rw [← f1]; simp
  by_cases hn : n * i.size = 0
  · have e0 : ((Array.range (n * i.size)).map (z.cells[· % z.cells.size]!)) = ((Array.range (n * i.size)).map ((#[] : Array Value)[· % (#[] : Array Value).size]!)) := by rw [hn]; simp
    rw [e0] at hfill
    simp only [hn, if_true, Sem.run_bind, Sem.run_pure, Result.andThen]
    rw [hn] at hfill
    simp only [hfill]
    simp [newRow]
  · simp only [if_neg hn, Sem.run_bind, z1, Result.andThen, Sem.run_pure]
    simp only [hfill]
    simp [newRow]
end
end Go.Ev

/-! text E15 -/
set_option linter.unusedVariables false
namespace Go.Ev
open Go.RowKit

section
variable {P : Program} {T : List Nat} {w0 : World} {St0 : Nat → Nat} {γ : Gh} {σ : List AV} {a : Act} {w : World} {U : List Nat}

theorem flat_V {γ γ' : Gh} {w w' : World} {x : AV} {v : Value} (hf : flat x = true) (h : V γ w x v) : V γ' w' x v := by
  cases x <;> simp [flat] at hf <;> exact h
theorem box_at (G : GoodAt T w0 St0 γ σ a w) {s j : Nat} {cs : List AV} {v : Value} (hs : σ[s]? = some (.box cs)) (ha : Adr a.tmps s j v) :
    ∃ g bs, v = .pointer (some ⟨g, j, none⟩) ∧ a.tmps[s]? = some (.pointer (some ⟨g, 0, none⟩)) ∧ γ.O g = some ((s, 0), false) ∧ Blk w g bs ∧ bs.size = cs.length ∧ γ.St g = 0 ∧ γ.B ≤ g ∧
      ∀ (i : Nat) (x : AV), cs[i]? = some x → ∃ u, bs[i]? = some u ∧ R1 γ w (s, i + 1) x u := by
  obtain ⟨u, hu, hr⟩ := get_tmp G hs (by simp)
  obtain ⟨g, bs, e1, e2, e3, e4, e5, e6, e7⟩ := hr
  subst e1
  obtain ⟨g', o', h1, h2⟩ := ha
  rw [hu] at h1
  rcases h1 with h1 | ⟨n, c, h1⟩
  · cases h1
    exact ⟨g, bs, by simpa using h2, hu, e3, e4, e5, e6, e2, e7⟩
  · cases h1
theorem own_at (G : GoodAt T w0 St0 γ σ a w) {s j : Nat} {f : Bool} {z : Nat} {xs : List AV} {v : Value} (hs : σ[s]? = some (.own f z xs)) (ha : Adr a.tmps s j v) :
    ∃ g o c cs, v = .pointer (some ⟨g, o + j, none⟩) ∧ a.tmps[s]? = some (.slice (some ⟨g, o, none⟩) xs.length c) ∧ xs.length ≤ c ∧ γ.B ≤ g ∧ γ.O g = some ((s, 0), false) ∧
      Blk w g cs ∧ o + c * z ≤ cs.size ∧ (if f then γ.St g = 0 ∧ ∃ M, VS (lift γ (s, 0) M) w z xs g o else γ.St g = o + xs.length * z ∧ VS γ w z xs g o) := by
  obtain ⟨u, hu, hr⟩ := get_tmp G hs (by simp)
  obtain ⟨g', o', h1, h2⟩ := ha
  rw [hu] at h1
  rcases hr with ⟨rfl, _⟩ | ⟨g, o, c, cs, q1, q2, q3, q4, q5, q6, q7⟩
  · rcases h1 with h1 | ⟨n, c, h1⟩ <;> cases h1
  · subst q1
    rcases h1 with h1 | ⟨n, c', h1⟩
    · cases h1
    · cases h1
      exact ⟨g', o', c, cs, h2, hu, q2, q3, q4, q5, q6, q7⟩
theorem VS_cell {γ : Gh} {w : World} {z : Nat} {xs : List AV} {g o : Nat} (h : VS γ w z xs g o) {j : Nat} {x : AV} (hx : cellOf z xs j = some x) : ∃ u, cellAt w g (o + j) = some u ∧ V γ w x u := by
  unfold cellOf at hx
  cases he : xs[j / z]? with
  | none => simp [he] at hx
  | some e =>
    simp [he] at hx
    obtain ⟨h1, h2⟩ := VE_cells (VS_get h _ _ he)
    obtain ⟨u, hu, hv⟩ := VC_get h2 _ _ hx
    refine ⟨u, ?_, hv⟩
    rw [← hu]
    congr 1
    have := Nat.div_add_mod j z
    rw [Nat.mul_comm] at this
    omega
theorem mapView {xs ys : List AV} {vs : List Value} {f : AV → Option AV} (h : mapOpt f xs = some ys) (hl : vs.length = xs.length) (hv : ∀ (j : Nat) (x y : AV), xs[j]? = some x → f x = some y → ∃ u, vs[j]? = some u ∧ V γ w y u) : VL γ w ys vs := by
  obtain ⟨h1, h2⟩ := mapOpt_get h
  refine VL_mk (by omega) fun j y hy => ?_
  obtain ⟨x, hx, hf⟩ := h2 j y hy
  exact hv j x y hx hf
theorem cell_of_blk {g j : Nat} {bs : Array Value} {u : Value} (hb : Blk w g bs) (h : bs[j]? = some u) : w.cell? ⟨g, j, none⟩ = some u := (hb.cell j).trans h

theorem run_load_at {t : TypeId} {n : Option Nat} (hg : aggOf P t = some n) {ad : Addr} {v : Value} (hv : (loadVar t ad).run P w = .ok v w) {o : Oper} {x : Operand} (hop : o.op = .load t x) (he : a.eval x = .pointer (some ad)) :
    (execOp a.eval o).run P w = .ok (.value v) w := by
  simp only [execOp, hop, he, Instr.loadAt, Instr.sureAddr, Sem.run_bind, Sem.run_pure, Result.andThen, hv]

theorem killMod_idem (s : Nat) (ks : List Nat) (x : AV) : killMod s ks (killMod s ks x) = killMod s ks x := by
  rcases killMod_or s ks x with h | h
  · rw [h]; rfl
  · rw [h, h]
/-- Cells of a box, all given up. -/
theorem demote_box (G : GoodAt T w0 St0 γ σ a w) {s : Nat} {cs : List AV} (hs : σ[s]? = some (.box cs)) :
    ∃ γ', GoodAt T w0 St0 γ' (apps T [.mod s (.box (cs.map dem)) []] σ) a w := by
  -- one cell after the other
  have step : ∀ n, n ≤ cs.length → ∃ γ' , GoodAt T w0 St0 γ' (apps T [.mod s (.box ((cs.take n).map dem ++ cs.drop n)) []] σ) a w := by
    intro n
    induction n with
    | zero =>
      intro _
      obtain ⟨v, hv, hr⟩ := get_tmp G hs (by simp)
      refine ⟨γ, GoodAt.mod G (keep_refl G _) (Array.getElem?_eq_some_iff.1 hv).1 (fun u hu => ?_) (fun t ht => by simp [refTo] at ht) (fun j u _ hh => hh)⟩
      rw [hv] at hu
      cases hu
      simpa using hr
    | succ n ih =>
      intro hn
      obtain ⟨γ1, G1⟩ := ih (by omega)
      have hsl : s < σ.length := (List.getElem?_eq_some_iff.1 hs).1
      have hs1 : (apps T [.mod s (.box ((cs.take n).map dem ++ cs.drop n)) []] σ)[s]? = some (.box ((cs.take n).map dem ++ cs.drop n)) := by
        simp only [apps, List.foldl_cons, List.foldl_nil, Wr.app]
        rw [List.getElem?_set_self (by simpa using hsl)]
      obtain ⟨v, hv, hr⟩ := get_tmp G1 hs1 (by simp)
      obtain ⟨g, bs, e1, e2, e3, e4, e5, e6, e7⟩ := hr
      have hnl : n < cs.length := by omega
      have hcell : ((cs.take n).map dem ++ cs.drop n)[n]? = some cs[n] := by
        rw [List.getElem?_append_right (by simp; omega)]
        simp [show min n cs.length = n by omega]
      have hset : ((cs.take n).map dem ++ cs.drop n).set n (dem cs[n]) = (cs.take (n + 1)).map dem ++ cs.drop (n + 1) := by
        apply List.ext_getElem?
        intro i
        by_cases hi : i = n
        · subst hi
          rw [List.getElem?_set_self (by simp; omega), List.getElem?_append_left (by simp; omega)]
          simp [hnl]
        · rw [List.getElem?_set_ne (fun e => hi e.symm)]
          by_cases h2 : i < n
          · rw [List.getElem?_append_left (by simp; omega), List.getElem?_append_left (by simp; omega)]
            simp [List.getElem?_take_of_lt h2, List.getElem?_take_of_lt (show i < n + 1 by omega)]
          · rw [List.getElem?_append_right (by simp; omega), List.getElem?_append_right (by simp; omega)]
            simp only [List.length_map, List.length_take, List.getElem?_drop]
            congr 1
            omega
      have hfin : ∀ {γ2 : Gh}, GoodAt T w0 St0 γ2 (apps T [.mod s (.box (((cs.take n).map dem ++ cs.drop n).set n (dem cs[n]))) []] (apps T [.mod s (.box ((cs.take n).map dem ++ cs.drop n)) []] σ)) a w →
          GoodAt T w0 St0 γ2 (apps T [.mod s (.box ((cs.take (n + 1)).map dem ++ cs.drop (n + 1))) []] σ) a w := by
        intro γ2 G2
        rw [hset] at G2
        have e : apps T [.mod s (.box ((cs.take (n + 1)).map dem ++ cs.drop (n + 1))) []] (apps T [.mod s (.box ((cs.take n).map dem ++ cs.drop n)) []] σ) = apps T [.mod s (.box ((cs.take (n + 1)).map dem ++ cs.drop (n + 1))) []] σ := by
          simp only [apps, List.foldl_cons, List.foldl_nil, Wr.app, List.map_set, List.map_map, List.set_set]
          congr 1
          apply List.map_congr_left
          intro x _
          exact killMod_idem s [] x
        rwa [e] at G2
      obtain ⟨u, hu, hr⟩ := e7 n _ hcell
      have hk : RK γ1 w a.tmps (s, n + 1) cs[n] u := ⟨⟨g, by rw [hv, e1], e3, (e4.cell n).trans hu⟩, hr⟩
      have hput : (putKey (s, n + 1) (dem cs[n])).run [] (apps T [.mod s (.box ((cs.take n).map dem ++ cs.drop n)) []] σ) = some [.mod s (.box (((cs.take n).map dem ++ cs.drop n).set n (dem cs[n]))) []] := by
        simp only [putKey, RM.run, List.contains_nil, Bool.false_eq_true, if_false, hs1]
      cases hc : cs[n] with
      | own f z xs =>
        rw [hc] at hk hr hput hfin
        cases f with
        | true =>
          obtain ⟨γ', K, ho', _⟩ := demote G1 (show Own γ1 w (s, n + 1) true z xs u from hr) 0
          exact ⟨γ', hfin (putKey_sound G1 hk (own_nptr (show Own γ1 w (s, n + 1) true z xs u from hr)) hput K ho' (by simp [dem, refTo]))⟩
        | false =>
          exact ⟨γ1, hfin (putKey_sound G1 hk (own_nptr (show Own γ1 w (s, n + 1) false z xs u from hr)) hput (keep_refl G1 _) hr (by simp [dem, refTo]))⟩
      | _ =>
        refine ⟨γ1, hfin (GoodAt.mod G1 (keep_refl G1 _) (Array.getElem?_eq_some_iff.1 hv).1 (fun u hu => ?_) (fun t ht => by simp [refTo] at ht) (fun j u _ hh => hh))⟩
        rw [hv] at hu
        cases hu
        refine ⟨g, bs, e1, e2, e3, e4, by simpa using e5, e6, fun j x hx => ?_⟩
        by_cases hj : j = n
        · subst hj
          rw [List.getElem?_set_self (by simp; omega)] at hx
          cases hx
          rw [hc]
          rw [hc] at hcell
          exact e7 j _ hcell
        · rw [List.getElem?_set_ne (fun e => hj e.symm)] at hx
          exact e7 j x hx
  obtain ⟨γ', G'⟩ := step cs.length (Nat.le_refl _)
  exact ⟨γ', by simpa using G'⟩
end
end Go.Ev

/-! text E16 -/
set_option linter.unusedVariables false
namespace Go.Ev
open Go.RowKit

section
variable {P : Program} {T : List Nat} {w0 : World} {St0 : Nat → Nat} {γ : Gh} {σ : List AV} {a : Act} {w : World} {U : List Nat}

theorem set_ref (G : GoodAt T w0 St0 γ σ a w) {d : Nat} {x : AV} {v : Value} (hok : [Wr.set d x].all (Wr.ok T a.tmps.size) = true) (hx : R2 γ w (a.put (some d) v).tmps d x v) : GoodAt T w0 St0 γ (apps T [.set d x] σ) (a.put (some d) v) w := by
  simp only [List.all_cons, List.all_nil, Wr.ok, Bool.and_true, Bool.and_eq_true, decide_eq_true_eq] at hok
  refine GoodAt.set G (keep_refl G _) hok.1 hx fun t ht => ?_
  have := hok.2
  simp only [refOk, ht] at this
  exact this

theorem load_sound {o : Oper} {d : Nat} {t : TypeId} {x : Operand} {y : Ar} {n : Option Nat} (hop : o.op = .load t x) (hg : aggOf P t = some n) (hx : ArOk x y) (hd : o.dst = some d) : OpSound P T o (semLoad d n y) := by
  intro w0 St0 γ σ a w U ws G h hok Q
  obtain ⟨tg, h1, h2⟩ := run_bind h
  have ht := target_sound G hx h1
  cases tg with
  | gl i q => exact (run_fail h2).elim
  | ro cs =>
    obtain ⟨g, q, hv, hs, hc⟩ := ht
    cases n with
    | none =>
      cases cs with
      | nil => exact (run_fail h2).elim
      | cons x xs =>
        have h2 := run_ret h2
        subst h2
        obtain ⟨⟨u, hu, hxv⟩, _⟩ := hc
        exact finV G (run_load_at hg (loadVar_one hg hu) hop hv) hd hok hxv Q
    | some k =>
      obtain ⟨hk, h2⟩ := run_if h2
      have h2 := run_ret h2
      subst h2
      have hc' : VC γ w (cs.take k) g q := VC_mk fun j x hj => by
        have hjk : j < k := by
          have := (List.getElem?_eq_some_iff.1 hj).1
          simp at this
          omega
        rw [List.getElem?_take_of_lt hjk] at hj
        exact VC_get hc j x hj
      obtain ⟨vs, hr, hvl⟩ := run_loadCells_VC (P := P) hc'
      rw [show (cs.take k).length = k by simp; omega] at hr
      exact finV G (run_load_at hg (loadVar_many hg hr) hop hv) hd hok ⟨vs, rfl, hvl⟩ Q
  | ns s j cs =>
    obtain ⟨M, g, q, hv, ho, hc⟩ := ht
    cases n with
    | some k => cases cs <;> exact (run_fail h2).elim
    | none =>
      cases cs with
      | nil => exact (run_fail h2).elim
      | cons x xs =>
        obtain ⟨⟨u, hu, hxv⟩, _⟩ := hc
        have hrun := run_load_at hg (loadVar_one hg hu) hop hv
        by_cases hf : flat x = true
        · simp only [hf, if_true] at h2
          have h2 := run_ret h2
          subst h2
          exact finV G hrun hd hok (flat_V hf hxv) Q
        · simp only [hf, Bool.false_eq_true, if_false] at h2
          obtain ⟨hsd, h2⟩ := run_ifn h2
          have h2 := run_ret h2
          subst h2
          exact wp_value hrun hd ⟨γ, set_ref G hok ⟨M, hxv⟩⟩ Q
  | at_ s j =>
    obtain ⟨z, hz, h2⟩ := run_get h2
    cases z with
    | box cs =>
      obtain ⟨g, bs, hv, htm, hO, hb, hbl, hSt, hB, hcell⟩ := box_at G hz ht
      cases n with
      | none =>
        cases hcj : cs[j]? with
        | none => simp only [hcj] at h2; exact (run_fail h2).elim
        | some x =>
          simp only [hcj] at h2
          obtain ⟨u, hu, hr⟩ := hcell j x hcj
          have hrun := run_load_at hg (loadVar_one hg (cell_of_blk hb hu)) hop hv
          have plain : RM.run U σ ((RM.opt (viewOf x)).bind fun y => RM.ret [Wr.set d y]) = some ws → Oper.wp P o a w (Post T w0 St0 a.tmps.size (apps T ws σ)) Q := by
            intro h
            obtain ⟨y', h3, h4⟩ := run_bind h
            have h4 := run_ret h4
            subst h4
            exact finV G hrun hd hok (view_R1 hr (run_opt h3)) Q
          cases x with
          | own f z xs =>
            obtain ⟨hsd, h2⟩ := run_ifn h2
            have h2 := run_ret h2
            subst h2
            refine wp_value hrun hd ⟨γ, set_ref G hok ⟨g, ?_, hO, (hb.cell j).trans hu⟩⟩ Q
            rw [put_ne hsd]
            exact htm
          | _ => exact plain h2
      | some k =>
        obtain ⟨hk, h2⟩ := run_if h2
        obtain ⟨ys, h3, h4⟩ := run_bind h2
        have h4 := run_ret h4
        subst h4
        have h3 := run_opt h3
        -- the cells, as they lie
        have hvals : ∃ vs : List Value, vs.length = k ∧ ∀ i, i < k → ∃ x u, cs[j + i]? = some x ∧ vs[i]? = some u ∧ bs[j + i]? = some u := by
          refine ⟨(bs.toList.drop j).take k, by simp; omega, fun i hi => ?_⟩
          have hlt : j + i < cs.length := by omega
          obtain ⟨u, hu, _⟩ := hcell (j + i) cs[j + i] (by simp [hlt])
          exact ⟨cs[j + i], u, by simp [hlt], by rw [List.getElem?_take_of_lt hi, List.getElem?_drop]; simpa using hu, hu⟩
        obtain ⟨vs, hvl, hvs⟩ := hvals
        have hload : (loadCells ⟨g, j, none⟩ k).run P w = .ok vs.toArray w := by
          rw [← hvl]
          refine run_loadCells_list w _ vs fun i u hu => ?_
          have hi : i < k := by
            have := (List.getElem?_eq_some_iff.1 hu).1
            omega
          obtain ⟨x, u', _, e2, e3⟩ := hvs i hi
          rw [add_none]
          rw [hu] at e2
          cases e2
          exact cell_of_blk hb e3
        have hrun := run_load_at hg (loadVar_many hg hload) hop hv
        have fin : ∀ {γ' : Gh} {σ' : List AV}, GoodAt T w0 St0 γ' σ' a w → VL γ' w ys vs → d < a.tmps.size → ∃ γ'', GoodAt T w0 St0 γ'' (apps T [.set d (.agg ys)] σ') (a.put (some d) (.agg vs.toArray)) w := fun G' hl hlt => ⟨_, setV G' hlt ⟨vs, rfl, hl⟩ rfl⟩
        by_cases hfull : ((cs.drop j).take k).any isFull = true
        · rw [if_pos hfull] at hok ⊢
          simp only [List.all_append, List.all_cons, List.all_nil, Wr.ok, Bool.and_true, Bool.and_eq_true, decide_eq_true_eq] at hok
          obtain ⟨γ', G'⟩ := demote_box G hz
          have hz' : (apps T [.mod s (.box (cs.map dem)) []] σ)[s]? = some (.box (cs.map dem)) := by
            simp only [apps, List.foldl_cons, List.foldl_nil, Wr.app]
            rw [List.getElem?_set_self (by simpa using (List.getElem?_eq_some_iff.1 hz).1)]
          have ht' : Adr a.tmps s j (a.eval x) := ht
          obtain ⟨g2, bs2, hv2, _, _, hb2, _, _, _, hcell2⟩ := box_at G' hz' ht'
          have eg : g2 = g := by rw [hv] at hv2; simpa using hv2.symm
          subst eg
          have eb : bs2 = bs := by
            obtain ⟨_, _, _, e1, _⟩ := hb
            obtain ⟨_, _, _, e2, _⟩ := hb2
            rw [e1] at e2
            cases e2
            rfl
          subst eb
          refine wp_value hrun hd ?_ Q
          rw [apps_append]
          refine fin G' (mapView h3 (by simp; omega) fun i x y hxi hy => ?_) hok.2.1
          have hi : i < k := by
            have := (List.getElem?_eq_some_iff.1 hxi).1
            simp at this
            omega
          rw [List.getElem?_take_of_lt hi, List.getElem?_drop] at hxi
          obtain ⟨x', u', e1, e2, e3⟩ := hvs i hi
          rw [e1] at hxi
          cases hxi
          obtain ⟨u'', f1, f2⟩ := hcell2 (j + i) (dem x) (by simp [e1])
          rw [e3] at f1
          cases f1
          exact ⟨u', e2, view_R1 f2 hy⟩
        · rw [if_neg hfull] at hok ⊢
          simp only [List.nil_append] at hok ⊢
          have hok' := hok
          simp only [List.all_cons, List.all_nil, Wr.ok, Bool.and_true, Bool.and_eq_true, decide_eq_true_eq] at hok'
          refine wp_value hrun hd (fin G (mapView h3 (by simp; omega) fun i x y hxi hy => ?_) hok'.1) Q
          have hnf : isFull x = false := by
            cases hx2 : isFull x with
            | false => rfl
            | true => exact absurd (List.any_eq_true.2 ⟨x, List.mem_of_getElem? hxi, hx2⟩) hfull
          have hdx : dem x = x := by
            cases x with
            | own f z xs => cases f <;> first | rfl | simp [isFull] at hnf
            | _ => rfl
          rw [hdx] at hy
          have hi : i < k := by
            have := (List.getElem?_eq_some_iff.1 hxi).1
            simp at this
            omega
          rw [List.getElem?_take_of_lt hi, List.getElem?_drop] at hxi
          obtain ⟨x', u', e1, e2, e3⟩ := hvs i hi
          rw [e1] at hxi
          cases hxi
          obtain ⟨u'', f1, f2⟩ := hcell (j + i) x e1
          rw [e3] at f1
          cases f1
          exact ⟨u', e2, view_R1 f2 hy⟩
    | own f z xs =>
      cases f with
      | false => exact (run_fail h2).elim
      | true =>
        obtain ⟨g, q, c, cs, hv, htm, hl, hB, hO, hb, hsz, hvs⟩ := own_at G hz ht
        simp only [if_true] at hvs
        obtain ⟨hSt, M, hvs⟩ := hvs
        cases n with
        | none =>
          cases hcj : cellOf z xs j with
          | none => simp only [hcj] at h2; exact (run_fail h2).elim
          | some x =>
            simp only [hcj] at h2
            obtain ⟨u, hu, hxv⟩ := VS_cell hvs hcj
            have hrun := run_load_at hg (loadVar_one hg hu) hop hv
            by_cases hf : flat x = true
            · simp only [hf, if_true] at h2
              have h2 := run_ret h2
              subst h2
              exact finV G hrun hd hok (flat_V hf hxv) Q
            · simp only [hf, Bool.false_eq_true, if_false] at h2
              obtain ⟨hsd, h2⟩ := run_ifn h2
              have h2 := run_ret h2
              subst h2
              exact wp_value hrun hd ⟨γ, set_ref G hok ⟨M, hxv⟩⟩ Q
        | some k =>
          cases he : xs[j / z]? with
          | none => simp only [he] at h2; exact (run_fail h2).elim
          | some e =>
            simp only [he] at h2
            obtain ⟨⟨hj, hkz, hel⟩, h2⟩ := run_if h2
            have h2 := run_ret h2
            subst h2
            simp only [List.all_cons, List.all_nil, Wr.ok, Bool.and_true, Bool.and_eq_true, decide_eq_true_eq] at hok
            have hown : Own γ w (s, 0) true z xs (.slice (some ⟨g, q, none⟩) xs.length c) := .inr ⟨g, q, c, cs, rfl, hl, hB, hO, hb, hsz, by simp only [if_true]; exact ⟨hSt, M, hvs⟩⟩
            obtain ⟨γ', K, ho', _⟩ := demote G hown 0
            have G' := putKey_sound (k := (s, 0)) (x := .own false z (undeep.uL xs)) (U := []) G ⟨htm, R2.of_R1 (x := .own true z xs) hown⟩ (own_nptr hown) rfl K ho' (by simp [refTo])
            rcases ho' with ⟨e1, _⟩ | ⟨g2, q2, c2, cs2, e1, _, _, _, _, _, e7⟩
            · cases e1
            · rw [uL_len] at e1
              cases e1
              simp only [Bool.false_eq_true, if_false] at e7
              obtain ⟨f1, f2⟩ := VE_cells (VS_get e7.2 (j / z) (undeep e) (by rw [uL_map, List.getElem?_map, he]; rfl))
              obtain ⟨vs, hr, hvl⟩ := run_loadCells_VC (P := P) f2
              rw [f1] at hr
              subst hkz
              have hjq : q + j / k * k = q + j := by
                have := Nat.div_add_mod j k
                rw [Nat.mul_comm] at this
                omega
              rw [hjq] at hr
              have hrun := run_load_at hg (loadVar_many hg hr) hop hv
              refine wp_value hrun hd ⟨γ', ?_⟩ Q
              exact setV (σ := apps T [.mod s (.own false k (undeep.uL xs)) []] σ) G' hok.2.1 ⟨vs, rfl, hvl⟩ rfl
    | pv cs =>
      obtain ⟨u, hu, hr⟩ := get_tmp G hz (by simp)
      obtain ⟨g, q, e1, e2, e3⟩ := hr
      subst e1
      obtain ⟨g', q', f1, hv⟩ := ht
      rw [hu] at f1
      rcases f1 with f1 | ⟨_, _, f1⟩
      · cases f1
        cases n with
        | none =>
          cases hcj : cs[j]? with
          | none => simp only [hcj] at h2; exact (run_fail h2).elim
          | some x =>
            simp only [hcj] at h2
            have h2 := run_ret h2
            subst h2
            obtain ⟨u', hu', hxv⟩ := VC_get e3 j x hcj
            exact finV G (run_load_at hg (loadVar_one hg hu') hop hv) hd hok hxv Q
        | some k =>
          obtain ⟨hk, h2⟩ := run_if h2
          have h2 := run_ret h2
          subst h2
          have hc' : VC γ w ((cs.drop j).take k) g (q + j) := VC_mk fun i x hi => by
            have hik : i < k := by
              have := (List.getElem?_eq_some_iff.1 hi).1
              simp at this
              omega
            rw [List.getElem?_take_of_lt hik, List.getElem?_drop] at hi
            obtain ⟨u', h1, h2⟩ := VC_get e3 _ x hi
            exact ⟨u', by rwa [show q + j + i = q + (j + i) by omega], h2⟩
          obtain ⟨vs, hr, hvl⟩ := run_loadCells_VC (P := P) hc'
          rw [show ((cs.drop j).take k).length = k by simp; omega] at hr
          exact finV G (run_load_at hg (loadVar_many hg hr) hop hv) hd hok ⟨vs, rfl, hvl⟩ Q
      · cases f1
    | _ => exact (run_fail h2).elim
end
end Go.Ev

/-! text E17 -/
set_option linter.unusedVariables false
namespace Go.Ev
open Go.RowKit

section
variable {P : Program} {T : List Nat} {w0 : World} {St0 : Nat → Nat} {γ : Gh} {σ : List AV} {a : Act} {w : World} {U : List Nat}

/-- What is known of ownership, whatever the slots hold. -/
structure Base (γ : Gh) (w : World) : Prop where
  own : ∀ g k, γ.O g = some k → (γ.B ≤ g ∨ γ.F g) ∧ g < w.heap.size
  rho : ∀ i g, γ.ρ i = some g → False
  stnew : ∀ g, w.heap.size ≤ g → γ.St g = 0
  nest : ∀ g k, γ.O g = some (k, true) → γ.St g = 0 ∧ γ.B ≤ g
theorem GoodAt.base (G : GoodAt T w0 St0 γ σ a w) : Base γ w := ⟨G.own, G.rho, G.stnew, G.nest⟩
theorem Keep.base {γ γ' : Gh} {w w' : World} {X : Key → Prop} (K : Keep γ γ' w w' X) : Base γ' w' :=
  ⟨fun g k h => by rw [K.B, K.F]; exact K.own g k h, K.rho, K.stnew, fun g k h => by rw [K.B]; exact K.nest g k h⟩
theorem Keep.trans {γ γ' γ'' : Gh} {w w' w'' : World} {X : Key → Prop} (K : Keep γ γ' w w' X) (L : Keep γ' γ'' w' w'' X) : Keep γ γ'' w w'' X := by
  refine ⟨K.ext.trans L.ext, L.B.trans K.B, L.F.trans K.F, K.frm.trans (by have := L.frm; rwa [K.B, K.F] at this), fun g hg hf => ?_, fun g k b h hx => ?_, fun g k h => ?_, L.rho, L.stnew, fun h => ?_, fun g k h => ?_⟩
  · rw [L.st0 g (by rw [K.B]; exact hg) (by rw [K.F]; exact hf), K.st0 g hg hf]
  · obtain ⟨h1, h2, h3⟩ := K.keep g k b h hx
    obtain ⟨h4, h5, h6⟩ := L.keep g k b h1 hx
    exact ⟨h4, h5.trans h2, h6.trans h3⟩
  · have := L.own g k h
    rwa [K.B, K.F] at this
  · have := L.unf (by rw [K.B]; exact K.unf h)
    rwa [K.B] at this
  · have := L.nest g k h
    rwa [K.B] at this
/-- A store into a block of slot s's own: everybody else is as before. -/
theorem keep_only (G : Base γ w) {g : Nat} {k : Key} {b : Bool} {w' : World} (h : Only w w' g) (hB : γ.B ≤ g) (hO : γ.O g = some (k, b)) {X : Key → Prop} (hX : X k) (hc : ∀ o, o < γ.St g → cellAt w' g o = cellAt w g o) (hu : Unf γ.B w → Unf γ.B w') : Keep γ γ w w' X := by
  refine ⟨⟨fun h' o ho => ?_, fun _ => Nat.le_refl _, Nat.le_refl _, fun _ _ h => h, fun _ h => h⟩, rfl, rfl, ⟨h.os, h.tape, h.output, by rw [h.size]; exact Nat.le_refl _, fun k hk _ => h.block k (by omega)⟩, fun _ _ _ => rfl, fun h' q b' e hx => ⟨e, h.block h' ?_, rfl⟩, fun g' q e => ?_, fun i g' e => ?_, fun g' hg => ?_, hu, G.nest⟩
  · by_cases e : h' = g
    · subst e; exact hc o ho
    · exact cellAt_of_heap (h.block h' e) o
  · intro e2
    subst e2
    rw [hO] at e
    cases e
    exact hx hX
  · rw [h.size]; exact G.own g' q e
  · exact G.rho i g' e
  · exact G.stnew g' (by rw [h.size] at hg; exact hg)

theorem unf_only {B : Nat} {w w' : World} {g : Nat} (h : Only w w' g) {cs : Array Value} (hb : Blk w' g cs) (hu : Unf B w) : Unf B w' := by
  intro h' cs' e lo hi hB hh
  by_cases e2 : h' = g
  · subst e2
    obtain ⟨e3, lo', hi', f1, f2⟩ := hb
    rw [f1] at hh
    cases hh
    exact f2
  · rw [h.block h' e2] at hh
    exact hu h' cs' e lo hi hB hh

/-- One number of memory is another one now. -/
structure NumTurn (w w' : World) : Prop where
  cell : ∀ g o u, cellAt w g o = some u → ∃ u', cellAt w' g o = some u' ∧ (u' = u ∨ ∃ k n n', u = .int k n ∧ u' = .int k n')
theorem V_num {γ : Gh} {w w' : World} {x : AV} {k : IntKind} {n n' : Int} (h : V γ w x (.int k n)) : V γ w' (hv x) (.int k n') := by
  cases x with
  | junk => trivial
  | int k' m => cases h; exact ⟨n', rfl⟩
  | anyint k' => obtain ⟨m, e⟩ := h; cases e; exact ⟨n', rfl⟩
  | pv _ => trivial
  | ifc _ _ => trivial
  | fn _ _ => trivial
  | sl _ _ _ _ => obtain ⟨A, c, e, _⟩ := h; cases e
  | dsl _ _ _ => obtain ⟨A, c, e, _⟩ := h; cases e
  | agg _ => obtain ⟨vs, e, _⟩ := h; cases e
  | ref _ _ => obtain ⟨g, _, e⟩ := h; cases e
  | mref _ => obtain ⟨g, _, e⟩ := h; cases e
  | tup _ => exact h.elim
  | own _ _ _ => exact h.elim
  | box _ => exact h.elim
  | als _ _ => exact h.elim
  | adr _ _ => exact h.elim
  | obj _ => exact h.elim
  | ent _ _ _ => exact h.elim
  | mp _ _ => exact h.elim
  | mem _ => exact h.elim
  | nst _ _ _ => exact h.elim
  | npv _ _ _ => exact h.elim
  | _ => cases h
theorem hvL_len : ∀ (xs : List AV), (hv.hvL xs).length = xs.length
  | [] => rfl
  | x :: xs => by simp [hv.hvL, hvL_len xs]
mutual
theorem V_hv {γ : Gh} {w w' : World} (N : NumTurn w w') : ∀ (x : AV) (v : Value), V γ w x v → V γ w' (hv x) v
  | .junk, _, _ => trivial
  | .int k n, _, h => ⟨n, h⟩
  | .bool _, _, h => h
  | .str _, _, h => h
  | .nils, _, h => h
  | .nilp, _, h => h
  | .nilm, _, h => h
  | .nili, _, h => h
  | .nilf, _, h => h
  | .anyint _, _, h => h
  | .ref _ _, _, h => h
  | .mref _, _, h => h
  | .ifc _ _, _, _ => trivial
  | .fn _ _, _, _ => trivial
  | .pv _, _, _ => trivial
  | .sl fr nn z xs, v, ⟨A, c, h1, h2, h3, h4, h5⟩ => ⟨A, c, by rw [hvL_len]; exact h1, by rw [hvL_len]; exact h2, fun e => by
        obtain ⟨e1, e2, e3⟩ := h3 e
        subst e1
        exact ⟨rfl, e2, e3⟩, h4, fun hne => by
        have : xs ≠ [] := by intro e; subst e; exact hne rfl
        obtain ⟨g, o, e1, e2, e3⟩ := h5 this
        exact ⟨g, o, e1, by rw [hvL_len]; exact e2, VS_hv N z xs g o e3⟩⟩
  | .dsl nn z xs, v, ⟨A, c, h1, h2, h3, h4, h5⟩ => ⟨A, c, by rw [hvL_len]; exact h1, by rw [hvL_len]; exact h2, fun e => by
        obtain ⟨e1, e2, e3⟩ := h3 e
        subst e1
        exact ⟨rfl, e2, e3⟩, h4, fun hne => by
        have : xs ≠ [] := by intro e; subst e; exact hne rfl
        obtain ⟨g, o, e1, e2, eF, e3⟩ := h5 this
        exact ⟨g, o, e1, by rw [hvL_len]; exact e2, eF, VS_hv N z xs g o e3⟩⟩
  | .agg cs, v, ⟨vs, h1, h2⟩ => ⟨vs, h1, VL_hv N cs vs h2⟩
  | .tup _, _, h => h.elim
  | .own _ _ _, _, h => h.elim
  | .box _, _, h => h.elim
  | .als _ _, _, h => h.elim
  | .adr _ _, _, h => h.elim
  | .obj _, _, h => h.elim
  | .ent _ _ _, _, h => h.elim
  | .mp _ _, _, h => h.elim
  | .mem _, _, h => h.elim
  | .nst _ _ _, _, h => h.elim
  | .npv _ _ _, _, h => h.elim
theorem VL_hv {γ : Gh} {w w' : World} (N : NumTurn w w') : ∀ (xs : List AV) (vs : List Value), VL γ w xs vs → VL γ w' (hv.hvL xs) vs
  | [], _, h => h
  | x :: xs, _, ⟨v, r, e, h1, h2⟩ => ⟨v, r, e, V_hv N x v h1, VL_hv N xs r h2⟩
theorem VC_hv {γ : Gh} {w w' : World} (N : NumTurn w w') : ∀ (xs : List AV) (g o : Nat), VC γ w xs g o → VC γ w' (hv.hvL xs) g o
  | [], _, _, _ => trivial
  | x :: xs, g, o, ⟨⟨u, h1, h2⟩, h3⟩ => ⟨by
      obtain ⟨u', e1, e2⟩ := N.cell g o u h1
      refine ⟨u', e1, ?_⟩
      rcases e2 with e2 | ⟨k, n, n', e2, e3⟩
      · rw [e2]; exact V_hv N x u h2
      · subst e2 e3; exact V_num h2, VC_hv N xs g (o + 1) h3⟩
theorem VS_hv {γ : Gh} {w w' : World} (N : NumTurn w w') (z : Nat) : ∀ (xs : List AV) (g o : Nat), VS γ w z xs g o → VS γ w' z (hv.hvL xs) g o
  | [], _, _, _ => trivial
  | .agg cs :: xs, g, o, ⟨⟨h1, h2⟩, h3⟩ => ⟨⟨by rw [hvL_len]; exact h1, VC_hv N cs g o h2⟩, VS_hv N z xs g (o + z) h3⟩
  | .junk :: xs, g, o, ⟨⟨hz, u, h1, h2⟩, h3⟩ => by
      obtain ⟨u', e1, e2⟩ := N.cell g o u h1
      have hx : V γ w' (hv .junk) u' := by
        rcases e2 with e2 | ⟨k0, n0, n1, e2, e3⟩
        · rw [e2]; exact V_hv N .junk u h2
        · subst e2 e3; exact V_num h2
      exact ⟨⟨hz, u', e1, hx⟩, VS_hv N z xs g (o + z) h3⟩
  | (.int k n) :: xs, g, o, ⟨⟨hz, u, h1, h2⟩, h3⟩ => by
      obtain ⟨u', e1, e2⟩ := N.cell g o u h1
      have hx : V γ w' (hv (.int k n)) u' := by
        rcases e2 with e2 | ⟨k0, n0, n1, e2, e3⟩
        · rw [e2]; exact V_hv N (.int k n) u h2
        · subst e2 e3; exact V_num h2
      exact ⟨⟨hz, u', e1, hx⟩, VS_hv N z xs g (o + z) h3⟩
  | (.bool b) :: xs, g, o, ⟨⟨hz, u, h1, h2⟩, h3⟩ => by
      obtain ⟨u', e1, e2⟩ := N.cell g o u h1
      have hx : V γ w' (hv (.bool b)) u' := by
        rcases e2 with e2 | ⟨k0, n0, n1, e2, e3⟩
        · rw [e2]; exact V_hv N (.bool b) u h2
        · subst e2 e3; exact V_num h2
      exact ⟨⟨hz, u', e1, hx⟩, VS_hv N z xs g (o + z) h3⟩
  | (.str b) :: xs, g, o, ⟨⟨hz, u, h1, h2⟩, h3⟩ => by
      obtain ⟨u', e1, e2⟩ := N.cell g o u h1
      have hx : V γ w' (hv (.str b)) u' := by
        rcases e2 with e2 | ⟨k0, n0, n1, e2, e3⟩
        · rw [e2]; exact V_hv N (.str b) u h2
        · subst e2 e3; exact V_num h2
      exact ⟨⟨hz, u', e1, hx⟩, VS_hv N z xs g (o + z) h3⟩
  | .nils :: xs, g, o, ⟨⟨hz, u, h1, h2⟩, h3⟩ => by
      obtain ⟨u', e1, e2⟩ := N.cell g o u h1
      have hx : V γ w' (hv .nils) u' := by
        rcases e2 with e2 | ⟨k0, n0, n1, e2, e3⟩
        · rw [e2]; exact V_hv N .nils u h2
        · subst e2 e3; exact V_num h2
      exact ⟨⟨hz, u', e1, hx⟩, VS_hv N z xs g (o + z) h3⟩
  | (.sl fr nn z2 ys) :: xs, g, o, ⟨⟨hz, u, h1, h2⟩, h3⟩ => by
      obtain ⟨u', e1, e2⟩ := N.cell g o u h1
      have hx : V γ w' (hv (.sl fr nn z2 ys)) u' := by
        rcases e2 with e2 | ⟨k0, n0, n1, e2, e3⟩
        · rw [e2]; exact V_hv N (.sl fr nn z2 ys) u h2
        · subst e2 e3; exact V_num h2
      exact ⟨⟨hz, u', e1, hx⟩, VS_hv N z xs g (o + z) h3⟩
  | (.pv cs) :: xs, g, o, ⟨⟨hz, u, h1, h2⟩, h3⟩ => by
      obtain ⟨u', e1, e2⟩ := N.cell g o u h1
      have hx : V γ w' (hv (.pv cs)) u' := by
        rcases e2 with e2 | ⟨k0, n0, n1, e2, e3⟩
        · rw [e2]; exact V_hv N (.pv cs) u h2
        · subst e2 e3; exact V_num h2
      exact ⟨⟨hz, u', e1, hx⟩, VS_hv N z xs g (o + z) h3⟩
  | (.tup ys) :: xs, g, o, ⟨⟨hz, u, h1, h2⟩, h3⟩ => by
      obtain ⟨u', e1, e2⟩ := N.cell g o u h1
      have hx : V γ w' (hv (.tup ys)) u' := by
        rcases e2 with e2 | ⟨k0, n0, n1, e2, e3⟩
        · rw [e2]; exact V_hv N (.tup ys) u h2
        · subst e2 e3; exact V_num h2
      exact ⟨⟨hz, u', e1, hx⟩, VS_hv N z xs g (o + z) h3⟩
  | (.own f z2 ys) :: xs, g, o, ⟨⟨hz, u, h1, h2⟩, h3⟩ => by
      obtain ⟨u', e1, e2⟩ := N.cell g o u h1
      have hx : V γ w' (hv (.own f z2 ys)) u' := by
        rcases e2 with e2 | ⟨k0, n0, n1, e2, e3⟩
        · rw [e2]; exact V_hv N (.own f z2 ys) u h2
        · subst e2 e3; exact V_num h2
      exact ⟨⟨hz, u', e1, hx⟩, VS_hv N z xs g (o + z) h3⟩
  | (.box ys) :: xs, g, o, ⟨⟨hz, u, h1, h2⟩, h3⟩ => by
      obtain ⟨u', e1, e2⟩ := N.cell g o u h1
      have hx : V γ w' (hv (.box ys)) u' := by
        rcases e2 with e2 | ⟨k0, n0, n1, e2, e3⟩
        · rw [e2]; exact V_hv N (.box ys) u h2
        · subst e2 e3; exact V_num h2
      exact ⟨⟨hz, u', e1, hx⟩, VS_hv N z xs g (o + z) h3⟩
  | (.als i j) :: xs, g, o, ⟨⟨hz, u, h1, h2⟩, h3⟩ => by
      obtain ⟨u', e1, e2⟩ := N.cell g o u h1
      have hx : V γ w' (hv (.als i j)) u' := by
        rcases e2 with e2 | ⟨k0, n0, n1, e2, e3⟩
        · rw [e2]; exact V_hv N (.als i j) u h2
        · subst e2 e3; exact V_num h2
      exact ⟨⟨hz, u', e1, hx⟩, VS_hv N z xs g (o + z) h3⟩
  | (.adr i j) :: xs, g, o, ⟨⟨hz, u, h1, h2⟩, h3⟩ => by
      obtain ⟨u', e1, e2⟩ := N.cell g o u h1
      have hx : V γ w' (hv (.adr i j)) u' := by
        rcases e2 with e2 | ⟨k0, n0, n1, e2, e3⟩
        · rw [e2]; exact V_hv N (.adr i j) u h2
        · subst e2 e3; exact V_num h2
      exact ⟨⟨hz, u', e1, hx⟩, VS_hv N z xs g (o + z) h3⟩
  | .nilp :: xs, g, o, ⟨⟨hz, u, h1, h2⟩, h3⟩ => by
      obtain ⟨u', e1, e2⟩ := N.cell g o u h1
      have hx : V γ w' (hv .nilp) u' := by
        rcases e2 with e2 | ⟨k0, n0, n1, e2, e3⟩
        · rw [e2]; exact V_hv N .nilp u h2
        · subst e2 e3; exact V_num h2
      exact ⟨⟨hz, u', e1, hx⟩, VS_hv N z xs g (o + z) h3⟩
  | .nilm :: xs, g, o, ⟨⟨hz, u, h1, h2⟩, h3⟩ => by
      obtain ⟨u', e1, e2⟩ := N.cell g o u h1
      have hx : V γ w' (hv .nilm) u' := by
        rcases e2 with e2 | ⟨k0, n0, n1, e2, e3⟩
        · rw [e2]; exact V_hv N .nilm u h2
        · subst e2 e3; exact V_num h2
      exact ⟨⟨hz, u', e1, hx⟩, VS_hv N z xs g (o + z) h3⟩
  | .nili :: xs, g, o, ⟨⟨hz, u, h1, h2⟩, h3⟩ => by
      obtain ⟨u', e1, e2⟩ := N.cell g o u h1
      have hx : V γ w' (hv .nili) u' := by
        rcases e2 with e2 | ⟨k0, n0, n1, e2, e3⟩
        · rw [e2]; exact V_hv N .nili u h2
        · subst e2 e3; exact V_num h2
      exact ⟨⟨hz, u', e1, hx⟩, VS_hv N z xs g (o + z) h3⟩
  | .nilf :: xs, g, o, ⟨⟨hz, u, h1, h2⟩, h3⟩ => by
      obtain ⟨u', e1, e2⟩ := N.cell g o u h1
      have hx : V γ w' (hv .nilf) u' := by
        rcases e2 with e2 | ⟨k0, n0, n1, e2, e3⟩
        · rw [e2]; exact V_hv N .nilf u h2
        · subst e2 e3; exact V_num h2
      exact ⟨⟨hz, u', e1, hx⟩, VS_hv N z xs g (o + z) h3⟩
  | (.ifc t y) :: xs, g, o, ⟨⟨hz, u, h1, h2⟩, h3⟩ => by
      obtain ⟨u', e1, e2⟩ := N.cell g o u h1
      have hx : V γ w' (hv (.ifc t y)) u' := by
        rcases e2 with e2 | ⟨k0, n0, n1, e2, e3⟩
        · rw [e2]; exact V_hv N (.ifc t y) u h2
        · subst e2 e3; exact V_num h2
      exact ⟨⟨hz, u', e1, hx⟩, VS_hv N z xs g (o + z) h3⟩
  | (.fn f ys) :: xs, g, o, ⟨⟨hz, u, h1, h2⟩, h3⟩ => by
      obtain ⟨u', e1, e2⟩ := N.cell g o u h1
      have hx : V γ w' (hv (.fn f ys)) u' := by
        rcases e2 with e2 | ⟨k0, n0, n1, e2, e3⟩
        · rw [e2]; exact V_hv N (.fn f ys) u h2
        · subst e2 e3; exact V_num h2
      exact ⟨⟨hz, u', e1, hx⟩, VS_hv N z xs g (o + z) h3⟩
  | (.ref i j) :: xs, g, o, ⟨⟨hz, u, h1, h2⟩, h3⟩ => by
      obtain ⟨u', e1, e2⟩ := N.cell g o u h1
      have hx : V γ w' (hv (.ref i j)) u' := by
        rcases e2 with e2 | ⟨k0, n0, n1, e2, e3⟩
        · rw [e2]; exact V_hv N (.ref i j) u h2
        · subst e2 e3; exact V_num h2
      exact ⟨⟨hz, u', e1, hx⟩, VS_hv N z xs g (o + z) h3⟩
  | (.mref i) :: xs, g, o, ⟨⟨hz, u, h1, h2⟩, h3⟩ => by
      obtain ⟨u', e1, e2⟩ := N.cell g o u h1
      have hx : V γ w' (hv (.mref i)) u' := by
        rcases e2 with e2 | ⟨k0, n0, n1, e2, e3⟩
        · rw [e2]; exact V_hv N (.mref i) u h2
        · subst e2 e3; exact V_num h2
      exact ⟨⟨hz, u', e1, hx⟩, VS_hv N z xs g (o + z) h3⟩
  | (.obj ys) :: xs, g, o, ⟨⟨hz, u, h1, h2⟩, h3⟩ => by
      obtain ⟨u', e1, e2⟩ := N.cell g o u h1
      have hx : V γ w' (hv (.obj ys)) u' := by
        rcases e2 with e2 | ⟨k0, n0, n1, e2, e3⟩
        · rw [e2]; exact V_hv N (.obj ys) u h2
        · subst e2 e3; exact V_num h2
      exact ⟨⟨hz, u', e1, hx⟩, VS_hv N z xs g (o + z) h3⟩
  | (.ent b k y) :: xs, g, o, ⟨⟨hz, u, h1, h2⟩, h3⟩ => by
      obtain ⟨u', e1, e2⟩ := N.cell g o u h1
      have hx : V γ w' (hv (.ent b k y)) u' := by
        rcases e2 with e2 | ⟨k0, n0, n1, e2, e3⟩
        · rw [e2]; exact V_hv N (.ent b k y) u h2
        · subst e2 e3; exact V_num h2
      exact ⟨⟨hz, u', e1, hx⟩, VS_hv N z xs g (o + z) h3⟩
  | (.mp c ys) :: xs, g, o, ⟨⟨hz, u, h1, h2⟩, h3⟩ => by
      obtain ⟨u', e1, e2⟩ := N.cell g o u h1
      have hx : V γ w' (hv (.mp c ys)) u' := by
        rcases e2 with e2 | ⟨k0, n0, n1, e2, e3⟩
        · rw [e2]; exact V_hv N (.mp c ys) u h2
        · subst e2 e3; exact V_num h2
      exact ⟨⟨hz, u', e1, hx⟩, VS_hv N z xs g (o + z) h3⟩
  | (.mem ys) :: xs, g, o, ⟨⟨hz, u, h1, h2⟩, h3⟩ => by
      obtain ⟨u', e1, e2⟩ := N.cell g o u h1
      have hx : V γ w' (hv (.mem ys)) u' := by
        rcases e2 with e2 | ⟨k0, n0, n1, e2, e3⟩
        · rw [e2]; exact V_hv N (.mem ys) u h2
        · subst e2 e3; exact V_num h2
      exact ⟨⟨hz, u', e1, hx⟩, VS_hv N z xs g (o + z) h3⟩
  | (.anyint k) :: xs, g, o, ⟨⟨hz, u, h1, h2⟩, h3⟩ => by
      obtain ⟨u', e1, e2⟩ := N.cell g o u h1
      have hx : V γ w' (hv (.anyint k)) u' := by
        rcases e2 with e2 | ⟨k0, n0, n1, e2, e3⟩
        · rw [e2]; exact V_hv N (.anyint k) u h2
        · subst e2 e3; exact V_num h2
      exact ⟨⟨hz, u', e1, hx⟩, VS_hv N z xs g (o + z) h3⟩
  | (.nst i j y) :: xs, g, o, ⟨⟨hz, u, h1, h2⟩, h3⟩ => by
      obtain ⟨u', e1, e2⟩ := N.cell g o u h1
      have hx : V γ w' (hv (.nst i j y)) u' := by
        rcases e2 with e2 | ⟨k0, n0, n1, e2, e3⟩
        · rw [e2]; exact V_hv N (.nst i j y) u h2
        · subst e2 e3; exact V_num h2
      exact ⟨⟨hz, u', e1, hx⟩, VS_hv N z xs g (o + z) h3⟩
  | (.npv i j ys) :: xs, g, o, ⟨⟨hz, u, h1, h2⟩, h3⟩ => by
      obtain ⟨u', e1, e2⟩ := N.cell g o u h1
      have hx : V γ w' (hv (.npv i j ys)) u' := by
        rcases e2 with e2 | ⟨k0, n0, n1, e2, e3⟩
        · rw [e2]; exact V_hv N (.npv i j ys) u h2
        · subst e2 e3; exact V_num h2
      exact ⟨⟨hz, u', e1, hx⟩, VS_hv N z xs g (o + z) h3⟩
  | (.dsl i j ys) :: xs, g, o, ⟨⟨hz, u, h1, h2⟩, h3⟩ => by
      obtain ⟨u', e1, e2⟩ := N.cell g o u h1
      have hx : V γ w' (hv (.dsl i j ys)) u' := by
        rcases e2 with e2 | ⟨k0, n0, n1, e2, e3⟩
        · rw [e2]; exact V_hv N (.dsl i j ys) u h2
        · subst e2 e3; exact V_num h2
      exact ⟨⟨hz, u', e1, hx⟩, VS_hv N z xs g (o + z) h3⟩
end

theorem wp_store {o : Oper} {t : TypeId} {x y : Operand} (hop : o.op = .store t x y) (hd : o.dst = none) {ad : Addr} (hx : a.eval x = .pointer (some ad)) {w' : World} (hr : (storeVar t ad (a.eval y)).run P w = .ok () w') {σ' : List AV}
    (hG : ∃ γ', GoodAt T w0 St0 γ' σ' a w') (Q : Exit → Act → World → Prop) : o.wp P a w (Post T w0 St0 a.tmps.size σ') Q := by
  have hrun : (execOp a.eval o).run P w = .ok .skip w' := by
    simp only [execOp, hop, hx, Instr.storeAt, Instr.sureAddr, Sem.run_bind, Sem.run_pure, Result.andThen, hr]
  unfold Oper.wp
  rw [hrun, Oper.upon_skip, hd]
  exact ⟨rfl, hG⟩

theorem okCell_one {y : AV} (h : okCell y = true) : cellsOf y = [y] ∧ single y = true ∧ y ≠ .junk := by
  cases y with
  | junk => cases h
  | agg _ => cases h
  | _ => exact ⟨rfl, rfl, fun e => by cases e⟩

theorem store_box (G : GoodAt T w0 St0 γ σ a w) {t : TypeId} {n s j : Nat} (hn : sizeOfT P t = some n) {v pv : Value} {y : AV} {cs : List AV} (hq : σ[s]? = some (.box cs)) (ht : Adr a.tmps s j pv)
    (hyv : V γ w y v) (hnj : y ≠ .junk) (hc1 : (cellsOf y).length = n) (hc2 : j + n ≤ cs.length) (hc3 : (cellsOf y).all okCell = true) :
    ∃ ad w', pv = .pointer (some ad) ∧ (storeVar t ad v).run P w = .ok () w' ∧ ∃ γ', GoodAt T w0 St0 γ' (apps T [.mod s (.box (splice cs j (cellsOf y))) (List.range' (j + 1) n)] σ) a w' := by
  have hvl := cells_of_V hyv hnj
  have hvl1 := VL_len hvl
  obtain ⟨g, bs, hv, htm, hO, hb, hbl, hSt, hB, hcell⟩ := box_at G hq ht
  obtain ⟨w', bs', r1, r2, r3, r4, r5, r6⟩ := storeVar_run (P := P) (t := t) (n := n) (g := g) (o := j) (v := v) hn hb (by rw [← hc1, ← hvl1]; simp) (by omega) (fun u hu => by
    obtain ⟨i, hi, e⟩ := List.getElem_of_mem hu
    have hi2 : i < (cellsOf y).length := by omega
    obtain ⟨u', e1, e2⟩ := VL_get hvl i _ (List.getElem?_eq_getElem hi2)
    rw [List.getElem?_eq_getElem hi] at e1
    have : u = u' := by rw [← e]; simpa using e1
    subst this
    have ho := okCell_one (List.all_eq_true.1 hc3 _ (List.getElem_mem hi2))
    exact V_one e2 ho.2.1 ho.2.2)
  have K : Keep γ γ w w' (· = (s, 0)) := keep_only G.base r4 hB hO rfl (fun o' h' => by rw [hSt] at h'; omega) (unf_only r4 r2)
  refine ⟨_, w', hv, r1, γ, GoodAt.mod G (K.weaken fun k e => by subst e; rfl) (Array.getElem?_eq_some_iff.1 htm).1 (fun u hu => ?_) (fun t ht => by simp [refTo] at ht) (fun i u hk hh => ?_)⟩
  · rw [htm] at hu
    cases hu
    refine ⟨g, bs', rfl, hB, hO, r2, by rw [r3, hbl, splice_len (by omega)], hSt, fun i x hxi => ?_⟩
    rw [splice_get (by omega)] at hxi
    by_cases h1 : i < j
    · rw [if_pos h1] at hxi
      obtain ⟨u, e1, e2⟩ := hcell i x hxi
      exact ⟨u, by rw [r6 i (by omega)]; exact e1, R1.keep K (by simp) e2⟩
    · rw [if_neg h1] at hxi
      by_cases h2 : i < j + (cellsOf y).length
      · rw [if_pos h2] at hxi
        obtain ⟨u, e1, e2⟩ := VL_get hvl (i - j) x hxi
        exact ⟨u, by rw [r5 i (by omega) (by omega)]; exact e1, R1.of_V (V_mono K.ext _ _ e2)⟩
      · rw [if_neg h2] at hxi
        obtain ⟨u, e1, e2⟩ := hcell i x hxi
        exact ⟨u, by rw [r6 i (by omega)]; exact e1, R1.keep K (by simp) e2⟩
  · cases i with
    | zero => exact hh
    | succ i =>
      obtain ⟨g', f1, f2, f3⟩ := hh
      rw [htm] at f1
      cases f1
      refine ⟨g, htm, hO, ?_⟩
      rw [r2.cell, r6 i (by
        rcases Nat.lt_or_ge i j with h' | h'
        · exact .inl h'
        · rcases Nat.lt_or_ge i (j + n) with h'' | h''
          · exfalso
            have hm : (List.range' (j + 1) n).contains (i + 1) = true := by
              simp only [List.contains_iff_mem, List.mem_range'_1]
              omega
            rw [hm] at hk
            cases hk
          · exact .inr h''), ← hb.cell]
      exact f3

theorem store_own (G : GoodAt T w0 St0 γ σ a w) {t : TypeId} {s j : Nat} (hn : sizeOfT P t = some 1) {v pv : Value} {y : AV} {xs : List AV} (hq : σ[s]? = some (.own true 1 xs)) (ht : Adr a.tmps s j pv)
    (hyv : V γ w y v) (hnj : y ≠ .junk) (hc2 : j < xs.length) (hc3 : okCell y = true) :
    ∃ ad w', pv = .pointer (some ad) ∧ (storeVar t ad v).run P w = .ok () w' ∧ ∃ γ', GoodAt T w0 St0 γ' (apps T [.mod s (.own true 1 (xs.set j y)) []] σ) a w' := by
  obtain ⟨g, q, c, cs, hv, htm, hl, hB, hO, hb, hsz, hvs⟩ := own_at G hq ht
  simp only [if_true] at hvs
  obtain ⟨hSt, M, hvs⟩ := hvs
  obtain ⟨hcy, hsy, _⟩ := okCell_one hc3
  have hone : v.oneCell' = true := V_one hyv hsy hnj
  obtain ⟨w', bs', r1, r2, r3, r4, r5, r6⟩ := storeVar_run (P := P) (t := t) (n := 1) (g := g) (o := q + j) (v := v) hn hb (by rw [one_cells hone]; rfl) (by omega) (fun u hu => by
    rw [one_cells hone] at hu
    simp only [List.mem_cons, List.not_mem_nil, or_false] at hu
    subst hu
    exact hone)
  have K : Keep γ γ w w' (· = (s, 0)) := keep_only G.base r4 hB hO rfl (fun o' h' => by rw [r2.cell, hb.cell, r6 o' (by omega)]) (unf_only r4 r2)
  refine ⟨_, w', hv, r1, γ, GoodAt.mod G (K.weaken fun k e => by subst e; rfl) (Array.getElem?_eq_some_iff.1 htm).1 (fun u hu => ?_) (fun t ht => by simp [refTo] at ht) (fun i u hk hh => ?_)⟩
  · rw [htm] at hu
    cases hu
    refine R2.of_R1 (x := .own true 1 (xs.set j y)) (.inr ⟨g, q, c, bs', by rw [List.length_set], by rw [List.length_set]; exact hl, hB, hO, r2, by rw [r3]; exact hsz, ?_⟩)
    simp only [if_true]
    refine ⟨hSt, M, VS_mk fun i x hxi => ?_⟩
    have hE : Ext γ (lift γ (s, 0) M) w w := ⟨fun _ _ _ => rfl, fun h => by rw [lift_St]; split; exact Nat.le_max_right _ _; exact Nat.le_refl _, Nat.le_refl _, fun _ _ h => h, fun _ h => .inl h⟩
    have hL : Ext (lift γ (s, 0) M) (lift γ (s, 0) M) w w' := by
      refine ⟨fun h o' ho' => ?_, fun _ => Nat.le_refl _, Nat.le_refl _, fun _ _ h => h, fun _ h => h⟩
      have ho' := (lift_St _ _ _ _ ▸ ho' : o' < if γ.O h = some ((s, 0), true) then max M (γ.St h) else γ.St h)
      by_cases hg' : h = g
      · subst hg'
        rw [hO, if_neg (by intro e; cases e)] at ho'
        rw [r2.cell, hb.cell, r6 o' (by omega)]
      · exact cellAt_of_heap (r4.block h hg') o'
    by_cases hij : i = j
    · subst hij
      rw [List.getElem?_set_self hc2] at hxi
      cases hxi
      refine VE_of (by rw [hcy]; rfl) ?_
      rw [hcy]
      refine ⟨⟨v, ?_, V_mono (hE.trans hL) _ _ hyv⟩, trivial⟩
      rw [r2.cell, Nat.mul_one, r5 _ (Nat.le_refl _) (by omega), one_cells hone, Nat.sub_self]
      rfl
    · rw [List.getElem?_set_ne (fun e => hij e.symm)] at hxi
      obtain ⟨f1, f2⟩ := VE_cells (VS_get hvs i x hxi)
      have hil := (List.getElem?_eq_some_iff.1 hxi).1
      refine VE_of f1 (VC_mono hL _ _ _ (fun i' a' b' => ?_) f2)
      rw [r2.cell, hb.cell, r6 i' (by rw [f1] at b'; omega)]
  · cases i with
    | zero => exact hh
    | succ i =>
      obtain ⟨g', f1, _⟩ := hh
      rw [htm] at f1
      cases f1

theorem store_take (G : GoodAt T w0 St0 γ σ a w) {t : TypeId} {s j : Nat} {k : Key} (hn : sizeOfT P t = some 1) {v pv : Value} {f : Bool} {z1 : Nat} {ys : List AV} {cs : List AV} (hq : σ[s]? = some (.box cs)) (ht : Adr a.tmps s j pv)
    (hrd : RK γ w a.tmps k (.own f z1 ys) v) (hks : k.1 ≠ s) (hj : j < cs.length) {us : List Wr} (h5 : (putKey k (if f then .junk else .sl true false z1 ys)).run U σ = some us) :
    ∃ ad w', pv = .pointer (some ad) ∧ (storeVar t ad v).run P w = .ok () w' ∧ ∃ γ', GoodAt T w0 St0 γ' (apps T (us ++ [.mod s (.box (cs.set j (.own f z1 ys))) [j + 1]]) σ) a w' := by
  obtain ⟨γ1, G1, _, hk2⟩ := take_sound G hrd h5
  obtain ⟨γ2, K2, hown⟩ := hk2 (s, j + 1)
  have hus : ∃ y', us = [.mod k.1 y' []] := by
    obtain ⟨k1, k2⟩ := k
    cases k2 with
    | zero => exact ⟨_, (run_ret h5).symm⟩
    | succ k2 =>
      obtain ⟨q2, _, h8⟩ := run_get h5
      cases q2 <;> first | exact (run_fail h8).elim | exact ⟨_, (run_ret h8).symm⟩
  obtain ⟨y', rfl⟩ := hus
  have hq1 : (apps T [.mod k.1 y' []] σ)[s]? = some (.box cs) := by
    simp only [apps, List.foldl_cons, List.foldl_nil, Wr.app]
    rw [List.getElem?_set_ne hks, List.getElem?_map, hq]
    rfl
  obtain ⟨g, bs, hv, htm, hO, hb, hbl, hSt, hB, hcell⟩ := box_at G1 hq1 ht
  obtain ⟨hO2, _, hSt2⟩ := K2.keep g _ _ hO (by simp)
  have hv1 : v.oneCell' = true := by
    rcases RK.own hrd with ⟨e, _⟩ | ⟨_, _, _, _, e, _⟩ <;> rw [e] <;> rfl
  obtain ⟨w', bs', r1, r2, r3, r4, r5, r6⟩ := storeVar_run (P := P) (t := t) (n := 1) (g := g) (o := j) (v := v) hn hb (by rw [one_cells hv1]; rfl) (by omega) (fun u hu => by
    rw [one_cells hv1] at hu
    simp only [List.mem_cons, List.not_mem_nil, or_false] at hu
    subst hu
    exact hv1)
  have hB2 : γ2.B ≤ g := by rw [K2.B]; exact hB
  have K3 : Keep γ2 γ2 w w' (· = (s, 0)) := keep_only K2.base r4 hB2 hO2 rfl (fun o' h' => by rw [hSt2, hSt] at h'; omega) (unf_only r4 r2)
  have K : Keep γ1 γ2 w w' (Of s) := (K2.weaken fun k e => by subst e; rfl).trans (K3.weaken fun k e => by subst e; rfl)
  refine ⟨_, w', hv, r1, γ2, ?_⟩
  rw [apps_append]
  refine GoodAt.mod G1 K (Array.getElem?_eq_some_iff.1 htm).1 (fun u hu => ?_) (fun t ht => by simp [refTo] at ht) (fun i u hk hh => ?_)
  · rw [htm] at hu
    cases hu
    refine ⟨g, bs', rfl, hB2, hO2, r2, by rw [r3, hbl, List.length_set], by rw [hSt2, hSt], fun i x hxi => ?_⟩
    by_cases hij : i = j
    · subst hij
      rw [List.getElem?_set_self hj] at hxi
      cases hxi
      refine ⟨v, ?_, R1.keep (x := .own f z1 ys) K3 (by simp) hown⟩
      rw [r5 i (Nat.le_refl _) (by omega), one_cells hv1, Nat.sub_self]
      rfl
    · rw [List.getElem?_set_ne (fun e => hij e.symm)] at hxi
      obtain ⟨u, e1, e2⟩ := hcell i x hxi
      exact ⟨u, by rw [r6 i (by omega)]; exact e1, R1.keep K3 (by simp) (R1.keep K2 (by simp; omega) e2)⟩
  · cases i with
    | zero => exact hh
    | succ i =>
      obtain ⟨g', f1, f2, f3⟩ := hh
      rw [htm] at f1
      cases f1
      refine ⟨g, htm, hO2, ?_⟩
      have hij : i ≠ j := by
        intro e
        subst e
        simp at hk
      rw [r2.cell, r6 i (by omega), ← hb.cell]
      exact f3

theorem store_sound {o : Oper} {t : TypeId} {x y : Operand} {x' y' : Ar} {n : Nat} (hop : o.op = .store t x y) (hn : sizeOfT P t = some n) (hx : ArOk x x') (hy : ArOk y y') (hd : o.dst = none) : OpSound P T o (semStore n x' y') := by
  intro w0 St0 γ σ a w U ws G h hok Q
  obtain ⟨tg, h1, h2⟩ := run_bind h
  have ht := target_sound G hx h1
  cases tg with
  | gl i q => exact (run_fail h2).elim
  | ro cs => exact (run_fail h2).elim
  | ns s j cs =>
    obtain ⟨M, g, q, hv, ho, hc⟩ := ht
    obtain ⟨z, h3, h4⟩ := run_bind h2
    have hz := rdC_sound G hy h3
    cases hk : isNum z with
    | none => simp only [hk] at h4; exact (run_fail h4).elim
    | some k =>
      cases cs with
      | nil => simp only [hk, List.head?_nil, Option.bind_none] at h4; exact (run_fail h4).elim
      | cons c cs =>
        simp only [hk, List.head?_cons, Option.bind_some] at h4
        cases hk' : isNum c with
        | none => simp only [hk'] at h4; exact (run_fail h4).elim
        | some k' =>
          simp only [hk'] at h4
          obtain ⟨⟨hn1, hkk⟩, hq4⟩ := run_if h4
          clear h4
          subst hn1
          subst hkk
          obtain ⟨r, h5, h6⟩ := run_bind hq4
          -- the number that is stored
          have hnum : ∃ m, a.eval y = .int k m := by
            cases z with
            | int k0 m =>
              simp only [isNum, Option.some.injEq] at hk
              subst hk
              obtain ⟨γ', hv⟩ := hz.V (y' := .int k0 m) rfl
              exact ⟨m, hv⟩
            | anyint k0 =>
              simp only [isNum, Option.some.injEq] at hk
              subst hk
              obtain ⟨γ', hv⟩ := hz.V (y' := .anyint k0) rfl
              exact hv
            | _ => simp [isNum] at hk
          obtain ⟨m, hm⟩ := hnum
          obtain ⟨⟨u, hu, huv⟩, _⟩ := hc
          have huk : ∃ m', u = .int k m' := by
            cases c with
            | int k0 m' =>
              simp only [isNum, Option.some.injEq] at hk'
              subst hk'
              exact ⟨m', huv⟩
            | anyint k0 =>
              simp only [isNum, Option.some.injEq] at hk'
              subst hk'
              exact huv
            | _ => simp [isNum] at hk'
          obtain ⟨m', rfl⟩ := huk
          cases r with
          | own f z' xs =>
            cases f with
            | false => exact (run_fail h6).elim
            | true =>
              obtain ⟨vk, hrk⟩ := look_at G h5 (by simp)
              have hown := RK.own hrk
              have hgB := G.own g _ ho
              obtain ⟨hSt, hB⟩ := G.nest g _ ho
              obtain ⟨bs, hb⟩ : ∃ bs, Blk w g bs := by
                cases hh : w.heap[g]? with
                | none => simp [cellAt, World.cell?, hh] at hu
                | some ob =>
                  cases ob with
                  | cells bs e fz => exact ⟨bs, e, fz.1, fz.2, hh, G.unf g bs e fz.1 fz.2 hB hh⟩
                  | _ => simp [cellAt, World.cell?, hh] at hu
              have hq : q < bs.size := by
                rw [hb.cell] at hu
                exact (Array.getElem?_eq_some_iff.1 hu).1
              obtain ⟨w', bs', r1, r2, r3, r4, r5, r6⟩ := storeVar_run (P := P) (t := t) (n := 1) (g := g) (o := q) (v := a.eval y) hn hb (by rw [hm]; rfl) (by omega) (by rw [hm]; simp [Value.cells, Value.oneCell'])
              have hN : NumTurn w w' := by
                refine ⟨fun g' o' u' hu' => ?_⟩
                by_cases eg : g' = g
                · subst eg
                  rw [hb.cell] at hu'
                  rw [r2.cell]
                  by_cases eo : o' = q
                  · subst eo
                    rw [r5 o' (Nat.le_refl _) (by omega)]
                    rw [hb.cell, hu'] at hu
                    cases hu
                    refine ⟨_, by rw [hm]; simp [Value.cells], .inr ⟨k, m', m, rfl, rfl⟩⟩
                  · rw [r6 o' (by omega)]
                    exact ⟨u', hu', .inl rfl⟩
                · rw [cellAt_of_heap (r4.block g' eg)]
                  exact ⟨u', hu', .inl rfl⟩
              have K : Keep γ γ w w' (· = (s, j)) := keep_only G.base r4 hB ho rfl (fun o' h' => by rw [hSt] at h'; omega) (unf_only r4 r2)
              refine wp_store hop hd hv r1 ⟨γ, putKey_sound G hrk (own_nptr hown) h6 K ?_ (by simp [refTo])⟩ Q
              rcases hown with ⟨e1, e2⟩ | ⟨g0, o0, c0, cs0, q1, q2, q3, q4, q5, q6, q7⟩
              · subst e2
                exact .inl ⟨e1, rfl⟩
              · have hne : g0 ≠ g := by
                  intro e
                  subst e
                  rw [q4] at ho
                  cases ho
                simp only [if_true] at q7
                obtain ⟨q7, M0, q8⟩ := q7
                refine .inr ⟨g0, o0, c0, cs0, by rw [hvL_len]; exact q1, by rw [hvL_len]; exact q2, q3, q4, q5.of_heap (r4.block g0 hne), q6, ?_⟩
                simp only [if_true]
                exact ⟨q7, M0, VS_hv hN _ _ _ _ q8⟩
          | _ => exact (run_fail h6).elim
  | at_ s j =>
    obtain ⟨⟨z, k⟩, h3, h4⟩ := run_bind h2
    have hrd := rd_sound G hy h3
    have plain : RM.run U σ ((RM.opt (viewOf z)).bind fun y => RM.get s fun
          | .box cs => if (cellsOf y).length = n ∧ j + n ≤ cs.length ∧ (cellsOf y).all okCell = true then .ret [.mod s (.box (splice cs j (cellsOf y))) (List.range' (j + 1) n)] else .fail
          | .own true 1 xs => if n = 1 ∧ j < xs.length ∧ okCell y then .ret [.mod s (.own true 1 (xs.set j y)) []] else .fail
          | _ => .fail) = some ws → Oper.wp P o a w (Post T w0 St0 a.tmps.size (apps T ws σ)) Q := by
      intro h
      obtain ⟨y', h5, h6⟩ := run_bind h
      have hyv := rd_view G hy h3 (run_opt h5)
      have hnj := view_ne_junk (run_opt h5)
      obtain ⟨q, hq, h7⟩ := run_get h6
      cases q with
      | box cs =>
        obtain ⟨⟨hc1, hc2, hc3⟩, h7⟩ := run_if h7
        have h7 := run_ret h7
        subst h7
        obtain ⟨ad, w', hv, r1, hG⟩ := store_box G (P := P) hn hq ht hyv hnj hc1 hc2 hc3
        exact wp_store hop hd hv r1 hG Q
      | own f z1 xs =>
        have hz : f = true ∧ z1 = 1 := by
          revert h7
          split
          · rename_i e; cases e
          · rename_i e; cases e; intro _; exact ⟨rfl, rfl⟩
          · intro h; exact (run_fail h).elim
        obtain ⟨rfl, rfl⟩ := hz
        obtain ⟨⟨hc1, hc2, hc3⟩, h7⟩ := run_if h7
        have h7 := run_ret h7
        subst h7
        subst hc1
        obtain ⟨ad, w', hv, r1, hG⟩ := store_own G (P := P) hn hq ht hyv hnj hc2 hc3
        exact wp_store hop hd hv r1 hG Q
      | _ => exact (run_fail h7).elim
    cases z with
    | own f z1 ys =>
      cases k with
      | none => exact hrd.elim
      | some k =>
        obtain ⟨⟨hn1, hks⟩, h4⟩ := run_if h4
        obtain ⟨us, h5, h6⟩ := run_bind h4
        obtain ⟨q, hq, h7⟩ := run_get h6
        cases q with
        | box cs =>
          obtain ⟨hj, h7⟩ := run_if h7
          have h7 := run_ret h7
          subst h7
          subst hn1
          obtain ⟨ad, w', hv, r1, hG⟩ := store_take G (P := P) hn hq ht hrd hks hj h5
          exact wp_store hop hd hv r1 hG Q
        | _ => exact (run_fail h7).elim
    | _ => exact plain h4
end
end Go.Ev

/-! text E18 -/
set_option linter.unusedVariables false
namespace Go.Ev
open Go.RowKit

section
variable {P : Program} {T : List Nat} {w0 : World} {St0 : Nat → Nat} {γ : Gh} {σ : List AV} {a : Act} {w : World} {U : List Nat}

theorem run_ite {α : Type} {c : Prop} [Decidable c] {m m' : RM α} {r : α} (h : (if c then m else m').run U σ = some r) : (c ∧ m.run U σ = some r) ∨ (¬ c ∧ m'.run U σ = some r) := by
  by_cases hc : c
  · rw [if_pos hc] at h; exact .inl ⟨hc, h⟩
  · rw [if_neg hc] at h; exact .inr ⟨hc, h⟩
theorem rdC_int (G : GoodAt T w0 St0 γ σ a w) {o : Operand} {x : Ar} (hx : ArOk o x) {k : IntKind} {n : Int} (h : (rdC x).run U σ = some (.int k n)) : a.eval o = .int k n := by
  obtain ⟨γ', hv⟩ := (rdC_sound G hx h).V (y' := .int k n) rfl
  exact hv
theorem rdC_str (G : GoodAt T w0 St0 γ σ a w) {o : Operand} {x : Ar} (hx : ArOk o x) {s : ByteArray} (h : (rdC x).run U σ = some (.str s)) : a.eval o = .string s := by
  obtain ⟨γ', hv⟩ := (rdC_sound G hx h).V (y' := .str s) rfl
  exact hv
theorem rdC_bool (G : GoodAt T w0 St0 γ σ a w) {o : Operand} {x : Ar} (hx : ArOk o x) {b : Bool} (h : (rdC x).run U σ = some (.bool b)) : a.eval o = .bool b := by
  obtain ⟨γ', hv⟩ := (rdC_sound G hx h).V (y' := .bool b) rfl
  exact hv
theorem rdC_any (G : GoodAt T w0 St0 γ σ a w) {o : Operand} {x : Ar} (hx : ArOk o x) {k : IntKind} (h : (rdC x).run U σ = some (.anyint k)) : ∃ n, a.eval o = .int k n := by
  obtain ⟨γ', hv⟩ := (rdC_sound G hx h).V (y' := .anyint k) rfl
  exact hv

theorem eqGuard_int (op : BinOp) (t : TypeId) (x y : Operand) (k k' : IntKind) (m n : Int) (w : World) : (eqGuard op t x y (.int k m) (.int k' n)).run P w = .ok () w := by
  unfold eqGuard
  cases op <;> rfl
theorem eqGuard_str (op : BinOp) (t : TypeId) (x y : Operand) (m n : ByteArray) (w : World) : (eqGuard op t x y (.string m) (.string n)).run P w = .ok () w := by
  unfold eqGuard
  cases op <;> rfl
theorem run_bin {o : Oper} {op : BinOp} {t : TypeId} {x y : Operand} {b : TypeId} (hop : o.op = .binOp op t x y b) {v : Value} (hg : (eqGuard op t x y (a.eval x) (a.eval y)).run P w = .ok () w)
    (hr : (binOp op t (a.eval x) (a.eval y)).run P w = .ok v w) : (execOp a.eval o).run P w = .ok (.value v) w := by
  simp only [execOp, hop, Sem.run_bind, Sem.run_pure, Result.andThen, hg, hr]
theorem shift_run {op : BinOp} {k k' : IntKind} {m n : Int} {r : AV} (h : shiftBin op k m n = some r) (t : TypeId) (w : World) : ∃ v, (binOp op t (.int k m) (.int k' n)).run P w = .ok v w ∧ ∀ γ, V γ w r v := by
  unfold shiftBin at h
  by_cases hn : n < 0
  · rw [if_pos hn] at h; cases h
  · rw [if_neg hn] at h
    cases op <;> first | (cases h; done) | (simp at h; subst h; refine ⟨_, ?_, fun _ => rfl⟩; simp [binOp, Op.shift, hn])
theorem int_run {op : BinOp} {k : IntKind} {m n : Int} {r : AV} (h : intBin op k m n = some r) (t : TypeId) (w : World) : ∃ v, (binOp op t (.int k m) (.int k n)).run P w = .ok v w ∧ ∀ γ, V γ w r v := by
  cases op <;> simp only [intBin] at h <;>
    first
    | (cases h; done)
    | (simp only [Option.some.injEq] at h; subst h; refine ⟨_, ?_, fun _ => rfl⟩; simp [binOp, Op.intArith, Op.intBits, Op.intCmp])
    | (split at h
       · cases h
       · rename_i hn; simp only [Option.some.injEq] at h; subst h; refine ⟨_, ?_, fun _ => rfl⟩; simp [binOp, Op.intDiv, hn])
theorem str_run {op : BinOp} {m n : ByteArray} {r : AV} (h : strBin op m n = some r) (t : TypeId) (w : World) : ∃ v, (binOp op t (.string m) (.string n)).run P w = .ok v w ∧ ∀ γ, V γ w r v := by
  cases op <;> simp only [strBin] at h <;>
    first
    | (cases h; done)
    | (simp only [Option.some.injEq] at h; subst h; refine ⟨_, ?_, fun _ => rfl⟩; simp [binOp, Op.stringOp])
    | (split at h
       · rename_i hn
         simp only [Option.some.injEq] at h
         subst h
         refine ⟨_, ?_, fun _ => rfl⟩
         have h3 : ¬ (((m.size + n.size : Nat) : Int) > IntKind.i64.max) := by
           have : IntKind.i64.max = 9223372036854775807 := rfl
           omega
         simp only [binOp, Op.stringOp]
         rw [if_neg h3]
         rfl
       · cases h)
theorem xor_any (k : IntKind) (m n : Int) (t : TypeId) (w : World) : ∃ r, (binOp .xor t (.int k m) (.int k n)).run P w = .ok (.int k r) w := by
  obtain ⟨v, h1, h2⟩ := int_run (P := P) (op := .xor) (k := k) (m := m) (n := n) rfl t w
  have h3 := h2 ⟨0, fun _ => 0, fun _ => none, fun _ => none, fun _ => False⟩
  exact ⟨_, by rw [h1, show v = _ from h3]⟩

theorem bin_sound {o : Oper} {d : Nat} {op : BinOp} {t : TypeId} {x y : Operand} {b : TypeId} {x' y' : Ar} (hop : o.op = .binOp op t x y b) (hx : ArOk x x') (hy : ArOk y y') (hd : o.dst = some d) : OpSound P T o (semBin d op x' y') := by
  intro w0 St0 γ σ a w U ws G h hok Q
  obtain ⟨p, h1, h⟩ := run_bind h
  obtain ⟨q, h2, h⟩ := run_bind h
  cases p with
  | int k m =>
    have e1 := rdC_int G hx h1
    cases q with
    | int k' n =>
      have e2 := rdC_int G hy h2
      have hg : (eqGuard op t x y (a.eval x) (a.eval y)).run P w = .ok () w := by rw [e1, e2]; exact eqGuard_int _ _ _ _ _ _ _ _ _
      dsimp only at h
      rcases run_ite h with ⟨_, h⟩ | ⟨_, h⟩
      · obtain ⟨r, h3, h4⟩ := run_bind h
        have h4 := run_ret h4
        subst h4
        obtain ⟨v, h5, h6⟩ := shift_run (P := P) (k' := k') (run_opt h3) t w
        exact finV G (run_bin hop hg (by rw [e1, e2]; exact h5)) hd hok (h6 _) Q
      · obtain ⟨hk, h8⟩ := run_if h
        clear h
        subst hk
        obtain ⟨r, h3, h4⟩ := run_bind h8
        have h4 := run_ret h4
        subst h4
        obtain ⟨v, h5, h6⟩ := int_run (P := P) (run_opt h3) t w
        exact finV G (run_bin hop hg (by rw [e1, e2]; exact h5)) hd hok (h6 _) Q
    | _ => exact (run_fail h).elim
  | str s =>
    have e1 := rdC_str G hx h1
    cases q with
    | str s' =>
      have e2 := rdC_str G hy h2
      have hg : (eqGuard op t x y (a.eval x) (a.eval y)).run P w = .ok () w := by rw [e1, e2]; exact eqGuard_str _ _ _ _ _ _ _
      obtain ⟨r, h3, h4⟩ := run_bind h
      have h4 := run_ret h4
      subst h4
      obtain ⟨v, h5, h6⟩ := str_run (P := P) (run_opt h3) t w
      exact finV G (run_bin hop hg (by rw [e1, e2]; exact h5)) hd hok (h6 _) Q
    | _ => exact (run_fail h).elim
  | anyint k =>
    obtain ⟨m, e1⟩ := rdC_any G hx h1
    cases q with
    | int k' n =>
      have e2 := rdC_int G hy h2
      have hg : (eqGuard op t x y (a.eval x) (a.eval y)).run P w = .ok () w := by rw [e1, e2]; exact eqGuard_int _ _ _ _ _ _ _ _ _
      obtain ⟨⟨hk, ho⟩, h8⟩ := run_if h
      clear h
      have h4 := run_ret h8
      subst hk ho h4
      obtain ⟨r, h5⟩ := xor_any (P := P) k m n t w
      exact finV (x := .anyint k) G (run_bin hop hg (by rw [e1, e2]; exact h5)) hd hok ⟨_, rfl⟩ Q
    | _ => exact (run_fail h).elim
  | _ => exact (run_fail h).elim

theorem un_sound {o : Oper} {d : Nat} {op : UnOp} {t : TypeId} {x : Operand} {x' : Ar} (hop : o.op = .unOp op t x) (hx : ArOk x x') (hd : o.dst = some d) : OpSound P T o (semUn d op x') := by
  intro w0 St0 γ σ a w U ws G h hok Q
  obtain ⟨p, h1, h⟩ := run_bind h
  cases p with
  | int k n =>
    have e1 := rdC_int G hx h1
    cases op with
    | neg =>
      have h4 := run_ret h
      subst h4
      exact finV (v := .int k (k.wrap (0 - n))) G (by simp [execOp, hop, e1, Op.unary, Op.intArith]) hd hok rfl Q
    | xor =>
      have h4 := run_ret h
      subst h4
      exact finV (v := .int k (k.wrap ((BitVec.ofInt k.bits (if k.signed then -1 else k.max) ^^^ BitVec.ofInt k.bits n).toNat))) G (by simp [execOp, hop, e1, Op.unary, Op.intBits]) hd hok rfl Q
    | _ => exact (run_fail h).elim
  | bool b =>
    have e1 := rdC_bool G hx h1
    cases op with
    | not =>
      have h4 := run_ret h
      subst h4
      exact finV (v := .bool (!b)) G (by simp [execOp, hop, e1, Op.unary]) hd hok rfl Q
    | _ => exact (run_fail h).elim
  | _ => cases op <;> exact (run_fail h).elim

theorem conv_sound {o : Oper} {d : Nat} {s t : TypeId} {x : Operand} {x' : Ar} {ks k : IntKind} (hop : o.op = .convert s t x) (h1 : P.underlying s = some (.int ks)) (h2 : P.underlying t = some (.int k)) (hx : ArOk x x') (hd : o.dst = some d) : OpSound P T o (semConv d k x') := by
  intro w0 St0 γ σ a w U ws G h hok Q
  obtain ⟨⟨kk, n⟩, h3, h⟩ := run_bind h
  have e1 := rdInt_sound G hx h3
  have h4 := run_ret h
  subst h4
  refine finV (v := .int k (k.wrap n)) G ?_ hd hok rfl Q
  simp only [execOp, hop, e1, convert, Sem.run_bind, run_underlying' h1, run_underlying' h2, Result.andThen, Conv.intToInt, Sem.run_pure]
end
end Go.Ev

/-! text E19 -/
set_option linter.unusedVariables false
namespace Go.Ev
open Go.RowKit

section
variable {P : Program} {T : List Nat} {w0 : World} {St0 : Nat → Nat} {γ : Gh} {σ : List AV} {a : Act} {w : World} {U : List Nat}

theorem sizeOfT_info {t : TypeId} {n : Nat} (h : sizeOfT P t = some n) : ∃ i, P.info? t = some i ∧ i.size = n := by
  unfold sizeOfT at h
  cases hi : P.info? t with
  | none => simp [hi] at h
  | some i => simp [hi] at h; exact ⟨i, rfl, h⟩
theorem run_part_one {t : TypeId} (h : aggOf P t = some none) {cs : Array Value} {off : Nat} {v : Value} (hv : cs[off]? = some v) (w : World) : (part t cs off).run P w = .ok v w := by
  unfold part
  simp only [Sem.run_bind, run_isAgg h, Result.andThen, Option.isSome_none, Bool.false_eq_true, if_false, hv, Sem.run_pure]
theorem run_part_many {t : TypeId} {k : Nat} (h : aggOf P t = some (some k)) {cs : Array Value} {off : Nat} (w : World) : (part t cs off).run P w = .ok (.agg (cs.extract off (off + k))) w := by
  obtain ⟨d, i, h1, h2, h3⟩ := aggOf_cases h
  unfold part
  simp only [Sem.run_bind, run_isAgg h, Result.andThen, Option.isSome_some, if_true, run_sizeOf' h2, Sem.run_pure, h3.2]
theorem VL_take_drop {cs : List AV} {vs : List Value} (h : VL γ w cs vs) (off k : Nat) : VL γ w ((cs.drop off).take k) ((vs.drop off).take k) := by
  have hl := VL_len h
  refine VL_mk (by simp [hl]) fun j x hx => ?_
  rw [List.getElem?_take] at hx ⊢
  split at hx
  · rename_i hj
    rw [if_pos hj, List.getElem?_drop]
    rw [List.getElem?_drop] at hx
    exact VL_get h _ x hx
  · cases hx
theorem extract_list (vs : List Value) (off k : Nat) : vs.toArray.extract off (off + k) = ((vs.drop off).take k).toArray := by
  simp [List.extract_toArray, Nat.add_sub_cancel_left]

/-- A part of a struct or an array. -/
theorem part_V {t : TypeId} {n : Option Nat} (hg : aggOf P t = some n) {cs : List AV} {vs : List Value} (h : VL γ w cs vs) {off : Nat} {y : AV}
    (hy : match n with
      | none => cs[off]? = some y
      | some k => y = .agg ((cs.drop off).take k)) : ∃ v, (part t vs.toArray off).run P w = .ok v w ∧ V γ w y v := by
  cases n with
  | none =>
    obtain ⟨u, h1, h2⟩ := VL_get h off y hy
    exact ⟨u, run_part_one hg (by simpa using h1) w, h2⟩
  | some k =>
    subst hy
    exact ⟨_, run_part_many hg w, _, by rw [extract_list], VL_take_drop h off k⟩

theorem fld_sound {o : Oper} {d : Nat} {s : TypeId} {f : Nat} {x : Operand} {x' : Ar} {fs : Array Field} {fl : Field} {n : Option Nat} (hop : o.op = .field s x f) (hu : P.underlying s = some (.struct fs)) (hf : fs[f]? = some fl)
    (hg : aggOf P fl.type = some n) (hx : ArOk x x') (hd : o.dst = some d) : OpSound P T o (semFld d fl.offset n x') := by
  intro w0 St0 γ σ a w U ws G h hok Q
  obtain ⟨p, h1, h⟩ := run_bind h
  have hv := rdV_sound G hx h1
  cases p with
  | agg cs =>
    obtain ⟨vs, e, hl⟩ := hv
    have fin : ∀ {y v}, (part fl.type vs.toArray fl.offset).run P w = .ok v w → V γ w y v → ws = [.set d y] → Oper.wp P o a w (Post T w0 St0 a.tmps.size (apps T ws σ)) Q := by
      intro y v hr hv e2
      subst e2
      refine finV G ?_ hd hok hv Q
      simp only [execOp, hop, Instr.field, Sem.run_bind, run_underlying' hu, Result.andThen, hf, e, asAgg, Sem.run_pure, hr]
    cases n with
    | none =>
      cases hc : cs[fl.offset]? with
      | none => simp only [hc] at h; exact (run_fail h).elim
      | some y =>
        simp only [hc] at h
        obtain ⟨v, hr, hv⟩ := part_V (n := none) hg hl hc
        exact fin hr hv (run_ret h).symm
    | some k =>
      obtain ⟨_, h⟩ := run_if h
      obtain ⟨v, hr, hv⟩ := part_V (n := some k) hg hl rfl
      exact fin hr hv (run_ret h).symm
  | _ => exact (run_fail h).elim

theorem idx_sound {o : Oper} {d : Nat} {t e : TypeId} {x i : Operand} {x' i' : Ar} {len z : Nat} {n : Option Nat} (hop : o.op = .index t x i) (hu : P.underlying t = some (.array len e)) (hz : sizeOfT P e = some z)
    (hg : aggOf P e = some n) (hx : ArOk x x') (hi : ArOk i i') (hd : o.dst = some d) : OpSound P T o (semIdx d len z n x' i') := by
  intro w0 St0 γ σ a w U ws G h hok Q
  obtain ⟨⟨k, m⟩, h1, h⟩ := run_bind h
  have ei := rdInt_sound G hi h1
  obtain ⟨p, h2, h⟩ := run_bind h
  have hv := rdV_sound G hx h2
  obtain ⟨inf, hinf, hsz⟩ := sizeOfT_info hz
  cases p with
  | agg cs =>
    obtain ⟨vs, ev, hl⟩ := hv
    obtain ⟨hm, h⟩ := run_if h
    have fin : ∀ {y v}, (part e vs.toArray (m.toNat * z)).run P w = .ok v w → V γ w y v → ws = [.set d y] → Oper.wp P o a w (Post T w0 St0 a.tmps.size (apps T ws σ)) Q := by
      intro y v hr hv e2
      subst e2
      refine finV G ?_ hd hok hv Q
      simp only [execOp, hop, Instr.index, ei, asIntOf, Sem.run_bind, Sem.run_pure, Result.andThen, run_underlying' hu, ev]
      rw [if_pos hm]
      simp only [Sem.run_bind, run_sizeOf' hinf, Result.andThen, hsz, hr]
    cases n with
    | none =>
      dsimp only at h
      cases hc : cs[m.toNat * z]? with
      | none => simp only [hc] at h; exact (run_fail h).elim
      | some y =>
        simp only [hc] at h
        obtain ⟨v, hr, hv⟩ := part_V (n := none) hg hl hc
        exact fin hr hv (run_ret h).symm
    | some k =>
      obtain ⟨_, h⟩ := run_if h
      obtain ⟨v, hr, hv⟩ := part_V (n := some k) hg hl rfl
      exact fin hr hv (run_ret h).symm
  | _ => exact (run_fail h).elim

theorem idxS_sound {o : Oper} {d : Nat} {t : TypeId} {x i : Operand} {x' i' : Ar} (hop : o.op = .index t x i) (hu : P.underlying t = some .string) (hx : ArOk x x') (hi : ArOk i i') (hd : o.dst = some d) : OpSound P T o (semIdxS d x' i') := by
  intro w0 St0 γ σ a w U ws G h hok Q
  obtain ⟨⟨k, m⟩, h1, h⟩ := run_bind h
  have ei := rdInt_sound G hi h1
  obtain ⟨p, h2, h⟩ := run_bind h
  cases p with
  | str s =>
    have es := rdC_str G hx h2
    obtain ⟨hm, h⟩ := run_if h
    cases hb : s[m.toNat]? with
    | none => simp only [hb] at h; exact (run_fail h).elim
    | some b =>
      simp only [hb] at h
      have h := run_ret h
      subst h
      refine finV (v := .int .u8 b.toNat) G ?_ hd hok rfl Q
      simp only [execOp, hop, Instr.index, ei, asIntOf, Sem.run_bind, Sem.run_pure, Result.andThen, run_underlying' hu, es]
      rw [if_pos hm, hb]
      rfl
  | _ => exact (run_fail h).elim

theorem Now.row {tmps : Array Value} {f : Bool} {z : Nat} {xs : List AV} {v : Value} (h : Now γ w tmps (.own f z xs) v) : ∃ A c, v = .slice A xs.length c ∧ (xs ≠ [] → A ≠ none) := by
  rcases h with ⟨γ', h⟩ | ⟨k, h⟩
  · exact h.elim
  · rcases RK.own h with ⟨e1, e2⟩ | ⟨g, o, c, cs, e1, _⟩
    · subst e2; exact ⟨none, 0, e1, fun h => absurd rfl h⟩
    · exact ⟨_, c, e1, fun _ => by simp⟩
theorem V_sl {γ : Gh} {w : World} {fr nn : Bool} {z : Nat} {xs : List AV} {v : Value} (h : V γ w (.sl fr nn z xs) v) : ∃ A c, v = .slice A xs.length c ∧ ((nn || !xs.isEmpty) = true → A ≠ none) := by
  obtain ⟨A, c, h1, _, h3, _⟩ := h
  refine ⟨A, c, h1, fun h e => ?_⟩
  obtain ⟨e1, e2, _⟩ := h3 e
  subst e1 e2
  cases h
theorem V_dsl {γ : Gh} {w : World} {nn : Bool} {z : Nat} {xs : List AV} {v : Value} (h : V γ w (.dsl nn z xs) v) : ∃ A c, v = .slice A xs.length c ∧ ((nn || !xs.isEmpty) = true → A ≠ none) := by
  obtain ⟨A, c, h1, _, h3, _⟩ := h
  refine ⟨A, c, h1, fun h e => ?_⟩
  obtain ⟨e1, e2, _⟩ := h3 e
  subst e1 e2
  cases h
theorem now_sl {tmps : Array Value} {fr nn : Bool} {z : Nat} {xs : List AV} {v : Value} (h : Now γ w tmps (.sl fr nn z xs) v) : ∃ A c, v = .slice A xs.length c ∧ ((nn || !xs.isEmpty) = true → A ≠ none) := by
  obtain ⟨γ', h⟩ := h.V (y' := .sl fr nn z xs) rfl
  exact V_sl h
theorem now_dsl {tmps : Array Value} {nn : Bool} {z : Nat} {xs : List AV} {v : Value} (h : Now γ w tmps (.dsl nn z xs) v) : ∃ A c, v = .slice A xs.length c ∧ ((nn || !xs.isEmpty) = true → A ≠ none) := by
  rcases h with ⟨γ', h⟩ | ⟨⟨s, j⟩, h⟩
  · exact V_dsl h
  · cases j with
    | zero => exact V_dsl h.2
    | succ j => exact V_dsl h.2
theorem now_nils {tmps : Array Value} {v : Value} (h : Now γ w tmps .nils v) : v = .slice none 0 0 := by
  obtain ⟨γ', h⟩ := h.V (y' := .nils) rfl
  exact h

theorem len_sound {o : Oper} {d : Nat} {c : Call} {x : Operand} {x' : Ar} {t : TypeId} {s : Bool} (hop : o.op = .call c) (hc : c.callee = .builtin .len) (ha : c.args.toList = [x]) (ht : c.argTypes[0]? = some t)
    (hu : if s then P.underlying t = some .string else ∃ e, P.underlying t = some (.slice e)) (hx : ArOk x x') (hd : o.dst = some d) : OpSound P T o (semLen d s x') := by
  intro w0 St0 γ σ a w U ws G h hok Q
  obtain ⟨p, h1, h⟩ := run_bind h
  have hn := rdC_sound G hx h1
  have hargs : c.args = #[x] := by
    cases hca : c.args; rw [hca] at ha; simp at ha; rw [ha]
  have hsl : ∀ {A n k}, a.eval x = .slice A n k → s = false → (execOp a.eval o).run P w = .ok (.value (.int .i64 n)) w := by
    intro A n k e hs
    subst hs
    simp only [Bool.false_eq_true, if_false] at hu
    obtain ⟨el, hu⟩ := hu
    simp [execOp, hop, resolve, hc, hargs, invoke, builtin, Builtin.len_, ht, run_underlying' hu, e, Result.andThen, goInt]
  cases p with
  | sl fr nn z xs =>
    obtain ⟨A, k, e, _⟩ := now_sl hn
    obtain ⟨hs, h⟩ := run_ifn h
    have h := run_ret h
    subst h
    exact finV G (hsl e (by simpa using hs)) hd hok rfl Q
  | own f z xs =>
    obtain ⟨A, k, e, _⟩ := hn.row
    obtain ⟨hs, h⟩ := run_ifn h
    have h := run_ret h
    subst h
    exact finV G (hsl e (by simpa using hs)) hd hok rfl Q
  | dsl nn z xs =>
    obtain ⟨A, k, e, _⟩ := now_dsl hn
    obtain ⟨hs, h⟩ := run_ifn h
    have h := run_ret h
    subst h
    exact finV G (hsl e (by simpa using hs)) hd hok rfl Q
  | nils =>
    have e := now_nils hn
    obtain ⟨hs, h⟩ := run_ifn h
    have h := run_ret h
    subst h
    exact finV G (hsl e (by simpa using hs)) hd hok rfl Q
  | str b =>
    have e := rdC_str G hx h1
    obtain ⟨hs, h⟩ := run_if h
    have h := run_ret h
    subst h
    have hs : s = true := by simpa using hs
    subst hs
    simp only [if_true] at hu
    refine finV (v := .int .i64 b.size) G ?_ hd hok rfl Q
    simp [execOp, hop, resolve, hc, hargs, invoke, builtin, Builtin.len_, ht, run_underlying' hu, e, Result.andThen, goInt]
  | _ => exact (run_fail h).elim
end
end Go.Ev
