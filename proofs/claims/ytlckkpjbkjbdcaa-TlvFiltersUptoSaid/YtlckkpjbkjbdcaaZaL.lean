/- For all lists a, b and every type: the values of the type in both lists, one behind the other, are those of the first and then those of the second, and all 256 types together have as many values as a has; where the arguments are together of bulk at most 1048576. -/
import Derived.Test.YtlckkpjbkjbdcaaZa4
set_option linter.unusedVariables false
namespace Go.Proofs.Ytlckkpjbkjbdcaa
open Go Go.Ev Go.RowKit
open Go.Proofs (Try.prog)

theorem filtersLaw : ∀ ys, TyAll Try.prog 10 Try.f3.params.toList ys → szA.szL ys ≤ 1048576 → FnOk Try.prog 3 ys (.bool true) := by
  intro ys h hs
  rw [Try.params3] at h
  obtain ⟨y1, r1, rfl, t1, _, y2, r2, rfl, t2, _, y3, r3, rfl, t3, _, rfl⟩ := h
  obtain ⟨a, rfl⟩ := Ty_tlvs (m := 6) t1
  obtain ⟨b, rfl⟩ := Ty_tlvs (m := 6) t2
  obtain ⟨k, rfl⟩ := Ty_u8 (m := 9) u5 t3
  have e : ∀ l, argOf Try.prog 22 [slT l] = slT l := fun l => by simp only [argOf, u22]; rfl
  have e' : argOf Try.prog 5 [bA k] = bA k := by simp only [argOf, u5]; rfl
  rw [e, e, e'] at hs ⊢
  simp only [szA.szL] at hs
  obtain ⟨a1, a2⟩ := sz_tlvs (l := a) (n := 1048576) (by omega)
  obtain ⟨b1, b2⟩ := sz_tlvs (l := b) (n := 1048576) (by omega)
  exact Filters_ok a b k ⟨by omega, fun t ht => by have := a2 t ht; omega⟩ ⟨by omega, fun t ht => by have := b2 t ht; omega⟩ (by omega)

theorem filtersOwn : ownKnob Try.prog.godebug = none := by kernel_rfl
set_option maxRecDepth 100000 in
theorem filtersLifted (os : Os) (started : os.Started) (H : Type) (enc : TypeId × Value → H) (F : Stop.Interp) :
    ReturnsInHanded {} Try.checked os 3 .any ((Rows.OpenSpec.upto Rows.tlvFiltersSpec).pre6 enc Try.prog Try.f3 Rows.tlvFiltersUptoRow.domain false) (((Rows.OpenSpec.upto Rows.tlvFiltersSpec).at F).post enc Try.prog Try.f3 false true false false) := by
  refine returnsInHanded_of_cond (C := Try.checked) (s := Rows.OpenSpec.upto Rows.tlvFiltersSpec) (k := Rows.uptoSmall) rfl filtersOwn started (by kernel_rfl) Try.func3
    (OpenSpec.witness (enc := enc) (C := Try.checked) (s := Rows.OpenSpec.upto Rows.tlvFiltersSpec) (k := Rows.uptoSmall) rfl false ⟨#[], #[.slice none 0 0, .slice none 0 0, .int .u8 0], []⟩ 8 (by kernel_rfl) (by kernel_rfl) (by kernel_rfl)
      (x := ([.nil, .nil, .lit (.int .u8 0)], [], [])) (by kernel_rfl) rfl (by kernel_rfl)) ?_
  intro W base args ds gs before hval hW _ hk _
  exact law_contract (m := 10) laid Try.func3 (by decide) (by kernel_rfl) (by kernel_rfl) (by kernel_rfl) (by kernel_rfl) u4 rfl (fun ds hl => by
    match ds, hl with
    | [_, _, _], _ => exact ⟨rfl, rfl, rfl⟩) filtersLaw hval hW hk

theorem filtersProved : Rows.TlvFiltersUptoSaid :=
  OpenClaim.holds_of_cond 3 Try.f3 rfl rfl rfl rfl rfl rfl rfl ⟨rfl, rfl, rfl, rfl, rfl⟩ rfl rfl rfl rfl rfl (by kernel_rfl) Try.func3 (by kernel_rfl)
    (of_decide_eq_true (by kernel_rfl)) (by unfold Func.isWrapper; first | (rw [if_pos (by decide +kernel)]; kernel_rfl) | (rw [if_neg (by decide +kernel)]; exact ⟨rfl, rfl⟩))
    (fun os started H enc _ F => filtersLifted os started H enc F)
#print axioms filtersProved
end Go.Proofs.Ytlckkpjbkjbdcaa
