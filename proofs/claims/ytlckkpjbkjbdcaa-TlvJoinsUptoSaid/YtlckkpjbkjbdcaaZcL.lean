/- For every list of types and values and every type: it has the bytes that the document says, or is too long, and is read again from them; it comes back untouched; a type's values are those that it has; where list and type are of bulk at most 1048576. -/
import Derived.Test.YtlckkpjbkjbdcaaZc4
set_option linter.unusedVariables false
namespace Go.Proofs.Ytlckkpjbkjbdcaa
open Go Go.Ev Go.RowKit
open Go.Proofs (Try.prog)

theorem tlvJoinsLaw : ∀ ys, TyAll Try.prog 10 Try.f6.params.toList ys → szA.szL ys ≤ 1048576 → FnOk Try.prog 6 ys (.bool true) := by
  intro ys h hs
  rw [Try.params6] at h
  obtain ⟨y1, r1, rfl, t1, _, y2, r2, rfl, t2, _, rfl⟩ := h
  obtain ⟨a, rfl⟩ := Ty_tlvs (m := 6) t1
  obtain ⟨k, rfl⟩ := Ty_u8 (m := 9) u5 t2
  have e : ∀ l, argOf Try.prog 22 [slT l] = slT l := fun l => by simp only [argOf, u22]; rfl
  have e' : argOf Try.prog 5 [bA k] = bA k := by simp only [argOf, u5]; rfl
  rw [e, e'] at hs ⊢
  simp only [szA.szL] at hs
  obtain ⟨a1, a2⟩ := sz_tlvs (l := a) (n := 1048576) (by omega)
  exact Joins_ok' a k ⟨by omega, fun t ht => by have := a2 t ht; omega⟩
theorem tlvJoinsOwn : ownKnob Try.prog.godebug = none := by kernel_rfl
set_option maxRecDepth 100000 in
theorem tlvJoinsLifted (os : Os) (started : os.Started) (H : Type) (enc : TypeId × Value → H) (F : Stop.Interp) :
    ReturnsInHanded {} Try.checked os 6 .any ((Rows.OpenSpec.upto Rows.tlvJoinsSpec).pre6 enc Try.prog Try.f6 Rows.tlvJoinsUptoRow.domain false) (((Rows.OpenSpec.upto Rows.tlvJoinsSpec).at F).post enc Try.prog Try.f6 false true false false) := by
  refine returnsInHanded_of_cond (C := Try.checked) (s := Rows.OpenSpec.upto Rows.tlvJoinsSpec) (k := Rows.uptoSmall) rfl tlvJoinsOwn started (by kernel_rfl) Try.func6
    (OpenSpec.witness (enc := enc) (C := Try.checked) (s := Rows.OpenSpec.upto Rows.tlvJoinsSpec) (k := Rows.uptoSmall) rfl false ⟨#[], #[.slice none 0 0, .int .u8 0], []⟩ 8 (by kernel_rfl) (by kernel_rfl) (by kernel_rfl)
      (x := ([.nil, .lit (.int .u8 0)], [], [])) (by kernel_rfl) rfl (by kernel_rfl)) ?_
  intro W base args ds gs before hval hW _ hk _
  exact law_contract (m := 10) laid Try.func6 (by decide) (by kernel_rfl) (by kernel_rfl) (by kernel_rfl) (by kernel_rfl) u4 rfl (fun ds hl => by
    match ds, hl with
    | [_, _], _ => exact ⟨rfl, rfl, rfl⟩) tlvJoinsLaw hval hW hk

theorem tlvJoinsProved : Rows.TlvJoinsUptoSaid :=
  OpenClaim.holds_of_cond 6 Try.f6 rfl rfl rfl rfl rfl rfl rfl ⟨rfl, rfl, rfl, rfl, rfl⟩ rfl rfl rfl rfl rfl (by kernel_rfl) Try.func6 (by kernel_rfl)
    (of_decide_eq_true (by kernel_rfl)) (by unfold Func.isWrapper; first | (rw [if_pos (by decide +kernel)]; kernel_rfl) | (rw [if_neg (by decide +kernel)]; exact ⟨rfl, rfl⟩))
    (fun os started H enc _ F => tlvJoinsLifted os started H enc F)
end Go.Proofs.Ytlckkpjbkjbdcaa
