/- For all bytes p: they are a list of types and values, or refused, as the document says; what is read is written as just these bytes; they come back untouched, spare room too; where p is of bulk at most 1048576. -/
import Derived.Test.YtlckkpjbkjbdcaaZb4
set_option linter.unusedVariables false
namespace Go.Proofs.Ytlckkpjbkjbdcaa
open Go Go.Ev Go.RowKit
open Go.Proofs (Try.prog)

theorem tlvSplitsLaw : ∀ ys, TyAll Try.prog 10 Try.f4.params.toList ys → szA.szL ys ≤ 1048576 → FnOk Try.prog 4 ys (.bool true) := by
  intro ys h hs
  rw [Try.params4] at h
  obtain ⟨y1, r1, rfl, t1, _, rfl⟩ := h
  obtain ⟨p, rfl⟩ := Ty_bytes (m := 8) u29 u5 c5 g5 t1
  have e : argOf Try.prog 29 [slB p] = slB p := by simp only [argOf, u29]; rfl
  rw [e] at hs ⊢
  simp only [szA.szL, slB, szA, szL_bs] at hs
  exact Splits_ok' p (by omega)
theorem tlvSplitsOwn : ownKnob Try.prog.godebug = none := by kernel_rfl
set_option maxRecDepth 100000 in
theorem tlvSplitsLifted (os : Os) (started : os.Started) (H : Type) (enc : TypeId × Value → H) (F : Stop.Interp) :
    ReturnsInHanded {} Try.checked os 4 .any ((Rows.OpenSpec.upto Rows.tlvSplitsSpec).pre6 enc Try.prog Try.f4 Rows.tlvSplitsUptoRow.domain false) (((Rows.OpenSpec.upto Rows.tlvSplitsSpec).at F).post enc Try.prog Try.f4 false true false false) := by
  refine returnsInHanded_of_cond (C := Try.checked) (s := Rows.OpenSpec.upto Rows.tlvSplitsSpec) (k := Rows.uptoSmall) rfl tlvSplitsOwn started (by kernel_rfl) Try.func4
    (OpenSpec.witness (enc := enc) (C := Try.checked) (s := Rows.OpenSpec.upto Rows.tlvSplitsSpec) (k := Rows.uptoSmall) rfl false ⟨#[], #[.slice none 0 0], []⟩ 8 (by kernel_rfl) (by kernel_rfl) (by kernel_rfl)
      (x := ([.nil], [], [])) (by kernel_rfl) rfl (by kernel_rfl)) ?_
  intro W base args ds gs before hval hW _ hk _
  exact law_contract (m := 10) laid Try.func4 (by decide) (by kernel_rfl) (by kernel_rfl) (by kernel_rfl) (by kernel_rfl) u4 rfl (fun ds hl => by
    match ds, hl with
    | [_], _ => exact ⟨rfl, rfl, rfl⟩) tlvSplitsLaw hval hW hk

theorem tlvSplitsProved : Rows.TlvSplitsUptoSaid :=
  OpenClaim.holds_of_cond 4 Try.f4 rfl rfl rfl rfl rfl rfl rfl ⟨rfl, rfl, rfl, rfl, rfl⟩ rfl rfl rfl rfl rfl (by kernel_rfl) Try.func4 (by kernel_rfl)
    (of_decide_eq_true (by kernel_rfl)) (by unfold Func.isWrapper; first | (rw [if_pos (by decide +kernel)]; kernel_rfl) | (rw [if_neg (by decide +kernel)]; exact ⟨rfl, rfl⟩))
    (fun os started H enc _ F => tlvSplitsLifted os started H enc F)
end Go.Proofs.Ytlckkpjbkjbdcaa
