/- For all lists a, b and every cut: lists one behind the other are their bytes one behind the other, or too long; bytes that are cut within a value are refused, and those that are cut between two are not; where the arguments are together of bulk at most 1048576. -/
import Derived.Test.YtlckkpjbkjbdcaaZd5
set_option linter.unusedVariables false
namespace Go.Proofs.Ytlckkpjbkjbdcaa
open Go Go.Ev Go.RowKit
open Go.Proofs (Try.prog)

theorem tlvPartsLaw : ∀ ys, TyAll Try.prog 10 Try.f5.params.toList ys → szA.szL ys ≤ 1048576 → FnOk Try.prog 5 ys (.bool true) := by
  intro ys h hs
  rw [Try.params5] at h
  obtain ⟨y1, r1, rfl, t1, _, y2, r2, rfl, t2, _, y3, r3, rfl, t3, _, rfl⟩ := h
  obtain ⟨a, rfl⟩ := Ty_tlvs (m := 6) t1
  obtain ⟨b, rfl⟩ := Ty_tlvs (m := 6) t2
  obtain ⟨n, hn0, hn1, rfl⟩ := Ty_int (m := 9) u44 t3
  have e : ∀ l, argOf Try.prog 22 [slT l] = slT l := fun l => by simp only [argOf, u22]; rfl
  have e' : argOf Try.prog 44 [.int .u16 n] = .int .u16 n := by simp only [argOf, u44]; rfl
  rw [e, e, e'] at hs ⊢
  simp only [szA.szL] at hs
  obtain ⟨a1, a2⟩ := sz_tlvs (l := a) (n := 1048576) (by omega)
  obtain ⟨b1, b2⟩ := sz_tlvs (l := b) (n := 1048576) (by omega)
  have hn0 : 0 ≤ n := hn0
  have hn1 : n ≤ 65535 := hn1
  obtain ⟨u, rfl⟩ := Int.eq_ofNat_of_zero_le hn0
  exact Parts_ok a b u (by omega) ⟨by omega, fun t ht => by have := a2 t ht; omega⟩ ⟨by omega, fun t ht => by have := b2 t ht; omega⟩ (by omega)
theorem tlvPartsOwn : ownKnob Try.prog.godebug = none := by kernel_rfl
set_option maxRecDepth 100000 in
theorem tlvPartsLifted (os : Os) (started : os.Started) (H : Type) (enc : TypeId × Value → H) (F : Stop.Interp) :
    ReturnsInHanded {} Try.checked os 5 .any ((Rows.OpenSpec.upto Rows.tlvPartsSpec).pre6 enc Try.prog Try.f5 Rows.tlvPartsUptoRow.domain false) (((Rows.OpenSpec.upto Rows.tlvPartsSpec).at F).post enc Try.prog Try.f5 false true false false) := by
  refine returnsInHanded_of_cond (C := Try.checked) (s := Rows.OpenSpec.upto Rows.tlvPartsSpec) (k := Rows.uptoSmall) rfl tlvPartsOwn started (by kernel_rfl) Try.func5
    (OpenSpec.witness (enc := enc) (C := Try.checked) (s := Rows.OpenSpec.upto Rows.tlvPartsSpec) (k := Rows.uptoSmall) rfl false ⟨#[], #[.slice none 0 0, .slice none 0 0, .int .u16 0], []⟩ 8 (by kernel_rfl) (by kernel_rfl) (by kernel_rfl)
      (x := ([.nil, .nil, .lit (.int .u16 0)], [], [])) (by kernel_rfl) rfl (by kernel_rfl)) ?_
  intro W base args ds gs before hval hW _ hk _
  exact law_contract (m := 10) laid Try.func5 (by decide) (by kernel_rfl) (by kernel_rfl) (by kernel_rfl) (by kernel_rfl) u4 rfl (fun ds hl => by
    match ds, hl with
    | [_, _, _], _ => exact ⟨rfl, rfl, rfl⟩) tlvPartsLaw hval hW hk

theorem tlvPartsProved : Rows.TlvPartsUptoSaid :=
  OpenClaim.holds_of_cond 5 Try.f5 rfl rfl rfl rfl rfl rfl rfl ⟨rfl, rfl, rfl, rfl, rfl⟩ rfl rfl rfl rfl rfl (by kernel_rfl) Try.func5 (by kernel_rfl)
    (of_decide_eq_true (by kernel_rfl)) (by unfold Func.isWrapper; first | (rw [if_pos (by decide +kernel)]; kernel_rfl) | (rw [if_neg (by decide +kernel)]; exact ⟨rfl, rfl⟩))
    (fun os started H enc _ F => tlvPartsLifted os started H enc F)
end Go.Proofs.Ytlckkpjbkjbdcaa
