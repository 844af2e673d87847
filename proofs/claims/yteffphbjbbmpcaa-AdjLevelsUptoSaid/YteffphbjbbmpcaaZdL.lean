/- For every side, every hello and every time: an adjacency that begins has no level that not both sides have, nor level 1 without an area in common; where what is handed in is of bulk at most 1048576. -/
import Derived.Test.YteffphbjbbmpcaaZd5
set_option linter.unusedVariables false
namespace Go.Proofs.Yteffphbjbbmpcaa
open Go Go.Ev Go.RowKit
open Go.Proofs (Try.prog)

theorem adjLevelsLaw : ∀ ys, TyAll Try.prog 10 Try.f6.params.toList ys → szA.szL ys ≤ 1048576 → FnOk Try.prog 6 ys (.bool true) := by
  intro ys h hs
  rw [Try.params6] at h
  obtain ⟨y1, r1, rfl, t1, _, y3, r3, rfl, t3, _, y4, r4, rfl, t4, _, rfl⟩ := h
  obtain ⟨l, rfl⟩ := Ty_loc (m := 6) t1
  obtain ⟨g, rfl⟩ := Ty_hel (m := 6) t3
  obtain ⟨n, _, _, rfl⟩ := Ty_int (m := 9) u2 t4
  rw [aLoc, aHel, aI64] at hs ⊢
  exact Levels_all l g n (sz_loc hs (by simp)) (sz_hel hs (by simp))
theorem adjLevelsOwn : ownKnob Try.prog.godebug = none := by kernel_rfl
set_option maxRecDepth 100000 in
theorem adjLevelsLifted (os : Os) (started : os.Started) (H : Type) (enc : TypeId × Value → H) (F : Stop.Interp) :
    ReturnsInHanded {} Try.checked os 6 .any ((Rows.OpenSpec.upto Rows.adjLevelsSpec).pre6 enc Try.prog Try.f6 Rows.adjLevelsUptoRow.domain false) (((Rows.OpenSpec.upto Rows.adjLevelsSpec).at F).post enc Try.prog Try.f6 false true false false) := by
  refine returnsInHanded_of_cond (C := Try.checked) (s := Rows.OpenSpec.upto Rows.adjLevelsSpec) (k := Rows.uptoSmall) rfl adjLevelsOwn started (by kernel_rfl) Try.func6
    (OpenSpec.witness (enc := enc) (C := Try.checked) (s := Rows.OpenSpec.upto Rows.adjLevelsSpec) (k := Rows.uptoSmall) rfl false ⟨#[], #[.agg #[.int .u8 0, .int .u8 0, .int .u8 0, .int .u8 0, .int .u8 0, .int .u8 0, .int .u8 0, .int .i64 0, .slice none 0 0], .agg #[.int .u8 0, .int .u8 0, .int .u8 0, .int .u8 0, .int .u8 0, .int .u8 0, .int .u8 0, .int .i64 0, .int .i64 0, .slice none 0 0, .int .i64 0, .bool false, .int .u8 0, .int .u8 0, .int .u8 0, .int .u8 0, .int .u8 0, .int .u8 0, .int .u8 0], .int .i64 0], []⟩ 8 (by kernel_rfl) (by kernel_rfl) (by kernel_rfl)
      (x := ([.agg [.agg [.lit (.int .u8 0), .lit (.int .u8 0), .lit (.int .u8 0), .lit (.int .u8 0), .lit (.int .u8 0), .lit (.int .u8 0)], .lit (.int .u8 0), .lit (.int .i64 0), .nil], .agg [.agg [.lit (.int .u8 0), .lit (.int .u8 0), .lit (.int .u8 0), .lit (.int .u8 0), .lit (.int .u8 0), .lit (.int .u8 0)], .lit (.int .u8 0), .lit (.int .i64 0), .lit (.int .i64 0), .nil, .lit (.int .i64 0), .lit (.bool false), .agg [.lit (.int .u8 0), .lit (.int .u8 0), .lit (.int .u8 0), .lit (.int .u8 0), .lit (.int .u8 0), .lit (.int .u8 0)], .lit (.int .u8 0)], .lit (.int .i64 0)], [], [])) (by kernel_rfl) rfl (by kernel_rfl)) ?_
  intro W base args ds gs before hval hW _ hk _
  exact law_contract (m := 10) laid Try.func6 (by decide) (by kernel_rfl) (by kernel_rfl) (by kernel_rfl) (by kernel_rfl) u4 rfl (fun ds hl => by
    match ds, hl with
    | [_, _, _], _ => exact ⟨rfl, rfl, rfl⟩) adjLevelsLaw hval hW hk

theorem adjLevelsProved : Rows.AdjLevelsUptoSaid :=
  OpenClaim.holds_of_cond 6 Try.f6 rfl rfl rfl rfl rfl rfl rfl ⟨rfl, rfl, rfl, rfl, rfl⟩ rfl rfl rfl rfl rfl (by kernel_rfl) Try.func6 (by kernel_rfl)
    (of_decide_eq_true (by kernel_rfl)) (by unfold Func.isWrapper; first | (rw [if_pos (by decide +kernel)]; kernel_rfl) | (rw [if_neg (by decide +kernel)]; exact ⟨rfl, rfl⟩))
    (fun os started H enc _ F => adjLevelsLifted os started H enc F)
end Go.Proofs.Yteffphbjbbmpcaa
