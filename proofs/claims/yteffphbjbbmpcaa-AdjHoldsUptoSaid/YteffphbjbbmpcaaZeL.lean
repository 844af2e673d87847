/- For every side, every hello and every time: an adjacency that a hello began lives just as long as the hold of that hello, and behind that it is down and knows nothing; where what is handed in is of bulk at most 1048576. -/
import Derived.Test.YteffphbjbbmpcaaZe5
set_option linter.unusedVariables false
namespace Go.Proofs.Yteffphbjbbmpcaa
open Go Go.Ev Go.RowKit
open Go.Proofs (Try.prog)

theorem adjHoldsLaw : ∀ ys, TyAll Try.prog 10 Try.f7.params.toList ys → szA.szL ys ≤ 1048576 → FnOk Try.prog 7 ys (.bool true) := by
  intro ys h hs
  rw [Try.params7] at h
  obtain ⟨y1, r1, rfl, t1, _, y3, r3, rfl, t3, _, y4, r4, rfl, t4, _, rfl⟩ := h
  obtain ⟨l, rfl⟩ := Ty_loc (m := 6) t1
  obtain ⟨g, rfl⟩ := Ty_hel (m := 6) t3
  obtain ⟨n, h1, h2, rfl⟩ := Ty_int (m := 9) u21 t4
  rw [aLoc, aHel, aI32] at hs ⊢
  have e1 : IntKind.min .i32 = -2147483648 := by decide
  have e2 : IntKind.max .i32 = 2147483647 := by decide
  exact Holds_all l g n (by omega) (sz_loc hs (by simp)) (sz_hel hs (by simp))
theorem adjHoldsOwn : ownKnob Try.prog.godebug = none := by kernel_rfl
set_option maxRecDepth 100000 in
theorem adjHoldsLifted (os : Os) (started : os.Started) (H : Type) (enc : TypeId × Value → H) (F : Stop.Interp) :
    ReturnsInHanded {} Try.checked os 7 .any ((Rows.OpenSpec.upto Rows.adjHoldsSpec).pre6 enc Try.prog Try.f7 Rows.adjHoldsUptoRow.domain false) (((Rows.OpenSpec.upto Rows.adjHoldsSpec).at F).post enc Try.prog Try.f7 false true false false) := by
  refine returnsInHanded_of_cond (C := Try.checked) (s := Rows.OpenSpec.upto Rows.adjHoldsSpec) (k := Rows.uptoSmall) rfl adjHoldsOwn started (by kernel_rfl) Try.func7
    (OpenSpec.witness (enc := enc) (C := Try.checked) (s := Rows.OpenSpec.upto Rows.adjHoldsSpec) (k := Rows.uptoSmall) rfl false ⟨#[], #[.agg #[.int .u8 0, .int .u8 0, .int .u8 0, .int .u8 0, .int .u8 0, .int .u8 0, .int .u8 0, .int .i64 0, .slice none 0 0], .agg #[.int .u8 0, .int .u8 0, .int .u8 0, .int .u8 0, .int .u8 0, .int .u8 0, .int .u8 0, .int .i64 0, .int .i64 0, .slice none 0 0, .int .i64 0, .bool false, .int .u8 0, .int .u8 0, .int .u8 0, .int .u8 0, .int .u8 0, .int .u8 0, .int .u8 0], .int .i32 0], []⟩ 8 (by kernel_rfl) (by kernel_rfl) (by kernel_rfl)
      (x := ([.agg [.agg [.lit (.int .u8 0), .lit (.int .u8 0), .lit (.int .u8 0), .lit (.int .u8 0), .lit (.int .u8 0), .lit (.int .u8 0)], .lit (.int .u8 0), .lit (.int .i64 0), .nil], .agg [.agg [.lit (.int .u8 0), .lit (.int .u8 0), .lit (.int .u8 0), .lit (.int .u8 0), .lit (.int .u8 0), .lit (.int .u8 0)], .lit (.int .u8 0), .lit (.int .i64 0), .lit (.int .i64 0), .nil, .lit (.int .i64 0), .lit (.bool false), .agg [.lit (.int .u8 0), .lit (.int .u8 0), .lit (.int .u8 0), .lit (.int .u8 0), .lit (.int .u8 0), .lit (.int .u8 0)], .lit (.int .u8 0)], .lit (.int .i32 0)], [], [])) (by kernel_rfl) rfl (by kernel_rfl)) ?_
  intro W base args ds gs before hval hW _ hk _
  exact law_contract (m := 10) laid Try.func7 (by decide) (by kernel_rfl) (by kernel_rfl) (by kernel_rfl) (by kernel_rfl) u4 rfl (fun ds hl => by
    match ds, hl with
    | [_, _, _], _ => exact ⟨rfl, rfl, rfl⟩) adjHoldsLaw hval hW hk

theorem adjHoldsProved : Rows.AdjHoldsUptoSaid :=
  OpenClaim.holds_of_cond 7 Try.f7 rfl rfl rfl rfl rfl rfl rfl ⟨rfl, rfl, rfl, rfl, rfl⟩ rfl rfl rfl rfl rfl (by kernel_rfl) Try.func7 (by kernel_rfl)
    (of_decide_eq_true (by kernel_rfl)) (by unfold Func.isWrapper; first | (rw [if_pos (by decide +kernel)]; kernel_rfl) | (rw [if_neg (by decide +kernel)]; exact ⟨rfl, rfl⟩))
    (fun os started H enc _ F => adjHoldsLifted os started H enc F)
end Go.Proofs.Yteffphbjbbmpcaa
