/- The row of ApproachTimes, from what its call comes to; conditions: none. -/
import Derived.Test.YtbfecmgiffkooaaZA
namespace Go.Ab
set_option linter.unusedVariables false
set_option linter.unusedSimpArgs false
open Go.RowKit Go.ChangeShapes Go.WideShapes Go.ChangeAt Go.Proofs Go.Proofs.Ytbfecmgiffkooaa
set_option maxRecDepth 100000 in
theorem said7 (h : ∀ (a b : List Seg) (p d : Int), 0 ≤ p → p ≤ 255 → -9223372036854775808 ≤ d → d ≤ 9223372036854775807 →
      (CW G20 L20).p (.func 9) [.agg [.slice .any (a.map Seg.c), .slice .any (b.map Seg.c), .int .u8 p, .int .i64 d]] = some (.bool true)) :
    Rows.ApproachTimesSaid := by
  refine OpenClaim.holds_of_wide 9 Try.f9 rfl rfl rfl rfl rfl rfl rfl ⟨rfl, rfl, rfl, rfl, rfl⟩ rfl rfl rfl rfl rfl (by kernel_rfl) Try.func9 (by kernel_rfl)
    (of_decide_eq_true (by kernel_rfl)) (by unfold Func.isWrapper; first | (rw [if_pos (by decide +kernel)]; kernel_rfl) | (rw [if_neg (by decide +kernel)]; exact ⟨rfl, rfl⟩))
    (fun os started H enc _ => ?_)
  refine returnsInHanded_of_change (C := Try.checked) (s := Rows.approachTimesSpec) own20 started (by kernel_rfl) Try.func9
    (ChangeSpec.witness6 (enc := enc) (C := Try.checked) (s := Rows.approachTimesSpec) false ⟨#[], #[.agg #[.slice none 0 0, .slice none 0 0, .int .u8 0, .int .i64 0]], []⟩ 8 (by kernel_rfl) (by kernel_rfl) (by kernel_rfl) (by kernel_rfl) (by kernel_rfl)) ?_
  intro W base args ds gs before hval hW _ _
  refine law_contract (P := Try.prog) (fn := Try.f9) (tb := 4) laid20 maps20 full20 (fun t ht => ?_) rfl (fun ds hd => ?_) (by kernel_rfl) Try.underlying4 (fun vs hvs => ?_) W base args ds gs before hval hW
  · rw [Try.params9] at ht
    simp only [List.mem_cons, List.not_mem_nil, or_false] at ht
    subst ht
    exact ⟨by kernel_rfl, of_decide_eq_true (by kernel_rfl)⟩
  · have h2 : ds.length = 1 := hd.trans (by kernel_rfl)
    match ds, h2 with
    | [x], _ => rfl
  · rw [Try.params9] at hvs
    obtain ⟨a, b, p, d, h1, h2, h5, h6, rfl⟩ := args_q vs hvs
    exact law20 (h a b p d h1 h2 h5 h6)
end Go.Ab
