/- The row of ApproachConflict, from what its call comes to; conditions: none. -/
import Derived.Test.YtbfecmgiffkooaaZ1
namespace Go.Ab
set_option linter.unusedVariables false
set_option linter.unusedSimpArgs false
open Go.RowKit Go.ChangeShapes Go.WideShapes Go.ChangeAt Go.Proofs Go.Proofs.Ytbfecmgiffkooaa
set_option maxRecDepth 100000 in
theorem said3 (h : ∀ (a : List Seg) (b : List Seg) (p : Int) (d : Int) (p0 : Int) (p1 : Int) (p2 : Int) (p3 : Int) (p4 : Int) (p5 : Int), (0 ≤ p) → (p ≤ 255) → (-9223372036854775808 ≤ d) → (d ≤ 9223372036854775807) → (0 ≤ p0 ∧ p0 < 4294967296) → (0 ≤ p1 ∧ p1 < 4294967296) → (0 ≤ p2 ∧ p2 < 4294967296) → (0 ≤ p3 ∧ p3 < 4294967296) → (0 ≤ p4 ∧ p4 < 4294967296) → (0 ≤ p5 ∧ p5 < 4294967296) → (CW G20 L20).p (.func 5) [.agg [.slice .any (a.map Seg.c), .slice .any (b.map Seg.c), .int .u8 p, .int .i64 d], .agg [.int .u32 p0, .int .u32 p1, .int .u32 p2, .int .u32 p3, .int .u32 p4, .int .u32 p5]] = some (.bool true)) : Rows.ApproachConflictSaid := by
  refine OpenClaim.holds_of_wide 5 Try.f5 rfl rfl rfl rfl rfl rfl rfl ⟨rfl, rfl, rfl, rfl, rfl⟩ rfl rfl rfl rfl rfl (by kernel_rfl) Try.func5 (by kernel_rfl)
    (of_decide_eq_true (by kernel_rfl)) (by unfold Func.isWrapper; first | (rw [if_pos (by decide +kernel)]; kernel_rfl) | (rw [if_neg (by decide +kernel)]; exact ⟨rfl, rfl⟩))
    (fun os started H enc _ => ?_)
  refine returnsInHanded_of_change (C := Try.checked) (s := Rows.approachConflictSpec) own20 started (by kernel_rfl) Try.func5
    (ChangeSpec.witness6 (enc := enc) (C := Try.checked) (s := Rows.approachConflictSpec) false ⟨#[], #[.agg #[.slice none 0 0, .slice none 0 0, .int .u8 0, .int .i64 0], .agg #[.int .u32 0, .int .u32 0, .int .u32 0, .int .u32 0, .int .u32 0, .int .u32 0]], []⟩ 8 (by kernel_rfl) (by kernel_rfl) (by kernel_rfl) (by kernel_rfl) (by kernel_rfl)) ?_
  intro W base args ds gs before hval hW _ _
  refine law_contract (P := Try.prog) (fn := Try.f5) (tb := 4) laid20 maps20 full20 (fun t ht => ?_) rfl (fun ds hd => ?_) (by kernel_rfl) Try.underlying4 (fun vs hvs => ?_) W base args ds gs before hval hW
  · rw [Try.params5] at ht
    simp only [List.mem_cons, List.not_mem_nil, or_false] at ht
    rcases ht with rfl | rfl <;> exact ⟨by kernel_rfl, of_decide_eq_true (by kernel_rfl)⟩
  · have h2 : ds.length = 2 := hd.trans (by kernel_rfl)
    match ds, h2 with
    | [x0, x1], _ => rfl
  · rw [Try.params5] at hvs
    obtain ⟨w0, w1, hvs, k0, k1⟩ := args2 hvs
    subst hvs
    obtain ⟨a, b, p, d, q1, q2, q3, q4, hw0⟩ := arg_query (v := w0) k0
    obtain ⟨p0, p1, p2, p3, p4, p5, c0, c1, c2, c3, c4, c5, hw1⟩ := arg_u32x6 (v := w1) k1
    subst hw0
    subst hw1
    exact law20 (h a b p d p0 p1 p2 p3 p4 p5 (q1) (q2) (q3) (q4) (c0) (c1) (c2) (c3) (c4) (c5))
end Go.Ab
