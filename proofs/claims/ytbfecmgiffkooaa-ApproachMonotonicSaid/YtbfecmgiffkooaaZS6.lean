/- The row of ApproachMonotonic, from what its call comes to; conditions: none. -/
import Derived.Test.YtbfecmgiffkooaaZ1
namespace Go.Ab
set_option linter.unusedVariables false
set_option linter.unusedSimpArgs false
open Go.RowKit Go.ChangeShapes Go.WideShapes Go.ChangeAt Go.Proofs Go.Proofs.Ytbfecmgiffkooaa
set_option maxRecDepth 100000 in
theorem said6 (h : ∀ (a : List Seg) (b : List Seg) (p : Int) (d : Int) (z1 : Int) (z2 : Int), (0 ≤ p) → (p ≤ 255) → (-9223372036854775808 ≤ d) → (d ≤ 9223372036854775807) → (0 ≤ z1 ∧ z1 ≤ 65535) → (0 ≤ z2 ∧ z2 < 4294967296) → (CW G20 L20).p (.func 8) [.agg [.slice .any (a.map Seg.c), .slice .any (b.map Seg.c), .int .u8 p, .int .i64 d], .int .u16 z1, .int .u32 z2] = some (.bool true)) : Rows.ApproachMonotonicSaid := by
  refine OpenClaim.holds_of_wide 8 Try.f8 rfl rfl rfl rfl rfl rfl rfl ⟨rfl, rfl, rfl, rfl, rfl⟩ rfl rfl rfl rfl rfl (by kernel_rfl) Try.func8 (by kernel_rfl)
    (of_decide_eq_true (by kernel_rfl)) (by unfold Func.isWrapper; first | (rw [if_pos (by decide +kernel)]; kernel_rfl) | (rw [if_neg (by decide +kernel)]; exact ⟨rfl, rfl⟩))
    (fun os started H enc _ => ?_)
  refine returnsInHanded_of_change (C := Try.checked) (s := Rows.approachMonotonicSpec) own20 started (by kernel_rfl) Try.func8
    (ChangeSpec.witness6 (enc := enc) (C := Try.checked) (s := Rows.approachMonotonicSpec) false ⟨#[], #[.agg #[.slice none 0 0, .slice none 0 0, .int .u8 0, .int .i64 0], .int .u16 0, .int .u32 0], []⟩ 8 (by kernel_rfl) (by kernel_rfl) (by kernel_rfl) (by kernel_rfl) (by kernel_rfl)) ?_
  intro W base args ds gs before hval hW _ _
  refine law_contract (P := Try.prog) (fn := Try.f8) (tb := 4) laid20 maps20 full20 (fun t ht => ?_) rfl (fun ds hd => ?_) (by kernel_rfl) Try.underlying4 (fun vs hvs => ?_) W base args ds gs before hval hW
  · rw [Try.params8] at ht
    simp only [List.mem_cons, List.not_mem_nil, or_false] at ht
    rcases ht with rfl | rfl | rfl <;> exact ⟨by kernel_rfl, of_decide_eq_true (by kernel_rfl)⟩
  · have h2 : ds.length = 3 := hd.trans (by kernel_rfl)
    match ds, h2 with
    | [x0, x1, x2], _ => rfl
  · rw [Try.params8] at hvs
    obtain ⟨w0, w1, w2, hvs, k0, k1, k2⟩ := args3 hvs
    subst hvs
    obtain ⟨a, b, p, d, q1, q2, q3, q4, hw0⟩ := arg_query (v := w0) k0
    obtain ⟨z1, hw1, b1⟩ := arg_int (P := Try.prog) (t := 56) und56 (v := w1) k1
    obtain ⟨z2, hw2, b2⟩ := arg_int (P := Try.prog) (t := 42) Try.underlying42 (v := w2) k2
    subst hw0
    subst hw1
    subst hw2
    exact law20 (h a b p d z1 z2 (q1) (q2) (q3) (q4) (u16_of b1) (u32_of b2))
end Go.Ab
