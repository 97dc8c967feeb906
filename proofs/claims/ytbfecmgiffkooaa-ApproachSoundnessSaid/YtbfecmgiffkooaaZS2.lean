/- The row of ApproachSoundness, from what its call comes to; conditions: none. -/
import Derived.Test.YtbfecmgiffkooaaZ1
namespace Go.Ab
set_option linter.unusedVariables false
set_option linter.unusedSimpArgs false
open Go.RowKit Go.ChangeShapes Go.WideShapes Go.ChangeAt Go.Proofs Go.Proofs.Ytbfecmgiffkooaa
set_option maxRecDepth 100000 in
theorem said2 (h : ∀ (a : List Seg) (b : List Seg) (p : Int) (d : Int) (y0 : Int) (y1 : Int) (p0 : Int) (p1 : Int) (p2 : Int) (p3 : Int) (p4 : Int) (p5 : Int), (0 ≤ p) → (p ≤ 255) → (-9223372036854775808 ≤ d) → (d ≤ 9223372036854775807) → (0 ≤ y0 ∧ y0 ≤ 255) → (0 ≤ y1 ∧ y1 ≤ 255) → (0 ≤ p0 ∧ p0 < 4294967296) → (0 ≤ p1 ∧ p1 < 4294967296) → (0 ≤ p2 ∧ p2 < 4294967296) → (0 ≤ p3 ∧ p3 < 4294967296) → (0 ≤ p4 ∧ p4 < 4294967296) → (0 ≤ p5 ∧ p5 < 4294967296) → (CW G20 L20).p (.func 4) [.agg [.slice .any (a.map Seg.c), .slice .any (b.map Seg.c), .int .u8 p, .int .i64 d], .agg [.int .u8 y0, .int .u8 y1], .agg [.int .u32 p0, .int .u32 p1, .int .u32 p2, .int .u32 p3, .int .u32 p4, .int .u32 p5]] = some (.bool true)) : Rows.ApproachSoundnessSaid := by
  refine OpenClaim.holds_of_wide 4 Try.f4 rfl rfl rfl rfl rfl rfl rfl ⟨rfl, rfl, rfl, rfl, rfl⟩ rfl rfl rfl rfl rfl (by kernel_rfl) Try.func4 (by kernel_rfl)
    (of_decide_eq_true (by kernel_rfl)) (by unfold Func.isWrapper; first | (rw [if_pos (by decide +kernel)]; kernel_rfl) | (rw [if_neg (by decide +kernel)]; exact ⟨rfl, rfl⟩))
    (fun os started H enc _ => ?_)
  refine returnsInHanded_of_change (C := Try.checked) (s := Rows.approachSoundnessSpec) own20 started (by kernel_rfl) Try.func4
    (ChangeSpec.witness6 (enc := enc) (C := Try.checked) (s := Rows.approachSoundnessSpec) false ⟨#[], #[.agg #[.slice none 0 0, .slice none 0 0, .int .u8 0, .int .i64 0], .agg #[.int .u8 0, .int .u8 0], .agg #[.int .u32 0, .int .u32 0, .int .u32 0, .int .u32 0, .int .u32 0, .int .u32 0]], []⟩ 8 (by kernel_rfl) (by kernel_rfl) (by kernel_rfl) (by kernel_rfl) (by kernel_rfl)) ?_
  intro W base args ds gs before hval hW _ _
  refine law_contract (P := Try.prog) (fn := Try.f4) (tb := 4) laid20 maps20 full20 (fun t ht => ?_) rfl (fun ds hd => ?_) (by kernel_rfl) Try.underlying4 (fun vs hvs => ?_) W base args ds gs before hval hW
  · rw [Try.params4] at ht
    simp only [List.mem_cons, List.not_mem_nil, or_false] at ht
    rcases ht with rfl | rfl | rfl <;> exact ⟨by kernel_rfl, of_decide_eq_true (by kernel_rfl)⟩
  · have h2 : ds.length = 3 := hd.trans (by kernel_rfl)
    match ds, h2 with
    | [x0, x1, x2], _ => rfl
  · rw [Try.params4] at hvs
    obtain ⟨w0, w1, w2, hvs, k0, k1, k2⟩ := args3 hvs
    subst hvs
    obtain ⟨a, b, p, d, q1, q2, q3, q4, hw0⟩ := arg_query (v := w0) k0
    obtain ⟨y0, y1, o0, o1, hw1⟩ := arg_u8x2 (v := w1) k1
    obtain ⟨p0, p1, p2, p3, p4, p5, c0, c1, c2, c3, c4, c5, hw2⟩ := arg_u32x6 (v := w2) k2
    subst hw0
    subst hw1
    subst hw2
    exact law20 (h a b p d y0 y1 p0 p1 p2 p3 p4 p5 (q1) (q2) (q3) (q4) (o0) (o1) (c0) (c1) (c2) (c3) (c4) (c5))
end Go.Ab
