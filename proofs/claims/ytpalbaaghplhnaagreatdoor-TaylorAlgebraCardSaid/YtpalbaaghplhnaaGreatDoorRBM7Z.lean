/- The statement TaylorAlgebra, and its card; conditions: none. -/
import Derived.Test.YtpalbaaghplhnaaGreatDoorCards
import Derived.Test.YtpalbaaghplhnaaGreatDoorTie
import Derived.SevenTiedAt
import Derived.Test.YtpalbaaghplhnaaGreatDoorRMZ
import Derived.Test.YtpalbaaghplhnaaGreatDoorTM7Z
set_option linter.unusedVariables false
set_option linter.unusedSimpArgs false
namespace Go.Ab
open Go.RowKit Go.ChangeShapes Go.WideShapes Go.Proofs Go.ChangeAt YtpalbaaghplhnaaGreatDoor
set_option maxRecDepth 100000 in
theorem saidM7 : Rows.TaylorAlgebraSaid := by
  refine OpenClaim.holds_of_wide 9 Tryz.f9 rfl rfl rfl rfl rfl rfl rfl ⟨rfl, rfl, rfl, rfl, rfl⟩ rfl rfl rfl rfl rfl (by kernel_rfl) Tryz.func9 (by kernel_rfl)
    (of_decide_eq_true (by kernel_rfl)) (by unfold Func.isWrapper; first | (rw [if_pos (by decide +kernel)]; kernel_rfl) | (rw [if_neg (by decide +kernel)]; exact ⟨rfl, rfl⟩))
    (fun os started H enc _ => ?_)
  refine returnsInHanded_of_change_and (C := Tryz.checked) (s := Rows.taylorAlgebraSpec) (X := fun w _ => laidMetH Tryz.prog [( "armillary/interval.products", Rows.laid_armillary_interval_products)] w) (fun _ _ _ hh h => h.of_heap hh) ownD started (by kernel_rfl) Tryz.func9
    (ChangeSpec.witness_shaped (enc := enc) (C := Tryz.checked) (os := os) (s := Rows.taylorAlgebraSpec) (X := fun w _ => laidMetH Tryz.prog [( "armillary/interval.products", Rows.laid_armillary_interval_products)] w) false (World.doorLaid Tryz.prog 26 os) #[.agg #[.slice none 0 0, .int .i64 0, .int .i64 0, .slice none 0 0, .int .i64 0, .int .i64 0, .slice none 0 0, .int .u16 0, .int .u16 0]] 8 rfl (World.shaped_of_RefB (by kernel_rfl) (by kernel_rfl)) (by kernel_rfl) (by kernel_rfl) (by kernel_rfl) (ztX os _)) ?_
  intro W base args ds gs zap hval hW _ _ hL _
  refine zn7 (G := GZ) rfl (P := Tryz.prog) (fn := Tryz.f9) (tb := 4) laidD mapsD fullD (fun t ht => ?_) rfl (fun ds hd => ?_) (by kernel_rfl) Tryz.underlying4 (fun vs hvs => ?_) W (zu0 hL) base args ds gs zap hval hW
  · rw [Tryz.params9] at ht
    simp only [List.mem_cons, List.not_mem_nil, or_false, or_self] at ht
    rcases ht with rfl
    · exact ⟨by kernel_rfl, of_decide_eq_true (by kernel_rfl)⟩
  · have h2 : ds.length = 1 := hd.trans (by kernel_rfl)
    match ds, h2 with
    | [x], _ => rfl
  · rw [Tryz.params9] at hvs
    obtain ⟨v, rfl, h1⟩ := args1 hvs
    obtain ⟨p, q, lo, hi, lo', hi', s, x, y, op, hp, oq, hq, hs, hsl, hx, hy, rfl⟩ := zsK h1
    exact lawD (p9 p q hp hq lo hi lo' hi' (s.map ic) x y)
theorem cardM7 : Rows.TaylorAlgebraCardSaid :=
  Claim7.holds_tied_plain_at .later [] [.funcs] true (true, "b266c1701eeb7601fbdb96dd2f3ea904f9b70c7265f6b0a46fb374e80c0fdfef") false
    saidM7 (fun _ h => by cases h) (by kernel_rfl) (fun _ h => by cases h) taylorAlgebra_row_tie rfl ⟨rfl, rfl⟩ (by kernel_rfl) rfl
    (fun f fn hf hfn => by
      obtain rfl : f = 9 := Option.some.inj ((show Tryz.prog.funcNamed "armillary/armillarylaw06.TaylorAlgebra" = some 9 by kernel_rfl).symm.trans hf) |>.symm
      obtain rfl : fn = Tryz.f9 := (Option.some.inj (Tryz.func9.symm.trans hfn)).symm
      exact ⟨by kernel_rfl, fun j t ht => by
        rw [Tryz.params9] at ht
        have hm : t ∈ [30] := by simpa using Array.mem_of_getElem? ht
        have hall : ([30].all fun u => !Tryz.prog.wantsStandIn u) = true := by kernel_rfl
        exact (show Tryz.prog.wantsStandIn t = false by simpa using List.all_eq_true.1 hall t hm)⟩)
    (by kernel_rfl)
end Go.Ab
