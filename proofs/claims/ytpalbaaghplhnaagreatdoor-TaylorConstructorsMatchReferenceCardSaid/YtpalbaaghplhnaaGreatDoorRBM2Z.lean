/- The statement TaylorConstructorsMatchReference, and its card; conditions: none. -/
import Derived.Test.YtpalbaaghplhnaaGreatDoorCards
import Derived.Test.YtpalbaaghplhnaaGreatDoorTie
import Derived.SevenTiedAt
import Derived.Test.YtpalbaaghplhnaaGreatDoorRMZ
import Derived.Test.YtpalbaaghplhnaaGreatDoorTM2Z
set_option linter.unusedVariables false
set_option linter.unusedSimpArgs false
namespace Go.Ab
open Go.RowKit Go.ChangeShapes Go.WideShapes Go.Proofs Go.ChangeAt YtpalbaaghplhnaaGreatDoor
set_option maxRecDepth 100000 in
theorem saidM2 : Rows.TaylorConstructorsMatchReferenceSaid := by
  refine OpenClaim.holds_of_wide 4 Tryz.f4 rfl rfl rfl rfl rfl rfl rfl ⟨rfl, rfl, rfl, rfl, rfl⟩ rfl rfl rfl rfl rfl (by kernel_rfl) Tryz.func4 (by kernel_rfl)
    (of_decide_eq_true (by kernel_rfl)) (by unfold Func.isWrapper; first | (rw [if_pos (by decide +kernel)]; kernel_rfl) | (rw [if_neg (by decide +kernel)]; exact ⟨rfl, rfl⟩))
    (fun os started H enc _ => ?_)
  refine returnsInHanded_of_change_and (C := Tryz.checked) (s := Rows.taylorConstructorsMatchReferenceSpec) (X := fun w _ => laidMetH Tryz.prog [( "armillary/interval.products", Rows.laid_armillary_interval_products)] w) (fun _ _ _ hh h => h.of_heap hh) ownD started (by kernel_rfl) Tryz.func4
    (ChangeSpec.witness_shaped (enc := enc) (C := Tryz.checked) (os := os) (s := Rows.taylorConstructorsMatchReferenceSpec) (X := fun w _ => laidMetH Tryz.prog [( "armillary/interval.products", Rows.laid_armillary_interval_products)] w) false (World.doorLaid Tryz.prog 26 os) #[.agg #[.int .i64 0, .int .i64 0], .int .u8 0, .agg #[.slice none 0 0, .int .i64 0, .int .i64 0], .slice none 0 0] 8 rfl (World.shaped_of_RefB (by kernel_rfl) (by kernel_rfl)) (by kernel_rfl) (by kernel_rfl) (by kernel_rfl) (zs4 os _)) ?_
  intro W base args ds gs zam hval hW _ _ hL _
  refine znx (G := GZ) rfl (P := Tryz.prog) (fn := Tryz.f4) (tb := 4) laidD mapsD fullD (fun t ht => ?_) rfl (fun ds hd => ?_) (by kernel_rfl) Tryz.underlying4 (fun vs hvs => ?_) W (ztX hL) base args ds gs zam hval hW
  · rw [Tryz.params4] at ht
    simp only [List.mem_cons, List.not_mem_nil, or_false, or_self] at ht
    rcases ht with rfl | rfl | rfl | rfl
    · exact ⟨by kernel_rfl, of_decide_eq_true (by kernel_rfl)⟩
    · exact ⟨by kernel_rfl, of_decide_eq_true (by kernel_rfl)⟩
    · exact ⟨by kernel_rfl, of_decide_eq_true (by kernel_rfl)⟩
    · exact ⟨by kernel_rfl, of_decide_eq_true (by kernel_rfl)⟩
  · have h2 : ds.length = 4 := hd.trans (by kernel_rfl)
    match ds, h2 with
    | [x, y, z, w], _ => rfl
  · rw [Tryz.params4] at hvs
    obtain ⟨v, w, x, y, rfl, h1, h2, h3, h4⟩ := args4 hvs
    obtain ⟨c1, c2, rfl⟩ := arg_iv h1
    obtain ⟨d, rfl, wd⟩ := ztW Tryz.underlying5 h2; have hd := u8r_of wd
    obtain ⟨p, lo, hi, rfl, op, hp⟩ := zrV h3
    obtain ⟨l, rfl⟩ := ztY h4
    exact lawD (p4 p hp lo hi c1 c2 d l)
theorem cardM2 : Rows.TaylorConstructorsMatchReferenceCardSaid :=
  Claim7.holds_tied_plain_at .later [] [.funcs] true (true, "b266c1701eeb7601fbdb96dd2f3ea904f9b70c7265f6b0a46fb374e80c0fdfef") false
    saidM2 (fun _ h => by cases h) (by kernel_rfl) (fun _ h => by cases h) taylorConstructorsMatchReference_row_tie rfl ⟨rfl, rfl⟩ (by kernel_rfl) rfl
    (fun f fn hf hfn => by
      obtain rfl : f = 4 := Option.some.inj ((show Tryz.prog.funcNamed "armillary/armillarylaw06.TaylorConstructorsMatchReference" = some 4 by kernel_rfl).symm.trans hf) |>.symm
      obtain rfl : fn = Tryz.f4 := (Option.some.inj (Tryz.func4.symm.trans hfn)).symm
      exact ⟨by kernel_rfl, fun j t ht => by
        rw [Tryz.params4] at ht
        have hm : t ∈ [24, 5, 26, 44] := by simpa using Array.mem_of_getElem? ht
        have hall : ([24, 5, 26, 44].all fun u => !Tryz.prog.wantsStandIn u) = true := by kernel_rfl
        exact (show Tryz.prog.wantsStandIn t = false by simpa using List.all_eq_true.1 hall t hm)⟩)
    (by kernel_rfl)
end Go.Ab
