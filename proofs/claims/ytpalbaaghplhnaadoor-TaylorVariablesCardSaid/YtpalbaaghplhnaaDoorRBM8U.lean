/- The statement TaylorVariables, and its card; conditions: none. -/
import Derived.Test.YtpalbaaghplhnaaDoorCards
import Derived.Test.YtpalbaaghplhnaaDoorTie
import Derived.SevenTiedAt
import Derived.Test.YtpalbaaghplhnaaDoorRMU
import Derived.Test.YtpalbaaghplhnaaDoorTM8U
set_option linter.unusedVariables false
set_option linter.unusedSimpArgs false
namespace Go.Ab
open Go.RowKit Go.ChangeShapes Go.WideShapes Go.Proofs Go.ChangeAt YtpalbaaghplhnaaDoor
set_option maxRecDepth 100000 in
theorem saidM8 : Rows.TaylorVariablesSaid := by
  refine OpenClaim.holds_of_wide 3 Tryd.f3 rfl rfl rfl rfl rfl rfl rfl ⟨rfl, rfl, rfl, rfl, rfl⟩ rfl rfl rfl rfl rfl (by kernel_rfl) Tryd.func3 (by kernel_rfl)
    (of_decide_eq_true (by kernel_rfl)) (by unfold Func.isWrapper; first | (rw [if_pos (by decide +kernel)]; kernel_rfl) | (rw [if_neg (by decide +kernel)]; exact ⟨rfl, rfl⟩))
    (fun os started H enc _ => ?_)
  refine returnsInHanded_of_change_and (C := Tryd.checked) (s := Rows.taylorVariablesSpec) (X := fun w _ => laidMetH Tryd.prog [( "armillary/interval.products", Rows.laid_armillary_interval_products)] w) (fun _ _ _ hh h => h.of_heap hh) ownD started (by kernel_rfl) Tryd.func3
    (ChangeSpec.witness_shaped (enc := enc) (C := Tryd.checked) (os := os) (s := Rows.taylorVariablesSpec) (X := fun w _ => laidMetH Tryd.prog [( "armillary/interval.products", Rows.laid_armillary_interval_products)] w) false (World.doorLaid Tryd.prog 26 os) #[.agg #[.int .i64 0, .int .i64 0], .int .u8 0, .int .u16 0] 8 rfl (World.shaped_of_RefB (by kernel_rfl) (by kernel_rfl)) (by kernel_rfl) (by kernel_rfl) (by kernel_rfl) (zrx os _)) ?_
  intro W base args ds gs zai hval hW _ _ hL _
  refine zms (G := GU) rfl (P := Tryd.prog) (fn := Tryd.f3) (tb := 4) laidD mapsD fullD (fun t ht => ?_) rfl (fun ds hd => ?_) (by kernel_rfl) Tryd.underlying4 (fun vs hvs => ?_) W (zsl hL) base args ds gs zai hval hW
  · rw [Tryd.params3] at ht
    simp only [List.mem_cons, List.not_mem_nil, or_false, or_self] at ht
    rcases ht with rfl | rfl | rfl
    · exact ⟨by kernel_rfl, of_decide_eq_true (by kernel_rfl)⟩
    · exact ⟨by kernel_rfl, of_decide_eq_true (by kernel_rfl)⟩
    · exact ⟨by kernel_rfl, of_decide_eq_true (by kernel_rfl)⟩
  · have h2 : ds.length = 3 := hd.trans (by kernel_rfl)
    match ds, h2 with
    | [x, y, z], _ => rfl
  · rw [Tryd.params3] at hvs
    obtain ⟨v, w, x, rfl, h1, h2, h3⟩ := args3 hvs
    obtain ⟨c1, c2, rfl⟩ := arg_iv h1
    obtain ⟨d, rfl, wd⟩ := znW Tryd.underlying5 h2; have hd := u8r_of wd
    obtain ⟨x, rfl, wx⟩ := znW Tryd.underlying24 h3; have hx := u16_of wx
    exact lawD (p3 c1 c2 d hd x hx)
theorem cardM8 : Rows.TaylorVariablesCardSaid :=
  Claim7.holds_tied_plain_at .later [] [.funcs] true (true, "f3864bf8385261bece46eab22a9047d119b38048229fd32e21f587a3f71ded6d") false
    saidM8 (fun _ h => by cases h) (by kernel_rfl) (fun _ h => by cases h) taylorVariables_row_tie rfl ⟨rfl, rfl⟩ (by kernel_rfl) rfl
    (fun f fn hf hfn => by
      obtain rfl : f = 3 := Option.some.inj ((show Tryd.prog.funcNamed "armillary/armillarylaw06.TaylorVariables" = some 3 by kernel_rfl).symm.trans hf) |>.symm
      obtain rfl : fn = Tryd.f3 := (Option.some.inj (Tryd.func3.symm.trans hfn)).symm
      exact ⟨by kernel_rfl, fun j t ht => by
        rw [Tryd.params3] at ht
        have hm : t ∈ [23, 5, 24] := by simpa using Array.mem_of_getElem? ht
        have hall : ([23, 5, 24].all fun u => !Tryd.prog.wantsStandIn u) = true := by kernel_rfl
        exact (show Tryd.prog.wantsStandIn t = false by simpa using List.all_eq_true.1 hall t hm)⟩)
    (by kernel_rfl)
end Go.Ab
