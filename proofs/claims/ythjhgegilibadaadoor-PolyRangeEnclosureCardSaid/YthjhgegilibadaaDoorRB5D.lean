/- The statement PolyRangeEnclosure, and its card; conditions: none. -/
import Derived.Test.YthjhgegilibadaaDoorCards
import Derived.Test.YthjhgegilibadaaDoorTie
import Derived.SevenTiedAt
import Derived.Test.YthjhgegilibadaaDoorRCD
import Derived.Test.YthjhgegilibadaaDoorQJD
namespace Go.Ab
set_option linter.unusedVariables false
set_option linter.unusedSimpArgs false
set_option linter.unusedSimpArgs false
set_option linter.unusedVariables false
open Go.RowKit Go.ChangeShapes Go.WideShapes Go.Proofs Go.ChangeAt YthjhgegilibadaaDoor
set_option maxRecDepth 100000 in
theorem said5 : Rows.PolyRangeEnclosureSaid := by
  refine OpenClaim.holds_of_wide 5 Tryd.f5 rfl rfl rfl rfl rfl rfl rfl ⟨rfl, rfl, rfl, rfl, rfl⟩ rfl rfl rfl rfl rfl (by kernel_rfl) Tryd.func5 (by kernel_rfl)
    (of_decide_eq_true (by kernel_rfl)) (by unfold Func.isWrapper; first | (rw [if_pos (by decide +kernel)]; kernel_rfl) | (rw [if_neg (by decide +kernel)]; exact ⟨rfl, rfl⟩))
    (fun os started H enc _ => ?_)
  refine returnsInHanded_of_change_and (C := Tryd.checked) (s := Rows.polyRangeEnclosureSpec) (X := fun w _ => laidMetH Tryd.prog [( "armillary/interval.products", Rows.laid_armillary_interval_products)] w) (fun _ _ _ hh h => h.of_heap hh) ownD started (by kernel_rfl) Tryd.func5
    (ChangeSpec.witness_shaped (enc := enc) (C := Tryd.checked) (os := os) (s := Rows.polyRangeEnclosureSpec) (X := fun w _ => laidMetH Tryd.prog [( "armillary/interval.products", Rows.laid_armillary_interval_products)] w) false (World.doorLaid Tryd.prog 26 os) #[.agg #[.slice none 0 0, .slice none 0 0, .int .i64 0, .int .i8 0], .agg #[.int .i8 0, .int .i8 0, .int .i8 0, .int .i8 0, .int .i8 0, .int .i8 0], .int .u16 0] 8 rfl (World.shaped_of_RefB (by kernel_rfl) (by kernel_rfl)) (by kernel_rfl) (by kernel_rfl) (by kernel_rfl) (door_met os _)) ?_
  intro W base args ds gs before hval hW _ _ hL _
  refine law_contract (G := GD) rfl (P := Tryd.prog) (fn := Tryd.f5) (tb := 4) laidD mapsD fullD (fun t ht => ?_) rfl (fun ds hd => ?_) (by kernel_rfl) Tryd.underlying4 (fun vs hvs => ?_) W (glob_of hL) base args ds gs before hval hW
  · rw [Tryd.params5] at ht
    simp only [List.mem_cons, List.not_mem_nil, or_false, or_self] at ht
    rcases ht with rfl | rfl | rfl
    · exact ⟨by kernel_rfl, of_decide_eq_true (by kernel_rfl)⟩
    · exact ⟨by kernel_rfl, of_decide_eq_true (by kernel_rfl)⟩
    · exact ⟨by kernel_rfl, of_decide_eq_true (by kernel_rfl)⟩
  · have h2 : ds.length = 3 := hd.trans (by kernel_rfl)
    match ds, h2 with
    | [x, y, z], _ => rfl
  · rw [Tryd.params5] at hvs
    obtain ⟨v, w, x, rfl, h1, h2, h3⟩ := args3 hvs
    obtain ⟨a, b, c, n, o1, o2, n1, n2, b1, b2, rfl⟩ := arg_operands h1
    obtain ⟨l1, l2, l3, l4, l5, l6, rfl, hl⟩ := arg_six h2
    obtain ⟨x, rfl, wx⟩ := arg_int Tryd.underlying58 h3; have hx := u16_of wx
    exact lawD (p5 a b n1 n2 c n l1 l2 l3 l4 l5 l6 x hx)
theorem card5 : Rows.PolyRangeEnclosureCardSaid :=
  Claim7.holds_tied_plain_at .later [] [.funcs] true (true, "e8f965ce3481bb3ceb81375e018f325c9d60d7612fe58641fc0a9abfa165f55f") false
    said5 (fun _ h => by cases h) (by kernel_rfl) (fun _ h => by cases h) polyRangeEnclosure_row_tie rfl ⟨rfl, rfl⟩ (by kernel_rfl) rfl
    (fun f fn hf hfn => by
      obtain rfl : f = 5 := Option.some.inj ((show Tryd.prog.funcNamed "armillary/armillarylaw05.PolyRangeEnclosure" = some 5 by kernel_rfl).symm.trans hf) |>.symm
      obtain rfl : fn = Tryd.f5 := (Option.some.inj (Tryd.func5.symm.trans hfn)).symm
      exact ⟨by kernel_rfl, fun j t ht => by
        rw [Tryd.params5] at ht
        have hm : t ∈ [25, 48, 58] := by simpa using Array.mem_of_getElem? ht
        have hall : ([25, 48, 58].all fun u => !Tryd.prog.wantsStandIn u) = true := by kernel_rfl
        exact (show Tryd.prog.wantsStandIn t = false by simpa using List.all_eq_true.1 hall t hm)⟩)
    (by kernel_rfl)
end Go.Ab
