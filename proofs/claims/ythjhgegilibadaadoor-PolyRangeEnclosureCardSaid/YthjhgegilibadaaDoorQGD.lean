/- Intervals in larger intervals: sums, products, squares, powers, values; conditions: valid intervals. -/
import Derived.Test.YthjhgegilibadaaDoorQDD
namespace Go.Ab
set_option linter.unusedVariables false
set_option linter.unusedSimpArgs false
set_option linter.unusedSimpArgs false
set_option linter.unusedVariables false
def Iv.sbs (a b : Iv) : Prop := b.lo ≤ a.lo ∧ a.hi ≤ b.hi
theorem bil {x l h y p q : Int} (h1 : l ≤ x) (h2 : x ≤ h) (h3 : p ≤ y) (h4 : y ≤ q) : min4 (l * p) (l * q) (h * p) (h * q) ≤ x * y ∧ x * y ≤ max4 (l * p) (l * q) (h * p) (h * q) := by
  have o1 := mul_ord h1 y
  have o2 := mul_ord h2 y
  have o3 := mul_ord' h3 l
  have o4 := mul_ord' h4 l
  have o5 := mul_ord' h3 h
  have o6 := mul_ord' h4 h
  unfold min4 max4
  by_cases c1 : 0 ≤ y <;> by_cases c2 : 0 ≤ l <;> by_cases c3 : 0 ≤ h <;> omega
/-! The whole domain. -/
def unit2 : Iv := ⟨0, 65536⟩
theorem dom_sq : dom.sq = unit2 := by decide
theorem unit2_sq : unit2.sq = unit2 := by decide
theorem unit2_dom : unit2.mul dom = dom := by decide
theorem ipow_dom : ∀ u : Nat, 1 ≤ u → ipow dom u = if u % 2 = 1 then dom else unit2 := by
  intro u
  induction u using Nat.strongRecOn with
  | _ u ih =>
    intro h
    by_cases h1 : u ≤ 1
    · have : u = 1 := by omega
      subst this
      rw [ipow_1 _ (Nat.le_refl 1)]; rfl
    · by_cases h2 : u % 2 = 0
      · rw [ipow_e dom (by omega) h2, ih (u / 2) (by omega) (by omega), if_neg (show ¬ u % 2 = 1 by omega)]
        split
        · exact dom_sq
        · exact unit2_sq
      · rw [ipow_o dom (by omega) h2, ih (u - 1) (by omega) (by omega), if_neg (show ¬ (u - 1) % 2 = 1 by omega), if_pos (show u % 2 = 1 by omega), unit2_dom]
end Go.Ab
