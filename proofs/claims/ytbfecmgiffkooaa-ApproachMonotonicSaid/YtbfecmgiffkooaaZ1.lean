/- A query's arguments, typed, and the row's step of a statement of this seat; conditions: none. -/
import Derived.Test.YtbfecmgiffkooaaRows
import Derived.WalkKit
import Derived.ProofKit
import Derived.JoinedCond
import Derived.Test.YtbfecmgiffkooaaY3
import Derived.Test.YtbfecmgiffkooaaG4
namespace Go.Ab
set_option linter.unusedVariables false
set_option linter.unusedSimpArgs false
open Go.RowKit Go.ChangeShapes Go.WideShapes Go.Proofs
theorem cells2 : Try.prog.cellsOf 2 = 1 := by kernel_rfl
theorem cells5 : Try.prog.cellsOf 5 = 1 := by kernel_rfl
theorem cells22 : Try.prog.cellsOf 22 = 1 := by kernel_rfl
theorem cells38 : Try.prog.cellsOf 38 = 1 := by kernel_rfl
theorem cells24 : Try.prog.cellsOf 24 = 4 := by kernel_rfl
theorem cells31 : Try.prog.cellsOf 31 = 2 := by kernel_rfl
theorem cells45 : Try.prog.cellsOf 45 = 6 := by kernel_rfl
theorem und38 : Try.prog.underlying 38 = some (.slice 31) := by kernel_rfl
section
variable {P : Program}
theorem shp_slice {t e : TypeId} {α : Type} {F : α → List V} (hu : P.underlying t = some (.slice e)) {n : Nat} {vs : List V} (h : Shp P n t vs) (one : ∀ m r, Shp P m e r → ∃ a, r = F a) : ∃ l : List α, vs = [.slice .any (l.map F)] := by
  cases n with
  | zero => exact absurd h (by simp only [Shp]; exact id)
  | succ n =>
    simp only [Shp, hu] at h
    obtain ⟨rows, rfl, _, hr⟩ := h
    have : ∀ rows : List (List V), (∀ r ∈ rows, Shp P n e r) → ∃ l : List α, rows = l.map F := by
      intro rows
      induction rows with
      | nil => intro _; exact ⟨[], rfl⟩
      | cons r rows ih =>
        intro h
        obtain ⟨a, rfl⟩ := one n r (h r (by simp))
        obtain ⟨l, rfl⟩ := ih fun r hr => h r (by simp [hr])
        exact ⟨a :: l, rfl⟩
    obtain ⟨l, rfl⟩ := this rows hr
    exact ⟨l, rfl⟩
theorem shp_int {t : TypeId} {k : IntKind} (hu : P.underlying t = some (.int k)) {n : Nat} {vs : List V} (h : Shp P n t vs) : ∃ z, vs = [.int k z] ∧ k.min ≤ z ∧ z ≤ k.max := by
  cases n with
  | zero => exact absurd h (by simp only [Shp]; exact id)
  | succ n => simpa only [Shp, hu] using h
theorem shp_struct {t : TypeId} {fs : Array Field} (hu : P.underlying t = some (.struct fs)) {n : Nat} {vs : List V} (h : Shp P n t vs) : ∃ m, vs.length = P.cellsOf t ∧ ∀ f ∈ fs.toList, Shp P m f.type ((vs.drop f.offset).take (P.cellsOf f.type)) := by
  cases n with
  | zero => exact absurd h (by simp only [Shp]; exact id)
  | succ n =>
    simp only [Shp, hu] at h
    exact ⟨n, h⟩
/-- One cell of a struct. -/
theorem shp_cell {m : Nat} {fs : Array Field} {vs : List V} (h : ∀ f ∈ fs.toList, Shp P m f.type ((vs.drop f.offset).take (P.cellsOf f.type))) (i : Nat) {f : Field} (hf : fs.toList[i]? = some f) {t : TypeId} (ht : f.type = t) (hc : P.cellsOf t = 1) {v : V} (hv : (vs.drop f.offset).take 1 = [v]) : Shp P m t [v] := by
  have := h f (List.mem_of_getElem? hf)
  rwa [ht, hc, hv] at this
theorem len2 {l : List V} (h : l.length = 2) : ∃ a b, l = [a, b] := by
  match l, h with
  | [a, b], _ => exact ⟨a, b, rfl⟩
theorem len4 {l : List V} (h : l.length = 4) : ∃ a b c d, l = [a, b, c, d] := by
  match l, h with
  | [a, b, c, d], _ => exact ⟨a, b, c, d, rfl⟩
theorem len6 {l : List V} (h : l.length = 6) : ∃ a b c d e f, l = [a, b, c, d, e, f] := by
  match l, h with
  | [a, b, c, d, e, f], _ => exact ⟨a, b, c, d, e, f, rfl⟩
theorem arg_struct {t : TypeId} {fs : Array Field} (hu : P.underlying t = some (.struct fs)) {v : V} (h : ArgShp P t v) : ∃ n vs, v = .agg vs ∧ Shp P n t vs := by
  simpa only [ArgShp, hu] using h
theorem arg_int {t : TypeId} {k : IntKind} (hu : P.underlying t = some (.int k)) {v : V} (h : ArgShp P t v) : ∃ z, v = .int k z ∧ k.min ≤ z ∧ z ≤ k.max := by
  simp only [ArgShp, hu] at h
  obtain ⟨n, h⟩ := h
  obtain ⟨z, e, hb⟩ := shp_int hu h
  cases e
  exact ⟨z, rfl, hb⟩
theorem args2 {t u : TypeId} {vs : List V} (h : ArgsShp P [t, u] vs) : ∃ v w, vs = [v, w] ∧ ArgShp P t v ∧ ArgShp P u w := by
  simp only [ArgsShp] at h
  obtain ⟨v, l, rfl, h1, v', l', rfl, h2, rfl⟩ := h
  exact ⟨v, v', rfl, h1, h2⟩
end
theorem shp_iv (n : Nat) (r : List V) (h : Shp Try.prog n 31 r) : ∃ a : Iv, r = a.c := by
  obtain ⟨m, hl, hf⟩ := shp_struct Try.underlying31 h
  rw [cells31] at hl
  obtain ⟨v0, v1, rfl⟩ := len2 hl
  obtain ⟨z0, e0, _⟩ := shp_int Try.underlying2 (shp_cell hf 0 rfl rfl cells2 (v := v0) rfl)
  obtain ⟨z1, e1, _⟩ := shp_int Try.underlying2 (shp_cell hf 1 rfl rfl cells2 (v := v1) rfl)
  cases e0; cases e1
  exact ⟨⟨z0, z1⟩, rfl⟩
theorem shp_seg (n : Nat) (r : List V) (h : Shp Try.prog n 45 r) : ∃ a : Seg, r = a.c := by
  obtain ⟨m, hl, hf⟩ := shp_struct Try.underlying45 h
  rw [cells45] at hl
  obtain ⟨v0, v1, v2, v3, v4, v5, rfl⟩ := len6 hl
  obtain ⟨z0, e0, _⟩ := shp_int Try.underlying2 (shp_cell hf 0 rfl rfl cells2 (v := v0) rfl)
  obtain ⟨z1, e1, _⟩ := shp_int Try.underlying2 (shp_cell hf 1 rfl rfl cells2 (v := v1) rfl)
  obtain ⟨l2, e2⟩ := shp_slice und38 (shp_cell hf 2 rfl rfl cells38 (v := v2) rfl) shp_iv
  obtain ⟨l3, e3⟩ := shp_slice und38 (shp_cell hf 3 rfl rfl cells38 (v := v3) rfl) shp_iv
  obtain ⟨l4, e4⟩ := shp_slice und38 (shp_cell hf 4 rfl rfl cells38 (v := v4) rfl) shp_iv
  obtain ⟨l5, e5⟩ := shp_slice und38 (shp_cell hf 5 rfl rfl cells38 (v := v5) rfl) shp_iv
  cases e0; cases e1; cases e2; cases e3; cases e4; cases e5
  exact ⟨⟨z0, z1, l2, l3, l4, l5⟩, rfl⟩
set_option maxRecDepth 100000 in
/-- A query and an octet, as the statement's function takes them. -/
theorem args_query (vs : List V) (h : ArgsShp Try.prog [24, 5] vs) : ∃ (a b : List Seg) (p d e : Int), 0 ≤ p ∧ p ≤ 255 ∧ 0 ≤ e ∧ e ≤ 255 ∧ -9223372036854775808 ≤ d ∧ d ≤ 9223372036854775807 ∧
    vs = [.agg [.slice .any (a.map Seg.c), .slice .any (b.map Seg.c), .int .u8 p, .int .i64 d], .int .u8 e] := by
  obtain ⟨v, w, rfl, h1, h2⟩ := args2 h
  have k1 := arg_struct (P := Try.prog) (t := 24) Try.underlying24 (v := v) h1
  clear h1
  obtain ⟨n, us, hv, h1⟩ := k1
  subst hv
  obtain ⟨z, hw, hz1, hz2⟩ := arg_int Try.underlying5 h2
  subst hw
  obtain ⟨m, hl, hf⟩ := shp_struct Try.underlying24 h1
  rw [cells24] at hl
  obtain ⟨v0, v1, v2, v3, rfl⟩ := len4 hl
  obtain ⟨l0, e0⟩ := shp_slice Try.underlying22 (shp_cell hf 0 rfl rfl cells22 (v := v0) rfl) shp_seg
  obtain ⟨l1, e1⟩ := shp_slice Try.underlying22 (shp_cell hf 1 rfl rfl cells22 (v := v1) rfl) shp_seg
  obtain ⟨z2, e2, a1, a2⟩ := shp_int Try.underlying5 (shp_cell hf 2 rfl rfl cells5 (v := v2) rfl)
  obtain ⟨z3, e3, b1, b2⟩ := shp_int Try.underlying2 (shp_cell hf 3 rfl rfl cells2 (v := v3) rfl)
  cases e0; cases e1; cases e2; cases e3
  exact ⟨l0, l1, z2, z3, z, a1, a2, hz1, hz2, b1, b2, rfl⟩
set_option maxRecDepth 100000 in
theorem arg_query {v : V} (h1 : ArgShp Try.prog 24 v) : ∃ (a b : List Seg) (p d : Int), 0 ≤ p ∧ p ≤ 255 ∧ -9223372036854775808 ≤ d ∧ d ≤ 9223372036854775807 ∧
    v = .agg [.slice .any (a.map Seg.c), .slice .any (b.map Seg.c), .int .u8 p, .int .i64 d] := by
  obtain ⟨n, us, hv, k1⟩ := arg_struct (P := Try.prog) (t := 24) Try.underlying24 (v := v) h1
  subst hv
  obtain ⟨m, hl, hf⟩ := shp_struct Try.underlying24 k1
  rw [cells24] at hl
  obtain ⟨v0, v1, v2, v3, rfl⟩ := len4 hl
  obtain ⟨l0, e0⟩ := shp_slice Try.underlying22 (shp_cell hf 0 rfl rfl cells22 (v := v0) rfl) shp_seg
  obtain ⟨l1, e1⟩ := shp_slice Try.underlying22 (shp_cell hf 1 rfl rfl cells22 (v := v1) rfl) shp_seg
  obtain ⟨z2, e2, a1, a2⟩ := shp_int Try.underlying5 (shp_cell hf 2 rfl rfl cells5 (v := v2) rfl)
  obtain ⟨z3, e3, b1, b2⟩ := shp_int Try.underlying2 (shp_cell hf 3 rfl rfl cells2 (v := v3) rfl)
  cases e0; cases e1; cases e2; cases e3
  exact ⟨l0, l1, z2, z3, a1, a2, b1, b2, rfl⟩
theorem args1 {P : Program} {t : TypeId} {vs : List V} (h : ArgsShp P [t] vs) : ∃ v, vs = [v] ∧ ArgShp P t v := by
  simp only [ArgsShp] at h
  obtain ⟨v, l, rfl, h1, rfl⟩ := h
  exact ⟨v, rfl, h1⟩
theorem args3 {P : Program} {t u s : TypeId} {vs : List V} (h : ArgsShp P [t, u, s] vs) : ∃ v w x, vs = [v, w, x] ∧ ArgShp P t v ∧ ArgShp P u w ∧ ArgShp P s x := by
  simp only [ArgsShp] at h
  obtain ⟨v, l, rfl, h1, v', l', rfl, h2, v3, l3, rfl, h3, rfl⟩ := h
  exact ⟨v, v', v3, rfl, h1, h2, h3⟩
set_option maxRecDepth 100000 in
theorem args_q (vs : List V) (h : ArgsShp Try.prog [24] vs) : ∃ (a b : List Seg) (p d : Int), 0 ≤ p ∧ p ≤ 255 ∧ -9223372036854775808 ≤ d ∧ d ≤ 9223372036854775807 ∧
    vs = [.agg [.slice .any (a.map Seg.c), .slice .any (b.map Seg.c), .int .u8 p, .int .i64 d]] := by
  obtain ⟨v, hv, h1⟩ := args1 h
  subst hv
  obtain ⟨a, b, p, d, k1, k2, k3, k4, hv⟩ := arg_query h1
  subst hv
  exact ⟨a, b, p, d, k1, k2, k3, k4, rfl⟩
theorem cells42 : Try.prog.cellsOf 42 = 1 := by kernel_rfl
theorem cells41 : Try.prog.cellsOf 41 = 2 := by kernel_rfl
theorem cells43 : Try.prog.cellsOf 43 = 6 := by kernel_rfl
theorem und21 : Try.prog.underlying 21 = some (.int .i32) := by kernel_rfl
theorem und56 : Try.prog.underlying 56 = some (.int .u16) := by kernel_rfl
theorem arg_array {P : Program} {t e : TypeId} {n : Nat} (hu : P.underlying t = some (.array n e)) {v : V} (h : ArgShp P t v) : ∃ m vs, v = .agg vs ∧ vs.length = P.cellsOf t ∧ ∀ i, i < n → Shp P m e ((vs.drop (i * P.cellsOf e)).take (P.cellsOf e)) := by
  simp only [ArgShp, hu] at h
  obtain ⟨m, vs, rfl, h⟩ := h
  cases m with
  | zero => exact absurd h (by simp only [Shp]; exact id)
  | succ m =>
    simp only [Shp, hu] at h
    exact ⟨m, vs, rfl, h⟩
theorem u32_of {z : Int} (h : IntKind.u32.min ≤ z ∧ z ≤ IntKind.u32.max) : 0 ≤ z ∧ z < 4294967296 := by
  have e1 : IntKind.u32.min = 0 := rfl
  have e2 : IntKind.u32.max = 4294967295 := rfl
  omega
theorem u8_of {z : Int} (h : IntKind.u8.min ≤ z ∧ z ≤ IntKind.u8.max) : 0 ≤ z ∧ z ≤ 255 := by
  have e1 : IntKind.u8.min = 0 := rfl
  have e2 : IntKind.u8.max = 255 := rfl
  omega
theorem u16_of {z : Int} (h : IntKind.u16.min ≤ z ∧ z ≤ IntKind.u16.max) : 0 ≤ z ∧ z ≤ 65535 := by
  have e1 : IntKind.u16.min = 0 := rfl
  have e2 : IntKind.u16.max = 65535 := rfl
  omega
theorem i32_of {z : Int} (h : IntKind.i32.min ≤ z ∧ z ≤ IntKind.i32.max) : -2147483648 ≤ z ∧ z ≤ 2147483647 := by
  have e1 : IntKind.i32.min = -2147483648 := rfl
  have e2 : IntKind.i32.max = 2147483647 := rfl
  omega
set_option maxRecDepth 100000 in
theorem arg_u32x6 {v : V} (h : ArgShp Try.prog 43 v) : ∃ p0 p1 p2 p3 p4 p5 : Int, (0 ≤ p0 ∧ p0 < 4294967296) ∧ (0 ≤ p1 ∧ p1 < 4294967296) ∧ (0 ≤ p2 ∧ p2 < 4294967296) ∧ (0 ≤ p3 ∧ p3 < 4294967296) ∧ (0 ≤ p4 ∧ p4 < 4294967296) ∧ (0 ≤ p5 ∧ p5 < 4294967296) ∧
    v = .agg [.int .u32 p0, .int .u32 p1, .int .u32 p2, .int .u32 p3, .int .u32 p4, .int .u32 p5] := by
  obtain ⟨m, vs, hv, hl, hf⟩ := arg_array (P := Try.prog) (t := 43) (e := 42) (n := 6) Try.underlying43 (v := v) h
  rw [cells43] at hl
  rw [cells42] at hf
  obtain ⟨v0, v1, v2, v3, v4, v5, rfl⟩ := len6 hl
  obtain ⟨p0, e0, b0⟩ := shp_int Try.underlying42 (hf 0 (by decide))
  obtain ⟨p1, e1, b1⟩ := shp_int Try.underlying42 (hf 1 (by decide))
  obtain ⟨p2, e2, b2⟩ := shp_int Try.underlying42 (hf 2 (by decide))
  obtain ⟨p3, e3, b3⟩ := shp_int Try.underlying42 (hf 3 (by decide))
  obtain ⟨p4, e4, b4⟩ := shp_int Try.underlying42 (hf 4 (by decide))
  obtain ⟨p5, e5, b5⟩ := shp_int Try.underlying42 (hf 5 (by decide))
  cases e0; cases e1; cases e2; cases e3; cases e4; cases e5
  exact ⟨p0, p1, p2, p3, p4, p5, u32_of b0, u32_of b1, u32_of b2, u32_of b3, u32_of b4, u32_of b5, hv⟩
set_option maxRecDepth 100000 in
theorem arg_u8x2 {v : V} (h : ArgShp Try.prog 41 v) : ∃ p0 p1 : Int, (0 ≤ p0 ∧ p0 ≤ 255) ∧ (0 ≤ p1 ∧ p1 ≤ 255) ∧ v = .agg [.int .u8 p0, .int .u8 p1] := by
  obtain ⟨m, vs, hv, hl, hf⟩ := arg_array (P := Try.prog) (t := 41) (e := 5) (n := 2) Try.underlying41 (v := v) h
  rw [cells41] at hl
  rw [cells5] at hf
  obtain ⟨v0, v1, rfl⟩ := len2 hl
  obtain ⟨p0, e0, b0⟩ := shp_int Try.underlying5 (hf 0 (by decide))
  obtain ⟨p1, e1, b1⟩ := shp_int Try.underlying5 (hf 1 (by decide))
  cases e0; cases e1
  exact ⟨p0, p1, u8_of b0, u8_of b1, hv⟩
theorem laid20 : laidOutB Try.prog = true := by kernel_rfl
theorem maps20 : mapsRowed Try.prog = true := by kernel_rfl
theorem full20 : ∀ t e, t < Try.prog.types.size → Try.prog.underlying t = some (.slice e) → 0 < Try.prog.cellsOf e := slices_full_of _ (by kernel_rfl)
theorem mixed20 : G20.P.follows .mixedOrders = true := by kernel_rfl
theorem own20 : ownKnob Try.prog.godebug = none := by kernel_rfl
/-- What the limit says of a call by value. -/
theorem law20 {f : FuncId} {vs : List V} {v : V} (h : (CW G20 L20).p (.func f) vs = some v) : PureR Try.prog (.func f) vs v := by
  obtain ⟨r, h1, h2⟩ := CW_p.1 h
  exact pure_ok (bs_ok mixed20 h1) h2
end Go.Ab
