/- What the laws on models are handed; conditions: none. -/
import Derived.Test.YtpalbaaghplhnaaGreatDoorRAZ
import Derived.Test.YtpalbaaghplhnaaGreatDoorTM2Z
set_option linter.unusedVariables false
set_option linter.unusedSimpArgs false
namespace Go.Ab
open Go.RowKit Go.ChangeShapes Go.WideShapes Go.Proofs Go.ChangeAt YtpalbaaghplhnaaGreatDoor
theorem args4 {P : Program} {t u s r : TypeId} {vs : List V} (h : zgY P [t, u, s, r] vs) : ∃ v w x y, vs = [v, w, x, y] ∧ zcb P t v ∧ zcb P u w ∧ zcb P s x ∧ zcb P r y := by
 simp only [zgY] at h
 obtain ⟨v, l, rfl, h1, v', l', rfl, h2, v3, l3, rfl, h3, v4, l4, rfl, h4, rfl⟩ := h
 exact ⟨v, v', v3, v4, rfl, h1, h2, h3, h4⟩
theorem len3 {l : List V} (h : l.length = 3) : ∃ a b c, l = [a, b, c] := by
 match l, h with
 | [a, b, c], _ => exact ⟨a, b, c, rfl⟩
theorem zrT {P : Program} {t e : TypeId} (hu : P.underlying t = some (.slice e)) {v : V} (h : zcb P t v) : ∃ n, Shp P n t [v] := by
 simpa only [zcb, hu] using h
theorem u8r_of {z : Int} (h : IntKind.u8.min ≤ z ∧ z ≤ IntKind.u8.max) : 0 ≤ z ∧ z ≤ 255 := by
 have e1 : IntKind.u8.min = 0 := rfl
 have e2 : IntKind.u8.max = 255 := rfl
 omega
theorem celM : Tryz.prog.cellsOf 26 = 3 := by kernel_rfl
set_option maxRecDepth 100000 in
theorem zrU (n : Nat) (r : List V) (h : Shp Tryz.prog n 26 r) : ∃ (p : List Tm) (lo hi : Int), r = [.slice .any (p.map Tm.cs), .int .i64 lo, .int .i64 hi] ∧ oks p ∧ p.length < 9223372036854775808 := by
 obtain ⟨m, hl, hf⟩ := zhP Tryz.underlying26 h
 rw [celM] at hl
 obtain ⟨v0, v1, v2, rfl⟩ := len3 hl
 obtain ⟨l0, e0, n0, o0⟩ := zlb Tryz.underlying22 (ze9 hf 0 rfl rfl celS (v := [v0]) rfl) shp_tm
 obtain ⟨a, ha⟩ := zoa m _ (ze9 hf 1 rfl rfl celI (v := [v1, v2]) rfl)
 cases e0; cases ha
 exact ⟨l0, a.lo, a.hi, rfl, o0, n0⟩
set_option maxRecDepth 100000 in
theorem zrV {v : V} (h1 : zcb Tryz.prog 26 v) : ∃ (p : List Tm) (lo hi : Int), v = .agg [.slice .any (p.map Tm.cs), .int .i64 lo, .int .i64 hi] ∧ oks p ∧ p.length < 9223372036854775808 := by
 obtain ⟨n, us, hv, k1⟩ := zrP (P := Tryz.prog) Tryz.underlying26 (.inl ⟨_, rfl⟩) h1
 obtain ⟨p, lo, hi, rfl, o, l⟩ := zrU n us k1
 exact ⟨p, lo, hi, hv, o, l⟩
set_option maxRecDepth 100000 in
theorem arg_iv {v : V} (h1 : zcb Tryz.prog 24 v) : ∃ (lo hi : Int), v = .agg [.int .i64 lo, .int .i64 hi] := by
 obtain ⟨n, us, hv, k1⟩ := zrP (P := Tryz.prog) Tryz.underlying24 (.inl ⟨_, rfl⟩) h1
 obtain ⟨a, rfl⟩ := zoa n us k1
 exact ⟨a.lo, a.hi, hv⟩
set_option maxRecDepth 100000 in
theorem ztY {v : V} (h1 : zcb Tryz.prog 44 v) : ∃ l : List Iv, v = .slice .any (l.map Iv.c) := by
 obtain ⟨n, k⟩ := zrT (P := Tryz.prog) Tryz.underlying44 h1
 obtain ⟨l, e, _, _⟩ := zlb (F := Iv.c) (Q := fun _ => True) Tryz.underlying44 k fun m r hr => by
  obtain ⟨a, ha⟩ := zoa m r hr
  exact ⟨a, ha, trivial⟩
 cases e
 exact ⟨l, rfl⟩
end Go.Ab
