/- The statement that the range and the value over a box hold the value at a point answers true; conditions: lengths of slices; sixteen bits. -/
import Derived.Test.YthjhgegilibadaaDoorQJ0D
import Derived.Test.YthjhgegilibadaaDoorER5D
namespace Go.Ab
set_option linter.unusedVariables false
set_option linter.unusedSimpArgs false
set_option linter.unusedSimpArgs false
set_option linter.unusedVariables false
def bxZ (x w : Int) : Iv := ⟨w * 32768 - x.tmod 4096, w * 32768 + x.tdiv 3⟩
theorem bxZ_b {x w : Int} (hx : 0 ≤ x ∧ x ≤ 65535) (hw : -2 ≤ w ∧ w ≤ 2) : -100000 ≤ (bxZ x w).lo ∧ (bxZ x w).lo ≤ w * 32768 ∧ w * 32768 ≤ (bxZ x w).hi ∧ (bxZ x w).hi ≤ 100000 := by
  have h1 : x.tmod 4096 = x % 4096 := Int.tmod_eq_emod_of_nonneg hx.1
  have h2 : x.tdiv 3 = x / 3 := Int.tdiv_eq_ediv_of_nonneg hx.1
  unfold bxZ
  simp only [h1, h2]
  omega
theorem bxZ_valid {x w : Int} (hx : 0 ≤ x ∧ x ≤ 65535) (hw : -2 ≤ w ∧ w ≤ 2) : (bxZ x w).valid := by
  have h := bxZ_b hx hw
  unfold Iv.valid number
  refine ⟨by omega, by omega, by omega, .inr ?_⟩
  omega
theorem bxZ_has {x w : Int} (hx : 0 ≤ x ∧ x ≤ 65535) (hw : -2 ≤ w ∧ w ≤ 2) : has 1 (65536 * w) (bxZ x w) := by
  have h := bxZ_b hx hw
  refine .inr ⟨?_, ?_⟩ <;> rw [Int.pow_succ, Int.pow_zero] <;> omega
def boxS (x : Int) (A : List Tm) (z : Pt) (l : List Int) (n : Int) : St :=
  S5_5 x true (A.map Tm.cs) z.a z.b z.c z.d z.e z.f ((l.map (bxZ x)).map Iv.c).length n ((l.map (bxZ x)).map Iv.c)
theorem box_step (x : Int) (hx : 0 ≤ x ∧ x ≤ 65535) (A : List Tm) (z : Pt) (l : List Int) (hl : l.length ≤ 6) (w : Int) (hw : -2 ≤ w ∧ w ≤ 2) (n : Nat) (hn : n < 6)
    (h1 : nthI [z.a, z.b, z.c, z.d, z.e, z.f] (n * 1) = some w) :
    roundK GD LD (CW GD LD) 5 none 5 (boxS x A z l ((n : Nat) : Int)) = some (.normal, boxS x A z (l ++ [w]) ((n + 1 : Nat) : Int)) := by
  have hb := bxZ_b hx hw
  unfold bxZ at hb
  simp only at hb
  have wx : IntKind.wrap .i64 x = x := w64 (by omega) (by omega)
  have ww : IntKind.wrap .i64 (w * 32768) = w * 32768 := w64 (by omega) (by omega)
  have wl : IntKind.wrap .i64 (w * 32768 - x.tmod 4096) = w * 32768 - x.tmod 4096 := w64 (by omega) (by omega)
  have wd : IntKind.wrap .i64 (x.tdiv 3) = x.tdiv 3 := w64 (by omega) (by omega)
  have wh : IntKind.wrap .i64 (w * 32768 + x.tdiv 3) = w * 32768 + x.tdiv 3 := w64 (by omega) (by omega)
  have ws := wsucc n (by omega)
  have e1 : decide (((n : Nat) : Int) < 6) = true := by simp; omega
  have e2 : decide ((0 : Int) ≤ ((n : Nat) : Int)) = true := by simp
  have e3 : decide (n < 6) = true := by simpa using hn
  have hr : decide ((((l.map (bxZ x)).map Iv.c).length + 1) * 16 ≤ room) = true := by simp only [List.length_map, decide_eq_true_eq]; unfold room; omega
  have c1 : List.append ((l.map (bxZ x)).map Iv.c) [[.int .i64 (w * 32768 - x.tmod 4096), .int .i64 (w * 32768 + x.tdiv 3)]] = ((l ++ [w]).map (bxZ x)).map Iv.c := by rw [List.map_append, List.map_append]; rfl
  have b1 : ((l.map (bxZ x)).map Iv.c).length + 1 = (((l ++ [w]).map (bxZ x)).map Iv.c).length := by simp
  unfold boxS
  rw [e5_5, e1, e2, Int.toNat_natCast, e3]
  refine (cT rfl _ _).trans ?_
  refine (cT rfl _ _).trans ?_
  refine (cT rfl _ _).trans ?_
  refine (bSome h1 _).trans ?_
  refine (cT (decide_eq_true rfl) _ _).trans ?_
  refine (cT hr _ _).trans ?_
  rw [wx, ww, wl, wd, wh, ws, c1, b1]
theorem box_loop (x : Int) (hx : 0 ≤ x ∧ x ≤ 65535) (A : List Tm) (z : Pt) (hz : z.ok) :
    iterW (roundK GD LD (CW GD LD) 5 none 5) (boxS x A z [] ((0 : Nat) : Int)) = some (.exit 0, boxS x A z [z.a, z.b, z.c, z.d, z.e, z.f] ((6 : Nat) : Int)) := by
  obtain ⟨h1, h2, h3, h4, h5, h6⟩ := hz
  refine (iterW_n (box_step x hx A z [] (by simp) z.a h1 0 (by omega) rfl)).trans ?_
  refine (iterW_n (box_step x hx A z [z.a] (by simp) z.b h2 1 (by omega) rfl)).trans ?_
  refine (iterW_n (box_step x hx A z [z.a, z.b] (by simp) z.c h3 2 (by omega) rfl)).trans ?_
  refine (iterW_n (box_step x hx A z [z.a, z.b, z.c] (by simp) z.d h4 3 (by omega) rfl)).trans ?_
  refine (iterW_n (box_step x hx A z [z.a, z.b, z.c, z.d] (by simp) z.e h5 4 (by omega) rfl)).trans ?_
  refine (iterW_n (box_step x hx A z [z.a, z.b, z.c, z.d, z.e] (by simp) z.f h6 5 (by omega) rfl)).trans ?_
  refine iterW_x ?_
  unfold boxS
  rw [e5_5]
  exact cF (by decide) _ _
theorem w4096 {a : Iv} (ha : a.valid) : IntKind.wrap .i64 (4096 * a.lo) = 4096 * a.lo ∧ IntKind.wrap .i64 (4096 * a.hi) = 4096 * a.hi := by
  obtain ⟨h1, h2, h3, _⟩ := ha
  exact ⟨w64 (by omega) (by omega), w64 (by omega) (by omega)⟩
theorem in_of {v : Int} {a : Iv} (ha : a.valid) (h : has 12 v a) (hw : a.isW = false) : decide (v < IntKind.wrap .i64 (4096 * a.lo)) = false ∧ decide (v > IntKind.wrap .i64 (4096 * a.hi)) = false := by
  rw [(w4096 ha).1, (w4096 ha).2]
  rcases h with h | h
  · rw [hw] at h; cases h
  · rw [show (2 : Int) ^ 12 = 4096 by decide] at h
    exact ⟨decide_eq_false (by omega), decide_eq_false (by omega)⟩
set_option maxRecDepth 100000 in
theorem p5 (a b : List Tm) (hal : a.length < 9223372036854775808) (hbl : b.length < 9223372036854775808) (c n l1 l2 l3 l4 l5 l6 : Int) (x : Int) (hx : 0 ≤ x ∧ x ≤ 65535) :
    (CW GD LD).p (.func 5) [.agg [.slice .any (a.map Tm.cs), .slice .any (b.map Tm.cs), .int .i64 c, .int .i8 n], .agg [.int .i8 l1, .int .i8 l2, .int .i8 l3, .int .i8 l4, .int .i8 l5, .int .i8 l6], .int .u16 x] = some (.bool true) := by
  have hsmall := p37 a b hal hbl c n
  have PA := pol_made a 6 1048576
  generalize madeP a 6 1048576 = A at *
  generalize madeP b 6 1048576 = B at *
  obtain ⟨oA, nA, sA, fA, lA⟩ := PA
  have dA : deg6 A := fun t ht => (fA t ht).2.2
  have hh := p33 l1 l2 l3 l4 l5 l6
  obtain ⟨z, hz, hzo⟩ : ∃ z : Pt, z = ⟨(IntKind.wrap .i64 l1).tmod 3, (IntKind.wrap .i64 l2).tmod 3, (IntKind.wrap .i64 l3).tmod 3, (IntKind.wrap .i64 l4).tmod 3, (IntKind.wrap .i64 l5).tmod 3, (IntKind.wrap .i64 l6).tmod 3⟩ ∧ z.ok :=
    ⟨_, rfl, half_b _, half_b _, half_b _, half_b _, half_b _, half_b _⟩
  have hh2 : (CW GD LD).p (.func 33) [.agg [.int .i8 l1, .int .i8 l2, .int .i8 l3, .int .i8 l4, .int .i8 l5, .int .i8 l6]] = some (.agg [.int .i64 z.a, .int .i64 z.b, .int .i64 z.c, .int .i64 z.d, .int .i64 z.e, .int .i64 z.f]) := by rw [hh, hz]
  have hl := box_loop x hx A z hzo
  have hQ : ∃ Q : List Iv, Q = [z.a, z.b, z.c, z.d, z.e, z.f].map (bxZ x) ∧ Q.length ≤ 6 ∧ valids Q ∧ boxH Q z := by
    obtain ⟨h1, h2, h3, h4, h5, h6⟩ := hzo
    refine ⟨_, rfl, by simp, ?_, bxZ_has hx h1, bxZ_has hx h2, bxZ_has hx h3, bxZ_has hx h4, bxZ_has hx h5, bxZ_has hx h6⟩
    intro y hy
    obtain ⟨u, hu, rfl⟩ := List.mem_map.1 hy
    refine bxZ_valid hx ?_
    simp only [List.mem_cons, List.not_mem_nil, or_false] at hu
    rcases hu with rfl | rfl | rfl | rfl | rfl | rfl <;> assumption
  obtain ⟨Q, eQ, lQ, vQ, bQ⟩ := hQ
  have hl' : iterW (roundK GD LD (CW GD LD) 5 none 5) (S5_5 x true (A.map Tm.cs) z.a z.b z.c z.d z.e z.f 0 0 []) = some (.exit 0, S5_5 x true (A.map Tm.cs) z.a z.b z.c z.d z.e z.f (Q.map Iv.c).length 6 (Q.map Iv.c)) := by
    unfold boxS at hl
    rw [← eQ] at hl
    exact hl
  clear hl
  have vA := p36 A z hzo oA dA nA (by omega)
  have rg := p23 A oA (by unfold few; omega) nA
  have ev1 := p25 A oA (by unfold few; omega) Q vQ (by omega)
  have ev2 := p25 A oA (by unfold few; omega) [] (fun y hy => by cases hy) (by simp)
  have hr := range_has hzo nA dA
  have he := has_evalP vQ bQ dA
  have vR : (rangeP A).valid := new_valid (los_his nA)
  have vE : (evalP Q A).valid := evalL_valid Q A _ (newp_valid 0)
  have one : A.length = 1 → evalP [] A = rangeP A := eval_one nA
  generalize valP A z = v at *
  generalize rangeP A = R at *
  generalize evalP Q A = E at *
  generalize evalP [] A = D at *
  refine CW_val (h := [.arr false 2 (Q.map Iv.c)]) ?_ rfl
  rw [e5]
  refine (eBool p8 _).trans ?_
  refine (eTwo hsmall _).trans ?_
  refine (eSix hh2 _).trans ?_
  rw [CW_w]
  refine (bind_via hl' _).trans ?_
  have g : ∀ t, t = S5_5 x true (A.map Tm.cs) z.a z.b z.c z.d z.e z.f (Q.map Iv.c).length 6 (Q.map Iv.c) →
      nth t.t 2 = .int .u16 x ∧ nth t.t 7 = .bool true ∧ nth t.t 8 = .slice .any (A.map Tm.cs) ∧ nth t.t 10 = .box [.int .i64 z.a, .int .i64 z.b, .int .i64 z.c, .int .i64 z.d, .int .i64 z.e, .int .i64 z.f] ∧ nth t.t 11 = .arr 0 (Q.map Iv.c).length 2 ∧ nth t.t 12 = .int .i64 6 ∧ t.h = [.arr true 2 (Q.map Iv.c)] := by
    intro t ht; subst ht
    exact ⟨rfl, rfl, rfl, rfl, rfl, rfl, rfl⟩
  obtain ⟨g1, g2, g3, g4, g5, g6, g7⟩ := g _ rfl
  have har : arrRows [.arr true 2 (Q.map Iv.c)] 0 (Q.map Iv.c).length = some (Q.map Iv.c) := by simp [arrRows, hget]
  rw [Option.bind_some]
  dsimp only
  rw [g1, g2, g3, g4, g5, g6, g7]
  refine (cT rfl _ _).trans ?_
  iterate 21 refine (bSome rfl _).trans ?_
  refine (eInt vA _).trans ?_
  refine (eIv rg _).trans ?_
  refine (bSome har _).trans ?_
  refine (eIv ev1 _).trans ?_
  refine (eBool (p34 _ _) _).trans ?_
  have tail : ∀ (K : Option (V × List Ob)), K = some (.bool true, [.arr false 2 (Q.map Iv.c)]) → K = some (.bool true, [.arr false 2 (Q.map Iv.c)]) := fun _ h => h
  cases w1 : R.isW
  · have i1 := in_of vR hr w1
    refine (cNF _ _).trans ?_
    refine (cF i1.1 _ _).trans ?_
    refine (cF i1.2 _ _).trans ?_
    refine (eBool (p34 _ _) _).trans ?_
    cases w2 : E.isW
    · have i2 := in_of vE he w2
      refine (cNF _ _).trans ?_
      refine (cF i2.1 _ _).trans ?_
      refine (cF i2.2 _ _).trans ?_
      by_cases h1 : A.length = 1
      · refine (cF (by rw [List.length_map, h1]; rfl) _ _).trans ?_
        refine (eIv ev2 _).trans ?_
        refine (eBool (by rw [one h1]; exact iv_self _) _).trans ?_
        exact cT rfl _ _
      · exact cT (by rw [List.length_map]; simp; omega) _ _
    · refine (cNT _ _).trans ?_
      by_cases h1 : A.length = 1
      · refine (cF (by rw [List.length_map, h1]; rfl) _ _).trans ?_
        refine (eIv ev2 _).trans ?_
        refine (eBool (by rw [one h1]; exact iv_self _) _).trans ?_
        exact cT rfl _ _
      · exact cT (by rw [List.length_map]; simp; omega) _ _
  · refine (cNT _ _).trans ?_
    refine (eBool (p34 _ _) _).trans ?_
    cases w2 : E.isW
    · have i2 := in_of vE he w2
      refine (cNF _ _).trans ?_
      refine (cF i2.1 _ _).trans ?_
      refine (cF i2.2 _ _).trans ?_
      by_cases h1 : A.length = 1
      · refine (cF (by rw [List.length_map, h1]; rfl) _ _).trans ?_
        refine (eIv ev2 _).trans ?_
        refine (eBool (by rw [one h1]; exact iv_self _) _).trans ?_
        exact cT rfl _ _
      · exact cT (by rw [List.length_map]; simp; omega) _ _
    · refine (cNT _ _).trans ?_
      by_cases h1 : A.length = 1
      · refine (cF (by rw [List.length_map, h1]; rfl) _ _).trans ?_
        refine (eIv ev2 _).trans ?_
        refine (eBool (by rw [one h1]; exact iv_self _) _).trans ?_
        exact cT rfl _ _
      · exact cT (by rw [List.length_map]; simp; omega) _ _
end Go.Ab
