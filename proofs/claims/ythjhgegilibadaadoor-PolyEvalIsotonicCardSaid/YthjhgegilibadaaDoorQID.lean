/- The statement that a larger box gives a larger value answers true; conditions: lengths of slices; sixteen bits. -/
import Derived.Test.YthjhgegilibadaaDoorQHD
import Derived.Test.YthjhgegilibadaaDoorER6D
namespace Go.Ab
set_option linter.unusedVariables false
set_option linter.unusedSimpArgs false
set_option linter.unusedSimpArgs false
set_option linter.unusedVariables false
theorem asInt_v (n : Int) : asInt .u16 (.int .u16 n) = some n := rfl
theorem sbs_dec {a b : Iv} (h : a.sbs b) : (CW GD LD).p (.func 40) [.agg [.int .i64 a.lo, .int .i64 a.hi], .agg [.int .i64 b.lo, .int .i64 b.hi]] = some (.bool true) := by
  rw [p40]
  rw [decide_eq_true (show b.lo ≤ a.lo ∧ a.hi ≤ b.hi from h)]
def wid (x : Int) (v : Iv) : Iv := Iv.new (v.lo - x) (v.hi + x / 2)
theorem wid_valid {x : Int} (hx : 0 ≤ x) {v : Iv} (hv : v.valid) : (wid x v).valid := new_valid (by have := hv.1; omega)
theorem wid_sbs {x : Int} (hx : 0 ≤ x) {v : Iv} (hv : v.valid) (h1 : number v.lo) (h2 : number v.hi) : v.sbs (wid x v) := by
  have h := new_sbs (l := v.lo) (h := v.hi) (l' := v.lo - x) (h' := v.hi + x / 2) (by omega) hv.1 (by omega)
  rw [new_nn h1 h2] at h
  exact h
def isoS (x : Int) (i j k : Iv) (A : List Tm) (l : List Iv) (n : Int) : St :=
  S6_5 x i.lo i.hi j.lo j.hi k.lo k.hi true (A.map Tm.cs) (l.map Iv.c).length ((l.map (wid x)).map Iv.c).length n (l.map Iv.c) ((l.map (wid x)).map Iv.c)
theorem iso_step (x : Int) (hx : 0 ≤ x ∧ x ≤ 65535) (i j k : Iv) (A : List Tm) (l : List Iv) (hl : l.length ≤ 3) (v : Iv) (hv : -16777216 < v.lo ∧ v.hi < 16777216 ∧ v.lo ≤ v.hi) (p q : Int) (n : Nat) (hn : n < 3)
    (h1 : nthI [i.lo, i.hi, j.lo, j.hi, k.lo, k.hi] (n * 2) = some p) (h2 : nthI [i.lo, i.hi, j.lo, j.hi, k.lo, k.hi] (n * 2 + 1) = some q)
    (hs : (CW GD LD).p (.func 38) [.agg [.int .i64 p, .int .i64 q]] = some (.agg v.c)) :
    roundK GD LD (CW GD LD) 6 none 5 (isoS x i j k A l ((n : Nat) : Int)) = some (.normal, isoS x i j k A (l ++ [v]) ((n + 1 : Nat) : Int)) := by
  have wx : IntKind.wrap .i64 x = x := w64 (by omega) (by omega)
  have hd : x.tdiv 2 = x / 2 := Int.tdiv_eq_ediv_of_nonneg hx.1
  have wd : IntKind.wrap .i64 (x / 2) = x / 2 := w64 (by omega) (by omega)
  have wl : IntKind.wrap .i64 (v.lo - x) = v.lo - x := w64 (by omega) (by omega)
  have wh : IntKind.wrap .i64 (v.hi + x / 2) = v.hi + x / 2 := w64 (by omega) (by omega)
  have ws := wsucc n (by omega)
  have e1 : decide (((n : Nat) : Int) < 3) = true := by simp; omega
  have e2 : decide ((0 : Int) ≤ ((n : Nat) : Int)) = true := by simp
  have e3 : decide (n < 3) = true := by simpa using hn
  have hr1 : decide (((l.map Iv.c).length + 1) * 16 ≤ room) = true := by simp only [List.length_map, decide_eq_true_eq]; unfold room; omega
  have hr2 : decide ((((l.map (wid x)).map Iv.c).length + 1) * 16 ≤ room) = true := by simp only [List.length_map, decide_eq_true_eq]; unfold room; omega
  have nw := p39 (v.lo - x) (v.hi + x / 2)
  have a1 : List.append (l.map Iv.c) [v.c] = (l ++ [v]).map Iv.c := by rw [List.map_append]; rfl
  have a2 : List.append ((l.map (wid x)).map Iv.c) [(Iv.new (v.lo - x) (v.hi + x / 2)).c] = ((l ++ [v]).map (wid x)).map Iv.c := by rw [List.map_append, List.map_append]; rfl
  have b1 : (l.map Iv.c).length + 1 = ((l ++ [v]).map Iv.c).length := by simp
  have b2 : ((l.map (wid x)).map Iv.c).length + 1 = (((l ++ [v]).map (wid x)).map Iv.c).length := by simp
  unfold isoS
  rw [e6_5, e1, e2, Int.toNat_natCast, e3]
  refine (cT rfl _ _).trans ?_
  refine (cT rfl _ _).trans ?_
  refine (cT rfl _ _).trans ?_
  refine (bSome h1 _).trans ?_
  refine (bSome h2 _).trans ?_
  refine (eIv hs _).trans ?_
  refine (cT (decide_eq_true rfl) _ _).trans ?_
  refine (cT hr1 _ _).trans ?_
  rw [wx, hd, wd, wl, wh]
  refine (eIv nw _).trans ?_
  refine (cT (decide_eq_true rfl) _ _).trans ?_
  refine (cT hr2 _ _).trans ?_
  rw [ws]
  have c1 : List.append (l.map Iv.c) [[.int .i64 v.lo, .int .i64 v.hi]] = (l ++ [v]).map Iv.c := a1
  have c2 : List.append ((l.map (wid x)).map Iv.c) [[.int .i64 (Iv.new (v.lo - x) (v.hi + x / 2)).lo, .int .i64 (Iv.new (v.lo - x) (v.hi + x / 2)).hi]] = ((l ++ [v]).map (wid x)).map Iv.c := a2
  rw [c1, c2, b1, b2]
theorem iso_loop (x : Int) (hx : 0 ≤ x ∧ x ≤ 65535) (i j k : Iv) (A : List Tm) (u v w : Iv) (hu : -16777216 < u.lo ∧ u.hi < 16777216 ∧ u.lo ≤ u.hi) (hv : -16777216 < v.lo ∧ v.hi < 16777216 ∧ v.lo ≤ v.hi) (hw : -16777216 < w.lo ∧ w.hi < 16777216 ∧ w.lo ≤ w.hi)
    (su : (CW GD LD).p (.func 38) [.agg [.int .i64 i.lo, .int .i64 i.hi]] = some (.agg u.c)) (sv : (CW GD LD).p (.func 38) [.agg [.int .i64 j.lo, .int .i64 j.hi]] = some (.agg v.c)) (sw : (CW GD LD).p (.func 38) [.agg [.int .i64 k.lo, .int .i64 k.hi]] = some (.agg w.c)) :
    iterW (roundK GD LD (CW GD LD) 6 none 5) (isoS x i j k A [] ((0 : Nat) : Int)) = some (.exit 0, isoS x i j k A [u, v, w] ((3 : Nat) : Int)) := by
  refine (iterW_n (iso_step x hx i j k A [] (by simp) u hu _ _ 0 (by omega) rfl rfl su)).trans ?_
  refine (iterW_n (iso_step x hx i j k A [u] (by simp) v hv _ _ 1 (by omega) rfl rfl sv)).trans ?_
  refine (iterW_n (iso_step x hx i j k A [u, v] (by simp) w hw _ _ 2 (by omega) rfl rfl sw)).trans ?_
  refine iterW_x ?_
  unfold isoS
  rw [e6_5]
  exact cF (by decide) _ _
set_option maxRecDepth 100000 in
theorem p6 (a b : List Tm) (hal : a.length < 9223372036854775808) (hbl : b.length < 9223372036854775808) (c n : Int) (i j k : Iv) (x : Int) (hx : 0 ≤ x ∧ x ≤ 65535) :
    (CW GD LD).p (.func 6) [.agg [.slice .any (a.map Tm.cs), .slice .any (b.map Tm.cs), .int .i64 c, .int .i8 n], .agg [.int .i64 i.lo, .int .i64 i.hi, .int .i64 j.lo, .int .i64 j.hi, .int .i64 k.lo, .int .i64 k.hi], .int .u16 x] = some (.bool true) := by
  have hsmall := p37 a b hal hbl c n
  have PA := pol_made a 6 1048576
  generalize madeP a 6 1048576 = A at *
  generalize madeP b 6 1048576 = B at *
  obtain ⟨oA, nA, sA, fA, lA⟩ := PA
  obtain ⟨u, vu, nu1, nu2, ul, uh, su⟩ := p38 i.lo i.hi
  obtain ⟨v, vv, nv1, nv2, vl, vh, sv⟩ := p38 j.lo j.hi
  obtain ⟨w, vw, nw1, nw2, wl, wh, sw⟩ := p38 k.lo k.hi
  have hl := iso_loop x hx i j k A u v w ⟨ul, uh, vu.1⟩ ⟨vl, vh, vv.1⟩ ⟨wl, wh, vw.1⟩ su sv sw
  have vs1 : valids [u, v, w] := by intro y hy; simp only [List.mem_cons, List.not_mem_nil, or_false] at hy; rcases hy with rfl | rfl | rfl <;> assumption
  have vs2 : valids ([u, v, w].map (wid x)) := by
    intro y hy
    obtain ⟨z, hz, rfl⟩ := List.mem_map.1 hy
    exact wid_valid hx.1 (vs1 z hz)
  have hsb : ∀ m, (bx [u, v, w] m).sbs (bx ([u, v, w].map (wid x)) m) := by
    intro m
    match m with
    | 0 => exact wid_sbs hx.1 vu nu1 nu2
    | 1 => exact wid_sbs hx.1 vv nv1 nv2
    | 2 => exact wid_sbs hx.1 vw nw1 nw2
    | _ + 3 => exact sbs_rfl _
  have hev := evalP_sbs vs1 vs2 hsb A
  have ev1 := p25 A oA (by unfold few; omega) [u, v, w] vs1 (by simp)
  have ev2 := p25 A oA (by unfold few; omega) ([u, v, w].map (wid x)) vs2 (by simp)
  have ev3 := p25 A oA (by unfold few; omega) [] (fun y hy => by cases hy) (by simp)
  have rg := p23 A oA (by unfold few; omega) nA
  have hre := range_eval nA
  have hL := sbs_dec hev
  have hR := sbs_dec hre
  generalize evalP [u, v, w] A = E1 at *
  generalize evalP ([u, v, w].map (wid x)) A = E2 at *
  generalize evalP [] A = E3 at *
  generalize rangeP A = R0 at *
  generalize hQ1 : [u, v, w] = Q1 at *
  have hq1 : Q1.length = 3 := by rw [← hQ1]; rfl
  generalize hQ2 : Q1.map (wid x) = Q2 at *
  have hl' : iterW (roundK GD LD (CW GD LD) 6 none 5) (S6_5 x i.lo i.hi j.lo j.hi k.lo k.hi true (A.map Tm.cs) 0 0 0 [] []) = some (.exit 0, S6_5 x i.lo i.hi j.lo j.hi k.lo k.hi true (A.map Tm.cs) (Q1.map Iv.c).length (Q2.map Iv.c).length 3 (Q1.map Iv.c) (Q2.map Iv.c)) := by
    have z := hl
    unfold isoS at z
    rw [hQ2] at z
    exact z
  clear hl hQ1 hQ2 hsb
  refine CW_val (h := [.arr false 2 (Q1.map Iv.c), .arr false 2 (Q2.map Iv.c)]) ?_ rfl
  rw [e6]
  refine (eBool p8 _).trans ?_
  refine (eTwo hsmall _).trans ?_
  rw [CW_w]
  refine (bind_via hl' _).trans ?_
  have g : ∀ t, t = S6_5 x i.lo i.hi j.lo j.hi k.lo k.hi true (A.map Tm.cs) (Q1.map Iv.c).length (Q2.map Iv.c).length 3 (Q1.map Iv.c) (Q2.map Iv.c) →
      nth t.t 2 = .int .u16 x ∧ nth t.t 4 = .box [.int .i64 i.lo, .int .i64 i.hi, .int .i64 j.lo, .int .i64 j.hi, .int .i64 k.lo, .int .i64 k.hi] ∧ nth t.t 7 = .bool true ∧ nth t.t 8 = .slice .any (A.map Tm.cs) ∧ nth t.t 10 = .arr 0 (Q1.map Iv.c).length 2 ∧ nth t.t 11 = .arr 1 (Q2.map Iv.c).length 2 ∧ nth t.t 12 = .int .i64 3 ∧ t.h = [.arr true 2 (Q1.map Iv.c), .arr true 2 (Q2.map Iv.c)] := by
    intro t ht; subst ht
    exact ⟨rfl, rfl, rfl, rfl, rfl, rfl, rfl, rfl⟩
  obtain ⟨g1, g2, g3, g4, g5, g6, g7, g8⟩ := g _ rfl
  have har1 : arrRows [.arr true 2 (Q1.map Iv.c), .arr true 2 (Q2.map Iv.c)] 0 (Q1.map Iv.c).length = some (Q1.map Iv.c) := by simp [arrRows, hget]
  have har2 : arrRows [.arr false 2 (Q1.map Iv.c), .arr true 2 (Q2.map Iv.c)] 1 (Q2.map Iv.c).length = some (Q2.map Iv.c) := by simp [arrRows, hget]
  rw [Option.bind_some]
  dsimp only
  rw [g1, g2, g3, g4, g5, g6, g7, g8]
  refine (cT rfl _ _).trans ?_
  iterate 23 refine (bSome rfl _).trans ?_
  refine (bSome har1 _).trans ?_
  refine (eIv ev1 _).trans ?_
  refine (bSome har2 _).trans ?_
  refine (eIv ev2 _).trans ?_
  refine (eBool hL _).trans ?_
  refine (cT rfl _ _).trans ?_
  refine (eIv rg _).trans ?_
  refine (eIv ev3 _).trans ?_
  refine (eBool hR _).trans ?_
  exact cT rfl _ _
end Go.Ab
