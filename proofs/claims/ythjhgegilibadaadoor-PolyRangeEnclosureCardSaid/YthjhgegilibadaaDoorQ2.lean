/- The sanity check answers true: its polynomials are given; conditions: none. -/
import Derived.KernelRfl
import Derived.Test.YthjhgegilibadaaDoorQ1
import Derived.Test.YthjhgegilibadaaDoorES
namespace Go.Ab
set_option linter.unusedVariables false
set_option linter.unusedSimpArgs false
set_option linter.unusedSimpArgs false
set_option linter.unusedVariables false
def T (c : Int) (x y : Nat) : Tm := ⟨c, ⟨x, y, 0, 0, 0, 0⟩⟩
theorem fines_of {p : List Tm} (h : (p.all fun t => decide (fine t)) = true) : fines p := fun t ht => of_decide_eq_true (List.all_eq_true.1 h t ht)
theorem oks_of {p : List Tm} (h : (p.all fun t => decide t.e.ok) = true) : oks p := fun t ht => of_decide_eq_true (List.all_eq_true.1 h t ht)
theorem nums_of_all {p : List Tm} (h : (p.all fun t => decide (number t.c)) = true) : nums p := fun t ht => of_decide_eq_true (List.all_eq_true.1 h t ht)
theorem qMul {a b q : List Tm} {most : Int} {r : Iv} (ha : (a.all fun t => decide (fine t)) = true) (hb : (b.all fun t => decide (fine t)) = true) (la : a.length ≤ 100) (lb : b.length ≤ 100) (h : mulP a b most = (q, r)) :
    (CW GD LD).p (.func 15) [.slice .any (a.map Tm.cs), .slice .any (b.map Tm.cs), .int .i64 most] = some (.tuple [.slice .any (q.map Tm.cs), .agg [.int .i64 r.lo, .int .i64 r.hi]]) := by
  rw [p15 a b (fines_of ha) la (fines_of hb) lb most, h]; rfl
theorem qScale {a q : List Tm} {c : Int} {r : Iv} (ha : (a.all fun t => decide t.e.ok) = true) (hn : (a.all fun t => decide (number t.c)) = true) (la : a.length ≤ 100) (hc : number c) (h : scaleP a c = (q, r)) :
    (CW GD LD).p (.func 17) [.slice .any (a.map Tm.cs), .int .i64 c] = some (.tuple [.slice .any (q.map Tm.cs), .agg [.int .i64 r.lo, .int .i64 r.hi]]) := by
  rw [p17 a c (oks_of ha) (nums_of_all hn) (by omega) hc, h]; rfl
theorem qAdd {a b q : List Tm} {r : Iv} (ha : (a.all fun t => decide t.e.ok) = true) (hb : (b.all fun t => decide t.e.ok) = true) (hn : (a.all fun t => decide (number t.c)) = true) (hm : (b.all fun t => decide (number t.c)) = true) (la : a.length ≤ 100) (lb : b.length ≤ 100) (h : addP a b = (q, r)) :
    (CW GD LD).p (.func 13) [.slice .any (a.map Tm.cs), .slice .any (b.map Tm.cs)] = some (.tuple [.slice .any (q.map Tm.cs), .agg [.int .i64 r.lo, .int .i64 r.hi]]) := by
  rw [p13 a b (oks_of ha) (oks_of hb) (nums_of_all hn) (nums_of_all hm) (by omega) (by omega), h]; rfl
theorem qTrunc {a q : List Tm} {most : Int} {r : Iv} (ha : (a.all fun t => decide t.e.ok) = true) (la : a.length ≤ 100) (h : trunc a most = (q, r)) :
    (CW GD LD).p (.func 19) [.slice .any (a.map Tm.cs), .int .i64 most] = some (.tuple [.slice .any (q.map Tm.cs), .agg [.int .i64 r.lo, .int .i64 r.hi]]) := by
  rw [p19 a most (oks_of ha) (by unfold few; omega), h]; rfl
theorem qRange {a : List Tm} {r : Iv} (ha : (a.all fun t => decide t.e.ok) = true) (hn : (a.all fun t => decide (number t.c)) = true) (la : a.length ≤ 100) (h : rangeP a = r) :
    (CW GD LD).p (.func 23) [.slice .any (a.map Tm.cs)] = some (.agg [.int .i64 r.lo, .int .i64 r.hi]) := by
  rw [p23 a (oks_of ha) (by unfold few; omega) (nums_of_all hn), h]; rfl
theorem qSame {a : List Tm} (ha : (a.all fun t => decide t.e.ok) = true) (la : a.length ≤ 100) :
    (CW GD LD).p (.func 21) [.slice .any (a.map Tm.cs), .slice .any (a.map Tm.cs)] = some (.bool true) := by
  rw [p21 a a (oks_of ha) (oks_of ha) (by unfold few; omega)]; simp
theorem qValid {a : List Tm} {v : Bool} (ha : (a.all fun t => decide t.e.ok) = true) (la : a.length ≤ 100) (h : decide (validP a) = v) :
    (CW GD LD).p (.func 9) [.slice .any (a.map Tm.cs)] = some (.bool v) := by
  rw [p9 a (oks_of ha) (by unfold few; omega), h]
theorem qDegree {a : List Tm} {v : Int} (ha : (a.all fun t => decide t.e.ok) = true) (la : a.length ≤ 100) (h : degP a = v) :
    (CW GD LD).p (.func 27) [.slice .any (a.map Tm.cs)] = some (.int .i64 v) := by
  rw [p27 a (oks_of ha) (by unfold few; omega), h]
def sPlus : List Tm := [T 65536 0 0, T 65536 1 0]
def sMinus : List Tm := [T 65536 0 0, T (-65536) 1 0]
theorem s1 : (CW GD LD).p (.func 15) [.slice .any [[.int .i64 65536, .int .u8 0, .int .u8 0, .int .u8 0, .int .u8 0, .int .u8 0, .int .u8 0], [.int .i64 65536, .int .u8 1, .int .u8 0, .int .u8 0, .int .u8 0, .int .u8 0, .int .u8 0]], .slice .any [[.int .i64 65536, .int .u8 0, .int .u8 0, .int .u8 0, .int .u8 0, .int .u8 0, .int .u8 0], [.int .i64 (-65536), .int .u8 1, .int .u8 0, .int .u8 0, .int .u8 0, .int .u8 0, .int .u8 0]], .int .i64 6] =
    some (.tuple [.slice .any [[.int .i64 65536, .int .u8 0, .int .u8 0, .int .u8 0, .int .u8 0, .int .u8 0, .int .u8 0], [.int .i64 (-65536), .int .u8 2, .int .u8 0, .int .u8 0, .int .u8 0, .int .u8 0, .int .u8 0]], .agg [.int .i64 0, .int .i64 0]]) :=
  qMul (a := sPlus) (b := sMinus) (q := [T 65536 0 0, T (-65536) 2 0]) (r := ⟨0, 0⟩) (by kernel_rfl) (by kernel_rfl) (by decide) (by decide) (by kernel_rfl)
theorem s2 : (CW GD LD).p (.func 15) [.slice .any [[.int .i64 65536, .int .u8 0, .int .u8 0, .int .u8 0, .int .u8 0, .int .u8 0, .int .u8 0], [.int .i64 65536, .int .u8 1, .int .u8 0, .int .u8 0, .int .u8 0, .int .u8 0, .int .u8 0]], .slice .any [[.int .i64 65536, .int .u8 0, .int .u8 0, .int .u8 0, .int .u8 0, .int .u8 0, .int .u8 0], [.int .i64 (-65536), .int .u8 1, .int .u8 0, .int .u8 0, .int .u8 0, .int .u8 0, .int .u8 0]], .int .i64 1] =
    some (.tuple [.slice .any [[.int .i64 65536, .int .u8 0, .int .u8 0, .int .u8 0, .int .u8 0, .int .u8 0, .int .u8 0]], .agg [.int .i64 (-65536), .int .i64 0]]) :=
  qMul (a := sPlus) (b := sMinus) (q := [T 65536 0 0]) (r := ⟨-65536, 0⟩) (by kernel_rfl) (by kernel_rfl) (by decide) (by decide) (by kernel_rfl)
theorem s3 : (CW GD LD).p (.func 17) [.slice .any [[.int .i64 3, .int .u8 1, .int .u8 0, .int .u8 0, .int .u8 0, .int .u8 0, .int .u8 0]], .int .i64 32768] = some (.tuple [.slice .any [[.int .i64 1, .int .u8 1, .int .u8 0, .int .u8 0, .int .u8 0, .int .u8 0, .int .u8 0]], .agg [.int .i64 (-1), .int .i64 1]]) :=
  qScale (a := [T 3 1 0]) (q := [T 1 1 0]) (r := ⟨-1, 1⟩) (by kernel_rfl) (by kernel_rfl) (by decide) ⟨by decide, by decide⟩ (by kernel_rfl)
theorem s4 : (CW GD LD).p (.func 17) [.slice .any [[.int .i64 1, .int .u8 2, .int .u8 0, .int .u8 0, .int .u8 0, .int .u8 0, .int .u8 0]], .int .i64 1] = some (.tuple [.slice .any [], .agg [.int .i64 0, .int .i64 1]]) :=
  qScale (a := [T 1 2 0]) (q := []) (r := ⟨0, 1⟩) (by kernel_rfl) (by kernel_rfl) (by decide) ⟨by decide, by decide⟩ (by kernel_rfl)
theorem s5 : (CW GD LD).p (.func 13) [.slice .any [[.int .i64 65536, .int .u8 0, .int .u8 0, .int .u8 0, .int .u8 0, .int .u8 0, .int .u8 0], [.int .i64 65536, .int .u8 1, .int .u8 0, .int .u8 0, .int .u8 0, .int .u8 0, .int .u8 0]], .slice .any [[.int .i64 65536, .int .u8 0, .int .u8 0, .int .u8 0, .int .u8 0, .int .u8 0, .int .u8 0], [.int .i64 (-65536), .int .u8 1, .int .u8 0, .int .u8 0, .int .u8 0, .int .u8 0, .int .u8 0]]] =
    some (.tuple [.slice .any [[.int .i64 131072, .int .u8 0, .int .u8 0, .int .u8 0, .int .u8 0, .int .u8 0, .int .u8 0]], .agg [.int .i64 0, .int .i64 0]]) := by
  have h : addP sPlus sMinus = ([T 131072 0 0], ⟨0, 0⟩) := by
    unfold addP sPlus sMinus
    rw [merge_cons, if_neg (by decide), if_neg (by decide), merge_cons, if_neg (by decide), if_neg (by decide), merge_nil]
    kernel_rfl
  exact qAdd (a := sPlus) (b := sMinus) (q := [T 131072 0 0]) (r := ⟨0, 0⟩) (by kernel_rfl) (by kernel_rfl) (by kernel_rfl) (by kernel_rfl) (by decide) (by decide) h
theorem s6 : (CW GD LD).p (.func 13) [.slice .any [[.int .i64 2147483647, .int .u8 0, .int .u8 1, .int .u8 0, .int .u8 0, .int .u8 0, .int .u8 0]], .slice .any [[.int .i64 1, .int .u8 0, .int .u8 1, .int .u8 0, .int .u8 0, .int .u8 0, .int .u8 0]]] =
    some (.tuple [.slice .any [], .agg [.int .i64 (-2147483648), .int .i64 2147483648]]) := by
  have h : addP [T 2147483647 0 1] [T 1 0 1] = ([], Iv.whole) := by
    unfold addP
    rw [merge_cons, if_neg (by decide), if_neg (by decide), merge_nil]
    kernel_rfl
  exact qAdd (a := [T 2147483647 0 1]) (b := [T 1 0 1]) (q := []) (r := Iv.whole) (by kernel_rfl) (by kernel_rfl) (by kernel_rfl) (by kernel_rfl) (by decide) (by decide) h
theorem s7 : (CW GD LD).p (.func 19) [.slice .any [[.int .i64 5, .int .u8 0, .int .u8 0, .int .u8 0, .int .u8 0, .int .u8 0, .int .u8 0], [.int .i64 7, .int .u8 0, .int .u8 2, .int .u8 0, .int .u8 0, .int .u8 0, .int .u8 0], [.int .i64 (-9), .int .u8 2, .int .u8 0, .int .u8 0, .int .u8 0, .int .u8 0, .int .u8 0], [.int .i64 4, .int .u8 2, .int .u8 1, .int .u8 0, .int .u8 0, .int .u8 0, .int .u8 0]], .int .i64 1] =
    some (.tuple [.slice .any [[.int .i64 5, .int .u8 0, .int .u8 0, .int .u8 0, .int .u8 0, .int .u8 0, .int .u8 0]], .agg [.int .i64 (-13), .int .i64 11]]) :=
  qTrunc (a := [T 5 0 0, T 7 0 2, T (-9) 2 0, T 4 2 1]) (q := [T 5 0 0]) (r := ⟨-13, 11⟩) (by kernel_rfl) (by decide) (by kernel_rfl)
theorem ipow2 (a : Iv) : ipow a 2 = a.sq := by rw [ipow_e a (by decide) (by decide), show 2 / 2 = 1 from rfl, ipow_1 a (Nat.le_refl 1)]
theorem s8 : (CW GD LD).p (.func 25) [.slice .any [[.int .i64 65536, .int .u8 0, .int .u8 1, .int .u8 0, .int .u8 0, .int .u8 0, .int .u8 0], [.int .i64 65536, .int .u8 2, .int .u8 0, .int .u8 0, .int .u8 0, .int .u8 0, .int .u8 0]], .slice .any [[.int .i64 (-65536), .int .i64 131072], [.int .i64 3, .int .i64 4]]] = some (.agg [.int .i64 3, .int .i64 262148]) := by
  have h := p25 [T 65536 0 1, T 65536 2 0] (oks_of (by kernel_rfl)) (by unfold few; decide) [⟨-65536, 131072⟩, ⟨3, 4⟩] (fun x hx => by
    simp only [List.mem_cons, List.not_mem_nil, or_false] at hx
    rcases hx with rfl | rfl <;> exact ⟨by decide, by decide, by decide, .inr ⟨⟨by decide, by decide⟩, by decide, by decide⟩⟩) (by decide)
  have e : evalP [⟨-65536, 131072⟩, ⟨3, 4⟩] [T 65536 0 1, T 65536 2 0] = ⟨3, 262148⟩ := by
    have h1 : evT [⟨-65536, 131072⟩, ⟨3, 4⟩] (T 65536 0 1) = (Iv.new 65536 65536).mul ⟨3, 4⟩ := by
      show evS _ 5 0 (evS _ 4 0 (evS _ 3 0 (evS _ 2 0 (evS _ 1 1 (evS _ 0 0 _))))) = _
      unfold evS
      rw [ipow_1 _ (Nat.le_refl 1)]
      rfl
    have h2 : evT [⟨-65536, 131072⟩, ⟨3, 4⟩] (T 65536 2 0) = (Iv.new 65536 65536).mul (Iv.sq ⟨-65536, 131072⟩) := by
      show evS _ 5 0 (evS _ 4 0 (evS _ 3 0 (evS _ 2 0 (evS _ 1 0 (evS _ 0 2 _))))) = _
      unfold evS
      rw [ipow2]
      rfl
    unfold evalP evalL
    rw [h1]
    unfold evalL
    rw [h2]
    change _ = _
    kernel_rfl
  rw [e] at h
  exact h
set_option maxRecDepth 100000 in
set_option maxHeartbeats 2000000 in
theorem p8 : (CW GD LD).p (.func 8) [] = some (.bool true) := by
  have c1 : (CW GD LD).p (.func 21) [.slice .any [[.int .i64 65536, .int .u8 0, .int .u8 0, .int .u8 0, .int .u8 0, .int .u8 0, .int .u8 0], [.int .i64 (-65536), .int .u8 2, .int .u8 0, .int .u8 0, .int .u8 0, .int .u8 0, .int .u8 0]], .slice .any [[.int .i64 65536, .int .u8 0, .int .u8 0, .int .u8 0, .int .u8 0, .int .u8 0, .int .u8 0], [.int .i64 (-65536), .int .u8 2, .int .u8 0, .int .u8 0, .int .u8 0, .int .u8 0, .int .u8 0]]] = some (.bool true) := qSame (a := [T 65536 0 0, T (-65536) 2 0]) (by kernel_rfl) (by decide)
  have c2 : ∀ (c : Int) (x y : Nat), x < 256 → y < 256 → (CW GD LD).p (.func 21) [.slice .any [[.int .i64 c, .int .u8 ((x : Nat) : Int), .int .u8 ((y : Nat) : Int), .int .u8 0, .int .u8 0, .int .u8 0, .int .u8 0]], .slice .any [[.int .i64 c, .int .u8 ((x : Nat) : Int), .int .u8 ((y : Nat) : Int), .int .u8 0, .int .u8 0, .int .u8 0, .int .u8 0]]] = some (.bool true) := fun c x y hx hy =>
    qSame (a := [T c x y]) (by simp [T, E6.ok, hx, hy]) (by simp)
  have c3 := c2 65536 0 0 (by decide) (by decide)
  have c4 := c2 1 1 0 (by decide) (by decide)
  have c5 := c2 131072 0 0 (by decide) (by decide)
  have c6 := c2 5 0 0 (by decide) (by decide)
  have c7 := c2 65536 0 1 (by decide) (by decide)
  have d1 : (CW GD LD).p (.func 23) [.slice .any [[.int .i64 65536, .int .u8 0, .int .u8 0, .int .u8 0, .int .u8 0, .int .u8 0, .int .u8 0], [.int .i64 65536, .int .u8 1, .int .u8 0, .int .u8 0, .int .u8 0, .int .u8 0, .int .u8 0], [.int .i64 (-65536), .int .u8 2, .int .u8 0, .int .u8 0, .int .u8 0, .int .u8 0, .int .u8 0]]] = some (.agg [.int .i64 (-65536), .int .i64 131072]) :=
    qRange (a := [T 65536 0 0, T 65536 1 0, T (-65536) 2 0]) (r := ⟨-65536, 131072⟩) (by kernel_rfl) (by kernel_rfl) (by decide) (by kernel_rfl)
  have d2 : (CW GD LD).p (.func 31) [.int .i64 1] = some (.slice .any [[.int .i64 65536, .int .u8 0, .int .u8 1, .int .u8 0, .int .u8 0, .int .u8 0, .int .u8 0]]) := p31 1
  have d3 : (CW GD LD).p (.func 31) [.int .i64 6] = some (.slice .any []) := p31 6
  have d4 : (CW GD LD).p (.func 29) [.int .i64 0] = some (.slice .any []) := p29 0
  have d5 : (CW GD LD).p (.func 27) [.slice .any []] = some (.int .i64 (-1)) := qDegree (a := []) (by kernel_rfl) (by decide) rfl
  have d6 : (CW GD LD).p (.func 27) [.slice .any [[.int .i64 65536, .int .u8 0, .int .u8 0, .int .u8 0, .int .u8 0, .int .u8 0, .int .u8 0], [.int .i64 (-65536), .int .u8 2, .int .u8 0, .int .u8 0, .int .u8 0, .int .u8 0, .int .u8 0]]] = some (.int .i64 2) := qDegree (a := [T 65536 0 0, T (-65536) 2 0]) (by kernel_rfl) (by decide) (by kernel_rfl)
  have d7 : (CW GD LD).p (.func 9) [.slice .any [[.int .i64 65536, .int .u8 0, .int .u8 0, .int .u8 0, .int .u8 0, .int .u8 0, .int .u8 0], [.int .i64 (-65536), .int .u8 2, .int .u8 0, .int .u8 0, .int .u8 0, .int .u8 0, .int .u8 0]]] = some (.bool true) := qValid (a := [T 65536 0 0, T (-65536) 2 0]) (by kernel_rfl) (by decide) (by kernel_rfl)
  have d8 : (CW GD LD).p (.func 9) [.slice .any [[.int .i64 1, .int .u8 1, .int .u8 0, .int .u8 0, .int .u8 0, .int .u8 0, .int .u8 0], [.int .i64 1, .int .u8 0, .int .u8 1, .int .u8 0, .int .u8 0, .int .u8 0, .int .u8 0]]] = some (.bool false) := qValid (a := [T 1 1 0, T 1 0 1]) (by kernel_rfl) (by decide) (by kernel_rfl)
  have d9 : (CW GD LD).p (.func 9) [.slice .any [[.int .i64 1, .int .u8 4, .int .u8 3, .int .u8 0, .int .u8 0, .int .u8 0, .int .u8 0]]] = some (.bool false) := qValid (a := [T 1 4 3]) (by kernel_rfl) (by decide) (by kernel_rfl)
  have d10 : (CW GD LD).p (.func 9) [.slice .any [[.int .i64 0, .int .u8 1, .int .u8 0, .int .u8 0, .int .u8 0, .int .u8 0, .int .u8 0]]] = some (.bool false) := qValid (a := [T 0 1 0]) (by kernel_rfl) (by decide) (by kernel_rfl)
  have en : (CW GD LD).p (.func 34) [.agg [.int .i64 (-2147483648), .int .i64 2147483648]] = some (.bool true) := p34 _ _
  refine CW_val (h := []) ?_ rfl
  rw [e8]
  simp (config := { maxSteps := 2000000 }) only [p42, asInt_i, asBool_i, asRows_i, asCells_i, asTuple_i, asBox_i, asObCells_i, asLoop_i, uncons_i, unconsO_i, isNil_i, asPtr_i, asFn_f, asFn_y, asArr_i, asObArr_t, asObArr_f, isReady_i, isBusy_i, uncons_c, asInt_u, asMapV_i, arrRows_i, Option.bind_some, Option.bind_none, cond_true, cond_false, cond_dec, cond_not]
  simp (config := { maxSteps := 2000000 }) only [s1, s2, s3, s4, s5, s6, s7, s8, asInt_i, asBool_i, asRows_i, asCells_i, asTuple_i, asBox_i, asObCells_i, asLoop_i, uncons_i, unconsO_i, isNil_i, asPtr_i, asFn_f, asFn_y, asArr_i, asObArr_t, asObArr_f, isReady_i, isBusy_i, uncons_c, asInt_u, asMapV_i, arrRows_i, Option.bind_some, Option.bind_none, cond_true, cond_false, cond_dec, cond_not]
  have z : (((0 : Nat) : Int)) = 0 := rfl
  have o : (((1 : Nat) : Int)) = 1 := rfl
  rw [z] at c3 c5 c6
  rw [z, o] at c4 c7
  have eq : ∀ (a b : Int), (CW GD LD).p (.func 35) [.agg [.int .i64 a, .int .i64 b], .int .i64 a, .int .i64 b] = some (.bool true) := fun a b => by rw [p35]; simp
  simp (config := { maxSteps := 2000000 }) only [c1, c3, c4, c5, c6, c7, d1, d2, d3, d4, d5, d6, d7, d8, d9, d10, en, eq, asInt_i, asBool_i, asRows_i, asCells_i, asTuple_i, asBox_i, asObCells_i, asLoop_i, uncons_i, unconsO_i, isNil_i, asPtr_i, asFn_f, asFn_y, asArr_i, asObArr_t, asObArr_f, isReady_i, isBusy_i, uncons_c, asInt_u, asMapV_i, arrRows_i, Option.bind_some, Option.bind_none, cond_true, cond_false, cond_dec, cond_not]
  rfl
end Go.Ab
