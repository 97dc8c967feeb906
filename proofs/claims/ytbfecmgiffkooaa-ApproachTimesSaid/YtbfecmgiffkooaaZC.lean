/- The sanity check answers true: its four flows are given; conditions: none. -/
import Derived.Test.YtbfecmgiffkooaaYN
import Derived.Test.YtbfecmgiffkooaaE20s
namespace Go.Ab
set_option linter.unusedSimpArgs false
set_option linter.unusedVariables false
def box1 (lo hi : Int) : List Iv := [⟨lo, hi⟩]
def still (t h lo hi : Int) : List Seg := [⟨t, h, box1 lo hi, box1 lo hi, box1 lo hi, box1 lo hi⟩]
def sA : List Seg := still 0 131072 0 65536
def sB : List Seg := still 65536 262144 196608 262144
def sF : List Seg := still 0 131072 1966080000 1966145536
def sL : List Seg := still 196608 65536 0 65536
theorem q32a : (CW G20 L20).p (.func 32) [.int .i64 0, .int .i64 2, .int .i64 0, .int .i64 1] = some (.slice .any (sA.map Seg.c)) := CW_val (h := []) (e32 _ _ _ _ _) rfl
theorem q32b : (CW G20 L20).p (.func 32) [.int .i64 1, .int .i64 5, .int .i64 3, .int .i64 4] = some (.slice .any (sB.map Seg.c)) := CW_val (h := []) (e32 _ _ _ _ _) rfl
theorem q32f : (CW G20 L20).p (.func 32) [.int .i64 0, .int .i64 2, .int .i64 30000, .int .i64 30001] = some (.slice .any (sF.map Seg.c)) := CW_val (h := []) (e32 _ _ _ _ _) rfl
theorem q32l : (CW G20 L20).p (.func 32) [.int .i64 3, .int .i64 4, .int .i64 0, .int .i64 1] = some (.slice .any (sL.map Seg.c)) := CW_val (h := []) (e32 _ _ _ _ _) rfl
theorem q33 (n m : Int) (h : IntKind.wrap .i64 (n * 65536) = m) : (CW G20 L20).p (.func 33) [.int .i64 n] = some (.agg [.int .i64 1, .int .i64 m]) := CW_val (h := []) ((e33 _ _).trans (by rw [h])) rfl
theorem q34 (a b n m : Int) (h1 : a = IntKind.wrap .i64 (n * 65536)) (h2 : b = IntKind.wrap .i64 (m * 65536)) : (CW G20 L20).p (.func 34) [.agg [.int .i64 a, .int .i64 b], .int .i64 n, .int .i64 m] = some (.bool true) := by
  refine CW_val (h := []) ((e34 _ _ _ _ _).trans ?_) rfl
  subst h1 h2
  simp only [beq_self_eq_true, cond_true]
theorem still_ok {t h lo hi : Int} (h1 : 0 ≤ t) (h2 : t ≤ 1000000) (h3 : 0 ≤ h) (h4 : h ≤ 1000000) (h5 : lo ≤ hi) (h6 : 0 ≤ lo) (h7 : hi < 2147483648) : oks (still t h lo hi) ∧ nums (still t h lo hi) ∧ long (still t h lo hi) 1 := by
  have hs : ∀ s ∈ still t h lo hi, s = ⟨t, h, box1 lo hi, box1 lo hi, box1 lo hi, box1 lo hi⟩ := fun s hs => by simpa [still] using hs
  refine ⟨fun s k => ?_, fun s k => ?_, fun s k => ?_⟩ <;> rw [hs s k]
  · refine ⟨by simp only; omega, by simp only; omega, by simp only; omega, by simp only; omega, by simp [box1], fun x hx => ?_⟩
    simp only [box1, List.mem_singleton] at hx
    subst hx
    refine ⟨h5, by simp only; omega, by simp only; omega, Or.inr ⟨?_, ?_⟩⟩ <;> simp only [number] <;> omega
  · simp only [number, Seg.fin]; omega
  · simp [box1]
theorem oA : oks sA ∧ nums sA ∧ long sA 1 := still_ok (by decide) (by decide) (by decide) (by decide) (by decide) (by decide) (by decide)
theorem oB : oks sB ∧ nums sB ∧ long sB 1 := still_ok (by decide) (by decide) (by decide) (by decide) (by decide) (by decide) (by decide)
theorem oF : oks sF ∧ nums sF ∧ long sF 1 := still_ok (by decide) (by decide) (by decide) (by decide) (by decide) (by decide) (by decide)
theorem oL : oks sL ∧ nums sL ∧ long sL 1 := still_ok (by decide) (by decide) (by decide) (by decide) (by decide) (by decide) (by decide)
theorem oN : oks [] ∧ nums [] ∧ long [] 1 := ⟨fun s h => (by simp at h), fun s h => (by simp at h), fun s h => (by simp at h)⟩
theorem mkF {a b : List Seg} {d : Int} (ha : oks a ∧ nums a ∧ long a 1) (hb : oks b ∧ nums b ∧ long b 1) (h1 : a.length ≤ 1) (h2 : b.length ≤ 1) (h3 : -2147483648 ≤ d) (h4 : d ≤ 2147483647) (h5 : small (d * d)) : Fl2 a b 1 d :=
  ⟨ha.1, hb.1, by omega, by omega, ⟨ha.2.2, hb.2.2⟩, h5⟩
theorem sorted1 {l : List Iv} (h : l.length ≤ 1) : sorted l := fun i j hj hi => by
  have : i = j := by omega
  subst this
  exact Int.le_refl _
theorem q18 {a b : List Seg} {d v : Int} (F : Fl2 a b 1 d) (h : classP a b 1 d = v) : (CW G20 L20).p (.func 18) [.slice .any (a.map Seg.c), .slice .any (b.map Seg.c), .agg [.int .i64 1, .int .i64 d]] = some (.int .i64 v) := by
  subst h; exact p18 (pos := 1) F
theorem q21 {a b : List Seg} {d : Int} {l : List Iv} (F : Fl2 a b 1 d) (h1 : (pairsOf a b).length ≤ 1) (h2 : (timesOf a b 1 d).length ≤ 1) (h : closeP a b 1 d = l) : (CW G20 L20).p (.func 21) [.slice .any (a.map Seg.c), .slice .any (b.map Seg.c), .agg [.int .i64 1, .int .i64 d]] = some (.slice .any (l.map Iv.c)) := by
  subst h; exact p21 (pos := 1) F (by omega) (sorted1 h2) (by omega)
theorem q13 {a b : List Seg} {v : Iv × Bool} (ha : oks a ∧ nums a ∧ long a 1) (hb : oks b ∧ nums b ∧ long b 1) (h1 : a.length ≤ 1) (h2 : b.length ≤ 1) (h : commonT a b = v) : (CW G20 L20).p (.func 13) [.slice .any (a.map Seg.c), .slice .any (b.map Seg.c)] = some (.tuple [.agg [.int .i64 v.1.lo, .int .i64 v.1.hi], .bool v.2]) := by
  subst h; exact p13 a b ha.1 hb.1 (by omega) (by omega) ha.2.1 hb.2.1
theorem q15 {a b : List Seg} {v : Iv × Bool} (ha : oks a ∧ nums a ∧ long a 1) (hb : oks b ∧ nums b ∧ long b 1) (h1 : a.length ≤ 1) (h2 : b.length ≤ 1) (h : minD a b 1 = v) : (CW G20 L20).p (.func 15) [.slice .any (a.map Seg.c), .slice .any (b.map Seg.c), .int .i64 1] = some (.tuple [.agg [.int .i64 v.1.lo, .int .i64 v.1.hi], .bool v.2]) := by
  subst h; exact p15 a b ha.1 hb.1 (by omega) (by omega) 1 ⟨ha.2.2, hb.2.2⟩
theorem one4 : sA.length ≤ 1 ∧ sB.length ≤ 1 ∧ sF.length ≤ 1 ∧ sL.length ≤ 1 := by decide
theorem sm (d : Int) (h : decide (-4611686018427387904 ≤ d * d) && decide (d * d ≤ 4611686018427387904) = true) : small (d * d) := by
  simp only [Bool.and_eq_true, decide_eq_true_eq] at h
  exact h
theorem r1 : (CW G20 L20).p (.func 13) [.slice .any (sA.map Seg.c), .slice .any (sB.map Seg.c)] = some (.tuple [.agg [.int .i64 65536, .int .i64 131072], .bool true]) := q13 (v := (⟨65536, 131072⟩, true)) oA oB (by decide) (by decide) (by kernel_rfl)
theorem r2 : (CW G20 L20).p (.func 13) [.slice .any (sA.map Seg.c), .slice .any (sL.map Seg.c)] = some (.tuple [.agg [.int .i64 0, .int .i64 0], .bool false]) := q13 (v := (⟨0, 0⟩, false)) oA oL (by decide) (by decide) (by kernel_rfl)
theorem r3 : (CW G20 L20).p (.func 15) [.slice .any (sA.map Seg.c), .slice .any (sB.map Seg.c), .int .i64 1] = some (.tuple [.agg [.int .i64 262144, .int .i64 1048576], .bool true]) := q15 (v := (⟨262144, 1048576⟩, true)) oA oB (by decide) (by decide) (by kernel_rfl)
theorem r4 : (CW G20 L20).p (.func 15) [.slice .any (sA.map Seg.c), .slice .any (sF.map Seg.c), .int .i64 1] = some (.tuple [.agg [.int .i64 (-2147483648), .int .i64 2147483648], .bool true]) := q15 (v := (⟨-2147483648, 2147483648⟩, true)) oA oF (by decide) (by decide) (by kernel_rfl)
theorem r5 : (CW G20 L20).p (.func 15) [.slice .any (sA.map Seg.c), .slice .any (sL.map Seg.c), .int .i64 1] = some (.tuple [.agg [.int .i64 0, .int .i64 0], .bool false]) := q15 (v := (⟨0, 0⟩, false)) oA oL (by decide) (by decide) (by kernel_rfl)
theorem r6 : (CW G20 L20).p (.func 21) [.slice .any (sA.map Seg.c), .slice .any (sB.map Seg.c), .agg [.int .i64 1, .int .i64 196608]] = some (.slice .any [[.int .i64 65536, .int .i64 131072]]) := q21 (l := [⟨65536, 131072⟩]) (mkF oA oB (by decide) (by decide) (by decide) (by decide) (sm _ (by decide))) (of_decide_eq_true (by kernel_rfl)) (of_decide_eq_true (by kernel_rfl)) (by kernel_rfl)
theorem r7 : (CW G20 L20).p (.func 21) [.slice .any (sA.map Seg.c), .slice .any (sB.map Seg.c), .agg [.int .i64 1, .int .i64 65536]] = some (.slice .any []) := q21 (l := []) (mkF oA oB (by decide) (by decide) (by decide) (by decide) (sm _ (by decide))) (of_decide_eq_true (by kernel_rfl)) (of_decide_eq_true (by kernel_rfl)) (by kernel_rfl)
theorem r8 : (CW G20 L20).p (.func 18) [.slice .any (sA.map Seg.c), .slice .any (sB.map Seg.c), .agg [.int .i64 1, .int .i64 65536]] = some (.int .i64 1) := q18 (mkF oA oB (by decide) (by decide) (by decide) (by decide) (sm _ (by decide))) (by kernel_rfl)
theorem r9 : (CW G20 L20).p (.func 18) [.slice .any (sA.map Seg.c), .slice .any (sB.map Seg.c), .agg [.int .i64 1, .int .i64 196608]] = some (.int .i64 0) := q18 (mkF oA oB (by decide) (by decide) (by decide) (by decide) (sm _ (by decide))) (by kernel_rfl)
theorem r10 : (CW G20 L20).p (.func 18) [.slice .any (sA.map Seg.c), .slice .any (sB.map Seg.c), .agg [.int .i64 1, .int .i64 327680]] = some (.int .i64 (-1)) := q18 (mkF oA oB (by decide) (by decide) (by decide) (by decide) (sm _ (by decide))) (by kernel_rfl)
theorem r11 : (CW G20 L20).p (.func 18) [.slice .any (sA.map Seg.c), .slice .any (sF.map Seg.c), .agg [.int .i64 1, .int .i64 1310720000]] = some (.int .i64 1) := q18 (mkF oA oF (by decide) (by decide) (by decide) (by decide) (sm _ (by decide))) (by kernel_rfl)
theorem r12 : (CW G20 L20).p (.func 18) [.slice .any (sA.map Seg.c), .slice .any (sF.map Seg.c), .agg [.int .i64 1, .int .i64 1966080000]] = some (.int .i64 0) := q18 (mkF oA oF (by decide) (by decide) (by decide) (by decide) (sm _ (by decide))) (by kernel_rfl)
theorem r13 : (CW G20 L20).p (.func 18) [.slice .any (sA.map Seg.c), .slice .any (sL.map Seg.c), .agg [.int .i64 1, .int .i64 589824]] = some (.int .i64 1) := q18 (mkF oA oL (by decide) (by decide) (by decide) (by decide) (sm _ (by decide))) (by kernel_rfl)
theorem r14 : (CW G20 L20).p (.func 18) [.slice .any [], .slice .any (sA.map Seg.c), .agg [.int .i64 1, .int .i64 0]] = some (.int .i64 1) := q18 (a := []) (mkF oN oA (by decide) (by decide) (by decide) (by decide) (sm _ (by decide))) (by kernel_rfl)
theorem r15 : (CW G20 L20).p (.func 26) [.agg [.int .i64 (-2147483648), .int .i64 2147483648]] = some (.bool true) := p26 _ _
set_option maxRecDepth 100000 in
theorem p11 : (CW G20 L20).p (.func 11) [] = some (.bool true) := by
  refine CW_val (h := []) ?_ rfl
  rw [e11]
  simp only [q32a, q32b, q32f, q32l, r1, r2, r3, r4, r5, r6, r7, r8, r9, r10, r11, r12, r13, r14, r15, q33 1 65536 (by decide), q33 3 196608 (by decide), q33 5 327680 (by decide), q33 20000 1310720000 (by decide), q33 30000 1966080000 (by decide), q33 9 589824 (by decide), q33 0 0 (by decide), asInt_i, asBool_i, asRows_i, asCells_i, asTuple_i, asBox_i, asObCells_i, asLoop_i, uncons_i, unconsO_i, isNil_i, asPtr_i, asFn_f, asFn_y, asArr_i, asObArr_t, asObArr_f, isReady_i, isBusy_i, uncons_c, uncons_sc, arrRows_i, Option.bind_some, Option.bind_none, cond_true, cond_false, cond_dec, cond_not]
  have g : getRow [[V.int IntKind.i64 65536, V.int IntKind.i64 131072]] 0 2 = some [V.int IntKind.i64 65536, V.int IntKind.i64 131072] := rfl
  have c : ((([[V.int IntKind.i64 65536, V.int IntKind.i64 131072]].length : Nat) : Int) != 1) = false := by decide
  simp only [c, g, q34 65536 131072 1 2 (by decide) (by decide), q34 262144 1048576 4 16 (by decide) (by decide), asInt_i, asBool_i, asRows_i, asCells_i, asTuple_i, asBox_i, asObCells_i, asLoop_i, uncons_i, unconsO_i, isNil_i, asPtr_i, asFn_f, asFn_y, asArr_i, asObArr_t, asObArr_f, isReady_i, isBusy_i, uncons_c, uncons_sc, arrRows_i, Option.bind_some, Option.bind_none, cond_true, cond_false, cond_dec, cond_not]
  rfl
end Go.Ab
