/- The first statement's call answers true, whatever the query; conditions: none. -/
import Derived.Test.YtbfecmgiffkooaaZC
import Derived.Test.YtbfecmgiffkooaaZD
namespace Go.Ab
set_option linter.unusedSimpArgs false
set_option linter.unusedVariables false
structure Good (a : List Seg) : Prop where
  ok : oks a
  num : nums a
  up : upT a
  pos : posH a
  long : long a 3
  len : a.length ≤ 6
theorem made_good (raw : List Seg) : Good (Made raw) := by
  obtain ⟨h1, h2, h3⟩ := Made_ok raw
  obtain ⟨h4, h5⟩ := chain_up _ h3
  refine ⟨h1, h2, h4, h5, ?_, (Made_len raw).2⟩
  rw [Made_eq]
  have : ∀ (l : List Seg) (t : Int), long (madeL t l) 3 := by
    intro l
    induction l with
    | nil => intro t s hs; simp [madeL] at hs
    | cons x l ih =>
      intro t s hs
      simp only [madeL, List.mem_cons] at hs
      rcases hs with rfl | hs
      · exact Nat.le_of_eq (boxOf_len _).symm
      · exact ih _ s hs
  exact this _ _
theorem nil_good : Good [] := ⟨fun s h => (by simp at h), fun s h => (by simp at h), List.Pairwise.nil, fun s h => (by simp at h), fun s h => (by simp at h), by simp⟩
theorem Good.lg {a : List Seg} (h : Good a) {pos : Nat} (hp : pos ≤ 3) : Go.Ab.long a pos := fun s hs => Nat.le_trans hp (h.long s hs)
theorem good_fl {a b : List Seg} (ha : Good a) (hb : Good b) {pos : Nat} (hp : pos ≤ 3) {d : Int} (h1 : 0 ≤ d) (h2 : d < 4194304) : Fl2 a b pos d :=
  ⟨ha.ok, hb.ok, by have := ha.len; omega, by have := hb.len; omega, ⟨ha.lg hp, hb.lg hp⟩, small_sq h1 (by omega)⟩
theorem merge_len (out : List Iv) (t : Iv) : (mergeStep out t).length ≤ out.length + 1 := by
  unfold mergeStep
  split
  · simp
  · rename_i z hz
    split
    · rw [List.length_append, List.length_dropLast, List.length_singleton]; omega
    · simp
theorem merges_len : ∀ (l out : List Iv), (l.foldl mergeStep out).length ≤ out.length + l.length
  | [], out => by simp
  | t :: l, out => by
    have h1 := merges_len l (mergeStep out t)
    have h2 := merge_len out t
    rw [List.foldl_cons, List.length_cons]; omega
theorem mul36 {m n : Nat} (h1 : m ≤ 6) (h2 : n ≤ 6) : m * n ≤ 36 := Nat.mul_le_mul h1 h2
set_option linter.unusedSectionVars false
section
variable {a b : List Seg} (ha : Good a) (hb : Good b) {pos : Nat} (hp : pos ≤ 3) {d : Int} (hd0 : 0 ≤ d) (hd1 : d < 4194304)
include ha hb
theorem g13 : (CW G20 L20).p (.func 13) [.slice .any (a.map Seg.c), .slice .any (b.map Seg.c)] = some (.tuple [.agg [.int .i64 (commonT a b).1.lo, .int .i64 (commonT a b).1.hi], .bool (commonT a b).2]) :=
  p13 a b ha.ok hb.ok (by have := ha.len; omega) (by have := hb.len; omega) ha.num hb.num
theorem g14 : (CW G20 L20).p (.func 14) [.slice .any (a.map Seg.c), .slice .any (b.map Seg.c)] = some (.tuple [.agg [.int .i64 (commonT a b).1.lo, .int .i64 (commonT a b).1.hi], .bool (commonT a b).2]) :=
  p14 a b ha.ok hb.ok (by have := ha.len; omega) (by have := hb.len; omega)
include hp
theorem g15 : (CW G20 L20).p (.func 15) [.slice .any (a.map Seg.c), .slice .any (b.map Seg.c), .int .i64 ((pos : Nat) : Int)] = some (.tuple [.agg [.int .i64 (minD a b pos).1.lo, .int .i64 (minD a b pos).1.hi], .bool (minD a b pos).2]) :=
  p15 a b ha.ok hb.ok (by have := ha.len; omega) (by have := hb.len; omega) pos ⟨ha.lg hp, hb.lg hp⟩
theorem g16 : (CW G20 L20).p (.func 16) [.slice .any (a.map Seg.c), .slice .any (b.map Seg.c), .int .i64 ((pos : Nat) : Int)] = some (.tuple [.agg [.int .i64 (minD a b pos).1.lo, .int .i64 (minD a b pos).1.hi], .bool (minD a b pos).2]) := by
  rw [minD_eq ha.up hb.up ha.pos hb.pos]
  exact p16 a b ha.ok hb.ok (by have := ha.len; omega) (by have := hb.len; omega) pos ⟨ha.lg hp, hb.lg hp⟩
include hd0 hd1
theorem g18 : (CW G20 L20).p (.func 18) [.slice .any (a.map Seg.c), .slice .any (b.map Seg.c), .agg [.int .i64 ((pos : Nat) : Int), .int .i64 d]] = some (.int .i64 (classP a b pos d)) := p18 (good_fl ha hb hp hd0 hd1)
theorem g19 : (CW G20 L20).p (.func 19) [.slice .any (a.map Seg.c), .slice .any (b.map Seg.c), .agg [.int .i64 ((pos : Nat) : Int), .int .i64 d]] = some (.int .i64 (classP a b pos d)) := by
  rw [← class_eq ha.up hb.up ha.pos hb.pos]
  exact p19 (good_fl ha hb hp hd0 hd1) (by have := ha.len; omega) (by have := hb.len; omega)
theorem times36 : (pairsOf a b).length ≤ 36 ∧ (timesOf a b pos d).length ≤ 36 := by
  have h := times_len ha.up hb.up ha.pos hb.pos pos d
  have h2 := mul36 ha.len hb.len
  omega
theorem g21 : (CW G20 L20).p (.func 21) [.slice .any (a.map Seg.c), .slice .any (b.map Seg.c), .agg [.int .i64 ((pos : Nat) : Int), .int .i64 d]] = some (.slice .any ((closeP a b pos d).map Iv.c)) := by
  have h := times36 ha hb hp hd0 hd1
  exact p21 (good_fl ha hb hp hd0 hd1) (by omega) (times_sorted ha.up hb.up ha.pos hb.pos pos d) (by omega)
theorem g22 : (CW G20 L20).p (.func 22) [.slice .any (a.map Seg.c), .slice .any (b.map Seg.c), .agg [.int .i64 ((pos : Nat) : Int), .int .i64 d]] = some (.slice .any ((closeP a b pos d).map Iv.c)) := by
  rw [← close_eq ha.up hb.up ha.pos hb.pos]
  exact p22 (good_fl ha hb hp hd0 hd1) (by have := ha.len; omega) (by have := hb.len; omega)
theorem g20 : (CW G20 L20).p (.func 20) [.slice .any ((closeP a b pos d).map Iv.c), .slice .any ((closeP a b pos d).map Iv.c)] = some (.bool true) := by
  refine p20 _ ?_
  have h := times36 ha hb hp hd0 hd1
  have h2 := merges_len (timesOf a b pos d) []
  unfold few closeP
  simp only [List.length_nil] at h2
  omega
end
theorem p17s (x y : Int) : (CW G20 L20).p (.func 17) [.agg [.int .i64 x, .int .i64 y], .agg [.int .i64 x, .int .i64 y]] = some (.bool true) := by
  have := p17 ⟨x, y⟩ ⟨x, y⟩
  simpa using this
set_option maxRecDepth 100000 in
theorem p3 (a b : List Seg) (n d e : Int) (hn : 0 ≤ n) : (CW G20 L20).p (.func 3) [.agg [.slice .any (a.map Seg.c), .slice .any (b.map Seg.c), .int .u8 n, .int .i64 d], .int .u8 e] = some (.bool true) := by
  refine CW_val (h := []) ?_ rfl
  have hA := made_good a
  have hB := made_good b
  have hp : posOf n ≤ 3 := (posOf_b n hn).2.1
  have h0 := (dOf_b d).1
  have h1 := (dOf_b d).2
  rw [e3, p12 a b n d hn]
  simp only [p11, asInt_i, asBool_i, asRows_i, asCells_i, asTuple_i, asBox_i, asObCells_i, asLoop_i, uncons_i, unconsO_i, isNil_i, asPtr_i, asFn_f, asFn_y, asArr_i, asObArr_t, asObArr_f, isReady_i, isBusy_i, uncons_c, uncons_sc, arrRows_i, Option.bind_some, Option.bind_none, cond_true, cond_false, cond_dec, cond_not]
  generalize Made a = A at *
  generalize Made b = B at *
  generalize dOf d = D at *
  generalize posOf n = N at *
  generalize (e.tmod 8 == 0) = c1
  have hN := nil_good
  have mn : (([] : List Seg).map Seg.c) = [] := rfl
  cases c1 <;> by_cases hc : e.tmod 16 < 2
  · have q13 := g13 hA hN
    have q14 := g14 hA hN
    have q15 := g15 hA hN hp
    have q16 := g16 hA hN hp
    have q18 := g18 hA hN hp h0 h1
    have q19 := g19 hA hN hp h0 h1
    have q21 := g21 hA hN hp h0 h1
    have q22 := g22 hA hN hp h0 h1
    have q20 := g20 hA hN hp h0 h1
    simp only [mn] at q13 q14 q15 q16 q18 q19 q21 q22
    simp only [q13, q14, q15, q16, q18, q19, q21, q22, q20, p17s, beq_self_eq_true, if_pos hc, asInt_i, asBool_i, asRows_i, asCells_i, asTuple_i, asBox_i, asObCells_i, asLoop_i, uncons_i, unconsO_i, isNil_i, asPtr_i, asFn_f, asFn_y, asArr_i, asObArr_t, asObArr_f, isReady_i, isBusy_i, uncons_c, uncons_sc, arrRows_i, Option.bind_some, Option.bind_none, cond_true, cond_false, cond_dec, cond_not]
  · simp only [g13 hA hB, g14 hA hB, g15 hA hB hp, g16 hA hB hp, g18 hA hB hp h0 h1, g19 hA hB hp h0 h1, g21 hA hB hp h0 h1, g22 hA hB hp h0 h1, g20 hA hB hp h0 h1, p17s, beq_self_eq_true, if_neg hc, asInt_i, asBool_i, asRows_i, asCells_i, asTuple_i, asBox_i, asObCells_i, asLoop_i, uncons_i, unconsO_i, isNil_i, asPtr_i, asFn_f, asFn_y, asArr_i, asObArr_t, asObArr_f, isReady_i, isBusy_i, uncons_c, uncons_sc, arrRows_i, Option.bind_some, Option.bind_none, cond_true, cond_false, cond_dec, cond_not]
  · have q13 := g13 hN hN
    have q14 := g14 hN hN
    have q15 := g15 hN hN hp
    have q16 := g16 hN hN hp
    have q18 := g18 hN hN hp h0 h1
    have q19 := g19 hN hN hp h0 h1
    have q21 := g21 hN hN hp h0 h1
    have q22 := g22 hN hN hp h0 h1
    have q20 := g20 hN hN hp h0 h1
    simp only [mn] at q13 q14 q15 q16 q18 q19 q21 q22
    simp only [q13, q14, q15, q16, q18, q19, q21, q22, q20, p17s, beq_self_eq_true, if_pos hc, asInt_i, asBool_i, asRows_i, asCells_i, asTuple_i, asBox_i, asObCells_i, asLoop_i, uncons_i, unconsO_i, isNil_i, asPtr_i, asFn_f, asFn_y, asArr_i, asObArr_t, asObArr_f, isReady_i, isBusy_i, uncons_c, uncons_sc, arrRows_i, Option.bind_some, Option.bind_none, cond_true, cond_false, cond_dec, cond_not]
  · have q13 := g13 hN hB
    have q14 := g14 hN hB
    have q15 := g15 hN hB hp
    have q16 := g16 hN hB hp
    have q18 := g18 hN hB hp h0 h1
    have q19 := g19 hN hB hp h0 h1
    have q21 := g21 hN hB hp h0 h1
    have q22 := g22 hN hB hp h0 h1
    have q20 := g20 hN hB hp h0 h1
    simp only [mn] at q13 q14 q15 q16 q18 q19 q21 q22
    simp only [q13, q14, q15, q16, q18, q19, q21, q22, q20, p17s, beq_self_eq_true, if_neg hc, asInt_i, asBool_i, asRows_i, asCells_i, asTuple_i, asBox_i, asObCells_i, asLoop_i, uncons_i, unconsO_i, isNil_i, asPtr_i, asFn_f, asFn_y, asArr_i, asObArr_t, asObArr_f, isReady_i, isBusy_i, uncons_c, uncons_sc, arrRows_i, Option.bind_some, Option.bind_none, cond_true, cond_false, cond_dec, cond_not]
end Go.Ab
