/- Split: the call answers true, whatever the query, the place and the cut; conditions: none. -/
import Derived.Test.YtbfecmgiffkooaaZH
import Derived.Test.YtbfecmgiffkooaaZM
import Derived.Test.YtbfecmgiffkooaaE7
namespace Go.Ab
set_option linter.unusedVariables false
set_option linter.unusedSimpArgs false
set_option linter.unusedSimpArgs false
set_option linter.unusedVariables false
theorem headIs_c (l : List Seg) : headIs 6 (l.map Seg.c) = true := by cases l <;> rfl
theorem tmod_at (n z : Int) (L : Nat) (h1 : 1 ≤ L) (h6 : L ≤ 6) (hz : 0 ≤ z ∧ z ≤ 255) : ∃ (i : Nat) (hi : i < L), Int.tmod (IntKind.wrap .i64 z) ((L : Nat) : Int) = ((i : Nat) : Int) := by
  have w : IntKind.wrap .i64 z = z := w64 (by omega) (by omega)
  have b1 := tmod_b z (L : Int) (by omega)
  have b2 := tmod_nn z (L : Int) hz.1
  rw [w]
  exact ⟨(z.tmod (L : Int)).toNat, by omega, by omega⟩
theorem arrRows0 (w : Bool) (R : List (List V)) (n : Nat) (h : n = R.length) : arrRows [.arr w 6 R] 0 n = some R := by subst h; simp [arrRows, hget]
set_option maxRecDepth 100000 in
theorem p10 (a b : List Seg) (n d z0 z1 : Int) (hn : 0 ≤ n) (y0 : 0 ≤ z0 ∧ z0 ≤ 255) (u1 : 0 ≤ z1 ∧ z1 < 4294967296) :
    (CW G20 L20).p (.func 10) [.agg [.slice .any (a.map Seg.c), .slice .any (b.map Seg.c), .int .u8 n, .int .i64 d], .int .u8 z0, .int .u32 z1] = some (.bool true) := by
  have hA := made_good a
  have hB := made_good b
  have lA := (Made_len a).1
  have hp := posOf_b n hn
  have h0 := (dOf_b d).1
  have h1 := (dOf_b d).2
  have e := e10 (CW G20 L20) (a.map Seg.c) (b.map Seg.c) n d z0 z1
  rw [p12 a b n d hn] at e
  simp only [p11, asInt_i, asBool_i, asRows_i, asCells_i, asTuple_i, asBox_i, asObCells_i, asLoop_i, uncons_i, unconsO_i, isNil_i, asPtr_i, asFn_f, asFn_y, asArr_i, asObArr_t, asObArr_f, isReady_i, isBusy_i, uncons_c, uncons_sc, arrRows_i, Option.bind_some, Option.bind_none, cond_true, cond_false, cond_dec, cond_not] at e
  generalize Made a = A at *
  generalize Made b = B at *
  generalize dOf d = D at *
  generalize posOf n = N at *
  have hp3 := hp.2.1
  have hlA := hA.len
  obtain ⟨i, hi, ei⟩ := tmod_at n z0 A.length lA hA.len y0
  have zA : (((A.length : Nat) : Int) == 0) = false := by rw [beq_eq_false_iff_ne]; omega
  rw [List.length_map, zA, ei, getS A i hi] at e
  have mx := List.getElem_mem hi
  have ox := hA.ok _ mx
  have px := hA.pos _ mx
  obtain ⟨t0, t1, q0, q1, _, _⟩ := ox
  have nm := hA.num _ mx
  unfold number Seg.fin at nm
  have eA : A = A.take i ++ A[i] :: A.drop (i + 1) := by rw [List.getElem_cons_drop, List.take_append_drop]
  simp only [asInt_i, asBool_i, asRows_i, asCells_i, asTuple_i, asBox_i, asObCells_i, asLoop_i, uncons_i, unconsO_i, isNil_i, asPtr_i, asFn_f, asFn_y, asArr_i, asObArr_t, asObArr_f, isReady_i, isBusy_i, uncons_c, uncons_sc, arrRows_i, Option.bind_some, Option.bind_none, cond_true, cond_false, cond_dec, cond_not] at e
  by_cases hs : A[i].h < 2
  · rw [if_pos hs] at e
    exact CW_val e rfl
  · rw [if_neg hs] at e
    have w1 : IntKind.wrap .i64 (A[i].h - 1) = A[i].h - 1 := w64 (by omega) (by omega)
    have w2 : IntKind.wrap .i64 z1 = z1 := w64 (by omega) (by omega)
    have b1 := tmod_b z1 (A[i].h - 1) (by omega)
    have b2 := tmod_nn z1 (A[i].h - 1) u1.1
    have w3 : IntKind.wrap .i64 (1 + z1.tmod (A[i].h - 1)) = 1 + z1.tmod (A[i].h - 1) := w64 (by omega) (by omega)
    have hz : ((A[i].h - 1) == 0) = false := by rw [beq_eq_false_iff_ne]; omega
    rw [w1, w2, w3, hz] at e
    generalize hm : 1 + z1.tmod (A[i].h - 1) = m at *
    have w4 : IntKind.wrap .i64 (A[i].t + m) = A[i].t + m := w64 (by omega) (by omega)
    have w5 : IntKind.wrap .i64 (A[i].h - m) = A[i].h - m := w64 (by omega) (by omega)
    have w6 : IntKind.wrap .i64 ((i : Int) + 1) = ((i + 1 : Nat) : Int) := wsucc i (by omega)
    rw [w4, w5, w6] at e
    simp only [Int.toNat_natCast, List.drop_zero, ← List.map_take, ← List.map_drop, headIs_c, cond_false, cond_true] at e
    have hR1 : ((A.take i).map Seg.c).append [[.int .i64 A[i].t, .int .i64 m, .slice .any (A[i].frm.map Iv.c), .slice .any (A[i].pre.map Iv.c), .slice .any (A[i].tube.map Iv.c), .slice .any (A[i].to.map Iv.c)], [.int .i64 (A[i].t + m), .int .i64 (A[i].h - m), .slice .any (A[i].frm.map Iv.c), .slice .any (A[i].pre.map Iv.c), .slice .any (A[i].tube.map Iv.c), .slice .any (A[i].to.map Iv.c)]] = (A.take i ++ [cut1 A[i] m, cut2 A[i] m]).map Seg.c := by rw [List.map_append]; rfl
    have hR2 : ((A.take i ++ [cut1 A[i] m, cut2 A[i] m]).map Seg.c).append ((A.drop (i + 1)).map Seg.c) = (splitAt' (A.take i) (A.drop (i + 1)) A[i] m).map Seg.c := by unfold splitAt'; rw [List.map_append (l₁ := A.take i ++ [cut1 A[i] m, cut2 A[i] m])]; rfl
    have hlen : (splitAt' (A.take i) (A.drop (i + 1)) A[i] m).length = A.length + 1 := by
      unfold splitAt'
      simp only [List.length_append, List.length_take, List.length_drop, List.length_cons, List.length_nil]
      omega
    have c1 : (A.take i).length = i := by rw [List.length_take]; omega
    have c2 : (A.drop (i + 1)).length = A.length - (i + 1) := List.length_drop ..
    have rm : ∀ k : Nat, k ≤ 8 → k * 112 ≤ room := fun k hk => Nat.le_trans (Nat.mul_le_mul_right 112 hk) (by unfold room; decide)
    have f1 : (0 : Int) ≤ (i : Int) := Int.natCast_nonneg i
    have f2 : (0 : Int) ≤ ((i + 1 : Nat) : Int) := Int.natCast_nonneg _
    have m1 : 1 ≤ m := by omega
    have m2 : m < A[i].h := by omega
    -- the cut flow
    have okC : ∀ x ∈ splitAt' (A.take i) (A.drop (i + 1)) A[i] m, ∃ y ∈ A, x.tube = y.tube ∧ (x = y ∨ x = cut1 A[i] m ∨ x = cut2 A[i] m) := fun x hx => by
      unfold splitAt' at hx
      simp only [List.mem_append, List.mem_cons, List.not_mem_nil, or_false] at hx
      rcases hx with (hx | rfl | rfl) | hx
      · exact ⟨x, List.mem_of_mem_take hx, rfl, .inl rfl⟩
      · exact ⟨A[i], mx, rfl, .inr (.inl rfl)⟩
      · exact ⟨A[i], mx, rfl, .inr (.inr rfl)⟩
      · exact ⟨x, List.mem_of_mem_drop hx, rfl, .inl rfl⟩
    have FC : Fl2 (splitAt' (A.take i) (A.drop (i + 1)) A[i] m) B N D := by
      refine ⟨fun x hx => ?_, hB.ok, by omega, by have := hB.len; omega, ⟨fun x hx => ?_, hB.lg hp3⟩, small_sq h0 (by omega)⟩
      · obtain ⟨y, hy, et, hxy⟩ := okC x hx
        have hyo := hA.ok y hy
        rcases hxy with rfl | rfl | rfl
        · exact hyo
        · exact ⟨t0, t1, by simp only [cut1]; omega, by simp only [cut1]; omega, by rw [et]; exact hyo.len, by rw [et]; exact hyo.val⟩
        · exact ⟨by simp only [cut2]; omega, by simp only [cut2]; omega, by simp only [cut2]; omega, by simp only [cut2]; omega, by rw [et]; exact hyo.len, by rw [et]; exact hyo.val⟩
      · obtain ⟨y, hy, et, _⟩ := okC x hx
        rw [et]; exact hA.lg hp3 y hy
    have upC : upT (splitAt' (A.take i) (A.drop (i + 1)) A[i] m) := split_up m1 m2 (by rw [← eA]; exact hA.up)
    have psC : posH (splitAt' (A.take i) (A.drop (i + 1)) A[i] m) := split_pos m1 m2 (by rw [← eA]; exact hA.pos)
    have same := split_same (pos := N) (d := D) m1 m2 (l1 := A.take i) (l2 := A.drop (i + 1)) (s := A[i]) (b := B) (by rw [← eA]; exact hA.up) hB.up (by rw [← eA]; exact hA.pos) hB.pos
    rw [← eA] at same
    obtain ⟨s1, s2, s3⟩ := same
    have q15 := p15 _ B FC.ha hB.ok (by omega) FC.hB N FC.hpos
    have q18 := p18 FC
    have l42 : (pairsOf (splitAt' (A.take i) (A.drop (i + 1)) A[i] m) B).length ≤ 42 ∧ (timesOf (splitAt' (A.take i) (A.drop (i + 1)) A[i] m) B N D).length ≤ 42 := by
      have h := times_len upC hB.up psC hB.pos N D
      have h2 : (splitAt' (A.take i) (A.drop (i + 1)) A[i] m).length * B.length ≤ 42 := by
        have := hB.len
        exact Nat.le_trans (Nat.mul_le_mul (show _ ≤ 7 by omega) this) (by decide)
      omega
    have q21 := p21 FC (by omega) (times_sorted upC hB.up psC hB.pos N D) (by omega)
    rw [← s1] at q15
    rw [← s2] at q18
    rw [← s3] at q21
    simp only [List.take_length] at e
    rw [hR1, hR2] at e
    simp only [List.length_map, List.length_append, c1, c2, List.length_cons, List.length_nil, Nat.zero_add] at e
    generalize splitAt' (A.take i) (A.drop (i + 1)) A[i] m = C at *
    have ar : ∀ (w : Bool) (n : Nat), n = C.length → arrRows [.arr w 6 (C.map Seg.c)] 0 n = some (C.map Seg.c) := fun w n h => arrRows0 w _ n (by rw [List.length_map]; exact h)
    have hlC : i + (1 + 1) + (A.length - (i + 1)) = C.length := by omega
    rw [if_pos f1, if_pos (show i ≤ A.length by omega), if_pos (rm i (by omega)), if_pos trivial, if_pos (rm (i + 2) (by omega)), if_pos f2, if_pos (show i + 1 ≤ A.length by omega)] at e
    rw [if_pos trivial, if_pos (show (i + (1 + 1) + (A.length - (i + 1))) * 112 ≤ room from rm _ (by omega))] at e
    simp only [g15 hA hB hp3, q15, g18 hA hB hp3 h0 h1, q18, g21 hA hB hp3 h0 h1, q21, g20 hA hB hp3 h0 h1, p17s, beq_self_eq_true, ar _ (i + 2 + (A.length - (i + 1))) (by omega), asInt_i, asBool_i, asRows_i, asCells_i, asTuple_i, asBox_i, asObCells_i, asLoop_i, uncons_i, unconsO_i, isNil_i, asPtr_i, asFn_f, asFn_y, asArr_i, asObArr_t, asObArr_f, isReady_i, isBusy_i, uncons_c, uncons_sc, arrRows_i, Option.bind_some, Option.bind_none, cond_true, cond_false, cond_dec, cond_not] at e
    exact CW_val e rfl
end Go.Ab
