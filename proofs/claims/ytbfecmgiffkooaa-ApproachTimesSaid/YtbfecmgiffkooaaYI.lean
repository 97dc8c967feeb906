/- The times that CloseTimes collects, typed; conditions: valid flows. -/
import Derived.Test.YtbfecmgiffkooaaYH
import Derived.Test.YtbfecmgiffkooaaE20q
namespace Go.Ab
set_option linter.unusedSimpArgs false
set_option linter.unusedVariables false
noncomputable def R76 : LoopA := ⟨.ready, none, (sp 0 13 [(0, .slice .nil []), (1, .fn (.func 73) [] [.ptr 0 0, .ptr 1 0, .ptr 2 0]), (2, .ptr 4 0), (4, .slice .nil []), (6, .fn (.func 73) [] [.ptr 0 0, .ptr 1 0, .ptr 2 0])]), 76, [7], rangeAssign GP 76 3, rangeBody GP 76 3⟩
noncomputable def R73q (a b : List Seg) (st : LoopState) (pe : Option Ex) : LoopA := ⟨st, pe, (sp 0 33 [(0, .fn (.yield 5) [] []), (1, .ptr 0 0), (2, .ptr 1 0), (3, .ptr 2 0), (4, .ptr 6 0), (6, .slice .any (a.map Seg.c)), (7, .slice .any (b.map Seg.c)), (8, .fn (.func 66) [] [.ptr 7 0, .ptr 8 0])]), 73, [9], rangeAssign GP 73 3, rangeBody GP 73 3⟩
set_option maxRecDepth 100000 in
theorem ov21_7 (pos : Nat) (d : Int) (a b : List Seg) (ha : oks a) (hb : oks b) (hA : a.length ≤ 1000000) (hB : b.length ≤ 1000000) (step : List (List V) → Seg × Seg → List (List V) × Bool) (Inv : List (Seg × Seg) → List (List V) → Prop)
    (hy : ∀ (x r : Seg) (l : List (Seg × Seg)) (s : List (List V)), x ∈ a → r ∈ b → Inv ((x, r) :: l) s → (CW G20 L20).s (.yield 9) [.agg [.int .i64 x.t, .int .i64 x.h, .slice .any (x.frm.map Iv.c), .slice .any (x.pre.map Iv.c), .slice .any (x.tube.map Iv.c), .slice .any (x.to.map Iv.c), .int .i64 r.t, .int .i64 r.h, .slice .any (r.frm.map Iv.c), .slice .any (r.pre.map Iv.c), .slice .any (r.tube.map Iv.c), .slice .any (r.to.map Iv.c), .int .i64 (if r.t > x.t then r.t else x.t), .int .i64 (if r.fin < x.fin then r.fin else x.fin)]] [.cells [.slice .any (a.map Seg.c)], .cells [.slice .any (b.map Seg.c)], .cells [.int .i64 ((pos : Nat) : Int), .int .i64 d], .arr true 2 s, .cells [.arr 3 s.length 2], .loop R76, .cells [.fn (.yield 5) [] []], .cells [.slice .any (a.map Seg.c)], .cells [.slice .any (b.map Seg.c)], .loop (R73q a b .ready none)] = some (.bool (step s (x, r)).2, [.cells [.slice .any (a.map Seg.c)], .cells [.slice .any (b.map Seg.c)], .cells [.int .i64 ((pos : Nat) : Int), .int .i64 d], .arr true 2 (step s (x, r)).1, .cells [.arr 3 (step s (x, r)).1.length 2], .loop R76, .cells [.fn (.yield 5) [] []], .cells [.slice .any (a.map Seg.c)], .cells [.slice .any (b.map Seg.c)], .loop (R73q a b .ready none)]) ∧ ((step s (x, r)).2 = true → Inv l (step s (x, r)).1)) (x : Seg) (hx : x ∈ a) (first i : Nat) (rest : List (Seg × Seg)) :
    ∀ (k : List Seg) (j : Nat) (s : List (List V)), (b.drop first).drop j = k → j ≤ (b.drop first).length → Inv (((meetB x.fin k).map fun r => (x, r)) ++ rest) s →
    ∃ e j', iterW (roundK G20 L20 (CW G20 L20) 66 none 7) ⟨(sp 0 63 [(0, .fn (.yield 9) [] []), (2, .ptr 8 0), (4, .int .i64 ((first : Nat) : Int)), (6, .box [.int .i64 x.t, .int .i64 x.h, .slice .any (x.frm.map Iv.c), .slice .any (x.pre.map Iv.c), .slice .any (x.tube.map Iv.c), .slice .any (x.to.map Iv.c)]), (9, .slice .any (a.map Seg.c)), (10, .int .i64 ((a.length : Nat) : Int)), (11, .int .i64 ((i : Nat) : Int)), (33, .slice .any ((b.drop first).map Seg.c)), (34, .int .i64 (((b.drop first).length : Nat) : Int)), (35, .int .i64 ((j : Nat) : Int))]), [.cells [.slice .any (a.map Seg.c)], .cells [.slice .any (b.map Seg.c)], .cells [.int .i64 ((pos : Nat) : Int), .int .i64 d], .arr true 2 s, .cells [.arr 3 s.length 2], .loop R76, .cells [.fn (.yield 5) [] []], .cells [.slice .any (a.map Seg.c)], .cells [.slice .any (b.map Seg.c)], .loop (R73q a b .ready none)]⟩ = some (e, ⟨(sp 0 63 [(0, .fn (.yield 9) [] []), (2, .ptr 8 0), (4, .int .i64 ((first : Nat) : Int)), (6, .box [.int .i64 x.t, .int .i64 x.h, .slice .any (x.frm.map Iv.c), .slice .any (x.pre.map Iv.c), .slice .any (x.tube.map Iv.c), .slice .any (x.to.map Iv.c)]), (9, .slice .any (a.map Seg.c)), (10, .int .i64 ((a.length : Nat) : Int)), (11, .int .i64 ((i : Nat) : Int)), (33, .slice .any ((b.drop first).map Seg.c)), (34, .int .i64 (((b.drop first).length : Nat) : Int)), (35, .int .i64 ((j' : Nat) : Int))]), [.cells [.slice .any (a.map Seg.c)], .cells [.slice .any (b.map Seg.c)], .cells [.int .i64 ((pos : Nat) : Int), .int .i64 d], .arr true 2 (runP step s ((meetB x.fin k).map fun r => (x, r))).1, .cells [.arr 3 (runP step s ((meetB x.fin k).map fun r => (x, r))).1.length 2], .loop R76, .cells [.fn (.yield 5) [] []], .cells [.slice .any (a.map Seg.c)], .cells [.slice .any (b.map Seg.c)], .loop (R73q a b .ready none)]⟩) ∧ ((runP step s ((meetB x.fin k).map fun r => (x, r))).2 = true → e = .exit 4 ∨ e = .exit 1) ∧ ((runP step s ((meetB x.fin k).map fun r => (x, r))).2 = false → e = .ret) ∧ ((runP step s ((meetB x.fin k).map fun r => (x, r))).2 = true → Inv rest (runP step s ((meetB x.fin k).map fun r => (x, r))).1) := by
  have hxo := ha x hx
  have hlen : (b.drop first).length ≤ 1000000 := by rw [List.length_drop]; omega
  intro k
  induction k with
  | nil =>
    intro j s hk hj hI
    have hjl : j = (b.drop first).length := by have := List.drop_eq_nil_iff.1 hk; omega
    subst hjl
    refine ⟨.exit 4, (b.drop first).length, ?_, fun _ => .inl rfl, (fun h => by cases h), fun _ => hI⟩
    rw [iterW_eq]
    simp only [e66_7_q, lt_decn, cond_false, meetB, List.takeWhile_nil, List.map_nil, runP]
  | cons r k ih =>
    intro j s hk hj hI
    have hil : j < (b.drop first).length := by
      apply Nat.lt_of_not_le
      intro hle
      rw [List.drop_eq_nil_iff.2 hle] at hk; cases hk
    have hd := List.drop_eq_getElem_cons hil
    rw [hk] at hd
    injection hd with hr hk'
    have hrm : r ∈ b := by rw [hr]; exact List.mem_of_mem_drop (List.getElem_mem hil)
    rw [iterW_eq]
    by_cases hc : r.t > x.fin
    · have hm : meetB x.fin (r :: k) = [] := by simp [meetB, hc]
      rw [hm] at hI ⊢
      refine ⟨.exit 1, j, ?_, fun _ => .inr rfl, (fun h => by cases h), fun _ => hI⟩
      simp only [e66_7_q, lt_dec hil, getS _ j hil, ← hr, asInt_i, asBool_i, asRows_i, asCells_i, asTuple_i, asBox_i, asObCells_i, asLoop_i, uncons_i, unconsO_i, isNil_i, asPtr_i, asFn_f, asFn_y, asArr_i, asObArr_t, asObArr_f, isReady_i, isBusy_i, uncons_c, uncons_sc, arrRows_i, Option.bind_some, Option.bind_none, cond_true, cond_false, cond_dec, cond_not, p37 x hxo, hc, if_true, List.map_nil, runP]
    · have hm : meetB x.fin (r :: k) = r :: meetB x.fin k := by simp [meetB, hc]
      have hI2 := hI
      rw [hm] at hI2
      obtain ⟨y1, y2⟩ := hy x r (((meetB x.fin k).map fun r => (x, r)) ++ rest) s hx hrm hI2
      cases hst : (step s (x, r)).2 with
      | true =>
        obtain ⟨e, j', g1, g2, g3, g4⟩ := ih (j + 1) (step s (x, r)).1 hk'.symm (by omega) (y2 hst)
        have hrun : runP step s ((meetB x.fin (r :: k)).map fun r => (x, r)) = runP step (step s (x, r)).1 ((meetB x.fin k).map fun r => (x, r)) := by rw [hm]; simp only [List.map_cons, runP, hst]
        rw [hrun]
        refine ⟨e, j', ?_, g2, g3, g4⟩
        rw [hst] at y1
        simp only [e66_7_q, lt_dec hil, getS _ j hil, ← hr, asInt_i, asBool_i, asRows_i, asCells_i, asTuple_i, asBox_i, asObCells_i, asLoop_i, uncons_i, unconsO_i, isNil_i, asPtr_i, asFn_f, asFn_y, asArr_i, asObArr_t, asObArr_f, isReady_i, isBusy_i, uncons_c, uncons_sc, arrRows_i, Option.bind_some, Option.bind_none, cond_true, cond_false, cond_dec, cond_not, p37 x hxo, p37 r (hb r hrm), hc, if_false, y1, Bool.not_true, wsucc j (by omega)]
        exact g1
      | false =>
        have hrun : runP step s ((meetB x.fin (r :: k)).map fun r => (x, r)) = ((step s (x, r)).1, false) := by rw [hm]; simp only [List.map_cons, runP, hst]
        rw [hrun]
        rw [hst] at y1
        refine ⟨.ret, j, ?_, (fun h => by cases h), fun _ => rfl, fun h => by cases h⟩
        simp only [e66_7_q, lt_dec hil, getS _ j hil, ← hr, asInt_i, asBool_i, asRows_i, asCells_i, asTuple_i, asBox_i, asObCells_i, asLoop_i, uncons_i, unconsO_i, isNil_i, asPtr_i, asFn_f, asFn_y, asArr_i, asObArr_t, asObArr_f, isReady_i, isBusy_i, uncons_c, uncons_sc, arrRows_i, Option.bind_some, Option.bind_none, cond_true, cond_false, cond_dec, cond_not, p37 x hxo, p37 r (hb r hrm), hc, if_false, y1, Bool.not_false]

theorem ov21_4 (pos : Nat) (d : Int) (a b : List Seg) (hb : oks b) (hB : b.length ≤ 1000000) (x : Seg) (i : Nat) (s : List (List V)) :
    ∀ (k : List Seg) (first : Nat), b.drop first = k → first ≤ b.length →
    iterW (roundK G20 L20 (CW G20 L20) 66 none 4) ⟨(sp 0 63 [(0, .fn (.yield 9) [] []), (2, .ptr 8 0), (4, .int .i64 ((first : Nat) : Int)), (6, .box [.int .i64 x.t, .int .i64 x.h, .slice .any (x.frm.map Iv.c), .slice .any (x.pre.map Iv.c), .slice .any (x.tube.map Iv.c), .slice .any (x.to.map Iv.c)]), (9, .slice .any (a.map Seg.c)), (10, .int .i64 ((a.length : Nat) : Int)), (11, .int .i64 ((i : Nat) : Int))]), [.cells [.slice .any (a.map Seg.c)], .cells [.slice .any (b.map Seg.c)], .cells [.int .i64 ((pos : Nat) : Int), .int .i64 d], .arr true 2 s, .cells [.arr 3 s.length 2], .loop R76, .cells [.fn (.yield 5) [] []], .cells [.slice .any (a.map Seg.c)], .cells [.slice .any (b.map Seg.c)], .loop (R73q a b .ready none)]⟩ = some (.exit 2, ⟨(sp 0 63 [(0, .fn (.yield 9) [] []), (2, .ptr 8 0), (4, .int .i64 (((b.length - (skipB x.t k).length) : Nat) : Int)), (6, .box [.int .i64 x.t, .int .i64 x.h, .slice .any (x.frm.map Iv.c), .slice .any (x.pre.map Iv.c), .slice .any (x.tube.map Iv.c), .slice .any (x.to.map Iv.c)]), (9, .slice .any (a.map Seg.c)), (10, .int .i64 ((a.length : Nat) : Int)), (11, .int .i64 ((i : Nat) : Int))]), [.cells [.slice .any (a.map Seg.c)], .cells [.slice .any (b.map Seg.c)], .cells [.int .i64 ((pos : Nat) : Int), .int .i64 d], .arr true 2 s, .cells [.arr 3 s.length 2], .loop R76, .cells [.fn (.yield 5) [] []], .cells [.slice .any (a.map Seg.c)], .cells [.slice .any (b.map Seg.c)], .loop (R73q a b .ready none)]⟩) := by
  intro k
  induction k with
  | nil =>
    intro first hk hf
    have hjl : first = b.length := by have := List.drop_eq_nil_iff.1 hk; omega
    subst hjl
    rw [iterW_eq]
    simp only [e66_4_q, List.length_map, lt_decn, cond_false, skipB, List.dropWhile_nil, List.length_nil, Nat.sub_zero]
  | cons r k ih =>
    intro first hk hf
    have hil : first < b.length := by
      apply Nat.lt_of_not_le
      intro hle
      rw [List.drop_eq_nil_iff.2 hle] at hk; cases hk
    have hd := List.drop_eq_getElem_cons hil
    have hlk : (b.drop first).length = (r :: k).length := by rw [hk]
    rw [hk] at hd
    injection hd with hr hk'
    have hrm : r ∈ b := by rw [hr]; exact List.getElem_mem hil
    rw [iterW_eq]
    by_cases hc : r.fin < x.t
    · have hs : skipB x.t (r :: k) = skipB x.t k := by simp [skipB, hc]
      rw [hs]
      simp only [e66_4_q, List.length_map, lt_dec hil, getS _ first hil, ← hr, asInt_i, asBool_i, asRows_i, asCells_i, asTuple_i, asBox_i, asObCells_i, asLoop_i, uncons_i, unconsO_i, isNil_i, asPtr_i, asFn_f, asFn_y, asArr_i, asObArr_t, asObArr_f, isReady_i, isBusy_i, uncons_c, uncons_sc, arrRows_i, Option.bind_some, Option.bind_none, cond_true, cond_false, cond_dec, cond_not, p37 r (hb r hrm), hc, if_true, wsucc first (by omega)]
      exact ih (first + 1) hk'.symm hil
    · have hs : skipB x.t (r :: k) = r :: k := by simp [skipB, hc]
      have he : b.length - (skipB x.t (r :: k)).length = first := by rw [hs, ← hlk, List.length_drop]; omega
      rw [he]
      simp only [e66_4_q, List.length_map, lt_dec hil, getS _ first hil, ← hr, asInt_i, asBool_i, asRows_i, asCells_i, asTuple_i, asBox_i, asObCells_i, asLoop_i, uncons_i, unconsO_i, isNil_i, asPtr_i, asFn_f, asFn_y, asArr_i, asObArr_t, asObArr_f, isReady_i, isBusy_i, uncons_c, uncons_sc, arrRows_i, Option.bind_some, Option.bind_none, cond_true, cond_false, cond_dec, cond_not, p37 r (hb r hrm), hc, if_false]

set_option maxRecDepth 100000 in
theorem ov21_2 (pos : Nat) (d : Int) (a b : List Seg) (ha : oks a) (hb : oks b) (hA : a.length ≤ 1000000) (hB : b.length ≤ 1000000) (step : List (List V) → Seg × Seg → List (List V) × Bool) (Inv : List (Seg × Seg) → List (List V) → Prop)
    (hy : ∀ (x r : Seg) (l : List (Seg × Seg)) (s : List (List V)), x ∈ a → r ∈ b → Inv ((x, r) :: l) s → (CW G20 L20).s (.yield 9) [.agg [.int .i64 x.t, .int .i64 x.h, .slice .any (x.frm.map Iv.c), .slice .any (x.pre.map Iv.c), .slice .any (x.tube.map Iv.c), .slice .any (x.to.map Iv.c), .int .i64 r.t, .int .i64 r.h, .slice .any (r.frm.map Iv.c), .slice .any (r.pre.map Iv.c), .slice .any (r.tube.map Iv.c), .slice .any (r.to.map Iv.c), .int .i64 (if r.t > x.t then r.t else x.t), .int .i64 (if r.fin < x.fin then r.fin else x.fin)]] [.cells [.slice .any (a.map Seg.c)], .cells [.slice .any (b.map Seg.c)], .cells [.int .i64 ((pos : Nat) : Int), .int .i64 d], .arr true 2 s, .cells [.arr 3 s.length 2], .loop R76, .cells [.fn (.yield 5) [] []], .cells [.slice .any (a.map Seg.c)], .cells [.slice .any (b.map Seg.c)], .loop (R73q a b .ready none)] = some (.bool (step s (x, r)).2, [.cells [.slice .any (a.map Seg.c)], .cells [.slice .any (b.map Seg.c)], .cells [.int .i64 ((pos : Nat) : Int), .int .i64 d], .arr true 2 (step s (x, r)).1, .cells [.arr 3 (step s (x, r)).1.length 2], .loop R76, .cells [.fn (.yield 5) [] []], .cells [.slice .any (a.map Seg.c)], .cells [.slice .any (b.map Seg.c)], .loop (R73q a b .ready none)]) ∧ ((step s (x, r)).2 = true → Inv l (step s (x, r)).1)) :
    ∀ (k : List Seg) (i first : Nat) (s : List (List V)), a.drop i = k → i ≤ a.length → first ≤ b.length → Inv (pairsOf k (b.drop first)) s →
    ∃ e i' f', iterW (roundK G20 L20 (CW G20 L20) 66 none 2) ⟨(sp 0 63 [(0, .fn (.yield 9) [] []), (2, .ptr 8 0), (4, .int .i64 ((first : Nat) : Int)), (9, .slice .any (a.map Seg.c)), (10, .int .i64 ((a.length : Nat) : Int)), (11, .int .i64 ((i : Nat) : Int))]), [.cells [.slice .any (a.map Seg.c)], .cells [.slice .any (b.map Seg.c)], .cells [.int .i64 ((pos : Nat) : Int), .int .i64 d], .arr true 2 s, .cells [.arr 3 s.length 2], .loop R76, .cells [.fn (.yield 5) [] []], .cells [.slice .any (a.map Seg.c)], .cells [.slice .any (b.map Seg.c)], .loop (R73q a b .ready none)]⟩ = some (e, ⟨(sp 0 63 [(0, .fn (.yield 9) [] []), (2, .ptr 8 0), (4, .int .i64 ((f' : Nat) : Int)), (9, .slice .any (a.map Seg.c)), (10, .int .i64 ((a.length : Nat) : Int)), (11, .int .i64 ((i' : Nat) : Int))]), [.cells [.slice .any (a.map Seg.c)], .cells [.slice .any (b.map Seg.c)], .cells [.int .i64 ((pos : Nat) : Int), .int .i64 d], .arr true 2 (runP step s (pairsOf k (b.drop first))).1, .cells [.arr 3 (runP step s (pairsOf k (b.drop first))).1.length 2], .loop R76, .cells [.fn (.yield 5) [] []], .cells [.slice .any (a.map Seg.c)], .cells [.slice .any (b.map Seg.c)], .loop (R73q a b .ready none)]⟩) ∧ ((runP step s (pairsOf k (b.drop first))).2 = true → e = .exit 0) ∧ ((runP step s (pairsOf k (b.drop first))).2 = false → e = .ret) ∧ ((runP step s (pairsOf k (b.drop first))).2 = true → Inv [] (runP step s (pairsOf k (b.drop first))).1) := by
  intro k
  induction k with
  | nil =>
    intro i first s hk hj hf hI
    have hjl : i = a.length := by have := List.drop_eq_nil_iff.1 hk; omega
    subst hjl
    refine ⟨.exit 0, a.length, first, ?_, fun _ => rfl, (fun h => by cases h), fun _ => hI⟩
    rw [iterW_eq]
    rw [e66_2_q]
    simp only [lt_decn, cond_false, pairsOf, runP]
  | cons x k ih =>
    intro i first s hk hj hf hI
    have hil : i < a.length := by
      apply Nat.lt_of_not_le
      intro hle
      rw [List.drop_eq_nil_iff.2 hle] at hk; cases hk
    have hd := List.drop_eq_getElem_cons hil
    rw [hk] at hd
    injection hd with hr hk'
    have hxm : x ∈ a := by rw [hr]; exact List.getElem_mem hil
    have h4 := ov21_4 pos d a b hb hB x i s (b.drop first) first rfl hf
    have hdr := drop_skip hf x.t
    generalize hnf : b.length - (skipB x.t (b.drop first)).length = nf at h4 hdr
    have hnl : nf ≤ b.length := by omega
    have hpo : pairsOf (x :: k) (b.drop first) = (meetB x.fin (b.drop nf)).map (fun r => (x, r)) ++ pairsOf k (b.drop nf) := by simp only [pairsOf, hdr]
    rw [hpo] at hI
    obtain ⟨e, j', g1, g2, g3, g4⟩ := ov21_7 pos d a b ha hb hA hB step Inv hy x hxm nf i (pairsOf k (b.drop nf)) (b.drop nf) 0 s rfl (Nat.zero_le _) hI
    rw [hpo, runP_append]
    generalize hrn : runP step s ((meetB x.fin (b.drop nf)).map fun r => (x, r)) = rn at g1 g2 g3 g4
    obtain ⟨s', go⟩ := rn
    simp only at g1 g2 g3 g4
    have hz : ((0 : Nat) : Int) = 0 := rfl
    rw [hz] at g1
    have hnn : (0 : Int) ≤ (nf : Int) := Int.natCast_nonneg nf
    have n7_0 : nth (sp 0 63 [(0, .fn (.yield 9) [] []), (2, .ptr 8 0), (4, .int .i64 ((nf : Nat) : Int)), (6, .box [.int .i64 x.t, .int .i64 x.h, .slice .any (x.frm.map Iv.c), .slice .any (x.pre.map Iv.c), .slice .any (x.tube.map Iv.c), .slice .any (x.to.map Iv.c)]), (9, .slice .any (a.map Seg.c)), (10, .int .i64 ((a.length : Nat) : Int)), (11, .int .i64 ((i : Nat) : Int))]) 0 = .fn (.yield 9) [] [] := rfl
    have n7_2 : nth (sp 0 63 [(0, .fn (.yield 9) [] []), (2, .ptr 8 0), (4, .int .i64 ((nf : Nat) : Int)), (6, .box [.int .i64 x.t, .int .i64 x.h, .slice .any (x.frm.map Iv.c), .slice .any (x.pre.map Iv.c), .slice .any (x.tube.map Iv.c), .slice .any (x.to.map Iv.c)]), (9, .slice .any (a.map Seg.c)), (10, .int .i64 ((a.length : Nat) : Int)), (11, .int .i64 ((i : Nat) : Int))]) 2 = .ptr 8 0 := rfl
    have n7_4 : nth (sp 0 63 [(0, .fn (.yield 9) [] []), (2, .ptr 8 0), (4, .int .i64 ((nf : Nat) : Int)), (6, .box [.int .i64 x.t, .int .i64 x.h, .slice .any (x.frm.map Iv.c), .slice .any (x.pre.map Iv.c), .slice .any (x.tube.map Iv.c), .slice .any (x.to.map Iv.c)]), (9, .slice .any (a.map Seg.c)), (10, .int .i64 ((a.length : Nat) : Int)), (11, .int .i64 ((i : Nat) : Int))]) 4 = .int .i64 ((nf : Nat) : Int) := rfl
    have n7_6 : nth (sp 0 63 [(0, .fn (.yield 9) [] []), (2, .ptr 8 0), (4, .int .i64 ((nf : Nat) : Int)), (6, .box [.int .i64 x.t, .int .i64 x.h, .slice .any (x.frm.map Iv.c), .slice .any (x.pre.map Iv.c), .slice .any (x.tube.map Iv.c), .slice .any (x.to.map Iv.c)]), (9, .slice .any (a.map Seg.c)), (10, .int .i64 ((a.length : Nat) : Int)), (11, .int .i64 ((i : Nat) : Int))]) 6 = .box [.int .i64 x.t, .int .i64 x.h, .slice .any (x.frm.map Iv.c), .slice .any (x.pre.map Iv.c), .slice .any (x.tube.map Iv.c), .slice .any (x.to.map Iv.c)] := rfl
    have n7_9 : nth (sp 0 63 [(0, .fn (.yield 9) [] []), (2, .ptr 8 0), (4, .int .i64 ((nf : Nat) : Int)), (6, .box [.int .i64 x.t, .int .i64 x.h, .slice .any (x.frm.map Iv.c), .slice .any (x.pre.map Iv.c), .slice .any (x.tube.map Iv.c), .slice .any (x.to.map Iv.c)]), (9, .slice .any (a.map Seg.c)), (10, .int .i64 ((a.length : Nat) : Int)), (11, .int .i64 ((i : Nat) : Int))]) 9 = .slice .any (a.map Seg.c) := rfl
    have n7_10 : nth (sp 0 63 [(0, .fn (.yield 9) [] []), (2, .ptr 8 0), (4, .int .i64 ((nf : Nat) : Int)), (6, .box [.int .i64 x.t, .int .i64 x.h, .slice .any (x.frm.map Iv.c), .slice .any (x.pre.map Iv.c), .slice .any (x.tube.map Iv.c), .slice .any (x.to.map Iv.c)]), (9, .slice .any (a.map Seg.c)), (10, .int .i64 ((a.length : Nat) : Int)), (11, .int .i64 ((i : Nat) : Int))]) 10 = .int .i64 ((a.length : Nat) : Int) := rfl
    have n7_11 : nth (sp 0 63 [(0, .fn (.yield 9) [] []), (2, .ptr 8 0), (4, .int .i64 ((nf : Nat) : Int)), (6, .box [.int .i64 x.t, .int .i64 x.h, .slice .any (x.frm.map Iv.c), .slice .any (x.pre.map Iv.c), .slice .any (x.tube.map Iv.c), .slice .any (x.to.map Iv.c)]), (9, .slice .any (a.map Seg.c)), (10, .int .i64 ((a.length : Nat) : Int)), (11, .int .i64 ((i : Nat) : Int))]) 11 = .int .i64 ((i : Nat) : Int) := rfl
    have n10_0 : nth (sp 0 63 [(0, .fn (.yield 9) [] []), (2, .ptr 8 0), (4, .int .i64 ((nf : Nat) : Int)), (6, .box [.int .i64 x.t, .int .i64 x.h, .slice .any (x.frm.map Iv.c), .slice .any (x.pre.map Iv.c), .slice .any (x.tube.map Iv.c), .slice .any (x.to.map Iv.c)]), (9, .slice .any (a.map Seg.c)), (10, .int .i64 ((a.length : Nat) : Int)), (11, .int .i64 ((i : Nat) : Int)), (33, .slice .any ((b.drop nf).map Seg.c)), (34, .int .i64 (((b.drop nf).length : Nat) : Int)), (35, .int .i64 ((j' : Nat) : Int))]) 0 = .fn (.yield 9) [] [] := rfl
    have n10_2 : nth (sp 0 63 [(0, .fn (.yield 9) [] []), (2, .ptr 8 0), (4, .int .i64 ((nf : Nat) : Int)), (6, .box [.int .i64 x.t, .int .i64 x.h, .slice .any (x.frm.map Iv.c), .slice .any (x.pre.map Iv.c), .slice .any (x.tube.map Iv.c), .slice .any (x.to.map Iv.c)]), (9, .slice .any (a.map Seg.c)), (10, .int .i64 ((a.length : Nat) : Int)), (11, .int .i64 ((i : Nat) : Int)), (33, .slice .any ((b.drop nf).map Seg.c)), (34, .int .i64 (((b.drop nf).length : Nat) : Int)), (35, .int .i64 ((j' : Nat) : Int))]) 2 = .ptr 8 0 := rfl
    have n10_4 : nth (sp 0 63 [(0, .fn (.yield 9) [] []), (2, .ptr 8 0), (4, .int .i64 ((nf : Nat) : Int)), (6, .box [.int .i64 x.t, .int .i64 x.h, .slice .any (x.frm.map Iv.c), .slice .any (x.pre.map Iv.c), .slice .any (x.tube.map Iv.c), .slice .any (x.to.map Iv.c)]), (9, .slice .any (a.map Seg.c)), (10, .int .i64 ((a.length : Nat) : Int)), (11, .int .i64 ((i : Nat) : Int)), (33, .slice .any ((b.drop nf).map Seg.c)), (34, .int .i64 (((b.drop nf).length : Nat) : Int)), (35, .int .i64 ((j' : Nat) : Int))]) 4 = .int .i64 ((nf : Nat) : Int) := rfl
    have n10_6 : nth (sp 0 63 [(0, .fn (.yield 9) [] []), (2, .ptr 8 0), (4, .int .i64 ((nf : Nat) : Int)), (6, .box [.int .i64 x.t, .int .i64 x.h, .slice .any (x.frm.map Iv.c), .slice .any (x.pre.map Iv.c), .slice .any (x.tube.map Iv.c), .slice .any (x.to.map Iv.c)]), (9, .slice .any (a.map Seg.c)), (10, .int .i64 ((a.length : Nat) : Int)), (11, .int .i64 ((i : Nat) : Int)), (33, .slice .any ((b.drop nf).map Seg.c)), (34, .int .i64 (((b.drop nf).length : Nat) : Int)), (35, .int .i64 ((j' : Nat) : Int))]) 6 = .box [.int .i64 x.t, .int .i64 x.h, .slice .any (x.frm.map Iv.c), .slice .any (x.pre.map Iv.c), .slice .any (x.tube.map Iv.c), .slice .any (x.to.map Iv.c)] := rfl
    have n10_9 : nth (sp 0 63 [(0, .fn (.yield 9) [] []), (2, .ptr 8 0), (4, .int .i64 ((nf : Nat) : Int)), (6, .box [.int .i64 x.t, .int .i64 x.h, .slice .any (x.frm.map Iv.c), .slice .any (x.pre.map Iv.c), .slice .any (x.tube.map Iv.c), .slice .any (x.to.map Iv.c)]), (9, .slice .any (a.map Seg.c)), (10, .int .i64 ((a.length : Nat) : Int)), (11, .int .i64 ((i : Nat) : Int)), (33, .slice .any ((b.drop nf).map Seg.c)), (34, .int .i64 (((b.drop nf).length : Nat) : Int)), (35, .int .i64 ((j' : Nat) : Int))]) 9 = .slice .any (a.map Seg.c) := rfl
    have n10_10 : nth (sp 0 63 [(0, .fn (.yield 9) [] []), (2, .ptr 8 0), (4, .int .i64 ((nf : Nat) : Int)), (6, .box [.int .i64 x.t, .int .i64 x.h, .slice .any (x.frm.map Iv.c), .slice .any (x.pre.map Iv.c), .slice .any (x.tube.map Iv.c), .slice .any (x.to.map Iv.c)]), (9, .slice .any (a.map Seg.c)), (10, .int .i64 ((a.length : Nat) : Int)), (11, .int .i64 ((i : Nat) : Int)), (33, .slice .any ((b.drop nf).map Seg.c)), (34, .int .i64 (((b.drop nf).length : Nat) : Int)), (35, .int .i64 ((j' : Nat) : Int))]) 10 = .int .i64 ((a.length : Nat) : Int) := rfl
    have n10_11 : nth (sp 0 63 [(0, .fn (.yield 9) [] []), (2, .ptr 8 0), (4, .int .i64 ((nf : Nat) : Int)), (6, .box [.int .i64 x.t, .int .i64 x.h, .slice .any (x.frm.map Iv.c), .slice .any (x.pre.map Iv.c), .slice .any (x.tube.map Iv.c), .slice .any (x.to.map Iv.c)]), (9, .slice .any (a.map Seg.c)), (10, .int .i64 ((a.length : Nat) : Int)), (11, .int .i64 ((i : Nat) : Int)), (33, .slice .any ((b.drop nf).map Seg.c)), (34, .int .i64 (((b.drop nf).length : Nat) : Int)), (35, .int .i64 ((j' : Nat) : Int))]) 11 = .int .i64 ((i : Nat) : Int) := rfl
    have n10_33 : nth (sp 0 63 [(0, .fn (.yield 9) [] []), (2, .ptr 8 0), (4, .int .i64 ((nf : Nat) : Int)), (6, .box [.int .i64 x.t, .int .i64 x.h, .slice .any (x.frm.map Iv.c), .slice .any (x.pre.map Iv.c), .slice .any (x.tube.map Iv.c), .slice .any (x.to.map Iv.c)]), (9, .slice .any (a.map Seg.c)), (10, .int .i64 ((a.length : Nat) : Int)), (11, .int .i64 ((i : Nat) : Int)), (33, .slice .any ((b.drop nf).map Seg.c)), (34, .int .i64 (((b.drop nf).length : Nat) : Int)), (35, .int .i64 ((j' : Nat) : Int))]) 33 = .slice .any ((b.drop nf).map Seg.c) := rfl
    have n10_34 : nth (sp 0 63 [(0, .fn (.yield 9) [] []), (2, .ptr 8 0), (4, .int .i64 ((nf : Nat) : Int)), (6, .box [.int .i64 x.t, .int .i64 x.h, .slice .any (x.frm.map Iv.c), .slice .any (x.pre.map Iv.c), .slice .any (x.tube.map Iv.c), .slice .any (x.to.map Iv.c)]), (9, .slice .any (a.map Seg.c)), (10, .int .i64 ((a.length : Nat) : Int)), (11, .int .i64 ((i : Nat) : Int)), (33, .slice .any ((b.drop nf).map Seg.c)), (34, .int .i64 (((b.drop nf).length : Nat) : Int)), (35, .int .i64 ((j' : Nat) : Int))]) 34 = .int .i64 (((b.drop nf).length : Nat) : Int) := rfl
    have n10_35 : nth (sp 0 63 [(0, .fn (.yield 9) [] []), (2, .ptr 8 0), (4, .int .i64 ((nf : Nat) : Int)), (6, .box [.int .i64 x.t, .int .i64 x.h, .slice .any (x.frm.map Iv.c), .slice .any (x.pre.map Iv.c), .slice .any (x.tube.map Iv.c), .slice .any (x.to.map Iv.c)]), (9, .slice .any (a.map Seg.c)), (10, .int .i64 ((a.length : Nat) : Int)), (11, .int .i64 ((i : Nat) : Int)), (33, .slice .any ((b.drop nf).map Seg.c)), (34, .int .i64 (((b.drop nf).length : Nat) : Int)), (35, .int .i64 ((j' : Nat) : Int))]) 35 = .int .i64 ((j' : Nat) : Int) := rfl
    rw [iterW_eq]
    cases go with
    | true =>
      obtain ⟨e2, i', f', k1, k2, k3, k4⟩ := ih (i + 1) nf s' hk'.symm hil hnl (g4 rfl)
      simp only
      refine ⟨e2, i', f', ?_, k2, k3, k4⟩
      rcases g2 rfl with rfl | rfl
      · rw [e66_2_q]
        simp only [lt_dec hil, getS _ i hil, ← hr, asInt_i, asBool_i, asRows_i, asCells_i, asTuple_i, asBox_i, asObCells_i, asLoop_i, uncons_i, unconsO_i, isNil_i, asPtr_i, asFn_f, asFn_y, asArr_i, asObArr_t, asObArr_f, isReady_i, isBusy_i, uncons_c, uncons_sc, arrRows_i, Option.bind_some, Option.bind_none, cond_true, cond_false, cond_dec, cond_not, CW_w, h4, n7_0, n7_2, n7_4, n7_6, n7_9, n7_10, n7_11, Nat.beq_refl, headIs_map, hnn, hnl, if_true, Int.toNat_natCast, List.length_map, List.take_length, ← List.map_take, ← List.map_drop, g1, n10_0, n10_2, n10_4, n10_6, n10_9, n10_10, n10_11, n10_33, n10_34, n10_35, wsucc i (by omega)]
        exact k1
      · rw [e66_2_q]
        simp only [lt_dec hil, getS _ i hil, ← hr, asInt_i, asBool_i, asRows_i, asCells_i, asTuple_i, asBox_i, asObCells_i, asLoop_i, uncons_i, unconsO_i, isNil_i, asPtr_i, asFn_f, asFn_y, asArr_i, asObArr_t, asObArr_f, isReady_i, isBusy_i, uncons_c, uncons_sc, arrRows_i, Option.bind_some, Option.bind_none, cond_true, cond_false, cond_dec, cond_not, CW_w, h4, n7_0, n7_2, n7_4, n7_6, n7_9, n7_10, n7_11, Nat.beq_refl, headIs_map, hnn, hnl, if_true, Int.toNat_natCast, List.length_map, List.take_length, ← List.map_take, ← List.map_drop, g1, n10_0, n10_2, n10_4, n10_6, n10_9, n10_10, n10_11, n10_33, n10_34, n10_35, wsucc i (by omega), show Nat.beq 1 4 = false from rfl]
        exact k1
    | false =>
      simp only
      refine ⟨.ret, i, nf, ?_, (fun h => by cases h), fun _ => rfl, fun h => by cases h⟩
      cases g3 rfl
      rw [e66_2_q]
      simp only [lt_dec hil, getS _ i hil, ← hr, asInt_i, asBool_i, asRows_i, asCells_i, asTuple_i, asBox_i, asObCells_i, asLoop_i, uncons_i, unconsO_i, isNil_i, asPtr_i, asFn_f, asFn_y, asArr_i, asObArr_t, asObArr_f, isReady_i, isBusy_i, uncons_c, uncons_sc, arrRows_i, Option.bind_some, Option.bind_none, cond_true, cond_false, cond_dec, cond_not, CW_w, h4, n7_0, n7_2, n7_4, n7_6, n7_9, n7_10, n7_11, Nat.beq_refl, headIs_map, hnn, hnl, if_true, Int.toNat_natCast, List.length_map, List.take_length, ← List.map_take, ← List.map_drop, g1, n10_0, n10_2, n10_4, n10_6, n10_9, n10_10, n10_11, n10_33, n10_34, n10_35]

theorem ov21 (pos : Nat) (d : Int) (a b : List Seg) (ha : oks a) (hb : oks b) (hA : a.length ≤ 1000000) (hB : b.length ≤ 1000000) (step : List (List V) → Seg × Seg → List (List V) × Bool) (Inv : List (Seg × Seg) → List (List V) → Prop)
    (hy : ∀ (x r : Seg) (l : List (Seg × Seg)) (s : List (List V)), x ∈ a → r ∈ b → Inv ((x, r) :: l) s → (CW G20 L20).s (.yield 9) [.agg [.int .i64 x.t, .int .i64 x.h, .slice .any (x.frm.map Iv.c), .slice .any (x.pre.map Iv.c), .slice .any (x.tube.map Iv.c), .slice .any (x.to.map Iv.c), .int .i64 r.t, .int .i64 r.h, .slice .any (r.frm.map Iv.c), .slice .any (r.pre.map Iv.c), .slice .any (r.tube.map Iv.c), .slice .any (r.to.map Iv.c), .int .i64 (if r.t > x.t then r.t else x.t), .int .i64 (if r.fin < x.fin then r.fin else x.fin)]] [.cells [.slice .any (a.map Seg.c)], .cells [.slice .any (b.map Seg.c)], .cells [.int .i64 ((pos : Nat) : Int), .int .i64 d], .arr true 2 s, .cells [.arr 3 s.length 2], .loop R76, .cells [.fn (.yield 5) [] []], .cells [.slice .any (a.map Seg.c)], .cells [.slice .any (b.map Seg.c)], .loop (R73q a b .ready none)] = some (.bool (step s (x, r)).2, [.cells [.slice .any (a.map Seg.c)], .cells [.slice .any (b.map Seg.c)], .cells [.int .i64 ((pos : Nat) : Int), .int .i64 d], .arr true 2 (step s (x, r)).1, .cells [.arr 3 (step s (x, r)).1.length 2], .loop R76, .cells [.fn (.yield 5) [] []], .cells [.slice .any (a.map Seg.c)], .cells [.slice .any (b.map Seg.c)], .loop (R73q a b .ready none)]) ∧ ((step s (x, r)).2 = true → Inv l (step s (x, r)).1)) (s : List (List V)) (hI : Inv (pairsOf a b) s) :
    (CW G20 L20).s (.func 66) [.fn (.yield 9) [] [], .ptr 7 0, .ptr 8 0] [.cells [.slice .any (a.map Seg.c)], .cells [.slice .any (b.map Seg.c)], .cells [.int .i64 ((pos : Nat) : Int), .int .i64 d], .arr true 2 s, .cells [.arr 3 s.length 2], .loop R76, .cells [.fn (.yield 5) [] []], .cells [.slice .any (a.map Seg.c)], .cells [.slice .any (b.map Seg.c)], .loop (R73q a b .ready none)] = some (.tuple [], [.cells [.slice .any (a.map Seg.c)], .cells [.slice .any (b.map Seg.c)], .cells [.int .i64 ((pos : Nat) : Int), .int .i64 d], .arr true 2 (runP step s (pairsOf a b)).1, .cells [.arr 3 (runP step s (pairsOf a b)).1.length 2], .loop R76, .cells [.fn (.yield 5) [] []], .cells [.slice .any (a.map Seg.c)], .cells [.slice .any (b.map Seg.c)], .loop (R73q a b .ready none)]) ∧ ((runP step s (pairsOf a b)).2 = true → Inv [] (runP step s (pairsOf a b)).1) := by
  obtain ⟨e, i', f', g1, g2, g3, g4⟩ := ov21_2 pos d a b ha hb hA hB step Inv hy a 0 0 s rfl (Nat.zero_le _) (Nat.zero_le _) hI
  rw [List.drop_zero] at g1 g2 g3 g4
  refine ⟨CW_run ?_, g4⟩
  generalize runP step s (pairsOf a b) = rn at g1 g2 g3 g4
  obtain ⟨s', go⟩ := rn
  rw [s66_q, CW_w, List.length_map]
  refine (bind_via g1 _).trans ?_
  cases go with
  | true => cases g2 rfl; kernel_rfl
  | false => cases g3 rfl; kernel_rfl

def step21 (pos : Nat) (d : Int) (s : List (List V)) (p : Seg × Seg) : List (List V) × Bool := (cond (nears pos d p) (List.append s [(timeOf p.1 p.2).c]) s, true)
theorem app_len (s : List (List V)) (x : List V) : (List.append s [x]).length = s.length + 1 := by simp
set_option maxRecDepth 100000 in
theorem h76_y (a b : List Seg) (pos : Nat) (d : Int) (s : List (List V)) (hs : s.length ≤ 1000000) (n0 n1 : Int) (l : LoopA) :
    (CW G20 L20).s (.yield 5) [.agg [.int .i64 n0, .int .i64 n1]] [.cells [.slice .any (a.map Seg.c)], .cells [.slice .any (b.map Seg.c)], .cells [.int .i64 ((pos : Nat) : Int), .int .i64 d], .arr true 2 s, .cells [.arr 3 s.length 2], .loop R76, .cells [.fn (.yield 5) [] []], .cells [.slice .any (a.map Seg.c)], .cells [.slice .any (b.map Seg.c)], .loop l] = some (.bool true, [.cells [.slice .any (a.map Seg.c)], .cells [.slice .any (b.map Seg.c)], .cells [.int .i64 ((pos : Nat) : Int), .int .i64 d], .arr true 2 (List.append s [[.int .i64 n0, .int .i64 n1]]), .cells [.arr 3 (List.append s [[.int .i64 n0, .int .i64 n1]]).length 2], .loop R76, .cells [.fn (.yield 5) [] []], .cells [.slice .any (a.map Seg.c)], .cells [.slice .any (b.map Seg.c)], .loop l]) := by
  refine CW_run ?_
  unfold R76
  rw [y76_3_q, app_len]
  have h1 : (s.length + 1) * 16 ≤ room := by unfold room; omega
  simp only [h1, asInt_i, asBool_i, asRows_i, asCells_i, asTuple_i, asBox_i, asObCells_i, asLoop_i, uncons_i, unconsO_i, isNil_i, asPtr_i, asFn_f, asFn_y, asArr_i, asObArr_t, asObArr_f, isReady_i, isBusy_i, uncons_c, uncons_sc, arrRows_i, Option.bind_some, Option.bind_none, cond_true, cond_false, cond_dec, cond_not, if_true]
set_option maxRecDepth 100000 in
theorem h73_yq {a b : List Seg} {pos : Nat} {d : Int} (F : Fl2 a b pos d) (x r : Seg) (s : List (List V)) (hs : s.length ≤ 1000000) (hx : x.ok) (hr : r.ok) (h2 : pos ≤ x.tube.length) (h3 : pos ≤ r.tube.length) :
    (CW G20 L20).s (.yield 9) [.agg [.int .i64 x.t, .int .i64 x.h, .slice .any (x.frm.map Iv.c), .slice .any (x.pre.map Iv.c), .slice .any (x.tube.map Iv.c), .slice .any (x.to.map Iv.c), .int .i64 r.t, .int .i64 r.h, .slice .any (r.frm.map Iv.c), .slice .any (r.pre.map Iv.c), .slice .any (r.tube.map Iv.c), .slice .any (r.to.map Iv.c), .int .i64 (if r.t > x.t then r.t else x.t), .int .i64 (if r.fin < x.fin then r.fin else x.fin)]] [.cells [.slice .any (a.map Seg.c)], .cells [.slice .any (b.map Seg.c)], .cells [.int .i64 ((pos : Nat) : Int), .int .i64 d], .arr true 2 s, .cells [.arr 3 s.length 2], .loop R76, .cells [.fn (.yield 5) [] []], .cells [.slice .any (a.map Seg.c)], .cells [.slice .any (b.map Seg.c)], .loop (R73q a b .ready none)] = some (.bool (step21 pos d s (x, r)).2, [.cells [.slice .any (a.map Seg.c)], .cells [.slice .any (b.map Seg.c)], .cells [.int .i64 ((pos : Nat) : Int), .int .i64 d], .arr true 2 (step21 pos d s (x, r)).1, .cells [.arr 3 (step21 pos d s (x, r)).1.length 2], .loop R76, .cells [.fn (.yield 5) [] []], .cells [.slice .any (a.map Seg.c)], .cells [.slice .any (b.map Seg.c)], .loop (R73q a b .ready none)]) := by
  refine CW_run ?_
  have h1 : (0 : Int) ≤ (pos : Int) := Int.natCast_nonneg pos
  rw [show R73q a b .ready none = ⟨.ready, none, (R73q a b .ready none).t, 73, [9], rangeAssign GP 73 3, rangeBody GP 73 3⟩ from rfl]
  refine (y73_3_q (CW G20 L20) _ _ _ _ _ _ _ _ _ _ _ _ _ _ _ _ _ _ _ _ _ _ _ _).trans ?_
  have hy := h76_y a b pos d s hs (if r.t > x.t then r.t else x.t) (if r.fin < x.fin then r.fin else x.fin) ⟨.busy, none, (R73q a b .ready none).t, 73, [9], rangeAssign GP 73 3, rangeBody GP 73 3⟩
  unfold R73q at hy
  simp only [h1, h2, h3, if_true, Int.toNat_natCast, List.length_map, List.drop_zero, ← List.map_take, p74_take x r hx hr pos d F.hd h2 h3, asInt_i, asBool_i, asRows_i, asCells_i, asTuple_i, asBox_i, asObCells_i, asLoop_i, uncons_i, unconsO_i, isNil_i, asPtr_i, asFn_f, asFn_y, asArr_i, asObArr_t, asObArr_f, isReady_i, isBusy_i, uncons_c, uncons_sc, arrRows_i, Option.bind_some, Option.bind_none, cond_true, cond_false, cond_dec, cond_not, step21, nears]
  cases sepd (x.tube.take pos) (r.tube.take pos) d with
  | true => rfl
  | false =>
    refine (bind_via hy _).trans ?_
    change _ = _
    kernel_rfl
/-- The common times of pairs that are not separated. -/
def timesOf (a b : List Seg) (pos : Nat) (d : Int) : List Iv := ((pairsOf a b).filter (nears pos d)).map fun p => timeOf p.1 p.2
theorem runP_collect (pos : Nat) (d : Int) : ∀ (l : List (Seg × Seg)) (s : List (List V)), runP (step21 pos d) s l = (s ++ ((l.filter (nears pos d)).map fun p => timeOf p.1 p.2).map Iv.c, true) := by
  intro l
  induction l with
  | nil => intro s; simp [runP]
  | cons p l ih =>
    intro s
    simp only [runP, step21]
    rw [ih]
    cases hn : nears pos d p with
    | true => simp [hn]
    | false => simp [hn]
theorem arrRows3 (o0 o1 o2 : Ob) (r : List (List V)) (l : List Ob) : arrRows (o0 :: o1 :: o2 :: .arr true 2 r :: l) 3 r.length = some r := by simp [arrRows, hget]
set_option maxRecDepth 100000 in
theorem h49 {a b : List Seg} {pos : Nat} {d : Int} (F : Fl2 a b pos d) (hn : (pairsOf a b).length ≤ 1000000) :
    (CW G20 L20).s (.func 49) [.fn (.func 73) [] [.ptr 0 0, .ptr 1 0, .ptr 2 0]] [.cells [.slice .any (a.map Seg.c)], .cells [.slice .any (b.map Seg.c)], .cells [.int .i64 ((pos : Nat) : Int), .int .i64 d]] =
      some (.slice .any ((timesOf a b pos d).map Iv.c), [.cells [.slice .any (a.map Seg.c)], .cells [.slice .any (b.map Seg.c)], .cells [.int .i64 ((pos : Nat) : Int), .int .i64 d]]) := by
  have h66 := (ov21 pos d a b F.ha F.hb F.hA F.hB (step21 pos d) (fun l s => s.length + l.length ≤ 1000000) (fun x r l s hx hr hI => by
    simp only [List.length_cons] at hI
    refine ⟨h73_yq F x r s (by omega) (F.ha x hx) (F.hb r hr) (F.hpos.1 x hx) (F.hpos.2 r hr), fun _ => ?_⟩
    simp only [step21]
    cases nears pos d (x, r) with
    | true => simp only [cond_true, app_len]; omega
    | false => simp only [cond_false]; omega) [] (by simpa using hn)).1
  rw [runP_collect] at h66
  simp only [List.nil_append] at h66
  rw [show ((pairsOf a b).filter (nears pos d)).map (fun p => timeOf p.1 p.2) = timesOf a b pos d from rfl] at h66
  generalize (timesOf a b pos d).map Iv.c = S at h66 ⊢
  have h73 : (CW G20 L20).s (.func 73) [.fn (.yield 5) [] [], .ptr 0 0, .ptr 1 0, .ptr 2 0] [.cells [.slice .any (a.map Seg.c)], .cells [.slice .any (b.map Seg.c)], .cells [.int .i64 ((pos : Nat) : Int), .int .i64 d], .arr true 2 [], .cells [.arr 3 0 2], .loop R76] =
      some (.tuple [], [.cells [.slice .any (a.map Seg.c)], .cells [.slice .any (b.map Seg.c)], .cells [.int .i64 ((pos : Nat) : Int), .int .i64 d], .arr true 2 S, .cells [.arr 3 S.length 2], .loop R76, .cells [.fn (.yield 5) [] []], .cells [.slice .any (a.map Seg.c)], .cells [.slice .any (b.map Seg.c)]]) := by
    refine CW_run ?_
    refine (s73_q (CW G20 L20) [] _ _ _ _ _).trans ?_
    refine (bind_via (CW_run (s40_q _ _ _ _ _ _ _ _ _)) _).trans ?_
    simp only [asInt_i, asBool_i, asRows_i, asCells_i, asTuple_i, asBox_i, asObCells_i, asLoop_i, uncons_i, unconsO_i, isNil_i, asPtr_i, asFn_f, asFn_y, asArr_i, asObArr_t, asObArr_f, isReady_i, isBusy_i, uncons_c, uncons_sc, arrRows_i, Option.bind_some, Option.bind_none, cond_true, cond_false, cond_dec, cond_not]
    refine (bind_via h66 _).trans ?_
    change _ = _
    kernel_rfl
  have h76 : (CW G20 L20).s (.func 76) [.slice .nil [], .fn (.func 73) [] [.ptr 0 0, .ptr 1 0, .ptr 2 0]] [.cells [.slice .any (a.map Seg.c)], .cells [.slice .any (b.map Seg.c)], .cells [.int .i64 ((pos : Nat) : Int), .int .i64 d]] =
      some (.slice .any S, [.cells [.slice .any (a.map Seg.c)], .cells [.slice .any (b.map Seg.c)], .cells [.int .i64 ((pos : Nat) : Int), .int .i64 d], .arr false 2 S, .cells [.arr 3 S.length 2]]) := by
    refine CW_run ?_
    rw [s76_q]
    refine (bind_via h73 _).trans ?_
    have he : endOf R76 = some none := rfl
    simp only [asInt_i, asBool_i, asRows_i, asCells_i, asTuple_i, asBox_i, asObCells_i, asLoop_i, uncons_i, unconsO_i, isNil_i, asPtr_i, asFn_f, asFn_y, asArr_i, asObArr_t, asObArr_f, isReady_i, isBusy_i, uncons_c, uncons_sc, arrRows_i, Option.bind_some, Option.bind_none, cond_true, cond_false, cond_dec, cond_not, he, arrRows3]
  refine CW_run ?_
  rw [s49_q]
  refine (bind_via h76 _).trans ?_
  change _ = _
  kernel_rfl
end Go.Ab
