/- Classify of the program, typed; conditions: valid flows. -/
import Derived.Test.YtbfecmgiffkooaaY1
import Derived.Test.YtbfecmgiffkooaaE6
namespace Go.Ab
set_option linter.unusedVariables false
set_option linter.unusedSimpArgs false
set_option linter.unusedSimpArgs false
set_option linter.unusedVariables false
structure CD where
  r : Int
  l : LoopA
  m : LoopA
noncomputable def R18 (a b : List Seg) (pos d : Int) (st : LoopState) (pe : Option Ex) : LoopA := ⟨st, pe, (sp 0 41 [(0, .slice .any (a.map Seg.c)), (1, .slice .any (b.map Seg.c)), (2, .agg [.int .i64 pos, .int .i64 d]), (3, .ptr 0 0), (4, .ptr 1 0), (5, .ptr 2 0), (6, .ptr 3 0), (11, .slice .any (a.map Seg.c)), (12, .slice .any (b.map Seg.c)), (13, .agg [.int .i64 pos, .int .i64 d]), (14, .fn (.func 73) [] [.ptr 4 0, .ptr 5 0, .ptr 6 0])]), 18, [15], rangeAssign GP 18 2, rangeBody GP 18 2⟩
noncomputable def R73 (a b : List Seg) (st : LoopState) (pe : Option Ex) : LoopA := ⟨st, pe, (sp 0 33 [(0, .fn (.yield 7) [] []), (1, .ptr 4 0), (2, .ptr 5 0), (3, .ptr 6 0), (4, .ptr 8 0), (6, .slice .any (a.map Seg.c)), (7, .slice .any (b.map Seg.c)), (8, .fn (.func 66) [] [.ptr 9 0, .ptr 10 0])]), 73, [9], rangeAssign GP 73 3, rangeBody GP 73 3⟩
set_option maxRecDepth 100000 in
theorem ov18_7 (pos : Nat) (d : Int) (a b : List Seg) (ha : oks a) (hb : oks b) (hA : a.length ≤ 1000000) (hB : b.length ≤ 1000000) (step : CD → Seg × Seg → CD × Bool) (Inv : List (Seg × Seg) → CD → Prop)
    (hy : ∀ (x r : Seg) (l : List (Seg × Seg)) (s : CD), x ∈ a → r ∈ b → Inv ((x, r) :: l) s → (CW G20 L20).s (.yield 11) [.agg [.int .i64 x.t, .int .i64 x.h, .slice .any (x.frm.map Iv.c), .slice .any (x.pre.map Iv.c), .slice .any (x.tube.map Iv.c), .slice .any (x.to.map Iv.c), .int .i64 r.t, .int .i64 r.h, .slice .any (r.frm.map Iv.c), .slice .any (r.pre.map Iv.c), .slice .any (r.tube.map Iv.c), .slice .any (r.to.map Iv.c), .int .i64 (if r.t > x.t then r.t else x.t), .int .i64 (if r.fin < x.fin then r.fin else x.fin)]] [.cells [.slice .any (a.map Seg.c)], .cells [.slice .any (b.map Seg.c)], .cells [.int .i64 ((pos : Nat) : Int), .int .i64 d], .cells [.int .i64 s.r], .cells [.slice .any (a.map Seg.c)], .cells [.slice .any (b.map Seg.c)], .cells [.int .i64 ((pos : Nat) : Int), .int .i64 d], .loop s.l, .cells [.fn (.yield 7) [] []], .cells [.slice .any (a.map Seg.c)], .cells [.slice .any (b.map Seg.c)], .loop s.m] = some (.bool (step s (x, r)).2, [.cells [.slice .any (a.map Seg.c)], .cells [.slice .any (b.map Seg.c)], .cells [.int .i64 ((pos : Nat) : Int), .int .i64 d], .cells [.int .i64 (step s (x, r)).1.r], .cells [.slice .any (a.map Seg.c)], .cells [.slice .any (b.map Seg.c)], .cells [.int .i64 ((pos : Nat) : Int), .int .i64 d], .loop (step s (x, r)).1.l, .cells [.fn (.yield 7) [] []], .cells [.slice .any (a.map Seg.c)], .cells [.slice .any (b.map Seg.c)], .loop (step s (x, r)).1.m]) ∧ ((step s (x, r)).2 = true → Inv l (step s (x, r)).1)) (x : Seg) (hx : x ∈ a) (first i : Nat) (rest : List (Seg × Seg)) :
    ∀ (k : List Seg) (j : Nat) (s : CD), (b.drop first).drop j = k → j ≤ (b.drop first).length → Inv (((meetB x.fin k).map fun r => (x, r)) ++ rest) s →
    ∃ e j', iterW (roundK G20 L20 (CW G20 L20) 66 none 7) ⟨(sp 0 63 [(0, .fn (.yield 11) [] []), (2, .ptr 10 0), (4, .int .i64 ((first : Nat) : Int)), (6, .box [.int .i64 x.t, .int .i64 x.h, .slice .any (x.frm.map Iv.c), .slice .any (x.pre.map Iv.c), .slice .any (x.tube.map Iv.c), .slice .any (x.to.map Iv.c)]), (9, .slice .any (a.map Seg.c)), (10, .int .i64 ((a.length : Nat) : Int)), (11, .int .i64 ((i : Nat) : Int)), (33, .slice .any ((b.drop first).map Seg.c)), (34, .int .i64 (((b.drop first).length : Nat) : Int)), (35, .int .i64 ((j : Nat) : Int))]), [.cells [.slice .any (a.map Seg.c)], .cells [.slice .any (b.map Seg.c)], .cells [.int .i64 ((pos : Nat) : Int), .int .i64 d], .cells [.int .i64 s.r], .cells [.slice .any (a.map Seg.c)], .cells [.slice .any (b.map Seg.c)], .cells [.int .i64 ((pos : Nat) : Int), .int .i64 d], .loop s.l, .cells [.fn (.yield 7) [] []], .cells [.slice .any (a.map Seg.c)], .cells [.slice .any (b.map Seg.c)], .loop s.m]⟩ = some (e, ⟨(sp 0 63 [(0, .fn (.yield 11) [] []), (2, .ptr 10 0), (4, .int .i64 ((first : Nat) : Int)), (6, .box [.int .i64 x.t, .int .i64 x.h, .slice .any (x.frm.map Iv.c), .slice .any (x.pre.map Iv.c), .slice .any (x.tube.map Iv.c), .slice .any (x.to.map Iv.c)]), (9, .slice .any (a.map Seg.c)), (10, .int .i64 ((a.length : Nat) : Int)), (11, .int .i64 ((i : Nat) : Int)), (33, .slice .any ((b.drop first).map Seg.c)), (34, .int .i64 (((b.drop first).length : Nat) : Int)), (35, .int .i64 ((j' : Nat) : Int))]), [.cells [.slice .any (a.map Seg.c)], .cells [.slice .any (b.map Seg.c)], .cells [.int .i64 ((pos : Nat) : Int), .int .i64 d], .cells [.int .i64 (runP step s ((meetB x.fin k).map fun r => (x, r))).1.r], .cells [.slice .any (a.map Seg.c)], .cells [.slice .any (b.map Seg.c)], .cells [.int .i64 ((pos : Nat) : Int), .int .i64 d], .loop (runP step s ((meetB x.fin k).map fun r => (x, r))).1.l, .cells [.fn (.yield 7) [] []], .cells [.slice .any (a.map Seg.c)], .cells [.slice .any (b.map Seg.c)], .loop (runP step s ((meetB x.fin k).map fun r => (x, r))).1.m]⟩) ∧ ((runP step s ((meetB x.fin k).map fun r => (x, r))).2 = true → e = .exit 4 ∨ e = .exit 1) ∧ ((runP step s ((meetB x.fin k).map fun r => (x, r))).2 = false → e = .ret) ∧ ((runP step s ((meetB x.fin k).map fun r => (x, r))).2 = true → Inv rest (runP step s ((meetB x.fin k).map fun r => (x, r))).1) := by
  have hxo := ha x hx
  have hlen : (b.drop first).length ≤ 1000000 := by rw [List.length_drop]; omega
  intro k
  induction k with
  | nil =>
    intro j s hk hj hI
    have hjl : j = (b.drop first).length := by have := List.drop_eq_nil_iff.1 hk; omega
    subst hjl
    refine ⟨.exit 4, (b.drop first).length, ?_, fun _ => .inl rfl, (fun h => by cases h), fun _ => hI⟩
    rw [iterW_eq]
    simp only [e66_7_v1, lt_decn, cond_false, meetB, List.takeWhile_nil, List.map_nil, runP]
  | cons r k ih =>
    intro j s hk hj hI
    have hil : j < (b.drop first).length := by
      apply Nat.lt_of_not_le
      intro hle
      rw [List.drop_eq_nil_iff.2 hle] at hk; cases hk
    have hd := List.drop_eq_getElem_cons hil
    rw [hk] at hd
    injection hd with hr hk'
    have hrm : r ∈ b := by rw [hr]; exact List.mem_of_mem_drop (List.getElem_mem hil)
    rw [iterW_eq]
    by_cases hc : r.t > x.fin
    · have hm : meetB x.fin (r :: k) = [] := by simp [meetB, hc]
      rw [hm] at hI ⊢
      refine ⟨.exit 1, j, ?_, fun _ => .inr rfl, (fun h => by cases h), fun _ => hI⟩
      simp only [e66_7_v1, lt_dec hil, getS _ j hil, ← hr, asInt_i, asBool_i, asRows_i, asCells_i, asTuple_i, asBox_i, asObCells_i, asLoop_i, uncons_i, unconsO_i, isNil_i, asPtr_i, asFn_f, asFn_y, asArr_i, asObArr_t, asObArr_f, isReady_i, isBusy_i, uncons_c, uncons_sc, arrRows_i, Option.bind_some, Option.bind_none, cond_true, cond_false, cond_dec, cond_not, p37 x hxo, hc, if_true, List.map_nil, runP]
    · have hm : meetB x.fin (r :: k) = r :: meetB x.fin k := by simp [meetB, hc]
      have hI2 := hI
      rw [hm] at hI2
      obtain ⟨y1, y2⟩ := hy x r (((meetB x.fin k).map fun r => (x, r)) ++ rest) s hx hrm hI2
      cases hst : (step s (x, r)).2 with
      | true =>
        obtain ⟨e, j', g1, g2, g3, g4⟩ := ih (j + 1) (step s (x, r)).1 hk'.symm (by omega) (y2 hst)
        have hrun : runP step s ((meetB x.fin (r :: k)).map fun r => (x, r)) = runP step (step s (x, r)).1 ((meetB x.fin k).map fun r => (x, r)) := by rw [hm]; simp only [List.map_cons, runP, hst]
        rw [hrun]
        refine ⟨e, j', ?_, g2, g3, g4⟩
        rw [hst] at y1
        simp only [e66_7_v1, lt_dec hil, getS _ j hil, ← hr, asInt_i, asBool_i, asRows_i, asCells_i, asTuple_i, asBox_i, asObCells_i, asLoop_i, uncons_i, unconsO_i, isNil_i, asPtr_i, asFn_f, asFn_y, asArr_i, asObArr_t, asObArr_f, isReady_i, isBusy_i, uncons_c, uncons_sc, arrRows_i, Option.bind_some, Option.bind_none, cond_true, cond_false, cond_dec, cond_not, p37 x hxo, p37 r (hb r hrm), hc, if_false, y1, Bool.not_true, wsucc j (by omega)]
        exact g1
      | false =>
        have hrun : runP step s ((meetB x.fin (r :: k)).map fun r => (x, r)) = ((step s (x, r)).1, false) := by rw [hm]; simp only [List.map_cons, runP, hst]
        rw [hrun]
        rw [hst] at y1
        refine ⟨.ret, j, ?_, (fun h => by cases h), fun _ => rfl, fun h => by cases h⟩
        simp only [e66_7_v1, lt_dec hil, getS _ j hil, ← hr, asInt_i, asBool_i, asRows_i, asCells_i, asTuple_i, asBox_i, asObCells_i, asLoop_i, uncons_i, unconsO_i, isNil_i, asPtr_i, asFn_f, asFn_y, asArr_i, asObArr_t, asObArr_f, isReady_i, isBusy_i, uncons_c, uncons_sc, arrRows_i, Option.bind_some, Option.bind_none, cond_true, cond_false, cond_dec, cond_not, p37 x hxo, p37 r (hb r hrm), hc, if_false, y1, Bool.not_false]

theorem ov18_4 (pos : Nat) (d : Int) (a b : List Seg) (hb : oks b) (hB : b.length ≤ 1000000) (x : Seg) (i : Nat) (s : CD) :
    ∀ (k : List Seg) (first : Nat), b.drop first = k → first ≤ b.length →
    iterW (roundK G20 L20 (CW G20 L20) 66 none 4) ⟨(sp 0 63 [(0, .fn (.yield 11) [] []), (2, .ptr 10 0), (4, .int .i64 ((first : Nat) : Int)), (6, .box [.int .i64 x.t, .int .i64 x.h, .slice .any (x.frm.map Iv.c), .slice .any (x.pre.map Iv.c), .slice .any (x.tube.map Iv.c), .slice .any (x.to.map Iv.c)]), (9, .slice .any (a.map Seg.c)), (10, .int .i64 ((a.length : Nat) : Int)), (11, .int .i64 ((i : Nat) : Int))]), [.cells [.slice .any (a.map Seg.c)], .cells [.slice .any (b.map Seg.c)], .cells [.int .i64 ((pos : Nat) : Int), .int .i64 d], .cells [.int .i64 s.r], .cells [.slice .any (a.map Seg.c)], .cells [.slice .any (b.map Seg.c)], .cells [.int .i64 ((pos : Nat) : Int), .int .i64 d], .loop s.l, .cells [.fn (.yield 7) [] []], .cells [.slice .any (a.map Seg.c)], .cells [.slice .any (b.map Seg.c)], .loop s.m]⟩ = some (.exit 2, ⟨(sp 0 63 [(0, .fn (.yield 11) [] []), (2, .ptr 10 0), (4, .int .i64 (((b.length - (skipB x.t k).length) : Nat) : Int)), (6, .box [.int .i64 x.t, .int .i64 x.h, .slice .any (x.frm.map Iv.c), .slice .any (x.pre.map Iv.c), .slice .any (x.tube.map Iv.c), .slice .any (x.to.map Iv.c)]), (9, .slice .any (a.map Seg.c)), (10, .int .i64 ((a.length : Nat) : Int)), (11, .int .i64 ((i : Nat) : Int))]), [.cells [.slice .any (a.map Seg.c)], .cells [.slice .any (b.map Seg.c)], .cells [.int .i64 ((pos : Nat) : Int), .int .i64 d], .cells [.int .i64 s.r], .cells [.slice .any (a.map Seg.c)], .cells [.slice .any (b.map Seg.c)], .cells [.int .i64 ((pos : Nat) : Int), .int .i64 d], .loop s.l, .cells [.fn (.yield 7) [] []], .cells [.slice .any (a.map Seg.c)], .cells [.slice .any (b.map Seg.c)], .loop s.m]⟩) := by
  intro k
  induction k with
  | nil =>
    intro first hk hf
    have hjl : first = b.length := by have := List.drop_eq_nil_iff.1 hk; omega
    subst hjl
    rw [iterW_eq]
    simp only [e66_4_v1, List.length_map, lt_decn, cond_false, skipB, List.dropWhile_nil, List.length_nil, Nat.sub_zero]
  | cons r k ih =>
    intro first hk hf
    have hil : first < b.length := by
      apply Nat.lt_of_not_le
      intro hle
      rw [List.drop_eq_nil_iff.2 hle] at hk; cases hk
    have hd := List.drop_eq_getElem_cons hil
    have hlk : (b.drop first).length = (r :: k).length := by rw [hk]
    rw [hk] at hd
    injection hd with hr hk'
    have hrm : r ∈ b := by rw [hr]; exact List.getElem_mem hil
    rw [iterW_eq]
    by_cases hc : r.fin < x.t
    · have hs : skipB x.t (r :: k) = skipB x.t k := by simp [skipB, hc]
      rw [hs]
      simp only [e66_4_v1, List.length_map, lt_dec hil, getS _ first hil, ← hr, asInt_i, asBool_i, asRows_i, asCells_i, asTuple_i, asBox_i, asObCells_i, asLoop_i, uncons_i, unconsO_i, isNil_i, asPtr_i, asFn_f, asFn_y, asArr_i, asObArr_t, asObArr_f, isReady_i, isBusy_i, uncons_c, uncons_sc, arrRows_i, Option.bind_some, Option.bind_none, cond_true, cond_false, cond_dec, cond_not, p37 r (hb r hrm), hc, if_true, wsucc first (by omega)]
      exact ih (first + 1) hk'.symm hil
    · have hs : skipB x.t (r :: k) = r :: k := by simp [skipB, hc]
      have he : b.length - (skipB x.t (r :: k)).length = first := by rw [hs, ← hlk, List.length_drop]; omega
      rw [he]
      simp only [e66_4_v1, List.length_map, lt_dec hil, getS _ first hil, ← hr, asInt_i, asBool_i, asRows_i, asCells_i, asTuple_i, asBox_i, asObCells_i, asLoop_i, uncons_i, unconsO_i, isNil_i, asPtr_i, asFn_f, asFn_y, asArr_i, asObArr_t, asObArr_f, isReady_i, isBusy_i, uncons_c, uncons_sc, arrRows_i, Option.bind_some, Option.bind_none, cond_true, cond_false, cond_dec, cond_not, p37 r (hb r hrm), hc, if_false]

set_option maxRecDepth 100000 in
theorem ov18_2 (pos : Nat) (d : Int) (a b : List Seg) (ha : oks a) (hb : oks b) (hA : a.length ≤ 1000000) (hB : b.length ≤ 1000000) (step : CD → Seg × Seg → CD × Bool) (Inv : List (Seg × Seg) → CD → Prop)
    (hy : ∀ (x r : Seg) (l : List (Seg × Seg)) (s : CD), x ∈ a → r ∈ b → Inv ((x, r) :: l) s → (CW G20 L20).s (.yield 11) [.agg [.int .i64 x.t, .int .i64 x.h, .slice .any (x.frm.map Iv.c), .slice .any (x.pre.map Iv.c), .slice .any (x.tube.map Iv.c), .slice .any (x.to.map Iv.c), .int .i64 r.t, .int .i64 r.h, .slice .any (r.frm.map Iv.c), .slice .any (r.pre.map Iv.c), .slice .any (r.tube.map Iv.c), .slice .any (r.to.map Iv.c), .int .i64 (if r.t > x.t then r.t else x.t), .int .i64 (if r.fin < x.fin then r.fin else x.fin)]] [.cells [.slice .any (a.map Seg.c)], .cells [.slice .any (b.map Seg.c)], .cells [.int .i64 ((pos : Nat) : Int), .int .i64 d], .cells [.int .i64 s.r], .cells [.slice .any (a.map Seg.c)], .cells [.slice .any (b.map Seg.c)], .cells [.int .i64 ((pos : Nat) : Int), .int .i64 d], .loop s.l, .cells [.fn (.yield 7) [] []], .cells [.slice .any (a.map Seg.c)], .cells [.slice .any (b.map Seg.c)], .loop s.m] = some (.bool (step s (x, r)).2, [.cells [.slice .any (a.map Seg.c)], .cells [.slice .any (b.map Seg.c)], .cells [.int .i64 ((pos : Nat) : Int), .int .i64 d], .cells [.int .i64 (step s (x, r)).1.r], .cells [.slice .any (a.map Seg.c)], .cells [.slice .any (b.map Seg.c)], .cells [.int .i64 ((pos : Nat) : Int), .int .i64 d], .loop (step s (x, r)).1.l, .cells [.fn (.yield 7) [] []], .cells [.slice .any (a.map Seg.c)], .cells [.slice .any (b.map Seg.c)], .loop (step s (x, r)).1.m]) ∧ ((step s (x, r)).2 = true → Inv l (step s (x, r)).1)) :
    ∀ (k : List Seg) (i first : Nat) (s : CD), a.drop i = k → i ≤ a.length → first ≤ b.length → Inv (pairsOf k (b.drop first)) s →
    ∃ e i' f', iterW (roundK G20 L20 (CW G20 L20) 66 none 2) ⟨(sp 0 63 [(0, .fn (.yield 11) [] []), (2, .ptr 10 0), (4, .int .i64 ((first : Nat) : Int)), (9, .slice .any (a.map Seg.c)), (10, .int .i64 ((a.length : Nat) : Int)), (11, .int .i64 ((i : Nat) : Int))]), [.cells [.slice .any (a.map Seg.c)], .cells [.slice .any (b.map Seg.c)], .cells [.int .i64 ((pos : Nat) : Int), .int .i64 d], .cells [.int .i64 s.r], .cells [.slice .any (a.map Seg.c)], .cells [.slice .any (b.map Seg.c)], .cells [.int .i64 ((pos : Nat) : Int), .int .i64 d], .loop s.l, .cells [.fn (.yield 7) [] []], .cells [.slice .any (a.map Seg.c)], .cells [.slice .any (b.map Seg.c)], .loop s.m]⟩ = some (e, ⟨(sp 0 63 [(0, .fn (.yield 11) [] []), (2, .ptr 10 0), (4, .int .i64 ((f' : Nat) : Int)), (9, .slice .any (a.map Seg.c)), (10, .int .i64 ((a.length : Nat) : Int)), (11, .int .i64 ((i' : Nat) : Int))]), [.cells [.slice .any (a.map Seg.c)], .cells [.slice .any (b.map Seg.c)], .cells [.int .i64 ((pos : Nat) : Int), .int .i64 d], .cells [.int .i64 (runP step s (pairsOf k (b.drop first))).1.r], .cells [.slice .any (a.map Seg.c)], .cells [.slice .any (b.map Seg.c)], .cells [.int .i64 ((pos : Nat) : Int), .int .i64 d], .loop (runP step s (pairsOf k (b.drop first))).1.l, .cells [.fn (.yield 7) [] []], .cells [.slice .any (a.map Seg.c)], .cells [.slice .any (b.map Seg.c)], .loop (runP step s (pairsOf k (b.drop first))).1.m]⟩) ∧ ((runP step s (pairsOf k (b.drop first))).2 = true → e = .exit 0) ∧ ((runP step s (pairsOf k (b.drop first))).2 = false → e = .ret) ∧ ((runP step s (pairsOf k (b.drop first))).2 = true → Inv [] (runP step s (pairsOf k (b.drop first))).1) := by
  intro k
  induction k with
  | nil =>
    intro i first s hk hj hf hI
    have hjl : i = a.length := by have := List.drop_eq_nil_iff.1 hk; omega
    subst hjl
    refine ⟨.exit 0, a.length, first, ?_, fun _ => rfl, (fun h => by cases h), fun _ => hI⟩
    rw [iterW_eq]
    rw [e66_2_v1]
    simp only [lt_decn, cond_false, pairsOf, runP]
  | cons x k ih =>
    intro i first s hk hj hf hI
    have hil : i < a.length := by
      apply Nat.lt_of_not_le
      intro hle
      rw [List.drop_eq_nil_iff.2 hle] at hk; cases hk
    have hd := List.drop_eq_getElem_cons hil
    rw [hk] at hd
    injection hd with hr hk'
    have hxm : x ∈ a := by rw [hr]; exact List.getElem_mem hil
    have h4 := ov18_4 pos d a b hb hB x i s (b.drop first) first rfl hf
    have hdr := drop_skip hf x.t
    generalize hnf : b.length - (skipB x.t (b.drop first)).length = nf at h4 hdr
    have hnl : nf ≤ b.length := by omega
    have hpo : pairsOf (x :: k) (b.drop first) = (meetB x.fin (b.drop nf)).map (fun r => (x, r)) ++ pairsOf k (b.drop nf) := by simp only [pairsOf, hdr]
    rw [hpo] at hI
    obtain ⟨e, j', g1, g2, g3, g4⟩ := ov18_7 pos d a b ha hb hA hB step Inv hy x hxm nf i (pairsOf k (b.drop nf)) (b.drop nf) 0 s rfl (Nat.zero_le _) hI
    rw [hpo, runP_append]
    generalize hrn : runP step s ((meetB x.fin (b.drop nf)).map fun r => (x, r)) = rn at g1 g2 g3 g4
    obtain ⟨s', go⟩ := rn
    simp only at g1 g2 g3 g4
    have hz : ((0 : Nat) : Int) = 0 := rfl
    rw [hz] at g1
    have hnn : (0 : Int) ≤ (nf : Int) := Int.natCast_nonneg nf
    have n7_0 : nth (sp 0 63 [(0, .fn (.yield 11) [] []), (2, .ptr 10 0), (4, .int .i64 ((nf : Nat) : Int)), (6, .box [.int .i64 x.t, .int .i64 x.h, .slice .any (x.frm.map Iv.c), .slice .any (x.pre.map Iv.c), .slice .any (x.tube.map Iv.c), .slice .any (x.to.map Iv.c)]), (9, .slice .any (a.map Seg.c)), (10, .int .i64 ((a.length : Nat) : Int)), (11, .int .i64 ((i : Nat) : Int))]) 0 = .fn (.yield 11) [] [] := rfl
    have n7_2 : nth (sp 0 63 [(0, .fn (.yield 11) [] []), (2, .ptr 10 0), (4, .int .i64 ((nf : Nat) : Int)), (6, .box [.int .i64 x.t, .int .i64 x.h, .slice .any (x.frm.map Iv.c), .slice .any (x.pre.map Iv.c), .slice .any (x.tube.map Iv.c), .slice .any (x.to.map Iv.c)]), (9, .slice .any (a.map Seg.c)), (10, .int .i64 ((a.length : Nat) : Int)), (11, .int .i64 ((i : Nat) : Int))]) 2 = .ptr 10 0 := rfl
    have n7_4 : nth (sp 0 63 [(0, .fn (.yield 11) [] []), (2, .ptr 10 0), (4, .int .i64 ((nf : Nat) : Int)), (6, .box [.int .i64 x.t, .int .i64 x.h, .slice .any (x.frm.map Iv.c), .slice .any (x.pre.map Iv.c), .slice .any (x.tube.map Iv.c), .slice .any (x.to.map Iv.c)]), (9, .slice .any (a.map Seg.c)), (10, .int .i64 ((a.length : Nat) : Int)), (11, .int .i64 ((i : Nat) : Int))]) 4 = .int .i64 ((nf : Nat) : Int) := rfl
    have n7_6 : nth (sp 0 63 [(0, .fn (.yield 11) [] []), (2, .ptr 10 0), (4, .int .i64 ((nf : Nat) : Int)), (6, .box [.int .i64 x.t, .int .i64 x.h, .slice .any (x.frm.map Iv.c), .slice .any (x.pre.map Iv.c), .slice .any (x.tube.map Iv.c), .slice .any (x.to.map Iv.c)]), (9, .slice .any (a.map Seg.c)), (10, .int .i64 ((a.length : Nat) : Int)), (11, .int .i64 ((i : Nat) : Int))]) 6 = .box [.int .i64 x.t, .int .i64 x.h, .slice .any (x.frm.map Iv.c), .slice .any (x.pre.map Iv.c), .slice .any (x.tube.map Iv.c), .slice .any (x.to.map Iv.c)] := rfl
    have n7_9 : nth (sp 0 63 [(0, .fn (.yield 11) [] []), (2, .ptr 10 0), (4, .int .i64 ((nf : Nat) : Int)), (6, .box [.int .i64 x.t, .int .i64 x.h, .slice .any (x.frm.map Iv.c), .slice .any (x.pre.map Iv.c), .slice .any (x.tube.map Iv.c), .slice .any (x.to.map Iv.c)]), (9, .slice .any (a.map Seg.c)), (10, .int .i64 ((a.length : Nat) : Int)), (11, .int .i64 ((i : Nat) : Int))]) 9 = .slice .any (a.map Seg.c) := rfl
    have n7_10 : nth (sp 0 63 [(0, .fn (.yield 11) [] []), (2, .ptr 10 0), (4, .int .i64 ((nf : Nat) : Int)), (6, .box [.int .i64 x.t, .int .i64 x.h, .slice .any (x.frm.map Iv.c), .slice .any (x.pre.map Iv.c), .slice .any (x.tube.map Iv.c), .slice .any (x.to.map Iv.c)]), (9, .slice .any (a.map Seg.c)), (10, .int .i64 ((a.length : Nat) : Int)), (11, .int .i64 ((i : Nat) : Int))]) 10 = .int .i64 ((a.length : Nat) : Int) := rfl
    have n7_11 : nth (sp 0 63 [(0, .fn (.yield 11) [] []), (2, .ptr 10 0), (4, .int .i64 ((nf : Nat) : Int)), (6, .box [.int .i64 x.t, .int .i64 x.h, .slice .any (x.frm.map Iv.c), .slice .any (x.pre.map Iv.c), .slice .any (x.tube.map Iv.c), .slice .any (x.to.map Iv.c)]), (9, .slice .any (a.map Seg.c)), (10, .int .i64 ((a.length : Nat) : Int)), (11, .int .i64 ((i : Nat) : Int))]) 11 = .int .i64 ((i : Nat) : Int) := rfl
    have n10_0 : nth (sp 0 63 [(0, .fn (.yield 11) [] []), (2, .ptr 10 0), (4, .int .i64 ((nf : Nat) : Int)), (6, .box [.int .i64 x.t, .int .i64 x.h, .slice .any (x.frm.map Iv.c), .slice .any (x.pre.map Iv.c), .slice .any (x.tube.map Iv.c), .slice .any (x.to.map Iv.c)]), (9, .slice .any (a.map Seg.c)), (10, .int .i64 ((a.length : Nat) : Int)), (11, .int .i64 ((i : Nat) : Int)), (33, .slice .any ((b.drop nf).map Seg.c)), (34, .int .i64 (((b.drop nf).length : Nat) : Int)), (35, .int .i64 ((j' : Nat) : Int))]) 0 = .fn (.yield 11) [] [] := rfl
    have n10_2 : nth (sp 0 63 [(0, .fn (.yield 11) [] []), (2, .ptr 10 0), (4, .int .i64 ((nf : Nat) : Int)), (6, .box [.int .i64 x.t, .int .i64 x.h, .slice .any (x.frm.map Iv.c), .slice .any (x.pre.map Iv.c), .slice .any (x.tube.map Iv.c), .slice .any (x.to.map Iv.c)]), (9, .slice .any (a.map Seg.c)), (10, .int .i64 ((a.length : Nat) : Int)), (11, .int .i64 ((i : Nat) : Int)), (33, .slice .any ((b.drop nf).map Seg.c)), (34, .int .i64 (((b.drop nf).length : Nat) : Int)), (35, .int .i64 ((j' : Nat) : Int))]) 2 = .ptr 10 0 := rfl
    have n10_4 : nth (sp 0 63 [(0, .fn (.yield 11) [] []), (2, .ptr 10 0), (4, .int .i64 ((nf : Nat) : Int)), (6, .box [.int .i64 x.t, .int .i64 x.h, .slice .any (x.frm.map Iv.c), .slice .any (x.pre.map Iv.c), .slice .any (x.tube.map Iv.c), .slice .any (x.to.map Iv.c)]), (9, .slice .any (a.map Seg.c)), (10, .int .i64 ((a.length : Nat) : Int)), (11, .int .i64 ((i : Nat) : Int)), (33, .slice .any ((b.drop nf).map Seg.c)), (34, .int .i64 (((b.drop nf).length : Nat) : Int)), (35, .int .i64 ((j' : Nat) : Int))]) 4 = .int .i64 ((nf : Nat) : Int) := rfl
    have n10_6 : nth (sp 0 63 [(0, .fn (.yield 11) [] []), (2, .ptr 10 0), (4, .int .i64 ((nf : Nat) : Int)), (6, .box [.int .i64 x.t, .int .i64 x.h, .slice .any (x.frm.map Iv.c), .slice .any (x.pre.map Iv.c), .slice .any (x.tube.map Iv.c), .slice .any (x.to.map Iv.c)]), (9, .slice .any (a.map Seg.c)), (10, .int .i64 ((a.length : Nat) : Int)), (11, .int .i64 ((i : Nat) : Int)), (33, .slice .any ((b.drop nf).map Seg.c)), (34, .int .i64 (((b.drop nf).length : Nat) : Int)), (35, .int .i64 ((j' : Nat) : Int))]) 6 = .box [.int .i64 x.t, .int .i64 x.h, .slice .any (x.frm.map Iv.c), .slice .any (x.pre.map Iv.c), .slice .any (x.tube.map Iv.c), .slice .any (x.to.map Iv.c)] := rfl
    have n10_9 : nth (sp 0 63 [(0, .fn (.yield 11) [] []), (2, .ptr 10 0), (4, .int .i64 ((nf : Nat) : Int)), (6, .box [.int .i64 x.t, .int .i64 x.h, .slice .any (x.frm.map Iv.c), .slice .any (x.pre.map Iv.c), .slice .any (x.tube.map Iv.c), .slice .any (x.to.map Iv.c)]), (9, .slice .any (a.map Seg.c)), (10, .int .i64 ((a.length : Nat) : Int)), (11, .int .i64 ((i : Nat) : Int)), (33, .slice .any ((b.drop nf).map Seg.c)), (34, .int .i64 (((b.drop nf).length : Nat) : Int)), (35, .int .i64 ((j' : Nat) : Int))]) 9 = .slice .any (a.map Seg.c) := rfl
    have n10_10 : nth (sp 0 63 [(0, .fn (.yield 11) [] []), (2, .ptr 10 0), (4, .int .i64 ((nf : Nat) : Int)), (6, .box [.int .i64 x.t, .int .i64 x.h, .slice .any (x.frm.map Iv.c), .slice .any (x.pre.map Iv.c), .slice .any (x.tube.map Iv.c), .slice .any (x.to.map Iv.c)]), (9, .slice .any (a.map Seg.c)), (10, .int .i64 ((a.length : Nat) : Int)), (11, .int .i64 ((i : Nat) : Int)), (33, .slice .any ((b.drop nf).map Seg.c)), (34, .int .i64 (((b.drop nf).length : Nat) : Int)), (35, .int .i64 ((j' : Nat) : Int))]) 10 = .int .i64 ((a.length : Nat) : Int) := rfl
    have n10_11 : nth (sp 0 63 [(0, .fn (.yield 11) [] []), (2, .ptr 10 0), (4, .int .i64 ((nf : Nat) : Int)), (6, .box [.int .i64 x.t, .int .i64 x.h, .slice .any (x.frm.map Iv.c), .slice .any (x.pre.map Iv.c), .slice .any (x.tube.map Iv.c), .slice .any (x.to.map Iv.c)]), (9, .slice .any (a.map Seg.c)), (10, .int .i64 ((a.length : Nat) : Int)), (11, .int .i64 ((i : Nat) : Int)), (33, .slice .any ((b.drop nf).map Seg.c)), (34, .int .i64 (((b.drop nf).length : Nat) : Int)), (35, .int .i64 ((j' : Nat) : Int))]) 11 = .int .i64 ((i : Nat) : Int) := rfl
    have n10_33 : nth (sp 0 63 [(0, .fn (.yield 11) [] []), (2, .ptr 10 0), (4, .int .i64 ((nf : Nat) : Int)), (6, .box [.int .i64 x.t, .int .i64 x.h, .slice .any (x.frm.map Iv.c), .slice .any (x.pre.map Iv.c), .slice .any (x.tube.map Iv.c), .slice .any (x.to.map Iv.c)]), (9, .slice .any (a.map Seg.c)), (10, .int .i64 ((a.length : Nat) : Int)), (11, .int .i64 ((i : Nat) : Int)), (33, .slice .any ((b.drop nf).map Seg.c)), (34, .int .i64 (((b.drop nf).length : Nat) : Int)), (35, .int .i64 ((j' : Nat) : Int))]) 33 = .slice .any ((b.drop nf).map Seg.c) := rfl
    have n10_34 : nth (sp 0 63 [(0, .fn (.yield 11) [] []), (2, .ptr 10 0), (4, .int .i64 ((nf : Nat) : Int)), (6, .box [.int .i64 x.t, .int .i64 x.h, .slice .any (x.frm.map Iv.c), .slice .any (x.pre.map Iv.c), .slice .any (x.tube.map Iv.c), .slice .any (x.to.map Iv.c)]), (9, .slice .any (a.map Seg.c)), (10, .int .i64 ((a.length : Nat) : Int)), (11, .int .i64 ((i : Nat) : Int)), (33, .slice .any ((b.drop nf).map Seg.c)), (34, .int .i64 (((b.drop nf).length : Nat) : Int)), (35, .int .i64 ((j' : Nat) : Int))]) 34 = .int .i64 (((b.drop nf).length : Nat) : Int) := rfl
    have n10_35 : nth (sp 0 63 [(0, .fn (.yield 11) [] []), (2, .ptr 10 0), (4, .int .i64 ((nf : Nat) : Int)), (6, .box [.int .i64 x.t, .int .i64 x.h, .slice .any (x.frm.map Iv.c), .slice .any (x.pre.map Iv.c), .slice .any (x.tube.map Iv.c), .slice .any (x.to.map Iv.c)]), (9, .slice .any (a.map Seg.c)), (10, .int .i64 ((a.length : Nat) : Int)), (11, .int .i64 ((i : Nat) : Int)), (33, .slice .any ((b.drop nf).map Seg.c)), (34, .int .i64 (((b.drop nf).length : Nat) : Int)), (35, .int .i64 ((j' : Nat) : Int))]) 35 = .int .i64 ((j' : Nat) : Int) := rfl
    rw [iterW_eq]
    cases go with
    | true =>
      obtain ⟨e2, i', f', k1, k2, k3, k4⟩ := ih (i + 1) nf s' hk'.symm hil hnl (g4 rfl)
      simp only
      refine ⟨e2, i', f', ?_, k2, k3, k4⟩
      rcases g2 rfl with rfl | rfl
      · rw [e66_2_v1]
        simp only [lt_dec hil, getS _ i hil, ← hr, asInt_i, asBool_i, asRows_i, asCells_i, asTuple_i, asBox_i, asObCells_i, asLoop_i, uncons_i, unconsO_i, isNil_i, asPtr_i, asFn_f, asFn_y, asArr_i, asObArr_t, asObArr_f, isReady_i, isBusy_i, uncons_c, uncons_sc, arrRows_i, Option.bind_some, Option.bind_none, cond_true, cond_false, cond_dec, cond_not, CW_w, h4, n7_0, n7_2, n7_4, n7_6, n7_9, n7_10, n7_11, Nat.beq_refl, headIs_map, hnn, hnl, if_true, Int.toNat_natCast, List.length_map, List.take_length, ← List.map_take, ← List.map_drop, g1, n10_0, n10_2, n10_4, n10_6, n10_9, n10_10, n10_11, n10_33, n10_34, n10_35, wsucc i (by omega)]
        exact k1
      · rw [e66_2_v1]
        simp only [lt_dec hil, getS _ i hil, ← hr, asInt_i, asBool_i, asRows_i, asCells_i, asTuple_i, asBox_i, asObCells_i, asLoop_i, uncons_i, unconsO_i, isNil_i, asPtr_i, asFn_f, asFn_y, asArr_i, asObArr_t, asObArr_f, isReady_i, isBusy_i, uncons_c, uncons_sc, arrRows_i, Option.bind_some, Option.bind_none, cond_true, cond_false, cond_dec, cond_not, CW_w, h4, n7_0, n7_2, n7_4, n7_6, n7_9, n7_10, n7_11, Nat.beq_refl, headIs_map, hnn, hnl, if_true, Int.toNat_natCast, List.length_map, List.take_length, ← List.map_take, ← List.map_drop, g1, n10_0, n10_2, n10_4, n10_6, n10_9, n10_10, n10_11, n10_33, n10_34, n10_35, wsucc i (by omega), show Nat.beq 1 4 = false from rfl]
        exact k1
    | false =>
      simp only
      refine ⟨.ret, i, nf, ?_, (fun h => by cases h), fun _ => rfl, fun h => by cases h⟩
      cases g3 rfl
      rw [e66_2_v1]
      simp only [lt_dec hil, getS _ i hil, ← hr, asInt_i, asBool_i, asRows_i, asCells_i, asTuple_i, asBox_i, asObCells_i, asLoop_i, uncons_i, unconsO_i, isNil_i, asPtr_i, asFn_f, asFn_y, asArr_i, asObArr_t, asObArr_f, isReady_i, isBusy_i, uncons_c, uncons_sc, arrRows_i, Option.bind_some, Option.bind_none, cond_true, cond_false, cond_dec, cond_not, CW_w, h4, n7_0, n7_2, n7_4, n7_6, n7_9, n7_10, n7_11, Nat.beq_refl, headIs_map, hnn, hnl, if_true, Int.toNat_natCast, List.length_map, List.take_length, ← List.map_take, ← List.map_drop, g1, n10_0, n10_2, n10_4, n10_6, n10_9, n10_10, n10_11, n10_33, n10_34, n10_35]

theorem ov18 (pos : Nat) (d : Int) (a b : List Seg) (ha : oks a) (hb : oks b) (hA : a.length ≤ 1000000) (hB : b.length ≤ 1000000) (step : CD → Seg × Seg → CD × Bool) (Inv : List (Seg × Seg) → CD → Prop)
    (hy : ∀ (x r : Seg) (l : List (Seg × Seg)) (s : CD), x ∈ a → r ∈ b → Inv ((x, r) :: l) s → (CW G20 L20).s (.yield 11) [.agg [.int .i64 x.t, .int .i64 x.h, .slice .any (x.frm.map Iv.c), .slice .any (x.pre.map Iv.c), .slice .any (x.tube.map Iv.c), .slice .any (x.to.map Iv.c), .int .i64 r.t, .int .i64 r.h, .slice .any (r.frm.map Iv.c), .slice .any (r.pre.map Iv.c), .slice .any (r.tube.map Iv.c), .slice .any (r.to.map Iv.c), .int .i64 (if r.t > x.t then r.t else x.t), .int .i64 (if r.fin < x.fin then r.fin else x.fin)]] [.cells [.slice .any (a.map Seg.c)], .cells [.slice .any (b.map Seg.c)], .cells [.int .i64 ((pos : Nat) : Int), .int .i64 d], .cells [.int .i64 s.r], .cells [.slice .any (a.map Seg.c)], .cells [.slice .any (b.map Seg.c)], .cells [.int .i64 ((pos : Nat) : Int), .int .i64 d], .loop s.l, .cells [.fn (.yield 7) [] []], .cells [.slice .any (a.map Seg.c)], .cells [.slice .any (b.map Seg.c)], .loop s.m] = some (.bool (step s (x, r)).2, [.cells [.slice .any (a.map Seg.c)], .cells [.slice .any (b.map Seg.c)], .cells [.int .i64 ((pos : Nat) : Int), .int .i64 d], .cells [.int .i64 (step s (x, r)).1.r], .cells [.slice .any (a.map Seg.c)], .cells [.slice .any (b.map Seg.c)], .cells [.int .i64 ((pos : Nat) : Int), .int .i64 d], .loop (step s (x, r)).1.l, .cells [.fn (.yield 7) [] []], .cells [.slice .any (a.map Seg.c)], .cells [.slice .any (b.map Seg.c)], .loop (step s (x, r)).1.m]) ∧ ((step s (x, r)).2 = true → Inv l (step s (x, r)).1)) (s : CD) (hI : Inv (pairsOf a b) s) :
    (CW G20 L20).s (.func 66) [.fn (.yield 11) [] [], .ptr 9 0, .ptr 10 0] [.cells [.slice .any (a.map Seg.c)], .cells [.slice .any (b.map Seg.c)], .cells [.int .i64 ((pos : Nat) : Int), .int .i64 d], .cells [.int .i64 s.r], .cells [.slice .any (a.map Seg.c)], .cells [.slice .any (b.map Seg.c)], .cells [.int .i64 ((pos : Nat) : Int), .int .i64 d], .loop s.l, .cells [.fn (.yield 7) [] []], .cells [.slice .any (a.map Seg.c)], .cells [.slice .any (b.map Seg.c)], .loop s.m] = some (.tuple [], [.cells [.slice .any (a.map Seg.c)], .cells [.slice .any (b.map Seg.c)], .cells [.int .i64 ((pos : Nat) : Int), .int .i64 d], .cells [.int .i64 (runP step s (pairsOf a b)).1.r], .cells [.slice .any (a.map Seg.c)], .cells [.slice .any (b.map Seg.c)], .cells [.int .i64 ((pos : Nat) : Int), .int .i64 d], .loop (runP step s (pairsOf a b)).1.l, .cells [.fn (.yield 7) [] []], .cells [.slice .any (a.map Seg.c)], .cells [.slice .any (b.map Seg.c)], .loop (runP step s (pairsOf a b)).1.m]) ∧ ((runP step s (pairsOf a b)).2 = true → Inv [] (runP step s (pairsOf a b)).1) := by
  obtain ⟨e, i', f', g1, g2, g3, g4⟩ := ov18_2 pos d a b ha hb hA hB step Inv hy a 0 0 s rfl (Nat.zero_le _) (Nat.zero_le _) hI
  rw [List.drop_zero] at g1 g2 g3 g4
  refine ⟨CW_run ?_, g4⟩
  generalize runP step s (pairsOf a b) = rn at g1 g2 g3 g4
  obtain ⟨s', go⟩ := rn
  rw [s66_v1, CW_w, List.length_map]
  refine (bind_via g1 _).trans ?_
  cases go with
  | true => cases g2 rfl; kernel_rfl
  | false => cases g3 rfl; kernel_rfl

/-- Is a pair not separated? -/
def nears (pos : Nat) (d : Int) (p : Seg × Seg) : Bool := !sepd (p.1.tube.take pos) (p.2.tube.take pos) d
def verd (a b : List Seg) (pos : Nat) (d : Int) : Int := if (minD a b pos).1.isW = false ∧ (minD a b pos).1.hi < fl (d * d) then -1 else 0
def classP (a b : List Seg) (pos : Nat) (d : Int) : Int := cond ((pairsOf a b).any (nears pos d)) (verd a b pos d) 1
noncomputable def step18 (a b : List Seg) (pos : Nat) (d : Int) (s : CD) (p : Seg × Seg) : CD × Bool :=
  cond (nears pos d p) (⟨verd a b pos d, R18 a b pos d .done (some .ret), R73 a b .done (some .ret)⟩, false) (s, true)
theorem runP_any {σ : Type} (q : Seg × Seg → Bool) (t s : σ) : ∀ l : List (Seg × Seg), runP (fun s p => cond (q p) (t, false) (s, true)) s l = cond (l.any q) (t, false) (s, true) := by
  intro l
  induction l with
  | nil => rfl
  | cons p l ih =>
    simp only [runP, List.any_cons]
    cases q p with
    | true => rfl
    | false => simpa using ih
theorem p74_take (x r : Seg) (hx : x.ok) (hr : r.ok) (pos : Nat) (d : Int) (hd : small (d * d)) (h2 : pos ≤ x.tube.length) (h3 : pos ≤ r.tube.length) : (CW G20 L20).p (.func 74) [.slice .any ((x.tube.take pos).map Iv.c), .slice .any ((r.tube.take pos).map Iv.c), .int .i64 d] = some (.bool (sepd (x.tube.take pos) (r.tube.take pos) d)) :=
  p74 _ _ (by simp only [List.length_take]; omega) (valids_take hx.val _) (valids_take hr.val _) (few_take hx _) d hd
theorem p53_take (x r : Seg) (hx : x.ok) (hr : r.ok) (pos : Nat) (d : Int) (hd : small (d * d)) (h2 : pos ≤ x.tube.length) (h3 : pos ≤ r.tube.length) : (CW G20 L20).p (.func 53) [.slice .any ((x.tube.take pos).map Iv.c), .slice .any ((r.tube.take pos).map Iv.c), .int .i64 d] = some (.bool (sepd (x.tube.take pos) (r.tube.take pos) d)) :=
  p53 _ _ (by simp only [List.length_take]; omega) (valids_take hx.val _) (valids_take hr.val _) (few_take hx _) d hd
structure Fl2 (a b : List Seg) (pos : Nat) (d : Int) : Prop where
  ha : oks a
  hb : oks b
  hA : a.length ≤ 1000000
  hB : b.length ≤ 1000000
  hpos : long a pos ∧ long b pos
  hd : small (d * d)
set_option maxRecDepth 100000 in
/-- The body of Classify's range. -/
theorem h18_y {a b : List Seg} {pos : Nat} {d : Int} (F : Fl2 a b pos d) (r n0 n1 : Int) (l : LoopA) :
    (CW G20 L20).s (.yield 7) [.agg [.int .i64 n0, .int .i64 n1]] [.cells [.slice .any (a.map Seg.c)], .cells [.slice .any (b.map Seg.c)], .cells [.int .i64 ((pos : Nat) : Int), .int .i64 d], .cells [.int .i64 r], .cells [.slice .any (a.map Seg.c)], .cells [.slice .any (b.map Seg.c)], .cells [.int .i64 ((pos : Nat) : Int), .int .i64 d], .loop (R18 a b pos d .ready none), .cells [.fn (.yield 7) [] []], .cells [.slice .any (a.map Seg.c)], .cells [.slice .any (b.map Seg.c)], .loop l] = some (.bool false, [.cells [.slice .any (a.map Seg.c)], .cells [.slice .any (b.map Seg.c)], .cells [.int .i64 ((pos : Nat) : Int), .int .i64 d], .cells [.int .i64 (verd a b pos d)], .cells [.slice .any (a.map Seg.c)], .cells [.slice .any (b.map Seg.c)], .cells [.int .i64 ((pos : Nat) : Int), .int .i64 d], .loop (R18 a b pos d .done (some .ret)), .cells [.fn (.yield 7) [] []], .cells [.slice .any (a.map Seg.c)], .cells [.slice .any (b.map Seg.c)], .loop l]) := by
  refine CW_run ?_
  unfold R18
  rw [y18_2]
  simp only [p15 a b F.ha F.hb F.hA F.hB pos F.hpos, p45 _ _ F.hd, p46, asInt_i, asBool_i, asRows_i, asCells_i, asTuple_i, asBox_i, asObCells_i, asLoop_i, uncons_i, unconsO_i, isNil_i, asPtr_i, asFn_f, asFn_y, asArr_i, asObArr_t, asObArr_f, isReady_i, isBusy_i, uncons_c, uncons_sc, arrRows_i, Option.bind_some, Option.bind_none, cond_true, cond_false, cond_dec, cond_not, Iv.eta, verd]
  cases hw : (minD a b pos).1.isW with
  | true =>
    simp only [asInt_i, asBool_i, asRows_i, asCells_i, asTuple_i, asBox_i, asObCells_i, asLoop_i, uncons_i, unconsO_i, isNil_i, asPtr_i, asFn_f, asFn_y, asArr_i, asObArr_t, asObArr_f, isReady_i, isBusy_i, uncons_c, uncons_sc, arrRows_i, Option.bind_some, Option.bind_none, cond_true, cond_false, cond_dec, cond_not, Bool.not_true, Bool.true_eq_false, Bool.false_eq_true, false_and, if_false]
  | false =>
    simp only [asInt_i, asBool_i, asRows_i, asCells_i, asTuple_i, asBox_i, asObCells_i, asLoop_i, uncons_i, unconsO_i, isNil_i, asPtr_i, asFn_f, asFn_y, asArr_i, asObArr_t, asObArr_f, isReady_i, isBusy_i, uncons_c, uncons_sc, arrRows_i, Option.bind_some, Option.bind_none, cond_true, cond_false, cond_dec, cond_not, Bool.not_false, true_and]
    by_cases hc : (minD a b pos).1.hi < fl (d * d)
    · simp only [hc, if_true]
    · simp only [hc, if_false]
set_option maxRecDepth 100000 in
theorem h73_y {a b : List Seg} {pos : Nat} {d : Int} (F : Fl2 a b pos d) (x r : Seg) (s : CD) (hx : x.ok) (hr : r.ok) (h2 : pos ≤ x.tube.length) (h3 : pos ≤ r.tube.length) (hl : s.l = R18 a b pos d .ready none) (hm : s.m = R73 a b .ready none) :
    (CW G20 L20).s (.yield 11) [.agg [.int .i64 x.t, .int .i64 x.h, .slice .any (x.frm.map Iv.c), .slice .any (x.pre.map Iv.c), .slice .any (x.tube.map Iv.c), .slice .any (x.to.map Iv.c), .int .i64 r.t, .int .i64 r.h, .slice .any (r.frm.map Iv.c), .slice .any (r.pre.map Iv.c), .slice .any (r.tube.map Iv.c), .slice .any (r.to.map Iv.c), .int .i64 (if r.t > x.t then r.t else x.t), .int .i64 (if r.fin < x.fin then r.fin else x.fin)]] [.cells [.slice .any (a.map Seg.c)], .cells [.slice .any (b.map Seg.c)], .cells [.int .i64 ((pos : Nat) : Int), .int .i64 d], .cells [.int .i64 s.r], .cells [.slice .any (a.map Seg.c)], .cells [.slice .any (b.map Seg.c)], .cells [.int .i64 ((pos : Nat) : Int), .int .i64 d], .loop s.l, .cells [.fn (.yield 7) [] []], .cells [.slice .any (a.map Seg.c)], .cells [.slice .any (b.map Seg.c)], .loop s.m] = some (.bool (step18 a b pos d s (x, r)).2, [.cells [.slice .any (a.map Seg.c)], .cells [.slice .any (b.map Seg.c)], .cells [.int .i64 ((pos : Nat) : Int), .int .i64 d], .cells [.int .i64 (step18 a b pos d s (x, r)).1.r], .cells [.slice .any (a.map Seg.c)], .cells [.slice .any (b.map Seg.c)], .cells [.int .i64 ((pos : Nat) : Int), .int .i64 d], .loop (step18 a b pos d s (x, r)).1.l, .cells [.fn (.yield 7) [] []], .cells [.slice .any (a.map Seg.c)], .cells [.slice .any (b.map Seg.c)], .loop (step18 a b pos d s (x, r)).1.m]) := by
  refine CW_run ?_
  have h1 : (0 : Int) ≤ (pos : Int) := Int.natCast_nonneg pos
  obtain ⟨sr, sl, sm⟩ := s
  simp only at hl hm
  subst hl hm
  rw [show R73 a b .ready none = ⟨.ready, none, (R73 a b .ready none).t, 73, [9], rangeAssign GP 73 3, rangeBody GP 73 3⟩ from rfl]
  refine (y73_3 (CW G20 L20) _ _ _ _ _ _ _ _ _ _ _ _ _ _ _ _ _ _ _ _ _ _ _ _ _ _ _ _).trans ?_
  have hy := h18_y F sr (if r.t > x.t then r.t else x.t) (if r.fin < x.fin then r.fin else x.fin) ⟨.busy, none, (R73 a b .ready none).t, 73, [9], rangeAssign GP 73 3, rangeBody GP 73 3⟩
  unfold R73 at hy
  simp only [h1, h2, h3, if_true, Int.toNat_natCast, List.length_map, List.drop_zero, ← List.map_take, p74_take x r hx hr pos d F.hd h2 h3, asInt_i, asBool_i, asRows_i, asCells_i, asTuple_i, asBox_i, asObCells_i, asLoop_i, uncons_i, unconsO_i, isNil_i, asPtr_i, asFn_f, asFn_y, asArr_i, asObArr_t, asObArr_f, isReady_i, isBusy_i, uncons_c, uncons_sc, arrRows_i, Option.bind_some, Option.bind_none, cond_true, cond_false, cond_dec, cond_not, step18, nears]
  cases sepd (x.tube.take pos) (r.tube.take pos) d with
  | true => rfl
  | false =>
    refine (bind_via hy _).trans ?_
    kernel_rfl
set_option maxRecDepth 100000 in
theorem p18 {a b : List Seg} {pos : Nat} {d : Int} (F : Fl2 a b pos d) :
    (CW G20 L20).p (.func 18) [.slice .any (a.map Seg.c), .slice .any (b.map Seg.c), .agg [.int .i64 (pos : Int), .int .i64 d]] = some (.int .i64 (classP a b pos d)) := by
  have h66 := (ov18 pos d a b F.ha F.hb F.hA F.hB (step18 a b pos d) (fun _ s => s.l = R18 a b pos d .ready none ∧ s.m = R73 a b .ready none) (fun x r _ s hx hr hI => ⟨h73_y F x r s (F.ha x hx) (F.hb r hr) (F.hpos.1 x hx) (F.hpos.2 r hr) hI.1 hI.2, fun h => by
    unfold step18 at h ⊢
    cases hn : nears pos d (x, r) with
    | true => rw [hn] at h; cases h
    | false => exact hI⟩) ⟨0, R18 a b pos d .ready none, R73 a b .ready none⟩ ⟨rfl, rfl⟩).1
  rw [show step18 a b pos d = fun s p => cond (nears pos d p) (⟨verd a b pos d, R18 a b pos d .done (some .ret), R73 a b .done (some .ret)⟩, false) (s, true) from rfl, runP_any] at h66
  have h73 : (CW G20 L20).s (.func 73) [.fn (.yield 7) [] [], .ptr 4 0, .ptr 5 0, .ptr 6 0] [.cells [.slice .any (a.map Seg.c)], .cells [.slice .any (b.map Seg.c)], .cells [.int .i64 ((pos : Nat) : Int), .int .i64 d], .cells [.int .i64 0], .cells [.slice .any (a.map Seg.c)], .cells [.slice .any (b.map Seg.c)], .cells [.int .i64 ((pos : Nat) : Int), .int .i64 d], .loop (R18 a b pos d .ready none)] =
      some (.tuple [], [.cells [.slice .any (a.map Seg.c)], .cells [.slice .any (b.map Seg.c)], .cells [.int .i64 ((pos : Nat) : Int), .int .i64 d], .cells [.int .i64 (cond ((pairsOf a b).any (nears pos d)) (verd a b pos d) 0)], .cells [.slice .any (a.map Seg.c)], .cells [.slice .any (b.map Seg.c)], .cells [.int .i64 ((pos : Nat) : Int), .int .i64 d], .loop (cond ((pairsOf a b).any (nears pos d)) (R18 a b pos d .done (some .ret)) (R18 a b pos d .ready none)), .cells [.fn (.yield 7) [] []], .cells [.slice .any (a.map Seg.c)], .cells [.slice .any (b.map Seg.c)]]) := by
    refine CW_run ?_
    rw [s73]
    refine (bind_via (CW_run (s40_v1 _ _ _ _ _ _ _ _ _ _ _ _ _)) _).trans ?_
    simp only [asInt_i, asBool_i, asRows_i, asCells_i, asTuple_i, asBox_i, asObCells_i, asLoop_i, uncons_i, unconsO_i, isNil_i, asPtr_i, asFn_f, asFn_y, asArr_i, asObArr_t, asObArr_f, isReady_i, isBusy_i, uncons_c, uncons_sc, arrRows_i, Option.bind_some, Option.bind_none, cond_true, cond_false, cond_dec, cond_not]
    refine (bind_via h66 _).trans ?_
    cases (pairsOf a b).any (nears pos d) with
    | true => change _ = _; kernel_rfl
    | false => change _ = _; kernel_rfl
  unfold classP
  refine CW_valH (u := .int .i64 (cond ((pairsOf a b).any (nears pos d)) (verd a b pos d) 1)) (h := [.cells [.slice .any (a.map Seg.c)], .cells [.slice .any (b.map Seg.c)], .cells [.int .i64 ((pos : Nat) : Int), .int .i64 d], .cells [.int .i64 (cond ((pairsOf a b).any (nears pos d)) (verd a b pos d) 1)], .cells [.slice .any (a.map Seg.c)], .cells [.slice .any (b.map Seg.c)], .cells [.int .i64 ((pos : Nat) : Int), .int .i64 d]]) ?_ rfl
  rw [e18]
  refine (bind_via (CW_run (s44 _ _ _ _ _ _ _ _ _ _)) _).trans ?_
  simp only [asInt_i, asBool_i, asRows_i, asCells_i, asTuple_i, asBox_i, asObCells_i, asLoop_i, uncons_i, unconsO_i, isNil_i, asPtr_i, asFn_f, asFn_y, asArr_i, asObArr_t, asObArr_f, isReady_i, isBusy_i, uncons_c, uncons_sc, arrRows_i, Option.bind_some, Option.bind_none, cond_true, cond_false, cond_dec, cond_not]
  refine (bind_via h73 _).trans ?_
  cases (pairsOf a b).any (nears pos d) with
  | true => change _ = _; kernel_rfl
  | false => change _ = _; kernel_rfl
end Go.Ab
/- The times that CloseTimes collects, typed; conditions: valid flows. -/
namespace Go.Ab
set_option linter.unusedVariables false
set_option linter.unusedSimpArgs false
set_option linter.unusedSimpArgs false
set_option linter.unusedVariables false
noncomputable def R76 : LoopA := ⟨.ready, none, (sp 0 13 [(0, .slice .nil []), (1, .fn (.func 73) [] [.ptr 0 0, .ptr 1 0, .ptr 2 0]), (2, .ptr 4 0), (4, .slice .nil []), (6, .fn (.func 73) [] [.ptr 0 0, .ptr 1 0, .ptr 2 0])]), 76, [7], rangeAssign GP 76 3, rangeBody GP 76 3⟩
noncomputable def R73q (a b : List Seg) (st : LoopState) (pe : Option Ex) : LoopA := ⟨st, pe, (sp 0 33 [(0, .fn (.yield 5) [] []), (1, .ptr 0 0), (2, .ptr 1 0), (3, .ptr 2 0), (4, .ptr 6 0), (6, .slice .any (a.map Seg.c)), (7, .slice .any (b.map Seg.c)), (8, .fn (.func 66) [] [.ptr 7 0, .ptr 8 0])]), 73, [9], rangeAssign GP 73 3, rangeBody GP 73 3⟩
set_option maxRecDepth 100000 in
theorem ov21_7 (pos : Nat) (d : Int) (a b : List Seg) (ha : oks a) (hb : oks b) (hA : a.length ≤ 1000000) (hB : b.length ≤ 1000000) (step : List (List V) → Seg × Seg → List (List V) × Bool) (Inv : List (Seg × Seg) → List (List V) → Prop)
    (hy : ∀ (x r : Seg) (l : List (Seg × Seg)) (s : List (List V)), x ∈ a → r ∈ b → Inv ((x, r) :: l) s → (CW G20 L20).s (.yield 9) [.agg [.int .i64 x.t, .int .i64 x.h, .slice .any (x.frm.map Iv.c), .slice .any (x.pre.map Iv.c), .slice .any (x.tube.map Iv.c), .slice .any (x.to.map Iv.c), .int .i64 r.t, .int .i64 r.h, .slice .any (r.frm.map Iv.c), .slice .any (r.pre.map Iv.c), .slice .any (r.tube.map Iv.c), .slice .any (r.to.map Iv.c), .int .i64 (if r.t > x.t then r.t else x.t), .int .i64 (if r.fin < x.fin then r.fin else x.fin)]] [.cells [.slice .any (a.map Seg.c)], .cells [.slice .any (b.map Seg.c)], .cells [.int .i64 ((pos : Nat) : Int), .int .i64 d], .arr true 2 s, .cells [.arr 3 s.length 2], .loop R76, .cells [.fn (.yield 5) [] []], .cells [.slice .any (a.map Seg.c)], .cells [.slice .any (b.map Seg.c)], .loop (R73q a b .ready none)] = some (.bool (step s (x, r)).2, [.cells [.slice .any (a.map Seg.c)], .cells [.slice .any (b.map Seg.c)], .cells [.int .i64 ((pos : Nat) : Int), .int .i64 d], .arr true 2 (step s (x, r)).1, .cells [.arr 3 (step s (x, r)).1.length 2], .loop R76, .cells [.fn (.yield 5) [] []], .cells [.slice .any (a.map Seg.c)], .cells [.slice .any (b.map Seg.c)], .loop (R73q a b .ready none)]) ∧ ((step s (x, r)).2 = true → Inv l (step s (x, r)).1)) (x : Seg) (hx : x ∈ a) (first i : Nat) (rest : List (Seg × Seg)) :
    ∀ (k : List Seg) (j : Nat) (s : List (List V)), (b.drop first).drop j = k → j ≤ (b.drop first).length → Inv (((meetB x.fin k).map fun r => (x, r)) ++ rest) s →
    ∃ e j', iterW (roundK G20 L20 (CW G20 L20) 66 none 7) ⟨(sp 0 63 [(0, .fn (.yield 9) [] []), (2, .ptr 8 0), (4, .int .i64 ((first : Nat) : Int)), (6, .box [.int .i64 x.t, .int .i64 x.h, .slice .any (x.frm.map Iv.c), .slice .any (x.pre.map Iv.c), .slice .any (x.tube.map Iv.c), .slice .any (x.to.map Iv.c)]), (9, .slice .any (a.map Seg.c)), (10, .int .i64 ((a.length : Nat) : Int)), (11, .int .i64 ((i : Nat) : Int)), (33, .slice .any ((b.drop first).map Seg.c)), (34, .int .i64 (((b.drop first).length : Nat) : Int)), (35, .int .i64 ((j : Nat) : Int))]), [.cells [.slice .any (a.map Seg.c)], .cells [.slice .any (b.map Seg.c)], .cells [.int .i64 ((pos : Nat) : Int), .int .i64 d], .arr true 2 s, .cells [.arr 3 s.length 2], .loop R76, .cells [.fn (.yield 5) [] []], .cells [.slice .any (a.map Seg.c)], .cells [.slice .any (b.map Seg.c)], .loop (R73q a b .ready none)]⟩ = some (e, ⟨(sp 0 63 [(0, .fn (.yield 9) [] []), (2, .ptr 8 0), (4, .int .i64 ((first : Nat) : Int)), (6, .box [.int .i64 x.t, .int .i64 x.h, .slice .any (x.frm.map Iv.c), .slice .any (x.pre.map Iv.c), .slice .any (x.tube.map Iv.c), .slice .any (x.to.map Iv.c)]), (9, .slice .any (a.map Seg.c)), (10, .int .i64 ((a.length : Nat) : Int)), (11, .int .i64 ((i : Nat) : Int)), (33, .slice .any ((b.drop first).map Seg.c)), (34, .int .i64 (((b.drop first).length : Nat) : Int)), (35, .int .i64 ((j' : Nat) : Int))]), [.cells [.slice .any (a.map Seg.c)], .cells [.slice .any (b.map Seg.c)], .cells [.int .i64 ((pos : Nat) : Int), .int .i64 d], .arr true 2 (runP step s ((meetB x.fin k).map fun r => (x, r))).1, .cells [.arr 3 (runP step s ((meetB x.fin k).map fun r => (x, r))).1.length 2], .loop R76, .cells [.fn (.yield 5) [] []], .cells [.slice .any (a.map Seg.c)], .cells [.slice .any (b.map Seg.c)], .loop (R73q a b .ready none)]⟩) ∧ ((runP step s ((meetB x.fin k).map fun r => (x, r))).2 = true → e = .exit 4 ∨ e = .exit 1) ∧ ((runP step s ((meetB x.fin k).map fun r => (x, r))).2 = false → e = .ret) ∧ ((runP step s ((meetB x.fin k).map fun r => (x, r))).2 = true → Inv rest (runP step s ((meetB x.fin k).map fun r => (x, r))).1) := by
  have hxo := ha x hx
  have hlen : (b.drop first).length ≤ 1000000 := by rw [List.length_drop]; omega
  intro k
  induction k with
  | nil =>
    intro j s hk hj hI
    have hjl : j = (b.drop first).length := by have := List.drop_eq_nil_iff.1 hk; omega
    subst hjl
    refine ⟨.exit 4, (b.drop first).length, ?_, fun _ => .inl rfl, (fun h => by cases h), fun _ => hI⟩
    rw [iterW_eq]
    simp only [e66_7_q, lt_decn, cond_false, meetB, List.takeWhile_nil, List.map_nil, runP]
  | cons r k ih =>
    intro j s hk hj hI
    have hil : j < (b.drop first).length := by
      apply Nat.lt_of_not_le
      intro hle
      rw [List.drop_eq_nil_iff.2 hle] at hk; cases hk
    have hd := List.drop_eq_getElem_cons hil
    rw [hk] at hd
    injection hd with hr hk'
    have hrm : r ∈ b := by rw [hr]; exact List.mem_of_mem_drop (List.getElem_mem hil)
    rw [iterW_eq]
    by_cases hc : r.t > x.fin
    · have hm : meetB x.fin (r :: k) = [] := by simp [meetB, hc]
      rw [hm] at hI ⊢
      refine ⟨.exit 1, j, ?_, fun _ => .inr rfl, (fun h => by cases h), fun _ => hI⟩
      simp only [e66_7_q, lt_dec hil, getS _ j hil, ← hr, asInt_i, asBool_i, asRows_i, asCells_i, asTuple_i, asBox_i, asObCells_i, asLoop_i, uncons_i, unconsO_i, isNil_i, asPtr_i, asFn_f, asFn_y, asArr_i, asObArr_t, asObArr_f, isReady_i, isBusy_i, uncons_c, uncons_sc, arrRows_i, Option.bind_some, Option.bind_none, cond_true, cond_false, cond_dec, cond_not, p37 x hxo, hc, if_true, List.map_nil, runP]
    · have hm : meetB x.fin (r :: k) = r :: meetB x.fin k := by simp [meetB, hc]
      have hI2 := hI
      rw [hm] at hI2
      obtain ⟨y1, y2⟩ := hy x r (((meetB x.fin k).map fun r => (x, r)) ++ rest) s hx hrm hI2
      cases hst : (step s (x, r)).2 with
      | true =>
        obtain ⟨e, j', g1, g2, g3, g4⟩ := ih (j + 1) (step s (x, r)).1 hk'.symm (by omega) (y2 hst)
        have hrun : runP step s ((meetB x.fin (r :: k)).map fun r => (x, r)) = runP step (step s (x, r)).1 ((meetB x.fin k).map fun r => (x, r)) := by rw [hm]; simp only [List.map_cons, runP, hst]
        rw [hrun]
        refine ⟨e, j', ?_, g2, g3, g4⟩
        rw [hst] at y1
        simp only [e66_7_q, lt_dec hil, getS _ j hil, ← hr, asInt_i, asBool_i, asRows_i, asCells_i, asTuple_i, asBox_i, asObCells_i, asLoop_i, uncons_i, unconsO_i, isNil_i, asPtr_i, asFn_f, asFn_y, asArr_i, asObArr_t, asObArr_f, isReady_i, isBusy_i, uncons_c, uncons_sc, arrRows_i, Option.bind_some, Option.bind_none, cond_true, cond_false, cond_dec, cond_not, p37 x hxo, p37 r (hb r hrm), hc, if_false, y1, Bool.not_true, wsucc j (by omega)]
        exact g1
      | false =>
        have hrun : runP step s ((meetB x.fin (r :: k)).map fun r => (x, r)) = ((step s (x, r)).1, false) := by rw [hm]; simp only [List.map_cons, runP, hst]
        rw [hrun]
        rw [hst] at y1
        refine ⟨.ret, j, ?_, (fun h => by cases h), fun _ => rfl, fun h => by cases h⟩
        simp only [e66_7_q, lt_dec hil, getS _ j hil, ← hr, asInt_i, asBool_i, asRows_i, asCells_i, asTuple_i, asBox_i, asObCells_i, asLoop_i, uncons_i, unconsO_i, isNil_i, asPtr_i, asFn_f, asFn_y, asArr_i, asObArr_t, asObArr_f, isReady_i, isBusy_i, uncons_c, uncons_sc, arrRows_i, Option.bind_some, Option.bind_none, cond_true, cond_false, cond_dec, cond_not, p37 x hxo, p37 r (hb r hrm), hc, if_false, y1, Bool.not_false]

theorem ov21_4 (pos : Nat) (d : Int) (a b : List Seg) (hb : oks b) (hB : b.length ≤ 1000000) (x : Seg) (i : Nat) (s : List (List V)) :
    ∀ (k : List Seg) (first : Nat), b.drop first = k → first ≤ b.length →
    iterW (roundK G20 L20 (CW G20 L20) 66 none 4) ⟨(sp 0 63 [(0, .fn (.yield 9) [] []), (2, .ptr 8 0), (4, .int .i64 ((first : Nat) : Int)), (6, .box [.int .i64 x.t, .int .i64 x.h, .slice .any (x.frm.map Iv.c), .slice .any (x.pre.map Iv.c), .slice .any (x.tube.map Iv.c), .slice .any (x.to.map Iv.c)]), (9, .slice .any (a.map Seg.c)), (10, .int .i64 ((a.length : Nat) : Int)), (11, .int .i64 ((i : Nat) : Int))]), [.cells [.slice .any (a.map Seg.c)], .cells [.slice .any (b.map Seg.c)], .cells [.int .i64 ((pos : Nat) : Int), .int .i64 d], .arr true 2 s, .cells [.arr 3 s.length 2], .loop R76, .cells [.fn (.yield 5) [] []], .cells [.slice .any (a.map Seg.c)], .cells [.slice .any (b.map Seg.c)], .loop (R73q a b .ready none)]⟩ = some (.exit 2, ⟨(sp 0 63 [(0, .fn (.yield 9) [] []), (2, .ptr 8 0), (4, .int .i64 (((b.length - (skipB x.t k).length) : Nat) : Int)), (6, .box [.int .i64 x.t, .int .i64 x.h, .slice .any (x.frm.map Iv.c), .slice .any (x.pre.map Iv.c), .slice .any (x.tube.map Iv.c), .slice .any (x.to.map Iv.c)]), (9, .slice .any (a.map Seg.c)), (10, .int .i64 ((a.length : Nat) : Int)), (11, .int .i64 ((i : Nat) : Int))]), [.cells [.slice .any (a.map Seg.c)], .cells [.slice .any (b.map Seg.c)], .cells [.int .i64 ((pos : Nat) : Int), .int .i64 d], .arr true 2 s, .cells [.arr 3 s.length 2], .loop R76, .cells [.fn (.yield 5) [] []], .cells [.slice .any (a.map Seg.c)], .cells [.slice .any (b.map Seg.c)], .loop (R73q a b .ready none)]⟩) := by
  intro k
  induction k with
  | nil =>
    intro first hk hf
    have hjl : first = b.length := by have := List.drop_eq_nil_iff.1 hk; omega
    subst hjl
    rw [iterW_eq]
    simp only [e66_4_q, List.length_map, lt_decn, cond_false, skipB, List.dropWhile_nil, List.length_nil, Nat.sub_zero]
  | cons r k ih =>
    intro first hk hf
    have hil : first < b.length := by
      apply Nat.lt_of_not_le
      intro hle
      rw [List.drop_eq_nil_iff.2 hle] at hk; cases hk
    have hd := List.drop_eq_getElem_cons hil
    have hlk : (b.drop first).length = (r :: k).length := by rw [hk]
    rw [hk] at hd
    injection hd with hr hk'
    have hrm : r ∈ b := by rw [hr]; exact List.getElem_mem hil
    rw [iterW_eq]
    by_cases hc : r.fin < x.t
    · have hs : skipB x.t (r :: k) = skipB x.t k := by simp [skipB, hc]
      rw [hs]
      simp only [e66_4_q, List.length_map, lt_dec hil, getS _ first hil, ← hr, asInt_i, asBool_i, asRows_i, asCells_i, asTuple_i, asBox_i, asObCells_i, asLoop_i, uncons_i, unconsO_i, isNil_i, asPtr_i, asFn_f, asFn_y, asArr_i, asObArr_t, asObArr_f, isReady_i, isBusy_i, uncons_c, uncons_sc, arrRows_i, Option.bind_some, Option.bind_none, cond_true, cond_false, cond_dec, cond_not, p37 r (hb r hrm), hc, if_true, wsucc first (by omega)]
      exact ih (first + 1) hk'.symm hil
    · have hs : skipB x.t (r :: k) = r :: k := by simp [skipB, hc]
      have he : b.length - (skipB x.t (r :: k)).length = first := by rw [hs, ← hlk, List.length_drop]; omega
      rw [he]
      simp only [e66_4_q, List.length_map, lt_dec hil, getS _ first hil, ← hr, asInt_i, asBool_i, asRows_i, asCells_i, asTuple_i, asBox_i, asObCells_i, asLoop_i, uncons_i, unconsO_i, isNil_i, asPtr_i, asFn_f, asFn_y, asArr_i, asObArr_t, asObArr_f, isReady_i, isBusy_i, uncons_c, uncons_sc, arrRows_i, Option.bind_some, Option.bind_none, cond_true, cond_false, cond_dec, cond_not, p37 r (hb r hrm), hc, if_false]

set_option maxRecDepth 100000 in
theorem ov21_2 (pos : Nat) (d : Int) (a b : List Seg) (ha : oks a) (hb : oks b) (hA : a.length ≤ 1000000) (hB : b.length ≤ 1000000) (step : List (List V) → Seg × Seg → List (List V) × Bool) (Inv : List (Seg × Seg) → List (List V) → Prop)
    (hy : ∀ (x r : Seg) (l : List (Seg × Seg)) (s : List (List V)), x ∈ a → r ∈ b → Inv ((x, r) :: l) s → (CW G20 L20).s (.yield 9) [.agg [.int .i64 x.t, .int .i64 x.h, .slice .any (x.frm.map Iv.c), .slice .any (x.pre.map Iv.c), .slice .any (x.tube.map Iv.c), .slice .any (x.to.map Iv.c), .int .i64 r.t, .int .i64 r.h, .slice .any (r.frm.map Iv.c), .slice .any (r.pre.map Iv.c), .slice .any (r.tube.map Iv.c), .slice .any (r.to.map Iv.c), .int .i64 (if r.t > x.t then r.t else x.t), .int .i64 (if r.fin < x.fin then r.fin else x.fin)]] [.cells [.slice .any (a.map Seg.c)], .cells [.slice .any (b.map Seg.c)], .cells [.int .i64 ((pos : Nat) : Int), .int .i64 d], .arr true 2 s, .cells [.arr 3 s.length 2], .loop R76, .cells [.fn (.yield 5) [] []], .cells [.slice .any (a.map Seg.c)], .cells [.slice .any (b.map Seg.c)], .loop (R73q a b .ready none)] = some (.bool (step s (x, r)).2, [.cells [.slice .any (a.map Seg.c)], .cells [.slice .any (b.map Seg.c)], .cells [.int .i64 ((pos : Nat) : Int), .int .i64 d], .arr true 2 (step s (x, r)).1, .cells [.arr 3 (step s (x, r)).1.length 2], .loop R76, .cells [.fn (.yield 5) [] []], .cells [.slice .any (a.map Seg.c)], .cells [.slice .any (b.map Seg.c)], .loop (R73q a b .ready none)]) ∧ ((step s (x, r)).2 = true → Inv l (step s (x, r)).1)) :
    ∀ (k : List Seg) (i first : Nat) (s : List (List V)), a.drop i = k → i ≤ a.length → first ≤ b.length → Inv (pairsOf k (b.drop first)) s →
    ∃ e i' f', iterW (roundK G20 L20 (CW G20 L20) 66 none 2) ⟨(sp 0 63 [(0, .fn (.yield 9) [] []), (2, .ptr 8 0), (4, .int .i64 ((first : Nat) : Int)), (9, .slice .any (a.map Seg.c)), (10, .int .i64 ((a.length : Nat) : Int)), (11, .int .i64 ((i : Nat) : Int))]), [.cells [.slice .any (a.map Seg.c)], .cells [.slice .any (b.map Seg.c)], .cells [.int .i64 ((pos : Nat) : Int), .int .i64 d], .arr true 2 s, .cells [.arr 3 s.length 2], .loop R76, .cells [.fn (.yield 5) [] []], .cells [.slice .any (a.map Seg.c)], .cells [.slice .any (b.map Seg.c)], .loop (R73q a b .ready none)]⟩ = some (e, ⟨(sp 0 63 [(0, .fn (.yield 9) [] []), (2, .ptr 8 0), (4, .int .i64 ((f' : Nat) : Int)), (9, .slice .any (a.map Seg.c)), (10, .int .i64 ((a.length : Nat) : Int)), (11, .int .i64 ((i' : Nat) : Int))]), [.cells [.slice .any (a.map Seg.c)], .cells [.slice .any (b.map Seg.c)], .cells [.int .i64 ((pos : Nat) : Int), .int .i64 d], .arr true 2 (runP step s (pairsOf k (b.drop first))).1, .cells [.arr 3 (runP step s (pairsOf k (b.drop first))).1.length 2], .loop R76, .cells [.fn (.yield 5) [] []], .cells [.slice .any (a.map Seg.c)], .cells [.slice .any (b.map Seg.c)], .loop (R73q a b .ready none)]⟩) ∧ ((runP step s (pairsOf k (b.drop first))).2 = true → e = .exit 0) ∧ ((runP step s (pairsOf k (b.drop first))).2 = false → e = .ret) ∧ ((runP step s (pairsOf k (b.drop first))).2 = true → Inv [] (runP step s (pairsOf k (b.drop first))).1) := by
  intro k
  induction k with
  | nil =>
    intro i first s hk hj hf hI
    have hjl : i = a.length := by have := List.drop_eq_nil_iff.1 hk; omega
    subst hjl
    refine ⟨.exit 0, a.length, first, ?_, fun _ => rfl, (fun h => by cases h), fun _ => hI⟩
    rw [iterW_eq]
    rw [e66_2_q]
    simp only [lt_decn, cond_false, pairsOf, runP]
  | cons x k ih =>
    intro i first s hk hj hf hI
    have hil : i < a.length := by
      apply Nat.lt_of_not_le
      intro hle
      rw [List.drop_eq_nil_iff.2 hle] at hk; cases hk
    have hd := List.drop_eq_getElem_cons hil
    rw [hk] at hd
    injection hd with hr hk'
    have hxm : x ∈ a := by rw [hr]; exact List.getElem_mem hil
    have h4 := ov21_4 pos d a b hb hB x i s (b.drop first) first rfl hf
    have hdr := drop_skip hf x.t
    generalize hnf : b.length - (skipB x.t (b.drop first)).length = nf at h4 hdr
    have hnl : nf ≤ b.length := by omega
    have hpo : pairsOf (x :: k) (b.drop first) = (meetB x.fin (b.drop nf)).map (fun r => (x, r)) ++ pairsOf k (b.drop nf) := by simp only [pairsOf, hdr]
    rw [hpo] at hI
    obtain ⟨e, j', g1, g2, g3, g4⟩ := ov21_7 pos d a b ha hb hA hB step Inv hy x hxm nf i (pairsOf k (b.drop nf)) (b.drop nf) 0 s rfl (Nat.zero_le _) hI
    rw [hpo, runP_append]
    generalize hrn : runP step s ((meetB x.fin (b.drop nf)).map fun r => (x, r)) = rn at g1 g2 g3 g4
    obtain ⟨s', go⟩ := rn
    simp only at g1 g2 g3 g4
    have hz : ((0 : Nat) : Int) = 0 := rfl
    rw [hz] at g1
    have hnn : (0 : Int) ≤ (nf : Int) := Int.natCast_nonneg nf
    have n7_0 : nth (sp 0 63 [(0, .fn (.yield 9) [] []), (2, .ptr 8 0), (4, .int .i64 ((nf : Nat) : Int)), (6, .box [.int .i64 x.t, .int .i64 x.h, .slice .any (x.frm.map Iv.c), .slice .any (x.pre.map Iv.c), .slice .any (x.tube.map Iv.c), .slice .any (x.to.map Iv.c)]), (9, .slice .any (a.map Seg.c)), (10, .int .i64 ((a.length : Nat) : Int)), (11, .int .i64 ((i : Nat) : Int))]) 0 = .fn (.yield 9) [] [] := rfl
    have n7_2 : nth (sp 0 63 [(0, .fn (.yield 9) [] []), (2, .ptr 8 0), (4, .int .i64 ((nf : Nat) : Int)), (6, .box [.int .i64 x.t, .int .i64 x.h, .slice .any (x.frm.map Iv.c), .slice .any (x.pre.map Iv.c), .slice .any (x.tube.map Iv.c), .slice .any (x.to.map Iv.c)]), (9, .slice .any (a.map Seg.c)), (10, .int .i64 ((a.length : Nat) : Int)), (11, .int .i64 ((i : Nat) : Int))]) 2 = .ptr 8 0 := rfl
    have n7_4 : nth (sp 0 63 [(0, .fn (.yield 9) [] []), (2, .ptr 8 0), (4, .int .i64 ((nf : Nat) : Int)), (6, .box [.int .i64 x.t, .int .i64 x.h, .slice .any (x.frm.map Iv.c), .slice .any (x.pre.map Iv.c), .slice .any (x.tube.map Iv.c), .slice .any (x.to.map Iv.c)]), (9, .slice .any (a.map Seg.c)), (10, .int .i64 ((a.length : Nat) : Int)), (11, .int .i64 ((i : Nat) : Int))]) 4 = .int .i64 ((nf : Nat) : Int) := rfl
    have n7_6 : nth (sp 0 63 [(0, .fn (.yield 9) [] []), (2, .ptr 8 0), (4, .int .i64 ((nf : Nat) : Int)), (6, .box [.int .i64 x.t, .int .i64 x.h, .slice .any (x.frm.map Iv.c), .slice .any (x.pre.map Iv.c), .slice .any (x.tube.map Iv.c), .slice .any (x.to.map Iv.c)]), (9, .slice .any (a.map Seg.c)), (10, .int .i64 ((a.length : Nat) : Int)), (11, .int .i64 ((i : Nat) : Int))]) 6 = .box [.int .i64 x.t, .int .i64 x.h, .slice .any (x.frm.map Iv.c), .slice .any (x.pre.map Iv.c), .slice .any (x.tube.map Iv.c), .slice .any (x.to.map Iv.c)] := rfl
    have n7_9 : nth (sp 0 63 [(0, .fn (.yield 9) [] []), (2, .ptr 8 0), (4, .int .i64 ((nf : Nat) : Int)), (6, .box [.int .i64 x.t, .int .i64 x.h, .slice .any (x.frm.map Iv.c), .slice .any (x.pre.map Iv.c), .slice .any (x.tube.map Iv.c), .slice .any (x.to.map Iv.c)]), (9, .slice .any (a.map Seg.c)), (10, .int .i64 ((a.length : Nat) : Int)), (11, .int .i64 ((i : Nat) : Int))]) 9 = .slice .any (a.map Seg.c) := rfl
    have n7_10 : nth (sp 0 63 [(0, .fn (.yield 9) [] []), (2, .ptr 8 0), (4, .int .i64 ((nf : Nat) : Int)), (6, .box [.int .i64 x.t, .int .i64 x.h, .slice .any (x.frm.map Iv.c), .slice .any (x.pre.map Iv.c), .slice .any (x.tube.map Iv.c), .slice .any (x.to.map Iv.c)]), (9, .slice .any (a.map Seg.c)), (10, .int .i64 ((a.length : Nat) : Int)), (11, .int .i64 ((i : Nat) : Int))]) 10 = .int .i64 ((a.length : Nat) : Int) := rfl
    have n7_11 : nth (sp 0 63 [(0, .fn (.yield 9) [] []), (2, .ptr 8 0), (4, .int .i64 ((nf : Nat) : Int)), (6, .box [.int .i64 x.t, .int .i64 x.h, .slice .any (x.frm.map Iv.c), .slice .any (x.pre.map Iv.c), .slice .any (x.tube.map Iv.c), .slice .any (x.to.map Iv.c)]), (9, .slice .any (a.map Seg.c)), (10, .int .i64 ((a.length : Nat) : Int)), (11, .int .i64 ((i : Nat) : Int))]) 11 = .int .i64 ((i : Nat) : Int) := rfl
    have n10_0 : nth (sp 0 63 [(0, .fn (.yield 9) [] []), (2, .ptr 8 0), (4, .int .i64 ((nf : Nat) : Int)), (6, .box [.int .i64 x.t, .int .i64 x.h, .slice .any (x.frm.map Iv.c), .slice .any (x.pre.map Iv.c), .slice .any (x.tube.map Iv.c), .slice .any (x.to.map Iv.c)]), (9, .slice .any (a.map Seg.c)), (10, .int .i64 ((a.length : Nat) : Int)), (11, .int .i64 ((i : Nat) : Int)), (33, .slice .any ((b.drop nf).map Seg.c)), (34, .int .i64 (((b.drop nf).length : Nat) : Int)), (35, .int .i64 ((j' : Nat) : Int))]) 0 = .fn (.yield 9) [] [] := rfl
    have n10_2 : nth (sp 0 63 [(0, .fn (.yield 9) [] []), (2, .ptr 8 0), (4, .int .i64 ((nf : Nat) : Int)), (6, .box [.int .i64 x.t, .int .i64 x.h, .slice .any (x.frm.map Iv.c), .slice .any (x.pre.map Iv.c), .slice .any (x.tube.map Iv.c), .slice .any (x.to.map Iv.c)]), (9, .slice .any (a.map Seg.c)), (10, .int .i64 ((a.length : Nat) : Int)), (11, .int .i64 ((i : Nat) : Int)), (33, .slice .any ((b.drop nf).map Seg.c)), (34, .int .i64 (((b.drop nf).length : Nat) : Int)), (35, .int .i64 ((j' : Nat) : Int))]) 2 = .ptr 8 0 := rfl
    have n10_4 : nth (sp 0 63 [(0, .fn (.yield 9) [] []), (2, .ptr 8 0), (4, .int .i64 ((nf : Nat) : Int)), (6, .box [.int .i64 x.t, .int .i64 x.h, .slice .any (x.frm.map Iv.c), .slice .any (x.pre.map Iv.c), .slice .any (x.tube.map Iv.c), .slice .any (x.to.map Iv.c)]), (9, .slice .any (a.map Seg.c)), (10, .int .i64 ((a.length : Nat) : Int)), (11, .int .i64 ((i : Nat) : Int)), (33, .slice .any ((b.drop nf).map Seg.c)), (34, .int .i64 (((b.drop nf).length : Nat) : Int)), (35, .int .i64 ((j' : Nat) : Int))]) 4 = .int .i64 ((nf : Nat) : Int) := rfl
    have n10_6 : nth (sp 0 63 [(0, .fn (.yield 9) [] []), (2, .ptr 8 0), (4, .int .i64 ((nf : Nat) : Int)), (6, .box [.int .i64 x.t, .int .i64 x.h, .slice .any (x.frm.map Iv.c), .slice .any (x.pre.map Iv.c), .slice .any (x.tube.map Iv.c), .slice .any (x.to.map Iv.c)]), (9, .slice .any (a.map Seg.c)), (10, .int .i64 ((a.length : Nat) : Int)), (11, .int .i64 ((i : Nat) : Int)), (33, .slice .any ((b.drop nf).map Seg.c)), (34, .int .i64 (((b.drop nf).length : Nat) : Int)), (35, .int .i64 ((j' : Nat) : Int))]) 6 = .box [.int .i64 x.t, .int .i64 x.h, .slice .any (x.frm.map Iv.c), .slice .any (x.pre.map Iv.c), .slice .any (x.tube.map Iv.c), .slice .any (x.to.map Iv.c)] := rfl
    have n10_9 : nth (sp 0 63 [(0, .fn (.yield 9) [] []), (2, .ptr 8 0), (4, .int .i64 ((nf : Nat) : Int)), (6, .box [.int .i64 x.t, .int .i64 x.h, .slice .any (x.frm.map Iv.c), .slice .any (x.pre.map Iv.c), .slice .any (x.tube.map Iv.c), .slice .any (x.to.map Iv.c)]), (9, .slice .any (a.map Seg.c)), (10, .int .i64 ((a.length : Nat) : Int)), (11, .int .i64 ((i : Nat) : Int)), (33, .slice .any ((b.drop nf).map Seg.c)), (34, .int .i64 (((b.drop nf).length : Nat) : Int)), (35, .int .i64 ((j' : Nat) : Int))]) 9 = .slice .any (a.map Seg.c) := rfl
    have n10_10 : nth (sp 0 63 [(0, .fn (.yield 9) [] []), (2, .ptr 8 0), (4, .int .i64 ((nf : Nat) : Int)), (6, .box [.int .i64 x.t, .int .i64 x.h, .slice .any (x.frm.map Iv.c), .slice .any (x.pre.map Iv.c), .slice .any (x.tube.map Iv.c), .slice .any (x.to.map Iv.c)]), (9, .slice .any (a.map Seg.c)), (10, .int .i64 ((a.length : Nat) : Int)), (11, .int .i64 ((i : Nat) : Int)), (33, .slice .any ((b.drop nf).map Seg.c)), (34, .int .i64 (((b.drop nf).length : Nat) : Int)), (35, .int .i64 ((j' : Nat) : Int))]) 10 = .int .i64 ((a.length : Nat) : Int) := rfl
    have n10_11 : nth (sp 0 63 [(0, .fn (.yield 9) [] []), (2, .ptr 8 0), (4, .int .i64 ((nf : Nat) : Int)), (6, .box [.int .i64 x.t, .int .i64 x.h, .slice .any (x.frm.map Iv.c), .slice .any (x.pre.map Iv.c), .slice .any (x.tube.map Iv.c), .slice .any (x.to.map Iv.c)]), (9, .slice .any (a.map Seg.c)), (10, .int .i64 ((a.length : Nat) : Int)), (11, .int .i64 ((i : Nat) : Int)), (33, .slice .any ((b.drop nf).map Seg.c)), (34, .int .i64 (((b.drop nf).length : Nat) : Int)), (35, .int .i64 ((j' : Nat) : Int))]) 11 = .int .i64 ((i : Nat) : Int) := rfl
    have n10_33 : nth (sp 0 63 [(0, .fn (.yield 9) [] []), (2, .ptr 8 0), (4, .int .i64 ((nf : Nat) : Int)), (6, .box [.int .i64 x.t, .int .i64 x.h, .slice .any (x.frm.map Iv.c), .slice .any (x.pre.map Iv.c), .slice .any (x.tube.map Iv.c), .slice .any (x.to.map Iv.c)]), (9, .slice .any (a.map Seg.c)), (10, .int .i64 ((a.length : Nat) : Int)), (11, .int .i64 ((i : Nat) : Int)), (33, .slice .any ((b.drop nf).map Seg.c)), (34, .int .i64 (((b.drop nf).length : Nat) : Int)), (35, .int .i64 ((j' : Nat) : Int))]) 33 = .slice .any ((b.drop nf).map Seg.c) := rfl
    have n10_34 : nth (sp 0 63 [(0, .fn (.yield 9) [] []), (2, .ptr 8 0), (4, .int .i64 ((nf : Nat) : Int)), (6, .box [.int .i64 x.t, .int .i64 x.h, .slice .any (x.frm.map Iv.c), .slice .any (x.pre.map Iv.c), .slice .any (x.tube.map Iv.c), .slice .any (x.to.map Iv.c)]), (9, .slice .any (a.map Seg.c)), (10, .int .i64 ((a.length : Nat) : Int)), (11, .int .i64 ((i : Nat) : Int)), (33, .slice .any ((b.drop nf).map Seg.c)), (34, .int .i64 (((b.drop nf).length : Nat) : Int)), (35, .int .i64 ((j' : Nat) : Int))]) 34 = .int .i64 (((b.drop nf).length : Nat) : Int) := rfl
    have n10_35 : nth (sp 0 63 [(0, .fn (.yield 9) [] []), (2, .ptr 8 0), (4, .int .i64 ((nf : Nat) : Int)), (6, .box [.int .i64 x.t, .int .i64 x.h, .slice .any (x.frm.map Iv.c), .slice .any (x.pre.map Iv.c), .slice .any (x.tube.map Iv.c), .slice .any (x.to.map Iv.c)]), (9, .slice .any (a.map Seg.c)), (10, .int .i64 ((a.length : Nat) : Int)), (11, .int .i64 ((i : Nat) : Int)), (33, .slice .any ((b.drop nf).map Seg.c)), (34, .int .i64 (((b.drop nf).length : Nat) : Int)), (35, .int .i64 ((j' : Nat) : Int))]) 35 = .int .i64 ((j' : Nat) : Int) := rfl
    rw [iterW_eq]
    cases go with
    | true =>
      obtain ⟨e2, i', f', k1, k2, k3, k4⟩ := ih (i + 1) nf s' hk'.symm hil hnl (g4 rfl)
      simp only
      refine ⟨e2, i', f', ?_, k2, k3, k4⟩
      rcases g2 rfl with rfl | rfl
      · rw [e66_2_q]
        simp only [lt_dec hil, getS _ i hil, ← hr, asInt_i, asBool_i, asRows_i, asCells_i, asTuple_i, asBox_i, asObCells_i, asLoop_i, uncons_i, unconsO_i, isNil_i, asPtr_i, asFn_f, asFn_y, asArr_i, asObArr_t, asObArr_f, isReady_i, isBusy_i, uncons_c, uncons_sc, arrRows_i, Option.bind_some, Option.bind_none, cond_true, cond_false, cond_dec, cond_not, CW_w, h4, n7_0, n7_2, n7_4, n7_6, n7_9, n7_10, n7_11, Nat.beq_refl, headIs_map, hnn, hnl, if_true, Int.toNat_natCast, List.length_map, List.take_length, ← List.map_take, ← List.map_drop, g1, n10_0, n10_2, n10_4, n10_6, n10_9, n10_10, n10_11, n10_33, n10_34, n10_35, wsucc i (by omega)]
        exact k1
      · rw [e66_2_q]
        simp only [lt_dec hil, getS _ i hil, ← hr, asInt_i, asBool_i, asRows_i, asCells_i, asTuple_i, asBox_i, asObCells_i, asLoop_i, uncons_i, unconsO_i, isNil_i, asPtr_i, asFn_f, asFn_y, asArr_i, asObArr_t, asObArr_f, isReady_i, isBusy_i, uncons_c, uncons_sc, arrRows_i, Option.bind_some, Option.bind_none, cond_true, cond_false, cond_dec, cond_not, CW_w, h4, n7_0, n7_2, n7_4, n7_6, n7_9, n7_10, n7_11, Nat.beq_refl, headIs_map, hnn, hnl, if_true, Int.toNat_natCast, List.length_map, List.take_length, ← List.map_take, ← List.map_drop, g1, n10_0, n10_2, n10_4, n10_6, n10_9, n10_10, n10_11, n10_33, n10_34, n10_35, wsucc i (by omega), show Nat.beq 1 4 = false from rfl]
        exact k1
    | false =>
      simp only
      refine ⟨.ret, i, nf, ?_, (fun h => by cases h), fun _ => rfl, fun h => by cases h⟩
      cases g3 rfl
      rw [e66_2_q]
      simp only [lt_dec hil, getS _ i hil, ← hr, asInt_i, asBool_i, asRows_i, asCells_i, asTuple_i, asBox_i, asObCells_i, asLoop_i, uncons_i, unconsO_i, isNil_i, asPtr_i, asFn_f, asFn_y, asArr_i, asObArr_t, asObArr_f, isReady_i, isBusy_i, uncons_c, uncons_sc, arrRows_i, Option.bind_some, Option.bind_none, cond_true, cond_false, cond_dec, cond_not, CW_w, h4, n7_0, n7_2, n7_4, n7_6, n7_9, n7_10, n7_11, Nat.beq_refl, headIs_map, hnn, hnl, if_true, Int.toNat_natCast, List.length_map, List.take_length, ← List.map_take, ← List.map_drop, g1, n10_0, n10_2, n10_4, n10_6, n10_9, n10_10, n10_11, n10_33, n10_34, n10_35]

theorem ov21 (pos : Nat) (d : Int) (a b : List Seg) (ha : oks a) (hb : oks b) (hA : a.length ≤ 1000000) (hB : b.length ≤ 1000000) (step : List (List V) → Seg × Seg → List (List V) × Bool) (Inv : List (Seg × Seg) → List (List V) → Prop)
    (hy : ∀ (x r : Seg) (l : List (Seg × Seg)) (s : List (List V)), x ∈ a → r ∈ b → Inv ((x, r) :: l) s → (CW G20 L20).s (.yield 9) [.agg [.int .i64 x.t, .int .i64 x.h, .slice .any (x.frm.map Iv.c), .slice .any (x.pre.map Iv.c), .slice .any (x.tube.map Iv.c), .slice .any (x.to.map Iv.c), .int .i64 r.t, .int .i64 r.h, .slice .any (r.frm.map Iv.c), .slice .any (r.pre.map Iv.c), .slice .any (r.tube.map Iv.c), .slice .any (r.to.map Iv.c), .int .i64 (if r.t > x.t then r.t else x.t), .int .i64 (if r.fin < x.fin then r.fin else x.fin)]] [.cells [.slice .any (a.map Seg.c)], .cells [.slice .any (b.map Seg.c)], .cells [.int .i64 ((pos : Nat) : Int), .int .i64 d], .arr true 2 s, .cells [.arr 3 s.length 2], .loop R76, .cells [.fn (.yield 5) [] []], .cells [.slice .any (a.map Seg.c)], .cells [.slice .any (b.map Seg.c)], .loop (R73q a b .ready none)] = some (.bool (step s (x, r)).2, [.cells [.slice .any (a.map Seg.c)], .cells [.slice .any (b.map Seg.c)], .cells [.int .i64 ((pos : Nat) : Int), .int .i64 d], .arr true 2 (step s (x, r)).1, .cells [.arr 3 (step s (x, r)).1.length 2], .loop R76, .cells [.fn (.yield 5) [] []], .cells [.slice .any (a.map Seg.c)], .cells [.slice .any (b.map Seg.c)], .loop (R73q a b .ready none)]) ∧ ((step s (x, r)).2 = true → Inv l (step s (x, r)).1)) (s : List (List V)) (hI : Inv (pairsOf a b) s) :
    (CW G20 L20).s (.func 66) [.fn (.yield 9) [] [], .ptr 7 0, .ptr 8 0] [.cells [.slice .any (a.map Seg.c)], .cells [.slice .any (b.map Seg.c)], .cells [.int .i64 ((pos : Nat) : Int), .int .i64 d], .arr true 2 s, .cells [.arr 3 s.length 2], .loop R76, .cells [.fn (.yield 5) [] []], .cells [.slice .any (a.map Seg.c)], .cells [.slice .any (b.map Seg.c)], .loop (R73q a b .ready none)] = some (.tuple [], [.cells [.slice .any (a.map Seg.c)], .cells [.slice .any (b.map Seg.c)], .cells [.int .i64 ((pos : Nat) : Int), .int .i64 d], .arr true 2 (runP step s (pairsOf a b)).1, .cells [.arr 3 (runP step s (pairsOf a b)).1.length 2], .loop R76, .cells [.fn (.yield 5) [] []], .cells [.slice .any (a.map Seg.c)], .cells [.slice .any (b.map Seg.c)], .loop (R73q a b .ready none)]) ∧ ((runP step s (pairsOf a b)).2 = true → Inv [] (runP step s (pairsOf a b)).1) := by
  obtain ⟨e, i', f', g1, g2, g3, g4⟩ := ov21_2 pos d a b ha hb hA hB step Inv hy a 0 0 s rfl (Nat.zero_le _) (Nat.zero_le _) hI
  rw [List.drop_zero] at g1 g2 g3 g4
  refine ⟨CW_run ?_, g4⟩
  generalize runP step s (pairsOf a b) = rn at g1 g2 g3 g4
  obtain ⟨s', go⟩ := rn
  rw [s66_q, CW_w, List.length_map]
  refine (bind_via g1 _).trans ?_
  cases go with
  | true => cases g2 rfl; kernel_rfl
  | false => cases g3 rfl; kernel_rfl

def step21 (pos : Nat) (d : Int) (s : List (List V)) (p : Seg × Seg) : List (List V) × Bool := (cond (nears pos d p) (List.append s [(timeOf p.1 p.2).c]) s, true)
theorem app_len (s : List (List V)) (x : List V) : (List.append s [x]).length = s.length + 1 := by simp
set_option maxRecDepth 100000 in
theorem h76_y (a b : List Seg) (pos : Nat) (d : Int) (s : List (List V)) (hs : s.length ≤ 1000000) (n0 n1 : Int) (l : LoopA) :
    (CW G20 L20).s (.yield 5) [.agg [.int .i64 n0, .int .i64 n1]] [.cells [.slice .any (a.map Seg.c)], .cells [.slice .any (b.map Seg.c)], .cells [.int .i64 ((pos : Nat) : Int), .int .i64 d], .arr true 2 s, .cells [.arr 3 s.length 2], .loop R76, .cells [.fn (.yield 5) [] []], .cells [.slice .any (a.map Seg.c)], .cells [.slice .any (b.map Seg.c)], .loop l] = some (.bool true, [.cells [.slice .any (a.map Seg.c)], .cells [.slice .any (b.map Seg.c)], .cells [.int .i64 ((pos : Nat) : Int), .int .i64 d], .arr true 2 (List.append s [[.int .i64 n0, .int .i64 n1]]), .cells [.arr 3 (List.append s [[.int .i64 n0, .int .i64 n1]]).length 2], .loop R76, .cells [.fn (.yield 5) [] []], .cells [.slice .any (a.map Seg.c)], .cells [.slice .any (b.map Seg.c)], .loop l]) := by
  refine CW_run ?_
  unfold R76
  rw [y76_3_q, app_len]
  have h1 : (s.length + 1) * 16 ≤ room := by unfold room; omega
  simp only [h1, asInt_i, asBool_i, asRows_i, asCells_i, asTuple_i, asBox_i, asObCells_i, asLoop_i, uncons_i, unconsO_i, isNil_i, asPtr_i, asFn_f, asFn_y, asArr_i, asObArr_t, asObArr_f, isReady_i, isBusy_i, uncons_c, uncons_sc, arrRows_i, Option.bind_some, Option.bind_none, cond_true, cond_false, cond_dec, cond_not, if_true]
set_option maxRecDepth 100000 in
theorem h73_yq {a b : List Seg} {pos : Nat} {d : Int} (F : Fl2 a b pos d) (x r : Seg) (s : List (List V)) (hs : s.length ≤ 1000000) (hx : x.ok) (hr : r.ok) (h2 : pos ≤ x.tube.length) (h3 : pos ≤ r.tube.length) :
    (CW G20 L20).s (.yield 9) [.agg [.int .i64 x.t, .int .i64 x.h, .slice .any (x.frm.map Iv.c), .slice .any (x.pre.map Iv.c), .slice .any (x.tube.map Iv.c), .slice .any (x.to.map Iv.c), .int .i64 r.t, .int .i64 r.h, .slice .any (r.frm.map Iv.c), .slice .any (r.pre.map Iv.c), .slice .any (r.tube.map Iv.c), .slice .any (r.to.map Iv.c), .int .i64 (if r.t > x.t then r.t else x.t), .int .i64 (if r.fin < x.fin then r.fin else x.fin)]] [.cells [.slice .any (a.map Seg.c)], .cells [.slice .any (b.map Seg.c)], .cells [.int .i64 ((pos : Nat) : Int), .int .i64 d], .arr true 2 s, .cells [.arr 3 s.length 2], .loop R76, .cells [.fn (.yield 5) [] []], .cells [.slice .any (a.map Seg.c)], .cells [.slice .any (b.map Seg.c)], .loop (R73q a b .ready none)] = some (.bool (step21 pos d s (x, r)).2, [.cells [.slice .any (a.map Seg.c)], .cells [.slice .any (b.map Seg.c)], .cells [.int .i64 ((pos : Nat) : Int), .int .i64 d], .arr true 2 (step21 pos d s (x, r)).1, .cells [.arr 3 (step21 pos d s (x, r)).1.length 2], .loop R76, .cells [.fn (.yield 5) [] []], .cells [.slice .any (a.map Seg.c)], .cells [.slice .any (b.map Seg.c)], .loop (R73q a b .ready none)]) := by
  refine CW_run ?_
  have h1 : (0 : Int) ≤ (pos : Int) := Int.natCast_nonneg pos
  rw [show R73q a b .ready none = ⟨.ready, none, (R73q a b .ready none).t, 73, [9], rangeAssign GP 73 3, rangeBody GP 73 3⟩ from rfl]
  refine (y73_3_q (CW G20 L20) _ _ _ _ _ _ _ _ _ _ _ _ _ _ _ _ _ _ _ _ _ _ _ _).trans ?_
  have hy := h76_y a b pos d s hs (if r.t > x.t then r.t else x.t) (if r.fin < x.fin then r.fin else x.fin) ⟨.busy, none, (R73q a b .ready none).t, 73, [9], rangeAssign GP 73 3, rangeBody GP 73 3⟩
  unfold R73q at hy
  simp only [h1, h2, h3, if_true, Int.toNat_natCast, List.length_map, List.drop_zero, ← List.map_take, p74_take x r hx hr pos d F.hd h2 h3, asInt_i, asBool_i, asRows_i, asCells_i, asTuple_i, asBox_i, asObCells_i, asLoop_i, uncons_i, unconsO_i, isNil_i, asPtr_i, asFn_f, asFn_y, asArr_i, asObArr_t, asObArr_f, isReady_i, isBusy_i, uncons_c, uncons_sc, arrRows_i, Option.bind_some, Option.bind_none, cond_true, cond_false, cond_dec, cond_not, step21, nears]
  cases sepd (x.tube.take pos) (r.tube.take pos) d with
  | true => rfl
  | false =>
    refine (bind_via hy _).trans ?_
    change _ = _
    kernel_rfl
/-- The common times of pairs that are not separated. -/
def timesOf (a b : List Seg) (pos : Nat) (d : Int) : List Iv := ((pairsOf a b).filter (nears pos d)).map fun p => timeOf p.1 p.2
theorem runP_collect (pos : Nat) (d : Int) : ∀ (l : List (Seg × Seg)) (s : List (List V)), runP (step21 pos d) s l = (s ++ ((l.filter (nears pos d)).map fun p => timeOf p.1 p.2).map Iv.c, true) := by
  intro l
  induction l with
  | nil => intro s; simp [runP]
  | cons p l ih =>
    intro s
    simp only [runP, step21]
    rw [ih]
    cases hn : nears pos d p with
    | true => simp [hn]
    | false => simp [hn]
theorem arrRows3 (o0 o1 o2 : Ob) (r : List (List V)) (l : List Ob) : arrRows (o0 :: o1 :: o2 :: .arr true 2 r :: l) 3 r.length = some r := by simp [arrRows, hget]
set_option maxRecDepth 100000 in
theorem h49 {a b : List Seg} {pos : Nat} {d : Int} (F : Fl2 a b pos d) (hn : (pairsOf a b).length ≤ 1000000) :
    (CW G20 L20).s (.func 49) [.fn (.func 73) [] [.ptr 0 0, .ptr 1 0, .ptr 2 0]] [.cells [.slice .any (a.map Seg.c)], .cells [.slice .any (b.map Seg.c)], .cells [.int .i64 ((pos : Nat) : Int), .int .i64 d]] =
      some (.slice .any ((timesOf a b pos d).map Iv.c), [.cells [.slice .any (a.map Seg.c)], .cells [.slice .any (b.map Seg.c)], .cells [.int .i64 ((pos : Nat) : Int), .int .i64 d]]) := by
  have h66 := (ov21 pos d a b F.ha F.hb F.hA F.hB (step21 pos d) (fun l s => s.length + l.length ≤ 1000000) (fun x r l s hx hr hI => by
    simp only [List.length_cons] at hI
    refine ⟨h73_yq F x r s (by omega) (F.ha x hx) (F.hb r hr) (F.hpos.1 x hx) (F.hpos.2 r hr), fun _ => ?_⟩
    simp only [step21]
    cases nears pos d (x, r) with
    | true => simp only [cond_true, app_len]; omega
    | false => simp only [cond_false]; omega) [] (by simpa using hn)).1
  rw [runP_collect] at h66
  simp only [List.nil_append] at h66
  rw [show ((pairsOf a b).filter (nears pos d)).map (fun p => timeOf p.1 p.2) = timesOf a b pos d from rfl] at h66
  generalize (timesOf a b pos d).map Iv.c = S at h66 ⊢
  have h73 : (CW G20 L20).s (.func 73) [.fn (.yield 5) [] [], .ptr 0 0, .ptr 1 0, .ptr 2 0] [.cells [.slice .any (a.map Seg.c)], .cells [.slice .any (b.map Seg.c)], .cells [.int .i64 ((pos : Nat) : Int), .int .i64 d], .arr true 2 [], .cells [.arr 3 0 2], .loop R76] =
      some (.tuple [], [.cells [.slice .any (a.map Seg.c)], .cells [.slice .any (b.map Seg.c)], .cells [.int .i64 ((pos : Nat) : Int), .int .i64 d], .arr true 2 S, .cells [.arr 3 S.length 2], .loop R76, .cells [.fn (.yield 5) [] []], .cells [.slice .any (a.map Seg.c)], .cells [.slice .any (b.map Seg.c)]]) := by
    refine CW_run ?_
    refine (s73_q (CW G20 L20) [] _ _ _ _ _).trans ?_
    refine (bind_via (CW_run (s40_q _ _ _ _ _ _ _ _ _)) _).trans ?_
    simp only [asInt_i, asBool_i, asRows_i, asCells_i, asTuple_i, asBox_i, asObCells_i, asLoop_i, uncons_i, unconsO_i, isNil_i, asPtr_i, asFn_f, asFn_y, asArr_i, asObArr_t, asObArr_f, isReady_i, isBusy_i, uncons_c, uncons_sc, arrRows_i, Option.bind_some, Option.bind_none, cond_true, cond_false, cond_dec, cond_not]
    refine (bind_via h66 _).trans ?_
    change _ = _
    kernel_rfl
  have h76 : (CW G20 L20).s (.func 76) [.slice .nil [], .fn (.func 73) [] [.ptr 0 0, .ptr 1 0, .ptr 2 0]] [.cells [.slice .any (a.map Seg.c)], .cells [.slice .any (b.map Seg.c)], .cells [.int .i64 ((pos : Nat) : Int), .int .i64 d]] =
      some (.slice .any S, [.cells [.slice .any (a.map Seg.c)], .cells [.slice .any (b.map Seg.c)], .cells [.int .i64 ((pos : Nat) : Int), .int .i64 d], .arr false 2 S, .cells [.arr 3 S.length 2]]) := by
    refine CW_run ?_
    rw [s76_q]
    refine (bind_via h73 _).trans ?_
    have he : endOf R76 = some none := rfl
    simp only [asInt_i, asBool_i, asRows_i, asCells_i, asTuple_i, asBox_i, asObCells_i, asLoop_i, uncons_i, unconsO_i, isNil_i, asPtr_i, asFn_f, asFn_y, asArr_i, asObArr_t, asObArr_f, isReady_i, isBusy_i, uncons_c, uncons_sc, arrRows_i, Option.bind_some, Option.bind_none, cond_true, cond_false, cond_dec, cond_not, he, arrRows3]
  refine CW_run ?_
  rw [s49_q]
  refine (bind_via h76 _).trans ?_
  change _ = _
  kernel_rfl
end Go.Ab
/- A sort of what is sorted, typed: it writes nothing; conditions: fewer than fifty elements. -/
namespace Go.Ab
set_option linter.unusedVariables false
set_option linter.unusedSimpArgs false
set_option linter.unusedSimpArgs false
set_option linter.unusedVariables false
def sorted (l : List Iv) : Prop := ∀ (i j : Nat) (hj : j < l.length) (hi : i ≤ j), (l[i]'(Nat.lt_of_le_of_lt hi hj)).lo ≤ l[j].lo
def lenT (n : Nat) : Int := if n = 0 then 0 else if n < 2 then 1 else if n < 4 then 2 else if n < 8 then 3 else if n < 16 then 4 else if n < 32 then 5 else 6
set_option maxRecDepth 100000 in
theorem lens_ok : ∀ n : Fin 50, strAt (⟨#[0, 1, 2, 2, 3, 3, 3, 3, 4, 4, 4, 4, 4, 4, 4, 4, 5, 5, 5, 5, 5, 5, 5, 5, 5, 5, 5, 5, 5, 5, 5, 5, 6, 6, 6, 6, 6, 6, 6, 6, 6, 6, 6, 6, 6, 6, 6, 6, 6, 6, 6, 6, 6, 6, 6, 6, 6, 6, 6, 6, 6, 6, 6, 6, 7, 7, 7, 7, 7, 7, 7, 7, 7, 7, 7, 7, 7, 7, 7, 7, 7, 7, 7, 7, 7, 7, 7, 7, 7, 7, 7, 7, 7, 7, 7, 7, 7, 7, 7, 7, 7, 7, 7, 7, 7, 7, 7, 7, 7, 7, 7, 7, 7, 7, 7, 7, 7, 7, 7, 7, 7, 7, 7, 7, 7, 7, 7, 7, 8, 8, 8, 8, 8, 8, 8, 8, 8, 8, 8, 8, 8, 8, 8, 8, 8, 8, 8, 8, 8, 8, 8, 8, 8, 8, 8, 8, 8, 8, 8, 8, 8, 8, 8, 8, 8, 8, 8, 8, 8, 8, 8, 8, 8, 8, 8, 8, 8, 8, 8, 8, 8, 8, 8, 8, 8, 8, 8, 8, 8, 8, 8, 8, 8, 8, 8, 8, 8, 8, 8, 8, 8, 8, 8, 8, 8, 8, 8, 8, 8, 8, 8, 8, 8, 8, 8, 8, 8, 8, 8, 8, 8, 8, 8, 8, 8, 8, 8, 8, 8, 8, 8, 8, 8, 8, 8, 8, 8, 8, 8, 8, 8, 8, 8, 8, 8, 8, 8, 8, 8, 8, 8, 8, 8, 8, 8, 8]⟩ : ByteArray) ((n.val : Nat) : Int) = some (lenT n.val) := by decide +kernel
theorem p79 (a : Int) : (CW G20 L20).p (.func 79) [.int .i64 a] = some (.bool false) := by
  refine CW_val (h := []) ?_ rfl
  rw [e79]; simp
theorem p52 (a b : Int) : (CW G20 L20).p (.func 52) [.int .i64 a, .int .i64 b] = some (.int .i64 (if a < b then -1 else if a > b then 1 else 0)) := by
  refine CW_val (h := []) ?_ rfl
  simp only [e52, p79, asInt_i, asBool_i, asRows_i, asCells_i, asTuple_i, asBox_i, asObCells_i, asLoop_i, uncons_i, unconsO_i, isNil_i, asPtr_i, asFn_f, asFn_y, asArr_i, asObArr_t, asObArr_f, isReady_i, isBusy_i, uncons_c, uncons_sc, arrRows_i, Option.bind_some, Option.bind_none, cond_true, cond_false, cond_dec, cond_not]
  by_cases h1 : a < b
  · simp only [h1, if_true]
  · by_cases h2 : a > b
    · simp only [h1, h2, if_true, if_false]
    · simp only [h1, h2, if_false]
theorem p51 (x y : Iv) (h : y.lo ≤ x.lo) : ∃ n : Int, (decide (n < 0)) = false ∧ (CW G20 L20).p (.func 51) [.agg [.int .i64 x.lo, .int .i64 x.hi], .agg [.int .i64 y.lo, .int .i64 y.hi]] = some (.int .i64 n) := by
  refine ⟨if x.lo < y.lo then -1 else if x.lo > y.lo then 1 else 0, ?_, ?_⟩
  · rw [if_neg (by omega)]; split <;> rfl
  · refine CW_val (h := []) ?_ rfl
    rw [e51, p52]; rfl
theorem getI (l : List Iv) (i : Nat) (h : i < l.length) : getRow (l.map Iv.c) (i : Int) 2 = some l[i].c := getRow_map Iv.c Iv.c_len l i h
theorem h110 (l : List Iv) (hs : sorted l) (i j : Nat) (hj : j < l.length) (hi : i ≤ j) : (CW G20 L20).s (.func 110) [.slice .any (l.map Iv.c), .int .i64 (i : Nat), .int .i64 (j : Nat), .undef, .fn (.func 51) [] []] [] = some (.tuple [.int .i64 (i : Nat), .int .i64 (j : Nat)], []) := by
  refine CW_run ?_
  obtain ⟨n, n1, n2⟩ := p51 l[j] (l[i]'(Nat.lt_of_le_of_lt hi hj)) (hs i j hj hi)
  rw [s110_q, getI l j hj, getI l i (Nat.lt_of_le_of_lt hi hj)]
  simp only [asInt_i, asCells_i, uncons_c, uncons_i, isNil_i, Option.bind_some, n2, n1, cond_false]
theorem h107 (l : List Iv) (hs : sorted l) (i j k : Nat) (hk : k < l.length) (hi : i ≤ j) (hj : j ≤ k) : (CW G20 L20).s (.func 107) [.slice .any (l.map Iv.c), .int .i64 (i : Nat), .int .i64 (j : Nat), .int .i64 (k : Nat), .undef, .fn (.func 51) [] []] [] = some (.int .i64 (j : Nat), []) := by
  refine CW_run ?_
  rw [s107_q]
  simp only [h110 l hs i j (by omega) hi, h110 l hs j k hk hj, h110 l hs i j (by omega) hi, asTuple_i, asInt_i, uncons_i, isNil_i, Option.bind_some]
set_option maxRecDepth 100000 in
theorem p101 (n : Nat) (h : n < 50) : (CW G20 L20).p (.func 101) [.int .u64 (n : Int)] = some (.int .i64 (lenT n)) := by
  refine CW_val (h := []) ?_ rfl
  have h1 : ¬ (n : Int) ≥ 4294967296 := by omega
  have h2 : ¬ (n : Int) ≥ 65536 := by omega
  have h3 : ¬ (n : Int) ≥ 256 := by omega
  have h4 : IntKind.wrap .u8 (n : Int) = (n : Int) := by
    simp [IntKind.wrap, IntKind.bits, IntKind.signed]; omega
  have h5 := lens_ok ⟨n, h⟩
  simp only at h5
  have h6 : 0 ≤ lenT n ∧ lenT n ≤ 6 := by unfold lenT; repeat' split <;> omega
  have h7 : IntKind.wrap .i64 (lenT n) = lenT n := w64 (by omega) (by omega)
  rw [e101]
  simp only [cond_dec, h1, h2, h3, if_false, h4, h5, Option.bind_some, h7]
  rw [w64 (by omega) (by omega)]
  simp
theorem p78 (n : Nat) (h : n < 50) : (CW G20 L20).p (.func 78) [.int .u64 (n : Int)] = some (.int .i64 (lenT n)) := by
  refine CW_val (h := []) ?_ rfl
  rw [e78, p101 n h]; rfl
theorem p92t (l : List Iv) (hs : sorted l) (hn : l.length < 50) : (CW G20 L20).p (.func 92) [.slice .any (l.map Iv.c), .int .i64 0, .int .i64 (l.length : Nat), .fn (.func 51) [] []] = some (.tuple []) := by
  have inner : ∀ i : Nat, 0 < i → i < l.length → iterW (roundK G20 L20 (CW G20 L20) 92 none 4) ⟨(sp 0 53 [(0, .slice .any (l.map Iv.c)), (1, .int .i64 0), (2, .int .i64 (l.length : Nat)), (3, .fn (.func 51) [] []), (8, .int .i64 (i : Nat)), (9, .int .i64 (i : Nat))]), []⟩ =
      some (.exit 2, ⟨(sp 0 53 [(0, .slice .any (l.map Iv.c)), (1, .int .i64 0), (2, .int .i64 (l.length : Nat)), (3, .fn (.func 51) [] []), (8, .int .i64 (i : Nat)), (9, .int .i64 (i : Nat))]), []⟩) := by
    intro i h0 hi
    obtain ⟨n, n1, n2⟩ := p51 l[i] (l[i - 1]'(by omega)) (hs (i - 1) i hi (by omega))
    have hc : (i : Int) > 0 := by omega
    rw [iterW_eq, e92_4_q, wpred i h0 (by omega), getI l i hi, getI l (i - 1) (by omega)]
    simp only [asInt_i, asBool_i, asRows_i, asCells_i, asTuple_i, asBox_i, asObCells_i, asLoop_i, uncons_i, unconsO_i, isNil_i, asPtr_i, asFn_f, asFn_y, asArr_i, asObArr_t, asObArr_f, isReady_i, isBusy_i, uncons_c, uncons_sc, arrRows_i, Option.bind_some, Option.bind_none, cond_true, cond_false, cond_dec, cond_not, hc, if_true, n2]
    have n3 : ¬ n < 0 := by simpa using n1
    simp only [n3, if_false]
  have outer : ∀ (k i : Nat), l.length - i = k → 0 < i → ∃ j : Nat, iterW (roundK G20 L20 (CW G20 L20) 92 none 1) ⟨(sp 0 53 [(0, .slice .any (l.map Iv.c)), (1, .int .i64 0), (2, .int .i64 (l.length : Nat)), (3, .fn (.func 51) [] []), (8, .int .i64 (i : Nat))]), []⟩ =
      some (.exit 0, ⟨(sp 0 53 [(0, .slice .any (l.map Iv.c)), (1, .int .i64 0), (2, .int .i64 (l.length : Nat)), (3, .fn (.func 51) [] []), (8, .int .i64 (j : Nat))]), []⟩) := by
    intro k
    induction k with
    | zero =>
      intro i hk h0
      refine ⟨i, ?_⟩
      have hc : decide ((i : Int) < (l.length : Nat)) = false := by simp; omega
      rw [iterW_eq, e92_1_q, hc]; rfl
    | succ k ih =>
      intro i hk h0
      obtain ⟨j, hj⟩ := ih (i + 1) (by omega) (by omega)
      refine ⟨j, ?_⟩
      have hc : decide ((i : Int) < (l.length : Nat)) = true := by simp; omega
      have hr : roundK G20 L20 (CW G20 L20) 92 none 1 ⟨(sp 0 53 [(0, .slice .any (l.map Iv.c)), (1, .int .i64 0), (2, .int .i64 (l.length : Nat)), (3, .fn (.func 51) [] []), (8, .int .i64 (i : Nat))]), []⟩ = some (.normal, ⟨(sp 0 53 [(0, .slice .any (l.map Iv.c)), (1, .int .i64 0), (2, .int .i64 (l.length : Nat)), (3, .fn (.func 51) [] []), (8, .int .i64 ((i + 1 : Nat) : Int))]), []⟩) := by
        rw [e92_1_q, hc, CW_w]
        refine (bind_via (inner i h0 (by omega)) _).trans ?_
        rw [← wsucc i (by omega)]
        change _ = _
        kernel_rfl
      rw [iterW_eq, hr]
      exact hj
  obtain ⟨j, hj⟩ := outer _ 1 rfl (by omega)
  refine CW_val (h := []) ?_ rfl
  rw [p92_q, CW_w]
  have hw : IntKind.wrap .i64 ((0 : Int) + 1) = ((1 : Nat) : Int) := by decide
  rw [hw]
  refine (bind_via hj _).trans ?_
  change _ = _
  kernel_rfl
theorem p95t (l : List Iv) (hs : sorted l) (hn : l.length < 50) (h12 : 12 < l.length) : ∃ x : Int, (CW G20 L20).p (.func 95) [.slice .any (l.map Iv.c), .int .i64 0, .int .i64 (l.length : Nat), .fn (.func 51) [] []] = some (.tuple [.int .i64 x, .int .i64 1]) := by
  refine ⟨((l.length / 4 * 2 : Nat) : Int), ?_⟩
  refine CW_val (h := []) ?_ rfl
  have e0 : IntKind.wrap .i64 ((l.length : Int) - 0) = (l.length : Int) := w64 (by omega) (by omega)
  have e1 : Int.tdiv (l.length : Int) 4 = ((l.length / 4 : Nat) : Int) := by rw [Int.tdiv_eq_ediv_of_nonneg (by omega)]; rfl
  have c1 : (l.length : Int) ≥ 8 := by omega
  have c2 : ¬ (l.length : Int) ≥ 50 := by omega
  have e2 : IntKind.wrap .i64 ((l.length / 4 : Nat) : Int) = ((l.length / 4 : Nat) : Int) := w64 (by omega) (by omega)
  have q1 : IntKind.wrap .i64 (((l.length / 4 : Nat) : Int) * 1) = ((l.length / 4 : Nat) : Int) := by rw [Int.mul_one]; exact e2
  have q2 : IntKind.wrap .i64 (((l.length / 4 : Nat) : Int) * 2) = ((l.length / 4 * 2 : Nat) : Int) := by rw [w64 (by omega) (by omega)]; simp
  have q3 : IntKind.wrap .i64 (((l.length / 4 : Nat) : Int) * 3) = ((l.length / 4 * 3 : Nat) : Int) := by rw [w64 (by omega) (by omega)]; simp
  have z1 : IntKind.wrap .i64 (0 + ((l.length / 4 : Nat) : Int)) = ((l.length / 4 : Nat) : Int) := by rw [Int.zero_add]; exact e2
  have z2 : IntKind.wrap .i64 (0 + ((l.length / 4 * 2 : Nat) : Int)) = ((l.length / 4 * 2 : Nat) : Int) := by rw [Int.zero_add]; exact w64 (by omega) (by omega)
  have z3 : IntKind.wrap .i64 (0 + ((l.length / 4 * 3 : Nat) : Int)) = ((l.length / 4 * 3 : Nat) : Int) := by rw [Int.zero_add]; exact w64 (by omega) (by omega)
  rw [p95_q]
  simp only [cond_dec, e0, c1, c2, if_true, if_false, e1, e2, q1, q2, q3, z1, z2, z3]
  rw [h107 l hs _ _ _ (by omega) (by omega) (by omega)]
  rfl
theorem p97t (l : List Iv) (hs : sorted l) (hn : l.length < 50) (h12 : 12 < l.length) : (CW G20 L20).p (.func 97) [.slice .any (l.map Iv.c), .int .i64 0, .int .i64 (l.length : Nat), .fn (.func 51) [] []] = some (.bool true) := by
  have inner : ∀ (k i : Nat), l.length - i = k → 0 < i → i ≤ l.length → iterW (roundK G20 L20 (CW G20 L20) 97 none 5) ⟨(sp 0 141 [(0, .slice .any (l.map Iv.c)), (1, .int .i64 0), (2, .int .i64 (l.length : Nat)), (3, .fn (.func 51) [] []), (8, .bool false), (9, .int .i64 (i : Nat)), (10, .int .i64 0)]), []⟩ =
      some (.exit 2, ⟨(sp 0 141 [(0, .slice .any (l.map Iv.c)), (1, .int .i64 0), (2, .int .i64 (l.length : Nat)), (3, .fn (.func 51) [] []), (8, .bool false), (9, .int .i64 (l.length : Nat)), (10, .int .i64 0)]), []⟩) := by
    intro k
    induction k with
    | zero =>
      intro i hk h0 hi
      have : i = l.length := by omega
      subst this
      rw [iterW_eq, e97_5_q, lt_decn]; rfl
    | succ k ih =>
      intro i hk h0 hi
      have hil : i < l.length := by omega
      obtain ⟨n, n1, n2⟩ := p51 l[i] (l[i - 1]'(by omega)) (hs (i - 1) i hil (by omega))
      have hr : roundK G20 L20 (CW G20 L20) 97 none 5 ⟨(sp 0 141 [(0, .slice .any (l.map Iv.c)), (1, .int .i64 0), (2, .int .i64 (l.length : Nat)), (3, .fn (.func 51) [] []), (8, .bool false), (9, .int .i64 (i : Nat)), (10, .int .i64 0)]), []⟩ = some (.normal, ⟨(sp 0 141 [(0, .slice .any (l.map Iv.c)), (1, .int .i64 0), (2, .int .i64 (l.length : Nat)), (3, .fn (.func 51) [] []), (8, .bool false), (9, .int .i64 ((i + 1 : Nat) : Int)), (10, .int .i64 0)]), []⟩) := by
        rw [e97_5_q, lt_dec hil, wpred i h0 (by omega), getI l i hil, getI l (i - 1) (by omega)]
        simp only [asInt_i, asCells_i, uncons_c, uncons_i, isNil_i, Option.bind_some, n2, n1, cond_true, Bool.not_false, wsucc i (by omega)]
      rw [iterW_eq, hr]
      exact ih (i + 1) (by omega) (by omega) hil
  have h5 := inner _ 1 rfl (by omega) (by omega)
  have hr : iterW (roundK G20 L20 (CW G20 L20) 97 none 3) ⟨(sp 0 141 [(0, .slice .any (l.map Iv.c)), (1, .int .i64 0), (2, .int .i64 (l.length : Nat)), (3, .fn (.func 51) [] []), (8, .bool false), (9, .int .i64 ((1 : Nat) : Int)), (10, .int .i64 0)]), []⟩ =
      some (.ret, ⟨(sp 0 141 [(0, .slice .any (l.map Iv.c)), (1, .int .i64 0), (2, .int .i64 (l.length : Nat)), (3, .fn (.func 51) [] []), (8, .bool true), (9, .int .i64 (l.length : Nat)), (10, .int .i64 0)]), []⟩) := by
    have hb : ((l.length : Int) == (l.length : Int)) = true := by simp
    rw [iterW_eq, e97_3_q, CW_w]
    have hc : decide ((0 : Int) < 5) = true := by decide
    rw [hc, cond_true, bind_via h5 _]
    refine Eq.trans (b := match cond ((l.length : Int) == (l.length : Int)) (some (Ex.ret, (⟨(sp 0 141 [(0, .slice .any (l.map Iv.c)), (1, .int .i64 0), (2, .int .i64 (l.length : Nat)), (3, .fn (.func 51) [] []), (8, .bool true), (9, .int .i64 (l.length : Nat)), (10, .int .i64 0)]), []⟩ : St))) (cond (decide (IntKind.wrap .i64 ((l.length : Int) - 0) < 50)) (some (Ex.ret, (⟨(sp 0 141 [(0, .slice .any (l.map Iv.c)), (1, .int .i64 0), (2, .int .i64 (l.length : Nat)), (3, .fn (.func 51) [] []), (8, .bool false), (9, .int .i64 (l.length : Nat)), (10, .int .i64 0)]), []⟩ : St))) none) with
      | some (.normal, s') => iterW (roundK G20 L20 (CW G20 L20) 97 none 3) s'
      | some (.exit id, s') => some (.exit id, s')
      | some (.ret, s') => some (.ret, s')
      | none => none) (by kernel_rfl) ?_
    rw [hb]; rfl
  refine CW_val (h := []) ?_ rfl
  rw [p97_q, CW_w]
  have hw : IntKind.wrap .i64 ((0 : Int) + 1) = ((1 : Nat) : Int) := by decide
  rw [hw]
  refine (bind_via hr _).trans ?_
  change _ = _
  kernel_rfl
theorem p77t (l : List Iv) (hs : sorted l) (hn : l.length < 50) (m : Int) (hm : 12 < l.length → m ≠ 0) : (CW G20 L20).p (.func 77) [.slice .any (l.map Iv.c), .int .i64 0, .int .i64 (l.length : Nat), .int .i64 m, .fn (.func 51) [] []] = some (.tuple []) := by
  have e0 : IntKind.wrap .i64 ((l.length : Int) - 0) = (l.length : Int) := w64 (by omega) (by omega)
  have hr : iterW (roundK G20 L20 (CW G20 L20) 77 none 2) ⟨(sp 0 148 [(0, .slice .any (l.map Iv.c)), (1, .int .i64 0), (2, .int .i64 (l.length : Nat)), (3, .int .i64 m), (4, .fn (.func 51) [] []), (10, .bool true), (11, .bool true)]), []⟩ =
      some (.ret, ⟨(sp 0 148 [(0, .slice .any (l.map Iv.c)), (1, .int .i64 0), (2, .int .i64 (l.length : Nat)), (3, .int .i64 m), (4, .fn (.func 51) [] []), (10, .bool true), (11, .bool true)]), []⟩) := by
    rw [iterW_eq, e77_2_q, e0]
    by_cases hc : l.length ≤ 12
    · have h1 : decide ((l.length : Int) ≤ 12) = true := by simp; omega
      rw [h1, cond_true, p92t l hs hn]; rfl
    · have h1 : decide ((l.length : Int) ≤ 12) = false := by simp; omega
      have h2 : (m == 0) = false := by simpa using hm (by omega)
      obtain ⟨x, hx⟩ := p95t l hs hn (by omega)
      have h3 : ((1 : Int) == 2) = false := by decide
      have h4 : ((1 : Int) == 1) = true := by decide
      rw [h1, cond_false, h2, cond_false, hx, p97t l hs hn (by omega)]
      simp only [asTuple_i, asInt_i, asBool_i, uncons_i, isNil_i, Option.bind_some, Bool.not_true, cond_false, cond_true, h3, h4]
  refine CW_val (h := []) ?_ rfl
  rw [p77_q, CW_w]
  refine (bind_via hr _).trans ?_
  change _ = _
  kernel_rfl
theorem p50t (l : List Iv) (hs : sorted l) (hn : l.length < 50) : (CW G20 L20).p (.func 50) [.slice .any (l.map Iv.c), .fn (.func 51) [] []] = some (.tuple []) := by
  refine CW_val (h := []) ?_ rfl
  have e0 : IntKind.wrap .u64 (l.length : Int) = (l.length : Int) := by
    simp [IntKind.wrap, IntKind.bits, IntKind.signed]; omega
  rw [p50_q, List.length_map, e0, p78 _ hn]
  simp only [asInt_i, Option.bind_some]
  rw [p77t l hs hn (lenT l.length) (fun h => by unfold lenT; repeat' split <;> omega)]
  rfl
end Go.Ab
/- CloseTimes of the program, typed; conditions: valid flows, few and sorted times. -/
namespace Go.Ab
set_option linter.unusedVariables false
set_option linter.unusedSimpArgs false
set_option linter.unusedSimpArgs false
set_option linter.unusedVariables false
def mergeStep (out : List Iv) (t : Iv) : List Iv := match out.getLast? with
  | none => [t]
  | some z => if t.lo ≤ z.hi then out.dropLast ++ [⟨z.lo, if t.hi > z.hi then t.hi else z.hi⟩] else out ++ [t]
def closeP (a b : List Seg) (pos : Nat) (d : Int) : List Iv := (timesOf a b pos d).foldl mergeStep []
theorem iterW_foldlN {α σ : Type} {round : St → Option (Ex × St)} (S : Nat → σ → St) (step : σ → α → σ) (Inv : Nat → σ → Prop) (l : List α) {id : Nat}
    (h1 : ∀ (i : Nat) (hi : i < l.length) (s : σ), Inv i s → round (S i s) = some (.normal, S (i + 1) (step s l[i])) ∧ Inv (i + 1) (step s l[i]))
    (h2 : ∀ s, Inv l.length s → round (S l.length s) = some (.exit id, S l.length s)) (s : σ) (hs : Inv 0 s) :
    iterW round (S 0 s) = some (.exit id, S l.length (l.foldl step s)) ∧ Inv l.length (l.foldl step s) := by
  obtain ⟨s', e1, e2, e3⟩ := iterW_list S (fun _ s a => step s a) Inv l (ex := .exit id) (by simp) h1 h2 s hs
  rw [foldE_foldl] at e1
  cases e1
  exact ⟨e2, e3⟩
theorem mergeStep_nil (t : Iv) : mergeStep [] t = [t] := rfl
theorem mergeStep_snoc (l : List Iv) (z t : Iv) : mergeStep (l ++ [z]) t = if t.lo ≤ z.hi then l ++ [⟨z.lo, if t.hi > z.hi then t.hi else z.hi⟩] else l ++ [z] ++ [t] := by
  unfold mergeStep
  rw [List.getLast?_concat]
  simp
theorem snoc_or {α : Type} (l : List α) : l = [] ∨ ∃ l' z, l = l' ++ [z] := by
  rcases List.eq_nil_or_concat l with h | ⟨l', z, h⟩
  · exact .inl h
  · exact .inr ⟨l', z, by rw [h, List.concat_eq_append]⟩
theorem mergeStep_len (out : List Iv) (t : Iv) : (mergeStep out t).length ≤ out.length + 1 := by
  rcases snoc_or out with rfl | ⟨l, z, rfl⟩
  · simp [mergeStep]
  · rw [mergeStep_snoc]
    split <;> simp
theorem getRow_last (l : List Iv) (z : Iv) : getRow ((l ++ [z]).map Iv.c) ((l.length : Nat) : Int) 2 = some z.c := by
  rw [getRow_map Iv.c Iv.c_len (l ++ [z]) l.length (by simp)]; simp
theorem cellsAt_hi (z : Iv) : cellsAt z.c 1 1 = some [.int .i64 z.hi] := rfl
theorem arrRows3b (o0 o1 o2 : Ob) (r : List (List V)) (n : Nat) (h : n = r.length) (l : List Ob) : arrRows (o0 :: o1 :: o2 :: .arr true 2 r :: l) 3 n = some r := by subst h; simp [arrRows, hget]
theorem set_last (l : List Iv) (z : Iv) (h : Int) : List.set ((l ++ [z]).map Iv.c) l.length (splice (((l ++ [z]).map Iv.c).getD l.length []) 1 [.int .i64 h]) = (l ++ [(⟨z.lo, h⟩ : Iv)]).map Iv.c := by
  have e1 : ((l ++ [z]).map Iv.c).getD l.length [] = z.c := by simp
  rw [e1]
  have e2 : splice z.c 1 [.int .i64 h] = [.int .i64 z.lo, .int .i64 h] := rfl
  rw [e2]
  simp [List.set_append]
  rfl
set_option maxRecDepth 100000 in
theorem h21_5 (a b : List (List V)) (pos d : Int) (ts out : List Iv) (i : Nat) (hi : i < ts.length) (hts : ts.length < 50) (ho : out.length ≤ i) :
    roundK G20 L20 (CW G20 L20) 21 none 5 ⟨(sp 0 60 [(8, .arr 3 (out.map Iv.c).length 2), (19, .slice .any (ts.map Iv.c)), (20, .int .i64 ((ts.length : Nat) : Int)), (21, .int .i64 ((i : Nat) : Int))]), [.cells [.slice .any a], .cells [.slice .any b], .cells [.int .i64 pos, .int .i64 d], .arr true 2 (out.map Iv.c)]⟩ =
      some (.normal, ⟨(sp 0 60 [(8, .arr 3 ((mergeStep out ts[i]).map Iv.c).length 2), (19, .slice .any (ts.map Iv.c)), (20, .int .i64 ((ts.length : Nat) : Int)), (21, .int .i64 ((i + 1 : Nat) : Int))]), [.cells [.slice .any a], .cells [.slice .any b], .cells [.int .i64 pos, .int .i64 d], .arr true 2 ((mergeStep out ts[i]).map Iv.c)]⟩) := by
  rw [e21_5_q, lt_dec hi, getI ts i hi, wsucc i (by omega)]
  generalize ts[i] = t
  have hroom : (out.length + 1) * 16 ≤ room := by unfold room; omega
  rcases snoc_or out with rfl | ⟨l, z, rfl⟩
  · simp only [asInt_i, asBool_i, asRows_i, asCells_i, asTuple_i, asBox_i, asObCells_i, asLoop_i, uncons_i, unconsO_i, isNil_i, asPtr_i, asFn_f, asFn_y, asArr_i, asObArr_t, asObArr_f, isReady_i, isBusy_i, uncons_c, uncons_sc, arrRows_i, Option.bind_some, Option.bind_none, cond_true, cond_false, cond_dec, cond_not, List.map_nil, List.length_nil, mergeStep_nil]
    have g0 : ¬ (((0 : Nat) : Int) > 0) := by decide
    simp only [g0, if_false, if_true]
    rw [if_pos (by unfold room; omega)]
    rfl
  · have hw : IntKind.wrap .i64 ((((l ++ [z]).length : Nat) : Int) - 1) = ((l.length : Nat) : Int) := by
      rw [wpred _ (by simp) (by omega)]; simp
    have h0 : ((l ++ [z]).length : Int) > 0 := by rw [List.length_append]; simp only [List.length_cons, List.length_nil]; omega
    have h1 : (0 : Int) ≤ ((l.length : Nat) : Int) := Int.natCast_nonneg _
    have h2 : l.length < (l ++ [z]).length := by simp
    have hap : ∀ x : Iv, List.append ((l ++ [z]).map Iv.c) [[.int .i64 x.lo, .int .i64 x.hi]] = (l ++ [z] ++ [x]).map Iv.c := fun x => by simp; rfl
    simp only [asInt_i, asBool_i, asRows_i, asCells_i, asTuple_i, asBox_i, asObCells_i, asLoop_i, uncons_i, unconsO_i, isNil_i, asPtr_i, asFn_f, asFn_y, asArr_i, asObArr_t, asObArr_f, isReady_i, isBusy_i, uncons_c, uncons_sc, arrRows_i, Option.bind_some, Option.bind_none, cond_true, cond_false, cond_dec, cond_not, List.length_map, hw, h0, h1, h2, if_true, Int.toNat_natCast, arrRows3b _ _ _ ((l ++ [z]).map Iv.c) _ (List.length_map _).symm, getRow_last, cellsAt_hi, hroom, hap, set_last, mergeStep_snoc]
    by_cases hc : t.lo ≤ z.hi
    · simp only [hc, if_true, List.length_append, List.length_cons, List.length_nil]
    · simp only [hc, if_false, List.length_append, List.length_cons, List.length_nil]
set_option maxRecDepth 100000 in
theorem p21 {a b : List Seg} {pos : Nat} {d : Int} (F : Fl2 a b pos d) (hn : (pairsOf a b).length ≤ 1000000) (hs : sorted (timesOf a b pos d)) (h50 : (timesOf a b pos d).length < 50) :
    (CW G20 L20).p (.func 21) [.slice .any (a.map Seg.c), .slice .any (b.map Seg.c), .agg [.int .i64 (pos : Int), .int .i64 d]] = some (.slice .any ((closeP a b pos d).map Iv.c)) := by
  have hloop := iterW_foldlN (round := roundK G20 L20 (CW G20 L20) 21 none 5)
    (S := fun i (out : List Iv) => ⟨(sp 0 60 [(8, .arr 3 (out.map Iv.c).length 2), (19, .slice .any ((timesOf a b pos d).map Iv.c)), (20, .int .i64 (((timesOf a b pos d).length : Nat) : Int)), (21, .int .i64 ((i : Nat) : Int))]), [.cells [.slice .any (a.map Seg.c)], .cells [.slice .any (b.map Seg.c)], .cells [.int .i64 ((pos : Nat) : Int), .int .i64 d], .arr true 2 (out.map Iv.c)]⟩)
    mergeStep (fun i out => out.length ≤ i) (timesOf a b pos d) (id := 0) (fun i hi out ho => ⟨h21_5 _ _ _ _ _ out i hi h50 ho, by have := mergeStep_len out (timesOf a b pos d)[i]; omega⟩)
    (fun out _ => by rw [e21_5_q, lt_decn]; rfl) [] (Nat.le_refl _)
  have hl := hloop.1
  rw [show (timesOf a b pos d).foldl mergeStep [] = closeP a b pos d from rfl] at hl
  generalize hT : timesOf a b pos d = T at *
  generalize closeP a b pos d = R at hl ⊢
  refine CW_valH (u := .slice .any (R.map Iv.c)) (h := [.cells [.slice .any (a.map Seg.c)], .cells [.slice .any (b.map Seg.c)], .cells [.int .i64 ((pos : Nat) : Int), .int .i64 d], .arr false 2 (R.map Iv.c)]) ?_ rfl
  rw [e21_q]
  refine (bind_via (CW_run (s44_q _ _ _ _ _)) _).trans ?_
  simp only [asInt_i, asBool_i, asRows_i, asCells_i, asTuple_i, asBox_i, asObCells_i, asLoop_i, uncons_i, unconsO_i, isNil_i, asPtr_i, asFn_f, asFn_y, asArr_i, asObArr_t, asObArr_f, isReady_i, isBusy_i, uncons_c, uncons_sc, arrRows_i, Option.bind_some, Option.bind_none, cond_true, cond_false, cond_dec, cond_not]
  have h49' := h49 F hn
  rw [hT] at h49'
  refine (bind_via h49' _).trans ?_
  simp only [asInt_i, asBool_i, asRows_i, asCells_i, asTuple_i, asBox_i, asObCells_i, asLoop_i, uncons_i, unconsO_i, isNil_i, asPtr_i, asFn_f, asFn_y, asArr_i, asObArr_t, asObArr_f, isReady_i, isBusy_i, uncons_c, uncons_sc, arrRows_i, Option.bind_some, Option.bind_none, cond_true, cond_false, cond_dec, cond_not, p50t T hs h50, CW_w, List.length_map]
  refine (bind_via hl _).trans ?_
  have n8 : nth (sp 0 60 [(8, .arr 3 (R.map Iv.c).length 2), (19, .slice .any (T.map Iv.c)), (20, .int .i64 ((T.length : Nat) : Int)), (21, .int .i64 ((T.length : Nat) : Int))]) 8 = .arr 3 (R.map Iv.c).length 2 := rfl
  have n19 : nth (sp 0 60 [(8, .arr 3 (R.map Iv.c).length 2), (19, .slice .any (T.map Iv.c)), (20, .int .i64 ((T.length : Nat) : Int)), (21, .int .i64 ((T.length : Nat) : Int))]) 19 = .slice .any (T.map Iv.c) := rfl
  have n20 : nth (sp 0 60 [(8, .arr 3 (R.map Iv.c).length 2), (19, .slice .any (T.map Iv.c)), (20, .int .i64 ((T.length : Nat) : Int)), (21, .int .i64 ((T.length : Nat) : Int))]) 20 = .int .i64 ((T.length : Nat) : Int) := rfl
  have n21 : nth (sp 0 60 [(8, .arr 3 (R.map Iv.c).length 2), (19, .slice .any (T.map Iv.c)), (20, .int .i64 ((T.length : Nat) : Int)), (21, .int .i64 ((T.length : Nat) : Int))]) 21 = .int .i64 ((T.length : Nat) : Int) := rfl
  simp only [asInt_i, asRows_i, asObCells_i, uncons_i, unconsO_i, isNil_i, asArr_i, asObArr_t, Option.bind_some, cond_true, n8, n19, n20, n21, Nat.beq_refl, arrRows3]
end Go.Ab
