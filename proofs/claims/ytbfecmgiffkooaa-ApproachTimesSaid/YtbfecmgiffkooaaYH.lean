/- Classify of the program, typed; conditions: valid flows. -/
import Derived.Test.YtbfecmgiffkooaaYG
namespace Go.Ab
set_option linter.unusedSimpArgs false
set_option linter.unusedVariables false
structure CD where
  r : Int
  l : LoopA
  m : LoopA
noncomputable def R18 (a b : List Seg) (pos d : Int) (st : LoopState) (pe : Option Ex) : LoopA := ⟨st, pe, (sp 0 41 [(0, .slice .any (a.map Seg.c)), (1, .slice .any (b.map Seg.c)), (2, .agg [.int .i64 pos, .int .i64 d]), (3, .ptr 0 0), (4, .ptr 1 0), (5, .ptr 2 0), (6, .ptr 3 0), (11, .slice .any (a.map Seg.c)), (12, .slice .any (b.map Seg.c)), (13, .agg [.int .i64 pos, .int .i64 d]), (14, .fn (.func 73) [] [.ptr 4 0, .ptr 5 0, .ptr 6 0])]), 18, [15], rangeAssign GP 18 2, rangeBody GP 18 2⟩
noncomputable def R73 (a b : List Seg) (st : LoopState) (pe : Option Ex) : LoopA := ⟨st, pe, (sp 0 33 [(0, .fn (.yield 7) [] []), (1, .ptr 4 0), (2, .ptr 5 0), (3, .ptr 6 0), (4, .ptr 8 0), (6, .slice .any (a.map Seg.c)), (7, .slice .any (b.map Seg.c)), (8, .fn (.func 66) [] [.ptr 9 0, .ptr 10 0])]), 73, [9], rangeAssign GP 73 3, rangeBody GP 73 3⟩
set_option maxRecDepth 100000 in
theorem ov18_7 (pos : Nat) (d : Int) (a b : List Seg) (ha : oks a) (hb : oks b) (hA : a.length ≤ 1000000) (hB : b.length ≤ 1000000) (step : CD → Seg × Seg → CD × Bool) (Inv : List (Seg × Seg) → CD → Prop)
    (hy : ∀ (x r : Seg) (l : List (Seg × Seg)) (s : CD), x ∈ a → r ∈ b → Inv ((x, r) :: l) s → (CW G20 L20).s (.yield 11) [.agg [.int .i64 x.t, .int .i64 x.h, .slice .any (x.frm.map Iv.c), .slice .any (x.pre.map Iv.c), .slice .any (x.tube.map Iv.c), .slice .any (x.to.map Iv.c), .int .i64 r.t, .int .i64 r.h, .slice .any (r.frm.map Iv.c), .slice .any (r.pre.map Iv.c), .slice .any (r.tube.map Iv.c), .slice .any (r.to.map Iv.c), .int .i64 (if r.t > x.t then r.t else x.t), .int .i64 (if r.fin < x.fin then r.fin else x.fin)]] [.cells [.slice .any (a.map Seg.c)], .cells [.slice .any (b.map Seg.c)], .cells [.int .i64 ((pos : Nat) : Int), .int .i64 d], .cells [.int .i64 s.r], .cells [.slice .any (a.map Seg.c)], .cells [.slice .any (b.map Seg.c)], .cells [.int .i64 ((pos : Nat) : Int), .int .i64 d], .loop s.l, .cells [.fn (.yield 7) [] []], .cells [.slice .any (a.map Seg.c)], .cells [.slice .any (b.map Seg.c)], .loop s.m] = some (.bool (step s (x, r)).2, [.cells [.slice .any (a.map Seg.c)], .cells [.slice .any (b.map Seg.c)], .cells [.int .i64 ((pos : Nat) : Int), .int .i64 d], .cells [.int .i64 (step s (x, r)).1.r], .cells [.slice .any (a.map Seg.c)], .cells [.slice .any (b.map Seg.c)], .cells [.int .i64 ((pos : Nat) : Int), .int .i64 d], .loop (step s (x, r)).1.l, .cells [.fn (.yield 7) [] []], .cells [.slice .any (a.map Seg.c)], .cells [.slice .any (b.map Seg.c)], .loop (step s (x, r)).1.m]) ∧ ((step s (x, r)).2 = true → Inv l (step s (x, r)).1)) (x : Seg) (hx : x ∈ a) (first i : Nat) (rest : List (Seg × Seg)) :
    ∀ (k : List Seg) (j : Nat) (s : CD), (b.drop first).drop j = k → j ≤ (b.drop first).length → Inv (((meetB x.fin k).map fun r => (x, r)) ++ rest) s →
    ∃ e j', iterW (roundK G20 L20 (CW G20 L20) 66 none 7) ⟨(sp 0 63 [(0, .fn (.yield 11) [] []), (2, .ptr 10 0), (4, .int .i64 ((first : Nat) : Int)), (6, .box [.int .i64 x.t, .int .i64 x.h, .slice .any (x.frm.map Iv.c), .slice .any (x.pre.map Iv.c), .slice .any (x.tube.map Iv.c), .slice .any (x.to.map Iv.c)]), (9, .slice .any (a.map Seg.c)), (10, .int .i64 ((a.length : Nat) : Int)), (11, .int .i64 ((i : Nat) : Int)), (33, .slice .any ((b.drop first).map Seg.c)), (34, .int .i64 (((b.drop first).length : Nat) : Int)), (35, .int .i64 ((j : Nat) : Int))]), [.cells [.slice .any (a.map Seg.c)], .cells [.slice .any (b.map Seg.c)], .cells [.int .i64 ((pos : Nat) : Int), .int .i64 d], .cells [.int .i64 s.r], .cells [.slice .any (a.map Seg.c)], .cells [.slice .any (b.map Seg.c)], .cells [.int .i64 ((pos : Nat) : Int), .int .i64 d], .loop s.l, .cells [.fn (.yield 7) [] []], .cells [.slice .any (a.map Seg.c)], .cells [.slice .any (b.map Seg.c)], .loop s.m]⟩ = some (e, ⟨(sp 0 63 [(0, .fn (.yield 11) [] []), (2, .ptr 10 0), (4, .int .i64 ((first : Nat) : Int)), (6, .box [.int .i64 x.t, .int .i64 x.h, .slice .any (x.frm.map Iv.c), .slice .any (x.pre.map Iv.c), .slice .any (x.tube.map Iv.c), .slice .any (x.to.map Iv.c)]), (9, .slice .any (a.map Seg.c)), (10, .int .i64 ((a.length : Nat) : Int)), (11, .int .i64 ((i : Nat) : Int)), (33, .slice .any ((b.drop first).map Seg.c)), (34, .int .i64 (((b.drop first).length : Nat) : Int)), (35, .int .i64 ((j' : Nat) : Int))]), [.cells [.slice .any (a.map Seg.c)], .cells [.slice .any (b.map Seg.c)], .cells [.int .i64 ((pos : Nat) : Int), .int .i64 d], .cells [.int .i64 (runP step s ((meetB x.fin k).map fun r => (x, r))).1.r], .cells [.slice .any (a.map Seg.c)], .cells [.slice .any (b.map Seg.c)], .cells [.int .i64 ((pos : Nat) : Int), .int .i64 d], .loop (runP step s ((meetB x.fin k).map fun r => (x, r))).1.l, .cells [.fn (.yield 7) [] []], .cells [.slice .any (a.map Seg.c)], .cells [.slice .any (b.map Seg.c)], .loop (runP step s ((meetB x.fin k).map fun r => (x, r))).1.m]⟩) ∧ ((runP step s ((meetB x.fin k).map fun r => (x, r))).2 = true → e = .exit 4 ∨ e = .exit 1) ∧ ((runP step s ((meetB x.fin k).map fun r => (x, r))).2 = false → e = .ret) ∧ ((runP step s ((meetB x.fin k).map fun r => (x, r))).2 = true → Inv rest (runP step s ((meetB x.fin k).map fun r => (x, r))).1) := by
  have hxo := ha x hx
  have hlen : (b.drop first).length ≤ 1000000 := by rw [List.length_drop]; omega
  intro k
  induction k with
  | nil =>
    intro j s hk hj hI
    have hjl : j = (b.drop first).length := by have := List.drop_eq_nil_iff.1 hk; omega
    subst hjl
    refine ⟨.exit 4, (b.drop first).length, ?_, fun _ => .inl rfl, (fun h => by cases h), fun _ => hI⟩
    rw [iterW_eq]
    simp only [e66_7_v1, lt_decn, cond_false, meetB, List.takeWhile_nil, List.map_nil, runP]
  | cons r k ih =>
    intro j s hk hj hI
    have hil : j < (b.drop first).length := by
      apply Nat.lt_of_not_le
      intro hle
      rw [List.drop_eq_nil_iff.2 hle] at hk; cases hk
    have hd := List.drop_eq_getElem_cons hil
    rw [hk] at hd
    injection hd with hr hk'
    have hrm : r ∈ b := by rw [hr]; exact List.mem_of_mem_drop (List.getElem_mem hil)
    rw [iterW_eq]
    by_cases hc : r.t > x.fin
    · have hm : meetB x.fin (r :: k) = [] := by simp [meetB, hc]
      rw [hm] at hI ⊢
      refine ⟨.exit 1, j, ?_, fun _ => .inr rfl, (fun h => by cases h), fun _ => hI⟩
      simp only [e66_7_v1, lt_dec hil, getS _ j hil, ← hr, asInt_i, asBool_i, asRows_i, asCells_i, asTuple_i, asBox_i, asObCells_i, asLoop_i, uncons_i, unconsO_i, isNil_i, asPtr_i, asFn_f, asFn_y, asArr_i, asObArr_t, asObArr_f, isReady_i, isBusy_i, uncons_c, uncons_sc, arrRows_i, Option.bind_some, Option.bind_none, cond_true, cond_false, cond_dec, cond_not, p37 x hxo, hc, if_true, List.map_nil, runP]
    · have hm : meetB x.fin (r :: k) = r :: meetB x.fin k := by simp [meetB, hc]
      have hI2 := hI
      rw [hm] at hI2
      obtain ⟨y1, y2⟩ := hy x r (((meetB x.fin k).map fun r => (x, r)) ++ rest) s hx hrm hI2
      cases hst : (step s (x, r)).2 with
      | true =>
        obtain ⟨e, j', g1, g2, g3, g4⟩ := ih (j + 1) (step s (x, r)).1 hk'.symm (by omega) (y2 hst)
        have hrun : runP step s ((meetB x.fin (r :: k)).map fun r => (x, r)) = runP step (step s (x, r)).1 ((meetB x.fin k).map fun r => (x, r)) := by rw [hm]; simp only [List.map_cons, runP, hst]
        rw [hrun]
        refine ⟨e, j', ?_, g2, g3, g4⟩
        rw [hst] at y1
        simp only [e66_7_v1, lt_dec hil, getS _ j hil, ← hr, asInt_i, asBool_i, asRows_i, asCells_i, asTuple_i, asBox_i, asObCells_i, asLoop_i, uncons_i, unconsO_i, isNil_i, asPtr_i, asFn_f, asFn_y, asArr_i, asObArr_t, asObArr_f, isReady_i, isBusy_i, uncons_c, uncons_sc, arrRows_i, Option.bind_some, Option.bind_none, cond_true, cond_false, cond_dec, cond_not, p37 x hxo, p37 r (hb r hrm), hc, if_false, y1, Bool.not_true, wsucc j (by omega)]
        exact g1
      | false =>
        have hrun : runP step s ((meetB x.fin (r :: k)).map fun r => (x, r)) = ((step s (x, r)).1, false) := by rw [hm]; simp only [List.map_cons, runP, hst]
        rw [hrun]
        rw [hst] at y1
        refine ⟨.ret, j, ?_, (fun h => by cases h), fun _ => rfl, fun h => by cases h⟩
        simp only [e66_7_v1, lt_dec hil, getS _ j hil, ← hr, asInt_i, asBool_i, asRows_i, asCells_i, asTuple_i, asBox_i, asObCells_i, asLoop_i, uncons_i, unconsO_i, isNil_i, asPtr_i, asFn_f, asFn_y, asArr_i, asObArr_t, asObArr_f, isReady_i, isBusy_i, uncons_c, uncons_sc, arrRows_i, Option.bind_some, Option.bind_none, cond_true, cond_false, cond_dec, cond_not, p37 x hxo, p37 r (hb r hrm), hc, if_false, y1, Bool.not_false]

theorem ov18_4 (pos : Nat) (d : Int) (a b : List Seg) (hb : oks b) (hB : b.length ≤ 1000000) (x : Seg) (i : Nat) (s : CD) :
    ∀ (k : List Seg) (first : Nat), b.drop first = k → first ≤ b.length →
    iterW (roundK G20 L20 (CW G20 L20) 66 none 4) ⟨(sp 0 63 [(0, .fn (.yield 11) [] []), (2, .ptr 10 0), (4, .int .i64 ((first : Nat) : Int)), (6, .box [.int .i64 x.t, .int .i64 x.h, .slice .any (x.frm.map Iv.c), .slice .any (x.pre.map Iv.c), .slice .any (x.tube.map Iv.c), .slice .any (x.to.map Iv.c)]), (9, .slice .any (a.map Seg.c)), (10, .int .i64 ((a.length : Nat) : Int)), (11, .int .i64 ((i : Nat) : Int))]), [.cells [.slice .any (a.map Seg.c)], .cells [.slice .any (b.map Seg.c)], .cells [.int .i64 ((pos : Nat) : Int), .int .i64 d], .cells [.int .i64 s.r], .cells [.slice .any (a.map Seg.c)], .cells [.slice .any (b.map Seg.c)], .cells [.int .i64 ((pos : Nat) : Int), .int .i64 d], .loop s.l, .cells [.fn (.yield 7) [] []], .cells [.slice .any (a.map Seg.c)], .cells [.slice .any (b.map Seg.c)], .loop s.m]⟩ = some (.exit 2, ⟨(sp 0 63 [(0, .fn (.yield 11) [] []), (2, .ptr 10 0), (4, .int .i64 (((b.length - (skipB x.t k).length) : Nat) : Int)), (6, .box [.int .i64 x.t, .int .i64 x.h, .slice .any (x.frm.map Iv.c), .slice .any (x.pre.map Iv.c), .slice .any (x.tube.map Iv.c), .slice .any (x.to.map Iv.c)]), (9, .slice .any (a.map Seg.c)), (10, .int .i64 ((a.length : Nat) : Int)), (11, .int .i64 ((i : Nat) : Int))]), [.cells [.slice .any (a.map Seg.c)], .cells [.slice .any (b.map Seg.c)], .cells [.int .i64 ((pos : Nat) : Int), .int .i64 d], .cells [.int .i64 s.r], .cells [.slice .any (a.map Seg.c)], .cells [.slice .any (b.map Seg.c)], .cells [.int .i64 ((pos : Nat) : Int), .int .i64 d], .loop s.l, .cells [.fn (.yield 7) [] []], .cells [.slice .any (a.map Seg.c)], .cells [.slice .any (b.map Seg.c)], .loop s.m]⟩) := by
  intro k
  induction k with
  | nil =>
    intro first hk hf
    have hjl : first = b.length := by have := List.drop_eq_nil_iff.1 hk; omega
    subst hjl
    rw [iterW_eq]
    simp only [e66_4_v1, List.length_map, lt_decn, cond_false, skipB, List.dropWhile_nil, List.length_nil, Nat.sub_zero]
  | cons r k ih =>
    intro first hk hf
    have hil : first < b.length := by
      apply Nat.lt_of_not_le
      intro hle
      rw [List.drop_eq_nil_iff.2 hle] at hk; cases hk
    have hd := List.drop_eq_getElem_cons hil
    have hlk : (b.drop first).length = (r :: k).length := by rw [hk]
    rw [hk] at hd
    injection hd with hr hk'
    have hrm : r ∈ b := by rw [hr]; exact List.getElem_mem hil
    rw [iterW_eq]
    by_cases hc : r.fin < x.t
    · have hs : skipB x.t (r :: k) = skipB x.t k := by simp [skipB, hc]
      rw [hs]
      simp only [e66_4_v1, List.length_map, lt_dec hil, getS _ first hil, ← hr, asInt_i, asBool_i, asRows_i, asCells_i, asTuple_i, asBox_i, asObCells_i, asLoop_i, uncons_i, unconsO_i, isNil_i, asPtr_i, asFn_f, asFn_y, asArr_i, asObArr_t, asObArr_f, isReady_i, isBusy_i, uncons_c, uncons_sc, arrRows_i, Option.bind_some, Option.bind_none, cond_true, cond_false, cond_dec, cond_not, p37 r (hb r hrm), hc, if_true, wsucc first (by omega)]
      exact ih (first + 1) hk'.symm hil
    · have hs : skipB x.t (r :: k) = r :: k := by simp [skipB, hc]
      have he : b.length - (skipB x.t (r :: k)).length = first := by rw [hs, ← hlk, List.length_drop]; omega
      rw [he]
      simp only [e66_4_v1, List.length_map, lt_dec hil, getS _ first hil, ← hr, asInt_i, asBool_i, asRows_i, asCells_i, asTuple_i, asBox_i, asObCells_i, asLoop_i, uncons_i, unconsO_i, isNil_i, asPtr_i, asFn_f, asFn_y, asArr_i, asObArr_t, asObArr_f, isReady_i, isBusy_i, uncons_c, uncons_sc, arrRows_i, Option.bind_some, Option.bind_none, cond_true, cond_false, cond_dec, cond_not, p37 r (hb r hrm), hc, if_false]

set_option maxRecDepth 100000 in
theorem ov18_2 (pos : Nat) (d : Int) (a b : List Seg) (ha : oks a) (hb : oks b) (hA : a.length ≤ 1000000) (hB : b.length ≤ 1000000) (step : CD → Seg × Seg → CD × Bool) (Inv : List (Seg × Seg) → CD → Prop)
    (hy : ∀ (x r : Seg) (l : List (Seg × Seg)) (s : CD), x ∈ a → r ∈ b → Inv ((x, r) :: l) s → (CW G20 L20).s (.yield 11) [.agg [.int .i64 x.t, .int .i64 x.h, .slice .any (x.frm.map Iv.c), .slice .any (x.pre.map Iv.c), .slice .any (x.tube.map Iv.c), .slice .any (x.to.map Iv.c), .int .i64 r.t, .int .i64 r.h, .slice .any (r.frm.map Iv.c), .slice .any (r.pre.map Iv.c), .slice .any (r.tube.map Iv.c), .slice .any (r.to.map Iv.c), .int .i64 (if r.t > x.t then r.t else x.t), .int .i64 (if r.fin < x.fin then r.fin else x.fin)]] [.cells [.slice .any (a.map Seg.c)], .cells [.slice .any (b.map Seg.c)], .cells [.int .i64 ((pos : Nat) : Int), .int .i64 d], .cells [.int .i64 s.r], .cells [.slice .any (a.map Seg.c)], .cells [.slice .any (b.map Seg.c)], .cells [.int .i64 ((pos : Nat) : Int), .int .i64 d], .loop s.l, .cells [.fn (.yield 7) [] []], .cells [.slice .any (a.map Seg.c)], .cells [.slice .any (b.map Seg.c)], .loop s.m] = some (.bool (step s (x, r)).2, [.cells [.slice .any (a.map Seg.c)], .cells [.slice .any (b.map Seg.c)], .cells [.int .i64 ((pos : Nat) : Int), .int .i64 d], .cells [.int .i64 (step s (x, r)).1.r], .cells [.slice .any (a.map Seg.c)], .cells [.slice .any (b.map Seg.c)], .cells [.int .i64 ((pos : Nat) : Int), .int .i64 d], .loop (step s (x, r)).1.l, .cells [.fn (.yield 7) [] []], .cells [.slice .any (a.map Seg.c)], .cells [.slice .any (b.map Seg.c)], .loop (step s (x, r)).1.m]) ∧ ((step s (x, r)).2 = true → Inv l (step s (x, r)).1)) :
    ∀ (k : List Seg) (i first : Nat) (s : CD), a.drop i = k → i ≤ a.length → first ≤ b.length → Inv (pairsOf k (b.drop first)) s →
    ∃ e i' f', iterW (roundK G20 L20 (CW G20 L20) 66 none 2) ⟨(sp 0 63 [(0, .fn (.yield 11) [] []), (2, .ptr 10 0), (4, .int .i64 ((first : Nat) : Int)), (9, .slice .any (a.map Seg.c)), (10, .int .i64 ((a.length : Nat) : Int)), (11, .int .i64 ((i : Nat) : Int))]), [.cells [.slice .any (a.map Seg.c)], .cells [.slice .any (b.map Seg.c)], .cells [.int .i64 ((pos : Nat) : Int), .int .i64 d], .cells [.int .i64 s.r], .cells [.slice .any (a.map Seg.c)], .cells [.slice .any (b.map Seg.c)], .cells [.int .i64 ((pos : Nat) : Int), .int .i64 d], .loop s.l, .cells [.fn (.yield 7) [] []], .cells [.slice .any (a.map Seg.c)], .cells [.slice .any (b.map Seg.c)], .loop s.m]⟩ = some (e, ⟨(sp 0 63 [(0, .fn (.yield 11) [] []), (2, .ptr 10 0), (4, .int .i64 ((f' : Nat) : Int)), (9, .slice .any (a.map Seg.c)), (10, .int .i64 ((a.length : Nat) : Int)), (11, .int .i64 ((i' : Nat) : Int))]), [.cells [.slice .any (a.map Seg.c)], .cells [.slice .any (b.map Seg.c)], .cells [.int .i64 ((pos : Nat) : Int), .int .i64 d], .cells [.int .i64 (runP step s (pairsOf k (b.drop first))).1.r], .cells [.slice .any (a.map Seg.c)], .cells [.slice .any (b.map Seg.c)], .cells [.int .i64 ((pos : Nat) : Int), .int .i64 d], .loop (runP step s (pairsOf k (b.drop first))).1.l, .cells [.fn (.yield 7) [] []], .cells [.slice .any (a.map Seg.c)], .cells [.slice .any (b.map Seg.c)], .loop (runP step s (pairsOf k (b.drop first))).1.m]⟩) ∧ ((runP step s (pairsOf k (b.drop first))).2 = true → e = .exit 0) ∧ ((runP step s (pairsOf k (b.drop first))).2 = false → e = .ret) ∧ ((runP step s (pairsOf k (b.drop first))).2 = true → Inv [] (runP step s (pairsOf k (b.drop first))).1) := by
  intro k
  induction k with
  | nil =>
    intro i first s hk hj hf hI
    have hjl : i = a.length := by have := List.drop_eq_nil_iff.1 hk; omega
    subst hjl
    refine ⟨.exit 0, a.length, first, ?_, fun _ => rfl, (fun h => by cases h), fun _ => hI⟩
    rw [iterW_eq]
    rw [e66_2_v1]
    simp only [lt_decn, cond_false, pairsOf, runP]
  | cons x k ih =>
    intro i first s hk hj hf hI
    have hil : i < a.length := by
      apply Nat.lt_of_not_le
      intro hle
      rw [List.drop_eq_nil_iff.2 hle] at hk; cases hk
    have hd := List.drop_eq_getElem_cons hil
    rw [hk] at hd
    injection hd with hr hk'
    have hxm : x ∈ a := by rw [hr]; exact List.getElem_mem hil
    have h4 := ov18_4 pos d a b hb hB x i s (b.drop first) first rfl hf
    have hdr := drop_skip hf x.t
    generalize hnf : b.length - (skipB x.t (b.drop first)).length = nf at h4 hdr
    have hnl : nf ≤ b.length := by omega
    have hpo : pairsOf (x :: k) (b.drop first) = (meetB x.fin (b.drop nf)).map (fun r => (x, r)) ++ pairsOf k (b.drop nf) := by simp only [pairsOf, hdr]
    rw [hpo] at hI
    obtain ⟨e, j', g1, g2, g3, g4⟩ := ov18_7 pos d a b ha hb hA hB step Inv hy x hxm nf i (pairsOf k (b.drop nf)) (b.drop nf) 0 s rfl (Nat.zero_le _) hI
    rw [hpo, runP_append]
    generalize hrn : runP step s ((meetB x.fin (b.drop nf)).map fun r => (x, r)) = rn at g1 g2 g3 g4
    obtain ⟨s', go⟩ := rn
    simp only at g1 g2 g3 g4
    have hz : ((0 : Nat) : Int) = 0 := rfl
    rw [hz] at g1
    have hnn : (0 : Int) ≤ (nf : Int) := Int.natCast_nonneg nf
    have n7_0 : nth (sp 0 63 [(0, .fn (.yield 11) [] []), (2, .ptr 10 0), (4, .int .i64 ((nf : Nat) : Int)), (6, .box [.int .i64 x.t, .int .i64 x.h, .slice .any (x.frm.map Iv.c), .slice .any (x.pre.map Iv.c), .slice .any (x.tube.map Iv.c), .slice .any (x.to.map Iv.c)]), (9, .slice .any (a.map Seg.c)), (10, .int .i64 ((a.length : Nat) : Int)), (11, .int .i64 ((i : Nat) : Int))]) 0 = .fn (.yield 11) [] [] := rfl
    have n7_2 : nth (sp 0 63 [(0, .fn (.yield 11) [] []), (2, .ptr 10 0), (4, .int .i64 ((nf : Nat) : Int)), (6, .box [.int .i64 x.t, .int .i64 x.h, .slice .any (x.frm.map Iv.c), .slice .any (x.pre.map Iv.c), .slice .any (x.tube.map Iv.c), .slice .any (x.to.map Iv.c)]), (9, .slice .any (a.map Seg.c)), (10, .int .i64 ((a.length : Nat) : Int)), (11, .int .i64 ((i : Nat) : Int))]) 2 = .ptr 10 0 := rfl
    have n7_4 : nth (sp 0 63 [(0, .fn (.yield 11) [] []), (2, .ptr 10 0), (4, .int .i64 ((nf : Nat) : Int)), (6, .box [.int .i64 x.t, .int .i64 x.h, .slice .any (x.frm.map Iv.c), .slice .any (x.pre.map Iv.c), .slice .any (x.tube.map Iv.c), .slice .any (x.to.map Iv.c)]), (9, .slice .any (a.map Seg.c)), (10, .int .i64 ((a.length : Nat) : Int)), (11, .int .i64 ((i : Nat) : Int))]) 4 = .int .i64 ((nf : Nat) : Int) := rfl
    have n7_6 : nth (sp 0 63 [(0, .fn (.yield 11) [] []), (2, .ptr 10 0), (4, .int .i64 ((nf : Nat) : Int)), (6, .box [.int .i64 x.t, .int .i64 x.h, .slice .any (x.frm.map Iv.c), .slice .any (x.pre.map Iv.c), .slice .any (x.tube.map Iv.c), .slice .any (x.to.map Iv.c)]), (9, .slice .any (a.map Seg.c)), (10, .int .i64 ((a.length : Nat) : Int)), (11, .int .i64 ((i : Nat) : Int))]) 6 = .box [.int .i64 x.t, .int .i64 x.h, .slice .any (x.frm.map Iv.c), .slice .any (x.pre.map Iv.c), .slice .any (x.tube.map Iv.c), .slice .any (x.to.map Iv.c)] := rfl
    have n7_9 : nth (sp 0 63 [(0, .fn (.yield 11) [] []), (2, .ptr 10 0), (4, .int .i64 ((nf : Nat) : Int)), (6, .box [.int .i64 x.t, .int .i64 x.h, .slice .any (x.frm.map Iv.c), .slice .any (x.pre.map Iv.c), .slice .any (x.tube.map Iv.c), .slice .any (x.to.map Iv.c)]), (9, .slice .any (a.map Seg.c)), (10, .int .i64 ((a.length : Nat) : Int)), (11, .int .i64 ((i : Nat) : Int))]) 9 = .slice .any (a.map Seg.c) := rfl
    have n7_10 : nth (sp 0 63 [(0, .fn (.yield 11) [] []), (2, .ptr 10 0), (4, .int .i64 ((nf : Nat) : Int)), (6, .box [.int .i64 x.t, .int .i64 x.h, .slice .any (x.frm.map Iv.c), .slice .any (x.pre.map Iv.c), .slice .any (x.tube.map Iv.c), .slice .any (x.to.map Iv.c)]), (9, .slice .any (a.map Seg.c)), (10, .int .i64 ((a.length : Nat) : Int)), (11, .int .i64 ((i : Nat) : Int))]) 10 = .int .i64 ((a.length : Nat) : Int) := rfl
    have n7_11 : nth (sp 0 63 [(0, .fn (.yield 11) [] []), (2, .ptr 10 0), (4, .int .i64 ((nf : Nat) : Int)), (6, .box [.int .i64 x.t, .int .i64 x.h, .slice .any (x.frm.map Iv.c), .slice .any (x.pre.map Iv.c), .slice .any (x.tube.map Iv.c), .slice .any (x.to.map Iv.c)]), (9, .slice .any (a.map Seg.c)), (10, .int .i64 ((a.length : Nat) : Int)), (11, .int .i64 ((i : Nat) : Int))]) 11 = .int .i64 ((i : Nat) : Int) := rfl
    have n10_0 : nth (sp 0 63 [(0, .fn (.yield 11) [] []), (2, .ptr 10 0), (4, .int .i64 ((nf : Nat) : Int)), (6, .box [.int .i64 x.t, .int .i64 x.h, .slice .any (x.frm.map Iv.c), .slice .any (x.pre.map Iv.c), .slice .any (x.tube.map Iv.c), .slice .any (x.to.map Iv.c)]), (9, .slice .any (a.map Seg.c)), (10, .int .i64 ((a.length : Nat) : Int)), (11, .int .i64 ((i : Nat) : Int)), (33, .slice .any ((b.drop nf).map Seg.c)), (34, .int .i64 (((b.drop nf).length : Nat) : Int)), (35, .int .i64 ((j' : Nat) : Int))]) 0 = .fn (.yield 11) [] [] := rfl
    have n10_2 : nth (sp 0 63 [(0, .fn (.yield 11) [] []), (2, .ptr 10 0), (4, .int .i64 ((nf : Nat) : Int)), (6, .box [.int .i64 x.t, .int .i64 x.h, .slice .any (x.frm.map Iv.c), .slice .any (x.pre.map Iv.c), .slice .any (x.tube.map Iv.c), .slice .any (x.to.map Iv.c)]), (9, .slice .any (a.map Seg.c)), (10, .int .i64 ((a.length : Nat) : Int)), (11, .int .i64 ((i : Nat) : Int)), (33, .slice .any ((b.drop nf).map Seg.c)), (34, .int .i64 (((b.drop nf).length : Nat) : Int)), (35, .int .i64 ((j' : Nat) : Int))]) 2 = .ptr 10 0 := rfl
    have n10_4 : nth (sp 0 63 [(0, .fn (.yield 11) [] []), (2, .ptr 10 0), (4, .int .i64 ((nf : Nat) : Int)), (6, .box [.int .i64 x.t, .int .i64 x.h, .slice .any (x.frm.map Iv.c), .slice .any (x.pre.map Iv.c), .slice .any (x.tube.map Iv.c), .slice .any (x.to.map Iv.c)]), (9, .slice .any (a.map Seg.c)), (10, .int .i64 ((a.length : Nat) : Int)), (11, .int .i64 ((i : Nat) : Int)), (33, .slice .any ((b.drop nf).map Seg.c)), (34, .int .i64 (((b.drop nf).length : Nat) : Int)), (35, .int .i64 ((j' : Nat) : Int))]) 4 = .int .i64 ((nf : Nat) : Int) := rfl
    have n10_6 : nth (sp 0 63 [(0, .fn (.yield 11) [] []), (2, .ptr 10 0), (4, .int .i64 ((nf : Nat) : Int)), (6, .box [.int .i64 x.t, .int .i64 x.h, .slice .any (x.frm.map Iv.c), .slice .any (x.pre.map Iv.c), .slice .any (x.tube.map Iv.c), .slice .any (x.to.map Iv.c)]), (9, .slice .any (a.map Seg.c)), (10, .int .i64 ((a.length : Nat) : Int)), (11, .int .i64 ((i : Nat) : Int)), (33, .slice .any ((b.drop nf).map Seg.c)), (34, .int .i64 (((b.drop nf).length : Nat) : Int)), (35, .int .i64 ((j' : Nat) : Int))]) 6 = .box [.int .i64 x.t, .int .i64 x.h, .slice .any (x.frm.map Iv.c), .slice .any (x.pre.map Iv.c), .slice .any (x.tube.map Iv.c), .slice .any (x.to.map Iv.c)] := rfl
    have n10_9 : nth (sp 0 63 [(0, .fn (.yield 11) [] []), (2, .ptr 10 0), (4, .int .i64 ((nf : Nat) : Int)), (6, .box [.int .i64 x.t, .int .i64 x.h, .slice .any (x.frm.map Iv.c), .slice .any (x.pre.map Iv.c), .slice .any (x.tube.map Iv.c), .slice .any (x.to.map Iv.c)]), (9, .slice .any (a.map Seg.c)), (10, .int .i64 ((a.length : Nat) : Int)), (11, .int .i64 ((i : Nat) : Int)), (33, .slice .any ((b.drop nf).map Seg.c)), (34, .int .i64 (((b.drop nf).length : Nat) : Int)), (35, .int .i64 ((j' : Nat) : Int))]) 9 = .slice .any (a.map Seg.c) := rfl
    have n10_10 : nth (sp 0 63 [(0, .fn (.yield 11) [] []), (2, .ptr 10 0), (4, .int .i64 ((nf : Nat) : Int)), (6, .box [.int .i64 x.t, .int .i64 x.h, .slice .any (x.frm.map Iv.c), .slice .any (x.pre.map Iv.c), .slice .any (x.tube.map Iv.c), .slice .any (x.to.map Iv.c)]), (9, .slice .any (a.map Seg.c)), (10, .int .i64 ((a.length : Nat) : Int)), (11, .int .i64 ((i : Nat) : Int)), (33, .slice .any ((b.drop nf).map Seg.c)), (34, .int .i64 (((b.drop nf).length : Nat) : Int)), (35, .int .i64 ((j' : Nat) : Int))]) 10 = .int .i64 ((a.length : Nat) : Int) := rfl
    have n10_11 : nth (sp 0 63 [(0, .fn (.yield 11) [] []), (2, .ptr 10 0), (4, .int .i64 ((nf : Nat) : Int)), (6, .box [.int .i64 x.t, .int .i64 x.h, .slice .any (x.frm.map Iv.c), .slice .any (x.pre.map Iv.c), .slice .any (x.tube.map Iv.c), .slice .any (x.to.map Iv.c)]), (9, .slice .any (a.map Seg.c)), (10, .int .i64 ((a.length : Nat) : Int)), (11, .int .i64 ((i : Nat) : Int)), (33, .slice .any ((b.drop nf).map Seg.c)), (34, .int .i64 (((b.drop nf).length : Nat) : Int)), (35, .int .i64 ((j' : Nat) : Int))]) 11 = .int .i64 ((i : Nat) : Int) := rfl
    have n10_33 : nth (sp 0 63 [(0, .fn (.yield 11) [] []), (2, .ptr 10 0), (4, .int .i64 ((nf : Nat) : Int)), (6, .box [.int .i64 x.t, .int .i64 x.h, .slice .any (x.frm.map Iv.c), .slice .any (x.pre.map Iv.c), .slice .any (x.tube.map Iv.c), .slice .any (x.to.map Iv.c)]), (9, .slice .any (a.map Seg.c)), (10, .int .i64 ((a.length : Nat) : Int)), (11, .int .i64 ((i : Nat) : Int)), (33, .slice .any ((b.drop nf).map Seg.c)), (34, .int .i64 (((b.drop nf).length : Nat) : Int)), (35, .int .i64 ((j' : Nat) : Int))]) 33 = .slice .any ((b.drop nf).map Seg.c) := rfl
    have n10_34 : nth (sp 0 63 [(0, .fn (.yield 11) [] []), (2, .ptr 10 0), (4, .int .i64 ((nf : Nat) : Int)), (6, .box [.int .i64 x.t, .int .i64 x.h, .slice .any (x.frm.map Iv.c), .slice .any (x.pre.map Iv.c), .slice .any (x.tube.map Iv.c), .slice .any (x.to.map Iv.c)]), (9, .slice .any (a.map Seg.c)), (10, .int .i64 ((a.length : Nat) : Int)), (11, .int .i64 ((i : Nat) : Int)), (33, .slice .any ((b.drop nf).map Seg.c)), (34, .int .i64 (((b.drop nf).length : Nat) : Int)), (35, .int .i64 ((j' : Nat) : Int))]) 34 = .int .i64 (((b.drop nf).length : Nat) : Int) := rfl
    have n10_35 : nth (sp 0 63 [(0, .fn (.yield 11) [] []), (2, .ptr 10 0), (4, .int .i64 ((nf : Nat) : Int)), (6, .box [.int .i64 x.t, .int .i64 x.h, .slice .any (x.frm.map Iv.c), .slice .any (x.pre.map Iv.c), .slice .any (x.tube.map Iv.c), .slice .any (x.to.map Iv.c)]), (9, .slice .any (a.map Seg.c)), (10, .int .i64 ((a.length : Nat) : Int)), (11, .int .i64 ((i : Nat) : Int)), (33, .slice .any ((b.drop nf).map Seg.c)), (34, .int .i64 (((b.drop nf).length : Nat) : Int)), (35, .int .i64 ((j' : Nat) : Int))]) 35 = .int .i64 ((j' : Nat) : Int) := rfl
    rw [iterW_eq]
    cases go with
    | true =>
      obtain ⟨e2, i', f', k1, k2, k3, k4⟩ := ih (i + 1) nf s' hk'.symm hil hnl (g4 rfl)
      simp only
      refine ⟨e2, i', f', ?_, k2, k3, k4⟩
      rcases g2 rfl with rfl | rfl
      · rw [e66_2_v1]
        simp only [lt_dec hil, getS _ i hil, ← hr, asInt_i, asBool_i, asRows_i, asCells_i, asTuple_i, asBox_i, asObCells_i, asLoop_i, uncons_i, unconsO_i, isNil_i, asPtr_i, asFn_f, asFn_y, asArr_i, asObArr_t, asObArr_f, isReady_i, isBusy_i, uncons_c, uncons_sc, arrRows_i, Option.bind_some, Option.bind_none, cond_true, cond_false, cond_dec, cond_not, CW_w, h4, n7_0, n7_2, n7_4, n7_6, n7_9, n7_10, n7_11, Nat.beq_refl, headIs_map, hnn, hnl, if_true, Int.toNat_natCast, List.length_map, List.take_length, ← List.map_take, ← List.map_drop, g1, n10_0, n10_2, n10_4, n10_6, n10_9, n10_10, n10_11, n10_33, n10_34, n10_35, wsucc i (by omega)]
        exact k1
      · rw [e66_2_v1]
        simp only [lt_dec hil, getS _ i hil, ← hr, asInt_i, asBool_i, asRows_i, asCells_i, asTuple_i, asBox_i, asObCells_i, asLoop_i, uncons_i, unconsO_i, isNil_i, asPtr_i, asFn_f, asFn_y, asArr_i, asObArr_t, asObArr_f, isReady_i, isBusy_i, uncons_c, uncons_sc, arrRows_i, Option.bind_some, Option.bind_none, cond_true, cond_false, cond_dec, cond_not, CW_w, h4, n7_0, n7_2, n7_4, n7_6, n7_9, n7_10, n7_11, Nat.beq_refl, headIs_map, hnn, hnl, if_true, Int.toNat_natCast, List.length_map, List.take_length, ← List.map_take, ← List.map_drop, g1, n10_0, n10_2, n10_4, n10_6, n10_9, n10_10, n10_11, n10_33, n10_34, n10_35, wsucc i (by omega), show Nat.beq 1 4 = false from rfl]
        exact k1
    | false =>
      simp only
      refine ⟨.ret, i, nf, ?_, (fun h => by cases h), fun _ => rfl, fun h => by cases h⟩
      cases g3 rfl
      rw [e66_2_v1]
      simp only [lt_dec hil, getS _ i hil, ← hr, asInt_i, asBool_i, asRows_i, asCells_i, asTuple_i, asBox_i, asObCells_i, asLoop_i, uncons_i, unconsO_i, isNil_i, asPtr_i, asFn_f, asFn_y, asArr_i, asObArr_t, asObArr_f, isReady_i, isBusy_i, uncons_c, uncons_sc, arrRows_i, Option.bind_some, Option.bind_none, cond_true, cond_false, cond_dec, cond_not, CW_w, h4, n7_0, n7_2, n7_4, n7_6, n7_9, n7_10, n7_11, Nat.beq_refl, headIs_map, hnn, hnl, if_true, Int.toNat_natCast, List.length_map, List.take_length, ← List.map_take, ← List.map_drop, g1, n10_0, n10_2, n10_4, n10_6, n10_9, n10_10, n10_11, n10_33, n10_34, n10_35]

theorem ov18 (pos : Nat) (d : Int) (a b : List Seg) (ha : oks a) (hb : oks b) (hA : a.length ≤ 1000000) (hB : b.length ≤ 1000000) (step : CD → Seg × Seg → CD × Bool) (Inv : List (Seg × Seg) → CD → Prop)
    (hy : ∀ (x r : Seg) (l : List (Seg × Seg)) (s : CD), x ∈ a → r ∈ b → Inv ((x, r) :: l) s → (CW G20 L20).s (.yield 11) [.agg [.int .i64 x.t, .int .i64 x.h, .slice .any (x.frm.map Iv.c), .slice .any (x.pre.map Iv.c), .slice .any (x.tube.map Iv.c), .slice .any (x.to.map Iv.c), .int .i64 r.t, .int .i64 r.h, .slice .any (r.frm.map Iv.c), .slice .any (r.pre.map Iv.c), .slice .any (r.tube.map Iv.c), .slice .any (r.to.map Iv.c), .int .i64 (if r.t > x.t then r.t else x.t), .int .i64 (if r.fin < x.fin then r.fin else x.fin)]] [.cells [.slice .any (a.map Seg.c)], .cells [.slice .any (b.map Seg.c)], .cells [.int .i64 ((pos : Nat) : Int), .int .i64 d], .cells [.int .i64 s.r], .cells [.slice .any (a.map Seg.c)], .cells [.slice .any (b.map Seg.c)], .cells [.int .i64 ((pos : Nat) : Int), .int .i64 d], .loop s.l, .cells [.fn (.yield 7) [] []], .cells [.slice .any (a.map Seg.c)], .cells [.slice .any (b.map Seg.c)], .loop s.m] = some (.bool (step s (x, r)).2, [.cells [.slice .any (a.map Seg.c)], .cells [.slice .any (b.map Seg.c)], .cells [.int .i64 ((pos : Nat) : Int), .int .i64 d], .cells [.int .i64 (step s (x, r)).1.r], .cells [.slice .any (a.map Seg.c)], .cells [.slice .any (b.map Seg.c)], .cells [.int .i64 ((pos : Nat) : Int), .int .i64 d], .loop (step s (x, r)).1.l, .cells [.fn (.yield 7) [] []], .cells [.slice .any (a.map Seg.c)], .cells [.slice .any (b.map Seg.c)], .loop (step s (x, r)).1.m]) ∧ ((step s (x, r)).2 = true → Inv l (step s (x, r)).1)) (s : CD) (hI : Inv (pairsOf a b) s) :
    (CW G20 L20).s (.func 66) [.fn (.yield 11) [] [], .ptr 9 0, .ptr 10 0] [.cells [.slice .any (a.map Seg.c)], .cells [.slice .any (b.map Seg.c)], .cells [.int .i64 ((pos : Nat) : Int), .int .i64 d], .cells [.int .i64 s.r], .cells [.slice .any (a.map Seg.c)], .cells [.slice .any (b.map Seg.c)], .cells [.int .i64 ((pos : Nat) : Int), .int .i64 d], .loop s.l, .cells [.fn (.yield 7) [] []], .cells [.slice .any (a.map Seg.c)], .cells [.slice .any (b.map Seg.c)], .loop s.m] = some (.tuple [], [.cells [.slice .any (a.map Seg.c)], .cells [.slice .any (b.map Seg.c)], .cells [.int .i64 ((pos : Nat) : Int), .int .i64 d], .cells [.int .i64 (runP step s (pairsOf a b)).1.r], .cells [.slice .any (a.map Seg.c)], .cells [.slice .any (b.map Seg.c)], .cells [.int .i64 ((pos : Nat) : Int), .int .i64 d], .loop (runP step s (pairsOf a b)).1.l, .cells [.fn (.yield 7) [] []], .cells [.slice .any (a.map Seg.c)], .cells [.slice .any (b.map Seg.c)], .loop (runP step s (pairsOf a b)).1.m]) ∧ ((runP step s (pairsOf a b)).2 = true → Inv [] (runP step s (pairsOf a b)).1) := by
  obtain ⟨e, i', f', g1, g2, g3, g4⟩ := ov18_2 pos d a b ha hb hA hB step Inv hy a 0 0 s rfl (Nat.zero_le _) (Nat.zero_le _) hI
  rw [List.drop_zero] at g1 g2 g3 g4
  refine ⟨CW_run ?_, g4⟩
  generalize runP step s (pairsOf a b) = rn at g1 g2 g3 g4
  obtain ⟨s', go⟩ := rn
  rw [s66_v1, CW_w, List.length_map]
  refine (bind_via g1 _).trans ?_
  cases go with
  | true => cases g2 rfl; kernel_rfl
  | false => cases g3 rfl; kernel_rfl

/-- Is a pair not separated? -/
def nears (pos : Nat) (d : Int) (p : Seg × Seg) : Bool := !sepd (p.1.tube.take pos) (p.2.tube.take pos) d
def verd (a b : List Seg) (pos : Nat) (d : Int) : Int := if (minD a b pos).1.isW = false ∧ (minD a b pos).1.hi < fl (d * d) then -1 else 0
def classP (a b : List Seg) (pos : Nat) (d : Int) : Int := cond ((pairsOf a b).any (nears pos d)) (verd a b pos d) 1
noncomputable def step18 (a b : List Seg) (pos : Nat) (d : Int) (s : CD) (p : Seg × Seg) : CD × Bool :=
  cond (nears pos d p) (⟨verd a b pos d, R18 a b pos d .done (some .ret), R73 a b .done (some .ret)⟩, false) (s, true)
theorem runP_any {σ : Type} (q : Seg × Seg → Bool) (t s : σ) : ∀ l : List (Seg × Seg), runP (fun s p => cond (q p) (t, false) (s, true)) s l = cond (l.any q) (t, false) (s, true) := by
  intro l
  induction l with
  | nil => rfl
  | cons p l ih =>
    simp only [runP, List.any_cons]
    cases q p with
    | true => rfl
    | false => simpa using ih
theorem p74_take (x r : Seg) (hx : x.ok) (hr : r.ok) (pos : Nat) (d : Int) (hd : small (d * d)) (h2 : pos ≤ x.tube.length) (h3 : pos ≤ r.tube.length) : (CW G20 L20).p (.func 74) [.slice .any ((x.tube.take pos).map Iv.c), .slice .any ((r.tube.take pos).map Iv.c), .int .i64 d] = some (.bool (sepd (x.tube.take pos) (r.tube.take pos) d)) :=
  p74 _ _ (by simp only [List.length_take]; omega) (valids_take hx.val _) (valids_take hr.val _) (few_take hx _) d hd
theorem p53_take (x r : Seg) (hx : x.ok) (hr : r.ok) (pos : Nat) (d : Int) (hd : small (d * d)) (h2 : pos ≤ x.tube.length) (h3 : pos ≤ r.tube.length) : (CW G20 L20).p (.func 53) [.slice .any ((x.tube.take pos).map Iv.c), .slice .any ((r.tube.take pos).map Iv.c), .int .i64 d] = some (.bool (sepd (x.tube.take pos) (r.tube.take pos) d)) :=
  p53 _ _ (by simp only [List.length_take]; omega) (valids_take hx.val _) (valids_take hr.val _) (few_take hx _) d hd
structure Fl2 (a b : List Seg) (pos : Nat) (d : Int) : Prop where
  ha : oks a
  hb : oks b
  hA : a.length ≤ 1000000
  hB : b.length ≤ 1000000
  hpos : long a pos ∧ long b pos
  hd : small (d * d)
set_option maxRecDepth 100000 in
/-- The body of Classify's range. -/
theorem h18_y {a b : List Seg} {pos : Nat} {d : Int} (F : Fl2 a b pos d) (r n0 n1 : Int) (l : LoopA) :
    (CW G20 L20).s (.yield 7) [.agg [.int .i64 n0, .int .i64 n1]] [.cells [.slice .any (a.map Seg.c)], .cells [.slice .any (b.map Seg.c)], .cells [.int .i64 ((pos : Nat) : Int), .int .i64 d], .cells [.int .i64 r], .cells [.slice .any (a.map Seg.c)], .cells [.slice .any (b.map Seg.c)], .cells [.int .i64 ((pos : Nat) : Int), .int .i64 d], .loop (R18 a b pos d .ready none), .cells [.fn (.yield 7) [] []], .cells [.slice .any (a.map Seg.c)], .cells [.slice .any (b.map Seg.c)], .loop l] = some (.bool false, [.cells [.slice .any (a.map Seg.c)], .cells [.slice .any (b.map Seg.c)], .cells [.int .i64 ((pos : Nat) : Int), .int .i64 d], .cells [.int .i64 (verd a b pos d)], .cells [.slice .any (a.map Seg.c)], .cells [.slice .any (b.map Seg.c)], .cells [.int .i64 ((pos : Nat) : Int), .int .i64 d], .loop (R18 a b pos d .done (some .ret)), .cells [.fn (.yield 7) [] []], .cells [.slice .any (a.map Seg.c)], .cells [.slice .any (b.map Seg.c)], .loop l]) := by
  refine CW_run ?_
  unfold R18
  rw [y18_2]
  simp only [p15 a b F.ha F.hb F.hA F.hB pos F.hpos, p45 _ _ F.hd, p46, asInt_i, asBool_i, asRows_i, asCells_i, asTuple_i, asBox_i, asObCells_i, asLoop_i, uncons_i, unconsO_i, isNil_i, asPtr_i, asFn_f, asFn_y, asArr_i, asObArr_t, asObArr_f, isReady_i, isBusy_i, uncons_c, uncons_sc, arrRows_i, Option.bind_some, Option.bind_none, cond_true, cond_false, cond_dec, cond_not, Iv.eta, verd]
  cases hw : (minD a b pos).1.isW with
  | true =>
    simp only [asInt_i, asBool_i, asRows_i, asCells_i, asTuple_i, asBox_i, asObCells_i, asLoop_i, uncons_i, unconsO_i, isNil_i, asPtr_i, asFn_f, asFn_y, asArr_i, asObArr_t, asObArr_f, isReady_i, isBusy_i, uncons_c, uncons_sc, arrRows_i, Option.bind_some, Option.bind_none, cond_true, cond_false, cond_dec, cond_not, Bool.not_true, Bool.true_eq_false, Bool.false_eq_true, false_and, if_false]
  | false =>
    simp only [asInt_i, asBool_i, asRows_i, asCells_i, asTuple_i, asBox_i, asObCells_i, asLoop_i, uncons_i, unconsO_i, isNil_i, asPtr_i, asFn_f, asFn_y, asArr_i, asObArr_t, asObArr_f, isReady_i, isBusy_i, uncons_c, uncons_sc, arrRows_i, Option.bind_some, Option.bind_none, cond_true, cond_false, cond_dec, cond_not, Bool.not_false, true_and]
    by_cases hc : (minD a b pos).1.hi < fl (d * d)
    · simp only [hc, if_true]
    · simp only [hc, if_false]
set_option maxRecDepth 100000 in
theorem h73_y {a b : List Seg} {pos : Nat} {d : Int} (F : Fl2 a b pos d) (x r : Seg) (s : CD) (hx : x.ok) (hr : r.ok) (h2 : pos ≤ x.tube.length) (h3 : pos ≤ r.tube.length) (hl : s.l = R18 a b pos d .ready none) (hm : s.m = R73 a b .ready none) :
    (CW G20 L20).s (.yield 11) [.agg [.int .i64 x.t, .int .i64 x.h, .slice .any (x.frm.map Iv.c), .slice .any (x.pre.map Iv.c), .slice .any (x.tube.map Iv.c), .slice .any (x.to.map Iv.c), .int .i64 r.t, .int .i64 r.h, .slice .any (r.frm.map Iv.c), .slice .any (r.pre.map Iv.c), .slice .any (r.tube.map Iv.c), .slice .any (r.to.map Iv.c), .int .i64 (if r.t > x.t then r.t else x.t), .int .i64 (if r.fin < x.fin then r.fin else x.fin)]] [.cells [.slice .any (a.map Seg.c)], .cells [.slice .any (b.map Seg.c)], .cells [.int .i64 ((pos : Nat) : Int), .int .i64 d], .cells [.int .i64 s.r], .cells [.slice .any (a.map Seg.c)], .cells [.slice .any (b.map Seg.c)], .cells [.int .i64 ((pos : Nat) : Int), .int .i64 d], .loop s.l, .cells [.fn (.yield 7) [] []], .cells [.slice .any (a.map Seg.c)], .cells [.slice .any (b.map Seg.c)], .loop s.m] = some (.bool (step18 a b pos d s (x, r)).2, [.cells [.slice .any (a.map Seg.c)], .cells [.slice .any (b.map Seg.c)], .cells [.int .i64 ((pos : Nat) : Int), .int .i64 d], .cells [.int .i64 (step18 a b pos d s (x, r)).1.r], .cells [.slice .any (a.map Seg.c)], .cells [.slice .any (b.map Seg.c)], .cells [.int .i64 ((pos : Nat) : Int), .int .i64 d], .loop (step18 a b pos d s (x, r)).1.l, .cells [.fn (.yield 7) [] []], .cells [.slice .any (a.map Seg.c)], .cells [.slice .any (b.map Seg.c)], .loop (step18 a b pos d s (x, r)).1.m]) := by
  refine CW_run ?_
  have h1 : (0 : Int) ≤ (pos : Int) := Int.natCast_nonneg pos
  obtain ⟨sr, sl, sm⟩ := s
  simp only at hl hm
  subst hl hm
  rw [show R73 a b .ready none = ⟨.ready, none, (R73 a b .ready none).t, 73, [9], rangeAssign GP 73 3, rangeBody GP 73 3⟩ from rfl]
  refine (y73_3 (CW G20 L20) _ _ _ _ _ _ _ _ _ _ _ _ _ _ _ _ _ _ _ _ _ _ _ _ _ _ _ _).trans ?_
  have hy := h18_y F sr (if r.t > x.t then r.t else x.t) (if r.fin < x.fin then r.fin else x.fin) ⟨.busy, none, (R73 a b .ready none).t, 73, [9], rangeAssign GP 73 3, rangeBody GP 73 3⟩
  unfold R73 at hy
  simp only [h1, h2, h3, if_true, Int.toNat_natCast, List.length_map, List.drop_zero, ← List.map_take, p74_take x r hx hr pos d F.hd h2 h3, asInt_i, asBool_i, asRows_i, asCells_i, asTuple_i, asBox_i, asObCells_i, asLoop_i, uncons_i, unconsO_i, isNil_i, asPtr_i, asFn_f, asFn_y, asArr_i, asObArr_t, asObArr_f, isReady_i, isBusy_i, uncons_c, uncons_sc, arrRows_i, Option.bind_some, Option.bind_none, cond_true, cond_false, cond_dec, cond_not, step18, nears]
  cases sepd (x.tube.take pos) (r.tube.take pos) d with
  | true => rfl
  | false =>
    refine (bind_via hy _).trans ?_
    kernel_rfl
set_option maxRecDepth 100000 in
theorem p18 {a b : List Seg} {pos : Nat} {d : Int} (F : Fl2 a b pos d) :
    (CW G20 L20).p (.func 18) [.slice .any (a.map Seg.c), .slice .any (b.map Seg.c), .agg [.int .i64 (pos : Int), .int .i64 d]] = some (.int .i64 (classP a b pos d)) := by
  have h66 := (ov18 pos d a b F.ha F.hb F.hA F.hB (step18 a b pos d) (fun _ s => s.l = R18 a b pos d .ready none ∧ s.m = R73 a b .ready none) (fun x r _ s hx hr hI => ⟨h73_y F x r s (F.ha x hx) (F.hb r hr) (F.hpos.1 x hx) (F.hpos.2 r hr) hI.1 hI.2, fun h => by
    unfold step18 at h ⊢
    cases hn : nears pos d (x, r) with
    | true => rw [hn] at h; cases h
    | false => exact hI⟩) ⟨0, R18 a b pos d .ready none, R73 a b .ready none⟩ ⟨rfl, rfl⟩).1
  rw [show step18 a b pos d = fun s p => cond (nears pos d p) (⟨verd a b pos d, R18 a b pos d .done (some .ret), R73 a b .done (some .ret)⟩, false) (s, true) from rfl, runP_any] at h66
  have h73 : (CW G20 L20).s (.func 73) [.fn (.yield 7) [] [], .ptr 4 0, .ptr 5 0, .ptr 6 0] [.cells [.slice .any (a.map Seg.c)], .cells [.slice .any (b.map Seg.c)], .cells [.int .i64 ((pos : Nat) : Int), .int .i64 d], .cells [.int .i64 0], .cells [.slice .any (a.map Seg.c)], .cells [.slice .any (b.map Seg.c)], .cells [.int .i64 ((pos : Nat) : Int), .int .i64 d], .loop (R18 a b pos d .ready none)] =
      some (.tuple [], [.cells [.slice .any (a.map Seg.c)], .cells [.slice .any (b.map Seg.c)], .cells [.int .i64 ((pos : Nat) : Int), .int .i64 d], .cells [.int .i64 (cond ((pairsOf a b).any (nears pos d)) (verd a b pos d) 0)], .cells [.slice .any (a.map Seg.c)], .cells [.slice .any (b.map Seg.c)], .cells [.int .i64 ((pos : Nat) : Int), .int .i64 d], .loop (cond ((pairsOf a b).any (nears pos d)) (R18 a b pos d .done (some .ret)) (R18 a b pos d .ready none)), .cells [.fn (.yield 7) [] []], .cells [.slice .any (a.map Seg.c)], .cells [.slice .any (b.map Seg.c)]]) := by
    refine CW_run ?_
    rw [s73]
    refine (bind_via (CW_run (s40_v1 _ _ _ _ _ _ _ _ _ _ _ _ _)) _).trans ?_
    simp only [asInt_i, asBool_i, asRows_i, asCells_i, asTuple_i, asBox_i, asObCells_i, asLoop_i, uncons_i, unconsO_i, isNil_i, asPtr_i, asFn_f, asFn_y, asArr_i, asObArr_t, asObArr_f, isReady_i, isBusy_i, uncons_c, uncons_sc, arrRows_i, Option.bind_some, Option.bind_none, cond_true, cond_false, cond_dec, cond_not]
    refine (bind_via h66 _).trans ?_
    cases (pairsOf a b).any (nears pos d) with
    | true => change _ = _; kernel_rfl
    | false => change _ = _; kernel_rfl
  unfold classP
  refine CW_valH (u := .int .i64 (cond ((pairsOf a b).any (nears pos d)) (verd a b pos d) 1)) (h := [.cells [.slice .any (a.map Seg.c)], .cells [.slice .any (b.map Seg.c)], .cells [.int .i64 ((pos : Nat) : Int), .int .i64 d], .cells [.int .i64 (cond ((pairsOf a b).any (nears pos d)) (verd a b pos d) 1)], .cells [.slice .any (a.map Seg.c)], .cells [.slice .any (b.map Seg.c)], .cells [.int .i64 ((pos : Nat) : Int), .int .i64 d]]) ?_ rfl
  rw [e18]
  refine (bind_via (CW_run (s44 _ _ _ _ _ _ _ _ _ _)) _).trans ?_
  simp only [asInt_i, asBool_i, asRows_i, asCells_i, asTuple_i, asBox_i, asObCells_i, asLoop_i, uncons_i, unconsO_i, isNil_i, asPtr_i, asFn_f, asFn_y, asArr_i, asObArr_t, asObArr_f, isReady_i, isBusy_i, uncons_c, uncons_sc, arrRows_i, Option.bind_some, Option.bind_none, cond_true, cond_false, cond_dec, cond_not]
  refine (bind_via h73 _).trans ?_
  cases (pairsOf a b).any (nears pos d) with
  | true => change _ = _; kernel_rfl
  | false => change _ = _; kernel_rfl
end Go.Ab
