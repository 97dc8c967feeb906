/- The range over overlapping pairs in MinDistance; conditions: none. -/
import Derived.Test.YtbfecmgiffkooaaYD
namespace Go.Ab
set_option linter.unusedSimpArgs false
set_option linter.unusedVariables false
structure MD where
  c1 : Iv
  c2 : Iv
  f : Bool
noncomputable def R15 (a b : List Seg) (pos : Int) : LoopA := ⟨.ready, none, (sp 0 38 [(0, .slice .any (a.map Seg.c)), (1, .slice .any (b.map Seg.c)), (2, .int .i64 pos), (5, .ptr 0 0), (7, .bool false), (8, .ptr 1 0), (9, .ptr 3 0), (10, .ptr 4 0), (12, .fn (.func 65) [] [.ptr 2 0]), (13, .slice .any (a.map Seg.c)), (14, .slice .any (b.map Seg.c)), (15, .fn (.func 66) [] [.ptr 5 0, .ptr 6 0])]), 15, [16], rangeAssign GP 15 5, rangeBody GP 15 5⟩
set_option maxRecDepth 100000 in
theorem ov15_7 (pos : Nat) (a b : List Seg) (ha : oks a) (hb : oks b) (hA : a.length ≤ 1000000) (hB : b.length ≤ 1000000) (step : MD → Seg × Seg → MD × Bool) (Inv : List (Seg × Seg) → MD → Prop)
    (hy : ∀ (x r : Seg) (l : List (Seg × Seg)) (s : MD), x ∈ a → r ∈ b → Inv ((x, r) :: l) s → (CW G20 L20).s (.yield 7) [.agg [.int .i64 x.t, .int .i64 x.h, .slice .any (x.frm.map Iv.c), .slice .any (x.pre.map Iv.c), .slice .any (x.tube.map Iv.c), .slice .any (x.to.map Iv.c), .int .i64 r.t, .int .i64 r.h, .slice .any (r.frm.map Iv.c), .slice .any (r.pre.map Iv.c), .slice .any (r.tube.map Iv.c), .slice .any (r.to.map Iv.c), .int .i64 (if r.t > x.t then r.t else x.t), .int .i64 (if r.fin < x.fin then r.fin else x.fin)]] [.cells [.int .i64 ((pos : Nat) : Int)], .cells [.int .i64 s.c1.lo, .int .i64 s.c1.hi], .cells [.int .i64 s.c2.lo, .int .i64 s.c2.hi], .cells [.bool s.f], .cells [.fn (.func 65) [] [.ptr 2 0]], .cells [.slice .any (a.map Seg.c)], .cells [.slice .any (b.map Seg.c)], .loop (R15 a b ((pos : Nat) : Int))] = some (.bool (step s (x, r)).2, [.cells [.int .i64 ((pos : Nat) : Int)], .cells [.int .i64 (step s (x, r)).1.c1.lo, .int .i64 (step s (x, r)).1.c1.hi], .cells [.int .i64 (step s (x, r)).1.c2.lo, .int .i64 (step s (x, r)).1.c2.hi], .cells [.bool (step s (x, r)).1.f], .cells [.fn (.func 65) [] [.ptr 2 0]], .cells [.slice .any (a.map Seg.c)], .cells [.slice .any (b.map Seg.c)], .loop (R15 a b ((pos : Nat) : Int))]) ∧ ((step s (x, r)).2 = true → Inv l (step s (x, r)).1)) (x : Seg) (hx : x ∈ a) (first i : Nat) (rest : List (Seg × Seg)) :
    ∀ (k : List Seg) (j : Nat) (s : MD), (b.drop first).drop j = k → j ≤ (b.drop first).length → Inv (((meetB x.fin k).map fun r => (x, r)) ++ rest) s →
    ∃ e j', iterW (roundK G20 L20 (CW G20 L20) 66 none 7) ⟨(sp 0 63 [(0, .fn (.yield 7) [] []), (2, .ptr 6 0), (4, .int .i64 ((first : Nat) : Int)), (6, .box [.int .i64 x.t, .int .i64 x.h, .slice .any (x.frm.map Iv.c), .slice .any (x.pre.map Iv.c), .slice .any (x.tube.map Iv.c), .slice .any (x.to.map Iv.c)]), (9, .slice .any (a.map Seg.c)), (10, .int .i64 ((a.length : Nat) : Int)), (11, .int .i64 ((i : Nat) : Int)), (33, .slice .any ((b.drop first).map Seg.c)), (34, .int .i64 (((b.drop first).length : Nat) : Int)), (35, .int .i64 ((j : Nat) : Int))]), [.cells [.int .i64 ((pos : Nat) : Int)], .cells [.int .i64 s.c1.lo, .int .i64 s.c1.hi], .cells [.int .i64 s.c2.lo, .int .i64 s.c2.hi], .cells [.bool s.f], .cells [.fn (.func 65) [] [.ptr 2 0]], .cells [.slice .any (a.map Seg.c)], .cells [.slice .any (b.map Seg.c)], .loop (R15 a b ((pos : Nat) : Int))]⟩ = some (e, ⟨(sp 0 63 [(0, .fn (.yield 7) [] []), (2, .ptr 6 0), (4, .int .i64 ((first : Nat) : Int)), (6, .box [.int .i64 x.t, .int .i64 x.h, .slice .any (x.frm.map Iv.c), .slice .any (x.pre.map Iv.c), .slice .any (x.tube.map Iv.c), .slice .any (x.to.map Iv.c)]), (9, .slice .any (a.map Seg.c)), (10, .int .i64 ((a.length : Nat) : Int)), (11, .int .i64 ((i : Nat) : Int)), (33, .slice .any ((b.drop first).map Seg.c)), (34, .int .i64 (((b.drop first).length : Nat) : Int)), (35, .int .i64 ((j' : Nat) : Int))]), [.cells [.int .i64 ((pos : Nat) : Int)], .cells [.int .i64 (runP step s ((meetB x.fin k).map fun r => (x, r))).1.c1.lo, .int .i64 (runP step s ((meetB x.fin k).map fun r => (x, r))).1.c1.hi], .cells [.int .i64 (runP step s ((meetB x.fin k).map fun r => (x, r))).1.c2.lo, .int .i64 (runP step s ((meetB x.fin k).map fun r => (x, r))).1.c2.hi], .cells [.bool (runP step s ((meetB x.fin k).map fun r => (x, r))).1.f], .cells [.fn (.func 65) [] [.ptr 2 0]], .cells [.slice .any (a.map Seg.c)], .cells [.slice .any (b.map Seg.c)], .loop (R15 a b ((pos : Nat) : Int))]⟩) ∧ ((runP step s ((meetB x.fin k).map fun r => (x, r))).2 = true → e = .exit 4 ∨ e = .exit 1) ∧ ((runP step s ((meetB x.fin k).map fun r => (x, r))).2 = false → e = .ret) ∧ ((runP step s ((meetB x.fin k).map fun r => (x, r))).2 = true → Inv rest (runP step s ((meetB x.fin k).map fun r => (x, r))).1) := by
  have hxo := ha x hx
  have hlen : (b.drop first).length ≤ 1000000 := by rw [List.length_drop]; omega
  intro k
  induction k with
  | nil =>
    intro j s hk hj hI
    have hjl : j = (b.drop first).length := by have := List.drop_eq_nil_iff.1 hk; omega
    subst hjl
    refine ⟨.exit 4, (b.drop first).length, ?_, fun _ => .inl rfl, (fun h => by cases h), fun _ => hI⟩
    rw [iterW_eq]
    simp only [e66_7, lt_decn, cond_false, meetB, List.takeWhile_nil, List.map_nil, runP]
  | cons r k ih =>
    intro j s hk hj hI
    have hil : j < (b.drop first).length := by
      apply Nat.lt_of_not_le
      intro hle
      rw [List.drop_eq_nil_iff.2 hle] at hk; cases hk
    have hd := List.drop_eq_getElem_cons hil
    rw [hk] at hd
    injection hd with hr hk'
    have hrm : r ∈ b := by rw [hr]; exact List.mem_of_mem_drop (List.getElem_mem hil)
    rw [iterW_eq]
    by_cases hc : r.t > x.fin
    · have hm : meetB x.fin (r :: k) = [] := by simp [meetB, hc]
      rw [hm] at hI ⊢
      refine ⟨.exit 1, j, ?_, fun _ => .inr rfl, (fun h => by cases h), fun _ => hI⟩
      simp only [e66_7, lt_dec hil, getS _ j hil, ← hr, asInt_i, asBool_i, asRows_i, asCells_i, asTuple_i, asBox_i, asObCells_i, asLoop_i, uncons_i, unconsO_i, isNil_i, asPtr_i, asFn_f, asFn_y, asArr_i, asObArr_t, asObArr_f, isReady_i, isBusy_i, uncons_c, uncons_sc, arrRows_i, Option.bind_some, Option.bind_none, cond_true, cond_false, cond_dec, cond_not, p37 x hxo, hc, if_true, List.map_nil, runP]
    · have hm : meetB x.fin (r :: k) = r :: meetB x.fin k := by simp [meetB, hc]
      have hI2 := hI
      rw [hm] at hI2
      obtain ⟨y1, y2⟩ := hy x r (((meetB x.fin k).map fun r => (x, r)) ++ rest) s hx hrm hI2
      cases hst : (step s (x, r)).2 with
      | true =>
        obtain ⟨e, j', g1, g2, g3, g4⟩ := ih (j + 1) (step s (x, r)).1 hk'.symm (by omega) (y2 hst)
        have hrun : runP step s ((meetB x.fin (r :: k)).map fun r => (x, r)) = runP step (step s (x, r)).1 ((meetB x.fin k).map fun r => (x, r)) := by rw [hm]; simp only [List.map_cons, runP, hst]
        rw [hrun]
        refine ⟨e, j', ?_, g2, g3, g4⟩
        rw [hst] at y1
        simp only [e66_7, lt_dec hil, getS _ j hil, ← hr, asInt_i, asBool_i, asRows_i, asCells_i, asTuple_i, asBox_i, asObCells_i, asLoop_i, uncons_i, unconsO_i, isNil_i, asPtr_i, asFn_f, asFn_y, asArr_i, asObArr_t, asObArr_f, isReady_i, isBusy_i, uncons_c, uncons_sc, arrRows_i, Option.bind_some, Option.bind_none, cond_true, cond_false, cond_dec, cond_not, p37 x hxo, p37 r (hb r hrm), hc, if_false, y1, Bool.not_true, wsucc j (by omega)]
        exact g1
      | false =>
        have hrun : runP step s ((meetB x.fin (r :: k)).map fun r => (x, r)) = ((step s (x, r)).1, false) := by rw [hm]; simp only [List.map_cons, runP, hst]
        rw [hrun]
        rw [hst] at y1
        refine ⟨.ret, j, ?_, (fun h => by cases h), fun _ => rfl, fun h => by cases h⟩
        simp only [e66_7, lt_dec hil, getS _ j hil, ← hr, asInt_i, asBool_i, asRows_i, asCells_i, asTuple_i, asBox_i, asObCells_i, asLoop_i, uncons_i, unconsO_i, isNil_i, asPtr_i, asFn_f, asFn_y, asArr_i, asObArr_t, asObArr_f, isReady_i, isBusy_i, uncons_c, uncons_sc, arrRows_i, Option.bind_some, Option.bind_none, cond_true, cond_false, cond_dec, cond_not, p37 x hxo, p37 r (hb r hrm), hc, if_false, y1, Bool.not_false]

theorem ov15_4 (pos : Nat) (a b : List Seg) (hb : oks b) (hB : b.length ≤ 1000000) (x : Seg) (i : Nat) (s : MD) :
    ∀ (k : List Seg) (first : Nat), b.drop first = k → first ≤ b.length →
    iterW (roundK G20 L20 (CW G20 L20) 66 none 4) ⟨(sp 0 63 [(0, .fn (.yield 7) [] []), (2, .ptr 6 0), (4, .int .i64 ((first : Nat) : Int)), (6, .box [.int .i64 x.t, .int .i64 x.h, .slice .any (x.frm.map Iv.c), .slice .any (x.pre.map Iv.c), .slice .any (x.tube.map Iv.c), .slice .any (x.to.map Iv.c)]), (9, .slice .any (a.map Seg.c)), (10, .int .i64 ((a.length : Nat) : Int)), (11, .int .i64 ((i : Nat) : Int))]), [.cells [.int .i64 ((pos : Nat) : Int)], .cells [.int .i64 s.c1.lo, .int .i64 s.c1.hi], .cells [.int .i64 s.c2.lo, .int .i64 s.c2.hi], .cells [.bool s.f], .cells [.fn (.func 65) [] [.ptr 2 0]], .cells [.slice .any (a.map Seg.c)], .cells [.slice .any (b.map Seg.c)], .loop (R15 a b ((pos : Nat) : Int))]⟩ = some (.exit 2, ⟨(sp 0 63 [(0, .fn (.yield 7) [] []), (2, .ptr 6 0), (4, .int .i64 (((b.length - (skipB x.t k).length) : Nat) : Int)), (6, .box [.int .i64 x.t, .int .i64 x.h, .slice .any (x.frm.map Iv.c), .slice .any (x.pre.map Iv.c), .slice .any (x.tube.map Iv.c), .slice .any (x.to.map Iv.c)]), (9, .slice .any (a.map Seg.c)), (10, .int .i64 ((a.length : Nat) : Int)), (11, .int .i64 ((i : Nat) : Int))]), [.cells [.int .i64 ((pos : Nat) : Int)], .cells [.int .i64 s.c1.lo, .int .i64 s.c1.hi], .cells [.int .i64 s.c2.lo, .int .i64 s.c2.hi], .cells [.bool s.f], .cells [.fn (.func 65) [] [.ptr 2 0]], .cells [.slice .any (a.map Seg.c)], .cells [.slice .any (b.map Seg.c)], .loop (R15 a b ((pos : Nat) : Int))]⟩) := by
  intro k
  induction k with
  | nil =>
    intro first hk hf
    have hjl : first = b.length := by have := List.drop_eq_nil_iff.1 hk; omega
    subst hjl
    rw [iterW_eq]
    simp only [e66_4, List.length_map, lt_decn, cond_false, skipB, List.dropWhile_nil, List.length_nil, Nat.sub_zero]
  | cons r k ih =>
    intro first hk hf
    have hil : first < b.length := by
      apply Nat.lt_of_not_le
      intro hle
      rw [List.drop_eq_nil_iff.2 hle] at hk; cases hk
    have hd := List.drop_eq_getElem_cons hil
    have hlk : (b.drop first).length = (r :: k).length := by rw [hk]
    rw [hk] at hd
    injection hd with hr hk'
    have hrm : r ∈ b := by rw [hr]; exact List.getElem_mem hil
    rw [iterW_eq]
    by_cases hc : r.fin < x.t
    · have hs : skipB x.t (r :: k) = skipB x.t k := by simp [skipB, hc]
      rw [hs]
      simp only [e66_4, List.length_map, lt_dec hil, getS _ first hil, ← hr, asInt_i, asBool_i, asRows_i, asCells_i, asTuple_i, asBox_i, asObCells_i, asLoop_i, uncons_i, unconsO_i, isNil_i, asPtr_i, asFn_f, asFn_y, asArr_i, asObArr_t, asObArr_f, isReady_i, isBusy_i, uncons_c, uncons_sc, arrRows_i, Option.bind_some, Option.bind_none, cond_true, cond_false, cond_dec, cond_not, p37 r (hb r hrm), hc, if_true, wsucc first (by omega)]
      exact ih (first + 1) hk'.symm hil
    · have hs : skipB x.t (r :: k) = r :: k := by simp [skipB, hc]
      have he : b.length - (skipB x.t (r :: k)).length = first := by rw [hs, ← hlk, List.length_drop]; omega
      rw [he]
      simp only [e66_4, List.length_map, lt_dec hil, getS _ first hil, ← hr, asInt_i, asBool_i, asRows_i, asCells_i, asTuple_i, asBox_i, asObCells_i, asLoop_i, uncons_i, unconsO_i, isNil_i, asPtr_i, asFn_f, asFn_y, asArr_i, asObArr_t, asObArr_f, isReady_i, isBusy_i, uncons_c, uncons_sc, arrRows_i, Option.bind_some, Option.bind_none, cond_true, cond_false, cond_dec, cond_not, p37 r (hb r hrm), hc, if_false]

set_option maxRecDepth 100000 in
theorem ov15_2 (pos : Nat) (a b : List Seg) (ha : oks a) (hb : oks b) (hA : a.length ≤ 1000000) (hB : b.length ≤ 1000000) (step : MD → Seg × Seg → MD × Bool) (Inv : List (Seg × Seg) → MD → Prop)
    (hy : ∀ (x r : Seg) (l : List (Seg × Seg)) (s : MD), x ∈ a → r ∈ b → Inv ((x, r) :: l) s → (CW G20 L20).s (.yield 7) [.agg [.int .i64 x.t, .int .i64 x.h, .slice .any (x.frm.map Iv.c), .slice .any (x.pre.map Iv.c), .slice .any (x.tube.map Iv.c), .slice .any (x.to.map Iv.c), .int .i64 r.t, .int .i64 r.h, .slice .any (r.frm.map Iv.c), .slice .any (r.pre.map Iv.c), .slice .any (r.tube.map Iv.c), .slice .any (r.to.map Iv.c), .int .i64 (if r.t > x.t then r.t else x.t), .int .i64 (if r.fin < x.fin then r.fin else x.fin)]] [.cells [.int .i64 ((pos : Nat) : Int)], .cells [.int .i64 s.c1.lo, .int .i64 s.c1.hi], .cells [.int .i64 s.c2.lo, .int .i64 s.c2.hi], .cells [.bool s.f], .cells [.fn (.func 65) [] [.ptr 2 0]], .cells [.slice .any (a.map Seg.c)], .cells [.slice .any (b.map Seg.c)], .loop (R15 a b ((pos : Nat) : Int))] = some (.bool (step s (x, r)).2, [.cells [.int .i64 ((pos : Nat) : Int)], .cells [.int .i64 (step s (x, r)).1.c1.lo, .int .i64 (step s (x, r)).1.c1.hi], .cells [.int .i64 (step s (x, r)).1.c2.lo, .int .i64 (step s (x, r)).1.c2.hi], .cells [.bool (step s (x, r)).1.f], .cells [.fn (.func 65) [] [.ptr 2 0]], .cells [.slice .any (a.map Seg.c)], .cells [.slice .any (b.map Seg.c)], .loop (R15 a b ((pos : Nat) : Int))]) ∧ ((step s (x, r)).2 = true → Inv l (step s (x, r)).1)) :
    ∀ (k : List Seg) (i first : Nat) (s : MD), a.drop i = k → i ≤ a.length → first ≤ b.length → Inv (pairsOf k (b.drop first)) s →
    ∃ e i' f', iterW (roundK G20 L20 (CW G20 L20) 66 none 2) ⟨(sp 0 63 [(0, .fn (.yield 7) [] []), (2, .ptr 6 0), (4, .int .i64 ((first : Nat) : Int)), (9, .slice .any (a.map Seg.c)), (10, .int .i64 ((a.length : Nat) : Int)), (11, .int .i64 ((i : Nat) : Int))]), [.cells [.int .i64 ((pos : Nat) : Int)], .cells [.int .i64 s.c1.lo, .int .i64 s.c1.hi], .cells [.int .i64 s.c2.lo, .int .i64 s.c2.hi], .cells [.bool s.f], .cells [.fn (.func 65) [] [.ptr 2 0]], .cells [.slice .any (a.map Seg.c)], .cells [.slice .any (b.map Seg.c)], .loop (R15 a b ((pos : Nat) : Int))]⟩ = some (e, ⟨(sp 0 63 [(0, .fn (.yield 7) [] []), (2, .ptr 6 0), (4, .int .i64 ((f' : Nat) : Int)), (9, .slice .any (a.map Seg.c)), (10, .int .i64 ((a.length : Nat) : Int)), (11, .int .i64 ((i' : Nat) : Int))]), [.cells [.int .i64 ((pos : Nat) : Int)], .cells [.int .i64 (runP step s (pairsOf k (b.drop first))).1.c1.lo, .int .i64 (runP step s (pairsOf k (b.drop first))).1.c1.hi], .cells [.int .i64 (runP step s (pairsOf k (b.drop first))).1.c2.lo, .int .i64 (runP step s (pairsOf k (b.drop first))).1.c2.hi], .cells [.bool (runP step s (pairsOf k (b.drop first))).1.f], .cells [.fn (.func 65) [] [.ptr 2 0]], .cells [.slice .any (a.map Seg.c)], .cells [.slice .any (b.map Seg.c)], .loop (R15 a b ((pos : Nat) : Int))]⟩) ∧ ((runP step s (pairsOf k (b.drop first))).2 = true → e = .exit 0) ∧ ((runP step s (pairsOf k (b.drop first))).2 = false → e = .ret) ∧ ((runP step s (pairsOf k (b.drop first))).2 = true → Inv [] (runP step s (pairsOf k (b.drop first))).1) := by
  intro k
  induction k with
  | nil =>
    intro i first s hk hj hf hI
    have hjl : i = a.length := by have := List.drop_eq_nil_iff.1 hk; omega
    subst hjl
    refine ⟨.exit 0, a.length, first, ?_, fun _ => rfl, (fun h => by cases h), fun _ => hI⟩
    rw [iterW_eq]
    rw [e66_2]
    simp only [lt_decn, cond_false, pairsOf, runP]
  | cons x k ih =>
    intro i first s hk hj hf hI
    have hil : i < a.length := by
      apply Nat.lt_of_not_le
      intro hle
      rw [List.drop_eq_nil_iff.2 hle] at hk; cases hk
    have hd := List.drop_eq_getElem_cons hil
    rw [hk] at hd
    injection hd with hr hk'
    have hxm : x ∈ a := by rw [hr]; exact List.getElem_mem hil
    have h4 := ov15_4 pos a b hb hB x i s (b.drop first) first rfl hf
    have hdr := drop_skip hf x.t
    generalize hnf : b.length - (skipB x.t (b.drop first)).length = nf at h4 hdr
    have hnl : nf ≤ b.length := by omega
    have hpo : pairsOf (x :: k) (b.drop first) = (meetB x.fin (b.drop nf)).map (fun r => (x, r)) ++ pairsOf k (b.drop nf) := by simp only [pairsOf, hdr]
    rw [hpo] at hI
    obtain ⟨e, j', g1, g2, g3, g4⟩ := ov15_7 pos a b ha hb hA hB step Inv hy x hxm nf i (pairsOf k (b.drop nf)) (b.drop nf) 0 s rfl (Nat.zero_le _) hI
    rw [hpo, runP_append]
    generalize hrn : runP step s ((meetB x.fin (b.drop nf)).map fun r => (x, r)) = rn at g1 g2 g3 g4
    obtain ⟨s', go⟩ := rn
    simp only at g1 g2 g3 g4
    have hz : ((0 : Nat) : Int) = 0 := rfl
    rw [hz] at g1
    have hnn : (0 : Int) ≤ (nf : Int) := Int.natCast_nonneg nf
    have n7_0 : nth (sp 0 63 [(0, .fn (.yield 7) [] []), (2, .ptr 6 0), (4, .int .i64 ((nf : Nat) : Int)), (6, .box [.int .i64 x.t, .int .i64 x.h, .slice .any (x.frm.map Iv.c), .slice .any (x.pre.map Iv.c), .slice .any (x.tube.map Iv.c), .slice .any (x.to.map Iv.c)]), (9, .slice .any (a.map Seg.c)), (10, .int .i64 ((a.length : Nat) : Int)), (11, .int .i64 ((i : Nat) : Int))]) 0 = .fn (.yield 7) [] [] := rfl
    have n7_2 : nth (sp 0 63 [(0, .fn (.yield 7) [] []), (2, .ptr 6 0), (4, .int .i64 ((nf : Nat) : Int)), (6, .box [.int .i64 x.t, .int .i64 x.h, .slice .any (x.frm.map Iv.c), .slice .any (x.pre.map Iv.c), .slice .any (x.tube.map Iv.c), .slice .any (x.to.map Iv.c)]), (9, .slice .any (a.map Seg.c)), (10, .int .i64 ((a.length : Nat) : Int)), (11, .int .i64 ((i : Nat) : Int))]) 2 = .ptr 6 0 := rfl
    have n7_4 : nth (sp 0 63 [(0, .fn (.yield 7) [] []), (2, .ptr 6 0), (4, .int .i64 ((nf : Nat) : Int)), (6, .box [.int .i64 x.t, .int .i64 x.h, .slice .any (x.frm.map Iv.c), .slice .any (x.pre.map Iv.c), .slice .any (x.tube.map Iv.c), .slice .any (x.to.map Iv.c)]), (9, .slice .any (a.map Seg.c)), (10, .int .i64 ((a.length : Nat) : Int)), (11, .int .i64 ((i : Nat) : Int))]) 4 = .int .i64 ((nf : Nat) : Int) := rfl
    have n7_6 : nth (sp 0 63 [(0, .fn (.yield 7) [] []), (2, .ptr 6 0), (4, .int .i64 ((nf : Nat) : Int)), (6, .box [.int .i64 x.t, .int .i64 x.h, .slice .any (x.frm.map Iv.c), .slice .any (x.pre.map Iv.c), .slice .any (x.tube.map Iv.c), .slice .any (x.to.map Iv.c)]), (9, .slice .any (a.map Seg.c)), (10, .int .i64 ((a.length : Nat) : Int)), (11, .int .i64 ((i : Nat) : Int))]) 6 = .box [.int .i64 x.t, .int .i64 x.h, .slice .any (x.frm.map Iv.c), .slice .any (x.pre.map Iv.c), .slice .any (x.tube.map Iv.c), .slice .any (x.to.map Iv.c)] := rfl
    have n7_9 : nth (sp 0 63 [(0, .fn (.yield 7) [] []), (2, .ptr 6 0), (4, .int .i64 ((nf : Nat) : Int)), (6, .box [.int .i64 x.t, .int .i64 x.h, .slice .any (x.frm.map Iv.c), .slice .any (x.pre.map Iv.c), .slice .any (x.tube.map Iv.c), .slice .any (x.to.map Iv.c)]), (9, .slice .any (a.map Seg.c)), (10, .int .i64 ((a.length : Nat) : Int)), (11, .int .i64 ((i : Nat) : Int))]) 9 = .slice .any (a.map Seg.c) := rfl
    have n7_10 : nth (sp 0 63 [(0, .fn (.yield 7) [] []), (2, .ptr 6 0), (4, .int .i64 ((nf : Nat) : Int)), (6, .box [.int .i64 x.t, .int .i64 x.h, .slice .any (x.frm.map Iv.c), .slice .any (x.pre.map Iv.c), .slice .any (x.tube.map Iv.c), .slice .any (x.to.map Iv.c)]), (9, .slice .any (a.map Seg.c)), (10, .int .i64 ((a.length : Nat) : Int)), (11, .int .i64 ((i : Nat) : Int))]) 10 = .int .i64 ((a.length : Nat) : Int) := rfl
    have n7_11 : nth (sp 0 63 [(0, .fn (.yield 7) [] []), (2, .ptr 6 0), (4, .int .i64 ((nf : Nat) : Int)), (6, .box [.int .i64 x.t, .int .i64 x.h, .slice .any (x.frm.map Iv.c), .slice .any (x.pre.map Iv.c), .slice .any (x.tube.map Iv.c), .slice .any (x.to.map Iv.c)]), (9, .slice .any (a.map Seg.c)), (10, .int .i64 ((a.length : Nat) : Int)), (11, .int .i64 ((i : Nat) : Int))]) 11 = .int .i64 ((i : Nat) : Int) := rfl
    have n10_0 : nth (sp 0 63 [(0, .fn (.yield 7) [] []), (2, .ptr 6 0), (4, .int .i64 ((nf : Nat) : Int)), (6, .box [.int .i64 x.t, .int .i64 x.h, .slice .any (x.frm.map Iv.c), .slice .any (x.pre.map Iv.c), .slice .any (x.tube.map Iv.c), .slice .any (x.to.map Iv.c)]), (9, .slice .any (a.map Seg.c)), (10, .int .i64 ((a.length : Nat) : Int)), (11, .int .i64 ((i : Nat) : Int)), (33, .slice .any ((b.drop nf).map Seg.c)), (34, .int .i64 (((b.drop nf).length : Nat) : Int)), (35, .int .i64 ((j' : Nat) : Int))]) 0 = .fn (.yield 7) [] [] := rfl
    have n10_2 : nth (sp 0 63 [(0, .fn (.yield 7) [] []), (2, .ptr 6 0), (4, .int .i64 ((nf : Nat) : Int)), (6, .box [.int .i64 x.t, .int .i64 x.h, .slice .any (x.frm.map Iv.c), .slice .any (x.pre.map Iv.c), .slice .any (x.tube.map Iv.c), .slice .any (x.to.map Iv.c)]), (9, .slice .any (a.map Seg.c)), (10, .int .i64 ((a.length : Nat) : Int)), (11, .int .i64 ((i : Nat) : Int)), (33, .slice .any ((b.drop nf).map Seg.c)), (34, .int .i64 (((b.drop nf).length : Nat) : Int)), (35, .int .i64 ((j' : Nat) : Int))]) 2 = .ptr 6 0 := rfl
    have n10_4 : nth (sp 0 63 [(0, .fn (.yield 7) [] []), (2, .ptr 6 0), (4, .int .i64 ((nf : Nat) : Int)), (6, .box [.int .i64 x.t, .int .i64 x.h, .slice .any (x.frm.map Iv.c), .slice .any (x.pre.map Iv.c), .slice .any (x.tube.map Iv.c), .slice .any (x.to.map Iv.c)]), (9, .slice .any (a.map Seg.c)), (10, .int .i64 ((a.length : Nat) : Int)), (11, .int .i64 ((i : Nat) : Int)), (33, .slice .any ((b.drop nf).map Seg.c)), (34, .int .i64 (((b.drop nf).length : Nat) : Int)), (35, .int .i64 ((j' : Nat) : Int))]) 4 = .int .i64 ((nf : Nat) : Int) := rfl
    have n10_6 : nth (sp 0 63 [(0, .fn (.yield 7) [] []), (2, .ptr 6 0), (4, .int .i64 ((nf : Nat) : Int)), (6, .box [.int .i64 x.t, .int .i64 x.h, .slice .any (x.frm.map Iv.c), .slice .any (x.pre.map Iv.c), .slice .any (x.tube.map Iv.c), .slice .any (x.to.map Iv.c)]), (9, .slice .any (a.map Seg.c)), (10, .int .i64 ((a.length : Nat) : Int)), (11, .int .i64 ((i : Nat) : Int)), (33, .slice .any ((b.drop nf).map Seg.c)), (34, .int .i64 (((b.drop nf).length : Nat) : Int)), (35, .int .i64 ((j' : Nat) : Int))]) 6 = .box [.int .i64 x.t, .int .i64 x.h, .slice .any (x.frm.map Iv.c), .slice .any (x.pre.map Iv.c), .slice .any (x.tube.map Iv.c), .slice .any (x.to.map Iv.c)] := rfl
    have n10_9 : nth (sp 0 63 [(0, .fn (.yield 7) [] []), (2, .ptr 6 0), (4, .int .i64 ((nf : Nat) : Int)), (6, .box [.int .i64 x.t, .int .i64 x.h, .slice .any (x.frm.map Iv.c), .slice .any (x.pre.map Iv.c), .slice .any (x.tube.map Iv.c), .slice .any (x.to.map Iv.c)]), (9, .slice .any (a.map Seg.c)), (10, .int .i64 ((a.length : Nat) : Int)), (11, .int .i64 ((i : Nat) : Int)), (33, .slice .any ((b.drop nf).map Seg.c)), (34, .int .i64 (((b.drop nf).length : Nat) : Int)), (35, .int .i64 ((j' : Nat) : Int))]) 9 = .slice .any (a.map Seg.c) := rfl
    have n10_10 : nth (sp 0 63 [(0, .fn (.yield 7) [] []), (2, .ptr 6 0), (4, .int .i64 ((nf : Nat) : Int)), (6, .box [.int .i64 x.t, .int .i64 x.h, .slice .any (x.frm.map Iv.c), .slice .any (x.pre.map Iv.c), .slice .any (x.tube.map Iv.c), .slice .any (x.to.map Iv.c)]), (9, .slice .any (a.map Seg.c)), (10, .int .i64 ((a.length : Nat) : Int)), (11, .int .i64 ((i : Nat) : Int)), (33, .slice .any ((b.drop nf).map Seg.c)), (34, .int .i64 (((b.drop nf).length : Nat) : Int)), (35, .int .i64 ((j' : Nat) : Int))]) 10 = .int .i64 ((a.length : Nat) : Int) := rfl
    have n10_11 : nth (sp 0 63 [(0, .fn (.yield 7) [] []), (2, .ptr 6 0), (4, .int .i64 ((nf : Nat) : Int)), (6, .box [.int .i64 x.t, .int .i64 x.h, .slice .any (x.frm.map Iv.c), .slice .any (x.pre.map Iv.c), .slice .any (x.tube.map Iv.c), .slice .any (x.to.map Iv.c)]), (9, .slice .any (a.map Seg.c)), (10, .int .i64 ((a.length : Nat) : Int)), (11, .int .i64 ((i : Nat) : Int)), (33, .slice .any ((b.drop nf).map Seg.c)), (34, .int .i64 (((b.drop nf).length : Nat) : Int)), (35, .int .i64 ((j' : Nat) : Int))]) 11 = .int .i64 ((i : Nat) : Int) := rfl
    have n10_33 : nth (sp 0 63 [(0, .fn (.yield 7) [] []), (2, .ptr 6 0), (4, .int .i64 ((nf : Nat) : Int)), (6, .box [.int .i64 x.t, .int .i64 x.h, .slice .any (x.frm.map Iv.c), .slice .any (x.pre.map Iv.c), .slice .any (x.tube.map Iv.c), .slice .any (x.to.map Iv.c)]), (9, .slice .any (a.map Seg.c)), (10, .int .i64 ((a.length : Nat) : Int)), (11, .int .i64 ((i : Nat) : Int)), (33, .slice .any ((b.drop nf).map Seg.c)), (34, .int .i64 (((b.drop nf).length : Nat) : Int)), (35, .int .i64 ((j' : Nat) : Int))]) 33 = .slice .any ((b.drop nf).map Seg.c) := rfl
    have n10_34 : nth (sp 0 63 [(0, .fn (.yield 7) [] []), (2, .ptr 6 0), (4, .int .i64 ((nf : Nat) : Int)), (6, .box [.int .i64 x.t, .int .i64 x.h, .slice .any (x.frm.map Iv.c), .slice .any (x.pre.map Iv.c), .slice .any (x.tube.map Iv.c), .slice .any (x.to.map Iv.c)]), (9, .slice .any (a.map Seg.c)), (10, .int .i64 ((a.length : Nat) : Int)), (11, .int .i64 ((i : Nat) : Int)), (33, .slice .any ((b.drop nf).map Seg.c)), (34, .int .i64 (((b.drop nf).length : Nat) : Int)), (35, .int .i64 ((j' : Nat) : Int))]) 34 = .int .i64 (((b.drop nf).length : Nat) : Int) := rfl
    have n10_35 : nth (sp 0 63 [(0, .fn (.yield 7) [] []), (2, .ptr 6 0), (4, .int .i64 ((nf : Nat) : Int)), (6, .box [.int .i64 x.t, .int .i64 x.h, .slice .any (x.frm.map Iv.c), .slice .any (x.pre.map Iv.c), .slice .any (x.tube.map Iv.c), .slice .any (x.to.map Iv.c)]), (9, .slice .any (a.map Seg.c)), (10, .int .i64 ((a.length : Nat) : Int)), (11, .int .i64 ((i : Nat) : Int)), (33, .slice .any ((b.drop nf).map Seg.c)), (34, .int .i64 (((b.drop nf).length : Nat) : Int)), (35, .int .i64 ((j' : Nat) : Int))]) 35 = .int .i64 ((j' : Nat) : Int) := rfl
    rw [iterW_eq]
    cases go with
    | true =>
      obtain ⟨e2, i', f', k1, k2, k3, k4⟩ := ih (i + 1) nf s' hk'.symm hil hnl (g4 rfl)
      simp only
      refine ⟨e2, i', f', ?_, k2, k3, k4⟩
      rcases g2 rfl with rfl | rfl
      · rw [e66_2]
        simp only [lt_dec hil, getS _ i hil, ← hr, asInt_i, asBool_i, asRows_i, asCells_i, asTuple_i, asBox_i, asObCells_i, asLoop_i, uncons_i, unconsO_i, isNil_i, asPtr_i, asFn_f, asFn_y, asArr_i, asObArr_t, asObArr_f, isReady_i, isBusy_i, uncons_c, uncons_sc, arrRows_i, Option.bind_some, Option.bind_none, cond_true, cond_false, cond_dec, cond_not, CW_w, h4, n7_0, n7_2, n7_4, n7_6, n7_9, n7_10, n7_11, Nat.beq_refl, headIs_map, hnn, hnl, if_true, Int.toNat_natCast, List.length_map, List.take_length, ← List.map_take, ← List.map_drop, g1, n10_0, n10_2, n10_4, n10_6, n10_9, n10_10, n10_11, n10_33, n10_34, n10_35, wsucc i (by omega)]
        exact k1
      · rw [e66_2]
        simp only [lt_dec hil, getS _ i hil, ← hr, asInt_i, asBool_i, asRows_i, asCells_i, asTuple_i, asBox_i, asObCells_i, asLoop_i, uncons_i, unconsO_i, isNil_i, asPtr_i, asFn_f, asFn_y, asArr_i, asObArr_t, asObArr_f, isReady_i, isBusy_i, uncons_c, uncons_sc, arrRows_i, Option.bind_some, Option.bind_none, cond_true, cond_false, cond_dec, cond_not, CW_w, h4, n7_0, n7_2, n7_4, n7_6, n7_9, n7_10, n7_11, Nat.beq_refl, headIs_map, hnn, hnl, if_true, Int.toNat_natCast, List.length_map, List.take_length, ← List.map_take, ← List.map_drop, g1, n10_0, n10_2, n10_4, n10_6, n10_9, n10_10, n10_11, n10_33, n10_34, n10_35, wsucc i (by omega), show Nat.beq 1 4 = false from rfl]
        exact k1
    | false =>
      simp only
      refine ⟨.ret, i, nf, ?_, (fun h => by cases h), fun _ => rfl, fun h => by cases h⟩
      cases g3 rfl
      rw [e66_2]
      simp only [lt_dec hil, getS _ i hil, ← hr, asInt_i, asBool_i, asRows_i, asCells_i, asTuple_i, asBox_i, asObCells_i, asLoop_i, uncons_i, unconsO_i, isNil_i, asPtr_i, asFn_f, asFn_y, asArr_i, asObArr_t, asObArr_f, isReady_i, isBusy_i, uncons_c, uncons_sc, arrRows_i, Option.bind_some, Option.bind_none, cond_true, cond_false, cond_dec, cond_not, CW_w, h4, n7_0, n7_2, n7_4, n7_6, n7_9, n7_10, n7_11, Nat.beq_refl, headIs_map, hnn, hnl, if_true, Int.toNat_natCast, List.length_map, List.take_length, ← List.map_take, ← List.map_drop, g1, n10_0, n10_2, n10_4, n10_6, n10_9, n10_10, n10_11, n10_33, n10_34, n10_35]

theorem ov15 (pos : Nat) (a b : List Seg) (ha : oks a) (hb : oks b) (hA : a.length ≤ 1000000) (hB : b.length ≤ 1000000) (step : MD → Seg × Seg → MD × Bool) (Inv : List (Seg × Seg) → MD → Prop)
    (hy : ∀ (x r : Seg) (l : List (Seg × Seg)) (s : MD), x ∈ a → r ∈ b → Inv ((x, r) :: l) s → (CW G20 L20).s (.yield 7) [.agg [.int .i64 x.t, .int .i64 x.h, .slice .any (x.frm.map Iv.c), .slice .any (x.pre.map Iv.c), .slice .any (x.tube.map Iv.c), .slice .any (x.to.map Iv.c), .int .i64 r.t, .int .i64 r.h, .slice .any (r.frm.map Iv.c), .slice .any (r.pre.map Iv.c), .slice .any (r.tube.map Iv.c), .slice .any (r.to.map Iv.c), .int .i64 (if r.t > x.t then r.t else x.t), .int .i64 (if r.fin < x.fin then r.fin else x.fin)]] [.cells [.int .i64 ((pos : Nat) : Int)], .cells [.int .i64 s.c1.lo, .int .i64 s.c1.hi], .cells [.int .i64 s.c2.lo, .int .i64 s.c2.hi], .cells [.bool s.f], .cells [.fn (.func 65) [] [.ptr 2 0]], .cells [.slice .any (a.map Seg.c)], .cells [.slice .any (b.map Seg.c)], .loop (R15 a b ((pos : Nat) : Int))] = some (.bool (step s (x, r)).2, [.cells [.int .i64 ((pos : Nat) : Int)], .cells [.int .i64 (step s (x, r)).1.c1.lo, .int .i64 (step s (x, r)).1.c1.hi], .cells [.int .i64 (step s (x, r)).1.c2.lo, .int .i64 (step s (x, r)).1.c2.hi], .cells [.bool (step s (x, r)).1.f], .cells [.fn (.func 65) [] [.ptr 2 0]], .cells [.slice .any (a.map Seg.c)], .cells [.slice .any (b.map Seg.c)], .loop (R15 a b ((pos : Nat) : Int))]) ∧ ((step s (x, r)).2 = true → Inv l (step s (x, r)).1)) (s : MD) (hI : Inv (pairsOf a b) s) :
    (CW G20 L20).s (.func 66) [.fn (.yield 7) [] [], .ptr 5 0, .ptr 6 0] [.cells [.int .i64 ((pos : Nat) : Int)], .cells [.int .i64 s.c1.lo, .int .i64 s.c1.hi], .cells [.int .i64 s.c2.lo, .int .i64 s.c2.hi], .cells [.bool s.f], .cells [.fn (.func 65) [] [.ptr 2 0]], .cells [.slice .any (a.map Seg.c)], .cells [.slice .any (b.map Seg.c)], .loop (R15 a b ((pos : Nat) : Int))] = some (.tuple [], [.cells [.int .i64 ((pos : Nat) : Int)], .cells [.int .i64 (runP step s (pairsOf a b)).1.c1.lo, .int .i64 (runP step s (pairsOf a b)).1.c1.hi], .cells [.int .i64 (runP step s (pairsOf a b)).1.c2.lo, .int .i64 (runP step s (pairsOf a b)).1.c2.hi], .cells [.bool (runP step s (pairsOf a b)).1.f], .cells [.fn (.func 65) [] [.ptr 2 0]], .cells [.slice .any (a.map Seg.c)], .cells [.slice .any (b.map Seg.c)], .loop (R15 a b ((pos : Nat) : Int))]) ∧ ((runP step s (pairsOf a b)).2 = true → Inv [] (runP step s (pairsOf a b)).1) := by
  obtain ⟨e, i', f', g1, g2, g3, g4⟩ := ov15_2 pos a b ha hb hA hB step Inv hy a 0 0 s rfl (Nat.zero_le _) (Nat.zero_le _) hI
  rw [List.drop_zero] at g1 g2 g3 g4
  refine ⟨CW_run ?_, g4⟩
  generalize runP step s (pairsOf a b) = rn at g1 g2 g3 g4
  obtain ⟨s', go⟩ := rn
  rw [s66, CW_w, List.length_map]
  refine (bind_via g1 _).trans ?_
  cases go with
  | true => cases g2 rfl; kernel_rfl
  | false => cases g3 rfl; kernel_rfl

end Go.Ab
