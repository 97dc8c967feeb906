/- CloseTimes of the program, typed; conditions: valid flows, few and sorted times. -/
import Derived.Test.YtbfecmgiffkooaaYJ
namespace Go.Ab
set_option linter.unusedSimpArgs false
set_option linter.unusedVariables false
def mergeStep (out : List Iv) (t : Iv) : List Iv := match out.getLast? with
  | none => [t]
  | some z => if t.lo ≤ z.hi then out.dropLast ++ [⟨z.lo, if t.hi > z.hi then t.hi else z.hi⟩] else out ++ [t]
def closeP (a b : List Seg) (pos : Nat) (d : Int) : List Iv := (timesOf a b pos d).foldl mergeStep []
theorem iterW_foldlN {α σ : Type} {round : St → Option (Ex × St)} (S : Nat → σ → St) (step : σ → α → σ) (Inv : Nat → σ → Prop) (l : List α) {id : Nat}
    (h1 : ∀ (i : Nat) (hi : i < l.length) (s : σ), Inv i s → round (S i s) = some (.normal, S (i + 1) (step s l[i])) ∧ Inv (i + 1) (step s l[i]))
    (h2 : ∀ s, Inv l.length s → round (S l.length s) = some (.exit id, S l.length s)) (s : σ) (hs : Inv 0 s) :
    iterW round (S 0 s) = some (.exit id, S l.length (l.foldl step s)) ∧ Inv l.length (l.foldl step s) := by
  obtain ⟨s', e1, e2, e3⟩ := iterW_list S (fun _ s a => step s a) Inv l (ex := .exit id) (by simp) h1 h2 s hs
  rw [foldE_foldl] at e1
  cases e1
  exact ⟨e2, e3⟩
theorem mergeStep_nil (t : Iv) : mergeStep [] t = [t] := rfl
theorem mergeStep_snoc (l : List Iv) (z t : Iv) : mergeStep (l ++ [z]) t = if t.lo ≤ z.hi then l ++ [⟨z.lo, if t.hi > z.hi then t.hi else z.hi⟩] else l ++ [z] ++ [t] := by
  unfold mergeStep
  rw [List.getLast?_concat]
  simp
theorem snoc_or {α : Type} (l : List α) : l = [] ∨ ∃ l' z, l = l' ++ [z] := by
  rcases List.eq_nil_or_concat l with h | ⟨l', z, h⟩
  · exact .inl h
  · exact .inr ⟨l', z, by rw [h, List.concat_eq_append]⟩
theorem mergeStep_len (out : List Iv) (t : Iv) : (mergeStep out t).length ≤ out.length + 1 := by
  rcases snoc_or out with rfl | ⟨l, z, rfl⟩
  · simp [mergeStep]
  · rw [mergeStep_snoc]
    split <;> simp
theorem getRow_last (l : List Iv) (z : Iv) : getRow ((l ++ [z]).map Iv.c) ((l.length : Nat) : Int) 2 = some z.c := by
  rw [getRow_map Iv.c Iv.c_len (l ++ [z]) l.length (by simp)]; simp
theorem cellsAt_hi (z : Iv) : cellsAt z.c 1 1 = some [.int .i64 z.hi] := rfl
theorem arrRows3b (o0 o1 o2 : Ob) (r : List (List V)) (n : Nat) (h : n = r.length) (l : List Ob) : arrRows (o0 :: o1 :: o2 :: .arr true 2 r :: l) 3 n = some r := by subst h; simp [arrRows, hget]
theorem set_last (l : List Iv) (z : Iv) (h : Int) : List.set ((l ++ [z]).map Iv.c) l.length (splice (((l ++ [z]).map Iv.c).getD l.length []) 1 [.int .i64 h]) = (l ++ [(⟨z.lo, h⟩ : Iv)]).map Iv.c := by
  have e1 : ((l ++ [z]).map Iv.c).getD l.length [] = z.c := by simp
  rw [e1]
  have e2 : splice z.c 1 [.int .i64 h] = [.int .i64 z.lo, .int .i64 h] := rfl
  rw [e2]
  simp [List.set_append]
  rfl
set_option maxRecDepth 100000 in
theorem h21_5 (a b : List (List V)) (pos d : Int) (ts out : List Iv) (i : Nat) (hi : i < ts.length) (hts : ts.length < 50) (ho : out.length ≤ i) :
    roundK G20 L20 (CW G20 L20) 21 none 5 ⟨(sp 0 60 [(8, .arr 3 (out.map Iv.c).length 2), (19, .slice .any (ts.map Iv.c)), (20, .int .i64 ((ts.length : Nat) : Int)), (21, .int .i64 ((i : Nat) : Int))]), [.cells [.slice .any a], .cells [.slice .any b], .cells [.int .i64 pos, .int .i64 d], .arr true 2 (out.map Iv.c)]⟩ =
      some (.normal, ⟨(sp 0 60 [(8, .arr 3 ((mergeStep out ts[i]).map Iv.c).length 2), (19, .slice .any (ts.map Iv.c)), (20, .int .i64 ((ts.length : Nat) : Int)), (21, .int .i64 ((i + 1 : Nat) : Int))]), [.cells [.slice .any a], .cells [.slice .any b], .cells [.int .i64 pos, .int .i64 d], .arr true 2 ((mergeStep out ts[i]).map Iv.c)]⟩) := by
  rw [e21_5_q, lt_dec hi, getI ts i hi, wsucc i (by omega)]
  generalize ts[i] = t
  have hroom : (out.length + 1) * 16 ≤ room := by unfold room; omega
  rcases snoc_or out with rfl | ⟨l, z, rfl⟩
  · simp only [asInt_i, asBool_i, asRows_i, asCells_i, asTuple_i, asBox_i, asObCells_i, asLoop_i, uncons_i, unconsO_i, isNil_i, asPtr_i, asFn_f, asFn_y, asArr_i, asObArr_t, asObArr_f, isReady_i, isBusy_i, uncons_c, uncons_sc, arrRows_i, Option.bind_some, Option.bind_none, cond_true, cond_false, cond_dec, cond_not, List.map_nil, List.length_nil, mergeStep_nil]
    have g0 : ¬ (((0 : Nat) : Int) > 0) := by decide
    simp only [g0, if_false, if_true]
    rw [if_pos (by unfold room; omega)]
    rfl
  · have hw : IntKind.wrap .i64 ((((l ++ [z]).length : Nat) : Int) - 1) = ((l.length : Nat) : Int) := by
      rw [wpred _ (by simp) (by omega)]; simp
    have h0 : ((l ++ [z]).length : Int) > 0 := by rw [List.length_append]; simp only [List.length_cons, List.length_nil]; omega
    have h1 : (0 : Int) ≤ ((l.length : Nat) : Int) := Int.natCast_nonneg _
    have h2 : l.length < (l ++ [z]).length := by simp
    have hap : ∀ x : Iv, List.append ((l ++ [z]).map Iv.c) [[.int .i64 x.lo, .int .i64 x.hi]] = (l ++ [z] ++ [x]).map Iv.c := fun x => by simp; rfl
    simp only [asInt_i, asBool_i, asRows_i, asCells_i, asTuple_i, asBox_i, asObCells_i, asLoop_i, uncons_i, unconsO_i, isNil_i, asPtr_i, asFn_f, asFn_y, asArr_i, asObArr_t, asObArr_f, isReady_i, isBusy_i, uncons_c, uncons_sc, arrRows_i, Option.bind_some, Option.bind_none, cond_true, cond_false, cond_dec, cond_not, List.length_map, hw, h0, h1, h2, if_true, Int.toNat_natCast, arrRows3b _ _ _ ((l ++ [z]).map Iv.c) _ (List.length_map _).symm, getRow_last, cellsAt_hi, hroom, hap, set_last, mergeStep_snoc]
    by_cases hc : t.lo ≤ z.hi
    · simp only [hc, if_true, List.length_append, List.length_cons, List.length_nil]
    · simp only [hc, if_false, List.length_append, List.length_cons, List.length_nil]
set_option maxRecDepth 100000 in
theorem p21 {a b : List Seg} {pos : Nat} {d : Int} (F : Fl2 a b pos d) (hn : (pairsOf a b).length ≤ 1000000) (hs : sorted (timesOf a b pos d)) (h50 : (timesOf a b pos d).length < 50) :
    (CW G20 L20).p (.func 21) [.slice .any (a.map Seg.c), .slice .any (b.map Seg.c), .agg [.int .i64 (pos : Int), .int .i64 d]] = some (.slice .any ((closeP a b pos d).map Iv.c)) := by
  have hloop := iterW_foldlN (round := roundK G20 L20 (CW G20 L20) 21 none 5)
    (S := fun i (out : List Iv) => ⟨(sp 0 60 [(8, .arr 3 (out.map Iv.c).length 2), (19, .slice .any ((timesOf a b pos d).map Iv.c)), (20, .int .i64 (((timesOf a b pos d).length : Nat) : Int)), (21, .int .i64 ((i : Nat) : Int))]), [.cells [.slice .any (a.map Seg.c)], .cells [.slice .any (b.map Seg.c)], .cells [.int .i64 ((pos : Nat) : Int), .int .i64 d], .arr true 2 (out.map Iv.c)]⟩)
    mergeStep (fun i out => out.length ≤ i) (timesOf a b pos d) (id := 0) (fun i hi out ho => ⟨h21_5 _ _ _ _ _ out i hi h50 ho, by have := mergeStep_len out (timesOf a b pos d)[i]; omega⟩)
    (fun out _ => by rw [e21_5_q, lt_decn]; rfl) [] (Nat.le_refl _)
  have hl := hloop.1
  rw [show (timesOf a b pos d).foldl mergeStep [] = closeP a b pos d from rfl] at hl
  generalize hT : timesOf a b pos d = T at *
  generalize closeP a b pos d = R at hl ⊢
  refine CW_valH (u := .slice .any (R.map Iv.c)) (h := [.cells [.slice .any (a.map Seg.c)], .cells [.slice .any (b.map Seg.c)], .cells [.int .i64 ((pos : Nat) : Int), .int .i64 d], .arr false 2 (R.map Iv.c)]) ?_ rfl
  rw [e21_q]
  refine (bind_via (CW_run (s44_q _ _ _ _ _)) _).trans ?_
  simp only [asInt_i, asBool_i, asRows_i, asCells_i, asTuple_i, asBox_i, asObCells_i, asLoop_i, uncons_i, unconsO_i, isNil_i, asPtr_i, asFn_f, asFn_y, asArr_i, asObArr_t, asObArr_f, isReady_i, isBusy_i, uncons_c, uncons_sc, arrRows_i, Option.bind_some, Option.bind_none, cond_true, cond_false, cond_dec, cond_not]
  have h49' := h49 F hn
  rw [hT] at h49'
  refine (bind_via h49' _).trans ?_
  simp only [asInt_i, asBool_i, asRows_i, asCells_i, asTuple_i, asBox_i, asObCells_i, asLoop_i, uncons_i, unconsO_i, isNil_i, asPtr_i, asFn_f, asFn_y, asArr_i, asObArr_t, asObArr_f, isReady_i, isBusy_i, uncons_c, uncons_sc, arrRows_i, Option.bind_some, Option.bind_none, cond_true, cond_false, cond_dec, cond_not, p50t T hs h50, CW_w, List.length_map]
  refine (bind_via hl _).trans ?_
  have n8 : nth (sp 0 60 [(8, .arr 3 (R.map Iv.c).length 2), (19, .slice .any (T.map Iv.c)), (20, .int .i64 ((T.length : Nat) : Int)), (21, .int .i64 ((T.length : Nat) : Int))]) 8 = .arr 3 (R.map Iv.c).length 2 := rfl
  have n19 : nth (sp 0 60 [(8, .arr 3 (R.map Iv.c).length 2), (19, .slice .any (T.map Iv.c)), (20, .int .i64 ((T.length : Nat) : Int)), (21, .int .i64 ((T.length : Nat) : Int))]) 19 = .slice .any (T.map Iv.c) := rfl
  have n20 : nth (sp 0 60 [(8, .arr 3 (R.map Iv.c).length 2), (19, .slice .any (T.map Iv.c)), (20, .int .i64 ((T.length : Nat) : Int)), (21, .int .i64 ((T.length : Nat) : Int))]) 20 = .int .i64 ((T.length : Nat) : Int) := rfl
  have n21 : nth (sp 0 60 [(8, .arr 3 (R.map Iv.c).length 2), (19, .slice .any (T.map Iv.c)), (20, .int .i64 ((T.length : Nat) : Int)), (21, .int .i64 ((T.length : Nat) : Int))]) 21 = .int .i64 ((T.length : Nat) : Int) := rfl
  simp only [asInt_i, asRows_i, asObCells_i, uncons_i, unconsO_i, isNil_i, asArr_i, asObArr_t, Option.bind_some, cond_true, n8, n19, n20, n21, Nat.beq_refl, arrRows3]
end Go.Ab
