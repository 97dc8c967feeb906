/- The reference's CloseTimes and Classify, typed; conditions: valid flows of few segments. -/
import Derived.Test.YtbfecmgiffkooaaYK
namespace Go.Ab
set_option linter.unusedSimpArgs false
set_option linter.unusedVariables false
def Iv.hull (a b : Iv) : Iv := ⟨if b.lo < a.lo then b.lo else a.lo, if b.hi > a.hi then b.hi else a.hi⟩
theorem p81 (a b : Iv) : (CW G20 L20).p (.func 81) [.agg [.int .i64 a.lo, .int .i64 a.hi], .agg [.int .i64 b.lo, .int .i64 b.hi]] = some (.agg (a.hull b).c) := CW_val (e81 _ _ _ _ _) rfl
structure JS where
  out : List Iv
  x : Iv
  pl : Bool
def joinStep (s : JS) (z : Iv) : JS := cond (isect z s.x) ⟨s.out, z.hull s.x, s.pl⟩ (if s.pl = false ∧ z.lo > s.x.hi then ⟨s.out ++ [s.x] ++ [z], s.x, true⟩ else ⟨s.out ++ [z], s.x, s.pl⟩)
def join (l : List Iv) (x : Iv) : List Iv := let s := l.foldl joinStep ⟨[], x, false⟩; cond s.pl s.out (s.out ++ [s.x])
theorem appI (l : List Iv) (x : Iv) : List.append (l.map Iv.c) [[.int .i64 x.lo, .int .i64 x.hi]] = (l ++ [x]).map Iv.c := by simp; rfl
set_option maxRecDepth 100000 in
theorem h54_3 (l : List Iv) (hl : l.length ≤ 1000) (i : Nat) (hi : i < l.length) (s : JS) (ho : s.out.length ≤ 2 * i) :
    roundK G20 L20 (CW G20 L20) 54 none 3 ⟨(sp 0 63 [(0, .slice .any (l.map Iv.c)), (3, .box [.int .i64 s.x.lo, .int .i64 s.x.hi]), (5, .arr 0 (s.out.map Iv.c).length 2), (6, .bool s.pl), (7, .int .i64 ((i : Nat) : Int))]), [.arr true 2 (s.out.map Iv.c)]⟩ =
      some (.normal, ⟨(sp 0 63 [(0, .slice .any (l.map Iv.c)), (3, .box [.int .i64 (joinStep s l[i]).x.lo, .int .i64 (joinStep s l[i]).x.hi]), (5, .arr 0 ((joinStep s l[i]).out.map Iv.c).length 2), (6, .bool (joinStep s l[i]).pl), (7, .int .i64 ((i + 1 : Nat) : Int))]), [.arr true 2 ((joinStep s l[i]).out.map Iv.c)]⟩) := by
  rw [e54_3, List.length_map, lt_dec hi, getI l i hi, wsucc i (by omega)]
  generalize l[i] = z
  have h1 : (s.out.length + 1) * 16 ≤ room := by unfold room; omega
  have h2 : (s.out.length + 1 + 1) * 16 ≤ room := by
    have hq : s.out.length + 1 + 1 ≤ 100000 := by omega
    exact Nat.le_trans (Nat.mul_le_mul_right 16 hq) (by unfold room; decide)
  simp only [asInt_i, asBool_i, asRows_i, asCells_i, asTuple_i, asBox_i, asObCells_i, asLoop_i, uncons_i, unconsO_i, isNil_i, asPtr_i, asFn_f, asFn_y, asArr_i, asObArr_t, asObArr_f, isReady_i, isBusy_i, uncons_c, uncons_sc, arrRows_i, Option.bind_some, Option.bind_none, cond_true, cond_false, cond_dec, cond_not, p23, p81, List.length_map, appI s.out s.x, appI (s.out ++ [s.x]) z, appI s.out z, List.length_append, List.length_cons, List.length_nil, Nat.zero_add, h1, h2, if_true]
  unfold joinStep
  cases hc : isect z s.x with
  | true => simp only [cond_true]
  | false =>
    simp only [cond_false]
    cases hp : s.pl with
    | true => simp only [cond_true, Bool.true_eq_false, false_and, if_false, List.length_append, List.length_cons, List.length_nil, Nat.zero_add]
    | false =>
      simp only [cond_false, true_and]
      by_cases hz : z.lo > s.x.hi
      · simp only [hz, if_true, List.length_append, List.length_cons, List.length_nil, Nat.zero_add]
      · simp only [hz, if_false, List.length_append, List.length_cons, List.length_nil, Nat.zero_add]
theorem joinStep_len (s : JS) (z : Iv) : (joinStep s z).out.length ≤ s.out.length + 2 := by
  unfold joinStep
  cases isect z s.x with
  | true => simp
  | false =>
    simp only [cond_false]
    split <;> simp
set_option maxRecDepth 100000 in
theorem p54 (l : List Iv) (hl : l.length ≤ 1000) (x : Iv) : (CW G20 L20).p (.func 54) [.slice .any (l.map Iv.c), .agg [.int .i64 x.lo, .int .i64 x.hi]] = some (.slice .any ((join l x).map Iv.c)) := by
  have hloop := iterW_foldlN (round := roundK G20 L20 (CW G20 L20) 54 none 3)
    (S := fun i (s : JS) => ⟨(sp 0 63 [(0, .slice .any (l.map Iv.c)), (3, .box [.int .i64 s.x.lo, .int .i64 s.x.hi]), (5, .arr 0 (s.out.map Iv.c).length 2), (6, .bool s.pl), (7, .int .i64 ((i : Nat) : Int))]), [.arr true 2 (s.out.map Iv.c)]⟩)
    joinStep (fun i s => s.out.length ≤ 2 * i) l (id := 0) (fun i hi s ho => ⟨h54_3 l hl i hi s ho, by have := joinStep_len s l[i]; omega⟩)
    (fun s _ => by rw [e54_3, List.length_map, lt_decn]; rfl) ⟨[], x, false⟩ (Nat.le_refl _)
  obtain ⟨h1, h2⟩ := hloop
  unfold join
  generalize l.foldl joinStep ⟨[], x, false⟩ = s at h1 h2
  have n0 : nth (sp 0 63 [(0, .slice .any (l.map Iv.c)), (3, .box [.int .i64 s.x.lo, .int .i64 s.x.hi]), (5, .arr 0 (s.out.map Iv.c).length 2), (6, .bool s.pl), (7, .int .i64 ((l.length : Nat) : Int))]) 0 = .slice .any (l.map Iv.c) := rfl
  have n3 : nth (sp 0 63 [(0, .slice .any (l.map Iv.c)), (3, .box [.int .i64 s.x.lo, .int .i64 s.x.hi]), (5, .arr 0 (s.out.map Iv.c).length 2), (6, .bool s.pl), (7, .int .i64 ((l.length : Nat) : Int))]) 3 = .box [.int .i64 s.x.lo, .int .i64 s.x.hi] := rfl
  have n5 : nth (sp 0 63 [(0, .slice .any (l.map Iv.c)), (3, .box [.int .i64 s.x.lo, .int .i64 s.x.hi]), (5, .arr 0 (s.out.map Iv.c).length 2), (6, .bool s.pl), (7, .int .i64 ((l.length : Nat) : Int))]) 5 = .arr 0 (s.out.map Iv.c).length 2 := rfl
  have n6 : nth (sp 0 63 [(0, .slice .any (l.map Iv.c)), (3, .box [.int .i64 s.x.lo, .int .i64 s.x.hi]), (5, .arr 0 (s.out.map Iv.c).length 2), (6, .bool s.pl), (7, .int .i64 ((l.length : Nat) : Int))]) 6 = .bool s.pl := rfl
  have n7 : nth (sp 0 63 [(0, .slice .any (l.map Iv.c)), (3, .box [.int .i64 s.x.lo, .int .i64 s.x.hi]), (5, .arr 0 (s.out.map Iv.c).length 2), (6, .bool s.pl), (7, .int .i64 ((l.length : Nat) : Int))]) 7 = .int .i64 ((l.length : Nat) : Int) := rfl
  have hr : ((s.out.map Iv.c).length + 1) * 16 ≤ room := by rw [List.length_map]; unfold room; omega
  have ha1 : arrRows [.arr true 2 ((s.out ++ [s.x]).map Iv.c)] 0 ((s.out.map Iv.c).length + 1) = some ((s.out ++ [s.x]).map Iv.c) := by simp [arrRows, hget]
  have ha2 : arrRows [.arr true 2 (s.out.map Iv.c)] 0 (s.out.map Iv.c).length = some (s.out.map Iv.c) := by simp [arrRows, hget]
  refine CW_valH (u := .slice .any ((cond s.pl s.out (s.out ++ [s.x])).map Iv.c)) (h := [.arr false 2 ((cond s.pl s.out (s.out ++ [s.x])).map Iv.c)]) ?_ rfl
  rw [e54, CW_w]
  refine (bind_via h1 _).trans ?_
  cases hp : s.pl with
  | true =>
    rw [hp] at n0 n3 n5 n6 n7
    simp only [asInt_i, asBool_i, asRows_i, asBox_i, uncons_i, unconsO_i, isNil_i, asArr_i, asObArr_t, Option.bind_some, cond_true, n0, n3, n5, n6, n7, Nat.beq_refl, Bool.not_true, cond_false, ha2]
  | false =>
    rw [hp] at n0 n3 n5 n6 n7
    simp only [asInt_i, asBool_i, asRows_i, asBox_i, uncons_i, unconsO_i, isNil_i, asArr_i, asObArr_t, Option.bind_some, cond_true, n0, n3, n5, n6, n7, Nat.beq_refl, Bool.not_false, cond_false, cond_dec, if_true, hr, appI s.out s.x, ha1]
theorem join_len (l : List Iv) (x : Iv) : (join l x).length ≤ l.length + 1 := by
  have key : ∀ (l : List Iv) (s : JS), (l.foldl joinStep s).out.length + (cond (l.foldl joinStep s).pl 0 1) ≤ s.out.length + (cond s.pl 0 1) + l.length := by
    intro l
    induction l with
    | nil => intro s; simp
    | cons z l ih =>
      intro s
      have h1 := ih (joinStep s z)
      have h2 : (joinStep s z).out.length + (cond (joinStep s z).pl 0 1) ≤ s.out.length + (cond s.pl 0 1) + 1 := by
        unfold joinStep
        cases isect z s.x with
        | true => simp only [cond_true]; omega
        | false =>
          simp only [cond_false]
          split
          · rename_i h; simp [h.1]
          · simp; omega
      simp only [List.foldl_cons, List.length_cons]; omega
  have := key l ⟨[], x, false⟩
  unfold join
  simp only at *
  generalize l.foldl joinStep ⟨[], x, false⟩ = s at *
  cases hp : s.pl <;> rw [hp] at this <;> simp at this ⊢ <;> omega
/-- One pair's time joined. -/
def joinPair (pos : Nat) (d : Int) (x : Seg) (out : List Iv) (r : Seg) : List Iv := cond (isect x.time r.time) (cond (nears pos d (x, r)) (join out (inter x.time r.time)) out) out
def closeR (a b : List Seg) (pos : Nat) (d : Int) : List Iv := a.foldl (fun out x => b.foldl (joinPair pos d x) out) []
theorem joinPair_len (pos : Nat) (d : Int) (x : Seg) (out : List Iv) (r : Seg) : (joinPair pos d x out r).length ≤ out.length + 1 := by
  unfold joinPair
  cases isect x.time r.time with
  | false => simp
  | true =>
    cases nears pos d (x, r) with
    | false => simp
    | true => exact join_len _ _
theorem joinPairs_len (pos : Nat) (d : Int) (x : Seg) : ∀ (b : List Seg) (out : List Iv), (b.foldl (joinPair pos d x) out).length ≤ out.length + b.length := by
  intro b
  induction b with
  | nil => intro out; simp
  | cons r b ih =>
    intro out
    have h1 := ih (joinPair pos d x out r)
    have h2 := joinPair_len pos d x out r
    simp only [List.foldl_cons, List.length_cons]; omega
set_option maxRecDepth 100000 in
theorem h22_6 {a b : List Seg} {pos : Nat} {d : Int} (F : Fl2 a b pos d) (i : Nat) (hi : i < a.length) (j : Nat) (hj : j < b.length) (out : List Iv) (ho : out.length ≤ 1000) :
    roundK G20 L20 (CW G20 L20) 22 none 6 ⟨(sp 0 66 [(0, .slice .any (a.map Seg.c)), (1, .slice .any (b.map Seg.c)), (5, .box [.int .i64 ((pos : Nat) : Int), .int .i64 d]), (7, .slice .any (out.map Iv.c)), (8, .int .i64 ((i : Nat) : Int)), (9, .int .i64 ((j : Nat) : Int))]), []⟩ =
      some (.normal, ⟨(sp 0 66 [(0, .slice .any (a.map Seg.c)), (1, .slice .any (b.map Seg.c)), (5, .box [.int .i64 ((pos : Nat) : Int), .int .i64 d]), (7, .slice .any ((joinPair pos d a[i] out b[j]).map Iv.c)), (8, .int .i64 ((i : Nat) : Int)), (9, .int .i64 ((j + 1 : Nat) : Int))]), []⟩) := by
  have hx := F.ha _ (List.getElem_mem hi)
  have hr := F.hb _ (List.getElem_mem hj)
  have h2 := F.hpos.1 _ (List.getElem_mem hi)
  have h3 := F.hpos.2 _ (List.getElem_mem hj)
  rw [e22_6, List.length_map, lt_dec hj, wsucc j (by have := F.hB; omega)]
  have g1 := getS a i hi
  have g2 := getS b j hj
  generalize a[i] = x at *
  generalize b[j] = r at *
  have h1 : (0 : Int) ≤ (pos : Int) := Int.natCast_nonneg pos
  simp only [g1, g2, asInt_i, asBool_i, asRows_i, asCells_i, asTuple_i, asBox_i, asObCells_i, asLoop_i, uncons_i, unconsO_i, isNil_i, asPtr_i, asFn_f, asFn_y, asArr_i, asObArr_t, asObArr_f, isReady_i, isBusy_i, uncons_c, uncons_sc, arrRows_i, Option.bind_some, Option.bind_none, cond_true, cond_false, cond_dec, cond_not, p24' x hx, p24' r hr, p23, h1, h2, h3, if_true, Int.toNat_natCast, List.length_map, List.drop_zero, ← List.map_take, p53_take x r hx hr pos d F.hd h2 h3, p54 out ho, joinPair, nears]
  cases isect x.time r.time with
  | false => rfl
  | true =>
    cases sepd (x.tube.take pos) (r.tube.take pos) d with
    | false => rfl
    | true => rfl
set_option maxRecDepth 100000 in
theorem p22 {a b : List Seg} {pos : Nat} {d : Int} (F : Fl2 a b pos d) (h20a : a.length ≤ 20) (h20b : b.length ≤ 20) :
    (CW G20 L20).p (.func 22) [.slice .any (a.map Seg.c), .slice .any (b.map Seg.c), .agg [.int .i64 (pos : Int), .int .i64 d]] = some (.slice .any ((closeR a b pos d).map Iv.c)) := by
  have inner : ∀ (i : Nat) (hi : i < a.length) (out : List Iv), out.length ≤ 20 * i → iterW (roundK G20 L20 (CW G20 L20) 22 none 6) ⟨(sp 0 66 [(0, .slice .any (a.map Seg.c)), (1, .slice .any (b.map Seg.c)), (5, .box [.int .i64 ((pos : Nat) : Int), .int .i64 d]), (7, .slice .any (out.map Iv.c)), (8, .int .i64 ((i : Nat) : Int)), (9, .int .i64 ((0 : Nat) : Int))]), []⟩ =
      some (.exit 2, ⟨(sp 0 66 [(0, .slice .any (a.map Seg.c)), (1, .slice .any (b.map Seg.c)), (5, .box [.int .i64 ((pos : Nat) : Int), .int .i64 d]), (7, .slice .any ((b.foldl (joinPair pos d a[i]) out).map Iv.c)), (8, .int .i64 ((i : Nat) : Int)), (9, .int .i64 ((b.length : Nat) : Int))]), []⟩) := fun i hi out ho =>
    (iterW_foldlN (round := roundK G20 L20 (CW G20 L20) 22 none 6)
      (S := fun j (out : List Iv) => ⟨(sp 0 66 [(0, .slice .any (a.map Seg.c)), (1, .slice .any (b.map Seg.c)), (5, .box [.int .i64 ((pos : Nat) : Int), .int .i64 d]), (7, .slice .any (out.map Iv.c)), (8, .int .i64 ((i : Nat) : Int)), (9, .int .i64 ((j : Nat) : Int))]), []⟩)
      (joinPair pos d a[i]) (fun j out => out.length ≤ 20 * i + j) b (id := 2) (fun j hj out ho => ⟨h22_6 F i hi j hj out (by omega), by have := joinPair_len pos d a[i] out b[j]; omega⟩)
      (fun out _ => by rw [e22_6, List.length_map, lt_decn]; rfl) out (by omega)).1
  have hloop := (iterW_foldlN (round := roundK G20 L20 (CW G20 L20) 22 none 3)
    (S := fun i (out : List Iv) => ⟨(sp 0 66 [(0, .slice .any (a.map Seg.c)), (1, .slice .any (b.map Seg.c)), (5, .box [.int .i64 ((pos : Nat) : Int), .int .i64 d]), (7, .slice .any (out.map Iv.c)), (8, .int .i64 ((i : Nat) : Int))]), []⟩)
    (fun out x => b.foldl (joinPair pos d x) out) (fun i out => out.length ≤ 20 * i) a (id := 0) (fun i hi out ho => by
      refine ⟨?_, by have := joinPairs_len pos d a[i] b out; omega⟩
      rw [e22_3, List.length_map, lt_dec hi, CW_w]
      refine (bind_via (inner i hi out ho) _).trans ?_
      rw [← wsucc i (by omega)]
      change _ = _
      kernel_rfl)
    (fun out _ => by rw [e22_3, List.length_map, lt_decn]; rfl) [] (Nat.le_refl _)).1
  rw [show a.foldl (fun out x => b.foldl (joinPair pos d x) out) [] = closeR a b pos d from rfl] at hloop
  generalize closeR a b pos d = R at hloop ⊢
  refine CW_val (h := []) ?_ rfl
  rw [e22, CW_w]
  refine (bind_via hloop _).trans ?_
  change _ = _
  kernel_rfl
def classR (a b : List Seg) (pos : Nat) (d : Int) : Int := cond (closeR a b pos d).isEmpty 1 (if (minR a b pos).1.isW = false ∧ (minR a b pos).1.hi < fl (d * d) then -1 else 0)
theorem p19 {a b : List Seg} {pos : Nat} {d : Int} (F : Fl2 a b pos d) (h20a : a.length ≤ 20) (h20b : b.length ≤ 20) :
    (CW G20 L20).p (.func 19) [.slice .any (a.map Seg.c), .slice .any (b.map Seg.c), .agg [.int .i64 (pos : Int), .int .i64 d]] = some (.int .i64 (classR a b pos d)) := by
  refine CW_val (h := []) ?_ rfl
  have hw : IntKind.wrap .i64 (d * d) = d * d := w64 (by have := F.hd.1; omega) (by have := F.hd.2; omega)
  rw [e19, p22 F h20a h20b, hw]
  simp only [asInt_i, asBool_i, asRows_i, asCells_i, asTuple_i, asBox_i, asObCells_i, asLoop_i, uncons_i, unconsO_i, isNil_i, asPtr_i, asFn_f, asFn_y, asArr_i, asObArr_t, asObArr_f, isReady_i, isBusy_i, uncons_c, uncons_sc, arrRows_i, Option.bind_some, Option.bind_none, cond_true, cond_false, cond_dec, cond_not, p16 a b F.ha F.hb F.hA F.hB pos F.hpos, p26, p47 _ F.hd, Iv.eta, classR, List.length_map]
  have he : ((((closeR a b pos d).length : Nat) : Int) == 0) = (closeR a b pos d).isEmpty := by
    cases closeR a b pos d <;> simp
    omega
  rw [he]
  cases (closeR a b pos d).isEmpty with
  | true => rfl
  | false =>
    cases hw : (minR a b pos).1.isW with
    | true => simp
    | false =>
      simp only [cond_false, true_and]
      split <;> rfl
end Go.Ab
