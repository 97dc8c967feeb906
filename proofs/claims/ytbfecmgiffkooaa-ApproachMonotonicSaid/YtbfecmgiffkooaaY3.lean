/- The reference's CloseTimes and Classify, typed; conditions: valid flows of few segments. -/
import Derived.Test.YtbfecmgiffkooaaY2
import Derived.Test.YtbfecmgiffkooaaE7
namespace Go.Ab
set_option linter.unusedVariables false
set_option linter.unusedSimpArgs false
set_option linter.unusedSimpArgs false
set_option linter.unusedVariables false
def Iv.hull (a b : Iv) : Iv := ⟨if b.lo < a.lo then b.lo else a.lo, if b.hi > a.hi then b.hi else a.hi⟩
theorem p81 (a b : Iv) : (CW G20 L20).p (.func 81) [.agg [.int .i64 a.lo, .int .i64 a.hi], .agg [.int .i64 b.lo, .int .i64 b.hi]] = some (.agg (a.hull b).c) := CW_val (e81 _ _ _ _ _) rfl
structure JS where
  out : List Iv
  x : Iv
  pl : Bool
def joinStep (s : JS) (z : Iv) : JS := cond (isect z s.x) ⟨s.out, z.hull s.x, s.pl⟩ (if s.pl = false ∧ z.lo > s.x.hi then ⟨s.out ++ [s.x] ++ [z], s.x, true⟩ else ⟨s.out ++ [z], s.x, s.pl⟩)
def join (l : List Iv) (x : Iv) : List Iv := let s := l.foldl joinStep ⟨[], x, false⟩; cond s.pl s.out (s.out ++ [s.x])
theorem appI (l : List Iv) (x : Iv) : List.append (l.map Iv.c) [[.int .i64 x.lo, .int .i64 x.hi]] = (l ++ [x]).map Iv.c := by simp; rfl
set_option maxRecDepth 100000 in
theorem h54_3 (l : List Iv) (hl : l.length ≤ 1000) (i : Nat) (hi : i < l.length) (s : JS) (ho : s.out.length ≤ 2 * i) :
    roundK G20 L20 (CW G20 L20) 54 none 3 ⟨(sp 0 63 [(0, .slice .any (l.map Iv.c)), (3, .box [.int .i64 s.x.lo, .int .i64 s.x.hi]), (5, .arr 0 (s.out.map Iv.c).length 2), (6, .bool s.pl), (7, .int .i64 ((i : Nat) : Int))]), [.arr true 2 (s.out.map Iv.c)]⟩ =
      some (.normal, ⟨(sp 0 63 [(0, .slice .any (l.map Iv.c)), (3, .box [.int .i64 (joinStep s l[i]).x.lo, .int .i64 (joinStep s l[i]).x.hi]), (5, .arr 0 ((joinStep s l[i]).out.map Iv.c).length 2), (6, .bool (joinStep s l[i]).pl), (7, .int .i64 ((i + 1 : Nat) : Int))]), [.arr true 2 ((joinStep s l[i]).out.map Iv.c)]⟩) := by
  rw [e54_3, List.length_map, lt_dec hi, getI l i hi, wsucc i (by omega)]
  generalize l[i] = z
  have h1 : (s.out.length + 1) * 16 ≤ room := by unfold room; omega
  have h2 : (s.out.length + 1 + 1) * 16 ≤ room := by
    have hq : s.out.length + 1 + 1 ≤ 100000 := by omega
    exact Nat.le_trans (Nat.mul_le_mul_right 16 hq) (by unfold room; decide)
  simp only [asInt_i, asBool_i, asRows_i, asCells_i, asTuple_i, asBox_i, asObCells_i, asLoop_i, uncons_i, unconsO_i, isNil_i, asPtr_i, asFn_f, asFn_y, asArr_i, asObArr_t, asObArr_f, isReady_i, isBusy_i, uncons_c, uncons_sc, arrRows_i, Option.bind_some, Option.bind_none, cond_true, cond_false, cond_dec, cond_not, p23, p81, List.length_map, appI s.out s.x, appI (s.out ++ [s.x]) z, appI s.out z, List.length_append, List.length_cons, List.length_nil, Nat.zero_add, h1, h2, if_true]
  unfold joinStep
  cases hc : isect z s.x with
  | true => simp only [cond_true]
  | false =>
    simp only [cond_false]
    cases hp : s.pl with
    | true => simp only [cond_true, Bool.true_eq_false, false_and, if_false, List.length_append, List.length_cons, List.length_nil, Nat.zero_add]
    | false =>
      simp only [cond_false, true_and]
      by_cases hz : z.lo > s.x.hi
      · simp only [hz, if_true, List.length_append, List.length_cons, List.length_nil, Nat.zero_add]
      · simp only [hz, if_false, List.length_append, List.length_cons, List.length_nil, Nat.zero_add]
theorem joinStep_len (s : JS) (z : Iv) : (joinStep s z).out.length ≤ s.out.length + 2 := by
  unfold joinStep
  cases isect z s.x with
  | true => simp
  | false =>
    simp only [cond_false]
    split <;> simp
set_option maxRecDepth 100000 in
theorem p54 (l : List Iv) (hl : l.length ≤ 1000) (x : Iv) : (CW G20 L20).p (.func 54) [.slice .any (l.map Iv.c), .agg [.int .i64 x.lo, .int .i64 x.hi]] = some (.slice .any ((join l x).map Iv.c)) := by
  have hloop := iterW_foldlN (round := roundK G20 L20 (CW G20 L20) 54 none 3)
    (S := fun i (s : JS) => ⟨(sp 0 63 [(0, .slice .any (l.map Iv.c)), (3, .box [.int .i64 s.x.lo, .int .i64 s.x.hi]), (5, .arr 0 (s.out.map Iv.c).length 2), (6, .bool s.pl), (7, .int .i64 ((i : Nat) : Int))]), [.arr true 2 (s.out.map Iv.c)]⟩)
    joinStep (fun i s => s.out.length ≤ 2 * i) l (id := 0) (fun i hi s ho => ⟨h54_3 l hl i hi s ho, by have := joinStep_len s l[i]; omega⟩)
    (fun s _ => by rw [e54_3, List.length_map, lt_decn]; rfl) ⟨[], x, false⟩ (Nat.le_refl _)
  obtain ⟨h1, h2⟩ := hloop
  unfold join
  generalize l.foldl joinStep ⟨[], x, false⟩ = s at h1 h2
  have n0 : nth (sp 0 63 [(0, .slice .any (l.map Iv.c)), (3, .box [.int .i64 s.x.lo, .int .i64 s.x.hi]), (5, .arr 0 (s.out.map Iv.c).length 2), (6, .bool s.pl), (7, .int .i64 ((l.length : Nat) : Int))]) 0 = .slice .any (l.map Iv.c) := rfl
  have n3 : nth (sp 0 63 [(0, .slice .any (l.map Iv.c)), (3, .box [.int .i64 s.x.lo, .int .i64 s.x.hi]), (5, .arr 0 (s.out.map Iv.c).length 2), (6, .bool s.pl), (7, .int .i64 ((l.length : Nat) : Int))]) 3 = .box [.int .i64 s.x.lo, .int .i64 s.x.hi] := rfl
  have n5 : nth (sp 0 63 [(0, .slice .any (l.map Iv.c)), (3, .box [.int .i64 s.x.lo, .int .i64 s.x.hi]), (5, .arr 0 (s.out.map Iv.c).length 2), (6, .bool s.pl), (7, .int .i64 ((l.length : Nat) : Int))]) 5 = .arr 0 (s.out.map Iv.c).length 2 := rfl
  have n6 : nth (sp 0 63 [(0, .slice .any (l.map Iv.c)), (3, .box [.int .i64 s.x.lo, .int .i64 s.x.hi]), (5, .arr 0 (s.out.map Iv.c).length 2), (6, .bool s.pl), (7, .int .i64 ((l.length : Nat) : Int))]) 6 = .bool s.pl := rfl
  have n7 : nth (sp 0 63 [(0, .slice .any (l.map Iv.c)), (3, .box [.int .i64 s.x.lo, .int .i64 s.x.hi]), (5, .arr 0 (s.out.map Iv.c).length 2), (6, .bool s.pl), (7, .int .i64 ((l.length : Nat) : Int))]) 7 = .int .i64 ((l.length : Nat) : Int) := rfl
  have hr : ((s.out.map Iv.c).length + 1) * 16 ≤ room := by rw [List.length_map]; unfold room; omega
  have ha1 : arrRows [.arr true 2 ((s.out ++ [s.x]).map Iv.c)] 0 ((s.out.map Iv.c).length + 1) = some ((s.out ++ [s.x]).map Iv.c) := by simp [arrRows, hget]
  have ha2 : arrRows [.arr true 2 (s.out.map Iv.c)] 0 (s.out.map Iv.c).length = some (s.out.map Iv.c) := by simp [arrRows, hget]
  refine CW_valH (u := .slice .any ((cond s.pl s.out (s.out ++ [s.x])).map Iv.c)) (h := [.arr false 2 ((cond s.pl s.out (s.out ++ [s.x])).map Iv.c)]) ?_ rfl
  rw [e54, CW_w]
  refine (bind_via h1 _).trans ?_
  cases hp : s.pl with
  | true =>
    rw [hp] at n0 n3 n5 n6 n7
    simp only [asInt_i, asBool_i, asRows_i, asBox_i, uncons_i, unconsO_i, isNil_i, asArr_i, asObArr_t, Option.bind_some, cond_true, n0, n3, n5, n6, n7, Nat.beq_refl, Bool.not_true, cond_false, ha2]
  | false =>
    rw [hp] at n0 n3 n5 n6 n7
    simp only [asInt_i, asBool_i, asRows_i, asBox_i, uncons_i, unconsO_i, isNil_i, asArr_i, asObArr_t, Option.bind_some, cond_true, n0, n3, n5, n6, n7, Nat.beq_refl, Bool.not_false, cond_false, cond_dec, if_true, hr, appI s.out s.x, ha1]
theorem join_len (l : List Iv) (x : Iv) : (join l x).length ≤ l.length + 1 := by
  have key : ∀ (l : List Iv) (s : JS), (l.foldl joinStep s).out.length + (cond (l.foldl joinStep s).pl 0 1) ≤ s.out.length + (cond s.pl 0 1) + l.length := by
    intro l
    induction l with
    | nil => intro s; simp
    | cons z l ih =>
      intro s
      have h1 := ih (joinStep s z)
      have h2 : (joinStep s z).out.length + (cond (joinStep s z).pl 0 1) ≤ s.out.length + (cond s.pl 0 1) + 1 := by
        unfold joinStep
        cases isect z s.x with
        | true => simp only [cond_true]; omega
        | false =>
          simp only [cond_false]
          split
          · rename_i h; simp [h.1]
          · simp; omega
      simp only [List.foldl_cons, List.length_cons]; omega
  have := key l ⟨[], x, false⟩
  unfold join
  simp only at *
  generalize l.foldl joinStep ⟨[], x, false⟩ = s at *
  cases hp : s.pl <;> rw [hp] at this <;> simp at this ⊢ <;> omega
/-- One pair's time joined. -/
def joinPair (pos : Nat) (d : Int) (x : Seg) (out : List Iv) (r : Seg) : List Iv := cond (isect x.time r.time) (cond (nears pos d (x, r)) (join out (inter x.time r.time)) out) out
def closeR (a b : List Seg) (pos : Nat) (d : Int) : List Iv := a.foldl (fun out x => b.foldl (joinPair pos d x) out) []
theorem joinPair_len (pos : Nat) (d : Int) (x : Seg) (out : List Iv) (r : Seg) : (joinPair pos d x out r).length ≤ out.length + 1 := by
  unfold joinPair
  cases isect x.time r.time with
  | false => simp
  | true =>
    cases nears pos d (x, r) with
    | false => simp
    | true => exact join_len _ _
theorem joinPairs_len (pos : Nat) (d : Int) (x : Seg) : ∀ (b : List Seg) (out : List Iv), (b.foldl (joinPair pos d x) out).length ≤ out.length + b.length := by
  intro b
  induction b with
  | nil => intro out; simp
  | cons r b ih =>
    intro out
    have h1 := ih (joinPair pos d x out r)
    have h2 := joinPair_len pos d x out r
    simp only [List.foldl_cons, List.length_cons]; omega
set_option maxRecDepth 100000 in
theorem h22_6 {a b : List Seg} {pos : Nat} {d : Int} (F : Fl2 a b pos d) (i : Nat) (hi : i < a.length) (j : Nat) (hj : j < b.length) (out : List Iv) (ho : out.length ≤ 1000) :
    roundK G20 L20 (CW G20 L20) 22 none 6 ⟨(sp 0 66 [(0, .slice .any (a.map Seg.c)), (1, .slice .any (b.map Seg.c)), (5, .box [.int .i64 ((pos : Nat) : Int), .int .i64 d]), (7, .slice .any (out.map Iv.c)), (8, .int .i64 ((i : Nat) : Int)), (9, .int .i64 ((j : Nat) : Int))]), []⟩ =
      some (.normal, ⟨(sp 0 66 [(0, .slice .any (a.map Seg.c)), (1, .slice .any (b.map Seg.c)), (5, .box [.int .i64 ((pos : Nat) : Int), .int .i64 d]), (7, .slice .any ((joinPair pos d a[i] out b[j]).map Iv.c)), (8, .int .i64 ((i : Nat) : Int)), (9, .int .i64 ((j + 1 : Nat) : Int))]), []⟩) := by
  have hx := F.ha _ (List.getElem_mem hi)
  have hr := F.hb _ (List.getElem_mem hj)
  have h2 := F.hpos.1 _ (List.getElem_mem hi)
  have h3 := F.hpos.2 _ (List.getElem_mem hj)
  rw [e22_6, List.length_map, lt_dec hj, wsucc j (by have := F.hB; omega)]
  have g1 := getS a i hi
  have g2 := getS b j hj
  generalize a[i] = x at *
  generalize b[j] = r at *
  have h1 : (0 : Int) ≤ (pos : Int) := Int.natCast_nonneg pos
  simp only [g1, g2, asInt_i, asBool_i, asRows_i, asCells_i, asTuple_i, asBox_i, asObCells_i, asLoop_i, uncons_i, unconsO_i, isNil_i, asPtr_i, asFn_f, asFn_y, asArr_i, asObArr_t, asObArr_f, isReady_i, isBusy_i, uncons_c, uncons_sc, arrRows_i, Option.bind_some, Option.bind_none, cond_true, cond_false, cond_dec, cond_not, p24' x hx, p24' r hr, p23, h1, h2, h3, if_true, Int.toNat_natCast, List.length_map, List.drop_zero, ← List.map_take, p53_take x r hx hr pos d F.hd h2 h3, p54 out ho, joinPair, nears]
  cases isect x.time r.time with
  | false => rfl
  | true =>
    cases sepd (x.tube.take pos) (r.tube.take pos) d with
    | false => rfl
    | true => rfl
set_option maxRecDepth 100000 in
theorem p22 {a b : List Seg} {pos : Nat} {d : Int} (F : Fl2 a b pos d) (h20a : a.length ≤ 20) (h20b : b.length ≤ 20) :
    (CW G20 L20).p (.func 22) [.slice .any (a.map Seg.c), .slice .any (b.map Seg.c), .agg [.int .i64 (pos : Int), .int .i64 d]] = some (.slice .any ((closeR a b pos d).map Iv.c)) := by
  have inner : ∀ (i : Nat) (hi : i < a.length) (out : List Iv), out.length ≤ 20 * i → iterW (roundK G20 L20 (CW G20 L20) 22 none 6) ⟨(sp 0 66 [(0, .slice .any (a.map Seg.c)), (1, .slice .any (b.map Seg.c)), (5, .box [.int .i64 ((pos : Nat) : Int), .int .i64 d]), (7, .slice .any (out.map Iv.c)), (8, .int .i64 ((i : Nat) : Int)), (9, .int .i64 ((0 : Nat) : Int))]), []⟩ =
      some (.exit 2, ⟨(sp 0 66 [(0, .slice .any (a.map Seg.c)), (1, .slice .any (b.map Seg.c)), (5, .box [.int .i64 ((pos : Nat) : Int), .int .i64 d]), (7, .slice .any ((b.foldl (joinPair pos d a[i]) out).map Iv.c)), (8, .int .i64 ((i : Nat) : Int)), (9, .int .i64 ((b.length : Nat) : Int))]), []⟩) := fun i hi out ho =>
    (iterW_foldlN (round := roundK G20 L20 (CW G20 L20) 22 none 6)
      (S := fun j (out : List Iv) => ⟨(sp 0 66 [(0, .slice .any (a.map Seg.c)), (1, .slice .any (b.map Seg.c)), (5, .box [.int .i64 ((pos : Nat) : Int), .int .i64 d]), (7, .slice .any (out.map Iv.c)), (8, .int .i64 ((i : Nat) : Int)), (9, .int .i64 ((j : Nat) : Int))]), []⟩)
      (joinPair pos d a[i]) (fun j out => out.length ≤ 20 * i + j) b (id := 2) (fun j hj out ho => ⟨h22_6 F i hi j hj out (by omega), by have := joinPair_len pos d a[i] out b[j]; omega⟩)
      (fun out _ => by rw [e22_6, List.length_map, lt_decn]; rfl) out (by omega)).1
  have hloop := (iterW_foldlN (round := roundK G20 L20 (CW G20 L20) 22 none 3)
    (S := fun i (out : List Iv) => ⟨(sp 0 66 [(0, .slice .any (a.map Seg.c)), (1, .slice .any (b.map Seg.c)), (5, .box [.int .i64 ((pos : Nat) : Int), .int .i64 d]), (7, .slice .any (out.map Iv.c)), (8, .int .i64 ((i : Nat) : Int))]), []⟩)
    (fun out x => b.foldl (joinPair pos d x) out) (fun i out => out.length ≤ 20 * i) a (id := 0) (fun i hi out ho => by
      refine ⟨?_, by have := joinPairs_len pos d a[i] b out; omega⟩
      rw [e22_3, List.length_map, lt_dec hi, CW_w]
      refine (bind_via (inner i hi out ho) _).trans ?_
      rw [← wsucc i (by omega)]
      change _ = _
      kernel_rfl)
    (fun out _ => by rw [e22_3, List.length_map, lt_decn]; rfl) [] (Nat.le_refl _)).1
  rw [show a.foldl (fun out x => b.foldl (joinPair pos d x) out) [] = closeR a b pos d from rfl] at hloop
  generalize closeR a b pos d = R at hloop ⊢
  refine CW_val (h := []) ?_ rfl
  rw [e22, CW_w]
  refine (bind_via hloop _).trans ?_
  change _ = _
  kernel_rfl
def classR (a b : List Seg) (pos : Nat) (d : Int) : Int := cond (closeR a b pos d).isEmpty 1 (if (minR a b pos).1.isW = false ∧ (minR a b pos).1.hi < fl (d * d) then -1 else 0)
theorem p19 {a b : List Seg} {pos : Nat} {d : Int} (F : Fl2 a b pos d) (h20a : a.length ≤ 20) (h20b : b.length ≤ 20) :
    (CW G20 L20).p (.func 19) [.slice .any (a.map Seg.c), .slice .any (b.map Seg.c), .agg [.int .i64 (pos : Int), .int .i64 d]] = some (.int .i64 (classR a b pos d)) := by
  refine CW_val (h := []) ?_ rfl
  have hw : IntKind.wrap .i64 (d * d) = d * d := w64 (by have := F.hd.1; omega) (by have := F.hd.2; omega)
  rw [e19, p22 F h20a h20b, hw]
  simp only [asInt_i, asBool_i, asRows_i, asCells_i, asTuple_i, asBox_i, asObCells_i, asLoop_i, uncons_i, unconsO_i, isNil_i, asPtr_i, asFn_f, asFn_y, asArr_i, asObArr_t, asObArr_f, isReady_i, isBusy_i, uncons_c, uncons_sc, arrRows_i, Option.bind_some, Option.bind_none, cond_true, cond_false, cond_dec, cond_not, p16 a b F.ha F.hb F.hA F.hB pos F.hpos, p26, p47 _ F.hd, Iv.eta, classR, List.length_map]
  have he : ((((closeR a b pos d).length : Nat) : Int) == 0) = (closeR a b pos d).isEmpty := by
    cases closeR a b pos d <;> simp
    omega
  rw [he]
  cases (closeR a b pos d).isEmpty with
  | true => rfl
  | false =>
    cases hw : (minR a b pos).1.isW with
    | true => simp
    | false =>
      simp only [cond_false, true_and]
      split <;> rfl
end Go.Ab
/- The flows that the statements make out of raw ones, typed; conditions: none. -/
namespace Go.Ab
set_option linter.unusedVariables false
set_option linter.unusedSimpArgs false
set_option linter.unusedSimpArgs false
set_option linter.unusedVariables false
def i64r (x : Int) : Prop := -9223372036854775808 ≤ x ∧ x ≤ 9223372036854775807
def Iv.raw (a : Iv) : Prop := i64r a.lo ∧ i64r a.hi
def Iv.z : Iv := ⟨0, 0⟩
def nearI (a : Iv) : Iv := ⟨a.lo.tmod 1048576, a.lo.tmod 1048576 + (a.hi.tmod 200000 + 200000).tmod 200000⟩
theorem tmod_b (x : Int) (m : Int) (hm : 0 < m) : -m < x.tmod m ∧ x.tmod m < m := ⟨by have := Int.lt_tmod_of_pos x hm; omega, Int.tmod_lt_of_pos x hm⟩
theorem tmod_nn (x : Int) (m : Int) (hx : 0 ≤ x) : 0 ≤ x.tmod m := Int.tmod_nonneg m hx
theorem wrapmod (x : Int) (m : Int) (hm : 0 < m) (h : m ≤ 1000000000) : IntKind.wrap .i64 (x.tmod m + m) = x.tmod m + m := by
  have := tmod_b x m hm
  exact w64 (by omega) (by omega)
theorem nearI_b (a : Iv) : -1048576 < (nearI a).lo ∧ (nearI a).lo < 1048576 ∧ (nearI a).lo ≤ (nearI a).hi ∧ (nearI a).hi < 1248576 := by
  have h1 := tmod_b a.lo 1048576 (by decide)
  have h2 := tmod_b a.hi 200000 (by decide)
  have h3 := tmod_b (a.hi.tmod 200000 + 200000) 200000 (by decide)
  have h4 := tmod_nn (a.hi.tmod 200000 + 200000) 200000 (by omega)
  simp only [nearI]; omega
theorem nearI_valid (a : Iv) : (nearI a).valid := by
  obtain ⟨h1, h2, h3, h4⟩ := nearI_b a
  refine ⟨h3, by omega, by omega, .inr ?_⟩
  simp only [number]; omega
theorem p85 (a : Iv) : (CW G20 L20).p (.func 85) [.agg [.int .i64 a.lo, .int .i64 a.hi], .int .i64 200000] = some (.agg (nearI a).c) := by
  refine CW_val (h := []) ?_ rfl
  have e0 : ((200000 : Int) == 0) = false := rfl
  have h := nearI_b a
  simp only [nearI] at h
  rw [e85, e0, wrapmod a.hi 200000 (by decide) (by decide), w64 (by omega) (by omega)]
  rfl
def boxOf (raw : List Iv) : List Iv := (List.range 3).map fun i => nearI (raw.getD i Iv.z)
theorem getD_lt {α : Type} (l : List α) (i : Nat) (d : α) (h : i < l.length) : l.getD i d = l[i] := by simp [h]
theorem getD_ge {α : Type} (l : List α) (i : Nat) (d : α) (h : ¬ i < l.length) : l.getD i d = d := by rw [List.getD_eq_getElem?_getD, List.getElem?_eq_none (by omega)]; rfl
set_option maxRecDepth 100000 in
theorem p61 (raw : List Iv) : (CW G20 L20).p (.func 61) [.slice .any (raw.map Iv.c), .int .i64 3] = some (.slice .any ((boxOf raw).map Iv.c)) := by
  have hloop := (iterW_foldlN (round := roundK G20 L20 (CW G20 L20) 61 none 3)
    (S := fun i (out : List Iv) => ⟨(sp 0 29 [(0, .slice .any (raw.map Iv.c)), (1, .int .i64 3), (5, .arr 0 (out.map Iv.c).length 2), (6, .int .i64 ((i : Nat) : Int))]), [.arr true 2 (out.map Iv.c)]⟩)
    (fun out (k : Nat) => out ++ [nearI (raw.getD k Iv.z)]) (fun i out => out.length = i) (List.range 3) (id := 0) (fun i hi out ho => by
      have hi3 : i < 3 := by simpa using hi
      have hk : (List.range 3)[i]'hi = i := List.getElem_range hi
      have h1 : (out.length + 1) * 16 ≤ room := by rw [ho]; exact Nat.le_trans (Nat.mul_le_mul_right 16 (show i + 1 ≤ 4 by omega)) (by unfold room; decide)
      have hc : decide ((i : Int) < 3) = true := by simp; omega
      refine ⟨?_, by simp [ho]⟩
      rw [e61_3, hc]
      simp only [List.length_map, wsucc i (by omega), hk]
      by_cases hr : i < raw.length
      · rw [lt_dec hr, getI raw i hr, getD_lt raw i _ hr]
        simp only [asInt_i, asBool_i, asRows_i, asCells_i, asTuple_i, asBox_i, asObCells_i, asLoop_i, uncons_i, unconsO_i, isNil_i, asPtr_i, asFn_f, asFn_y, asArr_i, asObArr_t, asObArr_f, isReady_i, isBusy_i, uncons_c, uncons_sc, arrRows_i, Option.bind_some, Option.bind_none, cond_true, cond_false, cond_dec, cond_not, p85, appI, List.length_map, List.length_append, List.length_cons, List.length_nil, Nat.zero_add, h1, if_true]
      · have hd : decide ((i : Int) < ((raw.length : Nat) : Int)) = false := by simp; omega
        have hz := p85 Iv.z
        simp only [Iv.z] at hz
        rw [hd, getD_ge raw i _ hr]
        simp only [asInt_i, asBool_i, asRows_i, asCells_i, asTuple_i, asBox_i, asObCells_i, asLoop_i, uncons_i, unconsO_i, isNil_i, asPtr_i, asFn_f, asFn_y, asArr_i, asObArr_t, asObArr_f, isReady_i, isBusy_i, uncons_c, uncons_sc, arrRows_i, Option.bind_some, Option.bind_none, cond_true, cond_false, cond_dec, cond_not, hz, appI, List.length_map, List.length_append, List.length_cons, List.length_nil, Nat.zero_add, h1, if_true]
        rfl)
    (fun out _ => by
      have hc : decide ((((List.range 3).length : Nat) : Int) < 3) = false := by simp
      rw [e61_3, hc]; rfl) [] rfl).1
  have hb : (List.range 3).foldl (fun out (k : Nat) => out ++ [nearI (raw.getD k Iv.z)]) [] = boxOf raw := rfl
  rw [hb] at hloop
  generalize boxOf raw = R at hloop ⊢
  refine CW_valH (u := .slice .any (R.map Iv.c)) (h := [.arr false 2 (R.map Iv.c)]) ?_ rfl
  rw [e61, CW_w]
  refine (bind_via hloop _).trans ?_
  have n0 : nth (sp 0 29 [(0, .slice .any (raw.map Iv.c)), (1, .int .i64 3), (5, .arr 0 (R.map Iv.c).length 2), (6, .int .i64 (((List.range 3).length : Nat) : Int))]) 0 = .slice .any (raw.map Iv.c) := rfl
  have n1 : nth (sp 0 29 [(0, .slice .any (raw.map Iv.c)), (1, .int .i64 3), (5, .arr 0 (R.map Iv.c).length 2), (6, .int .i64 (((List.range 3).length : Nat) : Int))]) 1 = .int .i64 3 := rfl
  have n5 : nth (sp 0 29 [(0, .slice .any (raw.map Iv.c)), (1, .int .i64 3), (5, .arr 0 (R.map Iv.c).length 2), (6, .int .i64 (((List.range 3).length : Nat) : Int))]) 5 = .arr 0 (R.map Iv.c).length 2 := rfl
  have n6 : nth (sp 0 29 [(0, .slice .any (raw.map Iv.c)), (1, .int .i64 3), (5, .arr 0 (R.map Iv.c).length 2), (6, .int .i64 (((List.range 3).length : Nat) : Int))]) 6 = .int .i64 (((List.range 3).length : Nat) : Int) := rfl
  simp only [asInt_i, asRows_i, unconsO_i, asArr_i, asObArr_t, Option.bind_some, cond_true, n0, n1, n5, n6, Nat.beq_refl, arrRows_i]
/-- A number picked out of an interval. -/
def pickI (a : Iv) (x : Int) : Int := a.lo + x.tmod (a.hi - a.lo + 1)
def u32 (x : Int) : Int := IntKind.wrap .u32 x
theorem u32_b (x : Int) : 0 ≤ u32 x ∧ u32 x < 4294967296 := by
  have e : u32 x = x % 4294967296 := by simp [u32, IntKind.wrap, IntKind.bits, IntKind.signed]
  rw [e]; omega
theorem p55 (a : Iv) (h : -1048576 < a.lo ∧ a.lo < 1048576 ∧ a.lo ≤ a.hi ∧ a.hi < 1248576) (x : Int) (hx : 0 ≤ x ∧ x < 4294967296) : (CW G20 L20).p (.func 55) [.agg [.int .i64 a.lo, .int .i64 a.hi], .int .u32 x] = some (.int .i64 (pickI a x)) := by
  refine CW_val (h := []) ?_ rfl
  have e1 : IntKind.wrap .i64 (a.hi - a.lo) = a.hi - a.lo := w64 (by omega) (by omega)
  have e2 : IntKind.wrap .i64 (a.hi - a.lo + 1) = a.hi - a.lo + 1 := w64 (by omega) (by omega)
  have e3 : IntKind.wrap .i64 x = x := w64 (by omega) (by omega)
  have e4 : (a.hi - a.lo + 1 == 0) = false := by simp; omega
  have h3 := tmod_b x (a.hi - a.lo + 1) (by omega)
  rw [e55, e1, e2, e3, e4, w64 (by omega) (by omega)]
  rfl
def partAt (b raw : List Iv) (i : Nat) : Iv :=
  let x := raw.getD i Iv.z
  let p := pickI (b.getD i Iv.z) (u32 x.lo)
  let q := pickI (b.getD i Iv.z) (u32 x.hi)
  ⟨if q < p then q else p, if q > p then q else p⟩
def partI (b raw : List Iv) : List Iv := (List.range b.length).map (partAt b raw)
set_option maxRecDepth 100000 in
theorem p62 (b raw : List Iv) (hb3 : b.length = 3) (hb : ∀ a ∈ b, -1048576 < a.lo ∧ a.lo < 1048576 ∧ a.lo ≤ a.hi ∧ a.hi < 1248576) : (CW G20 L20).p (.func 62) [.slice .any (b.map Iv.c), .slice .any (raw.map Iv.c)] = some (.slice .any ((partI b raw).map Iv.c)) := by
  have hloop := (iterW_foldlN (round := roundK G20 L20 (CW G20 L20) 62 none 3)
    (S := fun i (out : List Iv) => ⟨(sp 0 53 [(0, .slice .any (b.map Iv.c)), (1, .slice .any (raw.map Iv.c)), (5, .arr 0 (out.map Iv.c).length 2), (6, .int .i64 ((i : Nat) : Int))]), [.arr true 2 (out.map Iv.c)]⟩)
    (fun out (k : Nat) => out ++ [partAt b raw k]) (fun i out => out.length = i) (List.range b.length) (id := 0) (fun i hi out ho => by
      have hi3 : i < b.length := by simpa using hi
      have hk : (List.range b.length)[i]'hi = i := List.getElem_range hi
      have h1 : (out.length + 1) * 16 ≤ room := by rw [ho]; exact Nat.le_trans (Nat.mul_le_mul_right 16 (show i + 1 ≤ 4 by omega)) (by unfold room; decide)
      have hba := hb _ (List.getElem_mem hi3)
      have ha : ∀ x : Iv, List.append (out.map Iv.c) [[.int .i64 x.lo, .int .i64 x.hi]] = (out ++ [x]).map Iv.c := fun x => appI out x
      refine ⟨?_, by simp [ho]⟩
      have hpa : partAt b raw i = ⟨if pickI b[i] (u32 (raw.getD i Iv.z).hi) < pickI b[i] (u32 (raw.getD i Iv.z).lo) then pickI b[i] (u32 (raw.getD i Iv.z).hi) else pickI b[i] (u32 (raw.getD i Iv.z).lo), if pickI b[i] (u32 (raw.getD i Iv.z).hi) > pickI b[i] (u32 (raw.getD i Iv.z).lo) then pickI b[i] (u32 (raw.getD i Iv.z).hi) else pickI b[i] (u32 (raw.getD i Iv.z).lo)⟩ := by
        unfold partAt; rw [getD_lt b i _ hi3]
      rw [e62_3, List.length_map, List.length_map, List.length_map, lt_dec hi3, wsucc i (by omega), hk]
      have ha1 := ha (partAt b raw i)
      rw [hpa] at ha1 ⊢
      simp only at ha1
      by_cases hr : i < raw.length
      · rw [lt_dec hr, getI raw i hr, getI b i hi3]
        rw [getD_lt raw i _ hr] at ha1 ⊢
        generalize raw[i] = x at *
        have q1 := p55 b[i] hba (u32 x.lo) (u32_b _)
        have q2 := p55 b[i] hba (u32 x.hi) (u32_b _)
        simp only [u32] at q1 q2 ha1 ⊢
        simp only [asInt_i, asBool_i, asRows_i, asCells_i, asTuple_i, asBox_i, asObCells_i, asLoop_i, uncons_i, unconsO_i, isNil_i, asPtr_i, asFn_f, asFn_y, asArr_i, asObArr_t, asObArr_f, isReady_i, isBusy_i, uncons_c, uncons_sc, arrRows_i, Option.bind_some, Option.bind_none, cond_true, cond_false, cond_dec, cond_not, q1, q2, List.length_map, List.length_append, List.length_cons, List.length_nil, Nat.zero_add, h1, if_true]
        rw [List.map_append]
        rfl
      · have hd : decide ((i : Int) < ((raw.length : Nat) : Int)) = false := by simp; omega
        rw [hd, getI b i hi3]
        rw [getD_ge raw i _ hr] at ha1 ⊢
        have hz : u32 Iv.z.lo = 0 := by decide
        have hz2 : u32 Iv.z.hi = 0 := by decide
        have q1 := p55 b[i] hba 0 (by decide)
        rw [hz, hz2] at ha1 ⊢
        simp only [asInt_i, asBool_i, asRows_i, asCells_i, asTuple_i, asBox_i, asObCells_i, asLoop_i, uncons_i, unconsO_i, isNil_i, asPtr_i, asFn_f, asFn_y, asArr_i, asObArr_t, asObArr_f, isReady_i, isBusy_i, uncons_c, uncons_sc, arrRows_i, Option.bind_some, Option.bind_none, cond_true, cond_false, cond_dec, cond_not, q1, ha1, List.length_map, List.length_append, List.length_cons, List.length_nil, Nat.zero_add, h1, if_true])
    (fun out _ => by
      have hc : decide ((((List.range b.length).length : Nat) : Int) < ((b.length : Nat) : Int)) = false := by simp
      rw [e62_3, List.length_map, hc]; rfl) [] rfl).1
  have hfold : ∀ (l : List Nat) (o : List Iv), l.foldl (fun out (k : Nat) => out ++ [partAt b raw k]) o = o ++ l.map (partAt b raw) := by
    intro l
    induction l with
    | nil => intro o; simp
    | cons k l ih => intro o; simp [ih]
  rw [hfold, List.nil_append, show (List.range b.length).map (partAt b raw) = partI b raw from rfl] at hloop
  generalize partI b raw = R at hloop ⊢
  refine CW_valH (u := .slice .any (R.map Iv.c)) (h := [.arr false 2 (R.map Iv.c)]) ?_ rfl
  rw [e62, CW_w]
  refine (bind_via hloop _).trans ?_
  have n0 : nth (sp 0 53 [(0, .slice .any (b.map Iv.c)), (1, .slice .any (raw.map Iv.c)), (5, .arr 0 (R.map Iv.c).length 2), (6, .int .i64 (((List.range b.length).length : Nat) : Int))]) 0 = .slice .any (b.map Iv.c) := rfl
  have n1 : nth (sp 0 53 [(0, .slice .any (b.map Iv.c)), (1, .slice .any (raw.map Iv.c)), (5, .arr 0 (R.map Iv.c).length 2), (6, .int .i64 (((List.range b.length).length : Nat) : Int))]) 1 = .slice .any (raw.map Iv.c) := rfl
  have n5 : nth (sp 0 53 [(0, .slice .any (b.map Iv.c)), (1, .slice .any (raw.map Iv.c)), (5, .arr 0 (R.map Iv.c).length 2), (6, .int .i64 (((List.range b.length).length : Nat) : Int))]) 5 = .arr 0 (R.map Iv.c).length 2 := rfl
  have n6 : nth (sp 0 53 [(0, .slice .any (b.map Iv.c)), (1, .slice .any (raw.map Iv.c)), (5, .arr 0 (R.map Iv.c).length 2), (6, .int .i64 (((List.range b.length).length : Nat) : Int))]) 6 = .int .i64 (((List.range b.length).length : Nat) : Int) := rfl
  simp only [asInt_i, asRows_i, unconsO_i, asArr_i, asObArr_t, Option.bind_some, cond_true, n0, n1, n5, n6, Nat.beq_refl, arrRows_i]
end Go.Ab
/- Flows made of raw ones, typed; what holds of them; conditions: none. -/
namespace Go.Ab
set_option linter.unusedVariables false
set_option linter.unusedSimpArgs false
set_option linter.unusedSimpArgs false
set_option linter.unusedVariables false
def hOf (x : Int) : Int := 1 + (x.tmod 65536 + 65536).tmod 65536
theorem hOf_b (x : Int) : 1 ≤ hOf x ∧ hOf x ≤ 65536 := by
  have h1 := tmod_b x 65536 (by decide)
  have h2 := tmod_b (x.tmod 65536 + 65536) 65536 (by decide)
  have h3 := tmod_nn (x.tmod 65536 + 65536) 65536 (by omega)
  unfold hOf; omega
theorem hOf_w (x : Int) : IntKind.wrap .i64 (1 + (IntKind.wrap .i64 (x.tmod 65536 + 65536)).tmod 65536) = hOf x := by
  have := hOf_b x
  rw [wrapmod x 65536 (by decide) (by decide)]
  exact w64 (by unfold hOf at this; omega) (by unfold hOf at this; omega)
def made1 (t : Int) (s : Seg) : Seg := ⟨t, hOf s.h, partI (boxOf s.tube) s.frm, boxOf s.tube, boxOf s.tube, partI (boxOf s.tube) s.to⟩
def madeStep (p : List Seg × Int) (s : Seg) : List Seg × Int := (p.1 ++ [made1 p.2 s], p.2 + hOf s.h)
def zeroSeg : Seg := ⟨0, 0, [], [], [], []⟩
def src (raw : List Seg) : List Seg := if raw = [] then [zeroSeg] else raw.take 6
def start (raw : List Seg) : Int := match raw with
  | [] => 0
  | s :: _ => s.t.tmod 1048576
def Made (raw : List Seg) : List Seg := ((src raw).foldl madeStep ([], start raw)).1
theorem boxOf_len (raw : List Iv) : (boxOf raw).length = 3 := by simp [boxOf]
theorem boxOf_b (raw : List Iv) : ∀ a ∈ boxOf raw, -1048576 < a.lo ∧ a.lo < 1048576 ∧ a.lo ≤ a.hi ∧ a.hi < 1248576 := by
  intro a ha
  simp only [boxOf, List.mem_map] at ha
  obtain ⟨i, _, rfl⟩ := ha
  exact nearI_b _
theorem boxOf_valid (raw : List Iv) : valids (boxOf raw) := by
  intro a ha
  simp only [boxOf, List.mem_map] at ha
  obtain ⟨i, _, rfl⟩ := ha
  exact nearI_valid _
theorem p62' (raw pick : List Iv) : (CW G20 L20).p (.func 62) [.slice .any ((boxOf raw).map Iv.c), .slice .any (pick.map Iv.c)] = some (.slice .any ((partI (boxOf raw) pick).map Iv.c)) := p62 _ _ (boxOf_len raw) (boxOf_b raw)
theorem appS (l : List Seg) (s : Seg) : List.append (l.map Seg.c) [[.int .i64 s.t, .int .i64 s.h, .slice .any (s.frm.map Iv.c), .slice .any (s.pre.map Iv.c), .slice .any (s.tube.map Iv.c), .slice .any (s.to.map Iv.c)]] = (l ++ [s]).map Seg.c := by rw [List.map_append]; rfl
theorem src_len (raw : List Seg) : (src raw).length = if (raw.length : Nat) = 0 then 1 else min 6 raw.length := by
  unfold src
  cases raw with
  | nil => rfl
  | cons s l => simp only [reduceCtorEq, if_false, List.length_take, List.length_cons, Nat.succ_ne_zero]
theorem lim (raw : List Seg) : (if (if (6 : Int) < ((raw.length : Nat) : Int) then (6 : Int) else ((raw.length : Nat) : Int)) > 1 then (if (6 : Int) < ((raw.length : Nat) : Int) then (6 : Int) else ((raw.length : Nat) : Int)) else 1) = (((src raw).length : Nat) : Int) := by
  rw [src_len]
  split <;> split <;> (try split) <;> omega
set_option maxRecDepth 100000 in
theorem h35 (raw : List Seg) : iterW (roundK G20 L20 (CW G20 L20) 35 none 5) ⟨(sp 0 70 [(0, .slice .any (raw.map Seg.c)), (1, .int .i64 3), (2, .int .i64 6), (7, .arr 0 0 6), (8, .int .i64 (start raw)), (9, .int .i64 0)]), [.arr true 6 []]⟩ =
    some (.exit 0, ⟨(sp 0 70 [(0, .slice .any (raw.map Seg.c)), (1, .int .i64 3), (2, .int .i64 6), (7, .arr 0 ((Made raw).map Seg.c).length 6), (8, .int .i64 ((src raw).foldl madeStep ([], start raw)).2), (9, .int .i64 (((src raw).length : Nat) : Int))]), [.arr true 6 ((Made raw).map Seg.c)]⟩) := by
  have hsl := src_len raw
  have hsl6 : (src raw).length ≤ 6 := by rw [hsl]; split <;> omega
  have hst : -1048576 < start raw ∧ start raw < 1048576 := by
    unfold start
    split
    · decide
    · exact tmod_b _ _ (by decide)
  refine (iterW_foldlN (round := roundK G20 L20 (CW G20 L20) 35 none 5)
    (S := fun i (p : List Seg × Int) => ⟨(sp 0 70 [(0, .slice .any (raw.map Seg.c)), (1, .int .i64 3), (2, .int .i64 6), (7, .arr 0 (p.1.map Seg.c).length 6), (8, .int .i64 p.2), (9, .int .i64 ((i : Nat) : Int))]), [.arr true 6 (p.1.map Seg.c)]⟩)
    madeStep (fun i p => p.1.length = i ∧ -1048576 ≤ p.2 ∧ p.2 ≤ 1048576 + 65536 * (i : Int)) (src raw) (id := 0) (fun i hi p hp => ?_) (fun p _ => ?_) ([], start raw) ⟨rfl, by simp only; omega, by simp only; omega⟩).1
  · obtain ⟨out, t⟩ := p
    obtain ⟨ho, ht1, ht2⟩ := hp
    simp only at ho ht1 ht2 ⊢
    have hb := hOf_b ((src raw)[i]).h
    refine ⟨?_, by simp [madeStep, ho], by simp only [madeStep]; omega, by simp only [madeStep]; omega⟩
    have hroom : (out.length + 1) * 112 ≤ room := by rw [ho]; exact Nat.le_trans (Nat.mul_le_mul_right 112 (show i + 1 ≤ 7 by omega)) (by unfold room; decide)
    rw [e35_5]
    simp only [List.length_map, lim, lt_dec hi, wsucc i (by omega), cond_true]
    by_cases hr : 0 < raw.length
    · have hne : raw ≠ [] := by intro e; rw [e] at hr; simp at hr
      have hs2 : src raw = raw.take 6 := by unfold src; rw [if_neg hne]
      have hir : i < raw.length := by rw [hs2, List.length_take] at hi; omega
      have hget : (src raw)[i] = raw[i] := by simp only [hs2, List.getElem_take]
      rw [hget] at hb ⊢
      have hap := appS out (made1 t raw[i])
      simp only [made1] at hap
      have hw : IntKind.wrap .i64 (t + hOf raw[i].h) = t + hOf raw[i].h := w64 (by omega) (by omega)
      simp only [lt_dec hir, getS raw i hir, asInt_i, asBool_i, asRows_i, asCells_i, asTuple_i, asBox_i, asObCells_i, asLoop_i, uncons_i, unconsO_i, isNil_i, asPtr_i, asFn_f, asFn_y, asArr_i, asObArr_t, asObArr_f, isReady_i, isBusy_i, uncons_c, uncons_sc, arrRows_i, Option.bind_some, Option.bind_none, cond_true, cond_false, cond_dec, cond_not, p61, p62', hOf_w, hw, hroom, if_true, hap, madeStep, made1, List.length_append, List.length_cons, List.length_nil, Nat.zero_add]
    · have hne : raw = [] := List.length_eq_zero_iff.1 (by omega)
      subst hne
      have hi0 : i = 0 := by
        have : (src []).length = 1 := rfl
        omega
      subst hi0
      have hget : (src [])[0] = zeroSeg := rfl
      rw [hget] at hb ⊢
      have q1 := p61 []
      have q2 := p62' [] []
      simp only [List.map_nil] at q1 q2
      have hap := appS out (made1 t zeroSeg)
      have hh : hOf zeroSeg.h = 1 := by decide
      simp only [made1, hh] at hap
      have hz1 : zeroSeg.frm = [] := rfl
      have hz2 : zeroSeg.tube = [] := rfl
      have hz3 : zeroSeg.to = [] := rfl
      rw [hz1, hz2, hz3] at hap
      have hw : IntKind.wrap .i64 (t + 1) = t + 1 := w64 (by omega) (by omega)
      have hd : decide (((0 : Nat) : Int) < ((([] : List Seg).length : Nat) : Int)) = false := by decide
      have hd2 : ¬ (((0 : Nat) : Int) < ((0 : Nat) : Int)) := by omega
      simp only [hd, if_neg hd2, List.map_nil, asInt_i, asBool_i, asRows_i, asCells_i, asTuple_i, asBox_i, asObCells_i, asLoop_i, uncons_i, unconsO_i, isNil_i, asPtr_i, asFn_f, asFn_y, asArr_i, asObArr_t, asObArr_f, isReady_i, isBusy_i, uncons_c, uncons_sc, arrRows_i, Option.bind_some, Option.bind_none, cond_true, cond_false, cond_dec, cond_not, q1, q2, hw, hroom, if_true, hap, madeStep, made1, hh, hz1, hz2, hz3, List.length_append, List.length_cons, List.length_nil, Nat.zero_add]
  · rw [e35_5]
    simp only [List.length_map, lim, lt_decn, cond_false]
set_option maxRecDepth 100000 in
theorem p35 (raw : List Seg) : (CW G20 L20).p (.func 35) [.slice .any (raw.map Seg.c), .int .i64 3, .int .i64 6] = some (.slice .any ((Made raw).map Seg.c)) := by
  have hl := h35 raw
  generalize Made raw = R at hl ⊢
  generalize ((src raw).foldl madeStep ([], start raw)).2 = T at hl
  generalize (((src raw).length : Nat) : Int) = N at hl
  refine CW_valH (u := .slice .any (R.map Seg.c)) (h := [.arr false 6 (R.map Seg.c)]) ?_ rfl
  have n0 : nth (sp 0 70 [(0, .slice .any (raw.map Seg.c)), (1, .int .i64 3), (2, .int .i64 6), (7, .arr 0 (R.map Seg.c).length 6), (8, .int .i64 T), (9, .int .i64 N)]) 0 = .slice .any (raw.map Seg.c) := rfl
  have n1 : nth (sp 0 70 [(0, .slice .any (raw.map Seg.c)), (1, .int .i64 3), (2, .int .i64 6), (7, .arr 0 (R.map Seg.c).length 6), (8, .int .i64 T), (9, .int .i64 N)]) 1 = .int .i64 3 := rfl
  have n2 : nth (sp 0 70 [(0, .slice .any (raw.map Seg.c)), (1, .int .i64 3), (2, .int .i64 6), (7, .arr 0 (R.map Seg.c).length 6), (8, .int .i64 T), (9, .int .i64 N)]) 2 = .int .i64 6 := rfl
  have n7 : nth (sp 0 70 [(0, .slice .any (raw.map Seg.c)), (1, .int .i64 3), (2, .int .i64 6), (7, .arr 0 (R.map Seg.c).length 6), (8, .int .i64 T), (9, .int .i64 N)]) 7 = .arr 0 (R.map Seg.c).length 6 := rfl
  have n8 : nth (sp 0 70 [(0, .slice .any (raw.map Seg.c)), (1, .int .i64 3), (2, .int .i64 6), (7, .arr 0 (R.map Seg.c).length 6), (8, .int .i64 T), (9, .int .i64 N)]) 8 = .int .i64 T := rfl
  have n9 : nth (sp 0 70 [(0, .slice .any (raw.map Seg.c)), (1, .int .i64 3), (2, .int .i64 6), (7, .arr 0 (R.map Seg.c).length 6), (8, .int .i64 T), (9, .int .i64 N)]) 9 = .int .i64 N := rfl
  rw [e35]
  cases raw with
  | nil =>
    refine Eq.trans (b := (iterW (roundK G20 L20 (CW G20 L20) 35 none 5) ⟨(sp 0 70 [(0, .slice .any (([] : List Seg).map Seg.c)), (1, .int .i64 3), (2, .int .i64 6), (7, .arr 0 0 6), (8, .int .i64 (start [])), (9, .int .i64 0)]), [.arr true 6 []]⟩).bind _) rfl ?_
    refine (bind_via hl _).trans ?_
    simp only [asInt_i, asRows_i, unconsO_i, asArr_i, asObArr_t, Option.bind_some, cond_true, n0, n1, n2, n7, n8, n9, Nat.beq_refl, arrRows_i]
  | cons s l =>
    have hlen : decide ((((List.map Seg.c (s :: l)).length : Nat) : Int) > 0) = true := by simp
    have hg := getS (s :: l) 0 (by simp)
    rw [show ((0 : Nat) : Int) = 0 from rfl] at hg
    have hst : start (s :: l) = s.t.tmod 1048576 := rfl
    rw [hst] at hl
    rw [hlen, hg]
    simp only [List.getElem_cons_zero, asInt_i, asBool_i, asRows_i, asCells_i, asTuple_i, asBox_i, asObCells_i, asLoop_i, uncons_i, unconsO_i, isNil_i, asPtr_i, asFn_f, asFn_y, asArr_i, asObArr_t, asObArr_f, isReady_i, isBusy_i, uncons_c, uncons_sc, arrRows_i, Option.bind_some, Option.bind_none, cond_true, cond_false, cond_dec, cond_not, CW_w]
    refine (bind_via hl _).trans ?_
    simp only [asInt_i, asRows_i, unconsO_i, asArr_i, asObArr_t, Option.bind_some, cond_true, n0, n1, n2, n7, n8, n9, Nat.beq_refl, arrRows_i]
/-- What is given of a query. -/
def posOf (n : Int) : Nat := 1 + (n.tmod 3).toNat
def dOf (n : Int) : Int := (n.tmod 4194304 + 4194304).tmod 4194304
theorem dOf_b (n : Int) : 0 ≤ dOf n ∧ dOf n < 4194304 := by
  have h1 := tmod_b n 4194304 (by decide)
  have h2 := tmod_b (n.tmod 4194304 + 4194304) 4194304 (by decide)
  have h3 := tmod_nn (n.tmod 4194304 + 4194304) 4194304 (by omega)
  unfold dOf; omega
theorem posOf_b (n : Int) (h : 0 ≤ n) : 1 ≤ posOf n ∧ posOf n ≤ 3 ∧ IntKind.wrap .i64 (1 + IntKind.wrap .i64 (n.tmod 3)) = ((posOf n : Nat) : Int) := by
  have h1 := tmod_b n 3 (by decide)
  have h2 := tmod_nn n 3 h
  have e1 : IntKind.wrap .i64 (n.tmod 3) = n.tmod 3 := w64 (by omega) (by omega)
  have e2 : IntKind.wrap .i64 (1 + n.tmod 3) = 1 + n.tmod 3 := w64 (by omega) (by omega)
  unfold posOf
  rw [e1, e2]
  omega
theorem p12 (a b : List Seg) (n d : Int) (hn : 0 ≤ n) : (CW G20 L20).p (.func 12) [.agg [.slice .any (a.map Seg.c), .slice .any (b.map Seg.c), .int .u8 n, .int .i64 d]] = some (.tuple [.slice .any ((Made a).map Seg.c), .slice .any ((Made b).map Seg.c), .agg [.int .i64 (posOf n : Nat), .int .i64 (dOf d)]]) := by
  refine CW_val (h := []) ?_ rfl
  rw [e12, p35, p35, (posOf_b n hn).2.2, wrapmod d 4194304 (by decide) (by decide)]
  rfl
/-! What holds of made flows. -/
def madeL : Int → List Seg → List Seg
  | _, [] => []
  | t, s :: l => made1 t s :: madeL (t + hOf s.h) l
theorem madeL_fold : ∀ (l : List Seg) (o : List Seg) (t : Int), (l.foldl madeStep (o, t)).1 = o ++ madeL t l
  | [], o, t => by simp [madeL]
  | s :: l, o, t => by
    simp only [List.foldl_cons, madeStep, madeL]
    rw [madeL_fold l]; simp
theorem Made_eq (raw : List Seg) : Made raw = madeL (start raw) (src raw) := by unfold Made; rw [madeL_fold]; simp
inductive Chain : List Seg → Prop
  | nil : Chain []
  | one (s : Seg) : 1 ≤ s.h → Chain [s]
  | cons (s r : Seg) (l : List Seg) : 1 ≤ s.h → r.t = s.fin → Chain (r :: l) → Chain (s :: r :: l)
theorem madeL_chain : ∀ (l : List Seg) (t : Int), Chain (madeL t l)
  | [], _ => .nil
  | [s], t => .one _ (hOf_b _).1
  | s :: r :: l, t => by
    have := madeL_chain (r :: l) (t + hOf s.h)
    simp only [madeL] at this ⊢
    exact .cons _ _ _ (hOf_b _).1 rfl this
theorem madeL_len : ∀ (l : List Seg) (t : Int), (madeL t l).length = l.length
  | [], _ => rfl
  | s :: l, t => by simp [madeL, madeL_len l]
theorem madeL_ok : ∀ (l : List Seg) (t : Int), -1048576 ≤ t → t + 65536 * (l.length : Int) ≤ 2000000 → ∀ s ∈ madeL t l, s.ok ∧ number s.t ∧ number s.fin
  | [], _, _, _, s, hs => by simp [madeL] at hs
  | x :: l, t, h1, h2, s, hs => by
    have hb := hOf_b x.h
    simp only [List.length_cons] at h2
    simp only [madeL, List.mem_cons] at hs
    rcases hs with rfl | hs
    · refine ⟨⟨?_, ?_, ?_, ?_, Nat.le_of_eq (boxOf_len _), boxOf_valid _⟩, ?_, ?_⟩ <;> simp only [made1, number, Seg.fin] <;> omega
    · exact madeL_ok l (t + hOf x.h) (by omega) (by omega) s hs
theorem src_len6 (raw : List Seg) : 1 ≤ (src raw).length ∧ (src raw).length ≤ 6 := by rw [src_len]; split <;> omega
theorem start_b (raw : List Seg) : -1048576 < start raw ∧ start raw < 1048576 := by
  unfold start
  split
  · decide
  · exact tmod_b _ _ (by decide)
theorem Made_len (raw : List Seg) : 1 ≤ (Made raw).length ∧ (Made raw).length ≤ 6 := by rw [Made_eq, madeL_len]; exact src_len6 raw
theorem Made_ok (raw : List Seg) : oks (Made raw) ∧ nums (Made raw) ∧ Chain (Made raw) := by
  have h := madeL_ok (src raw) (start raw) (by have := start_b raw; omega) (by have := start_b raw; have := src_len6 raw; omega)
  rw [Made_eq]
  exact ⟨fun s hs => (h s hs).1, fun s hs => (h s hs).2, madeL_chain _ _⟩
end Go.Ab
/- The sanity check answers true: its four flows are given; conditions: none. -/
namespace Go.Ab
set_option linter.unusedVariables false
set_option linter.unusedSimpArgs false
set_option linter.unusedSimpArgs false
set_option linter.unusedVariables false
def box1 (lo hi : Int) : List Iv := [⟨lo, hi⟩]
def still (t h lo hi : Int) : List Seg := [⟨t, h, box1 lo hi, box1 lo hi, box1 lo hi, box1 lo hi⟩]
def sA : List Seg := still 0 131072 0 65536
def sB : List Seg := still 65536 262144 196608 262144
def sF : List Seg := still 0 131072 1966080000 1966145536
def sL : List Seg := still 196608 65536 0 65536
theorem q32a : (CW G20 L20).p (.func 32) [.int .i64 0, .int .i64 2, .int .i64 0, .int .i64 1] = some (.slice .any (sA.map Seg.c)) := CW_val (h := []) (e32 _ _ _ _ _) rfl
theorem q32b : (CW G20 L20).p (.func 32) [.int .i64 1, .int .i64 5, .int .i64 3, .int .i64 4] = some (.slice .any (sB.map Seg.c)) := CW_val (h := []) (e32 _ _ _ _ _) rfl
theorem q32f : (CW G20 L20).p (.func 32) [.int .i64 0, .int .i64 2, .int .i64 30000, .int .i64 30001] = some (.slice .any (sF.map Seg.c)) := CW_val (h := []) (e32 _ _ _ _ _) rfl
theorem q32l : (CW G20 L20).p (.func 32) [.int .i64 3, .int .i64 4, .int .i64 0, .int .i64 1] = some (.slice .any (sL.map Seg.c)) := CW_val (h := []) (e32 _ _ _ _ _) rfl
theorem q33 (n m : Int) (h : IntKind.wrap .i64 (n * 65536) = m) : (CW G20 L20).p (.func 33) [.int .i64 n] = some (.agg [.int .i64 1, .int .i64 m]) := CW_val (h := []) ((e33 _ _).trans (by rw [h])) rfl
theorem q34 (a b n m : Int) (h1 : a = IntKind.wrap .i64 (n * 65536)) (h2 : b = IntKind.wrap .i64 (m * 65536)) : (CW G20 L20).p (.func 34) [.agg [.int .i64 a, .int .i64 b], .int .i64 n, .int .i64 m] = some (.bool true) := by
  refine CW_val (h := []) ((e34 _ _ _ _ _).trans ?_) rfl
  subst h1 h2
  simp only [beq_self_eq_true, cond_true]
theorem still_ok {t h lo hi : Int} (h1 : 0 ≤ t) (h2 : t ≤ 1000000) (h3 : 0 ≤ h) (h4 : h ≤ 1000000) (h5 : lo ≤ hi) (h6 : 0 ≤ lo) (h7 : hi < 2147483648) : oks (still t h lo hi) ∧ nums (still t h lo hi) ∧ long (still t h lo hi) 1 := by
  have hs : ∀ s ∈ still t h lo hi, s = ⟨t, h, box1 lo hi, box1 lo hi, box1 lo hi, box1 lo hi⟩ := fun s hs => by simpa [still] using hs
  refine ⟨fun s k => ?_, fun s k => ?_, fun s k => ?_⟩ <;> rw [hs s k]
  · refine ⟨by simp only; omega, by simp only; omega, by simp only; omega, by simp only; omega, by simp [box1], fun x hx => ?_⟩
    simp only [box1, List.mem_singleton] at hx
    subst hx
    refine ⟨h5, by simp only; omega, by simp only; omega, Or.inr ⟨?_, ?_⟩⟩ <;> simp only [number] <;> omega
  · simp only [number, Seg.fin]; omega
  · simp [box1]
theorem oA : oks sA ∧ nums sA ∧ long sA 1 := still_ok (by decide) (by decide) (by decide) (by decide) (by decide) (by decide) (by decide)
theorem oB : oks sB ∧ nums sB ∧ long sB 1 := still_ok (by decide) (by decide) (by decide) (by decide) (by decide) (by decide) (by decide)
theorem oF : oks sF ∧ nums sF ∧ long sF 1 := still_ok (by decide) (by decide) (by decide) (by decide) (by decide) (by decide) (by decide)
theorem oL : oks sL ∧ nums sL ∧ long sL 1 := still_ok (by decide) (by decide) (by decide) (by decide) (by decide) (by decide) (by decide)
theorem oN : oks [] ∧ nums [] ∧ long [] 1 := ⟨fun s h => (by simp at h), fun s h => (by simp at h), fun s h => (by simp at h)⟩
theorem mkF {a b : List Seg} {d : Int} (ha : oks a ∧ nums a ∧ long a 1) (hb : oks b ∧ nums b ∧ long b 1) (h1 : a.length ≤ 1) (h2 : b.length ≤ 1) (h3 : -2147483648 ≤ d) (h4 : d ≤ 2147483647) (h5 : small (d * d)) : Fl2 a b 1 d :=
  ⟨ha.1, hb.1, by omega, by omega, ⟨ha.2.2, hb.2.2⟩, h5⟩
theorem sorted1 {l : List Iv} (h : l.length ≤ 1) : sorted l := fun i j hj hi => by
  have : i = j := by omega
  subst this
  exact Int.le_refl _
theorem q18 {a b : List Seg} {d v : Int} (F : Fl2 a b 1 d) (h : classP a b 1 d = v) : (CW G20 L20).p (.func 18) [.slice .any (a.map Seg.c), .slice .any (b.map Seg.c), .agg [.int .i64 1, .int .i64 d]] = some (.int .i64 v) := by
  subst h; exact p18 (pos := 1) F
theorem q21 {a b : List Seg} {d : Int} {l : List Iv} (F : Fl2 a b 1 d) (h1 : (pairsOf a b).length ≤ 1) (h2 : (timesOf a b 1 d).length ≤ 1) (h : closeP a b 1 d = l) : (CW G20 L20).p (.func 21) [.slice .any (a.map Seg.c), .slice .any (b.map Seg.c), .agg [.int .i64 1, .int .i64 d]] = some (.slice .any (l.map Iv.c)) := by
  subst h; exact p21 (pos := 1) F (by omega) (sorted1 h2) (by omega)
theorem q13 {a b : List Seg} {v : Iv × Bool} (ha : oks a ∧ nums a ∧ long a 1) (hb : oks b ∧ nums b ∧ long b 1) (h1 : a.length ≤ 1) (h2 : b.length ≤ 1) (h : commonT a b = v) : (CW G20 L20).p (.func 13) [.slice .any (a.map Seg.c), .slice .any (b.map Seg.c)] = some (.tuple [.agg [.int .i64 v.1.lo, .int .i64 v.1.hi], .bool v.2]) := by
  subst h; exact p13 a b ha.1 hb.1 (by omega) (by omega) ha.2.1 hb.2.1
theorem q15 {a b : List Seg} {v : Iv × Bool} (ha : oks a ∧ nums a ∧ long a 1) (hb : oks b ∧ nums b ∧ long b 1) (h1 : a.length ≤ 1) (h2 : b.length ≤ 1) (h : minD a b 1 = v) : (CW G20 L20).p (.func 15) [.slice .any (a.map Seg.c), .slice .any (b.map Seg.c), .int .i64 1] = some (.tuple [.agg [.int .i64 v.1.lo, .int .i64 v.1.hi], .bool v.2]) := by
  subst h; exact p15 a b ha.1 hb.1 (by omega) (by omega) 1 ⟨ha.2.2, hb.2.2⟩
theorem one4 : sA.length ≤ 1 ∧ sB.length ≤ 1 ∧ sF.length ≤ 1 ∧ sL.length ≤ 1 := by decide
theorem sm (d : Int) (h : decide (-4611686018427387904 ≤ d * d) && decide (d * d ≤ 4611686018427387904) = true) : small (d * d) := by
  simp only [Bool.and_eq_true, decide_eq_true_eq] at h
  exact h
theorem r1 : (CW G20 L20).p (.func 13) [.slice .any (sA.map Seg.c), .slice .any (sB.map Seg.c)] = some (.tuple [.agg [.int .i64 65536, .int .i64 131072], .bool true]) := q13 (v := (⟨65536, 131072⟩, true)) oA oB (by decide) (by decide) (by kernel_rfl)
theorem r2 : (CW G20 L20).p (.func 13) [.slice .any (sA.map Seg.c), .slice .any (sL.map Seg.c)] = some (.tuple [.agg [.int .i64 0, .int .i64 0], .bool false]) := q13 (v := (⟨0, 0⟩, false)) oA oL (by decide) (by decide) (by kernel_rfl)
theorem r3 : (CW G20 L20).p (.func 15) [.slice .any (sA.map Seg.c), .slice .any (sB.map Seg.c), .int .i64 1] = some (.tuple [.agg [.int .i64 262144, .int .i64 1048576], .bool true]) := q15 (v := (⟨262144, 1048576⟩, true)) oA oB (by decide) (by decide) (by kernel_rfl)
theorem r4 : (CW G20 L20).p (.func 15) [.slice .any (sA.map Seg.c), .slice .any (sF.map Seg.c), .int .i64 1] = some (.tuple [.agg [.int .i64 (-2147483648), .int .i64 2147483648], .bool true]) := q15 (v := (⟨-2147483648, 2147483648⟩, true)) oA oF (by decide) (by decide) (by kernel_rfl)
theorem r5 : (CW G20 L20).p (.func 15) [.slice .any (sA.map Seg.c), .slice .any (sL.map Seg.c), .int .i64 1] = some (.tuple [.agg [.int .i64 0, .int .i64 0], .bool false]) := q15 (v := (⟨0, 0⟩, false)) oA oL (by decide) (by decide) (by kernel_rfl)
theorem r6 : (CW G20 L20).p (.func 21) [.slice .any (sA.map Seg.c), .slice .any (sB.map Seg.c), .agg [.int .i64 1, .int .i64 196608]] = some (.slice .any [[.int .i64 65536, .int .i64 131072]]) := q21 (l := [⟨65536, 131072⟩]) (mkF oA oB (by decide) (by decide) (by decide) (by decide) (sm _ (by decide))) (of_decide_eq_true (by kernel_rfl)) (of_decide_eq_true (by kernel_rfl)) (by kernel_rfl)
theorem r7 : (CW G20 L20).p (.func 21) [.slice .any (sA.map Seg.c), .slice .any (sB.map Seg.c), .agg [.int .i64 1, .int .i64 65536]] = some (.slice .any []) := q21 (l := []) (mkF oA oB (by decide) (by decide) (by decide) (by decide) (sm _ (by decide))) (of_decide_eq_true (by kernel_rfl)) (of_decide_eq_true (by kernel_rfl)) (by kernel_rfl)
theorem r8 : (CW G20 L20).p (.func 18) [.slice .any (sA.map Seg.c), .slice .any (sB.map Seg.c), .agg [.int .i64 1, .int .i64 65536]] = some (.int .i64 1) := q18 (mkF oA oB (by decide) (by decide) (by decide) (by decide) (sm _ (by decide))) (by kernel_rfl)
theorem r9 : (CW G20 L20).p (.func 18) [.slice .any (sA.map Seg.c), .slice .any (sB.map Seg.c), .agg [.int .i64 1, .int .i64 196608]] = some (.int .i64 0) := q18 (mkF oA oB (by decide) (by decide) (by decide) (by decide) (sm _ (by decide))) (by kernel_rfl)
theorem r10 : (CW G20 L20).p (.func 18) [.slice .any (sA.map Seg.c), .slice .any (sB.map Seg.c), .agg [.int .i64 1, .int .i64 327680]] = some (.int .i64 (-1)) := q18 (mkF oA oB (by decide) (by decide) (by decide) (by decide) (sm _ (by decide))) (by kernel_rfl)
theorem r11 : (CW G20 L20).p (.func 18) [.slice .any (sA.map Seg.c), .slice .any (sF.map Seg.c), .agg [.int .i64 1, .int .i64 1310720000]] = some (.int .i64 1) := q18 (mkF oA oF (by decide) (by decide) (by decide) (by decide) (sm _ (by decide))) (by kernel_rfl)
theorem r12 : (CW G20 L20).p (.func 18) [.slice .any (sA.map Seg.c), .slice .any (sF.map Seg.c), .agg [.int .i64 1, .int .i64 1966080000]] = some (.int .i64 0) := q18 (mkF oA oF (by decide) (by decide) (by decide) (by decide) (sm _ (by decide))) (by kernel_rfl)
theorem r13 : (CW G20 L20).p (.func 18) [.slice .any (sA.map Seg.c), .slice .any (sL.map Seg.c), .agg [.int .i64 1, .int .i64 589824]] = some (.int .i64 1) := q18 (mkF oA oL (by decide) (by decide) (by decide) (by decide) (sm _ (by decide))) (by kernel_rfl)
theorem r14 : (CW G20 L20).p (.func 18) [.slice .any [], .slice .any (sA.map Seg.c), .agg [.int .i64 1, .int .i64 0]] = some (.int .i64 1) := q18 (a := []) (mkF oN oA (by decide) (by decide) (by decide) (by decide) (sm _ (by decide))) (by kernel_rfl)
theorem r15 : (CW G20 L20).p (.func 26) [.agg [.int .i64 (-2147483648), .int .i64 2147483648]] = some (.bool true) := p26 _ _
set_option maxRecDepth 100000 in
theorem p11 : (CW G20 L20).p (.func 11) [] = some (.bool true) := by
  refine CW_val (h := []) ?_ rfl
  rw [e11]
  simp only [q32a, q32b, q32f, q32l, r1, r2, r3, r4, r5, r6, r7, r8, r9, r10, r11, r12, r13, r14, r15, q33 1 65536 (by decide), q33 3 196608 (by decide), q33 5 327680 (by decide), q33 20000 1310720000 (by decide), q33 30000 1966080000 (by decide), q33 9 589824 (by decide), q33 0 0 (by decide), asInt_i, asBool_i, asRows_i, asCells_i, asTuple_i, asBox_i, asObCells_i, asLoop_i, uncons_i, unconsO_i, isNil_i, asPtr_i, asFn_f, asFn_y, asArr_i, asObArr_t, asObArr_f, isReady_i, isBusy_i, uncons_c, uncons_sc, arrRows_i, Option.bind_some, Option.bind_none, cond_true, cond_false, cond_dec, cond_not]
  have g : getRow [[V.int IntKind.i64 65536, V.int IntKind.i64 131072]] 0 2 = some [V.int IntKind.i64 65536, V.int IntKind.i64 131072] := rfl
  have c : ((([[V.int IntKind.i64 65536, V.int IntKind.i64 131072]].length : Nat) : Int) != 1) = false := by decide
  simp only [c, g, q34 65536 131072 1 2 (by decide) (by decide), q34 262144 1048576 4 16 (by decide) (by decide), asInt_i, asBool_i, asRows_i, asCells_i, asTuple_i, asBox_i, asObCells_i, asLoop_i, uncons_i, unconsO_i, isNil_i, asPtr_i, asFn_f, asFn_y, asArr_i, asObArr_t, asObArr_f, isReady_i, isBusy_i, uncons_c, uncons_sc, arrRows_i, Option.bind_some, Option.bind_none, cond_true, cond_false, cond_dec, cond_not]
  rfl
end Go.Ab
/- The plain law: what the program and its reference compute of made flows is the same; conditions: none. -/
namespace Go.Ab
set_option linter.unusedVariables false
set_option linter.unusedSimpArgs false
set_option linter.unusedVariables false
/-- All pairs whose times meet, in order. -/
def prod (a b : List Seg) : List (Seg × Seg) := a.flatMap fun x => (b.filter fun r => isect x.time r.time).map fun r => (x, r)
def upT (l : List Seg) : Prop := l.Pairwise fun x y => x.t ≤ y.t ∧ x.fin ≤ y.fin ∧ x.fin ≤ y.t
def posH (l : List Seg) : Prop := ∀ s ∈ l, 0 ≤ s.h
theorem isect_iff {x r : Seg} (hx : 0 ≤ x.h) (hr : 0 ≤ r.h) : isect x.time r.time = true ↔ x.t ≤ r.fin ∧ r.t ≤ x.fin := by
  unfold isect Seg.time
  simp only [Bool.not_eq_true', decide_eq_false_iff_not]
  unfold Seg.fin
  constructor
  · intro h; constructor <;> (split at h <;> split at h <;> omega)
  · intro h; split <;> split <;> omega
theorem isect_eq {x r : Seg} (hx : 0 ≤ x.h) (hr : 0 ≤ r.h) : isect x.time r.time = (!decide (r.fin < x.t) && !decide (r.t > x.fin)) := by
  have := isect_iff hx hr
  by_cases h : isect x.time r.time = true
  · rw [h]; have := this.1 h; simp; omega
  · have h2 : ¬ (x.t ≤ r.fin ∧ r.t ≤ x.fin) := fun k => h (this.2 k)
    rw [Bool.not_eq_true] at h; rw [h]
    symm
    simp only [Bool.and_eq_false_iff, Bool.not_eq_false', decide_eq_true_eq]
    omega
theorem skipB_eq (t : Int) : ∀ (b : List Seg), upT b → skipB t b = b.filter fun r => !decide (r.fin < t)
  | [], _ => rfl
  | r :: b, h => by
    have h1 := List.pairwise_cons.1 h
    unfold skipB
    rw [List.dropWhile_cons, List.filter_cons]
    by_cases hr : r.fin < t
    · simp only [hr, decide_true, if_true, Bool.not_true, Bool.false_eq_true, if_false]
      exact skipB_eq t b h1.2
    · simp only [hr, decide_false, Bool.false_eq_true, if_false, Bool.not_false, if_true]
      congr 1
      refine (List.filter_eq_self.2 fun s hs => ?_).symm
      have := (h1.1 s hs).2.1
      simp; omega
theorem meetB_eq (e : Int) : ∀ (b : List Seg), upT b → meetB e b = b.filter fun r => !decide (r.t > e)
  | [], _ => rfl
  | r :: b, h => by
    have h1 := List.pairwise_cons.1 h
    unfold meetB
    rw [List.takeWhile_cons, List.filter_cons]
    by_cases hr : r.t > e
    · simp only [hr, decide_true, Bool.not_true, Bool.false_eq_true, if_false]
      refine (List.filter_eq_nil_iff.2 fun s hs => ?_).symm
      have := (h1.1 s hs).1
      simp; omega
    · simp only [hr, decide_false, Bool.not_false, if_true]
      congr 1
      exact meetB_eq e b h1.2
theorem pairs_prod : ∀ (a b : List Seg), upT a → upT b → posH a → posH b → pairsOf a b = prod a b
  | [], b, _, _, _, _ => rfl
  | s :: a, b, ha, hb, pa, pb => by
    have h1 := List.pairwise_cons.1 ha
    have hf : upT (b.filter fun r => !decide (r.fin < s.t)) := List.Pairwise.filter _ hb
    have ps : 0 ≤ s.h := pa s (by simp)
    unfold pairsOf
    rw [skipB_eq _ b hb, meetB_eq _ _ hf, pairs_prod a _ h1.2 hf (fun x hx => pa x (by simp [hx])) (fun x hx => pb x (List.mem_filter.1 hx).1)]
    unfold prod
    rw [List.flatMap_cons, List.filter_filter]
    congr 1
    · congr 1
      refine List.filter_congr fun r hr => ?_
      rw [isect_eq ps (pb r hr), Bool.and_comm]
    · have : ∀ x ∈ a, ((b.filter fun r => !decide (r.fin < s.t)).filter fun r => isect x.time r.time).map (fun r => (x, r)) = (b.filter fun r => isect x.time r.time).map fun r => (x, r) := fun x hx => by
        rw [List.filter_filter]
        congr 1
        refine List.filter_congr fun r hr => ?_
        have hxs := h1.1 x hx
        cases hi : isect x.time r.time with
        | false => rfl
        | true =>
          have := (isect_iff (pa x (by simp [hx])) (pb r hr)).1 hi
          simp; omega
      clear ha hf
      induction a with
      | nil => rfl
      | cons x a ih =>
        rw [List.flatMap_cons, List.flatMap_cons, this x (by simp)]
        congr 1
        exact ih (fun y hy => pa y (by simp at hy ⊢; rcases hy with rfl | hy <;> simp_all)) ⟨fun y hy => h1.1 y (by simp [hy]), (List.pairwise_cons.1 h1.2).2⟩ fun y hy => this y (by simp [hy])
theorem prod_mem {a b : List Seg} {p : Seg × Seg} (h : p ∈ prod a b) : p.1 ∈ a ∧ p.2 ∈ b ∧ isect p.1.time p.2.time = true := by
  unfold prod at h
  simp only [List.mem_flatMap, List.mem_map, List.mem_filter] at h
  obtain ⟨x, hx, r, ⟨hr, hi⟩, rfl⟩ := h
  exact ⟨hx, hr, hi⟩
theorem prod_len (a b : List Seg) : (prod a b).length ≤ a.length * b.length := by
  unfold prod
  induction a with
  | nil => simp
  | cons x a ih =>
    rw [List.flatMap_cons, List.length_append, List.length_map, List.length_cons, Nat.succ_mul]
    have := List.length_filter_le (fun r => isect x.time r.time) b
    omega
/-- Times of pairs in order. -/
theorem prod_up {a b : List Seg} (ha : upT a) (hb : upT b) (pa : posH a) (pb : posH b) : (prod a b).Pairwise fun p q => (timeOf p.1 p.2).lo ≤ (timeOf q.1 q.2).lo := by
  unfold prod
  rw [List.pairwise_flatMap]
  refine ⟨fun x hx => ?_, ?_⟩
  · rw [List.pairwise_map]
    refine List.Pairwise.filter _ (List.Pairwise.imp (fun {r s} h => ?_) hb)
    simp only [timeOf]
    split <;> split <;> omega
  · have hm : a.Pairwise fun x y => (x.t ≤ y.t ∧ x.fin ≤ y.t) ∧ x ∈ a ∧ y ∈ a := by
      refine List.Pairwise.imp_of_mem (fun {x y} hx hy h => ⟨⟨h.1, h.2.2⟩, hx, hy⟩) ha
    refine List.Pairwise.imp (fun {x y} h p hp q hq => ?_) hm
    simp only [List.mem_map, List.mem_filter] at hp hq
    obtain ⟨r, ⟨hr, hi⟩, rfl⟩ := hp
    obtain ⟨s, ⟨hs, hj⟩, rfl⟩ := hq
    have h1 := (isect_iff (pa x h.2.1) (pb r hr)).1 hi
    simp only [timeOf]
    split <;> split <;> omega
theorem times_up {a b : List Seg} (ha : upT a) (hb : upT b) (pa : posH a) (pb : posH b) (pos : Nat) (d : Int) : (timesOf a b pos d).Pairwise fun s t => s.lo ≤ t.lo := by
  unfold timesOf
  rw [pairs_prod a b ha hb pa pb, List.pairwise_map]
  exact List.Pairwise.filter _ (prod_up ha hb pa pb)
theorem times_sorted {a b : List Seg} (ha : upT a) (hb : upT b) (pa : posH a) (pb : posH b) (pos : Nat) (d : Int) : sorted (timesOf a b pos d) := fun i j hj hi => by
  have := List.pairwise_iff_getElem.1 (times_up ha hb pa pb pos d)
  rcases Nat.lt_or_ge i j with h | h
  · exact this i j _ hj h
  · have : i = j := by omega
    subst this
    exact Int.le_refl _
theorem times_valid {a b : List Seg} (ha : upT a) (hb : upT b) (pa : posH a) (pb : posH b) (pos : Nat) (d : Int) : ∀ t ∈ timesOf a b pos d, t.lo ≤ t.hi := fun t ht => by
  unfold timesOf at ht
  rw [pairs_prod a b ha hb pa pb] at ht
  simp only [List.mem_map, List.mem_filter] at ht
  obtain ⟨p, ⟨hp, _⟩, rfl⟩ := ht
  obtain ⟨h1, h2, h3⟩ := prod_mem hp
  have q1 := pa _ h1
  have q2 := pb _ h2
  have := (isect_iff q1 q2).1 h3
  unfold timeOf Seg.fin at *
  simp only
  split <;> split <;> omega
theorem times_len {a b : List Seg} (ha : upT a) (hb : upT b) (pa : posH a) (pb : posH b) (pos : Nat) (d : Int) : (pairsOf a b).length ≤ a.length * b.length ∧ (timesOf a b pos d).length ≤ a.length * b.length := by
  have h := prod_len a b
  unfold timesOf
  rw [pairs_prod a b ha hb pa pb, List.length_map]
  exact ⟨h, Nat.le_trans (List.length_filter_le _ _) h⟩
/-! Nearest distances. -/
theorem runP_all {σ : Type} (step : σ → Seg × Seg → σ) : ∀ (l : List (Seg × Seg)) (s : σ), runP (fun s p => (step s p, true)) s l = (l.foldl step s, true)
  | [], _ => rfl
  | p :: l, s => by simp only [runP, List.foldl_cons]; exact runP_all step l _
def stepN (pos : Nat) (s : MM) (p : Seg × Seg) : MM :=
  cond (dist pos p).isW ⟨if 0 < s.lo then 0 else s.lo, s.hi, true⟩ ⟨if (dist pos p).lo < s.lo then (dist pos p).lo else s.lo, if (dist pos p).hi < s.hi then (dist pos p).hi else s.hi, true⟩
theorem prod_foldl {σ : Type} (f : σ → Seg × Seg → σ) (a b : List Seg) (s : σ) : (prod a b).foldl f s = a.foldl (fun s x => b.foldl (fun s r => cond (isect x.time r.time) (f s (x, r)) s) s) s := by
  unfold prod
  induction a generalizing s with
  | nil => rfl
  | cons x a ih =>
    rw [List.flatMap_cons, List.foldl_append, List.foldl_cons, ← ih]
    congr 1
    clear ih
    induction b generalizing s with
    | nil => rfl
    | cons r b ih =>
      rw [List.foldl_cons, ← ih, List.filter_cons]
      cases isect x.time r.time <;> rfl
theorem minR_prod (a b : List Seg) (pos : Nat) : minR a b pos = (let s := (prod a b).foldl (stepN pos) ⟨2147483648, 2147483648, false⟩; cond s.f (Iv.new s.lo s.hi, true) (⟨0, 0⟩, false)) := by
  rw [prod_foldl]; rfl
theorem min_rel (pos : Nat) : ∀ (l : List (Seg × Seg)) (s : MD) (m : MM), s.c2 = ⟨m.lo, m.hi⟩ → s.f = m.f → m.hi ≤ 2147483648 → (m.f = true → s.c1 = s.c2) → (m.f = false → s.c1 = ⟨0, 0⟩) →
    (let s' := l.foldl (fun s p => (step15 pos s p).1) s; let m' := l.foldl (stepN pos) m; s'.c2 = ⟨m'.lo, m'.hi⟩ ∧ s'.f = m'.f ∧ (m'.f = true → s'.c1 = s'.c2) ∧ (m'.f = false → s'.c1 = ⟨0, 0⟩))
  | [], s, m, h1, h2, _, h4, h5 => ⟨h1, h2, h4, h5⟩
  | p :: l, s, m, h1, h2, h3, h4, h5 => by
    simp only [List.foldl_cons]
    refine min_rel pos l _ _ ?_ ?_ ?_ ?_ ?_
    · simp only [step15, mini, stepN, h1]
      cases (dist pos p).isW with
      | false => rfl
      | true => simp only [cond_true]; congr 1; split <;> omega
    · simp only [step15, stepN]; cases (dist pos p).isW <;> rfl
    · simp only [stepN]
      cases (dist pos p).isW with
      | false => simp only [cond_false]; split <;> omega
      | true => simpa only [cond_true] using h3
    · intro _; rfl
    · intro h; simp only [stepN] at h; cases hw : (dist pos p).isW <;> rw [hw] at h <;> cases h
theorem minD_eq {a b : List Seg} (ha : upT a) (hb : upT b) (pa : posH a) (pb : posH b) (pos : Nat) : minD a b pos = minR a b pos := by
  rw [minR_prod]
  unfold minD
  rw [pairs_prod a b ha hb pa pb, show step15 pos = fun s p => ((fun s p => (step15 pos s p).1) s p, true) from rfl, runP_all]
  have := min_rel pos (prod a b) ⟨⟨0, 0⟩, ⟨2147483648, 2147483648⟩, false⟩ ⟨2147483648, 2147483648, false⟩ rfl rfl (by decide) (by simp) (fun _ => rfl)
  simp only at this ⊢
  generalize (prod a b).foldl (fun s p => (step15 pos s p).1) ⟨⟨0, 0⟩, ⟨2147483648, 2147483648⟩, false⟩ = s at this ⊢
  generalize (prod a b).foldl (stepN pos) ⟨2147483648, 2147483648, false⟩ = m at this ⊢
  obtain ⟨k1, k2, k3, k4⟩ := this
  rw [k2]
  cases hf : m.f with
  | true => rw [k3 hf, k1]; rfl
  | false => rw [k4 hf]; rfl
/-! Close times. -/
def apartI (l : List Iv) : Prop := l.Pairwise fun z w => z.hi < w.lo
theorem isect_ap {z t : Iv} (hz : z.lo ≤ z.hi) (ht : t.lo ≤ t.hi) (h : z.hi < t.lo) : isect z t = false := by
  unfold isect
  simp only [Bool.not_eq_false', decide_eq_true_eq]
  split <;> split <;> omega
theorem isect_me {z t : Iv} (hz : z.lo ≤ z.hi) (ht : t.lo ≤ t.hi) (h1 : z.lo ≤ t.lo) (h : t.lo ≤ z.hi) : isect z t = true := by
  unfold isect
  simp only [Bool.not_eq_true', decide_eq_false_iff_not]
  split <;> split <;> omega
theorem joins_before {t : Iv} (ht : t.lo ≤ t.hi) : ∀ (l out : List Iv), (∀ z ∈ l, z.lo ≤ z.hi ∧ z.hi < t.lo) → l.foldl joinStep ⟨out, t, false⟩ = ⟨out ++ l, t, false⟩
  | [], out, _ => by simp
  | z :: l, out, h => by
    have h1 := h z (by simp)
    have h2 : joinStep ⟨out, t, false⟩ z = ⟨out ++ [z], t, false⟩ := by
      unfold joinStep
      rw [isect_ap h1.1 ht h1.2]
      simp only [cond_false]
      rw [if_neg (by omega)]
    rw [List.foldl_cons, h2, joins_before ht l _ (fun y hy => h y (by simp [hy]))]
    simp
theorem join_merge {out : List Iv} {t : Iv} (ht : t.lo ≤ t.hi) (ho : apartI out) (hv : ∀ z ∈ out, z.lo ≤ z.hi ∧ z.lo ≤ t.lo) : join out t = mergeStep out t := by
  rcases List.eq_nil_or_concat out with rfl | ⟨l, z, rfl⟩
  · rfl
  · simp only [List.concat_eq_append] at ho hv ⊢
    have hz := hv z (by simp)
    have hl : ∀ y ∈ l, y.lo ≤ y.hi ∧ y.hi < t.lo := fun y hy => by
      have h1 := (List.pairwise_append.1 ho).2.2 y hy z (by simp)
      have h2 := hv y (by simp [hy])
      exact ⟨h2.1, by omega⟩
    unfold join mergeStep
    rw [List.foldl_append, joins_before ht l [] hl]
    simp only [List.nil_append, List.foldl_cons, List.foldl_nil, List.getLast?_append, List.getLast?_singleton, Option.some_or, List.dropLast_concat]
    by_cases h : t.lo ≤ z.hi
    · rw [if_pos h]
      unfold joinStep
      rw [isect_me hz.1 ht hz.2 h]
      simp only [cond_true, cond_false, Iv.hull]
      rw [if_neg (show ¬ t.lo < z.lo by omega)]
    · rw [if_neg h]
      unfold joinStep
      rw [isect_ap hz.1 ht (by omega)]
      simp only [cond_false]
      rw [if_neg (by omega)]
      rfl
theorem merge_inv {out : List Iv} {t u : Iv} (ht : t.lo ≤ t.hi) (hu : t.lo ≤ u.lo) (ho : apartI out) (hv : ∀ z ∈ out, z.lo ≤ z.hi ∧ z.lo ≤ t.lo) : apartI (mergeStep out t) ∧ ∀ z ∈ mergeStep out t, z.lo ≤ z.hi ∧ z.lo ≤ u.lo := by
  rcases List.eq_nil_or_concat out with rfl | ⟨l, z, rfl⟩
  · refine ⟨List.pairwise_singleton _ _, fun z hz => ?_⟩
    simp only [mergeStep, List.getLast?_nil, List.mem_singleton] at hz
    subst hz
    exact ⟨ht, hu⟩
  · simp only [List.concat_eq_append] at ho hv ⊢
    have hz := hv z (by simp)
    have hp := List.pairwise_append.1 ho
    unfold mergeStep
    simp only [List.getLast?_append, List.getLast?_singleton, Option.some_or, List.dropLast_concat]
    by_cases h : t.lo ≤ z.hi
    · rw [if_pos h]
      refine ⟨List.pairwise_append.2 ⟨hp.1, List.pairwise_singleton _ _, fun y hy w hw => ?_⟩, fun y hy => ?_⟩
      · simp only [List.mem_singleton] at hw
        subst hw
        exact hp.2.2 y hy z (by simp)
      · rcases List.mem_append.1 hy with hy | hy
        · have := hv y (by simp [hy]); omega
        · simp only [List.mem_singleton] at hy
          subst hy
          simp only
          split <;> omega
    · rw [if_neg h]
      refine ⟨List.pairwise_append.2 ⟨ho, List.pairwise_singleton _ _, fun y hy w hw => ?_⟩, fun y hy => ?_⟩
      · simp only [List.mem_singleton] at hw
        subst hw
        rcases List.mem_append.1 hy with hy | hy
        · have := hp.2.2 y hy z (by simp); omega
        · simp only [List.mem_singleton] at hy
          subst hy
          omega
      · rcases List.mem_append.1 hy with hy | hy
        · have := hv y hy; omega
        · simp only [List.mem_singleton] at hy
          subst hy
          omega
theorem joins_merge : ∀ (l out : List Iv), (l.Pairwise fun s t => s.lo ≤ t.lo) → (∀ t ∈ l, t.lo ≤ t.hi) → apartI out → (∀ t ∈ l, ∀ z ∈ out, z.lo ≤ t.lo) → (∀ z ∈ out, z.lo ≤ z.hi) → l.foldl join out = l.foldl mergeStep out
  | [], _, _, _, _, _, _ => rfl
  | t :: l, out, h1, h2, h3, h4, h5 => by
    have hp := List.pairwise_cons.1 h1
    have ht := h2 t (by simp)
    have hv : ∀ z ∈ out, z.lo ≤ z.hi ∧ z.lo ≤ t.lo := fun z hz => ⟨h5 z hz, h4 t (by simp) z hz⟩
    rw [List.foldl_cons, List.foldl_cons, join_merge ht h3 hv]
    refine joins_merge l _ hp.2 (fun u hu => h2 u (by simp [hu])) (merge_inv (u := t) ht (Int.le_refl _) h3 hv).1 (fun u hu z hz => ?_) fun z hz => ((merge_inv (u := t) ht (Int.le_refl _) h3 hv).2 z hz).1
    exact ((merge_inv (u := u) ht (hp.1 u hu) h3 hv).2 z hz).2
theorem inter_time {x r : Seg} (h : isect x.time r.time = true) : inter x.time r.time = timeOf x r := by
  unfold inter
  rw [h]; rfl
theorem closeR_times {a b : List Seg} (ha : upT a) (hb : upT b) (pa : posH a) (pb : posH b) (pos : Nat) (d : Int) : closeR a b pos d = (timesOf a b pos d).foldl join [] := by
  have h : closeR a b pos d = (prod a b).foldl (fun out p => cond (nears pos d p) (join out (inter p.1.time p.2.time)) out) [] := by
    rw [prod_foldl]; rfl
  rw [h]
  unfold timesOf
  rw [pairs_prod a b ha hb pa pb]
  have : ∀ (l : List (Seg × Seg)) (out : List Iv), (∀ p ∈ l, isect p.1.time p.2.time = true) → l.foldl (fun out p => cond (nears pos d p) (join out (inter p.1.time p.2.time)) out) out = ((l.filter (nears pos d)).map fun p => timeOf p.1 p.2).foldl join out := by
    intro l
    induction l with
    | nil => intro out _; rfl
    | cons p l ih =>
      intro out hp
      rw [List.foldl_cons, ih _ (fun q hq => hp q (by simp [hq])), List.filter_cons]
      cases hn : nears pos d p with
      | false => rfl
      | true => simp only [cond_true, if_true, List.map_cons, List.foldl_cons, inter_time (hp p (by simp))]
  exact this _ _ fun p hp => (prod_mem hp).2.2
theorem close_eq {a b : List Seg} (ha : upT a) (hb : upT b) (pa : posH a) (pb : posH b) (pos : Nat) (d : Int) : closeR a b pos d = closeP a b pos d := by
  rw [closeR_times ha hb pa pb]
  exact joins_merge _ [] (times_up ha hb pa pb pos d) (times_valid ha hb pa pb pos d) List.Pairwise.nil (fun _ _ z hz => by simp at hz) fun z hz => by simp at hz
theorem merge_ne (out : List Iv) (t : Iv) : mergeStep out t ≠ [] := by
  unfold mergeStep
  split
  · simp
  · split <;> simp
theorem merges_ne : ∀ (l out : List Iv), out ≠ [] → l.foldl mergeStep out ≠ []
  | [], _, h => h
  | t :: l, out, _ => by rw [List.foldl_cons]; exact merges_ne l _ (merge_ne _ _)
theorem close_empty (a b : List Seg) (pos : Nat) (d : Int) : (closeP a b pos d).isEmpty = !((pairsOf a b).any (nears pos d)) := by
  unfold closeP timesOf
  cases hf : (pairsOf a b).filter (nears pos d) with
  | nil =>
    have : (pairsOf a b).any (nears pos d) = false := by
      rw [List.any_eq_false]
      intro p hp
      have := (List.filter_eq_nil_iff.1 hf) p hp
      simpa using this
    rw [this]; rfl
  | cons p l =>
    have : (pairsOf a b).any (nears pos d) = true := by
      rw [List.any_eq_true]
      have hp : p ∈ (pairsOf a b).filter (nears pos d) := by rw [hf]; simp
      exact ⟨p, (List.mem_filter.1 hp).1, (List.mem_filter.1 hp).2⟩
    rw [this]
    have := merges_ne (l.map fun p => timeOf p.1 p.2) (mergeStep [] (timeOf p.1 p.2)) (merge_ne _ _)
    simp only [List.map_cons, List.foldl_cons, Bool.not_true]
    cases h : (l.map fun p => timeOf p.1 p.2).foldl mergeStep (mergeStep [] (timeOf p.1 p.2)) with
    | nil => exact absurd h this
    | cons _ _ => rfl
theorem class_eq {a b : List Seg} (ha : upT a) (hb : upT b) (pa : posH a) (pb : posH b) (pos : Nat) (d : Int) : classR a b pos d = classP a b pos d := by
  unfold classR classP verd
  rw [close_eq ha hb pa pb, close_empty, minD_eq ha hb pa pb]
  cases (pairsOf a b).any (nears pos d) <;> rfl
/-! Made flows. -/
theorem chain_up : ∀ (l : List Seg), Chain l → upT l ∧ posH l
  | [], _ => ⟨List.Pairwise.nil, fun s h => by simp at h⟩
  | [s], h => by
    cases h with
    | one _ h => exact ⟨List.pairwise_singleton _ _, fun x hx => by simp at hx; subst hx; omega⟩
  | s :: r :: l, h => by
    cases h with
    | cons _ _ _ h1 h2 h3 =>
      obtain ⟨q1, q2⟩ := chain_up (r :: l) h3
      have hr : 0 ≤ r.h := q2 r (by simp)
      refine ⟨List.pairwise_cons.2 ⟨fun x hx => ?_, q1⟩, fun x hx => ?_⟩
      · rcases List.mem_cons.1 hx with rfl | hx'
        · unfold Seg.fin at *; omega
        · have := (List.pairwise_cons.1 q1).1 x hx'
          have hx2 := q2 x hx
          unfold Seg.fin at *; omega
      · rcases List.mem_cons.1 hx with rfl | hx
        · omega
        · exact q2 x hx
end Go.Ab
/- The first statement's call answers true, whatever the query; conditions: none. -/
namespace Go.Ab
set_option linter.unusedVariables false
set_option linter.unusedSimpArgs false
set_option linter.unusedSimpArgs false
set_option linter.unusedVariables false
structure Good (a : List Seg) : Prop where
  ok : oks a
  num : nums a
  up : upT a
  pos : posH a
  long : long a 3
  len : a.length ≤ 6
theorem made_good (raw : List Seg) : Good (Made raw) := by
  obtain ⟨h1, h2, h3⟩ := Made_ok raw
  obtain ⟨h4, h5⟩ := chain_up _ h3
  refine ⟨h1, h2, h4, h5, ?_, (Made_len raw).2⟩
  rw [Made_eq]
  have : ∀ (l : List Seg) (t : Int), long (madeL t l) 3 := by
    intro l
    induction l with
    | nil => intro t s hs; simp [madeL] at hs
    | cons x l ih =>
      intro t s hs
      simp only [madeL, List.mem_cons] at hs
      rcases hs with rfl | hs
      · exact Nat.le_of_eq (boxOf_len _).symm
      · exact ih _ s hs
  exact this _ _
theorem nil_good : Good [] := ⟨fun s h => (by simp at h), fun s h => (by simp at h), List.Pairwise.nil, fun s h => (by simp at h), fun s h => (by simp at h), by simp⟩
theorem Good.lg {a : List Seg} (h : Good a) {pos : Nat} (hp : pos ≤ 3) : Go.Ab.long a pos := fun s hs => Nat.le_trans hp (h.long s hs)
theorem good_fl {a b : List Seg} (ha : Good a) (hb : Good b) {pos : Nat} (hp : pos ≤ 3) {d : Int} (h1 : 0 ≤ d) (h2 : d < 4194304) : Fl2 a b pos d :=
  ⟨ha.ok, hb.ok, by have := ha.len; omega, by have := hb.len; omega, ⟨ha.lg hp, hb.lg hp⟩, small_sq h1 (by omega)⟩
theorem merge_len (out : List Iv) (t : Iv) : (mergeStep out t).length ≤ out.length + 1 := by
  unfold mergeStep
  split
  · simp
  · rename_i z hz
    split
    · rw [List.length_append, List.length_dropLast, List.length_singleton]; omega
    · simp
theorem merges_len : ∀ (l out : List Iv), (l.foldl mergeStep out).length ≤ out.length + l.length
  | [], out => by simp
  | t :: l, out => by
    have h1 := merges_len l (mergeStep out t)
    have h2 := merge_len out t
    rw [List.foldl_cons, List.length_cons]; omega
theorem mul36 {m n : Nat} (h1 : m ≤ 6) (h2 : n ≤ 6) : m * n ≤ 36 := Nat.mul_le_mul h1 h2
set_option linter.unusedSectionVars false
section
variable {a b : List Seg} (ha : Good a) (hb : Good b) {pos : Nat} (hp : pos ≤ 3) {d : Int} (hd0 : 0 ≤ d) (hd1 : d < 4194304)
include ha hb
theorem g13 : (CW G20 L20).p (.func 13) [.slice .any (a.map Seg.c), .slice .any (b.map Seg.c)] = some (.tuple [.agg [.int .i64 (commonT a b).1.lo, .int .i64 (commonT a b).1.hi], .bool (commonT a b).2]) :=
  p13 a b ha.ok hb.ok (by have := ha.len; omega) (by have := hb.len; omega) ha.num hb.num
theorem g14 : (CW G20 L20).p (.func 14) [.slice .any (a.map Seg.c), .slice .any (b.map Seg.c)] = some (.tuple [.agg [.int .i64 (commonT a b).1.lo, .int .i64 (commonT a b).1.hi], .bool (commonT a b).2]) :=
  p14 a b ha.ok hb.ok (by have := ha.len; omega) (by have := hb.len; omega)
include hp
theorem g15 : (CW G20 L20).p (.func 15) [.slice .any (a.map Seg.c), .slice .any (b.map Seg.c), .int .i64 ((pos : Nat) : Int)] = some (.tuple [.agg [.int .i64 (minD a b pos).1.lo, .int .i64 (minD a b pos).1.hi], .bool (minD a b pos).2]) :=
  p15 a b ha.ok hb.ok (by have := ha.len; omega) (by have := hb.len; omega) pos ⟨ha.lg hp, hb.lg hp⟩
theorem g16 : (CW G20 L20).p (.func 16) [.slice .any (a.map Seg.c), .slice .any (b.map Seg.c), .int .i64 ((pos : Nat) : Int)] = some (.tuple [.agg [.int .i64 (minD a b pos).1.lo, .int .i64 (minD a b pos).1.hi], .bool (minD a b pos).2]) := by
  rw [minD_eq ha.up hb.up ha.pos hb.pos]
  exact p16 a b ha.ok hb.ok (by have := ha.len; omega) (by have := hb.len; omega) pos ⟨ha.lg hp, hb.lg hp⟩
include hd0 hd1
theorem g18 : (CW G20 L20).p (.func 18) [.slice .any (a.map Seg.c), .slice .any (b.map Seg.c), .agg [.int .i64 ((pos : Nat) : Int), .int .i64 d]] = some (.int .i64 (classP a b pos d)) := p18 (good_fl ha hb hp hd0 hd1)
theorem g19 : (CW G20 L20).p (.func 19) [.slice .any (a.map Seg.c), .slice .any (b.map Seg.c), .agg [.int .i64 ((pos : Nat) : Int), .int .i64 d]] = some (.int .i64 (classP a b pos d)) := by
  rw [← class_eq ha.up hb.up ha.pos hb.pos]
  exact p19 (good_fl ha hb hp hd0 hd1) (by have := ha.len; omega) (by have := hb.len; omega)
theorem times36 : (pairsOf a b).length ≤ 36 ∧ (timesOf a b pos d).length ≤ 36 := by
  have h := times_len ha.up hb.up ha.pos hb.pos pos d
  have h2 := mul36 ha.len hb.len
  omega
theorem g21 : (CW G20 L20).p (.func 21) [.slice .any (a.map Seg.c), .slice .any (b.map Seg.c), .agg [.int .i64 ((pos : Nat) : Int), .int .i64 d]] = some (.slice .any ((closeP a b pos d).map Iv.c)) := by
  have h := times36 ha hb hp hd0 hd1
  exact p21 (good_fl ha hb hp hd0 hd1) (by omega) (times_sorted ha.up hb.up ha.pos hb.pos pos d) (by omega)
theorem g22 : (CW G20 L20).p (.func 22) [.slice .any (a.map Seg.c), .slice .any (b.map Seg.c), .agg [.int .i64 ((pos : Nat) : Int), .int .i64 d]] = some (.slice .any ((closeP a b pos d).map Iv.c)) := by
  rw [← close_eq ha.up hb.up ha.pos hb.pos]
  exact p22 (good_fl ha hb hp hd0 hd1) (by have := ha.len; omega) (by have := hb.len; omega)
theorem g20 : (CW G20 L20).p (.func 20) [.slice .any ((closeP a b pos d).map Iv.c), .slice .any ((closeP a b pos d).map Iv.c)] = some (.bool true) := by
  refine p20 _ ?_
  have h := times36 ha hb hp hd0 hd1
  have h2 := merges_len (timesOf a b pos d) []
  unfold few closeP
  simp only [List.length_nil] at h2
  omega
end
theorem p17s (x y : Int) : (CW G20 L20).p (.func 17) [.agg [.int .i64 x, .int .i64 y], .agg [.int .i64 x, .int .i64 y]] = some (.bool true) := by
  have := p17 ⟨x, y⟩ ⟨x, y⟩
  simpa using this
set_option maxRecDepth 100000 in
theorem p3 (a b : List Seg) (n d e : Int) (hn : 0 ≤ n) : (CW G20 L20).p (.func 3) [.agg [.slice .any (a.map Seg.c), .slice .any (b.map Seg.c), .int .u8 n, .int .i64 d], .int .u8 e] = some (.bool true) := by
  refine CW_val (h := []) ?_ rfl
  have hA := made_good a
  have hB := made_good b
  have hp : posOf n ≤ 3 := (posOf_b n hn).2.1
  have h0 := (dOf_b d).1
  have h1 := (dOf_b d).2
  rw [e3, p12 a b n d hn]
  simp only [p11, asInt_i, asBool_i, asRows_i, asCells_i, asTuple_i, asBox_i, asObCells_i, asLoop_i, uncons_i, unconsO_i, isNil_i, asPtr_i, asFn_f, asFn_y, asArr_i, asObArr_t, asObArr_f, isReady_i, isBusy_i, uncons_c, uncons_sc, arrRows_i, Option.bind_some, Option.bind_none, cond_true, cond_false, cond_dec, cond_not]
  generalize Made a = A at *
  generalize Made b = B at *
  generalize dOf d = D at *
  generalize posOf n = N at *
  generalize (e.tmod 8 == 0) = c1
  have hN := nil_good
  have mn : (([] : List Seg).map Seg.c) = [] := rfl
  cases c1 <;> by_cases hc : e.tmod 16 < 2
  · have q13 := g13 hA hN
    have q14 := g14 hA hN
    have q15 := g15 hA hN hp
    have q16 := g16 hA hN hp
    have q18 := g18 hA hN hp h0 h1
    have q19 := g19 hA hN hp h0 h1
    have q21 := g21 hA hN hp h0 h1
    have q22 := g22 hA hN hp h0 h1
    have q20 := g20 hA hN hp h0 h1
    simp only [mn] at q13 q14 q15 q16 q18 q19 q21 q22
    simp only [q13, q14, q15, q16, q18, q19, q21, q22, q20, p17s, beq_self_eq_true, if_pos hc, asInt_i, asBool_i, asRows_i, asCells_i, asTuple_i, asBox_i, asObCells_i, asLoop_i, uncons_i, unconsO_i, isNil_i, asPtr_i, asFn_f, asFn_y, asArr_i, asObArr_t, asObArr_f, isReady_i, isBusy_i, uncons_c, uncons_sc, arrRows_i, Option.bind_some, Option.bind_none, cond_true, cond_false, cond_dec, cond_not]
  · simp only [g13 hA hB, g14 hA hB, g15 hA hB hp, g16 hA hB hp, g18 hA hB hp h0 h1, g19 hA hB hp h0 h1, g21 hA hB hp h0 h1, g22 hA hB hp h0 h1, g20 hA hB hp h0 h1, p17s, beq_self_eq_true, if_neg hc, asInt_i, asBool_i, asRows_i, asCells_i, asTuple_i, asBox_i, asObCells_i, asLoop_i, uncons_i, unconsO_i, isNil_i, asPtr_i, asFn_f, asFn_y, asArr_i, asObArr_t, asObArr_f, isReady_i, isBusy_i, uncons_c, uncons_sc, arrRows_i, Option.bind_some, Option.bind_none, cond_true, cond_false, cond_dec, cond_not]
  · have q13 := g13 hN hN
    have q14 := g14 hN hN
    have q15 := g15 hN hN hp
    have q16 := g16 hN hN hp
    have q18 := g18 hN hN hp h0 h1
    have q19 := g19 hN hN hp h0 h1
    have q21 := g21 hN hN hp h0 h1
    have q22 := g22 hN hN hp h0 h1
    have q20 := g20 hN hN hp h0 h1
    simp only [mn] at q13 q14 q15 q16 q18 q19 q21 q22
    simp only [q13, q14, q15, q16, q18, q19, q21, q22, q20, p17s, beq_self_eq_true, if_pos hc, asInt_i, asBool_i, asRows_i, asCells_i, asTuple_i, asBox_i, asObCells_i, asLoop_i, uncons_i, unconsO_i, isNil_i, asPtr_i, asFn_f, asFn_y, asArr_i, asObArr_t, asObArr_f, isReady_i, isBusy_i, uncons_c, uncons_sc, arrRows_i, Option.bind_some, Option.bind_none, cond_true, cond_false, cond_dec, cond_not]
  · have q13 := g13 hN hB
    have q14 := g14 hN hB
    have q15 := g15 hN hB hp
    have q16 := g16 hN hB hp
    have q18 := g18 hN hB hp h0 h1
    have q19 := g19 hN hB hp h0 h1
    have q21 := g21 hN hB hp h0 h1
    have q22 := g22 hN hB hp h0 h1
    have q20 := g20 hN hB hp h0 h1
    simp only [mn] at q13 q14 q15 q16 q18 q19 q21 q22
    simp only [q13, q14, q15, q16, q18, q19, q21, q22, q20, p17s, beq_self_eq_true, if_neg hc, asInt_i, asBool_i, asRows_i, asCells_i, asTuple_i, asBox_i, asObCells_i, asLoop_i, uncons_i, unconsO_i, isNil_i, asPtr_i, asFn_f, asFn_y, asArr_i, asObArr_t, asObArr_f, isReady_i, isBusy_i, uncons_c, uncons_sc, arrRows_i, Option.bind_some, Option.bind_none, cond_true, cond_false, cond_dec, cond_not]
end Go.Ab
/- The plain law, by what is in it: least distances as least members, close times as sets of times; conditions: none. -/
namespace Go.Ab
set_option linter.unusedVariables false
set_option linter.unusedSimpArgs false
set_option linter.unusedVariables false
set_option linter.unusedSectionVars false
/-! Least members. -/
def minF (l : List Int) (x : Int) : Int := l.foldl (fun x a => if a < x then a else x) x
theorem minF_spec : ∀ (l : List Int) (x : Int), minF l x ≤ x ∧ (∀ a ∈ l, minF l x ≤ a) ∧ (minF l x = x ∨ minF l x ∈ l)
  | [], x => ⟨Int.le_refl _, fun a h => by simp at h, Or.inl rfl⟩
  | a :: l, x => by
    have e : minF (a :: l) x = minF l (if a < x then a else x) := rfl
    have hy : (if a < x then a else x) ≤ x ∧ (if a < x then a else x) ≤ a ∧ ((if a < x then a else x) = x ∨ (if a < x then a else x) = a) := by split <;> omega
    rw [e]
    generalize (if a < x then a else x) = y at hy ⊢
    obtain ⟨h1, h2, h3⟩ := minF_spec l y
    refine ⟨by omega, fun b hb => ?_, ?_⟩
    · rcases List.mem_cons.1 hb with rfl | hb
      · omega
      · exact h2 b hb
    · rcases h3 with h3 | h3
      · rw [h3]
        rcases hy.2.2 with h | h
        · exact .inl h
        · exact .inr (by simp [h])
      · exact .inr (by simp [h3])
theorem minF_ext {l m : List Int} (x : Int) (h : ∀ v, v ∈ l ↔ v ∈ m) : minF l x = minF m x := by
  obtain ⟨a1, a2, a3⟩ := minF_spec l x
  obtain ⟨b1, b2, b3⟩ := minF_spec m x
  rcases a3 with a3 | a3 <;> rcases b3 with b3 | b3
  · rw [a3, b3]
  · have := a2 _ ((h _).2 b3); omega
  · have := b2 _ ((h _).1 a3); omega
  · have q1 := b2 _ ((h _).1 a3)
    have q2 := a2 _ ((h _).2 b3)
    omega
def lowD (v : Iv) : Int := if v.isW then 0 else v.lo
def highD (v : Iv) : Int := if v.isW then 2147483648 else v.hi
theorem fold_min (pos : Nat) : ∀ (l : List (Seg × Seg)) (m : MM), m.hi ≤ 2147483648 → (l.foldl (stepN pos) m) = ⟨minF (l.map fun p => lowD (dist pos p)) m.lo, minF (l.map fun p => highD (dist pos p)) m.hi, m.f || !l.isEmpty⟩
  | [], m, _ => by obtain ⟨a, b, c⟩ := m; simp [minF]
  | p :: l, m, h => by
    rw [List.foldl_cons, fold_min pos l _ (by
      unfold stepN
      cases (dist pos p).isW with
      | true => exact h
      | false => simp only [cond_false]; split <;> omega)]
    unfold stepN minF lowD highD
    cases hw : (dist pos p).isW with
    | true =>
      simp only [hw, cond_true, List.map_cons, List.foldl_cons, if_true]
      rw [if_neg (show ¬ (2147483648 : Int) < m.hi by omega)]
      simp
    | false => simp [hw]
/-- What MinDistance answers. -/
def minOf (l : List Iv) : Iv × Bool := cond l.isEmpty (⟨0, 0⟩, false) (Iv.new (minF (l.map lowD) 2147483648) (minF (l.map highD) 2147483648), true)
theorem minD_of {a b : List Seg} (ha : upT a) (hb : upT b) (pa : posH a) (pb : posH b) (pos : Nat) : minD a b pos = minOf ((prod a b).map (dist pos)) := by
  rw [minD_eq ha hb pa pb, minR_prod]
  simp only
  rw [fold_min pos _ _ (by decide)]
  unfold minOf
  cases hp : (prod a b) with
  | nil => rfl
  | cons p l => simp only [List.map_cons, List.isEmpty_cons, List.map_map]; rfl
theorem minOf_ext {l m : List Iv} (h : ∀ v, v ∈ l ↔ v ∈ m) : minOf l = minOf m := by
  have hl : minF (l.map lowD) 2147483648 = minF (m.map lowD) 2147483648 := minF_ext _ fun v => by
    simp only [List.mem_map]; exact ⟨fun ⟨a, h1, h2⟩ => ⟨a, (h a).1 h1, h2⟩, fun ⟨a, h1, h2⟩ => ⟨a, (h a).2 h1, h2⟩⟩
  have hh : minF (l.map highD) 2147483648 = minF (m.map highD) 2147483648 := minF_ext _ fun v => by
    simp only [List.mem_map]; exact ⟨fun ⟨a, h1, h2⟩ => ⟨a, (h a).1 h1, h2⟩, fun ⟨a, h1, h2⟩ => ⟨a, (h a).2 h1, h2⟩⟩
  have he : l.isEmpty = m.isEmpty := by
    cases l with
    | nil => cases m with
      | nil => rfl
      | cons a m => exact absurd ((h a).2 (by simp)) (by simp)
    | cons a l => cases m with
      | nil => exact absurd ((h a).1 (by simp)) (by simp)
      | cons b m => rfl
  unfold minOf
  rw [hl, hh, he]
/-! Sets of times, in half units. -/
def hits (l : List Iv) (x : Int) : Prop := ∃ z ∈ l, 2 * z.lo ≤ x ∧ x ≤ 2 * z.hi
def validI (l : List Iv) : Prop := ∀ z ∈ l, z.lo ≤ z.hi
theorem hits_cons (z : Iv) (l : List Iv) (x : Int) : hits (z :: l) x ↔ (2 * z.lo ≤ x ∧ x ≤ 2 * z.hi) ∨ hits l x := by
  unfold hits; simp
theorem hits_append (l m : List Iv) (x : Int) : hits (l ++ m) x ↔ hits l x ∨ hits m x := by
  unfold hits
  simp only [List.mem_append]
  exact ⟨fun ⟨z, h, k⟩ => h.elim (fun h => .inl ⟨z, h, k⟩) fun h => .inr ⟨z, h, k⟩, fun h => h.elim (fun ⟨z, h, k⟩ => ⟨z, .inl h, k⟩) fun ⟨z, h, k⟩ => ⟨z, .inr h, k⟩⟩
theorem hits_nil (x : Int) : ¬ hits [] x := fun ⟨z, h, _⟩ => by simp at h
/-- Apart intervals are told by their times. -/
theorem apart_ext : ∀ (l m : List Iv), apartI l → apartI m → validI l → validI m → (∀ x, hits l x ↔ hits m x) → l = m
  | [], [], _, _, _, _, _ => rfl
  | [], w :: m, _, _, _, hm, h => absurd ((h (2 * w.lo)).2 ⟨w, by simp, by omega, by have := hm w (by simp); omega⟩) (hits_nil _)
  | z :: l, [], _, _, hl, _, h => absurd ((h (2 * z.lo)).1 ⟨z, by simp, by omega, by have := hl z (by simp); omega⟩) (hits_nil _)
  | z :: l, w :: m, al, am, vl, vm, h => by
    have hz := vl z (by simp)
    have hw := vm w (by simp)
    have pl := List.pairwise_cons.1 al
    have pm := List.pairwise_cons.1 am
    have lz : ∀ y ∈ z :: l, z.lo ≤ y.lo := fun y hy => by
      rcases List.mem_cons.1 hy with rfl | hy
      · exact Int.le_refl _
      · have := pl.1 y hy; omega
    have lw : ∀ y ∈ w :: m, w.lo ≤ y.lo := fun y hy => by
      rcases List.mem_cons.1 hy with rfl | hy
      · exact Int.le_refl _
      · have := pm.1 y hy; omega
    have e1 : z.lo = w.lo := by
      obtain ⟨y, hy, k1, k2⟩ := (h (2 * z.lo)).1 ⟨z, by simp, by omega, by omega⟩
      obtain ⟨y', hy', k1', k2'⟩ := (h (2 * w.lo)).2 ⟨w, by simp, by omega, by omega⟩
      have q1 := lw y hy
      have q2 := lz y' hy'
      omega
    have e2 : z.hi = w.hi := by
      rcases Int.lt_trichotomy z.hi w.hi with hlt | heq | hgt
      · obtain ⟨y, hy, k1, k2⟩ := (h (2 * z.hi + 1)).2 ⟨w, by simp, by omega, by omega⟩
        rcases List.mem_cons.1 hy with rfl | hy
        · omega
        · have := pl.1 y hy; omega
      · exact heq
      · obtain ⟨y, hy, k1, k2⟩ := (h (2 * w.hi + 1)).1 ⟨z, by simp, by omega, by omega⟩
        rcases List.mem_cons.1 hy with rfl | hy
        · omega
        · have := pm.1 y hy; omega
    have ezw : z = w := by obtain ⟨a, b⟩ := z; obtain ⟨c, d⟩ := w; simp only at e1 e2; rw [e1, e2]
    subst ezw
    have := apart_ext l m pl.2 pm.2 (fun y hy => vl y (by simp [hy])) (fun y hy => vm y (by simp [hy])) fun x => by
      constructor
      · intro ⟨y, hy, k1, k2⟩
        have := pl.1 y hy
        rcases (hits_cons z m x).1 ((h x).1 ((hits_cons z l x).2 (.inr ⟨y, hy, k1, k2⟩))) with k | k
        · omega
        · exact k
      · intro ⟨y, hy, k1, k2⟩
        have := pm.1 y hy
        rcases (hits_cons z l x).1 ((h x).2 ((hits_cons z m x).2 (.inr ⟨y, hy, k1, k2⟩))) with k | k
        · omega
        · exact k
    rw [this]
theorem merge_hits {out : List Iv} {t : Iv} (ht : t.lo ≤ t.hi) (hv : ∀ z ∈ out, z.lo ≤ z.hi ∧ z.lo ≤ t.lo) (x : Int) : hits (mergeStep out t) x ↔ hits out x ∨ (2 * t.lo ≤ x ∧ x ≤ 2 * t.hi) := by
  rcases List.eq_nil_or_concat out with rfl | ⟨l, z, rfl⟩
  · show hits [t] x ↔ _
    rw [hits_cons]
    exact ⟨fun h => h.elim .inr fun h => .inl h, fun h => h.elim .inr .inl⟩
  · simp only [List.concat_eq_append] at hv ⊢
    have hz := hv z (by simp)
    unfold mergeStep
    simp only [List.getLast?_append, List.getLast?_singleton, Option.some_or, List.dropLast_concat]
    by_cases h : t.lo ≤ z.hi
    · rw [if_pos h, hits_append, hits_append, hits_cons, hits_cons]
      simp only
      constructor
      · rintro (k | k | k)
        · exact .inl (.inl k)
        · by_cases hx : x ≤ 2 * z.hi
          · exact .inl (.inr (.inl ⟨k.1, hx⟩))
          · have := k.2
            split at this
            · exact .inr ⟨by omega, this⟩
            · omega
        · exact absurd k (hits_nil _)
      · rintro ((k | k | k) | k)
        · exact .inl k
        · refine .inr (.inl ⟨k.1, ?_⟩); split <;> omega
        · exact absurd k (hits_nil _)
        · refine .inr (.inl ⟨by omega, ?_⟩); split <;> omega
    · rw [if_neg h, hits_append, hits_cons]
      exact ⟨fun k => k.elim .inl fun k => k.elim .inr fun k => absurd k (hits_nil _), fun k => k.elim .inl fun k => .inr (.inl k)⟩
theorem merges_hits : ∀ (l out : List Iv), (l.Pairwise fun s t => s.lo ≤ t.lo) → validI l → apartI out → (∀ t ∈ l, ∀ z ∈ out, z.lo ≤ t.lo) → validI out →
    apartI (l.foldl mergeStep out) ∧ validI (l.foldl mergeStep out) ∧ ∀ x, hits (l.foldl mergeStep out) x ↔ hits out x ∨ hits l x
  | [], out, _, _, h3, _, h5 => ⟨h3, h5, fun x => ⟨.inl, fun h => h.elim id fun h => absurd h (hits_nil _)⟩⟩
  | t :: l, out, h1, h2, h3, h4, h5 => by
    have hp := List.pairwise_cons.1 h1
    have ht := h2 t (by simp)
    have hv : ∀ z ∈ out, z.lo ≤ z.hi ∧ z.lo ≤ t.lo := fun z hz => ⟨h5 z hz, h4 t (by simp) z hz⟩
    obtain ⟨k1, k2, k3⟩ := merges_hits l (mergeStep out t) hp.2 (fun u hu => h2 u (by simp [hu])) (merge_inv (u := t) ht (Int.le_refl _) h3 hv).1
      (fun u hu z hz => ((merge_inv (u := u) ht (hp.1 u hu) h3 hv).2 z hz).2) fun z hz => ((merge_inv (u := t) ht (Int.le_refl _) h3 hv).2 z hz).1
    refine ⟨k1, k2, fun x => ?_⟩
    rw [List.foldl_cons, k3, merge_hits ht hv, hits_cons]
    exact ⟨fun h => h.elim (fun h => h.elim .inl fun h => .inr (.inl h)) fun h => .inr (.inr h), fun h => h.elim (fun h => .inl (.inl h)) fun h => h.elim (fun h => .inl (.inr h)) .inr⟩
section
variable {a b : List Seg} (ha : upT a) (hb : upT b) (pa : posH a) (pb : posH b)
include ha hb pa pb
theorem close_spec (pos : Nat) (d : Int) : apartI (closeP a b pos d) ∧ validI (closeP a b pos d) ∧ ∀ x, hits (closeP a b pos d) x ↔ ∃ p ∈ prod a b, nears pos d p = true ∧ 2 * (timeOf p.1 p.2).lo ≤ x ∧ x ≤ 2 * (timeOf p.1 p.2).hi := by
  obtain ⟨k1, k2, k3⟩ := merges_hits (timesOf a b pos d) [] (times_up ha hb pa pb pos d) (times_valid ha hb pa pb pos d) List.Pairwise.nil (fun _ _ z hz => by simp at hz) (fun z hz => by simp at hz)
  refine ⟨k1, k2, fun x => ?_⟩
  rw [show closeP a b pos d = (timesOf a b pos d).foldl mergeStep [] from rfl, k3]
  unfold timesOf
  rw [pairs_prod a b ha hb pa pb]
  constructor
  · rintro (h | ⟨z, hz, h1, h2⟩)
    · exact absurd h (hits_nil _)
    · simp only [List.mem_map, List.mem_filter] at hz
      obtain ⟨p, ⟨hp, hn⟩, rfl⟩ := hz
      exact ⟨p, hp, hn, h1, h2⟩
  · rintro ⟨p, hp, hn, h1, h2⟩
    exact .inr ⟨timeOf p.1 p.2, by simp only [List.mem_map, List.mem_filter]; exact ⟨p, ⟨hp, hn⟩, rfl⟩, h1, h2⟩
theorem near_any (pos : Nat) (d : Int) : (pairsOf a b).any (nears pos d) = true ↔ ∃ p ∈ prod a b, nears pos d p = true := by
  rw [pairs_prod a b ha hb pa pb, List.any_eq_true]
theorem prod_mem_iff {p : Seg × Seg} : p ∈ prod a b ↔ p.1 ∈ a ∧ p.2 ∈ b ∧ p.1.t ≤ p.2.fin ∧ p.2.t ≤ p.1.fin := by
  constructor
  · intro h
    obtain ⟨h1, h2, h3⟩ := prod_mem h
    exact ⟨h1, h2, (isect_iff (pa _ h1) (pb _ h2)).1 h3⟩
  · rintro ⟨h1, h2, h3⟩
    unfold prod
    simp only [List.mem_flatMap, List.mem_map, List.mem_filter]
    exact ⟨p.1, h1, p.2, ⟨h2, (isect_iff (pa _ h1) (pb _ h2)).2 h3⟩, rfl⟩
end
/-- Flows with the same distances, and the same near times, are classed alike and have the same close times. -/
theorem same_flows {a b c e : List Seg} (ha : upT a) (hb : upT b) (pa : posH a) (pb : posH b) (hc : upT c) (he : upT e) (pc : posH c) (pe : posH e) (pos : Nat) (d : Int)
    (hd : ∀ v, (∃ p ∈ prod a b, dist pos p = v) ↔ ∃ p ∈ prod c e, dist pos p = v)
    (hn : ∀ x, (∃ p ∈ prod a b, nears pos d p = true ∧ 2 * (timeOf p.1 p.2).lo ≤ x ∧ x ≤ 2 * (timeOf p.1 p.2).hi) ↔ ∃ p ∈ prod c e, nears pos d p = true ∧ 2 * (timeOf p.1 p.2).lo ≤ x ∧ x ≤ 2 * (timeOf p.1 p.2).hi) :
    minD a b pos = minD c e pos ∧ classP a b pos d = classP c e pos d ∧ closeP a b pos d = closeP c e pos d := by
  have h1 : minD a b pos = minD c e pos := by
    rw [minD_of ha hb pa pb, minD_of hc he pc pe]
    exact minOf_ext fun v => by simp only [List.mem_map]; exact hd v
  have h2 : closeP a b pos d = closeP c e pos d := by
    obtain ⟨k1, k2, k3⟩ := close_spec ha hb pa pb pos d
    obtain ⟨m1, m2, m3⟩ := close_spec hc he pc pe pos d
    exact apart_ext _ _ k1 m1 k2 m2 fun x => by rw [k3, m3]; exact hn x
  refine ⟨h1, ?_, h2⟩
  have h3 := close_empty a b pos d
  have h4 := close_empty c e pos d
  unfold classP verd
  rw [h1]
  rw [h2, h4] at h3
  have : (pairsOf a b).any (nears pos d) = (pairsOf c e).any (nears pos d) := by
    cases h5 : (pairsOf a b).any (nears pos d) <;> cases h6 : (pairsOf c e).any (nears pos d) <;> rw [h5, h6] at h3 <;> first | rfl | cases h3
  rw [this]
/-! Exchanged flows. -/
theorem neg_isW (a : Iv) : a.neg.isW = a.isW := by
  rw [Bool.eq_iff_iff]
  simp only [Iv.neg, Iv.isW, Bool.and_eq_true, beq_iff_eq]
  omega
theorem neg_neg (a : Iv) : a.neg.neg = a := by unfold Iv.neg; simp
theorem neg_new (x y : Int) : (Iv.new x y).neg = Iv.new (-y) (-x) := by
  unfold Iv.new Iv.neg number
  by_cases h : (-2147483648 < x ∧ x < 2147483648) ∧ -2147483648 < y ∧ y < 2147483648
  · rw [if_pos h, if_pos ⟨⟨by omega, by omega⟩, by omega, by omega⟩]
  · rw [if_neg h, if_neg (by omega)]; rfl
theorem sub_neg (x y : Iv) : y.sub x = (x.sub y).neg := by
  unfold Iv.sub Iv.add
  rw [neg_isW, neg_isW, Bool.or_comm]
  cases hw : (x.isW || y.isW) with
  | true => rfl
  | false =>
    simp only [Bool.false_eq_true, if_false]
    rw [neg_new]
    unfold Iv.neg
    simp only
    congr 1 <;> omega
theorem sq_neg (x : Iv) : x.neg.sq = x.sq ∨ x.isW = true := by
  by_cases h : x.isW = true
  · exact .inr h
  · left
    have e1 : x.neg.near = x.near := by show max 0 (max (-x.hi) (-(-x.lo))) = max 0 (max x.lo (-x.hi)); omega
    have e2 : x.neg.far = x.far := by show max (-x.lo) (-(-x.hi)) = max x.hi (-x.lo); omega
    unfold Iv.sq
    rw [neg_isW, e1, e2, if_neg h, if_neg h]
theorem sq_neg' (x : Iv) : x.neg.sq = x.sq := by
  rcases sq_neg x with h | h
  · exact h
  · have hx : x = Iv.whole := by
      unfold Iv.isW at h
      simp only [Bool.and_eq_true, beq_iff_eq] at h
      obtain ⟨a, b⟩ := x
      simp only at h
      rw [h.1, h.2]; rfl
    subst hx
    rfl
theorem sqdFrom_swap : ∀ (l : List (Iv × Iv)) (s : Iv), sqdFrom s (l.map fun p => (p.2, p.1)) = sqdFrom s l
  | [], _ => rfl
  | (x, y) :: l, s => by simp only [List.map_cons, sqdFrom]; rw [sqdFrom_swap l, sub_neg x y, sq_neg']
theorem zip_swap {α : Type} : ∀ (a b : List α), b.zip a = (a.zip b).map fun p => (p.2, p.1)
  | [], b => by cases b <;> rfl
  | x :: a, [] => rfl
  | x :: a, y :: b => by simp only [List.zip_cons_cons, List.map_cons]; rw [zip_swap a b]
theorem sqd_swap (a b : List Iv) : sqd b a = sqd a b := by unfold sqd; rw [zip_swap a b, sqdFrom_swap]
theorem gap_swap (d : Int) (p : Iv × Iv) : gap d (p.2, p.1) = gap d p := by
  unfold gap
  cases p.1.isW <;> cases p.2.isW <;> simp [Bool.or_comm]
theorem sepd_swap (a b : List Iv) (d : Int) : sepd b a d = sepd a b d := by
  unfold sepd sep
  rw [sqd_swap a b, zip_swap a b, List.any_map]
  congr 2
  funext p
  exact gap_swap d p
theorem time_swap (x r : Seg) : timeOf r x = timeOf x r := by
  unfold timeOf
  congr 1 <;> split <;> split <;> omega
theorem common_swap (a b : List Seg) : commonT b a = commonT a b := by
  have hi : ∀ x y : Iv, isect y x = isect x y := fun x y => by
    unfold isect
    congr 1
    apply decide_eq_decide.2
    split <;> split <;> split <;> split <;> omega
  have hn : ∀ x y : Iv, inter y x = inter x y := fun x y => by
    unfold inter
    rw [hi x y]
    cases isect x y with
    | false => rfl
    | true => simp only [cond_true]; congr 1 <;> split <;> split <;> omega
  unfold commonT
  cases a.head? <;> cases a.getLast? <;> cases b.head? <;> cases b.getLast? <;> try rfl
  rename_i x x' y y'
  simp only
  rw [hi ⟨x.t, x'.fin⟩ ⟨y.t, y'.fin⟩, hn ⟨x.t, x'.fin⟩ ⟨y.t, y'.fin⟩]
theorem swap_all {a b : List Seg} (ha : upT a) (hb : upT b) (pa : posH a) (pb : posH b) (pos : Nat) (d : Int) : minD b a pos = minD a b pos ∧ classP b a pos d = classP a b pos d ∧ closeP b a pos d = closeP a b pos d := by
  have hm : ∀ p : Seg × Seg, p ∈ prod b a ↔ (p.2, p.1) ∈ prod a b := fun p => by
    rw [prod_mem_iff hb ha pb pa, prod_mem_iff ha hb pa pb]
    exact ⟨fun ⟨h1, h2, h3, h4⟩ => ⟨h2, h1, h4, h3⟩, fun ⟨h1, h2, h3, h4⟩ => ⟨h2, h1, h4, h3⟩⟩
  have hdist : ∀ p : Seg × Seg, dist pos (p.2, p.1) = dist pos p := fun p => sqd_swap _ _
  have hnear : ∀ p : Seg × Seg, nears pos d (p.2, p.1) = nears pos d p := fun p => by unfold nears; rw [sepd_swap]
  refine same_flows hb ha pb pa ha hb pa pb pos d (fun v => ?_) fun x => ?_
  · constructor
    · rintro ⟨p, hp, rfl⟩; exact ⟨(p.2, p.1), (hm p).1 hp, hdist p⟩
    · rintro ⟨p, hp, rfl⟩; exact ⟨(p.2, p.1), (hm (p.2, p.1)).2 hp, hdist p⟩
  · constructor
    · rintro ⟨p, hp, h1, h2, h3⟩
      refine ⟨(p.2, p.1), (hm p).1 hp, by rw [hnear]; exact h1, ?_, ?_⟩ <;> simp only [time_swap p.1 p.2] <;> assumption
    · rintro ⟨p, hp, h1, h2, h3⟩
      refine ⟨(p.2, p.1), (hm (p.2, p.1)).2 hp, by rw [hnear]; exact h1, ?_, ?_⟩ <;> simp only [time_swap p.1 p.2] <;> assumption
end Go.Ab
