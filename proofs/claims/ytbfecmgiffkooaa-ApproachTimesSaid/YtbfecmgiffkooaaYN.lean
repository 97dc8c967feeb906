/- Flows made of raw ones, typed; what holds of them; conditions: none. -/
import Derived.Test.YtbfecmgiffkooaaYM
namespace Go.Ab
set_option linter.unusedSimpArgs false
set_option linter.unusedVariables false
def hOf (x : Int) : Int := 1 + (x.tmod 65536 + 65536).tmod 65536
theorem hOf_b (x : Int) : 1 ≤ hOf x ∧ hOf x ≤ 65536 := by
  have h1 := tmod_b x 65536 (by decide)
  have h2 := tmod_b (x.tmod 65536 + 65536) 65536 (by decide)
  have h3 := tmod_nn (x.tmod 65536 + 65536) 65536 (by omega)
  unfold hOf; omega
theorem hOf_w (x : Int) : IntKind.wrap .i64 (1 + (IntKind.wrap .i64 (x.tmod 65536 + 65536)).tmod 65536) = hOf x := by
  have := hOf_b x
  rw [wrapmod x 65536 (by decide) (by decide)]
  exact w64 (by unfold hOf at this; omega) (by unfold hOf at this; omega)
def made1 (t : Int) (s : Seg) : Seg := ⟨t, hOf s.h, partI (boxOf s.tube) s.frm, boxOf s.tube, boxOf s.tube, partI (boxOf s.tube) s.to⟩
def madeStep (p : List Seg × Int) (s : Seg) : List Seg × Int := (p.1 ++ [made1 p.2 s], p.2 + hOf s.h)
def zeroSeg : Seg := ⟨0, 0, [], [], [], []⟩
def src (raw : List Seg) : List Seg := if raw = [] then [zeroSeg] else raw.take 6
def start (raw : List Seg) : Int := match raw with
  | [] => 0
  | s :: _ => s.t.tmod 1048576
def Made (raw : List Seg) : List Seg := ((src raw).foldl madeStep ([], start raw)).1
theorem boxOf_len (raw : List Iv) : (boxOf raw).length = 3 := by simp [boxOf]
theorem boxOf_b (raw : List Iv) : ∀ a ∈ boxOf raw, -1048576 < a.lo ∧ a.lo < 1048576 ∧ a.lo ≤ a.hi ∧ a.hi < 1248576 := by
  intro a ha
  simp only [boxOf, List.mem_map] at ha
  obtain ⟨i, _, rfl⟩ := ha
  exact nearI_b _
theorem boxOf_valid (raw : List Iv) : valids (boxOf raw) := by
  intro a ha
  simp only [boxOf, List.mem_map] at ha
  obtain ⟨i, _, rfl⟩ := ha
  exact nearI_valid _
theorem p62' (raw pick : List Iv) : (CW G20 L20).p (.func 62) [.slice .any ((boxOf raw).map Iv.c), .slice .any (pick.map Iv.c)] = some (.slice .any ((partI (boxOf raw) pick).map Iv.c)) := p62 _ _ (boxOf_len raw) (boxOf_b raw)
theorem appS (l : List Seg) (s : Seg) : List.append (l.map Seg.c) [[.int .i64 s.t, .int .i64 s.h, .slice .any (s.frm.map Iv.c), .slice .any (s.pre.map Iv.c), .slice .any (s.tube.map Iv.c), .slice .any (s.to.map Iv.c)]] = (l ++ [s]).map Seg.c := by rw [List.map_append]; rfl
theorem src_len (raw : List Seg) : (src raw).length = if (raw.length : Nat) = 0 then 1 else min 6 raw.length := by
  unfold src
  cases raw with
  | nil => rfl
  | cons s l => simp only [reduceCtorEq, if_false, List.length_take, List.length_cons, Nat.succ_ne_zero]
theorem lim (raw : List Seg) : (if (if (6 : Int) < ((raw.length : Nat) : Int) then (6 : Int) else ((raw.length : Nat) : Int)) > 1 then (if (6 : Int) < ((raw.length : Nat) : Int) then (6 : Int) else ((raw.length : Nat) : Int)) else 1) = (((src raw).length : Nat) : Int) := by
  rw [src_len]
  split <;> split <;> (try split) <;> omega
set_option maxRecDepth 100000 in
theorem h35 (raw : List Seg) : iterW (roundK G20 L20 (CW G20 L20) 35 none 5) ⟨(sp 0 70 [(0, .slice .any (raw.map Seg.c)), (1, .int .i64 3), (2, .int .i64 6), (7, .arr 0 0 6), (8, .int .i64 (start raw)), (9, .int .i64 0)]), [.arr true 6 []]⟩ =
    some (.exit 0, ⟨(sp 0 70 [(0, .slice .any (raw.map Seg.c)), (1, .int .i64 3), (2, .int .i64 6), (7, .arr 0 ((Made raw).map Seg.c).length 6), (8, .int .i64 ((src raw).foldl madeStep ([], start raw)).2), (9, .int .i64 (((src raw).length : Nat) : Int))]), [.arr true 6 ((Made raw).map Seg.c)]⟩) := by
  have hsl := src_len raw
  have hsl6 : (src raw).length ≤ 6 := by rw [hsl]; split <;> omega
  have hst : -1048576 < start raw ∧ start raw < 1048576 := by
    unfold start
    split
    · decide
    · exact tmod_b _ _ (by decide)
  refine (iterW_foldlN (round := roundK G20 L20 (CW G20 L20) 35 none 5)
    (S := fun i (p : List Seg × Int) => ⟨(sp 0 70 [(0, .slice .any (raw.map Seg.c)), (1, .int .i64 3), (2, .int .i64 6), (7, .arr 0 (p.1.map Seg.c).length 6), (8, .int .i64 p.2), (9, .int .i64 ((i : Nat) : Int))]), [.arr true 6 (p.1.map Seg.c)]⟩)
    madeStep (fun i p => p.1.length = i ∧ -1048576 ≤ p.2 ∧ p.2 ≤ 1048576 + 65536 * (i : Int)) (src raw) (id := 0) (fun i hi p hp => ?_) (fun p _ => ?_) ([], start raw) ⟨rfl, by simp only; omega, by simp only; omega⟩).1
  · obtain ⟨out, t⟩ := p
    obtain ⟨ho, ht1, ht2⟩ := hp
    simp only at ho ht1 ht2 ⊢
    have hb := hOf_b ((src raw)[i]).h
    refine ⟨?_, by simp [madeStep, ho], by simp only [madeStep]; omega, by simp only [madeStep]; omega⟩
    have hroom : (out.length + 1) * 112 ≤ room := by rw [ho]; exact Nat.le_trans (Nat.mul_le_mul_right 112 (show i + 1 ≤ 7 by omega)) (by unfold room; decide)
    rw [e35_5]
    simp only [List.length_map, lim, lt_dec hi, wsucc i (by omega), cond_true]
    by_cases hr : 0 < raw.length
    · have hne : raw ≠ [] := by intro e; rw [e] at hr; simp at hr
      have hs2 : src raw = raw.take 6 := by unfold src; rw [if_neg hne]
      have hir : i < raw.length := by rw [hs2, List.length_take] at hi; omega
      have hget : (src raw)[i] = raw[i] := by simp only [hs2, List.getElem_take]
      rw [hget] at hb ⊢
      have hap := appS out (made1 t raw[i])
      simp only [made1] at hap
      have hw : IntKind.wrap .i64 (t + hOf raw[i].h) = t + hOf raw[i].h := w64 (by omega) (by omega)
      simp only [lt_dec hir, getS raw i hir, asInt_i, asBool_i, asRows_i, asCells_i, asTuple_i, asBox_i, asObCells_i, asLoop_i, uncons_i, unconsO_i, isNil_i, asPtr_i, asFn_f, asFn_y, asArr_i, asObArr_t, asObArr_f, isReady_i, isBusy_i, uncons_c, uncons_sc, arrRows_i, Option.bind_some, Option.bind_none, cond_true, cond_false, cond_dec, cond_not, p61, p62', hOf_w, hw, hroom, if_true, hap, madeStep, made1, List.length_append, List.length_cons, List.length_nil, Nat.zero_add]
    · have hne : raw = [] := List.length_eq_zero_iff.1 (by omega)
      subst hne
      have hi0 : i = 0 := by
        have : (src []).length = 1 := rfl
        omega
      subst hi0
      have hget : (src [])[0] = zeroSeg := rfl
      rw [hget] at hb ⊢
      have q1 := p61 []
      have q2 := p62' [] []
      simp only [List.map_nil] at q1 q2
      have hap := appS out (made1 t zeroSeg)
      have hh : hOf zeroSeg.h = 1 := by decide
      simp only [made1, hh] at hap
      have hz1 : zeroSeg.frm = [] := rfl
      have hz2 : zeroSeg.tube = [] := rfl
      have hz3 : zeroSeg.to = [] := rfl
      rw [hz1, hz2, hz3] at hap
      have hw : IntKind.wrap .i64 (t + 1) = t + 1 := w64 (by omega) (by omega)
      have hd : decide (((0 : Nat) : Int) < ((([] : List Seg).length : Nat) : Int)) = false := by decide
      have hd2 : ¬ (((0 : Nat) : Int) < ((0 : Nat) : Int)) := by omega
      simp only [hd, if_neg hd2, List.map_nil, asInt_i, asBool_i, asRows_i, asCells_i, asTuple_i, asBox_i, asObCells_i, asLoop_i, uncons_i, unconsO_i, isNil_i, asPtr_i, asFn_f, asFn_y, asArr_i, asObArr_t, asObArr_f, isReady_i, isBusy_i, uncons_c, uncons_sc, arrRows_i, Option.bind_some, Option.bind_none, cond_true, cond_false, cond_dec, cond_not, q1, q2, hw, hroom, if_true, hap, madeStep, made1, hh, hz1, hz2, hz3, List.length_append, List.length_cons, List.length_nil, Nat.zero_add]
  · rw [e35_5]
    simp only [List.length_map, lim, lt_decn, cond_false]
set_option maxRecDepth 100000 in
theorem p35 (raw : List Seg) : (CW G20 L20).p (.func 35) [.slice .any (raw.map Seg.c), .int .i64 3, .int .i64 6] = some (.slice .any ((Made raw).map Seg.c)) := by
  have hl := h35 raw
  generalize Made raw = R at hl ⊢
  generalize ((src raw).foldl madeStep ([], start raw)).2 = T at hl
  generalize (((src raw).length : Nat) : Int) = N at hl
  refine CW_valH (u := .slice .any (R.map Seg.c)) (h := [.arr false 6 (R.map Seg.c)]) ?_ rfl
  have n0 : nth (sp 0 70 [(0, .slice .any (raw.map Seg.c)), (1, .int .i64 3), (2, .int .i64 6), (7, .arr 0 (R.map Seg.c).length 6), (8, .int .i64 T), (9, .int .i64 N)]) 0 = .slice .any (raw.map Seg.c) := rfl
  have n1 : nth (sp 0 70 [(0, .slice .any (raw.map Seg.c)), (1, .int .i64 3), (2, .int .i64 6), (7, .arr 0 (R.map Seg.c).length 6), (8, .int .i64 T), (9, .int .i64 N)]) 1 = .int .i64 3 := rfl
  have n2 : nth (sp 0 70 [(0, .slice .any (raw.map Seg.c)), (1, .int .i64 3), (2, .int .i64 6), (7, .arr 0 (R.map Seg.c).length 6), (8, .int .i64 T), (9, .int .i64 N)]) 2 = .int .i64 6 := rfl
  have n7 : nth (sp 0 70 [(0, .slice .any (raw.map Seg.c)), (1, .int .i64 3), (2, .int .i64 6), (7, .arr 0 (R.map Seg.c).length 6), (8, .int .i64 T), (9, .int .i64 N)]) 7 = .arr 0 (R.map Seg.c).length 6 := rfl
  have n8 : nth (sp 0 70 [(0, .slice .any (raw.map Seg.c)), (1, .int .i64 3), (2, .int .i64 6), (7, .arr 0 (R.map Seg.c).length 6), (8, .int .i64 T), (9, .int .i64 N)]) 8 = .int .i64 T := rfl
  have n9 : nth (sp 0 70 [(0, .slice .any (raw.map Seg.c)), (1, .int .i64 3), (2, .int .i64 6), (7, .arr 0 (R.map Seg.c).length 6), (8, .int .i64 T), (9, .int .i64 N)]) 9 = .int .i64 N := rfl
  rw [e35]
  cases raw with
  | nil =>
    refine Eq.trans (b := (iterW (roundK G20 L20 (CW G20 L20) 35 none 5) ⟨(sp 0 70 [(0, .slice .any (([] : List Seg).map Seg.c)), (1, .int .i64 3), (2, .int .i64 6), (7, .arr 0 0 6), (8, .int .i64 (start [])), (9, .int .i64 0)]), [.arr true 6 []]⟩).bind _) rfl ?_
    refine (bind_via hl _).trans ?_
    simp only [asInt_i, asRows_i, unconsO_i, asArr_i, asObArr_t, Option.bind_some, cond_true, n0, n1, n2, n7, n8, n9, Nat.beq_refl, arrRows_i]
  | cons s l =>
    have hlen : decide ((((List.map Seg.c (s :: l)).length : Nat) : Int) > 0) = true := by simp
    have hg := getS (s :: l) 0 (by simp)
    rw [show ((0 : Nat) : Int) = 0 from rfl] at hg
    have hst : start (s :: l) = s.t.tmod 1048576 := rfl
    rw [hst] at hl
    rw [hlen, hg]
    simp only [List.getElem_cons_zero, asInt_i, asBool_i, asRows_i, asCells_i, asTuple_i, asBox_i, asObCells_i, asLoop_i, uncons_i, unconsO_i, isNil_i, asPtr_i, asFn_f, asFn_y, asArr_i, asObArr_t, asObArr_f, isReady_i, isBusy_i, uncons_c, uncons_sc, arrRows_i, Option.bind_some, Option.bind_none, cond_true, cond_false, cond_dec, cond_not, CW_w]
    refine (bind_via hl _).trans ?_
    simp only [asInt_i, asRows_i, unconsO_i, asArr_i, asObArr_t, Option.bind_some, cond_true, n0, n1, n2, n7, n8, n9, Nat.beq_refl, arrRows_i]
/-- What is given of a query. -/
def posOf (n : Int) : Nat := 1 + (n.tmod 3).toNat
def dOf (n : Int) : Int := (n.tmod 4194304 + 4194304).tmod 4194304
theorem dOf_b (n : Int) : 0 ≤ dOf n ∧ dOf n < 4194304 := by
  have h1 := tmod_b n 4194304 (by decide)
  have h2 := tmod_b (n.tmod 4194304 + 4194304) 4194304 (by decide)
  have h3 := tmod_nn (n.tmod 4194304 + 4194304) 4194304 (by omega)
  unfold dOf; omega
theorem posOf_b (n : Int) (h : 0 ≤ n) : 1 ≤ posOf n ∧ posOf n ≤ 3 ∧ IntKind.wrap .i64 (1 + IntKind.wrap .i64 (n.tmod 3)) = ((posOf n : Nat) : Int) := by
  have h1 := tmod_b n 3 (by decide)
  have h2 := tmod_nn n 3 h
  have e1 : IntKind.wrap .i64 (n.tmod 3) = n.tmod 3 := w64 (by omega) (by omega)
  have e2 : IntKind.wrap .i64 (1 + n.tmod 3) = 1 + n.tmod 3 := w64 (by omega) (by omega)
  unfold posOf
  rw [e1, e2]
  omega
theorem p12 (a b : List Seg) (n d : Int) (hn : 0 ≤ n) : (CW G20 L20).p (.func 12) [.agg [.slice .any (a.map Seg.c), .slice .any (b.map Seg.c), .int .u8 n, .int .i64 d]] = some (.tuple [.slice .any ((Made a).map Seg.c), .slice .any ((Made b).map Seg.c), .agg [.int .i64 (posOf n : Nat), .int .i64 (dOf d)]]) := by
  refine CW_val (h := []) ?_ rfl
  rw [e12, p35, p35, (posOf_b n hn).2.2, wrapmod d 4194304 (by decide) (by decide)]
  rfl
/-! What holds of made flows. -/
def madeL : Int → List Seg → List Seg
  | _, [] => []
  | t, s :: l => made1 t s :: madeL (t + hOf s.h) l
theorem madeL_fold : ∀ (l : List Seg) (o : List Seg) (t : Int), (l.foldl madeStep (o, t)).1 = o ++ madeL t l
  | [], o, t => by simp [madeL]
  | s :: l, o, t => by
    simp only [List.foldl_cons, madeStep, madeL]
    rw [madeL_fold l]; simp
theorem Made_eq (raw : List Seg) : Made raw = madeL (start raw) (src raw) := by unfold Made; rw [madeL_fold]; simp
inductive Chain : List Seg → Prop
  | nil : Chain []
  | one (s : Seg) : 1 ≤ s.h → Chain [s]
  | cons (s r : Seg) (l : List Seg) : 1 ≤ s.h → r.t = s.fin → Chain (r :: l) → Chain (s :: r :: l)
theorem madeL_chain : ∀ (l : List Seg) (t : Int), Chain (madeL t l)
  | [], _ => .nil
  | [s], t => .one _ (hOf_b _).1
  | s :: r :: l, t => by
    have := madeL_chain (r :: l) (t + hOf s.h)
    simp only [madeL] at this ⊢
    exact .cons _ _ _ (hOf_b _).1 rfl this
theorem madeL_len : ∀ (l : List Seg) (t : Int), (madeL t l).length = l.length
  | [], _ => rfl
  | s :: l, t => by simp [madeL, madeL_len l]
theorem madeL_ok : ∀ (l : List Seg) (t : Int), -1048576 ≤ t → t + 65536 * (l.length : Int) ≤ 2000000 → ∀ s ∈ madeL t l, s.ok ∧ number s.t ∧ number s.fin
  | [], _, _, _, s, hs => by simp [madeL] at hs
  | x :: l, t, h1, h2, s, hs => by
    have hb := hOf_b x.h
    simp only [List.length_cons] at h2
    simp only [madeL, List.mem_cons] at hs
    rcases hs with rfl | hs
    · refine ⟨⟨?_, ?_, ?_, ?_, Nat.le_of_eq (boxOf_len _), boxOf_valid _⟩, ?_, ?_⟩ <;> simp only [made1, number, Seg.fin] <;> omega
    · exact madeL_ok l (t + hOf x.h) (by omega) (by omega) s hs
theorem src_len6 (raw : List Seg) : 1 ≤ (src raw).length ∧ (src raw).length ≤ 6 := by rw [src_len]; split <;> omega
theorem start_b (raw : List Seg) : -1048576 < start raw ∧ start raw < 1048576 := by
  unfold start
  split
  · decide
  · exact tmod_b _ _ (by decide)
theorem Made_len (raw : List Seg) : 1 ≤ (Made raw).length ∧ (Made raw).length ≤ 6 := by rw [Made_eq, madeL_len]; exact src_len6 raw
theorem Made_ok (raw : List Seg) : oks (Made raw) ∧ nums (Made raw) ∧ Chain (Made raw) := by
  have h := madeL_ok (src raw) (start raw) (by have := start_b raw; omega) (by have := start_b raw; have := src_len6 raw; omega)
  rw [Made_eq]
  exact ⟨fun s hs => (h s hs).1, fun s hs => (h s hs).2, madeL_chain _ _⟩
end Go.Ab
