/- The reference's MinDistance; common times; conditions: flows that are valid. -/
import Derived.Test.YtbfecmgiffkooaaYF
namespace Go.Ab
set_option linter.unusedSimpArgs false
set_option linter.unusedVariables false
def isect (a b : Iv) : Bool := !decide ((if b.lo > a.lo then b.lo else a.lo) > (if b.hi < a.hi then b.hi else a.hi))
def inter (a b : Iv) : Iv := cond (isect a b) ⟨if b.lo > a.lo then b.lo else a.lo, if b.hi < a.hi then b.hi else a.hi⟩ ⟨0, 0⟩
theorem p23 (a b : Iv) : (CW G20 L20).p (.func 23) [.agg [.int .i64 a.lo, .int .i64 a.hi], .agg [.int .i64 b.lo, .int .i64 b.hi]] = some (.tuple [.agg (inter a b).c, .bool (isect a b)]) := by
  refine CW_val (h := []) ?_ rfl
  rw [e23]
  simp only [inter, isect]
  generalize decide ((if b.lo > a.lo then b.lo else a.lo) > (if b.hi < a.hi then b.hi else a.hi)) = w
  cases w <;> rfl
theorem p64 (w : Bool) (a b : Iv) : (CW G20 L20).p (.func 64) [.bool w, .agg [.int .i64 a.lo, .int .i64 a.hi], .agg [.int .i64 b.lo, .int .i64 b.hi]] = some (.agg (cond w a b).c) := by
  refine CW_val (h := []) ?_ rfl
  rw [e64]
  cases w <;> rfl
theorem p38 (a b : Iv) : (CW G20 L20).p (.func 38) [.agg [.int .i64 a.lo, .int .i64 a.hi], .agg [.int .i64 b.lo, .int .i64 b.hi]] = some (.tuple [.agg (inter a b).c, .bool (isect a b)]) := by
  refine CW_val (h := []) ?_ rfl
  rw [e38]
  have hd : decide ((if b.lo > a.lo then b.lo else a.lo) ≤ (if b.hi < a.hi then b.hi else a.hi)) = isect a b := by
    unfold isect
    generalize (if b.lo > a.lo then b.lo else a.lo) = x
    generalize (if b.hi < a.hi then b.hi else a.hi) = y
    by_cases h : x ≤ y
    · simp [h, Int.not_lt.2 h]
    · simp [h, Int.not_le.1 h]
  rw [hd]
  have h := p64 (isect a b) ⟨if b.lo > a.lo then b.lo else a.lo, if b.hi < a.hi then b.hi else a.hi⟩ ⟨0, 0⟩
  simp only at h
  rw [h]
  simp only [asInt_i, asBool_i, asRows_i, asCells_i, asTuple_i, asBox_i, asObCells_i, asLoop_i, uncons_i, unconsO_i, isNil_i, asPtr_i, asFn_f, asFn_y, asArr_i, asObArr_t, asObArr_f, isReady_i, isBusy_i, uncons_c, uncons_sc, arrRows_i, Option.bind_some, Option.bind_none, cond_true, cond_false, cond_dec, cond_not, inter]
  rfl
def Seg.time (s : Seg) : Iv := ⟨s.t, s.fin⟩
theorem p24' (s : Seg) (h : s.ok) : (CW G20 L20).p (.func 24) [.agg [.int .i64 s.t, .int .i64 s.h, .slice .any (s.frm.map Iv.c), .slice .any (s.pre.map Iv.c), .slice .any (s.tube.map Iv.c), .slice .any (s.to.map Iv.c)]] = some (.agg s.time.c) := p24 s h
theorem p42 (x r : Seg) (hx : x.ok) (hr : r.ok) (pos : Nat) (h2 : pos ≤ x.tube.length) (h3 : pos ≤ r.tube.length) : (CW G20 L20).p (.func 42) [.agg [.int .i64 x.t, .int .i64 x.h, .slice .any (x.frm.map Iv.c), .slice .any (x.pre.map Iv.c), .slice .any (x.tube.map Iv.c), .slice .any (x.to.map Iv.c)], .agg [.int .i64 r.t, .int .i64 r.h, .slice .any (r.frm.map Iv.c), .slice .any (r.pre.map Iv.c), .slice .any (r.tube.map Iv.c), .slice .any (r.to.map Iv.c)], .int .i64 (pos : Int)] = some (.agg (dist pos (x, r)).c) := by
  refine CW_val (h := []) ?_ rfl
  rw [e42]
  have h1 : (0 : Int) ≤ (pos : Int) := Int.natCast_nonneg pos
  simp only [asInt_i, asBool_i, asRows_i, asCells_i, asTuple_i, asBox_i, asObCells_i, asLoop_i, uncons_i, unconsO_i, isNil_i, asPtr_i, asFn_f, asFn_y, asArr_i, asObArr_t, asObArr_f, isReady_i, isBusy_i, uncons_c, uncons_sc, arrRows_i, Option.bind_some, Option.bind_none, cond_true, cond_false, cond_dec, cond_not, h1, h2, h3, if_true, Int.toNat_natCast, List.length_map, List.drop_zero, ← List.map_take, p27_take x r hx hr pos h2 h3]
  rfl
structure MM where
  lo : Int
  hi : Int
  f : Bool
def stepM (pos : Nat) (x : Seg) (s : MM) (r : Seg) : MM :=
  cond (isect x.time r.time) (cond (dist pos (x, r)).isW ⟨if 0 < s.lo then 0 else s.lo, s.hi, true⟩ ⟨if (dist pos (x, r)).lo < s.lo then (dist pos (x, r)).lo else s.lo, if (dist pos (x, r)).hi < s.hi then (dist pos (x, r)).hi else s.hi, true⟩) s
def minR (a b : List Seg) (pos : Nat) : Iv × Bool :=
  let s := a.foldl (fun s x => b.foldl (stepM pos x) s) ⟨2147483648, 2147483648, false⟩
  cond s.f (Iv.new s.lo s.hi, true) (⟨0, 0⟩, false)
set_option maxRecDepth 100000 in
theorem h16_6 (a b : List Seg) (ha : oks a) (hb : oks b) (hB : b.length ≤ 1000000) (pos : Nat) (hpos : long a pos ∧ long b pos) (i : Nat) (hi : i < a.length) (s : MM) :
    iterW (roundK G20 L20 (CW G20 L20) 16 none 6) ⟨(sp 0 72 [(0, .slice .any (a.map Seg.c)), (1, .slice .any (b.map Seg.c)), (2, .int .i64 (pos : Int)), (6, .box [.int .i64 0, .int .i64 0]), (8, .int .i64 s.lo), (9, .int .i64 s.hi), (10, .bool s.f), (11, .int .i64 (i : Nat)), (12, .int .i64 ((0 : Nat) : Int))]), []⟩ =
      some (.exit 2, ⟨(sp 0 72 [(0, .slice .any (a.map Seg.c)), (1, .slice .any (b.map Seg.c)), (2, .int .i64 (pos : Int)), (6, .box [.int .i64 0, .int .i64 0]), (8, .int .i64 (b.foldl (stepM pos a[i]) s).lo), (9, .int .i64 (b.foldl (stepM pos a[i]) s).hi), (10, .bool (b.foldl (stepM pos a[i]) s).f), (11, .int .i64 (i : Nat)), (12, .int .i64 ((b.length : Nat) : Int))]), []⟩) := by
  have hx := ha _ (List.getElem_mem hi)
  have h2 := hpos.1 _ (List.getElem_mem hi)
  refine (iterW_foldl (round := roundK G20 L20 (CW G20 L20) 16 none 6)
    (S := fun j (s : MM) => ⟨(sp 0 72 [(0, .slice .any (a.map Seg.c)), (1, .slice .any (b.map Seg.c)), (2, .int .i64 (pos : Int)), (6, .box [.int .i64 0, .int .i64 0]), (8, .int .i64 s.lo), (9, .int .i64 s.hi), (10, .bool s.f), (11, .int .i64 (i : Nat)), (12, .int .i64 (j : Nat))]), []⟩)
    (stepM pos a[i]) (fun _ => True) b (id := 2) (fun j hj s _ => ⟨?_, trivial⟩) (fun s _ => ?_) s trivial).1
  · have hr := hb _ (List.getElem_mem hj)
    have h3 := hpos.2 _ (List.getElem_mem hj)
    have hg : getRow (a.map Seg.c) (i : Int) 6 = some a[i].c := getS a i hi
    have hg2 : getRow (b.map Seg.c) (j : Int) 6 = some b[j].c := getS b j hj
    generalize a[i] = x at *
    generalize b[j] = r at *
    rw [e16_6]
    simp only [List.length_map, lt_dec hj, hg, hg2, asInt_i, asBool_i, asRows_i, asCells_i, asTuple_i, asBox_i, asObCells_i, asLoop_i, uncons_i, unconsO_i, isNil_i, asPtr_i, asFn_f, asFn_y, asArr_i, asObArr_t, asObArr_f, isReady_i, isBusy_i, uncons_c, uncons_sc, arrRows_i, Option.bind_some, Option.bind_none, cond_true, cond_false, cond_dec, cond_not, p24' x hx, p24' r hr, p23, p42 x r hx hr pos h2 h3, p26, wsucc j (by omega), stepM, Iv.eta]
    cases isect x.time r.time <;> cases (dist pos (x, r)).isW <;> rfl
  · rw [e16_6]
    simp only [List.length_map, lt_decn, cond_false]
theorem p16 (a b : List Seg) (ha : oks a) (hb : oks b) (hA : a.length ≤ 1000000) (hB : b.length ≤ 1000000) (pos : Nat) (hpos : long a pos ∧ long b pos) :
    (CW G20 L20).p (.func 16) [.slice .any (a.map Seg.c), .slice .any (b.map Seg.c), .int .i64 (pos : Int)] = some (.tuple [.agg (minR a b pos).1.c, .bool (minR a b pos).2]) := by
  have hloop := (iterW_foldl (round := roundK G20 L20 (CW G20 L20) 16 none 3)
    (S := fun i (s : MM) => ⟨(sp 0 72 [(0, .slice .any (a.map Seg.c)), (1, .slice .any (b.map Seg.c)), (2, .int .i64 (pos : Int)), (6, .box [.int .i64 0, .int .i64 0]), (8, .int .i64 s.lo), (9, .int .i64 s.hi), (10, .bool s.f), (11, .int .i64 (i : Nat))]), []⟩)
    (fun s x => b.foldl (stepM pos x) s) (fun _ => True) a (id := 0) (fun i hi s _ => by
      refine ⟨?_, trivial⟩
      rw [e16_3]
      simp only [List.length_map, lt_dec hi, cond_true, CW_w]
      refine (bind_via (h16_6 a b ha hb hB pos hpos i hi s) _).trans ?_
      rw [← wsucc i (by omega)]
      kernel_rfl)
    (fun s _ => by rw [e16_3]; simp only [List.length_map, lt_decn, cond_false]) ⟨2147483648, 2147483648, false⟩ trivial).1
  unfold minR
  generalize (a.foldl (fun s x => b.foldl (stepM pos x) s) ⟨2147483648, 2147483648, false⟩) = s at hloop ⊢
  refine CW_val (h := []) ?_ rfl
  rw [e16, CW_w]
  refine (bind_via hloop _).trans ?_
  have h43 := p43 s.lo s.hi
  have h0 : s = ⟨s.lo, s.hi, s.f⟩ := rfl
  rw [h0]
  generalize hf : s.f = f
  cases f with
  | false => change _ = _; kernel_rfl
  | true =>
    refine Eq.trans (b := ((CW G20 L20).p (.func 43) [.int .i64 s.lo, .int .i64 s.hi]).bind fun x16 => (asCells x16).bind fun x17 => (uncons x17).bind fun x18 => (asInt .i64 x18.1).bind fun x19 => (uncons x18.2).bind fun x20 => (asInt .i64 x20.1).bind fun x21 => (isNil x20.2).bind fun _ => some (.tuple [.agg [.int .i64 x19, .int .i64 x21], .bool true], [])) (by kernel_rfl) ?_
    rw [h43]; rfl

/-! Common times; equal results. -/
def nums (l : List Seg) : Prop := ∀ s ∈ l, number s.t ∧ number s.fin
def commonT (a b : List Seg) : Iv × Bool :=
  match a.head?, a.getLast?, b.head?, b.getLast? with
  | some x, some x', some y, some y' => (inter ⟨x.t, x'.fin⟩ ⟨y.t, y'.fin⟩, isect ⟨x.t, x'.fin⟩ ⟨y.t, y'.fin⟩)
  | _, _, _, _ => (⟨0, 0⟩, false)
theorem new_num {lo hi : Int} (h : number lo) (k : number hi) : Iv.new lo hi = ⟨lo, hi⟩ := by unfold Iv.new; rw [if_pos ⟨h, k⟩]
theorem getLast_at {α : Type} (l : List α) (h : 0 < l.length) : l.getLast? = some l[l.length - 1] := by
  rw [List.getLast?_eq_getElem?]; simp [h]
theorem head_at {α : Type} (l : List α) (h : 0 < l.length) : l.head? = some l[0] := by
  cases l with
  | nil => simp at h
  | cons x l => rfl
theorem wpred (n : Nat) (h : 0 < n) (h2 : n ≤ 1000000000) : IntKind.wrap .i64 ((n : Int) - 1) = ((n - 1 : Nat) : Int) := by
  rw [w64 (by omega) (by omega)]; omega
theorem len0 {α : Type} (l : List α) (h : 0 < l.length) : (((l.length : Nat) : Int) == 0) = false := by
  rw [beq_eq_false_iff_ne]; omega
set_option maxRecDepth 100000 in
theorem p13 (a b : List Seg) (ha : oks a) (hb : oks b) (hA : a.length ≤ 1000000) (hB : b.length ≤ 1000000) (na : nums a) (nb : nums b) :
    (CW G20 L20).p (.func 13) [.slice .any (a.map Seg.c), .slice .any (b.map Seg.c)] = some (.tuple [.agg (commonT a b).1.c, .bool (commonT a b).2]) := by
  refine CW_val (h := []) ?_ rfl
  rw [e13]
  by_cases h1 : 0 < a.length
  · by_cases h2 : 0 < b.length
    · have g0 := getS a 0 h1
      have g1 := getS a (a.length - 1) (by omega)
      have g2 := getS b 0 h2
      have g3 := getS b (b.length - 1) (by omega)
      have i0 : a[0] ∈ a := List.getElem_mem h1
      have i1 : a[a.length - 1] ∈ a := List.getElem_mem (by omega)
      have i2 : b[0] ∈ b := List.getElem_mem h2
      have i3 : b[b.length - 1] ∈ b := List.getElem_mem (by omega)
      have hc : commonT a b = (inter ⟨a[0].t, a[a.length - 1].fin⟩ ⟨b[0].t, b[b.length - 1].fin⟩, isect ⟨a[0].t, a[a.length - 1].fin⟩ ⟨b[0].t, b[b.length - 1].fin⟩) := by
        unfold commonT; rw [head_at a h1, getLast_at a h1, head_at b h2, getLast_at b h2]
      rw [hc]
      rw [show ((0 : Nat) : Int) = 0 from rfl] at g0 g2
      have q := p38 ⟨a[0].t, a[a.length - 1].fin⟩ ⟨b[0].t, b[b.length - 1].fin⟩
      have l0 := len0 a h1
      have l1 := len0 b h2
      have w0 := wpred a.length h1 (by omega)
      have w1 := wpred b.length h2 (by omega)
      have e0 := new_num (na _ i0).1 (na _ i1).2
      have e1 := new_num (nb _ i2).1 (nb _ i3).2
      have f1 := p37 _ (ha _ i1)
      have f3 := p37 _ (hb _ i3)
      generalize a[0] = x0 at *
      generalize a[a.length - 1] = x1 at *
      generalize b[0] = y0 at *
      generalize b[b.length - 1] = y1 at *
      simp only at q
      simp only [List.length_map, l0, l1, g0, w0, g1, g2, w1, g3, asInt_i, asBool_i, asRows_i, asCells_i, asTuple_i, asBox_i, asObCells_i, asLoop_i, uncons_i, unconsO_i, isNil_i, asPtr_i, asFn_f, asFn_y, asArr_i, asObArr_t, asObArr_f, isReady_i, isBusy_i, uncons_c, uncons_sc, arrRows_i, Option.bind_some, Option.bind_none, cond_true, cond_false, cond_dec, cond_not, f1, f3, p36', e0, e1, q]
      rfl
    · have : b = [] := List.length_eq_zero_iff.1 (by omega)
      subst this
      have hc : commonT a [] = (⟨0, 0⟩, false) := by unfold commonT; cases a.head? <;> cases a.getLast? <;> rfl
      rw [hc]
      have l0 := len0 a h1
      simp only [List.length_map, l0, cond_false]
      rfl
  · have : a = [] := List.length_eq_zero_iff.1 (by omega)
    subst this
    have hc : commonT [] b = (⟨0, 0⟩, false) := rfl
    rw [hc]
    rfl
set_option maxRecDepth 100000 in
theorem p14 (a b : List Seg) (ha : oks a) (hb : oks b) (hA : a.length ≤ 1000000) (hB : b.length ≤ 1000000) :
    (CW G20 L20).p (.func 14) [.slice .any (a.map Seg.c), .slice .any (b.map Seg.c)] = some (.tuple [.agg (commonT a b).1.c, .bool (commonT a b).2]) := by
  refine CW_val (h := []) ?_ rfl
  rw [e14]
  by_cases h1 : 0 < a.length
  · by_cases h2 : 0 < b.length
    · have g0 := getS a 0 h1
      have g1 := getS a (a.length - 1) (by omega)
      have g2 := getS b 0 h2
      have g3 := getS b (b.length - 1) (by omega)
      have i1 : a[a.length - 1] ∈ a := List.getElem_mem (by omega)
      have i3 : b[b.length - 1] ∈ b := List.getElem_mem (by omega)
      have hc : commonT a b = (inter ⟨a[0].t, a[a.length - 1].fin⟩ ⟨b[0].t, b[b.length - 1].fin⟩, isect ⟨a[0].t, a[a.length - 1].fin⟩ ⟨b[0].t, b[b.length - 1].fin⟩) := by
        unfold commonT; rw [head_at a h1, getLast_at a h1, head_at b h2, getLast_at b h2]
      rw [hc]
      rw [show ((0 : Nat) : Int) = 0 from rfl] at g0 g2
      have q := p23 ⟨a[0].t, a[a.length - 1].fin⟩ ⟨b[0].t, b[b.length - 1].fin⟩
      have l0 := len0 a h1
      have l1 := len0 b h2
      have w0 := wpred a.length h1 (by omega)
      have w1 := wpred b.length h2 (by omega)
      have o1 := ha _ i1
      have o3 := hb _ i3
      generalize a[0] = x0 at *
      generalize a[a.length - 1] = x1 at *
      generalize b[0] = y0 at *
      generalize b[b.length - 1] = y1 at *
      simp only at q
      have v1 : IntKind.wrap .i64 (x1.t + x1.h) = x1.fin := w64 (by have := o1.t0; have := o1.h0; omega) (by have := o1.t1; have := o1.h1; omega)
      have v3 : IntKind.wrap .i64 (y1.t + y1.h) = y1.fin := w64 (by have := o3.t0; have := o3.h0; omega) (by have := o3.t1; have := o3.h1; omega)
      simp only [List.length_map, l0, l1, g0, w0, g1, g2, w1, g3, asInt_i, asBool_i, asRows_i, asCells_i, asTuple_i, asBox_i, asObCells_i, asLoop_i, uncons_i, unconsO_i, isNil_i, asPtr_i, asFn_f, asFn_y, asArr_i, asObArr_t, asObArr_f, isReady_i, isBusy_i, uncons_c, uncons_sc, arrRows_i, Option.bind_some, Option.bind_none, cond_true, cond_false, cond_dec, cond_not, v1, v3, q]
      rfl
    · have : b = [] := List.length_eq_zero_iff.1 (by omega)
      subst this
      have hc : commonT a [] = (⟨0, 0⟩, false) := by unfold commonT; cases a.head? <;> cases a.getLast? <;> rfl
      rw [hc]
      have l0 := len0 a h1
      simp only [List.length_map, l0, cond_false]
      rfl
  · have : a = [] := List.length_eq_zero_iff.1 (by omega)
    subst this
    have hc : commonT [] b = (⟨0, 0⟩, false) := rfl
    rw [hc]
    rfl
theorem p17 (a b : Iv) : (CW G20 L20).p (.func 17) [.agg [.int .i64 a.lo, .int .i64 a.hi], .agg [.int .i64 b.lo, .int .i64 b.hi]] = some (.bool (a.lo == b.lo && a.hi == b.hi)) := by
  refine CW_val (h := []) ?_ rfl
  rw [e17]
  cases a.lo == b.lo <;> rfl
/-- Equal slices of times: only what is needed. -/
theorem p48 (a : List Iv) (hf : few a) : (CW G20 L20).p (.func 48) [.slice .any (a.map Iv.c), .slice .any (a.map Iv.c)] = some (.bool true) := by
  have hloop := (iterW_foldl (round := roundK G20 L20 (CW G20 L20) 48 none 4)
    (S := fun i (_ : Unit) => ⟨(sp 0 26 [(0, .slice .any (a.map Iv.c)), (1, .slice .any (a.map Iv.c)), (4, .bool false), (5, .int .i64 (i : Nat))]), []⟩)
    (fun _ _ => ()) (fun _ => True) a (id := 0) (fun i hi s _ => by
      refine ⟨?_, trivial⟩
      rw [e48_4]
      simp only [List.length_map, lt_dec hi, getRow_map Iv.c Iv.c_len a i hi, asInt_i, asBool_i, asRows_i, asCells_i, asTuple_i, asBox_i, asObCells_i, asLoop_i, uncons_i, unconsO_i, isNil_i, asPtr_i, asFn_f, asFn_y, asArr_i, asObArr_t, asObArr_f, isReady_i, isBusy_i, uncons_c, uncons_sc, arrRows_i, Option.bind_some, Option.bind_none, cond_true, cond_false, cond_dec, cond_not, beq_self_eq_true, Bool.and_true, Bool.not_true, wsucc i (by have := hf; unfold few at this; omega)])
    (fun s _ => by rw [e48_4]; simp only [List.length_map, lt_decn, cond_false]) () trivial).1
  refine CW_val (h := []) ?_ rfl
  rw [e48, CW_w]
  have hn : ((((List.map Iv.c a).length : Nat) : Int) != (((List.map Iv.c a).length : Nat) : Int)) = false := by simp
  rw [hn]
  refine (bind_via hloop _).trans ?_
  kernel_rfl
theorem p20 (a : List Iv) (hf : few a) : (CW G20 L20).p (.func 20) [.slice .any (a.map Iv.c), .slice .any (a.map Iv.c)] = some (.bool true) := by
  refine CW_val (h := []) ?_ rfl
  rw [e20, p48 a hf]; rfl
end Go.Ab
