/- Conflict: the call answers true, whatever the query and the picks; conditions: none. -/
import Derived.Test.YtbfecmgiffkooaaZK
namespace Go.Ab
set_option linter.unusedVariables false
set_option linter.unusedSimpArgs false
set_option linter.unusedSimpArgs false
set_option linter.unusedVariables false
set_option linter.unusedSectionVars false
def hitC (N : Nat) (dh : Int) (x r : Seg) : Bool := isect x.time r.time && (!(dist N (x, r)).isW && (dist N (x, r)).hi == dh)
section
variable {A B : List Seg} (hA : Good A) (hB : Good B) (nA : ∀ s ∈ A, s.tube.length = 3 ∧ ∀ a ∈ s.tube, Nar a) (nB : ∀ s ∈ B, s.tube.length = 3 ∧ ∀ a ∈ s.tube, Nar a) {N : Nat} (hN : N ≤ 3) {D dl dh : Int} (hw : IntKind.wrap .i64 (D * D) = D * D)
  {p0 p1 p2 p3 p4 p5 : Int} (u0 : U32 p0) (u1 : U32 p1) (u2 : U32 p2) (u3 : U32 p3) (u4 : U32 p4) (u5 : U32 p5)
  (hsq : ∀ x ∈ A, ∀ r ∈ B, hitC N dh x r = true → ¬ (sqs x.tube r.tube p0 p1 p2 p3 p4 p5 N ≥ D * D))
include hA hB nA nB hN hw u0 u1 u2 u3 u4 u5 hsq
set_option maxRecDepth 100000 in
theorem h5_11 (i : Nat) (hi : i < A.length) (f : Bool) : iterW (roundK G20 L20 (CW G20 L20) 5 none 11) ⟨(sp 0 121 [(3, .box [.int .u32 p0, .int .u32 p1, .int .u32 p2, .int .u32 p3, .int .u32 p4, .int .u32 p5]), (4, .bool false), (5, .bool true), (6, .slice .any (A.map Seg.c)), (7, .slice .any (B.map Seg.c)), (8, .box [.int .i64 ((N : Nat) : Int), .int .i64 D]), (9, .box [.int .i64 dl, .int .i64 dh]), (10, .bool true), (11, .bool f), (12, .int .i64 ((i : Nat) : Int)), (13, .int .i64 ((0 : Nat) : Int))]), []⟩ = some (.exit 2, ⟨(sp 0 121 [(3, .box [.int .u32 p0, .int .u32 p1, .int .u32 p2, .int .u32 p3, .int .u32 p4, .int .u32 p5]), (4, .bool false), (5, .bool true), (6, .slice .any (A.map Seg.c)), (7, .slice .any (B.map Seg.c)), (8, .box [.int .i64 ((N : Nat) : Int), .int .i64 D]), (9, .box [.int .i64 dl, .int .i64 dh]), (10, .bool true), (11, .bool (B.foldl (fun f r => f || hitC N dh A[i] r) f)), (12, .int .i64 ((i : Nat) : Int)), (13, .int .i64 ((B.length : Nat) : Int))]), []⟩) := by
  have hlB := hB.len
  have hlA := hA.len
  have mx := List.getElem_mem hi
  refine (iterW_foldlN (round := roundK G20 L20 (CW G20 L20) 5 none 11) (S := fun k (f : Bool) => ⟨(sp 0 121 [(3, .box [.int .u32 p0, .int .u32 p1, .int .u32 p2, .int .u32 p3, .int .u32 p4, .int .u32 p5]), (4, .bool false), (5, .bool true), (6, .slice .any (A.map Seg.c)), (7, .slice .any (B.map Seg.c)), (8, .box [.int .i64 ((N : Nat) : Int), .int .i64 D]), (9, .box [.int .i64 dl, .int .i64 dh]), (10, .bool true), (11, .bool f), (12, .int .i64 ((i : Nat) : Int)), (13, .int .i64 ((k : Nat) : Int))]), []⟩) (fun f r => f || hitC N dh A[i] r) (fun _ _ => True) B (id := 2) (fun k hk f _ => ⟨?_, trivial⟩) (fun f _ => ?_) f trivial).1
  · have my := List.getElem_mem hk
    have hg := getS A i hi
    have hg2 := getS B k hk
    have hs := hsq _ mx _ my
    obtain ⟨x3, xn⟩ := nA _ mx
    obtain ⟨r3, rn⟩ := nB _ my
    have hx := hA.ok _ mx
    have hr := hB.ok _ my
    rw [e5_11, List.length_map, lt_dec hk, cond_true, hg, hg2, wsucc k (by omega)]
    generalize A[i] = x at *
    generalize B[k] = r at *
    have q25 := p25 x3 r3 xn rn u0 u1 u2 u3 u4 u5 N hN
    have h1 : (0 : Int) ≤ (N : Int) := Int.natCast_nonneg N
    have h2 : N ≤ x.tube.length := by omega
    have h3 : N ≤ r.tube.length := by omega
    simp only [asInt_i, asBool_i, asRows_i, asCells_i, asTuple_i, asBox_i, asObCells_i, asLoop_i, uncons_i, unconsO_i, isNil_i, asPtr_i, asFn_f, asFn_y, asArr_i, asObArr_t, asObArr_f, isReady_i, isBusy_i, uncons_c, uncons_sc, arrRows_i, Option.bind_some, Option.bind_none, cond_true, cond_false, cond_dec, cond_not, p24' x hx, p24' r hr, p23, h1, h2, h3, if_true, Int.toNat_natCast, List.length_map, List.drop_zero, ← List.map_take, p27_take x r hx hr N h2 h3, p26, Iv.eta, q25, hw]
    unfold hitC at hs ⊢
    cases hI : isect x.time r.time with
    | false => cases f <;> rfl
    | true =>
      rw [hI] at hs
      cases hW : (dist N (x, r)).isW with
      | true => cases f <;> rfl
      | false =>
        rw [hW] at hs
        cases hE : ((dist N (x, r)).hi == dh) with
        | false => cases f <;> rfl
        | true =>
          rw [hE] at hs
          simp only [cond_true, cond_false, if_neg (hs rfl)]
          cases f <;> rfl
  · rw [e5_11, List.length_map, lt_decn]
    rfl
def foundC (A B : List Seg) (N : Nat) (dh : Int) : Bool := A.foldl (fun f x => B.foldl (fun f r => f || hitC N dh x r) f) false
set_option maxRecDepth 100000 in
theorem h5_8 : iterW (roundK G20 L20 (CW G20 L20) 5 none 8) ⟨(sp 0 121 [(3, .box [.int .u32 p0, .int .u32 p1, .int .u32 p2, .int .u32 p3, .int .u32 p4, .int .u32 p5]), (4, .bool false), (5, .bool true), (6, .slice .any (A.map Seg.c)), (7, .slice .any (B.map Seg.c)), (8, .box [.int .i64 ((N : Nat) : Int), .int .i64 D]), (9, .box [.int .i64 dl, .int .i64 dh]), (10, .bool true), (11, .bool false), (12, .int .i64 ((0 : Nat) : Int))]), []⟩ = some (.exit 0, ⟨(sp 0 121 [(3, .box [.int .u32 p0, .int .u32 p1, .int .u32 p2, .int .u32 p3, .int .u32 p4, .int .u32 p5]), (4, .bool false), (5, .bool true), (6, .slice .any (A.map Seg.c)), (7, .slice .any (B.map Seg.c)), (8, .box [.int .i64 ((N : Nat) : Int), .int .i64 D]), (9, .box [.int .i64 dl, .int .i64 dh]), (10, .bool true), (11, .bool (foundC A B N dh)), (12, .int .i64 ((A.length : Nat) : Int))]), []⟩) := by
  have hlA := hA.len
  refine (iterW_foldlN (round := roundK G20 L20 (CW G20 L20) 5 none 8) (S := fun i (f : Bool) => ⟨(sp 0 121 [(3, .box [.int .u32 p0, .int .u32 p1, .int .u32 p2, .int .u32 p3, .int .u32 p4, .int .u32 p5]), (4, .bool false), (5, .bool true), (6, .slice .any (A.map Seg.c)), (7, .slice .any (B.map Seg.c)), (8, .box [.int .i64 ((N : Nat) : Int), .int .i64 D]), (9, .box [.int .i64 dl, .int .i64 dh]), (10, .bool true), (11, .bool f), (12, .int .i64 ((i : Nat) : Int))]), []⟩) (fun f x => B.foldl (fun f r => f || hitC N dh x r) f) (fun _ _ => True) A (id := 0) (fun i hi f _ => ⟨?_, trivial⟩) (fun f _ => ?_) false trivial).1
  · have hin := h5_11 (dl := dl) hA hB nA nB hN hw u0 u1 u2 u3 u4 u5 hsq i hi f
    rw [show ((0 : Nat) : Int) = 0 from rfl] at hin
    rw [e5_8, List.length_map, lt_dec hi, cond_true, CW_w]
    refine (bind_via hin _).trans ?_
    rw [← wsucc i (by omega)]
    change _ = _
    kernel_rfl
  · rw [e5_8, List.length_map, lt_decn]
    rfl
end
theorem foundC_of {A B : List Seg} {N : Nat} {dh : Int} {x r : Seg} (hx : x ∈ A) (hr : r ∈ B) (h : hitC N dh x r = true) : foundC A B N dh = true := by
  have inner : ∀ (B : List Seg) (x : Seg) (f : Bool), (B.foldl (fun f r => f || hitC N dh x r) f) = (f || B.any (hitC N dh x)) := by
    intro B x
    induction B with
    | nil => intro f; simp
    | cons r B ih => intro f; rw [List.foldl_cons, ih, List.any_cons, Bool.or_assoc]
  have outer : ∀ (A : List Seg) (f : Bool), (A.foldl (fun f x => B.foldl (fun f r => f || hitC N dh x r) f) f) = (f || A.any fun x => B.any (hitC N dh x)) := by
    intro A
    induction A with
    | nil => intro f; simp
    | cons x A ih => intro f; rw [List.foldl_cons, ih, inner, List.any_cons, Bool.or_assoc]
  unfold foundC
  rw [outer, Bool.false_or, List.any_eq_true]
  exact ⟨x, hx, List.any_eq_true.2 ⟨r, hr, h⟩⟩
set_option maxRecDepth 100000 in
theorem p5 (a b : List Seg) (n d p0 p1 p2 p3 p4 p5 : Int) (hn : 0 ≤ n) (u0 : U32 p0) (u1 : U32 p1) (u2 : U32 p2) (u3 : U32 p3) (u4 : U32 p4) (u5 : U32 p5) :
    (CW G20 L20).p (.func 5) [.agg [.slice .any (a.map Seg.c), .slice .any (b.map Seg.c), .int .u8 n, .int .i64 d], .agg [.int .u32 p0, .int .u32 p1, .int .u32 p2, .int .u32 p3, .int .u32 p4, .int .u32 p5]] = some (.bool true) := by
  refine CW_val (h := []) ?_ rfl
  have hA := made_good a
  have hB := made_good b
  have nA := made_nar a
  have nB := made_nar b
  have hp := posOf_b n hn
  have h0 := (dOf_b d).1
  have h1 := (dOf_b d).2
  rw [e5, p12 a b n d hn]
  simp only [p11, asInt_i, asBool_i, asRows_i, asCells_i, asTuple_i, asBox_i, asObCells_i, asLoop_i, uncons_i, unconsO_i, isNil_i, asPtr_i, asFn_f, asFn_y, asArr_i, asObArr_t, asObArr_f, isReady_i, isBusy_i, uncons_c, uncons_sc, arrRows_i, Option.bind_some, Option.bind_none, cond_true, cond_false, cond_dec, cond_not]
  generalize Made a = A at *
  generalize Made b = B at *
  generalize dOf d = D at *
  generalize posOf n = N at *
  have hp1 := hp.1
  have hp3 := hp.2.1
  rw [g18 hA hB hp3 h0 h1]
  simp only [asInt_i, Option.bind_some]
  cases hc : (classP A B N D != -1) with
  | true => rfl
  | false =>
    have hcl : classP A B N D = -1 := by simpa using hc
    have hany : (pairsOf A B).any (nears N D) = true := by
      cases h : (pairsOf A B).any (nears N D) with
      | true => rfl
      | false => unfold classP at hcl; rw [h] at hcl; cases hcl
    have hv : (minD A B N).1.isW = false ∧ (minD A B N).1.hi < fl (D * D) := by
      unfold classP at hcl
      rw [hany] at hcl
      unfold verd at hcl
      simp only [cond_true] at hcl
      split at hcl
      · assumption
      · cases hcl
    obtain ⟨pq, hpq, _⟩ := (near_any hA.up hB.up hA.pos hB.pos N D).1 hany
    have h2 := min_any hA.up hB.up hA.pos hB.pos hpq N
    have hsq0 := small_sq h0 (show D ≤ 2147483648 by omega)
    have hw : IntKind.wrap .i64 (D * D) = D * D := by
      unfold small at hsq0
      exact w64 (by omega) (by omega)
    have hsq : ∀ x ∈ A, ∀ r ∈ B, hitC N (minD A B N).1.hi x r = true → ¬ (sqs x.tube r.tube p0 p1 p2 p3 p4 p5 N ≥ D * D) := fun x hx r hr hh => by
      unfold hitC at hh
      simp only [Bool.and_eq_true, Bool.not_eq_true', beq_iff_eq] at hh
      obtain ⟨x3, xn⟩ := nA _ hx
      obtain ⟨r3, rn⟩ := nB _ hr
      obtain ⟨ds, d1, d2, _⟩ := sqs_in x3 r3 xn rn u0 u1 u2 u3 u4 u5 N hp1 hp3
      have k := (sqd_in d1 hh.2.1).2
      have e : (sqd (x.tube.take N) (r.tube.take N)).hi = (minD A B N).1.hi := hh.2.2
      have := fl_le (D * D)
      omega
    obtain ⟨q, hq, m1, m2⟩ := min_hi hA.up hB.up hA.pos hB.pos hv.1 h2
    obtain ⟨mq1, mq2, mq3⟩ := prod_mem hq
    have hf : foundC A B N (minD A B N).1.hi = true := by
      refine foundC_of mq1 mq2 ?_
      unfold hitC
      have : dist N (q.1, q.2) = dist N q := rfl
      rw [mq3, this, m1, m2]
      simp
    have hl := h5_8 (dl := (minD A B N).1.lo) hA hB nA nB hp3 hw u0 u1 u2 u3 u4 u5 hsq
    rw [hf] at hl
    rw [show ((0 : Nat) : Int) = 0 from rfl] at hl
    simp only [g15 hA hB hp3, asInt_i, asBool_i, asRows_i, asCells_i, asTuple_i, asBox_i, asObCells_i, asLoop_i, uncons_i, unconsO_i, isNil_i, asPtr_i, asFn_f, asFn_y, asArr_i, asObArr_t, asObArr_f, isReady_i, isBusy_i, uncons_c, uncons_sc, arrRows_i, Option.bind_some, Option.bind_none, cond_true, cond_false, cond_dec, cond_not, CW_w, h2]
    refine (bind_via hl _).trans ?_
    change _ = _
    kernel_rfl
end Go.Ab
