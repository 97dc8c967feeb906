/- MinDistance of the program, typed; conditions: flows whose tubes are valid boxes of three coordinates. -/
import Derived.Test.YtbfecmgiffkooaaYE
namespace Go.Ab
set_option linter.unusedSimpArgs false
set_option linter.unusedVariables false
/-- A squared distance added to a minimum. -/
def mini (m d : Iv) : Iv := cond d.isW ⟨if 0 < m.lo then 0 else m.lo, if 2147483648 < m.hi then 2147483648 else m.hi⟩ ⟨if d.lo < m.lo then d.lo else m.lo, if d.hi < m.hi then d.hi else m.hi⟩
def dist (pos : Nat) (p : Seg × Seg) : Iv := sqd (p.1.tube.take pos) (p.2.tube.take pos)
def step15 (pos : Nat) (s : MD) (p : Seg × Seg) : MD × Bool := (⟨mini s.c2 (dist pos p), mini s.c2 (dist pos p), true⟩, true)
def minD (a b : List Seg) (pos : Nat) : Iv × Bool :=
  let s := (runP (step15 pos) ⟨⟨0, 0⟩, ⟨2147483648, 2147483648⟩, false⟩ (pairsOf a b)).1
  cond s.f (Iv.new s.c1.lo s.c1.hi, true) (s.c1, false)
theorem valids_take {l : List Iv} (h : valids l) (n : Nat) : valids (l.take n) := fun x hx => h x (List.mem_of_mem_take hx)
theorem few_take {s : Seg} (h : s.ok) (n : Nat) : few (s.tube.take n) := by
  unfold few; rw [List.length_take]; have := h.len; omega
theorem p41_take (x r : Seg) (hx : x.ok) (hr : r.ok) (pos : Nat) (h2 : pos ≤ x.tube.length) (h3 : pos ≤ r.tube.length) : (CW G20 L20).p (.func 41) [.slice .any ((x.tube.take pos).map Iv.c), .slice .any ((r.tube.take pos).map Iv.c)] = some (.agg (dist pos (x, r)).c) :=
  p41 _ _ (by simp only [List.length_take]; omega) (valids_take hx.val _) (valids_take hr.val _) (few_take hx _)
theorem p27_take (x r : Seg) (hx : x.ok) (hr : r.ok) (pos : Nat) (h2 : pos ≤ x.tube.length) (h3 : pos ≤ r.tube.length) : (CW G20 L20).p (.func 27) [.slice .any ((x.tube.take pos).map Iv.c), .slice .any ((r.tube.take pos).map Iv.c)] = some (.agg (dist pos (x, r)).c) :=
  p27 _ _ (by simp only [List.length_take]; omega) (valids_take hx.val _) (valids_take hr.val _) (few_take hx _)

theorem h15_65 (pos : Int) (c m d : Iv) (f : Bool) (A B : List (List V)) (l : LoopA) : (CW G20 L20).s (.func 65) [.agg [.int .i64 d.lo, .int .i64 d.hi], .ptr 2 0] [.cells [.int .i64 pos], .cells [.int .i64 c.lo, .int .i64 c.hi], .cells [.int .i64 m.lo, .int .i64 m.hi], .cells [.bool f], .cells [.fn (.func 65) [] [.ptr 2 0]], .cells [.slice .any A], .cells [.slice .any B], .loop l] =
    some (.agg (mini m d).c, [.cells [.int .i64 pos], .cells [.int .i64 c.lo, .int .i64 c.hi], .cells (mini m d).c, .cells [.bool f], .cells [.fn (.func 65) [] [.ptr 2 0]], .cells [.slice .any A], .cells [.slice .any B], .loop l]) := by
  refine CW_run ?_
  rw [s65]
  simp only [p46, asInt_i, asBool_i, asRows_i, asCells_i, asTuple_i, asBox_i, asObCells_i, asLoop_i, uncons_i, unconsO_i, isNil_i, asPtr_i, asFn_f, asFn_y, asArr_i, asObArr_t, asObArr_f, isReady_i, isBusy_i, uncons_c, uncons_sc, arrRows_i, Option.bind_some, Option.bind_none, cond_true, cond_false, cond_dec, cond_not, Iv.eta, mini]
  generalize d.isW = w
  cases w <;> rfl
set_option maxRecDepth 100000 in
theorem y15 (pos : Nat) (a b : List Seg) (x r : Seg) (s : MD) (hx : x.ok) (hr : r.ok) (h2 : pos ≤ x.tube.length) (h3 : pos ≤ r.tube.length) : (CW G20 L20).s (.yield 7) [.agg [.int .i64 x.t, .int .i64 x.h, .slice .any (x.frm.map Iv.c), .slice .any (x.pre.map Iv.c), .slice .any (x.tube.map Iv.c), .slice .any (x.to.map Iv.c), .int .i64 r.t, .int .i64 r.h, .slice .any (r.frm.map Iv.c), .slice .any (r.pre.map Iv.c), .slice .any (r.tube.map Iv.c), .slice .any (r.to.map Iv.c), .int .i64 (if r.t > x.t then r.t else x.t), .int .i64 (if r.fin < x.fin then r.fin else x.fin)]] [.cells [.int .i64 ((pos : Nat) : Int)], .cells [.int .i64 s.c1.lo, .int .i64 s.c1.hi], .cells [.int .i64 s.c2.lo, .int .i64 s.c2.hi], .cells [.bool s.f], .cells [.fn (.func 65) [] [.ptr 2 0]], .cells [.slice .any (a.map Seg.c)], .cells [.slice .any (b.map Seg.c)], .loop (R15 a b ((pos : Nat) : Int))] = some (.bool (step15 pos s (x, r)).2, [.cells [.int .i64 ((pos : Nat) : Int)], .cells [.int .i64 (step15 pos s (x, r)).1.c1.lo, .int .i64 (step15 pos s (x, r)).1.c1.hi], .cells [.int .i64 (step15 pos s (x, r)).1.c2.lo, .int .i64 (step15 pos s (x, r)).1.c2.hi], .cells [.bool (step15 pos s (x, r)).1.f], .cells [.fn (.func 65) [] [.ptr 2 0]], .cells [.slice .any (a.map Seg.c)], .cells [.slice .any (b.map Seg.c)], .loop (R15 a b ((pos : Nat) : Int))]) := by
  refine CW_run ?_
  unfold R15
  rw [y15_5]
  have h1 : (0 : Int) ≤ (pos : Int) := Int.natCast_nonneg pos
  simp only [asInt_i, asBool_i, asRows_i, asCells_i, asTuple_i, asBox_i, asObCells_i, asLoop_i, uncons_i, unconsO_i, isNil_i, asPtr_i, asFn_f, asFn_y, asArr_i, asObArr_t, asObArr_f, isReady_i, isBusy_i, uncons_c, uncons_sc, arrRows_i, Option.bind_some, Option.bind_none, cond_true, cond_false, cond_dec, cond_not, h1, h2, h3, if_true, Int.toNat_natCast, List.length_map, List.drop_zero, ← List.map_take, p41_take x r hx hr pos h2 h3]
  have hs := h15_65 (pos : Int) s.c1 s.c2 (dist pos (x, r)) s.f (a.map Seg.c) (b.map Seg.c) ⟨.busy, none, (R15 a b pos).t, 15, [16], rangeAssign GP 15 5, rangeBody GP 15 5⟩
  refine (bind_via hs _).trans ?_
  kernel_rfl
set_option maxRecDepth 100000 in
theorem p15 (a b : List Seg) (ha : oks a) (hb : oks b) (hA : a.length ≤ 1000000) (hB : b.length ≤ 1000000) (pos : Nat) (hpos : long a pos ∧ long b pos) :
    (CW G20 L20).p (.func 15) [.slice .any (a.map Seg.c), .slice .any (b.map Seg.c), .int .i64 (pos : Int)] = some (.tuple [.agg (minD a b pos).1.c, .bool (minD a b pos).2]) := by
  have h66 := (ov15 pos a b ha hb hA hB (step15 pos) (fun _ _ => True) (fun x r _ s hx hr _ => ⟨y15 pos a b x r s (ha x hx) (hb r hr) (hpos.1 x hx) (hpos.2 r hr), fun _ => trivial⟩) ⟨⟨0, 0⟩, ⟨2147483648, 2147483648⟩, false⟩ trivial).1
  unfold minD
  generalize (runP (step15 pos) ⟨⟨0, 0⟩, ⟨2147483648, 2147483648⟩, false⟩ (pairsOf a b)).1 = s at h66 ⊢
  refine CW_valH (u := .tuple [.agg (cond s.f (Iv.new s.c1.lo s.c1.hi, true) (s.c1, false)).1.c, .bool (cond s.f (Iv.new s.c1.lo s.c1.hi, true) (s.c1, false)).2]) (h := [.cells [.int .i64 ((pos : Nat) : Int)], .cells [.int .i64 s.c1.lo, .int .i64 s.c1.hi], .cells [.int .i64 s.c2.lo, .int .i64 s.c2.hi], .cells [.bool s.f], .cells [.fn (.func 65) [] [.ptr 2 0]], .cells [.slice .any (a.map Seg.c)], .cells [.slice .any (b.map Seg.c)]]) ?_ rfl
  rw [e15]
  refine (bind_via (CW_run (s39 _ (pos : Int) 0 0)) _).trans ?_
  simp only [asInt_i, asBool_i, asRows_i, asCells_i, asTuple_i, asBox_i, asObCells_i, asLoop_i, uncons_i, unconsO_i, isNil_i, asPtr_i, asFn_f, asFn_y, asArr_i, asObArr_t, asObArr_f, isReady_i, isBusy_i, uncons_c, uncons_sc, arrRows_i, Option.bind_some, Option.bind_none, cond_true, cond_false, cond_dec, cond_not]
  refine (bind_via (CW_run (s40 _ (pos : Int) 0 0 2147483648 2147483648 false (a.map Seg.c) (b.map Seg.c))) _).trans ?_
  simp only [asInt_i, asBool_i, asRows_i, asCells_i, asTuple_i, asBox_i, asObCells_i, asLoop_i, uncons_i, unconsO_i, isNil_i, asPtr_i, asFn_f, asFn_y, asArr_i, asObArr_t, asObArr_f, isReady_i, isBusy_i, uncons_c, uncons_sc, arrRows_i, Option.bind_some, Option.bind_none, cond_true, cond_false, cond_dec, cond_not]
  refine (bind_via h66 _).trans ?_
  have he : endOf (R15 a b pos) = some none := rfl
  have h36 := p36' s.c1.lo s.c1.hi
  cases hf : s.f with
  | false => change _ = _; kernel_rfl
  | true =>
    simp only [asInt_i, asBool_i, asRows_i, asCells_i, asTuple_i, asBox_i, asObCells_i, asLoop_i, uncons_i, unconsO_i, isNil_i, asPtr_i, asFn_f, asFn_y, asArr_i, asObArr_t, asObArr_f, isReady_i, isBusy_i, uncons_c, uncons_sc, arrRows_i, Option.bind_some, Option.bind_none, cond_true, cond_false, cond_dec, cond_not, he, Bool.not_true, h36, hf]
    change _ = _
    kernel_rfl
end Go.Ab
