/- Squared distances of picked points, typed; Soundness and Conflict: the calls answer true; conditions: none. -/
import Derived.Test.YtbfecmgiffkooaaZH
import Derived.Test.YtbfecmgiffkooaaZI
import Derived.Test.YtbfecmgiffkooaaE7
namespace Go.Ab
set_option linter.unusedVariables false
set_option linter.unusedSimpArgs false
set_option linter.unusedSimpArgs false
set_option linter.unusedVariables false
set_option linter.unusedSectionVars false
def Nar (a : Iv) : Prop := -1048576 < a.lo ∧ a.lo < 1048576 ∧ a.lo ≤ a.hi ∧ a.hi < 1248576
theorem pickI_b {a : Iv} {r : Int} (h : Nar a) (h4 : 0 ≤ r) : a.lo ≤ pickI a r ∧ pickI a r ≤ a.hi := by
  obtain ⟨h1, h1', h2, h3⟩ := h
  have b1 := tmod_b r (a.hi - a.lo + 1) (by omega)
  have b2 := tmod_nn r (a.hi - a.lo + 1) h4
  unfold pickI; omega
def dd (x y : List Iv) (p0 p1 p2 p3 p4 p5 : Int) (i : Nat) : Int := match i with
  | 0 => pickI (x.getD 0 ⟨0, 0⟩) p0 - pickI (y.getD 0 ⟨0, 0⟩) p3
  | 1 => pickI (x.getD 1 ⟨0, 0⟩) p1 - pickI (y.getD 1 ⟨0, 0⟩) p4
  | _ => pickI (x.getD 2 ⟨0, 0⟩) p2 - pickI (y.getD 2 ⟨0, 0⟩) p5
def U32 (n : Int) : Prop := 0 ≤ n ∧ n < 4294967296
def sqs (x y : List Iv) (p0 p1 p2 p3 p4 p5 : Int) (pos : Nat) : Int := (List.range pos).foldl (fun s i => s + dd x y p0 p1 p2 p3 p4 p5 i * dd x y p0 p1 p2 p3 p4 p5 i) 0
theorem dd_small {u : Int} (h1 : -2297153 < u) (h2 : u < 2297153) : u * u ≤ 2297153 * 2297153 := sq_le2 (by omega) (by omega)
theorem getD_at {l : List Iv} {i : Nat} (h : i < l.length) (d : Iv) : l.getD i d = l[i] := by simp [List.getD, h]
section
variable {x y : List Iv} (hx : x.length = 3) (hy : y.length = 3) (nx : ∀ a ∈ x, Nar a) (ny : ∀ a ∈ y, Nar a) {p0 p1 p2 p3 p4 p5 : Int} (u0 : U32 p0) (u1 : U32 p1) (u2 : U32 p2) (u3 : U32 p3) (u4 : U32 p4) (u5 : U32 p5)
include hx hy nx ny u0 u1 u2 u3 u4 u5
set_option maxRecDepth 100000 in
theorem round25a (pos i : Nat) (hp : pos ≤ 3) (hi : i < pos) (s : Int) (hs1 : 0 ≤ s) (hs2 : s ≤ 30000000000000) (hix : i < x.length) (hiy : i < y.length) (q r : Int) (uq : U32 q) (ur : U32 r)
    (hq : nthI [p0, p1, p2, p3, p4, p5] i = some q) (hr : nthI [p0, p1, p2, p3, p4, p5] (i + 3) = some r) (hd : dd x y p0 p1 p2 p3 p4 p5 i = pickI x[i] q - pickI y[i] r) :
    roundK G20 L20 (CW G20 L20) 25 none 3 ⟨(sp 0 41 [(0, .slice .any (x.map Iv.c)), (1, .slice .any (y.map Iv.c)), (3, .int .i64 ((pos : Nat) : Int)), (6, .box [.int .u32 p0, .int .u32 p1, .int .u32 p2, .int .u32 p3, .int .u32 p4, .int .u32 p5]), (9, .int .i64 s), (10, .int .i64 ((i : Nat) : Int))]), []⟩ =
      some (.normal, ⟨(sp 0 41 [(0, .slice .any (x.map Iv.c)), (1, .slice .any (y.map Iv.c)), (3, .int .i64 ((pos : Nat) : Int)), (6, .box [.int .u32 p0, .int .u32 p1, .int .u32 p2, .int .u32 p3, .int .u32 p4, .int .u32 p5]), (9, .int .i64 (s + dd x y p0 p1 p2 p3 p4 p5 i * dd x y p0 p1 p2 p3 p4 p5 i)), (10, .int .i64 ((i + 1 : Nat) : Int))]), []⟩) ∧ -2297153 < dd x y p0 p1 p2 p3 p4 p5 i ∧ dd x y p0 p1 p2 p3 p4 p5 i < 2297153 := by
  have n1 := nx _ (List.getElem_mem hix)
  have n2 := ny _ (List.getElem_mem hiy)
  have hg1 := getI x i hix
  have hg2 := getI y i hiy
  have k1 := pickI_b n1 uq.1
  have k2 := pickI_b n2 ur.1
  have q1 := p55 x[i] n1 q uq
  have q2 := p55 y[i] n2 r ur
  obtain ⟨m1, m1', m2, m3⟩ := n1
  obtain ⟨m4, m4', m5, m6⟩ := n2
  have bd : -2297153 < pickI x[i] q - pickI y[i] r ∧ pickI x[i] q - pickI y[i] r < 2297153 := by omega
  have sq := dd_small bd.1 bd.2
  have sq0 := sq_nn (pickI x[i] q - pickI y[i] r)
  refine ⟨?_, by rw [hd]; exact bd⟩
  rw [hd, e25_3]
  have w3 : IntKind.wrap .i64 ((i : Int) + 3) = ((i + 3 : Nat) : Int) := by rw [w64 (by omega) (by omega)]; simp
  have c1 : (0 : Int) ≤ (i : Int) := Int.natCast_nonneg i
  have c2 : i < 6 := by omega
  have c3 : (0 : Int) ≤ ((i + 3 : Nat) : Int) := Int.natCast_nonneg _
  have c4 : i + 3 < 6 := by omega
  have w4 : IntKind.wrap .i64 (pickI x[i] q - pickI y[i] r) = pickI x[i] q - pickI y[i] r := w64 (by omega) (by omega)
  generalize hz : pickI x[i] q - pickI y[i] r = z at bd sq sq0 hd w4 ⊢
  rw [← hz] at w4
  rw [hz] at w4
  have w4 : IntKind.wrap .i64 (pickI x[i] q - pickI y[i] r) = z := by rw [hz]; exact w64 (by omega) (by omega)
  have w5 : IntKind.wrap .i64 (z * z) = z * z := w64 (by omega) (by omega)
  have w6 : IntKind.wrap .i64 (s + z * z) = s + z * z := w64 (by omega) (by omega)
  simp only [hg1, hg2, asInt_i, asBool_i, asRows_i, asCells_i, asTuple_i, asBox_i, asObCells_i, asLoop_i, uncons_i, unconsO_i, isNil_i, asPtr_i, asFn_f, asFn_y, asArr_i, asObArr_t, asObArr_f, isReady_i, isBusy_i, uncons_c, uncons_sc, arrRows_i, Option.bind_some, Option.bind_none, cond_true, cond_false, cond_dec, cond_not, w3, Int.toNat_natCast, Nat.mul_one, hq, hr, q1, q2, w4, w5, w6, if_pos c1, if_pos c2, if_pos c3, if_pos c4, if_pos (show ((i : Nat) : Int) < ((pos : Nat) : Int) by omega), wsucc i (by omega)]
theorem round25 (pos i : Nat) (hp : pos ≤ 3) (hi : i < pos) (s : Int) (hs1 : 0 ≤ s) (hs2 : s ≤ 30000000000000) :
    roundK G20 L20 (CW G20 L20) 25 none 3 ⟨(sp 0 41 [(0, .slice .any (x.map Iv.c)), (1, .slice .any (y.map Iv.c)), (3, .int .i64 ((pos : Nat) : Int)), (6, .box [.int .u32 p0, .int .u32 p1, .int .u32 p2, .int .u32 p3, .int .u32 p4, .int .u32 p5]), (9, .int .i64 s), (10, .int .i64 ((i : Nat) : Int))]), []⟩ =
      some (.normal, ⟨(sp 0 41 [(0, .slice .any (x.map Iv.c)), (1, .slice .any (y.map Iv.c)), (3, .int .i64 ((pos : Nat) : Int)), (6, .box [.int .u32 p0, .int .u32 p1, .int .u32 p2, .int .u32 p3, .int .u32 p4, .int .u32 p5]), (9, .int .i64 (s + dd x y p0 p1 p2 p3 p4 p5 i * dd x y p0 p1 p2 p3 p4 p5 i)), (10, .int .i64 ((i + 1 : Nat) : Int))]), []⟩) ∧ -2297153 < dd x y p0 p1 p2 p3 p4 p5 i ∧ dd x y p0 p1 p2 p3 p4 p5 i < 2297153 := by
  have hix : i < x.length := by omega
  have hiy : i < y.length := by omega
  have gx : ∀ k (hk : k < x.length), x.getD k ⟨0, 0⟩ = x[k] := fun k hk => getD_at hk _
  have gy : ∀ k (hk : k < y.length), y.getD k ⟨0, 0⟩ = y[k] := fun k hk => getD_at hk _
  have h3 : i = 0 ∨ i = 1 ∨ i = 2 := by omega
  rcases h3 with rfl | rfl | rfl
  · exact round25a hx hy nx ny u0 u1 u2 u3 u4 u5 pos 0 hp hi s hs1 hs2 hix hiy p0 p3 u0 u3 rfl rfl (by rw [← gx 0 (by omega), ← gy 0 (by omega)]; rfl)
  · exact round25a hx hy nx ny u0 u1 u2 u3 u4 u5 pos 1 hp hi s hs1 hs2 hix hiy p1 p4 u1 u4 rfl rfl (by rw [← gx 1 (by omega), ← gy 1 (by omega)]; rfl)
  · exact round25a hx hy nx ny u0 u1 u2 u3 u4 u5 pos 2 hp hi s hs1 hs2 hix hiy p2 p5 u2 u5 rfl rfl (by rw [← gx 2 (by omega), ← gy 2 (by omega)]; rfl)
set_option maxRecDepth 100000 in
theorem p25 (pos : Nat) (hp : pos ≤ 3) : (CW G20 L20).p (.func 25) [.slice .any (x.map Iv.c), .slice .any (y.map Iv.c), .agg [.int .u32 p0, .int .u32 p1, .int .u32 p2, .int .u32 p3, .int .u32 p4, .int .u32 p5], .int .i64 ((pos : Nat) : Int)] = some (.int .i64 (sqs x y p0 p1 p2 p3 p4 p5 pos)) := by
  have hl := (iterW_foldlN (round := roundK G20 L20 (CW G20 L20) 25 none 3)
    (S := fun i (s : Int) => ⟨(sp 0 41 [(0, .slice .any (x.map Iv.c)), (1, .slice .any (y.map Iv.c)), (3, .int .i64 ((pos : Nat) : Int)), (6, .box [.int .u32 p0, .int .u32 p1, .int .u32 p2, .int .u32 p3, .int .u32 p4, .int .u32 p5]), (9, .int .i64 s), (10, .int .i64 ((i : Nat) : Int))]), []⟩)
    (fun s i => s + dd x y p0 p1 p2 p3 p4 p5 i * dd x y p0 p1 p2 p3 p4 p5 i) (fun i s => 0 ≤ s ∧ s ≤ 5276911905409 * (i : Int)) (List.range pos) (id := 0) (fun i hi s hs => by
      rw [List.length_range] at hi
      obtain ⟨k1, k2, k3⟩ := round25 hx hy nx ny u0 u1 u2 u3 u4 u5 pos i hp hi s hs.1 (by omega)
      have sq := dd_small k2 k3
      have sq0 := sq_nn (dd x y p0 p1 p2 p3 p4 p5 i)
      rw [List.getElem_range]
      exact ⟨k1, by omega, by omega⟩)
    (fun s _ => by
      rw [e25_3, List.length_range]
      simp only [asInt_i, asBool_i, asRows_i, asCells_i, asTuple_i, asBox_i, asObCells_i, asLoop_i, uncons_i, unconsO_i, isNil_i, asPtr_i, asFn_f, asFn_y, asArr_i, asObArr_t, asObArr_f, isReady_i, isBusy_i, uncons_c, uncons_sc, arrRows_i, Option.bind_some, Option.bind_none, cond_true, cond_false, cond_dec, cond_not, Int.lt_irrefl, if_false]) 0 ⟨by omega, by omega⟩).1
  rw [show (List.range pos).foldl (fun s i => s + dd x y p0 p1 p2 p3 p4 p5 i * dd x y p0 p1 p2 p3 p4 p5 i) 0 = sqs x y p0 p1 p2 p3 p4 p5 pos from rfl] at hl
  generalize sqs x y p0 p1 p2 p3 p4 p5 pos = R at hl ⊢
  refine CW_val (h := []) ?_ rfl
  rw [e25, CW_w]
  refine (bind_via hl _).trans ?_
  change _ = _
  kernel_rfl
/-- It is the sum of squares of differences of points. -/
theorem sqs_in (pos : Nat) (hp1 : 1 ≤ pos) (hp : pos ≤ 3) : ∃ ds, Diffs ((x.take pos).zip (y.take pos)) ds ∧ ssq ds = sqs x y p0 p1 p2 p3 p4 p5 pos ∧ ssq ds ≤ 30000000000000 := by
  match x, y, hx, hy with
  | [x0, x1, x2], [y0, y1, y2], _, _ =>
    have a0 := pickI_b (nx x0 (by simp)) u0.1
    have a1 := pickI_b (nx x1 (by simp)) u1.1
    have a2 := pickI_b (nx x2 (by simp)) u2.1
    have b0 := pickI_b (ny y0 (by simp)) u3.1
    have b1 := pickI_b (ny y1 (by simp)) u4.1
    have b2 := pickI_b (ny y2 (by simp)) u5.1
    obtain ⟨c1, c1', c2, c3⟩ := nx x0 (by simp)
    obtain ⟨c4, c4', c5, c6⟩ := nx x1 (by simp)
    obtain ⟨c7, c7', c8, c9⟩ := nx x2 (by simp)
    obtain ⟨d1, d1', d2, d3⟩ := ny y0 (by simp)
    obtain ⟨d4, d4', d5, d6⟩ := ny y1 (by simp)
    obtain ⟨d7, d7', d8, d9⟩ := ny y2 (by simp)
    have s0 := dd_small (u := pickI x0 p0 - pickI y0 p3) (by omega) (by omega)
    have s1 := dd_small (u := pickI x1 p1 - pickI y1 p4) (by omega) (by omega)
    have s2 := dd_small (u := pickI x2 p2 - pickI y2 p5) (by omega) (by omega)
    have h3 : pos = 1 ∨ pos = 2 ∨ pos = 3 := by omega
    rcases h3 with rfl | rfl | rfl
    · refine ⟨[pickI x0 p0 - pickI y0 p3], ⟨_, _, rfl, ⟨by simp only; omega, by simp only; omega⟩, rfl⟩, ?_, ?_⟩
      · show (pickI x0 p0 - pickI y0 p3) * (pickI x0 p0 - pickI y0 p3) + 0 = 0 + (pickI x0 p0 - pickI y0 p3) * (pickI x0 p0 - pickI y0 p3); omega
      · simp only [ssq]; omega
    · refine ⟨[pickI x0 p0 - pickI y0 p3, pickI x1 p1 - pickI y1 p4], ⟨_, _, rfl, ⟨by simp only; omega, by simp only; omega⟩, ⟨_, _, rfl, ⟨by simp only; omega, by simp only; omega⟩, rfl⟩⟩, ?_, ?_⟩
      · show (pickI x0 p0 - pickI y0 p3) * (pickI x0 p0 - pickI y0 p3) + ((pickI x1 p1 - pickI y1 p4) * (pickI x1 p1 - pickI y1 p4) + 0) = 0 + (pickI x0 p0 - pickI y0 p3) * (pickI x0 p0 - pickI y0 p3) + (pickI x1 p1 - pickI y1 p4) * (pickI x1 p1 - pickI y1 p4); omega
      · simp only [ssq]; omega
    · refine ⟨[pickI x0 p0 - pickI y0 p3, pickI x1 p1 - pickI y1 p4, pickI x2 p2 - pickI y2 p5], ⟨_, _, rfl, ⟨by simp only; omega, by simp only; omega⟩, ⟨_, _, rfl, ⟨by simp only; omega, by simp only; omega⟩, ⟨_, _, rfl, ⟨by simp only; omega, by simp only; omega⟩, rfl⟩⟩⟩, ?_, ?_⟩
      · show (pickI x0 p0 - pickI y0 p3) * (pickI x0 p0 - pickI y0 p3) + ((pickI x1 p1 - pickI y1 p4) * (pickI x1 p1 - pickI y1 p4) + ((pickI x2 p2 - pickI y2 p5) * (pickI x2 p2 - pickI y2 p5) + 0)) = 0 + (pickI x0 p0 - pickI y0 p3) * (pickI x0 p0 - pickI y0 p3) + (pickI x1 p1 - pickI y1 p4) * (pickI x1 p1 - pickI y1 p4) + (pickI x2 p2 - pickI y2 p5) * (pickI x2 p2 - pickI y2 p5); omega
      · simp only [ssq]; omega
end
end Go.Ab
