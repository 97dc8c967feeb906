/- The statement on variables and constants answers true; conditions: a byte; sixteen bits. -/
import Derived.Test.YtpalbaaghplhnaaDoorM3
import Derived.Test.YtpalbaaghplhnaaDoorEM8U
set_option linter.unusedVariables false
set_option linter.unusedSimpArgs false
namespace Go.Ab
theorem zlg {m : TM} (g : m.good) {s : List Int} (hs : i8s s) (hsl : s.length < 9223372036854775808) {x : Int} (h : ¬ hv (mono (wpt s)) m x) : (CW GU LU).p (.func 10) [.agg [.slice .any (m.p.map Tm.cs), .int .i64 m.r.lo, .int .i64 m.r.hi], .slice .any (s.map ic), .int .i64 x] = some (.bool false) := by
 obtain ⟨v, h1, h2⟩ := p10 m g s hs hsl x
 cases v
 ·exact h1
 ·exact absurd (h2.1 rfl) h
theorem zfP {rows : List (List V)} (h : rows.length = 6) (wr : Bool) (sz : Nat) : zaj [.arr wr sz rows] 0 6 = some rows := by simp [zaj, zar, h]
set_option maxRecDepth 100000 in
theorem p3 (c1 c2 d : Int) (hd : 0 ≤ d ∧ d ≤ 255) (x : Int) (hx : 0 ≤ x ∧ x ≤ 65535) :
  (CW GU LU).p (.func 3) [.agg [.int .i64 c1, .int .i64 c2], .int .u8 d, .int .u16 x] = some (.bool true) := by
 obtain ⟨a, va, ha⟩ := p5 c1 c2
 have gv := fun k : Int => zrq k va
 have gc := zkb va
 obtain ⟨k, hk, hK⟩ : ∃ k : Nat, k < 6 ∧ IntKind.wrap .i64 (Int.tmod d 6) = ((k : Nat) : Int) := by
  rw [Int.tmod_eq_emod_of_nonneg hd.1, w64 (by omega) (by omega)]
  exact ⟨(d % 6).toNat, by omega, by omega⟩
 have ⟨v1, v2, v3, _⟩ := va
 have run : ∃ h, zM GU LU (CW GU LU) (.func 3) [.agg [.int .i64 c1, .int .i64 c2], .int .u8 d, .int .u16 x] [] = some (.bool true, h) := by
  rw [e3, hK, Int.toNat_natCast, zrw k hk, zqk k hk]
  cases w : a.isW
  ·have n := zdX va w
   unfold zs at n
   have m := zg2 va.1
   have l1 := znV k 1
   have l2 := znV k (-1)
   have m1 : ((zbF k 1).map ic).length = 6 := by rw [List.length_map, l1]
   have m2 : ((zbF k (-1)).map ic).length = 6 := by rw [List.length_map, l2]
   obtain ⟨o1, o2, o3⟩ := zrv k hk
   have hk5 : (0 : Int) ≤ ((k : Nat) : Int) ∧ ((k : Nat) : Int) ≤ 5 := by omega
   have z8 : i8s [0, 0, 0, 0, 0, 0] := fun z hz => by
    simp only [List.mem_cons, List.not_mem_nil, or_false, or_self] at hz
    rw [hz]; decide
   have i1 := zqj k 1 (by omega)
   have i2 := zqj k (-1) (by omega)
   obtain ⟨r0, q0⟩ := zkH (zeC (zfk [0, 0, 0, 0, 0, 0])) hk5 va w
   obtain ⟨_, q1⟩ := zkH (zeC (zfk (zbF k 1))) hk5 va w
   obtain ⟨_, q2⟩ := zkH (zeC (zfk (zbF k (-1)))) hk5 va w
   obtain ⟨cw, c3, c4⟩ := zqi (zeC (zfk (zbF k (-1)))) va w
   rw [o3, Int.mul_zero, Int.add_zero] at q0
   rw [o1, Int.mul_one] at q1
   rw [o2] at q2
   have wc : IntKind.wrap .i64 (IntKind.wrap .i64 (a.lo + IntKind.wrap .i64 (Int.tdiv (IntKind.wrap .i64 (a.hi - a.lo)) 2)) * 65536) = mid a * 65536 := by
    have : Int.tdiv (a.hi - a.lo) 2 = (a.hi - a.lo) / 2 := Int.tdiv_eq_ediv_of_nonneg (by omega)
    rw [w64 (x := a.hi - a.lo) (by omega) (by omega), this, w64 (x := (a.hi - a.lo) / 2) (by omega) (by omega), w64 (x := a.lo + (a.hi - a.lo) / 2) (by omega) (by omega)]
    unfold mid
    rw [w64 (by omega) (by omega)]
    omega
   have f := zqc (d := a.hi - a.lo) (by omega) hx
   have g1 : 0 ≤ (a.hi - a.lo) * x := Int.mul_nonneg (by omega) hx.1
   have g2 : (a.hi - a.lo) * x ≤ (a.hi - a.lo) * 65535 := Int.mul_le_mul_of_nonneg_left hx.2 (by omega)
   have wp : IntKind.wrap .i64 (IntKind.wrap .i64 (a.lo + IntKind.wrap .i64 (Int.tdiv (IntKind.wrap .i64 (IntKind.wrap .i64 (a.hi - a.lo) * IntKind.wrap .i64 x)) 65535)) * 65536) = (a.lo + (a.hi - a.lo) * x / 65535) * 65536 := by
    rw [w64 (x := a.hi - a.lo) (by omega) (by omega), w64 (x := x) (by omega) (by omega), w64 (x := (a.hi - a.lo) * x) (by omega) (by omega), Int.tdiv_eq_ediv_of_nonneg g1, w64 (x := (a.hi - a.lo) * x / 65535) (by omega) (by omega), w64 (x := a.lo + (a.hi - a.lo) * x / 65535) (by omega) (by omega), w64 (by omega) (by omega)]
   have hv0 : hv (mono (wpt [0, 0, 0, 0, 0, 0])) (zdB k a) (mid a * 65536) := .inr ⟨by rw [q0, r0]; simp only; omega, by rw [q0, r0]; simp only; omega⟩
   have hv1 : hv (mono (wpt (zbF k 1))) (zdB k a) (a.hi * 65536) := .inr ⟨by rw [q1, r0]; simp only; omega, by rw [q1, r0]; simp only; omega⟩
   have hva : vat (zdB k a) (zbF k (-1)) 0 = 2 * mid a - a.hi := by
    unfold vat cv
    rw [q2, r0]
    simp only
    omega
   generalize hP : a.lo + (a.hi - a.lo) * x / 65535 = P at *
   have hv2 : hv (mono (wpt (zbF k (-1)))) (zbA a) (P * 65536) := .inr ⟨by rw [c3]; omega, by rw [c4]; omega⟩
   have hv3 : ¬ hv (mono (wpt (zbF k (-1)))) (zbA a) (a.hi * 65536 + 1) := by
    rintro (h | h)
    ·rw [cw] at h; cases h
    ·rw [c3, c4] at h; omega
   have hv4 : ¬ hv (mono (wpt (zbF k (-1)))) (zbA a) (a.lo * 65536 - 1) := by
    rintro (h | h)
    ·rw [cw] at h; cases h
    ·rw [c3, c4] at h; omega
   have b1 : 2 * mid a - a.hi ≤ a.lo := by unfold mid; omega
   have b2 : 2 * mid a - a.hi ≥ a.lo - 1 := by unfold mid; omega
   refine ⟨[.arr true 1 ((zbF k (-1)).map ic)], ?_⟩
   refine (zaC p4 _).trans ?_
   refine (zc6 ha _).trans ?_
   refine (eT (p6 k a va) _).trans ?_
   refine (eT (p7 a va) _).trans ?_
   refine (zaC (p8 _ _) _).trans ?_
   refine (cF w _ _).trans ?_
   rw [wc, wp]
   refine (zaC (zjf (gv k) z8 (by decide) hv0) _).trans ?_
   refine (cT (decide_eq_true (by omega)) _ _).trans ?_
   refine (cT (decide_eq_true hk) _ _).trans ?_
   refine (zaE (zfP m1 _ _) _).trans ?_
   rw [w64 (x := a.hi * 65536) (by omega) (by omega), w64 (x := a.lo * 65536) (by omega) (by omega), w64 (x := a.hi * 65536 + 1) (by omega) (by omega), w64 (x := a.lo * 65536 - 1) (by omega) (by omega), w64 (x := a.lo - 1) (by omega) (by omega)]
   refine (zaC (zjf (gv k) i1 (by rw [l1]; decide) hv1) _).trans ?_
   refine (cT (decide_eq_true (by omega)) _ _).trans ?_
   refine (cT (decide_eq_true hk) _ _).trans ?_
   refine (cT (decide_eq_true m1.symm) _ _).trans ?_
   refine (zaE (zfP m2 _ _) _).trans ?_
   refine (zi2 (p11 (zdB k a) (gv k) (zbF k (-1)) i2 (by rw [l2]; decide) 0 (by omega)) _).trans ?_
   rw [hva]
   refine (cT rfl _ _).trans ?_
   refine (cT rfl _ _).trans ?_
   refine (cT rfl _ _).trans ?_
   refine (cT (decide_eq_true b1) _ _).trans ?_
   refine (cT (decide_eq_true b2) _ _).trans ?_
   refine (zaE (zfP m2 _ _) _).trans ?_
   refine (zaC (zjf gc i2 (by rw [l2]; decide) hv2) _).trans ?_
   refine (cT rfl _ _).trans ?_
   refine (zaE (zfP m2 _ _) _).trans ?_
   refine (zaC (zlg gc i2 (by rw [l2]; decide) hv3) _).trans ?_
   refine (cNF _ _).trans ?_
   refine (zaE (zfP m2 _ _) _).trans ?_
   refine (zaC (zlg gc i2 (by rw [l2]; decide) hv4) _).trans ?_
   rfl
  ·have e1 : zdB k a = ⟨[], Iv.whole⟩ := by unfold zdB; rw [if_pos (.inl w)]
   have e2 : zbA a = ⟨[], Iv.whole⟩ := by unfold zbA; rw [if_pos w]
   refine ⟨[], ?_⟩
   refine (zaC p4 _).trans ?_
   refine (zc6 ha _).trans ?_
   refine (eT (p6 k a va) _).trans ?_
   refine (eT (p7 a va) _).trans ?_
   refine (zaC (p8 _ _) _).trans ?_
   refine (cT w _ _).trans ?_
   rw [e1, e2]
   refine (cT rfl _ _).trans ?_
   refine (cT rfl _ _).trans ?_
   refine (zaC (p9 _ _) _).trans ?_
   refine (cT rfl _ _).trans ?_
   refine (cT rfl _ _).trans ?_
   refine (zaC (p9 _ _) _).trans ?_
   rfl
 obtain ⟨h, e⟩ := run
 exact zE e rfl
end Go.Ab
