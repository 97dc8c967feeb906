/- The statement that sums, differences and products hold the values answers true, where the sanity check does; conditions: lengths of slices; sixteen bits. -/
import Derived.Test.YtpalbaaghplhnaaGreatDoorM2
import Derived.Test.YtpalbaaghplhnaaGreatDoorEM3Z
set_option linter.unusedVariables false
set_option linter.unusedSimpArgs false
namespace Go.Ab
set_option maxRecDepth 100000 in
theorem p5 (p q : List Tm) (hp : p.length < 9223372036854775808) (hq : q.length < 9223372036854775808) (lo hi lo' hi' : Int) (s : List Int) (hs : i8s s) (hsl : s.length < 9223372036854775808) (x y : Int) (hx : 0 ≤ x ∧ x ≤ 65535) (hy : 0 ≤ y ∧ y ≤ 65535) (d : Int) :
  (CW GZ LZ).p (.func 5) [.agg [.slice .any (p.map Tm.cs), .int .i64 lo, .int .i64 hi, .slice .any (q.map Tm.cs), .int .i64 lo', .int .i64 hi', .slice .any (s.map ic), .int .u16 x, .int .u16 y], .int .u8 d] = some (.bool true) := by
 obtain ⟨a, b, ga, gb, hab⟩ := p11 p q hp hq lo hi lo' hi' (s.map ic) x y
 have h := zkg (zlV s)
 have ba := vat_b ga s hx
 have bb := vat_b gb s hy
 have va := p39 a ga s hs hsl x hx
 have vb := p39 b gb s hs hsl y hy
 generalize vat a s x = P at *
 generalize vat b s y = Q at *
 change lin (mono (wpt s)) a.p + a.r.lo ≤ P ∧ P ≤ lin (mono (wpt s)) a.p + a.r.hi at ba
 change lin (mono (wpt s)) b.p + b.r.lo ≤ Q ∧ Q ≤ lin (mono (wpt s)) b.p + b.r.hi at bb
 refine zE (h := []) ?_ rfl
 rw [e5]
 refine (zaj p10 _).trans ?_
 refine (eTwoM hab _).trans ?_
 refine (zaj (p38 _ _) _).trans ?_
 cases w1 : a.r.isW
 ·refine (cF rfl _ _).trans ?_
  refine (zaj (p38 _ _) _).trans ?_
  cases w2 : b.r.isW
  ·refine (cF rfl _ _).trans ?_
   refine (zgp va _).trans ?_
   refine (zgp vb _).trans ?_
   refine (zaj (p40 P) _).trans ?_
   by_cases mp : -536870912 ≤ P ∧ P ≤ 536870912
   ·refine (cF (by rw [decide_eq_true mp]; rfl) _ _).trans ?_
    refine (zaj (p40 Q) _).trans ?_
    by_cases mq : -536870912 ≤ Q ∧ Q ≤ 536870912
    ·refine (cF (by rw [decide_eq_true mq]; rfl) _ _).trans ?_
     refine (cT rfl _ _).trans ?_
     have hPQ : zce (P * Q) := zbG (x := P) (y := Q) (by unfold zz; omega) (by unfold zz; omega)
     obtain ⟨s1, s2⟩ := hPQ
     rw [w64 (x := P + Q) (by omega) (by omega), w64 (x := P - Q) (by omega) (by omega), w64 (x := (P + Q) * 65536) (by omega) (by omega), w64 (x := (P - Q) * 65536) (by omega) (by omega), w64 (x := P * Q) (by omega) (by omega)]
     have h1 : hv (mono (wpt s)) (zhW a b) ((P + Q) * 65536) := by
      have := zps h ga gb (zm0 ba.1 ba.2) (zm0 bb.1 bb.2)
      rwa [show 65536 * P + 65536 * Q = (P + Q) * 65536 by omega] at this
     have h2 : hv (mono (wpt s)) (zkh a b) ((P - Q) * 65536) := by
      have := zt7 h ga gb (zm0 ba.1 ba.2) (zm0 bb.1 bb.2)
      rwa [show 65536 * P - 65536 * Q = (P - Q) * 65536 by omega] at this
     have h3 := zt8 h ga gb ba.1 ba.2 bb.1 bb.2 (IntKind.wrap .i64 (Int.tmod d 7))
     refine (eT (p16 a b ga gb) _).trans ?_
     refine (zaj (zkl (zkj ga gb) hs hsl h1) _).trans ?_
     refine (cT rfl _ _).trans ?_
     refine (eT (p18 a b ga gb) _).trans ?_
     refine (zaj (zkl (zoq ga gb) hs hsl h2) _).trans ?_
     refine (cT rfl _ _).trans ?_
     refine (eT (p22 a b ga gb _) _).trans ?_
     refine (zaj (zkl (zkk ga gb _) hs hsl h3) _).trans ?_
     rfl
    ·exact cT (by rw [decide_eq_false mq]; rfl) _ _
   ·exact cT (by rw [decide_eq_false mp]; rfl) _ _
  ·exact cT rfl _ _
 ·exact cT rfl _ _
end Go.Ab
