/- The statement that the operations on models agree with the reference's answers true; conditions: bytes; lengths of slices. -/
import Derived.Test.YtpalbaaghplhnaaGreatDoorM2
import Derived.Test.YtpalbaaghplhnaaGreatDoorEM1Z
set_option linter.unusedVariables false
set_option linter.unusedSimpArgs false
namespace Go.Ab
theorem zfR {m : TM} (g : m.good) : (CW GZ LZ).p (.func 15) [.agg [.slice .any (m.p.map Tm.cs), .int .i64 m.r.lo, .int .i64 m.r.hi], .agg [.slice .any (m.p.map Tm.cs), .int .i64 m.r.lo, .int .i64 m.r.hi]] = some (.bool true) := zfO rfl g.pol.ok (by have := g.pol.ln; omega)
set_option maxRecDepth 100000 in
theorem p3 (p q : List Tm) (op : oks p) (hp : p.length < 9223372036854775808) (hq : q.length < 9223372036854775808) (lo hi lo' hi' : Int) (s : List (List V)) (x y d c1 c2 : Int) :
  (CW GZ LZ).p (.func 3) [.agg [.slice .any (p.map Tm.cs), .int .i64 lo, .int .i64 hi, .slice .any (q.map Tm.cs), .int .i64 lo', .int .i64 hi', .slice .any s, .int .u16 x, .int .u16 y], .int .u8 d, .agg [.int .i64 c1, .int .i64 c2]] = some (.bool true) := by
 obtain ⟨a, b, ga, gb, hab⟩ := p11 p q hp hq lo hi lo' hi' s x y
 obtain ⟨k, vk, hk⟩ := p12 c1 c2
 refine zE (h := []) ?_ rfl
 rw [e3]
 refine (zad p10 _).trans ?_
 refine (zqQ hab _).trans ?_
 rw [List.length_map]
 by_cases hl : ((p.length : Nat) : Int) > 120
 ·exact cT (decide_eq_true hl) _ _
 ·have hf : few p := by unfold few; omega
  generalize IntKind.wrap .i64 (Int.tmod d 7) = D
  refine (cF (decide_eq_false hl) _ _).trans ?_
  refine (zaL hk _).trans ?_
  refine (cT rfl _ _).trans ?_
  refine (zad (p13 ⟨p, ⟨lo, hi⟩⟩ op hf) _).trans ?_
  refine (zad (p14 ⟨p, ⟨lo, hi⟩⟩ op hf) _).trans ?_
  refine (cT (beq_self_eq_true _) _ _).trans ?_
  refine (eT (p16 a b ga gb) _).trans ?_
  refine (eT (p17 a b ga gb) _).trans ?_
  refine (zad (zfR (zev ga gb)) _).trans ?_
  refine (cT rfl _ _).trans ?_
  refine (eT (p18 a b ga gb) _).trans ?_
  refine (eT (p19 a b ga gb) _).trans ?_
  refine (zad (zfR (zic ga gb)) _).trans ?_
  refine (cT rfl _ _).trans ?_
  refine (eT (p20 a ga) _).trans ?_
  refine (eT (p21 a ga) _).trans ?_
  refine (zad (zfR (zbJ ga)) _).trans ?_
  refine (cT rfl _ _).trans ?_
  refine (eT (p22 a b ga gb _) _).trans ?_
  refine (eT (p23 a b ga gb _) _).trans ?_
  refine (zad (zfR (zgI ga gb _)) _).trans ?_
  refine (cT rfl _ _).trans ?_
  refine (eT (p24 a ga k vk) _).trans ?_
  refine (eT (p25 a ga k vk) _).trans ?_
  refine (zad (zfR (zgI ga (zf8 vk) 6)) _).trans ?_
  refine (cT rfl _ _).trans ?_
  refine (eT (p26 a ga _) _).trans ?_
  refine (eT (p27 a ga _) _).trans ?_
  refine (zad (zfR (zqK ga _)) _).trans ?_
  refine (cT rfl _ _).trans ?_
  refine (zaL (p28 a ga) _).trans ?_
  refine (zaL (p29 a ga) _).trans ?_
  simp
end Go.Ab
