/- The statement on the laws of sums and products answers true; conditions: lengths of slices. -/
import Derived.Test.YtpalbaaghplhnaaGreatDoorTM5Z
import Derived.Test.YtpalbaaghplhnaaGreatDoorEM7Z
set_option linter.unusedVariables false
set_option linter.unusedSimpArgs false
namespace Go.Ab
set_option maxRecDepth 100000 in
theorem p9 (p q : List Tm) (hp : p.length < 9223372036854775808) (hq : q.length < 9223372036854775808) (lo hi lo' hi' : Int) (s : List (List V)) (x y : Int) :
  (CW GZ LZ).p (.func 9) [.agg [.slice .any (p.map Tm.cs), .int .i64 lo, .int .i64 hi, .slice .any (q.map Tm.cs), .int .i64 lo', .int .i64 hi', .slice .any s, .int .u16 x, .int .u16 y]] = some (.bool true) := by
 obtain ⟨a, b, ga, gb, hab⟩ := p11 p q hp hq lo hi lo' hi' s x y
 have gs := zic ga ga
 have z8 : i8s [0, 0, 0, 0, 0, 0] := fun z hz => by
  simp only [List.mem_cons, List.not_mem_nil, or_false, or_self] at hz
  rw [hz]; decide
 have h := zib (zjB [0, 0, 0, 0, 0, 0])
 refine zE (h := []) ?_ rfl
 rw [e9]
 refine (zad p10 _).trans ?_
 refine (zqQ hab _).trans ?_
 refine (eT (p18 a a ga ga) _).trans ?_
 refine (eT (p16 a b ga gb) _).trans ?_
 refine (eT (p16 b a gb ga) _).trans ?_
 refine (zad (zfO (zsv ga gb) (zev ga gb).pol.ok (by have := (zev ga gb).pol.ln; omega)) _).trans ?_
 refine (cNT _ _).trans ?_
 refine (eT (p20 a ga) _).trans ?_
 refine (eT (p20 (zci a) (zbJ ga)) _).trans ?_
 refine (zad (zfO (zsw ga) (zbJ (zbJ ga)).pol.ok (by have := (zbJ (zbJ ga)).pol.ln; omega)) _).trans ?_
 refine (cNT _ _).trans ?_
 refine (eT (p18 a b ga gb) _).trans ?_
 refine (eT (p20 b gb) _).trans ?_
 refine (eT (p16 a (zci b) ga (zbJ gb)) _).trans ?_
 refine (zad (zfO (a := zhd a b) (b := ze4 a (zci b)) rfl (zic ga gb).pol.ok (by have := (zic ga gb).pol.ln; omega)) _).trans ?_
 refine (cNT _ _).trans ?_
 refine (eT (p22 a b ga gb 4) _).trans ?_
 refine (eT (p22 b a gb ga 4) _).trans ?_
 refine (cT rfl _ _).trans ?_
 refine (cT (by rw [sub_self]; rfl) _ _).trans ?_
 refine (zad (ztQ gs z8 (by decide) (sub_zero h ga)) _).trans ?_
 refine (cT rfl _ _).trans ?_
 have gm := zgI ga gb 4
 have gn := zgI gb ga 4
 obtain ⟨v, e1, e2⟩ := p15 (zdp a b 4) (zdp b a 4) gm.pol.ok gn.pol.ok (by have := gm.pol.ln; omega)
 refine (zad e1 _).trans ?_
 cases v
 ·refine (cF rfl _ _).trans ?_
  refine (zad (p44 _ _) _).trans ?_
  cases w1 : (zdp a b 4).r.isW
  ·refine (cF rfl _ _).trans ?_
   refine (zad (p44 _ _) _).trans ?_
   cases w2 : (zdp b a 4).r.isW
   ·have := e2.2 (zsz ga gb 4 w1 w2)
    cases this
   ·rfl
  ·exact cT rfl _ _
 ·exact cT rfl _ _
end Go.Ab
