/- The statement on ranges answers true; conditions: lengths of slices; sixteen bits. -/
import Derived.Test.YtpalbaaghplhnaaGreatDoorTLZ
import Derived.Test.YtpalbaaghplhnaaGreatDoorEM5Z
set_option linter.unusedVariables false
set_option linter.unusedSimpArgs false
namespace Go.Ab
theorem znj {m : TM} (g : m.good) : few m.p := by have := g.pol.ln; unfold few; omega
set_option maxRecDepth 100000 in
theorem p7 (p q : List Tm) (hp : p.length < 9223372036854775808) (hq : q.length < 9223372036854775808) (lo hi lo' hi' : Int) (s : List Int) (hs : i8s s) (hsl : s.length < 9223372036854775808) (x y : Int) (hx : 0 ≤ x ∧ x ≤ 65535) :
  (CW GZ LZ).p (.func 7) [.agg [.slice .any (p.map Tm.cs), .int .i64 lo, .int .i64 hi, .slice .any (q.map Tm.cs), .int .i64 lo', .int .i64 hi', .slice .any (s.map ic), .int .u16 x, .int .u16 y]] = some (.bool true) := by
 obtain ⟨a, b, ga, gb, hab⟩ := p11 p q hp hq lo hi lo' hi' (s.map ic) x y
 have h := zib (zjB s)
 have ba := vat_b ga s hx
 have va := p39 a ga s hs hsl x hx
 generalize vat a s x = P at *
 change lin (mono (wpt s)) a.p + a.r.lo ≤ P ∧ P ≤ lin (mono (wpt s)) a.p + a.r.hi at ba
 have gm := zgI ga gb 3
 have r1 := zqJ h ba.1 ba.2
 have r2 := zt0 ga ba.1 ba.2
 have hW1 : a.r.isW = true → (ze5 a).isW = true := fun w => zsN w
 have hW2 : a.r.isW = true → (zfz a (zae s)).isW = true := fun w => zsN w
 have e1 := p28 a ga
 have e2 := p36 a ga (zae s) (zgJ s) (by rw [zif]; decide)
 generalize ze5 a = I1 at *
 generalize zfz a (zae s) = I2 at *
 refine zE (h := []) ?_ rfl
 rw [e7]
 refine (zad p10 _).trans ?_
 refine (zqQ hab _).trans ?_
 refine (zaL e1 _).trans ?_
 refine (zf6 (p43 s hs hsl) _).trans ?_
 refine (zaL e2 _).trans ?_
 refine (eT (p22 a b ga gb 3) _).trans ?_
 refine (zad (p13 (zdp a b 3) gm.pol.ok (znj gm)) _).trans ?_
 rw [zga gm]
 refine (cNT _ _).trans ?_
 refine (zad (p14 (zdp a b 3) gm.pol.ok (znj gm)) _).trans ?_
 rw [zga gm]
 refine (cNT _ _).trans ?_
 refine (eT (p16 a b ga gb) _).trans ?_
 refine (zad (p14 (ze4 a b) (zev ga gb).pol.ok (znj (zev ga gb))) _).trans ?_
 rw [zga (zev ga gb)]
 refine (cNT _ _).trans ?_
 refine (eT (p20 a ga) _).trans ?_
 refine (zad (p14 (zci a) (zbJ ga).pol.ok (znj (zbJ ga))) _).trans ?_
 rw [zga (zbJ ga)]
 refine (cNT _ _).trans ?_
 refine (zad (p38 _ _) _).trans ?_
 cases w : a.r.isW
 ·refine (cF rfl _ _).trans ?_
  refine (zg9 va _).trans ?_
  refine (cT rfl _ _).trans ?_
  have fin : ∀ k : Bool → Option (V × List Ob), (∀ v, k v = cond v (some (.bool true, [])) (cond (decide (I2.lo ≤ P)) (some (.bool (decide (P ≤ I2.hi)), [])) (some (.bool false, [])))) → k I2.isW = some (.bool true, []) := fun k hk => by
   rw [hk]
   cases w2 : I2.isW
   ·obtain ⟨q1, q2⟩ := r2 w2
    rw [decide_eq_true q1, decide_eq_true q2]; rfl
   ·rfl
  refine (zad (p44 _ _) _).trans ?_
  cases w1 : I1.isW
  ·obtain ⟨q1, q2⟩ := r1 w1
   refine (cF rfl _ _).trans ?_
   refine (cT (decide_eq_true q1) _ _).trans ?_
   refine (cT (decide_eq_true q2) _ _).trans ?_
   refine (zad (p44 _ _) _).trans ?_
   exact fin (fun v => cond v _ _) fun v => rfl
  ·refine (cT rfl _ _).trans ?_
   refine (zad (p44 _ _) _).trans ?_
   exact fin (fun v => cond v _ _) fun v => rfl
 ·refine (cT rfl _ _).trans ?_
  refine (cT rfl _ _).trans ?_
  refine (zad (p44 _ _) _).trans ?_
  refine (cT (hW1 w) _ _).trans ?_
  refine (zad (p44 _ _) _).trans ?_
  show some (V.bool I2.isW, []) = _
  rw [hW2 w]
end Go.Ab
