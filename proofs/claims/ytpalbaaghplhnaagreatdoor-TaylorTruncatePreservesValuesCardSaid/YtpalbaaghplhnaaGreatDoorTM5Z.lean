/- The statement on ranges answers true; conditions: lengths of slices; sixteen bits. -/
import Derived.Test.YtpalbaaghplhnaaGreatDoorTLZ
import Derived.Test.YtpalbaaghplhnaaGreatDoorEM5Z
set_option linter.unusedVariables false
set_option linter.unusedSimpArgs false
namespace Go.Ab
theorem zjF {m : TM} (g : m.good) : few m.p := by have := g.pol.ln; unfold few; omega
set_option maxRecDepth 100000 in
theorem p7 (p q : List Tm) (hp : p.length < 9223372036854775808) (hq : q.length < 9223372036854775808) (lo hi lo' hi' : Int) (s : List Int) (hs : i8s s) (hsl : s.length < 9223372036854775808) (x y : Int) (hx : 0 ≤ x ∧ x ≤ 65535) :
  (CW GZ LZ).p (.func 7) [.agg [.slice .any (p.map Tm.cs), .int .i64 lo, .int .i64 hi, .slice .any (q.map Tm.cs), .int .i64 lo', .int .i64 hi', .slice .any (s.map ic), .int .u16 x, .int .u16 y]] = some (.bool true) := by
 obtain ⟨a, b, ga, gb, hab⟩ := p11 p q hp hq lo hi lo' hi' (s.map ic) x y
 have h := zh8 (zjC s)
 have ba := vat_b ga s hx
 have va := p39 a ga s hs hsl x hx
 generalize vat a s x = P at *
 change lin (mono (wpt s)) a.p + a.r.lo ≤ P ∧ P ≤ lin (mono (wpt s)) a.p + a.r.hi at ba
 have gm := zkG ga gb 3
 have r1 := zqL h ba.1 ba.2
 have r2 := ztZ ga ba.1 ba.2
 have hW1 : a.r.isW = true → (zeZ a).isW = true := fun w => zsK w
 have hW2 : a.r.isW = true → (zfu a (zad s)).isW = true := fun w => zsK w
 have e1 := p28 a ga
 have e2 := p36 a ga (zad s) (zgD s) (by rw [zie]; decide)
 generalize zeZ a = I1 at *
 generalize zfu a (zad s) = I2 at *
 refine zE (h := []) ?_ rfl
 rw [e7]
 refine (zac p10 _).trans ?_
 refine (zqN hab _).trans ?_
 refine (zaI e1 _).trans ?_
 refine (zf0 (p43 s hs hsl) _).trans ?_
 refine (zaI e2 _).trans ?_
 refine (eT (p22 a b ga gb 3) _).trans ?_
 refine (zac (p13 (zg9 a b 3) gm.pol.ok (zjF gm)) _).trans ?_
 rw [ze1 gm]
 refine (cNT _ _).trans ?_
 refine (zac (p14 (zg9 a b 3) gm.pol.ok (zjF gm)) _).trans ?_
 rw [ze1 gm]
 refine (cNT _ _).trans ?_
 refine (eT (p16 a b ga gb) _).trans ?_
 refine (zac (p14 (zg8 a b) (zgC ga gb).pol.ok (zjF (zgC ga gb))) _).trans ?_
 rw [ze1 (zgC ga gb)]
 refine (cNT _ _).trans ?_
 refine (eT (p20 a ga) _).trans ?_
 refine (zac (p14 (zc4 a) (zdj ga).pol.ok (zjF (zdj ga))) _).trans ?_
 rw [ze1 (zdj ga)]
 refine (cNT _ _).trans ?_
 refine (zac (p38 _ _) _).trans ?_
 cases w : a.r.isW
 ·refine (cF rfl _ _).trans ?_
  refine (zfN va _).trans ?_
  refine (cT rfl _ _).trans ?_
  have fin : ∀ k : Bool → Option (V × List Ob), (∀ v, k v = cond v (some (.bool true, [])) (cond (decide (I2.lo ≤ P)) (some (.bool (decide (P ≤ I2.hi)), [])) (some (.bool false, [])))) → k I2.isW = some (.bool true, []) := fun k hk => by
   rw [hk]
   cases w2 : I2.isW
   ·obtain ⟨q1, q2⟩ := r2 w2
    rw [decide_eq_true q1, decide_eq_true q2]; rfl
   ·rfl
  refine (zac (p44 _ _) _).trans ?_
  cases w1 : I1.isW
  ·obtain ⟨q1, q2⟩ := r1 w1
   refine (cF rfl _ _).trans ?_
   refine (cT (decide_eq_true q1) _ _).trans ?_
   refine (cT (decide_eq_true q2) _ _).trans ?_
   refine (zac (p44 _ _) _).trans ?_
   exact fin (fun v => cond v _ _) fun v => rfl
  ·refine (cT rfl _ _).trans ?_
   refine (zac (p44 _ _) _).trans ?_
   exact fin (fun v => cond v _ _) fun v => rfl
 ·refine (cT rfl _ _).trans ?_
  refine (cT rfl _ _).trans ?_
  refine (zac (p44 _ _) _).trans ?_
  refine (cT (hW1 w) _ _).trans ?_
  refine (zac (p44 _ _) _).trans ?_
  show some (V.bool I2.isW, []) = _
  rw [hW2 w]
end Go.Ab
