/- The statement on truncation answers true; conditions: lengths of slices; sixteen bits; a byte. -/
import Derived.Test.YtpalbaaghplhnaaGreatDoorTM5Z
import Derived.Test.YtpalbaaghplhnaaGreatDoorEM6Z
set_option linter.unusedVariables false
set_option linter.unusedSimpArgs false
namespace Go.Ab
theorem dg_b {d : Int} (h : 0 ≤ d ∧ d ≤ 255) : 0 ≤ IntKind.wrap .i64 (Int.tmod d 7) ∧ IntKind.wrap .i64 (Int.tmod d 7) ≤ 6 := by
 rw [Int.tmod_eq_emod_of_nonneg h.1, w64 (by omega) (by omega)]; omega
set_option maxRecDepth 100000 in
theorem p8 (p q : List Tm) (hp : p.length < 9223372036854775808) (hq : q.length < 9223372036854775808) (lo hi lo' hi' : Int) (s : List Int) (hs : i8s s) (hsl : s.length < 9223372036854775808) (x y : Int) (hx : 0 ≤ x ∧ x ≤ 65535) (d : Int) (hd : 0 ≤ d ∧ d ≤ 255) :
  (CW GZ LZ).p (.func 8) [.agg [.slice .any (p.map Tm.cs), .int .i64 lo, .int .i64 hi, .slice .any (q.map Tm.cs), .int .i64 lo', .int .i64 hi', .slice .any (s.map ic), .int .u16 x, .int .u16 y], .int .u8 d] = some (.bool true) := by
 obtain ⟨a, b, ga, gb, hab⟩ := p11 p q hp hq lo hi lo' hi' (s.map ic) x y
 have h := zh8 (zjC s)
 have ba := vat_b ga s hx
 have va := p39 a ga s hs hsl x hx
 have b2 := cv_b ga.pol s
 have ⟨v1, v2, v3, _⟩ := ga.va
 have wP : IntKind.wrap .i64 (vat a s x * 65536) = vat a s x * 65536 := w64 (by omega) (by omega)
 generalize vat a s x = P at *
 change lin (mono (wpt s)) a.p + a.r.lo ≤ P ∧ P ≤ lin (mono (wpt s)) a.p + a.r.hi at ba
 have db := dg_b hd
 generalize hD : IntKind.wrap .i64 (Int.tmod d 7) = D at *
 have gt := zic ga D
 have hv1 : hv (mono (wpt s)) (zby a D) (P * 65536) := by
  have := zsu h (hv_of ba.1 ba.2) D
  rwa [Int.mul_comm] at this
 have dl : zgx (zby a D).p ≤ D := zpR db.1 zka
 have hW : a.r.isW = true → (zby a D).r.isW = true := fun w => by
  unfold zby
  rw [nrm_r]
  unfold Iv.add
  rw [w, Bool.true_or, if_pos rfl]; rfl
 refine zE (h := []) ?_ rfl
 rw [e8, hD]
 refine (zac p10 _).trans ?_
 refine (zqN hab _).trans ?_
 refine (eT (p26 a ga D) _).trans ?_
 refine (zac (p38 _ _) _).trans ?_
 cases w : a.r.isW
 ·refine (cF rfl _ _).trans ?_
  refine (cT rfl _ _).trans ?_
  refine (zac (p14 (zby a D) gt.pol.ok (zjF gt)) _).trans ?_
  refine (cT (ze1 gt) _ _).trans ?_
  refine (zfN (p45 (zby a D).p gt.pol.ok (zjF gt)) _).trans ?_
  refine (cT (decide_eq_true dl) _ _).trans ?_
  refine (zfN va _).trans ?_
  rw [wP]
  refine (zac (ztO gt hs hsl hv1) _).trans ?_
  refine (cT rfl _ _).trans ?_
  refine (eT (p26 (zby a D) gt D) _).trans ?_
  refine (zac (zgU (zha ga) (by rw [zha ga]; exact gt.pol.ok) (by rw [zha ga]; have := gt.pol.ln; omega)) _).trans ?_
  refine (cT rfl _ _).trans ?_
  refine (eT (p26 a ga 6) _).trans ?_
  refine (zac (zgU (zi3 ga) (by rw [zi3 ga]; exact ga.pol.ok) (by rw [zi3 ga]; have := ga.pol.ln; omega)) _).trans ?_
  rfl
 ·refine (cT rfl _ _).trans ?_
  refine (cT rfl _ _).trans ?_
  refine (zac (p44 _ _) _).trans ?_
  show some (V.bool (zby a D).r.isW, []) = _
  rw [hW w]
end Go.Ab
