/- The statement on products with intervals answers true, where the sanity check does; conditions: lengths of slices; sixteen bits. -/
import Derived.Test.YtpalbaaghplhnaaGreatDoorM2
import Derived.Test.YtpalbaaghplhnaaGreatDoorEM4Z
set_option linter.unusedVariables false
set_option linter.unusedSimpArgs false
namespace Go.Ab
set_option maxRecDepth 100000 in
theorem p6 (p q : List Tm) (hp : p.length < 9223372036854775808) (hq : q.length < 9223372036854775808) (lo hi lo' hi' : Int) (s : List Int) (hs : i8s s) (hsl : s.length < 9223372036854775808) (x y : Int) (hx : 0 ≤ x ∧ x ≤ 65535) (hy : 0 ≤ y ∧ y ≤ 65535) (c1 c2 : Int) :
  (CW GZ LZ).p (.func 6) [.agg [.slice .any (p.map Tm.cs), .int .i64 lo, .int .i64 hi, .slice .any (q.map Tm.cs), .int .i64 lo', .int .i64 hi', .slice .any (s.map ic), .int .u16 x, .int .u16 y], .agg [.int .i64 c1, .int .i64 c2]] = some (.bool true) := by
 obtain ⟨a, b, ga, gb, hab⟩ := p11 p q hp hq lo hi lo' hi' (s.map ic) x y
 obtain ⟨k, vk, hk⟩ := p12 c1 c2
 have h := zkf (zlR s)
 have ba := vat_b ga s hx
 have va := p39 a ga s hs hsl x hx
 generalize vat a s x = P at *
 change lin (mono (wpt s)) a.p + a.r.lo ≤ P ∧ P ≤ lin (mono (wpt s)) a.p + a.r.hi at ba
 have ⟨v1, v2, v3, _⟩ := vk
 have f := zom (d := k.hi - k.lo) (by omega) hy
 have g1 : 0 ≤ (k.hi - k.lo) * y := Int.mul_nonneg (by omega) hy.1
 have g2 : (k.hi - k.lo) * y ≤ (k.hi - k.lo) * 65535 := Int.mul_le_mul_of_nonneg_left hy.2 (by omega)
 have wq : IntKind.wrap .i64 (k.lo + (IntKind.wrap .i64 (Int.tdiv (IntKind.wrap .i64 ((IntKind.wrap .i64 (k.hi - k.lo)) * (IntKind.wrap .i64 y))) 65535))) = k.lo + (k.hi - k.lo) * y / 65535 := by
  rw [w64 (x := k.hi - k.lo) (by omega) (by omega), w64 (x := y) (by omega) (by omega), w64 (x := (k.hi - k.lo) * y) (by omega) (by omega), Int.tdiv_eq_ediv_of_nonneg g1, w64 (x := (k.hi - k.lo) * y / 65535) (by omega) (by omega), w64 (by omega) (by omega)]
 generalize hQ : k.lo + (k.hi - k.lo) * y / 65535 = Q at *
 have q1 : k.lo ≤ Q := by omega
 have q2 : Q ≤ k.hi := by omega
 have v65 : (⟨65536, 65536⟩ : Iv).valid := ⟨by decide, by decide, by decide, .inr ⟨⟨by decide, by decide⟩, by decide, by decide⟩⟩
 refine zE (h := []) ?_ rfl
 rw [e6]
 refine (zam p10 _).trans ?_
 refine (eTwoM hab _).trans ?_
 refine (zaJ hk _).trans ?_
 refine (zam (p38 _ _) _).trans ?_
 cases w1 : a.r.isW
 ·refine (cF rfl _ _).trans ?_
  refine (zam (p38 _ _) _).trans ?_
  cases w2 : k.isW
  ·refine (cF rfl _ _).trans ?_
   refine (zgR va _).trans ?_
   refine (zam (p40 P) _).trans ?_
   by_cases mp : -536870912 ≤ P ∧ P ≤ 536870912
   ·refine (cF (by rw [decide_eq_true mp]; rfl) _ _).trans ?_
    rw [wq]
    refine (zam (p40 Q) _).trans ?_
    by_cases mq : -536870912 ≤ Q ∧ Q ≤ 536870912
    ·refine (cF (by rw [decide_eq_true mq]; rfl) _ _).trans ?_
     refine (cT rfl _ _).trans ?_
     obtain ⟨s1, s2⟩ := zbF (x := P) (y := Q) (by unfold zy; omega) (by unfold zy; omega)
     rw [w64 (x := P * Q) (by omega) (by omega), w64 (x := P * 65536) (by omega) (by omega)]
     have c1 := zlh h vk w2 q1 q2
     have c2 := zlh h v65 rfl (x := 65536) (Int.le_refl _) (Int.le_refl _)
     have h1 := zpq h ga (zcN vk) ba.1 ba.2 c1.1 c1.2.1 6
     have h2 := zpq h ga (zcN v65) ba.1 ba.2 c2.1 c2.2.1 6
     refine (eT (p24 a ga k vk) _).trans ?_
     refine (zam (zon (zhW ga (zcN vk) 6) hs hsl h1) _).trans ?_
     refine (cT rfl _ _).trans ?_
     refine (eIv (p42 1 1 (by omega) (by omega)) _).trans ?_
     refine (eT (p24 a ga ⟨65536, 65536⟩ v65) _).trans ?_
     refine (zam (zon (zhW ga (zcN v65) 6) hs hsl h2) _).trans ?_
     rfl
    ·exact cT (by rw [decide_eq_false mq]; rfl) _ _
   ·exact cT (by rw [decide_eq_false mp]; rfl) _ _
  ·exact cT rfl _ _
 ·exact cT rfl _ _
end Go.Ab
