/- Small functions of taylor and of its reference; conditions: valid intervals. -/
import Derived.KernelRfl
import Derived.Test.YtpalbaaghplhnaaGreatDoorM1
import Derived.Test.YtpalbaaghplhnaaGreatDoorET
import Derived.Test.YtpalbaaghplhnaaGreatDoorP0
import Derived.Test.YtpalbaaghplhnaaGreatDoorQ2
set_option linter.unusedVariables false
set_option linter.unusedSimpArgs false
namespace Go.Ab
theorem zaL {R : Type} {x : Option V} {v : Iv} (h : x = some (.agg v.c)) (k : Int → Int → Option R) :
  (x.bind fun y => (zi y).bind fun c => (zg c).bind fun d => (asInt .i64 d.1).bind fun lo => (zg d.2).bind fun e => (asInt .i64 e.1).bind fun hi => (zh e.2).bind fun _ => k lo hi) = k v.lo v.hi := eIv h k
theorem eT {R : Type} {x : Option V} {m : TM} (h : x = some (.agg m.cs)) (k : List (List V) → Int → Int → Option R) :
  (x.bind fun y => (zi y).bind fun c => (zg c).bind fun d => (zl d.1).bind fun r => (zg d.2).bind fun e => (asInt .i64 e.1).bind fun lo => (zg e.2).bind fun f => (asInt .i64 f.1).bind fun hi => (zh f.2).bind fun _ => k r lo hi) = k (m.p.map Tm.cs) m.r.lo m.r.hi := by subst h; rfl
theorem p73 (a : Iv) (h : a.valid) : (CW GZ LZ).p (.func 73) [.agg [.int .i64 a.lo, .int .i64 a.hi]] = some (.int .i64 (mid a)) := by
 refine zE (h := []) ?_ rfl
 obtain ⟨h1, h2, h3, _⟩ := h
 rw [e73, w64 (by omega) (by omega), Int.fdiv_eq_ediv_of_nonneg _ (by decide)]; rfl
theorem p61 (a : Iv) (h : a.valid) : (CW GZ LZ).p (.func 61) [.agg [.int .i64 a.lo, .int .i64 a.hi]] = some (.agg a.neg.c) := by
 refine zE (h := []) ?_ rfl
 obtain ⟨h1, h2, h3, _⟩ := h
 rw [e61, w64 (by omega) (by omega), w64 (by omega) (by omega), Int.zero_sub, Int.zero_sub]; rfl
theorem p62 : (CW GZ LZ).p (.func 62) [] = some (.agg (⟨[], Iv.whole⟩ : TM).cs) := by
 refine zE (h := []) ?_ rfl
 rw [e62]
 refine (eIv p87 _).trans ?_
 rfl
theorem p57 (p : List Tm) (r : Iv) : (CW GZ LZ).p (.func 57) [.slice .any (p.map Tm.cs), .agg [.int .i64 r.lo, .int .i64 r.hi]] = some (.agg (nrm p r).cs) := by
 refine zE (h := []) ?_ rfl
 rw [e57]
 refine (zad (p38 _ _) _).trans ?_
 cases w : r.isW
 ·rw [zfA w]; exact cF rfl _ _
 ·rw [zgY w]; exact cT rfl _ _
theorem zuO (p : List Tm) (l : List Iv) (hv : za1 l) (hl : l.length ≤ 1000) (o : Iv) (ho : o.valid) (i : Nat) (hi : i < l.length) :
  zp GZ LZ (CW GZ LZ) 55 none 3 (zgV (p.map Tm.cs) [] 0 0 o.lo o.hi (l.map Iv.c) ((l.length : Nat) : Int) ((i : Nat) : Int)) = some (.normal, zgV (p.map Tm.cs) [] 0 0 (o.add l[i]).lo (o.add l[i]).hi (l.map Iv.c) ((l.length : Nat) : Int) ((i + 1 : Nat) : Int)) := by
 have hg := zdm Iv.c Iv.c_len l i hi
 have ha := p71 o l[i] ho (hv _ (List.getElem_mem hi))
 have ws := zaV i (by omega)
 rw [e55_3, zba hi]
 refine (cT rfl _ _).trans ?_
 refine (zaC hg _).trans ?_
 iterate 5 refine (zaC rfl _).trans ?_
 refine (zaL ha _).trans ?_
 rw [ws]
theorem p55 (p : List Tm) (a : Iv) (l : List Iv) (va : a.valid) (hv : za1 l) (hl : l.length ≤ 1000) :
  (CW GZ LZ).p (.func 55) [.agg [.slice .any (p.map Tm.cs)], .slice .any ((a :: l).map Iv.c)] = some (.agg (nrm p (l.foldl Iv.add a)).cs) := by
 have h := zj0 (round := zp GZ LZ (CW GZ LZ) 55 none 3) (fun i (o : Iv) => zgV (p.map Tm.cs) [] 0 0 o.lo o.hi (l.map Iv.c) ((l.length : Nat) : Int) ((i : Nat) : Int)) Iv.add (fun o => o.valid) l (id := 0)
  (fun i hi o ho => ⟨zuO p l hv hl o ho i hi, zbo ho (hv _ (List.getElem_mem hi))⟩)
  (fun o ho => by rw [e55_3, za7]; rfl) a va
 have h1 := h.1
 generalize l.foldl Iv.add a = r at *
 refine zE (h := []) ?_ rfl
 have ht : (((a :: l).map Iv.c).take ((a :: l).map Iv.c).length).drop 1 = l.map Iv.c := by rw [List.take_length]; rfl
 have hlm : (((l.map Iv.c).length : Nat) : Int) = ((l.length : Nat) : Int) := by rw [List.length_map]
 rw [e55, ht, zaz, hlm]
 iterate 6 refine (zaC rfl _).trans ?_
 refine (cT (decide_eq_true (by simp)) _ _).trans ?_
 refine (cT rfl _ _).trans ?_
 refine (zZ h1 _).trans ?_
 have g : ∀ t, t = zgV (p.map Tm.cs) [] 0 0 r.lo r.hi (l.map Iv.c) ((l.length : Nat) : Int) ((l.length : Nat) : Int) →
   nth t.t 2 = .box [.slice .any (p.map Tm.cs)] ∧ nth t.t 4 = .box [.slice .any [], .int .i64 0, .int .i64 0] ∧ nth t.t 5 = .box [.int .i64 r.lo, .int .i64 r.hi] ∧ nth t.t 12 = .slice .any (l.map Iv.c) ∧ nth t.t 13 = .int .i64 ((l.length : Nat) : Int) ∧ nth t.t 14 = .int .i64 ((l.length : Nat) : Int) := by
  intro t ht; subst ht
  exact ⟨rfl, rfl, rfl, rfl, rfl, rfl⟩
 obtain ⟨g1, g2, g3, g4, g5, g6⟩ := g _ rfl
 rw [Option.bind_some]
 dsimp only
 rw [g1, g2, g3, g4, g5, g6]
 refine (cT rfl _ _).trans ?_
 iterate 20 refine (zaC rfl _).trans ?_
 refine (zad (p44 _ _) _).trans ?_
 cases w : r.isW
 ·rw [zfA w]; exact cF rfl _ _
 ·rw [zgY w]; exact cT rfl _ _
end Go.Ab
namespace Go.Ab
theorem eP' {R : Type} {x : Option V} {q : List Tm × Iv} (h : x = some (.tuple [.slice .any (q.1.map Tm.cs), .agg q.2.c])) (k : List (List V) → Int → Int → Option R) :
  (x.bind fun y => (zy y).bind fun t => (zg t).bind fun u => (zl u.1).bind fun r => (zg u.2).bind fun v => (zi v.1).bind fun c => (zg c).bind fun d => (asInt .i64 d.1).bind fun lo => (zg d.2).bind fun e => (asInt .i64 e.1).bind fun hi => (zh e.2).bind fun _ => (zh v.2).bind fun _ => k r lo hi) = k (q.1.map Tm.cs) q.2.lo q.2.hi := eP h k
theorem vals1 {a : Iv} (h : a.valid) : za1 [a] := fun x hx => by rw [List.mem_singleton.1 hx]; exact h
theorem vals2 {a b : Iv} (h : a.valid) (k : b.valid) : za1 [a, b] := fun x hx => by
 simp only [List.mem_cons, List.not_mem_nil, or_false] at hx
 rcases hx with rfl | rfl <;> assumption
theorem vals3 {a b c : Iv} (h : a.valid) (k : b.valid) (l : c.valid) : za1 [a, b, c] := fun x hx => by
 simp only [List.mem_cons, List.not_mem_nil, or_false] at hx
 rcases hx with rfl | rfl | rfl <;> assumption
theorem p16 (a b : TM) (ga : a.good) (gb : b.good) : (CW GZ LZ).p (.func 16) [.agg [.slice .any (a.p.map Tm.cs), .int .i64 a.r.lo, .int .i64 a.r.hi], .agg [.slice .any (b.p.map Tm.cs), .int .i64 b.r.lo, .int .i64 b.r.hi]] = some (.agg (ze4 a b).cs) := by
 have la := ga.pol.ln
 have lb := gb.pol.ln
 refine zE (h := []) ?_ rfl
 rw [e16]
 refine (eP' (p54 a.p b.p ga.pol.ok gb.pol.ok ga.pol.nm gb.pol.nm (by omega) (by omega)) _).trans ?_
 refine (eT (p55 (zaQ a.p b.p).1 a.r [b.r, (zaQ a.p b.p).2] ga.va (vals2 gb.va (zhx _ _)) (by simp)) _).trans ?_
 rfl
theorem p26 (a : TM) (ga : a.good) (d : Int) : (CW GZ LZ).p (.func 26) [.agg [.slice .any (a.p.map Tm.cs), .int .i64 a.r.lo, .int .i64 a.r.hi], .int .i64 d] = some (.agg (zlz a d).cs) := by
 have la := ga.pol.ln
 refine zE (h := []) ?_ rfl
 rw [e26]
 refine (eP' (p69 a.p d ga.pol.ok (by unfold few; omega)) _).trans ?_
 refine (eT (p55 (zcR a.p d).1 a.r [(zcR a.p d).2] ga.va (vals1 (zkB _ _)) (by simp)) _).trans ?_
 rfl
theorem p28 (a : TM) (ga : a.good) : (CW GZ LZ).p (.func 28) [.agg [.slice .any (a.p.map Tm.cs), .int .i64 a.r.lo, .int .i64 a.r.hi]] = some (.agg (ze5 a).c) := by
 have la := ga.pol.ln
 refine zE (h := []) ?_ rfl
 rw [e28]
 refine (zaL (p65 a.p ga.pol.ok (by unfold few; omega) ga.pol.nm) _).trans ?_
 refine (zaL (p71 (zaP a.p) a.r (zfq ga.pol.nm) ga.va) _).trans ?_
 rfl
theorem p36 (a : TM) (ga : a.good) (b : List Iv) (hb : za1 b) (hl : b.length ≤ 1000000) : (CW GZ LZ).p (.func 36) [.agg [.slice .any (a.p.map Tm.cs), .int .i64 a.r.lo, .int .i64 a.r.hi], .slice .any (b.map Iv.c)] = some (.agg (zfz a b).c) := by
 have la := ga.pol.ln
 refine zE (h := []) ?_ rfl
 rw [e36]
 refine (zaL (p83 a.p ga.pol.ok (by unfold few; omega) b hb hl) _).trans ?_
 refine (zaL (p71 (ze1 b a.p) a.r (zhb b a.p _ (zcT 0)) ga.va) _).trans ?_
 rfl
theorem p22 (a b : TM) (ga : a.good) (gb : b.good) (d : Int) : (CW GZ LZ).p (.func 22) [.agg [.slice .any (a.p.map Tm.cs), .int .i64 a.r.lo, .int .i64 a.r.hi], .agg [.slice .any (b.p.map Tm.cs), .int .i64 b.r.lo, .int .i64 b.r.hi], .int .i64 d] = some (.agg (zdp a b d).cs) := by
 have la := ga.pol.ln
 have lb := gb.pol.ln
 refine zE (h := []) ?_ rfl
 rw [e22]
 refine (zad (p44 _ _) _).trans ?_
 unfold zdp
 cases w1 : a.r.isW
 ·refine (cF rfl _ _).trans ?_
  refine (zad (p44 _ _) _).trans ?_
  cases w2 : b.r.isW
  ·refine (cF rfl _ _).trans ?_
   have va := zoC ga.pol.fi gb.pol.fi d
   refine (eP' (p63 a.p b.p ga.pol.fi la gb.pol.fi lb d) _).trans ?_
   refine (zaL (p65 a.p ga.pol.ok (by unfold few; omega) ga.pol.nm) _).trans ?_
   refine (zaL (p64 (zaP a.p) b.r (zfq ga.pol.nm) gb.va) _).trans ?_
   refine (zaL (p65 b.p gb.pol.ok (by unfold few; omega) gb.pol.nm) _).trans ?_
   refine (zaL (p64 (zaP b.p) a.r (zfq gb.pol.nm) ga.va) _).trans ?_
   refine (zaL (p64 a.r b.r ga.va gb.va) _).trans ?_
   refine (eT (p55 (zcl a.p b.p d).1 (zcl a.p b.p d).2 [(zaP a.p).mul b.r, (zaP b.p).mul a.r, a.r.mul b.r] va (vals3 (zbv _ _) (zbv _ _) (zbv _ _)) (by simp)) _).trans ?_
   rfl
  ·refine (cT rfl _ _).trans ?_
   refine (eT p62 _).trans ?_
   rfl
 ·refine (cT rfl _ _).trans ?_
  refine (eT p62 _).trans ?_
  rfl
theorem p32 (a : Iv) (va : a.valid) : (CW GZ LZ).p (.func 32) [.agg [.int .i64 a.lo, .int .i64 a.hi]] = some (.agg (zdO a).cs) := by
 have hm := zjA va.1
 have ⟨v1, v2, v3, _⟩ := va
 refine zE (h := []) ?_ rfl
 rw [e32]
 refine (zad (p44 _ _) _).trans ?_
 unfold zdO
 cases w1 : a.isW
 ·refine (cF rfl _ _).trans ?_
  refine (zg9 (p73 a va) _).trans ?_
  refine (zf6 (p74 (mid a)) _).trans ?_
  rw [w64 (x := a.lo - mid a) (by omega) (by omega), w64 (x := a.hi - mid a) (by omega) (by omega)]
  refine (zaL (zks _ _) _).trans ?_
  refine (eT (p55 (zaI (mid a)) (Iv.new (a.lo - mid a) (a.hi - mid a)) [] (zcQ (by omega)) (fun x hx => by cases hx) (by simp)) _).trans ?_
  rfl
 ·refine (cT rfl _ _).trans ?_
  refine (eT p62 _).trans ?_
  rfl
theorem p24 (a : TM) (ga : a.good) (c : Iv) (vc : c.valid) : (CW GZ LZ).p (.func 24) [.agg [.slice .any (a.p.map Tm.cs), .int .i64 a.r.lo, .int .i64 a.r.hi], .agg [.int .i64 c.lo, .int .i64 c.hi]] = some (.agg (zqH a c).cs) := by
 refine zE (h := []) ?_ rfl
 rw [e24]
 refine (eT (p32 c vc) _).trans ?_
 refine (eT (p22 a (zdO c) ga (zf8 vc) 6) _).trans ?_
 rfl
theorem tm_ext {a b : TM} (h1 : a.p = b.p) (h2 : a.r = b.r) : a = b := by cases a; cases b; simp only at h1 h2; rw [h1, h2]
theorem p15 (a b : TM) (oa : oks a.p) (ob : oks b.p) (la : a.p.length ≤ 100000) : ∃ v, (CW GZ LZ).p (.func 15) [.agg [.slice .any (a.p.map Tm.cs), .int .i64 a.r.lo, .int .i64 a.r.hi], .agg [.slice .any (b.p.map Tm.cs), .int .i64 b.r.lo, .int .i64 b.r.hi]] = some (.bool v) ∧ (v = true ↔ a = b) := by
 by_cases h : (((a.r.lo == b.r.lo) && ((a.r.hi == b.r.hi) && true)) : Bool) = true
 ·refine ⟨decide (a.p = b.p), zE (h := []) ?_ rfl, ?_⟩
  ·rw [e15]
   refine (cT h _ _).trans ?_
   refine (zad (p53 a.p b.p oa ob la) _).trans ?_
   rfl
  ·simp only [Bool.and_eq_true, beq_iff_eq, and_true] at h
   rw [decide_eq_true_eq]
   have er : a.r = b.r := by
    revert h
    cases a.r; cases b.r
    intro h
    simp only at h
    rw [h.1, h.2]
   exact ⟨fun e => tm_ext e er, fun e => by rw [e]⟩
 ·refine ⟨false, zE (h := []) ?_ rfl, ?_⟩
  ·rw [e15]
   exact cF (by simpa using h) _ _
  ·refine ⟨fun e => (by cases e), fun e => absurd ?_ h⟩
   rw [e]; simp
end Go.Ab
namespace Go.Ab
theorem r5add (a b : List Tm) (oa : oks a) (ob : oks b) (na : zbf a) (nb : zbf b) (la : a.length ≤ 10000) (lb : b.length ≤ 10000) (sb : zas b) :
  (CW GZ LZ).p (.func 56) [.slice .any (a.map Tm.cs), .slice .any (b.map Tm.cs)] = some (.tuple [.slice .any ((zaQ a b).1.map Tm.cs), .agg (zaQ a b).2.c]) := by
 rw [← zum oa ob sb]
 exact p56 a b oa ob na nb la lb
theorem p17 (a b : TM) (ga : a.good) (gb : b.good) : (CW GZ LZ).p (.func 17) [.agg [.slice .any (a.p.map Tm.cs), .int .i64 a.r.lo, .int .i64 a.r.hi], .agg [.slice .any (b.p.map Tm.cs), .int .i64 b.r.lo, .int .i64 b.r.hi]] = some (.agg (ze4 a b).cs) := by
 have la := ga.pol.ln
 have lb := gb.pol.ln
 refine zE (h := []) ?_ rfl
 rw [e17]
 refine (eP' (r5add a.p b.p ga.pol.ok gb.pol.ok ga.pol.nm gb.pol.nm (by omega) (by omega) gb.pol.st) _).trans ?_
 refine (zaL (p58 a.r b.r ga.va gb.va) _).trans ?_
 refine (zaL (p58 (a.r.add b.r) (zaQ a.p b.p).2 (zbo ga.va gb.va) (zhx _ _)) _).trans ?_
 refine (eT (p57 (zaQ a.p b.p).1 _) _).trans ?_
 rfl
theorem p27 (a : TM) (ga : a.good) (d : Int) : (CW GZ LZ).p (.func 27) [.agg [.slice .any (a.p.map Tm.cs), .int .i64 a.r.lo, .int .i64 a.r.hi], .int .i64 d] = some (.agg (zlz a d).cs) := by
 have la := ga.pol.ln
 refine zE (h := []) ?_ rfl
 rw [e27]
 refine (eP' (p70 a.p d ga.pol.ok (by unfold few; omega)) _).trans ?_
 refine (zaL (p58 a.r (zcR a.p d).2 ga.va (zkB _ _)) _).trans ?_
 refine (eT (p57 (zcR a.p d).1 _) _).trans ?_
 rfl
theorem p29 (a : TM) (ga : a.good) : (CW GZ LZ).p (.func 29) [.agg [.slice .any (a.p.map Tm.cs), .int .i64 a.r.lo, .int .i64 a.r.hi]] = some (.agg (ze5 a).c) := by
 have la := ga.pol.ln
 refine zE (h := []) ?_ rfl
 rw [e29]
 refine (zaL (p68 a.p ga.pol.ok (by unfold few; omega) ga.pol.nm) _).trans ?_
 refine (zaL (p58 (zaP a.p) a.r (zfq ga.pol.nm) ga.va) _).trans ?_
 rfl
theorem p37 (a : TM) (ga : a.good) (b : List Iv) (hb : za1 b) : (CW GZ LZ).p (.func 37) [.agg [.slice .any (a.p.map Tm.cs), .int .i64 a.r.lo, .int .i64 a.r.hi], .slice .any (b.map Iv.c)] = some (.agg (zfz a b).c) := by
 have la := ga.pol.ln
 refine zE (h := []) ?_ rfl
 rw [e37]
 refine (zaL (p84 a.p ga.pol.ok (by unfold few; omega) b hb) _).trans ?_
 refine (zaL (p58 (ze1 b a.p) a.r (zhb b a.p _ (zcT 0)) ga.va) _).trans ?_
 rfl
theorem p23 (a b : TM) (ga : a.good) (gb : b.good) (d : Int) : (CW GZ LZ).p (.func 23) [.agg [.slice .any (a.p.map Tm.cs), .int .i64 a.r.lo, .int .i64 a.r.hi], .agg [.slice .any (b.p.map Tm.cs), .int .i64 b.r.lo, .int .i64 b.r.hi], .int .i64 d] = some (.agg (zdp a b d).cs) := by
 have la := ga.pol.ln
 have lb := gb.pol.ln
 refine zE (h := []) ?_ rfl
 rw [e23]
 refine (zad (p38 _ _) _).trans ?_
 unfold zdp
 cases w1 : a.r.isW
 ·refine (cF rfl _ _).trans ?_
  refine (zad (p38 _ _) _).trans ?_
  cases w2 : b.r.isW
  ·refine (cF rfl _ _).trans ?_
   have va := zoC ga.pol.fi gb.pol.fi d
   refine (eP' (p66 a.p b.p ga.pol.fi la gb.pol.fi lb d) _).trans ?_
   refine (zaL (p68 a.p ga.pol.ok (by unfold few; omega) ga.pol.nm) _).trans ?_
   refine (zaL (p67 (zaP a.p) b.r (zfq ga.pol.nm) gb.va) _).trans ?_
   refine (zaL (p58 (zcl a.p b.p d).2 _ va (zbv _ _)) _).trans ?_
   refine (zaL (p68 b.p gb.pol.ok (by unfold few; omega) gb.pol.nm) _).trans ?_
   refine (zaL (p67 (zaP b.p) a.r (zfq gb.pol.nm) ga.va) _).trans ?_
   refine (zaL (p58 ((zcl a.p b.p d).2.add ((zaP a.p).mul b.r)) _ (zbo va (zbv _ _)) (zbv _ _)) _).trans ?_
   refine (zaL (p67 a.r b.r ga.va gb.va) _).trans ?_
   refine (zaL (p58 (((zcl a.p b.p d).2.add ((zaP a.p).mul b.r)).add ((zaP b.p).mul a.r)) _ (zbo (zbo va (zbv _ _)) (zbv _ _)) (zbv _ _)) _).trans ?_
   refine (eT (p57 (zcl a.p b.p d).1 _) _).trans ?_
   rfl
  ·refine (cT rfl _ _).trans ?_
   refine (eIv p48 _).trans ?_
   rfl
 ·refine (cT rfl _ _).trans ?_
  refine (eIv p48 _).trans ?_
  rfl
theorem p76 (a : Iv) (h : a.valid) (hf : (CW GZ LZ).p (.func 103) [.int .i64 (a.lo + a.hi), .int .i64 2] = some (.int .i64 (mid a))) : (CW GZ LZ).p (.func 76) [.agg [.int .i64 a.lo, .int .i64 a.hi]] = some (.int .i64 (mid a)) := by
 obtain ⟨h1, h2, h3, _⟩ := h
 refine zE (h := []) ?_ rfl
 rw [e76, w64 (by omega) (by omega)]
 refine (zg9 hf _).trans ?_
 rfl
def zmc (a : TM) (i : Nat) : St := zh0 (a.p.map Tm.cs) a.r.lo a.r.hi [] 0 0 (((a.p.take i).map ngT).map Tm.cs).length ((i : Nat) : Int) (((a.p.take i).map ngT).map Tm.cs)
theorem zsA (a : TM) (ga : a.good) (i : Nat) (hi : i < a.p.length) : zp GZ LZ (CW GZ LZ) 21 none 3 (zmc a i) = some (.normal, zmc a (i + 1)) := by
 have la := ga.pol.ln
 have hg := zbe a.p i hi
 have hc := ga.pol.nm _ (List.getElem_mem hi)
 unfold zz at hc
 have hr : decide (((((a.p.take i).map ngT).map Tm.cs).length + 1) * 16 ≤ zag) = true := by
  simp only [List.length_map, List.length_take, decide_eq_true_eq]; unfold zag; omega
 have e1 : decide (((i : Nat) : Int) < (((a.p.map Tm.cs).length : Nat) : Int)) = true := by rw [List.length_map]; exact zba hi
 have ws := zaV i (by omega)
 have wn : IntKind.wrap .i64 (0 - a.p[i].c) = -a.p[i].c := by rw [w64 (by omega) (by omega)]; omega
 have ap : List.append (((a.p.take i).map ngT).map Tm.cs) [[.int .i64 (-a.p[i].c), .int .u8 ((a.p[i].e.a : Nat) : Int), .int .u8 ((a.p[i].e.b : Nat) : Int), .int .u8 ((a.p[i].e.c : Nat) : Int), .int .u8 ((a.p[i].e.d : Nat) : Int), .int .u8 ((a.p[i].e.e : Nat) : Int), .int .u8 ((a.p[i].e.f : Nat) : Int)]] = ((a.p.take i ++ [a.p[i]]).map ngT).map Tm.cs := by rw [List.map_append, List.map_append]; rfl
 have aq : (((a.p.take i).map ngT).map Tm.cs).length + 1 = (((a.p.take i ++ [a.p[i]]).map ngT).map Tm.cs).length := by rw [List.map_append, List.map_append, List.length_append]; rfl
 unfold zmc
 rw [e21_3, e1, hg, zb6 hi]
 refine (cT rfl _ _).trans ?_
 iterate 16 refine (zaC rfl _).trans ?_
 refine (cT (decide_eq_true rfl) _ _).trans ?_
 refine (cT hr _ _).trans ?_
 rw [wn, ap, aq, ws]
theorem p21 (a : TM) (ga : a.good) : (CW GZ LZ).p (.func 21) [.agg [.slice .any (a.p.map Tm.cs), .int .i64 a.r.lo, .int .i64 a.r.hi]] = some (.agg (zci a).cs) := by
 have hl := zch (round := zp GZ LZ (CW GZ LZ) 21 none 3) (zmc a) a.p.length (id := 0) (fun i hi => zsA a ga i hi) (by unfold zmc; rw [e21_3, List.length_map, za7]; rfl)
 unfold zmc at hl
 rw [List.take_length] at hl
 have hl' : zal (zp GZ LZ (CW GZ LZ) 21 none 3) (zh0 (a.p.map Tm.cs) a.r.lo a.r.hi [] 0 0 0 0 []) = _ := hl
 clear hl
 have nrm6 := p57 (a.p.map ngT) a.r.neg
 generalize hQ : (a.p.map ngT).map Tm.cs = Q at *
 refine zE (h := [.arr false 7 Q]) ?_ rfl
 rw [e21, zaz]
 refine (zZ hl' _).trans ?_
 have g : ∀ t, t = zh0 (a.p.map Tm.cs) a.r.lo a.r.hi [] 0 0 Q.length ((a.p.length : Nat) : Int) Q →
   nth t.t 1 = .box [.slice .any (a.p.map Tm.cs), .int .i64 a.r.lo, .int .i64 a.r.hi] ∧ nth t.t 2 = .box [.slice .any [], .int .i64 0, .int .i64 0] ∧ nth t.t 3 = .arr 0 Q.length 7 ∧ nth t.t 4 = .int .i64 ((a.p.length : Nat) : Int) ∧ t.h = [.arr true 7 Q] := by
  intro t ht; subst ht
  exact ⟨rfl, rfl, rfl, rfl, rfl⟩
 obtain ⟨g1, g2, g3, g4, g5⟩ := g _ rfl
 have har : zak [.arr true 7 Q] 0 Q.length = some Q := by simp [zak, zav]
 rw [Option.bind_some]
 dsimp only
 rw [g1, g2, g3, g4, g5]
 refine (cT rfl _ _).trans ?_
 iterate 20 refine (zaC rfl _).trans ?_
 refine (zaL (p61 a.r ga.va) _).trans ?_
 refine (zaC har _).trans ?_
 refine (eT nrm6 _).trans ?_
 rfl
theorem p19 (a b : TM) (ga : a.good) (gb : b.good) : (CW GZ LZ).p (.func 19) [.agg [.slice .any (a.p.map Tm.cs), .int .i64 a.r.lo, .int .i64 a.r.hi], .agg [.slice .any (b.p.map Tm.cs), .int .i64 b.r.lo, .int .i64 b.r.hi]] = some (.agg (zhd a b).cs) := by
 refine zE (h := []) ?_ rfl
 rw [e19]
 refine (eT (p21 b gb) _).trans ?_
 refine (eT (p17 a (zci b) ga (zbJ gb)) _).trans ?_
 rfl
end Go.Ab
namespace Go.Ab
def ic (z : Int) : List V := [.int .i8 z]
theorem zsB (z : Int) : (ic z).length = 1 := rfl
def cw (s : List Int) (k : Nat) : Int := if h : k < s.length then s[k].tmod 2 else 0
def wpt (s : List Int) : Pt := ⟨cw s 0, cw s 1, cw s 2, cw s 3, cw s 4, cw s 5⟩
def i8s (s : List Int) : Prop := ∀ z ∈ s, -128 ≤ z ∧ z ≤ 127
theorem zew (s : List Int) (k : Nat) : -1 ≤ cw s k ∧ cw s k ≤ 1 := by
 unfold cw
 split
 ·have h1 := Int.tmod_lt_of_pos (s[k]) (show (0 : Int) < 2 by decide)
  have h2 := Int.lt_tmod_of_pos (s[k]) (show (0 : Int) < 2 by decide)
  omega
 ·omega
theorem zjB (s : List Int) : (wpt s).cor := ⟨zew s 0, zew s 1, zew s 2, zew s 3, zew s 4, zew s 5⟩
theorem zuP {b x w : Int} (h : -b ≤ x ∧ x ≤ b) (hw : -1 ≤ w ∧ w ≤ 1) : -b ≤ x * w ∧ x * w ≤ b := by
 rcases tri hw.1 hw.2 with e | e | e <;> rw [e] <;> omega
theorem zfr {b x w : Int} (h : -b ≤ x ∧ x ≤ b) (hw : -1 ≤ w ∧ w ≤ 1) (n : Nat) : -b ≤ x * w ^ n ∧ x * w ^ n ≤ b := by
 obtain ⟨a, c, _⟩ := zbl hw n
 exact zuP h ⟨a, c⟩
def acP (p : List Tm) (s : List Int) (o i c k w n : Int) : St := zfK (p.map Tm.cs) (s.map ic) o i c k w n
theorem ac_pow (p : List Tm) (s : List Int) (i : Nat) (hi : i < p.length) (o c : Int) (k u : Nat) (w : Int) (hk : k < 6)
  (hu : za5 [p[i].c, ((p[i].e.a : Nat) : Int), ((p[i].e.b : Nat) : Int), ((p[i].e.c : Nat) : Int), ((p[i].e.d : Nat) : Int), ((p[i].e.e : Nat) : Int), ((p[i].e.f : Nat) : Int)] (1 + k * 1) = some ((u : Nat) : Int)) (hu2 : u ≤ 6) (hw : -1 ≤ w ∧ w ≤ 1) (hc : -2147483648 ≤ c ∧ c ≤ 2147483648) :
  zal (zp GZ LZ (CW GZ LZ) 85 none 13) (acP p s o ((i : Nat) : Int) c ((k : Nat) : Int) w 0) = some (.exit 4, acP p s o ((i : Nat) : Int) (c * w ^ u) ((k : Nat) : Int) w ((u : Nat) : Int)) := by
 have hkk : k = 0 ∨ k = 1 ∨ k = 2 ∨ k = 3 ∨ k = 4 ∨ k = 5 := by omega
 have bo : (false || ((true && (Nat.beq (1 + ((((k : Nat) : Int)).toNat * 1)) 1)) || ((true && (Nat.beq (1 + ((((k : Nat) : Int)).toNat * 1)) 2)) || ((true && (Nat.beq (1 + ((((k : Nat) : Int)).toNat * 1)) 3)) || ((true && (Nat.beq (1 + ((((k : Nat) : Int)).toNat * 1)) 4)) || ((true && (Nat.beq (1 + ((((k : Nat) : Int)).toNat * 1)) 5)) || ((true && (Nat.beq (1 + ((((k : Nat) : Int)).toNat * 1)) 6)) || false))))))) = true := by
  rcases hkk with rfl | rfl | rfl | rfl | rfl | rfl <;> rfl
 have e2 : decide ((0 : Int) ≤ ((k : Nat) : Int)) = true := by simp
 have e3 : decide ((((k : Nat) : Int)).toNat < 6) = true := by simp; omega
 have st : ∀ (x : Int) (n : Nat), n ≤ 6 → zp GZ LZ (CW GZ LZ) 85 none 13 (acP p s o ((i : Nat) : Int) x ((k : Nat) : Int) w ((n : Nat) : Int)) =
   cond (decide (((n : Nat) : Int) < ((u : Nat) : Int))) (some (.normal, acP p s o ((i : Nat) : Int) (IntKind.wrap .i64 (x * w)) ((k : Nat) : Int) w ((n + 1 : Nat) : Int))) (some (.exit 4, acP p s o ((i : Nat) : Int) x ((k : Nat) : Int) w ((n : Nat) : Int))) := by
  intro x n hn
  have w8 : IntKind.wrap .u8 (((n : Nat) : Int) + 1) = ((n + 1 : Nat) : Int) := wu8 (x := n) (y := 1) rfl (by omega)
  have h8 : decide (((n : Nat) : Int) < 8) = true := by simp; omega
  have hg := zbe p i hi
  unfold acP
  rw [e85_13, e2, e3, bo, w8, h8, Int.toNat_natCast]
  refine (zaC hg _).trans ?_
  iterate 15 refine (zaC rfl _).trans ?_
  refine (cT rfl _ _).trans ?_
  refine (cT rfl _ _).trans ?_
  refine (cT rfl _ _).trans ?_
  refine (zaC hu _).trans ?_
  rfl
 have := zch (round := zp GZ LZ (CW GZ LZ) 85 none 13) (fun n => acP p s o ((i : Nat) : Int) (c * w ^ n) ((k : Nat) : Int) w ((n : Nat) : Int)) u (id := 4)
  (fun n hn => by
   have b := zfr hc hw (n + 1)
   rw [st _ n (by omega), show c * w ^ n * w = c * w ^ (n + 1) by rw [Int.pow_succ, Int.mul_assoc], w64 (by omega) (by omega)]
   exact cT (decide_eq_true (by omega)) _ _)
  (by rw [st _ u hu2]; exact cF (decide_eq_false (by omega)) _ _)
 rw [Int.pow_zero, Int.mul_one] at this
 exact this
def acV (p : List Tm) (s : List Int) (o i c k : Int) : St := zjx (p.map Tm.cs) (s.map ic) o i c k
theorem zhy (p : List Tm) (s : List Int) (hs : i8s s) (hsl : s.length < 9223372036854775808) (i : Nat) (hi : i < p.length) (o c : Int) (k u : Nat) (hk : k < 6)
  (hu : za5 [p[i].c, ((p[i].e.a : Nat) : Int), ((p[i].e.b : Nat) : Int), ((p[i].e.c : Nat) : Int), ((p[i].e.d : Nat) : Int), ((p[i].e.e : Nat) : Int), ((p[i].e.f : Nat) : Int)] (1 + k * 1) = some ((u : Nat) : Int)) (hu2 : u ≤ 6) (hc : -2147483648 ≤ c ∧ c ≤ 2147483648) :
  zp GZ LZ (CW GZ LZ) 85 none 7 (acV p s o ((i : Nat) : Int) c ((k : Nat) : Int)) = some (.normal, acV p s o ((i : Nat) : Int) (c * cw s k ^ u) ((k + 1 : Nat) : Int)) := by
 have e1 : decide (((k : Nat) : Int) < 6) = true := by simp; omega
 have ws := zaV k (by omega)
 have hp := ac_pow p s i hi o c k u (cw s k) hk hu hu2 (zew s k) hc
 have hlen : decide (((k : Nat) : Int) < (((s.map ic).length : Nat) : Int)) = decide (k < s.length) := by rw [decide_eq_decide, List.length_map]; omega
 have g : ∀ t, t = acP p s o ((i : Nat) : Int) (c * cw s k ^ u) ((k : Nat) : Int) (cw s k) ((u : Nat) : Int) →
   nth t.t 0 = .slice .any (p.map Tm.cs) ∧ nth t.t 1 = .slice .any (s.map ic) ∧ nth t.t 5 = .int .i64 o ∧ nth t.t 6 = .int .i64 ((i : Nat) : Int) ∧ nth t.t 7 = .int .i64 (c * cw s k ^ u) ∧ nth t.t 8 = .int .i64 ((k : Nat) : Int) ∧ nth t.t 9 = .int .i64 (cw s k) ∧ nth t.t 10 = .int .u8 ((u : Nat) : Int) := by
  intro t ht; subst ht
  exact ⟨rfl, rfl, rfl, rfl, rfl, rfl, rfl, rfl⟩
 obtain ⟨g1, g2, g3, g4, g5, g6, g7, g8⟩ := g _ rfl
 unfold acV
 rw [e85_7, e1, hlen]
 refine (cT rfl _ _).trans ?_
 by_cases hks : k < s.length
 ·have hg := zdm ic zsB s k hks
  have hz := hs _ (List.getElem_mem hks)
  have hcw : Int.tmod (IntKind.wrap .i64 s[k]) 2 = cw s k := by
   unfold cw
   rw [dif_pos hks, w64 (by omega) (by omega)]
  refine (cT (decide_eq_true hks) _ _).trans ?_
  refine (zaC hg _).trans ?_
  iterate 3 refine (zaC rfl _).trans ?_
  rw [zaz, hcw]
  refine (zZ hp _).trans ?_
  rw [Option.bind_some]
  dsimp only
  rw [g1, g2, g3, g4, g5, g6, g7, g8]
  refine (cT rfl _ _).trans ?_
  iterate 8 refine (zaC rfl _).trans ?_
  rw [ws]
 ·have hcw : cw s k = 0 := by
   unfold cw
   rw [dif_neg hks]
  have hp0 : zal (zp GZ LZ (CW GZ LZ) 85 none 13) (zfK (p.map Tm.cs) (s.map ic) o ((i : Nat) : Int) c ((k : Nat) : Int) 0 0) = some (.exit 4, acP p s o ((i : Nat) : Int) (c * cw s k ^ u) ((k : Nat) : Int) (cw s k) ((u : Nat) : Int)) := by
   have z := hp
   conv at z => lhs; rw [hcw]
   exact z
  refine (cF (decide_eq_false hks) _ _).trans ?_
  rw [zaz]
  refine (zZ hp0 _).trans ?_
  rw [Option.bind_some]
  dsimp only
  rw [g1, g2, g3, g4, g5, g6, g7, g8]
  refine (cT rfl _ _).trans ?_
  iterate 8 refine (zaC rfl _).trans ?_
  rw [ws]
theorem zuQ (p : List Tm) (s : List Int) (hs : i8s s) (hsl : s.length < 9223372036854775808) (i : Nat) (hi : i < p.length) (o : Int) (hd : p[i].e.deg ≤ 6) (hn : zz p[i].c) :
  zal (zp GZ LZ (CW GZ LZ) 85 none 7) (acV p s o ((i : Nat) : Int) p[i].c 0) = some (.exit 2, acV p s o ((i : Nat) : Int) (p[i].c * mono (wpt s) p[i].e) 6) ∧ (-2147483648 ≤ p[i].c * mono (wpt s) p[i].e ∧ p[i].c * mono (wpt s) p[i].e ≤ 2147483648) := by
 unfold E6.deg at hd
 unfold zz at hn
 have b0 : -2147483648 ≤ p[i].c ∧ p[i].c ≤ 2147483648 := by omega
 have b1 := zfr b0 (zew s 0) p[i].e.a
 have b2 := zfr b1 (zew s 1) p[i].e.b
 have b3 := zfr b2 (zew s 2) p[i].e.c
 have b4 := zfr b3 (zew s 3) p[i].e.d
 have b5 := zfr b4 (zew s 4) p[i].e.e
 have b6 := zfr b5 (zew s 5) p[i].e.f
 have e : p[i].c * cw s 0 ^ p[i].e.a * cw s 1 ^ p[i].e.b * cw s 2 ^ p[i].e.c * cw s 3 ^ p[i].e.d * cw s 4 ^ p[i].e.e * cw s 5 ^ p[i].e.f = p[i].c * mono (wpt s) p[i].e := by
  unfold mono wpt
  simp only [Int.mul_assoc]
 rw [e] at b6
 refine ⟨?_, b6⟩
 refine (zk (zhy p s hs hsl i hi o _ 0 p[i].e.a (by omega) rfl (by omega) b0)).trans ?_
 refine (zk (zhy p s hs hsl i hi o _ 1 p[i].e.b (by omega) rfl (by omega) b1)).trans ?_
 refine (zk (zhy p s hs hsl i hi o _ 2 p[i].e.c (by omega) rfl (by omega) b2)).trans ?_
 refine (zk (zhy p s hs hsl i hi o _ 3 p[i].e.d (by omega) rfl (by omega) b3)).trans ?_
 refine (zk (zhy p s hs hsl i hi o _ 4 p[i].e.e (by omega) rfl (by omega) b4)).trans ?_
 refine (zk (zhy p s hs hsl i hi o _ 5 p[i].e.f (by omega) rfl (by omega) b5)).trans ?_
 rw [e]
 exact zbb (e85_7 _ _ _ _ _ _ _)
end Go.Ab
namespace Go.Ab
def acR (p : List Tm) (s : List Int) (o i : Int) : St := zjw (p.map Tm.cs) (s.map ic) o i
theorem ztO (p : List Tm) (s : List Int) (hs : i8s s) (hsl : s.length < 9223372036854775808) (i : Nat) (hi : i < p.length) (o : Int) (ho : -1000000000000 ≤ o ∧ o ≤ 1000000000000) (hd : p[i].e.deg ≤ 6) (hn : zz p[i].c) (hl : p.length ≤ 1000) :
  zp GZ LZ (CW GZ LZ) 85 none 3 (acR p s o ((i : Nat) : Int)) = some (.normal, acR p s (o + p[i].c * mono (wpt s) p[i].e) ((i + 1 : Nat) : Int)) := by
 obtain ⟨hv, b1, b2⟩ := zuQ p s hs hsl i hi o hd hn
 have hg := zbe p i hi
 have ws := zaV i (by omega)
 have ww : IntKind.wrap .i64 (o + p[i].c * mono (wpt s) p[i].e) = o + p[i].c * mono (wpt s) p[i].e := w64 (by omega) (by omega)
 have g : ∀ t, t = acV p s o ((i : Nat) : Int) (p[i].c * mono (wpt s) p[i].e) 6 →
   nth t.t 0 = .slice .any (p.map Tm.cs) ∧ nth t.t 1 = .slice .any (s.map ic) ∧ nth t.t 5 = .int .i64 o ∧ nth t.t 6 = .int .i64 ((i : Nat) : Int) ∧ nth t.t 7 = .int .i64 (p[i].c * mono (wpt s) p[i].e) ∧ nth t.t 8 = .int .i64 6 := by
  intro t ht; subst ht
  exact ⟨rfl, rfl, rfl, rfl, rfl, rfl⟩
 obtain ⟨g1, g2, g3, g4, g5, g6⟩ := g _ rfl
 have e1 : decide (((i : Nat) : Int) < (((p.map Tm.cs).length : Nat) : Int)) = true := by rw [List.length_map]; exact zba hi
 unfold acR
 rw [e85_3, e1]
 refine (cT rfl _ _).trans ?_
 refine (zaC hg _).trans ?_
 iterate 15 refine (zaC rfl _).trans ?_
 rw [zaz]
 refine (zZ hv _).trans ?_
 rw [Option.bind_some]
 dsimp only
 rw [g1, g2, g3, g4, g5, g6]
 refine (cT rfl _ _).trans ?_
 iterate 6 refine (zaC rfl _).trans ?_
 rw [ww, ws]
theorem zqP {φ : E6 → Int} (h : Cor φ) : ∀ p : List Tm, zbf p → -(2147483648 * (p.length : Int)) ≤ lin φ p ∧ lin φ p ≤ 2147483648 * (p.length : Int)
 | [], _ => by rw [zl9]; simp
 | t :: p, hn => by
  have ih := zqP h p fun u hu => hn u (by simp [hu])
  have ht := hn t (by simp)
  have r := zpH h t
  have b := zsn t ht
  unfold zz at b
  rw [zbI, List.length_cons]
  omega
theorem ztP (φ : E6 → Int) (p : List Tm) (t : Tm) : lin φ (p ++ [t]) = lin φ p + t.c * φ t.e := by
 rw [zuF]
 show _ + (t.c * φ t.e + 0) = _
 omega
def cv (m : List Tm) (s : List Int) : Int := lin (mono (wpt s)) m
theorem cv_b {p : List Tm} (hp : Pol p) (s : List Int) : -214748364800 ≤ cv p s ∧ cv p s ≤ 214748364800 := by
 have := zqP (zib (zjB s)) p hp.nm
 have := hp.ln
 unfold cv
 omega
theorem p85 (p : List Tm) (hp : Pol p) (s : List Int) (hs : i8s s) (hsl : s.length < 9223372036854775808) : (CW GZ LZ).p (.func 85) [.slice .any (p.map Tm.cs), .slice .any (s.map ic)] = some (.int .i64 (cv p s)) := by
 have hl := hp.ln
 have hloop := zch (round := zp GZ LZ (CW GZ LZ) 85 none 3) (fun i => acR p s (lin (mono (wpt s)) (p.take i)) ((i : Nat) : Int)) p.length (id := 0)
  (fun i hi => by
   have hm := List.getElem_mem hi
   have b := zqP (zib (zjB s)) (p.take i) fun t ht => hp.nm t (List.mem_of_mem_take ht)
   simp only [List.length_take] at b
   rw [ztO p s hs hsl i hi _ (by omega) (hp.fi _ hm).2.2 (hp.nm _ hm) (by omega), zb6 hi, ztP])
  (by unfold acR; rw [e85_3, List.length_map, za7]; rfl)
 simp only [List.take_length, List.take_zero] at hloop
 refine zE (h := []) ?_ rfl
 rw [e85, zaz]
 refine (zZ (x := zal (zp GZ LZ (CW GZ LZ) 85 none 3) (zjw (p.map Tm.cs) (s.map ic) 0 0)) hloop _).trans ?_
 have g : ∀ t, t = acR p s (lin (mono (wpt s)) p) ((p.length : Nat) : Int) → nth t.t 0 = .slice .any (p.map Tm.cs) ∧ nth t.t 1 = .slice .any (s.map ic) ∧ nth t.t 5 = .int .i64 (lin (mono (wpt s)) p) ∧ nth t.t 6 = .int .i64 ((p.length : Nat) : Int) := by
  intro t ht; subst ht
  exact ⟨rfl, rfl, rfl, rfl⟩
 obtain ⟨g1, g2, g3, g4⟩ := g _ rfl
 rw [Option.bind_some]
 dsimp only
 rw [g1, g2, g3, g4]
 refine (cT rfl _ _).trans ?_
 iterate 4 refine (zaC rfl _).trans ?_
 rfl
def vat (m : TM) (s : List Int) (x : Int) : Int := cv m.p s + m.r.lo + (m.r.hi - m.r.lo) * x / 65535
theorem zsC {d x : Int} (h0 : 0 ≤ d) (hx : 0 ≤ x ∧ x ≤ 65535) : 0 ≤ d * x / 65535 ∧ d * x / 65535 ≤ d := by
 have h1 : 0 ≤ d * x := Int.mul_nonneg h0 hx.1
 have h2 : d * x ≤ d * 65535 := Int.mul_le_mul_of_nonneg_left hx.2 h0
 omega
theorem vat_b {m : TM} (g : m.good) (s : List Int) {x : Int} (hx : 0 ≤ x ∧ x ≤ 65535) : cv m.p s + m.r.lo ≤ vat m s x ∧ vat m s x ≤ cv m.p s + m.r.hi := by
 have := zsC (d := m.r.hi - m.r.lo) (by have := g.va.1; omega) hx
 unfold vat
 omega
theorem p39 (m : TM) (g : m.good) (s : List Int) (hs : i8s s) (hsl : s.length < 9223372036854775808) (x : Int) (hx : 0 ≤ x ∧ x ≤ 65535) : (CW GZ LZ).p (.func 39) [.agg [.slice .any (m.p.map Tm.cs), .int .i64 m.r.lo, .int .i64 m.r.hi], .slice .any (s.map ic), .int .u16 x] = some (.int .i64 (vat m s x)) := by
 have b := cv_b g.pol s
 obtain ⟨v1, v2, v3, _⟩ := g.va
 have f := zsC (d := m.r.hi - m.r.lo) (by omega) hx
 have h1 : 0 ≤ (m.r.hi - m.r.lo) * x := Int.mul_nonneg (by omega) hx.1
 have h2 : (m.r.hi - m.r.lo) * x ≤ (m.r.hi - m.r.lo) * 65535 := Int.mul_le_mul_of_nonneg_left hx.2 (by omega)
 refine zE (h := []) ?_ rfl
 rw [e39]
 refine (zg9 (p85 m.p g.pol s hs hsl) _).trans ?_
 rw [w64 (x := m.r.hi - m.r.lo) (by omega) (by omega), w64 (x := x) (by omega) (by omega), w64 (x := (m.r.hi - m.r.lo) * x) (by omega) (by omega), Int.tdiv_eq_ediv_of_nonneg h1, w64 (x := (m.r.hi - m.r.lo) * x / 65535) (by omega) (by omega), w64 (x := cv m.p s + m.r.lo) (by omega) (by omega), w64 (by omega) (by omega)]
 rfl
theorem p41 (m : TM) (g : m.good) (s : List Int) (hs : i8s s) (hsl : s.length < 9223372036854775808) (x : Int) : ∃ v, (CW GZ LZ).p (.func 41) [.agg [.slice .any (m.p.map Tm.cs), .int .i64 m.r.lo, .int .i64 m.r.hi], .slice .any (s.map ic), .int .i64 x] = some (.bool v) ∧ (v = true ↔ hv (mono (wpt s)) m x) := by
 have b := cv_b g.pol s
 obtain ⟨v1, v2, v3, _⟩ := g.va
 have w1 : IntKind.wrap .i64 (IntKind.wrap .i64 (cv m.p s + m.r.lo) * 65536) = (cv m.p s + m.r.lo) * 65536 := by rw [w64 (x := cv m.p s + m.r.lo) (by omega) (by omega), w64 (by omega) (by omega)]
 have w2 : IntKind.wrap .i64 (IntKind.wrap .i64 (cv m.p s + m.r.hi) * 65536) = (cv m.p s + m.r.hi) * 65536 := by rw [w64 (x := cv m.p s + m.r.hi) (by omega) (by omega), w64 (by omega) (by omega)]
 have ec : cv m.p s = lin (mono (wpt s)) m.p := rfl
 cases w : m.r.isW
 ·by_cases h1 : (cv m.p s + m.r.lo) * 65536 ≤ x
  ·refine ⟨decide (x ≤ (cv m.p s + m.r.hi) * 65536), zE (h := []) ?_ rfl, ?_⟩
   ·rw [e41]
    refine (zg9 (p85 m.p g.pol s hs hsl) _).trans ?_
    refine (zad (p38 _ _) _).trans ?_
    refine (cF w _ _).trans ?_
    rw [w1, w2]
    exact cT (decide_eq_true h1) _ _
   ·rw [decide_eq_true_eq]
    unfold hv
    rw [w, ← ec]
    constructor
    ·intro h2; exact .inr ⟨by omega, by omega⟩
    ·intro h2
     rcases h2 with h2 | h2
     ·cases h2
     ·omega
  ·refine ⟨false, zE (h := []) ?_ rfl, ?_⟩
   ·rw [e41]
    refine (zg9 (p85 m.p g.pol s hs hsl) _).trans ?_
    refine (zad (p38 _ _) _).trans ?_
    refine (cF w _ _).trans ?_
    rw [w1, w2]
    exact cF (decide_eq_false h1) _ _
   ·unfold hv
    rw [w, ← ec]
    constructor
    ·intro h2; cases h2
    ·intro h2
     rcases h2 with h2 | h2
     ·cases h2
     ·omega
 ·refine ⟨true, zE (h := []) ?_ rfl, ?_⟩
  ·rw [e41]
   refine (zg9 (p85 m.p g.pol s hs hsl) _).trans ?_
   refine (zad (p38 _ _) _).trans ?_
   exact cT w _ _
  ·exact ⟨fun _ => .inl w, fun _ => rfl⟩
theorem ztQ {m : TM} (g : m.good) {s : List Int} (hs : i8s s) (hsl : s.length < 9223372036854775808) {x : Int} (h : hv (mono (wpt s)) m x) : (CW GZ LZ).p (.func 41) [.agg [.slice .any (m.p.map Tm.cs), .int .i64 m.r.lo, .int .i64 m.r.hi], .slice .any (s.map ic), .int .i64 x] = some (.bool true) := by
 obtain ⟨v, h1, h2⟩ := p41 m g s hs hsl x
 rw [h1, h2.2 h]
theorem p30 (p : List Tm) (hp : p.length < 9223372036854775808) (lo hi : Int) : ∃ m : TM, m.good ∧ (CW GZ LZ).p (.func 30) [.agg [.slice .any (p.map Tm.cs), .int .i64 lo, .int .i64 hi]] = some (.agg m.cs) := by
 obtain ⟨v, vv, hv⟩ := p12 lo hi
 refine ⟨nrm (zd6 p 20 16777216) v, zfp (ztJ p 20 16777216) vv, ?_⟩
 refine zE (h := []) ?_ rfl
 rw [e30]
 refine (zf6 (p72 p hp 20 16777216 (by decide) (by decide)) _).trans ?_
 refine (zaL hv _).trans ?_
 refine (eT (p57 (zd6 p 20 16777216) v) _).trans ?_
 rfl
end Go.Ab
namespace Go.Ab
def zcE (p : List Tm) (i : Nat) : List Tm := (p.take i).map ngT ++ p.drop i
theorem zie (p : List Tm) (i : Nat) : (zcE p i).length = p.length := by
 unfold zcE
 rw [List.length_append, List.length_map, List.length_take, List.length_drop]; omega
theorem zoE (p : List Tm) (i : Nat) (hi : i < p.length) : (zcE p i)[i]'(by rw [zie]; exact hi) = p[i] := by
 unfold zcE
 rw [List.getElem_append_right (by simp; omega)]
 simp only [List.length_map, List.length_take, List.getElem_drop]
 congr 1; omega
theorem ztR (p : List Tm) (i : Nat) (hi : i < p.length) : (zcE p i).set i (ngT p[i]) = zcE p (i + 1) := by
 unfold zcE
 have hl : ((p.take i).map ngT).length = i := by rw [List.length_map, List.length_take]; omega
 rw [List.set_append_right _ _ (by omega), hl, Nat.sub_self, List.drop_eq_getElem_cons hi, List.set_cons_zero, zb6 hi, List.map_append, List.append_assoc]
 rfl
def zmd (a : TM) (i : Nat) : St := zjv (a.p.map Tm.cs) a.r.lo a.r.hi [] 0 0 ((zcE a.p i).map Tm.cs).length ((a.p.length : Nat) : Int) ((i : Nat) : Int) ((zcE a.p i).map Tm.cs)
theorem zsD (a : TM) (ga : a.good) (i : Nat) (hi : i < a.p.length) : zp GZ LZ (CW GZ LZ) 20 none 3 (zmd a i) = some (.normal, zmd a (i + 1)) := by
 have la := ga.pol.ln
 have hm : i < (zcE a.p i).length := by rw [zie]; exact hi
 have hg := zbe (zcE a.p i) i hm
 rw [zoE a.p i hi] at hg
 have hc := ga.pol.nm _ (List.getElem_mem hi)
 unfold zz at hc
 have ws := zaV i (by omega)
 have wn : IntKind.wrap .i64 (0 - a.p[i].c) = -a.p[i].c := by rw [w64 (by omega) (by omega)]; omega
 have har : zak [.arr true 7 ((zcE a.p i).map Tm.cs)] 0 ((zcE a.p i).map Tm.cs).length = some ((zcE a.p i).map Tm.cs) := by simp [zak, zav]
 have e2 : decide ((0 : Int) ≤ ((i : Nat) : Int)) = true := by simp
 have e3 : decide (i < ((zcE a.p i).map Tm.cs).length) = true := by rw [List.length_map]; simpa using hm
 have hd : ((zcE a.p i).map Tm.cs).getD i [] = a.p[i].cs := by
  rw [List.getD_eq_getElem?_getD, List.getElem?_map, List.getElem?_eq_getElem hm, zoE a.p i hi]; rfl
 have zah : ((zcE a.p i).map Tm.cs).set i (.int .i64 (-a.p[i].c) :: zek 1 a.p[i].cs) = (zcE a.p (i + 1)).map Tm.cs := by
  rw [← ztR a.p i hi, List.map_set]; rfl
 have hlen : ((zcE a.p i).map Tm.cs).length = ((zcE a.p (i + 1)).map Tm.cs).length := by rw [List.length_map, List.length_map, zie, zie]
 unfold zmd
 rw [e20_3, zba hi, e2, Int.toNat_natCast, e3]
 refine (cT rfl _ _).trans ?_
 refine (cT rfl _ _).trans ?_
 refine (cT rfl _ _).trans ?_
 refine (zaC har _).trans ?_
 refine (zaC hg _).trans ?_
 iterate 4 refine (zaC rfl _).trans ?_
 refine (cT rfl _ _).trans ?_
 refine (cT rfl _ _).trans ?_
 refine (cT (decide_eq_true rfl) _ _).trans ?_
 rw [hd, wn, zah, ws, hlen]
theorem zsE (p : List Tm) (hl : p.length ≤ 1000) : (CW GZ LZ).s (.func 59) [.slice .any (p.map Tm.cs)] [] = some (.arr 0 (p.map Tm.cs).length 7, [.arr true 7 (p.map Tm.cs)]) := by
 refine zed ?_
 have hs : ∀ C, zO GZ LZ C (.func 59) [.slice .any (p.map Tm.cs)] [] = zhn [.slice .any (p.map Tm.cs)] [] := fun C => by kernel_rfl
 rw [hs]
 unfold zhn
 dsimp only
 rw [if_pos]
 ·rfl
 ·refine ⟨?_, by rw [List.length_map]; omega⟩
  unfold zrJ
  rw [List.all_eq_true]
  intro r hr
  obtain ⟨t, _, rfl⟩ := List.mem_map.1 hr
  rfl
theorem p20 (a : TM) (ga : a.good) : (CW GZ LZ).p (.func 20) [.agg [.slice .any (a.p.map Tm.cs), .int .i64 a.r.lo, .int .i64 a.r.hi]] = some (.agg (zci a).cs) := by
 have la := ga.pol.ln
 have hl := zch (round := zp GZ LZ (CW GZ LZ) 20 none 3) (zmd a) a.p.length (id := 0) (fun i hi => zsD a ga i hi) (by unfold zmd; rw [e20_3, za7]; rfl)
 unfold zmd at hl
 have m0 : zcE a.p 0 = a.p := rfl
 have m1 : zcE a.p a.p.length = a.p.map ngT := by unfold zcE; rw [List.take_length, List.drop_length, List.append_nil]
 rw [m0, m1] at hl
 have hcl := zsE a.p (by omega)
 have hln : (((a.p.map Tm.cs).length : Nat) : Int) = ((a.p.length : Nat) : Int) := by rw [List.length_map]
 have nr := p55 (a.p.map ngT) a.r.neg [] (ziP ga.va) (fun x hx => by cases hx) (by simp)
 generalize hQ : (a.p.map ngT).map Tm.cs = Q at *
 refine zE (h := [.arr false 7 Q]) ?_ rfl
 rw [e20]
 refine (zaC hcl _).trans ?_
 iterate 3 refine (zaC rfl _).trans ?_
 rw [zaz, hln]
 refine (zZ hl _).trans ?_
 have g : ∀ t, t = zjv (a.p.map Tm.cs) a.r.lo a.r.hi [] 0 0 Q.length ((a.p.length : Nat) : Int) ((a.p.length : Nat) : Int) Q →
   nth t.t 1 = .box [.slice .any (a.p.map Tm.cs), .int .i64 a.r.lo, .int .i64 a.r.hi] ∧ nth t.t 2 = .box [.slice .any [], .int .i64 0, .int .i64 0] ∧ nth t.t 3 = .arr 0 Q.length 7 ∧ nth t.t 9 = .int .i64 ((a.p.length : Nat) : Int) ∧ nth t.t 10 = .int .i64 ((a.p.length : Nat) : Int) ∧ t.h = [.arr true 7 Q] := by
  intro t ht; subst ht
  exact ⟨rfl, rfl, rfl, rfl, rfl, rfl⟩
 obtain ⟨g1, g2, g3, g4, g5, g6⟩ := g _ rfl
 have har : zak [.arr true 7 Q] 0 Q.length = some Q := by simp [zak, zav]
 rw [Option.bind_some]
 dsimp only
 rw [g1, g2, g3, g4, g5, g6]
 refine (cT rfl _ _).trans ?_
 iterate 21 refine (zaC rfl _).trans ?_
 refine (zaC har _).trans ?_
 refine (zaL (p60 a.r ga.va) _).trans ?_
 refine (eT nr _).trans ?_
 rfl
theorem p18 (a b : TM) (ga : a.good) (gb : b.good) : (CW GZ LZ).p (.func 18) [.agg [.slice .any (a.p.map Tm.cs), .int .i64 a.r.lo, .int .i64 a.r.hi], .agg [.slice .any (b.p.map Tm.cs), .int .i64 b.r.lo, .int .i64 b.r.hi]] = some (.agg (zhd a b).cs) := by
 refine zE (h := []) ?_ rfl
 rw [e18]
 refine (eT (p20 b gb) _).trans ?_
 refine (eT (p16 a (zci b) ga (zbJ gb)) _).trans ?_
 rfl
end Go.Ab
namespace Go.Ab
theorem floor2 (n : Int) (h1 : -1000000000000 ≤ n) (h2 : n ≤ 1000000000000) : (CW GZ LZ).p (.func 103) [.int .i64 n, .int .i64 2] = some (.int .i64 (n / 2)) := by
 refine zE (h := []) ?_ rfl
 rw [e103]
 refine (cF rfl _ _).trans ?_
 refine (cF rfl _ _).trans ?_
 by_cases hn : 0 ≤ n
 ·have e1 : n.tdiv 2 = n / 2 := Int.tdiv_eq_ediv_of_nonneg hn
  have w1 : IntKind.wrap .i64 (n.tdiv 2) = n / 2 := by rw [e1]; exact w64 (by omega) (by omega)
  rw [w1]
  by_cases hm : n.tmod 2 = 0
  ·exact cF (by rw [hm]; rfl) _ _
  ·refine (cT (by simpa using hm) _ _).trans ?_
   exact cF (by rw [decide_eq_false (by omega)]; rfl) _ _
 ·have e2 : (-n).tdiv 2 = (-n) / 2 := Int.tdiv_eq_ediv_of_nonneg (by omega)
  have e3 : n.tdiv 2 = -((-n) / 2) := by rw [← e2, Int.neg_tdiv, Int.neg_neg]
  have e4 : n.tmod 2 = n - 2 * n.tdiv 2 := by have := Int.tmod_add_mul_tdiv n 2; omega
  have w1 : IntKind.wrap .i64 (n.tdiv 2) = -((-n) / 2) := by rw [e3]; exact w64 (by omega) (by omega)
  rw [w1]
  by_cases hm : n.tmod 2 = 0
  ·refine (cF (by rw [hm]; rfl) _ _).trans ?_
   rw [show -((-n) / 2) = n / 2 by omega]
  ·refine (cT (by simpa using hm) _ _).trans ?_
   refine (cT (by rw [decide_eq_true (show n < 0 by omega)]; rfl) _ _).trans ?_
   rw [w64 (by omega) (by omega), show -((-n) / 2) - 1 = n / 2 by omega]
theorem pmid2 (a : Iv) (h : a.valid) : (CW GZ LZ).p (.func 76) [.agg [.int .i64 a.lo, .int .i64 a.hi]] = some (.int .i64 (mid a)) := by
 have ⟨h1, h2, h3, _⟩ := h
 exact p76 a h (floor2 _ (by omega) (by omega))
theorem p33 (a : Iv) (va : a.valid) : (CW GZ LZ).p (.func 33) [.agg [.int .i64 a.lo, .int .i64 a.hi]] = some (.agg (zdO a).cs) := by
 have hm := zjA va.1
 have ⟨v1, v2, v3, _⟩ := va
 refine zE (h := []) ?_ rfl
 rw [e33]
 refine (zad (p38 _ _) _).trans ?_
 unfold zdO
 cases w1 : a.isW
 ·refine (cF rfl _ _).trans ?_
  refine (zg9 (pmid2 a va) _).trans ?_
  refine (zf6 (p77 (mid a)) _).trans ?_
  rw [w64 (x := a.lo - mid a) (by omega) (by omega), w64 (x := a.hi - mid a) (by omega) (by omega)]
  refine (zaL (p78 _ _) _).trans ?_
  refine (eT (p57 (zaI (mid a)) (Iv.new (a.lo - mid a) (a.hi - mid a))) _).trans ?_
  rfl
 ·refine (cT rfl _ _).trans ?_
  rw [isW_eq w1]
  rfl
theorem p25 (a : TM) (ga : a.good) (c : Iv) (vc : c.valid) : (CW GZ LZ).p (.func 25) [.agg [.slice .any (a.p.map Tm.cs), .int .i64 a.r.lo, .int .i64 a.r.hi], .agg [.int .i64 c.lo, .int .i64 c.hi]] = some (.agg (zqH a c).cs) := by
 refine zE (h := []) ?_ rfl
 rw [e25]
 refine (eT (p33 c vc) _).trans ?_
 refine (eT (p23 a (zdO c) ga (zf8 vc) 6) _).trans ?_
 rfl
end Go.Ab
namespace Go.Ab
theorem zqQ {R : Type} {x : Option V} {a b : TM} (h : x = some (.tuple [.agg a.cs, .agg b.cs])) (k : List (List V) → Int → Int → List (List V) → Int → Int → Option R) :
  (x.bind fun y => (zy y).bind fun t => (zg t).bind fun u => (zi u.1).bind fun c => (zg c).bind fun d => (zl d.1).bind fun r => (zg d.2).bind fun e => (asInt .i64 e.1).bind fun lo => (zg e.2).bind fun f => (asInt .i64 f.1).bind fun hi => (zh f.2).bind fun _ =>
   (zg u.2).bind fun v => (zi v.1).bind fun c' => (zg c').bind fun d' => (zl d'.1).bind fun r' => (zg d'.2).bind fun e' => (asInt .i64 e'.1).bind fun lo' => (zg e'.2).bind fun f' => (asInt .i64 f'.1).bind fun hi' => (zh f'.2).bind fun _ => (zh v.2).bind fun _ => k r lo hi r' lo' hi') = k (a.p.map Tm.cs) a.r.lo a.r.hi (b.p.map Tm.cs) b.r.lo b.r.hi := by subst h; rfl
theorem p42 (a b : Int) (h1 : -1000000 ≤ a ∧ a ≤ 1000000) (h2 : -1000000 ≤ b ∧ b ≤ 1000000) : (CW GZ LZ).p (.func 42) [.int .i64 a, .int .i64 b] = some (.agg [.int .i64 (a * 65536), .int .i64 (b * 65536)]) := by
 refine zE (h := []) ?_ rfl
 rw [e42, w64 (by omega) (by omega), w64 (by omega) (by omega)]
theorem p11 (p q : List Tm) (hp : p.length < 9223372036854775808) (hq : q.length < 9223372036854775808) (lo hi lo' hi' : Int) (s : List (List V)) (x y : Int) :
  ∃ a b : TM, a.good ∧ b.good ∧ (CW GZ LZ).p (.func 11) [.agg [.slice .any (p.map Tm.cs), .int .i64 lo, .int .i64 hi, .slice .any (q.map Tm.cs), .int .i64 lo', .int .i64 hi', .slice .any s, .int .u16 x, .int .u16 y]] = some (.tuple [.agg a.cs, .agg b.cs]) := by
 obtain ⟨a, ga, ha⟩ := p30 p hp lo hi
 obtain ⟨b, gb, hb⟩ := p30 q hq lo' hi'
 refine ⟨a, b, ga, gb, ?_⟩
 refine zE (h := []) ?_ rfl
 rw [e11]
 refine (eT ha _).trans ?_
 refine (eT hb _).trans ?_
 rfl
end Go.Ab
namespace Go.Ab
theorem p51 (a : Iv) : (CW GZ LZ).p (.func 51) [.agg [.int .i64 a.lo, .int .i64 a.hi]] = some (.bool (a.isW || decide (zz a.lo ∧ zz a.hi ∧ a.lo ≤ a.hi))) := by
 refine zE (h := []) ?_ rfl
 rw [e51]
 refine (zad (p44 _ _) _).trans ?_
 cases w : a.isW
 ·refine (cF rfl _ _).trans ?_
  refine (zad (p90 _) _).trans ?_
  by_cases h1 : zz a.lo
  ·refine (cT (decide_eq_true h1) _ _).trans ?_
   refine (zad (p90 _) _).trans ?_
   by_cases h2 : zz a.hi
   ·refine (cT (decide_eq_true h2) _ _).trans ?_
    simp [h1, h2]
   ·refine (cF (decide_eq_false h2) _ _).trans ?_
    simp [h2]
  ·refine (cF (decide_eq_false h1) _ _).trans ?_
   simp [h1]
 ·exact cT rfl _ _
def zfN (m : TM) : Bool := decide (zbC m.p) && ((m.r.isW || decide (zz m.r.lo ∧ zz m.r.hi ∧ m.r.lo ≤ m.r.hi)) && (decide (m.p = []) || !m.r.isW))
theorem zpL (p : List Tm) : ((((p.map Tm.cs).length : Nat) : Int) == 0) = decide (p = []) := by
 rw [List.length_map]
 cases p with
 | nil => rfl
 | cons t p => simp; omega
theorem p13 (m : TM) (o : oks m.p) (f : few m.p) : (CW GZ LZ).p (.func 13) [.agg [.slice .any (m.p.map Tm.cs), .int .i64 m.r.lo, .int .i64 m.r.hi]] = some (.bool (zfN m)) := by
 refine zE (h := []) ?_ rfl
 rw [e13, zpL]
 unfold zfN
 refine (zad (p50 m.p o f) _).trans ?_
 cases decide (zbC m.p)
 ·exact cF rfl _ _
 ·refine (cT rfl _ _).trans ?_
  refine (zad (p51 m.r) _).trans ?_
  cases (m.r.isW || decide (zz m.r.lo ∧ zz m.r.hi ∧ m.r.lo ≤ m.r.hi))
  ·exact cF rfl _ _
  ·refine (cT rfl _ _).trans ?_
   cases decide (m.p = [])
   ·refine (cF rfl _ _).trans ?_
    refine (zad (p44 _ _) _).trans ?_
    rfl
   ·exact cT rfl _ _
theorem p14 (m : TM) (o : oks m.p) (f : few m.p) : (CW GZ LZ).p (.func 14) [.agg [.slice .any (m.p.map Tm.cs), .int .i64 m.r.lo, .int .i64 m.r.hi]] = some (.bool (zfN m)) := by
 refine zE (h := []) ?_ rfl
 rw [e14, zpL]
 unfold zfN
 refine (zad (p52 m.p o f) _).trans ?_
 cases decide (zbC m.p)
 ·exact cF rfl _ _
 ·refine (cT rfl _ _).trans ?_
  refine (zad (p47 m.r) _).trans ?_
  cases (m.r.isW || decide (zz m.r.lo ∧ zz m.r.hi ∧ m.r.lo ≤ m.r.hi))
  ·exact cF rfl _ _
  ·refine (cT rfl _ _).trans ?_
   cases decide (m.p = [])
   ·refine (cF rfl _ _).trans ?_
    refine (zad (p38 _ _) _).trans ?_
    rfl
   ·exact cT rfl _ _
end Go.Ab
namespace Go.Ab
theorem p46 (c i k : Int) (h : -1000000 ≤ c ∧ c ≤ 1000000) : (CW GZ LZ).p (.func 46) [.int .i64 c, .int .u8 i, .int .u8 k] = some (.agg [.int .i64 (c * 65536), .int .u8 i, .int .u8 k, .int .u8 0, .int .u8 0, .int .u8 0, .int .u8 0]) := by
 refine zE (h := []) ?_ rfl
 rw [e46, w64 (by omega) (by omega)]
theorem tm65 (x : Int) : -65536 < Int.tmod x 65536 ∧ Int.tmod x 65536 < 65536 := by
 have h1 := Int.tmod_lt_of_pos x (show (0 : Int) < 65536 by decide)
 have h2 := Int.lt_tmod_of_pos x (show (0 : Int) < 65536 by decide)
 omega
theorem p31 (a b : Int) : ∃ v : Iv, v.valid ∧ (CW GZ LZ).p (.func 31) [.agg [.int .i64 a, .int .i64 b]] = some (.agg v.c) := by
 have h1 := tm65 a
 have h2 := tm65 b
 refine ⟨⟨if Int.tmod b 65536 < Int.tmod a 65536 then Int.tmod b 65536 else Int.tmod a 65536, if Int.tmod b 65536 > Int.tmod a 65536 then Int.tmod b 65536 else Int.tmod a 65536⟩, ?_, zE (h := []) (e31 _ a b) rfl⟩
 refine zgH ?_ ?_ ?_
 ·unfold zz; split <;> omega
 ·unfold zz; split <;> omega
 ·split <;> split <;> omega
theorem zpM : ∀ (p : List Tm) (f g : Tm → Int), (∀ t ∈ p, f t ≤ g t) → za0 (p.map f) ≤ za0 (p.map g)
 | [], _, _, _ => Int.le_refl _
 | t :: p, f, g, h => by
  have h1 := h t (by simp)
  have h2 := zpM p f g fun u hu => h u (by simp [hu])
  simp only [List.map_cons, za0]; omega
theorem sc_le (c : Int) (p : List Tm) : zcu c p ≤ zc1 c p := zpM p _ _ fun t _ => Int.le_trans (zlq (t.c * c) t.e).2 (zlr (t.c * c)).1
theorem zi3 {p : List Tm} (o : oks p) (s : zas p) (c : Int) : Pol (zaR p c).1 := by
 refine zf7 (fun t ht => ?_) ?_ _ _ _
 ·obtain ⟨u, hu, rfl⟩ := List.mem_map.1 ht
  exact o u hu
 ·unfold zas
  rw [List.pairwise_map]
  exact s.imp fun {x y} k => k
theorem zkC (p : List Tm) (c : Int) : (zaR p c).2.valid := ze6 (sc_le c p)
theorem ztS {i : Int} (h : 0 ≤ i ∧ i ≤ 5) : (E6.unit i).deg = 1 := by
 have : i = 0 ∨ i = 1 ∨ i = 2 ∨ i = 3 ∨ i = 4 ∨ i = 5 := by omega
 rcases this with rfl | rfl | rfl | rfl | rfl | rfl <;> decide
theorem zjC (i : Int) : Pol (zcs i) := by
 unfold zcs
 split
 ·exact zhw
 ·rename_i h
  refine ⟨fun t ht => ?_, fun t ht => ?_, by show List.Pairwise _ [_]; simp, fun t ht => ?_, by simp⟩
  all_goals
   rw [List.mem_singleton.1 ht]
  ·exact zuy i
  ·show zz 65536; unfold zz; omega
  ·exact ⟨by show zz 65536; unfold zz; omega, by show (65536 : Int) ≠ 0; decide, by show (E6.unit i).deg ≤ 6; rw [ztS (by omega)]; omega⟩
theorem ztT (i : Int) {a : Iv} (va : a.valid) : (zi2 i a).good := by
 unfold zi2
 split
 ·exact zlA
 ·rename_i h
  have w : a.isW = false := by
   cases e : a.isW
   ·rfl
   ·exact absurd (.inl e) h
  have n := zd5 va w
  unfold zz at n
  have m := zjA va.1
  have pc := zgZ (c := mid a) (by unfold zz; omega)
  have ps := zi3 (zjC i).ok (zjC i).st (a.hi - mid a)
  exact zfp (zpJ pc.ok ps.ok pc.st ps.st) (zbo (zkC _ _) (zhx _ _))
theorem p34 (i : Int) (a : Iv) (va : a.valid) : (CW GZ LZ).p (.func 34) [.int .i64 i, .agg [.int .i64 a.lo, .int .i64 a.hi]] = some (.agg (zi2 i a).cs) := by
 have m := zjA va.1
 have ⟨v1, v2, v3, _⟩ := va
 refine zE (h := []) ?_ rfl
 rw [e34]
 refine (zg9 (p73 a va) _).trans ?_
 refine (zad (p44 _ _) _).trans ?_
 unfold zi2
 cases w : a.isW
 ·refine (cF rfl _ _).trans ?_
  rw [w64 (x := a.hi - mid a) (by omega) (by omega)]
  by_cases hb : a.hi - mid a ≥ 2147483648
  ·refine (cT (decide_eq_true hb) _ _).trans ?_
   rw [if_pos (.inr hb)]
   refine (eT p62 _).trans ?_
   rfl
  ·refine (cF (decide_eq_false hb) _ _).trans ?_
   rw [if_neg (by simp; omega)]
   have n := zd5 va w
   unfold zz at n
   have pv := zjC i
   have pc := zgZ (c := mid a) (by unfold zz; omega)
   have ps := zi3 pv.ok pv.st (a.hi - mid a)
   have l1 := pv.ln
   have l2 := pc.ln
   have l3 := ps.ln
   refine (zf6 (p80 i) _).trans ?_
   refine (eP' (p79 (zcs i) (a.hi - mid a) pv.ok pv.nm (by omega) (by unfold zz; omega)) _).trans ?_
   refine (zf6 (p74 (mid a)) _).trans ?_
   refine (eP' (p54 (zaI (mid a)) (zaR (zcs i) (a.hi - mid a)).1 pc.ok ps.ok pc.nm ps.nm (by omega) (by omega)) _).trans ?_
   refine (eT (p55 (zaQ (zaI (mid a)) (zaR (zcs i) (a.hi - mid a)).1).1 (zaR (zcs i) (a.hi - mid a)).2 [(zaQ (zaI (mid a)) (zaR (zcs i) (a.hi - mid a)).1).2] (zkC _ _) (vals1 (zhx _ _)) (by simp)) _).trans ?_
   rfl
 ·refine (cT rfl _ _).trans ?_
  rw [if_pos (.inl rfl)]
  refine (eT p62 _).trans ?_
  rfl
theorem p35 (i : Int) (a : Iv) (va : a.valid) : (CW GZ LZ).p (.func 35) [.int .i64 i, .agg [.int .i64 a.lo, .int .i64 a.hi]] = some (.agg (zi2 i a).cs) := by
 have m := zjA va.1
 have ⟨v1, v2, v3, _⟩ := va
 refine zE (h := []) ?_ rfl
 rw [e35]
 refine (zg9 (pmid2 a va) _).trans ?_
 refine (zad (p38 _ _) _).trans ?_
 unfold zi2
 cases w : a.isW
 ·refine (cF rfl _ _).trans ?_
  rw [w64 (x := a.hi - mid a) (by omega) (by omega)]
  by_cases hb : a.hi - mid a ≥ 2147483648
  ·refine (cT (decide_eq_true hb) _ _).trans ?_
   rw [if_pos (.inr hb)]
   refine (zaL p48 _).trans ?_
   rfl
  ·refine (cF (decide_eq_false hb) _ _).trans ?_
   rw [if_neg (by simp; omega)]
   have n := zd5 va w
   unfold zz at n
   have pv := zjC i
   have pc := zgZ (c := mid a) (by unfold zz; omega)
   have ps := zi3 pv.ok pv.st (a.hi - mid a)
   have l1 := pv.ln
   have l2 := pc.ln
   have l3 := ps.ln
   refine (zf6 (p82 i) _).trans ?_
   refine (eP' (p81 (zcs i) pv.fi (by omega) pv.st (a.hi - mid a) (by unfold zz; omega)) _).trans ?_
   refine (zf6 (p77 (mid a)) _).trans ?_
   refine (eP' (r5add (zaI (mid a)) (zaR (zcs i) (a.hi - mid a)).1 pc.ok ps.ok pc.nm ps.nm (by omega) (by omega) ps.st) _).trans ?_
   refine (zaL (p58 (zaR (zcs i) (a.hi - mid a)).2 (zaQ (zaI (mid a)) (zaR (zcs i) (a.hi - mid a)).1).2 (zkC _ _) (zhx _ _)) _).trans ?_
   refine (eT (p57 (zaQ (zaI (mid a)) (zaR (zcs i) (a.hi - mid a)).1).1 ((zaR (zcs i) (a.hi - mid a)).2.add (zaQ (zaI (mid a)) (zaR (zcs i) (a.hi - mid a)).1).2)) _).trans ?_
   rfl
 ·refine (cT rfl _ _).trans ?_
  rw [if_pos (.inl rfl)]
  refine (zaL p48 _).trans ?_
  rfl
def ptI (z : Int) : Iv := Iv.new (z * 65536) (z * 65536)
def zae (s : List Int) : List Iv := (List.range 6).map fun k => ptI (cw s k)
theorem ztU {z : Int} : (ptI z).valid := zcQ (Int.le_refl _)
theorem zif (s : List Int) : (zae s).length = 6 := rfl
theorem zgJ (s : List Int) : za1 (zae s) := fun x hx => by
 obtain ⟨k, _, rfl⟩ := List.mem_map.1 hx
 exact ztU
theorem zlC (s : List Int) (k : Nat) (hk : k < (zae s).length) : (zae s)[k] = ptI (cw s k) := by
 simp only [zae, List.getElem_map, List.getElem_range]
theorem ztV (s : List Int) (hs : i8s s) (hsl : s.length < 9223372036854775808) (k : Nat) (hk : k < (zae s).length) :
  zp GZ LZ (CW GZ LZ) 43 none 3 (zf5 (s.map ic) (((zae s).take k).map Iv.c).length ((k : Nat) : Int) (((zae s).take k).map Iv.c)) = some (.normal, zf5 (s.map ic) (((zae s).take (k + 1)).map Iv.c).length ((k + 1 : Nat) : Int) (((zae s).take (k + 1)).map Iv.c)) := by
 have hk6 : k < 6 := hk
 have ws := zaV k (by omega)
 have e1 : decide (((k : Nat) : Int) < 6) = true := by simp; omega
 have hlen : decide (((k : Nat) : Int) < (((s.map ic).length : Nat) : Int)) = decide (k < s.length) := by rw [decide_eq_decide, List.length_map]; omega
 have eL : (((zae s).take k).map Iv.c).length = k := by rw [List.length_map, List.length_take]; omega
 have hroom : decide (((((zae s).take k).map Iv.c).length + 1) * 16 ≤ zag) = true := by rw [eL]; exact decide_eq_true (by unfold zag; omega)
 have eN : ((zae s).take (k + 1)).map Iv.c = List.append (((zae s).take k).map Iv.c) [(ptI (cw s k)).c] := by
  rw [zb6 hk, zlC, List.map_append]; rfl
 have eM : (((zae s).take (k + 1)).map Iv.c).length = (((zae s).take k).map Iv.c).length + 1 := by
  rw [eN]; exact List.length_append
 rw [e43_3, e1, hlen, hroom]
 refine (cT rfl _ _).trans ?_
 by_cases hks : k < s.length
 ·have hg := zdm ic zsB s k hks
  have hz := hs _ (List.getElem_mem hks)
  have b := zew s k
  have hcw : IntKind.wrap .i64 (Int.tmod (IntKind.wrap .i64 s[k]) 2 * 65536) = cw s k * 65536 := by
   have : Int.tmod (IntKind.wrap .i64 s[k]) 2 = cw s k := by
    unfold cw
    rw [dif_pos hks, w64 (by omega) (by omega)]
   rw [this, w64 (by omega) (by omega)]
  refine (cT (decide_eq_true hks) _ _).trans ?_
  refine (zaC hg _).trans ?_
  iterate 3 refine (zaC rfl _).trans ?_
  rw [hcw]
  refine (zaL (p86 (cw s k * 65536)) _).trans ?_
  refine (cT (decide_eq_true rfl) _ _).trans ?_
  refine (cT rfl _ _).trans ?_
  rw [eM, eN, ws]
  rfl
 ·have hcw : cw s k = 0 := by
   unfold cw
   rw [dif_neg hks]
  refine (cF (decide_eq_false hks) _ _).trans ?_
  refine (zaL (p86 0) _).trans ?_
  refine (cT (decide_eq_true rfl) _ _).trans ?_
  refine (cT rfl _ _).trans ?_
  rw [eM, eN, ws, hcw]
  rfl
theorem p43 (s : List Int) (hs : i8s s) (hsl : s.length < 9223372036854775808) : (CW GZ LZ).p (.func 43) [.slice .any (s.map ic)] = some (.slice .any ((zae s).map Iv.c)) := by
 have hloop := zch (round := zp GZ LZ (CW GZ LZ) 43 none 3) (fun k => zf5 (s.map ic) (((zae s).take k).map Iv.c).length ((k : Nat) : Int) (((zae s).take k).map Iv.c)) (zae s).length (id := 0)
  (fun k hk => ztV s hs hsl k hk) (by rw [e43_3, zif]; rfl)
 simp only [List.take_length, List.take_zero] at hloop
 refine zE (h := [.arr false 2 ((zae s).map Iv.c)]) ?_ rfl
 rw [e43, zaz]
 refine (zZ hloop _).trans ?_
 rw [Option.bind_some]
 have g : ∀ t, t = zf5 (s.map ic) ((zae s).map Iv.c).length (((zae s).length : Nat) : Int) ((zae s).map Iv.c) →
   nth t.t 0 = .slice .any (s.map ic) ∧ nth t.t 3 = .arr 0 ((zae s).map Iv.c).length 2 ∧ nth t.t 4 = .int .i64 (((zae s).length : Nat) : Int) ∧ t.h = [.arr true 2 ((zae s).map Iv.c)] := by
  intro t ht; subst ht
  exact ⟨rfl, rfl, rfl, rfl⟩
 obtain ⟨g1, g2, g3, g4⟩ := g _ rfl
 dsimp only
 rw [g1, g2, g3, g4]
 refine (cT rfl _ _).trans ?_
 refine (zaC rfl _).trans ?_
 refine (zaC (zY _ _ _) _).trans ?_
 iterate 2 refine (zaC rfl _).trans ?_
 refine (zaC (zH _ _) _).trans ?_
 refine (zaC (zL _ _ _ _) _).trans ?_
 rfl
end Go.Ab
namespace Go.Ab
theorem eTm {R : Type} {x : Option V} {c a0 a1 a2 a3 a4 a5 : Int} (h : x = some (.agg [.int .i64 c, .int .u8 a0, .int .u8 a1, .int .u8 a2, .int .u8 a3, .int .u8 a4, .int .u8 a5])) (k : Int → Int → Int → Int → Int → Int → Int → Option R) :
  (x.bind fun y => (zi y).bind fun l => (zg l).bind fun t => (asInt .i64 t.1).bind fun c => (zg t.2).bind fun u => (asInt .u8 u.1).bind fun a => (zg u.2).bind fun v => (asInt .u8 v.1).bind fun b => (zg v.2).bind fun w => (asInt .u8 w.1).bind fun d => (zg w.2).bind fun p => (asInt .u8 p.1).bind fun e => (zg p.2).bind fun q => (asInt .u8 q.1).bind fun f => (zg q.2).bind fun s => (asInt .u8 s.1).bind fun g => (zh s.2).bind fun _ => k c a b d e f g) = k c a0 a1 a2 a3 a4 a5 := by subst h; rfl
theorem zfO {a b : TM} (h : a = b) (oa : oks a.p) (la : a.p.length ≤ 100000) : (CW GZ LZ).p (.func 15) [.agg [.slice .any (a.p.map Tm.cs), .int .i64 a.r.lo, .int .i64 a.r.hi], .agg [.slice .any (b.p.map Tm.cs), .int .i64 b.r.lo, .int .i64 b.r.hi]] = some (.bool true) := by
 subst h
 obtain ⟨v, h1, h2⟩ := p15 a a oa oa la
 rw [h1, h2.2 rfl]
def mV0 : TM := ⟨[T 131072 0 0, T 65536 1 0], ⟨0, 0⟩⟩
def mS0 : TM := ⟨[T 262144 0 0, T 262144 1 0], ⟨0, 65536⟩⟩
def mC0 : TM := ⟨[T 131072 0 0], ⟨-65536, 65536⟩⟩
def mW0 : TM := ⟨[], ⟨-2147483648, 2147483648⟩⟩
def mZ0 : TM := ⟨[], ⟨0, 0⟩⟩
def mD0 : TM := ⟨[T 262144 0 0, T 131072 1 0], ⟨0, 0⟩⟩
def i13 : Iv := ⟨65536, 196608⟩
def i22 : Iv := ⟨131072, 131072⟩
theorem q_var : zi2 0 i13 = mV0 := by
 have h1 : (zaR (zcs 0) 65536) = ([T 65536 1 0], ⟨0, 0⟩) := by kernel_rfl
 have h2 : zaI 131072 = [T 131072 0 0] := by kernel_rfl
 have h3 : za4 [T 131072 0 0] [T 65536 1 0] = [T 131072 0 0, T 65536 1 0] := by rw [zaJ, if_pos (by decide), zaB]
 have e : mid i13 = 131072 := by decide
 have e2 : i13.hi - 131072 = 65536 := by decide
 unfold zi2
 rw [e, e2, h1, h2, if_neg (by decide)]
 unfold zaQ
 rw [h3]
 change _ = _
 kernel_rfl
theorem q_mul : zdp mV0 mV0 1 = mS0 := by kernel_rfl
theorem zuR : zdO i13 = mC0 := by kernel_rfl
theorem q_sum : ze4 mV0 (zci mV0) = mZ0 := by
 have h1 : zci mV0 = ⟨[T (-131072) 0 0, T (-65536) 1 0], ⟨0, 0⟩⟩ := by kernel_rfl
 have h2 : za4 [T 131072 0 0, T 65536 1 0] [T (-131072) 0 0, T (-65536) 1 0] = [T 0 0 0, T 0 1 0] := by
  rw [zaJ, if_neg (by decide), if_neg (by decide), zaJ, if_neg (by decide), if_neg (by decide), zaB]; kernel_rfl
 rw [h1]
 unfold ze4 zaQ
 rw [show mV0.p = [T 131072 0 0, T 65536 1 0] from rfl, h2]
 change _ = _
 kernel_rfl
theorem zuS : zdO Iv.whole = mW0 := by kernel_rfl
theorem q_sub : zhd mW0 mV0 = mW0 := by
 unfold zhd ze4 zaQ
 rw [show mW0.p = [] from rfl, zaB]
 change _ = _
 kernel_rfl
theorem zuT : ze5 mS0 = ⟨0, 589824⟩ := by kernel_rfl
theorem zuU : zfN mS0 = true := by kernel_rfl
theorem q_bad : zfN ⟨mS0.p, Iv.whole⟩ = false := by kernel_rfl
theorem zuV : zlz mV0 0 = mC0 := by kernel_rfl
theorem q_dbl : zqH mV0 i22 = mD0 := by kernel_rfl
theorem q_eval : zfz mS0 (zae [1]) = ⟨524288, 589824⟩ := by
 have h1 : evT (zae [1]) (T 262144 0 0) = Iv.new 262144 262144 := rfl
 have h2 : evT (zae [1]) (T 262144 1 0) = (Iv.new 262144 262144).mul ⟨65536, 65536⟩ := by
  show evS _ 5 0 (evS _ 4 0 (evS _ 3 0 (evS _ 2 0 (evS _ 1 0 (evS _ 0 1 _))))) = _
  unfold evS
  rw [zeZ _ (Nat.le_refl 1)]
  rfl
 unfold zfz ze1
 rw [show mS0.p = [T 262144 0 0, T 262144 1 0] from rfl]
 unfold ze0
 rw [h1]
 unfold ze0
 rw [h2]
 change _ = _
 kernel_rfl
theorem g_of {m : TM} (h : (decide (zbC m.p) && (decide (m.r.lo ≤ m.r.hi) && (decide (zz m.r.lo) && decide (zz m.r.hi)))) = true) (o : (m.p.all fun t => decide t.e.ok) = true) : m.good := by
 simp only [Bool.and_eq_true, decide_eq_true_eq] at h
 obtain ⟨h1, h2, h3, h4⟩ := h
 refine ⟨zsm (zgG o) h1, zgH h3 h4 h2, fun w => ?_⟩
 rw [show m.r = ⟨m.r.lo, m.r.hi⟩ from rfl, zuz h3] at w
 cases w
theorem g_V : mV0.good := g_of (by kernel_rfl) (by kernel_rfl)
theorem g_S : mS0.good := g_of (by kernel_rfl) (by kernel_rfl)
theorem g_W : mW0.good := zlA
theorem v_13 : i13.valid := zgH (by decide) (by decide) (by decide)
theorem v_22 : i22.valid := zgH (by decide) (by decide) (by decide)
theorem y_var : (CW GZ LZ).p (.func 34) [.int .i64 0, .agg [.int .i64 i13.lo, .int .i64 i13.hi]] = some (.agg mV0.cs) := by rw [p34 0 i13 v_13, q_var]
theorem y_mul : (CW GZ LZ).p (.func 22) [.agg [.slice .any (mV0.p.map Tm.cs), .int .i64 mV0.r.lo, .int .i64 mV0.r.hi], .agg [.slice .any (mV0.p.map Tm.cs), .int .i64 mV0.r.lo, .int .i64 mV0.r.hi], .int .i64 1] = some (.agg mS0.cs) := by rw [p22 mV0 mV0 g_V g_V 1, q_mul]
theorem zuW : (CW GZ LZ).p (.func 32) [.agg [.int .i64 i13.lo, .int .i64 i13.hi]] = some (.agg mC0.cs) := by rw [p32 i13 v_13, zuR]
theorem y_neg : (CW GZ LZ).p (.func 20) [.agg [.slice .any (mV0.p.map Tm.cs), .int .i64 mV0.r.lo, .int .i64 mV0.r.hi]] = some (.agg (zci mV0).cs) := p20 mV0 g_V
theorem y_add : (CW GZ LZ).p (.func 16) [.agg [.slice .any (mV0.p.map Tm.cs), .int .i64 mV0.r.lo, .int .i64 mV0.r.hi], .agg [.slice .any ((zci mV0).p.map Tm.cs), .int .i64 (zci mV0).r.lo, .int .i64 (zci mV0).r.hi]] = some (.agg mZ0.cs) := by rw [p16 mV0 (zci mV0) g_V (zbJ g_V), q_sum]
theorem zpN : (CW GZ LZ).p (.func 32) [.agg [.int .i64 (-2147483648), .int .i64 2147483648]] = some (.agg mW0.cs) := (p32 Iv.whole zcZ).trans (by rw [zuS])
theorem y_sub : (CW GZ LZ).p (.func 18) [.agg [.slice .any (mW0.p.map Tm.cs), .int .i64 mW0.r.lo, .int .i64 mW0.r.hi], .agg [.slice .any (mV0.p.map Tm.cs), .int .i64 mV0.r.lo, .int .i64 mV0.r.hi]] = some (.agg mW0.cs) := by rw [p18 mW0 mV0 g_W g_V, q_sub]
theorem zuX : (CW GZ LZ).p (.func 28) [.agg [.slice .any (mS0.p.map Tm.cs), .int .i64 mS0.r.lo, .int .i64 mS0.r.hi]] = some (.agg (⟨0, 589824⟩ : Iv).c) := by rw [p28 mS0 g_S, zuT]
theorem zuY : (CW GZ LZ).p (.func 13) [.agg [.slice .any (mS0.p.map Tm.cs), .int .i64 mS0.r.lo, .int .i64 mS0.r.hi]] = some (.bool true) := by rw [p13 mS0 g_S.pol.ok (by unfold few; decide), zuU]
theorem y_bad : (CW GZ LZ).p (.func 13) [.agg [.slice .any (mS0.p.map Tm.cs), .int .i64 (-2147483648), .int .i64 2147483648]] = some (.bool false) := (p13 ⟨mS0.p, Iv.whole⟩ g_S.pol.ok (by unfold few; decide)).trans (by rw [q_bad])
theorem ztW : (CW GZ LZ).p (.func 43) [.slice .any [[.int .i8 1]]] = some (.slice .any ((zae [1]).map Iv.c)) := p43 [1] (fun z hz => by rw [List.mem_singleton.1 hz]; decide) (by decide)
theorem y_eval : (CW GZ LZ).p (.func 36) [.agg [.slice .any (mS0.p.map Tm.cs), .int .i64 mS0.r.lo, .int .i64 mS0.r.hi], .slice .any ((zae [1]).map Iv.c)] = some (.agg (⟨524288, 589824⟩ : Iv).c) := by rw [p36 mS0 g_S (zae [1]) (zgJ _) (by rw [zif]; decide), q_eval]
theorem zuZ : (CW GZ LZ).p (.func 26) [.agg [.slice .any (mV0.p.map Tm.cs), .int .i64 mV0.r.lo, .int .i64 mV0.r.hi], .int .i64 0] = some (.agg mC0.cs) := by rw [p26 mV0 g_V 0, zuV]
theorem y_dbl : (CW GZ LZ).p (.func 24) [.agg [.slice .any (mV0.p.map Tm.cs), .int .i64 mV0.r.lo, .int .i64 mV0.r.hi], .agg [.int .i64 i22.lo, .int .i64 i22.hi]] = some (.agg mD0.cs) := by rw [p24 mV0 g_V i22 v_22, q_dbl]
theorem zgK (m : TM) (o : (m.p.all fun t => decide t.e.ok) = true) (l : m.p.length ≤ 100) : (CW GZ LZ).p (.func 15) [.agg [.slice .any (m.p.map Tm.cs), .int .i64 m.r.lo, .int .i64 m.r.hi], .agg [.slice .any (m.p.map Tm.cs), .int .i64 m.r.lo, .int .i64 m.r.hi]] = some (.bool true) := zfO rfl (zgG o) (by omega)
theorem zfP (a b c d : Int) (h : -1000000 ≤ a ∧ a ≤ 1000000) (k : -1000000 ≤ b ∧ b ≤ 1000000) (e : c = a * 65536) (f : d = b * 65536) : (CW GZ LZ).p (.func 42) [.int .i64 a, .int .i64 b] = some (.agg [.int .i64 c, .int .i64 d]) := by rw [p42 a b h k, e, f]
theorem zfQ (c x y d : Int) (h : -1000000 ≤ c ∧ c ≤ 1000000) (e : d = c * 65536) : (CW GZ LZ).p (.func 46) [.int .i64 c, .int .u8 x, .int .u8 y] = some (.agg [.int .i64 d, .int .u8 x, .int .u8 y, .int .u8 0, .int .u8 0, .int .u8 0, .int .u8 0]) := by rw [p46 c x y h, e]
set_option maxRecDepth 100000 in
theorem p10 : (CW GZ LZ).p (.func 10) [] = some (.bool true) := by
 refine zE (h := []) ?_ rfl
 rw [e10]
 refine (eIv (zfP 1 3 65536 196608 (by decide) (by decide) rfl rfl) _).trans ?_
 refine (eT y_var _).trans ?_
 refine (eT y_mul _).trans ?_
 refine (eIv (zfP 1 3 65536 196608 (by decide) (by decide) rfl rfl) _).trans ?_
 refine (eT zuW _).trans ?_
 refine (eT y_neg _).trans ?_
 refine (eT y_add _).trans ?_
 refine (eTm (zfQ 2 0 0 131072 (by decide) rfl) _).trans ?_
 refine (eTm (zfQ 1 1 0 65536 (by decide) rfl) _).trans ?_
 refine (zad (zgK mV0 (by kernel_rfl) (by decide)) _).trans ?_
 refine (cT rfl _ _).trans ?_
 refine (eTm (zfQ 4 0 0 262144 (by decide) rfl) _).trans ?_
 refine (eTm (zfQ 4 1 0 262144 (by decide) rfl) _).trans ?_
 refine (eIv (zfP 0 1 0 65536 (by decide) (by decide) rfl rfl) _).trans ?_
 refine (zad (zgK mS0 (by kernel_rfl) (by decide)) _).trans ?_
 refine (cT rfl _ _).trans ?_
 refine (zaL zuX _).trans ?_
 refine (eIv (zfP 0 9 0 589824 (by decide) (by decide) rfl rfl) _).trans ?_
 refine (cT rfl _ _).trans ?_
 refine (eTm (zfQ 2 0 0 131072 (by decide) rfl) _).trans ?_
 refine (eIv (zfP (-1) 1 (-65536) 65536 (by decide) (by decide) rfl rfl) _).trans ?_
 refine (zad (zgK mC0 (by kernel_rfl) (by decide)) _).trans ?_
 refine (cT rfl _ _).trans ?_
 refine (cT rfl _ _).trans ?_
 refine (cT rfl _ _).trans ?_
 refine (eT zpN _).trans ?_
 refine (zad (zgK mW0 (by kernel_rfl) (by decide)) _).trans ?_
 refine (cT rfl _ _).trans ?_
 refine (eT zpN _).trans ?_
 refine (eT y_sub _).trans ?_
 refine (zad (zgK mW0 (by kernel_rfl) (by decide)) _).trans ?_
 refine (cT rfl _ _).trans ?_
 refine (zad zuY _).trans ?_
 refine (cT rfl _ _).trans ?_
 refine (zad y_bad _).trans ?_
 refine (cNF _ _).trans ?_
 refine (zf6 ztW _).trans ?_
 refine (zaL y_eval _).trans ?_
 refine (eIv (zfP 8 9 524288 589824 (by decide) (by decide) rfl rfl) _).trans ?_
 refine (cT rfl _ _).trans ?_
 refine (eT zuZ _).trans ?_
 refine (eTm (zfQ 2 0 0 131072 (by decide) rfl) _).trans ?_
 refine (eIv (zfP (-1) 1 (-65536) 65536 (by decide) (by decide) rfl rfl) _).trans ?_
 refine (zad (zgK mC0 (by kernel_rfl) (by decide)) _).trans ?_
 refine (cT rfl _ _).trans ?_
 refine (eIv (zfP 2 2 131072 131072 (by decide) (by decide) rfl rfl) _).trans ?_
 refine (eT y_dbl _).trans ?_
 refine (eTm (zfQ 4 0 0 262144 (by decide) rfl) _).trans ?_
 refine (eTm (zfQ 2 1 0 131072 (by decide) rfl) _).trans ?_
 refine (zad (zgK mD0 (by kernel_rfl) (by decide)) _).trans ?_
 rfl
end Go.Ab
