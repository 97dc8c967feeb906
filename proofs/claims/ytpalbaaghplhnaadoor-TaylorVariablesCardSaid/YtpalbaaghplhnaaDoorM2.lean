/- Small functions of taylor and of its reference; conditions: valid intervals. -/
import Derived.KernelRfl
import Derived.Test.YtpalbaaghplhnaaDoorM1
import Derived.Test.YtpalbaaghplhnaaDoorET
import Derived.Test.YtpalbaaghplhnaaDoorP0
import Derived.Test.YtpalbaaghplhnaaDoorQ2
set_option linter.unusedVariables false
set_option linter.unusedSimpArgs false
namespace Go.Ab
theorem zc6 {R : Type} {x : Option V} {v : Iv} (h : x = some (.agg v.c)) (k : Int → Int → Option R) :
  (x.bind fun y => (zo y).bind fun c => (zg c).bind fun d => (asInt .i64 d.1).bind fun lo => (zg d.2).bind fun e => (asInt .i64 e.1).bind fun hi => (zh e.2).bind fun _ => k lo hi) = k v.lo v.hi := eIv h k
theorem eT {R : Type} {x : Option V} {m : TM} (h : x = some (.agg m.cs)) (k : List (List V) → Int → Int → Option R) :
  (x.bind fun y => (zo y).bind fun c => (zg c).bind fun d => (zr d.1).bind fun r => (zg d.2).bind fun e => (asInt .i64 e.1).bind fun lo => (zg e.2).bind fun f => (asInt .i64 f.1).bind fun hi => (zh f.2).bind fun _ => k r lo hi) = k (m.p.map Tm.cs) m.r.lo m.r.hi := by subst h; rfl
theorem p28 (a : Iv) (h : a.valid) : (CW GU LU).p (.func 28) [.agg [.int .i64 a.lo, .int .i64 a.hi]] = some (.int .i64 (mid a)) := by
 refine zE (h := []) ?_ rfl
 obtain ⟨h1, h2, h3, _⟩ := h
 rw [e28, w64 (by omega) (by omega), Int.fdiv_eq_ediv_of_nonneg _ (by decide)]; rfl
theorem p29 : (CW GU LU).p (.func 29) [] = some (.agg (⟨[], Iv.whole⟩ : TM).cs) := by
 refine zE (h := []) ?_ rfl
 rw [e29]
 refine (eIv p36 _).trans ?_
 rfl
theorem zr8 (p : List Tm) (l : List Iv) (hv : zcp l) (hl : l.length ≤ 1000) (o : Iv) (ho : o.valid) (i : Nat) (hi : i < l.length) :
  zw GU LU (CW GU LU) 34 none 3 (zfZ (p.map Tm.cs) [] 0 0 o.lo o.hi (l.map Iv.c) ((l.length : Nat) : Int) ((i : Nat) : Int)) = some (.normal, zfZ (p.map Tm.cs) [] 0 0 (o.add l[i]).lo (o.add l[i]).hi (l.map Iv.c) ((l.length : Nat) : Int) ((i + 1 : Nat) : Int)) := by
 have hg := zdv Iv.c Iv.c_len l i hi
 have ha := p44 o l[i] ho (hv _ (List.getElem_mem hi))
 have ws := zbS i (by omega)
 rw [e34_3, zcJ hi]
 refine (cT rfl _ _).trans ?_
 refine (zaE hg _).trans ?_
 iterate 5 refine (zaE rfl _).trans ?_
 refine (zc6 ha _).trans ?_
 rw [ws]
theorem p34 (p : List Tm) (a : Iv) (l : List Iv) (va : a.valid) (hv : zcp l) (hl : l.length ≤ 1000) :
  (CW GU LU).p (.func 34) [.agg [.slice .any (p.map Tm.cs)], .slice .any ((a :: l).map Iv.c)] = some (.agg (nrm p (l.foldl Iv.add a)).cs) := by
 have h := znx (round := zw GU LU (CW GU LU) 34 none 3) (fun i (o : Iv) => zfZ (p.map Tm.cs) [] 0 0 o.lo o.hi (l.map Iv.c) ((l.length : Nat) : Int) ((i : Nat) : Int)) Iv.add (fun o => o.valid) l (id := 0)
  (fun i hi o ho => ⟨zr8 p l hv hl o ho i hi, zf1 ho (hv _ (List.getElem_mem hi))⟩)
  (fun o ho => by rw [e34_3, zci]; rfl) a va
 have h1 := h.1
 generalize l.foldl Iv.add a = r at *
 refine zE (h := []) ?_ rfl
 have ht : (((a :: l).map Iv.c).take ((a :: l).map Iv.c).length).drop 1 = l.map Iv.c := by rw [List.take_length]; rfl
 have hlm : (((l.map Iv.c).length : Nat) : Int) = ((l.length : Nat) : Int) := by rw [List.length_map]
 rw [e34, ht, zbo, hlm]
 iterate 6 refine (zaE rfl _).trans ?_
 refine (cT (decide_eq_true (by simp)) _ _).trans ?_
 refine (cT rfl _ _).trans ?_
 refine (zae h1 _).trans ?_
 have g : ∀ t, t = zfZ (p.map Tm.cs) [] 0 0 r.lo r.hi (l.map Iv.c) ((l.length : Nat) : Int) ((l.length : Nat) : Int) →
   nth t.t 2 = .box [.slice .any (p.map Tm.cs)] ∧ nth t.t 4 = .box [.slice .any [], .int .i64 0, .int .i64 0] ∧ nth t.t 5 = .box [.int .i64 r.lo, .int .i64 r.hi] ∧ nth t.t 12 = .slice .any (l.map Iv.c) ∧ nth t.t 13 = .int .i64 ((l.length : Nat) : Int) ∧ nth t.t 14 = .int .i64 ((l.length : Nat) : Int) := by
  intro t ht; subst ht
  exact ⟨rfl, rfl, rfl, rfl, rfl, rfl⟩
 obtain ⟨g1, g2, g3, g4, g5, g6⟩ := g _ rfl
 rw [Option.bind_some]
 dsimp only
 rw [g1, g2, g3, g4, g5, g6]
 refine (cT rfl _ _).trans ?_
 iterate 20 refine (zaE rfl _).trans ?_
 refine (zaC (p9 _ _) _).trans ?_
 cases w : r.isW
 ·rw [zj9 w]; exact cF rfl _ _
 ·rw [zoI w]; exact cT rfl _ _
end Go.Ab
namespace Go.Ab
theorem eP' {R : Type} {x : Option V} {q : List Tm × Iv} (h : x = some (.tuple [.slice .any (q.1.map Tm.cs), .agg q.2.c])) (k : List (List V) → Int → Int → Option R) :
  (x.bind fun y => (zu y).bind fun t => (zg t).bind fun u => (zr u.1).bind fun r => (zg u.2).bind fun v => (zo v.1).bind fun c => (zg c).bind fun d => (asInt .i64 d.1).bind fun lo => (zg d.2).bind fun e => (asInt .i64 e.1).bind fun hi => (zh e.2).bind fun _ => (zh v.2).bind fun _ => k r lo hi) = k (q.1.map Tm.cs) q.2.lo q.2.hi := eP h k
theorem vals1 {a : Iv} (h : a.valid) : zcp [a] := fun x hx => by rw [List.mem_singleton.1 hx]; exact h
theorem vals2 {a b : Iv} (h : a.valid) (k : b.valid) : zcp [a, b] := fun x hx => by
 simp only [List.mem_cons, List.not_mem_nil, or_false] at hx
 rcases hx with rfl | rfl <;> assumption
theorem vals3 {a b c : Iv} (h : a.valid) (k : b.valid) (l : c.valid) : zcp [a, b, c] := fun x hx => by
 simp only [List.mem_cons, List.not_mem_nil, or_false] at hx
 rcases hx with rfl | rfl | rfl <;> assumption
theorem p14 (a b : TM) (ga : a.good) (gb : b.good) : (CW GU LU).p (.func 14) [.agg [.slice .any (a.p.map Tm.cs), .int .i64 a.r.lo, .int .i64 a.r.hi], .agg [.slice .any (b.p.map Tm.cs), .int .i64 b.r.lo, .int .i64 b.r.hi]] = some (.agg (tAdd a b).cs) := by
 have la := ga.pol.ln
 have lb := gb.pol.ln
 refine zE (h := []) ?_ rfl
 rw [e14]
 refine (eP' (p32 a.p b.p ga.pol.ok gb.pol.ok ga.pol.nm gb.pol.nm (by omega) (by omega)) _).trans ?_
 refine (eT (p34 (zbU a.p b.p).1 a.r [b.r, (zbU a.p b.p).2] ga.va (vals2 gb.va (zmU _ _)) (by simp)) _).trans ?_
 rfl
theorem p23 (a : TM) (ga : a.good) (d : Int) : (CW GU LU).p (.func 23) [.agg [.slice .any (a.p.map Tm.cs), .int .i64 a.r.lo, .int .i64 a.r.hi], .int .i64 d] = some (.agg (zp8 a d).cs) := by
 have la := ga.pol.ln
 refine zE (h := []) ?_ rfl
 rw [e23]
 refine (eP' (p49 a.p d ga.pol.ok (by unfold few; omega)) _).trans ?_
 refine (eT (p34 (zeI a.p d).1 a.r [(zeI a.p d).2] ga.va (vals1 (zrm _ _)) (by simp)) _).trans ?_
 rfl
theorem p18 (a : TM) (ga : a.good) : (CW GU LU).p (.func 18) [.agg [.slice .any (a.p.map Tm.cs), .int .i64 a.r.lo, .int .i64 a.r.hi]] = some (.agg (zp9 a).c) := by
 have la := ga.pol.ln
 refine zE (h := []) ?_ rfl
 rw [e18]
 refine (zc6 (p40 a.p ga.pol.ok (by unfold few; omega) ga.pol.nm) _).trans ?_
 refine (zc6 (p44 (zcY a.p) a.r (zje ga.pol.nm) ga.va) _).trans ?_
 rfl
theorem p21 (a : TM) (ga : a.good) (b : List Iv) (hb : zcp b) (hl : b.length ≤ 1000000) : (CW GU LU).p (.func 21) [.agg [.slice .any (a.p.map Tm.cs), .int .i64 a.r.lo, .int .i64 a.r.hi], .slice .any (b.map Iv.c)] = some (.agg (zoH a b).c) := by
 have la := ga.pol.ln
 refine zE (h := []) ?_ rfl
 rw [e21]
 refine (zc6 (p47 a.p ga.pol.ok (by unfold few; omega) b hb hl) _).trans ?_
 refine (zc6 (p44 (zf2 b a.p) a.r (ziE b a.p _ (zfe 0)) ga.va) _).trans ?_
 rfl
theorem p13 (a b : TM) (ga : a.good) (gb : b.good) (d : Int) : (CW GU LU).p (.func 13) [.agg [.slice .any (a.p.map Tm.cs), .int .i64 a.r.lo, .int .i64 a.r.hi], .agg [.slice .any (b.p.map Tm.cs), .int .i64 b.r.lo, .int .i64 b.r.hi], .int .i64 d] = some (.agg (tMul a b d).cs) := by
 have la := ga.pol.ln
 have lb := gb.pol.ln
 refine zE (h := []) ?_ rfl
 rw [e13]
 refine (zaC (p9 _ _) _).trans ?_
 unfold tMul
 cases w1 : a.r.isW
 ·refine (cF rfl _ _).trans ?_
  refine (zaC (p9 _ _) _).trans ?_
  cases w2 : b.r.isW
  ·refine (cF rfl _ _).trans ?_
   have va := mul_va ga.pol.fi gb.pol.fi d
   refine (eP' (p38 a.p b.p ga.pol.fi la gb.pol.fi lb d) _).trans ?_
   refine (zc6 (p40 a.p ga.pol.ok (by unfold few; omega) ga.pol.nm) _).trans ?_
   refine (zc6 (p39 (zcY a.p) b.r (zje ga.pol.nm) gb.va) _).trans ?_
   refine (zc6 (p40 b.p gb.pol.ok (by unfold few; omega) gb.pol.nm) _).trans ?_
   refine (zc6 (p39 (zcY b.p) a.r (zje gb.pol.nm) ga.va) _).trans ?_
   refine (zc6 (p39 a.r b.r ga.va gb.va) _).trans ?_
   refine (eT (p34 (zfM a.p b.p d).1 (zfM a.p b.p d).2 [(zcY a.p).mul b.r, (zcY b.p).mul a.r, a.r.mul b.r] va (vals3 (zeU _ _) (zeU _ _) (zeU _ _)) (by simp)) _).trans ?_
   rfl
  ·refine (cT rfl _ _).trans ?_
   refine (eT p29 _).trans ?_
   rfl
 ·refine (cT rfl _ _).trans ?_
  refine (eT p29 _).trans ?_
  rfl
theorem p7 (a : Iv) (va : a.valid) : (CW GU LU).p (.func 7) [.agg [.int .i64 a.lo, .int .i64 a.hi]] = some (.agg (zbA a).cs) := by
 have hm := zg2 va.1
 have ⟨v1, v2, v3, _⟩ := va
 refine zE (h := []) ?_ rfl
 rw [e7]
 refine (zaC (p9 _ _) _).trans ?_
 unfold zbA
 cases w1 : a.isW
 ·refine (cF rfl _ _).trans ?_
  refine (zi2 (p28 a va) _).trans ?_
  refine (zlC (p33 (mid a)) _).trans ?_
  rw [w64 (x := a.lo - mid a) (by omega) (by omega), w64 (x := a.hi - mid a) (by omega) (by omega)]
  refine (zc6 (zi3 _ _) _).trans ?_
  refine (eT (p34 (zaK (mid a)) (Iv.new (a.lo - mid a) (a.hi - mid a)) [] (zco (by omega)) (fun x hx => by cases hx) (by simp)) _).trans ?_
  rfl
 ·refine (cT rfl _ _).trans ?_
  refine (eT p29 _).trans ?_
  rfl
theorem p24 (a : TM) (ga : a.good) (c : Iv) (vc : c.valid) : (CW GU LU).p (.func 24) [.agg [.slice .any (a.p.map Tm.cs), .int .i64 a.r.lo, .int .i64 a.r.hi], .agg [.int .i64 c.lo, .int .i64 c.hi]] = some (.agg (tMulI a c).cs) := by
 refine zE (h := []) ?_ rfl
 rw [e24]
 refine (eT (p7 c vc) _).trans ?_
 refine (eT (p13 a (zbA c) ga (zkb vc) 6) _).trans ?_
 rfl
theorem tm_ext {a b : TM} (h1 : a.p = b.p) (h2 : a.r = b.r) : a = b := by cases a; cases b; simp only at h1 h2; rw [h1, h2]
theorem p16 (a b : TM) (oa : oks a.p) (ob : oks b.p) (la : a.p.length ≤ 100000) : ∃ v, (CW GU LU).p (.func 16) [.agg [.slice .any (a.p.map Tm.cs), .int .i64 a.r.lo, .int .i64 a.r.hi], .agg [.slice .any (b.p.map Tm.cs), .int .i64 b.r.lo, .int .i64 b.r.hi]] = some (.bool v) ∧ (v = true ↔ a = b) := by
 by_cases h : (((a.r.lo == b.r.lo) && ((a.r.hi == b.r.hi) && true)) : Bool) = true
 ·refine ⟨decide (a.p = b.p), zE (h := []) ?_ rfl, ?_⟩
  ·rw [e16]
   refine (cT h _ _).trans ?_
   refine (zaC (p43 a.p b.p oa ob la) _).trans ?_
   rfl
  ·simp only [Bool.and_eq_true, beq_iff_eq, and_true] at h
   rw [decide_eq_true_eq]
   have er : a.r = b.r := by
    revert h
    cases a.r; cases b.r
    intro h
    simp only at h
    rw [h.1, h.2]
   exact ⟨fun e => tm_ext e er, fun e => by rw [e]⟩
 ·refine ⟨false, zE (h := []) ?_ rfl, ?_⟩
  ·rw [e16]
   exact cF (by simpa using h) _ _
  ·refine ⟨fun e => (by cases e), fun e => absurd ?_ h⟩
   rw [e]; simp
end Go.Ab
namespace Go.Ab
end Go.Ab
namespace Go.Ab
def ic (z : Int) : List V := [.int .i8 z]
theorem zqb (z : Int) : (ic z).length = 1 := rfl
def cw (s : List Int) (k : Nat) : Int := if h : k < s.length then s[k].tmod 2 else 0
def wpt (s : List Int) : Pt := ⟨cw s 0, cw s 1, cw s 2, cw s 3, cw s 4, cw s 5⟩
def i8s (s : List Int) : Prop := ∀ z ∈ s, -128 ≤ z ∧ z ≤ 127
theorem zem (s : List Int) (k : Nat) : -1 ≤ cw s k ∧ cw s k ≤ 1 := by
 unfold cw
 split
 ·have h1 := Int.tmod_lt_of_pos (s[k]) (show (0 : Int) < 2 by decide)
  have h2 := Int.lt_tmod_of_pos (s[k]) (show (0 : Int) < 2 by decide)
  omega
 ·omega
theorem zfk (s : List Int) : (wpt s).cor := ⟨zem s 0, zem s 1, zem s 2, zem s 3, zem s 4, zem s 5⟩
theorem zr9 {b x w : Int} (h : -b ≤ x ∧ x ≤ b) (hw : -1 ≤ w ∧ w ≤ 1) : -b ≤ x * w ∧ x * w ≤ b := by
 rcases tri hw.1 hw.2 with e | e | e <;> rw [e] <;> omega
theorem zeD {b x w : Int} (h : -b ≤ x ∧ x ≤ b) (hw : -1 ≤ w ∧ w ≤ 1) (n : Nat) : -b ≤ x * w ^ n ∧ x * w ^ n ≤ b := by
 obtain ⟨a, c, _⟩ := zaU hw n
 exact zr9 h ⟨a, c⟩
def acP (p : List Tm) (s : List Int) (o i c k w n : Int) : St := zeT (p.map Tm.cs) (s.map ic) o i c k w n
theorem ac_pow (p : List Tm) (s : List Int) (i : Nat) (hi : i < p.length) (o c : Int) (k u : Nat) (w : Int) (hk : k < 6)
  (hu : zbK [p[i].c, ((p[i].e.a : Nat) : Int), ((p[i].e.b : Nat) : Int), ((p[i].e.c : Nat) : Int), ((p[i].e.d : Nat) : Int), ((p[i].e.e : Nat) : Int), ((p[i].e.f : Nat) : Int)] (1 + k * 1) = some ((u : Nat) : Int)) (hu2 : u ≤ 6) (hw : -1 ≤ w ∧ w ≤ 1) (hc : -2147483648 ≤ c ∧ c ≤ 2147483648) :
  zas (zw GU LU (CW GU LU) 37 none 13) (acP p s o ((i : Nat) : Int) c ((k : Nat) : Int) w 0) = some (.exit 4, acP p s o ((i : Nat) : Int) (c * w ^ u) ((k : Nat) : Int) w ((u : Nat) : Int)) := by
 have hkk : k = 0 ∨ k = 1 ∨ k = 2 ∨ k = 3 ∨ k = 4 ∨ k = 5 := by omega
 have bo : (false || ((true && (Nat.beq (1 + ((((k : Nat) : Int)).toNat * 1)) 1)) || ((true && (Nat.beq (1 + ((((k : Nat) : Int)).toNat * 1)) 2)) || ((true && (Nat.beq (1 + ((((k : Nat) : Int)).toNat * 1)) 3)) || ((true && (Nat.beq (1 + ((((k : Nat) : Int)).toNat * 1)) 4)) || ((true && (Nat.beq (1 + ((((k : Nat) : Int)).toNat * 1)) 5)) || ((true && (Nat.beq (1 + ((((k : Nat) : Int)).toNat * 1)) 6)) || false))))))) = true := by
  rcases hkk with rfl | rfl | rfl | rfl | rfl | rfl <;> rfl
 have e2 : decide ((0 : Int) ≤ ((k : Nat) : Int)) = true := by simp
 have e3 : decide ((((k : Nat) : Int)).toNat < 6) = true := by simp; omega
 have st : ∀ (x : Int) (n : Nat), n ≤ 6 → zw GU LU (CW GU LU) 37 none 13 (acP p s o ((i : Nat) : Int) x ((k : Nat) : Int) w ((n : Nat) : Int)) =
   cond (decide (((n : Nat) : Int) < ((u : Nat) : Int))) (some (.normal, acP p s o ((i : Nat) : Int) (IntKind.wrap .i64 (x * w)) ((k : Nat) : Int) w ((n + 1 : Nat) : Int))) (some (.exit 4, acP p s o ((i : Nat) : Int) x ((k : Nat) : Int) w ((n : Nat) : Int))) := by
  intro x n hn
  have w8 : IntKind.wrap .u8 (((n : Nat) : Int) + 1) = ((n + 1 : Nat) : Int) := wu8 (x := n) (y := 1) rfl (by omega)
  have h8 : decide (((n : Nat) : Int) < 8) = true := by simp; omega
  have hg := zeh p i hi
  unfold acP
  rw [e37_13, e2, e3, bo, w8, h8, Int.toNat_natCast]
  refine (zaE hg _).trans ?_
  iterate 15 refine (zaE rfl _).trans ?_
  refine (cT rfl _ _).trans ?_
  refine (cT rfl _ _).trans ?_
  refine (cT rfl _ _).trans ?_
  refine (zaE hu _).trans ?_
  rfl
 have := zdg (round := zw GU LU (CW GU LU) 37 none 13) (fun n => acP p s o ((i : Nat) : Int) (c * w ^ n) ((k : Nat) : Int) w ((n : Nat) : Int)) u (id := 4)
  (fun n hn => by
   have b := zeD hc hw (n + 1)
   rw [st _ n (by omega), show c * w ^ n * w = c * w ^ (n + 1) by rw [Int.pow_succ, Int.mul_assoc], w64 (by omega) (by omega)]
   exact cT (decide_eq_true (by omega)) _ _)
  (by rw [st _ u hu2]; exact cF (decide_eq_false (by omega)) _ _)
 rw [Int.pow_zero, Int.mul_one] at this
 exact this
def acV (p : List Tm) (s : List Int) (o i c k : Int) : St := zie (p.map Tm.cs) (s.map ic) o i c k
theorem zgw (p : List Tm) (s : List Int) (hs : i8s s) (hsl : s.length < 9223372036854775808) (i : Nat) (hi : i < p.length) (o c : Int) (k u : Nat) (hk : k < 6)
  (hu : zbK [p[i].c, ((p[i].e.a : Nat) : Int), ((p[i].e.b : Nat) : Int), ((p[i].e.c : Nat) : Int), ((p[i].e.d : Nat) : Int), ((p[i].e.e : Nat) : Int), ((p[i].e.f : Nat) : Int)] (1 + k * 1) = some ((u : Nat) : Int)) (hu2 : u ≤ 6) (hc : -2147483648 ≤ c ∧ c ≤ 2147483648) :
  zw GU LU (CW GU LU) 37 none 7 (acV p s o ((i : Nat) : Int) c ((k : Nat) : Int)) = some (.normal, acV p s o ((i : Nat) : Int) (c * cw s k ^ u) ((k + 1 : Nat) : Int)) := by
 have e1 : decide (((k : Nat) : Int) < 6) = true := by simp; omega
 have ws := zbS k (by omega)
 have hp := ac_pow p s i hi o c k u (cw s k) hk hu hu2 (zem s k) hc
 have hlen : decide (((k : Nat) : Int) < (((s.map ic).length : Nat) : Int)) = decide (k < s.length) := by rw [decide_eq_decide, List.length_map]; omega
 have g : ∀ t, t = acP p s o ((i : Nat) : Int) (c * cw s k ^ u) ((k : Nat) : Int) (cw s k) ((u : Nat) : Int) →
   nth t.t 0 = .slice .any (p.map Tm.cs) ∧ nth t.t 1 = .slice .any (s.map ic) ∧ nth t.t 5 = .int .i64 o ∧ nth t.t 6 = .int .i64 ((i : Nat) : Int) ∧ nth t.t 7 = .int .i64 (c * cw s k ^ u) ∧ nth t.t 8 = .int .i64 ((k : Nat) : Int) ∧ nth t.t 9 = .int .i64 (cw s k) ∧ nth t.t 10 = .int .u8 ((u : Nat) : Int) := by
  intro t ht; subst ht
  exact ⟨rfl, rfl, rfl, rfl, rfl, rfl, rfl, rfl⟩
 obtain ⟨g1, g2, g3, g4, g5, g6, g7, g8⟩ := g _ rfl
 unfold acV
 rw [e37_7, e1, hlen]
 refine (cT rfl _ _).trans ?_
 by_cases hks : k < s.length
 ·have hg := zdv ic zqb s k hks
  have hz := hs _ (List.getElem_mem hks)
  have hcw : Int.tmod (IntKind.wrap .i64 s[k]) 2 = cw s k := by
   unfold cw
   rw [dif_pos hks, w64 (by omega) (by omega)]
  refine (cT (decide_eq_true hks) _ _).trans ?_
  refine (zaE hg _).trans ?_
  iterate 3 refine (zaE rfl _).trans ?_
  rw [zbo, hcw]
  refine (zae hp _).trans ?_
  rw [Option.bind_some]
  dsimp only
  rw [g1, g2, g3, g4, g5, g6, g7, g8]
  refine (cT rfl _ _).trans ?_
  iterate 8 refine (zaE rfl _).trans ?_
  rw [ws]
 ·have hcw : cw s k = 0 := by
   unfold cw
   rw [dif_neg hks]
  have hp0 : zas (zw GU LU (CW GU LU) 37 none 13) (zeT (p.map Tm.cs) (s.map ic) o ((i : Nat) : Int) c ((k : Nat) : Int) 0 0) = some (.exit 4, acP p s o ((i : Nat) : Int) (c * cw s k ^ u) ((k : Nat) : Int) (cw s k) ((u : Nat) : Int)) := by
   have z := hp
   conv at z => lhs; rw [hcw]
   exact z
  refine (cF (decide_eq_false hks) _ _).trans ?_
  rw [zbo]
  refine (zae hp0 _).trans ?_
  rw [Option.bind_some]
  dsimp only
  rw [g1, g2, g3, g4, g5, g6, g7, g8]
  refine (cT rfl _ _).trans ?_
  iterate 8 refine (zaE rfl _).trans ?_
  rw [ws]
theorem zsa (p : List Tm) (s : List Int) (hs : i8s s) (hsl : s.length < 9223372036854775808) (i : Nat) (hi : i < p.length) (o : Int) (hd : p[i].e.deg ≤ 6) (hn : zs p[i].c) :
  zas (zw GU LU (CW GU LU) 37 none 7) (acV p s o ((i : Nat) : Int) p[i].c 0) = some (.exit 2, acV p s o ((i : Nat) : Int) (p[i].c * mono (wpt s) p[i].e) 6) ∧ (-2147483648 ≤ p[i].c * mono (wpt s) p[i].e ∧ p[i].c * mono (wpt s) p[i].e ≤ 2147483648) := by
 unfold E6.deg at hd
 unfold zs at hn
 have b0 : -2147483648 ≤ p[i].c ∧ p[i].c ≤ 2147483648 := by omega
 have b1 := zeD b0 (zem s 0) p[i].e.a
 have b2 := zeD b1 (zem s 1) p[i].e.b
 have b3 := zeD b2 (zem s 2) p[i].e.c
 have b4 := zeD b3 (zem s 3) p[i].e.d
 have b5 := zeD b4 (zem s 4) p[i].e.e
 have b6 := zeD b5 (zem s 5) p[i].e.f
 have e : p[i].c * cw s 0 ^ p[i].e.a * cw s 1 ^ p[i].e.b * cw s 2 ^ p[i].e.c * cw s 3 ^ p[i].e.d * cw s 4 ^ p[i].e.e * cw s 5 ^ p[i].e.f = p[i].c * mono (wpt s) p[i].e := by
  unfold mono wpt
  simp only [Int.mul_assoc]
 rw [e] at b6
 refine ⟨?_, b6⟩
 refine (zn (zgw p s hs hsl i hi o _ 0 p[i].e.a (by omega) rfl (by omega) b0)).trans ?_
 refine (zn (zgw p s hs hsl i hi o _ 1 p[i].e.b (by omega) rfl (by omega) b1)).trans ?_
 refine (zn (zgw p s hs hsl i hi o _ 2 p[i].e.c (by omega) rfl (by omega) b2)).trans ?_
 refine (zn (zgw p s hs hsl i hi o _ 3 p[i].e.d (by omega) rfl (by omega) b3)).trans ?_
 refine (zn (zgw p s hs hsl i hi o _ 4 p[i].e.e (by omega) rfl (by omega) b4)).trans ?_
 refine (zn (zgw p s hs hsl i hi o _ 5 p[i].e.f (by omega) rfl (by omega) b5)).trans ?_
 rw [e]
 exact zb4 (e37_7 _ _ _ _ _ _ _)
end Go.Ab
namespace Go.Ab
def acR (p : List Tm) (s : List Int) (o i : Int) : St := zid (p.map Tm.cs) (s.map ic) o i
theorem zrn (p : List Tm) (s : List Int) (hs : i8s s) (hsl : s.length < 9223372036854775808) (i : Nat) (hi : i < p.length) (o : Int) (ho : -1000000000000 ≤ o ∧ o ≤ 1000000000000) (hd : p[i].e.deg ≤ 6) (hn : zs p[i].c) (hl : p.length ≤ 1000) :
  zw GU LU (CW GU LU) 37 none 3 (acR p s o ((i : Nat) : Int)) = some (.normal, acR p s (o + p[i].c * mono (wpt s) p[i].e) ((i + 1 : Nat) : Int)) := by
 obtain ⟨hv, b1, b2⟩ := zsa p s hs hsl i hi o hd hn
 have hg := zeh p i hi
 have ws := zbS i (by omega)
 have ww : IntKind.wrap .i64 (o + p[i].c * mono (wpt s) p[i].e) = o + p[i].c * mono (wpt s) p[i].e := w64 (by omega) (by omega)
 have g : ∀ t, t = acV p s o ((i : Nat) : Int) (p[i].c * mono (wpt s) p[i].e) 6 →
   nth t.t 0 = .slice .any (p.map Tm.cs) ∧ nth t.t 1 = .slice .any (s.map ic) ∧ nth t.t 5 = .int .i64 o ∧ nth t.t 6 = .int .i64 ((i : Nat) : Int) ∧ nth t.t 7 = .int .i64 (p[i].c * mono (wpt s) p[i].e) ∧ nth t.t 8 = .int .i64 6 := by
  intro t ht; subst ht
  exact ⟨rfl, rfl, rfl, rfl, rfl, rfl⟩
 obtain ⟨g1, g2, g3, g4, g5, g6⟩ := g _ rfl
 have e1 : decide (((i : Nat) : Int) < (((p.map Tm.cs).length : Nat) : Int)) = true := by rw [List.length_map]; exact zcJ hi
 unfold acR
 rw [e37_3, e1]
 refine (cT rfl _ _).trans ?_
 refine (zaE hg _).trans ?_
 iterate 15 refine (zaE rfl _).trans ?_
 rw [zbo]
 refine (zae hv _).trans ?_
 rw [Option.bind_some]
 dsimp only
 rw [g1, g2, g3, g4, g5, g6]
 refine (cT rfl _ _).trans ?_
 iterate 6 refine (zaE rfl _).trans ?_
 rw [ww, ws]
theorem zoK {φ : E6 → Int} (h : Cor φ) : ∀ p : List Tm, zbc p → -(2147483648 * (p.length : Int)) ≤ lin φ p ∧ lin φ p ≤ 2147483648 * (p.length : Int)
 | [], _ => by rw [zgt]; simp
 | t :: p, hn => by
  have ih := zoK h p fun u hu => hn u (by simp [hu])
  have ht := hn t (by simp)
  have r := zr5 h t
  have b := zp6 t ht
  unfold zs at b
  rw [zcb, List.length_cons]
  omega
theorem zro (φ : E6 → Int) (p : List Tm) (t : Tm) : lin φ (p ++ [t]) = lin φ p + t.c * φ t.e := by
 rw [zr4]
 show _ + (t.c * φ t.e + 0) = _
 omega
def cv (m : List Tm) (s : List Int) : Int := lin (mono (wpt s)) m
theorem cv_b {p : List Tm} (hp : Pol p) (s : List Int) : -214748364800 ≤ cv p s ∧ cv p s ≤ 214748364800 := by
 have := zoK (zeC (zfk s)) p hp.nm
 have := hp.ln
 unfold cv
 omega
theorem p37 (p : List Tm) (hp : Pol p) (s : List Int) (hs : i8s s) (hsl : s.length < 9223372036854775808) : (CW GU LU).p (.func 37) [.slice .any (p.map Tm.cs), .slice .any (s.map ic)] = some (.int .i64 (cv p s)) := by
 have hl := hp.ln
 have hloop := zdg (round := zw GU LU (CW GU LU) 37 none 3) (fun i => acR p s (lin (mono (wpt s)) (p.take i)) ((i : Nat) : Int)) p.length (id := 0)
  (fun i hi => by
   have hm := List.getElem_mem hi
   have b := zoK (zeC (zfk s)) (p.take i) fun t ht => hp.nm t (List.mem_of_mem_take ht)
   simp only [List.length_take] at b
   rw [zrn p s hs hsl i hi _ (by omega) (hp.fi _ hm).2.2 (hp.nm _ hm) (by omega), zdh hi, zro])
  (by unfold acR; rw [e37_3, List.length_map, zci]; rfl)
 simp only [List.take_length, List.take_zero] at hloop
 refine zE (h := []) ?_ rfl
 rw [e37, zbo]
 refine (zae (x := zas (zw GU LU (CW GU LU) 37 none 3) (zid (p.map Tm.cs) (s.map ic) 0 0)) hloop _).trans ?_
 have g : ∀ t, t = acR p s (lin (mono (wpt s)) p) ((p.length : Nat) : Int) → nth t.t 0 = .slice .any (p.map Tm.cs) ∧ nth t.t 1 = .slice .any (s.map ic) ∧ nth t.t 5 = .int .i64 (lin (mono (wpt s)) p) ∧ nth t.t 6 = .int .i64 ((p.length : Nat) : Int) := by
  intro t ht; subst ht
  exact ⟨rfl, rfl, rfl, rfl⟩
 obtain ⟨g1, g2, g3, g4⟩ := g _ rfl
 rw [Option.bind_some]
 dsimp only
 rw [g1, g2, g3, g4]
 refine (cT rfl _ _).trans ?_
 iterate 4 refine (zaE rfl _).trans ?_
 rfl
def vat (m : TM) (s : List Int) (x : Int) : Int := cv m.p s + m.r.lo + (m.r.hi - m.r.lo) * x / 65535
theorem zqc {d x : Int} (h0 : 0 ≤ d) (hx : 0 ≤ x ∧ x ≤ 65535) : 0 ≤ d * x / 65535 ∧ d * x / 65535 ≤ d := by
 have h1 : 0 ≤ d * x := Int.mul_nonneg h0 hx.1
 have h2 : d * x ≤ d * 65535 := Int.mul_le_mul_of_nonneg_left hx.2 h0
 omega
theorem p11 (m : TM) (g : m.good) (s : List Int) (hs : i8s s) (hsl : s.length < 9223372036854775808) (x : Int) (hx : 0 ≤ x ∧ x ≤ 65535) : (CW GU LU).p (.func 11) [.agg [.slice .any (m.p.map Tm.cs), .int .i64 m.r.lo, .int .i64 m.r.hi], .slice .any (s.map ic), .int .u16 x] = some (.int .i64 (vat m s x)) := by
 have b := cv_b g.pol s
 obtain ⟨v1, v2, v3, _⟩ := g.va
 have f := zqc (d := m.r.hi - m.r.lo) (by omega) hx
 have h1 : 0 ≤ (m.r.hi - m.r.lo) * x := Int.mul_nonneg (by omega) hx.1
 have h2 : (m.r.hi - m.r.lo) * x ≤ (m.r.hi - m.r.lo) * 65535 := Int.mul_le_mul_of_nonneg_left hx.2 (by omega)
 refine zE (h := []) ?_ rfl
 rw [e11]
 refine (zi2 (p37 m.p g.pol s hs hsl) _).trans ?_
 rw [w64 (x := m.r.hi - m.r.lo) (by omega) (by omega), w64 (x := x) (by omega) (by omega), w64 (x := (m.r.hi - m.r.lo) * x) (by omega) (by omega), Int.tdiv_eq_ediv_of_nonneg h1, w64 (x := (m.r.hi - m.r.lo) * x / 65535) (by omega) (by omega), w64 (x := cv m.p s + m.r.lo) (by omega) (by omega), w64 (by omega) (by omega)]
 rfl
theorem p10 (m : TM) (g : m.good) (s : List Int) (hs : i8s s) (hsl : s.length < 9223372036854775808) (x : Int) : ∃ v, (CW GU LU).p (.func 10) [.agg [.slice .any (m.p.map Tm.cs), .int .i64 m.r.lo, .int .i64 m.r.hi], .slice .any (s.map ic), .int .i64 x] = some (.bool v) ∧ (v = true ↔ hv (mono (wpt s)) m x) := by
 have b := cv_b g.pol s
 obtain ⟨v1, v2, v3, _⟩ := g.va
 have w1 : IntKind.wrap .i64 (IntKind.wrap .i64 (cv m.p s + m.r.lo) * 65536) = (cv m.p s + m.r.lo) * 65536 := by rw [w64 (x := cv m.p s + m.r.lo) (by omega) (by omega), w64 (by omega) (by omega)]
 have w2 : IntKind.wrap .i64 (IntKind.wrap .i64 (cv m.p s + m.r.hi) * 65536) = (cv m.p s + m.r.hi) * 65536 := by rw [w64 (x := cv m.p s + m.r.hi) (by omega) (by omega), w64 (by omega) (by omega)]
 have ec : cv m.p s = lin (mono (wpt s)) m.p := rfl
 cases w : m.r.isW
 ·by_cases h1 : (cv m.p s + m.r.lo) * 65536 ≤ x
  ·refine ⟨decide (x ≤ (cv m.p s + m.r.hi) * 65536), zE (h := []) ?_ rfl, ?_⟩
   ·rw [e10]
    refine (zi2 (p37 m.p g.pol s hs hsl) _).trans ?_
    refine (zaC (p8 _ _) _).trans ?_
    refine (cF w _ _).trans ?_
    rw [w1, w2]
    exact cT (decide_eq_true h1) _ _
   ·rw [decide_eq_true_eq]
    unfold hv
    rw [w, ← ec]
    constructor
    ·intro h2; exact .inr ⟨by omega, by omega⟩
    ·intro h2
     rcases h2 with h2 | h2
     ·cases h2
     ·omega
  ·refine ⟨false, zE (h := []) ?_ rfl, ?_⟩
   ·rw [e10]
    refine (zi2 (p37 m.p g.pol s hs hsl) _).trans ?_
    refine (zaC (p8 _ _) _).trans ?_
    refine (cF w _ _).trans ?_
    rw [w1, w2]
    exact cF (decide_eq_false h1) _ _
   ·unfold hv
    rw [w, ← ec]
    constructor
    ·intro h2; cases h2
    ·intro h2
     rcases h2 with h2 | h2
     ·cases h2
     ·omega
 ·refine ⟨true, zE (h := []) ?_ rfl, ?_⟩
  ·rw [e10]
   refine (zi2 (p37 m.p g.pol s hs hsl) _).trans ?_
   refine (zaC (p8 _ _) _).trans ?_
   exact cT w _ _
  ·exact ⟨fun _ => .inl w, fun _ => rfl⟩
theorem zjf {m : TM} (g : m.good) {s : List Int} (hs : i8s s) (hsl : s.length < 9223372036854775808) {x : Int} (h : hv (mono (wpt s)) m x) : (CW GU LU).p (.func 10) [.agg [.slice .any (m.p.map Tm.cs), .int .i64 m.r.lo, .int .i64 m.r.hi], .slice .any (s.map ic), .int .i64 x] = some (.bool true) := by
 obtain ⟨v, h1, h2⟩ := p10 m g s hs hsl x
 rw [h1, h2.2 h]
end Go.Ab
namespace Go.Ab
def zcc (p : List Tm) (i : Nat) : List Tm := (p.take i).map ngT ++ p.drop i
theorem zg3 (p : List Tm) (i : Nat) : (zcc p i).length = p.length := by
 unfold zcc
 rw [List.length_append, List.length_map, List.length_take, List.length_drop]; omega
theorem zmV (p : List Tm) (i : Nat) (hi : i < p.length) : (zcc p i)[i]'(by rw [zg3]; exact hi) = p[i] := by
 unfold zcc
 rw [List.getElem_append_right (by simp; omega)]
 simp only [List.length_map, List.length_take, List.getElem_drop]
 congr 1; omega
theorem zrp (p : List Tm) (i : Nat) (hi : i < p.length) : (zcc p i).set i (ngT p[i]) = zcc p (i + 1) := by
 unfold zcc
 have hl : ((p.take i).map ngT).length = i := by rw [List.length_map, List.length_take]; omega
 rw [List.set_append_right _ _ (by omega), hl, Nat.sub_self, List.drop_eq_getElem_cons hi, List.set_cons_zero, zdh hi, List.map_append, List.append_assoc]
 rfl
def zkF (a : TM) (i : Nat) : St := zic (a.p.map Tm.cs) a.r.lo a.r.hi [] 0 0 ((zcc a.p i).map Tm.cs).length ((a.p.length : Nat) : Int) ((i : Nat) : Int) ((zcc a.p i).map Tm.cs)
theorem zqd (a : TM) (ga : a.good) (i : Nat) (hi : i < a.p.length) : zw GU LU (CW GU LU) 15 none 3 (zkF a i) = some (.normal, zkF a (i + 1)) := by
 have la := ga.pol.ln
 have hm : i < (zcc a.p i).length := by rw [zg3]; exact hi
 have hg := zeh (zcc a.p i) i hm
 rw [zmV a.p i hi] at hg
 have hc := ga.pol.nm _ (List.getElem_mem hi)
 unfold zs at hc
 have ws := zbS i (by omega)
 have wn : IntKind.wrap .i64 (0 - a.p[i].c) = -a.p[i].c := by rw [w64 (by omega) (by omega)]; omega
 have har : zaj [.arr true 7 ((zcc a.p i).map Tm.cs)] 0 ((zcc a.p i).map Tm.cs).length = some ((zcc a.p i).map Tm.cs) := by simp [zaj, zar]
 have e2 : decide ((0 : Int) ≤ ((i : Nat) : Int)) = true := by simp
 have e3 : decide (i < ((zcc a.p i).map Tm.cs).length) = true := by rw [List.length_map]; simpa using hm
 have hd : ((zcc a.p i).map Tm.cs).getD i [] = a.p[i].cs := by
  rw [List.getD_eq_getElem?_getD, List.getElem?_map, List.getElem?_eq_getElem hm, zmV a.p i hi]; rfl
 have zac : ((zcc a.p i).map Tm.cs).set i (.int .i64 (-a.p[i].c) :: zag 1 a.p[i].cs) = (zcc a.p (i + 1)).map Tm.cs := by
  rw [← zrp a.p i hi, List.map_set]; rfl
 have hlen : ((zcc a.p i).map Tm.cs).length = ((zcc a.p (i + 1)).map Tm.cs).length := by rw [List.length_map, List.length_map, zg3, zg3]
 unfold zkF
 rw [e15_3, zcJ hi, e2, Int.toNat_natCast, e3]
 refine (cT rfl _ _).trans ?_
 refine (cT rfl _ _).trans ?_
 refine (cT rfl _ _).trans ?_
 refine (zaE har _).trans ?_
 refine (zaE hg _).trans ?_
 iterate 4 refine (zaE rfl _).trans ?_
 refine (cT rfl _ _).trans ?_
 refine (cT rfl _ _).trans ?_
 refine (cT (decide_eq_true rfl) _ _).trans ?_
 rw [hd, wn, zac, ws, hlen]
theorem zqe (p : List Tm) (hl : p.length ≤ 1000) : (CW GU LU).s (.func 41) [.slice .any (p.map Tm.cs)] [] = some (.arr 0 (p.map Tm.cs).length 7, [.arr true 7 (p.map Tm.cs)]) := by
 refine zdD ?_
 have hs : ∀ C, zM GU LU C (.func 41) [.slice .any (p.map Tm.cs)] [] = zgo [.slice .any (p.map Tm.cs)] [] := fun C => by kernel_rfl
 rw [hs]
 unfold zgo
 dsimp only
 rw [if_pos]
 ·rfl
 ·refine ⟨?_, by rw [List.length_map]; omega⟩
  unfold zpE
  rw [List.all_eq_true]
  intro r hr
  obtain ⟨t, _, rfl⟩ := List.mem_map.1 hr
  rfl
theorem p15 (a : TM) (ga : a.good) : (CW GU LU).p (.func 15) [.agg [.slice .any (a.p.map Tm.cs), .int .i64 a.r.lo, .int .i64 a.r.hi]] = some (.agg (ze1 a).cs) := by
 have la := ga.pol.ln
 have hl := zdg (round := zw GU LU (CW GU LU) 15 none 3) (zkF a) a.p.length (id := 0) (fun i hi => zqd a ga i hi) (by unfold zkF; rw [e15_3, zci]; rfl)
 unfold zkF at hl
 have m0 : zcc a.p 0 = a.p := rfl
 have m1 : zcc a.p a.p.length = a.p.map ngT := by unfold zcc; rw [List.take_length, List.drop_length, List.append_nil]
 rw [m0, m1] at hl
 have hcl := zqe a.p (by omega)
 have hln : (((a.p.map Tm.cs).length : Nat) : Int) = ((a.p.length : Nat) : Int) := by rw [List.length_map]
 have nr := p34 (a.p.map ngT) a.r.neg [] (zhC ga.va) (fun x hx => by cases hx) (by simp)
 generalize hQ : (a.p.map ngT).map Tm.cs = Q at *
 refine zE (h := [.arr false 7 Q]) ?_ rfl
 rw [e15]
 refine (zaE hcl _).trans ?_
 iterate 3 refine (zaE rfl _).trans ?_
 rw [zbo, hln]
 refine (zae hl _).trans ?_
 have g : ∀ t, t = zic (a.p.map Tm.cs) a.r.lo a.r.hi [] 0 0 Q.length ((a.p.length : Nat) : Int) ((a.p.length : Nat) : Int) Q →
   nth t.t 1 = .box [.slice .any (a.p.map Tm.cs), .int .i64 a.r.lo, .int .i64 a.r.hi] ∧ nth t.t 2 = .box [.slice .any [], .int .i64 0, .int .i64 0] ∧ nth t.t 3 = .arr 0 Q.length 7 ∧ nth t.t 9 = .int .i64 ((a.p.length : Nat) : Int) ∧ nth t.t 10 = .int .i64 ((a.p.length : Nat) : Int) ∧ t.h = [.arr true 7 Q] := by
  intro t ht; subst ht
  exact ⟨rfl, rfl, rfl, rfl, rfl, rfl⟩
 obtain ⟨g1, g2, g3, g4, g5, g6⟩ := g _ rfl
 have har : zaj [.arr true 7 Q] 0 Q.length = some Q := by simp [zaj, zar]
 rw [Option.bind_some]
 dsimp only
 rw [g1, g2, g3, g4, g5, g6]
 refine (cT rfl _ _).trans ?_
 iterate 21 refine (zaE rfl _).trans ?_
 refine (zaE har _).trans ?_
 refine (zc6 (p42 a.r ga.va) _).trans ?_
 refine (eT nr _).trans ?_
 rfl
theorem p19 (a b : TM) (ga : a.good) (gb : b.good) : (CW GU LU).p (.func 19) [.agg [.slice .any (a.p.map Tm.cs), .int .i64 a.r.lo, .int .i64 a.r.hi], .agg [.slice .any (b.p.map Tm.cs), .int .i64 b.r.lo, .int .i64 b.r.hi]] = some (.agg (tSub a b).cs) := by
 refine zE (h := []) ?_ rfl
 rw [e19]
 refine (eT (p15 b gb) _).trans ?_
 refine (eT (p14 a (ze1 b) ga (zmR gb)) _).trans ?_
 rfl
end Go.Ab
namespace Go.Ab
end Go.Ab
namespace Go.Ab
theorem p12 (a b : Int) (h1 : -1000000 ≤ a ∧ a ≤ 1000000) (h2 : -1000000 ≤ b ∧ b ≤ 1000000) : (CW GU LU).p (.func 12) [.int .i64 a, .int .i64 b] = some (.agg [.int .i64 (a * 65536), .int .i64 (b * 65536)]) := by
 refine zE (h := []) ?_ rfl
 rw [e12, w64 (by omega) (by omega), w64 (by omega) (by omega)]
end Go.Ab
namespace Go.Ab
theorem p46 (a : Iv) : (CW GU LU).p (.func 46) [.agg [.int .i64 a.lo, .int .i64 a.hi]] = some (.bool (a.isW || decide (zs a.lo ∧ zs a.hi ∧ a.lo ≤ a.hi))) := by
 refine zE (h := []) ?_ rfl
 rw [e46]
 refine (zaC (p9 _ _) _).trans ?_
 cases w : a.isW
 ·refine (cF rfl _ _).trans ?_
  refine (zaC (p60 _) _).trans ?_
  by_cases h1 : zs a.lo
  ·refine (cT (decide_eq_true h1) _ _).trans ?_
   refine (zaC (p60 _) _).trans ?_
   by_cases h2 : zs a.hi
   ·refine (cT (decide_eq_true h2) _ _).trans ?_
    simp [h1, h2]
   ·refine (cF (decide_eq_false h2) _ _).trans ?_
    simp [h2]
  ·refine (cF (decide_eq_false h1) _ _).trans ?_
   simp [h1]
 ·exact cT rfl _ _
def zkc (m : TM) : Bool := decide (zei m.p) && ((m.r.isW || decide (zs m.r.lo ∧ zs m.r.hi ∧ m.r.lo ≤ m.r.hi)) && (decide (m.p = []) || !m.r.isW))
theorem zsb (p : List Tm) : ((((p.map Tm.cs).length : Nat) : Int) == 0) = decide (p = []) := by
 rw [List.length_map]
 cases p with
 | nil => rfl
 | cons t p => simp; omega
theorem p20 (m : TM) (o : oks m.p) (f : few m.p) : (CW GU LU).p (.func 20) [.agg [.slice .any (m.p.map Tm.cs), .int .i64 m.r.lo, .int .i64 m.r.hi]] = some (.bool (zkc m)) := by
 refine zE (h := []) ?_ rfl
 rw [e20, zsb]
 unfold zkc
 refine (zaC (p45 m.p o f) _).trans ?_
 cases decide (zei m.p)
 ·exact cF rfl _ _
 ·refine (cT rfl _ _).trans ?_
  refine (zaC (p46 m.r) _).trans ?_
  cases (m.r.isW || decide (zs m.r.lo ∧ zs m.r.hi ∧ m.r.lo ≤ m.r.hi))
  ·exact cF rfl _ _
  ·refine (cT rfl _ _).trans ?_
   cases decide (m.p = [])
   ·refine (cF rfl _ _).trans ?_
    refine (zaC (p9 _ _) _).trans ?_
    rfl
   ·exact cT rfl _ _
end Go.Ab
namespace Go.Ab
theorem p17 (c i k : Int) (h : -1000000 ≤ c ∧ c ≤ 1000000) : (CW GU LU).p (.func 17) [.int .i64 c, .int .u8 i, .int .u8 k] = some (.agg [.int .i64 (c * 65536), .int .u8 i, .int .u8 k, .int .u8 0, .int .u8 0, .int .u8 0, .int .u8 0]) := by
 refine zE (h := []) ?_ rfl
 rw [e17, w64 (by omega) (by omega)]
theorem znT : ∀ (p : List Tm) (f g : Tm → Int), (∀ t ∈ p, f t ≤ g t) → zbb (p.map f) ≤ zbb (p.map g)
 | [], _, _, _ => Int.le_refl _
 | t :: p, f, g, h => by
  have h1 := h t (by simp)
  have h2 := znT p f g fun u hu => h u (by simp [hu])
  simp only [List.map_cons, zbb]; omega
theorem sc_le (c : Int) (p : List Tm) : zc4 c p ≤ zdR c p := znT p _ _ fun t _ => Int.le_trans (zlD (t.c * c) t.e).2 (zlE (t.c * c)).1
theorem zlf {p : List Tm} (o : oks p) (s : za6 p) (c : Int) : Pol (zbI p c).1 := by
 refine zka (fun t ht => ?_) ?_ _ _ _
 ·obtain ⟨u, hu, rfl⟩ := List.mem_map.1 ht
  exact o u hu
 ·unfold za6
  rw [List.pairwise_map]
  exact s.imp fun {x y} k => k
theorem zmW (p : List Tm) (c : Int) : (zbI p c).2.valid := zel (sc_le c p)
theorem zg4 {i : Int} (h : 0 ≤ i ∧ i ≤ 5) : (E6.unit i).deg = 1 := by
 have : i = 0 ∨ i = 1 ∨ i = 2 ∨ i = 3 ∨ i = 4 ∨ i = 5 := by omega
 rcases this with rfl | rfl | rfl | rfl | rfl | rfl <;> decide
theorem zkG (i : Int) : Pol (zcK i) := by
 unfold zcK
 split
 ·exact zgv
 ·rename_i h
  refine ⟨fun t ht => ?_, fun t ht => ?_, by show List.Pairwise _ [_]; simp, fun t ht => ?_, by simp⟩
  all_goals
   rw [List.mem_singleton.1 ht]
  ·exact znS i
  ·show zs 65536; unfold zs; omega
  ·exact ⟨by show zs 65536; unfold zs; omega, by show (65536 : Int) ≠ 0; decide, by show (E6.unit i).deg ≤ 6; rw [zg4 (by omega)]; omega⟩
theorem zrq (i : Int) {a : Iv} (va : a.valid) : (zdB i a).good := by
 unfold zdB
 split
 ·exact zmT
 ·rename_i h
  have w : a.isW = false := by
   cases e : a.isW
   ·rfl
   ·exact absurd (.inl e) h
  have n := zdX va w
  unfold zs at n
  have m := zg2 va.1
  have pc := zf4 (c := mid a) (by unfold zs; omega)
  have ps := zlf (zkG i).ok (zkG i).st (a.hi - mid a)
  exact zmS (zr7 pc.ok ps.ok pc.st ps.st) (zf1 (zmW _ _) (zmU _ _))
theorem p6 (i : Int) (a : Iv) (va : a.valid) : (CW GU LU).p (.func 6) [.int .i64 i, .agg [.int .i64 a.lo, .int .i64 a.hi]] = some (.agg (zdB i a).cs) := by
 have m := zg2 va.1
 have ⟨v1, v2, v3, _⟩ := va
 refine zE (h := []) ?_ rfl
 rw [e6]
 refine (zi2 (p28 a va) _).trans ?_
 refine (zaC (p9 _ _) _).trans ?_
 unfold zdB
 cases w : a.isW
 ·refine (cF rfl _ _).trans ?_
  rw [w64 (x := a.hi - mid a) (by omega) (by omega)]
  by_cases hb : a.hi - mid a ≥ 2147483648
  ·refine (cT (decide_eq_true hb) _ _).trans ?_
   rw [if_pos (.inr hb)]
   refine (eT p29 _).trans ?_
   rfl
  ·refine (cF (decide_eq_false hb) _ _).trans ?_
   rw [if_neg (by simp; omega)]
   have n := zdX va w
   unfold zs at n
   have pv := zkG i
   have pc := zf4 (c := mid a) (by unfold zs; omega)
   have ps := zlf pv.ok pv.st (a.hi - mid a)
   have l1 := pv.ln
   have l2 := pc.ln
   have l3 := ps.ln
   refine (zlC (p31 i) _).trans ?_
   refine (eP' (p30 (zcK i) (a.hi - mid a) pv.ok pv.nm (by omega) (by unfold zs; omega)) _).trans ?_
   refine (zlC (p33 (mid a)) _).trans ?_
   refine (eP' (p32 (zaK (mid a)) (zbI (zcK i) (a.hi - mid a)).1 pc.ok ps.ok pc.nm ps.nm (by omega) (by omega)) _).trans ?_
   refine (eT (p34 (zbU (zaK (mid a)) (zbI (zcK i) (a.hi - mid a)).1).1 (zbI (zcK i) (a.hi - mid a)).2 [(zbU (zaK (mid a)) (zbI (zcK i) (a.hi - mid a)).1).2] (zmW _ _) (vals1 (zmU _ _)) (by simp)) _).trans ?_
   rfl
 ·refine (cT rfl _ _).trans ?_
  rw [if_pos (.inl rfl)]
  refine (eT p29 _).trans ?_
  rfl
def ptI (z : Int) : Iv := Iv.new (z * 65536) (z * 65536)
def zal (s : List Int) : List Iv := (List.range 6).map fun k => ptI (cw s k)
theorem zrr {z : Int} : (ptI z).valid := zco (Int.le_refl _)
theorem zkd (s : List Int) : (zal s).length = 6 := rfl
theorem zmX (s : List Int) : zcp (zal s) := fun x hx => by
 obtain ⟨k, _, rfl⟩ := List.mem_map.1 hx
 exact zrr
theorem zoL (s : List Int) (k : Nat) (hk : k < (zal s).length) : (zal s)[k] = ptI (cw s k) := by
 simp only [zal, List.getElem_map, List.getElem_range]
theorem zrs (s : List Int) (hs : i8s s) (hsl : s.length < 9223372036854775808) (k : Nat) (hk : k < (zal s).length) :
  zw GU LU (CW GU LU) 22 none 3 (zfb (s.map ic) (((zal s).take k).map Iv.c).length ((k : Nat) : Int) (((zal s).take k).map Iv.c)) = some (.normal, zfb (s.map ic) (((zal s).take (k + 1)).map Iv.c).length ((k + 1 : Nat) : Int) (((zal s).take (k + 1)).map Iv.c)) := by
 have hk6 : k < 6 := hk
 have ws := zbS k (by omega)
 have e1 : decide (((k : Nat) : Int) < 6) = true := by simp; omega
 have hlen : decide (((k : Nat) : Int) < (((s.map ic).length : Nat) : Int)) = decide (k < s.length) := by rw [decide_eq_decide, List.length_map]; omega
 have eL : (((zal s).take k).map Iv.c).length = k := by rw [List.length_map, List.length_take]; omega
 have hroom : decide (((((zal s).take k).map Iv.c).length + 1) * 16 ≤ zaw) = true := by rw [eL]; exact decide_eq_true (by unfold zaw; omega)
 have eN : ((zal s).take (k + 1)).map Iv.c = List.append (((zal s).take k).map Iv.c) [(ptI (cw s k)).c] := by
  rw [zdh hk, zoL, List.map_append]; rfl
 have eM : (((zal s).take (k + 1)).map Iv.c).length = (((zal s).take k).map Iv.c).length + 1 := by
  rw [eN]; exact List.length_append
 rw [e22_3, e1, hlen, hroom]
 refine (cT rfl _ _).trans ?_
 by_cases hks : k < s.length
 ·have hg := zdv ic zqb s k hks
  have hz := hs _ (List.getElem_mem hks)
  have b := zem s k
  have hcw : IntKind.wrap .i64 (Int.tmod (IntKind.wrap .i64 s[k]) 2 * 65536) = cw s k * 65536 := by
   have : Int.tmod (IntKind.wrap .i64 s[k]) 2 = cw s k := by
    unfold cw
    rw [dif_pos hks, w64 (by omega) (by omega)]
   rw [this, w64 (by omega) (by omega)]
  refine (cT (decide_eq_true hks) _ _).trans ?_
  refine (zaE hg _).trans ?_
  iterate 3 refine (zaE rfl _).trans ?_
  rw [hcw]
  refine (zc6 (p48 (cw s k * 65536)) _).trans ?_
  refine (cT (decide_eq_true rfl) _ _).trans ?_
  refine (cT rfl _ _).trans ?_
  rw [eM, eN, ws]
  rfl
 ·have hcw : cw s k = 0 := by
   unfold cw
   rw [dif_neg hks]
  refine (cF (decide_eq_false hks) _ _).trans ?_
  refine (zc6 (p48 0) _).trans ?_
  refine (cT (decide_eq_true rfl) _ _).trans ?_
  refine (cT rfl _ _).trans ?_
  rw [eM, eN, ws, hcw]
  rfl
theorem p22 (s : List Int) (hs : i8s s) (hsl : s.length < 9223372036854775808) : (CW GU LU).p (.func 22) [.slice .any (s.map ic)] = some (.slice .any ((zal s).map Iv.c)) := by
 have hloop := zdg (round := zw GU LU (CW GU LU) 22 none 3) (fun k => zfb (s.map ic) (((zal s).take k).map Iv.c).length ((k : Nat) : Int) (((zal s).take k).map Iv.c)) (zal s).length (id := 0)
  (fun k hk => zrs s hs hsl k hk) (by rw [e22_3, zkd]; rfl)
 simp only [List.take_length, List.take_zero] at hloop
 refine zE (h := [.arr false 2 ((zal s).map Iv.c)]) ?_ rfl
 rw [e22, zbo]
 refine (zae hloop _).trans ?_
 rw [Option.bind_some]
 have g : ∀ t, t = zfb (s.map ic) ((zal s).map Iv.c).length (((zal s).length : Nat) : Int) ((zal s).map Iv.c) →
   nth t.t 0 = .slice .any (s.map ic) ∧ nth t.t 3 = .arr 0 ((zal s).map Iv.c).length 2 ∧ nth t.t 4 = .int .i64 (((zal s).length : Nat) : Int) ∧ t.h = [.arr true 2 ((zal s).map Iv.c)] := by
  intro t ht; subst ht
  exact ⟨rfl, rfl, rfl, rfl⟩
 obtain ⟨g1, g2, g3, g4⟩ := g _ rfl
 dsimp only
 rw [g1, g2, g3, g4]
 refine (cT rfl _ _).trans ?_
 refine (zaE rfl _).trans ?_
 refine (zaE (zZ _ _ _) _).trans ?_
 iterate 2 refine (zaE rfl _).trans ?_
 refine (zaE (zK _ _) _).trans ?_
 refine (zaE (zL _ _ _ _) _).trans ?_
 rfl
end Go.Ab
namespace Go.Ab
theorem eTm {R : Type} {x : Option V} {c a0 a1 a2 a3 a4 a5 : Int} (h : x = some (.agg [.int .i64 c, .int .u8 a0, .int .u8 a1, .int .u8 a2, .int .u8 a3, .int .u8 a4, .int .u8 a5])) (k : Int → Int → Int → Int → Int → Int → Int → Option R) :
  (x.bind fun y => (zo y).bind fun l => (zg l).bind fun t => (asInt .i64 t.1).bind fun c => (zg t.2).bind fun u => (asInt .u8 u.1).bind fun a => (zg u.2).bind fun v => (asInt .u8 v.1).bind fun b => (zg v.2).bind fun w => (asInt .u8 w.1).bind fun d => (zg w.2).bind fun p => (asInt .u8 p.1).bind fun e => (zg p.2).bind fun q => (asInt .u8 q.1).bind fun f => (zg q.2).bind fun s => (asInt .u8 s.1).bind fun g => (zh s.2).bind fun _ => k c a b d e f g) = k c a0 a1 a2 a3 a4 a5 := by subst h; rfl
theorem zqf {a b : TM} (h : a = b) (oa : oks a.p) (la : a.p.length ≤ 100000) : (CW GU LU).p (.func 16) [.agg [.slice .any (a.p.map Tm.cs), .int .i64 a.r.lo, .int .i64 a.r.hi], .agg [.slice .any (b.p.map Tm.cs), .int .i64 b.r.lo, .int .i64 b.r.hi]] = some (.bool true) := by
 subst h
 obtain ⟨v, h1, h2⟩ := p16 a a oa oa la
 rw [h1, h2.2 rfl]
def mV0 : TM := ⟨[T 131072 0 0, T 65536 1 0], ⟨0, 0⟩⟩
def mS0 : TM := ⟨[T 262144 0 0, T 262144 1 0], ⟨0, 65536⟩⟩
def mC0 : TM := ⟨[T 131072 0 0], ⟨-65536, 65536⟩⟩
def mW0 : TM := ⟨[], ⟨-2147483648, 2147483648⟩⟩
def mZ0 : TM := ⟨[], ⟨0, 0⟩⟩
def mD0 : TM := ⟨[T 262144 0 0, T 131072 1 0], ⟨0, 0⟩⟩
def i13 : Iv := ⟨65536, 196608⟩
def i22 : Iv := ⟨131072, 131072⟩
theorem q_var : zdB 0 i13 = mV0 := by
 have h1 : (zbI (zcK 0) 65536) = ([T 65536 1 0], ⟨0, 0⟩) := by kernel_rfl
 have h2 : zaK 131072 = [T 131072 0 0] := by kernel_rfl
 have h3 : zaQ [T 131072 0 0] [T 65536 1 0] = [T 131072 0 0, T 65536 1 0] := by rw [za0, if_pos (by decide), zaD]
 have e : mid i13 = 131072 := by decide
 have e2 : i13.hi - 131072 = 65536 := by decide
 unfold zdB
 rw [e, e2, h1, h2, if_neg (by decide)]
 unfold zbU
 rw [h3]
 change _ = _
 kernel_rfl
theorem q_mul : tMul mV0 mV0 1 = mS0 := by kernel_rfl
theorem zsc : zbA i13 = mC0 := by kernel_rfl
theorem q_sum : tAdd mV0 (ze1 mV0) = mZ0 := by
 have h1 : ze1 mV0 = ⟨[T (-131072) 0 0, T (-65536) 1 0], ⟨0, 0⟩⟩ := by kernel_rfl
 have h2 : zaQ [T 131072 0 0, T 65536 1 0] [T (-131072) 0 0, T (-65536) 1 0] = [T 0 0 0, T 0 1 0] := by
  rw [za0, if_neg (by decide), if_neg (by decide), za0, if_neg (by decide), if_neg (by decide), zaD]; kernel_rfl
 rw [h1]
 unfold tAdd zbU
 rw [show mV0.p = [T 131072 0 0, T 65536 1 0] from rfl, h2]
 change _ = _
 kernel_rfl
theorem zsd : zbA Iv.whole = mW0 := by kernel_rfl
theorem q_sub : tSub mW0 mV0 = mW0 := by
 unfold tSub tAdd zbU
 rw [show mW0.p = [] from rfl, zaD]
 change _ = _
 kernel_rfl
theorem zse : zp9 mS0 = ⟨0, 589824⟩ := by kernel_rfl
theorem zsf : zkc mS0 = true := by kernel_rfl
theorem q_bad : zkc ⟨mS0.p, Iv.whole⟩ = false := by kernel_rfl
theorem zsg : zp8 mV0 0 = mC0 := by kernel_rfl
theorem q_dbl : tMulI mV0 i22 = mD0 := by kernel_rfl
theorem q_eval : zoH mS0 (zal [1]) = ⟨524288, 589824⟩ := by
 have h1 : evT (zal [1]) (T 262144 0 0) = Iv.new 262144 262144 := rfl
 have h2 : evT (zal [1]) (T 262144 1 0) = (Iv.new 262144 262144).mul ⟨65536, 65536⟩ := by
  show evS _ 5 0 (evS _ 4 0 (evS _ 3 0 (evS _ 2 0 (evS _ 1 0 (evS _ 0 1 _))))) = _
  unfold evS
  rw [zfK _ (Nat.le_refl 1)]
  rfl
 unfold zoH zf2
 rw [show mS0.p = [T 262144 0 0, T 262144 1 0] from rfl]
 unfold zff
 rw [h1]
 unfold zff
 rw [h2]
 change _ = _
 kernel_rfl
theorem g_of {m : TM} (h : (decide (zei m.p) && (decide (m.r.lo ≤ m.r.hi) && (decide (zs m.r.lo) && decide (zs m.r.hi)))) = true) (o : (m.p.all fun t => decide t.e.ok) = true) : m.good := by
 simp only [Bool.and_eq_true, decide_eq_true_eq] at h
 obtain ⟨h1, h2, h3, h4⟩ := h
 refine ⟨pol_of (zfN o) h1, zjd h3 h4 h2, fun w => ?_⟩
 rw [show m.r = ⟨m.r.lo, m.r.hi⟩ from rfl, zkD h3] at w
 cases w
theorem g_V : mV0.good := g_of (by kernel_rfl) (by kernel_rfl)
theorem g_S : mS0.good := g_of (by kernel_rfl) (by kernel_rfl)
theorem g_W : mW0.good := zmT
theorem v_13 : i13.valid := zjd (by decide) (by decide) (by decide)
theorem v_22 : i22.valid := zjd (by decide) (by decide) (by decide)
theorem y_var : (CW GU LU).p (.func 6) [.int .i64 0, .agg [.int .i64 i13.lo, .int .i64 i13.hi]] = some (.agg mV0.cs) := by rw [p6 0 i13 v_13, q_var]
theorem y_mul : (CW GU LU).p (.func 13) [.agg [.slice .any (mV0.p.map Tm.cs), .int .i64 mV0.r.lo, .int .i64 mV0.r.hi], .agg [.slice .any (mV0.p.map Tm.cs), .int .i64 mV0.r.lo, .int .i64 mV0.r.hi], .int .i64 1] = some (.agg mS0.cs) := by rw [p13 mV0 mV0 g_V g_V 1, q_mul]
theorem zsh : (CW GU LU).p (.func 7) [.agg [.int .i64 i13.lo, .int .i64 i13.hi]] = some (.agg mC0.cs) := by rw [p7 i13 v_13, zsc]
theorem y_neg : (CW GU LU).p (.func 15) [.agg [.slice .any (mV0.p.map Tm.cs), .int .i64 mV0.r.lo, .int .i64 mV0.r.hi]] = some (.agg (ze1 mV0).cs) := p15 mV0 g_V
theorem y_add : (CW GU LU).p (.func 14) [.agg [.slice .any (mV0.p.map Tm.cs), .int .i64 mV0.r.lo, .int .i64 mV0.r.hi], .agg [.slice .any ((ze1 mV0).p.map Tm.cs), .int .i64 (ze1 mV0).r.lo, .int .i64 (ze1 mV0).r.hi]] = some (.agg mZ0.cs) := by rw [p14 mV0 (ze1 mV0) g_V (zmR g_V), q_sum]
theorem znU : (CW GU LU).p (.func 7) [.agg [.int .i64 (-2147483648), .int .i64 2147483648]] = some (.agg mW0.cs) := (p7 Iv.whole zcx).trans (by rw [zsd])
theorem y_sub : (CW GU LU).p (.func 19) [.agg [.slice .any (mW0.p.map Tm.cs), .int .i64 mW0.r.lo, .int .i64 mW0.r.hi], .agg [.slice .any (mV0.p.map Tm.cs), .int .i64 mV0.r.lo, .int .i64 mV0.r.hi]] = some (.agg mW0.cs) := by rw [p19 mW0 mV0 g_W g_V, q_sub]
theorem zsi : (CW GU LU).p (.func 18) [.agg [.slice .any (mS0.p.map Tm.cs), .int .i64 mS0.r.lo, .int .i64 mS0.r.hi]] = some (.agg (⟨0, 589824⟩ : Iv).c) := by rw [p18 mS0 g_S, zse]
theorem zsj : (CW GU LU).p (.func 20) [.agg [.slice .any (mS0.p.map Tm.cs), .int .i64 mS0.r.lo, .int .i64 mS0.r.hi]] = some (.bool true) := by rw [p20 mS0 g_S.pol.ok (by unfold few; decide), zsf]
theorem y_bad : (CW GU LU).p (.func 20) [.agg [.slice .any (mS0.p.map Tm.cs), .int .i64 (-2147483648), .int .i64 2147483648]] = some (.bool false) := (p20 ⟨mS0.p, Iv.whole⟩ g_S.pol.ok (by unfold few; decide)).trans (by rw [q_bad])
theorem zrt : (CW GU LU).p (.func 22) [.slice .any [[.int .i8 1]]] = some (.slice .any ((zal [1]).map Iv.c)) := p22 [1] (fun z hz => by rw [List.mem_singleton.1 hz]; decide) (by decide)
theorem y_eval : (CW GU LU).p (.func 21) [.agg [.slice .any (mS0.p.map Tm.cs), .int .i64 mS0.r.lo, .int .i64 mS0.r.hi], .slice .any ((zal [1]).map Iv.c)] = some (.agg (⟨524288, 589824⟩ : Iv).c) := by rw [p21 mS0 g_S (zal [1]) (zmX _) (by rw [zkd]; decide), q_eval]
theorem zsk : (CW GU LU).p (.func 23) [.agg [.slice .any (mV0.p.map Tm.cs), .int .i64 mV0.r.lo, .int .i64 mV0.r.hi], .int .i64 0] = some (.agg mC0.cs) := by rw [p23 mV0 g_V 0, zsg]
theorem y_dbl : (CW GU LU).p (.func 24) [.agg [.slice .any (mV0.p.map Tm.cs), .int .i64 mV0.r.lo, .int .i64 mV0.r.hi], .agg [.int .i64 i22.lo, .int .i64 i22.hi]] = some (.agg mD0.cs) := by rw [p24 mV0 g_V i22 v_22, q_dbl]
theorem zfO (m : TM) (o : (m.p.all fun t => decide t.e.ok) = true) (l : m.p.length ≤ 100) : (CW GU LU).p (.func 16) [.agg [.slice .any (m.p.map Tm.cs), .int .i64 m.r.lo, .int .i64 m.r.hi], .agg [.slice .any (m.p.map Tm.cs), .int .i64 m.r.lo, .int .i64 m.r.hi]] = some (.bool true) := zqf rfl (zfN o) (by omega)
theorem zeX (a b c d : Int) (h : -1000000 ≤ a ∧ a ≤ 1000000) (k : -1000000 ≤ b ∧ b ≤ 1000000) (e : c = a * 65536) (f : d = b * 65536) : (CW GU LU).p (.func 12) [.int .i64 a, .int .i64 b] = some (.agg [.int .i64 c, .int .i64 d]) := by rw [p12 a b h k, e, f]
theorem zeY (c x y d : Int) (h : -1000000 ≤ c ∧ c ≤ 1000000) (e : d = c * 65536) : (CW GU LU).p (.func 17) [.int .i64 c, .int .u8 x, .int .u8 y] = some (.agg [.int .i64 d, .int .u8 x, .int .u8 y, .int .u8 0, .int .u8 0, .int .u8 0, .int .u8 0]) := by rw [p17 c x y h, e]
set_option maxRecDepth 100000 in
theorem p4 : (CW GU LU).p (.func 4) [] = some (.bool true) := by
 refine zE (h := []) ?_ rfl
 rw [e4]
 refine (eIv (zeX 1 3 65536 196608 (by decide) (by decide) rfl rfl) _).trans ?_
 refine (eT y_var _).trans ?_
 refine (eT y_mul _).trans ?_
 refine (eIv (zeX 1 3 65536 196608 (by decide) (by decide) rfl rfl) _).trans ?_
 refine (eT zsh _).trans ?_
 refine (eT y_neg _).trans ?_
 refine (eT y_add _).trans ?_
 refine (eTm (zeY 2 0 0 131072 (by decide) rfl) _).trans ?_
 refine (eTm (zeY 1 1 0 65536 (by decide) rfl) _).trans ?_
 refine (zaC (zfO mV0 (by kernel_rfl) (by decide)) _).trans ?_
 refine (cT rfl _ _).trans ?_
 refine (eTm (zeY 4 0 0 262144 (by decide) rfl) _).trans ?_
 refine (eTm (zeY 4 1 0 262144 (by decide) rfl) _).trans ?_
 refine (eIv (zeX 0 1 0 65536 (by decide) (by decide) rfl rfl) _).trans ?_
 refine (zaC (zfO mS0 (by kernel_rfl) (by decide)) _).trans ?_
 refine (cT rfl _ _).trans ?_
 refine (zc6 zsi _).trans ?_
 refine (eIv (zeX 0 9 0 589824 (by decide) (by decide) rfl rfl) _).trans ?_
 refine (cT rfl _ _).trans ?_
 refine (eTm (zeY 2 0 0 131072 (by decide) rfl) _).trans ?_
 refine (eIv (zeX (-1) 1 (-65536) 65536 (by decide) (by decide) rfl rfl) _).trans ?_
 refine (zaC (zfO mC0 (by kernel_rfl) (by decide)) _).trans ?_
 refine (cT rfl _ _).trans ?_
 refine (cT rfl _ _).trans ?_
 refine (cT rfl _ _).trans ?_
 refine (eT znU _).trans ?_
 refine (zaC (zfO mW0 (by kernel_rfl) (by decide)) _).trans ?_
 refine (cT rfl _ _).trans ?_
 refine (eT znU _).trans ?_
 refine (eT y_sub _).trans ?_
 refine (zaC (zfO mW0 (by kernel_rfl) (by decide)) _).trans ?_
 refine (cT rfl _ _).trans ?_
 refine (zaC zsj _).trans ?_
 refine (cT rfl _ _).trans ?_
 refine (zaC y_bad _).trans ?_
 refine (cNF _ _).trans ?_
 refine (zlC zrt _).trans ?_
 refine (zc6 y_eval _).trans ?_
 refine (eIv (zeX 8 9 524288 589824 (by decide) (by decide) rfl rfl) _).trans ?_
 refine (cT rfl _ _).trans ?_
 refine (eT zsk _).trans ?_
 refine (eTm (zeY 2 0 0 131072 (by decide) rfl) _).trans ?_
 refine (eIv (zeX (-1) 1 (-65536) 65536 (by decide) (by decide) rfl rfl) _).trans ?_
 refine (zaC (zfO mC0 (by kernel_rfl) (by decide)) _).trans ?_
 refine (cT rfl _ _).trans ?_
 refine (eIv (zeX 2 2 131072 131072 (by decide) (by decide) rfl rfl) _).trans ?_
 refine (eT y_dbl _).trans ?_
 refine (eTm (zeY 4 0 0 262144 (by decide) rfl) _).trans ?_
 refine (eTm (zeY 2 1 0 131072 (by decide) rfl) _).trans ?_
 refine (zaC (zfO mD0 (by kernel_rfl) (by decide)) _).trans ?_
 rfl
end Go.Ab
