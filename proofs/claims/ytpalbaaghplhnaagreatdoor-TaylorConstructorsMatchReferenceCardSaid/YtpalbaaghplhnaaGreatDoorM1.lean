/- Polynomials at a corner: sums, products, cuts and their remainders; conditions: valid terms. -/
import Derived.Test.YtpalbaaghplhnaaGreatDoorQ2
set_option linter.unusedVariables false
set_option linter.unusedSimpArgs false
namespace Go.Ab
def lin (φ : E6 → Int) (p : List Tm) : Int := zbk (p.map fun t => t.c * φ t.e)
theorem zsS (φ : E6 → Int) (t : Tm) (p : List Tm) : lin φ (t :: p) = t.c * φ t.e + lin φ p := rfl
theorem ztF (φ : E6 → Int) : lin φ [] = 0 := rfl
theorem ztG (φ : E6 → Int) (p q : List Tm) : lin φ (p ++ q) = lin φ p + lin φ q := by
 unfold lin; rw [List.map_append, zd3]
structure Cor (φ : E6 → Int) : Prop where
 lo : ∀ x, -1 ≤ φ x
 hi : ∀ x, φ x ≤ 1
 ev : ∀ x, x.odd = false → 0 ≤ φ x
 one : ∀ x, x.deg = 0 → φ x = 1
 mul : ∀ x y, φ (x.add y) = φ x * φ y
theorem tri {x : Int} (h1 : -1 ≤ x) (h2 : x ≤ 1) : x = -1 ∨ x = 0 ∨ x = 1 := by omega
theorem ztH {φ : E6 → Int} (h : Cor φ) (t : Tm) : (rng t).1 ≤ t.c * φ t.e ∧ t.c * φ t.e ≤ (rng t).2 := by
 unfold rng
 split
 ·rename_i h0
  rw [h.one _ h0, Int.mul_one]; exact ⟨Int.le_refl _, Int.le_refl _⟩
 ·rcases tri (h.lo t.e) (h.hi t.e) with e | e | e
  ·split
   ·rw [e]; simp only; omega
   ·rename_i h1
    have := h.ev t.e (by simpa using h1)
    omega
  ·rw [e]; split <;> simp only <;> omega
  ·rw [e]; split <;> simp only <;> omega
def mono (w : Pt) (x : E6) : Int := w.a ^ x.a * w.b ^ x.b * w.c ^ x.c * w.d ^ x.d * w.e ^ x.e * w.f ^ x.f
def Pt.cor (w : Pt) : Prop := (-1 ≤ w.a ∧ w.a ≤ 1) ∧ (-1 ≤ w.b ∧ w.b ≤ 1) ∧ (-1 ≤ w.c ∧ w.c ≤ 1) ∧ (-1 ≤ w.d ∧ w.d ≤ 1) ∧ (-1 ≤ w.e ∧ w.e ≤ 1) ∧ (-1 ≤ w.f ∧ w.f ≤ 1)
theorem zbb {x : Int} (h : -1 ≤ x ∧ x ≤ 1) : ∀ n : Nat, -1 ≤ x ^ n ∧ x ^ n ≤ 1 ∧ (n % 2 = 0 → 0 ≤ x ^ n) ∧ (n = 0 → x ^ n = 1)
 | 0 => by simp
 | 1 => by
  have e : x ^ 1 = x := by rw [Int.pow_succ, Int.pow_zero, Int.one_mul]
  rw [e]; exact ⟨h.1, h.2, by omega, by omega⟩
 | n + 2 => by
  obtain ⟨a, b, c, _⟩ := zbb h n
  have e : x ^ (n + 2) = x ^ n * (x * x) := by rw [Int.pow_succ, Int.pow_succ, Int.mul_assoc]
  have q : x * x = 0 ∨ x * x = 1 := by rcases tri h.1 h.2 with r | r | r <;> rw [r] <;> decide
  rw [e]
  rcases q with q | q <;> rw [q]
  ·omega
  ·rw [Int.mul_one]; exact ⟨a, b, fun k => c (by omega), by omega⟩
theorem zg7 {x y : Int} (h1 : -1 ≤ x) (h2 : x ≤ 1) (h3 : -1 ≤ y) (h4 : y ≤ 1) : -1 ≤ x * y ∧ x * y ≤ 1 := by
 rcases tri h1 h2 with e | e | e <;> rw [e] <;> omega
theorem mul4 (a b c d : Int) : a * b * (c * d) = a * c * (b * d) := by rw [Int.mul_assoc, Int.mul_assoc, Int.mul_left_comm b c d]
theorem mul6 (a b c d e f a' b' c' d' e' f' : Int) : a * b * c * d * e * f * (a' * b' * c' * d' * e' * f') = a * a' * (b * b') * (c * c') * (d * d') * (e * e') * (f * f') := by
 rw [mul4 (a * b * c * d * e) f (a' * b' * c' * d' * e') f', mul4 (a * b * c * d) e (a' * b' * c' * d') e', mul4 (a * b * c) d (a' * b' * c') d', mul4 (a * b) c (a' * b') c', mul4 a b a' b']
theorem zn3 {w : Pt} (h : w.cor) : Cor (mono w) := by
 obtain ⟨h1, h2, h3, h4, h5, h6⟩ := h
 have b : ∀ x : E6, -1 ≤ mono w x ∧ mono w x ≤ 1 := fun x => by
  obtain ⟨a1, a2, _⟩ := zbb h1 x.a
  obtain ⟨b1, b2, _⟩ := zbb h2 x.b
  obtain ⟨c1, c2, _⟩ := zbb h3 x.c
  obtain ⟨d1, d2, _⟩ := zbb h4 x.d
  obtain ⟨e1, e2, _⟩ := zbb h5 x.e
  obtain ⟨f1, f2, _⟩ := zbb h6 x.f
  obtain ⟨g1, g2⟩ := zg7 a1 a2 b1 b2
  obtain ⟨g1, g2⟩ := zg7 g1 g2 c1 c2
  obtain ⟨g1, g2⟩ := zg7 g1 g2 d1 d2
  obtain ⟨g1, g2⟩ := zg7 g1 g2 e1 e2
  exact zg7 g1 g2 f1 f2
 refine ⟨fun x => (b x).1, fun x => (b x).2, fun x ho => ?_, fun x hd => ?_, fun x y => ?_⟩
 ·simp only [E6.odd, Bool.or_eq_false_iff, beq_eq_false_iff_ne, ne_eq] at ho
  obtain ⟨o1, o2, o3, o4, o5, o6⟩ := ho
  exact Int.mul_nonneg (Int.mul_nonneg (Int.mul_nonneg (Int.mul_nonneg (Int.mul_nonneg ((zbb h1 x.a).2.2.1 (by omega)) ((zbb h2 x.b).2.2.1 (by omega))) ((zbb h3 x.c).2.2.1 (by omega))) ((zbb h4 x.d).2.2.1 (by omega))) ((zbb h5 x.e).2.2.1 (by omega))) ((zbb h6 x.f).2.2.1 (by omega))
 ·unfold E6.deg at hd
  unfold mono
  rw [(zbb h1 x.a).2.2.2 (by omega), (zbb h2 x.b).2.2.2 (by omega), (zbb h3 x.c).2.2.2 (by omega), (zbb h4 x.d).2.2.2 (by omega), (zbb h5 x.e).2.2.2 (by omega), (zbb h6 x.f).2.2.2 (by omega)]; decide
 ·unfold mono E6.add
  simp only [Int.pow_add]
  exact (mul6 _ _ _ _ _ _ _ _ _ _ _ _).symm
end Go.Ab
namespace Go.Ab
structure TM where
 p : List Tm
 r : Iv
def TM.cs (m : TM) : List V := [.slice .any (m.p.map Tm.cs), .int .i64 m.r.lo, .int .i64 m.r.hi]
def nrm (p : List Tm) (r : Iv) : TM := if r.isW then ⟨[], r⟩ else ⟨p, r⟩
def zj9 (a b : TM) : TM := nrm (zbu a.p b.p).1 ((a.r.add b.r).add (zbu a.p b.p).2)
def zeL (a : TM) : TM := nrm (a.p.map ngT) a.r.neg
def tSub (a b : TM) : TM := zj9 a (zeL b)
def ziz (a b : TM) (d : Int) : TM := if a.r.isW || b.r.isW then ⟨[], Iv.whole⟩ else nrm (zdd a.p b.p d).1 ((((zdd a.p b.p d).2.add ((zbt a.p).mul b.r)).add ((zbt b.p).mul a.r)).add (a.r.mul b.r))
def mid (a : Iv) : Int := (a.lo + a.hi) / 2
def zdB (a : Iv) : TM := if a.isW then ⟨[], Iv.whole⟩ else nrm (zaF (mid a)) (Iv.new (a.lo - mid a) (a.hi - mid a))
def ziA (i : Int) (a : Iv) : TM := if a.isW = true ∨ a.hi - mid a ≥ 2147483648 then ⟨[], Iv.whole⟩ else
 nrm (zbu (zaF (mid a)) (zaK (zci i) (a.hi - mid a)).1).1 ((zaK (zci i) (a.hi - mid a)).2.add (zbu (zaF (mid a)) (zaK (zci i) (a.hi - mid a)).1).2)
def zk7 (a : TM) (d : Int) : TM := nrm (zcF a.p d).1 (a.r.add (zcF a.p d).2)
def zn4 (a : TM) : Iv := (zbt a.p).add a.r
def zmH (a : TM) (b : List Iv) : Iv := (zfi b a.p).add a.r
def zp5 (a : TM) (c : Iv) : TM := ziz a (zdB c) 6
structure TM.good (m : TM) : Prop where
 pol : Pol m.p
 va : m.r.valid
 em : m.r.isW = true → m.p = []
def hv (φ : E6 → Int) (m : TM) (x : Int) : Prop := m.r.isW = true ∨ (65536 * (lin φ m.p + m.r.lo) ≤ x ∧ x ≤ 65536 * (lin φ m.p + m.r.hi))
theorem zmI {p : List Tm} {r : Iv} (h : r.isW = true) : nrm p r = ⟨[], r⟩ := by unfold nrm; rw [if_pos h]
theorem zmJ {p : List Tm} {r : Iv} (h : r.isW = false) : nrm p r = ⟨p, r⟩ := by unfold nrm; rw [h, if_neg (by decide)]
theorem zsT {p : List Tm} (h : za5 p) : za5 (p.map ngT) := fun t ht => by
 obtain ⟨u, hu, rfl⟩ := List.mem_map.1 ht
 have := h u hu
 unfold zz at *
 simp only [ngT]; omega
theorem ztI {p : List Tm} (h : oks p) : oks (p.map ngT) := fun t ht => by
 obtain ⟨u, hu, rfl⟩ := List.mem_map.1 ht
 exact h u hu
theorem zrI {p : List Tm} (h : zaT p) : zaT (p.map ngT) := fun t ht => by
 obtain ⟨u, hu, rfl⟩ := List.mem_map.1 ht
 obtain ⟨a, b, c⟩ := h u hu
 exact ⟨by unfold zz at *; simp only [ngT]; omega, by simp only [ngT]; omega, c⟩
theorem zp6 {p : List Tm} (h : zao p) : zao (p.map ngT) := by
 unfold zao at *
 rw [List.pairwise_map]
 exact h.imp fun {x y} k => k
theorem zgk {a : TM} (g : a.good) : (zeL a).good := by
 obtain ⟨⟨o, n, s, f, l⟩, v, e⟩ := g
 unfold zeL
 cases w : a.r.neg.isW
 ·rw [zmJ w]
  exact ⟨⟨ztI o, zsT n, zp6 s, zrI f, by simpa using l⟩, zio v, fun k => by rw [w] at k; cases k⟩
 ·rw [zmI w]
  exact ⟨⟨(fun t ht => by cases ht), (fun t ht => by cases ht), List.Pairwise.nil, (fun t ht => by cases ht), by simp⟩, zio v, fun _ => rfl⟩
theorem zi9 {a : Iv} (h : a.lo ≤ a.hi) : a.lo ≤ mid a ∧ mid a ≤ a.hi := by unfold mid; omega
end Go.Ab
namespace Go.Ab
theorem zg8 : Pol [] := ⟨(fun t ht => by cases ht), (fun t ht => by cases ht), List.Pairwise.nil, (fun t ht => by cases ht), by simp⟩
theorem ze6 {p : List Tm} {r : Iv} (hp : Pol p) (hr : r.valid) : (nrm p r).good := by
 cases w : r.isW
 ·rw [zmJ w]; exact ⟨hp, hr, fun k => by rw [w] at k; cases k⟩
 ·rw [zmI w]; exact ⟨zg8, hr, fun _ => rfl⟩
theorem zk8 : TM.good ⟨[], Iv.whole⟩ := ⟨zg8, zcM, fun _ => rfl⟩
theorem zsU {p : List Tm} {most lo hi : Int} (h : (zaz p most lo hi).2.isW = true) : zaz p most lo hi = ([], Iv.whole) := by
 unfold zaz at h ⊢
 split at h
 ·rename_i hc; rw [hc.2.2] at h; cases h
 ·rename_i hc; rw [if_neg hc]
theorem zfN {p : List Tm} (o : oks p) (s : zao p) (most lo hi : Int) : Pol (zaz p most lo hi).1 := by
 cases w : (zaz p most lo hi).2.isW
 ·obtain ⟨n, l, _, _, e⟩ := zrG w
  rw [e]
  have hk : ∀ t ∈ p.filter (kp most), t ∈ p ∧ t.c ≠ 0 ∧ t.e.deg ≤ 6 := fun t ht => by
   obtain ⟨h1, h2⟩ := List.mem_filter.1 ht
   unfold kp at h2
   simp only [decide_eq_true_eq] at h2
   exact ⟨h1, h2.1, by omega⟩
  exact ⟨fun t ht => o t (hk t ht).1, fun t ht => n t (hk t ht).1, s.sublist List.filter_sublist, fun t ht => ⟨n t (hk t ht).1, (hk t ht).2⟩, l⟩
 ·rw [zsU w]; exact zg8
theorem zeM {p : List Tm} {most lo hi : Int} (h : lo ≤ hi) : (zaz p most lo hi).2.valid := by
 unfold zaz
 split
 ·rename_i hc
  refine zcE ?_
  have := zlF (p := p.filter (dp most)) (fun t ht => zdA.1 hc.1 t (List.mem_filter.1 ht).1)
  omega
 ·exact zcM
theorem zk9 : ∀ (p : List Tm) (y : Tm), zao p → zao (ins p y) ∧ ∀ u ∈ ins p y, u.e.key = y.e.key ∨ ∃ t ∈ p, u.e.key = t.e.key
 | [], y, _ => ⟨by show List.Pairwise _ [y]; simp, fun u hu => by
   have : u = y := by simpa [ins] using hu
   rw [this]; exact .inl rfl⟩
 | t :: p, y, h => by
  obtain ⟨h1, h2⟩ := List.pairwise_cons.1 h
  by_cases c1 : t.e.key < y.e.key
  ·obtain ⟨i1, i2⟩ := zk9 p y h2
   rw [zd5 c1]
   refine ⟨List.pairwise_cons.2 ⟨fun u hu => ?_, i1⟩, fun u hu => ?_⟩
   ·unfold zfg
    rcases i2 u hu with e | ⟨q, hq, e⟩
    ·omega
    ·have := h1 q hq; unfold zfg at this; omega
   ·rcases List.mem_cons.1 hu with rfl | hu
    ·exact .inr ⟨_, by simp, rfl⟩
    ·rcases i2 u hu with e | ⟨q, hq, e⟩
     ·exact .inl e
     ·exact .inr ⟨q, by simp [hq], e⟩
  ·by_cases c2 : t.e.key = y.e.key
   ·rw [zgg c2]
    refine ⟨List.pairwise_cons.2 ⟨fun u hu => ?_, h2⟩, fun u hu => ?_⟩
    ·have := h1 u hu; unfold zfg at *; simp only; omega
    ·rcases List.mem_cons.1 hu with rfl | hu
     ·exact .inl rfl
     ·exact .inr ⟨u, by simp [hu], rfl⟩
   ·rw [zfv (by omega)]
    refine ⟨List.pairwise_cons.2 ⟨fun u hu => ?_, h⟩, fun u hu => ?_⟩
    ·unfold zfg
     rcases List.mem_cons.1 hu with rfl | hu
     ·omega
     ·have := h1 u hu; unfold zfg at this; omega
    ·rcases List.mem_cons.1 hu with rfl | hu
     ·exact .inl rfl
     ·exact .inr ⟨u, hu, rfl⟩
theorem zjE (x : Tm) : ∀ (b : List Tm) (s : MS), zao s.m → zao (zdq b s x).m
 | [], _, h => h
 | y :: b, s, h => zjE x b (zbZ x s y) (zk9 _ _ h).1
theorem zjF (b : List Tm) : ∀ (a : List Tm) (s : MS), zao s.m → zao (a.foldl (zdq b) s).m
 | [], _, h => h
 | x :: a, s, h => zjF b a (zdq b s x) (zjE x b s h)
theorem ztJ {a b : List Tm} (fa : zaT a) (fb : zaT b) (most : Int) : Pol (zdd a b most).1 := by
 rw [zi8 fa fb]
 exact zfN (zn1 fb a ⟨[], 0, 0⟩ fa (fun t ht => by cases ht)) (zjF b a _ List.Pairwise.nil) _ _ _
theorem zn5 {a b : List Tm} (fa : zaT a) (fb : zaT b) (most : Int) : (zdd a b most).2.valid := by
 rw [zi8 fa fb]
 have h := zmk b a ⟨[], 0, 0⟩ (Int.le_refl _) (Int.le_refl _)
 exact zeM (Int.le_trans h.1 h.2)
theorem zo8 {a b : List Tm} (oa : oks a) (ob : oks b) (sa : zao a) (sb : zao b) : Pol (zbu a b).1 := zfN (zl3 _ a b (Nat.le_refl _) oa ob) (zn2 _ a b (Nat.le_refl _) sa sb) _ _ _
theorem zg9 (a b : List Tm) : (zbu a b).2.valid := zeM (Int.le_refl _)
theorem zrJ {a : List Tm} (oa : oks a) (sa : zao a) (d : Int) : Pol (zcF a d).1 := zfN oa sa _ _ _
theorem zka (a : List Tm) (d : Int) : (zcF a d).2.valid := zeM (Int.le_refl _)
theorem ze7 {p : List Tm} (h : za5 p) : (zbt p).valid := zcE (zlF h)
theorem zn6 {a b : TM} (ga : a.good) (gb : b.good) : (zj9 a b).good := ze6 (zo8 ga.pol.ok gb.pol.ok ga.pol.st gb.pol.st) (zbf (zbf ga.va gb.va) (zg9 _ _))
theorem zsV {a b : TM} (ga : a.good) (gb : b.good) : (tSub a b).good := zn6 ga (zgk gb)
theorem zn7 {a b : TM} (ga : a.good) (gb : b.good) (d : Int) : (ziz a b d).good := by
 unfold ziz
 split
 ·exact zk8
 ·exact ze6 (ztJ ga.pol.fi gb.pol.fi d) (zbf (zbf (zbf (zn5 ga.pol.fi gb.pol.fi d) (zbn _ _)) (zbn _ _)) (zbn _ _))
theorem zp7 {a : TM} (ga : a.good) (d : Int) : (zk7 a d).good := ze6 (zrJ ga.pol.ok ga.pol.st d) (zbf ga.va (zka _ _))
theorem zgA {c : Int} (h : zz c) : Pol (zaF c) := by
 unfold zaF
 split
 ·exact zg8
 ·rename_i h0
  have e : E6.zero.ok := by decide
  refine ⟨fun t ht => ?_, fun t ht => ?_, by show List.Pairwise _ [_]; simp, fun t ht => ?_, by simp⟩
  all_goals
   rw [List.mem_singleton.1 ht]
   first | exact e | exact h | exact ⟨h, h0, Nat.zero_le 6⟩
theorem zfO {a : Iv} (va : a.valid) : (zdB a).good := by
 unfold zdB
 split
 ·exact zk8
 ·rename_i hw
  have n := zel va (by simpa using hw)
  unfold zz at n
  have m := zi9 va.1
  exact ze6 (zgA (by unfold zz; omega)) (zcE (by have := va.1; omega))
theorem neg_neg (a : Iv) : a.neg.neg = a := by
 obtain ⟨l, h⟩ := a
 simp only [Iv.neg, Int.neg_neg]
end Go.Ab
