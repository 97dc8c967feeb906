/- Polynomials at a corner: sums, products, cuts and their remainders; conditions: valid terms. -/
import Derived.Test.YtpalbaaghplhnaaGreatDoorQ2
set_option linter.unusedVariables false
set_option linter.unusedSimpArgs false
namespace Go.Ab
def lin (φ : E6 → Int) (p : List Tm) : Int := zbn (p.map fun t => t.c * φ t.e)
theorem zb4 (φ : E6 → Int) (t : Tm) (p : List Tm) : lin φ (t :: p) = t.c * φ t.e + lin φ p := rfl
theorem zlO (φ : E6 → Int) : lin φ [] = 0 := rfl
theorem zt1 (φ : E6 → Int) (p q : List Tm) : lin φ (p ++ q) = lin φ p + lin φ q := by
 unfold lin; rw [List.map_append, zd7]
theorem zpo (φ : E6 → Int) : ∀ (p : List Tm) (y : Tm), oks p → y.e.ok → lin φ (ins p y) = lin φ p + y.c * φ y.e
 | [], y, _, _ => by show y.c * φ y.e + 0 = 0 + y.c * φ y.e; omega
 | t :: p, y, hp, hy => by
  have ih := zpo φ p y (fun u hu => hp u (by simp [hu])) hy
  by_cases h1 : t.e.key < y.e.key
  ·rw [zdE h1, zb4, ih, zb4]; omega
  ·by_cases h2 : t.e.key = y.e.key
   ·have he : t.e = y.e := E6.key_inj (hp t (by simp)) hy h2
    rw [zfd h2, zb4, zb4]
    simp only [Int.add_mul, he]; omega
   ·rw [zeP (by omega), zb4, zb4]; omega
theorem zmx (φ : E6 → Int) (most : Int) : ∀ p : List Tm, lin φ p = lin φ (p.filter (kp most)) + lin φ (p.filter (dp most))
 | [] => rfl
 | t :: p => by
  have ih := zmx φ most p
  by_cases h0 : t.c = 0
  ·obtain ⟨a1, a2⟩ := zt0 (most := most) h0
   simp only [List.filter_cons, a1, a2, Bool.false_eq_true, if_false, zb4, h0, Int.zero_mul, Int.zero_add]
   exact ih
  ·have k1 := kd (most := most) h0
   cases hl : kp most t
   ·rw [hl] at k1
    simp only [List.filter_cons, hl, k1, Bool.not_false, if_true, Bool.false_eq_true, if_false, zb4]
    omega
   ·rw [hl] at k1
    simp only [List.filter_cons, hl, k1, Bool.not_true, if_true, Bool.false_eq_true, if_false, zb4]
    omega
structure Cor (φ : E6 → Int) : Prop where
 lo : ∀ x, -1 ≤ φ x
 hi : ∀ x, φ x ≤ 1
 ev : ∀ x, x.odd = false → 0 ≤ φ x
 one : ∀ x, x.deg = 0 → φ x = 1
 mul : ∀ x y, φ (x.add y) = φ x * φ y
theorem tri {x : Int} (h1 : -1 ≤ x) (h2 : x ≤ 1) : x = -1 ∨ x = 0 ∨ x = 1 := by omega
theorem zpp {φ : E6 → Int} (h : Cor φ) (t : Tm) : (rng t).1 ≤ t.c * φ t.e ∧ t.c * φ t.e ≤ (rng t).2 := by
 unfold rng
 split
 ·rename_i h0
  rw [h.one _ h0, Int.mul_one]; exact ⟨Int.le_refl _, Int.le_refl _⟩
 ·rcases tri (h.lo t.e) (h.hi t.e) with e | e | e
  ·split
   ·rw [e]; simp only; omega
   ·rename_i h1
    have := h.ev t.e (by simpa using h1)
    omega
  ·rw [e]; split <;> simp only <;> omega
  ·rw [e]; split <;> simp only <;> omega
theorem zlP {φ : E6 → Int} (h : Cor φ) : ∀ p : List Tm, los p ≤ lin φ p ∧ lin φ p ≤ his p
 | [] => ⟨Int.le_refl _, Int.le_refl _⟩
 | t :: p => by
  have ih := zlP h p
  have ht := zpp h t
  rw [ztd, zte, zb4]; omega
theorem zqn {φ : E6 → Int} (h : Cor φ) {p : List Tm} {most lo hi : Int} (w : (zas p most lo hi).2.isW = false) :
  lin φ (zas p most lo hi).1 + (zas p most lo hi).2.lo ≤ lin φ p + lo ∧ lin φ p + hi ≤ lin φ (zas p most lo hi).1 + (zas p most lo hi).2.hi := by
 obtain ⟨_, _, _, _, e⟩ := zmu w
 rw [e]
 simp only
 have s := zmx φ most p
 have r := zlP h (p.filter (dp most))
 omega
theorem zr0 {φ : E6 → Int} (h : Cor φ) (n : Int) (x : E6) :
  65536 * (fl n * φ x + rlo n x) ≤ n * φ x ∧ n * φ x ≤ 65536 * (fl n * φ x + rhi n) := by
 have hf : fl n * 65536 ≤ n ∧ n < fl n * 65536 + 65536 := by unfold fl; omega
 have hi : zfK n = false → n = fl n * 65536 := by
  intro e
  have e2 : fl n = ce n := by simpa [zfK] using e
  unfold fl ce at *; omega
 unfold rlo rhi
 cases e : zfK n
 ·have := hi e
  simp only [Bool.false_eq_true, false_and, if_false]
  rcases tri (h.lo x) (h.hi x) with q | q | q <;> rw [q] <;> omega
 ·simp only [true_and, if_true]
  rcases tri (h.lo x) (h.hi x) with q | q | q
  ·have o : x.odd = true := by
    cases o : x.odd
    ·have := h.ev x o; omega
    ·rfl
   rw [q, o]; simp only [if_true]; omega
  ·rw [q]; split <;> omega
  ·rw [q]; split <;> omega
theorem zr1 {φ : E6 → Int} (h : Cor φ) {s : MS} {v : Int} (os : oks s.m) {x y : Tm} (hx : zbc x) (hy : zbc y)
  (i : 65536 * (lin φ s.m + s.lo) ≤ v ∧ v ≤ 65536 * (lin φ s.m + s.hi)) :
  65536 * (lin φ (zbb x s y).m + (zbb x s y).lo) ≤ v + x.c * φ x.e * (y.c * φ y.e) ∧ v + x.c * φ x.e * (y.c * φ y.e) ≤ 65536 * (lin φ (zbb x s y).m + (zbb x s y).hi) := by
 have r := zr0 h (x.c * y.c) (x.e.add y.e)
 have e : x.c * φ x.e * (y.c * φ y.e) = x.c * y.c * φ (x.e.add y.e) := by rw [h.mul, Int.mul_assoc, Int.mul_left_comm (φ x.e), ← Int.mul_assoc]
 rw [e]
 simp only [zbb]
 rw [zpo φ s.m (pT x y) os (zeQ hx hy)]
 simp only [pT]
 omega
theorem zoe {φ : E6 → Int} (h : Cor φ) {x : Tm} (hx : zbc x) : ∀ (b : List Tm) (s : MS) (v : Int), zaF b → oks s.m → 65536 * (lin φ s.m + s.lo) ≤ v ∧ v ≤ 65536 * (lin φ s.m + s.hi) →
  oks (zb0 b s x).m ∧ 65536 * (lin φ (zb0 b s x).m + (zb0 b s x).lo) ≤ v + x.c * φ x.e * lin φ b ∧ v + x.c * φ x.e * lin φ b ≤ 65536 * (lin φ (zb0 b s x).m + (zb0 b s x).hi)
 | [], s, v, _, os, i => by
  rw [zlO, Int.mul_zero, Int.add_zero]; exact ⟨os, i⟩
 | y :: b, s, v, hb, os, i => by
  have hy := hb y (by simp)
  have j := zr1 h os hx hy i
  have o2 : oks (zbb x s y).m := zer _ _ os (zeQ hx hy)
  have k := zoe h hx b (zbb x s y) _ (fun u hu => hb u (by simp [hu])) o2 j
  have e : x.c * φ x.e * lin φ (y :: b) = x.c * φ x.e * (y.c * φ y.e) + x.c * φ x.e * lin φ b := by rw [zb4, Int.mul_add]
  rw [e, ← Int.add_assoc]
  exact k
theorem zof {φ : E6 → Int} (h : Cor φ) {b : List Tm} (hb : zaF b) : ∀ (a : List Tm) (s : MS) (v : Int), zaF a → oks s.m → 65536 * (lin φ s.m + s.lo) ≤ v ∧ v ≤ 65536 * (lin φ s.m + s.hi) →
  65536 * (lin φ (a.foldl (zb0 b) s).m + (a.foldl (zb0 b) s).lo) ≤ v + lin φ a * lin φ b ∧ v + lin φ a * lin φ b ≤ 65536 * (lin φ (a.foldl (zb0 b) s).m + (a.foldl (zb0 b) s).hi)
 | [], s, v, _, _, i => by
  rw [zlO, Int.zero_mul, Int.add_zero]; exact i
 | x :: a, s, v, ha, os, i => by
  obtain ⟨o2, j⟩ := zoe h (ha x (by simp)) b s v hb os i
  have k := zof h hb a (zb0 b s x) _ (fun u hu => ha u (by simp [hu])) o2 j
  rw [zb4, Int.add_mul, ← Int.add_assoc]
  exact k
theorem zt2 {φ : E6 → Int} (h : Cor φ) {a b : List Tm} (fa : zaF a) (fb : zaF b) {most : Int} (w : (zco a b most).2.isW = false) :
  65536 * (lin φ (zco a b most).1 + (zco a b most).2.lo) ≤ lin φ a * lin φ b ∧ lin φ a * lin φ b ≤ 65536 * (lin φ (zco a b most).1 + (zco a b most).2.hi) := by
 rw [zhe fa fb] at *
 have f := zqn h w
 have g := zof h fb a ⟨[], 0, 0⟩ 0 fa (fun t ht => by cases ht) (by show (65536 : Int) * (0 + 0) ≤ 0 ∧ (0 : Int) ≤ 65536 * (0 + 0); decide)
 change 65536 * (lin φ (zeR a b).m + (zeR a b).lo) ≤ _ ∧ _ ≤ 65536 * (lin φ (zeR a b).m + (zeR a b).hi) at g
 omega
def mono (w : Pt) (x : E6) : Int := w.a ^ x.a * w.b ^ x.b * w.c ^ x.c * w.d ^ x.d * w.e ^ x.e * w.f ^ x.f
def Pt.cor (w : Pt) : Prop := (-1 ≤ w.a ∧ w.a ≤ 1) ∧ (-1 ≤ w.b ∧ w.b ≤ 1) ∧ (-1 ≤ w.c ∧ w.c ≤ 1) ∧ (-1 ≤ w.d ∧ w.d ≤ 1) ∧ (-1 ≤ w.e ∧ w.e ≤ 1) ∧ (-1 ≤ w.f ∧ w.f ≤ 1)
theorem zbe {x : Int} (h : -1 ≤ x ∧ x ≤ 1) : ∀ n : Nat, -1 ≤ x ^ n ∧ x ^ n ≤ 1 ∧ (n % 2 = 0 → 0 ≤ x ^ n) ∧ (n = 0 → x ^ n = 1)
 | 0 => by simp
 | 1 => by
  have e : x ^ 1 = x := by rw [Int.pow_succ, Int.pow_zero, Int.one_mul]
  rw [e]; exact ⟨h.1, h.2, by omega, by omega⟩
 | n + 2 => by
  obtain ⟨a, b, c, _⟩ := zbe h n
  have e : x ^ (n + 2) = x ^ n * (x * x) := by rw [Int.pow_succ, Int.pow_succ, Int.mul_assoc]
  have q : x * x = 0 ∨ x * x = 1 := by rcases tri h.1 h.2 with r | r | r <;> rw [r] <;> decide
  rw [e]
  rcases q with q | q <;> rw [q]
  ·omega
  ·rw [Int.mul_one]; exact ⟨a, b, fun k => c (by omega), by omega⟩
theorem zhf {x y : Int} (h1 : -1 ≤ x) (h2 : x ≤ 1) (h3 : -1 ≤ y) (h4 : y ≤ 1) : -1 ≤ x * y ∧ x * y ≤ 1 := by
 rcases tri h1 h2 with e | e | e <;> rw [e] <;> omega
theorem mul4 (a b c d : Int) : a * b * (c * d) = a * c * (b * d) := by rw [Int.mul_assoc, Int.mul_assoc, Int.mul_left_comm b c d]
theorem mul6 (a b c d e f a' b' c' d' e' f' : Int) : a * b * c * d * e * f * (a' * b' * c' * d' * e' * f') = a * a' * (b * b') * (c * c') * (d * d') * (e * e') * (f * f') := by
 rw [mul4 (a * b * c * d * e) f (a' * b' * c' * d' * e') f', mul4 (a * b * c * d) e (a' * b' * c' * d') e', mul4 (a * b * c) d (a' * b' * c') d', mul4 (a * b) c (a' * b') c', mul4 a b a' b']
theorem zkf {w : Pt} (h : w.cor) : Cor (mono w) := by
 obtain ⟨h1, h2, h3, h4, h5, h6⟩ := h
 have b : ∀ x : E6, -1 ≤ mono w x ∧ mono w x ≤ 1 := fun x => by
  obtain ⟨a1, a2, _⟩ := zbe h1 x.a
  obtain ⟨b1, b2, _⟩ := zbe h2 x.b
  obtain ⟨c1, c2, _⟩ := zbe h3 x.c
  obtain ⟨d1, d2, _⟩ := zbe h4 x.d
  obtain ⟨e1, e2, _⟩ := zbe h5 x.e
  obtain ⟨f1, f2, _⟩ := zbe h6 x.f
  obtain ⟨g1, g2⟩ := zhf a1 a2 b1 b2
  obtain ⟨g1, g2⟩ := zhf g1 g2 c1 c2
  obtain ⟨g1, g2⟩ := zhf g1 g2 d1 d2
  obtain ⟨g1, g2⟩ := zhf g1 g2 e1 e2
  exact zhf g1 g2 f1 f2
 refine ⟨fun x => (b x).1, fun x => (b x).2, fun x ho => ?_, fun x hd => ?_, fun x y => ?_⟩
 ·simp only [E6.odd, Bool.or_eq_false_iff, beq_eq_false_iff_ne, ne_eq] at ho
  obtain ⟨o1, o2, o3, o4, o5, o6⟩ := ho
  exact Int.mul_nonneg (Int.mul_nonneg (Int.mul_nonneg (Int.mul_nonneg (Int.mul_nonneg ((zbe h1 x.a).2.2.1 (by omega)) ((zbe h2 x.b).2.2.1 (by omega))) ((zbe h3 x.c).2.2.1 (by omega))) ((zbe h4 x.d).2.2.1 (by omega))) ((zbe h5 x.e).2.2.1 (by omega))) ((zbe h6 x.f).2.2.1 (by omega))
 ·unfold E6.deg at hd
  unfold mono
  rw [(zbe h1 x.a).2.2.2 (by omega), (zbe h2 x.b).2.2.2 (by omega), (zbe h3 x.c).2.2.2 (by omega), (zbe h4 x.d).2.2.2 (by omega), (zbe h5 x.e).2.2.2 (by omega), (zbe h6 x.f).2.2.2 (by omega)]; decide
 ·unfold mono E6.add
  simp only [Int.pow_add]
  exact (mul6 _ _ _ _ _ _ _ _ _ _ _ _).symm
end Go.Ab
namespace Go.Ab
structure TM where
 p : List Tm
 r : Iv
def TM.cs (m : TM) : List V := [.slice .any (m.p.map Tm.cs), .int .i64 m.r.lo, .int .i64 m.r.hi]
def nrm (p : List Tm) (r : Iv) : TM := if r.isW then ⟨[], r⟩ else ⟨p, r⟩
def zkg (a b : TM) : TM := nrm (zbv a.p b.p).1 ((a.r.add b.r).add (zbv a.p b.p).2)
def zeS (a : TM) : TM := nrm (a.p.map ngT) a.r.neg
def tSub (a b : TM) : TM := zkg a (zeS b)
def zgV (a b : TM) (d : Int) : TM := if a.r.isW || b.r.isW then ⟨[], Iv.whole⟩ else nrm (zco a.p b.p d).1 ((((zco a.p b.p d).2.add ((za2 a.p).mul b.r)).add ((za2 b.p).mul a.r)).add (a.r.mul b.r))
def mid (a : Iv) : Int := (a.lo + a.hi) / 2
def zcb (a : Iv) : TM := if a.isW then ⟨[], Iv.whole⟩ else nrm (zaA (mid a)) (Iv.new (a.lo - mid a) (a.hi - mid a))
def ziH (i : Int) (a : Iv) : TM := if a.isW = true ∨ a.hi - mid a ≥ 2147483648 then ⟨[], Iv.whole⟩ else
 nrm (zbv (zaA (mid a)) (zaM (zck i) (a.hi - mid a)).1).1 ((zaM (zck i) (a.hi - mid a)).2.add (zbv (zaA (mid a)) (zaM (zck i) (a.hi - mid a)).1).2)
def zlf (a : TM) (d : Int) : TM := nrm (zcK a.p d).1 (a.r.add (zcK a.p d).2)
def zog (a : TM) : Iv := (za2 a.p).add a.r
def zmV (a : TM) (b : List Iv) : Iv := (zfp b a.p).add a.r
def zqo (a : TM) (c : Iv) : TM := zgV a (zcb c) 6
structure TM.good (m : TM) : Prop where
 pol : Pol m.p
 va : m.r.valid
 em : m.r.isW = true → m.p = []
def hv (φ : E6 → Int) (m : TM) (x : Int) : Prop := m.r.isW = true ∨ (65536 * (lin φ m.p + m.r.lo) ≤ x ∧ x ≤ 65536 * (lin φ m.p + m.r.hi))
theorem zlg {p : List Tm} {r : Iv} (h : r.isW = true) : nrm p r = ⟨[], r⟩ := by unfold nrm; rw [if_pos h]
theorem zjf {p : List Tm} {r : Iv} (h : r.isW = false) : nrm p r = ⟨p, r⟩ := by unfold nrm; rw [h, if_neg (by decide)]
theorem hv_nrm {φ : E6 → Int} {p : List Tm} {r : Iv} {x : Int} (h : r.isW = false → 65536 * (lin φ p + r.lo) ≤ x ∧ x ≤ 65536 * (lin φ p + r.hi)) : hv φ (nrm p r) x := by
 cases w : r.isW
 ·rw [zjf w]; exact .inr (h w)
 ·rw [zlg w]; exact .inl w
theorem zoh {a b : Iv} (h : (a.add b).isW = false) : a.isW = false ∧ b.isW = false ∧ (a.add b).lo = a.lo + b.lo ∧ (a.add b).hi = a.hi + b.hi := by
 unfold Iv.add at h ⊢
 cases h1 : a.isW
 ·cases h2 : b.isW
  ·rw [h1, h2] at h
   simp only [Bool.or_self, Bool.false_eq_true, if_false] at h ⊢
   obtain ⟨_, _, e⟩ := zle h
   rw [e]; exact ⟨trivial, trivial, rfl, rfl⟩
  ·rw [h1, h2] at h; simp only [Bool.or_true, if_true] at h; cases h
 ·rw [h1] at h; simp only [Bool.true_or, if_true] at h; cases h
theorem zoi {a b : Iv} {x y : Int} (h : (a.mul b).isW = false) (x1 : a.lo ≤ x) (x2 : x ≤ a.hi) (y1 : b.lo ≤ y) (y2 : y ≤ b.hi) : 65536 * (a.mul b).lo ≤ x * y ∧ x * y ≤ 65536 * (a.mul b).hi := by
 have k := bil x1 x2 y1 y2
 unfold Iv.mul at h ⊢
 split at h
 ·cases h
 ·rename_i hw
  rw [if_neg hw]
  obtain ⟨_, _, e⟩ := zle h
  rw [e]
  simp only
  have a1 : ∀ m : Int, 65536 * fl m ≤ m := fun m => by unfold fl; omega
  have a2 : ∀ m : Int, m ≤ 65536 * ce m := fun m => by unfold ce; omega
  exact ⟨Int.le_trans (a1 _) k.1, Int.le_trans k.2 (a2 _)⟩
theorem zoj {φ : E6 → Int} (h : Cor φ) {p : List Tm} (w : (za2 p).isW = false) : (za2 p).lo ≤ lin φ p ∧ lin φ p ≤ (za2 p).hi := by
 unfold za2 at w ⊢
 obtain ⟨_, _, e⟩ := zle w
 rw [e]
 exact zlP h p
theorem ztf {p : List Tm} (h : za6 p) : za6 (p.map ngT) := fun t ht => by
 obtain ⟨u, hu, rfl⟩ := List.mem_map.1 ht
 have := h u hu
 unfold zy at *
 simp only [ngT]; omega
theorem zt3 {p : List Tm} (h : oks p) : oks (p.map ngT) := fun t ht => by
 obtain ⟨u, hu, rfl⟩ := List.mem_map.1 ht
 exact h u hu
theorem zr2 {p : List Tm} (h : zaF p) : zaF (p.map ngT) := fun t ht => by
 obtain ⟨u, hu, rfl⟩ := List.mem_map.1 ht
 obtain ⟨a, b, c⟩ := h u hu
 exact ⟨by unfold zy at *; simp only [ngT]; omega, by simp only [ngT]; omega, c⟩
theorem zqp {p : List Tm} (h : zap p) : zap (p.map ngT) := by
 unfold zap at *
 rw [List.pairwise_map]
 exact h.imp fun {x y} k => k
theorem zgr {a : TM} (g : a.good) : (zeS a).good := by
 obtain ⟨⟨o, n, s, f, l⟩, v, e⟩ := g
 unfold zeS
 cases w : a.r.neg.isW
 ·rw [zjf w]
  exact ⟨⟨zt3 o, ztf n, zqp s, zr2 f, by simpa using l⟩, zix v, fun k => by rw [w] at k; cases k⟩
 ·rw [zlg w]
  exact ⟨⟨(fun t ht => by cases ht), (fun t ht => by cases ht), List.Pairwise.nil, (fun t ht => by cases ht), by simp⟩, zix v, fun _ => rfl⟩
theorem zpq {φ : E6 → Int} (h : Cor φ) {a b : TM} (ga : a.good) (gb : b.good) {x y : Int} (x1 : lin φ a.p + a.r.lo ≤ x) (x2 : x ≤ lin φ a.p + a.r.hi) (y1 : lin φ b.p + b.r.lo ≤ y) (y2 : y ≤ lin φ b.p + b.r.hi) (d : Int) : hv φ (zgV a b d) (x * y) := by
 unfold zgV
 split
 ·exact .inl rfl
 ·refine hv_nrm fun w => ?_
  obtain ⟨w1, w2, e1, e2⟩ := zoh w
  obtain ⟨w3, w4, e3, e4⟩ := zoh w1
  obtain ⟨w5, w6, e5, e6⟩ := zoh w3
  have k := zt2 h ga.pol.4 gb.pol.4 w5
  have wr : ∀ {u v : Iv}, (u.mul v).isW = false → u.isW = false := fun {u v} q => by
   cases q2 : u.isW
   ·rfl
   ·unfold Iv.mul at q; rw [q2, Bool.true_or, if_pos rfl] at q; cases q
  have ra := zoj h (wr w6)
  have rb := zoj h (wr w4)
  have m1 := zoi (x := lin φ a.p) (y := y - lin φ b.p) w6 ra.1 ra.2 (by omega) (by omega)
  have m2 := zoi (x := lin φ b.p) (y := x - lin φ a.p) w4 rb.1 rb.2 (by omega) (by omega)
  have m3 := zoi (x := x - lin φ a.p) (y := y - lin φ b.p) w2 (by omega) (by omega) (by omega) (by omega)
  have e : x * y = lin φ a.p * lin φ b.p + lin φ a.p * (y - lin φ b.p) + lin φ b.p * (x - lin φ a.p) + (x - lin φ a.p) * (y - lin φ b.p) := by
   rw [Int.mul_sub, Int.mul_sub, Int.sub_mul, Int.mul_sub, Int.mul_sub, Int.mul_comm (lin φ b.p) x, Int.mul_comm (lin φ b.p) (lin φ a.p)]
   omega
  rw [e]
  omega
theorem zhV {a : Iv} (h : a.lo ≤ a.hi) : a.lo ≤ mid a ∧ mid a ≤ a.hi := by unfold mid; omega
theorem zr3 {φ : E6 → Int} (h : Cor φ) (c : Int) : lin φ (zaA c) = c := by
 unfold zaA
 split
 ·rename_i e; rw [e]; rfl
 ·show c * φ E6.zero + 0 = c
  rw [h.one _ rfl, Int.mul_one, Int.add_zero]
theorem zlh {φ : E6 → Int} (h : Cor φ) {a : Iv} (va : a.valid) (hw : a.isW = false) {x : Int} (x1 : a.lo ≤ x) (x2 : x ≤ a.hi) : lin φ (zcb a).p + (zcb a).r.lo ≤ x ∧ x ≤ lin φ (zcb a).p + (zcb a).r.hi ∧ (zcb a).r.isW = false := by
 have m := zhV va.1
 have n := zdU va hw
 unfold zy at n
 have e : Iv.new (a.lo - mid a) (a.hi - mid a) = ⟨a.lo - mid a, a.hi - mid a⟩ := by
  unfold Iv.new
  unfold mid at *
  rw [if_pos (by unfold zy; omega)]
 have w : Iv.isW ⟨a.lo - mid a, a.hi - mid a⟩ = false := zpn (by unfold mid at *; unfold zy; omega)
 unfold zcb
 rw [hw, e]
 simp only [Bool.false_eq_true, if_false]
 rw [zjf w]
 simp only
 rw [zr3 h]
 exact ⟨by omega, by omega, w⟩
end Go.Ab
namespace Go.Ab
theorem zhg : Pol [] := ⟨(fun t ht => by cases ht), (fun t ht => by cases ht), List.Pairwise.nil, (fun t ht => by cases ht), by simp⟩
theorem zfe {p : List Tm} {r : Iv} (hp : Pol p) (hr : r.valid) : (nrm p r).good := by
 cases w : r.isW
 ·rw [zjf w]; exact ⟨hp, hr, fun k => by rw [w] at k; cases k⟩
 ·rw [zlg w]; exact ⟨zhg, hr, fun _ => rfl⟩
theorem zli : TM.good ⟨[], Iv.whole⟩ := ⟨zhg, zcS, fun _ => rfl⟩
theorem ztg {p : List Tm} {most lo hi : Int} (h : (zas p most lo hi).2.isW = true) : zas p most lo hi = ([], Iv.whole) := by
 unfold zas at h ⊢
 split at h
 ·rename_i hc; rw [hc.2.2] at h; cases h
 ·rename_i hc; rw [if_neg hc]
theorem zfW {p : List Tm} (o : oks p) (s : zap p) (most lo hi : Int) : Pol (zas p most lo hi).1 := by
 cases w : (zas p most lo hi).2.isW
 ·obtain ⟨n, l, _, _, e⟩ := zmu w
  rw [e]
  have hk : ∀ t ∈ p.filter (kp most), t ∈ p ∧ t.c ≠ 0 ∧ t.e.deg ≤ 6 := fun t ht => by
   obtain ⟨h1, h2⟩ := List.mem_filter.1 ht
   unfold kp at h2
   simp only [decide_eq_true_eq] at h2
   exact ⟨h1, h2.1, by omega⟩
  exact ⟨fun t ht => o t (hk t ht).1, fun t ht => n t (hk t ht).1, s.sublist List.filter_sublist, fun t ht => ⟨n t (hk t ht).1, (hk t ht).2⟩, l⟩
 ·rw [ztg w]; exact zhg
theorem zeT {p : List Tm} {most lo hi : Int} (h : lo ≤ hi) : (zas p most lo hi).2.valid := by
 unfold zas
 split
 ·rename_i hc
  refine zcJ ?_
  have := zlN (p := p.filter (dp most)) (fun t ht => zdD.1 hc.1 t (List.mem_filter.1 ht).1)
  omega
 ·exact zcS
theorem zlj : ∀ (p : List Tm) (y : Tm), zap p → zap (ins p y) ∧ ∀ u ∈ ins p y, u.e.key = y.e.key ∨ ∃ t ∈ p, u.e.key = t.e.key
 | [], y, _ => ⟨by show List.Pairwise _ [y]; simp, fun u hu => by
   have : u = y := by simpa [ins] using hu
   rw [this]; exact .inl rfl⟩
 | t :: p, y, h => by
  obtain ⟨h1, h2⟩ := List.pairwise_cons.1 h
  by_cases c1 : t.e.key < y.e.key
  ·obtain ⟨i1, i2⟩ := zlj p y h2
   rw [zdE c1]
   refine ⟨List.pairwise_cons.2 ⟨fun u hu => ?_, i1⟩, fun u hu => ?_⟩
   ·unfold zfn
    rcases i2 u hu with e | ⟨q, hq, e⟩
    ·omega
    ·have := h1 q hq; unfold zfn at this; omega
   ·rcases List.mem_cons.1 hu with rfl | hu
    ·exact .inr ⟨_, by simp, rfl⟩
    ·rcases i2 u hu with e | ⟨q, hq, e⟩
     ·exact .inl e
     ·exact .inr ⟨q, by simp [hq], e⟩
  ·by_cases c2 : t.e.key = y.e.key
   ·rw [zfd c2]
    refine ⟨List.pairwise_cons.2 ⟨fun u hu => ?_, h2⟩, fun u hu => ?_⟩
    ·have := h1 u hu; unfold zfn at *; simp only; omega
    ·rcases List.mem_cons.1 hu with rfl | hu
     ·exact .inl rfl
     ·exact .inr ⟨u, by simp [hu], rfl⟩
   ·rw [zeP (by omega)]
    refine ⟨List.pairwise_cons.2 ⟨fun u hu => ?_, h⟩, fun u hu => ?_⟩
    ·unfold zfn
     rcases List.mem_cons.1 hu with rfl | hu
     ·omega
     ·have := h1 u hu; unfold zfn at this; omega
    ·rcases List.mem_cons.1 hu with rfl | hu
     ·exact .inl rfl
     ·exact .inr ⟨u, hu, rfl⟩
theorem zjK (x : Tm) : ∀ (b : List Tm) (s : MS), zap s.m → zap (zb0 b s x).m
 | [], _, h => h
 | y :: b, s, h => zjK x b (zbb x s y) (zlj _ _ h).1
theorem zjL (b : List Tm) : ∀ (a : List Tm) (s : MS), zap s.m → zap (a.foldl (zb0 b) s).m
 | [], _, h => h
 | x :: a, s, h => zjL b a (zb0 b s x) (zjK x b s h)
theorem zt4 {a b : List Tm} (fa : zaF a) (fb : zaF b) (most : Int) : Pol (zco a b most).1 := by
 rw [zhe fa fb]
 exact zfW (zoc fb a ⟨[], 0, 0⟩ fa (fun t ht => by cases ht)) (zjL b a _ List.Pairwise.nil) _ _ _
theorem zok {a b : List Tm} (fa : zaF a) (fb : zaF b) (most : Int) : (zco a b most).2.valid := by
 rw [zhe fa fb]
 have h := zmw b a ⟨[], 0, 0⟩ (Int.le_refl _) (Int.le_refl _)
 exact zeT (Int.le_trans h.1 h.2)
theorem zpr {a b : List Tm} (oa : oks a) (ob : oks b) (sa : zap a) (sb : zap b) : Pol (zbv a b).1 := zfW (zme _ a b (Nat.le_refl _) oa ob) (zod _ a b (Nat.le_refl _) sa sb) _ _ _
theorem zhh (a b : List Tm) : (zbv a b).2.valid := zeT (Int.le_refl _)
theorem zr4 {a : List Tm} (oa : oks a) (sa : zap a) (d : Int) : Pol (zcK a d).1 := zfW oa sa _ _ _
theorem zkh (a : List Tm) (d : Int) : (zcK a d).2.valid := zeT (Int.le_refl _)
theorem zff {p : List Tm} (h : za6 p) : (za2 p).valid := zcJ (zlN h)
theorem zol {a b : TM} (ga : a.good) (gb : b.good) : (zkg a b).good := zfe (zpr ga.pol.ok gb.pol.ok ga.pol.st gb.pol.st) (zbi (zbi ga.va gb.va) (zhh _ _))
theorem zth {a b : TM} (ga : a.good) (gb : b.good) : (tSub a b).good := zol ga (zgr gb)
theorem zhW {a b : TM} (ga : a.good) (gb : b.good) (d : Int) : (zgV a b d).good := by
 unfold zgV
 split
 ·exact zli
 ·exact zfe (zt4 ga.pol.fi gb.pol.fi d) (zbi (zbi (zbi (zok ga.pol.fi gb.pol.fi d) (zbp _ _)) (zbp _ _)) (zbp _ _))
theorem zqq {a : TM} (ga : a.good) (d : Int) : (zlf a d).good := zfe (zr4 ga.pol.ok ga.pol.st d) (zbi ga.va (zkh _ _))
theorem zgH {c : Int} (h : zy c) : Pol (zaA c) := by
 unfold zaA
 split
 ·exact zhg
 ·rename_i h0
  have e : E6.zero.ok := by decide
  refine ⟨fun t ht => ?_, fun t ht => ?_, by show List.Pairwise _ [_]; simp, fun t ht => ?_, by simp⟩
  all_goals
   rw [List.mem_singleton.1 ht]
   first | exact e | exact h | exact ⟨h, h0, Nat.zero_le 6⟩
theorem zcN {a : Iv} (va : a.valid) : (zcb a).good := by
 unfold zcb
 split
 ·exact zli
 ·rename_i hw
  have n := zdU va (by simpa using hw)
  unfold zy at n
  have m := zhV va.1
  exact zfe (zgH (by unfold zy; omega)) (zcJ (by have := va.1; omega))
theorem neg_neg (a : Iv) : a.neg.neg = a := by
 obtain ⟨l, h⟩ := a
 simp only [Iv.neg, Int.neg_neg]
end Go.Ab
