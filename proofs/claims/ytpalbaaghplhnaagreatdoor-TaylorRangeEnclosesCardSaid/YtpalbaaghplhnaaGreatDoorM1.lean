/- Polynomials at a corner: sums, products, cuts and their remainders; conditions: valid terms. -/
import Derived.Test.YtpalbaaghplhnaaGreatDoorQ2
set_option linter.unusedVariables false
set_option linter.unusedSimpArgs false
namespace Go.Ab
def lin (φ : E6 → Int) (p : List Tm) : Int := zbn (p.map fun t => t.c * φ t.e)
theorem zbB (φ : E6 → Int) (t : Tm) (p : List Tm) : lin φ (t :: p) = t.c * φ t.e + lin φ p := rfl
theorem zl4 (φ : E6 → Int) : lin φ [] = 0 := rfl
theorem zum (φ : E6 → Int) (p q : List Tm) : lin φ (p ++ q) = lin φ p + lin φ q := by
 unfold lin; rw [List.map_append, zd9]
theorem zsd (φ : E6 → Int) : ∀ (n : Nat) (a b : List Tm), a.length + b.length ≤ n → oks a → oks b → lin φ (za6 a b) = lin φ a + lin φ b := by
 intro n
 induction n with
 | zero =>
  intro a b h _ _
  rw [List.length_eq_zero_iff.1 (show a.length = 0 by omega), List.length_eq_zero_iff.1 (show b.length = 0 by omega), zaH]; rfl
 | succ n ih =>
  intro a b h ha hb
  cases a with
  | nil => rw [zaH, zl4, Int.zero_add]
  | cons x a =>
   cases b with
   | nil => rw [zb6, zl4, Int.add_zero]
   | cons y b =>
    have ha' : oks a := fun t ht => ha t (by simp [ht])
    have hb' : oks b := fun t ht => hb t (by simp [ht])
    have hx := ha x (by simp)
    have hy := hb y (by simp)
    simp only [List.length_cons] at h
    rw [zaU]
    split
    ·rw [zbB, ih a (y :: b) (by simp only [List.length_cons]; omega) ha' hb, zbB φ x a, Int.add_assoc]
    ·split
     ·rw [zbB, ih (x :: a) b (by simp only [List.length_cons]; omega) ha hb', zbB φ y b]; omega
     ·have he : x.e = y.e := E6.key_inj hx hy (by omega)
      rw [zbB, ih a b (by omega) ha' hb', zbB, zbB]
      simp only [Int.add_mul, he]; omega
theorem zmN (φ : E6 → Int) (most : Int) : ∀ p : List Tm, lin φ p = lin φ (p.filter (kp most)) + lin φ (p.filter (dp most))
 | [] => rfl
 | t :: p => by
  have ih := zmN φ most p
  by_cases h0 : t.c = 0
  ·obtain ⟨a1, a2⟩ := zuh (most := most) h0
   simp only [List.filter_cons, a1, a2, Bool.false_eq_true, if_false, zbB, h0, Int.zero_mul, Int.zero_add]
   exact ih
  ·have k1 := kd (most := most) h0
   cases hl : kp most t
   ·rw [hl] at k1
    simp only [List.filter_cons, hl, k1, Bool.not_false, if_true, Bool.false_eq_true, if_false, zbB]
    omega
   ·rw [hl] at k1
    simp only [List.filter_cons, hl, k1, Bool.not_true, if_true, Bool.false_eq_true, if_false, zbB]
    omega
structure Cor (φ : E6 → Int) : Prop where
 lo : ∀ x, -1 ≤ φ x
 hi : ∀ x, φ x ≤ 1
 ev : ∀ x, x.odd = false → 0 ≤ φ x
 one : ∀ x, x.deg = 0 → φ x = 1
 mul : ∀ x y, φ (x.add y) = φ x * φ y
theorem tri {x : Int} (h1 : -1 ≤ x) (h2 : x ≤ 1) : x = -1 ∨ x = 0 ∨ x = 1 := by omega
theorem zpz {φ : E6 → Int} (h : Cor φ) (t : Tm) : (rng t).1 ≤ t.c * φ t.e ∧ t.c * φ t.e ≤ (rng t).2 := by
 unfold rng
 split
 ·rename_i h0
  rw [h.one _ h0, Int.mul_one]; exact ⟨Int.le_refl _, Int.le_refl _⟩
 ·rcases tri (h.lo t.e) (h.hi t.e) with e | e | e
  ·split
   ·rw [e]; simp only; omega
   ·rename_i h1
    have := h.ev t.e (by simpa using h1)
    omega
  ·rw [e]; split <;> simp only <;> omega
  ·rw [e]; split <;> simp only <;> omega
theorem zl5 {φ : E6 → Int} (h : Cor φ) : ∀ p : List Tm, los p ≤ lin φ p ∧ lin φ p ≤ his p
 | [] => ⟨Int.le_refl _, Int.le_refl _⟩
 | t :: p => by
  have ih := zl5 h p
  have ht := zpz h t
  rw [ztr, zts, zbB]; omega
theorem zqx {φ : E6 → Int} (h : Cor φ) {p : List Tm} {most lo hi : Int} (w : (zaq p most lo hi).2.isW = false) :
  lin φ (zaq p most lo hi).1 + (zaq p most lo hi).2.lo ≤ lin φ p + lo ∧ lin φ p + hi ≤ lin φ (zaq p most lo hi).1 + (zaq p most lo hi).2.hi := by
 obtain ⟨_, _, _, _, e⟩ := ziO w
 rw [e]
 simp only
 have s := zmN φ most p
 have r := zl5 h (p.filter (dp most))
 omega
theorem zun {φ : E6 → Int} (h : Cor φ) {a b : List Tm} (oa : oks a) (ob : oks b) (w : (zaW a b).2.isW = false) :
  lin φ (zaW a b).1 + (zaW a b).2.lo ≤ lin φ a + lin φ b ∧ lin φ a + lin φ b ≤ lin φ (zaW a b).1 + (zaW a b).2.hi := by
 unfold zaW at *
 have f := zqx h w
 rw [zsd φ _ a b (Nat.le_refl _) oa ob] at f
 omega
def mono (w : Pt) (x : E6) : Int := w.a ^ x.a * w.b ^ x.b * w.c ^ x.c * w.d ^ x.d * w.e ^ x.e * w.f ^ x.f
def Pt.cor (w : Pt) : Prop := (-1 ≤ w.a ∧ w.a ≤ 1) ∧ (-1 ≤ w.b ∧ w.b ≤ 1) ∧ (-1 ≤ w.c ∧ w.c ≤ 1) ∧ (-1 ≤ w.d ∧ w.d ≤ 1) ∧ (-1 ≤ w.e ∧ w.e ≤ 1) ∧ (-1 ≤ w.f ∧ w.f ≤ 1)
theorem zbg {x : Int} (h : -1 ≤ x ∧ x ≤ 1) : ∀ n : Nat, -1 ≤ x ^ n ∧ x ^ n ≤ 1 ∧ (n % 2 = 0 → 0 ≤ x ^ n) ∧ (n = 0 → x ^ n = 1)
 | 0 => by simp
 | 1 => by
  have e : x ^ 1 = x := by rw [Int.pow_succ, Int.pow_zero, Int.one_mul]
  rw [e]; exact ⟨h.1, h.2, by omega, by omega⟩
 | n + 2 => by
  obtain ⟨a, b, c, _⟩ := zbg h n
  have e : x ^ (n + 2) = x ^ n * (x * x) := by rw [Int.pow_succ, Int.pow_succ, Int.mul_assoc]
  have q : x * x = 0 ∨ x * x = 1 := by rcases tri h.1 h.2 with r | r | r <;> rw [r] <;> decide
  rw [e]
  rcases q with q | q <;> rw [q]
  ·omega
  ·rw [Int.mul_one]; exact ⟨a, b, fun k => c (by omega), by omega⟩
theorem zhm {x y : Int} (h1 : -1 ≤ x) (h2 : x ≤ 1) (h3 : -1 ≤ y) (h4 : y ≤ 1) : -1 ≤ x * y ∧ x * y ≤ 1 := by
 rcases tri h1 h2 with e | e | e <;> rw [e] <;> omega
theorem mul4 (a b c d : Int) : a * b * (c * d) = a * c * (b * d) := by rw [Int.mul_assoc, Int.mul_assoc, Int.mul_left_comm b c d]
theorem mul6 (a b c d e f a' b' c' d' e' f' : Int) : a * b * c * d * e * f * (a' * b' * c' * d' * e' * f') = a * a' * (b * b') * (c * c') * (d * d') * (e * e') * (f * f') := by
 rw [mul4 (a * b * c * d * e) f (a' * b' * c' * d' * e') f', mul4 (a * b * c * d) e (a' * b' * c' * d') e', mul4 (a * b * c) d (a' * b' * c') d', mul4 (a * b) c (a' * b') c', mul4 a b a' b']
theorem zkt {w : Pt} (h : w.cor) : Cor (mono w) := by
 obtain ⟨h1, h2, h3, h4, h5, h6⟩ := h
 have b : ∀ x : E6, -1 ≤ mono w x ∧ mono w x ≤ 1 := fun x => by
  obtain ⟨a1, a2, _⟩ := zbg h1 x.a
  obtain ⟨b1, b2, _⟩ := zbg h2 x.b
  obtain ⟨c1, c2, _⟩ := zbg h3 x.c
  obtain ⟨d1, d2, _⟩ := zbg h4 x.d
  obtain ⟨e1, e2, _⟩ := zbg h5 x.e
  obtain ⟨f1, f2, _⟩ := zbg h6 x.f
  obtain ⟨g1, g2⟩ := zhm a1 a2 b1 b2
  obtain ⟨g1, g2⟩ := zhm g1 g2 c1 c2
  obtain ⟨g1, g2⟩ := zhm g1 g2 d1 d2
  obtain ⟨g1, g2⟩ := zhm g1 g2 e1 e2
  exact zhm g1 g2 f1 f2
 refine ⟨fun x => (b x).1, fun x => (b x).2, fun x ho => ?_, fun x hd => ?_, fun x y => ?_⟩
 ·simp only [E6.odd, Bool.or_eq_false_iff, beq_eq_false_iff_ne, ne_eq] at ho
  obtain ⟨o1, o2, o3, o4, o5, o6⟩ := ho
  exact Int.mul_nonneg (Int.mul_nonneg (Int.mul_nonneg (Int.mul_nonneg (Int.mul_nonneg ((zbg h1 x.a).2.2.1 (by omega)) ((zbg h2 x.b).2.2.1 (by omega))) ((zbg h3 x.c).2.2.1 (by omega))) ((zbg h4 x.d).2.2.1 (by omega))) ((zbg h5 x.e).2.2.1 (by omega))) ((zbg h6 x.f).2.2.1 (by omega))
 ·unfold E6.deg at hd
  unfold mono
  rw [(zbg h1 x.a).2.2.2 (by omega), (zbg h2 x.b).2.2.2 (by omega), (zbg h3 x.c).2.2.2 (by omega), (zbg h4 x.d).2.2.2 (by omega), (zbg h5 x.e).2.2.2 (by omega), (zbg h6 x.f).2.2.2 (by omega)]; decide
 ·unfold mono E6.add
  simp only [Int.pow_add]
  exact (mul6 _ _ _ _ _ _ _ _ _ _ _ _).symm
end Go.Ab
namespace Go.Ab
structure TM where
 p : List Tm
 r : Iv
def TM.cs (m : TM) : List V := [.slice .any (m.p.map Tm.cs), .int .i64 m.r.lo, .int .i64 m.r.hi]
def nrm (p : List Tm) (r : Iv) : TM := if r.isW then ⟨[], r⟩ else ⟨p, r⟩
def zg3 (a b : TM) : TM := nrm (zaW a.p b.p).1 ((a.r.add b.r).add (zaW a.p b.p).2)
def zc3 (a : TM) : TM := nrm (a.p.map ngT) a.r.neg
def zh2 (a b : TM) : TM := zg3 a (zc3 b)
def zg4 (a b : TM) (d : Int) : TM := if a.r.isW || b.r.isW then ⟨[], Iv.whole⟩ else nrm (zdg a.p b.p d).1 ((((zdg a.p b.p d).2.add ((za5 a.p).mul b.r)).add ((za5 b.p).mul a.r)).add (a.r.mul b.r))
def mid (a : Iv) : Int := (a.lo + a.hi) / 2
def zdF (a : Iv) : TM := if a.isW then ⟨[], Iv.whole⟩ else nrm (zaF (mid a)) (Iv.new (a.lo - mid a) (a.hi - mid a))
def ziR (i : Int) (a : Iv) : TM := if a.isW = true ∨ a.hi - mid a ≥ 2147483648 then ⟨[], Iv.whole⟩ else
 nrm (zaW (zaF (mid a)) (zaM (zck i) (a.hi - mid a)).1).1 ((zaM (zck i) (a.hi - mid a)).2.add (zaW (zaF (mid a)) (zaM (zck i) (a.hi - mid a)).1).2)
def zlt (a : TM) (d : Int) : TM := nrm (zcI a.p d).1 (a.r.add (zcI a.p d).2)
def zeX (a : TM) : Iv := (za5 a.p).add a.r
def zfr (a : TM) (b : List Iv) : Iv := (zeU b a.p).add a.r
def zqy (a : TM) (c : Iv) : TM := zg4 a (zdF c) 6
structure TM.good (m : TM) : Prop where
 pol : Pol m.p
 va : m.r.valid
 em : m.r.isW = true → m.p = []
def hv (φ : E6 → Int) (m : TM) (x : Int) : Prop := m.r.isW = true ∨ (65536 * (lin φ m.p + m.r.lo) ≤ x ∧ x ≤ 65536 * (lin φ m.p + m.r.hi))
theorem zjq {p : List Tm} {r : Iv} (h : r.isW = true) : nrm p r = ⟨[], r⟩ := by unfold nrm; rw [if_pos h]
theorem zjr {p : List Tm} {r : Iv} (h : r.isW = false) : nrm p r = ⟨p, r⟩ := by unfold nrm; rw [h, if_neg (by decide)]
theorem zse {φ : E6 → Int} {p : List Tm} {r : Iv} {x : Int} (h : r.isW = false → 65536 * (lin φ p + r.lo) ≤ x ∧ x ≤ 65536 * (lin φ p + r.hi)) : hv φ (nrm p r) x := by
 cases w : r.isW
 ·rw [zjr w]; exact .inr (h w)
 ·rw [zjq w]; exact .inl w
theorem zlu {a b : Iv} (h : (a.add b).isW = false) : a.isW = false ∧ b.isW = false ∧ (a.add b).lo = a.lo + b.lo ∧ (a.add b).hi = a.hi + b.hi := by
 unfold Iv.add at h ⊢
 cases h1 : a.isW
 ·cases h2 : b.isW
  ·rw [h1, h2] at h
   simp only [Bool.or_self, Bool.false_eq_true, if_false] at h ⊢
   obtain ⟨_, _, e⟩ := zos h
   rw [e]; exact ⟨trivial, trivial, rfl, rfl⟩
  ·rw [h1, h2] at h; simp only [Bool.or_true, if_true] at h; cases h
 ·rw [h1] at h; simp only [Bool.true_or, if_true] at h; cases h
theorem ztt {φ : E6 → Int} (h : Cor φ) {p : List Tm} (w : (za5 p).isW = false) : (za5 p).lo ≤ lin φ p ∧ lin φ p ≤ (za5 p).hi := by
 unfold za5 at w ⊢
 obtain ⟨_, _, e⟩ := zos w
 rw [e]
 exact zl5 h p
theorem zuo {φ : E6 → Int} (h : Cor φ) {a b : TM} (ga : a.good) (gb : b.good) {x y : Int} (hx : hv φ a x) (hy : hv φ b y) : hv φ (zg3 a b) (x + y) := by
 refine zse fun w => ?_
 obtain ⟨w1, w2, e1, e2⟩ := zlu w
 obtain ⟨w3, w4, e3, e4⟩ := zlu w1
 have k := zun h ga.pol.1 gb.pol.1 w2
 rcases hx with hx | hx
 ·rw [hx] at w3; cases w3
 ·rcases hy with hy | hy
  ·rw [hy] at w4; cases w4
  ·omega
theorem zpA (φ : E6 → Int) : ∀ p : List Tm, lin φ (p.map ngT) = -lin φ p
 | [] => rfl
 | t :: p => by
  rw [List.map_cons, zbB, zbB, zpA φ p]
  simp only [ngT, Int.neg_mul]; omega
theorem neg_W (a : Iv) : a.neg.isW = a.isW := by
 rw [Bool.eq_iff_iff]
 simp only [Iv.neg, Iv.isW, Bool.and_eq_true, beq_iff_eq]; omega
theorem zup {φ : E6 → Int} {a : TM} {x : Int} (hx : hv φ a x) : hv φ (zc3 a) (-x) := by
 refine zse fun w => ?_
 rw [neg_W] at w
 rcases hx with hx | hx
 ·rw [hx] at w; cases w
 ·rw [zpA]
  simp only [Iv.neg]; omega
theorem ztu {p : List Tm} (h : zbb p) : zbb (p.map ngT) := fun t ht => by
 obtain ⟨u, hu, rfl⟩ := List.mem_map.1 ht
 have := h u hu
 unfold zz at *
 simp only [ngT]; omega
theorem zuq {p : List Tm} (h : oks p) : oks (p.map ngT) := fun t ht => by
 obtain ⟨u, hu, rfl⟩ := List.mem_map.1 ht
 exact h u hu
theorem zsf {p : List Tm} (h : zaV p) : zaV (p.map ngT) := fun t ht => by
 obtain ⟨u, hu, rfl⟩ := List.mem_map.1 ht
 obtain ⟨a, b, c⟩ := h u hu
 exact ⟨by unfold zz at *; simp only [ngT]; omega, by simp only [ngT]; omega, c⟩
theorem zqz {p : List Tm} (h : zar p) : zar (p.map ngT) := by
 unfold zar at *
 rw [List.pairwise_map]
 exact h.imp fun {x y} k => k
theorem zdh {a : TM} (g : a.good) : (zc3 a).good := by
 obtain ⟨⟨o, n, s, f, l⟩, v, e⟩ := g
 unfold zc3
 cases w : a.r.neg.isW
 ·rw [zjr w]
  exact ⟨⟨zuq o, ztu n, zqz s, zsf f, by simpa using l⟩, ziE v, fun k => by rw [w] at k; cases k⟩
 ·rw [zjq w]
  exact ⟨⟨(fun t ht => by cases ht), (fun t ht => by cases ht), List.Pairwise.nil, (fun t ht => by cases ht), by simp⟩, ziE v, fun _ => rfl⟩
theorem zur {φ : E6 → Int} (h : Cor φ) {a b : TM} (ga : a.good) (gb : b.good) {x y : Int} (hx : hv φ a x) (hy : hv φ b y) : hv φ (zh2 a b) (x - y) := zuo h ga (zdh gb) hx (zup hy)
theorem hv_of {φ : E6 → Int} {m : TM} {x : Int} (h1 : lin φ m.p + m.r.lo ≤ x) (h2 : x ≤ lin φ m.p + m.r.hi) : hv φ m (65536 * x) := .inr ⟨by omega, by omega⟩
theorem zqA {φ : E6 → Int} (h : Cor φ) {a : TM} {x : Int} (x1 : lin φ a.p + a.r.lo ≤ x) (x2 : x ≤ lin φ a.p + a.r.hi) (w : (zeX a).isW = false) : (zeX a).lo ≤ x ∧ x ≤ (zeX a).hi := by
 unfold zeX at *
 obtain ⟨w1, w2, e1, e2⟩ := zlu w
 have k := ztt h w1
 omega
theorem zjs {a : Iv} (h : a.lo ≤ a.hi) : a.lo ≤ mid a ∧ mid a ≤ a.hi := by unfold mid; omega
end Go.Ab
namespace Go.Ab
theorem zhn : Pol [] := ⟨(fun t ht => by cases ht), (fun t ht => by cases ht), List.Pairwise.nil, (fun t ht => by cases ht), by simp⟩
theorem zfh {p : List Tm} {r : Iv} (hp : Pol p) (hr : r.valid) : (nrm p r).good := by
 cases w : r.isW
 ·rw [zjr w]; exact ⟨hp, hr, fun k => by rw [w] at k; cases k⟩
 ·rw [zjq w]; exact ⟨zhn, hr, fun _ => rfl⟩
theorem zlv : TM.good ⟨[], Iv.whole⟩ := ⟨zhn, zcQ, fun _ => rfl⟩
theorem zou {p : List Tm} {most lo hi : Int} (h : (zaq p most lo hi).2.isW = true) : zaq p most lo hi = ([], Iv.whole) := by
 unfold zaq at h ⊢
 split at h
 ·rename_i hc; rw [hc.2.2] at h; cases h
 ·rename_i hc; rw [if_neg hc]
theorem zfX {p : List Tm} (o : oks p) (s : zar p) (most lo hi : Int) : Pol (zaq p most lo hi).1 := by
 cases w : (zaq p most lo hi).2.isW
 ·obtain ⟨n, l, _, _, e⟩ := ziO w
  rw [e]
  have hk : ∀ t ∈ p.filter (kp most), t ∈ p ∧ t.c ≠ 0 ∧ t.e.deg ≤ 6 := fun t ht => by
   obtain ⟨h1, h2⟩ := List.mem_filter.1 ht
   unfold kp at h2
   simp only [decide_eq_true_eq] at h2
   exact ⟨h1, h2.1, by omega⟩
  exact ⟨fun t ht => o t (hk t ht).1, fun t ht => n t (hk t ht).1, s.sublist List.filter_sublist, fun t ht => ⟨n t (hk t ht).1, (hk t ht).2⟩, l⟩
 ·rw [zou w]; exact zhn
theorem zeY {p : List Tm} {most lo hi : Int} (h : lo ≤ hi) : (zaq p most lo hi).2.valid := by
 unfold zaq
 split
 ·rename_i hc
  refine zcH ?_
  have := zl1 (p := p.filter (dp most)) (fun t ht => zdD.1 hc.1 t (List.mem_filter.1 ht).1)
  omega
 ·exact zcQ
theorem zlw : ∀ (p : List Tm) (y : Tm), zar p → zar (ins p y) ∧ ∀ u ∈ ins p y, u.e.key = y.e.key ∨ ∃ t ∈ p, u.e.key = t.e.key
 | [], y, _ => ⟨by show List.Pairwise _ [y]; simp, fun u hu => by
   have : u = y := by simpa [ins] using hu
   rw [this]; exact .inl rfl⟩
 | t :: p, y, h => by
  obtain ⟨h1, h2⟩ := List.pairwise_cons.1 h
  by_cases c1 : t.e.key < y.e.key
  ·obtain ⟨i1, i2⟩ := zlw p y h2
   rw [zeb c1]
   refine ⟨List.pairwise_cons.2 ⟨fun u hu => ?_, i1⟩, fun u hu => ?_⟩
   ·unfold zfq
    rcases i2 u hu with e | ⟨q, hq, e⟩
    ·omega
    ·have := h1 q hq; unfold zfq at this; omega
   ·rcases List.mem_cons.1 hu with rfl | hu
    ·exact .inr ⟨_, by simp, rfl⟩
    ·rcases i2 u hu with e | ⟨q, hq, e⟩
     ·exact .inl e
     ·exact .inr ⟨q, by simp [hq], e⟩
  ·by_cases c2 : t.e.key = y.e.key
   ·rw [zgv c2]
    refine ⟨List.pairwise_cons.2 ⟨fun u hu => ?_, h2⟩, fun u hu => ?_⟩
    ·have := h1 u hu; unfold zfq at *; simp only; omega
    ·rcases List.mem_cons.1 hu with rfl | hu
     ·exact .inl rfl
     ·exact .inr ⟨u, by simp [hu], rfl⟩
   ·rw [zfD (by omega)]
    refine ⟨List.pairwise_cons.2 ⟨fun u hu => ?_, h⟩, fun u hu => ?_⟩
    ·unfold zfq
     rcases List.mem_cons.1 hu with rfl | hu
     ·omega
     ·have := h1 u hu; unfold zfq at this; omega
    ·rcases List.mem_cons.1 hu with rfl | hu
     ·exact .inl rfl
     ·exact .inr ⟨u, hu, rfl⟩
theorem zjX (x : Tm) : ∀ (b : List Tm) (s : MS), zar s.m → zar (zdt b s x).m
 | [], _, h => h
 | y :: b, s, h => zjX x b (zb1 x s y) (zlw _ _ h).1
theorem zjY (b : List Tm) : ∀ (a : List Tm) (s : MS), zar s.m → zar (a.foldl (zdt b) s).m
 | [], _, h => h
 | x :: a, s, h => zjY b a (zdt b s x) (zjX x b s h)
theorem zus {a b : List Tm} (fa : zaV a) (fb : zaV b) (most : Int) : Pol (zdg a b most).1 := by
 rw [zjp fa fb]
 exact zfX (zor fb a ⟨[], 0, 0⟩ fa (fun t ht => by cases ht)) (zjY b a _ List.Pairwise.nil) _ _ _
theorem zov {a b : List Tm} (fa : zaV a) (fb : zaV b) (most : Int) : (zdg a b most).2.valid := by
 rw [zjp fa fb]
 have h := zmL b a ⟨[], 0, 0⟩ (Int.le_refl _) (Int.le_refl _)
 exact zeY (Int.le_trans h.1 h.2)
theorem zpB {a b : List Tm} (oa : oks a) (ob : oks b) (sa : zar a) (sb : zar b) : Pol (zaW a b).1 := zfX (zmu _ a b (Nat.le_refl _) oa ob) (zot _ a b (Nat.le_refl _) sa sb) _ _ _
theorem zho (a b : List Tm) : (zaW a b).2.valid := zeY (Int.le_refl _)
theorem zsg {a : List Tm} (oa : oks a) (sa : zar a) (d : Int) : Pol (zcI a d).1 := zfX oa sa _ _ _
theorem zku (a : List Tm) (d : Int) : (zcI a d).2.valid := zeY (Int.le_refl _)
theorem zfi {p : List Tm} (h : zbb p) : (za5 p).valid := zcH (zl1 h)
theorem zgz {a b : TM} (ga : a.good) (gb : b.good) : (zg3 a b).good := zfh (zpB ga.pol.ok gb.pol.ok ga.pol.st gb.pol.st) (zbj (zbj ga.va gb.va) (zho _ _))
theorem ztv {a b : TM} (ga : a.good) (gb : b.good) : (zh2 a b).good := zgz ga (zdh gb)
theorem zkv {a b : TM} (ga : a.good) (gb : b.good) (d : Int) : (zg4 a b d).good := by
 unfold zg4
 split
 ·exact zlv
 ·exact zfh (zus ga.pol.fi gb.pol.fi d) (zbj (zbj (zbj (zov ga.pol.fi gb.pol.fi d) (zbq _ _)) (zbq _ _)) (zbq _ _))
theorem zqB {a : TM} (ga : a.good) (d : Int) : (zlt a d).good := zfh (zsg ga.pol.ok ga.pol.st d) (zbj ga.va (zku _ _))
theorem zgP {c : Int} (h : zz c) : Pol (zaF c) := by
 unfold zaF
 split
 ·exact zhn
 ·rename_i h0
  have e : E6.zero.ok := by decide
  refine ⟨fun t ht => ?_, fun t ht => ?_, by show List.Pairwise _ [_]; simp, fun t ht => ?_, by simp⟩
  all_goals
   rw [List.mem_singleton.1 ht]
   first | exact e | exact h | exact ⟨h, h0, Nat.zero_le 6⟩
theorem zfY {a : Iv} (va : a.valid) : (zdF a).good := by
 unfold zdF
 split
 ·exact zlv
 ·rename_i hw
  have n := zdW va (by simpa using hw)
  unfold zz at n
  have m := zjs va.1
  exact zfh (zgP (by unfold zz; omega)) (zcH (by have := va.1; omega))
theorem neg_neg (a : Iv) : a.neg.neg = a := by
 obtain ⟨l, h⟩ := a
 simp only [Iv.neg, Int.neg_neg]
end Go.Ab
namespace Go.Ab
def prs {α β : Type} (f : α → α → β) (a b : List α) : List β := a.flatMap fun x => b.map (f x)
end Go.Ab
