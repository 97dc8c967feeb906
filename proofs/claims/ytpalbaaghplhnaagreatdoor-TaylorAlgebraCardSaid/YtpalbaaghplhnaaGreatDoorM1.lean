/- Polynomials at a corner: sums, products, cuts and their remainders; conditions: valid terms. -/
import Derived.Test.YtpalbaaghplhnaaGreatDoorQ2
set_option linter.unusedVariables false
set_option linter.unusedSimpArgs false
namespace Go.Ab
def lin (φ : E6 → Int) (p : List Tm) : Int := za0 (p.map fun t => t.c * φ t.e)
theorem zbI (φ : E6 → Int) (t : Tm) (p : List Tm) : lin φ (t :: p) = t.c * φ t.e + lin φ p := rfl
theorem zl9 (φ : E6 → Int) : lin φ [] = 0 := rfl
theorem zuF (φ : E6 → Int) (p q : List Tm) : lin φ (p ++ q) = lin φ p + lin φ q := by
 unfold lin; rw [List.map_append, zc0]
theorem zsr (φ : E6 → Int) : ∀ (n : Nat) (a b : List Tm), a.length + b.length ≤ n → oks a → oks b → lin φ (za4 a b) = lin φ a + lin φ b := by
 intro n
 induction n with
 | zero =>
  intro a b h _ _
  rw [List.length_eq_zero_iff.1 (show a.length = 0 by omega), List.length_eq_zero_iff.1 (show b.length = 0 by omega), zaB]; rfl
 | succ n ih =>
  intro a b h ha hb
  cases a with
  | nil => rw [zaB, zl9, Int.zero_add]
  | cons x a =>
   cases b with
   | nil => rw [zbF, zl9, Int.add_zero]
   | cons y b =>
    have ha' : oks a := fun t ht => ha t (by simp [ht])
    have hb' : oks b := fun t ht => hb t (by simp [ht])
    have hx := ha x (by simp)
    have hy := hb y (by simp)
    simp only [List.length_cons] at h
    rw [zaJ]
    split
    ·rw [zbI, ih a (y :: b) (by simp only [List.length_cons]; omega) ha' hb, zbI φ x a, Int.add_assoc]
    ·split
     ·rw [zbI, ih (x :: a) b (by simp only [List.length_cons]; omega) ha hb', zbI φ y b]; omega
     ·have he : x.e = y.e := E6.key_inj hx hy (by omega)
      rw [zbI, ih a b (by omega) ha' hb', zbI, zbI]
      simp only [Int.add_mul, he]; omega
theorem zmS (φ : E6 → Int) (most : Int) : ∀ p : List Tm, lin φ p = lin φ (p.filter (kp most)) + lin φ (p.filter (dp most))
 | [] => rfl
 | t :: p => by
  have ih := zmS φ most p
  by_cases h0 : t.c = 0
  ·obtain ⟨a1, a2⟩ := zuA (most := most) h0
   simp only [List.filter_cons, a1, a2, Bool.false_eq_true, if_false, zbI, h0, Int.zero_mul, Int.zero_add]
   exact ih
  ·have k1 := kd (most := most) h0
   cases hl : kp most t
   ·rw [hl] at k1
    simp only [List.filter_cons, hl, k1, Bool.not_false, if_true, Bool.false_eq_true, if_false, zbI]
    omega
   ·rw [hl] at k1
    simp only [List.filter_cons, hl, k1, Bool.not_true, if_true, Bool.false_eq_true, if_false, zbI]
    omega
structure Cor (φ : E6 → Int) : Prop where
 lo : ∀ x, -1 ≤ φ x
 hi : ∀ x, φ x ≤ 1
 ev : ∀ x, x.odd = false → 0 ≤ φ x
 one : ∀ x, x.deg = 0 → φ x = 1
 mul : ∀ x y, φ (x.add y) = φ x * φ y
theorem tri {x : Int} (h1 : -1 ≤ x) (h2 : x ≤ 1) : x = -1 ∨ x = 0 ∨ x = 1 := by omega
theorem zpH {φ : E6 → Int} (h : Cor φ) (t : Tm) : (rng t).1 ≤ t.c * φ t.e ∧ t.c * φ t.e ≤ (rng t).2 := by
 unfold rng
 split
 ·rename_i h0
  rw [h.one _ h0, Int.mul_one]; exact ⟨Int.le_refl _, Int.le_refl _⟩
 ·rcases tri (h.lo t.e) (h.hi t.e) with e | e | e
  ·split
   ·rw [e]; simp only; omega
   ·rename_i h1
    have := h.ev t.e (by simpa using h1)
    omega
  ·rw [e]; split <;> simp only <;> omega
  ·rw [e]; split <;> simp only <;> omega
theorem zma {φ : E6 → Int} (h : Cor φ) : ∀ p : List Tm, los p ≤ lin φ p ∧ lin φ p ≤ his p
 | [] => ⟨Int.le_refl _, Int.le_refl _⟩
 | t :: p => by
  have ih := zma h p
  have ht := zpH h t
  rw [ztK, ztL, zbI]; omega
theorem zqG {φ : E6 → Int} (h : Cor φ) {p : List Tm} {most lo hi : Int} (w : (zar p most lo hi).2.isW = false) :
  lin φ (zar p most lo hi).1 + (zar p most lo hi).2.lo ≤ lin φ p + lo ∧ lin φ p + hi ≤ lin φ (zar p most lo hi).1 + (zar p most lo hi).2.hi := by
 obtain ⟨_, _, _, _, e⟩ := ziZ w
 rw [e]
 simp only
 have s := zmS φ most p
 have r := zma h (p.filter (dp most))
 omega
theorem zuG {φ : E6 → Int} (h : Cor φ) {a b : List Tm} (oa : oks a) (ob : oks b) (w : (zaQ a b).2.isW = false) :
  lin φ (zaQ a b).1 + (zaQ a b).2.lo ≤ lin φ a + lin φ b ∧ lin φ a + lin φ b ≤ lin φ (zaQ a b).1 + (zaQ a b).2.hi := by
 unfold zaQ at *
 have f := zqG h w
 rw [zsr φ _ a b (Nat.le_refl _) oa ob] at f
 omega
def mono (w : Pt) (x : E6) : Int := w.a ^ x.a * w.b ^ x.b * w.c ^ x.c * w.d ^ x.d * w.e ^ x.e * w.f ^ x.f
def Pt.cor (w : Pt) : Prop := (-1 ≤ w.a ∧ w.a ≤ 1) ∧ (-1 ≤ w.b ∧ w.b ≤ 1) ∧ (-1 ≤ w.c ∧ w.c ≤ 1) ∧ (-1 ≤ w.d ∧ w.d ≤ 1) ∧ (-1 ≤ w.e ∧ w.e ≤ 1) ∧ (-1 ≤ w.f ∧ w.f ≤ 1)
theorem zbl {x : Int} (h : -1 ≤ x ∧ x ≤ 1) : ∀ n : Nat, -1 ≤ x ^ n ∧ x ^ n ≤ 1 ∧ (n % 2 = 0 → 0 ≤ x ^ n) ∧ (n = 0 → x ^ n = 1)
 | 0 => by simp
 | 1 => by
  have e : x ^ 1 = x := by rw [Int.pow_succ, Int.pow_zero, Int.one_mul]
  rw [e]; exact ⟨h.1, h.2, by omega, by omega⟩
 | n + 2 => by
  obtain ⟨a, b, c, _⟩ := zbl h n
  have e : x ^ (n + 2) = x ^ n * (x * x) := by rw [Int.pow_succ, Int.pow_succ, Int.mul_assoc]
  have q : x * x = 0 ∨ x * x = 1 := by rcases tri h.1 h.2 with r | r | r <;> rw [r] <;> decide
  rw [e]
  rcases q with q | q <;> rw [q]
  ·omega
  ·rw [Int.mul_one]; exact ⟨a, b, fun k => c (by omega), by omega⟩
theorem zhv {x y : Int} (h1 : -1 ≤ x) (h2 : x ≤ 1) (h3 : -1 ≤ y) (h4 : y ≤ 1) : -1 ≤ x * y ∧ x * y ≤ 1 := by
 rcases tri h1 h2 with e | e | e <;> rw [e] <;> omega
theorem mul4 (a b c d : Int) : a * b * (c * d) = a * c * (b * d) := by rw [Int.mul_assoc, Int.mul_assoc, Int.mul_left_comm b c d]
theorem mul6 (a b c d e f a' b' c' d' e' f' : Int) : a * b * c * d * e * f * (a' * b' * c' * d' * e' * f') = a * a' * (b * b') * (c * c') * (d * d') * (e * e') * (f * f') := by
 rw [mul4 (a * b * c * d * e) f (a' * b' * c' * d' * e') f', mul4 (a * b * c * d) e (a' * b' * c' * d') e', mul4 (a * b * c) d (a' * b' * c') d', mul4 (a * b) c (a' * b') c', mul4 a b a' b']
theorem zib {w : Pt} (h : w.cor) : Cor (mono w) := by
 obtain ⟨h1, h2, h3, h4, h5, h6⟩ := h
 have b : ∀ x : E6, -1 ≤ mono w x ∧ mono w x ≤ 1 := fun x => by
  obtain ⟨a1, a2, _⟩ := zbl h1 x.a
  obtain ⟨b1, b2, _⟩ := zbl h2 x.b
  obtain ⟨c1, c2, _⟩ := zbl h3 x.c
  obtain ⟨d1, d2, _⟩ := zbl h4 x.d
  obtain ⟨e1, e2, _⟩ := zbl h5 x.e
  obtain ⟨f1, f2, _⟩ := zbl h6 x.f
  obtain ⟨g1, g2⟩ := zhv a1 a2 b1 b2
  obtain ⟨g1, g2⟩ := zhv g1 g2 c1 c2
  obtain ⟨g1, g2⟩ := zhv g1 g2 d1 d2
  obtain ⟨g1, g2⟩ := zhv g1 g2 e1 e2
  exact zhv g1 g2 f1 f2
 refine ⟨fun x => (b x).1, fun x => (b x).2, fun x ho => ?_, fun x hd => ?_, fun x y => ?_⟩
 ·simp only [E6.odd, Bool.or_eq_false_iff, beq_eq_false_iff_ne, ne_eq] at ho
  obtain ⟨o1, o2, o3, o4, o5, o6⟩ := ho
  exact Int.mul_nonneg (Int.mul_nonneg (Int.mul_nonneg (Int.mul_nonneg (Int.mul_nonneg ((zbl h1 x.a).2.2.1 (by omega)) ((zbl h2 x.b).2.2.1 (by omega))) ((zbl h3 x.c).2.2.1 (by omega))) ((zbl h4 x.d).2.2.1 (by omega))) ((zbl h5 x.e).2.2.1 (by omega))) ((zbl h6 x.f).2.2.1 (by omega))
 ·unfold E6.deg at hd
  unfold mono
  rw [(zbl h1 x.a).2.2.2 (by omega), (zbl h2 x.b).2.2.2 (by omega), (zbl h3 x.c).2.2.2 (by omega), (zbl h4 x.d).2.2.2 (by omega), (zbl h5 x.e).2.2.2 (by omega), (zbl h6 x.f).2.2.2 (by omega)]; decide
 ·unfold mono E6.add
  simp only [Int.pow_add]
  exact (mul6 _ _ _ _ _ _ _ _ _ _ _ _).symm
end Go.Ab
namespace Go.Ab
structure TM where
 p : List Tm
 r : Iv
def TM.cs (m : TM) : List V := [.slice .any (m.p.map Tm.cs), .int .i64 m.r.lo, .int .i64 m.r.hi]
def nrm (p : List Tm) (r : Iv) : TM := if r.isW then ⟨[], r⟩ else ⟨p, r⟩
def ze4 (a b : TM) : TM := nrm (zaQ a.p b.p).1 ((a.r.add b.r).add (zaQ a.p b.p).2)
def zci (a : TM) : TM := nrm (a.p.map ngT) a.r.neg
def zhd (a b : TM) : TM := ze4 a (zci b)
def zdp (a b : TM) (d : Int) : TM := if a.r.isW || b.r.isW then ⟨[], Iv.whole⟩ else nrm (zcl a.p b.p d).1 ((((zcl a.p b.p d).2.add ((zaP a.p).mul b.r)).add ((zaP b.p).mul a.r)).add (a.r.mul b.r))
def mid (a : Iv) : Int := (a.lo + a.hi) / 2
def zdO (a : Iv) : TM := if a.isW then ⟨[], Iv.whole⟩ else nrm (zaI (mid a)) (Iv.new (a.lo - mid a) (a.hi - mid a))
def zi2 (i : Int) (a : Iv) : TM := if a.isW = true ∨ a.hi - mid a ≥ 2147483648 then ⟨[], Iv.whole⟩ else
 nrm (zaQ (zaI (mid a)) (zaR (zcs i) (a.hi - mid a)).1).1 ((zaR (zcs i) (a.hi - mid a)).2.add (zaQ (zaI (mid a)) (zaR (zcs i) (a.hi - mid a)).1).2)
def zlz (a : TM) (d : Int) : TM := nrm (zcR a.p d).1 (a.r.add (zcR a.p d).2)
def ze5 (a : TM) : Iv := (zaP a.p).add a.r
def zfz (a : TM) (b : List Iv) : Iv := (ze1 b a.p).add a.r
def zqH (a : TM) (c : Iv) : TM := zdp a (zdO c) 6
structure TM.good (m : TM) : Prop where
 pol : Pol m.p
 va : m.r.valid
 em : m.r.isW = true → m.p = []
def hv (φ : E6 → Int) (m : TM) (x : Int) : Prop := m.r.isW = true ∨ (65536 * (lin φ m.p + m.r.lo) ≤ x ∧ x ≤ 65536 * (lin φ m.p + m.r.hi))
theorem zgY {p : List Tm} {r : Iv} (h : r.isW = true) : nrm p r = ⟨[], r⟩ := by unfold nrm; rw [if_pos h]
theorem zfA {p : List Tm} {r : Iv} (h : r.isW = false) : nrm p r = ⟨p, r⟩ := by unfold nrm; rw [h, if_neg (by decide)]
theorem nrm_r (p : List Tm) (r : Iv) : (nrm p r).r = r := by unfold nrm; split <;> rfl
theorem zss {φ : E6 → Int} {p : List Tm} {r : Iv} {x : Int} (h : r.isW = false → 65536 * (lin φ p + r.lo) ≤ x ∧ x ≤ 65536 * (lin φ p + r.hi)) : hv φ (nrm p r) x := by
 cases w : r.isW
 ·rw [zfA w]; exact .inr (h w)
 ·rw [zgY w]; exact .inl w
theorem zej {a b : Iv} (h : (a.add b).isW = false) : a.isW = false ∧ b.isW = false ∧ (a.add b).lo = a.lo + b.lo ∧ (a.add b).hi = a.hi + b.hi := by
 unfold Iv.add at h ⊢
 cases h1 : a.isW
 ·cases h2 : b.isW
  ·rw [h1, h2] at h
   simp only [Bool.or_self, Bool.false_eq_true, if_false] at h ⊢
   obtain ⟨_, _, e⟩ := zoz h
   rw [e]; exact ⟨trivial, trivial, rfl, rfl⟩
  ·rw [h1, h2] at h; simp only [Bool.or_true, if_true] at h; cases h
 ·rw [h1] at h; simp only [Bool.true_or, if_true] at h; cases h
theorem ztM {φ : E6 → Int} (h : Cor φ) {p : List Tm} (w : (zaP p).isW = false) : (zaP p).lo ≤ lin φ p ∧ lin φ p ≤ (zaP p).hi := by
 unfold zaP at w ⊢
 obtain ⟨_, _, e⟩ := zoz w
 rw [e]
 exact zma h p
theorem zuH {φ : E6 → Int} (h : Cor φ) {a b : TM} (ga : a.good) (gb : b.good) {x y : Int} (hx : hv φ a x) (hy : hv φ b y) : hv φ (ze4 a b) (x + y) := by
 refine zss fun w => ?_
 obtain ⟨w1, w2, e1, e2⟩ := zej w
 obtain ⟨w3, w4, e3, e4⟩ := zej w1
 have k := zuG h ga.pol.1 gb.pol.1 w2
 rcases hx with hx | hx
 ·rw [hx] at w3; cases w3
 ·rcases hy with hy | hy
  ·rw [hy] at w4; cases w4
  ·omega
theorem zpI (φ : E6 → Int) : ∀ p : List Tm, lin φ (p.map ngT) = -lin φ p
 | [] => rfl
 | t :: p => by
  rw [List.map_cons, zbI, zbI, zpI φ p]
  simp only [ngT, Int.neg_mul]; omega
theorem zni (a : Iv) : a.neg.isW = a.isW := by
 rw [Bool.eq_iff_iff]
 simp only [Iv.neg, Iv.isW, Bool.and_eq_true, beq_iff_eq]; omega
theorem zuI {φ : E6 → Int} {a : TM} {x : Int} (hx : hv φ a x) : hv φ (zci a) (-x) := by
 refine zss fun w => ?_
 rw [zni] at w
 rcases hx with hx | hx
 ·rw [hx] at w; cases w
 ·rw [zpI]
  simp only [Iv.neg]; omega
theorem ztN {p : List Tm} (h : zbf p) : zbf (p.map ngT) := fun t ht => by
 obtain ⟨u, hu, rfl⟩ := List.mem_map.1 ht
 have := h u hu
 unfold zz at *
 simp only [ngT]; omega
theorem zuJ {p : List Tm} (h : oks p) : oks (p.map ngT) := fun t ht => by
 obtain ⟨u, hu, rfl⟩ := List.mem_map.1 ht
 exact h u hu
theorem zst {p : List Tm} (h : zaD p) : zaD (p.map ngT) := fun t ht => by
 obtain ⟨u, hu, rfl⟩ := List.mem_map.1 ht
 obtain ⟨a, b, c⟩ := h u hu
 exact ⟨by unfold zz at *; simp only [ngT]; omega, by simp only [ngT]; omega, c⟩
theorem zqI {p : List Tm} (h : zas p) : zas (p.map ngT) := by
 unfold zas at *
 rw [List.pairwise_map]
 exact h.imp fun {x y} k => k
theorem zbJ {a : TM} (g : a.good) : (zci a).good := by
 obtain ⟨⟨o, n, s, f, l⟩, v, e⟩ := g
 unfold zci
 cases w : a.r.neg.isW
 ·rw [zfA w]
  exact ⟨⟨zuJ o, ztN n, zqI s, zst f, by simpa using l⟩, ziP v, fun k => by rw [w] at k; cases k⟩
 ·rw [zgY w]
  exact ⟨⟨(fun t ht => by cases ht), (fun t ht => by cases ht), List.Pairwise.nil, (fun t ht => by cases ht), by simp⟩, ziP v, fun _ => rfl⟩
theorem zuK {φ : E6 → Int} (h : Cor φ) {a b : TM} (ga : a.good) (gb : b.good) {x y : Int} (hx : hv φ a x) (hy : hv φ b y) : hv φ (zhd a b) (x - y) := zuH h ga (zbJ gb) hx (zuI hy)
theorem hv_of {φ : E6 → Int} {m : TM} {x : Int} (h1 : lin φ m.p + m.r.lo ≤ x) (h2 : x ≤ lin φ m.p + m.r.hi) : hv φ m (65536 * x) := .inr ⟨by omega, by omega⟩
theorem zqJ {φ : E6 → Int} (h : Cor φ) {a : TM} {x : Int} (x1 : lin φ a.p + a.r.lo ≤ x) (x2 : x ≤ lin φ a.p + a.r.hi) (w : (ze5 a).isW = false) : (ze5 a).lo ≤ x ∧ x ≤ (ze5 a).hi := by
 unfold ze5 at *
 obtain ⟨w1, w2, e1, e2⟩ := zej w
 have k := ztM h w1
 omega
theorem zjA {a : Iv} (h : a.lo ≤ a.hi) : a.lo ≤ mid a ∧ mid a ≤ a.hi := by unfold mid; omega
end Go.Ab
namespace Go.Ab
theorem zhw : Pol [] := ⟨(fun t ht => by cases ht), (fun t ht => by cases ht), List.Pairwise.nil, (fun t ht => by cases ht), by simp⟩
theorem zfp {p : List Tm} {r : Iv} (hp : Pol p) (hr : r.valid) : (nrm p r).good := by
 cases w : r.isW
 ·rw [zfA w]; exact ⟨hp, hr, fun k => by rw [w] at k; cases k⟩
 ·rw [zgY w]; exact ⟨zhw, hr, fun _ => rfl⟩
theorem zlA : TM.good ⟨[], Iv.whole⟩ := ⟨zhw, zcZ, fun _ => rfl⟩
theorem zoB {p : List Tm} {most lo hi : Int} (h : (zar p most lo hi).2.isW = true) : zar p most lo hi = ([], Iv.whole) := by
 unfold zar at h ⊢
 split at h
 ·rename_i hc; rw [hc.2.2] at h; cases h
 ·rename_i hc; rw [if_neg hc]
theorem zf7 {p : List Tm} (o : oks p) (s : zas p) (most lo hi : Int) : Pol (zar p most lo hi).1 := by
 cases w : (zar p most lo hi).2.isW
 ·obtain ⟨n, l, _, _, e⟩ := ziZ w
  rw [e]
  have hk : ∀ t ∈ p.filter (kp most), t ∈ p ∧ t.c ≠ 0 ∧ t.e.deg ≤ 6 := fun t ht => by
   obtain ⟨h1, h2⟩ := List.mem_filter.1 ht
   unfold kp at h2
   simp only [decide_eq_true_eq] at h2
   exact ⟨h1, h2.1, by omega⟩
  exact ⟨fun t ht => o t (hk t ht).1, fun t ht => n t (hk t ht).1, s.sublist List.filter_sublist, fun t ht => ⟨n t (hk t ht).1, (hk t ht).2⟩, l⟩
 ·rw [zoB w]; exact zhw
theorem ze6 {p : List Tm} {most lo hi : Int} (h : lo ≤ hi) : (zar p most lo hi).2.valid := by
 unfold zar
 split
 ·rename_i hc
  refine zcQ ?_
  have := zl6 (p := p.filter (dp most)) (fun t ht => zdM.1 hc.1 t (List.mem_filter.1 ht).1)
  omega
 ·exact zcZ
theorem zlB : ∀ (p : List Tm) (y : Tm), zas p → zas (ins p y) ∧ ∀ u ∈ ins p y, u.e.key = y.e.key ∨ ∃ t ∈ p, u.e.key = t.e.key
 | [], y, _ => ⟨by show List.Pairwise _ [y]; simp, fun u hu => by
   have : u = y := by simpa [ins] using hu
   rw [this]; exact .inl rfl⟩
 | t :: p, y, h => by
  obtain ⟨h1, h2⟩ := List.pairwise_cons.1 h
  by_cases c1 : t.e.key < y.e.key
  ·obtain ⟨i1, i2⟩ := zlB p y h2
   rw [zaS c1]
   refine ⟨List.pairwise_cons.2 ⟨fun u hu => ?_, i1⟩, fun u hu => ?_⟩
   ·unfold zfy
    rcases i2 u hu with e | ⟨q, hq, e⟩
    ·omega
    ·have := h1 q hq; unfold zfy at this; omega
   ·rcases List.mem_cons.1 hu with rfl | hu
    ·exact .inr ⟨_, by simp, rfl⟩
    ·rcases i2 u hu with e | ⟨q, hq, e⟩
     ·exact .inl e
     ·exact .inr ⟨q, by simp [hq], e⟩
  ·by_cases c2 : t.e.key = y.e.key
   ·rw [za2 c2]
    refine ⟨List.pairwise_cons.2 ⟨fun u hu => ?_, h2⟩, fun u hu => ?_⟩
    ·have := h1 u hu; unfold zfy at *; simp only; omega
    ·rcases List.mem_cons.1 hu with rfl | hu
     ·exact .inl rfl
     ·exact .inr ⟨u, by simp [hu], rfl⟩
   ·rw [zbj (by omega)]
    refine ⟨List.pairwise_cons.2 ⟨fun u hu => ?_, h⟩, fun u hu => ?_⟩
    ·unfold zfy
     rcases List.mem_cons.1 hu with rfl | hu
     ·omega
     ·have := h1 u hu; unfold zfy at this; omega
    ·rcases List.mem_cons.1 hu with rfl | hu
     ·exact .inl rfl
     ·exact .inr ⟨u, hu, rfl⟩
theorem zj6 (x : Tm) : ∀ (b : List Tm) (s : MS), zas s.m → zas (zbt b s x).m
 | [], _, h => h
 | y :: b, s, h => zj6 x b (zbw x s y) (zlB _ _ h).1
theorem zj7 (b : List Tm) : ∀ (a : List Tm) (s : MS), zas s.m → zas (a.foldl (zbt b) s).m
 | [], _, h => h
 | x :: a, s, h => zj7 b a (zbt b s x) (zj6 x b s h)
theorem zuL {a b : List Tm} (fa : zaD a) (fb : zaD b) (most : Int) : Pol (zcl a b most).1 := by
 rw [zgd fa fb]
 exact zf7 (zoy fb a ⟨[], 0, 0⟩ fa (fun t ht => by cases ht)) (zj7 b a _ List.Pairwise.nil) _ _ _
theorem zoC {a b : List Tm} (fa : zaD a) (fb : zaD b) (most : Int) : (zcl a b most).2.valid := by
 rw [zgd fa fb]
 have h := zmQ b a ⟨[], 0, 0⟩ (Int.le_refl _) (Int.le_refl _)
 exact ze6 (Int.le_trans h.1 h.2)
theorem zpJ {a b : List Tm} (oa : oks a) (ob : oks b) (sa : zas a) (sb : zas b) : Pol (zaQ a b).1 := zf7 (zmz _ a b (Nat.le_refl _) oa ob) (zoA _ a b (Nat.le_refl _) sa sb) _ _ _
theorem zhx (a b : List Tm) : (zaQ a b).2.valid := ze6 (Int.le_refl _)
theorem zsu {a : List Tm} (oa : oks a) (sa : zas a) (d : Int) : Pol (zcR a d).1 := zf7 oa sa _ _ _
theorem zkB (a : List Tm) (d : Int) : (zcR a d).2.valid := ze6 (Int.le_refl _)
theorem zfq {p : List Tm} (h : zbf p) : (zaP p).valid := zcQ (zl6 h)
theorem zev {a b : TM} (ga : a.good) (gb : b.good) : (ze4 a b).good := zfp (zpJ ga.pol.ok gb.pol.ok ga.pol.st gb.pol.st) (zbo (zbo ga.va gb.va) (zhx _ _))
theorem zic {a b : TM} (ga : a.good) (gb : b.good) : (zhd a b).good := zev ga (zbJ gb)
theorem zgI {a b : TM} (ga : a.good) (gb : b.good) (d : Int) : (zdp a b d).good := by
 unfold zdp
 split
 ·exact zlA
 ·exact zfp (zuL ga.pol.fi gb.pol.fi d) (zbo (zbo (zbo (zoC ga.pol.fi gb.pol.fi d) (zbv _ _)) (zbv _ _)) (zbv _ _))
theorem zqK {a : TM} (ga : a.good) (d : Int) : (zlz a d).good := zfp (zsu ga.pol.ok ga.pol.st d) (zbo ga.va (zkB _ _))
theorem zgZ {c : Int} (h : zz c) : Pol (zaI c) := by
 unfold zaI
 split
 ·exact zhw
 ·rename_i h0
  have e : E6.zero.ok := by decide
  refine ⟨fun t ht => ?_, fun t ht => ?_, by show List.Pairwise _ [_]; simp, fun t ht => ?_, by simp⟩
  all_goals
   rw [List.mem_singleton.1 ht]
   first | exact e | exact h | exact ⟨h, h0, Nat.zero_le 6⟩
theorem zf8 {a : Iv} (va : a.valid) : (zdO a).good := by
 unfold zdO
 split
 ·exact zlA
 ·rename_i hw
  have n := zd5 va (by simpa using hw)
  unfold zz at n
  have m := zjA va.1
  exact zfp (zgZ (by unfold zz; omega)) (zcQ (by have := va.1; omega))
theorem zqL (a b : Iv) : a.add b = b.add a := by unfold Iv.add; rw [Bool.or_comm, Int.add_comm a.lo, Int.add_comm a.hi]
theorem zqM (a b : Iv) : a.mul b = b.mul a := by
 unfold Iv.mul
 rw [Bool.or_comm, Int.mul_comm b.lo, Int.mul_comm b.lo, Int.mul_comm b.hi, Int.mul_comm b.hi]
 have e1 : zdK (a.lo * b.lo) (a.hi * b.lo) (a.lo * b.hi) (a.hi * b.hi) = zdK (a.lo * b.lo) (a.lo * b.hi) (a.hi * b.lo) (a.hi * b.hi) := by unfold zdK; omega
 have e2 : zdL (a.lo * b.lo) (a.hi * b.lo) (a.lo * b.hi) (a.hi * b.hi) = zdL (a.lo * b.lo) (a.lo * b.hi) (a.hi * b.lo) (a.hi * b.hi) := by unfold zdL; omega
 rw [e1, e2]
theorem zqN : ∀ (n : Nat) (a b : List Tm), a.length + b.length ≤ n → oks a → oks b → za4 a b = za4 b a := by
 intro n
 induction n with
 | zero =>
  intro a b h _ _
  rw [List.length_eq_zero_iff.1 (show a.length = 0 by omega), List.length_eq_zero_iff.1 (show b.length = 0 by omega)]
 | succ n ih =>
  intro a b h ha hb
  cases a with
  | nil => rw [zaB, zbF]
  | cons x a =>
   cases b with
   | nil => rw [zaB, zbF]
   | cons y b =>
    have ha' : oks a := fun t ht => ha t (by simp [ht])
    have hb' : oks b := fun t ht => hb t (by simp [ht])
    simp only [List.length_cons] at h
    rw [zaJ, zaJ]
    by_cases c1 : x.e.key < y.e.key
    ·rw [if_pos c1, if_neg (by omega), if_pos c1, ih a (y :: b) (by simp only [List.length_cons]; omega) ha' hb]
    ·by_cases c2 : y.e.key < x.e.key
     ·rw [if_neg c1, if_pos c2, if_pos c2, ih (x :: a) b (by simp only [List.length_cons]; omega) ha hb']
     ·rw [if_neg c1, if_neg c2, if_neg c2, if_neg c1, ih a b (by omega) ha' hb', Int.add_comm x.c, E6.key_inj (ha x (by simp)) (hb y (by simp)) (by omega)]
theorem zsv {a b : TM} (ga : a.good) (gb : b.good) : ze4 a b = ze4 b a := by
 have e : zaQ a.p b.p = zaQ b.p a.p := by unfold zaQ; rw [zqN _ a.p b.p (Nat.le_refl _) ga.pol.ok gb.pol.ok]
 unfold ze4
 rw [e, zqL a.r b.r]
theorem neg_neg (a : Iv) : a.neg.neg = a := by
 obtain ⟨l, h⟩ := a
 simp only [Iv.neg, Int.neg_neg]
theorem zpK : ∀ p : List Tm, (p.map ngT).map ngT = p
 | [] => rfl
 | t :: p => by
  have e : ngT (ngT t) = t := by cases t; simp only [ngT, Int.neg_neg]
  rw [List.map_cons, List.map_cons, e, zpK p]
theorem zsw {a : TM} (g : a.good) : zci (zci a) = a := by
 unfold zci
 cases w : a.r.isW
 ·rw [zfA (r := a.r.neg) (by rw [zni, w])]
  simp only
  rw [neg_neg, zpK, zfA w]
 ·rw [zgY (r := a.r.neg) (by rw [zni, w])]
  simp only
  rw [neg_neg, zgY w]
  obtain ⟨p, r⟩ := a
  have := g.em w
  simp only at this
  rw [this]
theorem zoD : ∀ (p : List Tm) (x y : Tm), x.e.ok → y.e.ok → ins (ins p x) y = ins (ins p y) x
 | [], x, y, hx, hy => by
  show ins [x] y = ins [y] x
  by_cases c1 : x.e.key < y.e.key
  ·rw [zaS c1, zbj c1]; rfl
  ·by_cases c2 : x.e.key = y.e.key
   ·rw [za2 c2, za2 c2.symm, Int.add_comm, E6.key_inj hx hy c2]
   ·rw [zbj (by omega), zaS (by omega)]; rfl
 | z :: p, x, y, hx, hy => by
  by_cases a1 : z.e.key < x.e.key
  ·by_cases b1 : z.e.key < y.e.key
   ·rw [zaS a1, zaS b1, zaS b1, zaS a1, zoD p x y hx hy]
   ·by_cases b2 : z.e.key = y.e.key
    ·rw [zaS a1, za2 b2, za2 b2, zaS (by simp only; omega)]
    ·rw [zaS a1, zbj (by omega), zbj (by omega), zaS (by omega), zaS a1]
  ·by_cases a2 : z.e.key = x.e.key
   ·by_cases b1 : z.e.key < y.e.key
    ·rw [za2 a2, zaS (by simp only; omega), zaS b1, za2 a2]
    ·by_cases b2 : z.e.key = y.e.key
     ·have e := E6.key_inj hx hy (by omega)
      rw [za2 a2, za2 b2, za2 (by simp only; omega), za2 (by simp only; omega)]
      simp only [e, List.cons.injEq, Tm.mk.injEq, and_true]
      omega
     ·rw [za2 a2, zbj (by simp only; omega), zbj (by omega), zaS (by omega), za2 a2]
   ·by_cases b1 : z.e.key < y.e.key
    ·rw [zbj (show x.e.key < z.e.key by omega), zaS (by omega), zaS b1, zbj (by omega)]
    ·by_cases b2 : z.e.key = y.e.key
     ·rw [zbj (show x.e.key < z.e.key by omega), zaS (by omega), za2 b2, zbj (by simp only; omega)]
     ·rw [zbj (show x.e.key < z.e.key by omega), zbj (show y.e.key < z.e.key by omega)]
      by_cases c1 : x.e.key < y.e.key
      ·rw [zaS c1, zbj (by omega), zbj c1]
      ·by_cases c2 : x.e.key = y.e.key
       ·rw [za2 c2, za2 c2.symm, Int.add_comm, E6.key_inj hx hy c2]
       ·rw [zbj (by omega), zaS (by omega), zbj (by omega)]
end Go.Ab
namespace Go.Ab
theorem zuM (x y : Tm) : pT x y = pT y x := by
 unfold pT E6.add
 rw [Int.mul_comm]
 simp only [Nat.add_comm]
theorem zmb {l l' : List Tm} (h : l.Perm l') : ∀ p : List Tm, oks l → l.foldl ins p = l'.foldl ins p := by
 induction h with
 | nil => intro p _; rfl
 | cons x _ ih => intro p ho; exact ih _ fun t ht => ho t (by simp [ht])
 | swap x y l =>
  intro p ho
  show l.foldl ins (ins (ins p y) x) = l.foldl ins (ins (ins p x) y)
  rw [zoD p y x (ho y (by simp)) (ho x (by simp))]
 | trans h1 _ ih1 ih2 => intro p ho; rw [ih1 p ho, ih2 p fun t ht => ho t (h1.mem_iff.2 ht)]
theorem zmT {l l' : List Int} (h : l.Perm l') : za0 l = za0 l' := by
 induction h with
 | nil => rfl
 | cons x _ ih => show x + _ = x + _; rw [ih]
 | swap x y l => show y + (x + _) = x + (y + _); omega
 | trans _ _ ih1 ih2 => rw [ih1, ih2]
def prs {α β : Type} (f : α → α → β) (a b : List α) : List β := a.flatMap fun x => b.map (f x)
theorem zmU {α β : Type} (g : α → β) (h : α → List β) : ∀ b : List α, (b.flatMap fun y => g y :: h y).Perm (b.map g ++ b.flatMap h)
 | [] => List.Perm.refl _
 | y :: b => by
  rw [List.flatMap_cons, List.map_cons, List.flatMap_cons, List.cons_append, List.cons_append]
  refine List.Perm.cons _ ?_
  refine ((zmU g h b).append_left (h y)).trans ?_
  rw [← List.append_assoc, ← List.append_assoc]
  exact List.perm_append_comm.append_right _
theorem zid {α β : Type} (f : α → α → β) : ∀ a b : List α, (prs f a b).Perm (prs (fun y x => f x y) b a)
 | [], b => by
  have : ∀ b : List α, prs (fun y x => f x y) b [] = [] := fun b => by induction b with
   | nil => rfl
   | cons y b ih => unfold prs at *; rw [List.flatMap_cons, ih]; rfl
  rw [this]; exact List.Perm.refl _
 | x :: a, b => by
  have h := zmU (f x) (fun y => a.map fun x => f x y) b
  refine List.Perm.trans ?_ h.symm
  show (b.map (f x) ++ prs f a b).Perm _
  exact (zid f a b).append_left _
theorem row_m (x : Tm) : ∀ (b : List Tm) (s : MS), (zbt b s x).m = (b.map (pT x)).foldl ins s.m ∧ (zbt b s x).lo = s.lo + za0 (b.map fun y => rlo (x.c * y.c) (x.e.add y.e)) ∧ (zbt b s x).hi = s.hi + za0 (b.map fun y => rhi (x.c * y.c))
 | [], s => ⟨rfl, by show s.lo = s.lo + 0; omega, by show s.hi = s.hi + 0; omega⟩
 | y :: b, s => by
  obtain ⟨h1, h2, h3⟩ := row_m x b (zbw x s y)
  have e : zbt (y :: b) s x = zbt b (zbw x s y) x := rfl
  have e1 : ∀ (u : Int) (l : List Int), za0 (u :: l) = u + za0 l := fun _ _ => rfl
  rw [e, h1, h2, h3]
  refine ⟨rfl, ?_, ?_⟩
  ·simp only [zbw, List.map_cons, e1]; omega
  ·simp only [zbw, List.map_cons, e1]; omega
theorem zqO (b : List Tm) : ∀ (a : List Tm) (s : MS), (a.foldl (zbt b) s).m = (prs pT a b).foldl ins s.m ∧ (a.foldl (zbt b) s).lo = s.lo + za0 (prs (fun x y : Tm => rlo (x.c * y.c) (x.e.add y.e)) a b) ∧ (a.foldl (zbt b) s).hi = s.hi + za0 (prs (fun x y : Tm => rhi (x.c * y.c)) a b)
 | [], s => ⟨rfl, by show s.lo = s.lo + 0; omega, by show s.hi = s.hi + 0; omega⟩
 | x :: a, s => by
  obtain ⟨h1, h2, h3⟩ := zqO b a (zbt b s x)
  obtain ⟨g1, g2, g3⟩ := row_m x b s
  rw [List.foldl_cons, h1, h2, h3, g1, g2, g3]
  have e : ∀ {β : Type} (f : Tm → Tm → β), prs f (x :: a) b = b.map (f x) ++ prs f a b := fun f => rfl
  rw [e, e, e, List.foldl_append, zc0, zc0]
  exact ⟨rfl, by omega, by omega⟩
theorem zuN {a b : List Tm} (fa : zaD a) (fb : zaD b) : oks (prs pT a b) := fun t ht => by
 obtain ⟨x, hx, h⟩ := List.mem_flatMap.1 ht
 obtain ⟨y, hy, rfl⟩ := List.mem_map.1 h
 exact zfM (fa x hx) (fb y hy)
theorem zsx {a b : List Tm} (fa : zaD a) (fb : zaD b) : zcI a b = zcI b a := by
 have h1 := zqO b a ⟨[], 0, 0⟩
 have h2 := zqO a b ⟨[], 0, 0⟩
 have s1 := zid pT a b
 have s2 := zid (fun x y : Tm => rlo (x.c * y.c) (x.e.add y.e)) a b
 have s3 := zid (fun x y : Tm => rhi (x.c * y.c)) a b
 have c1 : (fun y x => pT x y) = pT := by funext y x; exact zuM x y
 have c2 : (fun y x : Tm => rlo (x.c * y.c) (x.e.add y.e)) = fun x y : Tm => rlo (x.c * y.c) (x.e.add y.e) := by
  funext y x
  rw [Int.mul_comm x.c]
  unfold E6.add
  simp only [Nat.add_comm]
 have c3 : (fun y x : Tm => rhi (x.c * y.c)) = fun x y : Tm => rhi (x.c * y.c) := by funext y x; rw [Int.mul_comm x.c]
 rw [c1] at s1
 rw [c2] at s2
 rw [c3] at s3
 have k1 := zmb s1 [] (zuN fa fb)
 have k2 := zmT s2
 have k3 := zmT s3
 change zcI a b = zcI b a
 have m1 : (zcI a b).m = (zcI b a).m := by show (a.foldl (zbt b) _).m = (b.foldl (zbt a) _).m; rw [h1.1, h2.1]; exact k1
 have m2 : (zcI a b).lo = (zcI b a).lo := by show (a.foldl (zbt b) _).lo = (b.foldl (zbt a) _).lo; rw [h1.2.1, h2.2.1, k2]
 have m3 : (zcI a b).hi = (zcI b a).hi := by show (a.foldl (zbt b) _).hi = (b.foldl (zbt a) _).hi; rw [h1.2.2, h2.2.2, k3]
 revert m1 m2 m3
 generalize zcI a b = s
 generalize zcI b a = r
 intro m1 m2 m3
 cases s; cases r
 simp only at m1 m2 m3
 rw [m1, m2, m3]
theorem zsy {a b : List Tm} (fa : zaD a) (fb : zaD b) (d : Int) : zcl a b d = zcl b a d := by
 rw [zgd fa fb, zgd fb fa, zsx fa fb]
theorem zsz {a b : TM} (ga : a.good) (gb : b.good) (d : Int) (w1 : (zdp a b d).r.isW = false) (w2 : (zdp b a d).r.isW = false) : zdp a b d = zdp b a d := by
 have e := zsy ga.pol.fi gb.pol.fi d
 unfold zdp at *
 rw [Bool.or_comm b.r.isW, ← e, zqM b.r a.r] at w2 ⊢
 cases w : (a.r.isW || b.r.isW)
 ·rw [w] at w1 w2
  simp only [Bool.false_eq_true, if_false, nrm_r] at w1 w2 ⊢
  have n1 := zfA (p := (zcl a.p b.p d).1) w1
  have n2 := zfA (p := (zcl a.p b.p d).1) w2
  rw [n1, n2]
  obtain ⟨u1, _, a1, a2⟩ := zej w1
  obtain ⟨u2, _, a3, a4⟩ := zej u1
  obtain ⟨_, _, a5, a6⟩ := zej u2
  obtain ⟨v1, _, b1, b2⟩ := zej w2
  obtain ⟨v2, _, b3, b4⟩ := zej v1
  obtain ⟨_, _, b5, b6⟩ := zej v2
  have ext : ∀ {x y : Iv}, x.lo = y.lo → x.hi = y.hi → x = y := fun {x y} h1 h2 => by cases x; cases y; simp only at h1 h2; rw [h1, h2]
  rw [ext (x := (((zcl a.p b.p d).2.add ((zaP a.p).mul b.r)).add ((zaP b.p).mul a.r)).add (a.r.mul b.r)) (y := (((zcl a.p b.p d).2.add ((zaP b.p).mul a.r)).add ((zaP a.p).mul b.r)).add (a.r.mul b.r)) (by omega) (by omega)]
 ·simp only [if_true]
end Go.Ab
