/- Polynomials at a corner: sums, products, cuts and their remainders; conditions: valid terms. -/
import Derived.Test.YtpalbaaghplhnaaGreatDoorQ2
set_option linter.unusedVariables false
set_option linter.unusedSimpArgs false
namespace Go.Ab
def lin (φ : E6 → Int) (p : List Tm) : Int := zbo (p.map fun t => t.c * φ t.e)
theorem zbD (φ : E6 → Int) (t : Tm) (p : List Tm) : lin φ (t :: p) = t.c * φ t.e + lin φ p := rfl
theorem zmg (φ : E6 → Int) : lin φ [] = 0 := rfl
theorem zuD (φ : E6 → Int) (p q : List Tm) : lin φ (p ++ q) = lin φ p + lin φ q := by
 unfold lin; rw [List.map_append, zeb]
theorem zsr (φ : E6 → Int) : ∀ (n : Nat) (a b : List Tm), a.length + b.length ≤ n → oks a → oks b → lin φ (za8 a b) = lin φ a + lin φ b := by
 intro n
 induction n with
 | zero =>
  intro a b h _ _
  rw [List.length_eq_zero_iff.1 (show a.length = 0 by omega), List.length_eq_zero_iff.1 (show b.length = 0 by omega), zaH]; rfl
 | succ n ih =>
  intro a b h ha hb
  cases a with
  | nil => rw [zaH, zmg, Int.zero_add]
  | cons x a =>
   cases b with
   | nil => rw [zb9, zmg, Int.add_zero]
   | cons y b =>
    have ha' : oks a := fun t ht => ha t (by simp [ht])
    have hb' : oks b := fun t ht => hb t (by simp [ht])
    have hx := ha x (by simp)
    have hy := hb y (by simp)
    simp only [List.length_cons] at h
    rw [zaV]
    split
    ·rw [zbD, ih a (y :: b) (by simp only [List.length_cons]; omega) ha' hb, zbD φ x a, Int.add_assoc]
    ·split
     ·rw [zbD, ih (x :: a) b (by simp only [List.length_cons]; omega) ha hb', zbD φ y b]; omega
     ·have he : x.e = y.e := E6.key_inj hx hy (by omega)
      rw [zbD, ih a b (by omega) ha' hb', zbD, zbD]
      simp only [Int.add_mul, he]; omega
theorem zmZ (φ : E6 → Int) (most : Int) : ∀ p : List Tm, lin φ p = lin φ (p.filter (kp most)) + lin φ (p.filter (dp most))
 | [] => rfl
 | t :: p => by
  have ih := zmZ φ most p
  by_cases h0 : t.c = 0
  ·obtain ⟨a1, a2⟩ := zuy (most := most) h0
   simp only [List.filter_cons, a1, a2, Bool.false_eq_true, if_false, zbD, h0, Int.zero_mul, Int.zero_add]
   exact ih
  ·have k1 := kd (most := most) h0
   cases hl : kp most t
   ·rw [hl] at k1
    simp only [List.filter_cons, hl, k1, Bool.not_false, if_true, Bool.false_eq_true, if_false, zbD]
    omega
   ·rw [hl] at k1
    simp only [List.filter_cons, hl, k1, Bool.not_true, if_true, Bool.false_eq_true, if_false, zbD]
    omega
structure Cor (φ : E6 → Int) : Prop where
 lo : ∀ x, -1 ≤ φ x
 hi : ∀ x, φ x ≤ 1
 ev : ∀ x, x.odd = false → 0 ≤ φ x
 one : ∀ x, x.deg = 0 → φ x = 1
 mul : ∀ x y, φ (x.add y) = φ x * φ y
theorem tri {x : Int} (h1 : -1 ≤ x) (h2 : x ≤ 1) : x = -1 ∨ x = 0 ∨ x = 1 := by omega
theorem zpK {φ : E6 → Int} (h : Cor φ) (t : Tm) : (rng t).1 ≤ t.c * φ t.e ∧ t.c * φ t.e ≤ (rng t).2 := by
 unfold rng
 split
 ·rename_i h0
  rw [h.one _ h0, Int.mul_one]; exact ⟨Int.le_refl _, Int.le_refl _⟩
 ·rcases tri (h.lo t.e) (h.hi t.e) with e | e | e
  ·split
   ·rw [e]; simp only; omega
   ·rename_i h1
    have := h.ev t.e (by simpa using h1)
    omega
  ·rw [e]; split <;> simp only <;> omega
  ·rw [e]; split <;> simp only <;> omega
theorem zmh {φ : E6 → Int} (h : Cor φ) : ∀ p : List Tm, los p ≤ lin φ p ∧ lin φ p ≤ his p
 | [] => ⟨Int.le_refl _, Int.le_refl _⟩
 | t :: p => by
  have ih := zmh h p
  have ht := zpK h t
  rw [ztH, ztI, zbD]; omega
theorem zlF {φ : E6 → Int} (h : Cor φ) {p : List Tm} {most lo hi : Int} (w : (zao p most lo hi).2.isW = false) :
  lin φ (zao p most lo hi).1 + (zao p most lo hi).2.lo ≤ lin φ p + lo ∧ lin φ p + hi ≤ lin φ (zao p most lo hi).1 + (zao p most lo hi).2.hi := by
 obtain ⟨_, _, _, _, e⟩ := zgS w
 rw [e]
 simp only
 have s := zmZ φ most p
 have r := zmh h (p.filter (dp most))
 omega
theorem zuE {φ : E6 → Int} (h : Cor φ) {a b : List Tm} (oa : oks a) (ob : oks b) (w : (zaX a b).2.isW = false) :
  lin φ (zaX a b).1 + (zaX a b).2.lo ≤ lin φ a + lin φ b ∧ lin φ a + lin φ b ≤ lin φ (zaX a b).1 + (zaX a b).2.hi := by
 unfold zaX at *
 have f := zlF h w
 rw [zsr φ _ a b (Nat.le_refl _) oa ob] at f
 omega
theorem zss {φ : E6 → Int} (h : Cor φ) {a : List Tm} {most : Int} (w : (zbl a most).2.isW = false) :
  lin φ (zbl a most).1 + (zbl a most).2.lo ≤ lin φ a ∧ lin φ a ≤ lin φ (zbl a most).1 + (zbl a most).2.hi := by
 unfold zbl at *
 have f := zlF h w
 omega
def mono (w : Pt) (x : E6) : Int := w.a ^ x.a * w.b ^ x.b * w.c ^ x.c * w.d ^ x.d * w.e ^ x.e * w.f ^ x.f
def Pt.cor (w : Pt) : Prop := (-1 ≤ w.a ∧ w.a ≤ 1) ∧ (-1 ≤ w.b ∧ w.b ≤ 1) ∧ (-1 ≤ w.c ∧ w.c ≤ 1) ∧ (-1 ≤ w.d ∧ w.d ≤ 1) ∧ (-1 ≤ w.e ∧ w.e ≤ 1) ∧ (-1 ≤ w.f ∧ w.f ≤ 1)
theorem zbg {x : Int} (h : -1 ≤ x ∧ x ≤ 1) : ∀ n : Nat, -1 ≤ x ^ n ∧ x ^ n ≤ 1 ∧ (n % 2 = 0 → 0 ≤ x ^ n) ∧ (n = 0 → x ^ n = 1)
 | 0 => by simp
 | 1 => by
  have e : x ^ 1 = x := by rw [Int.pow_succ, Int.pow_zero, Int.one_mul]
  rw [e]; exact ⟨h.1, h.2, by omega, by omega⟩
 | n + 2 => by
  obtain ⟨a, b, c, _⟩ := zbg h n
  have e : x ^ (n + 2) = x ^ n * (x * x) := by rw [Int.pow_succ, Int.pow_succ, Int.mul_assoc]
  have q : x * x = 0 ∨ x * x = 1 := by rcases tri h.1 h.2 with r | r | r <;> rw [r] <;> decide
  rw [e]
  rcases q with q | q <;> rw [q]
  ·omega
  ·rw [Int.mul_one]; exact ⟨a, b, fun k => c (by omega), by omega⟩
theorem zhs {x y : Int} (h1 : -1 ≤ x) (h2 : x ≤ 1) (h3 : -1 ≤ y) (h4 : y ≤ 1) : -1 ≤ x * y ∧ x * y ≤ 1 := by
 rcases tri h1 h2 with e | e | e <;> rw [e] <;> omega
theorem mul4 (a b c d : Int) : a * b * (c * d) = a * c * (b * d) := by rw [Int.mul_assoc, Int.mul_assoc, Int.mul_left_comm b c d]
theorem mul6 (a b c d e f a' b' c' d' e' f' : Int) : a * b * c * d * e * f * (a' * b' * c' * d' * e' * f') = a * a' * (b * b') * (c * c') * (d * d') * (e * e') * (f * f') := by
 rw [mul4 (a * b * c * d * e) f (a' * b' * c' * d' * e') f', mul4 (a * b * c * d) e (a' * b' * c' * d') e', mul4 (a * b * c) d (a' * b' * c') d', mul4 (a * b) c (a' * b') c', mul4 a b a' b']
theorem zh8 {w : Pt} (h : w.cor) : Cor (mono w) := by
 obtain ⟨h1, h2, h3, h4, h5, h6⟩ := h
 have b : ∀ x : E6, -1 ≤ mono w x ∧ mono w x ≤ 1 := fun x => by
  obtain ⟨a1, a2, _⟩ := zbg h1 x.a
  obtain ⟨b1, b2, _⟩ := zbg h2 x.b
  obtain ⟨c1, c2, _⟩ := zbg h3 x.c
  obtain ⟨d1, d2, _⟩ := zbg h4 x.d
  obtain ⟨e1, e2, _⟩ := zbg h5 x.e
  obtain ⟨f1, f2, _⟩ := zbg h6 x.f
  obtain ⟨g1, g2⟩ := zhs a1 a2 b1 b2
  obtain ⟨g1, g2⟩ := zhs g1 g2 c1 c2
  obtain ⟨g1, g2⟩ := zhs g1 g2 d1 d2
  obtain ⟨g1, g2⟩ := zhs g1 g2 e1 e2
  exact zhs g1 g2 f1 f2
 refine ⟨fun x => (b x).1, fun x => (b x).2, fun x ho => ?_, fun x hd => ?_, fun x y => ?_⟩
 ·simp only [E6.odd, Bool.or_eq_false_iff, beq_eq_false_iff_ne, ne_eq] at ho
  obtain ⟨o1, o2, o3, o4, o5, o6⟩ := ho
  exact Int.mul_nonneg (Int.mul_nonneg (Int.mul_nonneg (Int.mul_nonneg (Int.mul_nonneg ((zbg h1 x.a).2.2.1 (by omega)) ((zbg h2 x.b).2.2.1 (by omega))) ((zbg h3 x.c).2.2.1 (by omega))) ((zbg h4 x.d).2.2.1 (by omega))) ((zbg h5 x.e).2.2.1 (by omega))) ((zbg h6 x.f).2.2.1 (by omega))
 ·unfold E6.deg at hd
  unfold mono
  rw [(zbg h1 x.a).2.2.2 (by omega), (zbg h2 x.b).2.2.2 (by omega), (zbg h3 x.c).2.2.2 (by omega), (zbg h4 x.d).2.2.2 (by omega), (zbg h5 x.e).2.2.2 (by omega), (zbg h6 x.f).2.2.2 (by omega)]; decide
 ·unfold mono E6.add
  simp only [Int.pow_add]
  exact (mul6 _ _ _ _ _ _ _ _ _ _ _ _).symm
end Go.Ab
namespace Go.Ab
structure TM where
 p : List Tm
 r : Iv
def TM.cs (m : TM) : List V := [.slice .any (m.p.map Tm.cs), .int .i64 m.r.lo, .int .i64 m.r.hi]
def nrm (p : List Tm) (r : Iv) : TM := if r.isW then ⟨[], r⟩ else ⟨p, r⟩
def zg8 (a b : TM) : TM := nrm (zaX a.p b.p).1 ((a.r.add b.r).add (zaX a.p b.p).2)
def zc4 (a : TM) : TM := nrm (a.p.map ngT) a.r.neg
def zh9 (a b : TM) : TM := zg8 a (zc4 b)
def zg9 (a b : TM) (d : Int) : TM := if a.r.isW || b.r.isW then ⟨[], Iv.whole⟩ else nrm (zdi a.p b.p d).1 ((((zdi a.p b.p d).2.add ((za7 a.p).mul b.r)).add ((za7 b.p).mul a.r)).add (a.r.mul b.r))
def mid (a : Iv) : Int := (a.lo + a.hi) / 2
def zdH (a : Iv) : TM := if a.isW then ⟨[], Iv.whole⟩ else nrm (zaF (mid a)) (Iv.new (a.lo - mid a) (a.hi - mid a))
def zi0 (i : Int) (a : Iv) : TM := if a.isW = true ∨ a.hi - mid a ≥ 2147483648 then ⟨[], Iv.whole⟩ else
 nrm (zaX (zaF (mid a)) (zaN (zcm i) (a.hi - mid a)).1).1 ((zaN (zcm i) (a.hi - mid a)).2.add (zaX (zaF (mid a)) (zaN (zcm i) (a.hi - mid a)).1).2)
def zby (a : TM) (d : Int) : TM := nrm (zbl a.p d).1 (a.r.add (zbl a.p d).2)
def zeZ (a : TM) : Iv := (za7 a.p).add a.r
def zfu (a : TM) (b : List Iv) : Iv := (zeW b a.p).add a.r
def zqJ (a : TM) (c : Iv) : TM := zg9 a (zdH c) 6
structure TM.good (m : TM) : Prop where
 pol : Pol m.p
 va : m.r.valid
 em : m.r.isW = true → m.p = []
def hv (φ : E6 → Int) (m : TM) (x : Int) : Prop := m.r.isW = true ∨ (65536 * (lin φ m.p + m.r.lo) ≤ x ∧ x ≤ 65536 * (lin φ m.p + m.r.hi))
theorem zia {p : List Tm} {r : Iv} (h : r.isW = true) : nrm p r = ⟨[], r⟩ := by unfold nrm; rw [if_pos h]
theorem zib {p : List Tm} {r : Iv} (h : r.isW = false) : nrm p r = ⟨p, r⟩ := by unfold nrm; rw [h, if_neg (by decide)]
theorem nrm_r (p : List Tm) (r : Iv) : (nrm p r).r = r := by unfold nrm; split <;> rfl
theorem zoE {φ : E6 → Int} {p : List Tm} {r : Iv} {x : Int} (h : r.isW = false → 65536 * (lin φ p + r.lo) ≤ x ∧ x ≤ 65536 * (lin φ p + r.hi)) : hv φ (nrm p r) x := by
 cases w : r.isW
 ·rw [zib w]; exact .inr (h w)
 ·rw [zia w]; exact .inl w
theorem zi1 {a b : Iv} (h : (a.add b).isW = false) : a.isW = false ∧ b.isW = false ∧ (a.add b).lo = a.lo + b.lo ∧ (a.add b).hi = a.hi + b.hi := by
 unfold Iv.add at h ⊢
 cases h1 : a.isW
 ·cases h2 : b.isW
  ·rw [h1, h2] at h
   simp only [Bool.or_self, Bool.false_eq_true, if_false] at h ⊢
   obtain ⟨_, _, e⟩ := zoC h
   rw [e]; exact ⟨trivial, trivial, rfl, rfl⟩
  ·rw [h1, h2] at h; simp only [Bool.or_true, if_true] at h; cases h
 ·rw [h1] at h; simp only [Bool.true_or, if_true] at h; cases h
theorem ztJ {φ : E6 → Int} (h : Cor φ) {p : List Tm} (w : (za7 p).isW = false) : (za7 p).lo ≤ lin φ p ∧ lin φ p ≤ (za7 p).hi := by
 unfold za7 at w ⊢
 obtain ⟨_, _, e⟩ := zoC w
 rw [e]
 exact zmh h p
theorem zuF {φ : E6 → Int} (h : Cor φ) {a b : TM} (ga : a.good) (gb : b.good) {x y : Int} (hx : hv φ a x) (hy : hv φ b y) : hv φ (zg8 a b) (x + y) := by
 refine zoE fun w => ?_
 obtain ⟨w1, w2, e1, e2⟩ := zi1 w
 obtain ⟨w3, w4, e3, e4⟩ := zi1 w1
 have k := zuE h ga.pol.1 gb.pol.1 w2
 rcases hx with hx | hx
 ·rw [hx] at w3; cases w3
 ·rcases hy with hy | hy
  ·rw [hy] at w4; cases w4
  ·omega
theorem zpL (φ : E6 → Int) : ∀ p : List Tm, lin φ (p.map ngT) = -lin φ p
 | [] => rfl
 | t :: p => by
  rw [List.map_cons, zbD, zbD, zpL φ p]
  simp only [ngT, Int.neg_mul]; omega
theorem neg_W (a : Iv) : a.neg.isW = a.isW := by
 rw [Bool.eq_iff_iff]
 simp only [Iv.neg, Iv.isW, Bool.and_eq_true, beq_iff_eq]; omega
theorem zuG {φ : E6 → Int} {a : TM} {x : Int} (hx : hv φ a x) : hv φ (zc4 a) (-x) := by
 refine zoE fun w => ?_
 rw [neg_W] at w
 rcases hx with hx | hx
 ·rw [hx] at w; cases w
 ·rw [zpL]
  simp only [Iv.neg]; omega
theorem ztK {p : List Tm} (h : za6 p) : za6 (p.map ngT) := fun t ht => by
 obtain ⟨u, hu, rfl⟩ := List.mem_map.1 ht
 have := h u hu
 unfold zz at *
 simp only [ngT]; omega
theorem zuH {p : List Tm} (h : oks p) : oks (p.map ngT) := fun t ht => by
 obtain ⟨u, hu, rfl⟩ := List.mem_map.1 ht
 exact h u hu
theorem zst {p : List Tm} (h : zaQ p) : zaQ (p.map ngT) := fun t ht => by
 obtain ⟨u, hu, rfl⟩ := List.mem_map.1 ht
 obtain ⟨a, b, c⟩ := h u hu
 exact ⟨by unfold zz at *; simp only [ngT]; omega, by simp only [ngT]; omega, c⟩
theorem zqK {p : List Tm} (h : zar p) : zar (p.map ngT) := by
 unfold zar at *
 rw [List.pairwise_map]
 exact h.imp fun {x y} k => k
theorem zdj {a : TM} (g : a.good) : (zc4 a).good := by
 obtain ⟨⟨o, n, s, f, l⟩, v, e⟩ := g
 unfold zc4
 cases w : a.r.neg.isW
 ·rw [zib w]
  exact ⟨⟨zuH o, ztK n, zqK s, zst f, by simpa using l⟩, ziO v, fun k => by rw [w] at k; cases k⟩
 ·rw [zia w]
  exact ⟨⟨(fun t ht => by cases ht), (fun t ht => by cases ht), List.Pairwise.nil, (fun t ht => by cases ht), by simp⟩, ziO v, fun _ => rfl⟩
theorem zuI {φ : E6 → Int} (h : Cor φ) {a b : TM} (ga : a.good) (gb : b.good) {x y : Int} (hx : hv φ a x) (hy : hv φ b y) : hv φ (zh9 a b) (x - y) := zuF h ga (zdj gb) hx (zuG hy)
theorem hv_of {φ : E6 → Int} {m : TM} {x : Int} (h1 : lin φ m.p + m.r.lo ≤ x) (h2 : x ≤ lin φ m.p + m.r.hi) : hv φ m (65536 * x) := .inr ⟨by omega, by omega⟩
theorem zsu {φ : E6 → Int} (h : Cor φ) {a : TM} {x : Int} (hx : hv φ a x) (d : Int) : hv φ (zby a d) x := by
 refine zoE fun w => ?_
 obtain ⟨w1, w2, e1, e2⟩ := zi1 w
 have k := zss h w2
 rcases hx with hx | hx
 ·rw [hx] at w1; cases w1
 ·omega
theorem zqL {φ : E6 → Int} (h : Cor φ) {a : TM} {x : Int} (x1 : lin φ a.p + a.r.lo ≤ x) (x2 : x ≤ lin φ a.p + a.r.hi) (w : (zeZ a).isW = false) : (zeZ a).lo ≤ x ∧ x ≤ (zeZ a).hi := by
 unfold zeZ at *
 obtain ⟨w1, w2, e1, e2⟩ := zi1 w
 have k := ztJ h w1
 omega
theorem zjB {a : Iv} (h : a.lo ≤ a.hi) : a.lo ≤ mid a ∧ mid a ≤ a.hi := by unfold mid; omega
end Go.Ab
namespace Go.Ab
theorem zht : Pol [] := ⟨(fun t ht => by cases ht), (fun t ht => by cases ht), List.Pairwise.nil, (fun t ht => by cases ht), by simp⟩
theorem zfk {p : List Tm} {r : Iv} (hp : Pol p) (hr : r.valid) : (nrm p r).good := by
 cases w : r.isW
 ·rw [zib w]; exact ⟨hp, hr, fun k => by rw [w] at k; cases k⟩
 ·rw [zia w]; exact ⟨zht, hr, fun _ => rfl⟩
theorem zlG : TM.good ⟨[], Iv.whole⟩ := ⟨zht, zcR, fun _ => rfl⟩
theorem zkE {p : List Tm} {most lo hi : Int} (h : (zao p most lo hi).2.isW = true) : zao p most lo hi = ([], Iv.whole) := by
 unfold zao at h ⊢
 split at h
 ·rename_i hc; rw [hc.2.2] at h; cases h
 ·rename_i hc; rw [if_neg hc]
theorem zf1 {p : List Tm} (o : oks p) (s : zar p) (most lo hi : Int) : Pol (zao p most lo hi).1 := by
 cases w : (zao p most lo hi).2.isW
 ·obtain ⟨n, l, _, _, e⟩ := zgS w
  rw [e]
  have hk : ∀ t ∈ p.filter (kp most), t ∈ p ∧ t.c ≠ 0 ∧ t.e.deg ≤ 6 := fun t ht => by
   obtain ⟨h1, h2⟩ := List.mem_filter.1 ht
   unfold kp at h2
   simp only [decide_eq_true_eq] at h2
   exact ⟨h1, h2.1, by omega⟩
  exact ⟨fun t ht => o t (hk t ht).1, fun t ht => n t (hk t ht).1, s.sublist List.filter_sublist, fun t ht => ⟨n t (hk t ht).1, (hk t ht).2⟩, l⟩
 ·rw [zkE w]; exact zht
theorem ze0 {p : List Tm} {most lo hi : Int} (h : lo ≤ hi) : (zao p most lo hi).2.valid := by
 unfold zao
 split
 ·rename_i hc
  refine zcJ ?_
  have := zmd (p := p.filter (dp most)) (fun t ht => zc5.1 hc.1 t (List.mem_filter.1 ht).1)
  omega
 ·exact zcR
theorem zlH : ∀ (p : List Tm) (y : Tm), zar p → zar (ins p y) ∧ ∀ u ∈ ins p y, u.e.key = y.e.key ∨ ∃ t ∈ p, u.e.key = t.e.key
 | [], y, _ => ⟨by show List.Pairwise _ [y]; simp, fun u hu => by
   have : u = y := by simpa [ins] using hu
   rw [this]; exact .inl rfl⟩
 | t :: p, y, h => by
  obtain ⟨h1, h2⟩ := List.pairwise_cons.1 h
  by_cases c1 : t.e.key < y.e.key
  ·obtain ⟨i1, i2⟩ := zlH p y h2
   rw [zed c1]
   refine ⟨List.pairwise_cons.2 ⟨fun u hu => ?_, i1⟩, fun u hu => ?_⟩
   ·unfold zft
    rcases i2 u hu with e | ⟨q, hq, e⟩
    ·omega
    ·have := h1 q hq; unfold zft at this; omega
   ·rcases List.mem_cons.1 hu with rfl | hu
    ·exact .inr ⟨_, by simp, rfl⟩
    ·rcases i2 u hu with e | ⟨q, hq, e⟩
     ·exact .inl e
     ·exact .inr ⟨q, by simp [hq], e⟩
  ·by_cases c2 : t.e.key = y.e.key
   ·rw [zgy c2]
    refine ⟨List.pairwise_cons.2 ⟨fun u hu => ?_, h2⟩, fun u hu => ?_⟩
    ·have := h1 u hu; unfold zft at *; simp only; omega
    ·rcases List.mem_cons.1 hu with rfl | hu
     ·exact .inl rfl
     ·exact .inr ⟨u, by simp [hu], rfl⟩
   ·rw [zfG (by omega)]
    refine ⟨List.pairwise_cons.2 ⟨fun u hu => ?_, h⟩, fun u hu => ?_⟩
    ·unfold zft
     rcases List.mem_cons.1 hu with rfl | hu
     ·omega
     ·have := h1 u hu; unfold zft at this; omega
    ·rcases List.mem_cons.1 hu with rfl | hu
     ·exact .inl rfl
     ·exact .inr ⟨u, hu, rfl⟩
theorem zj8 (x : Tm) : ∀ (b : List Tm) (s : MS), zar s.m → zar (zdw b s x).m
 | [], _, h => h
 | y :: b, s, h => zj8 x b (zb4 x s y) (zlH _ _ h).1
theorem zj9 (b : List Tm) : ∀ (a : List Tm) (s : MS), zar s.m → zar (a.foldl (zdw b) s).m
 | [], _, h => h
 | x :: a, s, h => zj9 b a (zdw b s x) (zj8 x b s h)
theorem zuJ {a b : List Tm} (fa : zaQ a) (fb : zaQ b) (most : Int) : Pol (zdi a b most).1 := by
 rw [zjA fa fb]
 exact zf1 (zoB fb a ⟨[], 0, 0⟩ fa (fun t ht => by cases ht)) (zj9 b a _ List.Pairwise.nil) _ _ _
theorem zoF {a b : List Tm} (fa : zaQ a) (fb : zaQ b) (most : Int) : (zdi a b most).2.valid := by
 rw [zjA fa fb]
 have h := zmX b a ⟨[], 0, 0⟩ (Int.le_refl _) (Int.le_refl _)
 exact ze0 (Int.le_trans h.1 h.2)
theorem zpM {a b : List Tm} (oa : oks a) (ob : oks b) (sa : zar a) (sb : zar b) : Pol (zaX a b).1 := zf1 (zmG _ a b (Nat.le_refl _) oa ob) (zoD _ a b (Nat.le_refl _) sa sb) _ _ _
theorem zhu (a b : List Tm) : (zaX a b).2.valid := ze0 (Int.le_refl _)
theorem zsv {a : List Tm} (oa : oks a) (sa : zar a) (d : Int) : Pol (zbl a d).1 := zf1 oa sa _ _ _
theorem zkF (a : List Tm) (d : Int) : (zbl a d).2.valid := ze0 (Int.le_refl _)
theorem zfl {p : List Tm} (h : za6 p) : (za7 p).valid := zcJ (zmd h)
theorem zgC {a b : TM} (ga : a.good) (gb : b.good) : (zg8 a b).good := zfk (zpM ga.pol.ok gb.pol.ok ga.pol.st gb.pol.st) (zbj (zbj ga.va gb.va) (zhu _ _))
theorem ztL {a b : TM} (ga : a.good) (gb : b.good) : (zh9 a b).good := zgC ga (zdj gb)
theorem zkG {a b : TM} (ga : a.good) (gb : b.good) (d : Int) : (zg9 a b d).good := by
 unfold zg9
 split
 ·exact zlG
 ·exact zfk (zuJ ga.pol.fi gb.pol.fi d) (zbj (zbj (zbj (zoF ga.pol.fi gb.pol.fi d) (zbr _ _)) (zbr _ _)) (zbr _ _))
theorem zic {a : TM} (ga : a.good) (d : Int) : (zby a d).good := zfk (zsv ga.pol.ok ga.pol.st d) (zbj ga.va (zkF _ _))
theorem zgT {c : Int} (h : zz c) : Pol (zaF c) := by
 unfold zaF
 split
 ·exact zht
 ·rename_i h0
  have e : E6.zero.ok := by decide
  refine ⟨fun t ht => ?_, fun t ht => ?_, by show List.Pairwise _ [_]; simp, fun t ht => ?_, by simp⟩
  all_goals
   rw [List.mem_singleton.1 ht]
   first | exact e | exact h | exact ⟨h, h0, Nat.zero_le 6⟩
theorem zf2 {a : Iv} (va : a.valid) : (zdH a).good := by
 unfold zdH
 split
 ·exact zlG
 ·rename_i hw
  have n := zds va (by simpa using hw)
  unfold zz at n
  have m := zjB va.1
  exact zfk (zgT (by unfold zz; omega)) (zcJ (by have := va.1; omega))
theorem neg_neg (a : Iv) : a.neg.neg = a := by
 obtain ⟨l, h⟩ := a
 simp only [Iv.neg, Int.neg_neg]
end Go.Ab
namespace Go.Ab
def prs {α β : Type} (f : α → α → β) (a b : List α) : List β := a.flatMap fun x => b.map (f x)
end Go.Ab
