/- Polynomials at a corner: sums, products, cuts and their remainders; conditions: valid terms. -/
import Derived.Test.YtpalbaaghplhnaaDoorQ2
set_option linter.unusedVariables false
set_option linter.unusedSimpArgs false
namespace Go.Ab
def lin (φ : E6 → Int) (p : List Tm) : Int := zbb (p.map fun t => t.c * φ t.e)
theorem zcb (φ : E6 → Int) (t : Tm) (p : List Tm) : lin φ (t :: p) = t.c * φ t.e + lin φ p := rfl
theorem zgt (φ : E6 → Int) : lin φ [] = 0 := rfl
theorem zr4 (φ : E6 → Int) (p q : List Tm) : lin φ (p ++ q) = lin φ p + lin φ q := by
 unfold lin; rw [List.map_append, zdH]
theorem zp7 (φ : E6 → Int) : ∀ (n : Nat) (a b : List Tm), a.length + b.length ≤ n → oks a → oks b → lin φ (zaQ a b) = lin φ a + lin φ b := by
 intro n
 induction n with
 | zero =>
  intro a b h _ _
  rw [List.length_eq_zero_iff.1 (show a.length = 0 by omega), List.length_eq_zero_iff.1 (show b.length = 0 by omega), zaD]; rfl
 | succ n ih =>
  intro a b h ha hb
  cases a with
  | nil => rw [zaD, zgt, Int.zero_add]
  | cons x a =>
   cases b with
   | nil => rw [zcU, zgt, Int.add_zero]
   | cons y b =>
    have ha' : oks a := fun t ht => ha t (by simp [ht])
    have hb' : oks b := fun t ht => hb t (by simp [ht])
    have hx := ha x (by simp)
    have hy := hb y (by simp)
    simp only [List.length_cons] at h
    rw [za0]
    split
    ·rw [zcb, ih a (y :: b) (by simp only [List.length_cons]; omega) ha' hb, zcb φ x a, Int.add_assoc]
    ·split
     ·rw [zcb, ih (x :: a) b (by simp only [List.length_cons]; omega) ha hb', zcb φ y b]; omega
     ·have he : x.e = y.e := E6.key_inj hx hy (by omega)
      rw [zcb, ih a b (by omega) ha' hb', zcb, zcb]
      simp only [Int.add_mul, he]; omega
theorem zld (φ : E6 → Int) (most : Int) : ∀ p : List Tm, lin φ p = lin φ (p.filter (kp most)) + lin φ (p.filter (dp most))
 | [] => rfl
 | t :: p => by
  have ih := zld φ most p
  by_cases h0 : t.c = 0
  ·obtain ⟨a1, a2⟩ := zr3 (most := most) h0
   simp only [List.filter_cons, a1, a2, Bool.false_eq_true, if_false, zcb, h0, Int.zero_mul, Int.zero_add]
   exact ih
  ·have k1 := kd (most := most) h0
   cases hl : kp most t
   ·rw [hl] at k1
    simp only [List.filter_cons, hl, k1, Bool.not_false, if_true, Bool.false_eq_true, if_false, zcb]
    omega
   ·rw [hl] at k1
    simp only [List.filter_cons, hl, k1, Bool.not_true, if_true, Bool.false_eq_true, if_false, zcb]
    omega
structure Cor (φ : E6 → Int) : Prop where
 lo : ∀ x, -1 ≤ φ x
 hi : ∀ x, φ x ≤ 1
 ev : ∀ x, x.odd = false → 0 ≤ φ x
 one : ∀ x, x.deg = 0 → φ x = 1
 mul : ∀ x y, φ (x.add y) = φ x * φ y
theorem tri {x : Int} (h1 : -1 ≤ x) (h2 : x ≤ 1) : x = -1 ∨ x = 0 ∨ x = 1 := by omega
theorem zr5 {φ : E6 → Int} (h : Cor φ) (t : Tm) : (rng t).1 ≤ t.c * φ t.e ∧ t.c * φ t.e ≤ (rng t).2 := by
 unfold rng
 split
 ·rename_i h0
  rw [h.one _ h0, Int.mul_one]; exact ⟨Int.le_refl _, Int.le_refl _⟩
 ·rcases tri (h.lo t.e) (h.hi t.e) with e | e | e
  ·split
   ·rw [e]; simp only; omega
   ·rename_i h1
    have := h.ev t.e (by simpa using h1)
    omega
  ·rw [e]; split <;> simp only <;> omega
  ·rw [e]; split <;> simp only <;> omega
def mono (w : Pt) (x : E6) : Int := w.a ^ x.a * w.b ^ x.b * w.c ^ x.c * w.d ^ x.d * w.e ^ x.e * w.f ^ x.f
def Pt.cor (w : Pt) : Prop := (-1 ≤ w.a ∧ w.a ≤ 1) ∧ (-1 ≤ w.b ∧ w.b ≤ 1) ∧ (-1 ≤ w.c ∧ w.c ≤ 1) ∧ (-1 ≤ w.d ∧ w.d ≤ 1) ∧ (-1 ≤ w.e ∧ w.e ≤ 1) ∧ (-1 ≤ w.f ∧ w.f ≤ 1)
theorem zaU {x : Int} (h : -1 ≤ x ∧ x ≤ 1) : ∀ n : Nat, -1 ≤ x ^ n ∧ x ^ n ≤ 1 ∧ (n % 2 = 0 → 0 ≤ x ^ n) ∧ (n = 0 → x ^ n = 1)
 | 0 => by simp
 | 1 => by
  have e : x ^ 1 = x := by rw [Int.pow_succ, Int.pow_zero, Int.one_mul]
  rw [e]; exact ⟨h.1, h.2, by omega, by omega⟩
 | n + 2 => by
  obtain ⟨a, b, c, _⟩ := zaU h n
  have e : x ^ (n + 2) = x ^ n * (x * x) := by rw [Int.pow_succ, Int.pow_succ, Int.mul_assoc]
  have q : x * x = 0 ∨ x * x = 1 := by rcases tri h.1 h.2 with r | r | r <;> rw [r] <;> decide
  rw [e]
  rcases q with q | q <;> rw [q]
  ·omega
  ·rw [Int.mul_one]; exact ⟨a, b, fun k => c (by omega), by omega⟩
theorem zgu {x y : Int} (h1 : -1 ≤ x) (h2 : x ≤ 1) (h3 : -1 ≤ y) (h4 : y ≤ 1) : -1 ≤ x * y ∧ x * y ≤ 1 := by
 rcases tri h1 h2 with e | e | e <;> rw [e] <;> omega
theorem mul4 (a b c d : Int) : a * b * (c * d) = a * c * (b * d) := by rw [Int.mul_assoc, Int.mul_assoc, Int.mul_left_comm b c d]
theorem mul6 (a b c d e f a' b' c' d' e' f' : Int) : a * b * c * d * e * f * (a' * b' * c' * d' * e' * f') = a * a' * (b * b') * (c * c') * (d * d') * (e * e') * (f * f') := by
 rw [mul4 (a * b * c * d * e) f (a' * b' * c' * d' * e') f', mul4 (a * b * c * d) e (a' * b' * c' * d') e', mul4 (a * b * c) d (a' * b' * c') d', mul4 (a * b) c (a' * b') c', mul4 a b a' b']
theorem zeC {w : Pt} (h : w.cor) : Cor (mono w) := by
 obtain ⟨h1, h2, h3, h4, h5, h6⟩ := h
 have b : ∀ x : E6, -1 ≤ mono w x ∧ mono w x ≤ 1 := fun x => by
  obtain ⟨a1, a2, _⟩ := zaU h1 x.a
  obtain ⟨b1, b2, _⟩ := zaU h2 x.b
  obtain ⟨c1, c2, _⟩ := zaU h3 x.c
  obtain ⟨d1, d2, _⟩ := zaU h4 x.d
  obtain ⟨e1, e2, _⟩ := zaU h5 x.e
  obtain ⟨f1, f2, _⟩ := zaU h6 x.f
  obtain ⟨g1, g2⟩ := zgu a1 a2 b1 b2
  obtain ⟨g1, g2⟩ := zgu g1 g2 c1 c2
  obtain ⟨g1, g2⟩ := zgu g1 g2 d1 d2
  obtain ⟨g1, g2⟩ := zgu g1 g2 e1 e2
  exact zgu g1 g2 f1 f2
 refine ⟨fun x => (b x).1, fun x => (b x).2, fun x ho => ?_, fun x hd => ?_, fun x y => ?_⟩
 ·simp only [E6.odd, Bool.or_eq_false_iff, beq_eq_false_iff_ne, ne_eq] at ho
  obtain ⟨o1, o2, o3, o4, o5, o6⟩ := ho
  exact Int.mul_nonneg (Int.mul_nonneg (Int.mul_nonneg (Int.mul_nonneg (Int.mul_nonneg ((zaU h1 x.a).2.2.1 (by omega)) ((zaU h2 x.b).2.2.1 (by omega))) ((zaU h3 x.c).2.2.1 (by omega))) ((zaU h4 x.d).2.2.1 (by omega))) ((zaU h5 x.e).2.2.1 (by omega))) ((zaU h6 x.f).2.2.1 (by omega))
 ·unfold E6.deg at hd
  unfold mono
  rw [(zaU h1 x.a).2.2.2 (by omega), (zaU h2 x.b).2.2.2 (by omega), (zaU h3 x.c).2.2.2 (by omega), (zaU h4 x.d).2.2.2 (by omega), (zaU h5 x.e).2.2.2 (by omega), (zaU h6 x.f).2.2.2 (by omega)]; decide
 ·unfold mono E6.add
  simp only [Int.pow_add]
  exact (mul6 _ _ _ _ _ _ _ _ _ _ _ _).symm
end Go.Ab
namespace Go.Ab
structure TM where
 p : List Tm
 r : Iv
def TM.cs (m : TM) : List V := [.slice .any (m.p.map Tm.cs), .int .i64 m.r.lo, .int .i64 m.r.hi]
def nrm (p : List Tm) (r : Iv) : TM := if r.isW then ⟨[], r⟩ else ⟨p, r⟩
def tAdd (a b : TM) : TM := nrm (zbU a.p b.p).1 ((a.r.add b.r).add (zbU a.p b.p).2)
def ze1 (a : TM) : TM := nrm (a.p.map ngT) a.r.neg
def tSub (a b : TM) : TM := tAdd a (ze1 b)
def tMul (a b : TM) (d : Int) : TM := if a.r.isW || b.r.isW then ⟨[], Iv.whole⟩ else nrm (zfM a.p b.p d).1 ((((zfM a.p b.p d).2.add ((zcY a.p).mul b.r)).add ((zcY b.p).mul a.r)).add (a.r.mul b.r))
def mid (a : Iv) : Int := (a.lo + a.hi) / 2
def zbA (a : Iv) : TM := if a.isW then ⟨[], Iv.whole⟩ else nrm (zaK (mid a)) (Iv.new (a.lo - mid a) (a.hi - mid a))
def zdB (i : Int) (a : Iv) : TM := if a.isW = true ∨ a.hi - mid a ≥ 2147483648 then ⟨[], Iv.whole⟩ else
 nrm (zbU (zaK (mid a)) (zbI (zcK i) (a.hi - mid a)).1).1 ((zbI (zcK i) (a.hi - mid a)).2.add (zbU (zaK (mid a)) (zbI (zcK i) (a.hi - mid a)).1).2)
def zp8 (a : TM) (d : Int) : TM := nrm (zeI a.p d).1 (a.r.add (zeI a.p d).2)
def zp9 (a : TM) : Iv := (zcY a.p).add a.r
def zoH (a : TM) (b : List Iv) : Iv := (zf2 b a.p).add a.r
def tMulI (a : TM) (c : Iv) : TM := tMul a (zbA c) 6
structure TM.good (m : TM) : Prop where
 pol : Pol m.p
 va : m.r.valid
 em : m.r.isW = true → m.p = []
def hv (φ : E6 → Int) (m : TM) (x : Int) : Prop := m.r.isW = true ∨ (65536 * (lin φ m.p + m.r.lo) ≤ x ∧ x ≤ 65536 * (lin φ m.p + m.r.hi))
theorem zoI {p : List Tm} {r : Iv} (h : r.isW = true) : nrm p r = ⟨[], r⟩ := by unfold nrm; rw [if_pos h]
theorem zj9 {p : List Tm} {r : Iv} (h : r.isW = false) : nrm p r = ⟨p, r⟩ := by unfold nrm; rw [h, if_neg (by decide)]
theorem zrk {p : List Tm} (h : zbc p) : zbc (p.map ngT) := fun t ht => by
 obtain ⟨u, hu, rfl⟩ := List.mem_map.1 ht
 have := h u hu
 unfold zs at *
 simp only [ngT]; omega
theorem zr6 {p : List Tm} (h : oks p) : oks (p.map ngT) := fun t ht => by
 obtain ⟨u, hu, rfl⟩ := List.mem_map.1 ht
 exact h u hu
theorem zqa {p : List Tm} (h : zce p) : zce (p.map ngT) := fun t ht => by
 obtain ⟨u, hu, rfl⟩ := List.mem_map.1 ht
 obtain ⟨a, b, c⟩ := h u hu
 exact ⟨by unfold zs at *; simp only [ngT]; omega, by simp only [ngT]; omega, c⟩
theorem zoJ {p : List Tm} (h : za6 p) : za6 (p.map ngT) := by
 unfold za6 at *
 rw [List.pairwise_map]
 exact h.imp fun {x y} k => k
theorem zmR {a : TM} (g : a.good) : (ze1 a).good := by
 obtain ⟨⟨o, n, s, f, l⟩, v, e⟩ := g
 unfold ze1
 cases w : a.r.neg.isW
 ·rw [zj9 w]
  exact ⟨⟨zr6 o, zrk n, zoJ s, zqa f, by simpa using l⟩, zhC v, fun k => by rw [w] at k; cases k⟩
 ·rw [zoI w]
  exact ⟨⟨(fun t ht => by cases ht), (fun t ht => by cases ht), List.Pairwise.nil, (fun t ht => by cases ht), by simp⟩, zhC v, fun _ => rfl⟩
theorem zg2 {a : Iv} (h : a.lo ≤ a.hi) : a.lo ≤ mid a ∧ mid a ≤ a.hi := by unfold mid; omega
theorem zle {φ : E6 → Int} (h : Cor φ) (c : Int) : lin φ (zaK c) = c := by
 unfold zaK
 split
 ·rename_i e; rw [e]; rfl
 ·show c * φ E6.zero + 0 = c
  rw [h.one _ rfl, Int.mul_one, Int.add_zero]
end Go.Ab
namespace Go.Ab
theorem zgv : Pol [] := ⟨(fun t ht => by cases ht), (fun t ht => by cases ht), List.Pairwise.nil, (fun t ht => by cases ht), by simp⟩
theorem zmS {p : List Tm} {r : Iv} (hp : Pol p) (hr : r.valid) : (nrm p r).good := by
 cases w : r.isW
 ·rw [zj9 w]; exact ⟨hp, hr, fun k => by rw [w] at k; cases k⟩
 ·rw [zoI w]; exact ⟨zgv, hr, fun _ => rfl⟩
theorem zmT : TM.good ⟨[], Iv.whole⟩ := ⟨zgv, zcx, fun _ => rfl⟩
theorem zrl {p : List Tm} {most lo hi : Int} (h : (zaJ p most lo hi).2.isW = true) : zaJ p most lo hi = ([], Iv.whole) := by
 unfold zaJ at h ⊢
 split at h
 ·rename_i hc; rw [hc.2.2] at h; cases h
 ·rename_i hc; rw [if_neg hc]
theorem zka {p : List Tm} (o : oks p) (s : za6 p) (most lo hi : Int) : Pol (zaJ p most lo hi).1 := by
 cases w : (zaJ p most lo hi).2.isW
 ·obtain ⟨n, l, _, _, e⟩ := zp5 w
  rw [e]
  have hk : ∀ t ∈ p.filter (kp most), t ∈ p ∧ t.c ≠ 0 ∧ t.e.deg ≤ 6 := fun t ht => by
   obtain ⟨h1, h2⟩ := List.mem_filter.1 ht
   unfold kp at h2
   simp only [decide_eq_true_eq] at h2
   exact ⟨h1, h2.1, by omega⟩
  exact ⟨fun t ht => o t (hk t ht).1, fun t ht => n t (hk t ht).1, s.sublist List.filter_sublist, fun t ht => ⟨n t (hk t ht).1, (hk t ht).2⟩, l⟩
 ·rw [zrl w]; exact zgv
theorem zel {p : List Tm} {most lo hi : Int} (h : lo ≤ hi) : (zaJ p most lo hi).2.valid := by
 unfold zaJ
 split
 ·rename_i hc
  refine zco ?_
  have := zkE (p := p.filter (dp most)) (fun t ht => zeV.1 hc.1 t (List.mem_filter.1 ht).1)
  omega
 ·exact zcx
theorem mul_va {a b : List Tm} (fa : zce a) (fb : zce b) (most : Int) : (zfM a b most).2.valid := by
 rw [zr2 fa fb]
 have h := zlc b a ⟨[], 0, 0⟩ (Int.le_refl _) (Int.le_refl _)
 exact zel (Int.le_trans h.1 h.2)
theorem zr7 {a b : List Tm} (oa : oks a) (ob : oks b) (sa : za6 a) (sb : za6 b) : Pol (zbU a b).1 := zka (zk3 _ a b (Nat.le_refl _) oa ob) (zmQ _ a b (Nat.le_refl _) sa sb) _ _ _
theorem zmU (a b : List Tm) : (zbU a b).2.valid := zel (Int.le_refl _)
theorem zrm (a : List Tm) (d : Int) : (zeI a d).2.valid := zel (Int.le_refl _)
theorem zje {p : List Tm} (h : zbc p) : (zcY p).valid := zco (zkE h)
theorem zf4 {c : Int} (h : zs c) : Pol (zaK c) := by
 unfold zaK
 split
 ·exact zgv
 ·rename_i h0
  have e : E6.zero.ok := by decide
  refine ⟨fun t ht => ?_, fun t ht => ?_, by show List.Pairwise _ [_]; simp, fun t ht => ?_, by simp⟩
  all_goals
   rw [List.mem_singleton.1 ht]
   first | exact e | exact h | exact ⟨h, h0, Nat.zero_le 6⟩
theorem zkb {a : Iv} (va : a.valid) : (zbA a).good := by
 unfold zbA
 split
 ·exact zmT
 ·rename_i hw
  have n := zdX va (by simpa using hw)
  unfold zs at n
  have m := zg2 va.1
  exact zmS (zf4 (by unfold zs; omega)) (zco (by have := va.1; omega))
end Go.Ab
namespace Go.Ab
def prs {α β : Type} (f : α → α → β) (a b : List α) : List β := a.flatMap fun x => b.map (f x)
end Go.Ab
