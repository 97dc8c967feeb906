/- Plain facts on models: truncating twice, a - a, values at corners in Eval; conditions: valid models. -/
import Derived.Test.YtpalbaaghplhnaaGreatDoorTM2Z
import Derived.Test.YtpalbaaghplhnaaGreatDoorM1
set_option linter.unusedVariables false
set_option linter.unusedSimpArgs false
namespace Go.Ab
theorem kp_all {d : Int} {p : List Tm} (f : zaQ p) (h : ∀ t ∈ p, ((t.e.deg : Nat) : Int) ≤ d) : p.filter (kp d) = p ∧ p.filter (dp d) = [] := by
 have hk : ∀ t ∈ p, kp d t = true := fun t ht => by
  have := f t ht
  have := h t ht
  unfold kp
  exact decide_eq_true ⟨(f t ht).2.1, by have := (f t ht).2.2; omega⟩
 refine ⟨List.filter_eq_self.2 hk, List.filter_eq_nil_iff.2 fun t ht => ?_⟩
 rw [kd (f t ht).2.1, hk t ht]; decide
theorem ztX {d : Int} {p : List Tm} (g : Pol p) (h : ∀ t ∈ p, ((t.e.deg : Nat) : Int) ≤ d) : zbl p d = (p, ⟨0, 0⟩) := by
 obtain ⟨h1, h2⟩ := kp_all g.fi h
 unfold zbl
 rw [zsl g.nm (by rw [h1]; exact g.ln) (by rw [h2]; decide) (by rw [h2]; decide), h1, h2]
 rfl
theorem zsH {a : Iv} (v : a.valid) : a.add ⟨0, 0⟩ = a := by
 cases w : a.isW
 ·have n := zds v w
  obtain ⟨l, h⟩ := a
  unfold Iv.add
  rw [w, show Iv.isW ⟨0, 0⟩ = false from rfl]
  simp only [Bool.or_self, Bool.false_eq_true, if_false, Int.add_zero]
  unfold Iv.new
  rw [if_pos n]
 ·rw [zsm w]; rfl
theorem zlK {d : Int} {m : TM} (g : m.good) (h : ∀ t ∈ m.p, ((t.e.deg : Nat) : Int) ≤ d) : zby m d = m := by
 unfold zby
 rw [ztX g.pol h]
 simp only
 rw [zsH g.va]
 obtain ⟨p, r⟩ := m
 cases w : r.isW
 ·exact zib w
 ·have := g.em w
  simp only at this
  rw [this]
  exact zia w
theorem zqO {d : Int} {p : List Tm} : ∀ t ∈ (zbl p d).1, ((t.e.deg : Nat) : Int) ≤ d := by
 unfold zbl
 cases w : (zao p d 0 0).2.isW
 ·obtain ⟨_, _, _, _, e⟩ := zgS w
  rw [e]
  intro t ht
  have h2 := (List.mem_filter.1 ht).2
  unfold kp at h2
  simp only [decide_eq_true_eq] at h2
  omega
 ·rw [zkE w]; intro t ht; cases ht
theorem zka {d : Int} {m : TM} : ∀ t ∈ (zby m d).p, ((t.e.deg : Nat) : Int) ≤ d := by
 unfold zby nrm
 split
 ·intro t ht; cases ht
 ·exact zqO
theorem zpR {d : Int} (h0 : 0 ≤ d) : ∀ {p : List Tm}, (∀ t ∈ p, ((t.e.deg : Nat) : Int) ≤ d) → zgx p ≤ d
 | [], _ => by unfold zgx; omega
 | t :: p, h => by
  have h1 := h t (by simp)
  have h2 := zpR h0 fun u hu => h u (List.mem_cons_of_mem t hu)
  unfold zgx; omega
theorem zha {d : Int} {m : TM} (g : m.good) : zby (zby m d) d = zby m d := zlK (zic g d) zka
theorem zi3 {m : TM} (g : m.good) : zby m 6 = m := zlK g fun t ht => by have := (g.pol.fi t ht).2.2; omega
theorem zoI : ∀ p : List Tm, za8 p (p.map ngT) = p.map fun t => ⟨0, t.e⟩
 | [] => by rw [List.map_nil, zaH]; rfl
 | t :: p => by
  have e : (ngT t).e = t.e := rfl
  rw [List.map_cons, zaV, e, if_neg (Nat.lt_irrefl _), if_neg (Nat.lt_irrefl _), zoI p, List.map_cons]
  have : t.c + (ngT t).c = 0 := by show t.c + -t.c = 0; omega
  rw [this]
theorem sub_self (a : TM) : (zh9 a a).p = [] := by
 unfold zh9 zg8
 cases w : a.r.isW
 ·have e : zc4 a = ⟨a.p.map ngT, a.r.neg⟩ := zib (by rw [neg_W]; exact w)
  rw [e]
  simp only
  have e2 : (zaX a.p (a.p.map ngT)).1 = [] := by
   unfold zaX
   rw [zoI]
   cases w2 : (zao (a.p.map fun t => (⟨0, t.e⟩ : Tm)) 6 0 0).2.isW
   ·obtain ⟨_, _, _, _, e⟩ := zgS w2
    rw [e]
    simp only
    refine List.filter_eq_nil_iff.2 fun t ht => ?_
    obtain ⟨u, _, rfl⟩ := List.mem_map.1 ht
    simp [kp]
   ·rw [zkE w2]
  rw [e2]
  unfold nrm
  split <;> rfl
 ·have e : (a.r.add (zc4 a).r).add (zaX a.p (zc4 a).p).2 = Iv.whole := by
   have : a.r.add (zc4 a).r = Iv.whole := by unfold Iv.add; rw [w, Bool.true_or, if_pos rfl]
   rw [this, wadd]
  rw [e]
  exact congrArg TM.p (zia (r := Iv.whole) rfl)
theorem zoJ (φ : E6 → Int) {m : TM} (g : m.good) : hv φ m (65536 * (lin φ m.p + m.r.lo)) := hv_of (Int.le_refl _) (by have := g.va.1; omega)
theorem sub_zero {φ : E6 → Int} (h : Cor φ) {a : TM} (g : a.good) : hv φ (zh9 a a) 0 := by
 have := zuI h g g (zoJ φ g) (zoJ φ g)
 rwa [Int.sub_self] at this
theorem ze1 {m : TM} (g : m.good) : zfH m = true := by
 have h1 : decide (zbx m.p) = true := decide_eq_true ⟨g.pol.fi, g.pol.st, g.pol.ln⟩
 unfold zfH
 rw [h1]
 obtain ⟨v1, v2, v3, v4⟩ := g.va
 cases w : m.r.isW
 ·have n := zds g.va w
  simp [n.1, n.2, v1]
 ·simp [g.em w]
def dbl (w : Pt) : Pt := ⟨2 * w.a, 2 * w.b, 2 * w.c, 2 * w.d, 2 * w.e, 2 * w.f⟩
theorem zuZ (x : Int) (n : Nat) : (2 * x) ^ n = 2 ^ n * x ^ n := Int.mul_pow
theorem zsI (t : Tm) (w : Pt) : znm t (dbl w) = t.c * mono w t.e * 2 ^ t.e.deg := by
 unfold znm mono dbl E6.deg
 simp only [zuZ, Int.pow_add]
 generalize w.a ^ t.e.a = a
 generalize w.b ^ t.e.b = b
 generalize w.c ^ t.e.c = c
 generalize w.d ^ t.e.d = d
 generalize w.e ^ t.e.e = e
 generalize w.f ^ t.e.f = f
 generalize (2 : Int) ^ t.e.a = a'
 generalize (2 : Int) ^ t.e.b = b'
 generalize (2 : Int) ^ t.e.c = c'
 generalize (2 : Int) ^ t.e.d = d'
 generalize (2 : Int) ^ t.e.e = e'
 generalize (2 : Int) ^ t.e.f = f'
 ac_rfl
theorem ztY (t : Tm) (w : Pt) (h : t.e.deg ≤ 6) : valT (dbl w) t = 4096 * (t.c * mono w t.e) := by
 unfold valT
 rw [zsI, Int.mul_assoc, ← Int.pow_add, show t.e.deg + (12 - t.e.deg) = 12 by omega]
 omega
theorem zoK (w : Pt) : ∀ {p : List Tm}, deg6 p → zma p (dbl w) = 4096 * lin (mono w) p
 | [], _ => rfl
 | t :: p, h => by
  rw [zsp, zbD, ztY t w (h t (by simp)), zoK w fun u hu => h u (List.mem_cons_of_mem t hu)]
  omega
theorem has_pt (w : Int) (h : -1 ≤ w ∧ w ≤ 1) : has 1 (65536 * (2 * w)) (ptI w) := by
 unfold ptI
 refine zf6 ?_ ?_ <;> omega
theorem zsJ (s : List Int) (k : Nat) (h : k < 6) : bx (zad s) k = ptI (cw s k) := by
 have : (zad s)[k]? = some (ptI (cw s k)) := by
  rw [List.getElem?_eq_getElem (show k < (zad s).length from h), zlI]
 unfold bx
 rw [this]; rfl
theorem zpn (s : List Int) : boxH (zad s) (dbl (wpt s)) := by
 refine ⟨?_, ?_, ?_, ?_, ?_, ?_⟩ <;> rw [zsJ s _ (by omega)] <;> exact has_pt _ (zep s _)
theorem ztZ {s : List Int} {a : TM} (g : a.good) {x : Int} (x1 : lin (mono (wpt s)) a.p + a.r.lo ≤ x) (x2 : x ≤ lin (mono (wpt s)) a.p + a.r.hi) (w : (zfu a (zad s)).isW = false) : (zfu a (zad s)).lo ≤ x ∧ x ≤ (zfu a (zad s)).hi := by
 have d6 : deg6 a.p := fun t ht => (g.pol.fi t ht).2.2
 have h := zsq (zgD s) (zpn s) d6
 rw [zoK _ d6] at h
 unfold zfu at *
 obtain ⟨w1, w2, e1, e2⟩ := zi1 w
 rcases h with h | h
 ·rw [h] at w1; cases w1
 ·have e : (2 : Int) ^ 12 = 4096 := by decide
  rw [e] at h
  omega
theorem zsK {a b : Iv} (h : b.isW = true) : (a.add b).isW = true := by unfold Iv.add; rw [h, Bool.or_true, if_pos rfl]; rfl
end Go.Ab
