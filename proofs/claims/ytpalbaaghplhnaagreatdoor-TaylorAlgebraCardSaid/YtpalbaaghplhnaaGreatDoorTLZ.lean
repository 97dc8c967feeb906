/- Plain facts on models: truncating twice, a - a, values at corners in Eval; conditions: valid models. -/
import Derived.Test.YtpalbaaghplhnaaGreatDoorTM2Z
import Derived.Test.YtpalbaaghplhnaaGreatDoorM1
set_option linter.unusedVariables false
set_option linter.unusedSimpArgs false
namespace Go.Ab
theorem zoG : ∀ p : List Tm, za4 p (p.map ngT) = p.map fun t => ⟨0, t.e⟩
 | [] => by rw [List.map_nil, zaB]; rfl
 | t :: p => by
  have e : (ngT t).e = t.e := rfl
  rw [List.map_cons, zaJ, e, if_neg (Nat.lt_irrefl _), if_neg (Nat.lt_irrefl _), zoG p, List.map_cons]
  have : t.c + (ngT t).c = 0 := by show t.c + -t.c = 0; omega
  rw [this]
theorem sub_self (a : TM) : (zhd a a).p = [] := by
 unfold zhd ze4
 cases w : a.r.isW
 ·have e : zci a = ⟨a.p.map ngT, a.r.neg⟩ := zfA (by rw [zni]; exact w)
  rw [e]
  simp only
  have e2 : (zaQ a.p (a.p.map ngT)).1 = [] := by
   unfold zaQ
   rw [zoG]
   cases w2 : (zar (a.p.map fun t => (⟨0, t.e⟩ : Tm)) 6 0 0).2.isW
   ·obtain ⟨_, _, _, _, e⟩ := ziZ w2
    rw [e]
    simp only
    refine List.filter_eq_nil_iff.2 fun t ht => ?_
    obtain ⟨u, _, rfl⟩ := List.mem_map.1 ht
    simp [kp]
   ·rw [zoB w2]
  rw [e2]
  unfold nrm
  split <;> rfl
 ·have e : (a.r.add (zci a).r).add (zaQ a.p (zci a).p).2 = Iv.whole := by
   have : a.r.add (zci a).r = Iv.whole := by unfold Iv.add; rw [w, Bool.true_or, if_pos rfl]
   rw [this, wadd]
  rw [e]
  exact congrArg TM.p (zgY (r := Iv.whole) rfl)
theorem zoH (φ : E6 → Int) {m : TM} (g : m.good) : hv φ m (65536 * (lin φ m.p + m.r.lo)) := hv_of (Int.le_refl _) (by have := g.va.1; omega)
theorem sub_zero {φ : E6 → Int} (h : Cor φ) {a : TM} (g : a.good) : hv φ (zhd a a) 0 := by
 have := zuK h g g (zoH φ g) (zoH φ g)
 rwa [Int.sub_self] at this
theorem zga {m : TM} (g : m.good) : zfN m = true := by
 have h1 : decide (zbC m.p) = true := decide_eq_true ⟨g.pol.fi, g.pol.st, g.pol.ln⟩
 unfold zfN
 rw [h1]
 obtain ⟨v1, v2, v3, v4⟩ := g.va
 cases w : m.r.isW
 ·have n := zd5 g.va w
  simp [n.1, n.2, v1]
 ·simp [g.em w]
def dbl (w : Pt) : Pt := ⟨2 * w.a, 2 * w.b, 2 * w.c, 2 * w.d, 2 * w.e, 2 * w.f⟩
theorem zu2 (x : Int) (n : Nat) : (2 * x) ^ n = 2 ^ n * x ^ n := Int.mul_pow
theorem zsL (t : Tm) (w : Pt) : znh t (dbl w) = t.c * mono w t.e * 2 ^ t.e.deg := by
 unfold znh mono dbl E6.deg
 simp only [zu2, Int.pow_add]
 generalize w.a ^ t.e.a = a
 generalize w.b ^ t.e.b = b
 generalize w.c ^ t.e.c = c
 generalize w.d ^ t.e.d = d
 generalize w.e ^ t.e.e = e
 generalize w.f ^ t.e.f = f
 generalize (2 : Int) ^ t.e.a = a'
 generalize (2 : Int) ^ t.e.b = b'
 generalize (2 : Int) ^ t.e.c = c'
 generalize (2 : Int) ^ t.e.d = d'
 generalize (2 : Int) ^ t.e.e = e'
 generalize (2 : Int) ^ t.e.f = f'
 ac_rfl
theorem ztZ (t : Tm) (w : Pt) (h : t.e.deg ≤ 6) : valT (dbl w) t = 4096 * (t.c * mono w t.e) := by
 unfold valT
 rw [zsL, Int.mul_assoc, ← Int.pow_add, show t.e.deg + (12 - t.e.deg) = 12 by omega]
 omega
theorem zoI (w : Pt) : ∀ {p : List Tm}, deg6 p → zl3 p (dbl w) = 4096 * lin (mono w) p
 | [], _ => rfl
 | t :: p, h => by
  rw [zsp, zbI, ztZ t w (h t (by simp)), zoI w fun u hu => h u (List.mem_cons_of_mem t hu)]
  omega
theorem has_pt (w : Int) (h : -1 ≤ w ∧ w ≤ 1) : has 1 (65536 * (2 * w)) (ptI w) := by
 unfold ptI
 refine zge ?_ ?_ <;> omega
theorem zsM (s : List Int) (k : Nat) (h : k < 6) : bx (zae s) k = ptI (cw s k) := by
 have : (zae s)[k]? = some (ptI (cw s k)) := by
  rw [List.getElem?_eq_getElem (show k < (zae s).length from h), zlC]
 unfold bx
 rw [this]; rfl
theorem zpl (s : List Int) : boxH (zae s) (dbl (wpt s)) := by
 refine ⟨?_, ?_, ?_, ?_, ?_, ?_⟩ <;> rw [zsM s _ (by omega)] <;> exact has_pt _ (zew s _)
theorem zt0 {s : List Int} {a : TM} (g : a.good) {x : Int} (x1 : lin (mono (wpt s)) a.p + a.r.lo ≤ x) (x2 : x ≤ lin (mono (wpt s)) a.p + a.r.hi) (w : (zfz a (zae s)).isW = false) : (zfz a (zae s)).lo ≤ x ∧ x ≤ (zfz a (zae s)).hi := by
 have d6 : deg6 a.p := fun t ht => (g.pol.fi t ht).2.2
 have h := zsq (zgJ s) (zpl s) d6
 rw [zoI _ d6] at h
 unfold zfz at *
 obtain ⟨w1, w2, e1, e2⟩ := zej w
 rcases h with h | h
 ·rw [h] at w1; cases w1
 ·have e : (2 : Int) ^ 12 = 4096 := by decide
  rw [e] at h
  omega
theorem zsN {a b : Iv} (h : b.isW = true) : (a.add b).isW = true := by unfold Iv.add; rw [h, Bool.or_true, if_pos rfl]; rfl
end Go.Ab
