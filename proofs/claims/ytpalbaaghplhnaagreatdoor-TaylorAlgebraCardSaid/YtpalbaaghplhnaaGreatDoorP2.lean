/- Validity and equality of polynomials, of the program and of the reference; conditions: bytes; few terms. -/
import Derived.KernelRfl
import Derived.Test.YtpalbaaghplhnaaGreatDoorP1
set_option linter.unusedVariables false
set_option linter.unusedSimpArgs false
namespace Go.Ab
def zfy (a b : Tm) : Prop := a.e.key < b.e.key
instance (a b : Tm) : Decidable (zfy a b) := inferInstanceAs (Decidable (_ < _))
def zas (p : List Tm) : Prop := p.Pairwise zfy
instance (p : List Tm) : Decidable (zas p) := inferInstanceAs (Decidable (List.Pairwise _ _))
def zbs (t : Tm) : Prop := zz t.c ∧ t.c ≠ 0 ∧ t.e.deg ≤ 6
instance (t : Tm) : Decidable (zbs t) := inferInstanceAs (Decidable (_ ∧ _))
def zbC (p : List Tm) : Prop := (∀ t ∈ p, zbs t) ∧ zas p ∧ p.length ≤ 100
instance (p : List Tm) : Decidable (zbC p) := inferInstanceAs (Decidable (_ ∧ _))
def zha (p : List Tm) (i : Nat) : Bool := if h : i < p.length then decide (zbs p[i]) && (if h2 : 0 < i then decide (p[i - 1].e.key < p[i].e.key) else true) else true
theorem zoc {p : List Tm} (h : ∀ i, i < p.length → zha p i = true) : (∀ t ∈ p, zbs t) ∧ zas p := by
 have h' : ∀ i (hi : i < p.length), zbs p[i] ∧ ∀ (h2 : 0 < i), p[i - 1].e.key < p[i].e.key := by
  intro i hi
  have := h i hi
  simp only [zha, hi, dif_pos, Bool.and_eq_true, decide_eq_true_eq] at this
  refine ⟨this.1, fun h2 => ?_⟩
  have h3 := this.2
  rw [dif_pos h2] at h3
  exact of_decide_eq_true h3
 refine ⟨fun t ht => ?_, ?_⟩
 ·obtain ⟨i, hi, rfl⟩ := List.mem_iff_getElem.1 ht
  exact (h' i hi).1
 ·unfold zas
  rw [List.pairwise_iff_getElem]
  intro i j hi hj hij
  have : ∀ k (hk : i + 1 + k < p.length), p[i].e.key < p[i + 1 + k].e.key := by
   intro k
   induction k with
   | zero => intro hk; have := (h' (i + 1) hk).2 (by omega); simpa using this
   | succ k ih =>
    intro hk
    have h1 := ih (by omega)
    have h2 := (h' (i + 1 + (k + 1)) hk).2 (by omega)
    simp only [show i + 1 + (k + 1) - 1 = i + 1 + k by omega] at h2
    omega
  have := this (j - i - 1) (by omega)
  simp only [show i + 1 + (j - i - 1) = j by omega] at this
  exact this
theorem ziQ {p : List Tm} {i : Nat} (hi : i < p.length) (h : zha p i = false) : ¬ ((∀ t ∈ p, zbs t) ∧ zas p) := by
 rintro ⟨h1, h2⟩
 simp only [zha, hi, dif_pos, Bool.and_eq_false_iff, decide_eq_false_iff_not] at h
 rcases h with h | h
 ·exact h (h1 _ (List.getElem_mem hi))
 ·split at h
  ·rename_i h3
   simp only [decide_eq_false_iff_not] at h
   unfold zas at h2
   rw [List.pairwise_iff_getElem] at h2
   exact h (h2 (i - 1) i (by omega) hi (by omega))
  ·cases h
theorem zlp (x y : E6) : decide (x.ord y ≥ 0) = !decide (x.key < y.key) := by
 unfold E6.ord
 by_cases h1 : x.key < y.key
 ·simp [h1]
 ·by_cases h2 : y.key < x.key <;> simp [h1, h2]
theorem zrY (i : Nat) (h0 : 0 < i) (h : i ≤ 1000000000) : IntKind.wrap .i64 (((i : Nat) : Int) - 1) = ((i - 1 : Nat) : Int) := by
 rw [w64 (by omega) (by omega)]; omega
theorem zpy {i : Nat} : decide (((i : Nat) : Int) > 0) = decide (0 < i) := by
 by_cases h : 0 < i
 ·simp [h]
 ·simp [h]
theorem zkt (p : List Tm) (hk : oks p) (hf : few p) (i : Nat) (hi : i < p.length) : zp GZ LZ (CW GZ LZ) 50 none 2 (zc2 (p.map Tm.cs) false (p.map Tm.cs) ((p.length : Nat) : Int) ((i : Nat) : Int)) =
   if zha p i = true then some (.normal, zc2 (p.map Tm.cs) false (p.map Tm.cs) ((p.length : Nat) : Int) ((i + 1 : Nat) : Int)) else some (.ret, zc2 (p.map Tm.cs) false (p.map Tm.cs) ((p.length : Nat) : Int) ((i : Nat) : Int)) := by
 have hfl : p.length ≤ 100000 := hf
 have hx : p[i].e.ok := hk _ (List.getElem_mem hi)
 rw [e50_2, zba hi, zbe p i hi, zpy]
 simp only [zam, zan, zs, zQ, zD, zw, zI, zP, zu, zV, zr, zC, zt, zR, z6, zaa, zY, zH, zM, zN, zW, zB, zG, zK, zL, Option.bind_some, Option.bind_none, cond_true, cond_false, zT, zU, p90, zaV i (by omega)]
 rw [p91 _ hx]
 simp only [zs, Option.bind_some, zT]
 simp only [zha, hi, dif_pos]
 by_cases h1 : zz p[i].c
 ·by_cases h2 : p[i].c = 0
  ·have e2 : (p[i].c == 0) = true := by simpa using h2
   have : ¬ zbs p[i] := fun h => h.2.1 h2
   simp [h1, e2, this]
  ·have e2 : (p[i].c == 0) = false := by simpa using h2
   by_cases h3 : p[i].e.deg ≤ 6
   ·have e3 : ¬ ((p[i].e.deg : Nat) : Int) > 6 := by omega
    have hfi : zbs p[i] := ⟨h1, h2, h3⟩
    by_cases h4 : 0 < i
    ·have hx' : p[i - 1].e.ok := hk _ (List.getElem_mem _)
     simp only [h1, e2, e3, h4, hfi, if_true, if_false, cond_false, zrY i h4 (by omega), zbe p (i - 1) (by omega), zam, zan, zs, zQ, zD, zw, zI, zP, zu, zV, zr, zC, zt, zR, z6, zaa, zY, zH, zM, zN, zW, zB, zG, zK, zL, Option.bind_some, Option.bind_none, cond_true, cond_false, zT, zU, p92 _ _ hx' hx, decide_true, Bool.true_and, dif_pos]
     by_cases h5 : p[i - 1].e.key < p[i].e.key
     ·have e5 : ¬ p[i - 1].e.ord p[i].e ≥ 0 := by have := zlp p[i - 1].e p[i].e; simpa [h5] using this
      simp only [h5, e5, decide_true, if_true, if_false]
     ·have e5 : p[i - 1].e.ord p[i].e ≥ 0 := by have := zlp p[i - 1].e p[i].e; simpa [h5] using this
      simp only [h5, e5, decide_false, if_true, if_false, Bool.false_eq_true]
    ·simp only [h1, e2, e3, h4, hfi, if_true, if_false, cond_false, decide_true, Bool.and_self, dif_neg, not_false_eq_true]
   ·have e3 : ((p[i].e.deg : Nat) : Int) > 6 := by omega
    have : ¬ zbs p[i] := fun h => h3 h.2.2
    simp [h1, e2, e3, this]
 ·have : ¬ zbs p[i] := fun h => h1 h.1
  simp [h1, this]
theorem p50 (p : List Tm) (hk : oks p) (hf : few p) : (CW GZ LZ).p (.func 50) [.slice .any (p.map Tm.cs)] = some (.bool (decide (zbC p))) := by
 have hfl : p.length ≤ 100000 := hf
 have hstep := zkt p hk hf
 have hloop := zd3 (round := zp GZ LZ (CW GZ LZ) 50 none 2) (fun i => zc2 (p.map Tm.cs) false (p.map Tm.cs) ((p.length : Nat) : Int) ((i : Nat) : Int)) p.length (zha p)
  (fun z => ∃ x : Int, z = zc2 (p.map Tm.cs) false (p.map Tm.cs) ((p.length : Nat) : Int) x) (id := 0)
  (fun i hi _ h => by rw [hstep i hi, if_pos h]) (fun i hi _ h => ⟨_, by rw [hstep i hi, if_neg (by rw [h]; simp)], _, rfl⟩)
  (fun _ => by simp only [e50_2, za7, cond_false])
 rcases hloop with ⟨hall, hl⟩ | ⟨⟨j, hj1, hj2⟩, z, hl, x, hz⟩
 ·have hv := zoc hall
  have : decide (zbC p) = decide ((((p.map Tm.cs).length : Nat) : Int) ≤ 100) := by
   rw [decide_eq_decide, List.length_map]
   exact ⟨fun h => by have := h.2.2; omega, fun h => ⟨hv.1, hv.2, by omega⟩⟩
  rw [this]
  refine zE (h := []) ?_ rfl
  rw [e50, zaz]
  refine (zZ (show zal (zp GZ LZ (CW GZ LZ) 50 none 2) (zc2 (p.map Tm.cs) false (p.map Tm.cs) (((p.map Tm.cs).length : Nat) : Int) 0) = some _ from by rw [List.length_map]; exact hl) _).trans ?_
  kernel_rfl
 ·have hn := ziQ hj1 hj2
  have : decide (zbC p) = false := by simp only [decide_eq_false_iff_not]; exact fun h => hn ⟨h.1, h.2.1⟩
  rw [this]
  rw [hz] at hl
  refine zE (h := []) ?_ rfl
  rw [e50, zaz]
  refine (zZ (show zal (zp GZ LZ (CW GZ LZ) 50 none 2) (zc2 (p.map Tm.cs) false (p.map Tm.cs) (((p.map Tm.cs).length : Nat) : Int) 0) = some _ from by rw [List.length_map]; exact hl) _).trans ?_
  kernel_rfl
theorem zl0 (p : List Tm) (hk : oks p) (hf : few p) (i : Nat) (hi : i < p.length) : zp GZ LZ (CW GZ LZ) 52 none 2 (zdC (p.map Tm.cs) false ((i : Nat) : Int)) =
   if zha p i = true then some (.normal, zdC (p.map Tm.cs) false ((i + 1 : Nat) : Int)) else some (.ret, zdC (p.map Tm.cs) false ((i : Nat) : Int)) := by
 have hfl : p.length ≤ 100000 := hf
 have hx : p[i].e.ok := hk _ (List.getElem_mem hi)
 rw [e52_2, List.length_map, zba hi, zbe p i hi, zpy]
 simp only [zam, zan, zs, zQ, zD, zw, zI, zP, zu, zV, zr, zC, zt, zR, z6, zaa, zY, zH, zM, zN, zW, zB, zG, zK, zL, Option.bind_some, Option.bind_none, cond_true, cond_false, zT, zU, p89, p88 _ hx, zaV i (by omega)]
 simp only [zha, hi, dif_pos]
 by_cases h1 : zz p[i].c
 ·by_cases h2 : p[i].c = 0
  ·have e2 : (p[i].c == 0) = true := by simpa using h2
   have : ¬ zbs p[i] := fun h => h.2.1 h2
   simp [h1, e2, this]
  ·have e2 : (p[i].c == 0) = false := by simpa using h2
   by_cases h3 : p[i].e.deg ≤ 6
   ·have e3 : ¬ ((p[i].e.deg : Nat) : Int) > 6 := by omega
    have hfi : zbs p[i] := ⟨h1, h2, h3⟩
    by_cases h4 : 0 < i
    ·have hx' : p[i - 1].e.ok := hk _ (List.getElem_mem _)
     simp only [h1, e2, e3, h4, hfi, if_true, if_false, cond_false, zrY i h4 (by omega), zbe p (i - 1) (by omega), zam, zan, zs, zQ, zD, zw, zI, zP, zu, zV, zr, zC, zt, zR, z6, zaa, zY, zH, zM, zN, zW, zB, zG, zK, zL, Option.bind_some, Option.bind_none, cond_true, cond_false, zT, zU, p93 _ _ hx' hx, decide_true, Bool.true_and, dif_pos]
     by_cases h5 : p[i - 1].e.key < p[i].e.key
     ·have e5 : ¬ p[i - 1].e.ord p[i].e ≥ 0 := by have := zlp p[i - 1].e p[i].e; simpa [h5] using this
      simp only [h5, e5, decide_true, if_true, if_false]
     ·have e5 : p[i - 1].e.ord p[i].e ≥ 0 := by have := zlp p[i - 1].e p[i].e; simpa [h5] using this
      simp only [h5, e5, decide_false, if_true, if_false, Bool.false_eq_true]
    ·simp only [h1, e2, e3, h4, hfi, if_true, if_false, cond_false, decide_true, Bool.and_self, dif_neg, not_false_eq_true]
   ·have e3 : ((p[i].e.deg : Nat) : Int) > 6 := by omega
    have : ¬ zbs p[i] := fun h => h3 h.2.2
    simp [h1, e2, e3, this]
 ·have : ¬ zbs p[i] := fun h => h1 h.1
  simp [h1, this]
theorem p52 (p : List Tm) (hk : oks p) (hf : few p) : (CW GZ LZ).p (.func 52) [.slice .any (p.map Tm.cs)] = some (.bool (decide (zbC p))) := by
 have hfl : p.length ≤ 100000 := hf
 have hstep := zl0 p hk hf
 have hloop := zd3 (round := zp GZ LZ (CW GZ LZ) 52 none 2) (fun i => zdC (p.map Tm.cs) false ((i : Nat) : Int)) p.length (zha p)
  (fun z => ∃ x : Int, z = zdC (p.map Tm.cs) false x) (id := 0)
  (fun i hi _ h => by rw [hstep i hi, if_pos h]) (fun i hi _ h => ⟨_, by rw [hstep i hi, if_neg (by rw [h]; simp)], _, rfl⟩)
  (fun _ => by simp only [e52_2, List.length_map, za7, cond_false])
 rcases hloop with ⟨hall, hl⟩ | ⟨⟨j, hj1, hj2⟩, z, hl, x, hz⟩
 ·have hv := zoc hall
  have : decide (zbC p) = decide ((((p.map Tm.cs).length : Nat) : Int) ≤ 100) := by
   rw [decide_eq_decide, List.length_map]
   exact ⟨fun h => by have := h.2.2; omega, fun h => ⟨hv.1, hv.2, by omega⟩⟩
  rw [this]
  refine zE (h := []) ?_ rfl
  rw [e52, zaz]
  refine (zZ hl _).trans ?_
  kernel_rfl
 ·have hn := ziQ hj1 hj2
  have : decide (zbC p) = false := by simp only [decide_eq_false_iff_not]; exact fun h => hn ⟨h.1, h.2.1⟩
  rw [this]
  rw [hz] at hl
  refine zE (h := []) ?_ rfl
  rw [e52, zaz]
  refine (zZ hl _).trans ?_
  kernel_rfl
def sameAt (a b : List Tm) (i : Nat) : Bool := if h : i < a.length ∧ i < b.length then decide (a[i]'h.1 = b[i]'h.2) else true
theorem ztq {x y : E6} (hx : x.ok) (hy : y.ok) : (x.ord y != 0) = !decide (x = y) := by
 by_cases h : x = y
 ·subst h; simp [E6.ord]
 ·have : x.key ≠ y.key := fun e => h (E6.key_inj hx hy e)
  unfold E6.ord
  by_cases h1 : x.key < y.key
  ·simp [h1, h]
  ·have h2 : y.key < x.key := by omega
   simp [h1, h2, h]
theorem p53 (a b : List Tm) (ha : oks a) (hb : oks b) (hf : few a) : (CW GZ LZ).p (.func 53) [.slice .any (a.map Tm.cs), .slice .any (b.map Tm.cs)] = some (.bool (decide (a = b))) := by
 have hfl : a.length ≤ 100000 := hf
 by_cases hlen : a.length = b.length
 ·have hstep : ∀ i (hi : i < a.length), zp GZ LZ (CW GZ LZ) 53 none 4 (zeV (a.map Tm.cs) (b.map Tm.cs) false ((i : Nat) : Int)) =
    if sameAt a b i = true then some (.normal, zeV (a.map Tm.cs) (b.map Tm.cs) false ((i + 1 : Nat) : Int)) else some (.ret, zeV (a.map Tm.cs) (b.map Tm.cs) false ((i : Nat) : Int)) := by
   intro i hi
   have hi2 : i < b.length := by omega
   have hx : a[i].e.ok := ha _ (List.getElem_mem hi)
   have hy : b[i].e.ok := hb _ (List.getElem_mem hi2)
   rw [e53_4, List.length_map, zba hi, zbe a i hi, zbe b i hi2]
   simp only [zam, zan, zs, zQ, zD, zw, zI, zP, zu, zV, zr, zC, zt, zR, z6, zaa, zY, zH, zM, zN, zW, zB, zG, zK, zL, Option.bind_some, Option.bind_none, cond_true, cond_false, zT, zU, p93 _ _ hx hy, zaV i (by omega), ztq hx hy, sameAt, hi, hi2, and_self, dif_pos]
   by_cases h1 : a[i].c = b[i].c
   ·have e1 : (a[i].c != b[i].c) = false := by simpa using h1
    by_cases h2 : a[i].e = b[i].e
    ·have : a[i] = b[i] := by cases h3 : a[i]; cases h4 : b[i]; simp_all
     simp only [e1, cond_false]
     simp only [h2, this, decide_true, if_true, Bool.not_true, cond_false]
    ·have : ¬ a[i] = b[i] := fun h => h2 (by rw [h])
     simp only [e1, h2, this, cond_false, decide_false, if_false, Bool.false_eq_true]
   ·have e1 : (a[i].c != b[i].c) = true := by simpa using h1
    have : ¬ a[i] = b[i] := fun h => h1 (by rw [h])
    simp only [e1, this, cond_true, decide_false, if_false, Bool.false_eq_true]
  have hloop := zd3 (round := zp GZ LZ (CW GZ LZ) 53 none 4) (fun i => zeV (a.map Tm.cs) (b.map Tm.cs) false ((i : Nat) : Int)) a.length (sameAt a b)
   (fun z => ∃ x : Int, z = zeV (a.map Tm.cs) (b.map Tm.cs) false x) (id := 0)
   (fun i hi _ h => by rw [hstep i hi, if_pos h]) (fun i hi _ h => ⟨_, by rw [hstep i hi, if_neg (by rw [h]; simp)], _, rfl⟩)
   (fun _ => by simp only [e53_4, List.length_map, za7, cond_false])
  have el : ((((a.map Tm.cs).length : Nat) : Int) != (((b.map Tm.cs).length : Nat) : Int)) = false := by simp [hlen]
  rcases hloop with ⟨hall, hl⟩ | ⟨⟨j, hj1, hj2⟩, z, hl, x, hz⟩
  ·have : a = b := by
    apply List.ext_getElem hlen
    intro i h1 h2
    have := hall i h1
    simp only [sameAt, h1, h2, and_self, dif_pos, decide_eq_true_eq] at this
    exact this
   rw [show decide (a = b) = true by simpa using this]
   refine zE (h := []) ?_ rfl
   rw [e53, zaz, el]
   refine (zZ hl _).trans ?_
   kernel_rfl
  ·have : ¬ a = b := by
    intro h
    subst h
    simp [sameAt] at hj2
   rw [show decide (a = b) = false by simpa using this]
   rw [hz] at hl
   refine zE (h := []) ?_ rfl
   rw [e53, zaz, el]
   refine (zZ hl _).trans ?_
   kernel_rfl
 ·have : ¬ a = b := fun h => hlen (by rw [h])
  rw [show decide (a = b) = false by simpa using this]
  have el : ((((a.map Tm.cs).length : Nat) : Int) != (((b.map Tm.cs).length : Nat) : Int)) = true := by
   simp only [List.length_map, bne_iff_ne, ne_eq]; omega
  refine zE (h := []) ?_ rfl
  rw [e53, el]
  rfl
end Go.Ab
namespace Go.Ab
def za4 : List Tm → List Tm → List Tm
 | [], b => b
 | x :: a, [] => x :: a
 | x :: a, y :: b => if x.e.key < y.e.key then x :: za4 a (y :: b) else if y.e.key < x.e.key then y :: za4 (x :: a) b else ⟨x.c + y.c, x.e⟩ :: za4 a b
termination_by a b => a.length + b.length
theorem zaB (b : List Tm) : za4 [] b = b := by rw [za4]
theorem zbF (a : List Tm) : za4 a [] = a := by cases a <;> rw [za4]
theorem zaJ (x y : Tm) (a b : List Tm) : za4 (x :: a) (y :: b) = if x.e.key < y.e.key then x :: za4 a (y :: b) else if y.e.key < x.e.key then y :: za4 (x :: a) b else ⟨x.c + y.c, x.e⟩ :: za4 a b := by rw [za4]
theorem zrZ : ∀ (n : Nat) (a b : List Tm), a.length + b.length ≤ n → (za4 a b).length ≤ a.length + b.length := by
 intro n
 induction n with
 | zero => intro a b h; rw [List.length_eq_zero_iff.1 (show a.length = 0 by omega), zaB]; omega
 | succ n ih =>
  intro a b h
  cases a with
  | nil => rw [zaB]; omega
  | cons x a =>
   cases b with
   | nil => rw [zbF]; omega
   | cons y b =>
    rw [zaJ]
    simp only [List.length_cons] at h ⊢
    split
    ·have := ih a (y :: b) (by simp only [List.length_cons]; omega)
     simp only [List.length_cons] at this ⊢; omega
    ·split
     ·have := ih (x :: a) b (by simp only [List.length_cons]; omega)
      simp only [List.length_cons] at this ⊢; omega
     ·have := ih a b (by omega)
      simp only [List.length_cons] at this ⊢; omega
def zdz (a b out : List Tm) : St := zbR (a.map Tm.cs) (b.map Tm.cs) 0 0 (out.map Tm.cs).length (out.map Tm.cs)
theorem zdn : ∀ (l : List Tm), zaN 7 (l.map Tm.cs) = true
 | [] => rfl
 | _ :: _ => rfl
theorem zuk (x : Tm) (l : List (List V)) : zS (x.cs :: l) 0 7 = some x.cs := rfl
theorem ztr {α : Type} (x : α) (l : List α) : ((x :: l).take (x :: l).length).drop 1 = l := by rw [List.take_length]; rfl
theorem zod (b out : List Tm) (h : out.length + b.length ≤ 1000000) : zp GZ LZ (CW GZ LZ) 54 none 2 (zdz [] b out) = some (.exit 0, zdz [] b (out ++ b)) := by
 have hr : ((out.map Tm.cs).length + (b.map Tm.cs).length) * 16 ≤ zag := by simp only [List.length_map]; unfold zag; omega
 unfold zdz
 rw [zqo]
 simp only [List.map_nil, List.length_nil, zdn, hr, decide_true, cond_true, show (((0 : Nat) : Int) == 0) = true from rfl, List.map_append, List.length_append]
 rfl
theorem zts (x : Tm) (a out : List Tm) (h : out.length + (x :: a).length ≤ 1000000) : zp GZ LZ (CW GZ LZ) 54 none 2 (zdz (x :: a) [] out) = some (.exit 0, zdz (x :: a) [] (out ++ x :: a)) := by
 have hr : ((out.map Tm.cs).length + ((x :: a).map Tm.cs).length) * 16 ≤ zag := by simp only [List.length_map]; unfold zag; omega
 have e0 : (((((x :: a).map Tm.cs).length : Nat) : Int) == 0) = false := by simp only [List.length_map, List.length_cons, beq_eq_false_iff_ne, ne_eq]; omega
 unfold zdz
 rw [zqo, e0]
 simp only [zdn, hr, decide_true, cond_true, cond_false, List.map_nil, List.length_nil, show (((0 : Nat) : Int) == 0) = true from rfl, List.map_append, List.length_append]
 rfl
theorem ztt (x y : Tm) (a b out : List Tm) (hx : x.e.ok) (hy : y.e.ok) (nx : zz x.c) (ny : zz y.c) (h : out.length ≤ 1000000) :
  zp GZ LZ (CW GZ LZ) 54 none 2 (zdz (x :: a) (y :: b) out) = some (.normal, if x.e.key < y.e.key then zdz a (y :: b) (out ++ [x]) else if y.e.key < x.e.key then zdz (x :: a) b (out ++ [y]) else zdz a b (out ++ [⟨x.c + y.c, x.e⟩])) := by
 have hr : ((out.map Tm.cs).length + 1) * 16 ≤ zag := by simp only [List.length_map]; unfold zag; omega
 have e0 : ∀ (z : Tm) (l : List Tm), (((((z :: l).map Tm.cs).length : Nat) : Int) == 0) = false := fun z l => by simp only [List.length_map, List.length_cons, beq_eq_false_iff_ne, ne_eq]; omega
 have e1 : ∀ (z : Tm) (l : List Tm), decide (1 ≤ ((z :: l).map Tm.cs).length) = true := fun z l => by simp
 simp only [zz] at nx ny
 have w1 : IntKind.wrap .i64 (x.c + y.c) = x.c + y.c := w64 (by omega) (by omega)
 have td : ∀ (z : Tm) (l : List Tm), (((z :: l).map Tm.cs).take ((z :: l).map Tm.cs).length).drop 1 = l.map Tm.cs := fun z l => ztr _ _
 have ap : ∀ z : Tm, List.append (out.map Tm.cs) [z.cs] = (out ++ [z]).map Tm.cs := fun z => by simp
 have aq : ∀ z : Tm, (out.map Tm.cs).length + 1 = ((out ++ [z]).map Tm.cs).length := fun z => by simp
 unfold zdz
 rw [zqo, e0, e0]
 simp only [cond_false, e1, td, zdn, hr, decide_true, cond_true]
 simp only [List.map_cons, zuk, zam, zan, zr, Option.bind_some, zs, zG, zt]
 rw [p92 _ _ hx hy]
 simp only [zs, Option.bind_some, w1]
 by_cases h1 : x.e.key < y.e.key
 ·have ho : x.e.ord y.e = -1 := by unfold E6.ord; rw [if_pos h1]
  rw [ho, if_pos h1]
  refine Eq.trans ?_ (congrArg (fun z => some (Ex.normal, zbR (a.map Tm.cs) ((y :: b).map Tm.cs) 0 0 z ((out ++ [x]).map Tm.cs))) (aq x))
  rw [← ap x]
  rfl
 ·by_cases h2 : y.e.key < x.e.key
  ·have ho : x.e.ord y.e = 1 := by unfold E6.ord; rw [if_neg h1, if_pos h2]
   rw [ho, if_neg h1, if_pos h2]
   refine Eq.trans ?_ (congrArg (fun z => some (Ex.normal, zbR ((x :: a).map Tm.cs) (b.map Tm.cs) 0 0 z ((out ++ [y]).map Tm.cs))) (aq y))
   rw [← ap y]
   rfl
  ·have ho : x.e.ord y.e = 0 := by unfold E6.ord; rw [if_neg h1, if_neg h2]
   rw [ho, if_neg h1, if_neg h2]
   refine Eq.trans ?_ (congrArg (fun z => some (Ex.normal, zbR (a.map Tm.cs) (b.map Tm.cs) 0 0 z ((out ++ [(⟨x.c + y.c, x.e⟩ : Tm)]).map Tm.cs))) (aq (⟨x.c + y.c, x.e⟩ : Tm)))
   rw [← ap (⟨x.c + y.c, x.e⟩ : Tm)]
   rfl
theorem ztu : ∀ (n : Nat) (a b out : List Tm), a.length + b.length ≤ n → oks a → oks b → zbf a → zbf b → out.length + a.length + b.length ≤ 1000000 →
  ∃ a' b', zal (zp GZ LZ (CW GZ LZ) 54 none 2) (zdz a b out) = some (.exit 0, zdz a' b' (out ++ za4 a b)) := by
 intro n
 induction n with
 | zero =>
  intro a b out h _ _ _ _ hl
  have ha : a = [] := List.length_eq_zero_iff.1 (by omega)
  subst ha
  exact ⟨_, _, by rw [zaB]; exact zbb (zod b out (by omega))⟩
 | succ n ih =>
  intro a b out h ha hb na nb hl
  cases a with
  | nil => exact ⟨_, _, by rw [zaB]; exact zbb (zod b out (by simp only [List.length_nil] at hl; omega))⟩
  | cons x a =>
   cases b with
   | nil => exact ⟨_, _, by rw [zbF]; exact zbb (zts x a out (by simp only [List.length_nil] at hl; omega))⟩
   | cons y b =>
    have st := ztt x y a b out (ha x (by simp)) (hb y (by simp)) (na x (by simp)) (nb y (by simp)) (by omega)
    have ha' : oks a := fun t ht => ha t (by simp [ht])
    have hb' : oks b := fun t ht => hb t (by simp [ht])
    have na' : zbf a := fun t ht => na t (by simp [ht])
    have nb' : zbf b := fun t ht => nb t (by simp [ht])
    simp only [List.length_cons] at h hl
    rw [zk st, zaJ]
    split
    ·obtain ⟨a2, b2, hh⟩ := ih a (y :: b) (out ++ [x]) (by simp only [List.length_cons]; omega) ha' hb na' nb (by simp only [List.length_append, List.length_cons, List.length_nil]; omega)
     exact ⟨a2, b2, by rw [hh]; simp⟩
    ·split
     ·obtain ⟨a2, b2, hh⟩ := ih (x :: a) b (out ++ [y]) (by simp only [List.length_cons]; omega) ha hb' na nb' (by simp only [List.length_append, List.length_cons, List.length_nil]; omega)
      exact ⟨a2, b2, by rw [hh]; simp⟩
     ·obtain ⟨a2, b2, hh⟩ := ih a b (out ++ [⟨x.c + y.c, x.e⟩]) (by omega) ha' hb' na' nb' (by simp only [List.length_append, List.length_cons, List.length_nil]; omega)
      exact ⟨a2, b2, by rw [hh]; simp⟩
theorem zmz : ∀ (n : Nat) (a b : List Tm), a.length + b.length ≤ n → oks a → oks b → oks (za4 a b) := by
 intro n
 induction n with
 | zero => intro a b h _ hb; rw [List.length_eq_zero_iff.1 (show a.length = 0 by omega), zaB]; exact hb
 | succ n ih =>
  intro a b h ha hb
  cases a with
  | nil => rw [zaB]; exact hb
  | cons x a =>
   cases b with
   | nil => rw [zbF]; exact ha
   | cons y b =>
    have ha' : oks a := fun t ht => ha t (by simp [ht])
    have hb' : oks b := fun t ht => hb t (by simp [ht])
    simp only [List.length_cons] at h
    have hx := ha x (by simp)
    have hy := hb y (by simp)
    rw [zaJ]
    intro t ht
    split at ht
    ·rcases List.mem_cons.1 ht with rfl | ht
     ·exact hx
     ·exact ih a (y :: b) (by simp only [List.length_cons]; omega) ha' hb t ht
    ·split at ht
     ·rcases List.mem_cons.1 ht with rfl | ht
      ·exact hy
      ·exact ih (x :: a) b (by simp only [List.length_cons]; omega) ha hb' t ht
     ·rcases List.mem_cons.1 ht with rfl | ht
      ·exact hx
      ·exact ih a b (by omega) ha' hb' t ht
def zaQ (a b : List Tm) : List Tm × Iv := zar (za4 a b) 6 0 0
theorem p54 (a b : List Tm) (ha : oks a) (hb : oks b) (na : zbf a) (nb : zbf b) (fa : a.length ≤ 10000) (fb : b.length ≤ 10000) :
  (CW GZ LZ).p (.func 54) [.slice .any (a.map Tm.cs), .slice .any (b.map Tm.cs)] = some (.tuple [.slice .any ((zaQ a b).1.map Tm.cs), .agg (zaQ a b).2.c]) := by
 obtain ⟨a', b', hl⟩ := ztu _ a b [] (Nat.le_refl _) ha hb na nb (by simp only [List.length_nil]; omega)
 have hlen := zrZ _ a b (Nat.le_refl _)
 have hm := zmz _ a b (Nat.le_refl _) ha hb
 rw [List.nil_append] at hl
 refine zaA (u := .tuple [.slice .any ((zaQ a b).1.map Tm.cs), .agg (zaQ a b).2.c]) (h := [.arr false 7 ((za4 a b).map Tm.cs)]) ?_ rfl
 rw [e54, zaz]
 refine (zZ hl _).trans ?_
 have hfin := p94 (za4 a b) 6 0 0 hm (by unfold few; omega) (by decide) (by decide) (by decide) (by decide)
 unfold zaQ
 generalize za4 a b = m at *
 have g1 : nth (zdz a' b' m).t 0 = .slice .any (a'.map Tm.cs) := rfl
 have g2 : nth (zdz a' b' m).t 1 = .slice .any (b'.map Tm.cs) := rfl
 have g3 : nth (zdz a' b' m).t 5 = .box [.int .i64 0, .int .i64 0] := rfl
 have g4 : nth (zdz a' b' m).t 6 = .arr 0 (m.map Tm.cs).length 7 := rfl
 have g5 : (zdz a' b' m).h = [.arr true 7 (m.map Tm.cs)] := rfl
 simp only [g1, g2, g3, g4, g5, Nat.beq_refl, zs, zQ, zD, zw, zI, zP, zu, zV, zr, zC, zt, zR, z6, zaa, zY, zH, zM, zN, zW, zB, zG, zK, zL, Option.bind_some, Option.bind_none, cond_true, cond_false, zT, zU, hfin]
 rfl
end Go.Ab
namespace Go.Ab
def ins : List Tm → Tm → List Tm
 | [], x => [x]
 | y :: p, x => if y.e.key < x.e.key then y :: ins p x else if y.e.key = x.e.key then ⟨x.c + y.c, x.e⟩ :: p else x :: y :: p
def zct : List Tm → Tm → Nat
 | [], _ => 0
 | y :: p, x => if y.e.key < x.e.key then zct p x + 1 else 0
theorem zl1 : ∀ (p : List Tm) (x : Tm), zct p x ≤ p.length
 | [], _ => Nat.le_refl _
 | y :: p, x => by
  have := zl1 p x
  simp only [zct, List.length_cons]
  split <;> omega
theorem zpz : ∀ (p : List Tm) (x : Tm) (i : Nat) (h : i < p.length), i < zct p x → p[i].e.key < x.e.key
 | y :: p, x, i, h, hi => by
  simp only [zct] at hi
  split at hi
  ·rename_i hy
   cases i with
   | zero => exact hy
   | succ i => exact zpz p x i (by simpa using h) (by omega)
  ·omega
theorem zl2 : ∀ (p : List Tm) (x : Tm) (h : zct p x < p.length), ¬ p[zct p x].e.key < x.e.key
 | y :: p, x, h => by
  by_cases hy : y.e.key < x.e.key
  ·have e : zct (y :: p) x = zct p x + 1 := by simp only [zct, hy, if_true]
   have := zl2 p x (by rw [e] at h; simpa using h)
   simpa [e] using this
  ·have e : zct (y :: p) x = 0 := by simp only [zct, hy, if_false]
   simpa [e] using hy
theorem zr0 : ∀ (p : List Tm) (x : Tm), ins p x = p.take (zct p x) ++ (match p.drop (zct p x) with
  | [] => [x]
  | y :: q => if y.e.key = x.e.key then ⟨x.c + y.c, x.e⟩ :: q else x :: y :: q)
 | [], x => rfl
 | y :: p, x => by
  by_cases hy : y.e.key < x.e.key
  ·have e : zct (y :: p) x = zct p x + 1 := by simp only [zct, hy, if_true]
   rw [e]
   simp only [ins, hy, if_true, List.take_succ_cons, List.drop_succ_cons, List.cons_append]
   rw [zr0 p x]
  ·have e : zct (y :: p) x = 0 := by simp only [zct, hy, if_false]
   rw [e]
   simp only [ins, hy, if_false, List.take_zero, List.drop_zero, List.nil_append]
theorem zhs : ∀ (p : List Tm) (x : Tm), (ins p x).length ≤ p.length + 1
 | [], _ => by simp [ins]
 | y :: p, x => by
  have := zhs p x
  simp only [ins]
  split
  ·simp only [List.length_cons]; omega
  ·split <;> simp only [List.length_cons] <;> omega
theorem zfn : ∀ (p : List Tm) (x : Tm), oks p → x.e.ok → oks (ins p x)
 | [], x, _, hx => fun t ht => by simp only [ins, List.mem_singleton] at ht; rw [ht]; exact hx
 | y :: p, x, hp, hx => by
  have hp' : oks p := fun t ht => hp t (by simp [ht])
  intro t ht
  simp only [ins] at ht
  split at ht
  ·rcases List.mem_cons.1 ht with rfl | ht
   ·exact hp _ (by simp)
   ·exact zfn p x hp' hx t ht
  ·split at ht
   ·rcases List.mem_cons.1 ht with rfl | ht
    ·exact hx
    ·exact hp' t ht
   ·rcases List.mem_cons.1 ht with rfl | ht
    ·exact hx
    ·exact hp t ht
def zdo (p : List Tm) (b : Int) : Prop := ∀ t ∈ p, -b ≤ t.c ∧ t.c ≤ b
theorem zpA : ∀ (p : List Tm) (x : Tm) {b d : Int}, zdo p b → -d ≤ x.c → x.c ≤ d → 0 ≤ d → zdo (ins p x) (b + d) ∨ (p = [] ∧ zdo (ins p x) d)
 | [], x, b, d, _, h1, h2, _ => .inr ⟨rfl, fun t ht => by simp only [ins, List.mem_singleton] at ht; rw [ht]; exact ⟨h1, h2⟩⟩
 | y :: p, x, b, d, hp, h1, h2, hd => by
  refine .inl ?_
  have hp' : zdo p b := fun t ht => hp t (by simp [ht])
  have hy := hp y (by simp)
  intro t ht
  simp only [ins] at ht
  split at ht
  ·rcases List.mem_cons.1 ht with rfl | ht
   ·omega
   ·rcases zpA p x hp' h1 h2 hd with h | ⟨_, h⟩
    ·exact h t ht
    ·have := h t ht; omega
  ·split at ht
   ·rcases List.mem_cons.1 ht with rfl | ht
    ·simp only; omega
    ·have := hp' t ht; omega
   ·rcases List.mem_cons.1 ht with rfl | ht
    ·omega
    ·have := hp t ht; omega
theorem zul (x y : E6) : decide (x.ord y < 0) = decide (x.key < y.key) := by
 unfold E6.ord
 by_cases h1 : x.key < y.key
 ·simp [h1]
 ·by_cases h2 : y.key < x.key <;> simp [h1, h2]
theorem zpB (x y : E6) : (x.ord y == 0) = decide (x.key = y.key) := by
 unfold E6.ord
 by_cases h1 : x.key < y.key
 ·have : ¬ x.key = y.key := by omega
  simp [h1, this]
 ·by_cases h2 : y.key < x.key
  ·have : ¬ x.key = y.key := by omega
   simp [h1, h2, this]
  ·have : x.key = y.key := by omega
   simp [h1, h2, this]
def zfU (p : List Tm) (x : Tm) (i : Nat) : St := zju (p.map Tm.cs) x.c ((x.e.a : Nat) : Int) ((x.e.b : Nat) : Int) ((x.e.c : Nat) : Int) ((x.e.d : Nat) : Int) ((x.e.e : Nat) : Int) ((x.e.f : Nat) : Int) ((i : Nat) : Int) []
theorem zoe (p : List Tm) (x : Tm) (hk : oks p) (hx : x.e.ok) (i : Nat) (hi : i < p.length) (hf : few p) : zp GZ LZ (CW GZ LZ) 95 none 2 (zfU p x i) =
  if p[i].e.key < x.e.key then some (.normal, zfU p x (i + 1)) else some (.exit 0, zfU p x i) := by
 have hfl : p.length ≤ 100000 := hf
 have hy : p[i].e.ok := hk _ (List.getElem_mem hi)
 unfold zfU
 rw [e95_2, List.length_map, zba hi, zbe p i hi]
 simp only [zam, zan, zr, zs, zG, zt, Option.bind_some, cond_true]
 rw [p93 _ _ hy hx]
 simp only [zs, Option.bind_some, zaV i (by omega)]
 rw [zul]
 by_cases h : p[i].e.key < x.e.key
 ·simp only [h, decide_true, cond_true, if_true]
 ·simp only [h, decide_false, cond_false, if_false]
theorem ztv (p : List Tm) (x : Tm) (hk : oks p) (hx : x.e.ok) (hf : few p) : zal (zp GZ LZ (CW GZ LZ) 95 none 2) (zfU p x 0) = some (.exit 0, zfU p x (zct p x)) := by
 have hle := zl1 p x
 refine zch (fun i => zfU p x i) (zct p x) (fun i hi => ?_) ?_
 ·rw [zoe p x hk hx i (by omega) hf, if_pos (zpz p x i (by omega) hi)]
 ·by_cases h : zct p x < p.length
  ·rw [zoe p x hk hx _ h hf, if_neg (zl2 p x h)]
  ·have : zct p x = p.length := by omega
   rw [this]
   unfold zfU
   rw [e95_2, List.length_map, za7]
   rfl
theorem ztw (o : Ob) (w : Bool) (r : List (List V)) (n : Nat) (h : n = r.length) : zak [o, .arr w 7 r] 1 n = some r := by subst h; simp [zak, zav]
theorem p95 (p : List Tm) (x : Tm) (hk : oks p) (hx : x.e.ok) (hf : few p) (hm : zdo p 2305843009213693952) (h1 : -2305843009213693952 ≤ x.c) (h2 : x.c ≤ 2305843009213693952) :
  (CW GZ LZ).p (.func 95) [.slice .any (p.map Tm.cs), .agg [.int .i64 x.c, .int .u8 ((x.e.a : Nat) : Int), .int .u8 ((x.e.b : Nat) : Int), .int .u8 ((x.e.c : Nat) : Int), .int .u8 ((x.e.d : Nat) : Int), .int .u8 ((x.e.e : Nat) : Int), .int .u8 ((x.e.f : Nat) : Int)]] = some (.slice .any ((ins p x).map Tm.cs)) := by
 have hfl : p.length ≤ 100000 := hf
 have hl := ztv p x hk hx hf
 have hle := zl1 p x
 have hins := zr0 p x
 have hat := zl2 p x
 generalize zct p x = k at *
 have g1 : nth (zfU p x k).t 0 = .slice .any (p.map Tm.cs) := rfl
 have g2 : nth (zfU p x k).t 3 = .box [.int .i64 x.c, .int .u8 ((x.e.a : Nat) : Int), .int .u8 ((x.e.b : Nat) : Int), .int .u8 ((x.e.c : Nat) : Int), .int .u8 ((x.e.d : Nat) : Int), .int .u8 ((x.e.e : Nat) : Int), .int .u8 ((x.e.f : Nat) : Int)] := rfl
 have g3 : nth (zfU p x k).t 5 = .int .i64 ((k : Nat) : Int) := rfl
 have g4 : (zfU p x k).h = [.arr true 7 []] := rfl
 have c1 : decide ((0 : Int) ≤ ((k : Nat) : Int)) = true := by simp
 have c2 : decide (k ≤ (p.map Tm.cs).length) = true := by simpa using hle
 have tk : ((p.map Tm.cs).take k).drop 0 = (p.take k).map Tm.cs := by rw [List.drop_zero, List.map_take]
 have ta : (p.map Tm.cs).take (p.map Tm.cs).length = p.map Tm.cs := List.take_length
 have c3 : decide (((p.take k).map Tm.cs).length * 16 ≤ zag) = true := by
  simp only [List.length_map, List.length_take, decide_eq_true_eq]; unfold zag; omega
 have c4 : decide ((((p.take k).map Tm.cs).length + 1) * 16 ≤ zag) = true := by
  simp only [List.length_map, List.length_take, decide_eq_true_eq]; unfold zag; omega
 have dr : ∀ j, (p.map Tm.cs).drop j = (p.drop j).map Tm.cs := fun j => by rw [List.map_drop]
 have ap : ∀ z : Tm, List.append ((p.take k).map Tm.cs) [z.cs] = (p.take k ++ [z]).map Tm.cs := fun z => by simp
 have aq : ∀ (z : Tm) (j : Nat), List.append ((p.take k ++ [z]).map Tm.cs) ((p.drop j).map Tm.cs) = (p.take k ++ z :: p.drop j).map Tm.cs := fun z j => by simp
 have c5 : ∀ z : Tm, decide (((p.take k).map Tm.cs).length + 1 = ((p.take k ++ [z]).map Tm.cs).length) = true := fun z => by simp
 have c6 : ∀ (z : Tm) (j : Nat), decide ((((p.take k ++ [z]).map Tm.cs).length + ((p.drop j).map Tm.cs).length) * 16 ≤ zag) = true := fun z j => by
  simp only [List.length_map, List.length_append, List.length_take, List.length_drop, List.length_cons, List.length_nil, decide_eq_true_eq]; unfold zag; omega
 have ar : ∀ (o : Ob) (z : Tm) (j : Nat), zak [o, .arr true 7 ((p.take k ++ z :: p.drop j).map Tm.cs)] 1 (((p.take k).map Tm.cs).length + 1 + ((p.drop j).map Tm.cs).length) = some ((p.take k ++ z :: p.drop j).map Tm.cs) := fun o z j => ztw _ _ _ _ (by simp; omega)
 have zc : ∀ c : Int, [V.int .i64 c, .int .u8 ((x.e.a : Nat) : Int), .int .u8 ((x.e.b : Nat) : Int), .int .u8 ((x.e.c : Nat) : Int), .int .u8 ((x.e.d : Nat) : Int), .int .u8 ((x.e.e : Nat) : Int), .int .u8 ((x.e.f : Nat) : Int)] = Tm.cs ⟨c, x.e⟩ := fun _ => rfl
 have hd : decide (((k : Nat) : Int) < (((p.map Tm.cs).length : Nat) : Int)) = decide (k < p.length) := by
  rw [decide_eq_decide, List.length_map]; omega
 by_cases hkl : k < p.length
 ·have hy : p[k].e.ok := hk _ (List.getElem_mem hkl)
  have hb := hm p[k] (List.getElem_mem hkl)
  have hdrop : p.drop k = p[k] :: p.drop (k + 1) := List.drop_eq_getElem_cons hkl
  rw [hdrop] at hins
  simp only at hins
  have d1 : decide (k < p.length) = true := by simpa using hkl
  by_cases he : p[k].e.key = x.e.key
  ·rw [if_pos he] at hins
   have w1 : IntKind.wrap .i64 (x.c + p[k].c) = x.c + p[k].c := w64 (by omega) (by omega)
   have w2 : IntKind.wrap .i64 (((k : Nat) : Int) + 1) = ((k + 1 : Nat) : Int) := zaV k (by omega)
   have c7 : decide ((0 : Int) ≤ ((k + 1 : Nat) : Int)) = true := by simp; omega
   have c8 : decide (k + 1 ≤ (p.map Tm.cs).length) = true := by simp; omega
   have eo : (p[k].e.ord x.e == 0) = true := by rw [zpB]; simpa using he
   rw [hins]
   refine zE (h := [.arr true 7 [], .arr false 7 ((p.take k ++ ⟨x.c + p[k].c, x.e⟩ :: p.drop (k + 1)).map Tm.cs)]) ?_ rfl
   rw [e95, zaz]
   refine (zZ hl _).trans ?_
   simp only [g1, g2, g3, g4, Nat.beq_refl, zD, zP, zr, zC, zs, zG, zt, zH, Option.bind_some, cond_true, c1, Int.toNat_natCast, c2, tk, zdn, c3, hd, d1, zbe p k hkl, zam, zan]
   rw [p93 _ _ hy hx]
   simp only [zs, Option.bind_some, eo, cond_true, decide_true, c4, w1, w2, c7, Int.toNat_natCast, c8, zdn, ta, dr, zc, ap, c5, c6, aq, ar]
  ·rw [if_neg he] at hins
   have eo : (p[k].e.ord x.e == 0) = false := by rw [zpB]; simpa using he
   rw [← hdrop] at hins
   rw [hins]
   refine zE (h := [.arr true 7 [], .arr false 7 ((p.take k ++ x :: p.drop k).map Tm.cs)]) ?_ rfl
   rw [e95, zaz]
   refine (zZ hl _).trans ?_
   simp only [g1, g2, g3, g4, Nat.beq_refl, zD, zP, zr, zC, zs, zG, zt, zH, Option.bind_some, cond_true, c1, Int.toNat_natCast, c2, tk, zdn, c3, hd, d1, zbe p k hkl, zam, zan]
   rw [p93 _ _ hy hx]
   simp only [zs, Option.bind_some, eo, cond_true, cond_false, decide_true, c4, zdn, ta, dr, zc, ap, c5, c6, aq, ar, c1, c2, Int.toNat_natCast]
 ·have hdrop : p.drop k = [] := List.drop_eq_nil_iff.2 (by omega)
  have d1 : decide (k < p.length) = false := by simpa using hkl
  rw [hdrop] at hins
  simp only at hins
  have hins' : ins p x = p.take k ++ x :: p.drop k := by rw [hdrop]; exact hins
  rw [hins']
  refine zE (h := [.arr true 7 [], .arr false 7 ((p.take k ++ x :: p.drop k).map Tm.cs)]) ?_ rfl
  rw [e95, zaz]
  refine (zZ hl _).trans ?_
  simp only [g1, g2, g3, g4, Nat.beq_refl, zD, zP, zr, zC, zs, zG, zt, zH, Option.bind_some, cond_true, cond_false, c1, Int.toNat_natCast, c2, tk, zdn, c3, hd, d1, decide_true]
  simp only [cond_true, c4, c1, c2, Int.toNat_natCast, zdn, ta, dr, zc, ap, c5, c6, aq, ar, Option.bind_some]
end Go.Ab
namespace Go.Ab
theorem zmA : ∀ (a : List Tm) (y : Tm) (b : List Tm), oks a → y.e.ok → (∀ z ∈ b, y.e.key < z.e.key) → za4 (ins a y) b = za4 a (y :: b)
 | [], y, b, _, _, hb => by
  rw [zaB]
  cases b with
  | nil => rw [zbF]; rfl
  | cons z b =>
   have := hb z (by simp)
   simp only [ins]
   rw [zaJ, if_pos this, zaB]
 | x :: a, y, b, ha, hy, hb => by
  have ha' : oks a := fun t ht => ha t (by simp [ht])
  have hx := ha x (by simp)
  have top : ∀ (w : Tm) (l : List Tm), w.e.key ≤ y.e.key → za4 (w :: l) b = w :: za4 l b := by
   intro w l hw
   cases b with
   | nil => rw [zbF, zbF]
   | cons z b =>
    have := hb z (by simp)
    rw [zaJ, if_pos (by omega)]
  rw [zaJ]
  simp only [ins]
  by_cases h1 : x.e.key < y.e.key
  ·rw [if_pos h1, if_pos h1, top x _ (by omega), zmA a y b ha' hy hb]
  ·rw [if_neg h1, if_neg h1]
   by_cases h2 : x.e.key = y.e.key
   ·have he : x.e = y.e := E6.key_inj hx hy h2
    rw [if_pos h2, if_neg (by omega), top ⟨y.c + x.c, y.e⟩ _ (Nat.le_refl _), Int.add_comm y.c x.c, he]
   ·rw [if_neg h2, if_pos (by omega), top y _ (Nat.le_refl _)]
theorem zmB : ∀ (b a : List Tm), oks a → oks b → zas b → b.foldl ins a = za4 a b
 | [], a, _, _, _ => by rw [zbF]; rfl
 | y :: b, a, ha, hb, hs => by
  have hy := hb y (by simp)
  have hb' : oks b := fun t ht => hb t (by simp [ht])
  unfold zas at hs
  rw [List.pairwise_cons] at hs
  rw [List.foldl_cons, zmB b (ins a y) (zfn a y ha hy) hb' hs.2, zmA a y b ha hy fun z hz => hs.1 z hz]
theorem zmC : ∀ (b a : List Tm), oks a → oks b → oks (b.foldl ins a)
 | [], a, ha, _ => ha
 | y :: b, a, ha, hb => zmC b (ins a y) (zfn a y ha (hb y (by simp))) fun t ht => hb t (by simp [ht])
theorem zmD : ∀ (b a : List Tm), (b.foldl ins a).length ≤ a.length + b.length
 | [], a => by simp
 | y :: b, a => by
  have h1 := zmD b (ins a y)
  have h2 := zhs a y
  simp only [List.foldl_cons, List.length_cons]
  omega
theorem zof {p : List Tm} {x : Tm} {b d : Int} (hp : zdo p b) (hb : 0 ≤ b) (h1 : -d ≤ x.c) (h2 : x.c ≤ d) (hd : 0 ≤ d) : zdo (ins p x) (b + d) := by
 rcases zpA p x hp h1 h2 hd with h | ⟨_, h⟩
 ·exact h
 ·intro t ht
  have := h t ht
  omega
theorem zmE {d : Int} (hd : 0 ≤ d) : ∀ (q a : List Tm) (b : Int), zdo a b → 0 ≤ b → zdo q d → zdo (q.foldl ins a) (b + d * q.length)
 | [], a, b, ha, _, _ => by simpa using ha
 | y :: q, a, b, ha, hb, hq => by
  have h1 := zof ha hb (hq y (by simp)).1 (hq y (by simp)).2 hd
  have := zmE hd q (ins a y) (b + d) h1 (by omega) (fun t ht => hq t (by simp [ht]))
  simp only [List.foldl_cons, List.length_cons, Int.natCast_add, Int.natCast_one, Int.mul_add, Int.mul_one]
  rwa [show b + (d * (q.length : Int) + d) = b + d + d * (q.length : Int) by omega]
theorem zog {p : List Tm} (h : zbf p) : zdo p 2147483648 := fun t ht => by have := h t ht; simp only [zz] at this; omega
def zh4 (a b : List Tm) : List Tm × Iv := zar (b.foldl ins a) 6 0 0
theorem zum {a b : List Tm} (ha : oks a) (hb : oks b) (hs : zas b) : zh4 a b = zaQ a b := by
 unfold zh4 zaQ
 rw [zmB b a ha hb hs]
theorem p56 (a b : List Tm) (ha : oks a) (hb : oks b) (na : zbf a) (nb : zbf b) (fa : a.length ≤ 10000) (fb : b.length ≤ 10000) :
  (CW GZ LZ).p (.func 56) [.slice .any (a.map Tm.cs), .slice .any (b.map Tm.cs)] = some (.tuple [.slice .any ((zh4 a b).1.map Tm.cs), .agg (zh4 a b).2.c]) := by
 have hm := fun i => zmE (d := 2147483648) (by decide) (b.take i) a 2147483648 (zog na) (by decide) (zog fun t ht => nb t (List.mem_of_mem_take ht))
 have hk := fun i => zmC (b.take i) a ha fun t ht => hb t (List.mem_of_mem_take ht)
 have hl := fun i => zmD (b.take i) a
 have hloop := zch (round := zp GZ LZ (CW GZ LZ) 56 none 3) (fun i => zf4 (b.map Tm.cs) 0 0 (((b.take i).foldl ins a).map Tm.cs) ((i : Nat) : Int)) b.length (id := 0)
  (fun i hi => by
   have hli := hl i
   have hmi := hm i
   simp only [List.length_take] at hli hmi
   have nc := nb _ (List.getElem_mem hi)
   simp only [zz] at nc
   have hmi' : zdo ((b.take i).foldl ins a) 2305843009213693952 := fun t ht => by
    have := hmi t ht
    omega
   simp only [e56_3, List.length_map, zba hi, zbe b i hi, zb6 hi, zam, zan, zr, zs, zG, zt, Option.bind_some, cond_true, List.foldl_append, List.foldl_cons, List.foldl_nil]
   rw [p95 _ b[i] (hk i) (hb _ (List.getElem_mem hi)) (by unfold few; omega) hmi' (by omega) (by omega)]
   simp only [zD, Option.bind_some, zaV i (by omega)])
  (by simp only [e56_3, List.length_map, za7, cond_false])
 simp only [List.take_length, List.take_zero, List.foldl_nil] at hloop
 have hli := hl b.length
 have hki := hk b.length
 rw [List.take_length] at hli hki
 refine zaA (u := .tuple [.slice .any ((zh4 a b).1.map Tm.cs), .agg (zh4 a b).2.c]) (h := []) ?_ rfl
 rw [e56, zaz]
 refine (zZ hloop _).trans ?_
 unfold zh4
 have hfin := p96 (b.foldl ins a) 6 0 0 hki (by unfold few; omega) (by decide) (by decide) (by decide) (by decide)
 generalize b.foldl ins a = m at *
 have g1 : ∀ x, nth (zf4 (b.map Tm.cs) 0 0 (m.map Tm.cs) x).t 1 = .slice .any (b.map Tm.cs) := fun _ => rfl
 have g2 : ∀ x, nth (zf4 (b.map Tm.cs) 0 0 (m.map Tm.cs) x).t 5 = .box [.int .i64 0, .int .i64 0] := fun _ => rfl
 have g3 : ∀ x, nth (zf4 (b.map Tm.cs) 0 0 (m.map Tm.cs) x).t 6 = .slice .any (m.map Tm.cs) := fun _ => rfl
 have g4 : ∀ x, nth (zf4 (b.map Tm.cs) 0 0 (m.map Tm.cs) x).t 7 = .int .i64 x := fun _ => rfl
 simp only [g1, g2, g3, g4, Nat.beq_refl, zs, zQ, zD, zw, zI, zP, zu, zV, zr, zC, zt, zR, z6, zaa, zY, zH, zM, zN, zW, zB, zG, zK, zL, Option.bind_some, Option.bind_none, cond_true, cond_false, zT, zU, hfin]
 rfl
end Go.Ab
namespace Go.Ab
def zh5 (n : Int) : Bool := fl n != ce n
def rlo (n : Int) (x : E6) : Int := if zh5 n = true ∧ x.odd = true then -1 else 0
def rhi (n : Int) : Int := if zh5 n = true then 1 else 0
def scT (c : Int) (t : Tm) : Tm := ⟨fl (t.c * c), t.e⟩
def zcu (c : Int) (p : List Tm) : Int := za0 (p.map fun t => rlo (t.c * c) t.e)
def zc1 (c : Int) (p : List Tm) : Int := za0 (p.map fun t => rhi (t.c * c))
def zaR (p : List Tm) (c : Int) : List Tm × Iv := zar (p.map (scT c)) 6 (zcu c p) (zc1 c p)
theorem zlq (n : Int) (x : E6) : -1 ≤ rlo n x ∧ rlo n x ≤ 0 := by unfold rlo; split <;> omega
theorem zlr (n : Int) : 0 ≤ rhi n ∧ rhi n ≤ 1 := by unfold rhi; split <;> omega
theorem zoh : ∀ (l : List Int), (∀ x ∈ l, -1 ≤ x ∧ x ≤ 1) → -(l.length : Int) ≤ za0 l ∧ za0 l ≤ l.length
 | [], _ => by simp [za0]
 | x :: l, h => by
  have h1 := h x (by simp)
  have h2 := zoh l fun y hy => h y (by simp [hy])
  simp only [za0, List.length_cons, Int.natCast_add, Int.natCast_one]
  omega
theorem zr1 (c : Int) (p : List Tm) : -(p.length : Int) ≤ zcu c p ∧ zcu c p ≤ p.length := by
 have := zoh (p.map fun t => rlo (t.c * c) t.e) (fun x hx => by
  obtain ⟨t, _, rfl⟩ := List.mem_map.1 hx
  have := zlq (t.c * c) t.e; omega)
 simpa [zcu] using this
theorem zr2 (c : Int) (p : List Tm) : -(p.length : Int) ≤ zc1 c p ∧ zc1 c p ≤ p.length := by
 have := zoh (p.map fun t => rhi (t.c * c)) (fun x hx => by
  obtain ⟨t, _, rfl⟩ := List.mem_map.1 hx
  have := zlr (t.c * c); omega)
 simpa [zc1] using this
theorem zr3 (c : Int) (p : List Tm) (t : Tm) : zcu c (p ++ [t]) = zcu c p + rlo (t.c * c) t.e := by simp [zcu, zc0, za0]
theorem zr4 (c : Int) (p : List Tm) (t : Tm) : zc1 c (p ++ [t]) = zc1 c p + rhi (t.c * c) := by simp [zc1, zc0, za0]
theorem ztx {lo hi : Int} (x : E6) (r : List (List V)) (h1 : -1000000000 ≤ lo) (h2 : lo ≤ 1000000000) (h3 : -1000000000 ≤ hi) (h4 : hi ≤ 1000000000) :
  (CW GZ LZ).s (.func 98) [.ptr 1 0, .agg [.int .u8 ((x.a : Nat) : Int), .int .u8 ((x.b : Nat) : Int), .int .u8 ((x.c : Nat) : Int), .int .u8 ((x.d : Nat) : Int), .int .u8 ((x.e : Nat) : Int), .int .u8 ((x.f : Nat) : Int)]] [.arr true 7 r, .cells [.int .i64 lo, .int .i64 hi]] = some (.tuple [], [.arr true 7 r, .cells [.int .i64 (if x.odd = true then lo - 1 else lo), .int .i64 (hi + 1)]]) := by
 refine zed ?_
 rw [ztk]
 rw [p111 x, w64 (x := lo - 1) (by omega) (by omega), w64 (x := hi + 1) (by omega) (by omega)]
 simp only [zQ, Option.bind_some]
 cases x.odd <;> rfl
def scS (c : Int) (p : List Tm) (i : Nat) : St := zc3 c 0 0 ((((p.take i).map (scT c)).map Tm.cs).length) (p.map Tm.cs) ((p.length : Nat) : Int) ((i : Nat) : Int) (((p.take i).map (scT c)).map Tm.cs) (zcu c (p.take i)) (zc1 c (p.take i))
theorem zun (c : Int) (p : List Tm) (i : Nat) (hi : i < p.length) (hf : p.length ≤ 10000) (hc : zz c) (hn : zz p[i].c) : zp GZ LZ (CW GZ LZ) 79 none 4 (scS c p i) = some (.normal, scS c p (i + 1)) := by
 have hr : ((((p.take i).map (scT c)).map Tm.cs).length + 1) * 16 ≤ zag := by simp only [List.length_map, List.length_take]; unfold zag; omega
 have b1 := zr1 c (p.take i)
 have b2 := zr2 c (p.take i)
 have bl : (p.take i).length ≤ 10000 := by simp only [List.length_take]; omega
 have ap : List.append (((p.take i).map (scT c)).map Tm.cs) [Tm.cs ⟨fl (p[i].c * c), p[i].e⟩] = ((p.take i ++ [p[i]]).map (scT c)).map Tm.cs := by rw [List.map_append, List.map_append]; rfl
 have aq : (((p.take i).map (scT c)).map Tm.cs).length + 1 = (((p.take i ++ [p[i]]).map (scT c)).map Tm.cs).length := by rw [List.map_append, List.map_append, List.length_append]; rfl
 have hr' : decide (((((p.take i ++ [p[i]]).map (scT c)).map Tm.cs).length) * 16 ≤ zag) = true := by rw [← aq]; exact decide_eq_true hr
 have zc : ∀ z : Int, [V.int .i64 z, .int .u8 ((p[i].e.a : Nat) : Int), .int .u8 ((p[i].e.b : Nat) : Int), .int .u8 ((p[i].e.c : Nat) : Int), .int .u8 ((p[i].e.d : Nat) : Int), .int .u8 ((p[i].e.e : Nat) : Int), .int .u8 ((p[i].e.f : Nat) : Int)] = Tm.cs ⟨z, p[i].e⟩ := fun _ => rfl
 have hm := p97 p[i].c c (zb7 hn hc)
 unfold scS
 rw [e79_4, zba hi, zbe p i hi, zb6 hi, zr3, zr4]
 simp only [zam, zan, zr, zs, zG, zt, Option.bind_some, cond_true, hm, zI, zaV i (by omega)]
 cases hx : zh5 (p[i].c * c)
 ·have hx' : (fl (p[i].c * c) != ce (p[i].c * c)) = false := hx
  have e1 : rlo (p[i].c * c) p[i].e = 0 := by simp [rlo, hx]
  have e2 : rhi (p[i].c * c) = 0 := by simp [rhi, hx]
  simp only [hx', cond_false, cond_true, decide_true, hr', e1, e2, Int.add_zero, zc, ap, aq]
 ·have hx' : (fl (p[i].c * c) != ce (p[i].c * c)) = true := hx
  have e1 : zcu c (p.take i) + rlo (p[i].c * c) p[i].e = if p[i].e.odd = true then zcu c (p.take i) - 1 else zcu c (p.take i) := by
   simp only [rlo, hx, true_and]; split <;> omega
  have e2 : rhi (p[i].c * c) = 1 := by simp [rhi, hx]
  rw [e1, e2]
  simp only [hx', cond_true]
  rw [ztx p[i].e _ (by omega) (by omega) (by omega) (by omega)]
  simp only [zI, zt, zC, zH, zu, zr, zs, Option.bind_some, decide_true, cond_true, hr', zc, ap, aq]
theorem p79 (p : List Tm) (c : Int) (hk : oks p) (hn : zbf p) (hf : p.length ≤ 10000) (hc : zz c) :
  (CW GZ LZ).p (.func 79) [.slice .any (p.map Tm.cs), .int .i64 c] = some (.tuple [.slice .any ((zaR p c).1.map Tm.cs), .agg (zaR p c).2.c]) := by
 have hloop := zch (round := zp GZ LZ (CW GZ LZ) 79 none 4) (scS c p) p.length (id := 0) (fun i hi => zun c p i hi hf hc (hn _ (List.getElem_mem hi))) (by unfold scS; rw [e79_4, za7]; rfl)
 have hstart : scS c p 0 = zc3 c 0 0 0 (p.map Tm.cs) (((p.map Tm.cs).length : Nat) : Int) 0 [] 0 0 := by simp [scS, zcu, zc1, za0]
 rw [hstart] at hloop
 have b1 := zr1 c p
 have b2 := zr2 c p
 have hfin := p94 (p.map (scT c)) 6 (zcu c p) (zc1 c p) (fun t ht => by
  obtain ⟨u, hu, rfl⟩ := List.mem_map.1 ht
  exact hk u hu) (by unfold few; rw [List.length_map]; omega) (by omega) (by omega) (by omega) (by omega)
 have hend : scS c p p.length = zc3 c 0 0 (((p.map (scT c)).map Tm.cs).length) (p.map Tm.cs) ((p.length : Nat) : Int) ((p.length : Nat) : Int) ((p.map (scT c)).map Tm.cs) (zcu c p) (zc1 c p) := by simp only [scS, List.take_length]
 rw [hend] at hloop
 refine zaA (u := .tuple [.slice .any ((zaR p c).1.map Tm.cs), .agg (zaR p c).2.c]) (h := [.arr false 7 ((p.map (scT c)).map Tm.cs), .cells [.int .i64 (zcu c p), .int .i64 (zc1 c p)]]) ?_ rfl
 rw [e79, zaz]
 refine (zZ hloop _).trans ?_
 unfold zaR
 generalize p.map (scT c) = m at *
 generalize zcu c p = l1 at *
 generalize zc1 c p = h1 at *
 have g1 : ∀ x y, nth (zc3 c 0 0 (m.map Tm.cs).length (p.map Tm.cs) x y (m.map Tm.cs) l1 h1).t 1 = .int .i64 c := fun _ _ => rfl
 have g2 : ∀ x y, nth (zc3 c 0 0 (m.map Tm.cs).length (p.map Tm.cs) x y (m.map Tm.cs) l1 h1).t 5 = .box [.int .i64 0, .int .i64 0] := fun _ _ => rfl
 have g3 : ∀ x y, nth (zc3 c 0 0 (m.map Tm.cs).length (p.map Tm.cs) x y (m.map Tm.cs) l1 h1).t 6 = .arr 0 (m.map Tm.cs).length 7 := fun _ _ => rfl
 have g4 : ∀ x y, nth (zc3 c 0 0 (m.map Tm.cs).length (p.map Tm.cs) x y (m.map Tm.cs) l1 h1).t 7 = .ptr 1 0 := fun _ _ => rfl
 have g5 : ∀ x y, nth (zc3 c 0 0 (m.map Tm.cs).length (p.map Tm.cs) x y (m.map Tm.cs) l1 h1).t 12 = .slice .any (p.map Tm.cs) := fun _ _ => rfl
 have g6 : ∀ x y, nth (zc3 c 0 0 (m.map Tm.cs).length (p.map Tm.cs) x y (m.map Tm.cs) l1 h1).t 13 = .int .i64 x := fun _ _ => rfl
 have g7 : ∀ x y, nth (zc3 c 0 0 (m.map Tm.cs).length (p.map Tm.cs) x y (m.map Tm.cs) l1 h1).t 14 = .int .i64 y := fun _ _ => rfl
 have g8 : ∀ x y, (zc3 c 0 0 (m.map Tm.cs).length (p.map Tm.cs) x y (m.map Tm.cs) l1 h1).h = [.arr true 7 (m.map Tm.cs), .cells [.int .i64 l1, .int .i64 h1]] := fun _ _ => rfl
 simp only [g1, g2, g3, g4, g5, g6, g7, g8, Nat.beq_refl, zs, zQ, zD, zw, zI, zP, zu, zV, zr, zC, zt, zR, z6, zaa, zY, zH, zM, zN, zW, zB, zG, zK, zL, Option.bind_some, Option.bind_none, cond_true, cond_false, zT, zU, hfin]
 rfl
end Go.Ab
namespace Go.Ab
structure Pt where
 a : Int
 b : Int
 c : Int
 d : Int
 e : Int
 f : Int
def Pt.ok (z : Pt) : Prop := (-2 ≤ z.a ∧ z.a ≤ 2) ∧ (-2 ≤ z.b ∧ z.b ≤ 2) ∧ (-2 ≤ z.c ∧ z.c ≤ 2) ∧ (-2 ≤ z.d ∧ z.d ≤ 2) ∧ (-2 ≤ z.e ∧ z.e ≤ 2) ∧ (-2 ≤ z.f ∧ z.f ≤ 2)
def inB (b x : Int) : Prop := -b ≤ x ∧ x ≤ b
def znh (t : Tm) (z : Pt) : Int := t.c * z.a ^ t.e.a * z.b ^ t.e.b * z.c ^ t.e.c * z.d ^ t.e.d * z.e ^ t.e.e * z.f ^ t.e.f
def valT (z : Pt) (t : Tm) : Int := znh t z * 2 ^ (12 - t.e.deg)
def zl3 (p : List Tm) (z : Pt) : Int := za0 (p.map (valT z))
end Go.Ab
namespace Go.Ab
def deg6 (p : List Tm) : Prop := ∀ t ∈ p, t.e.deg ≤ 6
end Go.Ab
namespace Go.Ab
end Go.Ab
namespace Go.Ab
theorem w8 {x : Int} (h1 : 0 ≤ x) (h2 : x < 256) : IntKind.wrap .u8 x = x := by
 have e : IntKind.wrap .u8 x = x % 256 := by simp [IntKind.wrap, IntKind.bits, IntKind.signed]
 rw [e]; omega
def mk1 (u l : Nat) : Nat := u % 7 % (l + 1)
theorem zdt (u l : Nat) : mk1 u l ≤ l := by have := Nat.mod_lt (u % 7) (show 0 < l + 1 by omega); unfold mk1; omega
theorem zjy (u l : Nat) (h : l ≤ 6) : Int.tmod (Int.tmod ((u : Nat) : Int) 7) (IntKind.wrap .u8 (IntKind.wrap .i64 (((l : Nat) : Int) + 1))) = ((mk1 u l : Nat) : Int) := by
 rw [w64 (by omega) (by omega), w8 (by omega) (by omega), Int.tmod_eq_emod_of_nonneg (a := ((u : Nat) : Int)) (by omega), Int.tmod_eq_emod_of_nonneg (by omega)]
 unfold mk1
 rw [Int.natCast_emod, Int.natCast_emod]
 simp
theorem mk0 (l : Nat) (h : l ≤ 6) : (IntKind.wrap .u8 (IntKind.wrap .i64 (((l : Nat) : Int) + 1)) == 0) = false := by
 rw [w64 (by omega) (by omega), w8 (by omega) (by omega)]
 simp only [beq_eq_false_iff_ne, ne_eq]; omega
theorem mkw (v l : Nat) (h : l ≤ 6) (hv : v ≤ l) : IntKind.wrap .i64 (((l : Nat) : Int) - IntKind.wrap .i64 ((v : Nat) : Int)) = ((l - v : Nat) : Int) := by
 rw [w64 (x := ((v : Nat) : Int)) (by omega) (by omega), w64 (by omega) (by omega)]; omega
theorem made_0 (p : List Tm) (i : Nat) (hi : i < p.length) (most size c e0 e1 e2 e3 e4 e5 : Int) (out : List (List V)) (l : Nat) (hl : l ≤ 6) :
  zp GZ LZ (CW GZ LZ) 72 none 7 (za3 (p.map Tm.cs) most size out ((i : Nat) : Int) c e0 e1 e2 e3 e4 e5 ((l : Nat) : Int) 0) = some (.normal, za3 (p.map Tm.cs) most size out ((i : Nat) : Int) c ((mk1 p[i].e.a l : Nat) : Int) e1 e2 e3 e4 e5 ((l - mk1 p[i].e.a l : Nat) : Int) 1) := by
 rw [zhZ, zbe p i hi]
 simp only [zam, zan, zr, zs, zG, zt, Option.bind_some]
 refine Eq.trans (b := cond (IntKind.wrap .u8 (IntKind.wrap .i64 (((l : Nat) : Int) + 1)) == 0) none (some (.normal, za3 (p.map Tm.cs) most size out ((i : Nat) : Int) c (Int.tmod (Int.tmod ((p[i].e.a : Nat) : Int) 7) (IntKind.wrap .u8 (IntKind.wrap .i64 (((l : Nat) : Int) + 1)))) e1 e2 e3 e4 e5 (IntKind.wrap .i64 (((l : Nat) : Int) - IntKind.wrap .i64 (Int.tmod (Int.tmod ((p[i].e.a : Nat) : Int) 7) (IntKind.wrap .u8 (IntKind.wrap .i64 (((l : Nat) : Int) + 1)))))) 1))) (by kernel_rfl) ?_
 rw [mk0 l hl, zjy _ l hl, mkw _ l hl (zdt _ _)]
 rfl
theorem made_1 (p : List Tm) (i : Nat) (hi : i < p.length) (most size c e0 e1 e2 e3 e4 e5 : Int) (out : List (List V)) (l : Nat) (hl : l ≤ 6) :
  zp GZ LZ (CW GZ LZ) 72 none 7 (za3 (p.map Tm.cs) most size out ((i : Nat) : Int) c e0 e1 e2 e3 e4 e5 ((l : Nat) : Int) 1) = some (.normal, za3 (p.map Tm.cs) most size out ((i : Nat) : Int) c e0 ((mk1 p[i].e.b l : Nat) : Int) e2 e3 e4 e5 ((l - mk1 p[i].e.b l : Nat) : Int) 2) := by
 rw [zhZ, zbe p i hi]
 simp only [zam, zan, zr, zs, zG, zt, Option.bind_some]
 refine Eq.trans (b := cond (IntKind.wrap .u8 (IntKind.wrap .i64 (((l : Nat) : Int) + 1)) == 0) none (some (.normal, za3 (p.map Tm.cs) most size out ((i : Nat) : Int) c e0 (Int.tmod (Int.tmod ((p[i].e.b : Nat) : Int) 7) (IntKind.wrap .u8 (IntKind.wrap .i64 (((l : Nat) : Int) + 1)))) e2 e3 e4 e5 (IntKind.wrap .i64 (((l : Nat) : Int) - IntKind.wrap .i64 (Int.tmod (Int.tmod ((p[i].e.b : Nat) : Int) 7) (IntKind.wrap .u8 (IntKind.wrap .i64 (((l : Nat) : Int) + 1)))))) 2))) (by kernel_rfl) ?_
 rw [mk0 l hl, zjy _ l hl, mkw _ l hl (zdt _ _)]
 rfl
theorem made_2 (p : List Tm) (i : Nat) (hi : i < p.length) (most size c e0 e1 e2 e3 e4 e5 : Int) (out : List (List V)) (l : Nat) (hl : l ≤ 6) :
  zp GZ LZ (CW GZ LZ) 72 none 7 (za3 (p.map Tm.cs) most size out ((i : Nat) : Int) c e0 e1 e2 e3 e4 e5 ((l : Nat) : Int) 2) = some (.normal, za3 (p.map Tm.cs) most size out ((i : Nat) : Int) c e0 e1 ((mk1 p[i].e.c l : Nat) : Int) e3 e4 e5 ((l - mk1 p[i].e.c l : Nat) : Int) 3) := by
 rw [zhZ, zbe p i hi]
 simp only [zam, zan, zr, zs, zG, zt, Option.bind_some]
 refine Eq.trans (b := cond (IntKind.wrap .u8 (IntKind.wrap .i64 (((l : Nat) : Int) + 1)) == 0) none (some (.normal, za3 (p.map Tm.cs) most size out ((i : Nat) : Int) c e0 e1 (Int.tmod (Int.tmod ((p[i].e.c : Nat) : Int) 7) (IntKind.wrap .u8 (IntKind.wrap .i64 (((l : Nat) : Int) + 1)))) e3 e4 e5 (IntKind.wrap .i64 (((l : Nat) : Int) - IntKind.wrap .i64 (Int.tmod (Int.tmod ((p[i].e.c : Nat) : Int) 7) (IntKind.wrap .u8 (IntKind.wrap .i64 (((l : Nat) : Int) + 1)))))) 3))) (by kernel_rfl) ?_
 rw [mk0 l hl, zjy _ l hl, mkw _ l hl (zdt _ _)]
 rfl
theorem made_3 (p : List Tm) (i : Nat) (hi : i < p.length) (most size c e0 e1 e2 e3 e4 e5 : Int) (out : List (List V)) (l : Nat) (hl : l ≤ 6) :
  zp GZ LZ (CW GZ LZ) 72 none 7 (za3 (p.map Tm.cs) most size out ((i : Nat) : Int) c e0 e1 e2 e3 e4 e5 ((l : Nat) : Int) 3) = some (.normal, za3 (p.map Tm.cs) most size out ((i : Nat) : Int) c e0 e1 e2 ((mk1 p[i].e.d l : Nat) : Int) e4 e5 ((l - mk1 p[i].e.d l : Nat) : Int) 4) := by
 rw [zhZ, zbe p i hi]
 simp only [zam, zan, zr, zs, zG, zt, Option.bind_some]
 refine Eq.trans (b := cond (IntKind.wrap .u8 (IntKind.wrap .i64 (((l : Nat) : Int) + 1)) == 0) none (some (.normal, za3 (p.map Tm.cs) most size out ((i : Nat) : Int) c e0 e1 e2 (Int.tmod (Int.tmod ((p[i].e.d : Nat) : Int) 7) (IntKind.wrap .u8 (IntKind.wrap .i64 (((l : Nat) : Int) + 1)))) e4 e5 (IntKind.wrap .i64 (((l : Nat) : Int) - IntKind.wrap .i64 (Int.tmod (Int.tmod ((p[i].e.d : Nat) : Int) 7) (IntKind.wrap .u8 (IntKind.wrap .i64 (((l : Nat) : Int) + 1)))))) 4))) (by kernel_rfl) ?_
 rw [mk0 l hl, zjy _ l hl, mkw _ l hl (zdt _ _)]
 rfl
theorem made_4 (p : List Tm) (i : Nat) (hi : i < p.length) (most size c e0 e1 e2 e3 e4 e5 : Int) (out : List (List V)) (l : Nat) (hl : l ≤ 6) :
  zp GZ LZ (CW GZ LZ) 72 none 7 (za3 (p.map Tm.cs) most size out ((i : Nat) : Int) c e0 e1 e2 e3 e4 e5 ((l : Nat) : Int) 4) = some (.normal, za3 (p.map Tm.cs) most size out ((i : Nat) : Int) c e0 e1 e2 e3 ((mk1 p[i].e.e l : Nat) : Int) e5 ((l - mk1 p[i].e.e l : Nat) : Int) 5) := by
 rw [zhZ, zbe p i hi]
 simp only [zam, zan, zr, zs, zG, zt, Option.bind_some]
 refine Eq.trans (b := cond (IntKind.wrap .u8 (IntKind.wrap .i64 (((l : Nat) : Int) + 1)) == 0) none (some (.normal, za3 (p.map Tm.cs) most size out ((i : Nat) : Int) c e0 e1 e2 e3 (Int.tmod (Int.tmod ((p[i].e.e : Nat) : Int) 7) (IntKind.wrap .u8 (IntKind.wrap .i64 (((l : Nat) : Int) + 1)))) e5 (IntKind.wrap .i64 (((l : Nat) : Int) - IntKind.wrap .i64 (Int.tmod (Int.tmod ((p[i].e.e : Nat) : Int) 7) (IntKind.wrap .u8 (IntKind.wrap .i64 (((l : Nat) : Int) + 1)))))) 5))) (by kernel_rfl) ?_
 rw [mk0 l hl, zjy _ l hl, mkw _ l hl (zdt _ _)]
 rfl
theorem made_5 (p : List Tm) (i : Nat) (hi : i < p.length) (most size c e0 e1 e2 e3 e4 e5 : Int) (out : List (List V)) (l : Nat) (hl : l ≤ 6) :
  zp GZ LZ (CW GZ LZ) 72 none 7 (za3 (p.map Tm.cs) most size out ((i : Nat) : Int) c e0 e1 e2 e3 e4 e5 ((l : Nat) : Int) 5) = some (.normal, za3 (p.map Tm.cs) most size out ((i : Nat) : Int) c e0 e1 e2 e3 e4 ((mk1 p[i].e.f l : Nat) : Int) ((l - mk1 p[i].e.f l : Nat) : Int) 6) := by
 rw [zhZ, zbe p i hi]
 simp only [zam, zan, zr, zs, zG, zt, Option.bind_some]
 refine Eq.trans (b := cond (IntKind.wrap .u8 (IntKind.wrap .i64 (((l : Nat) : Int) + 1)) == 0) none (some (.normal, za3 (p.map Tm.cs) most size out ((i : Nat) : Int) c e0 e1 e2 e3 e4 (Int.tmod (Int.tmod ((p[i].e.f : Nat) : Int) 7) (IntKind.wrap .u8 (IntKind.wrap .i64 (((l : Nat) : Int) + 1)))) (IntKind.wrap .i64 (((l : Nat) : Int) - IntKind.wrap .i64 (Int.tmod (Int.tmod ((p[i].e.f : Nat) : Int) 7) (IntKind.wrap .u8 (IntKind.wrap .i64 (((l : Nat) : Int) + 1)))))) 6))) (by kernel_rfl) ?_
 rw [mk0 l hl, zjy _ l hl, mkw _ l hl (zdt _ _)]
 rfl
def mkE (x : E6) : E6 :=
 let a := mk1 x.a 6
 let b := mk1 x.b (6 - a)
 let c := mk1 x.c (6 - a - b)
 let d := mk1 x.d (6 - a - b - c)
 let e := mk1 x.e (6 - a - b - c - d)
 ⟨a, b, c, d, e, mk1 x.f (6 - a - b - c - d - e)⟩
theorem zr5 (x : E6) : (mkE x).ok ∧ (mkE x).deg ≤ 6 := by
 have h1 := zdt x.a 6
 have h2 := zdt x.b (6 - mk1 x.a 6)
 have h3 := zdt x.c (6 - mk1 x.a 6 - mk1 x.b (6 - mk1 x.a 6))
 simp only [mkE, E6.ok, E6.deg]
 generalize mk1 x.a 6 = a at *
 generalize mk1 x.b (6 - a) = b at *
 generalize mk1 x.c (6 - a - b) = c at *
 have h4 := zdt x.d (6 - a - b - c)
 generalize mk1 x.d (6 - a - b - c) = d at *
 have h5 := zdt x.e (6 - a - b - c - d)
 generalize mk1 x.e (6 - a - b - c - d) = e at *
 have h6 := zdt x.f (6 - a - b - c - d - e)
 omega
theorem zty (p : List Tm) (i : Nat) (hi : i < p.length) (most size c : Int) (out : List (List V)) : ∃ l : Int,
  zal (zp GZ LZ (CW GZ LZ) 72 none 7) (za3 (p.map Tm.cs) most size out ((i : Nat) : Int) c 0 0 0 0 0 0 6 0) = some (.exit 2, za3 (p.map Tm.cs) most size out ((i : Nat) : Int) c (((mkE p[i].e).a : Nat) : Int) (((mkE p[i].e).b : Nat) : Int) (((mkE p[i].e).c : Nat) : Int) (((mkE p[i].e).d : Nat) : Int) (((mkE p[i].e).e : Nat) : Int) (((mkE p[i].e).f : Nat) : Int) l 6) := by
 refine ⟨((6 - (mkE p[i].e).a - (mkE p[i].e).b - (mkE p[i].e).c - (mkE p[i].e).d - (mkE p[i].e).e - (mkE p[i].e).f : Nat) : Int), ?_⟩
 refine (zk (made_0 p i hi most size c 0 0 0 0 0 0 out 6 (by omega))).trans ?_
 refine (zk (made_1 p i hi most size c _ 0 0 0 0 0 out _ (by omega))).trans ?_
 refine (zk (made_2 p i hi most size c _ _ 0 0 0 0 out _ (by omega))).trans ?_
 refine (zk (made_3 p i hi most size c _ _ _ 0 0 0 out _ (by omega))).trans ?_
 refine (zk (made_4 p i hi most size c _ _ _ _ 0 0 out _ (by omega))).trans ?_
 refine (zk (made_5 p i hi most size c _ _ _ _ _ 0 out _ (by omega))).trans ?_
 exact zbb (zhZ _ _ _ _ _ _ _ _ _ _ _ _ _ _ _)
end Go.Ab
