/- Validity and equality of polynomials, of the program and of the reference; conditions: bytes; few terms. -/
import Derived.KernelRfl
import Derived.Test.YtpalbaaghplhnaaGreatDoorP1
set_option linter.unusedVariables false
set_option linter.unusedSimpArgs false
namespace Go.Ab
def zft (a b : Tm) : Prop := a.e.key < b.e.key
instance (a b : Tm) : Decidable (zft a b) := inferInstanceAs (Decidable (_ < _))
def zar (p : List Tm) : Prop := p.Pairwise zft
instance (p : List Tm) : Decidable (zar p) := inferInstanceAs (Decidable (List.Pairwise _ _))
def zbp (t : Tm) : Prop := zz t.c ∧ t.c ≠ 0 ∧ t.e.deg ≤ 6
instance (t : Tm) : Decidable (zbp t) := inferInstanceAs (Decidable (_ ∧ _))
def zbx (p : List Tm) : Prop := (∀ t ∈ p, zbp t) ∧ zar p ∧ p.length ≤ 100
instance (p : List Tm) : Decidable (zbx p) := inferInstanceAs (Decidable (_ ∧ _))
def zg4 (p : List Tm) (i : Nat) : Bool := if h : i < p.length then decide (zbp p[i]) && (if h2 : 0 < i then decide (p[i - 1].e.key < p[i].e.key) else true) else true
theorem zof {p : List Tm} (h : ∀ i, i < p.length → zg4 p i = true) : (∀ t ∈ p, zbp t) ∧ zar p := by
 have h' : ∀ i (hi : i < p.length), zbp p[i] ∧ ∀ (h2 : 0 < i), p[i - 1].e.key < p[i].e.key := by
  intro i hi
  have := h i hi
  simp only [zg4, hi, dif_pos, Bool.and_eq_true, decide_eq_true_eq] at this
  refine ⟨this.1, fun h2 => ?_⟩
  have h3 := this.2
  rw [dif_pos h2] at h3
  exact of_decide_eq_true h3
 refine ⟨fun t ht => ?_, ?_⟩
 ·obtain ⟨i, hi, rfl⟩ := List.mem_iff_getElem.1 ht
  exact (h' i hi).1
 ·unfold zar
  rw [List.pairwise_iff_getElem]
  intro i j hi hj hij
  have : ∀ k (hk : i + 1 + k < p.length), p[i].e.key < p[i + 1 + k].e.key := by
   intro k
   induction k with
   | zero => intro hk; have := (h' (i + 1) hk).2 (by omega); simpa using this
   | succ k ih =>
    intro hk
    have h1 := ih (by omega)
    have h2 := (h' (i + 1 + (k + 1)) hk).2 (by omega)
    simp only [show i + 1 + (k + 1) - 1 = i + 1 + k by omega] at h2
    omega
  have := this (j - i - 1) (by omega)
  simp only [show i + 1 + (j - i - 1) = j by omega] at this
  exact this
theorem ziP {p : List Tm} {i : Nat} (hi : i < p.length) (h : zg4 p i = false) : ¬ ((∀ t ∈ p, zbp t) ∧ zar p) := by
 rintro ⟨h1, h2⟩
 simp only [zg4, hi, dif_pos, Bool.and_eq_false_iff, decide_eq_false_iff_not] at h
 rcases h with h | h
 ·exact h (h1 _ (List.getElem_mem hi))
 ·split at h
  ·rename_i h3
   simp only [decide_eq_false_iff_not] at h
   unfold zar at h2
   rw [List.pairwise_iff_getElem] at h2
   exact h (h2 (i - 1) i (by omega) hi (by omega))
  ·cases h
theorem zlv (x y : E6) : decide (x.ord y ≥ 0) = !decide (x.key < y.key) := by
 unfold E6.ord
 by_cases h1 : x.key < y.key
 ·simp [h1]
 ·by_cases h2 : y.key < x.key <;> simp [h1, h2]
theorem zrW (i : Nat) (h0 : 0 < i) (h : i ≤ 1000000000) : IntKind.wrap .i64 (((i : Nat) : Int) - 1) = ((i - 1 : Nat) : Int) := by
 rw [w64 (by omega) (by omega)]; omega
theorem zpA {i : Nat} : decide (((i : Nat) : Int) > 0) = decide (0 < i) := by
 by_cases h : 0 < i
 ·simp [h]
 ·simp [h]
theorem zkw (p : List Tm) (hk : oks p) (hf : few p) (i : Nat) (hi : i < p.length) : zp GZ LZ (CW GZ LZ) 50 none 2 (zcT (p.map Tm.cs) false (p.map Tm.cs) ((p.length : Nat) : Int) ((i : Nat) : Int)) =
   if zg4 p i = true then some (.normal, zcT (p.map Tm.cs) false (p.map Tm.cs) ((p.length : Nat) : Int) ((i + 1 : Nat) : Int)) else some (.ret, zcT (p.map Tm.cs) false (p.map Tm.cs) ((p.length : Nat) : Int) ((i : Nat) : Int)) := by
 have hfl : p.length ≤ 100000 := hf
 have hx : p[i].e.ok := hk _ (List.getElem_mem hi)
 rw [e50_2, za1 hi, za5 p i hi, zpA]
 simp only [zak, zal, zs, zQ, zD, zw, zI, zP, zu, zV, zr, zC, zt, zR, z6, z7, zY, zG, zM, zN, zW, zA, zH, zK, zL, Option.bind_some, Option.bind_none, cond_true, cond_false, zT, zU, p90, zaM i (by omega)]
 rw [p91 _ hx]
 simp only [zs, Option.bind_some, zT]
 simp only [zg4, hi, dif_pos]
 by_cases h1 : zz p[i].c
 ·by_cases h2 : p[i].c = 0
  ·have e2 : (p[i].c == 0) = true := by simpa using h2
   have : ¬ zbp p[i] := fun h => h.2.1 h2
   simp [h1, e2, this]
  ·have e2 : (p[i].c == 0) = false := by simpa using h2
   by_cases h3 : p[i].e.deg ≤ 6
   ·have e3 : ¬ ((p[i].e.deg : Nat) : Int) > 6 := by omega
    have hfi : zbp p[i] := ⟨h1, h2, h3⟩
    by_cases h4 : 0 < i
    ·have hx' : p[i - 1].e.ok := hk _ (List.getElem_mem _)
     simp only [h1, e2, e3, h4, hfi, if_true, if_false, cond_false, zrW i h4 (by omega), za5 p (i - 1) (by omega), zak, zal, zs, zQ, zD, zw, zI, zP, zu, zV, zr, zC, zt, zR, z6, z7, zY, zG, zM, zN, zW, zA, zH, zK, zL, Option.bind_some, Option.bind_none, cond_true, cond_false, zT, zU, p92 _ _ hx' hx, decide_true, Bool.true_and, dif_pos]
     by_cases h5 : p[i - 1].e.key < p[i].e.key
     ·have e5 : ¬ p[i - 1].e.ord p[i].e ≥ 0 := by have := zlv p[i - 1].e p[i].e; simpa [h5] using this
      simp only [h5, e5, decide_true, if_true, if_false]
     ·have e5 : p[i - 1].e.ord p[i].e ≥ 0 := by have := zlv p[i - 1].e p[i].e; simpa [h5] using this
      simp only [h5, e5, decide_false, if_true, if_false, Bool.false_eq_true]
    ·simp only [h1, e2, e3, h4, hfi, if_true, if_false, cond_false, decide_true, Bool.and_self, dif_neg, not_false_eq_true]
   ·have e3 : ((p[i].e.deg : Nat) : Int) > 6 := by omega
    have : ¬ zbp p[i] := fun h => h3 h.2.2
    simp [h1, e2, e3, this]
 ·have : ¬ zbp p[i] := fun h => h1 h.1
  simp [h1, this]
theorem p50 (p : List Tm) (hk : oks p) (hf : few p) : (CW GZ LZ).p (.func 50) [.slice .any (p.map Tm.cs)] = some (.bool (decide (zbx p))) := by
 have hfl : p.length ≤ 100000 := hf
 have hstep := zkw p hk hf
 have hloop := zdW (round := zp GZ LZ (CW GZ LZ) 50 none 2) (fun i => zcT (p.map Tm.cs) false (p.map Tm.cs) ((p.length : Nat) : Int) ((i : Nat) : Int)) p.length (zg4 p)
  (fun z => ∃ x : Int, z = zcT (p.map Tm.cs) false (p.map Tm.cs) ((p.length : Nat) : Int) x) (id := 0)
  (fun i hi _ h => by rw [hstep i hi, if_pos h]) (fun i hi _ h => ⟨_, by rw [hstep i hi, if_neg (by rw [h]; simp)], _, rfl⟩)
  (fun _ => by simp only [e50_2, zaW, cond_false])
 rcases hloop with ⟨hall, hl⟩ | ⟨⟨j, hj1, hj2⟩, z, hl, x, hz⟩
 ·have hv := zof hall
  have : decide (zbx p) = decide ((((p.map Tm.cs).length : Nat) : Int) ≤ 100) := by
   rw [decide_eq_decide, List.length_map]
   exact ⟨fun h => by have := h.2.2; omega, fun h => ⟨hv.1, hv.2, by omega⟩⟩
  rw [this]
  refine zE (h := []) ?_ rfl
  rw [e50, zay]
  refine (zZ (show zam (zp GZ LZ (CW GZ LZ) 50 none 2) (zcT (p.map Tm.cs) false (p.map Tm.cs) (((p.map Tm.cs).length : Nat) : Int) 0) = some _ from by rw [List.length_map]; exact hl) _).trans ?_
  kernel_rfl
 ·have hn := ziP hj1 hj2
  have : decide (zbx p) = false := by simp only [decide_eq_false_iff_not]; exact fun h => hn ⟨h.1, h.2.1⟩
  rw [this]
  rw [hz] at hl
  refine zE (h := []) ?_ rfl
  rw [e50, zay]
  refine (zZ (show zam (zp GZ LZ (CW GZ LZ) 50 none 2) (zcT (p.map Tm.cs) false (p.map Tm.cs) (((p.map Tm.cs).length : Nat) : Int) 0) = some _ from by rw [List.length_map]; exact hl) _).trans ?_
  kernel_rfl
theorem zl7 (p : List Tm) (hk : oks p) (hf : few p) (i : Nat) (hi : i < p.length) : zp GZ LZ (CW GZ LZ) 52 none 2 (zdy (p.map Tm.cs) false ((i : Nat) : Int)) =
   if zg4 p i = true then some (.normal, zdy (p.map Tm.cs) false ((i + 1 : Nat) : Int)) else some (.ret, zdy (p.map Tm.cs) false ((i : Nat) : Int)) := by
 have hfl : p.length ≤ 100000 := hf
 have hx : p[i].e.ok := hk _ (List.getElem_mem hi)
 rw [e52_2, List.length_map, za1 hi, za5 p i hi, zpA]
 simp only [zak, zal, zs, zQ, zD, zw, zI, zP, zu, zV, zr, zC, zt, zR, z6, z7, zY, zG, zM, zN, zW, zA, zH, zK, zL, Option.bind_some, Option.bind_none, cond_true, cond_false, zT, zU, p89, p88 _ hx, zaM i (by omega)]
 simp only [zg4, hi, dif_pos]
 by_cases h1 : zz p[i].c
 ·by_cases h2 : p[i].c = 0
  ·have e2 : (p[i].c == 0) = true := by simpa using h2
   have : ¬ zbp p[i] := fun h => h.2.1 h2
   simp [h1, e2, this]
  ·have e2 : (p[i].c == 0) = false := by simpa using h2
   by_cases h3 : p[i].e.deg ≤ 6
   ·have e3 : ¬ ((p[i].e.deg : Nat) : Int) > 6 := by omega
    have hfi : zbp p[i] := ⟨h1, h2, h3⟩
    by_cases h4 : 0 < i
    ·have hx' : p[i - 1].e.ok := hk _ (List.getElem_mem _)
     simp only [h1, e2, e3, h4, hfi, if_true, if_false, cond_false, zrW i h4 (by omega), za5 p (i - 1) (by omega), zak, zal, zs, zQ, zD, zw, zI, zP, zu, zV, zr, zC, zt, zR, z6, z7, zY, zG, zM, zN, zW, zA, zH, zK, zL, Option.bind_some, Option.bind_none, cond_true, cond_false, zT, zU, p93 _ _ hx' hx, decide_true, Bool.true_and, dif_pos]
     by_cases h5 : p[i - 1].e.key < p[i].e.key
     ·have e5 : ¬ p[i - 1].e.ord p[i].e ≥ 0 := by have := zlv p[i - 1].e p[i].e; simpa [h5] using this
      simp only [h5, e5, decide_true, if_true, if_false]
     ·have e5 : p[i - 1].e.ord p[i].e ≥ 0 := by have := zlv p[i - 1].e p[i].e; simpa [h5] using this
      simp only [h5, e5, decide_false, if_true, if_false, Bool.false_eq_true]
    ·simp only [h1, e2, e3, h4, hfi, if_true, if_false, cond_false, decide_true, Bool.and_self, dif_neg, not_false_eq_true]
   ·have e3 : ((p[i].e.deg : Nat) : Int) > 6 := by omega
    have : ¬ zbp p[i] := fun h => h3 h.2.2
    simp [h1, e2, e3, this]
 ·have : ¬ zbp p[i] := fun h => h1 h.1
  simp [h1, this]
theorem p52 (p : List Tm) (hk : oks p) (hf : few p) : (CW GZ LZ).p (.func 52) [.slice .any (p.map Tm.cs)] = some (.bool (decide (zbx p))) := by
 have hfl : p.length ≤ 100000 := hf
 have hstep := zl7 p hk hf
 have hloop := zdW (round := zp GZ LZ (CW GZ LZ) 52 none 2) (fun i => zdy (p.map Tm.cs) false ((i : Nat) : Int)) p.length (zg4 p)
  (fun z => ∃ x : Int, z = zdy (p.map Tm.cs) false x) (id := 0)
  (fun i hi _ h => by rw [hstep i hi, if_pos h]) (fun i hi _ h => ⟨_, by rw [hstep i hi, if_neg (by rw [h]; simp)], _, rfl⟩)
  (fun _ => by simp only [e52_2, List.length_map, zaW, cond_false])
 rcases hloop with ⟨hall, hl⟩ | ⟨⟨j, hj1, hj2⟩, z, hl, x, hz⟩
 ·have hv := zof hall
  have : decide (zbx p) = decide ((((p.map Tm.cs).length : Nat) : Int) ≤ 100) := by
   rw [decide_eq_decide, List.length_map]
   exact ⟨fun h => by have := h.2.2; omega, fun h => ⟨hv.1, hv.2, by omega⟩⟩
  rw [this]
  refine zE (h := []) ?_ rfl
  rw [e52, zay]
  refine (zZ hl _).trans ?_
  kernel_rfl
 ·have hn := ziP hj1 hj2
  have : decide (zbx p) = false := by simp only [decide_eq_false_iff_not]; exact fun h => hn ⟨h.1, h.2.1⟩
  rw [this]
  rw [hz] at hl
  refine zE (h := []) ?_ rfl
  rw [e52, zay]
  refine (zZ hl _).trans ?_
  kernel_rfl
def sameAt (a b : List Tm) (i : Nat) : Bool := if h : i < a.length ∧ i < b.length then decide (a[i]'h.1 = b[i]'h.2) else true
theorem ztn {x y : E6} (hx : x.ok) (hy : y.ok) : (x.ord y != 0) = !decide (x = y) := by
 by_cases h : x = y
 ·subst h; simp [E6.ord]
 ·have : x.key ≠ y.key := fun e => h (E6.key_inj hx hy e)
  unfold E6.ord
  by_cases h1 : x.key < y.key
  ·simp [h1, h]
  ·have h2 : y.key < x.key := by omega
   simp [h1, h2, h]
theorem p53 (a b : List Tm) (ha : oks a) (hb : oks b) (hf : few a) : (CW GZ LZ).p (.func 53) [.slice .any (a.map Tm.cs), .slice .any (b.map Tm.cs)] = some (.bool (decide (a = b))) := by
 have hfl : a.length ≤ 100000 := hf
 by_cases hlen : a.length = b.length
 ·have hstep : ∀ i (hi : i < a.length), zp GZ LZ (CW GZ LZ) 53 none 4 (zeO (a.map Tm.cs) (b.map Tm.cs) false ((i : Nat) : Int)) =
    if sameAt a b i = true then some (.normal, zeO (a.map Tm.cs) (b.map Tm.cs) false ((i + 1 : Nat) : Int)) else some (.ret, zeO (a.map Tm.cs) (b.map Tm.cs) false ((i : Nat) : Int)) := by
   intro i hi
   have hi2 : i < b.length := by omega
   have hx : a[i].e.ok := ha _ (List.getElem_mem hi)
   have hy : b[i].e.ok := hb _ (List.getElem_mem hi2)
   rw [e53_4, List.length_map, za1 hi, za5 a i hi, za5 b i hi2]
   simp only [zak, zal, zs, zQ, zD, zw, zI, zP, zu, zV, zr, zC, zt, zR, z6, z7, zY, zG, zM, zN, zW, zA, zH, zK, zL, Option.bind_some, Option.bind_none, cond_true, cond_false, zT, zU, p93 _ _ hx hy, zaM i (by omega), ztn hx hy, sameAt, hi, hi2, and_self, dif_pos]
   by_cases h1 : a[i].c = b[i].c
   ·have e1 : (a[i].c != b[i].c) = false := by simpa using h1
    by_cases h2 : a[i].e = b[i].e
    ·have : a[i] = b[i] := by cases h3 : a[i]; cases h4 : b[i]; simp_all
     simp only [e1, cond_false]
     simp only [h2, this, decide_true, if_true, Bool.not_true, cond_false]
    ·have : ¬ a[i] = b[i] := fun h => h2 (by rw [h])
     simp only [e1, h2, this, cond_false, decide_false, if_false, Bool.false_eq_true]
   ·have e1 : (a[i].c != b[i].c) = true := by simpa using h1
    have : ¬ a[i] = b[i] := fun h => h1 (by rw [h])
    simp only [e1, this, cond_true, decide_false, if_false, Bool.false_eq_true]
  have hloop := zdW (round := zp GZ LZ (CW GZ LZ) 53 none 4) (fun i => zeO (a.map Tm.cs) (b.map Tm.cs) false ((i : Nat) : Int)) a.length (sameAt a b)
   (fun z => ∃ x : Int, z = zeO (a.map Tm.cs) (b.map Tm.cs) false x) (id := 0)
   (fun i hi _ h => by rw [hstep i hi, if_pos h]) (fun i hi _ h => ⟨_, by rw [hstep i hi, if_neg (by rw [h]; simp)], _, rfl⟩)
   (fun _ => by simp only [e53_4, List.length_map, zaW, cond_false])
  have el : ((((a.map Tm.cs).length : Nat) : Int) != (((b.map Tm.cs).length : Nat) : Int)) = false := by simp [hlen]
  rcases hloop with ⟨hall, hl⟩ | ⟨⟨j, hj1, hj2⟩, z, hl, x, hz⟩
  ·have : a = b := by
    apply List.ext_getElem hlen
    intro i h1 h2
    have := hall i h1
    simp only [sameAt, h1, h2, and_self, dif_pos, decide_eq_true_eq] at this
    exact this
   rw [show decide (a = b) = true by simpa using this]
   refine zE (h := []) ?_ rfl
   rw [e53, zay, el]
   refine (zZ hl _).trans ?_
   kernel_rfl
  ·have : ¬ a = b := by
    intro h
    subst h
    simp [sameAt] at hj2
   rw [show decide (a = b) = false by simpa using this]
   rw [hz] at hl
   refine zE (h := []) ?_ rfl
   rw [e53, zay, el]
   refine (zZ hl _).trans ?_
   kernel_rfl
 ·have : ¬ a = b := fun h => hlen (by rw [h])
  rw [show decide (a = b) = false by simpa using this]
  have el : ((((a.map Tm.cs).length : Nat) : Int) != (((b.map Tm.cs).length : Nat) : Int)) = true := by
   simp only [List.length_map, bne_iff_ne, ne_eq]; omega
  refine zE (h := []) ?_ rfl
  rw [e53, el]
  rfl
end Go.Ab
namespace Go.Ab
def za8 : List Tm → List Tm → List Tm
 | [], b => b
 | x :: a, [] => x :: a
 | x :: a, y :: b => if x.e.key < y.e.key then x :: za8 a (y :: b) else if y.e.key < x.e.key then y :: za8 (x :: a) b else ⟨x.c + y.c, x.e⟩ :: za8 a b
termination_by a b => a.length + b.length
theorem zaH (b : List Tm) : za8 [] b = b := by rw [za8]
theorem zb9 (a : List Tm) : za8 a [] = a := by cases a <;> rw [za8]
theorem zaV (x y : Tm) (a b : List Tm) : za8 (x :: a) (y :: b) = if x.e.key < y.e.key then x :: za8 a (y :: b) else if y.e.key < x.e.key then y :: za8 (x :: a) b else ⟨x.c + y.c, x.e⟩ :: za8 a b := by rw [za8]
theorem zrX : ∀ (n : Nat) (a b : List Tm), a.length + b.length ≤ n → (za8 a b).length ≤ a.length + b.length := by
 intro n
 induction n with
 | zero => intro a b h; rw [List.length_eq_zero_iff.1 (show a.length = 0 by omega), zaH]; omega
 | succ n ih =>
  intro a b h
  cases a with
  | nil => rw [zaH]; omega
  | cons x a =>
   cases b with
   | nil => rw [zb9]; omega
   | cons y b =>
    rw [zaV]
    simp only [List.length_cons] at h ⊢
    split
    ·have := ih a (y :: b) (by simp only [List.length_cons]; omega)
     simp only [List.length_cons] at this ⊢; omega
    ·split
     ·have := ih (x :: a) b (by simp only [List.length_cons]; omega)
      simp only [List.length_cons] at this ⊢; omega
     ·have := ih a b (by omega)
      simp only [List.length_cons] at this ⊢; omega
def zdu (a b out : List Tm) : St := zbM (a.map Tm.cs) (b.map Tm.cs) 0 0 (out.map Tm.cs).length (out.map Tm.cs)
theorem zdg : ∀ (l : List Tm), zaK 7 (l.map Tm.cs) = true
 | [] => rfl
 | _ :: _ => rfl
theorem zuj (x : Tm) (l : List (List V)) : zS (x.cs :: l) 0 7 = some x.cs := rfl
theorem zto {α : Type} (x : α) (l : List α) : ((x :: l).take (x :: l).length).drop 1 = l := by rw [List.take_length]; rfl
theorem zog (b out : List Tm) (h : out.length + b.length ≤ 1000000) : zp GZ LZ (CW GZ LZ) 54 none 2 (zdu [] b out) = some (.exit 0, zdu [] b (out ++ b)) := by
 have hr : ((out.map Tm.cs).length + (b.map Tm.cs).length) * 16 ≤ zaf := by simp only [List.length_map]; unfold zaf; omega
 unfold zdu
 rw [zqr]
 simp only [List.map_nil, List.length_nil, zdg, hr, decide_true, cond_true, show (((0 : Nat) : Int) == 0) = true from rfl, List.map_append, List.length_append]
 rfl
theorem ztp (x : Tm) (a out : List Tm) (h : out.length + (x :: a).length ≤ 1000000) : zp GZ LZ (CW GZ LZ) 54 none 2 (zdu (x :: a) [] out) = some (.exit 0, zdu (x :: a) [] (out ++ x :: a)) := by
 have hr : ((out.map Tm.cs).length + ((x :: a).map Tm.cs).length) * 16 ≤ zaf := by simp only [List.length_map]; unfold zaf; omega
 have e0 : (((((x :: a).map Tm.cs).length : Nat) : Int) == 0) = false := by simp only [List.length_map, List.length_cons, beq_eq_false_iff_ne, ne_eq]; omega
 unfold zdu
 rw [zqr, e0]
 simp only [zdg, hr, decide_true, cond_true, cond_false, List.map_nil, List.length_nil, show (((0 : Nat) : Int) == 0) = true from rfl, List.map_append, List.length_append]
 rfl
theorem ztq (x y : Tm) (a b out : List Tm) (hx : x.e.ok) (hy : y.e.ok) (nx : zz x.c) (ny : zz y.c) (h : out.length ≤ 1000000) :
  zp GZ LZ (CW GZ LZ) 54 none 2 (zdu (x :: a) (y :: b) out) = some (.normal, if x.e.key < y.e.key then zdu a (y :: b) (out ++ [x]) else if y.e.key < x.e.key then zdu (x :: a) b (out ++ [y]) else zdu a b (out ++ [⟨x.c + y.c, x.e⟩])) := by
 have hr : ((out.map Tm.cs).length + 1) * 16 ≤ zaf := by simp only [List.length_map]; unfold zaf; omega
 have e0 : ∀ (z : Tm) (l : List Tm), (((((z :: l).map Tm.cs).length : Nat) : Int) == 0) = false := fun z l => by simp only [List.length_map, List.length_cons, beq_eq_false_iff_ne, ne_eq]; omega
 have e1 : ∀ (z : Tm) (l : List Tm), decide (1 ≤ ((z :: l).map Tm.cs).length) = true := fun z l => by simp
 simp only [zz] at nx ny
 have w1 : IntKind.wrap .i64 (x.c + y.c) = x.c + y.c := w64 (by omega) (by omega)
 have td : ∀ (z : Tm) (l : List Tm), (((z :: l).map Tm.cs).take ((z :: l).map Tm.cs).length).drop 1 = l.map Tm.cs := fun z l => zto _ _
 have ap : ∀ z : Tm, List.append (out.map Tm.cs) [z.cs] = (out ++ [z]).map Tm.cs := fun z => by simp
 have aq : ∀ z : Tm, (out.map Tm.cs).length + 1 = ((out ++ [z]).map Tm.cs).length := fun z => by simp
 unfold zdu
 rw [zqr, e0, e0]
 simp only [cond_false, e1, td, zdg, hr, decide_true, cond_true]
 simp only [List.map_cons, zuj, zak, zal, zr, Option.bind_some, zs, zH, zt]
 rw [p92 _ _ hx hy]
 simp only [zs, Option.bind_some, w1]
 by_cases h1 : x.e.key < y.e.key
 ·have ho : x.e.ord y.e = -1 := by unfold E6.ord; rw [if_pos h1]
  rw [ho, if_pos h1]
  refine Eq.trans ?_ (congrArg (fun z => some (Ex.normal, zbM (a.map Tm.cs) ((y :: b).map Tm.cs) 0 0 z ((out ++ [x]).map Tm.cs))) (aq x))
  rw [← ap x]
  rfl
 ·by_cases h2 : y.e.key < x.e.key
  ·have ho : x.e.ord y.e = 1 := by unfold E6.ord; rw [if_neg h1, if_pos h2]
   rw [ho, if_neg h1, if_pos h2]
   refine Eq.trans ?_ (congrArg (fun z => some (Ex.normal, zbM ((x :: a).map Tm.cs) (b.map Tm.cs) 0 0 z ((out ++ [y]).map Tm.cs))) (aq y))
   rw [← ap y]
   rfl
  ·have ho : x.e.ord y.e = 0 := by unfold E6.ord; rw [if_neg h1, if_neg h2]
   rw [ho, if_neg h1, if_neg h2]
   refine Eq.trans ?_ (congrArg (fun z => some (Ex.normal, zbM (a.map Tm.cs) (b.map Tm.cs) 0 0 z ((out ++ [(⟨x.c + y.c, x.e⟩ : Tm)]).map Tm.cs))) (aq (⟨x.c + y.c, x.e⟩ : Tm)))
   rw [← ap (⟨x.c + y.c, x.e⟩ : Tm)]
   rfl
theorem ztr : ∀ (n : Nat) (a b out : List Tm), a.length + b.length ≤ n → oks a → oks b → za6 a → za6 b → out.length + a.length + b.length ≤ 1000000 →
  ∃ a' b', zam (zp GZ LZ (CW GZ LZ) 54 none 2) (zdu a b out) = some (.exit 0, zdu a' b' (out ++ za8 a b)) := by
 intro n
 induction n with
 | zero =>
  intro a b out h _ _ _ _ hl
  have ha : a = [] := List.length_eq_zero_iff.1 (by omega)
  subst ha
  exact ⟨_, _, by rw [zaH]; exact za9 (zog b out (by omega))⟩
 | succ n ih =>
  intro a b out h ha hb na nb hl
  cases a with
  | nil => exact ⟨_, _, by rw [zaH]; exact za9 (zog b out (by simp only [List.length_nil] at hl; omega))⟩
  | cons x a =>
   cases b with
   | nil => exact ⟨_, _, by rw [zb9]; exact za9 (ztp x a out (by simp only [List.length_nil] at hl; omega))⟩
   | cons y b =>
    have st := ztq x y a b out (ha x (by simp)) (hb y (by simp)) (na x (by simp)) (nb y (by simp)) (by omega)
    have ha' : oks a := fun t ht => ha t (by simp [ht])
    have hb' : oks b := fun t ht => hb t (by simp [ht])
    have na' : za6 a := fun t ht => na t (by simp [ht])
    have nb' : za6 b := fun t ht => nb t (by simp [ht])
    simp only [List.length_cons] at h hl
    rw [zk st, zaV]
    split
    ·obtain ⟨a2, b2, hh⟩ := ih a (y :: b) (out ++ [x]) (by simp only [List.length_cons]; omega) ha' hb na' nb (by simp only [List.length_append, List.length_cons, List.length_nil]; omega)
     exact ⟨a2, b2, by rw [hh]; simp⟩
    ·split
     ·obtain ⟨a2, b2, hh⟩ := ih (x :: a) b (out ++ [y]) (by simp only [List.length_cons]; omega) ha hb' na nb' (by simp only [List.length_append, List.length_cons, List.length_nil]; omega)
      exact ⟨a2, b2, by rw [hh]; simp⟩
     ·obtain ⟨a2, b2, hh⟩ := ih a b (out ++ [⟨x.c + y.c, x.e⟩]) (by omega) ha' hb' na' nb' (by simp only [List.length_append, List.length_cons, List.length_nil]; omega)
      exact ⟨a2, b2, by rw [hh]; simp⟩
theorem zmG : ∀ (n : Nat) (a b : List Tm), a.length + b.length ≤ n → oks a → oks b → oks (za8 a b) := by
 intro n
 induction n with
 | zero => intro a b h _ hb; rw [List.length_eq_zero_iff.1 (show a.length = 0 by omega), zaH]; exact hb
 | succ n ih =>
  intro a b h ha hb
  cases a with
  | nil => rw [zaH]; exact hb
  | cons x a =>
   cases b with
   | nil => rw [zb9]; exact ha
   | cons y b =>
    have ha' : oks a := fun t ht => ha t (by simp [ht])
    have hb' : oks b := fun t ht => hb t (by simp [ht])
    simp only [List.length_cons] at h
    have hx := ha x (by simp)
    have hy := hb y (by simp)
    rw [zaV]
    intro t ht
    split at ht
    ·rcases List.mem_cons.1 ht with rfl | ht
     ·exact hx
     ·exact ih a (y :: b) (by simp only [List.length_cons]; omega) ha' hb t ht
    ·split at ht
     ·rcases List.mem_cons.1 ht with rfl | ht
      ·exact hy
      ·exact ih (x :: a) b (by simp only [List.length_cons]; omega) ha hb' t ht
     ·rcases List.mem_cons.1 ht with rfl | ht
      ·exact hx
      ·exact ih a b (by omega) ha' hb' t ht
def zaX (a b : List Tm) : List Tm × Iv := zao (za8 a b) 6 0 0
theorem p54 (a b : List Tm) (ha : oks a) (hb : oks b) (na : za6 a) (nb : za6 b) (fa : a.length ≤ 10000) (fb : b.length ≤ 10000) :
  (CW GZ LZ).p (.func 54) [.slice .any (a.map Tm.cs), .slice .any (b.map Tm.cs)] = some (.tuple [.slice .any ((zaX a b).1.map Tm.cs), .agg (zaX a b).2.c]) := by
 obtain ⟨a', b', hl⟩ := ztr _ a b [] (Nat.le_refl _) ha hb na nb (by simp only [List.length_nil]; omega)
 have hlen := zrX _ a b (Nat.le_refl _)
 have hm := zmG _ a b (Nat.le_refl _) ha hb
 rw [List.nil_append] at hl
 refine zaz (u := .tuple [.slice .any ((zaX a b).1.map Tm.cs), .agg (zaX a b).2.c]) (h := [.arr false 7 ((za8 a b).map Tm.cs)]) ?_ rfl
 rw [e54, zay]
 refine (zZ hl _).trans ?_
 have hfin := p94 (za8 a b) 6 0 0 hm (by unfold few; omega) (by decide) (by decide) (by decide) (by decide)
 unfold zaX
 generalize za8 a b = m at *
 have g1 : nth (zdu a' b' m).t 0 = .slice .any (a'.map Tm.cs) := rfl
 have g2 : nth (zdu a' b' m).t 1 = .slice .any (b'.map Tm.cs) := rfl
 have g3 : nth (zdu a' b' m).t 5 = .box [.int .i64 0, .int .i64 0] := rfl
 have g4 : nth (zdu a' b' m).t 6 = .arr 0 (m.map Tm.cs).length 7 := rfl
 have g5 : (zdu a' b' m).h = [.arr true 7 (m.map Tm.cs)] := rfl
 simp only [g1, g2, g3, g4, g5, Nat.beq_refl, zs, zQ, zD, zw, zI, zP, zu, zV, zr, zC, zt, zR, z6, z7, zY, zG, zM, zN, zW, zA, zH, zK, zL, Option.bind_some, Option.bind_none, cond_true, cond_false, zT, zU, hfin]
 rfl
end Go.Ab
namespace Go.Ab
def ins : List Tm → Tm → List Tm
 | [], x => [x]
 | y :: p, x => if y.e.key < x.e.key then y :: ins p x else if y.e.key = x.e.key then ⟨x.c + y.c, x.e⟩ :: p else x :: y :: p
def zcn : List Tm → Tm → Nat
 | [], _ => 0
 | y :: p, x => if y.e.key < x.e.key then zcn p x + 1 else 0
theorem zl8 : ∀ (p : List Tm) (x : Tm), zcn p x ≤ p.length
 | [], _ => Nat.le_refl _
 | y :: p, x => by
  have := zl8 p x
  simp only [zcn, List.length_cons]
  split <;> omega
theorem zpB : ∀ (p : List Tm) (x : Tm) (i : Nat) (h : i < p.length), i < zcn p x → p[i].e.key < x.e.key
 | y :: p, x, i, h, hi => by
  simp only [zcn] at hi
  split at hi
  ·rename_i hy
   cases i with
   | zero => exact hy
   | succ i => exact zpB p x i (by simpa using h) (by omega)
  ·omega
theorem zl9 : ∀ (p : List Tm) (x : Tm) (h : zcn p x < p.length), ¬ p[zcn p x].e.key < x.e.key
 | y :: p, x, h => by
  by_cases hy : y.e.key < x.e.key
  ·have e : zcn (y :: p) x = zcn p x + 1 := by simp only [zcn, hy, if_true]
   have := zl9 p x (by rw [e] at h; simpa using h)
   simpa [e] using this
  ·have e : zcn (y :: p) x = 0 := by simp only [zcn, hy, if_false]
   simpa [e] using hy
theorem zrY : ∀ (p : List Tm) (x : Tm), ins p x = p.take (zcn p x) ++ (match p.drop (zcn p x) with
  | [] => [x]
  | y :: q => if y.e.key = x.e.key then ⟨x.c + y.c, x.e⟩ :: q else x :: y :: q)
 | [], x => rfl
 | y :: p, x => by
  by_cases hy : y.e.key < x.e.key
  ·have e : zcn (y :: p) x = zcn p x + 1 := by simp only [zcn, hy, if_true]
   rw [e]
   simp only [ins, hy, if_true, List.take_succ_cons, List.drop_succ_cons, List.cons_append]
   rw [zrY p x]
  ·have e : zcn (y :: p) x = 0 := by simp only [zcn, hy, if_false]
   rw [e]
   simp only [ins, hy, if_false, List.take_zero, List.drop_zero, List.nil_append]
theorem zhp : ∀ (p : List Tm) (x : Tm), (ins p x).length ≤ p.length + 1
 | [], _ => by simp [ins]
 | y :: p, x => by
  have := zhp p x
  simp only [ins]
  split
  ·simp only [List.length_cons]; omega
  ·split <;> simp only [List.length_cons] <;> omega
theorem zfi : ∀ (p : List Tm) (x : Tm), oks p → x.e.ok → oks (ins p x)
 | [], x, _, hx => fun t ht => by simp only [ins, List.mem_singleton] at ht; rw [ht]; exact hx
 | y :: p, x, hp, hx => by
  have hp' : oks p := fun t ht => hp t (by simp [ht])
  intro t ht
  simp only [ins] at ht
  split at ht
  ·rcases List.mem_cons.1 ht with rfl | ht
   ·exact hp _ (by simp)
   ·exact zfi p x hp' hx t ht
  ·split at ht
   ·rcases List.mem_cons.1 ht with rfl | ht
    ·exact hx
    ·exact hp' t ht
   ·rcases List.mem_cons.1 ht with rfl | ht
    ·exact hx
    ·exact hp t ht
def zdh (p : List Tm) (b : Int) : Prop := ∀ t ∈ p, -b ≤ t.c ∧ t.c ≤ b
theorem zpC : ∀ (p : List Tm) (x : Tm) {b d : Int}, zdh p b → -d ≤ x.c → x.c ≤ d → 0 ≤ d → zdh (ins p x) (b + d) ∨ (p = [] ∧ zdh (ins p x) d)
 | [], x, b, d, _, h1, h2, _ => .inr ⟨rfl, fun t ht => by simp only [ins, List.mem_singleton] at ht; rw [ht]; exact ⟨h1, h2⟩⟩
 | y :: p, x, b, d, hp, h1, h2, hd => by
  refine .inl ?_
  have hp' : zdh p b := fun t ht => hp t (by simp [ht])
  have hy := hp y (by simp)
  intro t ht
  simp only [ins] at ht
  split at ht
  ·rcases List.mem_cons.1 ht with rfl | ht
   ·omega
   ·rcases zpC p x hp' h1 h2 hd with h | ⟨_, h⟩
    ·exact h t ht
    ·have := h t ht; omega
  ·split at ht
   ·rcases List.mem_cons.1 ht with rfl | ht
    ·simp only; omega
    ·have := hp' t ht; omega
   ·rcases List.mem_cons.1 ht with rfl | ht
    ·omega
    ·have := hp t ht; omega
theorem zuk (x y : E6) : decide (x.ord y < 0) = decide (x.key < y.key) := by
 unfold E6.ord
 by_cases h1 : x.key < y.key
 ·simp [h1]
 ·by_cases h2 : y.key < x.key <;> simp [h1, h2]
theorem zpD (x y : E6) : (x.ord y == 0) = decide (x.key = y.key) := by
 unfold E6.ord
 by_cases h1 : x.key < y.key
 ·have : ¬ x.key = y.key := by omega
  simp [h1, this]
 ·by_cases h2 : y.key < x.key
  ·have : ¬ x.key = y.key := by omega
   simp [h1, h2, this]
  ·have : x.key = y.key := by omega
   simp [h1, h2, this]
def zfO (p : List Tm) (x : Tm) (i : Nat) : St := zju (p.map Tm.cs) x.c ((x.e.a : Nat) : Int) ((x.e.b : Nat) : Int) ((x.e.c : Nat) : Int) ((x.e.d : Nat) : Int) ((x.e.e : Nat) : Int) ((x.e.f : Nat) : Int) ((i : Nat) : Int) []
theorem zoh (p : List Tm) (x : Tm) (hk : oks p) (hx : x.e.ok) (i : Nat) (hi : i < p.length) (hf : few p) : zp GZ LZ (CW GZ LZ) 95 none 2 (zfO p x i) =
  if p[i].e.key < x.e.key then some (.normal, zfO p x (i + 1)) else some (.exit 0, zfO p x i) := by
 have hfl : p.length ≤ 100000 := hf
 have hy : p[i].e.ok := hk _ (List.getElem_mem hi)
 unfold zfO
 rw [e95_2, List.length_map, za1 hi, za5 p i hi]
 simp only [zak, zal, zr, zs, zH, zt, Option.bind_some, cond_true]
 rw [p93 _ _ hy hx]
 simp only [zs, Option.bind_some, zaM i (by omega)]
 rw [zuk]
 by_cases h : p[i].e.key < x.e.key
 ·simp only [h, decide_true, cond_true, if_true]
 ·simp only [h, decide_false, cond_false, if_false]
theorem zts (p : List Tm) (x : Tm) (hk : oks p) (hx : x.e.ok) (hf : few p) : zam (zp GZ LZ (CW GZ LZ) 95 none 2) (zfO p x 0) = some (.exit 0, zfO p x (zcn p x)) := by
 have hle := zl8 p x
 refine zb1 (fun i => zfO p x i) (zcn p x) (fun i hi => ?_) ?_
 ·rw [zoh p x hk hx i (by omega) hf, if_pos (zpB p x i (by omega) hi)]
 ·by_cases h : zcn p x < p.length
  ·rw [zoh p x hk hx _ h hf, if_neg (zl9 p x h)]
  ·have : zcn p x = p.length := by omega
   rw [this]
   unfold zfO
   rw [e95_2, List.length_map, zaW]
   rfl
theorem ztt (o : Ob) (w : Bool) (r : List (List V)) (n : Nat) (h : n = r.length) : zaj [o, .arr w 7 r] 1 n = some r := by subst h; simp [zaj, zau]
theorem p95 (p : List Tm) (x : Tm) (hk : oks p) (hx : x.e.ok) (hf : few p) (hm : zdh p 2305843009213693952) (h1 : -2305843009213693952 ≤ x.c) (h2 : x.c ≤ 2305843009213693952) :
  (CW GZ LZ).p (.func 95) [.slice .any (p.map Tm.cs), .agg [.int .i64 x.c, .int .u8 ((x.e.a : Nat) : Int), .int .u8 ((x.e.b : Nat) : Int), .int .u8 ((x.e.c : Nat) : Int), .int .u8 ((x.e.d : Nat) : Int), .int .u8 ((x.e.e : Nat) : Int), .int .u8 ((x.e.f : Nat) : Int)]] = some (.slice .any ((ins p x).map Tm.cs)) := by
 have hfl : p.length ≤ 100000 := hf
 have hl := zts p x hk hx hf
 have hle := zl8 p x
 have hins := zrY p x
 have hat := zl9 p x
 generalize zcn p x = k at *
 have g1 : nth (zfO p x k).t 0 = .slice .any (p.map Tm.cs) := rfl
 have g2 : nth (zfO p x k).t 3 = .box [.int .i64 x.c, .int .u8 ((x.e.a : Nat) : Int), .int .u8 ((x.e.b : Nat) : Int), .int .u8 ((x.e.c : Nat) : Int), .int .u8 ((x.e.d : Nat) : Int), .int .u8 ((x.e.e : Nat) : Int), .int .u8 ((x.e.f : Nat) : Int)] := rfl
 have g3 : nth (zfO p x k).t 5 = .int .i64 ((k : Nat) : Int) := rfl
 have g4 : (zfO p x k).h = [.arr true 7 []] := rfl
 have c1 : decide ((0 : Int) ≤ ((k : Nat) : Int)) = true := by simp
 have c2 : decide (k ≤ (p.map Tm.cs).length) = true := by simpa using hle
 have tk : ((p.map Tm.cs).take k).drop 0 = (p.take k).map Tm.cs := by rw [List.drop_zero, List.map_take]
 have ta : (p.map Tm.cs).take (p.map Tm.cs).length = p.map Tm.cs := List.take_length
 have c3 : decide (((p.take k).map Tm.cs).length * 16 ≤ zaf) = true := by
  simp only [List.length_map, List.length_take, decide_eq_true_eq]; unfold zaf; omega
 have c4 : decide ((((p.take k).map Tm.cs).length + 1) * 16 ≤ zaf) = true := by
  simp only [List.length_map, List.length_take, decide_eq_true_eq]; unfold zaf; omega
 have dr : ∀ j, (p.map Tm.cs).drop j = (p.drop j).map Tm.cs := fun j => by rw [List.map_drop]
 have ap : ∀ z : Tm, List.append ((p.take k).map Tm.cs) [z.cs] = (p.take k ++ [z]).map Tm.cs := fun z => by simp
 have aq : ∀ (z : Tm) (j : Nat), List.append ((p.take k ++ [z]).map Tm.cs) ((p.drop j).map Tm.cs) = (p.take k ++ z :: p.drop j).map Tm.cs := fun z j => by simp
 have c5 : ∀ z : Tm, decide (((p.take k).map Tm.cs).length + 1 = ((p.take k ++ [z]).map Tm.cs).length) = true := fun z => by simp
 have c6 : ∀ (z : Tm) (j : Nat), decide ((((p.take k ++ [z]).map Tm.cs).length + ((p.drop j).map Tm.cs).length) * 16 ≤ zaf) = true := fun z j => by
  simp only [List.length_map, List.length_append, List.length_take, List.length_drop, List.length_cons, List.length_nil, decide_eq_true_eq]; unfold zaf; omega
 have ar : ∀ (o : Ob) (z : Tm) (j : Nat), zaj [o, .arr true 7 ((p.take k ++ z :: p.drop j).map Tm.cs)] 1 (((p.take k).map Tm.cs).length + 1 + ((p.drop j).map Tm.cs).length) = some ((p.take k ++ z :: p.drop j).map Tm.cs) := fun o z j => ztt _ _ _ _ (by simp; omega)
 have zc : ∀ c : Int, [V.int .i64 c, .int .u8 ((x.e.a : Nat) : Int), .int .u8 ((x.e.b : Nat) : Int), .int .u8 ((x.e.c : Nat) : Int), .int .u8 ((x.e.d : Nat) : Int), .int .u8 ((x.e.e : Nat) : Int), .int .u8 ((x.e.f : Nat) : Int)] = Tm.cs ⟨c, x.e⟩ := fun _ => rfl
 have hd : decide (((k : Nat) : Int) < (((p.map Tm.cs).length : Nat) : Int)) = decide (k < p.length) := by
  rw [decide_eq_decide, List.length_map]; omega
 by_cases hkl : k < p.length
 ·have hy : p[k].e.ok := hk _ (List.getElem_mem hkl)
  have hb := hm p[k] (List.getElem_mem hkl)
  have hdrop : p.drop k = p[k] :: p.drop (k + 1) := List.drop_eq_getElem_cons hkl
  rw [hdrop] at hins
  simp only at hins
  have d1 : decide (k < p.length) = true := by simpa using hkl
  by_cases he : p[k].e.key = x.e.key
  ·rw [if_pos he] at hins
   have w1 : IntKind.wrap .i64 (x.c + p[k].c) = x.c + p[k].c := w64 (by omega) (by omega)
   have w2 : IntKind.wrap .i64 (((k : Nat) : Int) + 1) = ((k + 1 : Nat) : Int) := zaM k (by omega)
   have c7 : decide ((0 : Int) ≤ ((k + 1 : Nat) : Int)) = true := by simp; omega
   have c8 : decide (k + 1 ≤ (p.map Tm.cs).length) = true := by simp; omega
   have eo : (p[k].e.ord x.e == 0) = true := by rw [zpD]; simpa using he
   rw [hins]
   refine zE (h := [.arr true 7 [], .arr false 7 ((p.take k ++ ⟨x.c + p[k].c, x.e⟩ :: p.drop (k + 1)).map Tm.cs)]) ?_ rfl
   rw [e95, zay]
   refine (zZ hl _).trans ?_
   simp only [g1, g2, g3, g4, Nat.beq_refl, zD, zP, zr, zC, zs, zH, zt, zG, Option.bind_some, cond_true, c1, Int.toNat_natCast, c2, tk, zdg, c3, hd, d1, za5 p k hkl, zak, zal]
   rw [p93 _ _ hy hx]
   simp only [zs, Option.bind_some, eo, cond_true, decide_true, c4, w1, w2, c7, Int.toNat_natCast, c8, zdg, ta, dr, zc, ap, c5, c6, aq, ar]
  ·rw [if_neg he] at hins
   have eo : (p[k].e.ord x.e == 0) = false := by rw [zpD]; simpa using he
   rw [← hdrop] at hins
   rw [hins]
   refine zE (h := [.arr true 7 [], .arr false 7 ((p.take k ++ x :: p.drop k).map Tm.cs)]) ?_ rfl
   rw [e95, zay]
   refine (zZ hl _).trans ?_
   simp only [g1, g2, g3, g4, Nat.beq_refl, zD, zP, zr, zC, zs, zH, zt, zG, Option.bind_some, cond_true, c1, Int.toNat_natCast, c2, tk, zdg, c3, hd, d1, za5 p k hkl, zak, zal]
   rw [p93 _ _ hy hx]
   simp only [zs, Option.bind_some, eo, cond_true, cond_false, decide_true, c4, zdg, ta, dr, zc, ap, c5, c6, aq, ar, c1, c2, Int.toNat_natCast]
 ·have hdrop : p.drop k = [] := List.drop_eq_nil_iff.2 (by omega)
  have d1 : decide (k < p.length) = false := by simpa using hkl
  rw [hdrop] at hins
  simp only at hins
  have hins' : ins p x = p.take k ++ x :: p.drop k := by rw [hdrop]; exact hins
  rw [hins']
  refine zE (h := [.arr true 7 [], .arr false 7 ((p.take k ++ x :: p.drop k).map Tm.cs)]) ?_ rfl
  rw [e95, zay]
  refine (zZ hl _).trans ?_
  simp only [g1, g2, g3, g4, Nat.beq_refl, zD, zP, zr, zC, zs, zH, zt, zG, Option.bind_some, cond_true, cond_false, c1, Int.toNat_natCast, c2, tk, zdg, c3, hd, d1, decide_true]
  simp only [cond_true, c4, c1, c2, Int.toNat_natCast, zdg, ta, dr, zc, ap, c5, c6, aq, ar, Option.bind_some]
end Go.Ab
namespace Go.Ab
theorem zmH : ∀ (a : List Tm) (y : Tm) (b : List Tm), oks a → y.e.ok → (∀ z ∈ b, y.e.key < z.e.key) → za8 (ins a y) b = za8 a (y :: b)
 | [], y, b, _, _, hb => by
  rw [zaH]
  cases b with
  | nil => rw [zb9]; rfl
  | cons z b =>
   have := hb z (by simp)
   simp only [ins]
   rw [zaV, if_pos this, zaH]
 | x :: a, y, b, ha, hy, hb => by
  have ha' : oks a := fun t ht => ha t (by simp [ht])
  have hx := ha x (by simp)
  have top : ∀ (w : Tm) (l : List Tm), w.e.key ≤ y.e.key → za8 (w :: l) b = w :: za8 l b := by
   intro w l hw
   cases b with
   | nil => rw [zb9, zb9]
   | cons z b =>
    have := hb z (by simp)
    rw [zaV, if_pos (by omega)]
  rw [zaV]
  simp only [ins]
  by_cases h1 : x.e.key < y.e.key
  ·rw [if_pos h1, if_pos h1, top x _ (by omega), zmH a y b ha' hy hb]
  ·rw [if_neg h1, if_neg h1]
   by_cases h2 : x.e.key = y.e.key
   ·have he : x.e = y.e := E6.key_inj hx hy h2
    rw [if_pos h2, if_neg (by omega), top ⟨y.c + x.c, y.e⟩ _ (Nat.le_refl _), Int.add_comm y.c x.c, he]
   ·rw [if_neg h2, if_pos (by omega), top y _ (Nat.le_refl _)]
theorem zmI : ∀ (b a : List Tm), oks a → oks b → zar b → b.foldl ins a = za8 a b
 | [], a, _, _, _ => by rw [zb9]; rfl
 | y :: b, a, ha, hb, hs => by
  have hy := hb y (by simp)
  have hb' : oks b := fun t ht => hb t (by simp [ht])
  unfold zar at hs
  rw [List.pairwise_cons] at hs
  rw [List.foldl_cons, zmI b (ins a y) (zfi a y ha hy) hb' hs.2, zmH a y b ha hy fun z hz => hs.1 z hz]
theorem zmJ : ∀ (b a : List Tm), oks a → oks b → oks (b.foldl ins a)
 | [], a, ha, _ => ha
 | y :: b, a, ha, hb => zmJ b (ins a y) (zfi a y ha (hb y (by simp))) fun t ht => hb t (by simp [ht])
theorem zmK : ∀ (b a : List Tm), (b.foldl ins a).length ≤ a.length + b.length
 | [], a => by simp
 | y :: b, a => by
  have h1 := zmK b (ins a y)
  have h2 := zhp a y
  simp only [List.foldl_cons, List.length_cons]
  omega
theorem zoi {p : List Tm} {x : Tm} {b d : Int} (hp : zdh p b) (hb : 0 ≤ b) (h1 : -d ≤ x.c) (h2 : x.c ≤ d) (hd : 0 ≤ d) : zdh (ins p x) (b + d) := by
 rcases zpC p x hp h1 h2 hd with h | ⟨_, h⟩
 ·exact h
 ·intro t ht
  have := h t ht
  omega
theorem zmL {d : Int} (hd : 0 ≤ d) : ∀ (q a : List Tm) (b : Int), zdh a b → 0 ≤ b → zdh q d → zdh (q.foldl ins a) (b + d * q.length)
 | [], a, b, ha, _, _ => by simpa using ha
 | y :: q, a, b, ha, hb, hq => by
  have h1 := zoi ha hb (hq y (by simp)).1 (hq y (by simp)).2 hd
  have := zmL hd q (ins a y) (b + d) h1 (by omega) (fun t ht => hq t (by simp [ht]))
  simp only [List.foldl_cons, List.length_cons, Int.natCast_add, Int.natCast_one, Int.mul_add, Int.mul_one]
  rwa [show b + (d * (q.length : Int) + d) = b + d + d * (q.length : Int) by omega]
theorem zoj {p : List Tm} (h : za6 p) : zdh p 2147483648 := fun t ht => by have := h t ht; simp only [zz] at this; omega
def zh1 (a b : List Tm) : List Tm × Iv := zao (b.foldl ins a) 6 0 0
theorem zul {a b : List Tm} (ha : oks a) (hb : oks b) (hs : zar b) : zh1 a b = zaX a b := by
 unfold zh1 zaX
 rw [zmI b a ha hb hs]
theorem p56 (a b : List Tm) (ha : oks a) (hb : oks b) (na : za6 a) (nb : za6 b) (fa : a.length ≤ 10000) (fb : b.length ≤ 10000) :
  (CW GZ LZ).p (.func 56) [.slice .any (a.map Tm.cs), .slice .any (b.map Tm.cs)] = some (.tuple [.slice .any ((zh1 a b).1.map Tm.cs), .agg (zh1 a b).2.c]) := by
 have hm := fun i => zmL (d := 2147483648) (by decide) (b.take i) a 2147483648 (zoj na) (by decide) (zoj fun t ht => nb t (List.mem_of_mem_take ht))
 have hk := fun i => zmJ (b.take i) a ha fun t ht => hb t (List.mem_of_mem_take ht)
 have hl := fun i => zmK (b.take i) a
 have hloop := zb1 (round := zp GZ LZ (CW GZ LZ) 56 none 3) (fun i => zfY (b.map Tm.cs) 0 0 (((b.take i).foldl ins a).map Tm.cs) ((i : Nat) : Int)) b.length (id := 0)
  (fun i hi => by
   have hli := hl i
   have hmi := hm i
   simp only [List.length_take] at hli hmi
   have nc := nb _ (List.getElem_mem hi)
   simp only [zz] at nc
   have hmi' : zdh ((b.take i).foldl ins a) 2305843009213693952 := fun t ht => by
    have := hmi t ht
    omega
   simp only [e56_3, List.length_map, za1 hi, za5 b i hi, zbJ hi, zak, zal, zr, zs, zH, zt, Option.bind_some, cond_true, List.foldl_append, List.foldl_cons, List.foldl_nil]
   rw [p95 _ b[i] (hk i) (hb _ (List.getElem_mem hi)) (by unfold few; omega) hmi' (by omega) (by omega)]
   simp only [zD, Option.bind_some, zaM i (by omega)])
  (by simp only [e56_3, List.length_map, zaW, cond_false])
 simp only [List.take_length, List.take_zero, List.foldl_nil] at hloop
 have hli := hl b.length
 have hki := hk b.length
 rw [List.take_length] at hli hki
 refine zaz (u := .tuple [.slice .any ((zh1 a b).1.map Tm.cs), .agg (zh1 a b).2.c]) (h := []) ?_ rfl
 rw [e56, zay]
 refine (zZ hloop _).trans ?_
 unfold zh1
 have hfin := p96 (b.foldl ins a) 6 0 0 hki (by unfold few; omega) (by decide) (by decide) (by decide) (by decide)
 generalize b.foldl ins a = m at *
 have g1 : ∀ x, nth (zfY (b.map Tm.cs) 0 0 (m.map Tm.cs) x).t 1 = .slice .any (b.map Tm.cs) := fun _ => rfl
 have g2 : ∀ x, nth (zfY (b.map Tm.cs) 0 0 (m.map Tm.cs) x).t 5 = .box [.int .i64 0, .int .i64 0] := fun _ => rfl
 have g3 : ∀ x, nth (zfY (b.map Tm.cs) 0 0 (m.map Tm.cs) x).t 6 = .slice .any (m.map Tm.cs) := fun _ => rfl
 have g4 : ∀ x, nth (zfY (b.map Tm.cs) 0 0 (m.map Tm.cs) x).t 7 = .int .i64 x := fun _ => rfl
 simp only [g1, g2, g3, g4, Nat.beq_refl, zs, zQ, zD, zw, zI, zP, zu, zV, zr, zC, zt, zR, z6, z7, zY, zG, zM, zN, zW, zA, zH, zK, zL, Option.bind_some, Option.bind_none, cond_true, cond_false, zT, zU, hfin]
 rfl
end Go.Ab
namespace Go.Ab
def zh2 (n : Int) : Bool := fl n != ce n
def rlo (n : Int) (x : E6) : Int := if zh2 n = true ∧ x.odd = true then -1 else 0
def rhi (n : Int) : Int := if zh2 n = true then 1 else 0
def scT (c : Int) (t : Tm) : Tm := ⟨fl (t.c * c), t.e⟩
def zco (c : Int) (p : List Tm) : Int := zbo (p.map fun t => rlo (t.c * c) t.e)
def zcS (c : Int) (p : List Tm) : Int := zbo (p.map fun t => rhi (t.c * c))
def zaN (p : List Tm) (c : Int) : List Tm × Iv := zao (p.map (scT c)) 6 (zco c p) (zcS c p)
theorem zlw (n : Int) (x : E6) : -1 ≤ rlo n x ∧ rlo n x ≤ 0 := by unfold rlo; split <;> omega
theorem zlx (n : Int) : 0 ≤ rhi n ∧ rhi n ≤ 1 := by unfold rhi; split <;> omega
theorem zok : ∀ (l : List Int), (∀ x ∈ l, -1 ≤ x ∧ x ≤ 1) → -(l.length : Int) ≤ zbo l ∧ zbo l ≤ l.length
 | [], _ => by simp [zbo]
 | x :: l, h => by
  have h1 := h x (by simp)
  have h2 := zok l fun y hy => h y (by simp [hy])
  simp only [zbo, List.length_cons, Int.natCast_add, Int.natCast_one]
  omega
theorem zrZ (c : Int) (p : List Tm) : -(p.length : Int) ≤ zco c p ∧ zco c p ≤ p.length := by
 have := zok (p.map fun t => rlo (t.c * c) t.e) (fun x hx => by
  obtain ⟨t, _, rfl⟩ := List.mem_map.1 hx
  have := zlw (t.c * c) t.e; omega)
 simpa [zco] using this
theorem zr0 (c : Int) (p : List Tm) : -(p.length : Int) ≤ zcS c p ∧ zcS c p ≤ p.length := by
 have := zok (p.map fun t => rhi (t.c * c)) (fun x hx => by
  obtain ⟨t, _, rfl⟩ := List.mem_map.1 hx
  have := zlx (t.c * c); omega)
 simpa [zcS] using this
theorem zr1 (c : Int) (p : List Tm) (t : Tm) : zco c (p ++ [t]) = zco c p + rlo (t.c * c) t.e := by simp [zco, zeb, zbo]
theorem zr2 (c : Int) (p : List Tm) (t : Tm) : zcS c (p ++ [t]) = zcS c p + rhi (t.c * c) := by simp [zcS, zeb, zbo]
theorem ztu {lo hi : Int} (x : E6) (r : List (List V)) (h1 : -1000000000 ≤ lo) (h2 : lo ≤ 1000000000) (h3 : -1000000000 ≤ hi) (h4 : hi ≤ 1000000000) :
  (CW GZ LZ).s (.func 98) [.ptr 1 0, .agg [.int .u8 ((x.a : Nat) : Int), .int .u8 ((x.b : Nat) : Int), .int .u8 ((x.c : Nat) : Int), .int .u8 ((x.d : Nat) : Int), .int .u8 ((x.e : Nat) : Int), .int .u8 ((x.f : Nat) : Int)]] [.arr true 7 r, .cells [.int .i64 lo, .int .i64 hi]] = some (.tuple [], [.arr true 7 r, .cells [.int .i64 (if x.odd = true then lo - 1 else lo), .int .i64 (hi + 1)]]) := by
 refine zd5 ?_
 rw [zth]
 rw [p111 x, w64 (x := lo - 1) (by omega) (by omega), w64 (x := hi + 1) (by omega) (by omega)]
 simp only [zQ, Option.bind_some]
 cases x.odd <;> rfl
def scS (c : Int) (p : List Tm) (i : Nat) : St := zcU c 0 0 ((((p.take i).map (scT c)).map Tm.cs).length) (p.map Tm.cs) ((p.length : Nat) : Int) ((i : Nat) : Int) (((p.take i).map (scT c)).map Tm.cs) (zco c (p.take i)) (zcS c (p.take i))
theorem zum (c : Int) (p : List Tm) (i : Nat) (hi : i < p.length) (hf : p.length ≤ 10000) (hc : zz c) (hn : zz p[i].c) : zp GZ LZ (CW GZ LZ) 79 none 4 (scS c p i) = some (.normal, scS c p (i + 1)) := by
 have hr : ((((p.take i).map (scT c)).map Tm.cs).length + 1) * 16 ≤ zaf := by simp only [List.length_map, List.length_take]; unfold zaf; omega
 have b1 := zrZ c (p.take i)
 have b2 := zr0 c (p.take i)
 have bl : (p.take i).length ≤ 10000 := by simp only [List.length_take]; omega
 have ap : List.append (((p.take i).map (scT c)).map Tm.cs) [Tm.cs ⟨fl (p[i].c * c), p[i].e⟩] = ((p.take i ++ [p[i]]).map (scT c)).map Tm.cs := by rw [List.map_append, List.map_append]; rfl
 have aq : (((p.take i).map (scT c)).map Tm.cs).length + 1 = (((p.take i ++ [p[i]]).map (scT c)).map Tm.cs).length := by rw [List.map_append, List.map_append, List.length_append]; rfl
 have hr' : decide (((((p.take i ++ [p[i]]).map (scT c)).map Tm.cs).length) * 16 ≤ zaf) = true := by rw [← aq]; exact decide_eq_true hr
 have zc : ∀ z : Int, [V.int .i64 z, .int .u8 ((p[i].e.a : Nat) : Int), .int .u8 ((p[i].e.b : Nat) : Int), .int .u8 ((p[i].e.c : Nat) : Int), .int .u8 ((p[i].e.d : Nat) : Int), .int .u8 ((p[i].e.e : Nat) : Int), .int .u8 ((p[i].e.f : Nat) : Int)] = Tm.cs ⟨z, p[i].e⟩ := fun _ => rfl
 have hm := p97 p[i].c c (zb2 hn hc)
 unfold scS
 rw [e79_4, za1 hi, za5 p i hi, zbJ hi, zr1, zr2]
 simp only [zak, zal, zr, zs, zH, zt, Option.bind_some, cond_true, hm, zI, zaM i (by omega)]
 cases hx : zh2 (p[i].c * c)
 ·have hx' : (fl (p[i].c * c) != ce (p[i].c * c)) = false := hx
  have e1 : rlo (p[i].c * c) p[i].e = 0 := by simp [rlo, hx]
  have e2 : rhi (p[i].c * c) = 0 := by simp [rhi, hx]
  simp only [hx', cond_false, cond_true, decide_true, hr', e1, e2, Int.add_zero, zc, ap, aq]
 ·have hx' : (fl (p[i].c * c) != ce (p[i].c * c)) = true := hx
  have e1 : zco c (p.take i) + rlo (p[i].c * c) p[i].e = if p[i].e.odd = true then zco c (p.take i) - 1 else zco c (p.take i) := by
   simp only [rlo, hx, true_and]; split <;> omega
  have e2 : rhi (p[i].c * c) = 1 := by simp [rhi, hx]
  rw [e1, e2]
  simp only [hx', cond_true]
  rw [ztu p[i].e _ (by omega) (by omega) (by omega) (by omega)]
  simp only [zI, zt, zC, zG, zu, zr, zs, Option.bind_some, decide_true, cond_true, hr', zc, ap, aq]
theorem p79 (p : List Tm) (c : Int) (hk : oks p) (hn : za6 p) (hf : p.length ≤ 10000) (hc : zz c) :
  (CW GZ LZ).p (.func 79) [.slice .any (p.map Tm.cs), .int .i64 c] = some (.tuple [.slice .any ((zaN p c).1.map Tm.cs), .agg (zaN p c).2.c]) := by
 have hloop := zb1 (round := zp GZ LZ (CW GZ LZ) 79 none 4) (scS c p) p.length (id := 0) (fun i hi => zum c p i hi hf hc (hn _ (List.getElem_mem hi))) (by unfold scS; rw [e79_4, zaW]; rfl)
 have hstart : scS c p 0 = zcU c 0 0 0 (p.map Tm.cs) (((p.map Tm.cs).length : Nat) : Int) 0 [] 0 0 := by simp [scS, zco, zcS, zbo]
 rw [hstart] at hloop
 have b1 := zrZ c p
 have b2 := zr0 c p
 have hfin := p94 (p.map (scT c)) 6 (zco c p) (zcS c p) (fun t ht => by
  obtain ⟨u, hu, rfl⟩ := List.mem_map.1 ht
  exact hk u hu) (by unfold few; rw [List.length_map]; omega) (by omega) (by omega) (by omega) (by omega)
 have hend : scS c p p.length = zcU c 0 0 (((p.map (scT c)).map Tm.cs).length) (p.map Tm.cs) ((p.length : Nat) : Int) ((p.length : Nat) : Int) ((p.map (scT c)).map Tm.cs) (zco c p) (zcS c p) := by simp only [scS, List.take_length]
 rw [hend] at hloop
 refine zaz (u := .tuple [.slice .any ((zaN p c).1.map Tm.cs), .agg (zaN p c).2.c]) (h := [.arr false 7 ((p.map (scT c)).map Tm.cs), .cells [.int .i64 (zco c p), .int .i64 (zcS c p)]]) ?_ rfl
 rw [e79, zay]
 refine (zZ hloop _).trans ?_
 unfold zaN
 generalize p.map (scT c) = m at *
 generalize zco c p = l1 at *
 generalize zcS c p = h1 at *
 have g1 : ∀ x y, nth (zcU c 0 0 (m.map Tm.cs).length (p.map Tm.cs) x y (m.map Tm.cs) l1 h1).t 1 = .int .i64 c := fun _ _ => rfl
 have g2 : ∀ x y, nth (zcU c 0 0 (m.map Tm.cs).length (p.map Tm.cs) x y (m.map Tm.cs) l1 h1).t 5 = .box [.int .i64 0, .int .i64 0] := fun _ _ => rfl
 have g3 : ∀ x y, nth (zcU c 0 0 (m.map Tm.cs).length (p.map Tm.cs) x y (m.map Tm.cs) l1 h1).t 6 = .arr 0 (m.map Tm.cs).length 7 := fun _ _ => rfl
 have g4 : ∀ x y, nth (zcU c 0 0 (m.map Tm.cs).length (p.map Tm.cs) x y (m.map Tm.cs) l1 h1).t 7 = .ptr 1 0 := fun _ _ => rfl
 have g5 : ∀ x y, nth (zcU c 0 0 (m.map Tm.cs).length (p.map Tm.cs) x y (m.map Tm.cs) l1 h1).t 12 = .slice .any (p.map Tm.cs) := fun _ _ => rfl
 have g6 : ∀ x y, nth (zcU c 0 0 (m.map Tm.cs).length (p.map Tm.cs) x y (m.map Tm.cs) l1 h1).t 13 = .int .i64 x := fun _ _ => rfl
 have g7 : ∀ x y, nth (zcU c 0 0 (m.map Tm.cs).length (p.map Tm.cs) x y (m.map Tm.cs) l1 h1).t 14 = .int .i64 y := fun _ _ => rfl
 have g8 : ∀ x y, (zcU c 0 0 (m.map Tm.cs).length (p.map Tm.cs) x y (m.map Tm.cs) l1 h1).h = [.arr true 7 (m.map Tm.cs), .cells [.int .i64 l1, .int .i64 h1]] := fun _ _ => rfl
 simp only [g1, g2, g3, g4, g5, g6, g7, g8, Nat.beq_refl, zs, zQ, zD, zw, zI, zP, zu, zV, zr, zC, zt, zR, z6, z7, zY, zG, zM, zN, zW, zA, zH, zK, zL, Option.bind_some, Option.bind_none, cond_true, cond_false, zT, zU, hfin]
 rfl
end Go.Ab
namespace Go.Ab
structure Pt where
 a : Int
 b : Int
 c : Int
 d : Int
 e : Int
 f : Int
def Pt.ok (z : Pt) : Prop := (-2 ≤ z.a ∧ z.a ≤ 2) ∧ (-2 ≤ z.b ∧ z.b ≤ 2) ∧ (-2 ≤ z.c ∧ z.c ≤ 2) ∧ (-2 ≤ z.d ∧ z.d ≤ 2) ∧ (-2 ≤ z.e ∧ z.e ≤ 2) ∧ (-2 ≤ z.f ∧ z.f ≤ 2)
def inB (b x : Int) : Prop := -b ≤ x ∧ x ≤ b
def znm (t : Tm) (z : Pt) : Int := t.c * z.a ^ t.e.a * z.b ^ t.e.b * z.c ^ t.e.c * z.d ^ t.e.d * z.e ^ t.e.e * z.f ^ t.e.f
def valT (z : Pt) (t : Tm) : Int := znm t z * 2 ^ (12 - t.e.deg)
def zma (p : List Tm) (z : Pt) : Int := zbo (p.map (valT z))
end Go.Ab
namespace Go.Ab
def deg6 (p : List Tm) : Prop := ∀ t ∈ p, t.e.deg ≤ 6
end Go.Ab
namespace Go.Ab
end Go.Ab
namespace Go.Ab
theorem w8 {x : Int} (h1 : 0 ≤ x) (h2 : x < 256) : IntKind.wrap .u8 x = x := by
 have e : IntKind.wrap .u8 x = x % 256 := by simp [IntKind.wrap, IntKind.bits, IntKind.signed]
 rw [e]; omega
def mk1 (u l : Nat) : Nat := u % 7 % (l + 1)
theorem zdn (u l : Nat) : mk1 u l ≤ l := by have := Nat.mod_lt (u % 7) (show 0 < l + 1 by omega); unfold mk1; omega
theorem zjy (u l : Nat) (h : l ≤ 6) : Int.tmod (Int.tmod ((u : Nat) : Int) 7) (IntKind.wrap .u8 (IntKind.wrap .i64 (((l : Nat) : Int) + 1))) = ((mk1 u l : Nat) : Int) := by
 rw [w64 (by omega) (by omega), w8 (by omega) (by omega), Int.tmod_eq_emod_of_nonneg (a := ((u : Nat) : Int)) (by omega), Int.tmod_eq_emod_of_nonneg (by omega)]
 unfold mk1
 rw [Int.natCast_emod, Int.natCast_emod]
 simp
theorem mk0 (l : Nat) (h : l ≤ 6) : (IntKind.wrap .u8 (IntKind.wrap .i64 (((l : Nat) : Int) + 1)) == 0) = false := by
 rw [w64 (by omega) (by omega), w8 (by omega) (by omega)]
 simp only [beq_eq_false_iff_ne, ne_eq]; omega
theorem mkw (v l : Nat) (h : l ≤ 6) (hv : v ≤ l) : IntKind.wrap .i64 (((l : Nat) : Int) - IntKind.wrap .i64 ((v : Nat) : Int)) = ((l - v : Nat) : Int) := by
 rw [w64 (x := ((v : Nat) : Int)) (by omega) (by omega), w64 (by omega) (by omega)]; omega
theorem made_0 (p : List Tm) (i : Nat) (hi : i < p.length) (most size c e0 e1 e2 e3 e4 e5 : Int) (out : List (List V)) (l : Nat) (hl : l ≤ 6) :
  zp GZ LZ (CW GZ LZ) 72 none 7 (zaZ (p.map Tm.cs) most size out ((i : Nat) : Int) c e0 e1 e2 e3 e4 e5 ((l : Nat) : Int) 0) = some (.normal, zaZ (p.map Tm.cs) most size out ((i : Nat) : Int) c ((mk1 p[i].e.a l : Nat) : Int) e1 e2 e3 e4 e5 ((l - mk1 p[i].e.a l : Nat) : Int) 1) := by
 rw [zhW, za5 p i hi]
 simp only [zak, zal, zr, zs, zH, zt, Option.bind_some]
 refine Eq.trans (b := cond (IntKind.wrap .u8 (IntKind.wrap .i64 (((l : Nat) : Int) + 1)) == 0) none (some (.normal, zaZ (p.map Tm.cs) most size out ((i : Nat) : Int) c (Int.tmod (Int.tmod ((p[i].e.a : Nat) : Int) 7) (IntKind.wrap .u8 (IntKind.wrap .i64 (((l : Nat) : Int) + 1)))) e1 e2 e3 e4 e5 (IntKind.wrap .i64 (((l : Nat) : Int) - IntKind.wrap .i64 (Int.tmod (Int.tmod ((p[i].e.a : Nat) : Int) 7) (IntKind.wrap .u8 (IntKind.wrap .i64 (((l : Nat) : Int) + 1)))))) 1))) (by kernel_rfl) ?_
 rw [mk0 l hl, zjy _ l hl, mkw _ l hl (zdn _ _)]
 rfl
theorem made_1 (p : List Tm) (i : Nat) (hi : i < p.length) (most size c e0 e1 e2 e3 e4 e5 : Int) (out : List (List V)) (l : Nat) (hl : l ≤ 6) :
  zp GZ LZ (CW GZ LZ) 72 none 7 (zaZ (p.map Tm.cs) most size out ((i : Nat) : Int) c e0 e1 e2 e3 e4 e5 ((l : Nat) : Int) 1) = some (.normal, zaZ (p.map Tm.cs) most size out ((i : Nat) : Int) c e0 ((mk1 p[i].e.b l : Nat) : Int) e2 e3 e4 e5 ((l - mk1 p[i].e.b l : Nat) : Int) 2) := by
 rw [zhW, za5 p i hi]
 simp only [zak, zal, zr, zs, zH, zt, Option.bind_some]
 refine Eq.trans (b := cond (IntKind.wrap .u8 (IntKind.wrap .i64 (((l : Nat) : Int) + 1)) == 0) none (some (.normal, zaZ (p.map Tm.cs) most size out ((i : Nat) : Int) c e0 (Int.tmod (Int.tmod ((p[i].e.b : Nat) : Int) 7) (IntKind.wrap .u8 (IntKind.wrap .i64 (((l : Nat) : Int) + 1)))) e2 e3 e4 e5 (IntKind.wrap .i64 (((l : Nat) : Int) - IntKind.wrap .i64 (Int.tmod (Int.tmod ((p[i].e.b : Nat) : Int) 7) (IntKind.wrap .u8 (IntKind.wrap .i64 (((l : Nat) : Int) + 1)))))) 2))) (by kernel_rfl) ?_
 rw [mk0 l hl, zjy _ l hl, mkw _ l hl (zdn _ _)]
 rfl
theorem made_2 (p : List Tm) (i : Nat) (hi : i < p.length) (most size c e0 e1 e2 e3 e4 e5 : Int) (out : List (List V)) (l : Nat) (hl : l ≤ 6) :
  zp GZ LZ (CW GZ LZ) 72 none 7 (zaZ (p.map Tm.cs) most size out ((i : Nat) : Int) c e0 e1 e2 e3 e4 e5 ((l : Nat) : Int) 2) = some (.normal, zaZ (p.map Tm.cs) most size out ((i : Nat) : Int) c e0 e1 ((mk1 p[i].e.c l : Nat) : Int) e3 e4 e5 ((l - mk1 p[i].e.c l : Nat) : Int) 3) := by
 rw [zhW, za5 p i hi]
 simp only [zak, zal, zr, zs, zH, zt, Option.bind_some]
 refine Eq.trans (b := cond (IntKind.wrap .u8 (IntKind.wrap .i64 (((l : Nat) : Int) + 1)) == 0) none (some (.normal, zaZ (p.map Tm.cs) most size out ((i : Nat) : Int) c e0 e1 (Int.tmod (Int.tmod ((p[i].e.c : Nat) : Int) 7) (IntKind.wrap .u8 (IntKind.wrap .i64 (((l : Nat) : Int) + 1)))) e3 e4 e5 (IntKind.wrap .i64 (((l : Nat) : Int) - IntKind.wrap .i64 (Int.tmod (Int.tmod ((p[i].e.c : Nat) : Int) 7) (IntKind.wrap .u8 (IntKind.wrap .i64 (((l : Nat) : Int) + 1)))))) 3))) (by kernel_rfl) ?_
 rw [mk0 l hl, zjy _ l hl, mkw _ l hl (zdn _ _)]
 rfl
theorem made_3 (p : List Tm) (i : Nat) (hi : i < p.length) (most size c e0 e1 e2 e3 e4 e5 : Int) (out : List (List V)) (l : Nat) (hl : l ≤ 6) :
  zp GZ LZ (CW GZ LZ) 72 none 7 (zaZ (p.map Tm.cs) most size out ((i : Nat) : Int) c e0 e1 e2 e3 e4 e5 ((l : Nat) : Int) 3) = some (.normal, zaZ (p.map Tm.cs) most size out ((i : Nat) : Int) c e0 e1 e2 ((mk1 p[i].e.d l : Nat) : Int) e4 e5 ((l - mk1 p[i].e.d l : Nat) : Int) 4) := by
 rw [zhW, za5 p i hi]
 simp only [zak, zal, zr, zs, zH, zt, Option.bind_some]
 refine Eq.trans (b := cond (IntKind.wrap .u8 (IntKind.wrap .i64 (((l : Nat) : Int) + 1)) == 0) none (some (.normal, zaZ (p.map Tm.cs) most size out ((i : Nat) : Int) c e0 e1 e2 (Int.tmod (Int.tmod ((p[i].e.d : Nat) : Int) 7) (IntKind.wrap .u8 (IntKind.wrap .i64 (((l : Nat) : Int) + 1)))) e4 e5 (IntKind.wrap .i64 (((l : Nat) : Int) - IntKind.wrap .i64 (Int.tmod (Int.tmod ((p[i].e.d : Nat) : Int) 7) (IntKind.wrap .u8 (IntKind.wrap .i64 (((l : Nat) : Int) + 1)))))) 4))) (by kernel_rfl) ?_
 rw [mk0 l hl, zjy _ l hl, mkw _ l hl (zdn _ _)]
 rfl
theorem made_4 (p : List Tm) (i : Nat) (hi : i < p.length) (most size c e0 e1 e2 e3 e4 e5 : Int) (out : List (List V)) (l : Nat) (hl : l ≤ 6) :
  zp GZ LZ (CW GZ LZ) 72 none 7 (zaZ (p.map Tm.cs) most size out ((i : Nat) : Int) c e0 e1 e2 e3 e4 e5 ((l : Nat) : Int) 4) = some (.normal, zaZ (p.map Tm.cs) most size out ((i : Nat) : Int) c e0 e1 e2 e3 ((mk1 p[i].e.e l : Nat) : Int) e5 ((l - mk1 p[i].e.e l : Nat) : Int) 5) := by
 rw [zhW, za5 p i hi]
 simp only [zak, zal, zr, zs, zH, zt, Option.bind_some]
 refine Eq.trans (b := cond (IntKind.wrap .u8 (IntKind.wrap .i64 (((l : Nat) : Int) + 1)) == 0) none (some (.normal, zaZ (p.map Tm.cs) most size out ((i : Nat) : Int) c e0 e1 e2 e3 (Int.tmod (Int.tmod ((p[i].e.e : Nat) : Int) 7) (IntKind.wrap .u8 (IntKind.wrap .i64 (((l : Nat) : Int) + 1)))) e5 (IntKind.wrap .i64 (((l : Nat) : Int) - IntKind.wrap .i64 (Int.tmod (Int.tmod ((p[i].e.e : Nat) : Int) 7) (IntKind.wrap .u8 (IntKind.wrap .i64 (((l : Nat) : Int) + 1)))))) 5))) (by kernel_rfl) ?_
 rw [mk0 l hl, zjy _ l hl, mkw _ l hl (zdn _ _)]
 rfl
theorem made_5 (p : List Tm) (i : Nat) (hi : i < p.length) (most size c e0 e1 e2 e3 e4 e5 : Int) (out : List (List V)) (l : Nat) (hl : l ≤ 6) :
  zp GZ LZ (CW GZ LZ) 72 none 7 (zaZ (p.map Tm.cs) most size out ((i : Nat) : Int) c e0 e1 e2 e3 e4 e5 ((l : Nat) : Int) 5) = some (.normal, zaZ (p.map Tm.cs) most size out ((i : Nat) : Int) c e0 e1 e2 e3 e4 ((mk1 p[i].e.f l : Nat) : Int) ((l - mk1 p[i].e.f l : Nat) : Int) 6) := by
 rw [zhW, za5 p i hi]
 simp only [zak, zal, zr, zs, zH, zt, Option.bind_some]
 refine Eq.trans (b := cond (IntKind.wrap .u8 (IntKind.wrap .i64 (((l : Nat) : Int) + 1)) == 0) none (some (.normal, zaZ (p.map Tm.cs) most size out ((i : Nat) : Int) c e0 e1 e2 e3 e4 (Int.tmod (Int.tmod ((p[i].e.f : Nat) : Int) 7) (IntKind.wrap .u8 (IntKind.wrap .i64 (((l : Nat) : Int) + 1)))) (IntKind.wrap .i64 (((l : Nat) : Int) - IntKind.wrap .i64 (Int.tmod (Int.tmod ((p[i].e.f : Nat) : Int) 7) (IntKind.wrap .u8 (IntKind.wrap .i64 (((l : Nat) : Int) + 1)))))) 6))) (by kernel_rfl) ?_
 rw [mk0 l hl, zjy _ l hl, mkw _ l hl (zdn _ _)]
 rfl
def mkE (x : E6) : E6 :=
 let a := mk1 x.a 6
 let b := mk1 x.b (6 - a)
 let c := mk1 x.c (6 - a - b)
 let d := mk1 x.d (6 - a - b - c)
 let e := mk1 x.e (6 - a - b - c - d)
 ⟨a, b, c, d, e, mk1 x.f (6 - a - b - c - d - e)⟩
theorem zr3 (x : E6) : (mkE x).ok ∧ (mkE x).deg ≤ 6 := by
 have h1 := zdn x.a 6
 have h2 := zdn x.b (6 - mk1 x.a 6)
 have h3 := zdn x.c (6 - mk1 x.a 6 - mk1 x.b (6 - mk1 x.a 6))
 simp only [mkE, E6.ok, E6.deg]
 generalize mk1 x.a 6 = a at *
 generalize mk1 x.b (6 - a) = b at *
 generalize mk1 x.c (6 - a - b) = c at *
 have h4 := zdn x.d (6 - a - b - c)
 generalize mk1 x.d (6 - a - b - c) = d at *
 have h5 := zdn x.e (6 - a - b - c - d)
 generalize mk1 x.e (6 - a - b - c - d) = e at *
 have h6 := zdn x.f (6 - a - b - c - d - e)
 omega
theorem ztv (p : List Tm) (i : Nat) (hi : i < p.length) (most size c : Int) (out : List (List V)) : ∃ l : Int,
  zam (zp GZ LZ (CW GZ LZ) 72 none 7) (zaZ (p.map Tm.cs) most size out ((i : Nat) : Int) c 0 0 0 0 0 0 6 0) = some (.exit 2, zaZ (p.map Tm.cs) most size out ((i : Nat) : Int) c (((mkE p[i].e).a : Nat) : Int) (((mkE p[i].e).b : Nat) : Int) (((mkE p[i].e).c : Nat) : Int) (((mkE p[i].e).d : Nat) : Int) (((mkE p[i].e).e : Nat) : Int) (((mkE p[i].e).f : Nat) : Int) l 6) := by
 refine ⟨((6 - (mkE p[i].e).a - (mkE p[i].e).b - (mkE p[i].e).c - (mkE p[i].e).d - (mkE p[i].e).e - (mkE p[i].e).f : Nat) : Int), ?_⟩
 refine (zk (made_0 p i hi most size c 0 0 0 0 0 0 out 6 (by omega))).trans ?_
 refine (zk (made_1 p i hi most size c _ 0 0 0 0 0 out _ (by omega))).trans ?_
 refine (zk (made_2 p i hi most size c _ _ 0 0 0 0 out _ (by omega))).trans ?_
 refine (zk (made_3 p i hi most size c _ _ _ 0 0 0 out _ (by omega))).trans ?_
 refine (zk (made_4 p i hi most size c _ _ _ _ 0 0 out _ (by omega))).trans ?_
 refine (zk (made_5 p i hi most size c _ _ _ _ _ 0 out _ (by omega))).trans ?_
 exact za9 (zhW _ _ _ _ _ _ _ _ _ _ _ _ _ _ _)
end Go.Ab
