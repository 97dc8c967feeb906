/- Validity and equality of polynomials, of the program and of the reference; conditions: bytes; few terms. -/
import Derived.KernelRfl
import Derived.Test.YtpalbaaghplhnaaDoorP1
set_option linter.unusedVariables false
set_option linter.unusedSimpArgs false
namespace Go.Ab
def zj2 (a b : Tm) : Prop := a.e.key < b.e.key
instance (a b : Tm) : Decidable (zj2 a b) := inferInstanceAs (Decidable (_ < _))
def za6 (p : List Tm) : Prop := p.Pairwise zj2
instance (p : List Tm) : Decidable (za6 p) := inferInstanceAs (Decidable (List.Pairwise _ _))
def zbX (t : Tm) : Prop := zs t.c ∧ t.c ≠ 0 ∧ t.e.deg ≤ 6
instance (t : Tm) : Decidable (zbX t) := inferInstanceAs (Decidable (_ ∧ _))
def zei (p : List Tm) : Prop := (∀ t ∈ p, zbX t) ∧ za6 p ∧ p.length ≤ 100
instance (p : List Tm) : Decidable (zei p) := inferInstanceAs (Decidable (_ ∧ _))
def zi4 (p : List Tm) (i : Nat) : Bool := if h : i < p.length then decide (zbX p[i]) && (if h2 : 0 < i then decide (p[i - 1].e.key < p[i].e.key) else true) else true
theorem zq7 {p : List Tm} (h : ∀ i, i < p.length → zi4 p i = true) : (∀ t ∈ p, zbX t) ∧ za6 p := by
 have h' : ∀ i (hi : i < p.length), zbX p[i] ∧ ∀ (h2 : 0 < i), p[i - 1].e.key < p[i].e.key := by
  intro i hi
  have := h i hi
  simp only [zi4, hi, dif_pos, Bool.and_eq_true, decide_eq_true_eq] at this
  refine ⟨this.1, fun h2 => ?_⟩
  have h3 := this.2
  rw [dif_pos h2] at h3
  exact of_decide_eq_true h3
 refine ⟨fun t ht => ?_, ?_⟩
 ·obtain ⟨i, hi, rfl⟩ := List.mem_iff_getElem.1 ht
  exact (h' i hi).1
 ·unfold za6
  rw [List.pairwise_iff_getElem]
  intro i j hi hj hij
  have : ∀ k (hk : i + 1 + k < p.length), p[i].e.key < p[i + 1 + k].e.key := by
   intro k
   induction k with
   | zero => intro hk; have := (h' (i + 1) hk).2 (by omega); simpa using this
   | succ k ih =>
    intro hk
    have h1 := ih (by omega)
    have h2 := (h' (i + 1 + (k + 1)) hk).2 (by omega)
    simp only [show i + 1 + (k + 1) - 1 = i + 1 + k by omega] at h2
    omega
  have := this (j - i - 1) (by omega)
  simp only [show i + 1 + (j - i - 1) = j by omega] at this
  exact this
theorem zmz {p : List Tm} {i : Nat} (hi : i < p.length) (h : zi4 p i = false) : ¬ ((∀ t ∈ p, zbX t) ∧ za6 p) := by
 rintro ⟨h1, h2⟩
 simp only [zi4, hi, dif_pos, Bool.and_eq_false_iff, decide_eq_false_iff_not] at h
 rcases h with h | h
 ·exact h (h1 _ (List.getElem_mem hi))
 ·split at h
  ·rename_i h3
   simp only [decide_eq_false_iff_not] at h
   unfold za6 at h2
   rw [List.pairwise_iff_getElem] at h2
   exact h (h2 (i - 1) i (by omega) hi (by omega))
  ·cases h
theorem zpJ (x y : E6) : decide (x.ord y ≥ 0) = !decide (x.key < y.key) := by
 unfold E6.ord
 by_cases h1 : x.key < y.key
 ·simp [h1]
 ·by_cases h2 : y.key < x.key <;> simp [h1, h2]
theorem wpredN (i : Nat) (h0 : 0 < i) (h : i ≤ 1000000000) : IntKind.wrap .i64 (((i : Nat) : Int) - 1) = ((i - 1 : Nat) : Int) := by
 rw [w64 (by omega) (by omega)]; omega
theorem zrS {i : Nat} : decide (((i : Nat) : Int) > 0) = decide (0 < i) := by
 by_cases h : 0 < i
 ·simp [h]
 ·simp [h]
theorem zi5 (p : List Tm) (hk : oks p) (hf : few p) (i : Nat) (hi : i < p.length) : zw GU LU (CW GU LU) 45 none 2 (zcy (p.map Tm.cs) false (p.map Tm.cs) ((p.length : Nat) : Int) ((i : Nat) : Int)) =
   if zi4 p i = true then some (.normal, zcy (p.map Tm.cs) false (p.map Tm.cs) ((p.length : Nat) : Int) ((i + 1 : Nat) : Int)) else some (.ret, zcy (p.map Tm.cs) false (p.map Tm.cs) ((p.length : Nat) : Int) ((i : Nat) : Int)) := by
 have hfl : p.length ≤ 100000 := hf
 have hx : p[i].e.ok := hk _ (List.getElem_mem hi)
 rw [e45_2, zcJ hi, zeh p i hi, zrS]
 simp only [zb9, zca, zA, zT, zH, zC, zJ, zY, zx, zW, zy, zD, zB, zP, zaa, zah, zZ, zK, zN, zO, zX, zG, zR, zI, zL, Option.bind_some, Option.bind_none, cond_true, cond_false, zU, zV, p60, zbS i (by omega)]
 rw [p61 _ hx]
 simp only [zA, Option.bind_some, zU]
 simp only [zi4, hi, dif_pos]
 by_cases h1 : zs p[i].c
 ·by_cases h2 : p[i].c = 0
  ·have e2 : (p[i].c == 0) = true := by simpa using h2
   have : ¬ zbX p[i] := fun h => h.2.1 h2
   simp [h1, e2, this]
  ·have e2 : (p[i].c == 0) = false := by simpa using h2
   by_cases h3 : p[i].e.deg ≤ 6
   ·have e3 : ¬ ((p[i].e.deg : Nat) : Int) > 6 := by omega
    have hfi : zbX p[i] := ⟨h1, h2, h3⟩
    by_cases h4 : 0 < i
    ·have hx' : p[i - 1].e.ok := hk _ (List.getElem_mem _)
     simp only [h1, e2, e3, h4, hfi, if_true, if_false, cond_false, wpredN i h4 (by omega), zeh p (i - 1) (by omega), zb9, zca, zA, zT, zH, zC, zJ, zY, zx, zW, zy, zD, zB, zP, zaa, zah, zZ, zK, zN, zO, zX, zG, zR, zI, zL, Option.bind_some, Option.bind_none, cond_true, cond_false, zU, zV, p54 _ _ hx' hx, decide_true, Bool.true_and, dif_pos]
     by_cases h5 : p[i - 1].e.key < p[i].e.key
     ·have e5 : ¬ p[i - 1].e.ord p[i].e ≥ 0 := by have := zpJ p[i - 1].e p[i].e; simpa [h5] using this
      simp only [h5, e5, decide_true, if_true, if_false]
     ·have e5 : p[i - 1].e.ord p[i].e ≥ 0 := by have := zpJ p[i - 1].e p[i].e; simpa [h5] using this
      simp only [h5, e5, decide_false, if_true, if_false, Bool.false_eq_true]
    ·simp only [h1, e2, e3, h4, hfi, if_true, if_false, cond_false, decide_true, Bool.and_self, dif_neg, not_false_eq_true]
   ·have e3 : ((p[i].e.deg : Nat) : Int) > 6 := by omega
    have : ¬ zbX p[i] := fun h => h3 h.2.2
    simp [h1, e2, e3, this]
 ·have : ¬ zbX p[i] := fun h => h1 h.1
  simp [h1, this]
theorem p45 (p : List Tm) (hk : oks p) (hf : few p) : (CW GU LU).p (.func 45) [.slice .any (p.map Tm.cs)] = some (.bool (decide (zei p))) := by
 have hfl : p.length ≤ 100000 := hf
 have hstep := zi5 p hk hf
 have hloop := zfc (round := zw GU LU (CW GU LU) 45 none 2) (fun i => zcy (p.map Tm.cs) false (p.map Tm.cs) ((p.length : Nat) : Int) ((i : Nat) : Int)) p.length (zi4 p)
  (fun z => ∃ x : Int, z = zcy (p.map Tm.cs) false (p.map Tm.cs) ((p.length : Nat) : Int) x) (id := 0)
  (fun i hi _ h => by rw [hstep i hi, if_pos h]) (fun i hi _ h => ⟨_, by rw [hstep i hi, if_neg (by rw [h]; simp)], _, rfl⟩)
  (fun _ => by simp only [e45_2, zci, cond_false])
 rcases hloop with ⟨hall, hl⟩ | ⟨⟨j, hj1, hj2⟩, z, hl, x, hz⟩
 ·have hv := zq7 hall
  have : decide (zei p) = decide ((((p.map Tm.cs).length : Nat) : Int) ≤ 100) := by
   rw [decide_eq_decide, List.length_map]
   exact ⟨fun h => by have := h.2.2; omega, fun h => ⟨hv.1, hv.2, by omega⟩⟩
  rw [this]
  refine zE (h := []) ?_ rfl
  rw [e45, zbo]
  refine (zae (show zas (zw GU LU (CW GU LU) 45 none 2) (zcy (p.map Tm.cs) false (p.map Tm.cs) (((p.map Tm.cs).length : Nat) : Int) 0) = some _ from by rw [List.length_map]; exact hl) _).trans ?_
  kernel_rfl
 ·have hn := zmz hj1 hj2
  have : decide (zei p) = false := by simp only [decide_eq_false_iff_not]; exact fun h => hn ⟨h.1, h.2.1⟩
  rw [this]
  rw [hz] at hl
  refine zE (h := []) ?_ rfl
  rw [e45, zbo]
  refine (zae (show zas (zw GU LU (CW GU LU) 45 none 2) (zcy (p.map Tm.cs) false (p.map Tm.cs) (((p.map Tm.cs).length : Nat) : Int) 0) = some _ from by rw [List.length_map]; exact hl) _).trans ?_
  kernel_rfl
def sameAt (a b : List Tm) (i : Nat) : Bool := if h : i < a.length ∧ i < b.length then decide (a[i]'h.1 = b[i]'h.2) else true
theorem zq8 {x y : E6} (hx : x.ok) (hy : y.ok) : (x.ord y != 0) = !decide (x = y) := by
 by_cases h : x = y
 ·subst h; simp [E6.ord]
 ·have : x.key ≠ y.key := fun e => h (E6.key_inj hx hy e)
  unfold E6.ord
  by_cases h1 : x.key < y.key
  ·simp [h1, h]
  ·have h2 : y.key < x.key := by omega
   simp [h1, h2, h]
theorem p43 (a b : List Tm) (ha : oks a) (hb : oks b) (hf : few a) : (CW GU LU).p (.func 43) [.slice .any (a.map Tm.cs), .slice .any (b.map Tm.cs)] = some (.bool (decide (a = b))) := by
 have hfl : a.length ≤ 100000 := hf
 by_cases hlen : a.length = b.length
 ·have hstep : ∀ i (hi : i < a.length), zw GU LU (CW GU LU) 43 none 4 (zeg (a.map Tm.cs) (b.map Tm.cs) false ((i : Nat) : Int)) =
    if sameAt a b i = true then some (.normal, zeg (a.map Tm.cs) (b.map Tm.cs) false ((i + 1 : Nat) : Int)) else some (.ret, zeg (a.map Tm.cs) (b.map Tm.cs) false ((i : Nat) : Int)) := by
   intro i hi
   have hi2 : i < b.length := by omega
   have hx : a[i].e.ok := ha _ (List.getElem_mem hi)
   have hy : b[i].e.ok := hb _ (List.getElem_mem hi2)
   rw [e43_4, List.length_map, zcJ hi, zeh a i hi, zeh b i hi2]
   simp only [zb9, zca, zA, zT, zH, zC, zJ, zY, zx, zW, zy, zD, zB, zP, zaa, zah, zZ, zK, zN, zO, zX, zG, zR, zI, zL, Option.bind_some, Option.bind_none, cond_true, cond_false, zU, zV, p59 _ _ hx hy, zbS i (by omega), zq8 hx hy, sameAt, hi, hi2, and_self, dif_pos]
   by_cases h1 : a[i].c = b[i].c
   ·have e1 : (a[i].c != b[i].c) = false := by simpa using h1
    by_cases h2 : a[i].e = b[i].e
    ·have : a[i] = b[i] := by cases h3 : a[i]; cases h4 : b[i]; simp_all
     simp only [e1, cond_false]
     simp only [h2, this, decide_true, if_true, Bool.not_true, cond_false]
    ·have : ¬ a[i] = b[i] := fun h => h2 (by rw [h])
     simp only [e1, h2, this, cond_false, decide_false, if_false, Bool.false_eq_true]
   ·have e1 : (a[i].c != b[i].c) = true := by simpa using h1
    have : ¬ a[i] = b[i] := fun h => h1 (by rw [h])
    simp only [e1, this, cond_true, decide_false, if_false, Bool.false_eq_true]
  have hloop := zfc (round := zw GU LU (CW GU LU) 43 none 4) (fun i => zeg (a.map Tm.cs) (b.map Tm.cs) false ((i : Nat) : Int)) a.length (sameAt a b)
   (fun z => ∃ x : Int, z = zeg (a.map Tm.cs) (b.map Tm.cs) false x) (id := 0)
   (fun i hi _ h => by rw [hstep i hi, if_pos h]) (fun i hi _ h => ⟨_, by rw [hstep i hi, if_neg (by rw [h]; simp)], _, rfl⟩)
   (fun _ => by simp only [e43_4, List.length_map, zci, cond_false])
  have el : ((((a.map Tm.cs).length : Nat) : Int) != (((b.map Tm.cs).length : Nat) : Int)) = false := by simp [hlen]
  rcases hloop with ⟨hall, hl⟩ | ⟨⟨j, hj1, hj2⟩, z, hl, x, hz⟩
  ·have : a = b := by
    apply List.ext_getElem hlen
    intro i h1 h2
    have := hall i h1
    simp only [sameAt, h1, h2, and_self, dif_pos, decide_eq_true_eq] at this
    exact this
   rw [show decide (a = b) = true by simpa using this]
   refine zE (h := []) ?_ rfl
   rw [e43, zbo, el]
   refine (zae hl _).trans ?_
   kernel_rfl
  ·have : ¬ a = b := by
    intro h
    subst h
    simp [sameAt] at hj2
   rw [show decide (a = b) = false by simpa using this]
   rw [hz] at hl
   refine zE (h := []) ?_ rfl
   rw [e43, zbo, el]
   refine (zae hl _).trans ?_
   kernel_rfl
 ·have : ¬ a = b := fun h => hlen (by rw [h])
  rw [show decide (a = b) = false by simpa using this]
  have el : ((((a.map Tm.cs).length : Nat) : Int) != (((b.map Tm.cs).length : Nat) : Int)) = true := by
   simp only [List.length_map, bne_iff_ne, ne_eq]; omega
  refine zE (h := []) ?_ rfl
  rw [e43, el]
  rfl
end Go.Ab
namespace Go.Ab
def zaQ : List Tm → List Tm → List Tm
 | [], b => b
 | x :: a, [] => x :: a
 | x :: a, y :: b => if x.e.key < y.e.key then x :: zaQ a (y :: b) else if y.e.key < x.e.key then y :: zaQ (x :: a) b else ⟨x.c + y.c, x.e⟩ :: zaQ a b
termination_by a b => a.length + b.length
theorem zaD (b : List Tm) : zaQ [] b = b := by rw [zaQ]
theorem zcU (a : List Tm) : zaQ a [] = a := by cases a <;> rw [zaQ]
theorem za0 (x y : Tm) (a b : List Tm) : zaQ (x :: a) (y :: b) = if x.e.key < y.e.key then x :: zaQ a (y :: b) else if y.e.key < x.e.key then y :: zaQ (x :: a) b else ⟨x.c + y.c, x.e⟩ :: zaQ a b := by rw [zaQ]
theorem zk2 : ∀ (n : Nat) (a b : List Tm), a.length + b.length ≤ n → (zaQ a b).length ≤ a.length + b.length := by
 intro n
 induction n with
 | zero => intro a b h; rw [List.length_eq_zero_iff.1 (show a.length = 0 by omega), zaD]; omega
 | succ n ih =>
  intro a b h
  cases a with
  | nil => rw [zaD]; omega
  | cons x a =>
   cases b with
   | nil => rw [zcU]; omega
   | cons y b =>
    rw [za0]
    simp only [List.length_cons] at h ⊢
    split
    ·have := ih a (y :: b) (by simp only [List.length_cons]; omega)
     simp only [List.length_cons] at this ⊢; omega
    ·split
     ·have := ih (x :: a) b (by simp only [List.length_cons]; omega)
      simp only [List.length_cons] at this ⊢; omega
     ·have := ih a b (by omega)
      simp only [List.length_cons] at this ⊢; omega
def zc3 (a b out : List Tm) : St := zbm (a.map Tm.cs) (b.map Tm.cs) 0 0 (out.map Tm.cs).length (out.map Tm.cs)
theorem zi6 : ∀ (l : List Tm), za2 7 (l.map Tm.cs) = true
 | [] => rfl
 | _ :: _ => rfl
theorem zrT (x : Tm) (l : List (List V)) : zab (x.cs :: l) 0 7 = some x.cs := rfl
theorem zq9 {α : Type} (x : α) (l : List α) : ((x :: l).take (x :: l).length).drop 1 = l := by rw [List.take_length]; rfl
theorem zmA (b out : List Tm) (h : out.length + b.length ≤ 1000000) : zw GU LU (CW GU LU) 32 none 2 (zc3 [] b out) = some (.exit 0, zc3 [] b (out ++ b)) := by
 have hr : ((out.map Tm.cs).length + (b.map Tm.cs).length) * 16 ≤ zaw := by simp only [List.length_map]; unfold zaw; omega
 unfold zc3
 rw [zow]
 simp only [List.map_nil, List.length_nil, zi6, hr, decide_true, cond_true, show (((0 : Nat) : Int) == 0) = true from rfl, List.map_append, List.length_append]
 rfl
theorem zra (x : Tm) (a out : List Tm) (h : out.length + (x :: a).length ≤ 1000000) : zw GU LU (CW GU LU) 32 none 2 (zc3 (x :: a) [] out) = some (.exit 0, zc3 (x :: a) [] (out ++ x :: a)) := by
 have hr : ((out.map Tm.cs).length + ((x :: a).map Tm.cs).length) * 16 ≤ zaw := by simp only [List.length_map]; unfold zaw; omega
 have e0 : (((((x :: a).map Tm.cs).length : Nat) : Int) == 0) = false := by simp only [List.length_map, List.length_cons, beq_eq_false_iff_ne, ne_eq]; omega
 unfold zc3
 rw [zow, e0]
 simp only [zi6, hr, decide_true, cond_true, cond_false, List.map_nil, List.length_nil, show (((0 : Nat) : Int) == 0) = true from rfl, List.map_append, List.length_append]
 rfl
theorem zrb (x y : Tm) (a b out : List Tm) (hx : x.e.ok) (hy : y.e.ok) (nx : zs x.c) (ny : zs y.c) (h : out.length ≤ 1000000) :
  zw GU LU (CW GU LU) 32 none 2 (zc3 (x :: a) (y :: b) out) = some (.normal, if x.e.key < y.e.key then zc3 a (y :: b) (out ++ [x]) else if y.e.key < x.e.key then zc3 (x :: a) b (out ++ [y]) else zc3 a b (out ++ [⟨x.c + y.c, x.e⟩])) := by
 have hr : ((out.map Tm.cs).length + 1) * 16 ≤ zaw := by simp only [List.length_map]; unfold zaw; omega
 have e0 : ∀ (z : Tm) (l : List Tm), (((((z :: l).map Tm.cs).length : Nat) : Int) == 0) = false := fun z l => by simp only [List.length_map, List.length_cons, beq_eq_false_iff_ne, ne_eq]; omega
 have e1 : ∀ (z : Tm) (l : List Tm), decide (1 ≤ ((z :: l).map Tm.cs).length) = true := fun z l => by simp
 simp only [zs] at nx ny
 have w1 : IntKind.wrap .i64 (x.c + y.c) = x.c + y.c := w64 (by omega) (by omega)
 have td : ∀ (z : Tm) (l : List Tm), (((z :: l).map Tm.cs).take ((z :: l).map Tm.cs).length).drop 1 = l.map Tm.cs := fun z l => zq9 _ _
 have ap : ∀ z : Tm, List.append (out.map Tm.cs) [z.cs] = (out ++ [z]).map Tm.cs := fun z => by simp
 have aq : ∀ z : Tm, (out.map Tm.cs).length + 1 = ((out ++ [z]).map Tm.cs).length := fun z => by simp
 unfold zc3
 rw [zow, e0, e0]
 simp only [cond_false, e1, td, zi6, hr, decide_true, cond_true]
 simp only [List.map_cons, zrT, zb9, zca, zy, Option.bind_some, zA, zR, zB]
 rw [p54 _ _ hx hy]
 simp only [zA, Option.bind_some, w1]
 by_cases h1 : x.e.key < y.e.key
 ·have ho : x.e.ord y.e = -1 := by unfold E6.ord; rw [if_pos h1]
  rw [ho, if_pos h1]
  refine Eq.trans ?_ (congrArg (fun z => some (Ex.normal, zbm (a.map Tm.cs) ((y :: b).map Tm.cs) 0 0 z ((out ++ [x]).map Tm.cs))) (aq x))
  rw [← ap x]
  rfl
 ·by_cases h2 : y.e.key < x.e.key
  ·have ho : x.e.ord y.e = 1 := by unfold E6.ord; rw [if_neg h1, if_pos h2]
   rw [ho, if_neg h1, if_pos h2]
   refine Eq.trans ?_ (congrArg (fun z => some (Ex.normal, zbm ((x :: a).map Tm.cs) (b.map Tm.cs) 0 0 z ((out ++ [y]).map Tm.cs))) (aq y))
   rw [← ap y]
   rfl
  ·have ho : x.e.ord y.e = 0 := by unfold E6.ord; rw [if_neg h1, if_neg h2]
   rw [ho, if_neg h1, if_neg h2]
   refine Eq.trans ?_ (congrArg (fun z => some (Ex.normal, zbm (a.map Tm.cs) (b.map Tm.cs) 0 0 z ((out ++ [(⟨x.c + y.c, x.e⟩ : Tm)]).map Tm.cs))) (aq (⟨x.c + y.c, x.e⟩ : Tm)))
   rw [← ap (⟨x.c + y.c, x.e⟩ : Tm)]
   rfl
theorem zrc : ∀ (n : Nat) (a b out : List Tm), a.length + b.length ≤ n → oks a → oks b → zbc a → zbc b → out.length + a.length + b.length ≤ 1000000 →
  ∃ a' b', zas (zw GU LU (CW GU LU) 32 none 2) (zc3 a b out) = some (.exit 0, zc3 a' b' (out ++ zaQ a b)) := by
 intro n
 induction n with
 | zero =>
  intro a b out h _ _ _ _ hl
  have ha : a = [] := List.length_eq_zero_iff.1 (by omega)
  subst ha
  exact ⟨_, _, by rw [zaD]; exact zb4 (zmA b out (by omega))⟩
 | succ n ih =>
  intro a b out h ha hb na nb hl
  cases a with
  | nil => exact ⟨_, _, by rw [zaD]; exact zb4 (zmA b out (by simp only [List.length_nil] at hl; omega))⟩
  | cons x a =>
   cases b with
   | nil => exact ⟨_, _, by rw [zcU]; exact zb4 (zra x a out (by simp only [List.length_nil] at hl; omega))⟩
   | cons y b =>
    have st := zrb x y a b out (ha x (by simp)) (hb y (by simp)) (na x (by simp)) (nb y (by simp)) (by omega)
    have ha' : oks a := fun t ht => ha t (by simp [ht])
    have hb' : oks b := fun t ht => hb t (by simp [ht])
    have na' : zbc a := fun t ht => na t (by simp [ht])
    have nb' : zbc b := fun t ht => nb t (by simp [ht])
    simp only [List.length_cons] at h hl
    rw [zn st, za0]
    split
    ·obtain ⟨a2, b2, hh⟩ := ih a (y :: b) (out ++ [x]) (by simp only [List.length_cons]; omega) ha' hb na' nb (by simp only [List.length_append, List.length_cons, List.length_nil]; omega)
     exact ⟨a2, b2, by rw [hh]; simp⟩
    ·split
     ·obtain ⟨a2, b2, hh⟩ := ih (x :: a) b (out ++ [y]) (by simp only [List.length_cons]; omega) ha hb' na nb' (by simp only [List.length_append, List.length_cons, List.length_nil]; omega)
      exact ⟨a2, b2, by rw [hh]; simp⟩
     ·obtain ⟨a2, b2, hh⟩ := ih a b (out ++ [⟨x.c + y.c, x.e⟩]) (by omega) ha' hb' na' nb' (by simp only [List.length_append, List.length_cons, List.length_nil]; omega)
      exact ⟨a2, b2, by rw [hh]; simp⟩
theorem zk3 : ∀ (n : Nat) (a b : List Tm), a.length + b.length ≤ n → oks a → oks b → oks (zaQ a b) := by
 intro n
 induction n with
 | zero => intro a b h _ hb; rw [List.length_eq_zero_iff.1 (show a.length = 0 by omega), zaD]; exact hb
 | succ n ih =>
  intro a b h ha hb
  cases a with
  | nil => rw [zaD]; exact hb
  | cons x a =>
   cases b with
   | nil => rw [zcU]; exact ha
   | cons y b =>
    have ha' : oks a := fun t ht => ha t (by simp [ht])
    have hb' : oks b := fun t ht => hb t (by simp [ht])
    simp only [List.length_cons] at h
    have hx := ha x (by simp)
    have hy := hb y (by simp)
    rw [za0]
    intro t ht
    split at ht
    ·rcases List.mem_cons.1 ht with rfl | ht
     ·exact hx
     ·exact ih a (y :: b) (by simp only [List.length_cons]; omega) ha' hb t ht
    ·split at ht
     ·rcases List.mem_cons.1 ht with rfl | ht
      ·exact hy
      ·exact ih (x :: a) b (by simp only [List.length_cons]; omega) ha hb' t ht
     ·rcases List.mem_cons.1 ht with rfl | ht
      ·exact hx
      ·exact ih a b (by omega) ha' hb' t ht
def zbU (a b : List Tm) : List Tm × Iv := zaJ (zaQ a b) 6 0 0
theorem p32 (a b : List Tm) (ha : oks a) (hb : oks b) (na : zbc a) (nb : zbc b) (fa : a.length ≤ 10000) (fb : b.length ≤ 10000) :
  (CW GU LU).p (.func 32) [.slice .any (a.map Tm.cs), .slice .any (b.map Tm.cs)] = some (.tuple [.slice .any ((zbU a b).1.map Tm.cs), .agg (zbU a b).2.c]) := by
 obtain ⟨a', b', hl⟩ := zrc _ a b [] (Nat.le_refl _) ha hb na nb (by simp only [List.length_nil]; omega)
 have hlen := zk2 _ a b (Nat.le_refl _)
 have hm := zk3 _ a b (Nat.le_refl _) ha hb
 rw [List.nil_append] at hl
 refine zbL (u := .tuple [.slice .any ((zbU a b).1.map Tm.cs), .agg (zbU a b).2.c]) (h := [.arr false 7 ((zaQ a b).map Tm.cs)]) ?_ rfl
 rw [e32, zbo]
 refine (zae hl _).trans ?_
 have hfin := p53 (zaQ a b) 6 0 0 hm (by unfold few; omega) (by decide) (by decide) (by decide) (by decide)
 unfold zbU
 generalize zaQ a b = m at *
 have g1 : nth (zc3 a' b' m).t 0 = .slice .any (a'.map Tm.cs) := rfl
 have g2 : nth (zc3 a' b' m).t 1 = .slice .any (b'.map Tm.cs) := rfl
 have g3 : nth (zc3 a' b' m).t 5 = .box [.int .i64 0, .int .i64 0] := rfl
 have g4 : nth (zc3 a' b' m).t 6 = .arr 0 (m.map Tm.cs).length 7 := rfl
 have g5 : (zc3 a' b' m).h = [.arr true 7 (m.map Tm.cs)] := rfl
 simp only [g1, g2, g3, g4, g5, Nat.beq_refl, zA, zT, zH, zC, zJ, zY, zx, zW, zy, zD, zB, zP, zaa, zah, zZ, zK, zN, zO, zX, zG, zR, zI, zL, Option.bind_some, Option.bind_none, cond_true, cond_false, zU, zV, hfin]
 rfl
end Go.Ab
namespace Go.Ab
def ins : List Tm → Tm → List Tm
 | [], x => [x]
 | y :: p, x => if y.e.key < x.e.key then y :: ins p x else if y.e.key = x.e.key then ⟨x.c + y.c, x.e⟩ :: p else x :: y :: p
def lead : List Tm → Tm → Nat
 | [], _ => 0
 | y :: p, x => if y.e.key < x.e.key then lead p x + 1 else 0
def mod1 (p : List Tm) (b : Int) : Prop := ∀ t ∈ p, -b ≤ t.c ∧ t.c ≤ b
end Go.Ab
namespace Go.Ab
def raddP (a b : List Tm) : List Tm × Iv := zaJ (b.foldl ins a) 6 0 0
end Go.Ab
namespace Go.Ab
def zkA (n : Int) : Bool := fl n != ce n
def rlo (n : Int) (x : E6) : Int := if zkA n = true ∧ x.odd = true then -1 else 0
def rhi (n : Int) : Int := if zkA n = true then 1 else 0
def scT (c : Int) (t : Tm) : Tm := ⟨fl (t.c * c), t.e⟩
def zc4 (c : Int) (p : List Tm) : Int := zbb (p.map fun t => rlo (t.c * c) t.e)
def zdR (c : Int) (p : List Tm) : Int := zbb (p.map fun t => rhi (t.c * c))
def zbI (p : List Tm) (c : Int) : List Tm × Iv := zaJ (p.map (scT c)) 6 (zc4 c p) (zdR c p)
theorem zlD (n : Int) (x : E6) : -1 ≤ rlo n x ∧ rlo n x ≤ 0 := by unfold rlo; split <;> omega
theorem zlE (n : Int) : 0 ≤ rhi n ∧ rhi n ≤ 1 := by unfold rhi; split <;> omega
theorem zmB : ∀ (l : List Int), (∀ x ∈ l, -1 ≤ x ∧ x ≤ 1) → -(l.length : Int) ≤ zbb l ∧ zbb l ≤ l.length
 | [], _ => by simp [zbb]
 | x :: l, h => by
  have h1 := h x (by simp)
  have h2 := zmB l fun y hy => h y (by simp [hy])
  simp only [zbb, List.length_cons, Int.natCast_add, Int.natCast_one]
  omega
theorem zpK (c : Int) (p : List Tm) : -(p.length : Int) ≤ zc4 c p ∧ zc4 c p ≤ p.length := by
 have := zmB (p.map fun t => rlo (t.c * c) t.e) (fun x hx => by
  obtain ⟨t, _, rfl⟩ := List.mem_map.1 hx
  have := zlD (t.c * c) t.e; omega)
 simpa [zc4] using this
theorem zpL (c : Int) (p : List Tm) : -(p.length : Int) ≤ zdR c p ∧ zdR c p ≤ p.length := by
 have := zmB (p.map fun t => rhi (t.c * c)) (fun x hx => by
  obtain ⟨t, _, rfl⟩ := List.mem_map.1 hx
  have := zlE (t.c * c); omega)
 simpa [zdR] using this
theorem zpM (c : Int) (p : List Tm) (t : Tm) : zc4 c (p ++ [t]) = zc4 c p + rlo (t.c * c) t.e := by simp [zc4, zdH, zbb]
theorem zpN (c : Int) (p : List Tm) (t : Tm) : zdR c (p ++ [t]) = zdR c p + rhi (t.c * c) := by simp [zdR, zdH, zbb]
theorem zrd {lo hi : Int} (x : E6) (r : List (List V)) (h1 : -1000000000 ≤ lo) (h2 : lo ≤ 1000000000) (h3 : -1000000000 ≤ hi) (h4 : hi ≤ 1000000000) :
  (CW GU LU).s (.func 52) [.ptr 1 0, .agg [.int .u8 ((x.a : Nat) : Int), .int .u8 ((x.b : Nat) : Int), .int .u8 ((x.c : Nat) : Int), .int .u8 ((x.d : Nat) : Int), .int .u8 ((x.e : Nat) : Int), .int .u8 ((x.f : Nat) : Int)]] [.arr true 7 r, .cells [.int .i64 lo, .int .i64 hi]] = some (.tuple [], [.arr true 7 r, .cells [.int .i64 (if x.odd = true then lo - 1 else lo), .int .i64 (hi + 1)]]) := by
 refine zdD ?_
 rw [zqV]
 rw [p66 x, w64 (x := lo - 1) (by omega) (by omega), w64 (x := hi + 1) (by omega) (by omega)]
 simp only [zT, Option.bind_some]
 cases x.odd <;> rfl
def scS (c : Int) (p : List Tm) (i : Nat) : St := zcz c 0 0 ((((p.take i).map (scT c)).map Tm.cs).length) (p.map Tm.cs) ((p.length : Nat) : Int) ((i : Nat) : Int) (((p.take i).map (scT c)).map Tm.cs) (zc4 c (p.take i)) (zdR c (p.take i))
theorem zrU (c : Int) (p : List Tm) (i : Nat) (hi : i < p.length) (hf : p.length ≤ 10000) (hc : zs c) (hn : zs p[i].c) : zw GU LU (CW GU LU) 30 none 4 (scS c p i) = some (.normal, scS c p (i + 1)) := by
 have hr : ((((p.take i).map (scT c)).map Tm.cs).length + 1) * 16 ≤ zaw := by simp only [List.length_map, List.length_take]; unfold zaw; omega
 have b1 := zpK c (p.take i)
 have b2 := zpL c (p.take i)
 have bl : (p.take i).length ≤ 10000 := by simp only [List.length_take]; omega
 have ap : List.append (((p.take i).map (scT c)).map Tm.cs) [Tm.cs ⟨fl (p[i].c * c), p[i].e⟩] = ((p.take i ++ [p[i]]).map (scT c)).map Tm.cs := by rw [List.map_append, List.map_append]; rfl
 have aq : (((p.take i).map (scT c)).map Tm.cs).length + 1 = (((p.take i ++ [p[i]]).map (scT c)).map Tm.cs).length := by rw [List.map_append, List.map_append, List.length_append]; rfl
 have hr' : decide (((((p.take i ++ [p[i]]).map (scT c)).map Tm.cs).length) * 16 ≤ zaw) = true := by rw [← aq]; exact decide_eq_true hr
 have zc : ∀ z : Int, [V.int .i64 z, .int .u8 ((p[i].e.a : Nat) : Int), .int .u8 ((p[i].e.b : Nat) : Int), .int .u8 ((p[i].e.c : Nat) : Int), .int .u8 ((p[i].e.d : Nat) : Int), .int .u8 ((p[i].e.e : Nat) : Int), .int .u8 ((p[i].e.f : Nat) : Int)] = Tm.cs ⟨z, p[i].e⟩ := fun _ => rfl
 have hm := p51 p[i].c c (zdi hn hc)
 unfold scS
 rw [e30_4, zcJ hi, zeh p i hi, zdh hi, zpM, zpN]
 simp only [zb9, zca, zy, zA, zR, zB, Option.bind_some, cond_true, hm, zJ, zbS i (by omega)]
 cases hx : zkA (p[i].c * c)
 ·have hx' : (fl (p[i].c * c) != ce (p[i].c * c)) = false := hx
  have e1 : rlo (p[i].c * c) p[i].e = 0 := by simp [rlo, hx]
  have e2 : rhi (p[i].c * c) = 0 := by simp [rhi, hx]
  simp only [hx', cond_false, cond_true, decide_true, hr', e1, e2, Int.add_zero, zc, ap, aq]
 ·have hx' : (fl (p[i].c * c) != ce (p[i].c * c)) = true := hx
  have e1 : zc4 c (p.take i) + rlo (p[i].c * c) p[i].e = if p[i].e.odd = true then zc4 c (p.take i) - 1 else zc4 c (p.take i) := by
   simp only [rlo, hx, true_and]; split <;> omega
  have e2 : rhi (p[i].c * c) = 1 := by simp [rhi, hx]
  rw [e1, e2]
  simp only [hx', cond_true]
  rw [zrd p[i].e _ (by omega) (by omega) (by omega) (by omega)]
  simp only [zJ, zB, zD, zK, zx, zy, zA, Option.bind_some, decide_true, cond_true, hr', zc, ap, aq]
theorem p30 (p : List Tm) (c : Int) (hk : oks p) (hn : zbc p) (hf : p.length ≤ 10000) (hc : zs c) :
  (CW GU LU).p (.func 30) [.slice .any (p.map Tm.cs), .int .i64 c] = some (.tuple [.slice .any ((zbI p c).1.map Tm.cs), .agg (zbI p c).2.c]) := by
 have hloop := zdg (round := zw GU LU (CW GU LU) 30 none 4) (scS c p) p.length (id := 0) (fun i hi => zrU c p i hi hf hc (hn _ (List.getElem_mem hi))) (by unfold scS; rw [e30_4, zci]; rfl)
 have hstart : scS c p 0 = zcz c 0 0 0 (p.map Tm.cs) (((p.map Tm.cs).length : Nat) : Int) 0 [] 0 0 := by simp [scS, zc4, zdR, zbb]
 rw [hstart] at hloop
 have b1 := zpK c p
 have b2 := zpL c p
 have hfin := p53 (p.map (scT c)) 6 (zc4 c p) (zdR c p) (fun t ht => by
  obtain ⟨u, hu, rfl⟩ := List.mem_map.1 ht
  exact hk u hu) (by unfold few; rw [List.length_map]; omega) (by omega) (by omega) (by omega) (by omega)
 have hend : scS c p p.length = zcz c 0 0 (((p.map (scT c)).map Tm.cs).length) (p.map Tm.cs) ((p.length : Nat) : Int) ((p.length : Nat) : Int) ((p.map (scT c)).map Tm.cs) (zc4 c p) (zdR c p) := by simp only [scS, List.take_length]
 rw [hend] at hloop
 refine zbL (u := .tuple [.slice .any ((zbI p c).1.map Tm.cs), .agg (zbI p c).2.c]) (h := [.arr false 7 ((p.map (scT c)).map Tm.cs), .cells [.int .i64 (zc4 c p), .int .i64 (zdR c p)]]) ?_ rfl
 rw [e30, zbo]
 refine (zae hloop _).trans ?_
 unfold zbI
 generalize p.map (scT c) = m at *
 generalize zc4 c p = l1 at *
 generalize zdR c p = h1 at *
 have g1 : ∀ x y, nth (zcz c 0 0 (m.map Tm.cs).length (p.map Tm.cs) x y (m.map Tm.cs) l1 h1).t 1 = .int .i64 c := fun _ _ => rfl
 have g2 : ∀ x y, nth (zcz c 0 0 (m.map Tm.cs).length (p.map Tm.cs) x y (m.map Tm.cs) l1 h1).t 5 = .box [.int .i64 0, .int .i64 0] := fun _ _ => rfl
 have g3 : ∀ x y, nth (zcz c 0 0 (m.map Tm.cs).length (p.map Tm.cs) x y (m.map Tm.cs) l1 h1).t 6 = .arr 0 (m.map Tm.cs).length 7 := fun _ _ => rfl
 have g4 : ∀ x y, nth (zcz c 0 0 (m.map Tm.cs).length (p.map Tm.cs) x y (m.map Tm.cs) l1 h1).t 7 = .ptr 1 0 := fun _ _ => rfl
 have g5 : ∀ x y, nth (zcz c 0 0 (m.map Tm.cs).length (p.map Tm.cs) x y (m.map Tm.cs) l1 h1).t 12 = .slice .any (p.map Tm.cs) := fun _ _ => rfl
 have g6 : ∀ x y, nth (zcz c 0 0 (m.map Tm.cs).length (p.map Tm.cs) x y (m.map Tm.cs) l1 h1).t 13 = .int .i64 x := fun _ _ => rfl
 have g7 : ∀ x y, nth (zcz c 0 0 (m.map Tm.cs).length (p.map Tm.cs) x y (m.map Tm.cs) l1 h1).t 14 = .int .i64 y := fun _ _ => rfl
 have g8 : ∀ x y, (zcz c 0 0 (m.map Tm.cs).length (p.map Tm.cs) x y (m.map Tm.cs) l1 h1).h = [.arr true 7 (m.map Tm.cs), .cells [.int .i64 l1, .int .i64 h1]] := fun _ _ => rfl
 simp only [g1, g2, g3, g4, g5, g6, g7, g8, Nat.beq_refl, zA, zT, zH, zC, zJ, zY, zx, zW, zy, zD, zB, zP, zaa, zah, zZ, zK, zN, zO, zX, zG, zR, zI, zL, Option.bind_some, Option.bind_none, cond_true, cond_false, zU, zV, hfin]
 rfl
end Go.Ab
namespace Go.Ab
structure Pt where
 a : Int
 b : Int
 c : Int
 d : Int
 e : Int
 f : Int
def Pt.ok (z : Pt) : Prop := (-2 ≤ z.a ∧ z.a ≤ 2) ∧ (-2 ≤ z.b ∧ z.b ≤ 2) ∧ (-2 ≤ z.c ∧ z.c ≤ 2) ∧ (-2 ≤ z.d ∧ z.d ≤ 2) ∧ (-2 ≤ z.e ∧ z.e ≤ 2) ∧ (-2 ≤ z.f ∧ z.f ≤ 2)
def inB (b x : Int) : Prop := -b ≤ x ∧ x ≤ b
def prodT (t : Tm) (z : Pt) : Int := t.c * z.a ^ t.e.a * z.b ^ t.e.b * z.c ^ t.e.c * z.d ^ t.e.d * z.e ^ t.e.e * z.f ^ t.e.f
def valT (z : Pt) (t : Tm) : Int := prodT t z * 2 ^ (12 - t.e.deg)
def valP (p : List Tm) (z : Pt) : Int := zbb (p.map (valT z))
end Go.Ab
namespace Go.Ab
def deg6 (p : List Tm) : Prop := ∀ t ∈ p, t.e.deg ≤ 6
end Go.Ab
namespace Go.Ab
end Go.Ab
namespace Go.Ab
theorem w8 {x : Int} (h1 : 0 ≤ x) (h2 : x < 256) : IntKind.wrap .u8 x = x := by
 have e : IntKind.wrap .u8 x = x % 256 := by simp [IntKind.wrap, IntKind.bits, IntKind.signed]
 rw [e]; omega
def mk1 (u l : Nat) : Nat := u % 7 % (l + 1)
def mkE (x : E6) : E6 :=
 let a := mk1 x.a 6
 let b := mk1 x.b (6 - a)
 let c := mk1 x.c (6 - a - b)
 let d := mk1 x.d (6 - a - b - c)
 let e := mk1 x.e (6 - a - b - c - d)
 ⟨a, b, c, d, e, mk1 x.f (6 - a - b - c - d - e)⟩
end Go.Ab
