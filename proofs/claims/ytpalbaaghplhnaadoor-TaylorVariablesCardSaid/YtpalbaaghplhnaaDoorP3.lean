/- A valid polynomial made of any terms, of the reference; conditions: bytes; fewer terms than 2^62. -/
import Derived.KernelRfl
import Derived.Test.YtpalbaaghplhnaaDoorP2
set_option linter.unusedVariables false
set_option linter.unusedSimpArgs false
namespace Go.Ab
def madeS (most size : Int) (out : List Tm) (t : Tm) : List Tm :=
 if ((out.length : Nat) : Int) < most then
  if t.c.tmod size = 0 then out else if zei (ins out ⟨t.c.tmod size, mkE t.e⟩) then ins out ⟨t.c.tmod size, mkE t.e⟩ else out
 else out
def madeP (p : List Tm) (most size : Int) : List Tm := p.foldl (madeS most size) []
end Go.Ab
namespace Go.Ab
end Go.Ab
namespace Go.Ab
end Go.Ab
namespace Go.Ab
def zaO (a : Iv) (n : Nat) : Iv := if h : n ≤ 1 then a else if n % 2 = 0 then (zaO a (n / 2)).sq else (zaO a (n - 1)).mul a
termination_by n
decreasing_by all_goals omega
theorem zfK (a : Iv) {n : Nat} (h : n ≤ 1) : zaO a n = a := by rw [zaO]; simp [h]
theorem zmC (a : Iv) {n : Nat} (h : 1 < n) (h2 : n % 2 = 0) : zaO a n = (zaO a (n / 2)).sq := by rw [zaO]; simp [h2, show ¬ n ≤ 1 by omega]
theorem zpO (a : Iv) {n : Nat} (h : 1 < n) (h2 : ¬ n % 2 = 0) : zaO a n = (zaO a (n - 1)).mul a := by rw [zaO]; simp [h2, show ¬ n ≤ 1 by omega]
theorem zfd {a : Iv} (h : a.valid) : ∀ n : Nat, (zaO a n).valid := by
 intro n
 induction n using Nat.strongRecOn with
 | _ n ih =>
  by_cases h1 : n ≤ 1
  ·rw [zfK a h1]; exact h
  ·by_cases h2 : n % 2 = 0
   ·rw [zmC a (by omega) h2]; exact zq0 (ih _ (by omega))
   ·rw [zpO a (by omega) h2]; exact zeU _ _
end Go.Ab
namespace Go.Ab
def dom : Iv := ⟨-65536, 65536⟩
theorem zpP : dom.valid := by simp [Iv.valid, Iv.isW, zs, dom]
def bx (b : List Iv) (k : Nat) : Iv := (b[k]?).getD dom
def zcp (b : List Iv) : Prop := ∀ x ∈ b, x.valid
theorem zgV {b : List Iv} (h : zcp b) (k : Nat) : (bx b k).valid := by
 unfold bx
 cases hk : b[k]? with
 | none => exact zpP
 | some x => exact h x (List.mem_of_getElem? hk)
def evS (b : List Iv) (k u : Nat) (v : Iv) : Iv := if 0 < u then v.mul (zaO (bx b k) u) else v
theorem zdZ {b : List Iv} {k u : Nat} {v : Iv} (hv : v.valid) : (evS b k u v).valid := by
 unfold evS; split
 ·exact zeU _ _
 ·exact hv
theorem getB (b : List Iv) (k : Nat) (h : k < b.length) : zab (b.map Iv.c) ((k : Nat) : Int) 2 = some (bx b k).c := by
 rw [zdv Iv.c Iv.c_len b k h]
 unfold bx
 rw [List.getElem?_eq_getElem h]; rfl
theorem bx_dom {b : List Iv} {k : Nat} (h : ¬ k < b.length) : bx b k = dom := by
 unfold bx; rw [List.getElem?_eq_none (by omega)]; rfl
end Go.Ab
namespace Go.Ab
def evT (b : List Iv) (t : Tm) : Iv := evS b 5 t.e.f (evS b 4 t.e.e (evS b 3 t.e.d (evS b 2 t.e.c (evS b 1 t.e.b (evS b 0 t.e.a (Iv.new t.c t.c))))))
theorem zfe (c : Int) : (Iv.new c c).valid := zco (Int.le_refl _)
theorem zhE (b : List Iv) (t : Tm) : (evT b t).valid := by
 unfold evT
 repeat' apply zdZ
 exact zfe _
def zff (b : List Iv) : List Tm → Iv → Iv
 | [], o => o
 | t :: p, o => zff b p (o.add (evT b t))
def zf2 (b : List Iv) (p : List Tm) : Iv := zff b p (Iv.new 0 0)
theorem ziE (b : List Iv) : ∀ (p : List Tm) (o : Iv), o.valid → (zff b p o).valid
 | [], _, h => h
 | t :: p, o, h => ziE b p _ (zf1 h (zhE b t))
end Go.Ab
namespace Go.Ab
theorem zgW {α : Type} {eq : List V → List V → Option Bool} {key : List V} (E : α → List V × List V) (test : α → Bool) (h : ∀ x, eq key (E x).1 = some (test x)) : ∀ l : List α, zao eq key (l.map E) = some (l.findIdx? test)
 | [] => rfl
 | x :: l => by
  simp only [List.map_cons, zao, h x, Option.bind_some, zgW E test h l, List.findIdx?_cons]
  cases test x <;> rfl
theorem eqAt (a b c d : Int) : eqT GP 8 109 [.int .i64 a, .int .i64 b] [.int .i64 c, .int .i64 d] = some ((a == c) && ((b == d) && true)) := by kernel_rfl
structure Kn where
 i : Int
 n : Int
 v : Iv
def Kn.e (x : Kn) : List V × List V := ([.int .i64 x.i, .int .i64 x.n], x.v.c)
def Kn.ok (b : List Iv) (x : Kn) : Prop := 1 ≤ x.n ∧ 0 ≤ x.i ∧ x.v = zaO (bx b x.i.toNat) x.n.toNat
def kns (b : List Iv) (m : List Kn) : Prop := ∀ x ∈ m, x.ok b
def Kn.is (i n : Int) (x : Kn) : Bool := (i == x.i) && ((n == x.n) && true)
theorem zgX (i n : Int) (m : List Kn) : zao (eqT GP 8 109) [.int .i64 i, .int .i64 n] (m.map Kn.e) = some (m.findIdx? (Kn.is i n)) := zgW Kn.e (Kn.is i n) (fun x => eqAt _ _ _ _) m
theorem kput (i n : Int) (v : Iv) (m : List Kn) (h : m.findIdx? (Kn.is i n) = none) : zd1 (m.map Kn.e) (m.findIdx? (Kn.is i n)) [.int .i64 i, .int .i64 n] v.c = (m ++ [(⟨i, n, v⟩ : Kn)]).map Kn.e := by
 rw [h]
 simp only [zd1, List.map_append, List.map_cons, List.map_nil]
 rfl
def zc5 (b : List Iv) (m : List Kn) : List Ob := [.cells [.slice .any (b.map Iv.c)], .map true true 2 (m.map Kn.e), .cells [.map 1], .cells [.fn (.func 71) [] [.ptr 2 0, .ptr 0 0, .ptr 3 0]]]
theorem zb5 (ka va : Bool) (kn : Nat) (es : List (List V × List V)) : zbq ka va kn (.map ka va kn es) = some es := by simp [zbq]
theorem zre (b : List Iv) (i : Nat) (n : Nat) (hn : 1 ≤ n) (m : List Kn) (hm : kns b m) : ∃ m', kns b m' ∧ zd1 (m.map Kn.e) (m.findIdx? (Kn.is ((i : Nat) : Int) ((n : Nat) : Int))) [.int .i64 ((i : Nat) : Int), .int .i64 ((n : Nat) : Int)] (zaO (bx b i) n).c = m'.map Kn.e := by
 have hok : Kn.ok b ⟨((i : Nat) : Int), ((n : Nat) : Int), zaO (bx b i) n⟩ := ⟨by simp only; omega, by simp, by simp⟩
 cases h : m.findIdx? (Kn.is ((i : Nat) : Int) ((n : Nat) : Int)) with
 | none =>
  refine ⟨m ++ [⟨((i : Nat) : Int), ((n : Nat) : Int), zaO (bx b i) n⟩], fun x hx => ?_, ?_⟩
  ·rcases List.mem_append.1 hx with hx | hx
   ·exact hm x hx
   ·rw [List.mem_singleton.1 hx]; exact hok
  ·have := kput ((i : Nat) : Int) ((n : Nat) : Int) (zaO (bx b i) n) m h
   rwa [h] at this
 | some j =>
  refine ⟨m.set j ⟨((i : Nat) : Int), ((n : Nat) : Int), zaO (bx b i) n⟩, fun x hx => ?_, ?_⟩
  ·rcases List.mem_or_eq_of_mem_set hx with hx | rfl
   ·exact hm x hx
   ·exact hok
  ·simp only [zd1, List.map_set]; rfl
theorem zpQ (b : List Iv) (hb : zcp b) (hbl : b.length ≤ 1000000) (i : Nat) (hi : i < 1000000) : ∀ n : Nat, 1 ≤ n → n ≤ 1000 → ∀ m : List Kn, kns b m → ∃ m', kns b m' ∧
  (CW GU LU).s (.func 71) [.int .i64 ((i : Nat) : Int), .int .i64 ((n : Nat) : Int), .ptr 2 0, .ptr 0 0, .ptr 3 0] (zc5 b m) = some (.agg (zaO (bx b i) n).c, zc5 b m') := by
 intro n
 induction n using Nat.strongRecOn with
 | _ n ih =>
  intro hn1 hn m hm
  have hlen : decide (((i : Nat) : Int) < (((b.map Iv.c).length : Nat) : Int)) = decide (i < b.length) := by rw [decide_eq_decide, List.length_map]; omega
  have fin : ∀ (v : Iv) (m : List Kn), kns b m → v = zaO (bx b i) n → ∃ m', kns b m' ∧ (some (V.agg [.int .i64 v.lo, .int .i64 v.hi], [Ob.cells [.slice .any (b.map Iv.c)], .map true true 2 (zd1 (m.map Kn.e) (m.findIdx? (Kn.is ((i : Nat) : Int) ((n : Nat) : Int))) [.int .i64 ((i : Nat) : Int), .int .i64 ((n : Nat) : Int)] [.int .i64 v.lo, .int .i64 v.hi]), .cells [.map 1], .cells [.fn (.func 71) [] [.ptr 2 0, .ptr 0 0, .ptr 3 0]]]) : Option (V × List Ob)) = some (.agg (zaO (bx b i) n).c, zc5 b m') := by
   intro v m hm hv
   subst hv
   obtain ⟨m', h1, h2⟩ := zre b i n hn1 m hm
   refine ⟨m', h1, ?_⟩
   rw [show [V.int .i64 (zaO (bx b i) n).lo, .int .i64 (zaO (bx b i) n).hi] = (zaO (bx b i) n).c from rfl, h2]
   rfl
  have run : ∀ r, zM GU LU (CW GU LU) (.func 71) [.int .i64 ((i : Nat) : Int), .int .i64 ((n : Nat) : Int), .ptr 2 0, .ptr 0 0, .ptr 3 0] (zc5 b m) = some r → (CW GU LU).s (.func 71) [.int .i64 ((i : Nat) : Int), .int .i64 ((n : Nat) : Int), .ptr 2 0, .ptr 0 0, .ptr 3 0] (zc5 b m) = some r := fun r h => zdD h
  have hs := zqX (CW GU LU) (b.map Iv.c) (m.map Kn.e) ((i : Nat) : Int) ((n : Nat) : Int)
  cases hf : m.findIdx? (Kn.is ((i : Nat) : Int) ((n : Nat) : Int)) with
  | some j =>
   obtain ⟨hj, hj2, _⟩ := List.findIdx?_eq_some_iff_getElem.1 hf
   have hx := hm _ (List.getElem_mem hj)
   simp only [Kn.is, Bool.and_true, Bool.and_eq_true, beq_iff_eq] at hj2
   have hv : m[j].v = zaO (bx b i) n := by rw [hx.2.2, ← hj2.1, ← hj2.2]; simp
   refine ⟨m, hm, run _ ?_⟩
   unfold zc5
   rw [hs, zgX, hf]
   have hmv : zd0 (m.map Kn.e) j = some m[j].v.c := by simp [zd0, hj, Kn.e]
   simp only [Option.bind_some, hmv, zG, zy, zA, zB, hv]
   rfl
  | none =>
   by_cases h1 : n = 1
   ·subst h1
    by_cases hib : i < b.length
    ·have hv : bx b i = zaO (bx b i) 1 := (zfK _ (Nat.le_refl 1)).symm
     obtain ⟨m', g1, g2⟩ := fin (bx b i) m hm hv
     refine ⟨m', g1, (run _ ?_)⟩
     unfold zc5
     rw [hs, zgX, hf, hlen, show decide (i < b.length) = true by simpa using hib, getB b i hib]
     rw [hf] at g2
     simp only [Option.bind_some, zG, zy, zA, zB]
     exact g2
    ·have hv : dom = zaO (bx b i) 1 := by rw [zfK _ (Nat.le_refl 1), bx_dom hib]
     obtain ⟨m', g1, g2⟩ := fin dom m hm hv
     refine ⟨m', g1, (run _ ?_)⟩
     unfold zc5
     rw [hs, zgX, hf, hlen, show decide (i < b.length) = false by simpa using hib]
     rw [hf] at g2
     simp only [Option.bind_some]
     exact g2
   ·have e1 : (((n : Nat) : Int) == 1) = false := by simp; omega
    have hv1 : (zaO (bx b i) 1) = bx b i := zfK _ (Nat.le_refl 1)
    have em : Int.tmod ((n : Nat) : Int) 2 = ((n % 2 : Nat) : Int) := by rw [Int.tmod_eq_emod_of_nonneg (by omega)]; omega
    by_cases h2 : n % 2 = 0
    ·have e2 : (Int.tmod ((n : Nat) : Int) 2 == 0) = true := by rw [em, h2]; rfl
     have ed : IntKind.wrap .i64 (Int.tdiv ((n : Nat) : Int) 2) = ((n / 2 : Nat) : Int) := by
      rw [Int.tdiv_eq_ediv_of_nonneg (by omega), w64 (by omega) (by omega)]; omega
     obtain ⟨m2, hm2, q⟩ := ih (n / 2) (by omega) (by omega) (by omega) m hm
     have hv : (zaO (bx b i) (n / 2)).sq = zaO (bx b i) n := (zmC _ (by omega) h2).symm
     obtain ⟨m', g1, g2⟩ := fin _ m2 hm2 hv
     have hsq := p72 (zaO (bx b i) (n / 2)) (zfd (zgV hb i) _)
     unfold zc5 at q
     refine ⟨m', g1, run _ ?_⟩
     unfold zc5
     rw [hs, zgX, hf, hlen, e1, e2, ed]
     simp only [Option.bind_some, cond_true, cond_false]
     cases decide (i < b.length)
     all_goals
      try simp only [cond_true, cond_false]
      rw [q]
      simp only [Option.bind_some, zC, zG, zy, zA, zB, zD, zx, zH, zb5, zI, zaa, zP]
      rw [hsq]
      simp only [Option.bind_some, zC, zG, zy, zA, zB]
      rw [zgX]
      exact g2
    ·have e2 : (Int.tmod ((n : Nat) : Int) 2 == 0) = false := by rw [em]; simp; omega
     have ed : IntKind.wrap .i64 (((n : Nat) : Int) - 1) = ((n - 1 : Nat) : Int) := by
      rw [w64 (by omega) (by omega)]; omega
     obtain ⟨m2, hm2, q⟩ := ih (n - 1) (by omega) (by omega) (by omega) m hm
     obtain ⟨m3, hm3, q3⟩ := ih 1 (by omega) (by omega) (by omega) m2 hm2
     have hv : (zaO (bx b i) (n - 1)).mul (zaO (bx b i) 1) = zaO (bx b i) n := by rw [hv1]; exact (zpO _ (by omega) h2).symm
     obtain ⟨m', g1, g2⟩ := fin _ m3 hm3 hv
     have hml := p39 (zaO (bx b i) (n - 1)) (zaO (bx b i) 1) (zfd (zgV hb i) _) (zfd (zgV hb i) _)
     rw [show (((1 : Nat) : Int)) = 1 from rfl] at q3
     unfold zc5 at q q3
     refine ⟨m', g1, run _ ?_⟩
     unfold zc5
     rw [hs, zgX, hf, hlen, e1, e2, ed]
     simp only [Option.bind_some, cond_true, cond_false]
     cases decide (i < b.length)
     all_goals
      try simp only [cond_true, cond_false]
      rw [q]
      simp only [Option.bind_some, zC, zG, zy, zA, zB, zD, zx, zH, zb5, zI, zaa, zP]
      rw [q3]
      simp only [Option.bind_some, zC, zG, zy, zA, zB, zD, zx, zH, zb5, zI, zaa, zP]
      rw [hml]
      simp only [Option.bind_some, zC, zG, zy, zA, zB]
      rw [zgX]
      exact g2
end Go.Ab
namespace Go.Ab
def peS (b : List Iv) (p : List Tm) (o v : Iv) (t : Tm) (i k : Int) (m : List Kn) : St := zgU 0 0 o.lo o.hi v.lo v.hi (p.map Tm.cs) ((p.length : Nat) : Int) i ((t.e.a : Nat) : Int) ((t.e.b : Nat) : Int) ((t.e.c : Nat) : Int) ((t.e.d : Nat) : Int) ((t.e.e : Nat) : Int) ((t.e.f : Nat) : Int) k (b.map Iv.c) (m.map Kn.e)
theorem zgr (b : List Iv) (hb : zcp b) (hbl : b.length ≤ 1000000) (p : List Tm) (o v : Iv) (hv : v.valid) (t : Tm) (i : Int) (k u : Nat) (hk : k < 6) (hu : zbK [((t.e.a : Nat) : Int), ((t.e.b : Nat) : Int), ((t.e.c : Nat) : Int), ((t.e.d : Nat) : Int), ((t.e.e : Nat) : Int), ((t.e.f : Nat) : Int)] (k * 1) = some ((u : Nat) : Int)) (hu2 : u < 256) (m : List Kn) (hm : kns b m) :
  ∃ m', kns b m' ∧ zw GU LU (CW GU LU) 47 none 8 (peS b p o v t i ((k : Nat) : Int) m) = some (.normal, peS b p o (evS b k u v) t i ((k + 1 : Nat) : Int) m') := by
 have w8 : IntKind.wrap .i64 ((u : Nat) : Int) = ((u : Nat) : Int) := w64 (by omega) (by omega)
 have e1 : decide (((k : Nat) : Int) < 6) = true := by simp; omega
 have e2 : decide ((0 : Int) ≤ ((k : Nat) : Int)) = true := by simp
 have e3 : decide ((((k : Nat) : Int)).toNat < 6) = true := by simp; omega
 have ws := zbS k (by omega)
 by_cases h0 : 0 < u
 ·obtain ⟨m', hm', q⟩ := zpQ b hb hbl k (by omega) u h0 (by omega) m hm
  refine ⟨m', hm', ?_⟩
  have e4 : decide (((u : Nat) : Int) > 0) = true := by simp; omega
  have hml := p39 v (zaO (bx b k) u) hv (zfd (zgV hb k) u)
  unfold zc5 at q
  unfold peS
  rw [zox, e1, e2, e3]
  simp only [cond_true, Int.toNat_natCast]
  rw [hu]
  simp only [Option.bind_some]
  rw [e4, w8]
  simp only [cond_true]
  rw [q]
  simp only [Option.bind_some, zC, zG, zy, zA, zB, zD, zx, zH, zb5, zI, zaa, zP]
  rw [hml]
  simp only [Option.bind_some, zC, zG, zy, zA, zB, ws]
  unfold evS
  rw [if_pos h0]
 ·refine ⟨m, hm, ?_⟩
  have e4 : decide (((u : Nat) : Int) > 0) = false := by simp; omega
  unfold peS
  rw [zox, e1, e2, e3]
  simp only [cond_true, Int.toNat_natCast]
  rw [hu]
  simp only [Option.bind_some]
  rw [e4, ws]
  unfold evS
  rw [if_neg h0]
  rfl
theorem pe_row (b : List Iv) (hb : zcp b) (hbl : b.length ≤ 1000000) (p : List Tm) (o : Iv) (t : Tm) (ht : t.e.ok) (i : Int) (m : List Kn) (hm : kns b m) :
  ∃ m', kns b m' ∧ zas (zw GU LU (CW GU LU) 47 none 8) (peS b p o (Iv.new t.c t.c) t i 0 m) = some (.exit 2, peS b p o (evT b t) t i 6 m') := by
 obtain ⟨k1, k2, k3, k4, k5, k6⟩ := ht
 have v0 := zfe t.c
 have v1 := zdZ (b := b) (k := 0) (u := t.e.a) v0
 have v2 := zdZ (b := b) (k := 1) (u := t.e.b) v1
 have v3 := zdZ (b := b) (k := 2) (u := t.e.c) v2
 have v4 := zdZ (b := b) (k := 3) (u := t.e.d) v3
 have v5 := zdZ (b := b) (k := 4) (u := t.e.e) v4
 obtain ⟨m1, h1, q1⟩ := zgr b hb hbl p o _ v0 t i 0 t.e.a (by decide) rfl k1 m hm
 obtain ⟨m2, h2, q2⟩ := zgr b hb hbl p o _ v1 t i 1 t.e.b (by decide) rfl k2 m1 h1
 obtain ⟨m3, h3, q3⟩ := zgr b hb hbl p o _ v2 t i 2 t.e.c (by decide) rfl k3 m2 h2
 obtain ⟨m4, h4, q4⟩ := zgr b hb hbl p o _ v3 t i 3 t.e.d (by decide) rfl k4 m3 h3
 obtain ⟨m5, h5, q5⟩ := zgr b hb hbl p o _ v4 t i 4 t.e.e (by decide) rfl k5 m4 h4
 obtain ⟨m6, h6, q6⟩ := zgr b hb hbl p o _ v5 t i 5 t.e.f (by decide) rfl k6 m5 h5
 refine ⟨m6, h6, (zn q1).trans ((zn q2).trans ((zn q3).trans ((zn q4).trans ((zn q5).trans ((zn q6).trans (zb4 ?_))))))⟩
 unfold peS
 rw [zox]
 rfl
def peT (b : List Iv) (p : List Tm) (o : Iv) (i : Int) (m : List Kn) : St := zjY 0 0 o.lo o.hi (p.map Tm.cs) ((p.length : Nat) : Int) i (b.map Iv.c) (m.map Kn.e)
theorem zrf (b : List Iv) (hb : zcp b) (hbl : b.length ≤ 1000000) (p : List Tm) (hp : oks p) (hf : few p) (i : Nat) (hi : i < p.length) (o : Iv) (ho : o.valid) (m : List Kn) (hm : kns b m) :
  ∃ m', kns b m' ∧ zw GU LU (CW GU LU) 47 none 4 (peT b p o ((i : Nat) : Int) m) = some (.normal, peT b p (o.add (evT b p[i])) ((i + 1 : Nat) : Int) m') := by
 have hfl : p.length ≤ 100000 := hf
 obtain ⟨m', hm', hrow⟩ := pe_row b hb hbl p o p[i] (hp _ (List.getElem_mem hi)) ((i : Nat) : Int) m hm
 refine ⟨m', hm', ?_⟩
 have hadd := p44 o (evT b p[i]) ho (zhE b _)
 have ws := zbS i (by omega)
 have e1 : decide (((i : Nat) : Int) < ((p.length : Nat) : Int)) = true := zcJ hi
 unfold peS at hrow
 unfold peT
 rw [e47_4, e1, zeh p i hi]
 simp only [zb9, zca, zy, zA, zR, zB, Option.bind_some, cond_true]
 rw [p63]
 simp only [zC, zG, zy, zA, zB, Option.bind_some]
 rw [zbo]
 refine (zae hrow _).trans ?_
 generalize evT b p[i] = v at *
 generalize p[i] = t at *
 have g : ∀ k : Int, ∀ s, s = zgU 0 0 o.lo o.hi v.lo v.hi (p.map Tm.cs) ((p.length : Nat) : Int) ((i : Nat) : Int) ((t.e.a : Nat) : Int) ((t.e.b : Nat) : Int) ((t.e.c : Nat) : Int) ((t.e.d : Nat) : Int) ((t.e.e : Nat) : Int) ((t.e.f : Nat) : Int) k (b.map Iv.c) (m'.map Kn.e) → nth s.t 4 = .box [.int .i64 0, .int .i64 0] ∧ nth s.t 5 = .fn (.func 71) [] [.ptr 2 0, .ptr 0 0, .ptr 3 0] ∧ nth s.t 6 = .box [.int .i64 o.lo, .int .i64 o.hi] ∧ nth s.t 9 = .box [.int .i64 v.lo, .int .i64 v.hi] ∧ nth s.t 15 = .slice .any (p.map Tm.cs) ∧ nth s.t 16 = .int .i64 ((p.length : Nat) : Int) ∧ nth s.t 17 = .int .i64 ((i : Nat) : Int) ∧ nth s.t 25 = .agg [.int .u8 ((t.e.a : Nat) : Int), .int .u8 ((t.e.b : Nat) : Int), .int .u8 ((t.e.c : Nat) : Int), .int .u8 ((t.e.d : Nat) : Int), .int .u8 ((t.e.e : Nat) : Int), .int .u8 ((t.e.f : Nat) : Int)] ∧ nth s.t 26 = .int .i64 k ∧ s.h = zc5 b m' := by
  intro k s hs
  subst hs
  exact ⟨rfl, rfl, rfl, rfl, rfl, rfl, rfl, rfl, rfl, rfl⟩
 obtain ⟨g1, g2, g3, g4, g5, g6, g7, g8, g9, g10⟩ := g 6 _ rfl
 unfold zc5 at g10
 rw [Option.bind_some]
 dsimp only
 rw [g1, g2, g3, g4, g5, g6, g7, g8, g9, g10]
 simp only [Nat.beq_refl, zH, zY, zy, zA, zR, zB, Option.bind_some, cond_true, zC, zD, zx, zb5, zI, zaa, zP]
 rw [hadd]
 simp only [zC, zG, zy, zA, zB, Option.bind_some, ws]
theorem zrV (b : List Iv) (hb : zcp b) (hbl : b.length ≤ 1000000) (p : List Tm) (hp : oks p) (hf : few p) : ∀ (q : List Tm) (i : Nat), p.drop i = q → i ≤ p.length → ∀ (o : Iv), o.valid → ∀ (m : List Kn), kns b m →
  ∃ m', zas (zw GU LU (CW GU LU) 47 none 4) (peT b p o ((i : Nat) : Int) m) = some (.exit 0, peT b p (zff b q o) ((p.length : Nat) : Int) m') := by
 intro q
 induction q with
 | nil =>
  intro i hq hi o ho m hm
  have hil : i = p.length := by have := List.drop_eq_nil_iff.1 hq; omega
  subst hil
  refine ⟨m, zb4 ?_⟩
  unfold peT
  rw [e47_4, zci]
  rfl
 | cons t q ih =>
  intro i hq hi o ho m hm
  have hil : i < p.length := by
   apply Nat.lt_of_not_le
   intro hle
   rw [List.drop_eq_nil_iff.2 hle] at hq; cases hq
  have hd := List.drop_eq_getElem_cons hil
  rw [hq] at hd
  injection hd with ht hq'
  obtain ⟨m1, h1, q1⟩ := zrf b hb hbl p hp hf i hil o ho m hm
  obtain ⟨m2, q2⟩ := ih (i + 1) hq'.symm (by omega) _ (zf1 ho (zhE b _)) m1 h1
  refine ⟨m2, (zn q1).trans ?_⟩
  rw [q2, ← ht]
  rfl
theorem p47 (p : List Tm) (hp : oks p) (hf : few p) (b : List Iv) (hb : zcp b) (hbl : b.length ≤ 1000000) :
  (CW GU LU).p (.func 47) [.slice .any (p.map Tm.cs), .slice .any (b.map Iv.c)] = some (.agg (zf2 b p).c) := by
 obtain ⟨m', hl⟩ := zrV b hb hbl p hp hf p 0 rfl (Nat.zero_le _) (Iv.new 0 0) (zfe 0) [] (fun x hx => by cases hx)
 have hpw : (CW GU LU).s (.func 62) [.slice .any (b.map Iv.c)] [] = some (.fn (.func 71) [] [.ptr 2 0, .ptr 0 0, .ptr 3 0], zc5 b []) := zdD (zqY _ _)
 unfold zc5 at hpw
 unfold peT at hl
 refine zbL (u := .agg (zf2 b p).c) (h := zc5 b m') ?_ rfl
 rw [e47, hpw]
 simp only [Option.bind_some, zC, zG, zy, zA, zB, zD, zx, zH, zb5, zI, zaa, zP]
 rw [p63]
 simp only [zC, zG, zy, zA, zB, Option.bind_some]
 rw [zbo, List.length_map]
 refine (zae hl _).trans ?_
 unfold zf2
 generalize zff b p (Iv.new 0 0) = v
 kernel_rfl
end Go.Ab
