/- A valid polynomial made of any terms, of the reference; conditions: bytes; fewer terms than 2^62. -/
import Derived.KernelRfl
import Derived.Test.YtpalbaaghplhnaaGreatDoorP2
set_option linter.unusedVariables false
set_option linter.unusedSimpArgs false
namespace Go.Ab
theorem wsuccL (i : Nat) (h : i + 1 < 9223372036854775808) : IntKind.wrap .i64 ((i : Int) + 1) = ((i + 1 : Nat) : Int) := by
 rw [w64 (by omega) (by omega)]; simp
def zcS (most size : Int) (out : List Tm) (t : Tm) : List Tm :=
 if ((out.length : Nat) : Int) < most then
  if t.c.tmod size = 0 then out else if zbC (ins out ⟨t.c.tmod size, mkE t.e⟩) then ins out ⟨t.c.tmod size, mkE t.e⟩ else out
 else out
def zd6 (p : List Tm) (most size : Int) : List Tm := p.foldl (zcS most size) []
theorem ztz {most size : Int} {out : List Tm} {t : Tm} (h : oks out ∧ zbC out ∧ ((out.length : Nat) : Int) ≤ max most 0) : oks (zcS most size out t) ∧ zbC (zcS most size out t) ∧ (((zcS most size out t).length : Nat) : Int) ≤ max most 0 := by
 unfold zcS
 split
 ·split
  ·exact h
  ·split
   ·rename_i h1 _ h3
    have := zhs out ⟨t.c.tmod size, mkE t.e⟩
    exact ⟨zfn _ _ h.1 (zr5 t.e).1, h3, by omega⟩
   ·exact h
 ·exact h
theorem zku (p : List Tm) (most size : Int) : oks (zd6 p most size) ∧ zbC (zd6 p most size) ∧ (((zd6 p most size).length : Nat) : Int) ≤ max most 0 := by
 have : ∀ (q out : List Tm), (oks out ∧ zbC out ∧ ((out.length : Nat) : Int) ≤ max most 0) → (oks (q.foldl (zcS most size) out) ∧ zbC (q.foldl (zcS most size) out) ∧ (((q.foldl (zcS most size) out).length : Nat) : Int) ≤ max most 0) := by
  intro q
  induction q with
  | nil => intro out h; exact h
  | cons t q ih => intro out h; exact ih _ (ztz h)
 exact this p [] ⟨fun t h => by simp at h, by decide, by simp; omega⟩
end Go.Ab
namespace Go.Ab
theorem zqt (p : List Tm) (i : Nat) (hi : i < p.length) (hp : p.length < 9223372036854775808) (most size : Int) (hs : 0 < size) (hs2 : size ≤ 2147483648) (out : List Tm) (ho : oks out) (hv : zbC out) (hm : ((out.length : Nat) : Int) < most) :
  zp GZ LZ (CW GZ LZ) 72 none 3 (zeo (p.map Tm.cs) most size (out.map Tm.cs) ((i : Nat) : Int)) = some (.normal, zeo (p.map Tm.cs) most size ((zcS most size out p[i]).map Tm.cs) ((i + 1 : Nat) : Int)) := by
 obtain ⟨l, hrow⟩ := zty p i hi most size (p[i].c.tmod size) (out.map Tm.cs)
 have e0 : (size == 0) = false := by simp only [beq_eq_false_iff_ne, ne_eq]; omega
 have e1 : decide ((((out.map Tm.cs).length : Nat) : Int) < most) = true := by rw [List.length_map]; exact decide_eq_true hm
 rw [zqr, List.length_map, zba hi, e1, zbe p i hi, zaz]
 simp only [zam, zan, zr, zs, zG, zt, Option.bind_some, cond_true, e0, cond_false]
 refine (zZ hrow _).trans ?_
 have hx := (zr5 p[i].e).1
 have hlt := Int.tmod_lt_of_pos p[i].c hs
 have hgt := Int.lt_tmod_of_pos p[i].c hs
 have hm1 : zdo out 2305843009213693952 := fun t ht => by have := (hv.1 t ht).1; simp only [zz] at this; omega
 have hfew : few out := by have := hv.2.2; unfold few; omega
 have hins := p95 out ⟨p[i].c.tmod size, mkE p[i].e⟩ ho hx hfew hm1 (by simp only; omega) (by simp only; omega)
 have hval := p52 (ins out ⟨p[i].c.tmod size, mkE p[i].e⟩) (zfn _ _ ho hx) (by have := zhs out ⟨p[i].c.tmod size, mkE p[i].e⟩; have := hv.2.2; unfold few; omega)
 have g1 : nth (za3 (p.map Tm.cs) most size (out.map Tm.cs) ((i : Nat) : Int) (p[i].c.tmod size) (((mkE p[i].e).a : Nat) : Int) (((mkE p[i].e).b : Nat) : Int) (((mkE p[i].e).c : Nat) : Int) (((mkE p[i].e).d : Nat) : Int) (((mkE p[i].e).e : Nat) : Int) (((mkE p[i].e).f : Nat) : Int) l 6).t 0 = .slice .any (p.map Tm.cs) := rfl
 have g2 : nth (za3 (p.map Tm.cs) most size (out.map Tm.cs) ((i : Nat) : Int) (p[i].c.tmod size) (((mkE p[i].e).a : Nat) : Int) (((mkE p[i].e).b : Nat) : Int) (((mkE p[i].e).c : Nat) : Int) (((mkE p[i].e).d : Nat) : Int) (((mkE p[i].e).e : Nat) : Int) (((mkE p[i].e).f : Nat) : Int) l 6).t 1 = .int .i64 most := rfl
 have g3 : nth (za3 (p.map Tm.cs) most size (out.map Tm.cs) ((i : Nat) : Int) (p[i].c.tmod size) (((mkE p[i].e).a : Nat) : Int) (((mkE p[i].e).b : Nat) : Int) (((mkE p[i].e).c : Nat) : Int) (((mkE p[i].e).d : Nat) : Int) (((mkE p[i].e).e : Nat) : Int) (((mkE p[i].e).f : Nat) : Int) l 6).t 2 = .int .i64 size := rfl
 have g4 : nth (za3 (p.map Tm.cs) most size (out.map Tm.cs) ((i : Nat) : Int) (p[i].c.tmod size) (((mkE p[i].e).a : Nat) : Int) (((mkE p[i].e).b : Nat) : Int) (((mkE p[i].e).c : Nat) : Int) (((mkE p[i].e).d : Nat) : Int) (((mkE p[i].e).e : Nat) : Int) (((mkE p[i].e).f : Nat) : Int) l 6).t 7 = .slice .any (out.map Tm.cs) := rfl
 have g5 : nth (za3 (p.map Tm.cs) most size (out.map Tm.cs) ((i : Nat) : Int) (p[i].c.tmod size) (((mkE p[i].e).a : Nat) : Int) (((mkE p[i].e).b : Nat) : Int) (((mkE p[i].e).c : Nat) : Int) (((mkE p[i].e).d : Nat) : Int) (((mkE p[i].e).e : Nat) : Int) (((mkE p[i].e).f : Nat) : Int) l 6).t 8 = .int .i64 ((i : Nat) : Int) := rfl
 have g6 : nth (za3 (p.map Tm.cs) most size (out.map Tm.cs) ((i : Nat) : Int) (p[i].c.tmod size) (((mkE p[i].e).a : Nat) : Int) (((mkE p[i].e).b : Nat) : Int) (((mkE p[i].e).c : Nat) : Int) (((mkE p[i].e).d : Nat) : Int) (((mkE p[i].e).e : Nat) : Int) (((mkE p[i].e).f : Nat) : Int) l 6).t 9 = .box [.int .i64 (p[i].c.tmod size), .int .u8 (((mkE p[i].e).a : Nat) : Int), .int .u8 (((mkE p[i].e).b : Nat) : Int), .int .u8 (((mkE p[i].e).c : Nat) : Int), .int .u8 (((mkE p[i].e).d : Nat) : Int), .int .u8 (((mkE p[i].e).e : Nat) : Int), .int .u8 (((mkE p[i].e).f : Nat) : Int)] := rfl
 have g7 : nth (za3 (p.map Tm.cs) most size (out.map Tm.cs) ((i : Nat) : Int) (p[i].c.tmod size) (((mkE p[i].e).a : Nat) : Int) (((mkE p[i].e).b : Nat) : Int) (((mkE p[i].e).c : Nat) : Int) (((mkE p[i].e).d : Nat) : Int) (((mkE p[i].e).e : Nat) : Int) (((mkE p[i].e).f : Nat) : Int) l 6).t 10 = .int .i64 l := rfl
 have g8 : nth (za3 (p.map Tm.cs) most size (out.map Tm.cs) ((i : Nat) : Int) (p[i].c.tmod size) (((mkE p[i].e).a : Nat) : Int) (((mkE p[i].e).b : Nat) : Int) (((mkE p[i].e).c : Nat) : Int) (((mkE p[i].e).d : Nat) : Int) (((mkE p[i].e).e : Nat) : Int) (((mkE p[i].e).f : Nat) : Int) l 6).t 11 = .int .i64 6 := rfl
 rw [Option.bind_some]
 dsimp only
 rw [g1, g2, g3, g4, g5, g6, g7, g8]
 simp only [Nat.beq_refl, zD, zP, zr, zs, zG, zt, Option.bind_some, cond_true, wsuccL i (by omega)]
 unfold zcS
 rw [if_pos hm]
 by_cases h0 : p[i].c.tmod size = 0
 ·have e2 : (p[i].c.tmod size != 0) = false := by simpa using h0
  rw [e2, if_pos h0]; rfl
 ·have e2 : (p[i].c.tmod size != 0) = true := by simpa using h0
  rw [e2, if_neg h0]
  simp only [cond_true]
  rw [hins]
  simp only [zD, Option.bind_some]
  rw [hval]
  simp only [zQ, Option.bind_some]
  by_cases h1 : zbC (ins out ⟨p[i].c.tmod size, mkE p[i].e⟩)
  ·rw [if_pos h1]; simp only [h1, decide_true, cond_true]
  ·rw [if_neg h1]; simp only [h1, decide_false, cond_false]
end Go.Ab
namespace Go.Ab
theorem zmF {most size : Int} {out : List Tm} (h : ¬ ((out.length : Nat) : Int) < most) : ∀ q : List Tm, q.foldl (zcS most size) out = out
 | [] => rfl
 | t :: q => by
  rw [List.foldl_cons, show zcS most size out t = out by unfold zcS; rw [if_neg h]]
  exact zmF h q
def zls (p : List Tm) (most size : Int) (i : Nat) : St := zeo (p.map Tm.cs) most size (((p.take i).foldl (zcS most size) []).map Tm.cs) ((i : Nat) : Int)
theorem zr6 (p : List Tm) (hp : p.length < 9223372036854775808) (most size : Int) (hs : 0 < size) (hs2 : size ≤ 2147483648) : ∀ (r i : Nat), i + r = p.length →
  ∃ k, zal (zp GZ LZ (CW GZ LZ) 72 none 3) (zls p most size i) = some (.exit 0, zeo (p.map Tm.cs) most size ((zd6 p most size).map Tm.cs) k) := by
 intro r
 induction r with
 | zero =>
  intro i hi
  have hi' : i = p.length := by omega
  subst hi'
  refine ⟨((p.length : Nat) : Int), zbb ?_⟩
  unfold zls zd6
  rw [List.take_length, zqr, List.length_map, za7]
  rfl
 | succ r ih =>
  intro i hi
  have hil : i < p.length := by omega
  have hok := zku (p.take i) most size
  unfold zd6 at hok
  by_cases hm : ((((p.take i).foldl (zcS most size) []).length : Nat) : Int) < most
  ·obtain ⟨k, hk⟩ := ih (i + 1) (by omega)
   refine ⟨k, (zk ?_).trans hk⟩
   unfold zls
   rw [zqt p i hil hp most size hs hs2 _ hok.1 hok.2.1 hm, zb6 hil, List.foldl_append]
   rfl
  ·refine ⟨((i : Nat) : Int), zbb ?_⟩
   have hfull : zd6 p most size = (p.take i).foldl (zcS most size) [] := by
    unfold zd6
    conv => lhs; rw [← List.take_append_drop i p, List.foldl_append]
    exact zmF hm _
   rw [hfull]
   unfold zls
   have e1 : decide ((((((p.take i).foldl (zcS most size) []).map Tm.cs).length : Nat) : Int) < most) = false := by rw [List.length_map]; exact decide_eq_false hm
   rw [zqr, e1, List.length_map, zba hil]
   rfl
theorem p72 (p : List Tm) (hp : p.length < 9223372036854775808) (most size : Int) (hs : 0 < size) (hs2 : size ≤ 2147483648) :
  (CW GZ LZ).p (.func 72) [.slice .any (p.map Tm.cs), .int .i64 most, .int .i64 size] = some (.slice .any ((zd6 p most size).map Tm.cs)) := by
 obtain ⟨k, hl⟩ := zr6 p hp most size hs hs2 p.length 0 (by omega)
 have h0 : zls p most size 0 = zeo (p.map Tm.cs) most size [] 0 := rfl
 rw [h0] at hl
 refine zaA (u := .slice .any ((zd6 p most size).map Tm.cs)) (h := []) ?_ rfl
 rw [e72, zaz]
 refine (zZ hl _).trans ?_
 kernel_rfl
end Go.Ab
namespace Go.Ab
def zaT (a : Iv) (n : Nat) : Iv := if h : n ≤ 1 then a else if n % 2 = 0 then (zaT a (n / 2)).sq else (zaT a (n - 1)).mul a
termination_by n
decreasing_by all_goals omega
theorem zeZ (a : Iv) {n : Nat} (h : n ≤ 1) : zaT a n = a := by rw [zaT]; simp [h]
theorem ziR (a : Iv) {n : Nat} (h : 1 < n) (h2 : n % 2 = 0) : zaT a n = (zaT a (n / 2)).sq := by rw [zaT]; simp [h2, show ¬ n ≤ 1 by omega]
theorem zlt (a : Iv) {n : Nat} (h : 1 < n) (h2 : ¬ n % 2 = 0) : zaT a n = (zaT a (n - 1)).mul a := by rw [zaT]; simp [h2, show ¬ n ≤ 1 by omega]
theorem zcd {a : Iv} (h : a.valid) : ∀ n : Nat, (zaT a n).valid := by
 intro n
 induction n using Nat.strongRecOn with
 | _ n ih =>
  by_cases h1 : n ≤ 1
  ·rw [zeZ a h1]; exact h
  ·by_cases h2 : n % 2 = 0
   ·rw [ziR a (by omega) h2]; exact ztl (ih _ (by omega))
   ·rw [zlt a (by omega) h2]; exact zbv _ _
theorem p108 (a : Iv) (ha : a.valid) : ∀ n : Nat, n ≤ 1000 → (CW GZ LZ).p (.func 108) [.agg [.int .i64 a.lo, .int .i64 a.hi], .int .i64 ((n : Nat) : Int)] = some (.agg (zaT a n).c) := by
 intro n
 induction n using Nat.strongRecOn with
 | _ n ih =>
  intro hn
  refine zE (h := []) ?_ rfl
  rw [e108]
  by_cases h1 : n ≤ 1
  ·have e1 : decide (((n : Nat) : Int) ≤ 1) = true := by simp; omega
   rw [e1, zeZ a h1]; rfl
  ·have e1 : decide (((n : Nat) : Int) ≤ 1) = false := by simp; omega
   rw [e1]
   simp only [cond_false]
   have em : Int.tmod ((n : Nat) : Int) 2 = ((n % 2 : Nat) : Int) := by rw [Int.tmod_eq_emod_of_nonneg (by omega)]; omega
   by_cases h2 : n % 2 = 0
   ·have e2 : (Int.tmod ((n : Nat) : Int) 2 == 0) = true := by rw [em, h2]; rfl
    have ed : IntKind.wrap .i64 (Int.tdiv ((n : Nat) : Int) 2) = ((n / 2 : Nat) : Int) := by
     rw [Int.tdiv_eq_ediv_of_nonneg (by omega), w64 (by omega) (by omega)]; omega
    rw [e2, ed, ih (n / 2) (by omega) (by omega), ziR a (by omega) h2]
    simp only [cond_true, zw, zB, zr, zs, zt, Option.bind_some]
    rw [p117 _ (zcd ha _)]
    simp only [zw, zB, zr, zs, zt, Option.bind_some]
    rfl
   ·have e2 : (Int.tmod ((n : Nat) : Int) 2 == 0) = false := by rw [em]; simp; omega
    have ed : IntKind.wrap .i64 (((n : Nat) : Int) - 1) = ((n - 1 : Nat) : Int) := by
     rw [w64 (by omega) (by omega)]; omega
    rw [e2, ed, ih (n - 1) (by omega) (by omega), zlt a (by omega) h2]
    simp only [cond_false, zw, zB, zr, zs, zt, Option.bind_some]
    rw [p67 _ _ (zcd ha _) ha]
    simp only [zw, zB, zr, zs, zt, Option.bind_some]
    rfl
end Go.Ab
namespace Go.Ab
def dom : Iv := ⟨-65536, 65536⟩
theorem zr7 : dom.valid := by simp [Iv.valid, Iv.isW, zz, dom]
def bx (b : List Iv) (k : Nat) : Iv := (b[k]?).getD dom
def za1 (b : List Iv) : Prop := ∀ x ∈ b, x.valid
theorem zdN {b : List Iv} (h : za1 b) (k : Nat) : (bx b k).valid := by
 unfold bx
 cases hk : b[k]? with
 | none => exact zr7
 | some x => exact h x (List.mem_of_getElem? hk)
def evS (b : List Iv) (k u : Nat) (v : Iv) : Iv := if 0 < u then v.mul (zaT (bx b k) u) else v
theorem zbc {b : List Iv} {k u : Nat} {v : Iv} (hv : v.valid) : (evS b k u v).valid := by
 unfold evS; split
 ·exact zbv _ _
 ·exact hv
theorem getB (b : List Iv) (k : Nat) (h : k < b.length) : zS (b.map Iv.c) ((k : Nat) : Int) 2 = some (bx b k).c := by
 rw [zdm Iv.c Iv.c_len b k h]
 unfold bx
 rw [List.getElem?_eq_getElem h]; rfl
theorem zoi {b : List Iv} {k : Nat} (h : ¬ k < b.length) : bx b k = dom := by
 unfold bx; rw [List.getElem?_eq_none (by omega)]; rfl
theorem ev_var (p : List Tm) (b : List Iv) (hb : za1 b) (i : Nat) (hi : i < p.length) (o v : Iv) (hv : v.valid) (k u : Nat) (hk : k < 6) (hu : za5 [p[i].c, ((p[i].e.a : Nat) : Int), ((p[i].e.b : Nat) : Int), ((p[i].e.c : Nat) : Int), ((p[i].e.d : Nat) : Int), ((p[i].e.e : Nat) : Int), ((p[i].e.f : Nat) : Int)] (1 + k * 1) = some ((u : Nat) : Int)) (hu2 : u < 256) :
  zp GZ LZ (CW GZ LZ) 84 none 7 (zck (p.map Tm.cs) (b.map Iv.c) 0 0 o.lo o.hi ((i : Nat) : Int) v.lo v.hi ((k : Nat) : Int)) = some (.normal, zck (p.map Tm.cs) (b.map Iv.c) 0 0 o.lo o.hi ((i : Nat) : Int) (evS b k u v).lo (evS b k u v).hi ((k + 1 : Nat) : Int)) := by
 have w8 : IntKind.wrap .i64 ((u : Nat) : Int) = ((u : Nat) : Int) := w64 (by omega) (by omega)
 have hkk : k = 0 ∨ k = 1 ∨ k = 2 ∨ k = 3 ∨ k = 4 ∨ k = 5 := by omega
 have e1 : decide (((k : Nat) : Int) < 6) = true := by simp; omega
 have ws := zaV k (by omega)
 have hlen : decide (((k : Nat) : Int) < (((b.map Iv.c).length : Nat) : Int)) = decide (k < b.length) := by rw [decide_eq_decide, List.length_map]; omega
 have hpw := p108 (bx b k) (zdN hb k) u (by omega)
 have hml := p67 v (zaT (bx b k) u) hv (zcd (zdN hb k) u)
 have bo : (false || ((true && (Nat.beq (1 + ((((k : Nat) : Int)).toNat * 1)) 1)) || ((true && (Nat.beq (1 + ((((k : Nat) : Int)).toNat * 1)) 2)) || ((true && (Nat.beq (1 + ((((k : Nat) : Int)).toNat * 1)) 3)) || ((true && (Nat.beq (1 + ((((k : Nat) : Int)).toNat * 1)) 4)) || ((true && (Nat.beq (1 + ((((k : Nat) : Int)).toNat * 1)) 5)) || ((true && (Nat.beq (1 + ((((k : Nat) : Int)).toNat * 1)) 6)) || false))))))) = true := by
  rcases hkk with rfl | rfl | rfl | rfl | rfl | rfl <;> rfl
 have e2 : decide ((0 : Int) ≤ ((k : Nat) : Int)) = true := by simp
 have e3 : decide ((((k : Nat) : Int)).toNat < 6) = true := by simp; omega
 have fin : ∀ (x : Option (Ex × St)), x = some (.normal, zck (p.map Tm.cs) (b.map Iv.c) 0 0 o.lo o.hi ((i : Nat) : Int) (v.mul (zaT (bx b k) u)).lo (v.mul (zaT (bx b k) u)).hi ((k + 1 : Nat) : Int)) → 0 < u → x = some (.normal, zck (p.map Tm.cs) (b.map Iv.c) 0 0 o.lo o.hi ((i : Nat) : Int) (evS b k u v).lo (evS b k u v).hi ((k + 1 : Nat) : Int)) := fun x hx h => by
  rw [hx]; unfold evS; rw [if_pos h]
 rw [e84_7, e1, hlen, bo, e2, e3, zbe p i hi]
 by_cases hkb : k < b.length
 ·rw [getB b k hkb, show decide (k < b.length) = true by simpa using hkb]
  simp only [zam, zan, zB, zr, zs, zG, zt, Option.bind_some, cond_true, Int.toNat_natCast]
  rw [hu]
  simp only [Option.bind_some]
  by_cases h0 : 0 < u
  ·have e4 : decide (((u : Nat) : Int) > 0) = true := by simp; omega
   refine fin _ ?_ h0
   rw [e4, w8]
   simp only [cond_true]
   rw [hpw]
   simp only [zw, zB, zr, zs, zt, Option.bind_some]
   rw [hml]
   simp only [zw, zB, zr, zs, zt, Option.bind_some, ws]
  ·have e4 : decide (((u : Nat) : Int) > 0) = false := by simp; omega
   rw [e4, ws]
   unfold evS; rw [if_neg h0]; rfl
 ·rw [show decide (k < b.length) = false by simpa using hkb]
  rw [zoi hkb] at hpw
  simp only [zam, zan, zB, zr, zs, zG, zt, Option.bind_some, cond_true, cond_false, Int.toNat_natCast]
  rw [hu]
  simp only [Option.bind_some]
  by_cases h0 : 0 < u
  ·have e4 : decide (((u : Nat) : Int) > 0) = true := by simp; omega
   refine fin _ ?_ h0
   rw [zoi hkb] at hml ⊢
   rw [e4, w8]
   simp only [cond_true]
   rw [show (V.agg [.int .i64 (-65536), .int .i64 65536]) = V.agg [.int .i64 dom.lo, .int .i64 dom.hi] from rfl, hpw]
   simp only [zw, zB, zr, zs, zt, Option.bind_some]
   rw [hml]
   simp only [zw, zB, zr, zs, zt, Option.bind_some, ws]
  ·have e4 : decide (((u : Nat) : Int) > 0) = false := by simp; omega
   rw [e4, ws]
   unfold evS; rw [if_neg h0]; rfl
end Go.Ab
namespace Go.Ab
def evT (b : List Iv) (t : Tm) : Iv := evS b 5 t.e.f (evS b 4 t.e.e (evS b 3 t.e.d (evS b 2 t.e.c (evS b 1 t.e.b (evS b 0 t.e.a (Iv.new t.c t.c))))))
theorem zcT (c : Int) : (Iv.new c c).valid := zcQ (Int.le_refl _)
theorem zfL (b : List Iv) (t : Tm) : (evT b t).valid := by
 unfold evT
 repeat' apply zbc
 exact zcT _
def ze0 (b : List Iv) : List Tm → Iv → Iv
 | [], o => o
 | t :: p, o => ze0 b p (o.add (evT b t))
def ze1 (b : List Iv) (p : List Tm) : Iv := ze0 b p (Iv.new 0 0)
theorem zj1 (b : List Iv) : ∀ (p : List Tm) (o : Iv), p.foldl (fun o t => o.add (evT b t)) o = ze0 b p o
 | [], _ => rfl
 | _ :: p, _ => zj1 b p _
theorem ev_row (p : List Tm) (hp : oks p) (b : List Iv) (hb : za1 b) (i : Nat) (hi : i < p.length) (o : Iv) :
  zal (zp GZ LZ (CW GZ LZ) 84 none 7) (zck (p.map Tm.cs) (b.map Iv.c) 0 0 o.lo o.hi ((i : Nat) : Int) (Iv.new p[i].c p[i].c).lo (Iv.new p[i].c p[i].c).hi 0) = some (.exit 2, zck (p.map Tm.cs) (b.map Iv.c) 0 0 o.lo o.hi ((i : Nat) : Int) (evT b p[i]).lo (evT b p[i]).hi 6) := by
 obtain ⟨k1, k2, k3, k4, k5, k6⟩ := hp _ (List.getElem_mem hi)
 have s := fun k u v hv hk hu hu2 => ev_var p b hb i hi o v hv k u hk hu hu2
 have v0 := zcT p[i].c
 have v1 := zbc (b := b) (k := 0) (u := p[i].e.a) v0
 have v2 := zbc (b := b) (k := 1) (u := p[i].e.b) v1
 have v3 := zbc (b := b) (k := 2) (u := p[i].e.c) v2
 have v4 := zbc (b := b) (k := 3) (u := p[i].e.d) v3
 have v5 := zbc (b := b) (k := 4) (u := p[i].e.e) v4
 refine (zk (s 0 p[i].e.a _ v0 (by decide) rfl k1)).trans ?_
 refine (zk (s 1 p[i].e.b _ v1 (by decide) rfl k2)).trans ?_
 refine (zk (s 2 p[i].e.c _ v2 (by decide) rfl k3)).trans ?_
 refine (zk (s 3 p[i].e.d _ v3 (by decide) rfl k4)).trans ?_
 refine (zk (s 4 p[i].e.e _ v4 (by decide) rfl k5)).trans ?_
 refine (zk (s 5 p[i].e.f _ v5 (by decide) rfl k6)).trans ?_
 refine zbb ?_
 rw [e84_7]
 rfl
theorem ztA (p : List Tm) (hp : oks p) (hf : few p) (b : List Iv) (hb : za1 b) (i : Nat) (hi : i < p.length) (o : Iv) (ho : o.valid) :
  zp GZ LZ (CW GZ LZ) 84 none 3 (zhY (p.map Tm.cs) (b.map Iv.c) 0 0 o.lo o.hi ((i : Nat) : Int)) = some (.normal, zhY (p.map Tm.cs) (b.map Iv.c) 0 0 (o.add (evT b p[i])).lo (o.add (evT b p[i])).hi ((i + 1 : Nat) : Int)) := by
 have hfl : p.length ≤ 100000 := hf
 have hrow := ev_row p hp b hb i hi o
 have hadd := p58 o (evT b p[i]) ho (zfL b _)
 have ws := zaV i (by omega)
 have e1 : decide (((i : Nat) : Int) < (((p.map Tm.cs).length : Nat) : Int)) = true := by rw [List.length_map]; exact zba hi
 rw [e84_3, e1, zbe p i hi]
 simp only [zam, zan, zr, zs, zG, zt, Option.bind_some, cond_true]
 rw [p86]
 simp only [zw, zB, zr, zs, zt, Option.bind_some]
 rw [zaz]
 refine (zZ hrow _).trans ?_
 generalize evT b p[i] = v at *
 have g1 : ∀ k : Int, nth (zck (p.map Tm.cs) (b.map Iv.c) 0 0 o.lo o.hi ((i : Nat) : Int) v.lo v.hi k).t 0 = .slice .any (p.map Tm.cs) := fun _ => rfl
 have g2 : ∀ k : Int, nth (zck (p.map Tm.cs) (b.map Iv.c) 0 0 o.lo o.hi ((i : Nat) : Int) v.lo v.hi k).t 1 = .slice .any (b.map Iv.c) := fun _ => rfl
 have g3 : ∀ k : Int, nth (zck (p.map Tm.cs) (b.map Iv.c) 0 0 o.lo o.hi ((i : Nat) : Int) v.lo v.hi k).t 4 = .box [.int .i64 0, .int .i64 0] := fun _ => rfl
 have g4 : ∀ k : Int, nth (zck (p.map Tm.cs) (b.map Iv.c) 0 0 o.lo o.hi ((i : Nat) : Int) v.lo v.hi k).t 5 = .box [.int .i64 o.lo, .int .i64 o.hi] := fun _ => rfl
 have g5 : ∀ k : Int, nth (zck (p.map Tm.cs) (b.map Iv.c) 0 0 o.lo o.hi ((i : Nat) : Int) v.lo v.hi k).t 6 = .int .i64 ((i : Nat) : Int) := fun _ => rfl
 have g6 : ∀ k : Int, nth (zck (p.map Tm.cs) (b.map Iv.c) 0 0 o.lo o.hi ((i : Nat) : Int) v.lo v.hi k).t 7 = .box [.int .i64 v.lo, .int .i64 v.hi] := fun _ => rfl
 have g7 : ∀ k : Int, nth (zck (p.map Tm.cs) (b.map Iv.c) 0 0 o.lo o.hi ((i : Nat) : Int) v.lo v.hi k).t 8 = .int .i64 k := fun _ => rfl
 rw [Option.bind_some]
 dsimp only
 rw [g1, g2, g3, g4, g5, g6, g7]
 simp only [Nat.beq_refl, zD, zP, zr, zs, zt, Option.bind_some, cond_true]
 rw [hadd]
 simp only [zw, zB, zr, zs, zt, Option.bind_some, ws]
theorem zhb (b : List Iv) : ∀ (p : List Tm) (o : Iv), o.valid → (ze0 b p o).valid
 | [], _, h => h
 | t :: p, o, h => zhb b p _ (zbo h (zfL b t))
theorem p84 (p : List Tm) (hp : oks p) (hf : few p) (b : List Iv) (hb : za1 b) :
  (CW GZ LZ).p (.func 84) [.slice .any (p.map Tm.cs), .slice .any (b.map Iv.c)] = some (.agg (ze1 b p).c) := by
 have hl := zj0 (round := zp GZ LZ (CW GZ LZ) 84 none 3) (fun i (o : Iv) => zhY (p.map Tm.cs) (b.map Iv.c) 0 0 o.lo o.hi ((i : Nat) : Int)) (fun o t => o.add (evT b t)) (fun o => o.valid) p (id := 0)
  (fun i hi o ho => ⟨ztA p hp hf b hb i hi o ho, zbo ho (zfL b _)⟩)
  (fun o ho => by
   have e1 : decide (((p.length : Nat) : Int) < (((p.map Tm.cs).length : Nat) : Int)) = false := by rw [List.length_map]; exact za7
   rw [e84_3, e1]; rfl) (Iv.new 0 0) (zcT 0)
 have hl1 := hl.1
 rw [zj1] at hl1
 refine zE (h := []) ?_ rfl
 rw [e84, p86]
 simp only [zw, zB, zr, zs, zt, Option.bind_some]
 rw [zaz]
 refine (zZ hl1 _).trans ?_
 kernel_rfl
end Go.Ab
namespace Go.Ab
theorem zh6 {α : Type} {eq : List V → List V → Option Bool} {key : List V} (E : α → List V × List V) (test : α → Bool) (h : ∀ x, eq key (E x).1 = some (test x)) : ∀ l : List α, zaw eq key (l.map E) = some (l.findIdx? test)
 | [] => rfl
 | x :: l => by
  simp only [List.map_cons, zaw, h x, Option.bind_some, zh6 E test h l, List.findIdx?_cons]
  cases test x <;> rfl
theorem eqAt (a b c d : Int) : eqT GP 8 126 [.int .i64 a, .int .i64 b] [.int .i64 c, .int .i64 d] = some ((a == c) && ((b == d) && true)) := by kernel_rfl
structure Kn where
 i : Int
 n : Int
 v : Iv
def Kn.e (x : Kn) : List V × List V := ([.int .i64 x.i, .int .i64 x.n], x.v.c)
def Kn.ok (b : List Iv) (x : Kn) : Prop := 1 ≤ x.n ∧ 0 ≤ x.i ∧ x.v = zaT (bx b x.i.toNat) x.n.toNat
def kns (b : List Iv) (m : List Kn) : Prop := ∀ x ∈ m, x.ok b
def Kn.is (i n : Int) (x : Kn) : Bool := (i == x.i) && ((n == x.n) && true)
theorem zh7 (i n : Int) (m : List Kn) : zaw (eqT GP 8 126) [.int .i64 i, .int .i64 n] (m.map Kn.e) = some (m.findIdx? (Kn.is i n)) := zh6 Kn.e (Kn.is i n) (fun x => eqAt _ _ _ _) m
theorem kput (i n : Int) (v : Iv) (m : List Kn) (h : m.findIdx? (Kn.is i n) = none) : zeH (m.map Kn.e) (m.findIdx? (Kn.is i n)) [.int .i64 i, .int .i64 n] v.c = (m ++ [(⟨i, n, v⟩ : Kn)]).map Kn.e := by
 rw [h]
 simp only [zeH, List.map_append, List.map_cons, List.map_nil]
 rfl
def zdA (b : List Iv) (m : List Kn) : List Ob := [.cells [.slice .any (b.map Iv.c)], .map true true 2 (m.map Kn.e), .cells [.map 1], .cells [.fn (.func 115) [] [.ptr 2 0, .ptr 0 0, .ptr 3 0]]]
theorem zcA (ka va : Bool) (kn : Nat) (es : List (List V × List V)) : zbU ka va kn (.map ka va kn es) = some es := by simp [zbU]
theorem ztB (b : List Iv) (i : Nat) (n : Nat) (hn : 1 ≤ n) (m : List Kn) (hm : kns b m) : ∃ m', kns b m' ∧ zeH (m.map Kn.e) (m.findIdx? (Kn.is ((i : Nat) : Int) ((n : Nat) : Int))) [.int .i64 ((i : Nat) : Int), .int .i64 ((n : Nat) : Int)] (zaT (bx b i) n).c = m'.map Kn.e := by
 have hok : Kn.ok b ⟨((i : Nat) : Int), ((n : Nat) : Int), zaT (bx b i) n⟩ := ⟨by simp only; omega, by simp, by simp⟩
 cases h : m.findIdx? (Kn.is ((i : Nat) : Int) ((n : Nat) : Int)) with
 | none =>
  refine ⟨m ++ [⟨((i : Nat) : Int), ((n : Nat) : Int), zaT (bx b i) n⟩], fun x hx => ?_, ?_⟩
  ·rcases List.mem_append.1 hx with hx | hx
   ·exact hm x hx
   ·rw [List.mem_singleton.1 hx]; exact hok
  ·have := kput ((i : Nat) : Int) ((n : Nat) : Int) (zaT (bx b i) n) m h
   rwa [h] at this
 | some j =>
  refine ⟨m.set j ⟨((i : Nat) : Int), ((n : Nat) : Int), zaT (bx b i) n⟩, fun x hx => ?_, ?_⟩
  ·rcases List.mem_or_eq_of_mem_set hx with hx | rfl
   ·exact hm x hx
   ·exact hok
  ·simp only [zeH, List.map_set]; rfl
theorem zqu (b : List Iv) (hb : za1 b) (hbl : b.length ≤ 1000000) (i : Nat) (hi : i < 1000000) : ∀ n : Nat, 1 ≤ n → n ≤ 1000 → ∀ m : List Kn, kns b m → ∃ m', kns b m' ∧
  (CW GZ LZ).s (.func 115) [.int .i64 ((i : Nat) : Int), .int .i64 ((n : Nat) : Int), .ptr 2 0, .ptr 0 0, .ptr 3 0] (zdA b m) = some (.agg (zaT (bx b i) n).c, zdA b m') := by
 intro n
 induction n using Nat.strongRecOn with
 | _ n ih =>
  intro hn1 hn m hm
  have hlen : decide (((i : Nat) : Int) < (((b.map Iv.c).length : Nat) : Int)) = decide (i < b.length) := by rw [decide_eq_decide, List.length_map]; omega
  have fin : ∀ (v : Iv) (m : List Kn), kns b m → v = zaT (bx b i) n → ∃ m', kns b m' ∧ (some (V.agg [.int .i64 v.lo, .int .i64 v.hi], [Ob.cells [.slice .any (b.map Iv.c)], .map true true 2 (zeH (m.map Kn.e) (m.findIdx? (Kn.is ((i : Nat) : Int) ((n : Nat) : Int))) [.int .i64 ((i : Nat) : Int), .int .i64 ((n : Nat) : Int)] [.int .i64 v.lo, .int .i64 v.hi]), .cells [.map 1], .cells [.fn (.func 115) [] [.ptr 2 0, .ptr 0 0, .ptr 3 0]]]) : Option (V × List Ob)) = some (.agg (zaT (bx b i) n).c, zdA b m') := by
   intro v m hm hv
   subst hv
   obtain ⟨m', h1, h2⟩ := ztB b i n hn1 m hm
   refine ⟨m', h1, ?_⟩
   rw [show [V.int .i64 (zaT (bx b i) n).lo, .int .i64 (zaT (bx b i) n).hi] = (zaT (bx b i) n).c from rfl, h2]
   rfl
  have run : ∀ r, zO GZ LZ (CW GZ LZ) (.func 115) [.int .i64 ((i : Nat) : Int), .int .i64 ((n : Nat) : Int), .ptr 2 0, .ptr 0 0, .ptr 3 0] (zdA b m) = some r → (CW GZ LZ).s (.func 115) [.int .i64 ((i : Nat) : Int), .int .i64 ((n : Nat) : Int), .ptr 2 0, .ptr 0 0, .ptr 3 0] (zdA b m) = some r := fun r h => zed h
  have hs := zrN (CW GZ LZ) (b.map Iv.c) (m.map Kn.e) ((i : Nat) : Int) ((n : Nat) : Int)
  cases hf : m.findIdx? (Kn.is ((i : Nat) : Int) ((n : Nat) : Int)) with
  | some j =>
   obtain ⟨hj, hj2, _⟩ := List.findIdx?_eq_some_iff_getElem.1 hf
   have hx := hm _ (List.getElem_mem hj)
   simp only [Kn.is, Bool.and_true, Bool.and_eq_true, beq_iff_eq] at hj2
   have hv : m[j].v = zaT (bx b i) n := by rw [hx.2.2, ← hj2.1, ← hj2.2]; simp
   refine ⟨m, hm, run _ ?_⟩
   unfold zdA
   rw [hs, zh7, hf]
   have hmv : zeG (m.map Kn.e) j = some m[j].v.c := by simp [zeG, hj, Kn.e]
   simp only [Option.bind_some, hmv, zB, zr, zs, zt, hv]
   rfl
  | none =>
   by_cases h1 : n = 1
   ·subst h1
    by_cases hib : i < b.length
    ·have hv : bx b i = zaT (bx b i) 1 := (zeZ _ (Nat.le_refl 1)).symm
     obtain ⟨m', g1, g2⟩ := fin (bx b i) m hm hv
     refine ⟨m', g1, (run _ ?_)⟩
     unfold zdA
     rw [hs, zh7, hf, hlen, show decide (i < b.length) = true by simpa using hib, getB b i hib]
     rw [hf] at g2
     simp only [Option.bind_some, zB, zr, zs, zt]
     exact g2
    ·have hv : dom = zaT (bx b i) 1 := by rw [zeZ _ (Nat.le_refl 1), zoi hib]
     obtain ⟨m', g1, g2⟩ := fin dom m hm hv
     refine ⟨m', g1, (run _ ?_)⟩
     unfold zdA
     rw [hs, zh7, hf, hlen, show decide (i < b.length) = false by simpa using hib]
     rw [hf] at g2
     simp only [Option.bind_some]
     exact g2
   ·have e1 : (((n : Nat) : Int) == 1) = false := by simp; omega
    have hv1 : (zaT (bx b i) 1) = bx b i := zeZ _ (Nat.le_refl 1)
    have em : Int.tmod ((n : Nat) : Int) 2 = ((n % 2 : Nat) : Int) := by rw [Int.tmod_eq_emod_of_nonneg (by omega)]; omega
    by_cases h2 : n % 2 = 0
    ·have e2 : (Int.tmod ((n : Nat) : Int) 2 == 0) = true := by rw [em, h2]; rfl
     have ed : IntKind.wrap .i64 (Int.tdiv ((n : Nat) : Int) 2) = ((n / 2 : Nat) : Int) := by
      rw [Int.tdiv_eq_ediv_of_nonneg (by omega), w64 (by omega) (by omega)]; omega
     obtain ⟨m2, hm2, q⟩ := ih (n / 2) (by omega) (by omega) (by omega) m hm
     have hv : (zaT (bx b i) (n / 2)).sq = zaT (bx b i) n := (ziR _ (by omega) h2).symm
     obtain ⟨m', g1, g2⟩ := fin _ m2 hm2 hv
     have hsq := p116 (zaT (bx b i) (n / 2)) (zcd (zdN hb i) _)
     unfold zdA at q
     refine ⟨m', g1, run _ ?_⟩
     unfold zdA
     rw [hs, zh7, hf, hlen, e1, e2, ed]
     simp only [Option.bind_some, cond_true, cond_false]
     cases decide (i < b.length)
     all_goals
      try simp only [cond_true, cond_false]
      rw [q]
      simp only [Option.bind_some, zw, zB, zr, zs, zt, zC, zu, zD, zcA, zK, z6, zR]
      rw [hsq]
      simp only [Option.bind_some, zw, zB, zr, zs, zt]
      rw [zh7]
      exact g2
    ·have e2 : (Int.tmod ((n : Nat) : Int) 2 == 0) = false := by rw [em]; simp; omega
     have ed : IntKind.wrap .i64 (((n : Nat) : Int) - 1) = ((n - 1 : Nat) : Int) := by
      rw [w64 (by omega) (by omega)]; omega
     obtain ⟨m2, hm2, q⟩ := ih (n - 1) (by omega) (by omega) (by omega) m hm
     obtain ⟨m3, hm3, q3⟩ := ih 1 (by omega) (by omega) (by omega) m2 hm2
     have hv : (zaT (bx b i) (n - 1)).mul (zaT (bx b i) 1) = zaT (bx b i) n := by rw [hv1]; exact (zlt _ (by omega) h2).symm
     obtain ⟨m', g1, g2⟩ := fin _ m3 hm3 hv
     have hml := p64 (zaT (bx b i) (n - 1)) (zaT (bx b i) 1) (zcd (zdN hb i) _) (zcd (zdN hb i) _)
     rw [show (((1 : Nat) : Int)) = 1 from rfl] at q3
     unfold zdA at q q3
     refine ⟨m', g1, run _ ?_⟩
     unfold zdA
     rw [hs, zh7, hf, hlen, e1, e2, ed]
     simp only [Option.bind_some, cond_true, cond_false]
     cases decide (i < b.length)
     all_goals
      try simp only [cond_true, cond_false]
      rw [q]
      simp only [Option.bind_some, zw, zB, zr, zs, zt, zC, zu, zD, zcA, zK, z6, zR]
      rw [q3]
      simp only [Option.bind_some, zw, zB, zr, zs, zt, zC, zu, zD, zcA, zK, z6, zR]
      rw [hml]
      simp only [Option.bind_some, zw, zB, zr, zs, zt]
      rw [zh7]
      exact g2
end Go.Ab
namespace Go.Ab
def peS (b : List Iv) (p : List Tm) (o v : Iv) (t : Tm) (i k : Int) (m : List Kn) : St := zhW 0 0 o.lo o.hi v.lo v.hi (p.map Tm.cs) ((p.length : Nat) : Int) i ((t.e.a : Nat) : Int) ((t.e.b : Nat) : Int) ((t.e.c : Nat) : Int) ((t.e.d : Nat) : Int) ((t.e.e : Nat) : Int) ((t.e.f : Nat) : Int) k (b.map Iv.c) (m.map Kn.e)
theorem zht (b : List Iv) (hb : za1 b) (hbl : b.length ≤ 1000000) (p : List Tm) (o v : Iv) (hv : v.valid) (t : Tm) (i : Int) (k u : Nat) (hk : k < 6) (hu : za5 [((t.e.a : Nat) : Int), ((t.e.b : Nat) : Int), ((t.e.c : Nat) : Int), ((t.e.d : Nat) : Int), ((t.e.e : Nat) : Int), ((t.e.f : Nat) : Int)] (k * 1) = some ((u : Nat) : Int)) (hu2 : u < 256) (m : List Kn) (hm : kns b m) :
  ∃ m', kns b m' ∧ zp GZ LZ (CW GZ LZ) 83 none 8 (peS b p o v t i ((k : Nat) : Int) m) = some (.normal, peS b p o (evS b k u v) t i ((k + 1 : Nat) : Int) m') := by
 have w8 : IntKind.wrap .i64 ((u : Nat) : Int) = ((u : Nat) : Int) := w64 (by omega) (by omega)
 have e1 : decide (((k : Nat) : Int) < 6) = true := by simp; omega
 have e2 : decide ((0 : Int) ≤ ((k : Nat) : Int)) = true := by simp
 have e3 : decide ((((k : Nat) : Int)).toNat < 6) = true := by simp; omega
 have ws := zaV k (by omega)
 by_cases h0 : 0 < u
 ·obtain ⟨m', hm', q⟩ := zqu b hb hbl k (by omega) u h0 (by omega) m hm
  refine ⟨m', hm', ?_⟩
  have e4 : decide (((u : Nat) : Int) > 0) = true := by simp; omega
  have hml := p64 v (zaT (bx b k) u) hv (zcd (zdN hb k) u)
  unfold zdA at q
  unfold peS
  rw [zqp, e1, e2, e3]
  simp only [cond_true, Int.toNat_natCast]
  rw [hu]
  simp only [Option.bind_some]
  rw [e4, w8]
  simp only [cond_true]
  rw [q]
  simp only [Option.bind_some, zw, zB, zr, zs, zt, zC, zu, zD, zcA, zK, z6, zR]
  rw [hml]
  simp only [Option.bind_some, zw, zB, zr, zs, zt, ws]
  unfold evS
  rw [if_pos h0]
 ·refine ⟨m, hm, ?_⟩
  have e4 : decide (((u : Nat) : Int) > 0) = false := by simp; omega
  unfold peS
  rw [zqp, e1, e2, e3]
  simp only [cond_true, Int.toNat_natCast]
  rw [hu]
  simp only [Option.bind_some]
  rw [e4, ws]
  unfold evS
  rw [if_neg h0]
  rfl
theorem pe_row (b : List Iv) (hb : za1 b) (hbl : b.length ≤ 1000000) (p : List Tm) (o : Iv) (t : Tm) (ht : t.e.ok) (i : Int) (m : List Kn) (hm : kns b m) :
  ∃ m', kns b m' ∧ zal (zp GZ LZ (CW GZ LZ) 83 none 8) (peS b p o (Iv.new t.c t.c) t i 0 m) = some (.exit 2, peS b p o (evT b t) t i 6 m') := by
 obtain ⟨k1, k2, k3, k4, k5, k6⟩ := ht
 have v0 := zcT t.c
 have v1 := zbc (b := b) (k := 0) (u := t.e.a) v0
 have v2 := zbc (b := b) (k := 1) (u := t.e.b) v1
 have v3 := zbc (b := b) (k := 2) (u := t.e.c) v2
 have v4 := zbc (b := b) (k := 3) (u := t.e.d) v3
 have v5 := zbc (b := b) (k := 4) (u := t.e.e) v4
 obtain ⟨m1, h1, q1⟩ := zht b hb hbl p o _ v0 t i 0 t.e.a (by decide) rfl k1 m hm
 obtain ⟨m2, h2, q2⟩ := zht b hb hbl p o _ v1 t i 1 t.e.b (by decide) rfl k2 m1 h1
 obtain ⟨m3, h3, q3⟩ := zht b hb hbl p o _ v2 t i 2 t.e.c (by decide) rfl k3 m2 h2
 obtain ⟨m4, h4, q4⟩ := zht b hb hbl p o _ v3 t i 3 t.e.d (by decide) rfl k4 m3 h3
 obtain ⟨m5, h5, q5⟩ := zht b hb hbl p o _ v4 t i 4 t.e.e (by decide) rfl k5 m4 h4
 obtain ⟨m6, h6, q6⟩ := zht b hb hbl p o _ v5 t i 5 t.e.f (by decide) rfl k6 m5 h5
 refine ⟨m6, h6, (zk q1).trans ((zk q2).trans ((zk q3).trans ((zk q4).trans ((zk q5).trans ((zk q6).trans (zbb ?_))))))⟩
 unfold peS
 rw [zqp]
 rfl
def peT (b : List Iv) (p : List Tm) (o : Iv) (i : Int) (m : List Kn) : St := zll 0 0 o.lo o.hi (p.map Tm.cs) ((p.length : Nat) : Int) i (b.map Iv.c) (m.map Kn.e)
theorem ztC (b : List Iv) (hb : za1 b) (hbl : b.length ≤ 1000000) (p : List Tm) (hp : oks p) (hf : few p) (i : Nat) (hi : i < p.length) (o : Iv) (ho : o.valid) (m : List Kn) (hm : kns b m) :
  ∃ m', kns b m' ∧ zp GZ LZ (CW GZ LZ) 83 none 4 (peT b p o ((i : Nat) : Int) m) = some (.normal, peT b p (o.add (evT b p[i])) ((i + 1 : Nat) : Int) m') := by
 have hfl : p.length ≤ 100000 := hf
 obtain ⟨m', hm', hrow⟩ := pe_row b hb hbl p o p[i] (hp _ (List.getElem_mem hi)) ((i : Nat) : Int) m hm
 refine ⟨m', hm', ?_⟩
 have hadd := p71 o (evT b p[i]) ho (zfL b _)
 have ws := zaV i (by omega)
 have e1 : decide (((i : Nat) : Int) < ((p.length : Nat) : Int)) = true := zba hi
 unfold peS at hrow
 unfold peT
 rw [e83_4, e1, zbe p i hi]
 simp only [zam, zan, zr, zs, zG, zt, Option.bind_some, cond_true]
 rw [p107]
 simp only [zw, zB, zr, zs, zt, Option.bind_some]
 rw [zaz]
 refine (zZ hrow _).trans ?_
 generalize evT b p[i] = v at *
 generalize p[i] = t at *
 have g : ∀ k : Int, ∀ s, s = zhW 0 0 o.lo o.hi v.lo v.hi (p.map Tm.cs) ((p.length : Nat) : Int) ((i : Nat) : Int) ((t.e.a : Nat) : Int) ((t.e.b : Nat) : Int) ((t.e.c : Nat) : Int) ((t.e.d : Nat) : Int) ((t.e.e : Nat) : Int) ((t.e.f : Nat) : Int) k (b.map Iv.c) (m'.map Kn.e) → nth s.t 4 = .box [.int .i64 0, .int .i64 0] ∧ nth s.t 5 = .fn (.func 115) [] [.ptr 2 0, .ptr 0 0, .ptr 3 0] ∧ nth s.t 6 = .box [.int .i64 o.lo, .int .i64 o.hi] ∧ nth s.t 9 = .box [.int .i64 v.lo, .int .i64 v.hi] ∧ nth s.t 15 = .slice .any (p.map Tm.cs) ∧ nth s.t 16 = .int .i64 ((p.length : Nat) : Int) ∧ nth s.t 17 = .int .i64 ((i : Nat) : Int) ∧ nth s.t 25 = .agg [.int .u8 ((t.e.a : Nat) : Int), .int .u8 ((t.e.b : Nat) : Int), .int .u8 ((t.e.c : Nat) : Int), .int .u8 ((t.e.d : Nat) : Int), .int .u8 ((t.e.e : Nat) : Int), .int .u8 ((t.e.f : Nat) : Int)] ∧ nth s.t 26 = .int .i64 k ∧ s.h = zdA b m' := by
  intro k s hs
  subst hs
  exact ⟨rfl, rfl, rfl, rfl, rfl, rfl, rfl, rfl, rfl, rfl⟩
 obtain ⟨g1, g2, g3, g4, g5, g6, g7, g8, g9, g10⟩ := g 6 _ rfl
 unfold zdA at g10
 rw [Option.bind_some]
 dsimp only
 rw [g1, g2, g3, g4, g5, g6, g7, g8, g9, g10]
 simp only [Nat.beq_refl, zD, zP, zr, zs, zG, zt, Option.bind_some, cond_true, zw, zC, zu, zcA, zK, z6, zR]
 rw [hadd]
 simp only [zw, zB, zr, zs, zt, Option.bind_some, ws]
theorem zuo (b : List Iv) (hb : za1 b) (hbl : b.length ≤ 1000000) (p : List Tm) (hp : oks p) (hf : few p) : ∀ (q : List Tm) (i : Nat), p.drop i = q → i ≤ p.length → ∀ (o : Iv), o.valid → ∀ (m : List Kn), kns b m →
  ∃ m', zal (zp GZ LZ (CW GZ LZ) 83 none 4) (peT b p o ((i : Nat) : Int) m) = some (.exit 0, peT b p (ze0 b q o) ((p.length : Nat) : Int) m') := by
 intro q
 induction q with
 | nil =>
  intro i hq hi o ho m hm
  have hil : i = p.length := by have := List.drop_eq_nil_iff.1 hq; omega
  subst hil
  refine ⟨m, zbb ?_⟩
  unfold peT
  rw [e83_4, za7]
  rfl
 | cons t q ih =>
  intro i hq hi o ho m hm
  have hil : i < p.length := by
   apply Nat.lt_of_not_le
   intro hle
   rw [List.drop_eq_nil_iff.2 hle] at hq; cases hq
  have hd := List.drop_eq_getElem_cons hil
  rw [hq] at hd
  injection hd with ht hq'
  obtain ⟨m1, h1, q1⟩ := ztC b hb hbl p hp hf i hil o ho m hm
  obtain ⟨m2, q2⟩ := ih (i + 1) hq'.symm (by omega) _ (zbo ho (zfL b _)) m1 h1
  refine ⟨m2, (zk q1).trans ?_⟩
  rw [q2, ← ht]
  rfl
theorem p83 (p : List Tm) (hp : oks p) (hf : few p) (b : List Iv) (hb : za1 b) (hbl : b.length ≤ 1000000) :
  (CW GZ LZ).p (.func 83) [.slice .any (p.map Tm.cs), .slice .any (b.map Iv.c)] = some (.agg (ze1 b p).c) := by
 obtain ⟨m', hl⟩ := zuo b hb hbl p hp hf p 0 rfl (Nat.zero_le _) (Iv.new 0 0) (zcT 0) [] (fun x hx => by cases hx)
 have hpw : (CW GZ LZ).s (.func 106) [.slice .any (b.map Iv.c)] [] = some (.fn (.func 115) [] [.ptr 2 0, .ptr 0 0, .ptr 3 0], zdA b []) := zed (zrO _ _)
 unfold zdA at hpw
 unfold peT at hl
 refine zaA (u := .agg (ze1 b p).c) (h := zdA b m') ?_ rfl
 rw [e83, hpw]
 simp only [Option.bind_some, zw, zB, zr, zs, zt, zC, zu, zD, zcA, zK, z6, zR]
 rw [p107]
 simp only [zw, zB, zr, zs, zt, Option.bind_some]
 rw [zaz, List.length_map]
 refine (zZ hl _).trans ?_
 unfold ze1
 generalize ze0 b p (Iv.new 0 0) = v
 kernel_rfl
end Go.Ab
