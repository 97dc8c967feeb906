/- A valid polynomial made of any terms, of the reference; conditions: bytes; fewer terms than 2^62. -/
import Derived.KernelRfl
import Derived.Test.YtpalbaaghplhnaaGreatDoorP2
set_option linter.unusedVariables false
set_option linter.unusedSimpArgs false
namespace Go.Ab
theorem wsuccL (i : Nat) (h : i + 1 < 9223372036854775808) : IntKind.wrap .i64 ((i : Int) + 1) = ((i + 1 : Nat) : Int) := by
 rw [w64 (by omega) (by omega)]; simp
def zcK (most size : Int) (out : List Tm) (t : Tm) : List Tm :=
 if ((out.length : Nat) : Int) < most then
  if t.c.tmod size = 0 then out else if zbx (ins out ⟨t.c.tmod size, mkE t.e⟩) then ins out ⟨t.c.tmod size, mkE t.e⟩ else out
 else out
def zdY (p : List Tm) (most size : Int) : List Tm := p.foldl (zcK most size) []
theorem ztw {most size : Int} {out : List Tm} {t : Tm} (h : oks out ∧ zbx out ∧ ((out.length : Nat) : Int) ≤ max most 0) : oks (zcK most size out t) ∧ zbx (zcK most size out t) ∧ (((zcK most size out t).length : Nat) : Int) ≤ max most 0 := by
 unfold zcK
 split
 ·split
  ·exact h
  ·split
   ·rename_i h1 _ h3
    have := zhp out ⟨t.c.tmod size, mkE t.e⟩
    exact ⟨zfi _ _ h.1 (zr3 t.e).1, h3, by omega⟩
   ·exact h
 ·exact h
theorem zkx (p : List Tm) (most size : Int) : oks (zdY p most size) ∧ zbx (zdY p most size) ∧ (((zdY p most size).length : Nat) : Int) ≤ max most 0 := by
 have : ∀ (q out : List Tm), (oks out ∧ zbx out ∧ ((out.length : Nat) : Int) ≤ max most 0) → (oks (q.foldl (zcK most size) out) ∧ zbx (q.foldl (zcK most size) out) ∧ (((q.foldl (zcK most size) out).length : Nat) : Int) ≤ max most 0) := by
  intro q
  induction q with
  | nil => intro out h; exact h
  | cons t q ih => intro out h; exact ih _ (ztw h)
 exact this p [] ⟨fun t h => by simp at h, by decide, by simp; omega⟩
end Go.Ab
namespace Go.Ab
theorem zqw (p : List Tm) (i : Nat) (hi : i < p.length) (hp : p.length < 9223372036854775808) (most size : Int) (hs : 0 < size) (hs2 : size ≤ 2147483648) (out : List Tm) (ho : oks out) (hv : zbx out) (hm : ((out.length : Nat) : Int) < most) :
  zp GZ LZ (CW GZ LZ) 72 none 3 (zei (p.map Tm.cs) most size (out.map Tm.cs) ((i : Nat) : Int)) = some (.normal, zei (p.map Tm.cs) most size ((zcK most size out p[i]).map Tm.cs) ((i + 1 : Nat) : Int)) := by
 obtain ⟨l, hrow⟩ := ztv p i hi most size (p[i].c.tmod size) (out.map Tm.cs)
 have e0 : (size == 0) = false := by simp only [beq_eq_false_iff_ne, ne_eq]; omega
 have e1 : decide ((((out.map Tm.cs).length : Nat) : Int) < most) = true := by rw [List.length_map]; exact decide_eq_true hm
 rw [zqu, List.length_map, za1 hi, e1, za5 p i hi, zay]
 simp only [zak, zal, zr, zs, zH, zt, Option.bind_some, cond_true, e0, cond_false]
 refine (zZ hrow _).trans ?_
 have hx := (zr3 p[i].e).1
 have hlt := Int.tmod_lt_of_pos p[i].c hs
 have hgt := Int.lt_tmod_of_pos p[i].c hs
 have hm1 : zdh out 2305843009213693952 := fun t ht => by have := (hv.1 t ht).1; simp only [zz] at this; omega
 have hfew : few out := by have := hv.2.2; unfold few; omega
 have hins := p95 out ⟨p[i].c.tmod size, mkE p[i].e⟩ ho hx hfew hm1 (by simp only; omega) (by simp only; omega)
 have hval := p52 (ins out ⟨p[i].c.tmod size, mkE p[i].e⟩) (zfi _ _ ho hx) (by have := zhp out ⟨p[i].c.tmod size, mkE p[i].e⟩; have := hv.2.2; unfold few; omega)
 have g1 : nth (zaZ (p.map Tm.cs) most size (out.map Tm.cs) ((i : Nat) : Int) (p[i].c.tmod size) (((mkE p[i].e).a : Nat) : Int) (((mkE p[i].e).b : Nat) : Int) (((mkE p[i].e).c : Nat) : Int) (((mkE p[i].e).d : Nat) : Int) (((mkE p[i].e).e : Nat) : Int) (((mkE p[i].e).f : Nat) : Int) l 6).t 0 = .slice .any (p.map Tm.cs) := rfl
 have g2 : nth (zaZ (p.map Tm.cs) most size (out.map Tm.cs) ((i : Nat) : Int) (p[i].c.tmod size) (((mkE p[i].e).a : Nat) : Int) (((mkE p[i].e).b : Nat) : Int) (((mkE p[i].e).c : Nat) : Int) (((mkE p[i].e).d : Nat) : Int) (((mkE p[i].e).e : Nat) : Int) (((mkE p[i].e).f : Nat) : Int) l 6).t 1 = .int .i64 most := rfl
 have g3 : nth (zaZ (p.map Tm.cs) most size (out.map Tm.cs) ((i : Nat) : Int) (p[i].c.tmod size) (((mkE p[i].e).a : Nat) : Int) (((mkE p[i].e).b : Nat) : Int) (((mkE p[i].e).c : Nat) : Int) (((mkE p[i].e).d : Nat) : Int) (((mkE p[i].e).e : Nat) : Int) (((mkE p[i].e).f : Nat) : Int) l 6).t 2 = .int .i64 size := rfl
 have g4 : nth (zaZ (p.map Tm.cs) most size (out.map Tm.cs) ((i : Nat) : Int) (p[i].c.tmod size) (((mkE p[i].e).a : Nat) : Int) (((mkE p[i].e).b : Nat) : Int) (((mkE p[i].e).c : Nat) : Int) (((mkE p[i].e).d : Nat) : Int) (((mkE p[i].e).e : Nat) : Int) (((mkE p[i].e).f : Nat) : Int) l 6).t 7 = .slice .any (out.map Tm.cs) := rfl
 have g5 : nth (zaZ (p.map Tm.cs) most size (out.map Tm.cs) ((i : Nat) : Int) (p[i].c.tmod size) (((mkE p[i].e).a : Nat) : Int) (((mkE p[i].e).b : Nat) : Int) (((mkE p[i].e).c : Nat) : Int) (((mkE p[i].e).d : Nat) : Int) (((mkE p[i].e).e : Nat) : Int) (((mkE p[i].e).f : Nat) : Int) l 6).t 8 = .int .i64 ((i : Nat) : Int) := rfl
 have g6 : nth (zaZ (p.map Tm.cs) most size (out.map Tm.cs) ((i : Nat) : Int) (p[i].c.tmod size) (((mkE p[i].e).a : Nat) : Int) (((mkE p[i].e).b : Nat) : Int) (((mkE p[i].e).c : Nat) : Int) (((mkE p[i].e).d : Nat) : Int) (((mkE p[i].e).e : Nat) : Int) (((mkE p[i].e).f : Nat) : Int) l 6).t 9 = .box [.int .i64 (p[i].c.tmod size), .int .u8 (((mkE p[i].e).a : Nat) : Int), .int .u8 (((mkE p[i].e).b : Nat) : Int), .int .u8 (((mkE p[i].e).c : Nat) : Int), .int .u8 (((mkE p[i].e).d : Nat) : Int), .int .u8 (((mkE p[i].e).e : Nat) : Int), .int .u8 (((mkE p[i].e).f : Nat) : Int)] := rfl
 have g7 : nth (zaZ (p.map Tm.cs) most size (out.map Tm.cs) ((i : Nat) : Int) (p[i].c.tmod size) (((mkE p[i].e).a : Nat) : Int) (((mkE p[i].e).b : Nat) : Int) (((mkE p[i].e).c : Nat) : Int) (((mkE p[i].e).d : Nat) : Int) (((mkE p[i].e).e : Nat) : Int) (((mkE p[i].e).f : Nat) : Int) l 6).t 10 = .int .i64 l := rfl
 have g8 : nth (zaZ (p.map Tm.cs) most size (out.map Tm.cs) ((i : Nat) : Int) (p[i].c.tmod size) (((mkE p[i].e).a : Nat) : Int) (((mkE p[i].e).b : Nat) : Int) (((mkE p[i].e).c : Nat) : Int) (((mkE p[i].e).d : Nat) : Int) (((mkE p[i].e).e : Nat) : Int) (((mkE p[i].e).f : Nat) : Int) l 6).t 11 = .int .i64 6 := rfl
 rw [Option.bind_some]
 dsimp only
 rw [g1, g2, g3, g4, g5, g6, g7, g8]
 simp only [Nat.beq_refl, zD, zP, zr, zs, zH, zt, Option.bind_some, cond_true, wsuccL i (by omega)]
 unfold zcK
 rw [if_pos hm]
 by_cases h0 : p[i].c.tmod size = 0
 ·have e2 : (p[i].c.tmod size != 0) = false := by simpa using h0
  rw [e2, if_pos h0]; rfl
 ·have e2 : (p[i].c.tmod size != 0) = true := by simpa using h0
  rw [e2, if_neg h0]
  simp only [cond_true]
  rw [hins]
  simp only [zD, Option.bind_some]
  rw [hval]
  simp only [zQ, Option.bind_some]
  by_cases h1 : zbx (ins out ⟨p[i].c.tmod size, mkE p[i].e⟩)
  ·rw [if_pos h1]; simp only [h1, decide_true, cond_true]
  ·rw [if_neg h1]; simp only [h1, decide_false, cond_false]
end Go.Ab
namespace Go.Ab
theorem zmM {most size : Int} {out : List Tm} (h : ¬ ((out.length : Nat) : Int) < most) : ∀ q : List Tm, q.foldl (zcK most size) out = out
 | [] => rfl
 | t :: q => by
  rw [List.foldl_cons, show zcK most size out t = out by unfold zcK; rw [if_neg h]]
  exact zmM h q
def zly (p : List Tm) (most size : Int) (i : Nat) : St := zei (p.map Tm.cs) most size (((p.take i).foldl (zcK most size) []).map Tm.cs) ((i : Nat) : Int)
theorem zr4 (p : List Tm) (hp : p.length < 9223372036854775808) (most size : Int) (hs : 0 < size) (hs2 : size ≤ 2147483648) : ∀ (r i : Nat), i + r = p.length →
  ∃ k, zam (zp GZ LZ (CW GZ LZ) 72 none 3) (zly p most size i) = some (.exit 0, zei (p.map Tm.cs) most size ((zdY p most size).map Tm.cs) k) := by
 intro r
 induction r with
 | zero =>
  intro i hi
  have hi' : i = p.length := by omega
  subst hi'
  refine ⟨((p.length : Nat) : Int), za9 ?_⟩
  unfold zly zdY
  rw [List.take_length, zqu, List.length_map, zaW]
  rfl
 | succ r ih =>
  intro i hi
  have hil : i < p.length := by omega
  have hok := zkx (p.take i) most size
  unfold zdY at hok
  by_cases hm : ((((p.take i).foldl (zcK most size) []).length : Nat) : Int) < most
  ·obtain ⟨k, hk⟩ := ih (i + 1) (by omega)
   refine ⟨k, (zk ?_).trans hk⟩
   unfold zly
   rw [zqw p i hil hp most size hs hs2 _ hok.1 hok.2.1 hm, zbJ hil, List.foldl_append]
   rfl
  ·refine ⟨((i : Nat) : Int), za9 ?_⟩
   have hfull : zdY p most size = (p.take i).foldl (zcK most size) [] := by
    unfold zdY
    conv => lhs; rw [← List.take_append_drop i p, List.foldl_append]
    exact zmM hm _
   rw [hfull]
   unfold zly
   have e1 : decide ((((((p.take i).foldl (zcK most size) []).map Tm.cs).length : Nat) : Int) < most) = false := by rw [List.length_map]; exact decide_eq_false hm
   rw [zqu, e1, List.length_map, za1 hil]
   rfl
theorem p72 (p : List Tm) (hp : p.length < 9223372036854775808) (most size : Int) (hs : 0 < size) (hs2 : size ≤ 2147483648) :
  (CW GZ LZ).p (.func 72) [.slice .any (p.map Tm.cs), .int .i64 most, .int .i64 size] = some (.slice .any ((zdY p most size).map Tm.cs)) := by
 obtain ⟨k, hl⟩ := zr4 p hp most size hs hs2 p.length 0 (by omega)
 have h0 : zly p most size 0 = zei (p.map Tm.cs) most size [] 0 := rfl
 rw [h0] at hl
 refine zaz (u := .slice .any ((zdY p most size).map Tm.cs)) (h := []) ?_ rfl
 rw [e72, zay]
 refine (zZ hl _).trans ?_
 kernel_rfl
end Go.Ab
namespace Go.Ab
def zaO (a : Iv) (n : Nat) : Iv := if h : n ≤ 1 then a else if n % 2 = 0 then (zaO a (n / 2)).sq else (zaO a (n - 1)).mul a
termination_by n
decreasing_by all_goals omega
theorem zeU (a : Iv) {n : Nat} (h : n ≤ 1) : zaO a n = a := by rw [zaO]; simp [h]
theorem ziQ (a : Iv) {n : Nat} (h : 1 < n) (h2 : n % 2 = 0) : zaO a n = (zaO a (n / 2)).sq := by rw [zaO]; simp [h2, show ¬ n ≤ 1 by omega]
theorem zlz (a : Iv) {n : Nat} (h : 1 < n) (h2 : ¬ n % 2 = 0) : zaO a n = (zaO a (n - 1)).mul a := by rw [zaO]; simp [h2, show ¬ n ≤ 1 by omega]
theorem zca {a : Iv} (h : a.valid) : ∀ n : Nat, (zaO a n).valid := by
 intro n
 induction n using Nat.strongRecOn with
 | _ n ih =>
  by_cases h1 : n ≤ 1
  ·rw [zeU a h1]; exact h
  ·by_cases h2 : n % 2 = 0
   ·rw [ziQ a (by omega) h2]; exact zti (ih _ (by omega))
   ·rw [zlz a (by omega) h2]; exact zbr _ _
theorem p108 (a : Iv) (ha : a.valid) : ∀ n : Nat, n ≤ 1000 → (CW GZ LZ).p (.func 108) [.agg [.int .i64 a.lo, .int .i64 a.hi], .int .i64 ((n : Nat) : Int)] = some (.agg (zaO a n).c) := by
 intro n
 induction n using Nat.strongRecOn with
 | _ n ih =>
  intro hn
  refine zE (h := []) ?_ rfl
  rw [e108]
  by_cases h1 : n ≤ 1
  ·have e1 : decide (((n : Nat) : Int) ≤ 1) = true := by simp; omega
   rw [e1, zeU a h1]; rfl
  ·have e1 : decide (((n : Nat) : Int) ≤ 1) = false := by simp; omega
   rw [e1]
   simp only [cond_false]
   have em : Int.tmod ((n : Nat) : Int) 2 = ((n % 2 : Nat) : Int) := by rw [Int.tmod_eq_emod_of_nonneg (by omega)]; omega
   by_cases h2 : n % 2 = 0
   ·have e2 : (Int.tmod ((n : Nat) : Int) 2 == 0) = true := by rw [em, h2]; rfl
    have ed : IntKind.wrap .i64 (Int.tdiv ((n : Nat) : Int) 2) = ((n / 2 : Nat) : Int) := by
     rw [Int.tdiv_eq_ediv_of_nonneg (by omega), w64 (by omega) (by omega)]; omega
    rw [e2, ed, ih (n / 2) (by omega) (by omega), ziQ a (by omega) h2]
    simp only [cond_true, zw, zA, zr, zs, zt, Option.bind_some]
    rw [p117 _ (zca ha _)]
    simp only [zw, zA, zr, zs, zt, Option.bind_some]
    rfl
   ·have e2 : (Int.tmod ((n : Nat) : Int) 2 == 0) = false := by rw [em]; simp; omega
    have ed : IntKind.wrap .i64 (((n : Nat) : Int) - 1) = ((n - 1 : Nat) : Int) := by
     rw [w64 (by omega) (by omega)]; omega
    rw [e2, ed, ih (n - 1) (by omega) (by omega), zlz a (by omega) h2]
    simp only [cond_false, zw, zA, zr, zs, zt, Option.bind_some]
    rw [p67 _ _ (zca ha _) ha]
    simp only [zw, zA, zr, zs, zt, Option.bind_some]
    rfl
end Go.Ab
namespace Go.Ab
def dom : Iv := ⟨-65536, 65536⟩
theorem zr5 : dom.valid := by simp [Iv.valid, Iv.isW, zz, dom]
def bx (b : List Iv) (k : Nat) : Iv := (b[k]?).getD dom
def zaY (b : List Iv) : Prop := ∀ x ∈ b, x.valid
theorem zdG {b : List Iv} (h : zaY b) (k : Nat) : (bx b k).valid := by
 unfold bx
 cases hk : b[k]? with
 | none => exact zr5
 | some x => exact h x (List.mem_of_getElem? hk)
def evS (b : List Iv) (k u : Nat) (v : Iv) : Iv := if 0 < u then v.mul (zaO (bx b k) u) else v
theorem zba {b : List Iv} {k u : Nat} {v : Iv} (hv : v.valid) : (evS b k u v).valid := by
 unfold evS; split
 ·exact zbr _ _
 ·exact hv
theorem getB (b : List Iv) (k : Nat) (h : k < b.length) : zS (b.map Iv.c) ((k : Nat) : Int) 2 = some (bx b k).c := by
 rw [zdf Iv.c Iv.c_len b k h]
 unfold bx
 rw [List.getElem?_eq_getElem h]; rfl
theorem zol {b : List Iv} {k : Nat} (h : ¬ k < b.length) : bx b k = dom := by
 unfold bx; rw [List.getElem?_eq_none (by omega)]; rfl
theorem ev_var (p : List Tm) (b : List Iv) (hb : zaY b) (i : Nat) (hi : i < p.length) (o v : Iv) (hv : v.valid) (k u : Nat) (hk : k < 6) (hu : za0 [p[i].c, ((p[i].e.a : Nat) : Int), ((p[i].e.b : Nat) : Int), ((p[i].e.c : Nat) : Int), ((p[i].e.d : Nat) : Int), ((p[i].e.e : Nat) : Int), ((p[i].e.f : Nat) : Int)] (1 + k * 1) = some ((u : Nat) : Int)) (hu2 : u < 256) :
  zp GZ LZ (CW GZ LZ) 84 none 7 (zcf (p.map Tm.cs) (b.map Iv.c) 0 0 o.lo o.hi ((i : Nat) : Int) v.lo v.hi ((k : Nat) : Int)) = some (.normal, zcf (p.map Tm.cs) (b.map Iv.c) 0 0 o.lo o.hi ((i : Nat) : Int) (evS b k u v).lo (evS b k u v).hi ((k + 1 : Nat) : Int)) := by
 have w8 : IntKind.wrap .i64 ((u : Nat) : Int) = ((u : Nat) : Int) := w64 (by omega) (by omega)
 have hkk : k = 0 ∨ k = 1 ∨ k = 2 ∨ k = 3 ∨ k = 4 ∨ k = 5 := by omega
 have e1 : decide (((k : Nat) : Int) < 6) = true := by simp; omega
 have ws := zaM k (by omega)
 have hlen : decide (((k : Nat) : Int) < (((b.map Iv.c).length : Nat) : Int)) = decide (k < b.length) := by rw [decide_eq_decide, List.length_map]; omega
 have hpw := p108 (bx b k) (zdG hb k) u (by omega)
 have hml := p67 v (zaO (bx b k) u) hv (zca (zdG hb k) u)
 have bo : (false || ((true && (Nat.beq (1 + ((((k : Nat) : Int)).toNat * 1)) 1)) || ((true && (Nat.beq (1 + ((((k : Nat) : Int)).toNat * 1)) 2)) || ((true && (Nat.beq (1 + ((((k : Nat) : Int)).toNat * 1)) 3)) || ((true && (Nat.beq (1 + ((((k : Nat) : Int)).toNat * 1)) 4)) || ((true && (Nat.beq (1 + ((((k : Nat) : Int)).toNat * 1)) 5)) || ((true && (Nat.beq (1 + ((((k : Nat) : Int)).toNat * 1)) 6)) || false))))))) = true := by
  rcases hkk with rfl | rfl | rfl | rfl | rfl | rfl <;> rfl
 have e2 : decide ((0 : Int) ≤ ((k : Nat) : Int)) = true := by simp
 have e3 : decide ((((k : Nat) : Int)).toNat < 6) = true := by simp; omega
 have fin : ∀ (x : Option (Ex × St)), x = some (.normal, zcf (p.map Tm.cs) (b.map Iv.c) 0 0 o.lo o.hi ((i : Nat) : Int) (v.mul (zaO (bx b k) u)).lo (v.mul (zaO (bx b k) u)).hi ((k + 1 : Nat) : Int)) → 0 < u → x = some (.normal, zcf (p.map Tm.cs) (b.map Iv.c) 0 0 o.lo o.hi ((i : Nat) : Int) (evS b k u v).lo (evS b k u v).hi ((k + 1 : Nat) : Int)) := fun x hx h => by
  rw [hx]; unfold evS; rw [if_pos h]
 rw [e84_7, e1, hlen, bo, e2, e3, za5 p i hi]
 by_cases hkb : k < b.length
 ·rw [getB b k hkb, show decide (k < b.length) = true by simpa using hkb]
  simp only [zak, zal, zA, zr, zs, zH, zt, Option.bind_some, cond_true, Int.toNat_natCast]
  rw [hu]
  simp only [Option.bind_some]
  by_cases h0 : 0 < u
  ·have e4 : decide (((u : Nat) : Int) > 0) = true := by simp; omega
   refine fin _ ?_ h0
   rw [e4, w8]
   simp only [cond_true]
   rw [hpw]
   simp only [zw, zA, zr, zs, zt, Option.bind_some]
   rw [hml]
   simp only [zw, zA, zr, zs, zt, Option.bind_some, ws]
  ·have e4 : decide (((u : Nat) : Int) > 0) = false := by simp; omega
   rw [e4, ws]
   unfold evS; rw [if_neg h0]; rfl
 ·rw [show decide (k < b.length) = false by simpa using hkb]
  rw [zol hkb] at hpw
  simp only [zak, zal, zA, zr, zs, zH, zt, Option.bind_some, cond_true, cond_false, Int.toNat_natCast]
  rw [hu]
  simp only [Option.bind_some]
  by_cases h0 : 0 < u
  ·have e4 : decide (((u : Nat) : Int) > 0) = true := by simp; omega
   refine fin _ ?_ h0
   rw [zol hkb] at hml ⊢
   rw [e4, w8]
   simp only [cond_true]
   rw [show (V.agg [.int .i64 (-65536), .int .i64 65536]) = V.agg [.int .i64 dom.lo, .int .i64 dom.hi] from rfl, hpw]
   simp only [zw, zA, zr, zs, zt, Option.bind_some]
   rw [hml]
   simp only [zw, zA, zr, zs, zt, Option.bind_some, ws]
  ·have e4 : decide (((u : Nat) : Int) > 0) = false := by simp; omega
   rw [e4, ws]
   unfold evS; rw [if_neg h0]; rfl
end Go.Ab
namespace Go.Ab
def evT (b : List Iv) (t : Tm) : Iv := evS b 5 t.e.f (evS b 4 t.e.e (evS b 3 t.e.d (evS b 2 t.e.c (evS b 1 t.e.b (evS b 0 t.e.a (Iv.new t.c t.c))))))
theorem zcL (c : Int) : (Iv.new c c).valid := zcJ (Int.le_refl _)
theorem zfF (b : List Iv) (t : Tm) : (evT b t).valid := by
 unfold evT
 repeat' apply zba
 exact zcL _
def zeV (b : List Iv) : List Tm → Iv → Iv
 | [], o => o
 | t :: p, o => zeV b p (o.add (evT b t))
def zeW (b : List Iv) (p : List Tm) : Iv := zeV b p (Iv.new 0 0)
theorem zj3 (b : List Iv) : ∀ (p : List Tm) (o : Iv), p.foldl (fun o t => o.add (evT b t)) o = zeV b p o
 | [], _ => rfl
 | _ :: p, _ => zj3 b p _
theorem ev_row (p : List Tm) (hp : oks p) (b : List Iv) (hb : zaY b) (i : Nat) (hi : i < p.length) (o : Iv) :
  zam (zp GZ LZ (CW GZ LZ) 84 none 7) (zcf (p.map Tm.cs) (b.map Iv.c) 0 0 o.lo o.hi ((i : Nat) : Int) (Iv.new p[i].c p[i].c).lo (Iv.new p[i].c p[i].c).hi 0) = some (.exit 2, zcf (p.map Tm.cs) (b.map Iv.c) 0 0 o.lo o.hi ((i : Nat) : Int) (evT b p[i]).lo (evT b p[i]).hi 6) := by
 obtain ⟨k1, k2, k3, k4, k5, k6⟩ := hp _ (List.getElem_mem hi)
 have s := fun k u v hv hk hu hu2 => ev_var p b hb i hi o v hv k u hk hu hu2
 have v0 := zcL p[i].c
 have v1 := zba (b := b) (k := 0) (u := p[i].e.a) v0
 have v2 := zba (b := b) (k := 1) (u := p[i].e.b) v1
 have v3 := zba (b := b) (k := 2) (u := p[i].e.c) v2
 have v4 := zba (b := b) (k := 3) (u := p[i].e.d) v3
 have v5 := zba (b := b) (k := 4) (u := p[i].e.e) v4
 refine (zk (s 0 p[i].e.a _ v0 (by decide) rfl k1)).trans ?_
 refine (zk (s 1 p[i].e.b _ v1 (by decide) rfl k2)).trans ?_
 refine (zk (s 2 p[i].e.c _ v2 (by decide) rfl k3)).trans ?_
 refine (zk (s 3 p[i].e.d _ v3 (by decide) rfl k4)).trans ?_
 refine (zk (s 4 p[i].e.e _ v4 (by decide) rfl k5)).trans ?_
 refine (zk (s 5 p[i].e.f _ v5 (by decide) rfl k6)).trans ?_
 refine za9 ?_
 rw [e84_7]
 rfl
theorem ztx (p : List Tm) (hp : oks p) (hf : few p) (b : List Iv) (hb : zaY b) (i : Nat) (hi : i < p.length) (o : Iv) (ho : o.valid) :
  zp GZ LZ (CW GZ LZ) 84 none 3 (zhV (p.map Tm.cs) (b.map Iv.c) 0 0 o.lo o.hi ((i : Nat) : Int)) = some (.normal, zhV (p.map Tm.cs) (b.map Iv.c) 0 0 (o.add (evT b p[i])).lo (o.add (evT b p[i])).hi ((i + 1 : Nat) : Int)) := by
 have hfl : p.length ≤ 100000 := hf
 have hrow := ev_row p hp b hb i hi o
 have hadd := p58 o (evT b p[i]) ho (zfF b _)
 have ws := zaM i (by omega)
 have e1 : decide (((i : Nat) : Int) < (((p.map Tm.cs).length : Nat) : Int)) = true := by rw [List.length_map]; exact za1 hi
 rw [e84_3, e1, za5 p i hi]
 simp only [zak, zal, zr, zs, zH, zt, Option.bind_some, cond_true]
 rw [p86]
 simp only [zw, zA, zr, zs, zt, Option.bind_some]
 rw [zay]
 refine (zZ hrow _).trans ?_
 generalize evT b p[i] = v at *
 have g1 : ∀ k : Int, nth (zcf (p.map Tm.cs) (b.map Iv.c) 0 0 o.lo o.hi ((i : Nat) : Int) v.lo v.hi k).t 0 = .slice .any (p.map Tm.cs) := fun _ => rfl
 have g2 : ∀ k : Int, nth (zcf (p.map Tm.cs) (b.map Iv.c) 0 0 o.lo o.hi ((i : Nat) : Int) v.lo v.hi k).t 1 = .slice .any (b.map Iv.c) := fun _ => rfl
 have g3 : ∀ k : Int, nth (zcf (p.map Tm.cs) (b.map Iv.c) 0 0 o.lo o.hi ((i : Nat) : Int) v.lo v.hi k).t 4 = .box [.int .i64 0, .int .i64 0] := fun _ => rfl
 have g4 : ∀ k : Int, nth (zcf (p.map Tm.cs) (b.map Iv.c) 0 0 o.lo o.hi ((i : Nat) : Int) v.lo v.hi k).t 5 = .box [.int .i64 o.lo, .int .i64 o.hi] := fun _ => rfl
 have g5 : ∀ k : Int, nth (zcf (p.map Tm.cs) (b.map Iv.c) 0 0 o.lo o.hi ((i : Nat) : Int) v.lo v.hi k).t 6 = .int .i64 ((i : Nat) : Int) := fun _ => rfl
 have g6 : ∀ k : Int, nth (zcf (p.map Tm.cs) (b.map Iv.c) 0 0 o.lo o.hi ((i : Nat) : Int) v.lo v.hi k).t 7 = .box [.int .i64 v.lo, .int .i64 v.hi] := fun _ => rfl
 have g7 : ∀ k : Int, nth (zcf (p.map Tm.cs) (b.map Iv.c) 0 0 o.lo o.hi ((i : Nat) : Int) v.lo v.hi k).t 8 = .int .i64 k := fun _ => rfl
 rw [Option.bind_some]
 dsimp only
 rw [g1, g2, g3, g4, g5, g6, g7]
 simp only [Nat.beq_refl, zD, zP, zr, zs, zt, Option.bind_some, cond_true]
 rw [hadd]
 simp only [zw, zA, zr, zs, zt, Option.bind_some, ws]
theorem zg5 (b : List Iv) : ∀ (p : List Tm) (o : Iv), o.valid → (zeV b p o).valid
 | [], _, h => h
 | t :: p, o, h => zg5 b p _ (zbj h (zfF b t))
theorem p84 (p : List Tm) (hp : oks p) (hf : few p) (b : List Iv) (hb : zaY b) :
  (CW GZ LZ).p (.func 84) [.slice .any (p.map Tm.cs), .slice .any (b.map Iv.c)] = some (.agg (zeW b p).c) := by
 have hl := zj2 (round := zp GZ LZ (CW GZ LZ) 84 none 3) (fun i (o : Iv) => zhV (p.map Tm.cs) (b.map Iv.c) 0 0 o.lo o.hi ((i : Nat) : Int)) (fun o t => o.add (evT b t)) (fun o => o.valid) p (id := 0)
  (fun i hi o ho => ⟨ztx p hp hf b hb i hi o ho, zbj ho (zfF b _)⟩)
  (fun o ho => by
   have e1 : decide (((p.length : Nat) : Int) < (((p.map Tm.cs).length : Nat) : Int)) = false := by rw [List.length_map]; exact zaW
   rw [e84_3, e1]; rfl) (Iv.new 0 0) (zcL 0)
 have hl1 := hl.1
 rw [zj3] at hl1
 refine zE (h := []) ?_ rfl
 rw [e84, p86]
 simp only [zw, zA, zr, zs, zt, Option.bind_some]
 rw [zay]
 refine (zZ hl1 _).trans ?_
 kernel_rfl
end Go.Ab
namespace Go.Ab
theorem zh3 {α : Type} {eq : List V → List V → Option Bool} {key : List V} (E : α → List V × List V) (test : α → Bool) (h : ∀ x, eq key (E x).1 = some (test x)) : ∀ l : List α, zav eq key (l.map E) = some (l.findIdx? test)
 | [] => rfl
 | x :: l => by
  simp only [List.map_cons, zav, h x, Option.bind_some, zh3 E test h l, List.findIdx?_cons]
  cases test x <;> rfl
theorem eqAt (a b c d : Int) : eqT GP 8 126 [.int .i64 a, .int .i64 b] [.int .i64 c, .int .i64 d] = some ((a == c) && ((b == d) && true)) := by kernel_rfl
structure Kn where
 i : Int
 n : Int
 v : Iv
def Kn.e (x : Kn) : List V × List V := ([.int .i64 x.i, .int .i64 x.n], x.v.c)
def Kn.ok (b : List Iv) (x : Kn) : Prop := 1 ≤ x.n ∧ 0 ≤ x.i ∧ x.v = zaO (bx b x.i.toNat) x.n.toNat
def kns (b : List Iv) (m : List Kn) : Prop := ∀ x ∈ m, x.ok b
def Kn.is (i n : Int) (x : Kn) : Bool := (i == x.i) && ((n == x.n) && true)
theorem zh4 (i n : Int) (m : List Kn) : zav (eqT GP 8 126) [.int .i64 i, .int .i64 n] (m.map Kn.e) = some (m.findIdx? (Kn.is i n)) := zh3 Kn.e (Kn.is i n) (fun x => eqAt _ _ _ _) m
theorem kput (i n : Int) (v : Iv) (m : List Kn) (h : m.findIdx? (Kn.is i n) = none) : zeA (m.map Kn.e) (m.findIdx? (Kn.is i n)) [.int .i64 i, .int .i64 n] v.c = (m ++ [(⟨i, n, v⟩ : Kn)]).map Kn.e := by
 rw [h]
 simp only [zeA, List.map_append, List.map_cons, List.map_nil]
 rfl
def zdv (b : List Iv) (m : List Kn) : List Ob := [.cells [.slice .any (b.map Iv.c)], .map true true 2 (m.map Kn.e), .cells [.map 1], .cells [.fn (.func 115) [] [.ptr 2 0, .ptr 0 0, .ptr 3 0]]]
theorem zcu (ka va : Bool) (kn : Nat) (es : List (List V × List V)) : zbP ka va kn (.map ka va kn es) = some es := by simp [zbP]
theorem zty (b : List Iv) (i : Nat) (n : Nat) (hn : 1 ≤ n) (m : List Kn) (hm : kns b m) : ∃ m', kns b m' ∧ zeA (m.map Kn.e) (m.findIdx? (Kn.is ((i : Nat) : Int) ((n : Nat) : Int))) [.int .i64 ((i : Nat) : Int), .int .i64 ((n : Nat) : Int)] (zaO (bx b i) n).c = m'.map Kn.e := by
 have hok : Kn.ok b ⟨((i : Nat) : Int), ((n : Nat) : Int), zaO (bx b i) n⟩ := ⟨by simp only; omega, by simp, by simp⟩
 cases h : m.findIdx? (Kn.is ((i : Nat) : Int) ((n : Nat) : Int)) with
 | none =>
  refine ⟨m ++ [⟨((i : Nat) : Int), ((n : Nat) : Int), zaO (bx b i) n⟩], fun x hx => ?_, ?_⟩
  ·rcases List.mem_append.1 hx with hx | hx
   ·exact hm x hx
   ·rw [List.mem_singleton.1 hx]; exact hok
  ·have := kput ((i : Nat) : Int) ((n : Nat) : Int) (zaO (bx b i) n) m h
   rwa [h] at this
 | some j =>
  refine ⟨m.set j ⟨((i : Nat) : Int), ((n : Nat) : Int), zaO (bx b i) n⟩, fun x hx => ?_, ?_⟩
  ·rcases List.mem_or_eq_of_mem_set hx with hx | rfl
   ·exact hm x hx
   ·exact hok
  ·simp only [zeA, List.map_set]; rfl
theorem zqx (b : List Iv) (hb : zaY b) (hbl : b.length ≤ 1000000) (i : Nat) (hi : i < 1000000) : ∀ n : Nat, 1 ≤ n → n ≤ 1000 → ∀ m : List Kn, kns b m → ∃ m', kns b m' ∧
  (CW GZ LZ).s (.func 115) [.int .i64 ((i : Nat) : Int), .int .i64 ((n : Nat) : Int), .ptr 2 0, .ptr 0 0, .ptr 3 0] (zdv b m) = some (.agg (zaO (bx b i) n).c, zdv b m') := by
 intro n
 induction n using Nat.strongRecOn with
 | _ n ih =>
  intro hn1 hn m hm
  have hlen : decide (((i : Nat) : Int) < (((b.map Iv.c).length : Nat) : Int)) = decide (i < b.length) := by rw [decide_eq_decide, List.length_map]; omega
  have fin : ∀ (v : Iv) (m : List Kn), kns b m → v = zaO (bx b i) n → ∃ m', kns b m' ∧ (some (V.agg [.int .i64 v.lo, .int .i64 v.hi], [Ob.cells [.slice .any (b.map Iv.c)], .map true true 2 (zeA (m.map Kn.e) (m.findIdx? (Kn.is ((i : Nat) : Int) ((n : Nat) : Int))) [.int .i64 ((i : Nat) : Int), .int .i64 ((n : Nat) : Int)] [.int .i64 v.lo, .int .i64 v.hi]), .cells [.map 1], .cells [.fn (.func 115) [] [.ptr 2 0, .ptr 0 0, .ptr 3 0]]]) : Option (V × List Ob)) = some (.agg (zaO (bx b i) n).c, zdv b m') := by
   intro v m hm hv
   subst hv
   obtain ⟨m', h1, h2⟩ := zty b i n hn1 m hm
   refine ⟨m', h1, ?_⟩
   rw [show [V.int .i64 (zaO (bx b i) n).lo, .int .i64 (zaO (bx b i) n).hi] = (zaO (bx b i) n).c from rfl, h2]
   rfl
  have run : ∀ r, zO GZ LZ (CW GZ LZ) (.func 115) [.int .i64 ((i : Nat) : Int), .int .i64 ((n : Nat) : Int), .ptr 2 0, .ptr 0 0, .ptr 3 0] (zdv b m) = some r → (CW GZ LZ).s (.func 115) [.int .i64 ((i : Nat) : Int), .int .i64 ((n : Nat) : Int), .ptr 2 0, .ptr 0 0, .ptr 3 0] (zdv b m) = some r := fun r h => zd5 h
  have hs := zrL (CW GZ LZ) (b.map Iv.c) (m.map Kn.e) ((i : Nat) : Int) ((n : Nat) : Int)
  cases hf : m.findIdx? (Kn.is ((i : Nat) : Int) ((n : Nat) : Int)) with
  | some j =>
   obtain ⟨hj, hj2, _⟩ := List.findIdx?_eq_some_iff_getElem.1 hf
   have hx := hm _ (List.getElem_mem hj)
   simp only [Kn.is, Bool.and_true, Bool.and_eq_true, beq_iff_eq] at hj2
   have hv : m[j].v = zaO (bx b i) n := by rw [hx.2.2, ← hj2.1, ← hj2.2]; simp
   refine ⟨m, hm, run _ ?_⟩
   unfold zdv
   rw [hs, zh4, hf]
   have hmv : zez (m.map Kn.e) j = some m[j].v.c := by simp [zez, hj, Kn.e]
   simp only [Option.bind_some, hmv, zA, zr, zs, zt, hv]
   rfl
  | none =>
   by_cases h1 : n = 1
   ·subst h1
    by_cases hib : i < b.length
    ·have hv : bx b i = zaO (bx b i) 1 := (zeU _ (Nat.le_refl 1)).symm
     obtain ⟨m', g1, g2⟩ := fin (bx b i) m hm hv
     refine ⟨m', g1, (run _ ?_)⟩
     unfold zdv
     rw [hs, zh4, hf, hlen, show decide (i < b.length) = true by simpa using hib, getB b i hib]
     rw [hf] at g2
     simp only [Option.bind_some, zA, zr, zs, zt]
     exact g2
    ·have hv : dom = zaO (bx b i) 1 := by rw [zeU _ (Nat.le_refl 1), zol hib]
     obtain ⟨m', g1, g2⟩ := fin dom m hm hv
     refine ⟨m', g1, (run _ ?_)⟩
     unfold zdv
     rw [hs, zh4, hf, hlen, show decide (i < b.length) = false by simpa using hib]
     rw [hf] at g2
     simp only [Option.bind_some]
     exact g2
   ·have e1 : (((n : Nat) : Int) == 1) = false := by simp; omega
    have hv1 : (zaO (bx b i) 1) = bx b i := zeU _ (Nat.le_refl 1)
    have em : Int.tmod ((n : Nat) : Int) 2 = ((n % 2 : Nat) : Int) := by rw [Int.tmod_eq_emod_of_nonneg (by omega)]; omega
    by_cases h2 : n % 2 = 0
    ·have e2 : (Int.tmod ((n : Nat) : Int) 2 == 0) = true := by rw [em, h2]; rfl
     have ed : IntKind.wrap .i64 (Int.tdiv ((n : Nat) : Int) 2) = ((n / 2 : Nat) : Int) := by
      rw [Int.tdiv_eq_ediv_of_nonneg (by omega), w64 (by omega) (by omega)]; omega
     obtain ⟨m2, hm2, q⟩ := ih (n / 2) (by omega) (by omega) (by omega) m hm
     have hv : (zaO (bx b i) (n / 2)).sq = zaO (bx b i) n := (ziQ _ (by omega) h2).symm
     obtain ⟨m', g1, g2⟩ := fin _ m2 hm2 hv
     have hsq := p116 (zaO (bx b i) (n / 2)) (zca (zdG hb i) _)
     unfold zdv at q
     refine ⟨m', g1, run _ ?_⟩
     unfold zdv
     rw [hs, zh4, hf, hlen, e1, e2, ed]
     simp only [Option.bind_some, cond_true, cond_false]
     cases decide (i < b.length)
     all_goals
      try simp only [cond_true, cond_false]
      rw [q]
      simp only [Option.bind_some, zw, zA, zr, zs, zt, zC, zu, zD, zcu, zK, z6, zR]
      rw [hsq]
      simp only [Option.bind_some, zw, zA, zr, zs, zt]
      rw [zh4]
      exact g2
    ·have e2 : (Int.tmod ((n : Nat) : Int) 2 == 0) = false := by rw [em]; simp; omega
     have ed : IntKind.wrap .i64 (((n : Nat) : Int) - 1) = ((n - 1 : Nat) : Int) := by
      rw [w64 (by omega) (by omega)]; omega
     obtain ⟨m2, hm2, q⟩ := ih (n - 1) (by omega) (by omega) (by omega) m hm
     obtain ⟨m3, hm3, q3⟩ := ih 1 (by omega) (by omega) (by omega) m2 hm2
     have hv : (zaO (bx b i) (n - 1)).mul (zaO (bx b i) 1) = zaO (bx b i) n := by rw [hv1]; exact (zlz _ (by omega) h2).symm
     obtain ⟨m', g1, g2⟩ := fin _ m3 hm3 hv
     have hml := p64 (zaO (bx b i) (n - 1)) (zaO (bx b i) 1) (zca (zdG hb i) _) (zca (zdG hb i) _)
     rw [show (((1 : Nat) : Int)) = 1 from rfl] at q3
     unfold zdv at q q3
     refine ⟨m', g1, run _ ?_⟩
     unfold zdv
     rw [hs, zh4, hf, hlen, e1, e2, ed]
     simp only [Option.bind_some, cond_true, cond_false]
     cases decide (i < b.length)
     all_goals
      try simp only [cond_true, cond_false]
      rw [q]
      simp only [Option.bind_some, zw, zA, zr, zs, zt, zC, zu, zD, zcu, zK, z6, zR]
      rw [q3]
      simp only [Option.bind_some, zw, zA, zr, zs, zt, zC, zu, zD, zcu, zK, z6, zR]
      rw [hml]
      simp only [Option.bind_some, zw, zA, zr, zs, zt]
      rw [zh4]
      exact g2
end Go.Ab
namespace Go.Ab
def peS (b : List Iv) (p : List Tm) (o v : Iv) (t : Tm) (i k : Int) (m : List Kn) : St := zhT 0 0 o.lo o.hi v.lo v.hi (p.map Tm.cs) ((p.length : Nat) : Int) i ((t.e.a : Nat) : Int) ((t.e.b : Nat) : Int) ((t.e.c : Nat) : Int) ((t.e.d : Nat) : Int) ((t.e.e : Nat) : Int) ((t.e.f : Nat) : Int) k (b.map Iv.c) (m.map Kn.e)
theorem zhq (b : List Iv) (hb : zaY b) (hbl : b.length ≤ 1000000) (p : List Tm) (o v : Iv) (hv : v.valid) (t : Tm) (i : Int) (k u : Nat) (hk : k < 6) (hu : za0 [((t.e.a : Nat) : Int), ((t.e.b : Nat) : Int), ((t.e.c : Nat) : Int), ((t.e.d : Nat) : Int), ((t.e.e : Nat) : Int), ((t.e.f : Nat) : Int)] (k * 1) = some ((u : Nat) : Int)) (hu2 : u < 256) (m : List Kn) (hm : kns b m) :
  ∃ m', kns b m' ∧ zp GZ LZ (CW GZ LZ) 83 none 8 (peS b p o v t i ((k : Nat) : Int) m) = some (.normal, peS b p o (evS b k u v) t i ((k + 1 : Nat) : Int) m') := by
 have w8 : IntKind.wrap .i64 ((u : Nat) : Int) = ((u : Nat) : Int) := w64 (by omega) (by omega)
 have e1 : decide (((k : Nat) : Int) < 6) = true := by simp; omega
 have e2 : decide ((0 : Int) ≤ ((k : Nat) : Int)) = true := by simp
 have e3 : decide ((((k : Nat) : Int)).toNat < 6) = true := by simp; omega
 have ws := zaM k (by omega)
 by_cases h0 : 0 < u
 ·obtain ⟨m', hm', q⟩ := zqx b hb hbl k (by omega) u h0 (by omega) m hm
  refine ⟨m', hm', ?_⟩
  have e4 : decide (((u : Nat) : Int) > 0) = true := by simp; omega
  have hml := p64 v (zaO (bx b k) u) hv (zca (zdG hb k) u)
  unfold zdv at q
  unfold peS
  rw [zqs, e1, e2, e3]
  simp only [cond_true, Int.toNat_natCast]
  rw [hu]
  simp only [Option.bind_some]
  rw [e4, w8]
  simp only [cond_true]
  rw [q]
  simp only [Option.bind_some, zw, zA, zr, zs, zt, zC, zu, zD, zcu, zK, z6, zR]
  rw [hml]
  simp only [Option.bind_some, zw, zA, zr, zs, zt, ws]
  unfold evS
  rw [if_pos h0]
 ·refine ⟨m, hm, ?_⟩
  have e4 : decide (((u : Nat) : Int) > 0) = false := by simp; omega
  unfold peS
  rw [zqs, e1, e2, e3]
  simp only [cond_true, Int.toNat_natCast]
  rw [hu]
  simp only [Option.bind_some]
  rw [e4, ws]
  unfold evS
  rw [if_neg h0]
  rfl
theorem pe_row (b : List Iv) (hb : zaY b) (hbl : b.length ≤ 1000000) (p : List Tm) (o : Iv) (t : Tm) (ht : t.e.ok) (i : Int) (m : List Kn) (hm : kns b m) :
  ∃ m', kns b m' ∧ zam (zp GZ LZ (CW GZ LZ) 83 none 8) (peS b p o (Iv.new t.c t.c) t i 0 m) = some (.exit 2, peS b p o (evT b t) t i 6 m') := by
 obtain ⟨k1, k2, k3, k4, k5, k6⟩ := ht
 have v0 := zcL t.c
 have v1 := zba (b := b) (k := 0) (u := t.e.a) v0
 have v2 := zba (b := b) (k := 1) (u := t.e.b) v1
 have v3 := zba (b := b) (k := 2) (u := t.e.c) v2
 have v4 := zba (b := b) (k := 3) (u := t.e.d) v3
 have v5 := zba (b := b) (k := 4) (u := t.e.e) v4
 obtain ⟨m1, h1, q1⟩ := zhq b hb hbl p o _ v0 t i 0 t.e.a (by decide) rfl k1 m hm
 obtain ⟨m2, h2, q2⟩ := zhq b hb hbl p o _ v1 t i 1 t.e.b (by decide) rfl k2 m1 h1
 obtain ⟨m3, h3, q3⟩ := zhq b hb hbl p o _ v2 t i 2 t.e.c (by decide) rfl k3 m2 h2
 obtain ⟨m4, h4, q4⟩ := zhq b hb hbl p o _ v3 t i 3 t.e.d (by decide) rfl k4 m3 h3
 obtain ⟨m5, h5, q5⟩ := zhq b hb hbl p o _ v4 t i 4 t.e.e (by decide) rfl k5 m4 h4
 obtain ⟨m6, h6, q6⟩ := zhq b hb hbl p o _ v5 t i 5 t.e.f (by decide) rfl k6 m5 h5
 refine ⟨m6, h6, (zk q1).trans ((zk q2).trans ((zk q3).trans ((zk q4).trans ((zk q5).trans ((zk q6).trans (za9 ?_))))))⟩
 unfold peS
 rw [zqs]
 rfl
def peT (b : List Iv) (p : List Tm) (o : Iv) (i : Int) (m : List Kn) : St := zlq 0 0 o.lo o.hi (p.map Tm.cs) ((p.length : Nat) : Int) i (b.map Iv.c) (m.map Kn.e)
theorem ztz (b : List Iv) (hb : zaY b) (hbl : b.length ≤ 1000000) (p : List Tm) (hp : oks p) (hf : few p) (i : Nat) (hi : i < p.length) (o : Iv) (ho : o.valid) (m : List Kn) (hm : kns b m) :
  ∃ m', kns b m' ∧ zp GZ LZ (CW GZ LZ) 83 none 4 (peT b p o ((i : Nat) : Int) m) = some (.normal, peT b p (o.add (evT b p[i])) ((i + 1 : Nat) : Int) m') := by
 have hfl : p.length ≤ 100000 := hf
 obtain ⟨m', hm', hrow⟩ := pe_row b hb hbl p o p[i] (hp _ (List.getElem_mem hi)) ((i : Nat) : Int) m hm
 refine ⟨m', hm', ?_⟩
 have hadd := p71 o (evT b p[i]) ho (zfF b _)
 have ws := zaM i (by omega)
 have e1 : decide (((i : Nat) : Int) < ((p.length : Nat) : Int)) = true := za1 hi
 unfold peS at hrow
 unfold peT
 rw [e83_4, e1, za5 p i hi]
 simp only [zak, zal, zr, zs, zH, zt, Option.bind_some, cond_true]
 rw [p107]
 simp only [zw, zA, zr, zs, zt, Option.bind_some]
 rw [zay]
 refine (zZ hrow _).trans ?_
 generalize evT b p[i] = v at *
 generalize p[i] = t at *
 have g : ∀ k : Int, ∀ s, s = zhT 0 0 o.lo o.hi v.lo v.hi (p.map Tm.cs) ((p.length : Nat) : Int) ((i : Nat) : Int) ((t.e.a : Nat) : Int) ((t.e.b : Nat) : Int) ((t.e.c : Nat) : Int) ((t.e.d : Nat) : Int) ((t.e.e : Nat) : Int) ((t.e.f : Nat) : Int) k (b.map Iv.c) (m'.map Kn.e) → nth s.t 4 = .box [.int .i64 0, .int .i64 0] ∧ nth s.t 5 = .fn (.func 115) [] [.ptr 2 0, .ptr 0 0, .ptr 3 0] ∧ nth s.t 6 = .box [.int .i64 o.lo, .int .i64 o.hi] ∧ nth s.t 9 = .box [.int .i64 v.lo, .int .i64 v.hi] ∧ nth s.t 15 = .slice .any (p.map Tm.cs) ∧ nth s.t 16 = .int .i64 ((p.length : Nat) : Int) ∧ nth s.t 17 = .int .i64 ((i : Nat) : Int) ∧ nth s.t 25 = .agg [.int .u8 ((t.e.a : Nat) : Int), .int .u8 ((t.e.b : Nat) : Int), .int .u8 ((t.e.c : Nat) : Int), .int .u8 ((t.e.d : Nat) : Int), .int .u8 ((t.e.e : Nat) : Int), .int .u8 ((t.e.f : Nat) : Int)] ∧ nth s.t 26 = .int .i64 k ∧ s.h = zdv b m' := by
  intro k s hs
  subst hs
  exact ⟨rfl, rfl, rfl, rfl, rfl, rfl, rfl, rfl, rfl, rfl⟩
 obtain ⟨g1, g2, g3, g4, g5, g6, g7, g8, g9, g10⟩ := g 6 _ rfl
 unfold zdv at g10
 rw [Option.bind_some]
 dsimp only
 rw [g1, g2, g3, g4, g5, g6, g7, g8, g9, g10]
 simp only [Nat.beq_refl, zD, zP, zr, zs, zH, zt, Option.bind_some, cond_true, zw, zC, zu, zcu, zK, z6, zR]
 rw [hadd]
 simp only [zw, zA, zr, zs, zt, Option.bind_some, ws]
theorem zun (b : List Iv) (hb : zaY b) (hbl : b.length ≤ 1000000) (p : List Tm) (hp : oks p) (hf : few p) : ∀ (q : List Tm) (i : Nat), p.drop i = q → i ≤ p.length → ∀ (o : Iv), o.valid → ∀ (m : List Kn), kns b m →
  ∃ m', zam (zp GZ LZ (CW GZ LZ) 83 none 4) (peT b p o ((i : Nat) : Int) m) = some (.exit 0, peT b p (zeV b q o) ((p.length : Nat) : Int) m') := by
 intro q
 induction q with
 | nil =>
  intro i hq hi o ho m hm
  have hil : i = p.length := by have := List.drop_eq_nil_iff.1 hq; omega
  subst hil
  refine ⟨m, za9 ?_⟩
  unfold peT
  rw [e83_4, zaW]
  rfl
 | cons t q ih =>
  intro i hq hi o ho m hm
  have hil : i < p.length := by
   apply Nat.lt_of_not_le
   intro hle
   rw [List.drop_eq_nil_iff.2 hle] at hq; cases hq
  have hd := List.drop_eq_getElem_cons hil
  rw [hq] at hd
  injection hd with ht hq'
  obtain ⟨m1, h1, q1⟩ := ztz b hb hbl p hp hf i hil o ho m hm
  obtain ⟨m2, q2⟩ := ih (i + 1) hq'.symm (by omega) _ (zbj ho (zfF b _)) m1 h1
  refine ⟨m2, (zk q1).trans ?_⟩
  rw [q2, ← ht]
  rfl
theorem p83 (p : List Tm) (hp : oks p) (hf : few p) (b : List Iv) (hb : zaY b) (hbl : b.length ≤ 1000000) :
  (CW GZ LZ).p (.func 83) [.slice .any (p.map Tm.cs), .slice .any (b.map Iv.c)] = some (.agg (zeW b p).c) := by
 obtain ⟨m', hl⟩ := zun b hb hbl p hp hf p 0 rfl (Nat.zero_le _) (Iv.new 0 0) (zcL 0) [] (fun x hx => by cases hx)
 have hpw : (CW GZ LZ).s (.func 106) [.slice .any (b.map Iv.c)] [] = some (.fn (.func 115) [] [.ptr 2 0, .ptr 0 0, .ptr 3 0], zdv b []) := zd5 (zrM _ _)
 unfold zdv at hpw
 unfold peT at hl
 refine zaz (u := .agg (zeW b p).c) (h := zdv b m') ?_ rfl
 rw [e83, hpw]
 simp only [Option.bind_some, zw, zA, zr, zs, zt, zC, zu, zD, zcu, zK, z6, zR]
 rw [p107]
 simp only [zw, zA, zr, zs, zt, Option.bind_some]
 rw [zay, List.length_map]
 refine (zZ hl _).trans ?_
 unfold zeW
 generalize zeV b p (Iv.new 0 0) = v
 kernel_rfl
end Go.Ab
