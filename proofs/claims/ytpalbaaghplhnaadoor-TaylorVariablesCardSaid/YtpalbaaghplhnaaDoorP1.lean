/- Exponents: their sum, their order, whether one is odd; the range of a term; conditions: bytes. -/
import Derived.Test.YtpalbaaghplhnaaDoorP0
import Derived.Test.YtpalbaaghplhnaaDoorEB
set_option linter.unusedVariables false
set_option linter.unusedSimpArgs false
namespace Go.Ab
structure E6 where
 a : Nat
 b : Nat
 c : Nat
 d : Nat
 e : Nat
 f : Nat
deriving DecidableEq
def E6.ok (x : E6) : Prop := x.a < 256 ∧ x.b < 256 ∧ x.c < 256 ∧ x.d < 256 ∧ x.e < 256 ∧ x.f < 256
def E6.deg (x : E6) : Nat := x.a + x.b + x.c + x.d + x.e + x.f
def E6.key (x : E6) : Nat := ((((x.a * 256 + x.b) * 256 + x.c) * 256 + x.d) * 256 + x.e) * 256 + x.f
def E6.cs (x : E6) : List V := [.int .u8 ((x.a : Nat) : Int), .int .u8 ((x.b : Nat) : Int), .int .u8 ((x.c : Nat) : Int), .int .u8 ((x.d : Nat) : Int), .int .u8 ((x.e : Nat) : Int), .int .u8 ((x.f : Nat) : Int)]
def E6.odd (x : E6) : Bool := x.a % 2 == 1 || (x.b % 2 == 1 || (x.c % 2 == 1 || (x.d % 2 == 1 || (x.e % 2 == 1 || x.f % 2 == 1))))
def E6.ord (x y : E6) : Int := if x.key < y.key then -1 else if y.key < x.key then 1 else 0
theorem E6.key_inj {x y : E6} (hx : x.ok) (hy : y.ok) (h : x.key = y.key) : x = y := by
 obtain ⟨a, b, c, d, e, f⟩ := x
 obtain ⟨a', b', c', d', e', f'⟩ := y
 simp only [E6.ok, E6.key] at *
 have : a = a' ∧ b = b' ∧ c = c' ∧ d = d' ∧ e = e' ∧ f = f' := by omega
 simp [this]
theorem zpH (n : Nat) : (((n : Int).tmod 2) == 1) = (n % 2 == 1) := by
 rw [Int.tmod_eq_emod_of_nonneg (by omega)]
 by_cases h : n % 2 = 1
 ·have : (n : Int) % 2 = 1 := by omega
  rw [h, this]; rfl
 ·have h1 : ¬ (n : Int) % 2 = 1 := by omega
  have e1 : (n % 2 == 1) = false := by simpa using h
  have e2 : ((n : Int) % 2 == 1) = false := by simpa using h1
  rw [e1, e2]
theorem zez (x : E6) (hx : x.ok) (n : Int) (h0 : 0 ≤ n) (h1 : n ≤ 10000) (i : Nat) (v : Nat) (hi : i < 6) (hv : zbK [((x.a : Nat) : Int), ((x.b : Nat) : Int), ((x.c : Nat) : Int), ((x.d : Nat) : Int), ((x.e : Nat) : Int), ((x.f : Nat) : Int)] (i * 1) = some ((v : Nat) : Int)) (hv2 : v < 256) :
  zw GU LU (CW GU LU) 61 none 3 (zfY n ((x.a : Nat) : Int) ((x.b : Nat) : Int) ((x.c : Nat) : Int) ((x.d : Nat) : Int) ((x.e : Nat) : Int) ((x.f : Nat) : Int) ((i : Nat) : Int)) = some (.normal, zfY (n + v) ((x.a : Nat) : Int) ((x.b : Nat) : Int) ((x.c : Nat) : Int) ((x.d : Nat) : Int) ((x.e : Nat) : Int) ((x.f : Nat) : Int) ((i + 1 : Nat) : Int)) := by
 have e1 : decide (((i : Nat) : Int) < 6) = true := by simp; omega
 have e2 : decide ((0 : Int) ≤ ((i : Nat) : Int)) = true := by simp
 have e3 : decide ((((i : Nat) : Int)).toNat < 6) = true := by simp; omega
 rw [e61_3, e1, e2, e3]
 simp only [Int.toNat_natCast, hv, cond_true, Option.bind_some]
 rw [w64 (x := (v : Int)) (by omega) (by omega), w64 (by omega) (by omega), zbS i (by omega)]
theorem zq3 (x : E6) (hx : x.ok) : zas (zw GU LU (CW GU LU) 61 none 3) (zfY 0 ((x.a : Nat) : Int) ((x.b : Nat) : Int) ((x.c : Nat) : Int) ((x.d : Nat) : Int) ((x.e : Nat) : Int) ((x.f : Nat) : Int) 0) = some (.exit 0, zfY ((x.deg : Nat) : Int) ((x.a : Nat) : Int) ((x.b : Nat) : Int) ((x.c : Nat) : Int) ((x.d : Nat) : Int) ((x.e : Nat) : Int) ((x.f : Nat) : Int) 6) := by
 obtain ⟨ha, hb, hc, hd, he, hf⟩ := hx
 have hx : x.ok := ⟨ha, hb, hc, hd, he, hf⟩
 refine (zn (zez x hx 0 (by omega) (by omega) 0 x.a (by omega) rfl ha)).trans ?_
 refine (zn (zez x hx _ (by omega) (by omega) 1 x.b (by omega) rfl hb)).trans ?_
 refine (zn (zez x hx _ (by omega) (by omega) 2 x.c (by omega) rfl hc)).trans ?_
 refine (zn (zez x hx _ (by omega) (by omega) 3 x.d (by omega) rfl hd)).trans ?_
 refine (zn (zez x hx _ (by omega) (by omega) 4 x.e (by omega) rfl he)).trans ?_
 refine (zn (zez x hx _ (by omega) (by omega) 5 x.f (by omega) rfl hf)).trans ?_
 rw [show (0 : Int) + (x.a : Int) + (x.b : Int) + (x.c : Int) + (x.d : Int) + (x.e : Int) + (x.f : Int) = ((x.deg : Nat) : Int) by unfold E6.deg; omega]
 exact zb4 (e61_3 _ _ _ _ _ _ _ _ _)
theorem p61 (x : E6) (hx : x.ok) : (CW GU LU).p (.func 61) [.agg [.int .u8 ((x.a : Nat) : Int), .int .u8 ((x.b : Nat) : Int), .int .u8 ((x.c : Nat) : Int), .int .u8 ((x.d : Nat) : Int), .int .u8 ((x.e : Nat) : Int), .int .u8 ((x.f : Nat) : Int)]] = some (.int .i64 ((x.deg : Nat) : Int)) := by
 refine zE (h := []) ?_ rfl
 rw [e61, zbo]
 refine (zae (zq3 x hx) _).trans ?_
 kernel_rfl
theorem p83 (n : Int) : (CW GU LU).p (.func 83) [.int .u8 n] = some (.bool false) := by
 refine zE (h := []) ?_ rfl
 simp [e83]
theorem p77 (n m : Int) : (CW GU LU).p (.func 77) [.int .u8 n, .int .u8 m] = some (.int .i64 (if n < m then -1 else if n > m then 1 else 0)) := by
 refine zE (h := []) ?_ rfl
 simp only [e77, p83, zA, zT, zH, zC, zJ, zY, zx, zW, zy, zD, zB, zP, zaa, zah, zZ, zK, zN, zO, zX, zG, zR, zI, zL, Option.bind_some, Option.bind_none, cond_true, cond_false, zU, zV]
 by_cases h1 : n < m
 ·simp only [h1, if_true]
 ·by_cases h2 : n > m
  ·simp only [h1, h2, if_true, if_false]
  ·simp only [h1, h2, if_false]
def E6.rw (x : E6) : List (List V) := [[.int .u8 ((x.a : Nat) : Int)], [.int .u8 ((x.b : Nat) : Int)], [.int .u8 ((x.c : Nat) : Int)], [.int .u8 ((x.d : Nat) : Int)], [.int .u8 ((x.e : Nat) : Int)], [.int .u8 ((x.f : Nat) : Int)]]
theorem cmp_step (x y : E6) (z : Int) (i : Nat) (u v : Nat) (hi : i < 6) (hu : zab x.rw ((i : Nat) : Int) 1 = some [.int .u8 ((u : Nat) : Int)]) (hv : zab y.rw ((i : Nat) : Int) 1 = some [.int .u8 ((v : Nat) : Int)]) :
  zw GU LU (CW GU LU) 67 none 2 (zbl x.rw y.rw z x.rw 6 ((i : Nat) : Int)) =
   if u < v then some (.ret, zbl x.rw y.rw (-1) x.rw 6 ((i : Nat) : Int)) else if v < u then some (.ret, zbl x.rw y.rw 1 x.rw 6 ((i : Nat) : Int)) else some (.normal, zbl x.rw y.rw z x.rw 6 ((i + 1 : Nat) : Int)) := by
 have e1 : decide (((i : Nat) : Int) < 6) = true := by simp; omega
 have e2 : decide (((i : Nat) : Int) ≥ ((y.rw.length : Nat) : Int)) = false := by simp [E6.rw]; omega
 rw [e67_2, e1, e2]
 simp only [hu, hv, zA, zT, zH, zC, zJ, zY, zx, zW, zy, zD, zB, zP, zaa, zah, zZ, zK, zN, zO, zX, zG, zR, zI, zL, Option.bind_some, Option.bind_none, cond_true, cond_false, zU, zV, p77, zbS i (by omega)]
 by_cases h1 : u < v
 ·have h1' : ((u : Nat) : Int) < ((v : Nat) : Int) := by omega
  simp only [h1, h1', if_true]; rfl
 ·have h1' : ¬ ((u : Nat) : Int) < ((v : Nat) : Int) := by omega
  by_cases h2 : v < u
  ·have h2' : ((u : Nat) : Int) > ((v : Nat) : Int) := by omega
   simp only [h1, h1', h2, h2', if_true, if_false]; rfl
  ·have h2' : ¬ ((u : Nat) : Int) > ((v : Nat) : Int) := by omega
   simp only [h1, h1', h2, h2', if_false]; rfl
theorem p67 (x y : E6) (hx : x.ok) (hy : y.ok) : (CW GU LU).p (.func 67) [.slice .any x.rw, .slice .any y.rw] = some (.int .i64 (x.ord y)) := by
 have ret : ∀ (z : Int) (k : Int), zas (zw GU LU (CW GU LU) 67 none 2) (zbl x.rw y.rw 0 x.rw 6 0) = some (.ret, zbl x.rw y.rw z x.rw 6 k) → x.ord y = z → (CW GU LU).p (.func 67) [.slice .any x.rw, .slice .any y.rw] = some (.int .i64 (x.ord y)) := by
  intro z k h hz
  rw [hz]
  refine zE (h := []) ?_ rfl
  rw [e67, zbo]
  refine (zae h _).trans ?_
  kernel_rfl
 obtain ⟨a, b, c, d, e, f⟩ := x
 obtain ⟨a', b', c', d', e', f'⟩ := y
 obtain ⟨xa, xb, xc, xd, xe, xf⟩ := hx
 obtain ⟨ya, yb, yc, yd, ye, yf⟩ := hy
 simp only at xa xb xc xd xe xf ya yb yc yd ye yf
 have s0 := cmp_step ⟨a, b, c, d, e, f⟩ ⟨a', b', c', d', e', f'⟩ 0 0 a a' (by omega) rfl rfl
 have s1 := cmp_step ⟨a, b, c, d, e, f⟩ ⟨a', b', c', d', e', f'⟩ 0 1 b b' (by omega) rfl rfl
 have s2 := cmp_step ⟨a, b, c, d, e, f⟩ ⟨a', b', c', d', e', f'⟩ 0 2 c c' (by omega) rfl rfl
 have s3 := cmp_step ⟨a, b, c, d, e, f⟩ ⟨a', b', c', d', e', f'⟩ 0 3 d d' (by omega) rfl rfl
 have s4 := cmp_step ⟨a, b, c, d, e, f⟩ ⟨a', b', c', d', e', f'⟩ 0 4 e e' (by omega) rfl rfl
 have s5 := cmp_step ⟨a, b, c, d, e, f⟩ ⟨a', b', c', d', e', f'⟩ 0 5 f f' (by omega) rfl rfl
 by_cases h0 : a < a'
 ·rw [if_pos h0] at s0
  exact ret _ _ (z6 s0) (by unfold E6.ord E6.key; rw [if_pos (by simp only; omega)])
 by_cases k0 : a' < a
 ·rw [if_neg h0, if_pos k0] at s0
  exact ret _ _ (z6 s0) (by unfold E6.ord E6.key; rw [if_neg (by simp only; omega), if_pos (by simp only; omega)])
 rw [if_neg h0, if_neg k0] at s0
 by_cases h1 : b < b'
 ·rw [if_pos h1] at s1
  exact ret _ _ ((zn s0).trans (z6 s1)) (by unfold E6.ord E6.key; rw [if_pos (by simp only; omega)])
 by_cases k1 : b' < b
 ·rw [if_neg h1, if_pos k1] at s1
  exact ret _ _ ((zn s0).trans (z6 s1)) (by unfold E6.ord E6.key; rw [if_neg (by simp only; omega), if_pos (by simp only; omega)])
 rw [if_neg h1, if_neg k1] at s1
 by_cases h2 : c < c'
 ·rw [if_pos h2] at s2
  exact ret _ _ ((zn s0).trans ((zn s1).trans (z6 s2))) (by unfold E6.ord E6.key; rw [if_pos (by simp only; omega)])
 by_cases k2 : c' < c
 ·rw [if_neg h2, if_pos k2] at s2
  exact ret _ _ ((zn s0).trans ((zn s1).trans (z6 s2))) (by unfold E6.ord E6.key; rw [if_neg (by simp only; omega), if_pos (by simp only; omega)])
 rw [if_neg h2, if_neg k2] at s2
 by_cases h3 : d < d'
 ·rw [if_pos h3] at s3
  exact ret _ _ ((zn s0).trans ((zn s1).trans ((zn s2).trans (z6 s3)))) (by unfold E6.ord E6.key; rw [if_pos (by simp only; omega)])
 by_cases k3 : d' < d
 ·rw [if_neg h3, if_pos k3] at s3
  exact ret _ _ ((zn s0).trans ((zn s1).trans ((zn s2).trans (z6 s3)))) (by unfold E6.ord E6.key; rw [if_neg (by simp only; omega), if_pos (by simp only; omega)])
 rw [if_neg h3, if_neg k3] at s3
 by_cases h4 : e < e'
 ·rw [if_pos h4] at s4
  exact ret _ _ ((zn s0).trans ((zn s1).trans ((zn s2).trans ((zn s3).trans (z6 s4))))) (by unfold E6.ord E6.key; rw [if_pos (by simp only; omega)])
 by_cases k4 : e' < e
 ·rw [if_neg h4, if_pos k4] at s4
  exact ret _ _ ((zn s0).trans ((zn s1).trans ((zn s2).trans ((zn s3).trans (z6 s4))))) (by unfold E6.ord E6.key; rw [if_neg (by simp only; omega), if_pos (by simp only; omega)])
 rw [if_neg h4, if_neg k4] at s4
 by_cases h5 : f < f'
 ·rw [if_pos h5] at s5
  exact ret _ _ ((zn s0).trans ((zn s1).trans ((zn s2).trans ((zn s3).trans ((zn s4).trans (z6 s5)))))) (by unfold E6.ord E6.key; rw [if_pos (by simp only; omega)])
 by_cases k5 : f' < f
 ·rw [if_neg h5, if_pos k5] at s5
  exact ret _ _ ((zn s0).trans ((zn s1).trans ((zn s2).trans ((zn s3).trans ((zn s4).trans (z6 s5)))))) (by unfold E6.ord E6.key; rw [if_neg (by simp only; omega), if_pos (by simp only; omega)])
 rw [if_neg h5, if_neg k5] at s5
 have hz : E6.ord ⟨a, b, c, d, e, f⟩ ⟨a', b', c', d', e', f'⟩ = 0 := by unfold E6.ord E6.key; rw [if_neg (by simp only; omega), if_neg (by simp only; omega)]
 rw [hz]
 refine zE (h := []) ?_ rfl
 rw [e67, zbo]
 refine (zae ((zn s0).trans ((zn s1).trans ((zn s2).trans ((zn s3).trans ((zn s4).trans ((zn s5).trans (zb4 (e67_2 _ _ _ _ _ _ _)))))))) _).trans ?_
 kernel_rfl
theorem p54 (x y : E6) (hx : x.ok) (hy : y.ok) : (CW GU LU).p (.func 54) [.agg [.int .u8 ((x.a : Nat) : Int), .int .u8 ((x.b : Nat) : Int), .int .u8 ((x.c : Nat) : Int), .int .u8 ((x.d : Nat) : Int), .int .u8 ((x.e : Nat) : Int), .int .u8 ((x.f : Nat) : Int)], .agg [.int .u8 ((y.a : Nat) : Int), .int .u8 ((y.b : Nat) : Int), .int .u8 ((y.c : Nat) : Int), .int .u8 ((y.d : Nat) : Int), .int .u8 ((y.e : Nat) : Int), .int .u8 ((y.f : Nat) : Int)]] = some (.int .i64 (x.ord y)) := by
 refine zE (h := [.arr true 1 x.rw, .arr true 1 y.rw]) ?_ rfl
 rw [e54]
 refine (zae (p67 x y hx hy) _).trans ?_
 rfl
theorem zdY (x y : E6) (z : Int) (i : Nat) (u v : Nat) (hi : i < 6) (hu : zbK [((x.a : Nat) : Int), ((x.b : Nat) : Int), ((x.c : Nat) : Int), ((x.d : Nat) : Int), ((x.e : Nat) : Int), ((x.f : Nat) : Int)] (i * 1) = some ((u : Nat) : Int)) (hv : zbK [((y.a : Nat) : Int), ((y.b : Nat) : Int), ((y.c : Nat) : Int), ((y.d : Nat) : Int), ((y.e : Nat) : Int), ((y.f : Nat) : Int)] (i * 1) = some ((v : Nat) : Int)) :
  zw GU LU (CW GU LU) 59 none 2 (zdM ((x.a : Nat) : Int) ((x.b : Nat) : Int) ((x.c : Nat) : Int) ((x.d : Nat) : Int) ((x.e : Nat) : Int) ((x.f : Nat) : Int) ((y.a : Nat) : Int) ((y.b : Nat) : Int) ((y.c : Nat) : Int) ((y.d : Nat) : Int) ((y.e : Nat) : Int) ((y.f : Nat) : Int) z ((i : Nat) : Int)) =
   if u < v then some (.ret, zdM ((x.a : Nat) : Int) ((x.b : Nat) : Int) ((x.c : Nat) : Int) ((x.d : Nat) : Int) ((x.e : Nat) : Int) ((x.f : Nat) : Int) ((y.a : Nat) : Int) ((y.b : Nat) : Int) ((y.c : Nat) : Int) ((y.d : Nat) : Int) ((y.e : Nat) : Int) ((y.f : Nat) : Int) (-1) ((i : Nat) : Int)) else if v < u then some (.ret, zdM ((x.a : Nat) : Int) ((x.b : Nat) : Int) ((x.c : Nat) : Int) ((x.d : Nat) : Int) ((x.e : Nat) : Int) ((x.f : Nat) : Int) ((y.a : Nat) : Int) ((y.b : Nat) : Int) ((y.c : Nat) : Int) ((y.d : Nat) : Int) ((y.e : Nat) : Int) ((y.f : Nat) : Int) 1 ((i : Nat) : Int)) else some (.normal, zdM ((x.a : Nat) : Int) ((x.b : Nat) : Int) ((x.c : Nat) : Int) ((x.d : Nat) : Int) ((x.e : Nat) : Int) ((x.f : Nat) : Int) ((y.a : Nat) : Int) ((y.b : Nat) : Int) ((y.c : Nat) : Int) ((y.d : Nat) : Int) ((y.e : Nat) : Int) ((y.f : Nat) : Int) z ((i + 1 : Nat) : Int)) := by
 have e1 : decide (((i : Nat) : Int) < 6) = true := by simp; omega
 have e2 : decide ((0 : Int) ≤ ((i : Nat) : Int)) = true := by simp
 have e3 : decide ((((i : Nat) : Int)).toNat < 6) = true := by simp; omega
 rw [e59_2, e1, e2, e3]
 simp only [Int.toNat_natCast, hu, hv, zA, zT, zH, zC, zJ, zY, zx, zW, zy, zD, zB, zP, zaa, zah, zZ, zK, zN, zO, zX, zG, zR, zI, zL, Option.bind_some, Option.bind_none, cond_true, cond_false, zU, zV, zbS i (by omega)]
 by_cases h1 : u < v
 ·have h1' : ((u : Nat) : Int) < ((v : Nat) : Int) := by omega
  simp only [h1, h1', if_true]
 ·have h1' : ¬ ((u : Nat) : Int) < ((v : Nat) : Int) := by omega
  by_cases h2 : v < u
  ·have h2' : ((u : Nat) : Int) > ((v : Nat) : Int) := by omega
   simp only [h1, h1', h2, h2', if_true, if_false]
  ·have h2' : ¬ ((u : Nat) : Int) > ((v : Nat) : Int) := by omega
   simp only [h1, h1', h2, h2', if_false]
theorem p59 (x y : E6) (hx : x.ok) (hy : y.ok) : (CW GU LU).p (.func 59) [.agg [.int .u8 ((x.a : Nat) : Int), .int .u8 ((x.b : Nat) : Int), .int .u8 ((x.c : Nat) : Int), .int .u8 ((x.d : Nat) : Int), .int .u8 ((x.e : Nat) : Int), .int .u8 ((x.f : Nat) : Int)], .agg [.int .u8 ((y.a : Nat) : Int), .int .u8 ((y.b : Nat) : Int), .int .u8 ((y.c : Nat) : Int), .int .u8 ((y.d : Nat) : Int), .int .u8 ((y.e : Nat) : Int), .int .u8 ((y.f : Nat) : Int)]] = some (.int .i64 (x.ord y)) := by
 have ret : ∀ (z : Int) (k : Int), zas (zw GU LU (CW GU LU) 59 none 2) (zdM ((x.a : Nat) : Int) ((x.b : Nat) : Int) ((x.c : Nat) : Int) ((x.d : Nat) : Int) ((x.e : Nat) : Int) ((x.f : Nat) : Int) ((y.a : Nat) : Int) ((y.b : Nat) : Int) ((y.c : Nat) : Int) ((y.d : Nat) : Int) ((y.e : Nat) : Int) ((y.f : Nat) : Int) 0 0) = some (.ret, zdM ((x.a : Nat) : Int) ((x.b : Nat) : Int) ((x.c : Nat) : Int) ((x.d : Nat) : Int) ((x.e : Nat) : Int) ((x.f : Nat) : Int) ((y.a : Nat) : Int) ((y.b : Nat) : Int) ((y.c : Nat) : Int) ((y.d : Nat) : Int) ((y.e : Nat) : Int) ((y.f : Nat) : Int) z k) → x.ord y = z → (CW GU LU).p (.func 59) [.agg [.int .u8 ((x.a : Nat) : Int), .int .u8 ((x.b : Nat) : Int), .int .u8 ((x.c : Nat) : Int), .int .u8 ((x.d : Nat) : Int), .int .u8 ((x.e : Nat) : Int), .int .u8 ((x.f : Nat) : Int)], .agg [.int .u8 ((y.a : Nat) : Int), .int .u8 ((y.b : Nat) : Int), .int .u8 ((y.c : Nat) : Int), .int .u8 ((y.d : Nat) : Int), .int .u8 ((y.e : Nat) : Int), .int .u8 ((y.f : Nat) : Int)]] = some (.int .i64 (x.ord y)) := by
  intro z k h hz
  rw [hz]
  refine zE (h := []) ?_ rfl
  rw [e59, zbo]
  refine (zae h _).trans ?_
  kernel_rfl
 obtain ⟨a, b, c, d, e, f⟩ := x
 obtain ⟨a', b', c', d', e', f'⟩ := y
 obtain ⟨xa, xb, xc, xd, xe, xf⟩ := hx
 obtain ⟨ya, yb, yc, yd, ye, yf⟩ := hy
 simp only at xa xb xc xd xe xf ya yb yc yd ye yf
 have s0 := zdY ⟨a, b, c, d, e, f⟩ ⟨a', b', c', d', e', f'⟩ 0 0 a a' (by omega) rfl rfl
 have s1 := zdY ⟨a, b, c, d, e, f⟩ ⟨a', b', c', d', e', f'⟩ 0 1 b b' (by omega) rfl rfl
 have s2 := zdY ⟨a, b, c, d, e, f⟩ ⟨a', b', c', d', e', f'⟩ 0 2 c c' (by omega) rfl rfl
 have s3 := zdY ⟨a, b, c, d, e, f⟩ ⟨a', b', c', d', e', f'⟩ 0 3 d d' (by omega) rfl rfl
 have s4 := zdY ⟨a, b, c, d, e, f⟩ ⟨a', b', c', d', e', f'⟩ 0 4 e e' (by omega) rfl rfl
 have s5 := zdY ⟨a, b, c, d, e, f⟩ ⟨a', b', c', d', e', f'⟩ 0 5 f f' (by omega) rfl rfl
 by_cases h0 : a < a'
 ·rw [if_pos h0] at s0
  exact ret _ _ (z6 s0) (by unfold E6.ord E6.key; rw [if_pos (by simp only; omega)])
 by_cases k0 : a' < a
 ·rw [if_neg h0, if_pos k0] at s0
  exact ret _ _ (z6 s0) (by unfold E6.ord E6.key; rw [if_neg (by simp only; omega), if_pos (by simp only; omega)])
 rw [if_neg h0, if_neg k0] at s0
 by_cases h1 : b < b'
 ·rw [if_pos h1] at s1
  exact ret _ _ ((zn s0).trans (z6 s1)) (by unfold E6.ord E6.key; rw [if_pos (by simp only; omega)])
 by_cases k1 : b' < b
 ·rw [if_neg h1, if_pos k1] at s1
  exact ret _ _ ((zn s0).trans (z6 s1)) (by unfold E6.ord E6.key; rw [if_neg (by simp only; omega), if_pos (by simp only; omega)])
 rw [if_neg h1, if_neg k1] at s1
 by_cases h2 : c < c'
 ·rw [if_pos h2] at s2
  exact ret _ _ ((zn s0).trans ((zn s1).trans (z6 s2))) (by unfold E6.ord E6.key; rw [if_pos (by simp only; omega)])
 by_cases k2 : c' < c
 ·rw [if_neg h2, if_pos k2] at s2
  exact ret _ _ ((zn s0).trans ((zn s1).trans (z6 s2))) (by unfold E6.ord E6.key; rw [if_neg (by simp only; omega), if_pos (by simp only; omega)])
 rw [if_neg h2, if_neg k2] at s2
 by_cases h3 : d < d'
 ·rw [if_pos h3] at s3
  exact ret _ _ ((zn s0).trans ((zn s1).trans ((zn s2).trans (z6 s3)))) (by unfold E6.ord E6.key; rw [if_pos (by simp only; omega)])
 by_cases k3 : d' < d
 ·rw [if_neg h3, if_pos k3] at s3
  exact ret _ _ ((zn s0).trans ((zn s1).trans ((zn s2).trans (z6 s3)))) (by unfold E6.ord E6.key; rw [if_neg (by simp only; omega), if_pos (by simp only; omega)])
 rw [if_neg h3, if_neg k3] at s3
 by_cases h4 : e < e'
 ·rw [if_pos h4] at s4
  exact ret _ _ ((zn s0).trans ((zn s1).trans ((zn s2).trans ((zn s3).trans (z6 s4))))) (by unfold E6.ord E6.key; rw [if_pos (by simp only; omega)])
 by_cases k4 : e' < e
 ·rw [if_neg h4, if_pos k4] at s4
  exact ret _ _ ((zn s0).trans ((zn s1).trans ((zn s2).trans ((zn s3).trans (z6 s4))))) (by unfold E6.ord E6.key; rw [if_neg (by simp only; omega), if_pos (by simp only; omega)])
 rw [if_neg h4, if_neg k4] at s4
 by_cases h5 : f < f'
 ·rw [if_pos h5] at s5
  exact ret _ _ ((zn s0).trans ((zn s1).trans ((zn s2).trans ((zn s3).trans ((zn s4).trans (z6 s5)))))) (by unfold E6.ord E6.key; rw [if_pos (by simp only; omega)])
 by_cases k5 : f' < f
 ·rw [if_neg h5, if_pos k5] at s5
  exact ret _ _ ((zn s0).trans ((zn s1).trans ((zn s2).trans ((zn s3).trans ((zn s4).trans (z6 s5)))))) (by unfold E6.ord E6.key; rw [if_neg (by simp only; omega), if_pos (by simp only; omega)])
 rw [if_neg h5, if_neg k5] at s5
 have hz : E6.ord ⟨a, b, c, d, e, f⟩ ⟨a', b', c', d', e', f'⟩ = 0 := by unfold E6.ord E6.key; rw [if_neg (by simp only; omega), if_neg (by simp only; omega)]
 rw [hz]
 refine zE (h := []) ?_ rfl
 rw [e59, zbo]
 refine (zae ((zn s0).trans ((zn s1).trans ((zn s2).trans ((zn s3).trans ((zn s4).trans ((zn s5).trans (zb4 (e59_2 _ _ _ _ _ _ _ _ _ _ _ _ _ _ _)))))))) _).trans ?_
 kernel_rfl
theorem p76 (n : Nat) : (CW GU LU).p (.func 76) [.int .u8 ((n : Nat) : Int)] = some (.bool (n % 2 == 1)) := by
 refine zE (h := []) ?_ rfl
 rw [e76, zpH]
theorem zeA (x : E6) (z : Int) (i : Nat) (u : Nat) (hi : i < 6) (hu : zab x.rw ((i : Nat) : Int) 1 = some [.int .u8 ((u : Nat) : Int)]) :
  zw GU LU (CW GU LU) 82 none 2 (zbN x.rw z 6 ((i : Nat) : Int)) =
   if u % 2 = 1 then some (.ret, zbN x.rw ((i : Nat) : Int) 6 ((i : Nat) : Int)) else some (.normal, zbN x.rw z 6 ((i + 1 : Nat) : Int)) := by
 have e1 : decide (((i : Nat) : Int) < 6) = true := by simp; omega
 rw [zjX, e1]
 simp only [hu, zA, zT, zH, zC, zJ, zY, zx, zW, zy, zD, zB, zP, zaa, zah, zZ, zK, zN, zO, zX, zG, zR, zI, zL, Option.bind_some, Option.bind_none, cond_true, cond_false, zU, zV, p76, zbS i (by omega)]
 by_cases h1 : u % 2 = 1
 ·simp [h1]
 ·have e2 : (u % 2 == 1) = false := by simpa using h1
  simp [h1, e2]
theorem p66 (x : E6) : (CW GU LU).p (.func 66) [.agg [.int .u8 ((x.a : Nat) : Int), .int .u8 ((x.b : Nat) : Int), .int .u8 ((x.c : Nat) : Int), .int .u8 ((x.d : Nat) : Int), .int .u8 ((x.e : Nat) : Int), .int .u8 ((x.f : Nat) : Int)]] = some (.bool x.odd) := by
 have key : ∀ (r : Int), (CW GU LU).p (.func 82) [.slice .any x.rw, .fn (.func 76) [] []] = some (.int .i64 r) → decide (r ≥ 0) = x.odd → (CW GU LU).p (.func 66) [.agg [.int .u8 ((x.a : Nat) : Int), .int .u8 ((x.b : Nat) : Int), .int .u8 ((x.c : Nat) : Int), .int .u8 ((x.d : Nat) : Int), .int .u8 ((x.e : Nat) : Int), .int .u8 ((x.f : Nat) : Int)]] = some (.bool x.odd) := by
  intro r h hr
  have h2 : (CW GU LU).p (.func 75) [.slice .any x.rw, .fn (.func 76) [] []] = some (.bool x.odd) := by
   refine zE (h := []) ?_ rfl
   rw [p75, h, ← hr]
   rfl
  refine zE (h := [.arr true 1 x.rw]) ?_ rfl
  rw [e66]
  refine (zae h2 _).trans ?_
  rfl
 have ret : ∀ (z k : Int), zas (zw GU LU (CW GU LU) 82 none 2) (zbN x.rw 0 6 0) = some (.ret, zbN x.rw z 6 k) → decide (z ≥ 0) = x.odd → (CW GU LU).p (.func 66) [.agg [.int .u8 ((x.a : Nat) : Int), .int .u8 ((x.b : Nat) : Int), .int .u8 ((x.c : Nat) : Int), .int .u8 ((x.d : Nat) : Int), .int .u8 ((x.e : Nat) : Int), .int .u8 ((x.f : Nat) : Int)]] = some (.bool x.odd) := by
  intro z k h hz
  refine key z ?_ hz
  refine zE (h := []) ?_ rfl
  rw [p82, zbo]
  refine (zae h _).trans ?_
  kernel_rfl
 have s0 := zeA x 0 0 x.a (by omega) rfl
 have s1 := zeA x 0 1 x.b (by omega) rfl
 have s2 := zeA x 0 2 x.c (by omega) rfl
 have s3 := zeA x 0 3 x.d (by omega) rfl
 have s4 := zeA x 0 4 x.e (by omega) rfl
 have s5 := zeA x 0 5 x.f (by omega) rfl
 by_cases h0 : x.a % 2 = 1
 ·rw [if_pos h0] at s0
  exact ret _ _ (z6 s0) (by unfold E6.odd; simp [h0])
 rw [if_neg h0] at s0
 by_cases h1 : x.b % 2 = 1
 ·rw [if_pos h1] at s1
  exact ret _ _ ((zn s0).trans (z6 s1)) (by unfold E6.odd; simp [h0, h1])
 rw [if_neg h1] at s1
 by_cases h2 : x.c % 2 = 1
 ·rw [if_pos h2] at s2
  exact ret _ _ ((zn s0).trans ((zn s1).trans (z6 s2))) (by unfold E6.odd; simp [h0, h1, h2])
 rw [if_neg h2] at s2
 by_cases h3 : x.d % 2 = 1
 ·rw [if_pos h3] at s3
  exact ret _ _ ((zn s0).trans ((zn s1).trans ((zn s2).trans (z6 s3)))) (by unfold E6.odd; simp [h0, h1, h2, h3])
 rw [if_neg h3] at s3
 by_cases h4 : x.e % 2 = 1
 ·rw [if_pos h4] at s4
  exact ret _ _ ((zn s0).trans ((zn s1).trans ((zn s2).trans ((zn s3).trans (z6 s4))))) (by unfold E6.odd; simp [h0, h1, h2, h3, h4])
 rw [if_neg h4] at s4
 by_cases h5 : x.f % 2 = 1
 ·rw [if_pos h5] at s5
  exact ret _ _ ((zn s0).trans ((zn s1).trans ((zn s2).trans ((zn s3).trans ((zn s4).trans (z6 s5)))))) (by unfold E6.odd; simp [h0, h1, h2, h3, h4, h5])
 rw [if_neg h5] at s5
 refine key (-1) ?_ (by unfold E6.odd; simp [h0, h1, h2, h3, h4, h5])
 refine zE (h := []) ?_ rfl
 rw [p82, zbo]
 refine (zae ((zn s0).trans ((zn s1).trans ((zn s2).trans ((zn s3).trans ((zn s4).trans ((zn s5).trans (zb4 (zjX _ _ _ _ _)))))))) _).trans ?_
 kernel_rfl
end Go.Ab
namespace Go.Ab
structure Tm where
 c : Int
 e : E6
deriving DecidableEq
def Tm.cs (t : Tm) : List V := .int .i64 t.c :: t.e.cs
theorem Tm.cs_len (t : Tm) : t.cs.length = 7 := rfl
theorem zb9 (t : Tm) : zg t.cs = some (.int .i64 t.c, t.e.cs) := rfl
theorem zca (x : E6) : zg x.cs = some (.int .u8 ((x.a : Nat) : Int), [.int .u8 ((x.b : Nat) : Int), .int .u8 ((x.c : Nat) : Int), .int .u8 ((x.d : Nat) : Int), .int .u8 ((x.e : Nat) : Int), .int .u8 ((x.f : Nat) : Int)]) := rfl
theorem zeh (p : List Tm) (i : Nat) (hi : i < p.length) : zab (p.map Tm.cs) ((i : Nat) : Int) 7 = some p[i].cs := zdv Tm.cs Tm.cs_len p i hi
def Tm.ok (t : Tm) : Prop := t.e.ok
def oks (p : List Tm) : Prop := ∀ t ∈ p, t.e.ok
def few (p : List Tm) : Prop := p.length ≤ 100000
theorem zpI (x : E6) : ((((x.a : Nat) : Int) == 0) && ((((x.b : Nat) : Int) == 0) && ((((x.c : Nat) : Int) == 0) && ((((x.d : Nat) : Int) == 0) && ((((x.e : Nat) : Int) == 0) && ((((x.f : Nat) : Int) == 0) && true)))))) = decide (x.deg = 0) := by
 have h : ∀ n : Nat, (((n : Nat) : Int) == 0) = decide (n = 0) := fun n => by cases n <;> rfl
 simp only [h, Bool.and_true]
 rw [Bool.eq_iff_iff]
 simp only [Bool.and_eq_true, decide_eq_true_eq]
 unfold E6.deg
 constructor
 ·rintro ⟨h1, h2, h3, h4, h5, h6⟩; omega
 ·intro h1; omega
def rng (t : Tm) : Int × Int := if t.e.deg = 0 then (t.c, t.c) else if t.e.odd then (min t.c (-t.c), max t.c (-t.c)) else (min t.c 0, max t.c 0)
theorem zoz (t : Tm) {b : Int} (h1 : -b ≤ t.c) (h2 : t.c ≤ b) : -b ≤ (rng t).1 ∧ (rng t).1 ≤ b ∧ -b ≤ (rng t).2 ∧ (rng t).2 ≤ b ∧ (rng t).1 ≤ (rng t).2 := by
 unfold rng
 split
 ·simp only; omega
 ·split <;> simp only <;> omega
theorem znN {lo hi c : Int} (x : E6) (h1 : zs c) (h2 : -1000000000000000 ≤ lo) (h3 : lo ≤ 1000000000000000) (h4 : -1000000000000000 ≤ hi) (h5 : hi ≤ 1000000000000000) :
  (IntKind.wrap .i64 (lo + c) = lo + c ∧ IntKind.wrap .i64 (hi + c) = hi + c) ∧ IntKind.wrap .i64 (0 - c) = -c ∧
   (IntKind.wrap .i64 (lo - (if -c > c then -c else c)) = lo + min c (-c) ∧ IntKind.wrap .i64 (hi + (if -c > c then -c else c)) = hi + max c (-c)) ∧
    (IntKind.wrap .i64 (lo + (if 0 < c then 0 else c)) = lo + min c 0 ∧ IntKind.wrap .i64 (hi + (if 0 > c then 0 else c)) = hi + max c 0) := by
 simp only [zs] at h1
 refine ⟨⟨w64 (by omega) (by omega), w64 (by omega) (by omega)⟩, (w64 (by omega) (by omega)).trans (by omega), ⟨?_, ?_⟩, ?_, ?_⟩ <;>
  (rw [w64 (by split <;> omega) (by split <;> omega)]; split <;> omega)
theorem zq4 {lo hi c : Int} (x : E6) (r : List (List V)) (h1 : zs c) (h2 : -1000000000000000 ≤ lo) (h3 : lo ≤ 1000000000000000) (h4 : -1000000000000000 ≤ hi) (h5 : hi ≤ 1000000000000000) :
  (CW GU LU).s (.func 58) [.ptr 0 0, .int .i64 c, .agg [.int .u8 ((x.a : Nat) : Int), .int .u8 ((x.b : Nat) : Int), .int .u8 ((x.c : Nat) : Int), .int .u8 ((x.d : Nat) : Int), .int .u8 ((x.e : Nat) : Int), .int .u8 ((x.f : Nat) : Int)]] [.cells [.int .i64 lo, .int .i64 hi], .arr true 7 r] = some (.tuple [], [.cells [.int .i64 (lo + (rng ⟨c, x⟩).1), .int .i64 (hi + (rng ⟨c, x⟩).2)], .arr true 7 r]) := by
 obtain ⟨⟨a1, a2⟩, a3, ⟨a4, a5⟩, a6, a7⟩ := znN x h1 h2 h3 h4 h5
 refine zdD ?_
 rw [zqZ, zpI]
 simp only [p66, zA, zT, zH, zC, zJ, zY, zx, zW, zy, zD, zB, zP, zaa, zah, zZ, zK, zN, zO, zX, zG, zR, zI, zL, Option.bind_some, Option.bind_none, cond_true, cond_false, zU, zV, a1, a2, a3, a4, a5, a6, a7, rng]
 by_cases g1 : x.deg = 0
 ·simp only [g1, if_true]
 ·cases g2 : x.odd <;> simp [g1]
theorem zq5 {lo hi c : Int} (x : E6) (h1 : zs c) (h2 : -1000000000000000 ≤ lo) (h3 : lo ≤ 1000000000000000) (h4 : -1000000000000000 ≤ hi) (h5 : hi ≤ 1000000000000000) :
  (CW GU LU).s (.func 58) [.ptr 0 0, .int .i64 c, .agg [.int .u8 ((x.a : Nat) : Int), .int .u8 ((x.b : Nat) : Int), .int .u8 ((x.c : Nat) : Int), .int .u8 ((x.d : Nat) : Int), .int .u8 ((x.e : Nat) : Int), .int .u8 ((x.f : Nat) : Int)]] [.cells [.int .i64 lo, .int .i64 hi]] = some (.tuple [], [.cells [.int .i64 (lo + (rng ⟨c, x⟩).1), .int .i64 (hi + (rng ⟨c, x⟩).2)]]) := by
 obtain ⟨⟨a1, a2⟩, a3, ⟨a4, a5⟩, a6, a7⟩ := znN x h1 h2 h3 h4 h5
 refine zdD ?_
 rw [zqW, zpI]
 simp only [p66, zA, zT, zH, zC, zJ, zY, zx, zW, zy, zD, zB, zP, zaa, zah, zZ, zK, zN, zO, zX, zG, zR, zI, zL, Option.bind_some, Option.bind_none, cond_true, cond_false, zU, zV, a1, a2, a3, a4, a5, a6, a7, rng]
 by_cases g1 : x.deg = 0
 ·simp only [g1, if_true]
 ·cases g2 : x.odd <;> simp [g1]
end Go.Ab
namespace Go.Ab
def zbb : List Int → Int
 | [] => 0
 | x :: l => x + zbb l
theorem zdH (a b : List Int) : zbb (a ++ b) = zbb a + zbb b := by
 induction a with
 | nil => simp [zbb]
 | cons x a ih => simp only [List.cons_append, zbb, ih]; omega
theorem zmv {b : Int} : ∀ (l : List Int), (∀ x ∈ l, -b ≤ x ∧ x ≤ b) → -(b * l.length) ≤ zbb l ∧ zbb l ≤ b * l.length
 | [], _ => by simp [zbb]
 | x :: l, h => by
  have h1 := h x (by simp)
  have h2 := zmv l (fun y hy => h y (by simp [hy]))
  simp only [zbb, List.length_cons, Int.natCast_add, Int.mul_add, Int.natCast_one, Int.mul_one]
  generalize b * (l.length : Int) = z at *
  omega
def los (p : List Tm) : Int := zbb (p.map fun t => (rng t).1)
def his (p : List Tm) : Int := zbb (p.map fun t => (rng t).2)
def kp (most : Int) (t : Tm) : Bool := decide (t.c ≠ 0 ∧ ((t.e.deg : Nat) : Int) ≤ min most 6)
def dp (most : Int) (t : Tm) : Bool := decide (t.c ≠ 0 ∧ ¬ ((t.e.deg : Nat) : Int) ≤ min most 6)
def zbc (p : List Tm) : Prop := ∀ t ∈ p, zs t.c
def zif (p : List Tm) : Bool := p.all fun t => decide (zs t.c)
theorem zeV {p : List Tm} : zif p = true ↔ zbc p := by simp [zif, zbc]
def zaJ (p : List Tm) (most lo hi : Int) : List Tm × Iv :=
 if zif p = true ∧ (p.filter (kp most)).length ≤ 100 ∧ (Iv.new (lo + los (p.filter (dp most))) (hi + his (p.filter (dp most)))).isW = false then
  (p.filter (kp most), Iv.new (lo + los (p.filter (dp most))) (hi + his (p.filter (dp most)))) else ([], Iv.whole)
theorem los_b {p : List Tm} (h : zbc p) : -(2147483648 * (p.length : Int)) ≤ los p ∧ los p ≤ 2147483648 * (p.length : Int) := by
 have := zmv (b := 2147483648) (p.map fun t => (rng t).1) (fun x hx => by
  obtain ⟨t, ht, rfl⟩ := List.mem_map.1 hx
  have h1 := h t ht
  simp only [zs] at h1
  have := zoz t (b := 2147483648) (by omega) (by omega)
  omega)
 simpa [los] using this
theorem his_b {p : List Tm} (h : zbc p) : -(2147483648 * (p.length : Int)) ≤ his p ∧ his p ≤ 2147483648 * (p.length : Int) := by
 have := zmv (b := 2147483648) (p.map fun t => (rng t).2) (fun x hx => by
  obtain ⟨t, ht, rfl⟩ := List.mem_map.1 hx
  have h1 := h t ht
  simp only [zs] at h1
  have := zoz t (b := 2147483648) (by omega) (by omega)
  omega)
 simpa [his] using this
theorem zmw (p : List Tm) (t : Tm) : los (p ++ [t]) = los p + (rng t).1 := by simp [los, zdH, zbb]
theorem zmx (p : List Tm) (t : Tm) : his (p ++ [t]) = his p + (rng t).2 := by simp [his, zdH, zbb]
theorem zmy {p q : List Tm} (h : zbc p) (hs : ∀ t ∈ q, t ∈ p) : zbc q := fun t ht => h t (hs t ht)
theorem p60 (a : Int) : (CW GU LU).p (.func 60) [.int .i64 a] = some (.bool (decide (zs a))) := by
 refine zE (h := []) ?_ rfl
 simp only [e60, zA, zT, zH, zC, zJ, zY, zx, zW, zy, zD, zB, zP, zaa, zah, zZ, zK, zN, zO, zX, zG, zR, zI, zL, Option.bind_some, Option.bind_none, cond_true, cond_false, zU, zV, zs]
 by_cases h : -2147483648 < a <;> simp [h]
def zfJ (p : List Tm) (most lo hi : Int) (i : Nat) : St := zcd most [] 0 0 ((((p.take i).filter (kp most)).map Tm.cs).length) (p.map Tm.cs) ((p.length : Nat) : Int) ((i : Nat) : Int) (lo + los ((p.take i).filter (dp most))) (hi + his ((p.take i).filter (dp most))) (((p.take i).filter (kp most)).map Tm.cs)
theorem zgq {p : List Tm} (f : Tm → Bool) (i : Nat) : ((p.take i).filter f).length ≤ p.length := Nat.le_trans (List.length_filter_le _ _) (by simp; omega)
theorem zj1 {p : List Tm} (f : Tm → Bool) (i : Nat) {lo : Int} (hf : few p) (hn : zbc (p.take i)) (h1 : -1000000000 ≤ lo) (h2 : lo ≤ 1000000000) :
  -1000000000000000 ≤ lo + los ((p.take i).filter f) ∧ lo + los ((p.take i).filter f) ≤ 1000000000000000 ∧ -1000000000000000 ≤ lo + his ((p.take i).filter f) ∧ lo + his ((p.take i).filter f) ≤ 1000000000000000 := by
 have hl := zgq (p := p) f i
 unfold few at hf
 have hm : zbc ((p.take i).filter f) := zmy hn fun t ht => (List.mem_filter.1 ht).1
 have a := los_b hm
 have b := his_b hm
 generalize ((p.take i).filter f).length = n at *
 omega
theorem zq6 (p : List Tm) (most lo hi : Int) (hk : oks p) (hf : few p) (hl1 : -1000000000 ≤ lo) (hl2 : lo ≤ 1000000000) (hh1 : -1000000000 ≤ hi) (hh2 : hi ≤ 1000000000) (i : Nat) (hi' : i < p.length)
  (hp : zbc (p.take i)) (hc : zs p[i].c) : zw GU LU (CW GU LU) 53 none 3 (zfJ p most lo hi i) = some (.normal, zfJ p most lo hi (i + 1)) := by
 have hfl : p.length ≤ 100000 := hf
 have hx : p[i].e.ok := hk _ (List.getElem_mem hi')
 have b1 := zj1 (dp most) i hf hp hl1 hl2
 have b2 := zj1 (dp most) i hf hp hh1 hh2
 unfold zfJ
 rw [zoy, zcJ hi', zeh p i hi', zdh hi']
 simp only [zA, zT, zH, zC, zJ, zY, zx, zW, zy, zD, zB, zP, zaa, zah, zZ, zK, zN, zO, zX, zG, zR, zI, zL, Option.bind_some, Option.bind_none, cond_true, cond_false, zU, zV, zb9, zca, p60, hc, decide_true, Bool.not_true, p61 _ hx, zbS i (by omega)]
 have hmin : (if (6 : Int) < most then 6 else most) = min most 6 := by split <;> omega
 rw [hmin]
 by_cases h0 : p[i].c = 0
 ·have e1 : kp most p[i] = false := by simp [kp, h0]
  have e2 : dp most p[i] = false := by simp [dp, h0]
  have e3 : (p[i].c == 0) = true := by simpa using h0
  simp only [e3, cond_true, if_true, List.filter_append, List.filter_cons, e1, e2, Bool.false_eq_true, if_false, List.filter_nil, List.append_nil]
 ·have e3 : (p[i].c == 0) = false := by simpa using h0
  simp only [e3, cond_false, if_true]
  by_cases hd : ((p[i].e.deg : Nat) : Int) ≤ min most 6
  ·have e1 : kp most p[i] = true := by simp [kp, h0]; omega
   have e2 : dp most p[i] = false := by simp [dp, h0]; omega
   have hroom : ((((p.take i).filter (kp most)).map Tm.cs).length + 1) * 16 ≤ zaw := by
    have := zgq (p := p) (kp most) i
    rw [List.length_map]; unfold zaw; omega
   simp only [hd, if_true, hroom, List.filter_append, List.filter_cons, e1, e2, Bool.false_eq_true, if_false, List.filter_nil, List.append_nil, List.map_append, List.map_cons, List.map_nil, List.length_append, List.length_cons, List.length_nil]
   rfl
  ·have e1 : kp most p[i] = false := by simp [kp, h0]; omega
   have e2 : dp most p[i] = true := by simp [dp, h0]; omega
   simp only [hd, if_false, zq4 p[i].e _ hc b1.1 b1.2.1 b2.2.2.1 b2.2.2.2, zA, zT, zH, zC, zJ, zY, zx, zW, zy, zD, zB, zP, zaa, zah, zZ, zK, zN, zO, zX, zG, zR, zI, zL, Option.bind_some, Option.bind_none, cond_true, cond_false, zU, zV, List.filter_append, List.filter_cons, e1, e2, Bool.false_eq_true, if_false, if_true, List.filter_nil, List.append_nil, zmw, zmx, Int.add_assoc]
theorem zrR (p : List Tm) (most lo hi : Int) (i : Nat) (hi' : i < p.length) (hc : ¬ zs p[i].c) :
  zw GU LU (CW GU LU) 53 none 3 (zfJ p most lo hi i) = some (.ret, zi1 most (-2147483648) 2147483648 ((((p.take i).filter (kp most)).map Tm.cs).length) (p.map Tm.cs) ((p.length : Nat) : Int) ((i : Nat) : Int) (lo + los ((p.take i).filter (dp most))) (hi + his ((p.take i).filter (dp most))) (((p.take i).filter (kp most)).map Tm.cs)) := by
 unfold zfJ
 rw [zoy, zcJ hi', zeh p i hi']
 simp only [zA, zT, zH, zC, zJ, zY, zx, zW, zy, zD, zB, zP, zaa, zah, zZ, zK, zN, zO, zX, zG, zR, zI, zL, Option.bind_some, Option.bind_none, cond_true, cond_false, zU, zV, zb9, zca, p60, hc, decide_false, Bool.not_false, p36]
 rfl
theorem zhD {p : List Tm} {i : Nat} (h : ∀ j, j < i → (fun j => if h : j < p.length then decide (zs p[j].c) else true) j = true) : zbc (p.take i) := by
 intro t ht
 obtain ⟨j, hj, rfl⟩ := List.mem_iff_getElem.1 ht
 simp only [List.length_take] at hj
 have := h j (by omega)
 simp only [show j < p.length by omega, dif_pos, decide_eq_true_eq] at this
 rw [List.getElem_take]; exact this
theorem p53 (p : List Tm) (most lo hi : Int) (hk : oks p) (hf : few p) (hl1 : -1000000000 ≤ lo) (hl2 : lo ≤ 1000000000) (hh1 : -1000000000 ≤ hi) (hh2 : hi ≤ 1000000000) :
  (CW GU LU).p (.func 53) [.slice .any (p.map Tm.cs), .int .i64 most, .agg [.int .i64 lo, .int .i64 hi]] = some (.tuple [.slice .any ((zaJ p most lo hi).1.map Tm.cs), .agg (zaJ p most lo hi).2.c]) := by
 have hloop := zfc (round := zw GU LU (CW GU LU) 53 none 3) (zfJ p most lo hi) p.length (fun j => if h : j < p.length then decide (zs p[j].c) else true)
  (fun z => ∃ (n : Nat) (a b : List (List V)) (x y u v w : Int), z = zi1 u (-2147483648) 2147483648 n a x y v w b) (id := 0)
  (fun i hi' hj hi2 => zq6 p most lo hi hk hf hl1 hl2 hh1 hh2 i hi' (zhD hj) (by simpa [hi'] using hi2))
  (fun i hi' hj hi2 => ⟨_, zrR p most lo hi i hi' (by simpa [hi'] using hi2), _, _, _, _, _, _, _, _, rfl⟩)
  (fun _ => by unfold zfJ; rw [zoy, zci]; rfl)
 have hstart : zfJ p most lo hi 0 = zcd most [] 0 0 0 (p.map Tm.cs) (((p.map Tm.cs).length : Nat) : Int) 0 lo hi [] := by
  simp [zfJ, los, his, zbb]
 rcases hloop with ⟨hall, hl⟩ | ⟨⟨j, hj1, hj2⟩, z, hl, n, a, b, x, y, u, v, w, hz⟩
 ·have hn : zbc p := by
   have := zhD (p := p) (i := p.length) hall
   rwa [List.take_length] at this
  have hb : zif p = true := zeV.2 hn
  have b1 := zj1 (dp most) p.length hf (by rw [List.take_length]; exact hn) hl1 hl2
  have b2 := zj1 (dp most) p.length hf (by rw [List.take_length]; exact hn) hh1 hh2
  have hlen : (p.map Tm.cs).length = p.length := by simp
  have hend : zfJ p most lo hi p.length = zcd most [] 0 0 (((p.filter (kp most)).map Tm.cs).length) (p.map Tm.cs) ((p.length : Nat) : Int) ((p.length : Nat) : Int) (lo + los (p.filter (dp most))) (hi + his (p.filter (dp most))) ((p.filter (kp most)).map Tm.cs) := by
   simp only [zfJ, List.take_length]
  rw [hend] at hl
  rw [hstart] at hl
  generalize hK : p.filter (kp most) = kk at *
  generalize hLo : lo + los (p.filter (dp most)) = l1 at *
  generalize hHi : hi + his (p.filter (dp most)) = h1 at *
  have hfin : zaJ p most lo hi = if kk.length ≤ 100 ∧ (Iv.new l1 h1).isW = false then (kk, Iv.new l1 h1) else ([], Iv.whole) := by
   unfold zaJ
   rw [hK, hLo, hHi, hb]
   simp
  have hrun : zM GU LU (CW GU LU) (.func 53) [.slice .any (p.map Tm.cs), .int .i64 most, .agg [.int .i64 lo, .int .i64 hi]] [] =
    (if kk.length ≤ 100 ∧ (Iv.new l1 h1).isW = false then some (.tuple [.arr 1 (kk.map Tm.cs).length 7, .agg (Iv.new l1 h1).c], [.cells [.int .i64 l1, .int .i64 h1], .arr true 7 (kk.map Tm.cs)]) else some (.tuple [.slice .nil [], .agg Iv.whole.c], [.cells [.int .i64 l1, .int .i64 h1], .arr true 7 (kk.map Tm.cs)])) := by
   rw [e53, zbo]
   refine (zae hl _).trans ?_
   have g : ∀ (a b : List (List V)) (n : Nat) (x y u v w : Int), nth (zcd u [] 0 0 n a x y v w b).t 1 = .int .i64 u ∧ nth (zcd u [] 0 0 n a x y v w b).t 5 = .ptr 0 0 ∧ nth (zcd u [] 0 0 n a x y v w b).t 6 = .slice .any [] ∧ nth (zcd u [] 0 0 n a x y v w b).t 7 = .box [.int .i64 0, .int .i64 0] ∧ nth (zcd u [] 0 0 n a x y v w b).t 8 = .arr 1 n 7 ∧ nth (zcd u [] 0 0 n a x y v w b).t 12 = .slice .any a ∧ nth (zcd u [] 0 0 n a x y v w b).t 13 = .int .i64 x ∧ nth (zcd u [] 0 0 n a x y v w b).t 14 = .int .i64 y ∧ (zcd u [] 0 0 n a x y v w b).h = [.cells [.int .i64 v, .int .i64 w], .arr true 7 b] := fun _ _ _ _ _ _ _ _ => ⟨rfl, rfl, rfl, rfl, rfl, rfl, rfl, rfl, rfl⟩
   obtain ⟨g1, g2, g3, g4, g5, g6, g7, g8, g9⟩ := g (p.map Tm.cs) (kk.map Tm.cs) (kk.map Tm.cs).length ((p.length : Nat) : Int) ((p.length : Nat) : Int) most l1 h1
   simp only [g1, g2, g3, g4, g5, g6, g7, g8, g9, Nat.beq_refl, zA, zT, zH, zC, zJ, zY, zx, zW, zy, zD, zB, zP, zaa, zah, zZ, zK, zN, zO, zX, zG, zR, zI, zL, Option.bind_some, Option.bind_none, cond_true, cond_false, zU, zV, zi3, p9, p36, Iv.eta]
   by_cases c1 : kk.length ≤ 100
   ·have c1' : ((((kk.map Tm.cs).length : Nat) : Int) ≤ 100) := by rw [List.length_map]; omega
    cases c2 : (Iv.new l1 h1).isW
    ·simp only [c1, c1', if_true, cond_false, and_self]; rfl
    ·simp only [c1, c1', if_true, cond_true, Bool.true_eq_false, and_false, if_false]; rfl
   ·have c1' : ¬ ((((kk.map Tm.cs).length : Nat) : Int) ≤ 100) := by rw [List.length_map]; omega
    simp only [c1, c1', if_false, false_and]; rfl
  rw [hfin]
  by_cases c : kk.length ≤ 100 ∧ (Iv.new l1 h1).isW = false
  ·rw [if_pos c] at hrun ⊢
   refine zbL hrun ?_
   simp [zbs, zaI, zaP, zbf, zbr, zaj, zar, Iv.c, zaR, ifK]
  ·rw [if_neg c] at hrun ⊢
   exact zbL hrun rfl
 ·have hb : zif p = false := by
   cases hb : zif p with
   | false => rfl
   | true =>
    have := zeV.1 hb p[j] (List.getElem_mem hj1)
    simp only [hj1, dif_pos, decide_eq_false_iff_not] at hj2
    exact absurd this hj2
  have hfin : zaJ p most lo hi = ([], Iv.whole) := by unfold zaJ; rw [hb]; simp
  rw [hfin]
  rw [hz, hstart] at hl
  refine zbL (u := .tuple [.slice .any [], .agg Iv.whole.c]) (h := [.cells [.int .i64 v, .int .i64 w], .arr true 7 b]) ?_ rfl
  rw [e53, zbo]
  refine (zae hl _).trans ?_
  kernel_rfl
end Go.Ab
namespace Go.Ab
def zeI (p : List Tm) (most : Int) : List Tm × Iv := zaJ p most 0 0
theorem p49 (p : List Tm) (most : Int) (hk : oks p) (hf : few p) : (CW GU LU).p (.func 49) [.slice .any (p.map Tm.cs), .int .i64 most] = some (.tuple [.slice .any ((zeI p most).1.map Tm.cs), .agg (zeI p most).2.c]) := by
 refine zbL (u := .tuple [.slice .any ((zeI p most).1.map Tm.cs), .agg (zeI p most).2.c]) (h := []) ?_ rfl
 simp only [e49, p53 p most 0 0 hk hf (by decide) (by decide) (by decide) (by decide), zA, zT, zH, zC, zJ, zY, zx, zW, zy, zD, zB, zP, zaa, zah, zZ, zK, zN, zO, zX, zG, zR, zI, zL, Option.bind_some, Option.bind_none, cond_true, cond_false, zU, zV]
 rfl
def zcY (p : List Tm) : Iv := Iv.new (los p) (his p)
theorem sums_r {p : List Tm} (i : Nat) (hf : few p) (hn : zbc p) : -1000000000000000 ≤ los (p.take i) ∧ los (p.take i) ≤ 1000000000000000 ∧ -1000000000000000 ≤ his (p.take i) ∧ his (p.take i) ≤ 1000000000000000 := by
 have hl : (p.take i).length ≤ p.length := by simp; omega
 unfold few at hf
 have hm : zbc (p.take i) := zmy hn fun t ht => List.mem_of_mem_take ht
 have a := los_b hm
 have b := his_b hm
 generalize (p.take i).length = n at *
 omega
theorem p40 (p : List Tm) (hk : oks p) (hf : few p) (hn : zbc p) : (CW GU LU).p (.func 40) [.slice .any (p.map Tm.cs)] = some (.agg (zcY p).c) := by
 have hloop := zdg (round := zw GU LU (CW GU LU) 40 none 3) (fun i => zef 0 0 (p.map Tm.cs) ((p.length : Nat) : Int) ((i : Nat) : Int) (los (p.take i)) (his (p.take i))) p.length (id := 0)
  (fun i hi => by
   have hfl : p.length ≤ 100000 := hf
   have b := sums_r i hf hn
   simp only [e40_3, zcJ hi, zeh p i hi, zdh hi, zA, zT, zH, zC, zJ, zY, zx, zW, zy, zD, zB, zP, zaa, zah, zZ, zK, zN, zO, zX, zG, zR, zI, zL, Option.bind_some, Option.bind_none, cond_true, cond_false, zU, zV, zb9, zca, zq5 p[i].e (hn _ (List.getElem_mem hi)) b.1 b.2.1 b.2.2.1 b.2.2.2, zbS i (by omega), zmw, zmx])
  (by simp only [e40_3, zci, cond_false])
 simp only [List.take_length] at hloop
 refine zbL (u := .agg (zcY p).c) (h := [.cells [.int .i64 (los p), .int .i64 (his p)]]) ?_ rfl
 rw [e40, zbo, List.length_map]
 refine (zae hloop _).trans ?_
 have g : ∀ (a : List (List V)) (y u v w : Int), nth (zef 0 0 a u y v w).t 2 = .box [.int .i64 0, .int .i64 0] ∧ nth (zef 0 0 a u y v w).t 3 = .ptr 0 0 ∧ nth (zef 0 0 a u y v w).t 6 = .slice .any a ∧ nth (zef 0 0 a u y v w).t 7 = .int .i64 u ∧ nth (zef 0 0 a u y v w).t 8 = .int .i64 y ∧ (zef 0 0 a u y v w).h = [.cells [.int .i64 v, .int .i64 w]] := fun _ _ _ _ _ => ⟨rfl, rfl, rfl, rfl, rfl, rfl⟩
 obtain ⟨g1, g2, g3, g4, g5, g6⟩ := g (p.map Tm.cs) ((p.length : Nat) : Int) ((p.length : Nat) : Int) (los p) (his p)
 simp only [g1, g2, g3, g4, g5, g6, Nat.beq_refl, zA, zT, zH, zC, zJ, zY, zx, zW, zy, zD, zB, zP, zaa, zah, zZ, zK, zN, zO, zX, zG, zR, zI, zL, Option.bind_some, Option.bind_none, cond_true, cond_false, zU, zV, zi3, zcY]
 rfl
def degP : List Tm → Int
 | [] => -1
 | t :: p => max ((t.e.deg : Nat) : Int) (degP p)
def E6.zero : E6 := ⟨0, 0, 0, 0, 0, 0⟩
def zaK (c : Int) : List Tm := if c = 0 then [] else [⟨c, E6.zero⟩]
def E6.unit (i : Int) : E6 := ⟨if i = 0 then 1 else 0, if i = 1 then 1 else 0, if i = 2 then 1 else 0, if i = 3 then 1 else 0, if i = 4 then 1 else 0, if i = 5 then 1 else 0⟩
def zcK (i : Int) : List Tm := if i < 0 ∨ i > 5 then [] else [⟨65536, E6.unit i⟩]
theorem p33 (c : Int) : (CW GU LU).p (.func 33) [.int .i64 c] = some (.slice .any ((zaK c).map Tm.cs)) := by
 by_cases h : c = 0
 ·subst h; exact zbL (u := .slice .nil []) (h := []) (e33 _ _) rfl
 ·have e1 : (c == 0) = false := by simpa using h
  refine zbL (u := .slice .any ((zaK c).map Tm.cs)) (h := []) ?_ rfl
  rw [e33, e1, zaK, if_neg h]; rfl
theorem p31 (i : Int) : (CW GU LU).p (.func 31) [.int .i64 i] = some (.slice .any ((zcK i).map Tm.cs)) := by
 by_cases h : i < 0
 ·have e1 : decide (i < 0) = true := by simpa using h
  refine zbL (u := .slice .nil []) (h := []) (by rw [e31, e1]; rfl) ?_
  rw [zcK, if_pos (.inl h)]; rfl
 ·have e1 : decide (i < 0) = false := by simpa using h
  by_cases h2 : i > 5
  ·have e2 : decide (i ≥ 6) = true := by simp; omega
   refine zbL (u := .slice .nil []) (h := []) (by rw [e31, e1, e2]; rfl) ?_
   rw [zcK, if_pos (.inr h2)]; rfl
  ·have : i = 0 ∨ i = 1 ∨ i = 2 ∨ i = 3 ∨ i = 4 ∨ i = 5 := by omega
   rcases this with rfl | rfl | rfl | rfl | rfl | rfl <;> exact zbL (h := []) (e31 _ _) rfl
end Go.Ab
