/- Exponents: their sum, their order, whether one is odd; the range of a term; conditions: bytes. -/
import Derived.Test.YtpalbaaghplhnaaGreatDoorP0
import Derived.Test.YtpalbaaghplhnaaGreatDoorEB
set_option linter.unusedVariables false
set_option linter.unusedSimpArgs false
namespace Go.Ab
structure E6 where
 a : Nat
 b : Nat
 c : Nat
 d : Nat
 e : Nat
 f : Nat
deriving DecidableEq
def E6.ok (x : E6) : Prop := x.a < 256 ∧ x.b < 256 ∧ x.c < 256 ∧ x.d < 256 ∧ x.e < 256 ∧ x.f < 256
def E6.deg (x : E6) : Nat := x.a + x.b + x.c + x.d + x.e + x.f
def E6.key (x : E6) : Nat := ((((x.a * 256 + x.b) * 256 + x.c) * 256 + x.d) * 256 + x.e) * 256 + x.f
def E6.cs (x : E6) : List V := [.int .u8 ((x.a : Nat) : Int), .int .u8 ((x.b : Nat) : Int), .int .u8 ((x.c : Nat) : Int), .int .u8 ((x.d : Nat) : Int), .int .u8 ((x.e : Nat) : Int), .int .u8 ((x.f : Nat) : Int)]
def E6.odd (x : E6) : Bool := x.a % 2 == 1 || (x.b % 2 == 1 || (x.c % 2 == 1 || (x.d % 2 == 1 || (x.e % 2 == 1 || x.f % 2 == 1))))
def E6.ord (x y : E6) : Int := if x.key < y.key then -1 else if y.key < x.key then 1 else 0
theorem E6.key_inj {x y : E6} (hx : x.ok) (hy : y.ok) (h : x.key = y.key) : x = y := by
 obtain ⟨a, b, c, d, e, f⟩ := x
 obtain ⟨a', b', c', d', e', f'⟩ := y
 simp only [E6.ok, E6.key] at *
 have : a = a' ∧ b = b' ∧ c = c' ∧ d = d' ∧ e = e' ∧ f = f' := by omega
 simp [this]
theorem zmy (n : Nat) : (((n : Int).tmod 2) == 1) = (n % 2 == 1) := by
 rw [Int.tmod_eq_emod_of_nonneg (by omega)]
 by_cases h : n % 2 = 1
 ·have : (n : Int) % 2 = 1 := by omega
  rw [h, this]; rfl
 ·have h1 : ¬ (n : Int) % 2 = 1 := by omega
  have e1 : (n % 2 == 1) = false := by simpa using h
  have e2 : ((n : Int) % 2 == 1) = false := by simpa using h1
  rw [e1, e2]
theorem zfk (x : E6) (hx : x.ok) (n : Int) (h0 : 0 ≤ n) (h1 : n ≤ 10000) (i : Nat) (v : Nat) (hi : i < 6) (hv : za5 [((x.a : Nat) : Int), ((x.b : Nat) : Int), ((x.c : Nat) : Int), ((x.d : Nat) : Int), ((x.e : Nat) : Int), ((x.f : Nat) : Int)] (i * 1) = some ((v : Nat) : Int)) (hv2 : v < 256) :
  zp GZ LZ (CW GZ LZ) 91 none 3 (zgT n ((x.a : Nat) : Int) ((x.b : Nat) : Int) ((x.c : Nat) : Int) ((x.d : Nat) : Int) ((x.e : Nat) : Int) ((x.f : Nat) : Int) ((i : Nat) : Int)) = some (.normal, zgT (n + v) ((x.a : Nat) : Int) ((x.b : Nat) : Int) ((x.c : Nat) : Int) ((x.d : Nat) : Int) ((x.e : Nat) : Int) ((x.f : Nat) : Int) ((i + 1 : Nat) : Int)) := by
 have e1 : decide (((i : Nat) : Int) < 6) = true := by simp; omega
 have e2 : decide ((0 : Int) ≤ ((i : Nat) : Int)) = true := by simp
 have e3 : decide ((((i : Nat) : Int)).toNat < 6) = true := by simp; omega
 rw [e91_3, e1, e2, e3]
 simp only [Int.toNat_natCast, hv, cond_true, Option.bind_some]
 rw [w64 (x := (v : Int)) (by omega) (by omega), w64 (by omega) (by omega), zaV i (by omega)]
theorem ztn (x : E6) (hx : x.ok) : zal (zp GZ LZ (CW GZ LZ) 91 none 3) (zgT 0 ((x.a : Nat) : Int) ((x.b : Nat) : Int) ((x.c : Nat) : Int) ((x.d : Nat) : Int) ((x.e : Nat) : Int) ((x.f : Nat) : Int) 0) = some (.exit 0, zgT ((x.deg : Nat) : Int) ((x.a : Nat) : Int) ((x.b : Nat) : Int) ((x.c : Nat) : Int) ((x.d : Nat) : Int) ((x.e : Nat) : Int) ((x.f : Nat) : Int) 6) := by
 obtain ⟨ha, hb, hc, hd, he, hf⟩ := hx
 have hx : x.ok := ⟨ha, hb, hc, hd, he, hf⟩
 refine (zk (zfk x hx 0 (by omega) (by omega) 0 x.a (by omega) rfl ha)).trans ?_
 refine (zk (zfk x hx _ (by omega) (by omega) 1 x.b (by omega) rfl hb)).trans ?_
 refine (zk (zfk x hx _ (by omega) (by omega) 2 x.c (by omega) rfl hc)).trans ?_
 refine (zk (zfk x hx _ (by omega) (by omega) 3 x.d (by omega) rfl hd)).trans ?_
 refine (zk (zfk x hx _ (by omega) (by omega) 4 x.e (by omega) rfl he)).trans ?_
 refine (zk (zfk x hx _ (by omega) (by omega) 5 x.f (by omega) rfl hf)).trans ?_
 rw [show (0 : Int) + (x.a : Int) + (x.b : Int) + (x.c : Int) + (x.d : Int) + (x.e : Int) + (x.f : Int) = ((x.deg : Nat) : Int) by unfold E6.deg; omega]
 exact zbb (e91_3 _ _ _ _ _ _ _ _ _)
theorem p91 (x : E6) (hx : x.ok) : (CW GZ LZ).p (.func 91) [.agg [.int .u8 ((x.a : Nat) : Int), .int .u8 ((x.b : Nat) : Int), .int .u8 ((x.c : Nat) : Int), .int .u8 ((x.d : Nat) : Int), .int .u8 ((x.e : Nat) : Int), .int .u8 ((x.f : Nat) : Int)]] = some (.int .i64 ((x.deg : Nat) : Int)) := by
 refine zE (h := []) ?_ rfl
 rw [e91, zaz]
 refine (zZ (ztn x hx) _).trans ?_
 kernel_rfl
theorem zeB (x : E6) (hx : x.ok) (n : Int) (h0 : 0 ≤ n) (h1 : n ≤ 10000) (i : Nat) (v : Nat) (hi : i < 6) (hv : za5 [((x.a : Nat) : Int), ((x.b : Nat) : Int), ((x.c : Nat) : Int), ((x.d : Nat) : Int), ((x.e : Nat) : Int), ((x.f : Nat) : Int)] (i * 1) = some ((v : Nat) : Int)) (hv2 : v < 256) :
  zp GZ LZ (CW GZ LZ) 88 none 3 (zgU ((x.a : Nat) : Int) ((x.b : Nat) : Int) ((x.c : Nat) : Int) ((x.d : Nat) : Int) ((x.e : Nat) : Int) ((x.f : Nat) : Int) n ((i : Nat) : Int)) = some (.normal, zgU ((x.a : Nat) : Int) ((x.b : Nat) : Int) ((x.c : Nat) : Int) ((x.d : Nat) : Int) ((x.e : Nat) : Int) ((x.f : Nat) : Int) (n + v) ((i + 1 : Nat) : Int)) := by
 have e1 : decide (((i : Nat) : Int) < 6) = true := by simp; omega
 have e2 : decide ((0 : Int) ≤ ((i : Nat) : Int)) = true := by simp
 have e3 : decide ((((i : Nat) : Int)).toNat < 6) = true := by simp; omega
 rw [e88_3, e1, e2, e3]
 simp only [Int.toNat_natCast, hv, cond_true, Option.bind_some]
 rw [w64 (x := (v : Int)) (by omega) (by omega), w64 (by omega) (by omega), zaV i (by omega)]
theorem zrS (x : E6) (hx : x.ok) : zal (zp GZ LZ (CW GZ LZ) 88 none 3) (zgU ((x.a : Nat) : Int) ((x.b : Nat) : Int) ((x.c : Nat) : Int) ((x.d : Nat) : Int) ((x.e : Nat) : Int) ((x.f : Nat) : Int) 0 0) = some (.exit 0, zgU ((x.a : Nat) : Int) ((x.b : Nat) : Int) ((x.c : Nat) : Int) ((x.d : Nat) : Int) ((x.e : Nat) : Int) ((x.f : Nat) : Int) ((x.deg : Nat) : Int) 6) := by
 obtain ⟨ha, hb, hc, hd, he, hf⟩ := hx
 have hx : x.ok := ⟨ha, hb, hc, hd, he, hf⟩
 refine (zk (zeB x hx 0 (by omega) (by omega) 0 x.a (by omega) rfl ha)).trans ?_
 refine (zk (zeB x hx _ (by omega) (by omega) 1 x.b (by omega) rfl hb)).trans ?_
 refine (zk (zeB x hx _ (by omega) (by omega) 2 x.c (by omega) rfl hc)).trans ?_
 refine (zk (zeB x hx _ (by omega) (by omega) 3 x.d (by omega) rfl hd)).trans ?_
 refine (zk (zeB x hx _ (by omega) (by omega) 4 x.e (by omega) rfl he)).trans ?_
 refine (zk (zeB x hx _ (by omega) (by omega) 5 x.f (by omega) rfl hf)).trans ?_
 rw [show (0 : Int) + (x.a : Int) + (x.b : Int) + (x.c : Int) + (x.d : Int) + (x.e : Int) + (x.f : Int) = ((x.deg : Nat) : Int) by unfold E6.deg; omega]
 exact zbb (e88_3 _ _ _ _ _ _ _ _ _)
theorem p88 (x : E6) (hx : x.ok) : (CW GZ LZ).p (.func 88) [.agg [.int .u8 ((x.a : Nat) : Int), .int .u8 ((x.b : Nat) : Int), .int .u8 ((x.c : Nat) : Int), .int .u8 ((x.d : Nat) : Int), .int .u8 ((x.e : Nat) : Int), .int .u8 ((x.f : Nat) : Int)]] = some (.int .i64 ((x.deg : Nat) : Int)) := by
 refine zE (h := []) ?_ rfl
 rw [e88, zaz]
 refine (zZ (zrS x hx) _).trans ?_
 kernel_rfl
theorem p127 (n : Int) : (CW GZ LZ).p (.func 127) [.int .u8 n] = some (.bool false) := by
 refine zE (h := []) ?_ rfl
 simp [e127]
theorem p118 (n m : Int) : (CW GZ LZ).p (.func 118) [.int .u8 n, .int .u8 m] = some (.int .i64 (if n < m then -1 else if n > m then 1 else 0)) := by
 refine zE (h := []) ?_ rfl
 simp only [e118, p127, zs, zQ, zD, zw, zI, zP, zu, zV, zr, zC, zt, zR, z6, zaa, zY, zH, zM, zN, zW, zB, zG, zK, zL, Option.bind_some, Option.bind_none, cond_true, cond_false, zT, zU]
 by_cases h1 : n < m
 ·simp only [h1, if_true]
 ·by_cases h2 : n > m
  ·simp only [h1, h2, if_true, if_false]
  ·simp only [h1, h2, if_false]
def E6.rw (x : E6) : List (List V) := [[.int .u8 ((x.a : Nat) : Int)], [.int .u8 ((x.b : Nat) : Int)], [.int .u8 ((x.c : Nat) : Int)], [.int .u8 ((x.d : Nat) : Int)], [.int .u8 ((x.e : Nat) : Int)], [.int .u8 ((x.f : Nat) : Int)]]
theorem cmp_step (x y : E6) (z : Int) (i : Nat) (u v : Nat) (hi : i < 6) (hu : zS x.rw ((i : Nat) : Int) 1 = some [.int .u8 ((u : Nat) : Int)]) (hv : zS y.rw ((i : Nat) : Int) 1 = some [.int .u8 ((v : Nat) : Int)]) :
  zp GZ LZ (CW GZ LZ) 109 none 2 (zbi x.rw y.rw z x.rw 6 ((i : Nat) : Int)) =
   if u < v then some (.ret, zbi x.rw y.rw (-1) x.rw 6 ((i : Nat) : Int)) else if v < u then some (.ret, zbi x.rw y.rw 1 x.rw 6 ((i : Nat) : Int)) else some (.normal, zbi x.rw y.rw z x.rw 6 ((i + 1 : Nat) : Int)) := by
 have e1 : decide (((i : Nat) : Int) < 6) = true := by simp; omega
 have e2 : decide (((i : Nat) : Int) ≥ ((y.rw.length : Nat) : Int)) = false := by simp [E6.rw]; omega
 rw [e109_2, e1, e2]
 simp only [hu, hv, zs, zQ, zD, zw, zI, zP, zu, zV, zr, zC, zt, zR, z6, zaa, zY, zH, zM, zN, zW, zB, zG, zK, zL, Option.bind_some, Option.bind_none, cond_true, cond_false, zT, zU, p118, zaV i (by omega)]
 by_cases h1 : u < v
 ·have h1' : ((u : Nat) : Int) < ((v : Nat) : Int) := by omega
  simp only [h1, h1', if_true]; rfl
 ·have h1' : ¬ ((u : Nat) : Int) < ((v : Nat) : Int) := by omega
  by_cases h2 : v < u
  ·have h2' : ((u : Nat) : Int) > ((v : Nat) : Int) := by omega
   simp only [h1, h1', h2, h2', if_true, if_false]; rfl
  ·have h2' : ¬ ((u : Nat) : Int) > ((v : Nat) : Int) := by omega
   simp only [h1, h1', h2, h2', if_false]; rfl
theorem p109 (x y : E6) (hx : x.ok) (hy : y.ok) : (CW GZ LZ).p (.func 109) [.slice .any x.rw, .slice .any y.rw] = some (.int .i64 (x.ord y)) := by
 have ret : ∀ (z : Int) (k : Int), zal (zp GZ LZ (CW GZ LZ) 109 none 2) (zbi x.rw y.rw 0 x.rw 6 0) = some (.ret, zbi x.rw y.rw z x.rw 6 k) → x.ord y = z → (CW GZ LZ).p (.func 109) [.slice .any x.rw, .slice .any y.rw] = some (.int .i64 (x.ord y)) := by
  intro z k h hz
  rw [hz]
  refine zE (h := []) ?_ rfl
  rw [e109, zaz]
  refine (zZ h _).trans ?_
  kernel_rfl
 obtain ⟨a, b, c, d, e, f⟩ := x
 obtain ⟨a', b', c', d', e', f'⟩ := y
 obtain ⟨xa, xb, xc, xd, xe, xf⟩ := hx
 obtain ⟨ya, yb, yc, yd, ye, yf⟩ := hy
 simp only at xa xb xc xd xe xf ya yb yc yd ye yf
 have s0 := cmp_step ⟨a, b, c, d, e, f⟩ ⟨a', b', c', d', e', f'⟩ 0 0 a a' (by omega) rfl rfl
 have s1 := cmp_step ⟨a, b, c, d, e, f⟩ ⟨a', b', c', d', e', f'⟩ 0 1 b b' (by omega) rfl rfl
 have s2 := cmp_step ⟨a, b, c, d, e, f⟩ ⟨a', b', c', d', e', f'⟩ 0 2 c c' (by omega) rfl rfl
 have s3 := cmp_step ⟨a, b, c, d, e, f⟩ ⟨a', b', c', d', e', f'⟩ 0 3 d d' (by omega) rfl rfl
 have s4 := cmp_step ⟨a, b, c, d, e, f⟩ ⟨a', b', c', d', e', f'⟩ 0 4 e e' (by omega) rfl rfl
 have s5 := cmp_step ⟨a, b, c, d, e, f⟩ ⟨a', b', c', d', e', f'⟩ 0 5 f f' (by omega) rfl rfl
 by_cases h0 : a < a'
 ·rw [if_pos h0] at s0
  exact ret _ _ (zac s0) (by unfold E6.ord E6.key; rw [if_pos (by simp only; omega)])
 by_cases k0 : a' < a
 ·rw [if_neg h0, if_pos k0] at s0
  exact ret _ _ (zac s0) (by unfold E6.ord E6.key; rw [if_neg (by simp only; omega), if_pos (by simp only; omega)])
 rw [if_neg h0, if_neg k0] at s0
 by_cases h1 : b < b'
 ·rw [if_pos h1] at s1
  exact ret _ _ ((zk s0).trans (zac s1)) (by unfold E6.ord E6.key; rw [if_pos (by simp only; omega)])
 by_cases k1 : b' < b
 ·rw [if_neg h1, if_pos k1] at s1
  exact ret _ _ ((zk s0).trans (zac s1)) (by unfold E6.ord E6.key; rw [if_neg (by simp only; omega), if_pos (by simp only; omega)])
 rw [if_neg h1, if_neg k1] at s1
 by_cases h2 : c < c'
 ·rw [if_pos h2] at s2
  exact ret _ _ ((zk s0).trans ((zk s1).trans (zac s2))) (by unfold E6.ord E6.key; rw [if_pos (by simp only; omega)])
 by_cases k2 : c' < c
 ·rw [if_neg h2, if_pos k2] at s2
  exact ret _ _ ((zk s0).trans ((zk s1).trans (zac s2))) (by unfold E6.ord E6.key; rw [if_neg (by simp only; omega), if_pos (by simp only; omega)])
 rw [if_neg h2, if_neg k2] at s2
 by_cases h3 : d < d'
 ·rw [if_pos h3] at s3
  exact ret _ _ ((zk s0).trans ((zk s1).trans ((zk s2).trans (zac s3)))) (by unfold E6.ord E6.key; rw [if_pos (by simp only; omega)])
 by_cases k3 : d' < d
 ·rw [if_neg h3, if_pos k3] at s3
  exact ret _ _ ((zk s0).trans ((zk s1).trans ((zk s2).trans (zac s3)))) (by unfold E6.ord E6.key; rw [if_neg (by simp only; omega), if_pos (by simp only; omega)])
 rw [if_neg h3, if_neg k3] at s3
 by_cases h4 : e < e'
 ·rw [if_pos h4] at s4
  exact ret _ _ ((zk s0).trans ((zk s1).trans ((zk s2).trans ((zk s3).trans (zac s4))))) (by unfold E6.ord E6.key; rw [if_pos (by simp only; omega)])
 by_cases k4 : e' < e
 ·rw [if_neg h4, if_pos k4] at s4
  exact ret _ _ ((zk s0).trans ((zk s1).trans ((zk s2).trans ((zk s3).trans (zac s4))))) (by unfold E6.ord E6.key; rw [if_neg (by simp only; omega), if_pos (by simp only; omega)])
 rw [if_neg h4, if_neg k4] at s4
 by_cases h5 : f < f'
 ·rw [if_pos h5] at s5
  exact ret _ _ ((zk s0).trans ((zk s1).trans ((zk s2).trans ((zk s3).trans ((zk s4).trans (zac s5)))))) (by unfold E6.ord E6.key; rw [if_pos (by simp only; omega)])
 by_cases k5 : f' < f
 ·rw [if_neg h5, if_pos k5] at s5
  exact ret _ _ ((zk s0).trans ((zk s1).trans ((zk s2).trans ((zk s3).trans ((zk s4).trans (zac s5)))))) (by unfold E6.ord E6.key; rw [if_neg (by simp only; omega), if_pos (by simp only; omega)])
 rw [if_neg h5, if_neg k5] at s5
 have hz : E6.ord ⟨a, b, c, d, e, f⟩ ⟨a', b', c', d', e', f'⟩ = 0 := by unfold E6.ord E6.key; rw [if_neg (by simp only; omega), if_neg (by simp only; omega)]
 rw [hz]
 refine zE (h := []) ?_ rfl
 rw [e109, zaz]
 refine (zZ ((zk s0).trans ((zk s1).trans ((zk s2).trans ((zk s3).trans ((zk s4).trans ((zk s5).trans (zbb (e109_2 _ _ _ _ _ _ _)))))))) _).trans ?_
 kernel_rfl
theorem p92 (x y : E6) (hx : x.ok) (hy : y.ok) : (CW GZ LZ).p (.func 92) [.agg [.int .u8 ((x.a : Nat) : Int), .int .u8 ((x.b : Nat) : Int), .int .u8 ((x.c : Nat) : Int), .int .u8 ((x.d : Nat) : Int), .int .u8 ((x.e : Nat) : Int), .int .u8 ((x.f : Nat) : Int)], .agg [.int .u8 ((y.a : Nat) : Int), .int .u8 ((y.b : Nat) : Int), .int .u8 ((y.c : Nat) : Int), .int .u8 ((y.d : Nat) : Int), .int .u8 ((y.e : Nat) : Int), .int .u8 ((y.f : Nat) : Int)]] = some (.int .i64 (x.ord y)) := by
 refine zE (h := [.arr false 1 x.rw, .arr false 1 y.rw]) ?_ rfl
 rw [e92]
 refine (zZ (p109 x y hx hy) _).trans ?_
 rfl
theorem zeC (x y : E6) (z : Int) (i : Nat) (u v : Nat) (hi : i < 6) (hu : za5 [((x.a : Nat) : Int), ((x.b : Nat) : Int), ((x.c : Nat) : Int), ((x.d : Nat) : Int), ((x.e : Nat) : Int), ((x.f : Nat) : Int)] (i * 1) = some ((u : Nat) : Int)) (hv : za5 [((y.a : Nat) : Int), ((y.b : Nat) : Int), ((y.c : Nat) : Int), ((y.d : Nat) : Int), ((y.e : Nat) : Int), ((y.f : Nat) : Int)] (i * 1) = some ((v : Nat) : Int)) :
  zp GZ LZ (CW GZ LZ) 93 none 2 (zep ((x.a : Nat) : Int) ((x.b : Nat) : Int) ((x.c : Nat) : Int) ((x.d : Nat) : Int) ((x.e : Nat) : Int) ((x.f : Nat) : Int) ((y.a : Nat) : Int) ((y.b : Nat) : Int) ((y.c : Nat) : Int) ((y.d : Nat) : Int) ((y.e : Nat) : Int) ((y.f : Nat) : Int) z ((i : Nat) : Int)) =
   if u < v then some (.ret, zep ((x.a : Nat) : Int) ((x.b : Nat) : Int) ((x.c : Nat) : Int) ((x.d : Nat) : Int) ((x.e : Nat) : Int) ((x.f : Nat) : Int) ((y.a : Nat) : Int) ((y.b : Nat) : Int) ((y.c : Nat) : Int) ((y.d : Nat) : Int) ((y.e : Nat) : Int) ((y.f : Nat) : Int) (-1) ((i : Nat) : Int)) else if v < u then some (.ret, zep ((x.a : Nat) : Int) ((x.b : Nat) : Int) ((x.c : Nat) : Int) ((x.d : Nat) : Int) ((x.e : Nat) : Int) ((x.f : Nat) : Int) ((y.a : Nat) : Int) ((y.b : Nat) : Int) ((y.c : Nat) : Int) ((y.d : Nat) : Int) ((y.e : Nat) : Int) ((y.f : Nat) : Int) 1 ((i : Nat) : Int)) else some (.normal, zep ((x.a : Nat) : Int) ((x.b : Nat) : Int) ((x.c : Nat) : Int) ((x.d : Nat) : Int) ((x.e : Nat) : Int) ((x.f : Nat) : Int) ((y.a : Nat) : Int) ((y.b : Nat) : Int) ((y.c : Nat) : Int) ((y.d : Nat) : Int) ((y.e : Nat) : Int) ((y.f : Nat) : Int) z ((i + 1 : Nat) : Int)) := by
 have e1 : decide (((i : Nat) : Int) < 6) = true := by simp; omega
 have e2 : decide ((0 : Int) ≤ ((i : Nat) : Int)) = true := by simp
 have e3 : decide ((((i : Nat) : Int)).toNat < 6) = true := by simp; omega
 rw [e93_2, e1, e2, e3]
 simp only [Int.toNat_natCast, hu, hv, zs, zQ, zD, zw, zI, zP, zu, zV, zr, zC, zt, zR, z6, zaa, zY, zH, zM, zN, zW, zB, zG, zK, zL, Option.bind_some, Option.bind_none, cond_true, cond_false, zT, zU, zaV i (by omega)]
 by_cases h1 : u < v
 ·have h1' : ((u : Nat) : Int) < ((v : Nat) : Int) := by omega
  simp only [h1, h1', if_true]
 ·have h1' : ¬ ((u : Nat) : Int) < ((v : Nat) : Int) := by omega
  by_cases h2 : v < u
  ·have h2' : ((u : Nat) : Int) > ((v : Nat) : Int) := by omega
   simp only [h1, h1', h2, h2', if_true, if_false]
  ·have h2' : ¬ ((u : Nat) : Int) > ((v : Nat) : Int) := by omega
   simp only [h1, h1', h2, h2', if_false]
theorem p93 (x y : E6) (hx : x.ok) (hy : y.ok) : (CW GZ LZ).p (.func 93) [.agg [.int .u8 ((x.a : Nat) : Int), .int .u8 ((x.b : Nat) : Int), .int .u8 ((x.c : Nat) : Int), .int .u8 ((x.d : Nat) : Int), .int .u8 ((x.e : Nat) : Int), .int .u8 ((x.f : Nat) : Int)], .agg [.int .u8 ((y.a : Nat) : Int), .int .u8 ((y.b : Nat) : Int), .int .u8 ((y.c : Nat) : Int), .int .u8 ((y.d : Nat) : Int), .int .u8 ((y.e : Nat) : Int), .int .u8 ((y.f : Nat) : Int)]] = some (.int .i64 (x.ord y)) := by
 have ret : ∀ (z : Int) (k : Int), zal (zp GZ LZ (CW GZ LZ) 93 none 2) (zep ((x.a : Nat) : Int) ((x.b : Nat) : Int) ((x.c : Nat) : Int) ((x.d : Nat) : Int) ((x.e : Nat) : Int) ((x.f : Nat) : Int) ((y.a : Nat) : Int) ((y.b : Nat) : Int) ((y.c : Nat) : Int) ((y.d : Nat) : Int) ((y.e : Nat) : Int) ((y.f : Nat) : Int) 0 0) = some (.ret, zep ((x.a : Nat) : Int) ((x.b : Nat) : Int) ((x.c : Nat) : Int) ((x.d : Nat) : Int) ((x.e : Nat) : Int) ((x.f : Nat) : Int) ((y.a : Nat) : Int) ((y.b : Nat) : Int) ((y.c : Nat) : Int) ((y.d : Nat) : Int) ((y.e : Nat) : Int) ((y.f : Nat) : Int) z k) → x.ord y = z → (CW GZ LZ).p (.func 93) [.agg [.int .u8 ((x.a : Nat) : Int), .int .u8 ((x.b : Nat) : Int), .int .u8 ((x.c : Nat) : Int), .int .u8 ((x.d : Nat) : Int), .int .u8 ((x.e : Nat) : Int), .int .u8 ((x.f : Nat) : Int)], .agg [.int .u8 ((y.a : Nat) : Int), .int .u8 ((y.b : Nat) : Int), .int .u8 ((y.c : Nat) : Int), .int .u8 ((y.d : Nat) : Int), .int .u8 ((y.e : Nat) : Int), .int .u8 ((y.f : Nat) : Int)]] = some (.int .i64 (x.ord y)) := by
  intro z k h hz
  rw [hz]
  refine zE (h := []) ?_ rfl
  rw [e93, zaz]
  refine (zZ h _).trans ?_
  kernel_rfl
 obtain ⟨a, b, c, d, e, f⟩ := x
 obtain ⟨a', b', c', d', e', f'⟩ := y
 obtain ⟨xa, xb, xc, xd, xe, xf⟩ := hx
 obtain ⟨ya, yb, yc, yd, ye, yf⟩ := hy
 simp only at xa xb xc xd xe xf ya yb yc yd ye yf
 have s0 := zeC ⟨a, b, c, d, e, f⟩ ⟨a', b', c', d', e', f'⟩ 0 0 a a' (by omega) rfl rfl
 have s1 := zeC ⟨a, b, c, d, e, f⟩ ⟨a', b', c', d', e', f'⟩ 0 1 b b' (by omega) rfl rfl
 have s2 := zeC ⟨a, b, c, d, e, f⟩ ⟨a', b', c', d', e', f'⟩ 0 2 c c' (by omega) rfl rfl
 have s3 := zeC ⟨a, b, c, d, e, f⟩ ⟨a', b', c', d', e', f'⟩ 0 3 d d' (by omega) rfl rfl
 have s4 := zeC ⟨a, b, c, d, e, f⟩ ⟨a', b', c', d', e', f'⟩ 0 4 e e' (by omega) rfl rfl
 have s5 := zeC ⟨a, b, c, d, e, f⟩ ⟨a', b', c', d', e', f'⟩ 0 5 f f' (by omega) rfl rfl
 by_cases h0 : a < a'
 ·rw [if_pos h0] at s0
  exact ret _ _ (zac s0) (by unfold E6.ord E6.key; rw [if_pos (by simp only; omega)])
 by_cases k0 : a' < a
 ·rw [if_neg h0, if_pos k0] at s0
  exact ret _ _ (zac s0) (by unfold E6.ord E6.key; rw [if_neg (by simp only; omega), if_pos (by simp only; omega)])
 rw [if_neg h0, if_neg k0] at s0
 by_cases h1 : b < b'
 ·rw [if_pos h1] at s1
  exact ret _ _ ((zk s0).trans (zac s1)) (by unfold E6.ord E6.key; rw [if_pos (by simp only; omega)])
 by_cases k1 : b' < b
 ·rw [if_neg h1, if_pos k1] at s1
  exact ret _ _ ((zk s0).trans (zac s1)) (by unfold E6.ord E6.key; rw [if_neg (by simp only; omega), if_pos (by simp only; omega)])
 rw [if_neg h1, if_neg k1] at s1
 by_cases h2 : c < c'
 ·rw [if_pos h2] at s2
  exact ret _ _ ((zk s0).trans ((zk s1).trans (zac s2))) (by unfold E6.ord E6.key; rw [if_pos (by simp only; omega)])
 by_cases k2 : c' < c
 ·rw [if_neg h2, if_pos k2] at s2
  exact ret _ _ ((zk s0).trans ((zk s1).trans (zac s2))) (by unfold E6.ord E6.key; rw [if_neg (by simp only; omega), if_pos (by simp only; omega)])
 rw [if_neg h2, if_neg k2] at s2
 by_cases h3 : d < d'
 ·rw [if_pos h3] at s3
  exact ret _ _ ((zk s0).trans ((zk s1).trans ((zk s2).trans (zac s3)))) (by unfold E6.ord E6.key; rw [if_pos (by simp only; omega)])
 by_cases k3 : d' < d
 ·rw [if_neg h3, if_pos k3] at s3
  exact ret _ _ ((zk s0).trans ((zk s1).trans ((zk s2).trans (zac s3)))) (by unfold E6.ord E6.key; rw [if_neg (by simp only; omega), if_pos (by simp only; omega)])
 rw [if_neg h3, if_neg k3] at s3
 by_cases h4 : e < e'
 ·rw [if_pos h4] at s4
  exact ret _ _ ((zk s0).trans ((zk s1).trans ((zk s2).trans ((zk s3).trans (zac s4))))) (by unfold E6.ord E6.key; rw [if_pos (by simp only; omega)])
 by_cases k4 : e' < e
 ·rw [if_neg h4, if_pos k4] at s4
  exact ret _ _ ((zk s0).trans ((zk s1).trans ((zk s2).trans ((zk s3).trans (zac s4))))) (by unfold E6.ord E6.key; rw [if_neg (by simp only; omega), if_pos (by simp only; omega)])
 rw [if_neg h4, if_neg k4] at s4
 by_cases h5 : f < f'
 ·rw [if_pos h5] at s5
  exact ret _ _ ((zk s0).trans ((zk s1).trans ((zk s2).trans ((zk s3).trans ((zk s4).trans (zac s5)))))) (by unfold E6.ord E6.key; rw [if_pos (by simp only; omega)])
 by_cases k5 : f' < f
 ·rw [if_neg h5, if_pos k5] at s5
  exact ret _ _ ((zk s0).trans ((zk s1).trans ((zk s2).trans ((zk s3).trans ((zk s4).trans (zac s5)))))) (by unfold E6.ord E6.key; rw [if_neg (by simp only; omega), if_pos (by simp only; omega)])
 rw [if_neg h5, if_neg k5] at s5
 have hz : E6.ord ⟨a, b, c, d, e, f⟩ ⟨a', b', c', d', e', f'⟩ = 0 := by unfold E6.ord E6.key; rw [if_neg (by simp only; omega), if_neg (by simp only; omega)]
 rw [hz]
 refine zE (h := []) ?_ rfl
 rw [e93, zaz]
 refine (zZ ((zk s0).trans ((zk s1).trans ((zk s2).trans ((zk s3).trans ((zk s4).trans ((zk s5).trans (zbb (e93_2 _ _ _ _ _ _ _ _ _ _ _ _ _ _ _)))))))) _).trans ?_
 kernel_rfl
theorem p122 (n : Nat) : (CW GZ LZ).p (.func 122) [.int .u8 ((n : Nat) : Int)] = some (.bool (n % 2 == 1)) := by
 refine zE (h := []) ?_ rfl
 rw [e122, zmy]
theorem zfl (x : E6) (z : Int) (i : Nat) (u : Nat) (hi : i < 6) (hu : zS x.rw ((i : Nat) : Int) 1 = some [.int .u8 ((u : Nat) : Int)]) :
  zp GZ LZ (CW GZ LZ) 128 none 2 (zbB x.rw z 6 ((i : Nat) : Int)) =
   if u % 2 = 1 then some (.ret, zbB x.rw ((i : Nat) : Int) 6 ((i : Nat) : Int)) else some (.normal, zbB x.rw z 6 ((i + 1 : Nat) : Int)) := by
 have e1 : decide (((i : Nat) : Int) < 6) = true := by simp; omega
 rw [ziO, e1]
 simp only [hu, zs, zQ, zD, zw, zI, zP, zu, zV, zr, zC, zt, zR, z6, zaa, zY, zH, zM, zN, zW, zB, zG, zK, zL, Option.bind_some, Option.bind_none, cond_true, cond_false, zT, zU, p122, zaV i (by omega)]
 by_cases h1 : u % 2 = 1
 ·simp [h1]
 ·have e2 : (u % 2 == 1) = false := by simpa using h1
  simp [h1, e2]
theorem p111 (x : E6) : (CW GZ LZ).p (.func 111) [.agg [.int .u8 ((x.a : Nat) : Int), .int .u8 ((x.b : Nat) : Int), .int .u8 ((x.c : Nat) : Int), .int .u8 ((x.d : Nat) : Int), .int .u8 ((x.e : Nat) : Int), .int .u8 ((x.f : Nat) : Int)]] = some (.bool x.odd) := by
 have key : ∀ (r : Int), (CW GZ LZ).p (.func 128) [.slice .any x.rw, .fn (.func 122) [] []] = some (.int .i64 r) → decide (r ≥ 0) = x.odd → (CW GZ LZ).p (.func 111) [.agg [.int .u8 ((x.a : Nat) : Int), .int .u8 ((x.b : Nat) : Int), .int .u8 ((x.c : Nat) : Int), .int .u8 ((x.d : Nat) : Int), .int .u8 ((x.e : Nat) : Int), .int .u8 ((x.f : Nat) : Int)]] = some (.bool x.odd) := by
  intro r h hr
  have h2 : (CW GZ LZ).p (.func 121) [.slice .any x.rw, .fn (.func 122) [] []] = some (.bool x.odd) := by
   refine zE (h := []) ?_ rfl
   rw [p121, h, ← hr]
   rfl
  refine zE (h := [.arr false 1 x.rw]) ?_ rfl
  rw [e111]
  refine (zZ h2 _).trans ?_
  rfl
 have ret : ∀ (z k : Int), zal (zp GZ LZ (CW GZ LZ) 128 none 2) (zbB x.rw 0 6 0) = some (.ret, zbB x.rw z 6 k) → decide (z ≥ 0) = x.odd → (CW GZ LZ).p (.func 111) [.agg [.int .u8 ((x.a : Nat) : Int), .int .u8 ((x.b : Nat) : Int), .int .u8 ((x.c : Nat) : Int), .int .u8 ((x.d : Nat) : Int), .int .u8 ((x.e : Nat) : Int), .int .u8 ((x.f : Nat) : Int)]] = some (.bool x.odd) := by
  intro z k h hz
  refine key z ?_ hz
  refine zE (h := []) ?_ rfl
  rw [p128, zaz]
  refine (zZ h _).trans ?_
  kernel_rfl
 have s0 := zfl x 0 0 x.a (by omega) rfl
 have s1 := zfl x 0 1 x.b (by omega) rfl
 have s2 := zfl x 0 2 x.c (by omega) rfl
 have s3 := zfl x 0 3 x.d (by omega) rfl
 have s4 := zfl x 0 4 x.e (by omega) rfl
 have s5 := zfl x 0 5 x.f (by omega) rfl
 by_cases h0 : x.a % 2 = 1
 ·rw [if_pos h0] at s0
  exact ret _ _ (zac s0) (by unfold E6.odd; simp [h0])
 rw [if_neg h0] at s0
 by_cases h1 : x.b % 2 = 1
 ·rw [if_pos h1] at s1
  exact ret _ _ ((zk s0).trans (zac s1)) (by unfold E6.odd; simp [h0, h1])
 rw [if_neg h1] at s1
 by_cases h2 : x.c % 2 = 1
 ·rw [if_pos h2] at s2
  exact ret _ _ ((zk s0).trans ((zk s1).trans (zac s2))) (by unfold E6.odd; simp [h0, h1, h2])
 rw [if_neg h2] at s2
 by_cases h3 : x.d % 2 = 1
 ·rw [if_pos h3] at s3
  exact ret _ _ ((zk s0).trans ((zk s1).trans ((zk s2).trans (zac s3)))) (by unfold E6.odd; simp [h0, h1, h2, h3])
 rw [if_neg h3] at s3
 by_cases h4 : x.e % 2 = 1
 ·rw [if_pos h4] at s4
  exact ret _ _ ((zk s0).trans ((zk s1).trans ((zk s2).trans ((zk s3).trans (zac s4))))) (by unfold E6.odd; simp [h0, h1, h2, h3, h4])
 rw [if_neg h4] at s4
 by_cases h5 : x.f % 2 = 1
 ·rw [if_pos h5] at s5
  exact ret _ _ ((zk s0).trans ((zk s1).trans ((zk s2).trans ((zk s3).trans ((zk s4).trans (zac s5)))))) (by unfold E6.odd; simp [h0, h1, h2, h3, h4, h5])
 rw [if_neg h5] at s5
 refine key (-1) ?_ (by unfold E6.odd; simp [h0, h1, h2, h3, h4, h5])
 refine zE (h := []) ?_ rfl
 rw [p128, zaz]
 refine (zZ ((zk s0).trans ((zk s1).trans ((zk s2).trans ((zk s3).trans ((zk s4).trans ((zk s5).trans (zbb (ziO _ _ _ _ _)))))))) _).trans ?_
 kernel_rfl
end Go.Ab
namespace Go.Ab
structure Tm where
 c : Int
 e : E6
deriving DecidableEq
def Tm.cs (t : Tm) : List V := .int .i64 t.c :: t.e.cs
theorem Tm.cs_len (t : Tm) : t.cs.length = 7 := rfl
theorem zam (t : Tm) : zg t.cs = some (.int .i64 t.c, t.e.cs) := rfl
theorem zan (x : E6) : zg x.cs = some (.int .u8 ((x.a : Nat) : Int), [.int .u8 ((x.b : Nat) : Int), .int .u8 ((x.c : Nat) : Int), .int .u8 ((x.d : Nat) : Int), .int .u8 ((x.e : Nat) : Int), .int .u8 ((x.f : Nat) : Int)]) := rfl
theorem zbe (p : List Tm) (i : Nat) (hi : i < p.length) : zS (p.map Tm.cs) ((i : Nat) : Int) 7 = some p[i].cs := zdm Tm.cs Tm.cs_len p i hi
def Tm.ok (t : Tm) : Prop := t.e.ok
def oks (p : List Tm) : Prop := ∀ t ∈ p, t.e.ok
def few (p : List Tm) : Prop := p.length ≤ 100000
theorem zrT (x : E6) : ((((x.a : Nat) : Int) == 0) && ((((x.b : Nat) : Int) == 0) && ((((x.c : Nat) : Int) == 0) && ((((x.d : Nat) : Int) == 0) && ((((x.e : Nat) : Int) == 0) && ((((x.f : Nat) : Int) == 0) && true)))))) = decide (x.deg = 0) := by
 have h : ∀ n : Nat, (((n : Nat) : Int) == 0) = decide (n = 0) := fun n => by cases n <;> rfl
 simp only [h, Bool.and_true]
 rw [Bool.eq_iff_iff]
 simp only [Bool.and_eq_true, decide_eq_true_eq]
 unfold E6.deg
 constructor
 ·rintro ⟨h1, h2, h3, h4, h5, h6⟩; omega
 ·intro h1; omega
def rng (t : Tm) : Int × Int := if t.e.deg = 0 then (t.c, t.c) else if t.e.odd then (min t.c (-t.c), max t.c (-t.c)) else (min t.c 0, max t.c 0)
theorem zlo (t : Tm) {b : Int} (h1 : -b ≤ t.c) (h2 : t.c ≤ b) : -b ≤ (rng t).1 ∧ (rng t).1 ≤ b ∧ -b ≤ (rng t).2 ∧ (rng t).2 ≤ b ∧ (rng t).1 ≤ (rng t).2 := by
 unfold rng
 split
 ·simp only; omega
 ·split <;> simp only <;> omega
theorem zpx {lo hi c : Int} (x : E6) (h1 : zz c) (h2 : -1000000000000000 ≤ lo) (h3 : lo ≤ 1000000000000000) (h4 : -1000000000000000 ≤ hi) (h5 : hi ≤ 1000000000000000) :
  (IntKind.wrap .i64 (lo + c) = lo + c ∧ IntKind.wrap .i64 (hi + c) = hi + c) ∧ IntKind.wrap .i64 (0 - c) = -c ∧
   (IntKind.wrap .i64 (lo - (if -c > c then -c else c)) = lo + min c (-c) ∧ IntKind.wrap .i64 (hi + (if -c > c then -c else c)) = hi + max c (-c)) ∧
    (IntKind.wrap .i64 (lo + (if 0 < c then 0 else c)) = lo + min c 0 ∧ IntKind.wrap .i64 (hi + (if 0 > c then 0 else c)) = hi + max c 0) := by
 simp only [zz] at h1
 refine ⟨⟨w64 (by omega) (by omega), w64 (by omega) (by omega)⟩, (w64 (by omega) (by omega)).trans (by omega), ⟨?_, ?_⟩, ?_, ?_⟩ <;>
  (rw [w64 (by split <;> omega) (by split <;> omega)]; split <;> omega)
theorem zrU {lo hi c : Int} (x : E6) (r : List (List V)) (h1 : zz c) (h2 : -1000000000000000 ≤ lo) (h3 : lo ≤ 1000000000000000) (h4 : -1000000000000000 ≤ hi) (h5 : hi ≤ 1000000000000000) :
  (CW GZ LZ).s (.func 102) [.ptr 0 0, .int .i64 c, .agg [.int .u8 ((x.a : Nat) : Int), .int .u8 ((x.b : Nat) : Int), .int .u8 ((x.c : Nat) : Int), .int .u8 ((x.d : Nat) : Int), .int .u8 ((x.e : Nat) : Int), .int .u8 ((x.f : Nat) : Int)]] [.cells [.int .i64 lo, .int .i64 hi], .arr true 7 r] = some (.tuple [], [.cells [.int .i64 (lo + (rng ⟨c, x⟩).1), .int .i64 (hi + (rng ⟨c, x⟩).2)], .arr true 7 r]) := by
 obtain ⟨⟨a1, a2⟩, a3, ⟨a4, a5⟩, a6, a7⟩ := zpx x h1 h2 h3 h4 h5
 refine zed ?_
 rw [zrP, zrT]
 simp only [p111, zs, zQ, zD, zw, zI, zP, zu, zV, zr, zC, zt, zR, z6, zaa, zY, zH, zM, zN, zW, zB, zG, zK, zL, Option.bind_some, Option.bind_none, cond_true, cond_false, zT, zU, a1, a2, a3, a4, a5, a6, a7, rng]
 by_cases g1 : x.deg = 0
 ·simp only [g1, if_true]
 ·cases g2 : x.odd <;> simp [g1]
theorem zrV {lo hi c : Int} (x : E6) (h1 : zz c) (h2 : -1000000000000000 ≤ lo) (h3 : lo ≤ 1000000000000000) (h4 : -1000000000000000 ≤ hi) (h5 : hi ≤ 1000000000000000) :
  (CW GZ LZ).s (.func 102) [.ptr 0 0, .int .i64 c, .agg [.int .u8 ((x.a : Nat) : Int), .int .u8 ((x.b : Nat) : Int), .int .u8 ((x.c : Nat) : Int), .int .u8 ((x.d : Nat) : Int), .int .u8 ((x.e : Nat) : Int), .int .u8 ((x.f : Nat) : Int)]] [.cells [.int .i64 lo, .int .i64 hi]] = some (.tuple [], [.cells [.int .i64 (lo + (rng ⟨c, x⟩).1), .int .i64 (hi + (rng ⟨c, x⟩).2)]]) := by
 obtain ⟨⟨a1, a2⟩, a3, ⟨a4, a5⟩, a6, a7⟩ := zpx x h1 h2 h3 h4 h5
 refine zed ?_
 rw [zrM, zrT]
 simp only [p111, zs, zQ, zD, zw, zI, zP, zu, zV, zr, zC, zt, zR, z6, zaa, zY, zH, zM, zN, zW, zB, zG, zK, zL, Option.bind_some, Option.bind_none, cond_true, cond_false, zT, zU, a1, a2, a3, a4, a5, a6, a7, rng]
 by_cases g1 : x.deg = 0
 ·simp only [g1, if_true]
 ·cases g2 : x.odd <;> simp [g1]
theorem zeD (c z w : Int) (x : E6) (h1 : zz c) (i : Nat) (u : Nat) (hi : i < 6) (hu : za5 [((x.a : Nat) : Int), ((x.b : Nat) : Int), ((x.c : Nat) : Int), ((x.d : Nat) : Int), ((x.e : Nat) : Int), ((x.f : Nat) : Int)] (i * 1) = some ((u : Nat) : Int)) :
  zp GZ LZ (CW GZ LZ) 104 none 4 (zeh c ((x.a : Nat) : Int) ((x.b : Nat) : Int) ((x.c : Nat) : Int) ((x.d : Nat) : Int) ((x.e : Nat) : Int) ((x.f : Nat) : Int) z w ((i : Nat) : Int)) =
   if u % 2 = 1 then some (.ret, zeh c ((x.a : Nat) : Int) ((x.b : Nat) : Int) ((x.c : Nat) : Int) ((x.d : Nat) : Int) ((x.e : Nat) : Int) ((x.f : Nat) : Int) (min c (-c)) (max c (-c)) ((i : Nat) : Int)) else some (.normal, zeh c ((x.a : Nat) : Int) ((x.b : Nat) : Int) ((x.c : Nat) : Int) ((x.d : Nat) : Int) ((x.e : Nat) : Int) ((x.f : Nat) : Int) z w ((i + 1 : Nat) : Int)) := by
 have e1 : decide (((i : Nat) : Int) < 6) = true := by simp; omega
 have e2 : decide ((0 : Int) ≤ ((i : Nat) : Int)) = true := by simp
 have e3 : decide ((((i : Nat) : Int)).toNat < 6) = true := by simp; omega
 simp only [zz] at h1
 have e4 : IntKind.wrap .i64 (0 - c) = -c := (w64 (by omega) (by omega)).trans (by omega)
 have e5 : (if -c < c then -c else c) = min c (-c) := by split <;> omega
 have e6 : (if -c > c then -c else c) = max c (-c) := by split <;> omega
 rw [zrQ, e1, e2, e3]
 simp only [Int.toNat_natCast, hu, zs, zQ, zD, zw, zI, zP, zu, zV, zr, zC, zt, zR, z6, zaa, zY, zH, zM, zN, zW, zB, zG, zK, zL, Option.bind_some, Option.bind_none, cond_true, cond_false, zT, zU, zaV i (by omega), zmy, e4, e5, e6]
 by_cases h1 : u % 2 = 1
 ·simp [h1]
 ·have e2 : (u % 2 == 1) = false := by simpa using h1
  simp [h1, e2]
theorem p104 (t : Tm) (hc : zz t.c) (hx : t.e.ok) : (CW GZ LZ).p (.func 104) [.int .i64 t.c, .agg [.int .u8 ((t.e.a : Nat) : Int), .int .u8 ((t.e.b : Nat) : Int), .int .u8 ((t.e.c : Nat) : Int), .int .u8 ((t.e.d : Nat) : Int), .int .u8 ((t.e.e : Nat) : Int), .int .u8 ((t.e.f : Nat) : Int)]] = some (.tuple [.int .i64 (rng t).1, .int .i64 (rng t).2]) := by
 have e0 : ((((t.e.deg : Nat) : Int)) == 0) = decide (t.e.deg = 0) := by rw [Bool.eq_iff_iff]; simp
 by_cases hd : t.e.deg = 0
 ·have e0'' : ((((t.e.deg : Nat) : Int)) == 0) = true := by rw [e0]; simpa using hd
  have : rng t = (t.c, t.c) := by unfold rng; rw [if_pos hd]
  rw [this]
  refine zE (h := []) ?_ rfl
  simp only [e104, p88 _ hx, zs, Option.bind_some, e0'', cond_true]
 have e0' : ((((t.e.deg : Nat) : Int)) == 0) = false := by rw [e0]; simpa using hd
 have ret : ∀ (k : Int), zal (zp GZ LZ (CW GZ LZ) 104 none 4) (zeh t.c ((t.e.a : Nat) : Int) ((t.e.b : Nat) : Int) ((t.e.c : Nat) : Int) ((t.e.d : Nat) : Int) ((t.e.e : Nat) : Int) ((t.e.f : Nat) : Int) 0 0 0) = some (.ret, zeh t.c ((t.e.a : Nat) : Int) ((t.e.b : Nat) : Int) ((t.e.c : Nat) : Int) ((t.e.d : Nat) : Int) ((t.e.e : Nat) : Int) ((t.e.f : Nat) : Int) (min t.c (-t.c)) (max t.c (-t.c)) k) → t.e.odd = true → (CW GZ LZ).p (.func 104) [.int .i64 t.c, .agg [.int .u8 ((t.e.a : Nat) : Int), .int .u8 ((t.e.b : Nat) : Int), .int .u8 ((t.e.c : Nat) : Int), .int .u8 ((t.e.d : Nat) : Int), .int .u8 ((t.e.e : Nat) : Int), .int .u8 ((t.e.f : Nat) : Int)]] = some (.tuple [.int .i64 (rng t).1, .int .i64 (rng t).2]) := by
  intro k h ho
  have : rng t = (min t.c (-t.c), max t.c (-t.c)) := by unfold rng; rw [if_neg hd, if_pos ho]
  rw [this]
  refine zE (h := []) ?_ rfl
  simp only [e104, p88 _ hx, zs, Option.bind_some, e0', zaz, cond_false]
  refine (zZ h _).trans ?_
  kernel_rfl
 have s0 := zeD t.c 0 0 t.e hc 0 t.e.a (by omega) rfl
 have s1 := zeD t.c 0 0 t.e hc 1 t.e.b (by omega) rfl
 have s2 := zeD t.c 0 0 t.e hc 2 t.e.c (by omega) rfl
 have s3 := zeD t.c 0 0 t.e hc 3 t.e.d (by omega) rfl
 have s4 := zeD t.c 0 0 t.e hc 4 t.e.e (by omega) rfl
 have s5 := zeD t.c 0 0 t.e hc 5 t.e.f (by omega) rfl
 by_cases h0 : t.e.a % 2 = 1
 ·rw [if_pos h0] at s0
  exact ret _ (zac s0) (by unfold E6.odd; simp [h0])
 rw [if_neg h0] at s0
 by_cases h1 : t.e.b % 2 = 1
 ·rw [if_pos h1] at s1
  exact ret _ ((zk s0).trans (zac s1)) (by unfold E6.odd; simp [h1])
 rw [if_neg h1] at s1
 by_cases h2 : t.e.c % 2 = 1
 ·rw [if_pos h2] at s2
  exact ret _ ((zk s0).trans ((zk s1).trans (zac s2))) (by unfold E6.odd; simp [h2])
 rw [if_neg h2] at s2
 by_cases h3 : t.e.d % 2 = 1
 ·rw [if_pos h3] at s3
  exact ret _ ((zk s0).trans ((zk s1).trans ((zk s2).trans (zac s3)))) (by unfold E6.odd; simp [h3])
 rw [if_neg h3] at s3
 by_cases h4 : t.e.e % 2 = 1
 ·rw [if_pos h4] at s4
  exact ret _ ((zk s0).trans ((zk s1).trans ((zk s2).trans ((zk s3).trans (zac s4))))) (by unfold E6.odd; simp [h4])
 rw [if_neg h4] at s4
 by_cases h5 : t.e.f % 2 = 1
 ·rw [if_pos h5] at s5
  exact ret _ ((zk s0).trans ((zk s1).trans ((zk s2).trans ((zk s3).trans ((zk s4).trans (zac s5)))))) (by unfold E6.odd; simp [h5])
 rw [if_neg h5] at s5
 have ho : t.e.odd = false := by unfold E6.odd; simp [h0, h1, h2, h3, h4, h5]
 have : rng t = (if 0 < t.c then 0 else t.c, if 0 > t.c then 0 else t.c) := by
  unfold rng
  rw [if_neg hd, ho]
  simp only [Bool.false_eq_true, if_false, Prod.mk.injEq]
  constructor <;> split <;> omega
 rw [this]
 refine zE (h := []) ?_ rfl
 simp only [e104, p88 _ hx, zs, Option.bind_some, e0', zaz, cond_false]
 refine (zZ ((zk s0).trans ((zk s1).trans ((zk s2).trans ((zk s3).trans ((zk s4).trans ((zk s5).trans (zbb (zrQ _ _ _ _ _ _ _ _ _ _ _)))))))) _).trans ?_
 kernel_rfl
end Go.Ab
namespace Go.Ab
def za0 : List Int → Int
 | [] => 0
 | x :: l => x + za0 l
theorem zc0 (a b : List Int) : za0 (a ++ b) = za0 a + za0 b := by
 induction a with
 | nil => simp [za0]
 | cons x a ih => simp only [List.cons_append, za0, ih]; omega
theorem zoa {b : Int} : ∀ (l : List Int), (∀ x ∈ l, -b ≤ x ∧ x ≤ b) → -(b * l.length) ≤ za0 l ∧ za0 l ≤ b * l.length
 | [], _ => by simp [za0]
 | x :: l, h => by
  have h1 := h x (by simp)
  have h2 := zoa l (fun y hy => h y (by simp [hy]))
  simp only [za0, List.length_cons, Int.natCast_add, Int.mul_add, Int.natCast_one, Int.mul_one]
  generalize b * (l.length : Int) = z at *
  omega
def los (p : List Tm) : Int := za0 (p.map fun t => (rng t).1)
def his (p : List Tm) : Int := za0 (p.map fun t => (rng t).2)
def kp (most : Int) (t : Tm) : Bool := decide (t.c ≠ 0 ∧ ((t.e.deg : Nat) : Int) ≤ min most 6)
def dp (most : Int) (t : Tm) : Bool := decide (t.c ≠ 0 ∧ ¬ ((t.e.deg : Nat) : Int) ≤ min most 6)
def zbf (p : List Tm) : Prop := ∀ t ∈ p, zz t.c
def zfx (p : List Tm) : Bool := p.all fun t => decide (zz t.c)
theorem zdM {p : List Tm} : zfx p = true ↔ zbf p := by simp [zfx, zbf]
def zar (p : List Tm) (most lo hi : Int) : List Tm × Iv :=
 if zfx p = true ∧ (p.filter (kp most)).length ≤ 100 ∧ (Iv.new (lo + los (p.filter (dp most))) (hi + his (p.filter (dp most)))).isW = false then
  (p.filter (kp most), Iv.new (lo + los (p.filter (dp most))) (hi + his (p.filter (dp most)))) else ([], Iv.whole)
theorem los_b {p : List Tm} (h : zbf p) : -(2147483648 * (p.length : Int)) ≤ los p ∧ los p ≤ 2147483648 * (p.length : Int) := by
 have := zoa (b := 2147483648) (p.map fun t => (rng t).1) (fun x hx => by
  obtain ⟨t, ht, rfl⟩ := List.mem_map.1 hx
  have h1 := h t ht
  simp only [zz] at h1
  have := zlo t (b := 2147483648) (by omega) (by omega)
  omega)
 simpa [los] using this
theorem his_b {p : List Tm} (h : zbf p) : -(2147483648 * (p.length : Int)) ≤ his p ∧ his p ≤ 2147483648 * (p.length : Int) := by
 have := zoa (b := 2147483648) (p.map fun t => (rng t).2) (fun x hx => by
  obtain ⟨t, ht, rfl⟩ := List.mem_map.1 hx
  have h1 := h t ht
  simp only [zz] at h1
  have := zlo t (b := 2147483648) (by omega) (by omega)
  omega)
 simpa [his] using this
theorem zh2 (p : List Tm) (t : Tm) : los (p ++ [t]) = los p + (rng t).1 := by simp [los, zc0, za0]
theorem zh3 (p : List Tm) (t : Tm) : his (p ++ [t]) = his p + (rng t).2 := by simp [his, zc0, za0]
theorem zob {p q : List Tm} (h : zbf p) (hs : ∀ t ∈ q, t ∈ p) : zbf q := fun t ht => h t (hs t ht)
theorem p90 (a : Int) : (CW GZ LZ).p (.func 90) [.int .i64 a] = some (.bool (decide (zz a))) := by
 refine zE (h := []) ?_ rfl
 simp only [e90, zs, zQ, zD, zw, zI, zP, zu, zV, zr, zC, zt, zR, z6, zaa, zY, zH, zM, zN, zW, zB, zG, zK, zL, Option.bind_some, Option.bind_none, cond_true, cond_false, zT, zU, zz]
 by_cases h : -2147483648 < a <;> simp [h]
def zgF (p : List Tm) (most lo hi : Int) (i : Nat) : St := zcG most [] 0 0 ((((p.take i).filter (kp most)).map Tm.cs).length) (p.map Tm.cs) ((p.length : Nat) : Int) ((i : Nat) : Int) (lo + los ((p.take i).filter (dp most))) (hi + his ((p.take i).filter (dp most))) (((p.take i).filter (kp most)).map Tm.cs)
theorem zfm {p : List Tm} (f : Tm → Bool) (i : Nat) : ((p.take i).filter f).length ≤ p.length := Nat.le_trans (List.length_filter_le _ _) (by simp; omega)
theorem zhr {p : List Tm} (f : Tm → Bool) (i : Nat) {lo : Int} (hf : few p) (hn : zbf (p.take i)) (h1 : -1000000000 ≤ lo) (h2 : lo ≤ 1000000000) :
  -1000000000000000 ≤ lo + los ((p.take i).filter f) ∧ lo + los ((p.take i).filter f) ≤ 1000000000000000 ∧ -1000000000000000 ≤ lo + his ((p.take i).filter f) ∧ lo + his ((p.take i).filter f) ≤ 1000000000000000 := by
 have hl := zfm (p := p) f i
 unfold few at hf
 have hm : zbf ((p.take i).filter f) := zob hn fun t ht => (List.mem_filter.1 ht).1
 have a := los_b hm
 have b := his_b hm
 generalize ((p.take i).filter f).length = n at *
 omega
theorem zto (p : List Tm) (most lo hi : Int) (hk : oks p) (hf : few p) (hl1 : -1000000000 ≤ lo) (hl2 : lo ≤ 1000000000) (hh1 : -1000000000 ≤ hi) (hh2 : hi ≤ 1000000000) (i : Nat) (hi' : i < p.length)
  (hp : zbf (p.take i)) (hc : zz p[i].c) : zp GZ LZ (CW GZ LZ) 94 none 3 (zgF p most lo hi i) = some (.normal, zgF p most lo hi (i + 1)) := by
 have hfl : p.length ≤ 100000 := hf
 have hx : p[i].e.ok := hk _ (List.getElem_mem hi')
 have b1 := zhr (dp most) i hf hp hl1 hl2
 have b2 := zhr (dp most) i hf hp hh1 hh2
 unfold zgF
 rw [zqq, zba hi', zbe p i hi', zb6 hi']
 simp only [zs, zQ, zD, zw, zI, zP, zu, zV, zr, zC, zt, zR, z6, zaa, zY, zH, zM, zN, zW, zB, zG, zK, zL, Option.bind_some, Option.bind_none, cond_true, cond_false, zT, zU, zam, zan, p90, hc, decide_true, Bool.not_true, p91 _ hx, zaV i (by omega)]
 have hmin : (if (6 : Int) < most then 6 else most) = min most 6 := by split <;> omega
 rw [hmin]
 by_cases h0 : p[i].c = 0
 ·have e1 : kp most p[i] = false := by simp [kp, h0]
  have e2 : dp most p[i] = false := by simp [dp, h0]
  have e3 : (p[i].c == 0) = true := by simpa using h0
  simp only [e3, cond_true, if_true, List.filter_append, List.filter_cons, e1, e2, Bool.false_eq_true, if_false, List.filter_nil, List.append_nil]
 ·have e3 : (p[i].c == 0) = false := by simpa using h0
  simp only [e3, cond_false, if_true]
  by_cases hd : ((p[i].e.deg : Nat) : Int) ≤ min most 6
  ·have e1 : kp most p[i] = true := by simp [kp, h0]; omega
   have e2 : dp most p[i] = false := by simp [dp, h0]; omega
   have hroom : ((((p.take i).filter (kp most)).map Tm.cs).length + 1) * 16 ≤ zag := by
    have := zfm (p := p) (kp most) i
    rw [List.length_map]; unfold zag; omega
   simp only [hd, if_true, hroom, List.filter_append, List.filter_cons, e1, e2, Bool.false_eq_true, if_false, List.filter_nil, List.append_nil, List.map_append, List.map_cons, List.map_nil, List.length_append, List.length_cons, List.length_nil]
   rfl
  ·have e1 : kp most p[i] = false := by simp [kp, h0]; omega
   have e2 : dp most p[i] = true := by simp [dp, h0]; omega
   simp only [hd, if_false, zrU p[i].e _ hc b1.1 b1.2.1 b2.2.2.1 b2.2.2.2, zs, zQ, zD, zw, zI, zP, zu, zV, zr, zC, zt, zR, z6, zaa, zY, zH, zM, zN, zW, zB, zG, zK, zL, Option.bind_some, Option.bind_none, cond_true, cond_false, zT, zU, List.filter_append, List.filter_cons, e1, e2, Bool.false_eq_true, if_false, if_true, List.filter_nil, List.append_nil, zh2, zh3, Int.add_assoc]
theorem zuj (p : List Tm) (most lo hi : Int) (i : Nat) (hi' : i < p.length) (hc : ¬ zz p[i].c) :
  zp GZ LZ (CW GZ LZ) 94 none 3 (zgF p most lo hi i) = some (.ret, zkq most (-2147483648) 2147483648 ((((p.take i).filter (kp most)).map Tm.cs).length) (p.map Tm.cs) ((p.length : Nat) : Int) ((i : Nat) : Int) (lo + los ((p.take i).filter (dp most))) (hi + his ((p.take i).filter (dp most))) (((p.take i).filter (kp most)).map Tm.cs)) := by
 unfold zgF
 rw [zqq, zba hi', zbe p i hi']
 simp only [zs, zQ, zD, zw, zI, zP, zu, zV, zr, zC, zt, zR, z6, zaa, zY, zH, zM, zN, zW, zB, zG, zK, zL, Option.bind_some, Option.bind_none, cond_true, cond_false, zT, zU, zam, zan, p90, hc, decide_false, Bool.not_false, p87]
 rfl
theorem zeX {p : List Tm} {i : Nat} (h : ∀ j, j < i → (fun j => if h : j < p.length then decide (zz p[j].c) else true) j = true) : zbf (p.take i) := by
 intro t ht
 obtain ⟨j, hj, rfl⟩ := List.mem_iff_getElem.1 ht
 simp only [List.length_take] at hj
 have := h j (by omega)
 simp only [show j < p.length by omega, dif_pos, decide_eq_true_eq] at this
 rw [List.getElem_take]; exact this
theorem p94 (p : List Tm) (most lo hi : Int) (hk : oks p) (hf : few p) (hl1 : -1000000000 ≤ lo) (hl2 : lo ≤ 1000000000) (hh1 : -1000000000 ≤ hi) (hh2 : hi ≤ 1000000000) :
  (CW GZ LZ).p (.func 94) [.slice .any (p.map Tm.cs), .int .i64 most, .agg [.int .i64 lo, .int .i64 hi]] = some (.tuple [.slice .any ((zar p most lo hi).1.map Tm.cs), .agg (zar p most lo hi).2.c]) := by
 have hloop := zd3 (round := zp GZ LZ (CW GZ LZ) 94 none 3) (zgF p most lo hi) p.length (fun j => if h : j < p.length then decide (zz p[j].c) else true)
  (fun z => ∃ (n : Nat) (a b : List (List V)) (x y u v w : Int), z = zkq u (-2147483648) 2147483648 n a x y v w b) (id := 0)
  (fun i hi' hj hi2 => zto p most lo hi hk hf hl1 hl2 hh1 hh2 i hi' (zeX hj) (by simpa [hi'] using hi2))
  (fun i hi' hj hi2 => ⟨_, zuj p most lo hi i hi' (by simpa [hi'] using hi2), _, _, _, _, _, _, _, _, rfl⟩)
  (fun _ => by unfold zgF; rw [zqq, za7]; rfl)
 have hstart : zgF p most lo hi 0 = zcG most [] 0 0 0 (p.map Tm.cs) (((p.map Tm.cs).length : Nat) : Int) 0 lo hi [] := by
  simp [zgF, los, his, za0]
 rcases hloop with ⟨hall, hl⟩ | ⟨⟨j, hj1, hj2⟩, z, hl, n, a, b, x, y, u, v, w, hz⟩
 ·have hn : zbf p := by
   have := zeX (p := p) (i := p.length) hall
   rwa [List.take_length] at this
  have hb : zfx p = true := zdM.2 hn
  have b1 := zhr (dp most) p.length hf (by rw [List.take_length]; exact hn) hl1 hl2
  have b2 := zhr (dp most) p.length hf (by rw [List.take_length]; exact hn) hh1 hh2
  have hlen : (p.map Tm.cs).length = p.length := by simp
  have hend : zgF p most lo hi p.length = zcG most [] 0 0 (((p.filter (kp most)).map Tm.cs).length) (p.map Tm.cs) ((p.length : Nat) : Int) ((p.length : Nat) : Int) (lo + los (p.filter (dp most))) (hi + his (p.filter (dp most))) ((p.filter (kp most)).map Tm.cs) := by
   simp only [zgF, List.take_length]
  rw [hend] at hl
  rw [hstart] at hl
  generalize hK : p.filter (kp most) = kk at *
  generalize hLo : lo + los (p.filter (dp most)) = l1 at *
  generalize hHi : hi + his (p.filter (dp most)) = h1 at *
  have hfin : zar p most lo hi = if kk.length ≤ 100 ∧ (Iv.new l1 h1).isW = false then (kk, Iv.new l1 h1) else ([], Iv.whole) := by
   unfold zar
   rw [hK, hLo, hHi, hb]
   simp
  have hrun : zO GZ LZ (CW GZ LZ) (.func 94) [.slice .any (p.map Tm.cs), .int .i64 most, .agg [.int .i64 lo, .int .i64 hi]] [] =
    (if kk.length ≤ 100 ∧ (Iv.new l1 h1).isW = false then some (.tuple [.arr 1 (kk.map Tm.cs).length 7, .agg (Iv.new l1 h1).c], [.cells [.int .i64 l1, .int .i64 h1], .arr true 7 (kk.map Tm.cs)]) else some (.tuple [.slice .nil [], .agg Iv.whole.c], [.cells [.int .i64 l1, .int .i64 h1], .arr true 7 (kk.map Tm.cs)])) := by
   rw [e94, zaz]
   refine (zZ hl _).trans ?_
   have g : ∀ (a b : List (List V)) (n : Nat) (x y u v w : Int), nth (zcG u [] 0 0 n a x y v w b).t 1 = .int .i64 u ∧ nth (zcG u [] 0 0 n a x y v w b).t 5 = .ptr 0 0 ∧ nth (zcG u [] 0 0 n a x y v w b).t 6 = .slice .any [] ∧ nth (zcG u [] 0 0 n a x y v w b).t 7 = .box [.int .i64 0, .int .i64 0] ∧ nth (zcG u [] 0 0 n a x y v w b).t 8 = .arr 1 n 7 ∧ nth (zcG u [] 0 0 n a x y v w b).t 12 = .slice .any a ∧ nth (zcG u [] 0 0 n a x y v w b).t 13 = .int .i64 x ∧ nth (zcG u [] 0 0 n a x y v w b).t 14 = .int .i64 y ∧ (zcG u [] 0 0 n a x y v w b).h = [.cells [.int .i64 v, .int .i64 w], .arr true 7 b] := fun _ _ _ _ _ _ _ _ => ⟨rfl, rfl, rfl, rfl, rfl, rfl, rfl, rfl, rfl⟩
   obtain ⟨g1, g2, g3, g4, g5, g6, g7, g8, g9⟩ := g (p.map Tm.cs) (kk.map Tm.cs) (kk.map Tm.cs).length ((p.length : Nat) : Int) ((p.length : Nat) : Int) most l1 h1
   simp only [g1, g2, g3, g4, g5, g6, g7, g8, g9, Nat.beq_refl, zs, zQ, zD, zw, zI, zP, zu, zV, zr, zC, zt, zR, z6, zaa, zY, zH, zM, zN, zW, zB, zG, zK, zL, Option.bind_some, Option.bind_none, cond_true, cond_false, zT, zU, zks, p44, p87, Iv.eta]
   by_cases c1 : kk.length ≤ 100
   ·have c1' : ((((kk.map Tm.cs).length : Nat) : Int) ≤ 100) := by rw [List.length_map]; omega
    cases c2 : (Iv.new l1 h1).isW
    ·simp only [c1, c1', if_true, cond_false, and_self]; rfl
    ·simp only [c1, c1', if_true, cond_true, Bool.true_eq_false, and_false, if_false]; rfl
   ·have c1' : ¬ ((((kk.map Tm.cs).length : Nat) : Int) ≤ 100) := by rw [List.length_map]; omega
    simp only [c1, c1', if_false, false_and]; rfl
  rw [hfin]
  by_cases c : kk.length ≤ 100 ∧ (Iv.new l1 h1).isW = false
  ·rw [if_pos c] at hrun ⊢
   refine zaA hrun ?_
   simp [zbG, zaX, zbg, zby, zbV, zak, zav, Iv.c, za6, ifK]
  ·rw [if_neg c] at hrun ⊢
   exact zaA hrun rfl
 ·have hb : zfx p = false := by
   cases hb : zfx p with
   | false => rfl
   | true =>
    have := zdM.1 hb p[j] (List.getElem_mem hj1)
    simp only [hj1, dif_pos, decide_eq_false_iff_not] at hj2
    exact absurd this hj2
  have hfin : zar p most lo hi = ([], Iv.whole) := by unfold zar; rw [hb]; simp
  rw [hfin]
  rw [hz, hstart] at hl
  refine zaA (u := .tuple [.slice .any [], .agg Iv.whole.c]) (h := [.cells [.int .i64 v, .int .i64 w], .arr true 7 b]) ?_ rfl
  rw [e94, zaz]
  refine (zZ hl _).trans ?_
  kernel_rfl
end Go.Ab
namespace Go.Ab
def zeY (p : List Tm) (most lo hi : Int) (i : Nat) : St := zcq (p.map Tm.cs) most (lo + los ((p.take i).filter (dp most))) (hi + his ((p.take i).filter (dp most))) [] 0 0 ((((p.take i).filter (kp most)).map Tm.cs).length) ((i : Nat) : Int) (((p.take i).filter (kp most)).map Tm.cs)
theorem zrW (p : List Tm) (most lo hi : Int) (hk : oks p) (hf : few p) (hl1 : -1000000000 ≤ lo) (hl2 : lo ≤ 1000000000) (hh1 : -1000000000 ≤ hi) (hh2 : hi ≤ 1000000000) (i : Nat) (hi' : i < p.length)
  (hp : zbf (p.take i)) (hc : zz p[i].c) : zp GZ LZ (CW GZ LZ) 96 none 3 (zeY p most lo hi i) = some (.normal, zeY p most lo hi (i + 1)) := by
 have hfl : p.length ≤ 100000 := hf
 have hx : p[i].e.ok := hk _ (List.getElem_mem hi')
 have b1 := zhr (dp most) i hf hp hl1 hl2
 have b2 := zhr (dp most) i hf hp hh1 hh2
 have hc' := hc
 simp only [zz] at hc'
 have rb := zlo p[i] (b := 2147483648) (by omega) (by omega)
 unfold zeY
 rw [zqs, List.length_map, zba hi', zb6 hi']
 have w1 := w64 (x := lo + los ((p.take i).filter (dp most)) + (rng p[i]).1) (by omega) (by omega)
 have w2 := w64 (x := hi + his ((p.take i).filter (dp most)) + (rng p[i]).2) (by omega) (by omega)
 simp only [zbe p i hi', zs, zQ, zD, zw, zI, zP, zu, zV, zr, zC, zt, zR, z6, zaa, zY, zH, zM, zN, zW, zB, zG, zK, zL, Option.bind_some, Option.bind_none, cond_true, cond_false, zT, zU, zam, zan, p89, hc, decide_true, Bool.not_true, p88 _ hx, zaV i (by omega), if_true, p104 p[i] hc hx, w1, w2]
 by_cases h0 : p[i].c = 0
 ·have e1 : kp most p[i] = false := by simp [kp, h0]
  have e2 : dp most p[i] = false := by simp [dp, h0]
  have e3 : (p[i].c == 0) = true := by simpa using h0
  simp only [e3, cond_true, List.filter_append, List.filter_cons, e1, e2, Bool.false_eq_true, if_false, List.filter_nil, List.append_nil, List.length_map]
 ·have e3 : (p[i].c == 0) = false := by simpa using h0
  simp only [e3, cond_false]
  by_cases hd : ((p[i].e.deg : Nat) : Int) ≤ min most 6
  ·have e1 : kp most p[i] = true := by simp [kp, h0]; omega
   have e2 : dp most p[i] = false := by simp [dp, h0]; omega
   have hd1 : ((p[i].e.deg : Nat) : Int) ≤ most := by omega
   have hd2 : ((p[i].e.deg : Nat) : Int) ≤ 6 := by omega
   have hroom : (((p.take i).filter (kp most)).length + 1) * 16 ≤ zag := by
    have := zfm (p := p) (kp most) i
    unfold zag; omega
   simp only [hd1, hd2, if_true, hroom, List.filter_append, List.filter_cons, e1, e2, Bool.false_eq_true, if_false, List.filter_nil, List.append_nil, List.map_append, List.map_cons, List.map_nil, List.length_append, List.length_cons, List.length_nil, List.length_map]
   rfl
  ·have e1 : kp most p[i] = false := by simp [kp, h0]; omega
   have e2 : dp most p[i] = true := by simp [dp, h0]; omega
   simp only [List.filter_append, List.filter_cons, e1, e2, Bool.false_eq_true, if_false, if_true, List.filter_nil, List.append_nil, zh2, zh3, Int.add_assoc, List.length_map]
   by_cases hd1 : ((p[i].e.deg : Nat) : Int) ≤ most
   ·have hd2 : ¬ ((p[i].e.deg : Nat) : Int) ≤ 6 := by omega
    simp only [hd1, hd2, if_true, if_false]
   ·simp only [hd1, if_false]
theorem ztp (p : List Tm) (most lo hi : Int) (i : Nat) (hi' : i < p.length) (hc : ¬ zz p[i].c) :
  zp GZ LZ (CW GZ LZ) 96 none 3 (zeY p most lo hi i) = some (.ret, zkr (p.map Tm.cs) most (lo + los ((p.take i).filter (dp most))) (hi + his ((p.take i).filter (dp most))) (-2147483648) 2147483648 ((((p.take i).filter (kp most)).map Tm.cs).length) ((i : Nat) : Int) (((p.take i).filter (kp most)).map Tm.cs)) := by
 unfold zeY
 rw [zqs, List.length_map, zba hi', zbe p i hi']
 simp only [zs, zQ, zD, zw, zI, zP, zu, zV, zr, zC, zt, zR, z6, zaa, zY, zH, zM, zN, zW, zB, zG, zK, zL, Option.bind_some, Option.bind_none, cond_true, cond_false, zT, zU, zam, zan, p89, hc, decide_false, Bool.not_false, p48, if_false]
 rfl
theorem p96 (p : List Tm) (most lo hi : Int) (hk : oks p) (hf : few p) (hl1 : -1000000000 ≤ lo) (hl2 : lo ≤ 1000000000) (hh1 : -1000000000 ≤ hi) (hh2 : hi ≤ 1000000000) :
  (CW GZ LZ).p (.func 96) [.slice .any (p.map Tm.cs), .int .i64 most, .int .i64 lo, .int .i64 hi] = some (.tuple [.slice .any ((zar p most lo hi).1.map Tm.cs), .agg (zar p most lo hi).2.c]) := by
 have hloop := zd3 (round := zp GZ LZ (CW GZ LZ) 96 none 3) (zeY p most lo hi) p.length (fun j => if h : j < p.length then decide (zz p[j].c) else true)
  (fun z => ∃ (n : Nat) (a b : List (List V)) (y u v w : Int), z = zkr a u v w (-2147483648) 2147483648 n y b) (id := 0)
  (fun i hi' hj hi2 => zrW p most lo hi hk hf hl1 hl2 hh1 hh2 i hi' (zeX hj) (by simpa [hi'] using hi2))
  (fun i hi' hj hi2 => ⟨_, ztp p most lo hi i hi' (by simpa [hi'] using hi2), _, _, _, _, _, _, _, rfl⟩)
  (fun _ => by unfold zeY; rw [zqs, List.length_map, za7]; rfl)
 have hstart : zeY p most lo hi 0 = zcq (p.map Tm.cs) most lo hi [] 0 0 0 0 [] := by
  simp [zeY, los, his, za0]
 rcases hloop with ⟨hall, hl⟩ | ⟨⟨j, hj1, hj2⟩, z, hl, n, a, b, y, u, v, w, hz⟩
 ·have hn : zbf p := by
   have := zeX (p := p) (i := p.length) hall
   rwa [List.take_length] at this
  have hb : zfx p = true := zdM.2 hn
  have hend : zeY p most lo hi p.length = zcq (p.map Tm.cs) most (lo + los (p.filter (dp most))) (hi + his (p.filter (dp most))) [] 0 0 (((p.filter (kp most)).map Tm.cs).length) ((p.length : Nat) : Int) ((p.filter (kp most)).map Tm.cs) := by
   simp only [zeY, List.take_length]
  rw [hend, hstart] at hl
  generalize hK : p.filter (kp most) = kk at *
  generalize hLo : lo + los (p.filter (dp most)) = l1 at *
  generalize hHi : hi + his (p.filter (dp most)) = h1 at *
  have hfin : zar p most lo hi = if kk.length ≤ 100 ∧ (Iv.new l1 h1).isW = false then (kk, Iv.new l1 h1) else ([], Iv.whole) := by
   unfold zar
   rw [hK, hLo, hHi, hb]
   simp
  have hrun : zO GZ LZ (CW GZ LZ) (.func 96) [.slice .any (p.map Tm.cs), .int .i64 most, .int .i64 lo, .int .i64 hi] [] =
    (if kk.length ≤ 100 ∧ (Iv.new l1 h1).isW = false then some (.tuple [.arr 0 (kk.map Tm.cs).length 7, .agg (Iv.new l1 h1).c], [.arr true 7 (kk.map Tm.cs)]) else some (.tuple [.slice .nil [], .agg Iv.whole.c], [.arr true 7 (kk.map Tm.cs)])) := by
   rw [e96, zaz]
   refine (zZ hl _).trans ?_
   have g : ∀ (a b : List (List V)) (n : Nat) (y u v w : Int), nth (zcq a u v w [] 0 0 n y b).t 0 = .slice .any a ∧ nth (zcq a u v w [] 0 0 n y b).t 1 = .int .i64 u ∧ nth (zcq a u v w [] 0 0 n y b).t 2 = .int .i64 v ∧ nth (zcq a u v w [] 0 0 n y b).t 3 = .int .i64 w ∧ nth (zcq a u v w [] 0 0 n y b).t 8 = .slice .any [] ∧ nth (zcq a u v w [] 0 0 n y b).t 9 = .box [.int .i64 0, .int .i64 0] ∧ nth (zcq a u v w [] 0 0 n y b).t 10 = .arr 0 n 7 ∧ nth (zcq a u v w [] 0 0 n y b).t 11 = .int .i64 y ∧ (zcq a u v w [] 0 0 n y b).h = [.arr true 7 b] := fun _ _ _ _ _ _ _ => ⟨rfl, rfl, rfl, rfl, rfl, rfl, rfl, rfl, rfl⟩
   obtain ⟨g1, g2, g3, g4, g5, g6, g7, g8, g9⟩ := g (p.map Tm.cs) (kk.map Tm.cs) (kk.map Tm.cs).length ((p.length : Nat) : Int) most l1 h1
   simp only [g1, g2, g3, g4, g5, g6, g7, g8, g9, Nat.beq_refl, zs, zQ, zD, zw, zI, zP, zu, zV, zr, zC, zt, zR, z6, zaa, zY, zH, zM, zN, zW, zB, zG, zK, zL, Option.bind_some, Option.bind_none, cond_true, cond_false, zT, zU, p78, p38, p48, Iv.eta]
   by_cases c1 : kk.length ≤ 100
   ·have c1' : ¬ ((((kk.map Tm.cs).length : Nat) : Int) > 100) := by rw [List.length_map]; omega
    cases c2 : (Iv.new l1 h1).isW
    ·simp only [c1, c1', if_true, if_false, cond_false, and_self]; rfl
    ·simp only [c1, c1', if_true, cond_true, Bool.true_eq_false, and_false, if_false]; rfl
   ·have c1' : ((((kk.map Tm.cs).length : Nat) : Int) > 100) := by rw [List.length_map]; omega
    simp only [c1, c1', if_false, if_true, false_and]; rfl
  rw [hfin]
  by_cases c : kk.length ≤ 100 ∧ (Iv.new l1 h1).isW = false
  ·rw [if_pos c] at hrun ⊢
   refine zaA hrun ?_
   simp [zbG, zaX, zbg, zby, zbV, zak, zav, Iv.c, za6, ifK]
  ·rw [if_neg c] at hrun ⊢
   exact zaA hrun rfl
 ·have hb : zfx p = false := by
   cases hb : zfx p with
   | false => rfl
   | true =>
    have := zdM.1 hb p[j] (List.getElem_mem hj1)
    simp only [hj1, dif_pos, decide_eq_false_iff_not] at hj2
    exact absurd this hj2
  have hfin : zar p most lo hi = ([], Iv.whole) := by unfold zar; rw [hb]; simp
  rw [hfin]
  rw [hz, hstart] at hl
  refine zaA (u := .tuple [.slice .any [], .agg Iv.whole.c]) (h := [.arr true 7 b]) ?_ rfl
  rw [e96, zaz]
  refine (zZ hl _).trans ?_
  kernel_rfl
def zcR (p : List Tm) (most : Int) : List Tm × Iv := zar p most 0 0
theorem p69 (p : List Tm) (most : Int) (hk : oks p) (hf : few p) : (CW GZ LZ).p (.func 69) [.slice .any (p.map Tm.cs), .int .i64 most] = some (.tuple [.slice .any ((zcR p most).1.map Tm.cs), .agg (zcR p most).2.c]) := by
 refine zaA (u := .tuple [.slice .any ((zcR p most).1.map Tm.cs), .agg (zcR p most).2.c]) (h := []) ?_ rfl
 simp only [e69, p94 p most 0 0 hk hf (by decide) (by decide) (by decide) (by decide), zs, zQ, zD, zw, zI, zP, zu, zV, zr, zC, zt, zR, z6, zaa, zY, zH, zM, zN, zW, zB, zG, zK, zL, Option.bind_some, Option.bind_none, cond_true, cond_false, zT, zU]
 rfl
theorem p70 (p : List Tm) (most : Int) (hk : oks p) (hf : few p) : (CW GZ LZ).p (.func 70) [.slice .any (p.map Tm.cs), .int .i64 most] = some (.tuple [.slice .any ((zcR p most).1.map Tm.cs), .agg (zcR p most).2.c]) := by
 refine zaA (u := .tuple [.slice .any ((zcR p most).1.map Tm.cs), .agg (zcR p most).2.c]) (h := []) ?_ rfl
 simp only [e70, p96 p most 0 0 hk hf (by decide) (by decide) (by decide) (by decide), zs, zQ, zD, zw, zI, zP, zu, zV, zr, zC, zt, zR, z6, zaa, zY, zH, zM, zN, zW, zB, zG, zK, zL, Option.bind_some, Option.bind_none, cond_true, cond_false, zT, zU]
 rfl
def zaP (p : List Tm) : Iv := Iv.new (los p) (his p)
theorem zrX {p : List Tm} (i : Nat) (hf : few p) (hn : zbf p) : -1000000000000000 ≤ los (p.take i) ∧ los (p.take i) ≤ 1000000000000000 ∧ -1000000000000000 ≤ his (p.take i) ∧ his (p.take i) ≤ 1000000000000000 := by
 have hl : (p.take i).length ≤ p.length := by simp; omega
 unfold few at hf
 have hm : zbf (p.take i) := zob hn fun t ht => List.mem_of_mem_take ht
 have a := los_b hm
 have b := his_b hm
 generalize (p.take i).length = n at *
 omega
theorem p65 (p : List Tm) (hk : oks p) (hf : few p) (hn : zbf p) : (CW GZ LZ).p (.func 65) [.slice .any (p.map Tm.cs)] = some (.agg (zaP p).c) := by
 have hloop := zch (round := zp GZ LZ (CW GZ LZ) 65 none 3) (fun i => zeU 0 0 (p.map Tm.cs) ((p.length : Nat) : Int) ((i : Nat) : Int) (los (p.take i)) (his (p.take i))) p.length (id := 0)
  (fun i hi => by
   have hfl : p.length ≤ 100000 := hf
   have b := zrX i hf hn
   simp only [e65_3, zba hi, zbe p i hi, zb6 hi, zs, zQ, zD, zw, zI, zP, zu, zV, zr, zC, zt, zR, z6, zaa, zY, zH, zM, zN, zW, zB, zG, zK, zL, Option.bind_some, Option.bind_none, cond_true, cond_false, zT, zU, zam, zan, zrV p[i].e (hn _ (List.getElem_mem hi)) b.1 b.2.1 b.2.2.1 b.2.2.2, zaV i (by omega), zh2, zh3])
  (by simp only [e65_3, za7, cond_false])
 simp only [List.take_length] at hloop
 refine zaA (u := .agg (zaP p).c) (h := [.cells [.int .i64 (los p), .int .i64 (his p)]]) ?_ rfl
 rw [e65, zaz, List.length_map]
 refine (zZ hloop _).trans ?_
 have g : ∀ (a : List (List V)) (y u v w : Int), nth (zeU 0 0 a u y v w).t 2 = .box [.int .i64 0, .int .i64 0] ∧ nth (zeU 0 0 a u y v w).t 3 = .ptr 0 0 ∧ nth (zeU 0 0 a u y v w).t 6 = .slice .any a ∧ nth (zeU 0 0 a u y v w).t 7 = .int .i64 u ∧ nth (zeU 0 0 a u y v w).t 8 = .int .i64 y ∧ (zeU 0 0 a u y v w).h = [.cells [.int .i64 v, .int .i64 w]] := fun _ _ _ _ _ => ⟨rfl, rfl, rfl, rfl, rfl, rfl⟩
 obtain ⟨g1, g2, g3, g4, g5, g6⟩ := g (p.map Tm.cs) ((p.length : Nat) : Int) ((p.length : Nat) : Int) (los p) (his p)
 simp only [g1, g2, g3, g4, g5, g6, Nat.beq_refl, zs, zQ, zD, zw, zI, zP, zu, zV, zr, zC, zt, zR, z6, zaa, zY, zH, zM, zN, zW, zB, zG, zK, zL, Option.bind_some, Option.bind_none, cond_true, cond_false, zT, zU, zks, zaP]
 rfl
theorem p68 (p : List Tm) (hk : oks p) (hf : few p) (hn : zbf p) : (CW GZ LZ).p (.func 68) [.slice .any (p.map Tm.cs)] = some (.agg (zaP p).c) := by
 have hloop := zch (round := zp GZ LZ (CW GZ LZ) 68 none 3) (fun i => zfw (p.map Tm.cs) 0 0 (los (p.take i)) (his (p.take i)) ((i : Nat) : Int)) p.length (id := 0)
  (fun i hi => by
   have hfl : p.length ≤ 100000 := hf
   have b := zrX i hf hn
   have hc := hn _ (List.getElem_mem hi)
   have hc' := hc
   simp only [zz] at hc'
   have rb := zlo p[i] (b := 2147483648) (by omega) (by omega)
   simp only [e68_3, List.length_map, zba hi, zbe p i hi, zb6 hi, zs, zQ, zD, zw, zI, zP, zu, zV, zr, zC, zt, zR, z6, zaa, zY, zH, zM, zN, zW, zB, zG, zK, zL, Option.bind_some, Option.bind_none, cond_true, cond_false, zT, zU, zam, zan, p104 p[i] hc (hk _ (List.getElem_mem hi)), zaV i (by omega), zh2, zh3, w64 (x := los (p.take i) + (rng p[i]).1) (by omega) (by omega), w64 (x := his (p.take i) + (rng p[i]).2) (by omega) (by omega)])
  (by simp only [e68_3, List.length_map, za7, cond_false])
 simp only [List.take_length] at hloop
 refine zaA (u := .agg (zaP p).c) (h := []) ?_ rfl
 rw [e68, zaz]
 refine (zZ hloop _).trans ?_
 have g : ∀ (a : List (List V)) (y v w : Int), nth (zfw a 0 0 v w y).t 2 = .box [.int .i64 0, .int .i64 0] ∧ nth (zfw a 0 0 v w y).t 0 = .slice .any a ∧ nth (zfw a 0 0 v w y).t 3 = .int .i64 v ∧ nth (zfw a 0 0 v w y).t 4 = .int .i64 w ∧ nth (zfw a 0 0 v w y).t 5 = .int .i64 y := fun _ _ _ _ => ⟨rfl, rfl, rfl, rfl, rfl⟩
 obtain ⟨g1, g2, g3, g4, g5⟩ := g (p.map Tm.cs) ((p.length : Nat) : Int) (los p) (his p)
 simp only [g1, g2, g3, g4, g5, Nat.beq_refl, zs, zQ, zD, zw, zI, zP, zu, zV, zr, zC, zt, zR, z6, zaa, zY, zH, zM, zN, zW, zB, zG, zK, zL, Option.bind_some, Option.bind_none, cond_true, cond_false, zT, zU, p78, zaP]
 rfl
def degP : List Tm → Int
 | [] => -1
 | t :: p => max ((t.e.deg : Nat) : Int) (degP p)
def E6.zero : E6 := ⟨0, 0, 0, 0, 0, 0⟩
def zaI (c : Int) : List Tm := if c = 0 then [] else [⟨c, E6.zero⟩]
def E6.unit (i : Int) : E6 := ⟨if i = 0 then 1 else 0, if i = 1 then 1 else 0, if i = 2 then 1 else 0, if i = 3 then 1 else 0, if i = 4 then 1 else 0, if i = 5 then 1 else 0⟩
def zcs (i : Int) : List Tm := if i < 0 ∨ i > 5 then [] else [⟨65536, E6.unit i⟩]
theorem p74 (c : Int) : (CW GZ LZ).p (.func 74) [.int .i64 c] = some (.slice .any ((zaI c).map Tm.cs)) := by
 by_cases h : c = 0
 ·subst h; exact zaA (u := .slice .nil []) (h := []) (e74 _ _) rfl
 ·have e1 : (c == 0) = false := by simpa using h
  refine zaA (u := .slice .any ((zaI c).map Tm.cs)) (h := []) ?_ rfl
  rw [e74, e1, zaI, if_neg h]; rfl
theorem p77 (c : Int) : (CW GZ LZ).p (.func 77) [.int .i64 c] = some (.slice .any ((zaI c).map Tm.cs)) := by
 by_cases h : c = 0
 ·subst h; exact zaA (u := .slice .nil []) (h := []) (e77 _ _) rfl
 ·have e1 : (c == 0) = false := by simpa using h
  refine zaA (u := .slice .any ((zaI c).map Tm.cs)) (h := []) ?_ rfl
  rw [e77, e1, zaI, if_neg h]; rfl
theorem p80 (i : Int) : (CW GZ LZ).p (.func 80) [.int .i64 i] = some (.slice .any ((zcs i).map Tm.cs)) := by
 by_cases h : i < 0
 ·have e1 : decide (i < 0) = true := by simpa using h
  refine zaA (u := .slice .nil []) (h := []) (by rw [e80, e1]; rfl) ?_
  rw [zcs, if_pos (.inl h)]; rfl
 ·have e1 : decide (i < 0) = false := by simpa using h
  by_cases h2 : i > 5
  ·have e2 : decide (i ≥ 6) = true := by simp; omega
   refine zaA (u := .slice .nil []) (h := []) (by rw [e80, e1, e2]; rfl) ?_
   rw [zcs, if_pos (.inr h2)]; rfl
  ·have : i = 0 ∨ i = 1 ∨ i = 2 ∨ i = 3 ∨ i = 4 ∨ i = 5 := by omega
   rcases this with rfl | rfl | rfl | rfl | rfl | rfl <;> exact zaA (h := []) (e80 _ _) rfl
theorem p82 (i : Int) : (CW GZ LZ).p (.func 82) [.int .i64 i] = some (.slice .any ((zcs i).map Tm.cs)) := by
 by_cases h : i < 0
 ·have e1 : decide (i < 0) = true := by simpa using h
  refine zaA (u := .slice .nil []) (h := []) (by rw [e82, e1]; rfl) ?_
  rw [zcs, if_pos (.inl h)]; rfl
 ·have e1 : decide (i < 0) = false := by simpa using h
  by_cases h2 : i > 5
  ·have e2 : decide (i > 5) = true := by simpa using h2
   refine zaA (u := .slice .nil []) (h := []) (by rw [e82, e1, e2]; rfl) ?_
   rw [zcs, if_pos (.inr h2)]; rfl
  ·have : i = 0 ∨ i = 1 ∨ i = 2 ∨ i = 3 ∨ i = 4 ∨ i = 5 := by omega
   rcases this with rfl | rfl | rfl | rfl | rfl | rfl <;> exact zaA (h := []) (e82 _ _) rfl
end Go.Ab
