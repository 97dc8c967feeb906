/- Sums of terms in a map, sorted by key: the terms put one by one among sorted terms; conditions: bytes. -/
import Derived.Test.YtpalbaaghplhnaaGreatDoorP3
import Derived.Test.YtpalbaaghplhnaaGreatDoorK2
set_option linter.unusedVariables false
set_option linter.unusedSimpArgs false
namespace Go.Ab
def zbH : List Tm → Tm → List Tm
 | [], y => [y]
 | x :: m, y => if y.e.key = x.e.key then ⟨x.c + y.c, x.e⟩ :: m else x :: zbH m y
def zcH (t : Tm) : List Tm → List Tm
 | [] => [t]
 | y :: l => if t.e.key < y.e.key then t :: y :: l else y :: zcH t l
def zb2 (m : List Tm) : List Tm := m.foldr zcH []
def zjz (m : List Tm) : Prop := m.Pairwise fun a b => a.e.key ≠ b.e.key
theorem zon : ∀ (m : List Tm) (y : Tm), ∀ t ∈ zbH m y, t.e.key = y.e.key ∨ ∃ u ∈ m, t.e.key = u.e.key
 | [], y, t, h => by simp only [zbH, List.mem_singleton] at h; rw [h]; exact .inl rfl
 | x :: m, y, t, h => by
  simp only [zbH] at h
  split at h
  ·rcases List.mem_cons.1 h with rfl | h
   ·exact .inr ⟨x, by simp, rfl⟩
   ·exact .inr ⟨t, by simp [h], rfl⟩
  ·rcases List.mem_cons.1 h with rfl | h
   ·exact .inr ⟨t, by simp, rfl⟩
   ·rcases zon m y t h with h | ⟨u, hu, h⟩
    ·exact .inl h
    ·exact .inr ⟨u, by simp [hu], h⟩
theorem zia : ∀ (m : List Tm) (y : Tm), zjz m → zjz (zbH m y)
 | [], y, _ => by simp [zbH, zjz]
 | x :: m, y, h => by
  obtain ⟨h1, h2⟩ := List.pairwise_cons.1 h
  simp only [zbH]
  split
  ·exact List.pairwise_cons.2 ⟨fun t ht => h1 t ht, h2⟩
  ·rename_i hne
   refine List.pairwise_cons.2 ⟨fun t ht => ?_, zia m y h2⟩
   rcases zon m y t ht with e | ⟨u, hu, e⟩
   ·rw [e]; exact fun e' => hne e'.symm
   ·rw [e]; exact h1 u hu
theorem zky : ∀ (m : List Tm) (y : Tm), oks m → y.e.ok → oks (zbH m y)
 | [], y, _, hy => fun t ht => by simp only [zbH, List.mem_singleton] at ht; rw [ht]; exact hy
 | x :: m, y, h, hy => by
  have h' : oks m := fun t ht => h t (by simp [ht])
  have hx := h x (by simp)
  intro t ht
  simp only [zbH] at ht
  split at ht
  ·rcases List.mem_cons.1 ht with rfl | ht
   ·exact hx
   ·exact h' t ht
  ·rcases List.mem_cons.1 ht with rfl | ht
   ·exact hx
   ·exact zky m y h' hy t ht
theorem zoo : ∀ (m : List Tm) (y : Tm), (zbH m y).length ≤ m.length + 1
 | [], _ => by simp [zbH]
 | x :: m, y => by
  have := zoo m y
  simp only [zbH]
  split <;> simp only [List.length_cons] <;> omega
theorem zop : ∀ (m : List Tm) (y : Tm) {b d : Int}, zdo m b → 0 ≤ b → -d ≤ y.c → y.c ≤ d → 0 ≤ d → zdo (zbH m y) (b + d)
 | [], y, b, d, _, hb, h1, h2, hd => fun t ht => by simp only [zbH, List.mem_singleton] at ht; subst ht; omega
 | x :: m, y, b, d, hm, hb, h1, h2, hd => by
  have hm' : zdo m b := fun t ht => hm t (by simp [ht])
  have hx := hm x (by simp)
  intro t ht
  simp only [zbH] at ht
  split at ht
  ·rcases List.mem_cons.1 ht with rfl | ht
   ·simp only; omega
   ·have := hm' t ht; omega
  ·rcases List.mem_cons.1 ht with rfl | ht
   ·omega
   ·exact zop m y hm' hb h1 h2 hd t ht
theorem zoq (t : Tm) : ∀ (l : List Tm) (u : Tm), u ∈ zcH t l ↔ u = t ∨ u ∈ l
 | [], u => by simp [zcH]
 | y :: l, u => by
  simp only [zcH]
  split
  ·simp
  ·simp only [List.mem_cons, zoq t l u]
   constructor
   ·rintro (h | h | h)
    ·exact .inr (.inl h)
    ·exact .inl h
    ·exact .inr (.inr h)
   ·rintro (h | h | h)
    ·exact .inr (.inl h)
    ·exact .inl h
    ·exact .inr (.inr h)
theorem zgX : ∀ (m : List Tm) (u : Tm), u ∈ zb2 m ↔ u ∈ m
 | [], u => by simp [zb2]
 | t :: m, u => by
  have := zgX m u
  unfold zb2 at this ⊢
  simp only [List.foldr_cons, zoq, this, List.mem_cons]
theorem zor (t : Tm) : ∀ l : List Tm, (zcH t l).length = l.length + 1
 | [] => rfl
 | y :: l => by
  simp only [zcH]
  split
  ·rfl
  ·simp only [List.length_cons, zor t l]
theorem zmJ : ∀ m : List Tm, (zb2 m).length = m.length
 | [] => rfl
 | t :: m => by
  have := zmJ m
  unfold zb2 at this ⊢
  simp only [List.foldr_cons, zor, this, List.length_cons]
theorem zj4 (t y : Tm) (ht : t.e = y.e) : ∀ p : List Tm, (∀ z ∈ p, z.e.key ≠ t.e.key) → ins (zcH t p) y = zcH ⟨t.c + y.c, t.e⟩ p
 | [], _ => by simp only [zcH, ins]; rw [if_neg (by rw [ht]; omega), if_pos (by rw [ht]), Int.add_comm, ht]
 | z :: p, h => by
  have hz := h z (by simp)
  have ih := zj4 t y ht p fun u hu => h u (by simp [hu])
  simp only [zcH]
  by_cases h1 : t.e.key < z.e.key
  ·rw [if_pos h1, if_pos h1]
   simp only [ins]
   rw [if_neg (by rw [ht]; omega), if_pos (by rw [ht]), Int.add_comm, ht]
  ·rw [if_neg h1, if_neg h1]
   simp only [ins]
   rw [if_pos (by rw [← ht]; omega), ih]
theorem zd7 {t y : Tm} {l : List Tm} (h : t.e.key < y.e.key) : zcH t (y :: l) = t :: y :: l := by simp only [zcH, h, if_true]
theorem zd8 {t y : Tm} {l : List Tm} (h : ¬ t.e.key < y.e.key) : zcH t (y :: l) = y :: zcH t l := by simp only [zcH, h, if_false]
theorem zaS {y x : Tm} {l : List Tm} (h : y.e.key < x.e.key) : ins (y :: l) x = y :: ins l x := by simp only [ins, h, if_true]
theorem za2 {y x : Tm} {l : List Tm} (h : y.e.key = x.e.key) : ins (y :: l) x = ⟨x.c + y.c, x.e⟩ :: l := by
 simp only [ins]; rw [if_neg (by omega), if_pos h]
theorem zbj {y x : Tm} {l : List Tm} (h : x.e.key < y.e.key) : ins (y :: l) x = x :: y :: l := by
 simp only [ins]; rw [if_neg (by omega), if_neg (by omega)]
theorem zil (t y : Tm) (hty : t.e.key ≠ y.e.key) : ∀ p : List Tm, (∀ z ∈ p, z.e.key ≠ t.e.key) → zcH t (ins p y) = ins (zcH t p) y
 | [], _ => by
  show zcH t [y] = ins [t] y
  by_cases h : t.e.key < y.e.key
  ·rw [zd7 h, zaS h]; rfl
  ·rw [zd8 h, zbj (by omega)]; rfl
 | z :: p, h => by
  have hz := h z (by simp)
  have ih := zil t y hty p fun u hu => h u (by simp [hu])
  by_cases h1 : t.e.key < z.e.key
  ·by_cases h2 : z.e.key < y.e.key
   ·rw [zaS h2, zd7 h1, zd7 h1, zaS (show t.e.key < y.e.key by omega), zaS h2]
   ·by_cases h3 : z.e.key = y.e.key
    ·have h4 : t.e.key < y.e.key := by omega
     rw [za2 h3, zd7 h1, zd7 (y := ⟨y.c + z.c, y.e⟩) h4, zaS h4, za2 h3]
    ·have h5 : y.e.key < z.e.key := by omega
     by_cases h4 : t.e.key < y.e.key
     ·rw [zbj h5, zd7 h1, zd7 h4, zaS h4, zbj h5]
     ·rw [zbj h5, zd7 h1, zd8 h4, zd7 h1, zbj (show y.e.key < t.e.key by omega)]
  ·by_cases h2 : z.e.key < y.e.key
   ·rw [zaS h2, zd8 h1, zd8 h1, zaS h2, ih]
   ·by_cases h3 : z.e.key = y.e.key
    ·rw [za2 h3, zd8 h1, zd8 (y := ⟨y.c + z.c, y.e⟩) (show ¬ t.e.key < y.e.key by omega), za2 h3]
    ·have h5 : y.e.key < z.e.key := by omega
     rw [zbj h5, zd8 h1, zd8 (show ¬ t.e.key < y.e.key by omega), zd8 h1, zbj h5]
theorem zlv : ∀ (m : List Tm) (y : Tm), zjz m → oks m → y.e.ok → zb2 (zbH m y) = ins (zb2 m) y
 | [], y, _, _, _ => rfl
 | t :: m, y, hd, ho, hy => by
  obtain ⟨h1, h2⟩ := List.pairwise_cons.1 hd
  have ho' : oks m := fun u hu => ho u (by simp [hu])
  have ht := ho t (by simp)
  have hk : ∀ z ∈ zb2 m, z.e.key ≠ t.e.key := fun z hz => (h1 z ((zgX m z).1 hz)).symm
  have ih := zlv m y h2 ho' hy
  simp only [zbH]
  by_cases h : y.e.key = t.e.key
  ·rw [if_pos h]
   exact (zj4 t y (E6.key_inj ht hy h.symm) (zb2 m) hk).symm
  ·rw [if_neg h]
   have e : zb2 (t :: zbH m y) = zcH t (zb2 (zbH m y)) := rfl
   rw [e, ih]
   exact zil t y (fun e' => h e'.symm) (zb2 m) hk
structure mOk (m : List Tm) : Prop where
 dk : zjz m
 ok : oks m
def Tm.me (t : Tm) : List V × List V := (t.e.cs, [.int .i64 t.c])
def E6.eqb (x y : E6) : Bool := (((x.a : Nat) : Int) == ((y.a : Nat) : Int)) && ((((x.b : Nat) : Int) == ((y.b : Nat) : Int)) && ((((x.c : Nat) : Int) == ((y.c : Nat) : Int)) && ((((x.d : Nat) : Int) == ((y.d : Nat) : Int)) && ((((x.e : Nat) : Int) == ((y.e : Nat) : Int)) && ((((x.f : Nat) : Int) == ((y.f : Nat) : Int)) && true)))))
theorem eqE (x y : E6) : eqT GP 8 60 [.int .u8 ((x.a : Nat) : Int), .int .u8 ((x.b : Nat) : Int), .int .u8 ((x.c : Nat) : Int), .int .u8 ((x.d : Nat) : Int), .int .u8 ((x.e : Nat) : Int), .int .u8 ((x.f : Nat) : Int)] [.int .u8 ((y.a : Nat) : Int), .int .u8 ((y.b : Nat) : Int), .int .u8 ((y.c : Nat) : Int), .int .u8 ((y.d : Nat) : Int), .int .u8 ((y.e : Nat) : Int), .int .u8 ((y.f : Nat) : Int)] = some (x.eqb y) := by kernel_rfl
theorem zl5 {x y : E6} (hx : x.ok) (hy : y.ok) : x.eqb y = decide (x.key = y.key) := by
 by_cases h : x.key = y.key
 ·have := E6.key_inj hx hy h
  subst this
  simp [E6.eqb]
 ·have hne : x ≠ y := fun e => h (by rw [e])
  simp only [h, decide_false]
  cases hb : x.eqb y with
  | false => rfl
  | true =>
   exfalso
   apply hne
   simp only [E6.eqb, Bool.and_true, Bool.and_eq_true, beq_iff_eq, Int.natCast_inj] at hb
   obtain ⟨a, b, c, d, e, f⟩ := x
   obtain ⟨a', b', c', d', e', f'⟩ := y
   simp only at hb
   obtain ⟨rfl, rfl, rfl, rfl, rfl, rfl⟩ := hb
   rfl
theorem zse (x : E6) (m : List Tm) : zaw (eqT GP 8 60) [.int .u8 ((x.a : Nat) : Int), .int .u8 ((x.b : Nat) : Int), .int .u8 ((x.c : Nat) : Int), .int .u8 ((x.d : Nat) : Int), .int .u8 ((x.e : Nat) : Int), .int .u8 ((x.f : Nat) : Int)] (m.map Tm.me) = some (m.findIdx? fun t => x.eqb t.e) := zh6 Tm.me (fun t => x.eqb t.e) (fun t => eqE x t.e) m
theorem zsf (y : Tm) (m : List Tm) (v : Int) (h : m.findIdx? (fun t => y.e.eqb t.e) = none) (hm : oks m) (hy : y.e.ok) :
  zfS (zcV (m.map Tm.me) none [.int .u8 ((y.e.a : Nat) : Int), .int .u8 ((y.e.b : Nat) : Int), .int .u8 ((y.e.c : Nat) : Int), .int .u8 ((y.e.d : Nat) : Int), .int .u8 ((y.e.e : Nat) : Int), .int .u8 ((y.e.f : Nat) : Int)] [.int .i64 v]) (zbW (m.map Tm.me) none) [.int .i64 y.c] = (zbH m y).map Tm.me ∧ zbW (m.map Tm.me) none < (zcV (m.map Tm.me) none [.int .u8 ((y.e.a : Nat) : Int), .int .u8 ((y.e.b : Nat) : Int), .int .u8 ((y.e.c : Nat) : Int), .int .u8 ((y.e.d : Nat) : Int), .int .u8 ((y.e.e : Nat) : Int), .int .u8 ((y.e.f : Nat) : Int)] [.int .i64 v]).length := by
 have hmadd : zbH m y = m ++ [y] := by
  clear v
  induction m with
  | nil => rfl
  | cons x m ih =>
   rw [List.findIdx?_cons] at h
   have hx := hm x (by simp)
   simp only [zl5 hy hx] at h
   by_cases hk : y.e.key = x.e.key
   ·simp [hk] at h
   ·simp only [hk, decide_false, Bool.false_eq_true, if_false, Option.map_eq_none_iff] at h
    simp only [zbH, hk, if_false, ih h fun t ht => hm t (by simp [ht]), List.cons_append]
 rw [hmadd]
 simp only [zfS, zcV, zbW, List.length_map, List.length_append, List.length_cons, List.length_nil]
 refine ⟨?_, by omega⟩
 rw [List.map_append]
 apply List.ext_getElem?
 intro i
 rw [List.getElem?_modify]
 by_cases hi : i < m.length
 ·rw [List.getElem?_append_left (by simpa using hi), List.getElem?_append_left (by simpa using hi)]
  have e : ¬ m.length = i := by omega
  simp [e]
 ·by_cases hi2 : i = m.length
  ·subst hi2
   rw [List.getElem?_append_right (by simp), List.getElem?_append_right (by simp)]
   simp [Tm.me, E6.cs]
  ·rw [List.getElem?_eq_none (by simp; omega), List.getElem?_eq_none (by simp; omega)]
   rfl
theorem zmK (y : Tm) : ∀ (m : List Tm) (j : Nat) (h : m.findIdx? (fun t => y.e.eqb t.e) = some j) (hm : oks m) (hy : y.e.ok), ∃ (hj : j < m.length), m[j].e = y.e ∧
  (m.map Tm.me).modify j (fun e => (e.1, [.int .i64 (m[j].c + y.c)])) = (zbH m y).map Tm.me
 | [], j, h, _, _ => by simp at h
 | x :: m, j, h, hm, hy => by
  rw [List.findIdx?_cons] at h
  have hx := hm x (by simp)
  simp only [zl5 hy hx] at h
  by_cases hk : y.e.key = x.e.key
  ·simp only [hk, decide_true, if_true, Option.some.injEq] at h
   subst h
   refine ⟨by simp, (E6.key_inj hy hx hk).symm, ?_⟩
   simp only [zbH, hk, if_true, List.map_cons, List.modify_zero_cons, List.getElem_cons_zero]
   rfl
  ·simp only [hk, decide_false, Bool.false_eq_true, if_false] at h
   obtain ⟨j', h', rfl⟩ := Option.map_eq_some_iff.1 h
   obtain ⟨hj, h1, h2⟩ := zmK y m j' h' (fun t ht => hm t (by simp [ht])) hy
   refine ⟨by simpa using hj, by simpa using h1, ?_⟩
   simp only [zbH, hk, if_false, List.map_cons, List.modify_succ_cons, List.getElem_cons_succ, h2]
end Go.Ab
namespace Go.Ab
def E6.add (x y : E6) : E6 := ⟨x.a + y.a, x.b + y.b, x.c + y.c, x.d + y.d, x.e + y.e, x.f + y.f⟩
def pT (x y : Tm) : Tm := ⟨fl (x.c * y.c), x.e.add y.e⟩
structure MS where
 m : List Tm
 lo : Int
 hi : Int
def zcU (x : Tm) (s : MS) (y : Tm) : MS := ⟨zbH s.m (pT x y), s.lo + rlo (x.c * y.c) (x.e.add y.e), s.hi + rhi (x.c * y.c)⟩
def mU (a b : List Tm) (most i k : Int) (x y : Tm) (f0 f1 f2 f3 f4 f5 n : Int) (s : MS) : St := zho (b.map Tm.cs) most 0 0 x.c ((x.e.a : Nat) : Int) ((x.e.b : Nat) : Int) ((x.e.c : Nat) : Int) ((x.e.d : Nat) : Int) ((x.e.e : Nat) : Int) ((x.e.f : Nat) : Int) y.c ((y.e.a : Nat) : Int) ((y.e.b : Nat) : Int) ((y.e.c : Nat) : Int) ((y.e.d : Nat) : Int) ((y.e.e : Nat) : Int) ((y.e.f : Nat) : Int) f0 f1 f2 f3 f4 f5 (a.map Tm.cs) ((a.length : Nat) : Int) i (b.map Tm.cs) ((b.length : Nat) : Int) k ((y.e.a : Nat) : Int) ((y.e.b : Nat) : Int) ((y.e.c : Nat) : Int) ((y.e.d : Nat) : Int) ((y.e.e : Nat) : Int) ((y.e.f : Nat) : Int) n (s.m.map Tm.me) s.lo s.hi
theorem wu8 {x y z : Nat} (h : z = x + y) (hz : z < 256) : IntKind.wrap .u8 (((x : Nat) : Int) + ((y : Nat) : Int)) = ((z : Nat) : Int) := by
 subst h
 simp only [IntKind.wrap, IntKind.bits, IntKind.signed]
 simp
 omega
theorem zut (a b : List Tm) (most i k : Int) (x y : Tm) (z : E6) (hz : z = x.e.add y.e) (ho : z.ok) (s : MS) :
  zal (zp GZ LZ (CW GZ LZ) 63 none 11) (mU a b most i k x y ((x.e.a : Nat) : Int) ((x.e.b : Nat) : Int) ((x.e.c : Nat) : Int) ((x.e.d : Nat) : Int) ((x.e.e : Nat) : Int) ((x.e.f : Nat) : Int) 0 s) = some (.exit 4, mU a b most i k x y ((z.a : Nat) : Int) ((z.b : Nat) : Int) ((z.c : Nat) : Int) ((z.d : Nat) : Int) ((z.e : Nat) : Int) ((z.f : Nat) : Int) 6 s) := by
 obtain ⟨h1, h2, h3, h4, h5, h6⟩ := ho
 have za : z.a = x.e.a + y.e.a := by rw [hz]; rfl
 have zb : z.b = x.e.b + y.e.b := by rw [hz]; rfl
 have zc : z.c = x.e.c + y.e.c := by rw [hz]; rfl
 have zd : z.d = x.e.d + y.e.d := by rw [hz]; rfl
 have ze : z.e = x.e.e + y.e.e := by rw [hz]; rfl
 have zf : z.f = x.e.f + y.e.f := by rw [hz]; rfl
 have r0 : ∀ f0 f1 f2 f3 f4 f5, zp GZ LZ (CW GZ LZ) 63 none 11 (mU a b most i k x y f0 f1 f2 f3 f4 f5 0 s) = some (.normal, mU a b most i k x y (IntKind.wrap .u8 (f0 + ((y.e.a : Nat) : Int))) f1 f2 f3 f4 f5 1 s) := fun _ _ _ _ _ _ => by
  unfold mU; rw [zgD]; kernel_rfl
 have r1 : ∀ f0 f1 f2 f3 f4 f5, zp GZ LZ (CW GZ LZ) 63 none 11 (mU a b most i k x y f0 f1 f2 f3 f4 f5 1 s) = some (.normal, mU a b most i k x y f0 (IntKind.wrap .u8 (f1 + ((y.e.b : Nat) : Int))) f2 f3 f4 f5 2 s) := fun _ _ _ _ _ _ => by
  unfold mU; rw [zgD]; kernel_rfl
 have r2 : ∀ f0 f1 f2 f3 f4 f5, zp GZ LZ (CW GZ LZ) 63 none 11 (mU a b most i k x y f0 f1 f2 f3 f4 f5 2 s) = some (.normal, mU a b most i k x y f0 f1 (IntKind.wrap .u8 (f2 + ((y.e.c : Nat) : Int))) f3 f4 f5 3 s) := fun _ _ _ _ _ _ => by
  unfold mU; rw [zgD]; kernel_rfl
 have r3 : ∀ f0 f1 f2 f3 f4 f5, zp GZ LZ (CW GZ LZ) 63 none 11 (mU a b most i k x y f0 f1 f2 f3 f4 f5 3 s) = some (.normal, mU a b most i k x y f0 f1 f2 (IntKind.wrap .u8 (f3 + ((y.e.d : Nat) : Int))) f4 f5 4 s) := fun _ _ _ _ _ _ => by
  unfold mU; rw [zgD]; kernel_rfl
 have r4 : ∀ f0 f1 f2 f3 f4 f5, zp GZ LZ (CW GZ LZ) 63 none 11 (mU a b most i k x y f0 f1 f2 f3 f4 f5 4 s) = some (.normal, mU a b most i k x y f0 f1 f2 f3 (IntKind.wrap .u8 (f4 + ((y.e.e : Nat) : Int))) f5 5 s) := fun _ _ _ _ _ _ => by
  unfold mU; rw [zgD]; kernel_rfl
 have r5 : ∀ f0 f1 f2 f3 f4 f5, zp GZ LZ (CW GZ LZ) 63 none 11 (mU a b most i k x y f0 f1 f2 f3 f4 f5 5 s) = some (.normal, mU a b most i k x y f0 f1 f2 f3 f4 (IntKind.wrap .u8 (f5 + ((y.e.f : Nat) : Int))) 6 s) := fun _ _ _ _ _ _ => by
  unfold mU; rw [zgD]; kernel_rfl
 have r6 : ∀ f0 f1 f2 f3 f4 f5, zp GZ LZ (CW GZ LZ) 63 none 11 (mU a b most i k x y f0 f1 f2 f3 f4 f5 6 s) = some (.exit 4, mU a b most i k x y f0 f1 f2 f3 f4 f5 6 s) := fun _ _ _ _ _ _ => by
  unfold mU; rw [zgD]; kernel_rfl
 refine (zk (r0 _ _ _ _ _ _)).trans ((zk (r1 _ _ _ _ _ _)).trans ((zk (r2 _ _ _ _ _ _)).trans ((zk (r3 _ _ _ _ _ _)).trans ((zk (r4 _ _ _ _ _ _)).trans ((zk (r5 _ _ _ _ _ _)).trans ((zbb (r6 _ _ _ _ _ _)).trans ?_))))))
 rw [wu8 za h1, wu8 zb h2, wu8 zc h3, wu8 zd h4, wu8 ze h5, wu8 zf h6]
theorem ztG {lo hi : Int} (x : E6) (m : List (List V × List V)) (h1 : -1000000000 ≤ lo) (h2 : lo ≤ 1000000000) (h3 : -1000000000 ≤ hi) (h4 : hi ≤ 1000000000) :
  (CW GZ LZ).s (.func 98) [.ptr 1 0, .agg [.int .u8 ((x.a : Nat) : Int), .int .u8 ((x.b : Nat) : Int), .int .u8 ((x.c : Nat) : Int), .int .u8 ((x.d : Nat) : Int), .int .u8 ((x.e : Nat) : Int), .int .u8 ((x.f : Nat) : Int)]] [.map true false 6 m, .cells [.int .i64 lo, .int .i64 hi]] = some (.tuple [], [.map true false 6 m, .cells [.int .i64 (if x.odd = true then lo - 1 else lo), .int .i64 (hi + 1)]]) := by
 refine zed ?_
 rw [ztj]
 rw [p111 x, w64 (x := lo - 1) (by omega) (by omega), w64 (x := hi + 1) (by omega) (by omega)]
 simp only [zQ, Option.bind_some]
 cases x.odd <;> rfl
structure MI (c : Nat) (s : MS) : Prop where
 ok : mOk s.m
 len : s.m.length ≤ c
 mod : zdo s.m (70368744177664 * c)
 lo1 : -(c : Int) ≤ s.lo
 lo2 : s.lo ≤ c
 hi1 : -(c : Int) ≤ s.hi
 hi2 : s.hi ≤ c
theorem fl_b {x y : Int} (hx : zz x) (hy : zz y) : -70368744177664 ≤ fl (x * y) ∧ fl (x * y) ≤ 70368744177664 := by
 have := zb7 hx hy
 unfold zcr at this
 unfold fl
 omega
theorem zfM {x y : Tm} (hx : zbs x) (hy : zbs y) : (x.e.add y.e).ok := by
 have h1 := hx.2.2
 have h2 := hy.2.2
 simp only [E6.deg] at h1 h2
 simp only [E6.add, E6.ok]
 omega
theorem zuu {c : Nat} {s : MS} (h : MI c s) {x y : Tm} (hx : zbs x) (hy : zbs y) : MI (c + 1) (zcU x s y) := by
 have hf := fl_b hx.1 hy.1
 have hl := zlq (x.c * y.c) (x.e.add y.e)
 have hh := zlr (x.c * y.c)
 obtain ⟨h1, h2, h3, h4, h5, h6, h7⟩ := h
 refine ⟨⟨zia _ _ h1.dk, zky _ _ h1.ok (zfM hx hy)⟩, ?_, ?_, ?_, ?_, ?_, ?_⟩
 ·have := zoo s.m (pT x y)
  simp only [zcU]; omega
 ·have := zop s.m (pT x y) h3 (by omega) hf.1 hf.2 (by decide)
  rw [show (70368744177664 : Int) * ((c + 1 : Nat) : Int) = 70368744177664 * (c : Int) + 70368744177664 by omega]
  exact this
 ·simp only [zcU]; omega
 ·simp only [zcU]; omega
 ·simp only [zcU]; omega
 ·simp only [zcU]; omega
def mW (a b : List Tm) (most i k : Int) (x : Tm) (s : MS) : St := zen (b.map Tm.cs) most 0 0 x.c ((x.e.a : Nat) : Int) ((x.e.b : Nat) : Int) ((x.e.c : Nat) : Int) ((x.e.d : Nat) : Int) ((x.e.e : Nat) : Int) ((x.e.f : Nat) : Int) (a.map Tm.cs) ((a.length : Nat) : Int) i (b.map Tm.cs) ((b.length : Nat) : Int) k (s.m.map Tm.me) s.lo s.hi
set_option maxRecDepth 100000 in
theorem zsg (a b : List Tm) (most i : Int) (x : Tm) (hx : zbs x) (k : Nat) (hk : k < b.length) (hb : b.length ≤ 1000) (hy : zbs b[k]) (c : Nat) (hc : c ≤ 20000) (s : MS) (hs : MI c s) :
  zp GZ LZ (CW GZ LZ) 63 none 7 (mW a b most i ((k : Nat) : Int) x s) = some (.normal, mW a b most i ((k + 1 : Nat) : Int) x (zcU x s b[k])) := by
 have e1 : decide (((k : Nat) : Int) < ((b.length : Nat) : Int)) = true := zba hk
 have ws := zaV k (by omega)
 have hgt := zbe b k hk
 generalize b[k] = y at *
 obtain ⟨z, hz⟩ : ∃ z, z = x.e.add y.e := ⟨_, rfl⟩
 have ho : z.ok := by rw [hz]; exact zfM hx hy
 have hrow := zut a b most i ((k : Nat) : Int) x y z hz ho s
 have hmul := p97 x.c y.c (zb7 hx.1 hy.1)
 have hmod := hs.mod
 have hf := fl_b hx.1 hy.1
 have hl1 := hs.lo1
 have hl2 := hs.lo2
 have hh1 := hs.hi1
 have hh2 := hs.hi2
 have hround := ztG (lo := s.lo) (hi := s.hi) z ((zbH s.m ⟨fl (x.c * y.c), z⟩).map Tm.me) (by omega) (by omega) (by omega) (by omega)
 have hstep : zcU x s y = ⟨zbH s.m ⟨fl (x.c * y.c), z⟩, s.lo + rlo (x.c * y.c) z, s.hi + rhi (x.c * y.c)⟩ := by rw [hz]; rfl
 rw [hstep]
 have hok := hs.ok.ok
 clear hstep hz hs
 unfold mU at hrow
 unfold mW
 rw [e63_7, e1, hgt]
 simp only [zam, zan, zr, zs, zG, zt, Option.bind_some, cond_true]
 rw [zaz]
 refine (zZ hrow _).trans ?_
 have g : ∀ t, t = zho (b.map Tm.cs) most 0 0 x.c ((x.e.a : Nat) : Int) ((x.e.b : Nat) : Int) ((x.e.c : Nat) : Int) ((x.e.d : Nat) : Int) ((x.e.e : Nat) : Int) ((x.e.f : Nat) : Int) y.c ((y.e.a : Nat) : Int) ((y.e.b : Nat) : Int) ((y.e.c : Nat) : Int) ((y.e.d : Nat) : Int) ((y.e.e : Nat) : Int) ((y.e.f : Nat) : Int) ((z.a : Nat) : Int) ((z.b : Nat) : Int) ((z.c : Nat) : Int) ((z.d : Nat) : Int) ((z.e : Nat) : Int) ((z.f : Nat) : Int) (a.map Tm.cs) ((a.length : Nat) : Int) i (b.map Tm.cs) ((b.length : Nat) : Int) ((k : Nat) : Int) ((y.e.a : Nat) : Int) ((y.e.b : Nat) : Int) ((y.e.c : Nat) : Int) ((y.e.d : Nat) : Int) ((y.e.e : Nat) : Int) ((y.e.f : Nat) : Int) 6 (s.m.map Tm.me) s.lo s.hi →
   nth t.t 1 = .slice .any (b.map Tm.cs) ∧ nth t.t 2 = .int .i64 most ∧ nth t.t 7 = .box [.int .i64 0, .int .i64 0] ∧ nth t.t 8 = .map 0 ∧ nth t.t 9 = .ptr 1 0 ∧ nth t.t 11 = .box [.int .i64 x.c, .int .u8 ((x.e.a : Nat) : Int), .int .u8 ((x.e.b : Nat) : Int), .int .u8 ((x.e.c : Nat) : Int), .int .u8 ((x.e.d : Nat) : Int), .int .u8 ((x.e.e : Nat) : Int), .int .u8 ((x.e.f : Nat) : Int)] ∧ nth t.t 13 = .box [.int .i64 y.c, .int .u8 ((y.e.a : Nat) : Int), .int .u8 ((y.e.b : Nat) : Int), .int .u8 ((y.e.c : Nat) : Int), .int .u8 ((y.e.d : Nat) : Int), .int .u8 ((y.e.e : Nat) : Int), .int .u8 ((y.e.f : Nat) : Int)] ∧ nth t.t 14 = .box [.int .u8 ((z.a : Nat) : Int), .int .u8 ((z.b : Nat) : Int), .int .u8 ((z.c : Nat) : Int), .int .u8 ((z.d : Nat) : Int), .int .u8 ((z.e : Nat) : Int), .int .u8 ((z.f : Nat) : Int)] ∧ nth t.t 23 = .slice .any (a.map Tm.cs) ∧ nth t.t 24 = .int .i64 ((a.length : Nat) : Int) ∧ nth t.t 25 = .int .i64 i ∧ nth t.t 29 = .slice .any (b.map Tm.cs) ∧ nth t.t 30 = .int .i64 ((b.length : Nat) : Int) ∧ nth t.t 31 = .int .i64 ((k : Nat) : Int) ∧ nth t.t 38 = .agg [.int .u8 ((y.e.a : Nat) : Int), .int .u8 ((y.e.b : Nat) : Int), .int .u8 ((y.e.c : Nat) : Int), .int .u8 ((y.e.d : Nat) : Int), .int .u8 ((y.e.e : Nat) : Int), .int .u8 ((y.e.f : Nat) : Int)] ∧ nth t.t 39 = .int .i64 6 ∧ t.h = [.map true false 6 (s.m.map Tm.me), .cells [.int .i64 s.lo, .int .i64 s.hi]] := by
  intro t ht; subst ht
  exact ⟨rfl, rfl, rfl, rfl, rfl, rfl, rfl, rfl, rfl, rfl, rfl, rfl, rfl, rfl, rfl, rfl, rfl⟩
 obtain ⟨g1, g2, g3, g4, g5, g6, g7, g8, g9, g10, g11, g12, g13, g14, g15, g16, g17⟩ := g _ rfl
 rw [Option.bind_some]
 dsimp only
 rw [g1, g2, g3, g4, g5, g6, g7, g8, g9, g10, g11, g12, g13, g14, g15, g16, g17]
 simp only [Nat.beq_refl, zD, zP, zr, zs, zG, zt, Option.bind_some, cond_true, zw, zC, zu, zcA, zK, zR]
 rw [hmul]
 simp only [zI, zr, zs, zt, Option.bind_some]
 rw [zse]
 rw [Option.bind_some]
 have tail : ∀ (M : List (List V × List V)), M = (zbH s.m ⟨fl (x.c * y.c), z⟩).map Tm.me → ∀ (A : Option (Ex × St)), A = (cond (fl (x.c * y.c) != ce (x.c * y.c))
   (((CW GZ LZ).s (.func 98) [.ptr 1 0, .agg [.int .u8 ((z.a : Nat) : Int), .int .u8 ((z.b : Nat) : Int), .int .u8 ((z.c : Nat) : Int), .int .u8 ((z.d : Nat) : Int), .int .u8 ((z.e : Nat) : Int), .int .u8 ((z.f : Nat) : Int)]] [.map true false 6 M, .cells [.int .i64 s.lo, .int .i64 s.hi]]).bind fun x115 =>
     (zy (x115.1)).bind fun x116 =>
     (zh x116).bind fun x117 =>
     (zJ x115.2).bind fun x118 =>
     (zbU true false 6 x118.1).bind fun x119 =>
     (zJ x118.2).bind fun x120 =>
     (zX x120.1).bind fun x121 =>
     (zg x121).bind fun x122 =>
     (asInt .i64 (x122.1)).bind fun x123 =>
     (zg x122.2).bind fun x124 =>
     (asInt .i64 (x124.1)).bind fun x125 =>
     (zh x124.2).bind fun x126 =>
     some (.normal, (zen (b.map Tm.cs) most 0 0 x.c ((x.e.a : Nat) : Int) ((x.e.b : Nat) : Int) ((x.e.c : Nat) : Int) ((x.e.d : Nat) : Int) ((x.e.e : Nat) : Int) ((x.e.f : Nat) : Int) (a.map Tm.cs) ((a.length : Nat) : Int) i (b.map Tm.cs) ((b.length : Nat) : Int) (IntKind.wrap .i64 (((k : Nat) : Int) + 1)) x119 x123 x125)))
   (some (.normal, (zen (b.map Tm.cs) most 0 0 x.c ((x.e.a : Nat) : Int) ((x.e.b : Nat) : Int) ((x.e.c : Nat) : Int) ((x.e.d : Nat) : Int) ((x.e.e : Nat) : Int) ((x.e.f : Nat) : Int) (a.map Tm.cs) ((a.length : Nat) : Int) i (b.map Tm.cs) ((b.length : Nat) : Int) (IntKind.wrap .i64 (((k : Nat) : Int) + 1)) M s.lo s.hi)))) →
   A = some (.normal, zen (b.map Tm.cs) most 0 0 x.c ((x.e.a : Nat) : Int) ((x.e.b : Nat) : Int) ((x.e.c : Nat) : Int) ((x.e.d : Nat) : Int) ((x.e.e : Nat) : Int) ((x.e.f : Nat) : Int) (a.map Tm.cs) ((a.length : Nat) : Int) i (b.map Tm.cs) ((b.length : Nat) : Int) ((k + 1 : Nat) : Int) ((zbH s.m ⟨fl (x.c * y.c), z⟩).map Tm.me) (s.lo + rlo (x.c * y.c) z) (s.hi + rhi (x.c * y.c))) := by
  intro M hM A hA
  rw [hA, hM, ws]
  cases hx : zh5 (x.c * y.c)
  ·have hx' : (fl (x.c * y.c) != ce (x.c * y.c)) = false := hx
   have e1 : rlo (x.c * y.c) z = 0 := by simp [rlo, hx]
   have e2 : rhi (x.c * y.c) = 0 := by simp [rhi, hx]
   rw [hx', e1, e2, Int.add_zero, Int.add_zero]
   rfl
  ·have hx' : (fl (x.c * y.c) != ce (x.c * y.c)) = true := hx
   have e1 : s.lo + rlo (x.c * y.c) z = if z.odd = true then s.lo - 1 else s.lo := by
    simp only [rlo, hx, true_and]; split <;> omega
   have e2 : rhi (x.c * y.c) = 1 := by simp [rhi, hx]
   rw [hx', e1, e2]
   simp only [cond_true]
   rw [hround]
   simp only [zI, zt, zC, zcA, zu, zr, zs, Option.bind_some]
 cases hfi : s.m.findIdx? (fun t => z.eqb t.e) with
 | none =>
  obtain ⟨q1, q2⟩ := zsf ⟨fl (x.c * y.c), z⟩ s.m 0 hfi hok ho
  have w0 : IntKind.wrap .i64 (0 + fl (x.c * y.c)) = fl (x.c * y.c) := by rw [Int.zero_add]; exact w64 (by omega) (by omega)
  simp only
  rw [Option.bind_some, Int.toNat_natCast, w0]
  rw [show decide (zbW (s.m.map Tm.me) none < (zcV (s.m.map Tm.me) none [.int .u8 ((z.a : Nat) : Int), .int .u8 ((z.b : Nat) : Int), .int .u8 ((z.c : Nat) : Int), .int .u8 ((z.d : Nat) : Int), .int .u8 ((z.e : Nat) : Int), .int .u8 ((z.f : Nat) : Int)] [.int .i64 0]).length) = true from decide_eq_true q2]
  simp only [cond_true]
  exact tail _ q1 _ rfl
 | some j =>
  obtain ⟨hj, q1, q2⟩ := zmK ⟨fl (x.c * y.c), z⟩ s.m j hfi hok ho
  have hb2 := hmod s.m[j] (List.getElem_mem hj)
  have w0 : IntKind.wrap .i64 (s.m[j].c + fl (x.c * y.c)) = s.m[j].c + fl (x.c * y.c) := w64 (by omega) (by omega)
  have hmv : zeG (s.m.map Tm.me) j = some [.int .i64 s.m[j].c] := by simp [zeG, hj, Tm.me]
  simp only
  rw [hmv]
  simp only [zr, zs, zt, Option.bind_some]
  rw [Int.toNat_natCast, w0]
  rw [show decide (zbW (s.m.map Tm.me) (some j) < (zcV (s.m.map Tm.me) (some j) [.int .u8 ((z.a : Nat) : Int), .int .u8 ((z.b : Nat) : Int), .int .u8 ((z.c : Nat) : Int), .int .u8 ((z.d : Nat) : Int), .int .u8 ((z.e : Nat) : Int), .int .u8 ((z.f : Nat) : Int)] [.int .i64 0]).length) = true from decide_eq_true (by simpa [zbW, zcV] using hj)]
  simp only [cond_true]
  exact tail _ q2 _ rfl
end Go.Ab
namespace Go.Ab
def zaD (p : List Tm) : Prop := ∀ t ∈ p, zbs t
theorem zsh (a b : List Tm) (hb : zaD b) (hbl : b.length ≤ 100) (most i : Int) (x : Tm) (hx : zbs x) (c : Nat) (hc : c ≤ 10000) (s : MS) (hs : MI c s) :
  zal (zp GZ LZ (CW GZ LZ) 63 none 7) (mW a b most i 0 x s) = some (.exit 2, mW a b most i ((b.length : Nat) : Int) x (b.foldl (zcU x) s)) ∧ MI (c + b.length) (b.foldl (zcU x) s) :=
 zeW (round := zp GZ LZ (CW GZ LZ) 63 none 7) (fun k s => mW a b most i ((k : Nat) : Int) x s) (zcU x) (fun k s => MI (c + k) s) b (id := 2)
  (fun k hk s hs => ⟨zsg a b most i x hx k hk (by omega) (hb _ (List.getElem_mem hk)) (c + k) (by omega) s hs, zuu hs hx (hb _ (List.getElem_mem hk))⟩)
  (fun s _ => by unfold mW; rw [e63_7, za7]; rfl) s hs
def mV (a b : List Tm) (most i : Int) (s : MS) : St := zjs (b.map Tm.cs) most 0 0 (a.map Tm.cs) ((a.length : Nat) : Int) i (s.m.map Tm.me) s.lo s.hi
def zkz (b : List Tm) (s : MS) (x : Tm) : MS := b.foldl (zcU x) s
theorem zqz (a b : List Tm) (ha : zaD a) (hal : a.length ≤ 100) (hb : zaD b) (hbl : b.length ≤ 100) (most : Int) (i : Nat) (hi : i < a.length) (s : MS) (hs : MI (i * b.length) s) :
  zp GZ LZ (CW GZ LZ) 63 none 4 (mV a b most ((i : Nat) : Int) s) = some (.normal, mV a b most ((i + 1 : Nat) : Int) (zkz b s a[i])) ∧ MI ((i + 1) * b.length) (zkz b s a[i]) := by
 have hc : i * b.length ≤ 10000 := by
  have := Nat.mul_le_mul (show i ≤ 100 by omega) hbl
  omega
 obtain ⟨hl, hI⟩ := zsh a b hb hbl most ((i : Nat) : Int) a[i] (ha _ (List.getElem_mem hi)) _ hc s hs
 refine ⟨?_, by rw [Nat.add_mul, Nat.one_mul]; exact hI⟩
 have e1 : decide (((i : Nat) : Int) < ((a.length : Nat) : Int)) = true := zba hi
 have ws := zaV i (by omega)
 have hgt := zbe a i hi
 unfold zkz
 generalize a[i] = x at *
 generalize b.foldl (zcU x) s = u at *
 unfold mV
 unfold mW at hl
 rw [e63_4, e1, hgt]
 simp only [zam, zan, zr, zs, zG, zt, Option.bind_some, cond_true]
 rw [zaz, List.length_map]
 refine (zZ hl _).trans ?_
 have g : ∀ t, t = zen (b.map Tm.cs) most 0 0 x.c ((x.e.a : Nat) : Int) ((x.e.b : Nat) : Int) ((x.e.c : Nat) : Int) ((x.e.d : Nat) : Int) ((x.e.e : Nat) : Int) ((x.e.f : Nat) : Int) (a.map Tm.cs) ((a.length : Nat) : Int) ((i : Nat) : Int) (b.map Tm.cs) ((b.length : Nat) : Int) ((b.length : Nat) : Int) (u.m.map Tm.me) u.lo u.hi →
   nth t.t 1 = .slice .any (b.map Tm.cs) ∧ nth t.t 2 = .int .i64 most ∧ nth t.t 7 = .box [.int .i64 0, .int .i64 0] ∧ nth t.t 8 = .map 0 ∧ nth t.t 9 = .ptr 1 0 ∧ nth t.t 11 = .box [.int .i64 x.c, .int .u8 ((x.e.a : Nat) : Int), .int .u8 ((x.e.b : Nat) : Int), .int .u8 ((x.e.c : Nat) : Int), .int .u8 ((x.e.d : Nat) : Int), .int .u8 ((x.e.e : Nat) : Int), .int .u8 ((x.e.f : Nat) : Int)] ∧ nth t.t 23 = .slice .any (a.map Tm.cs) ∧ nth t.t 24 = .int .i64 ((a.length : Nat) : Int) ∧ nth t.t 25 = .int .i64 ((i : Nat) : Int) ∧ nth t.t 29 = .slice .any (b.map Tm.cs) ∧ nth t.t 30 = .int .i64 ((b.length : Nat) : Int) ∧ nth t.t 31 = .int .i64 ((b.length : Nat) : Int) ∧ t.h = [.map true false 6 (u.m.map Tm.me), .cells [.int .i64 u.lo, .int .i64 u.hi]] := by
  intro t ht; subst ht
  exact ⟨rfl, rfl, rfl, rfl, rfl, rfl, rfl, rfl, rfl, rfl, rfl, rfl, rfl⟩
 obtain ⟨g1, g2, g3, g4, g5, g6, g7, g8, g9, g10, g11, g12, g13⟩ := g _ rfl
 rw [Option.bind_some]
 dsimp only
 rw [g1, g2, g3, g4, g5, g6, g7, g8, g9, g10, g11, g12, g13]
 simp only [Nat.beq_refl, zD, zP, zr, zs, zG, zt, Option.bind_some, cond_true, zC, zu, zcA, zK, zR, ws]
theorem MI_0 : MI 0 ⟨[], 0, 0⟩ := ⟨⟨List.Pairwise.nil, fun t ht => by cases ht⟩, Nat.le_refl _, (fun t ht => by cases ht), by decide, by decide, by decide, by decide⟩
def zkA (a b : List Tm) : MS := a.foldl (zkz b) ⟨[], 0, 0⟩
theorem zsi (a b : List Tm) (ha : zaD a) (hal : a.length ≤ 100) (hb : zaD b) (hbl : b.length ≤ 100) (most : Int) :
  zal (zp GZ LZ (CW GZ LZ) 63 none 4) (mV a b most 0 ⟨[], 0, 0⟩) = some (.exit 0, mV a b most ((a.length : Nat) : Int) (zkA a b)) ∧ MI (a.length * b.length) (zkA a b) :=
 zeW (round := zp GZ LZ (CW GZ LZ) 63 none 4) (fun i s => mV a b most ((i : Nat) : Int) s) (zkz b) (fun i s => MI (i * b.length) s) a (id := 0)
  (fun i hi s hs => zqz a b ha hal hb hbl most i hi s hs)
  (fun s _ => by unfold mV; rw [e63_4, za7]; rfl) ⟨[], 0, 0⟩ (by rw [Nat.zero_mul]; exact MI_0)
instance (x : E6) : Decidable x.ok := inferInstanceAs (Decidable (_ ∧ _))
def mkR (x : E6) (h : x.ok) : R6 := ⟨x, h⟩
def toR (x : E6) : R6 := if h : x.ok then mkR x h else default
theorem zos {x : E6} (h : x.ok) : (toR x).1 = x := by unfold toR; rw [dif_pos h]; rfl
theorem zmL (t : Tm) (ht : t.e.ok) : ∀ l : List Tm, oks l → zeu (toR t.e) (l.map fun u => toR u.e) = (zcH t l).map fun u => toR u.e
 | [], _ => rfl
 | y :: l, h => by
  have hy := h y (by simp)
  have ih := zmL t ht l fun u hu => h u (by simp [hu])
  simp only [List.map_cons, zeu, zcH, zos ht, zos hy]
  split
  ·rfl
  ·rw [ih]; rfl
theorem ziW {m : List Tm} (h : oks m) : oks (zb2 m) := fun t ht => h t ((zgX m t).1 ht)
theorem zlw : ∀ m : List Tm, oks m → (m.map fun u => toR u.e).foldr zeu [] = (zb2 m).map fun u => toR u.e
 | [], _ => rfl
 | t :: m, h => by
  have h' : oks m := fun u hu => h u (by simp [hu])
  have ih := zlw m h'
  rw [List.map_cons, List.foldr_cons, ih, zmL t (h t (by simp)) _ (ziW h')]; rfl
theorem zsj (m : List Tm) (h : oks m) : zfi (m.map fun t => t.e.l) = (zb2 m).map fun t => t.e.l := by
 have e : ∀ l : List Tm, oks l → (l.map fun t => t.e.l) = (l.map fun u => toR u.e).map fun r => r.1.l := fun l hl => by
  rw [List.map_map]
  refine List.map_congr_left fun t ht => ?_
  simp only [Function.comp, zos (hl t ht)]
 rw [e m h, zei, zlw m h, ← e _ (ziW h)]
theorem zlx : ∀ m : List Tm, zet ((m.map Tm.me).map (·.1)) = some (m.map fun t => t.e.l)
 | [] => rfl
 | t :: m => by
  simp only [List.map_cons, zet, zlx m]
  rfl
theorem zqA (m : List Tm) (h : oks m) (hl : m.length < 1000000) (lo hi : Int) :
  (CW GZ LZ).s (.func 99) [.fn (.func 114) [] [.ptr 3 0], .fn (.func 92) [] []] [.map true false 6 (m.map Tm.me), .cells [.int .i64 lo, .int .i64 hi], .arr true 7 [], .cells [.map 0]] =
   some (.slice .any ((zb2 m).map fun t => t.e.cs), [.map true false 6 (m.map Tm.me), .cells [.int .i64 lo, .int .i64 hi], .arr true 7 [], .cells [.map 0]]) := by
 refine zed ?_
 have hs : ∀ C, zO GZ LZ C (.func 99) [.fn (.func 114) [] [.ptr 3 0], .fn (.func 92) [] []] [.map true false 6 (m.map Tm.me), .cells [.int .i64 lo, .int .i64 hi], .arr true 7 [], .cells [.map 0]] = zgB 114 92 [.fn (.func 114) [] [.ptr 3 0], .fn (.func 92) [] []] [.map true false 6 (m.map Tm.me), .cells [.int .i64 lo, .int .i64 hi], .arr true 7 [], .cells [.map 0]] := fun _ => rfl
 rw [hs]
 unfold zgB
 have h1 : zjr 92 (.fn (.func 92) [] []) = true := rfl
 have h2 : zlk 114 [.map true false 6 (m.map Tm.me), .cells [.int .i64 lo, .int .i64 hi], .arr true 7 [], .cells [.map 0]] (.fn (.func 114) [] [.ptr 3 0]) = some (m.map Tm.me) := rfl
 dsimp only
 rw [h1, h2]
 dsimp only
 rw [Option.bind_some, zlx, Option.bind_some]
 rw [if_pos, zsj m h, List.map_map]
 ·rfl
 ·refine ⟨by simpa using hl, fun k hk => ?_⟩
  obtain ⟨t, ht, rfl⟩ := List.mem_map.1 hk
  have := h t ht
  simp only [E6.ok] at this
  refine ⟨rfl, fun n hn => ?_⟩
  simp only [E6.l, List.mem_cons, List.not_mem_nil, or_false] at hn
  omega
theorem zmM : ∀ (m : List Tm) (t : Tm), oks m → zjz m → t ∈ m → ∃ j, m.findIdx? (fun u => t.e.eqb u.e) = some j ∧ ∃ hj : j < m.length, m[j] = t
 | [], t, _, _, h => by cases h
 | x :: m, t, ho, hd, h => by
  obtain ⟨h1, h2⟩ := List.pairwise_cons.1 hd
  have hx := ho x (by simp)
  have ht := ho t h
  rw [List.findIdx?_cons]
  simp only [zl5 ht hx]
  rcases List.mem_cons.1 h with rfl | hm
  ·exact ⟨0, by simp, by simp, rfl⟩
  ·have hne : ¬ t.e.key = x.e.key := fun e => h1 t hm e.symm
   obtain ⟨j, g1, g2, g3⟩ := zmM m t (fun u hu => ho u (by simp [hu])) h2 hm
   refine ⟨j + 1, by simp [hne, g1], by simpa using g2, by simpa using g3⟩
def mX (ks : List Tm) (most : Int) (i : Nat) (m : List Tm) (lo hi : Int) : St := zgC most 0 0 (((ks.take i).map Tm.cs).length) (ks.map fun t => t.e.cs) ((ks.length : Nat) : Int) ((i : Nat) : Int) (m.map Tm.me) lo hi ((ks.take i).map Tm.cs)
theorem zpj (ks m : List Tm) (hm : mOk m) (hks : ∀ t ∈ ks, t ∈ m) (hl : ks.length ≤ 100000) (most lo hi : Int) (i : Nat) (hi' : i < ks.length) :
  zp GZ LZ (CW GZ LZ) 63 none 23 (mX ks most i m lo hi) = some (.normal, mX ks most (i + 1) m lo hi) := by
 obtain ⟨j, f1, f2, f3⟩ := zmM m ks[i] hm.ok hm.dk (hks _ (List.getElem_mem hi'))
 have e1 : decide (((i : Nat) : Int) < ((ks.length : Nat) : Int)) = true := zba hi'
 have ws := zaV i (by omega)
 have hg : zS (ks.map fun t => t.e.cs) ((i : Nat) : Int) 6 = some ks[i].e.cs := zdm (fun t : Tm => t.e.cs) (fun _ => rfl) ks i hi'
 have hr : decide ((((ks.take i).map Tm.cs).length + 1) * 16 ≤ zag) = true := by
  simp only [List.length_map, List.length_take, decide_eq_true_eq]; unfold zag; omega
 have ap : List.append ((ks.take i).map Tm.cs) [[.int .i64 ks[i].c, .int .u8 ((ks[i].e.a : Nat) : Int), .int .u8 ((ks[i].e.b : Nat) : Int), .int .u8 ((ks[i].e.c : Nat) : Int), .int .u8 ((ks[i].e.d : Nat) : Int), .int .u8 ((ks[i].e.e : Nat) : Int), .int .u8 ((ks[i].e.f : Nat) : Int)]] = (ks.take i ++ [ks[i]]).map Tm.cs := by rw [List.map_append]; rfl
 have aq : ((ks.take i).map Tm.cs).length + 1 = ((ks.take i ++ [ks[i]]).map Tm.cs).length := by rw [List.map_append, List.length_append]; rfl
 have hmv : zeG (m.map Tm.me) j = some [.int .i64 ks[i].c] := by
  simp only [zeG, List.getElem?_map, List.getElem?_eq_getElem f2, f3]; rfl
 unfold mX
 rw [zrK, e1, hg, zb6 hi']
 generalize ks[i] = t at *
 have hcs : t.e.cs = [.int .u8 ((t.e.a : Nat) : Int), .int .u8 ((t.e.b : Nat) : Int), .int .u8 ((t.e.c : Nat) : Int), .int .u8 ((t.e.d : Nat) : Int), .int .u8 ((t.e.e : Nat) : Int), .int .u8 ((t.e.f : Nat) : Int)] := rfl
 rw [hcs]
 simp only [zr, zG, zt, Option.bind_some, cond_true]
 rw [zse, f1, Option.bind_some]
 simp only
 rw [hmv]
 simp only [zr, zs, zt, Option.bind_some, decide_true, cond_true]
 rw [hr, ap, aq, ws]
 rfl
def zcl (a b : List Tm) (most : Int) : List Tm × Iv := zar (zb2 (zkA a b).m) most (zkA a b).lo (zkA a b).hi
set_option maxRecDepth 100000 in
theorem p63 (a b : List Tm) (ha : zaD a) (hal : a.length ≤ 100) (hb : zaD b) (hbl : b.length ≤ 100) (most : Int) :
  (CW GZ LZ).p (.func 63) [.slice .any (a.map Tm.cs), .slice .any (b.map Tm.cs), .int .i64 most] = some (.tuple [.slice .any ((zcl a b most).1.map Tm.cs), .agg (zcl a b most).2.c]) := by
 obtain ⟨hl4, hI⟩ := zsi a b ha hal hb hbl most
 have hc : a.length * b.length ≤ 10000 := Nat.mul_le_mul hal hbl
 unfold zcl
 generalize zkA a b = s at *
 have hlen := hI.len
 have hl1 := hI.lo1
 have hl2 := hI.lo2
 have hh1 := hI.hi1
 have hh2 := hI.hi2
 have hsl := zmJ s.m
 have hso := ziW hI.ok.ok
 have hsr := zqA s.m hI.ok.ok (by omega) s.lo s.hi
 have hl23 := zch (round := zp GZ LZ (CW GZ LZ) 63 none 23) (fun i => mX (zb2 s.m) most i s.m s.lo s.hi) (zb2 s.m).length (id := 6)
  (fun i hi => zpj (zb2 s.m) s.m hI.ok (fun t ht => (zgX _ _).1 ht) (by omega) most s.lo s.hi i hi)
  (by unfold mX; rw [zrK, za7]; rfl)
 have hfin := p94 (zb2 s.m) most s.lo s.hi hso (by unfold few; omega) (by omega) (by omega) (by omega) (by omega)
 have hkeys : ∀ r, (CW GZ LZ).s (.func 100) [.map 0] [.map true false 6 (s.m.map Tm.me), .cells [.int .i64 s.lo, .int .i64 s.hi], .arr true 7 r] = some (.fn (.func 114) [] [.ptr 3 0], [.map true false 6 (s.m.map Tm.me), .cells [.int .i64 s.lo, .int .i64 s.hi], .arr true 7 r, .cells [.map 0]]) := fun r => zed (zrL _ _ _ _ _)
 clear hlen hl1 hl2 hh1 hh2 hc hI hso
 generalize zb2 s.m = q at *
 unfold mV at hl4
 unfold mX at hl23
 rw [List.take_length] at hl23
 refine zaA (u := .tuple [.slice .any ((zar q most s.lo s.hi).1.map Tm.cs), .agg (zar q most s.lo s.hi).2.c]) (h := [.map true false 6 (s.m.map Tm.me), .cells [.int .i64 s.lo, .int .i64 s.hi], .arr false 7 (q.map Tm.cs), .cells [.map 0]]) ?_ rfl
 rw [e63, zaz, List.length_map]
 refine (zZ hl4 _).trans ?_
 have g : ∀ t, t = zjs (b.map Tm.cs) most 0 0 (a.map Tm.cs) ((a.length : Nat) : Int) ((a.length : Nat) : Int) (s.m.map Tm.me) s.lo s.hi →
   nth t.t 1 = .slice .any (b.map Tm.cs) ∧ nth t.t 2 = .int .i64 most ∧ nth t.t 7 = .box [.int .i64 0, .int .i64 0] ∧ nth t.t 8 = .map 0 ∧ nth t.t 9 = .ptr 1 0 ∧ nth t.t 23 = .slice .any (a.map Tm.cs) ∧ nth t.t 24 = .int .i64 ((a.length : Nat) : Int) ∧ nth t.t 25 = .int .i64 ((a.length : Nat) : Int) ∧ t.h = [.map true false 6 (s.m.map Tm.me), .cells [.int .i64 s.lo, .int .i64 s.hi]] := by
  intro t ht; subst ht
  exact ⟨rfl, rfl, rfl, rfl, rfl, rfl, rfl, rfl, rfl⟩
 obtain ⟨g1, g2, g3, g4, g5, g6, g7, g8, g9⟩ := g _ rfl
 rw [Option.bind_some]
 dsimp only
 rw [g1, g2, g3, g4, g5, g6, g7, g8, g9]
 simp only [Nat.beq_refl, zD, zP, zr, zs, zG, zt, Option.bind_some, cond_true, zC, zu, zcA, zK, zR]
 rw [hkeys]
 simp only [zr, zs, zt, Option.bind_some, zC, zu, zcA, zK, zR, z6, zH]
 rw [hsr]
 simp only [zr, zs, zt, Option.bind_some, zC, zu, zcA, zK, zR, zD, zH]
 rw [List.length_map]
 refine (zZ hl23 _).trans ?_
 have g' : ∀ t, t = zgC most 0 0 ((q.map Tm.cs).length) (q.map fun t => t.e.cs) ((q.length : Nat) : Int) ((q.length : Nat) : Int) (s.m.map Tm.me) s.lo s.hi (q.map Tm.cs) →
   nth t.t 2 = .int .i64 most ∧ nth t.t 7 = .box [.int .i64 0, .int .i64 0] ∧ nth t.t 8 = .map 0 ∧ nth t.t 9 = .ptr 1 0 ∧ nth t.t 19 = .arr 2 ((q.map Tm.cs).length) 7 ∧ nth t.t 74 = .slice .any (q.map fun t => t.e.cs) ∧ nth t.t 75 = .int .i64 ((q.length : Nat) : Int) ∧ nth t.t 76 = .int .i64 ((q.length : Nat) : Int) ∧ t.h = [.map true false 6 (s.m.map Tm.me), .cells [.int .i64 s.lo, .int .i64 s.hi], .arr true 7 (q.map Tm.cs), .cells [.map 0]] := by
  intro t ht; subst ht
  exact ⟨rfl, rfl, rfl, rfl, rfl, rfl, rfl, rfl, rfl⟩
 obtain ⟨k1, k2, k3, k4, k5, k6, k7, k8, k9⟩ := g' _ rfl
 have har : zak [.map true false 6 (s.m.map Tm.me), .cells [.int .i64 s.lo, .int .i64 s.hi], .arr true 7 (q.map Tm.cs), .cells [.map 0]] 2 ((q.map Tm.cs).length) = some (q.map Tm.cs) := by simp [zak, zav]
 rw [Option.bind_some]
 dsimp only
 rw [k1, k2, k3, k4, k5, k6, k7, k8, k9]
 simp only [Nat.beq_refl, zD, zP, zr, zs, zG, zt, Option.bind_some, cond_true, zC, zu, zcA, zK, zR, zY, zH]
 rw [har, Option.bind_some, hfin]
 simp only [zI, zD, zw, zB, zr, zs, zt, Option.bind_some]
 rfl
end Go.Ab
namespace Go.Ab
def zbw (x : Tm) (s : MS) (y : Tm) : MS := ⟨ins s.m (pT x y), s.lo + rlo (x.c * y.c) (x.e.add y.e), s.hi + rhi (x.c * y.c)⟩
structure RI (c : Nat) (s : MS) : Prop where
 ok : oks s.m
 len : s.m.length ≤ c
 mod : zdo s.m (70368744177664 * c)
 lo1 : -(c : Int) ≤ s.lo
 lo2 : s.lo ≤ c
 hi1 : -(c : Int) ≤ s.hi
 hi2 : s.hi ≤ c
theorem zuv {c : Nat} {s : MS} (h : RI c s) {x y : Tm} (hx : zbs x) (hy : zbs y) : RI (c + 1) (zbw x s y) := by
 have hf := fl_b hx.1 hy.1
 have hl := zlq (x.c * y.c) (x.e.add y.e)
 have hh := zlr (x.c * y.c)
 obtain ⟨h1, h2, h3, h4, h5, h6, h7⟩ := h
 refine ⟨zfn _ _ h1 (zfM hx hy), ?_, ?_, ?_, ?_, ?_, ?_⟩
 ·have := zhs s.m (pT x y)
  simp only [zbw]; omega
 ·have := zof (x := pT x y) h3 (by omega) hf.1 hf.2 (by decide)
  rw [show (70368744177664 : Int) * ((c + 1 : Nat) : Int) = 70368744177664 * (c : Int) + 70368744177664 by omega]
  exact this
 ·simp only [zbw]; omega
 ·simp only [zbw]; omega
 ·simp only [zbw]; omega
 ·simp only [zbw]; omega
def rU (a b : List Tm) (most i k c f0 f1 f2 f3 f4 f5 n : Int) (s : MS) : St := zhp (a.map Tm.cs) (b.map Tm.cs) most 0 0 (s.m.map Tm.cs) s.lo s.hi i k c f0 f1 f2 f3 f4 f5 n
theorem ztH (a b : List Tm) (most : Int) (i k : Nat) (hi : i < a.length) (hk : k < b.length) (c : Int) (z : E6) (hz : z = a[i].e.add b[k].e) (ho : z.ok) (s : MS) :
  zal (zp GZ LZ (CW GZ LZ) 66 none 10) (rU a b most ((i : Nat) : Int) ((k : Nat) : Int) c 0 0 0 0 0 0 0 s) = some (.exit 4, rU a b most ((i : Nat) : Int) ((k : Nat) : Int) c ((z.a : Nat) : Int) ((z.b : Nat) : Int) ((z.c : Nat) : Int) ((z.d : Nat) : Int) ((z.e : Nat) : Int) ((z.f : Nat) : Int) 6 s) := by
 obtain ⟨h1, h2, h3, h4, h5, h6⟩ := ho
 have gi := zbe a i hi
 have gk := zbe b k hk
 generalize a[i] = x at *
 generalize b[k] = y at *
 have za : z.a = x.e.a + y.e.a := by rw [hz]; rfl
 have zb : z.b = x.e.b + y.e.b := by rw [hz]; rfl
 have zc : z.c = x.e.c + y.e.c := by rw [hz]; rfl
 have zd : z.d = x.e.d + y.e.d := by rw [hz]; rfl
 have ze : z.e = x.e.e + y.e.e := by rw [hz]; rfl
 have zf : z.f = x.e.f + y.e.f := by rw [hz]; rfl
 have r0 : ∀ f0 f1 f2 f3 f4 f5, zp GZ LZ (CW GZ LZ) 66 none 10 (rU a b most ((i : Nat) : Int) ((k : Nat) : Int) c f0 f1 f2 f3 f4 f5 0 s) = some (.normal, rU a b most ((i : Nat) : Int) ((k : Nat) : Int) c (IntKind.wrap .u8 (((x.e.a : Nat) : Int) + ((y.e.a : Nat) : Int))) f1 f2 f3 f4 f5 1 s) := fun _ _ _ _ _ _ => by
  unfold rU; rw [zgE, gi, gk]; kernel_rfl
 have r1 : ∀ f0 f1 f2 f3 f4 f5, zp GZ LZ (CW GZ LZ) 66 none 10 (rU a b most ((i : Nat) : Int) ((k : Nat) : Int) c f0 f1 f2 f3 f4 f5 1 s) = some (.normal, rU a b most ((i : Nat) : Int) ((k : Nat) : Int) c f0 (IntKind.wrap .u8 (((x.e.b : Nat) : Int) + ((y.e.b : Nat) : Int))) f2 f3 f4 f5 2 s) := fun _ _ _ _ _ _ => by
  unfold rU; rw [zgE, gi, gk]; kernel_rfl
 have r2 : ∀ f0 f1 f2 f3 f4 f5, zp GZ LZ (CW GZ LZ) 66 none 10 (rU a b most ((i : Nat) : Int) ((k : Nat) : Int) c f0 f1 f2 f3 f4 f5 2 s) = some (.normal, rU a b most ((i : Nat) : Int) ((k : Nat) : Int) c f0 f1 (IntKind.wrap .u8 (((x.e.c : Nat) : Int) + ((y.e.c : Nat) : Int))) f3 f4 f5 3 s) := fun _ _ _ _ _ _ => by
  unfold rU; rw [zgE, gi, gk]; kernel_rfl
 have r3 : ∀ f0 f1 f2 f3 f4 f5, zp GZ LZ (CW GZ LZ) 66 none 10 (rU a b most ((i : Nat) : Int) ((k : Nat) : Int) c f0 f1 f2 f3 f4 f5 3 s) = some (.normal, rU a b most ((i : Nat) : Int) ((k : Nat) : Int) c f0 f1 f2 (IntKind.wrap .u8 (((x.e.d : Nat) : Int) + ((y.e.d : Nat) : Int))) f4 f5 4 s) := fun _ _ _ _ _ _ => by
  unfold rU; rw [zgE, gi, gk]; kernel_rfl
 have r4 : ∀ f0 f1 f2 f3 f4 f5, zp GZ LZ (CW GZ LZ) 66 none 10 (rU a b most ((i : Nat) : Int) ((k : Nat) : Int) c f0 f1 f2 f3 f4 f5 4 s) = some (.normal, rU a b most ((i : Nat) : Int) ((k : Nat) : Int) c f0 f1 f2 f3 (IntKind.wrap .u8 (((x.e.e : Nat) : Int) + ((y.e.e : Nat) : Int))) f5 5 s) := fun _ _ _ _ _ _ => by
  unfold rU; rw [zgE, gi, gk]; kernel_rfl
 have r5 : ∀ f0 f1 f2 f3 f4 f5, zp GZ LZ (CW GZ LZ) 66 none 10 (rU a b most ((i : Nat) : Int) ((k : Nat) : Int) c f0 f1 f2 f3 f4 f5 5 s) = some (.normal, rU a b most ((i : Nat) : Int) ((k : Nat) : Int) c f0 f1 f2 f3 f4 (IntKind.wrap .u8 (((x.e.f : Nat) : Int) + ((y.e.f : Nat) : Int))) 6 s) := fun _ _ _ _ _ _ => by
  unfold rU; rw [zgE, gi, gk]; kernel_rfl
 have r6 : ∀ f0 f1 f2 f3 f4 f5, zp GZ LZ (CW GZ LZ) 66 none 10 (rU a b most ((i : Nat) : Int) ((k : Nat) : Int) c f0 f1 f2 f3 f4 f5 6 s) = some (.exit 4, rU a b most ((i : Nat) : Int) ((k : Nat) : Int) c f0 f1 f2 f3 f4 f5 6 s) := fun _ _ _ _ _ _ => by
  unfold rU; rw [zgE]; kernel_rfl
 refine (zk (r0 _ _ _ _ _ _)).trans ((zk (r1 _ _ _ _ _ _)).trans ((zk (r2 _ _ _ _ _ _)).trans ((zk (r3 _ _ _ _ _ _)).trans ((zk (r4 _ _ _ _ _ _)).trans ((zk (r5 _ _ _ _ _ _)).trans ((zbb (r6 _ _ _ _ _ _)).trans ?_))))))
 rw [wu8 za h1, wu8 zb h2, wu8 zc h3, wu8 zd h4, wu8 ze h5, wu8 zf h6]
theorem zuw (n : Int) : (fl n * 65536 != n) = zh5 n := by
 have h1 : fl n * 65536 ≤ n ∧ n < fl n * 65536 + 65536 := by unfold fl; omega
 have h2 : ce n * 65536 ≥ n ∧ n > ce n * 65536 - 65536 := by unfold ce; omega
 unfold zh5
 by_cases h : fl n * 65536 = n
 ·have this : fl n = ce n := by omega
  have e1 : (fl n * 65536 != n) = false := by simpa using h
  have e2 : (fl n != ce n) = false := by simpa using this
  rw [e1, e2]
 ·have this : fl n ≠ ce n := fun e => by
   apply h; rw [← e] at h2; omega
  have e1 : (fl n * 65536 != n) = true := by simpa using h
  have e2 : (fl n != ce n) = true := by simpa using this
  rw [e1, e2]
theorem zux {z : E6} (h : z.deg = 0) : z.odd = false := by
 have h' : z.a = 0 ∧ z.b = 0 ∧ z.c = 0 ∧ z.d = 0 ∧ z.e = 0 ∧ z.f = 0 := by unfold E6.deg at h; omega
 unfold E6.odd
 rw [h'.1, h'.2.1, h'.2.2.1, h'.2.2.2.1, h'.2.2.2.2.1, h'.2.2.2.2.2]
 rfl
theorem rng_1 (z : E6) : (if 0 < (rng ⟨1, z⟩).1 then 0 else (rng ⟨1, z⟩).1) = if z.odd = true then -1 else 0 := by
 unfold rng
 by_cases hd : z.deg = 0
 ·rw [if_pos hd, zux hd]; rfl
 ·rw [if_neg hd]
  cases z.odd <;> rfl
def rW (a b : List Tm) (most i k : Int) (s : MS) : St := zhX (a.map Tm.cs) (b.map Tm.cs) most 0 0 (s.m.map Tm.cs) s.lo s.hi i k
set_option maxRecDepth 100000 in
theorem zqB (a b : List Tm) (most : Int) (i : Nat) (hi : i < a.length) (hx : zbs a[i]) (k : Nat) (hk : k < b.length) (ha : a.length ≤ 1000) (hb : b.length ≤ 1000) (hy : zbs b[k]) (c : Nat) (hc : c ≤ 20000) (s : MS) (hs : RI c s) :
  zp GZ LZ (CW GZ LZ) 66 none 6 (rW a b most ((i : Nat) : Int) ((k : Nat) : Int) s) = some (.normal, rW a b most ((i : Nat) : Int) ((k + 1 : Nat) : Int) (zbw a[i] s b[k])) := by
 have e1 : decide (((k : Nat) : Int) < (((b.map Tm.cs).length : Nat) : Int)) = true := by rw [List.length_map]; exact zba hk
 have ws := zaV k (by omega)
 have gi := zbe a i hi
 have gk := zbe b k hk
 obtain ⟨z, hz⟩ : ∃ z, z = a[i].e.add b[k].e := ⟨_, rfl⟩
 have ho : z.ok := by rw [hz]; exact zfM hx hy
 have hrow := ztH a b most i k hi hk (fl (a[i].c * b[k].c)) z hz ho s
 generalize a[i] = x at *
 generalize b[k] = y at *
 have hsm := zb7 hx.1 hy.1
 have hsm' := hsm
 unfold zcr at hsm'
 have hfl := zlZ (x.c * y.c) hsm
 have hmod := hs.mod
 have hf := fl_b hx.1 hy.1
 have hl1 := hs.lo1
 have hl2 := hs.lo2
 have hh1 := hs.hi1
 have hh2 := hs.hi2
 have hlen := hs.len
 have hmod2 : zdo s.m 2305843009213693952 := fun t ht => by have := hmod t ht; omega
 have hins := p95 s.m ⟨fl (x.c * y.c), z⟩ hs.ok ho (by unfold few; omega) hmod2 (by simp only; omega) (by simp only; omega)
 have htr := p104 ⟨1, z⟩ (show zz 1 from ⟨by decide, by decide⟩) ho
 have hr1 := rng_1 z
 have hstep : zbw x s y = ⟨ins s.m ⟨fl (x.c * y.c), z⟩, s.lo + rlo (x.c * y.c) z, s.hi + rhi (x.c * y.c)⟩ := by rw [hz]; rfl
 rw [hstep]
 have w1 : IntKind.wrap .i64 (x.c * y.c) = x.c * y.c := w64 (by omega) (by omega)
 have w2 : IntKind.wrap .i64 (fl (x.c * y.c) * 65536) = fl (x.c * y.c) * 65536 := w64 (by omega) (by omega)
 have hne := zuw (x.c * y.c)
 clear hstep hz hs hsm
 unfold rU at hrow
 unfold rW
 rw [e66_6, e1, gi, gk]
 simp only [zam, zan, zr, zs, zG, zt, Option.bind_some, cond_true]
 rw [w1, hfl]
 simp only [zs, Option.bind_some]
 rw [zaz]
 refine (zZ hrow _).trans ?_
 have g : ∀ t, t = zhp (a.map Tm.cs) (b.map Tm.cs) most 0 0 (s.m.map Tm.cs) s.lo s.hi ((i : Nat) : Int) ((k : Nat) : Int) (fl (x.c * y.c)) ((z.a : Nat) : Int) ((z.b : Nat) : Int) ((z.c : Nat) : Int) ((z.d : Nat) : Int) ((z.e : Nat) : Int) ((z.f : Nat) : Int) 6 →
   nth t.t 0 = .slice .any (a.map Tm.cs) ∧ nth t.t 1 = .slice .any (b.map Tm.cs) ∧ nth t.t 2 = .int .i64 most ∧ nth t.t 7 = .box [.int .i64 0, .int .i64 0] ∧ nth t.t 8 = .slice .any (s.m.map Tm.cs) ∧ nth t.t 9 = .int .i64 s.lo ∧ nth t.t 10 = .int .i64 s.hi ∧ nth t.t 11 = .int .i64 ((i : Nat) : Int) ∧ nth t.t 12 = .int .i64 ((k : Nat) : Int) ∧ nth t.t 13 = .box [.int .i64 (fl (x.c * y.c)), .int .u8 ((z.a : Nat) : Int), .int .u8 ((z.b : Nat) : Int), .int .u8 ((z.c : Nat) : Int), .int .u8 ((z.d : Nat) : Int), .int .u8 ((z.e : Nat) : Int), .int .u8 ((z.f : Nat) : Int)] ∧ nth t.t 14 = .int .i64 6 := by
  intro t ht; subst ht
  exact ⟨rfl, rfl, rfl, rfl, rfl, rfl, rfl, rfl, rfl, rfl, rfl⟩
 obtain ⟨g1, g2, g3, g4, g5, g6, g7, g8, g9, g10, g11⟩ := g _ rfl
 rw [Option.bind_some]
 dsimp only
 rw [g1, g2, g3, g4, g5, g6, g7, g8, g9, g10, g11]
 simp only [Nat.beq_refl, zD, zP, zr, zs, zG, zt, Option.bind_some, cond_true]
 rw [gi, gk]
 simp only [zam, zan, zr, zs, zG, zt, Option.bind_some]
 rw [w1, w2, hne]
 cases hxx : zh5 (x.c * y.c)
 ·have e1 : rlo (x.c * y.c) z = 0 := by simp [rlo, hxx]
  have e2 : rhi (x.c * y.c) = 0 := by simp [rhi, hxx]
  rw [e1, e2, Int.add_zero, Int.add_zero]
  simp only [cond_false]
  rw [hins]
  simp only [zD, Option.bind_some, ws]
 ·have e1 : rlo (x.c * y.c) z = if z.odd = true then -1 else 0 := by simp only [rlo, hxx, true_and]
  have e2 : rhi (x.c * y.c) = 1 := by simp [rhi, hxx]
  rw [e1, e2]
  simp only [cond_true]
  rw [htr]
  simp only [zI, zr, zs, zt, Option.bind_some]
  rw [hins, hr1]
  simp only [zD, Option.bind_some, ws]
  rw [w64 (x := s.lo + _) (by split <;> omega) (by split <;> omega), w64 (x := s.hi + 1) (by omega) (by omega)]
def zbt (b : List Tm) (s : MS) (x : Tm) : MS := b.foldl (zbw x) s
def zcI (a b : List Tm) : MS := a.foldl (zbt b) ⟨[], 0, 0⟩
theorem zqC (a b : List Tm) (hal : a.length ≤ 100) (hb : zaD b) (hbl : b.length ≤ 100) (most : Int) (i : Nat) (hi : i < a.length) (hx : zbs a[i]) (c : Nat) (hc : c ≤ 10000) (s : MS) (hs : RI c s) :
  zal (zp GZ LZ (CW GZ LZ) 66 none 6) (rW a b most ((i : Nat) : Int) 0 s) = some (.exit 2, rW a b most ((i : Nat) : Int) ((b.length : Nat) : Int) (zbt b s a[i])) ∧ RI (c + b.length) (zbt b s a[i]) :=
 zeW (round := zp GZ LZ (CW GZ LZ) 66 none 6) (fun k s => rW a b most ((i : Nat) : Int) ((k : Nat) : Int) s) (zbw a[i]) (fun k s => RI (c + k) s) b (id := 2)
  (fun k hk s hs => ⟨zqB a b most i hi hx k hk (by omega) (by omega) (hb _ (List.getElem_mem hk)) (c + k) (by omega) s hs, zuv hs hx (hb _ (List.getElem_mem hk))⟩)
  (fun s _ => by unfold rW; rw [e66_6, List.length_map, za7]; rfl) s hs
def rV (a b : List Tm) (most i : Int) (s : MS) : St := zjt (a.map Tm.cs) (b.map Tm.cs) most 0 0 (s.m.map Tm.cs) s.lo s.hi i
theorem zpk (a b : List Tm) (ha : zaD a) (hal : a.length ≤ 100) (hb : zaD b) (hbl : b.length ≤ 100) (most : Int) (i : Nat) (hi : i < a.length) (s : MS) (hs : RI (i * b.length) s) :
  zp GZ LZ (CW GZ LZ) 66 none 3 (rV a b most ((i : Nat) : Int) s) = some (.normal, rV a b most ((i + 1 : Nat) : Int) (zbt b s a[i])) ∧ RI ((i + 1) * b.length) (zbt b s a[i]) := by
 have hc : i * b.length ≤ 10000 := by
  have := Nat.mul_le_mul (show i ≤ 100 by omega) hbl
  omega
 obtain ⟨hl, hI⟩ := zqC a b hal hb hbl most i hi (ha _ (List.getElem_mem hi)) _ hc s hs
 refine ⟨?_, by rw [Nat.add_mul, Nat.one_mul]; exact hI⟩
 have e1 : decide (((i : Nat) : Int) < (((a.map Tm.cs).length : Nat) : Int)) = true := by rw [List.length_map]; exact zba hi
 have ws := zaV i (by omega)
 generalize zbt b s a[i] = u at *
 unfold rV
 unfold rW at hl
 rw [e66_3, e1]
 simp only [cond_true]
 rw [zaz]
 refine (zZ hl _).trans ?_
 have g : ∀ t, t = zhX (a.map Tm.cs) (b.map Tm.cs) most 0 0 (u.m.map Tm.cs) u.lo u.hi ((i : Nat) : Int) ((b.length : Nat) : Int) →
   nth t.t 0 = .slice .any (a.map Tm.cs) ∧ nth t.t 1 = .slice .any (b.map Tm.cs) ∧ nth t.t 2 = .int .i64 most ∧ nth t.t 7 = .box [.int .i64 0, .int .i64 0] ∧ nth t.t 8 = .slice .any (u.m.map Tm.cs) ∧ nth t.t 9 = .int .i64 u.lo ∧ nth t.t 10 = .int .i64 u.hi ∧ nth t.t 11 = .int .i64 ((i : Nat) : Int) ∧ nth t.t 12 = .int .i64 ((b.length : Nat) : Int) := by
  intro t ht; subst ht
  exact ⟨rfl, rfl, rfl, rfl, rfl, rfl, rfl, rfl, rfl⟩
 obtain ⟨g1, g2, g3, g4, g5, g6, g7, g8, g9⟩ := g _ rfl
 rw [Option.bind_some]
 dsimp only
 rw [g1, g2, g3, g4, g5, g6, g7, g8, g9]
 simp only [Nat.beq_refl, zD, zP, zr, zs, zt, Option.bind_some, cond_true, ws]
theorem RI_0 : RI 0 ⟨[], 0, 0⟩ := ⟨(fun t ht => by cases ht), Nat.le_refl _, (fun t ht => by cases ht), by decide, by decide, by decide, by decide⟩
theorem zqD (a b : List Tm) (ha : zaD a) (hal : a.length ≤ 100) (hb : zaD b) (hbl : b.length ≤ 100) (most : Int) :
  zal (zp GZ LZ (CW GZ LZ) 66 none 3) (rV a b most 0 ⟨[], 0, 0⟩) = some (.exit 0, rV a b most ((a.length : Nat) : Int) (zcI a b)) ∧ RI (a.length * b.length) (zcI a b) :=
 zeW (round := zp GZ LZ (CW GZ LZ) 66 none 3) (fun i s => rV a b most ((i : Nat) : Int) s) (zbt b) (fun i s => RI (i * b.length) s) a (id := 0)
  (fun i hi s hs => zpk a b ha hal hb hbl most i hi s hs)
  (fun s _ => by unfold rV; rw [e66_3, List.length_map, za7]; rfl) ⟨[], 0, 0⟩ (by rw [Nat.zero_mul]; exact RI_0)
structure SameMS (s r : MS) : Prop where
 ok : mOk s.m
 m : zb2 s.m = r.m
 lo : s.lo = r.lo
 hi : s.hi = r.hi
theorem zsk {s r : MS} (h : SameMS s r) {x y : Tm} (hx : zbs x) (hy : zbs y) : SameMS (zcU x s y) (zbw x r y) := by
 obtain ⟨h1, h2, h3, h4⟩ := h
 refine ⟨⟨zia _ _ h1.dk, zky _ _ h1.ok (zfM hx hy)⟩, ?_, ?_, ?_⟩
 ·simp only [zcU, zbw]
  rw [zlv s.m (pT x y) h1.dk h1.ok (zfM hx hy), h2]
 ·simp only [zcU, zbw, h3]
 ·simp only [zcU, zbw, h4]
theorem zot {x : Tm} (hx : zbs x) : ∀ (b : List Tm) (s r : MS), zaD b → SameMS s r → SameMS (zkz b s x) (zbt b r x)
 | [], _, _, _, h => h
 | y :: b, s, r, hb, h => zot hx b _ _ (fun t ht => hb t (by simp [ht])) (zsk h hx (hb y (by simp)))
theorem zou (b : List Tm) (hb : zaD b) : ∀ (a : List Tm) (s r : MS), zaD a → SameMS s r → SameMS (a.foldl (zkz b) s) (a.foldl (zbt b) r)
 | [], _, _, _, h => h
 | x :: a, s, r, ha, h => zou b hb a _ _ (fun t ht => ha t (by simp [ht])) (zot (ha x (by simp)) b _ _ hb h)
theorem zgd {a b : List Tm} (ha : zaD a) (hb : zaD b) (most : Int) : zcl a b most = zar (zcI a b).m most (zcI a b).lo (zcI a b).hi := by
 have := zou b hb a ⟨[], 0, 0⟩ ⟨[], 0, 0⟩ ha ⟨⟨List.Pairwise.nil, fun t ht => by cases ht⟩, rfl, rfl, rfl⟩
 unfold zcl zkA zcI
 rw [this.m, this.lo, this.hi]
theorem p66 (a b : List Tm) (ha : zaD a) (hal : a.length ≤ 100) (hb : zaD b) (hbl : b.length ≤ 100) (most : Int) :
  (CW GZ LZ).p (.func 66) [.slice .any (a.map Tm.cs), .slice .any (b.map Tm.cs), .int .i64 most] = some (.tuple [.slice .any ((zcl a b most).1.map Tm.cs), .agg (zcl a b most).2.c]) := by
 obtain ⟨hl, hI⟩ := zqD a b ha hal hb hbl most
 have hc : a.length * b.length ≤ 10000 := Nat.mul_le_mul hal hbl
 rw [zgd ha hb]
 generalize zcI a b = s at *
 have hlen := hI.len
 have hl1 := hI.lo1
 have hl2 := hI.lo2
 have hh1 := hI.hi1
 have hh2 := hI.hi2
 have hfin := p96 s.m most s.lo s.hi hI.ok (by unfold few; omega) (by omega) (by omega) (by omega) (by omega)
 unfold rV at hl
 refine zaA (u := .tuple [.slice .any ((zar s.m most s.lo s.hi).1.map Tm.cs), .agg (zar s.m most s.lo s.hi).2.c]) (h := []) ?_ rfl
 rw [e66, zaz]
 refine (zZ hl _).trans ?_
 have g : ∀ t, t = zjt (a.map Tm.cs) (b.map Tm.cs) most 0 0 (s.m.map Tm.cs) s.lo s.hi ((a.length : Nat) : Int) →
   nth t.t 0 = .slice .any (a.map Tm.cs) ∧ nth t.t 1 = .slice .any (b.map Tm.cs) ∧ nth t.t 2 = .int .i64 most ∧ nth t.t 7 = .box [.int .i64 0, .int .i64 0] ∧ nth t.t 8 = .slice .any (s.m.map Tm.cs) ∧ nth t.t 9 = .int .i64 s.lo ∧ nth t.t 10 = .int .i64 s.hi ∧ nth t.t 11 = .int .i64 ((a.length : Nat) : Int) := by
  intro t ht; subst ht
  exact ⟨rfl, rfl, rfl, rfl, rfl, rfl, rfl, rfl⟩
 obtain ⟨g1, g2, g3, g4, g5, g6, g7, g8⟩ := g _ rfl
 rw [Option.bind_some]
 dsimp only
 rw [g1, g2, g3, g4, g5, g6, g7, g8]
 simp only [Nat.beq_refl, zD, zP, zr, zs, zt, Option.bind_some, cond_true]
 rw [hfin]
 simp only [zI, zD, zw, zB, zr, zs, zt, Option.bind_some]
 rfl
end Go.Ab
namespace Go.Ab
theorem zov : ∀ (q : List Tm) (x : Tm), (∀ t ∈ q, t.e.key < x.e.key) → ins q x = q ++ [x]
 | [], _, _ => rfl
 | y :: q, x, h => by
  rw [zaS (h y (by simp)), zov q x fun t ht => h t (by simp [ht])]; rfl
theorem add_zero (x : E6) : x.add E6.zero = x := by
 simp only [E6.add, E6.zero, Nat.add_zero]
theorem zow (c : Int) : ∀ (p q : List Tm) (lo hi : Int), zas (q ++ p) → p.foldl (zbt [⟨c, E6.zero⟩]) ⟨q.map (scT c), lo, hi⟩ = ⟨(q ++ p).map (scT c), lo + zcu c p, hi + zc1 c p⟩
 | [], q, lo, hi, _ => by simp [zcu, zc1, za0]
 | t :: p, q, lo, hi, hs => by
  have hs' : zas ((q ++ [t]) ++ p) := by simpa using hs
  have hlast : ∀ u ∈ q.map (scT c), u.e.key < (pT t ⟨c, E6.zero⟩).e.key := by
   intro u hu
   obtain ⟨v, hv, rfl⟩ := List.mem_map.1 hu
   have := (List.pairwise_append.1 hs).2.2 v hv t (by simp)
   simp only [pT, add_zero, scT]
   exact this
  have hstep : zbt [⟨c, E6.zero⟩] ⟨q.map (scT c), lo, hi⟩ t = ⟨(q ++ [t]).map (scT c), lo + rlo (t.c * c) t.e, hi + rhi (t.c * c)⟩ := by
   show zbw t ⟨q.map (scT c), lo, hi⟩ ⟨c, E6.zero⟩ = _
   unfold zbw
   simp only [zov _ _ hlast]
   simp only [pT, add_zero, List.map_append, List.map_cons, List.map_nil]
   rfl
  rw [List.foldl_cons, hstep, zow c p (q ++ [t]) _ _ hs']
  have e1 : zcu c (t :: p) = rlo (t.c * c) t.e + zcu c p := rfl
  have e2 : zc1 c (t :: p) = rhi (t.c * c) + zc1 c p := rfl
  rw [e1, e2, Int.add_assoc, Int.add_assoc, List.append_assoc]; rfl
theorem zj5 (p : List Tm) (f : Tm → Bool) (h : ∀ t, t.c = 0 → f t = false) : (p.map (scT 0)).filter f = [] := by
 rw [List.filter_eq_nil_iff]
 intro t ht
 obtain ⟨u, _, rfl⟩ := List.mem_map.1 ht
 have : (scT 0 u).c = 0 := by simp [scT, fl]
 rw [h _ this]; simp
theorem zmN : ∀ p : List Tm, zcu 0 p = 0
 | [] => rfl
 | t :: p => by
  have e1 : zcu 0 (t :: p) = rlo (t.c * 0) t.e + zcu 0 p := rfl
  rw [e1, zmN p]; simp [rlo, zh5, fl, ce]
theorem zmO : ∀ p : List Tm, zc1 0 p = 0
 | [] => rfl
 | t :: p => by
  have e1 : zc1 0 (t :: p) = rhi (t.c * 0) + zc1 0 p := rfl
  rw [e1, zmO p]; simp [rhi, zh5, fl, ce]
theorem zqE (p : List Tm) : zaR p 0 = ([], ⟨0, 0⟩) := by
 have h1 := zmN p
 have h2 := zmO p
 unfold zaR zar
 rw [h1, h2, zj5 p (kp 6) (fun t h => by simp [kp, h]), zj5 p (dp 6) (fun t h => by simp [dp, h])]
 have hn : zfx (p.map (scT 0)) = true := zdM.2 fun t ht => by
  obtain ⟨u, _, rfl⟩ := List.mem_map.1 ht
  simp [scT, fl, zz]
 rw [hn]
 rfl
theorem ziX {c : Int} (hc : zz c) : zaD (zaI c) := by
 intro t ht
 unfold zaI at ht
 split at ht
 ·cases ht
 ·rename_i h
  rw [List.mem_singleton.1 ht]
  exact ⟨hc, h, show E6.zero.deg ≤ 6 by decide⟩
theorem zqF (c : Int) : (zaI c).length ≤ 1 := by unfold zaI; split <;> simp
theorem ztI {p : List Tm} (hp : zaD p) (hs : zas p) {c : Int} (hc : zz c) : zcl p (zaI c) 6 = zaR p c := by
 rw [zgd hp (ziX hc)]
 by_cases h : c = 0
 ·subst h
  rw [zqE]
  have : zcI p (zaI 0) = ⟨[], 0, 0⟩ := by
   unfold zcI
   have e : zbt (zaI 0) = fun s _ => s := rfl
   rw [e]
   clear hp hs hc
   generalize (⟨[], 0, 0⟩ : MS) = s
   induction p with
   | nil => rfl
   | cons t p ih => exact ih
  rw [this]
  rfl
 ·have e : zaI c = [⟨c, E6.zero⟩] := by unfold zaI; rw [if_neg h]
  have := zow c p [] 0 0 (by simpa using hs)
  unfold zcI
  rw [e]
  simp only [List.map_nil, List.nil_append, Int.zero_add] at this
  rw [this]
  rfl
theorem p81 (p : List Tm) (hp : zaD p) (hpl : p.length ≤ 100) (hs : zas p) (c : Int) (hc : zz c) :
  (CW GZ LZ).p (.func 81) [.slice .any (p.map Tm.cs), .int .i64 c] = some (.tuple [.slice .any ((zaR p c).1.map Tm.cs), .agg (zaR p c).2.c]) := by
 have hm := p66 p (zaI c) hp hpl (ziX hc) (by have := zqF c; omega) 6
 rw [ztI hp hs hc] at hm
 refine zaA (u := .tuple [.slice .any ((zaR p c).1.map Tm.cs), .agg (zaR p c).2.c]) (h := []) ?_ rfl
 rw [e81, p77]
 simp only [zD, Option.bind_some]
 rw [hm]
 simp only [zI, zD, zw, zB, zr, zs, zt, Option.bind_some]
 rfl
end Go.Ab
