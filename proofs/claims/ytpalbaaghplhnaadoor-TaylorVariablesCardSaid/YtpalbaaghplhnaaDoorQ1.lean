/- Sums of terms in a map, sorted by key: the terms put one by one among sorted terms; conditions: bytes. -/
import Derived.Test.YtpalbaaghplhnaaDoorP3
import Derived.Test.YtpalbaaghplhnaaDoorK2
set_option linter.unusedVariables false
set_option linter.unusedSimpArgs false
namespace Go.Ab
def zbd : List Tm → Tm → List Tm
 | [], y => [y]
 | x :: m, y => if y.e.key = x.e.key then ⟨x.c + y.c, x.e⟩ :: m else x :: zbd m y
def zcf (t : Tm) : List Tm → List Tm
 | [] => [t]
 | y :: l => if t.e.key < y.e.key then t :: y :: l else y :: zcf t l
def zbz (m : List Tm) : List Tm := m.foldr zcf []
def zig (m : List Tm) : Prop := m.Pairwise fun a b => a.e.key ≠ b.e.key
theorem zmH : ∀ (m : List Tm) (y : Tm), ∀ t ∈ zbd m y, t.e.key = y.e.key ∨ ∃ u ∈ m, t.e.key = u.e.key
 | [], y, t, h => by simp only [zbd, List.mem_singleton] at h; rw [h]; exact .inl rfl
 | x :: m, y, t, h => by
  simp only [zbd] at h
  split at h
  ·rcases List.mem_cons.1 h with rfl | h
   ·exact .inr ⟨x, by simp, rfl⟩
   ·exact .inr ⟨t, by simp [h], rfl⟩
  ·rcases List.mem_cons.1 h with rfl | h
   ·exact .inr ⟨t, by simp, rfl⟩
   ·rcases zmH m y t h with h | ⟨u, hu, h⟩
    ·exact .inl h
    ·exact .inr ⟨u, by simp [hu], h⟩
theorem zg0 : ∀ (m : List Tm) (y : Tm), zig m → zig (zbd m y)
 | [], y, _ => by simp [zbd, zig]
 | x :: m, y, h => by
  obtain ⟨h1, h2⟩ := List.pairwise_cons.1 h
  simp only [zbd]
  split
  ·exact List.pairwise_cons.2 ⟨fun t ht => h1 t ht, h2⟩
  ·rename_i hne
   refine List.pairwise_cons.2 ⟨fun t ht => ?_, zg0 m y h2⟩
   rcases zmH m y t ht with e | ⟨u, hu, e⟩
   ·rw [e]; exact fun e' => hne e'.symm
   ·rw [e]; exact h1 u hu
theorem zja : ∀ (m : List Tm) (y : Tm), oks m → y.e.ok → oks (zbd m y)
 | [], y, _, hy => fun t ht => by simp only [zbd, List.mem_singleton] at ht; rw [ht]; exact hy
 | x :: m, y, h, hy => by
  have h' : oks m := fun t ht => h t (by simp [ht])
  have hx := h x (by simp)
  intro t ht
  simp only [zbd] at ht
  split at ht
  ·rcases List.mem_cons.1 ht with rfl | ht
   ·exact hx
   ·exact h' t ht
  ·rcases List.mem_cons.1 ht with rfl | ht
   ·exact hx
   ·exact zja m y h' hy t ht
theorem zmI : ∀ (m : List Tm) (y : Tm), (zbd m y).length ≤ m.length + 1
 | [], _ => by simp [zbd]
 | x :: m, y => by
  have := zmI m y
  simp only [zbd]
  split <;> simp only [List.length_cons] <;> omega
theorem zmJ : ∀ (m : List Tm) (y : Tm) {b d : Int}, mod1 m b → 0 ≤ b → -d ≤ y.c → y.c ≤ d → 0 ≤ d → mod1 (zbd m y) (b + d)
 | [], y, b, d, _, hb, h1, h2, hd => fun t ht => by simp only [zbd, List.mem_singleton] at ht; subst ht; omega
 | x :: m, y, b, d, hm, hb, h1, h2, hd => by
  have hm' : mod1 m b := fun t ht => hm t (by simp [ht])
  have hx := hm x (by simp)
  intro t ht
  simp only [zbd] at ht
  split at ht
  ·rcases List.mem_cons.1 ht with rfl | ht
   ·simp only; omega
   ·have := hm' t ht; omega
  ·rcases List.mem_cons.1 ht with rfl | ht
   ·omega
   ·exact zmJ m y hm' hb h1 h2 hd t ht
theorem zmK (t : Tm) : ∀ (l : List Tm) (u : Tm), u ∈ zcf t l ↔ u = t ∨ u ∈ l
 | [], u => by simp [zcf]
 | y :: l, u => by
  simp only [zcf]
  split
  ·simp
  ·simp only [List.mem_cons, zmK t l u]
   constructor
   ·rintro (h | h | h)
    ·exact .inr (.inl h)
    ·exact .inl h
    ·exact .inr (.inr h)
   ·rintro (h | h | h)
    ·exact .inr (.inl h)
    ·exact .inl h
    ·exact .inr (.inr h)
theorem zf3 : ∀ (m : List Tm) (u : Tm), u ∈ zbz m ↔ u ∈ m
 | [], u => by simp [zbz]
 | t :: m, u => by
  have := zf3 m u
  unfold zbz at this ⊢
  simp only [List.foldr_cons, zmK, this, List.mem_cons]
theorem zmL (t : Tm) : ∀ l : List Tm, (zcf t l).length = l.length + 1
 | [] => rfl
 | y :: l => by
  simp only [zcf]
  split
  ·rfl
  ·simp only [List.length_cons, zmL t l]
theorem zk7 : ∀ m : List Tm, (zbz m).length = m.length
 | [] => rfl
 | t :: m => by
  have := zk7 m
  unfold zbz at this ⊢
  simp only [List.foldr_cons, zmL, this, List.length_cons]
theorem ziH (t y : Tm) (ht : t.e = y.e) : ∀ p : List Tm, (∀ z ∈ p, z.e.key ≠ t.e.key) → ins (zcf t p) y = zcf ⟨t.c + y.c, t.e⟩ p
 | [], _ => by simp only [zcf, ins]; rw [if_neg (by rw [ht]; omega), if_pos (by rw [ht]), Int.add_comm, ht]
 | z :: p, h => by
  have hz := h z (by simp)
  have ih := ziH t y ht p fun u hu => h u (by simp [hu])
  simp only [zcf]
  by_cases h1 : t.e.key < z.e.key
  ·rw [if_pos h1, if_pos h1]
   simp only [ins]
   rw [if_neg (by rw [ht]; omega), if_pos (by rw [ht]), Int.add_comm, ht]
  ·rw [if_neg h1, if_neg h1]
   simp only [ins]
   rw [if_pos (by rw [← ht]; omega), ih]
theorem zdw {t y : Tm} {l : List Tm} (h : t.e.key < y.e.key) : zcf t (y :: l) = t :: y :: l := by simp only [zcf, h, if_true]
theorem zdx {t y : Tm} {l : List Tm} (h : ¬ t.e.key < y.e.key) : zcf t (y :: l) = y :: zcf t l := by simp only [zcf, h, if_false]
theorem zeW {y x : Tm} {l : List Tm} (h : y.e.key < x.e.key) : ins (y :: l) x = y :: ins l x := by simp only [ins, h, if_true]
theorem zg1 {y x : Tm} {l : List Tm} (h : y.e.key = x.e.key) : ins (y :: l) x = ⟨x.c + y.c, x.e⟩ :: l := by
 simp only [ins]; rw [if_neg (by omega), if_pos h]
theorem zfL {y x : Tm} {l : List Tm} (h : x.e.key < y.e.key) : ins (y :: l) x = x :: y :: l := by
 simp only [ins]; rw [if_neg (by omega), if_neg (by omega)]
theorem zg9 (t y : Tm) (hty : t.e.key ≠ y.e.key) : ∀ p : List Tm, (∀ z ∈ p, z.e.key ≠ t.e.key) → zcf t (ins p y) = ins (zcf t p) y
 | [], _ => by
  show zcf t [y] = ins [t] y
  by_cases h : t.e.key < y.e.key
  ·rw [zdw h, zeW h]; rfl
  ·rw [zdx h, zfL (by omega)]; rfl
 | z :: p, h => by
  have hz := h z (by simp)
  have ih := zg9 t y hty p fun u hu => h u (by simp [hu])
  by_cases h1 : t.e.key < z.e.key
  ·by_cases h2 : z.e.key < y.e.key
   ·rw [zeW h2, zdw h1, zdw h1, zeW (show t.e.key < y.e.key by omega), zeW h2]
   ·by_cases h3 : z.e.key = y.e.key
    ·have h4 : t.e.key < y.e.key := by omega
     rw [zg1 h3, zdw h1, zdw (y := ⟨y.c + z.c, y.e⟩) h4, zeW h4, zg1 h3]
    ·have h5 : y.e.key < z.e.key := by omega
     by_cases h4 : t.e.key < y.e.key
     ·rw [zfL h5, zdw h1, zdw h4, zeW h4, zfL h5]
     ·rw [zfL h5, zdw h1, zdx h4, zdw h1, zfL (show y.e.key < t.e.key by omega)]
  ·by_cases h2 : z.e.key < y.e.key
   ·rw [zeW h2, zdx h1, zdx h1, zeW h2, ih]
   ·by_cases h3 : z.e.key = y.e.key
    ·rw [zg1 h3, zdx h1, zdx (y := ⟨y.c + z.c, y.e⟩) (show ¬ t.e.key < y.e.key by omega), zg1 h3]
    ·have h5 : y.e.key < z.e.key := by omega
     rw [zfL h5, zdx h1, zdx (show ¬ t.e.key < y.e.key by omega), zdx h1, zfL h5]
theorem zj4 : ∀ (m : List Tm) (y : Tm), zig m → oks m → y.e.ok → zbz (zbd m y) = ins (zbz m) y
 | [], y, _, _, _ => rfl
 | t :: m, y, hd, ho, hy => by
  obtain ⟨h1, h2⟩ := List.pairwise_cons.1 hd
  have ho' : oks m := fun u hu => ho u (by simp [hu])
  have ht := ho t (by simp)
  have hk : ∀ z ∈ zbz m, z.e.key ≠ t.e.key := fun z hz => (h1 z ((zf3 m z).1 hz)).symm
  have ih := zj4 m y h2 ho' hy
  simp only [zbd]
  by_cases h : y.e.key = t.e.key
  ·rw [if_pos h]
   exact (ziH t y (E6.key_inj ht hy h.symm) (zbz m) hk).symm
  ·rw [if_neg h]
   have e : zbz (t :: zbd m y) = zcf t (zbz (zbd m y)) := rfl
   rw [e, ih]
   exact zg9 t y (fun e' => h e'.symm) (zbz m) hk
structure mOk (m : List Tm) : Prop where
 dk : zig m
 ok : oks m
def Tm.me (t : Tm) : List V × List V := (t.e.cs, [.int .i64 t.c])
def E6.eqb (x y : E6) : Bool := (((x.a : Nat) : Int) == ((y.a : Nat) : Int)) && ((((x.b : Nat) : Int) == ((y.b : Nat) : Int)) && ((((x.c : Nat) : Int) == ((y.c : Nat) : Int)) && ((((x.d : Nat) : Int) == ((y.d : Nat) : Int)) && ((((x.e : Nat) : Int) == ((y.e : Nat) : Int)) && ((((x.f : Nat) : Int) == ((y.f : Nat) : Int)) && true)))))
theorem eqE (x y : E6) : eqT GP 8 43 [.int .u8 ((x.a : Nat) : Int), .int .u8 ((x.b : Nat) : Int), .int .u8 ((x.c : Nat) : Int), .int .u8 ((x.d : Nat) : Int), .int .u8 ((x.e : Nat) : Int), .int .u8 ((x.f : Nat) : Int)] [.int .u8 ((y.a : Nat) : Int), .int .u8 ((y.b : Nat) : Int), .int .u8 ((y.c : Nat) : Int), .int .u8 ((y.d : Nat) : Int), .int .u8 ((y.e : Nat) : Int), .int .u8 ((y.f : Nat) : Int)] = some (x.eqb y) := by kernel_rfl
theorem zkC {x y : E6} (hx : x.ok) (hy : y.ok) : x.eqb y = decide (x.key = y.key) := by
 by_cases h : x.key = y.key
 ·have := E6.key_inj hx hy h
  subst this
  simp [E6.eqb]
 ·have hne : x ≠ y := fun e => h (by rw [e])
  simp only [h, decide_false]
  cases hb : x.eqb y with
  | false => rfl
  | true =>
   exfalso
   apply hne
   simp only [E6.eqb, Bool.and_true, Bool.and_eq_true, beq_iff_eq, Int.natCast_inj] at hb
   obtain ⟨a, b, c, d, e, f⟩ := x
   obtain ⟨a', b', c', d', e', f'⟩ := y
   simp only at hb
   obtain ⟨rfl, rfl, rfl, rfl, rfl, rfl⟩ := hb
   rfl
theorem zpX (x : E6) (m : List Tm) : zao (eqT GP 8 43) [.int .u8 ((x.a : Nat) : Int), .int .u8 ((x.b : Nat) : Int), .int .u8 ((x.c : Nat) : Int), .int .u8 ((x.d : Nat) : Int), .int .u8 ((x.e : Nat) : Int), .int .u8 ((x.f : Nat) : Int)] (m.map Tm.me) = some (m.findIdx? fun t => x.eqb t.e) := zgW Tm.me (fun t => x.eqb t.e) (fun t => eqE x t.e) m
theorem zpY (y : Tm) (m : List Tm) (v : Int) (h : m.findIdx? (fun t => y.e.eqb t.e) = none) (hm : oks m) (hy : y.e.ok) :
  zeZ (zcs (m.map Tm.me) none [.int .u8 ((y.e.a : Nat) : Int), .int .u8 ((y.e.b : Nat) : Int), .int .u8 ((y.e.c : Nat) : Int), .int .u8 ((y.e.d : Nat) : Int), .int .u8 ((y.e.e : Nat) : Int), .int .u8 ((y.e.f : Nat) : Int)] [.int .i64 v]) (zbt (m.map Tm.me) none) [.int .i64 y.c] = (zbd m y).map Tm.me ∧ zbt (m.map Tm.me) none < (zcs (m.map Tm.me) none [.int .u8 ((y.e.a : Nat) : Int), .int .u8 ((y.e.b : Nat) : Int), .int .u8 ((y.e.c : Nat) : Int), .int .u8 ((y.e.d : Nat) : Int), .int .u8 ((y.e.e : Nat) : Int), .int .u8 ((y.e.f : Nat) : Int)] [.int .i64 v]).length := by
 have hmadd : zbd m y = m ++ [y] := by
  clear v
  induction m with
  | nil => rfl
  | cons x m ih =>
   rw [List.findIdx?_cons] at h
   have hx := hm x (by simp)
   simp only [zkC hy hx] at h
   by_cases hk : y.e.key = x.e.key
   ·simp [hk] at h
   ·simp only [hk, decide_false, Bool.false_eq_true, if_false, Option.map_eq_none_iff] at h
    simp only [zbd, hk, if_false, ih h fun t ht => hm t (by simp [ht]), List.cons_append]
 rw [hmadd]
 simp only [zeZ, zcs, zbt, List.length_map, List.length_append, List.length_cons, List.length_nil]
 refine ⟨?_, by omega⟩
 rw [List.map_append]
 apply List.ext_getElem?
 intro i
 rw [List.getElem?_modify]
 by_cases hi : i < m.length
 ·rw [List.getElem?_append_left (by simpa using hi), List.getElem?_append_left (by simpa using hi)]
  have e : ¬ m.length = i := by omega
  simp [e]
 ·by_cases hi2 : i = m.length
  ·subst hi2
   rw [List.getElem?_append_right (by simp), List.getElem?_append_right (by simp)]
   simp [Tm.me, E6.cs]
  ·rw [List.getElem?_eq_none (by simp; omega), List.getElem?_eq_none (by simp; omega)]
   rfl
theorem zk8 (y : Tm) : ∀ (m : List Tm) (j : Nat) (h : m.findIdx? (fun t => y.e.eqb t.e) = some j) (hm : oks m) (hy : y.e.ok), ∃ (hj : j < m.length), m[j].e = y.e ∧
  (m.map Tm.me).modify j (fun e => (e.1, [.int .i64 (m[j].c + y.c)])) = (zbd m y).map Tm.me
 | [], j, h, _, _ => by simp at h
 | x :: m, j, h, hm, hy => by
  rw [List.findIdx?_cons] at h
  have hx := hm x (by simp)
  simp only [zkC hy hx] at h
  by_cases hk : y.e.key = x.e.key
  ·simp only [hk, decide_true, if_true, Option.some.injEq] at h
   subst h
   refine ⟨by simp, (E6.key_inj hy hx hk).symm, ?_⟩
   simp only [zbd, hk, if_true, List.map_cons, List.modify_zero_cons, List.getElem_cons_zero]
   rfl
  ·simp only [hk, decide_false, Bool.false_eq_true, if_false] at h
   obtain ⟨j', h', rfl⟩ := Option.map_eq_some_iff.1 h
   obtain ⟨hj, h1, h2⟩ := zk8 y m j' h' (fun t ht => hm t (by simp [ht])) hy
   refine ⟨by simpa using hj, by simpa using h1, ?_⟩
   simp only [zbd, hk, if_false, List.map_cons, List.modify_succ_cons, List.getElem_cons_succ, h2]
end Go.Ab
namespace Go.Ab
def E6.add (x y : E6) : E6 := ⟨x.a + y.a, x.b + y.b, x.c + y.c, x.d + y.d, x.e + y.e, x.f + y.f⟩
def pT (x y : Tm) : Tm := ⟨fl (x.c * y.c), x.e.add y.e⟩
structure MS where
 m : List Tm
 lo : Int
 hi : Int
def zcq (x : Tm) (s : MS) (y : Tm) : MS := ⟨zbd s.m (pT x y), s.lo + rlo (x.c * y.c) (x.e.add y.e), s.hi + rhi (x.c * y.c)⟩
def mU (a b : List Tm) (most i k : Int) (x y : Tm) (f0 f1 f2 f3 f4 f5 n : Int) (s : MS) : St := zgp (b.map Tm.cs) most 0 0 x.c ((x.e.a : Nat) : Int) ((x.e.b : Nat) : Int) ((x.e.c : Nat) : Int) ((x.e.d : Nat) : Int) ((x.e.e : Nat) : Int) ((x.e.f : Nat) : Int) y.c ((y.e.a : Nat) : Int) ((y.e.b : Nat) : Int) ((y.e.c : Nat) : Int) ((y.e.d : Nat) : Int) ((y.e.e : Nat) : Int) ((y.e.f : Nat) : Int) f0 f1 f2 f3 f4 f5 (a.map Tm.cs) ((a.length : Nat) : Int) i (b.map Tm.cs) ((b.length : Nat) : Int) k ((y.e.a : Nat) : Int) ((y.e.b : Nat) : Int) ((y.e.c : Nat) : Int) ((y.e.d : Nat) : Int) ((y.e.e : Nat) : Int) ((y.e.f : Nat) : Int) n (s.m.map Tm.me) s.lo s.hi
theorem wu8 {x y z : Nat} (h : z = x + y) (hz : z < 256) : IntKind.wrap .u8 (((x : Nat) : Int) + ((y : Nat) : Int)) = ((z : Nat) : Int) := by
 subst h
 simp only [IntKind.wrap, IntKind.bits, IntKind.signed]
 simp
 omega
theorem zr0 (a b : List Tm) (most i k : Int) (x y : Tm) (z : E6) (hz : z = x.e.add y.e) (ho : z.ok) (s : MS) :
  zas (zw GU LU (CW GU LU) 38 none 11) (mU a b most i k x y ((x.e.a : Nat) : Int) ((x.e.b : Nat) : Int) ((x.e.c : Nat) : Int) ((x.e.d : Nat) : Int) ((x.e.e : Nat) : Int) ((x.e.f : Nat) : Int) 0 s) = some (.exit 4, mU a b most i k x y ((z.a : Nat) : Int) ((z.b : Nat) : Int) ((z.c : Nat) : Int) ((z.d : Nat) : Int) ((z.e : Nat) : Int) ((z.f : Nat) : Int) 6 s) := by
 obtain ⟨h1, h2, h3, h4, h5, h6⟩ := ho
 have za : z.a = x.e.a + y.e.a := by rw [hz]; rfl
 have zb : z.b = x.e.b + y.e.b := by rw [hz]; rfl
 have zc : z.c = x.e.c + y.e.c := by rw [hz]; rfl
 have zd : z.d = x.e.d + y.e.d := by rw [hz]; rfl
 have ze : z.e = x.e.e + y.e.e := by rw [hz]; rfl
 have zf : z.f = x.e.f + y.e.f := by rw [hz]; rfl
 have r0 : ∀ f0 f1 f2 f3 f4 f5, zw GU LU (CW GU LU) 38 none 11 (mU a b most i k x y f0 f1 f2 f3 f4 f5 0 s) = some (.normal, mU a b most i k x y (IntKind.wrap .u8 (f0 + ((y.e.a : Nat) : Int))) f1 f2 f3 f4 f5 1 s) := fun _ _ _ _ _ _ => by
  unfold mU; rw [zfI]; kernel_rfl
 have r1 : ∀ f0 f1 f2 f3 f4 f5, zw GU LU (CW GU LU) 38 none 11 (mU a b most i k x y f0 f1 f2 f3 f4 f5 1 s) = some (.normal, mU a b most i k x y f0 (IntKind.wrap .u8 (f1 + ((y.e.b : Nat) : Int))) f2 f3 f4 f5 2 s) := fun _ _ _ _ _ _ => by
  unfold mU; rw [zfI]; kernel_rfl
 have r2 : ∀ f0 f1 f2 f3 f4 f5, zw GU LU (CW GU LU) 38 none 11 (mU a b most i k x y f0 f1 f2 f3 f4 f5 2 s) = some (.normal, mU a b most i k x y f0 f1 (IntKind.wrap .u8 (f2 + ((y.e.c : Nat) : Int))) f3 f4 f5 3 s) := fun _ _ _ _ _ _ => by
  unfold mU; rw [zfI]; kernel_rfl
 have r3 : ∀ f0 f1 f2 f3 f4 f5, zw GU LU (CW GU LU) 38 none 11 (mU a b most i k x y f0 f1 f2 f3 f4 f5 3 s) = some (.normal, mU a b most i k x y f0 f1 f2 (IntKind.wrap .u8 (f3 + ((y.e.d : Nat) : Int))) f4 f5 4 s) := fun _ _ _ _ _ _ => by
  unfold mU; rw [zfI]; kernel_rfl
 have r4 : ∀ f0 f1 f2 f3 f4 f5, zw GU LU (CW GU LU) 38 none 11 (mU a b most i k x y f0 f1 f2 f3 f4 f5 4 s) = some (.normal, mU a b most i k x y f0 f1 f2 f3 (IntKind.wrap .u8 (f4 + ((y.e.e : Nat) : Int))) f5 5 s) := fun _ _ _ _ _ _ => by
  unfold mU; rw [zfI]; kernel_rfl
 have r5 : ∀ f0 f1 f2 f3 f4 f5, zw GU LU (CW GU LU) 38 none 11 (mU a b most i k x y f0 f1 f2 f3 f4 f5 5 s) = some (.normal, mU a b most i k x y f0 f1 f2 f3 f4 (IntKind.wrap .u8 (f5 + ((y.e.f : Nat) : Int))) 6 s) := fun _ _ _ _ _ _ => by
  unfold mU; rw [zfI]; kernel_rfl
 have r6 : ∀ f0 f1 f2 f3 f4 f5, zw GU LU (CW GU LU) 38 none 11 (mU a b most i k x y f0 f1 f2 f3 f4 f5 6 s) = some (.exit 4, mU a b most i k x y f0 f1 f2 f3 f4 f5 6 s) := fun _ _ _ _ _ _ => by
  unfold mU; rw [zfI]; kernel_rfl
 refine (zn (r0 _ _ _ _ _ _)).trans ((zn (r1 _ _ _ _ _ _)).trans ((zn (r2 _ _ _ _ _ _)).trans ((zn (r3 _ _ _ _ _ _)).trans ((zn (r4 _ _ _ _ _ _)).trans ((zn (r5 _ _ _ _ _ _)).trans ((zb4 (r6 _ _ _ _ _ _)).trans ?_))))))
 rw [wu8 za h1, wu8 zb h2, wu8 zc h3, wu8 zd h4, wu8 ze h5, wu8 zf h6]
theorem zrj {lo hi : Int} (x : E6) (m : List (List V × List V)) (h1 : -1000000000 ≤ lo) (h2 : lo ≤ 1000000000) (h3 : -1000000000 ≤ hi) (h4 : hi ≤ 1000000000) :
  (CW GU LU).s (.func 52) [.ptr 1 0, .agg [.int .u8 ((x.a : Nat) : Int), .int .u8 ((x.b : Nat) : Int), .int .u8 ((x.c : Nat) : Int), .int .u8 ((x.d : Nat) : Int), .int .u8 ((x.e : Nat) : Int), .int .u8 ((x.f : Nat) : Int)]] [.map true false 6 m, .cells [.int .i64 lo, .int .i64 hi]] = some (.tuple [], [.map true false 6 m, .cells [.int .i64 (if x.odd = true then lo - 1 else lo), .int .i64 (hi + 1)]]) := by
 refine zdD ?_
 rw [zqU]
 rw [p66 x, w64 (x := lo - 1) (by omega) (by omega), w64 (x := hi + 1) (by omega) (by omega)]
 simp only [zT, Option.bind_some]
 cases x.odd <;> rfl
structure MI (c : Nat) (s : MS) : Prop where
 ok : mOk s.m
 len : s.m.length ≤ c
 mod : mod1 s.m (70368744177664 * c)
 lo1 : -(c : Int) ≤ s.lo
 lo2 : s.lo ≤ c
 hi1 : -(c : Int) ≤ s.hi
 hi2 : s.hi ≤ c
theorem fl_b {x y : Int} (hx : zs x) (hy : zs y) : -70368744177664 ≤ fl (x * y) ∧ fl (x * y) ≤ 70368744177664 := by
 have := zdi hx hy
 unfold zj0 at this
 unfold fl
 omega
theorem zj5 {x y : Tm} (hx : zbX x) (hy : zbX y) : (x.e.add y.e).ok := by
 have h1 := hx.2.2
 have h2 := hy.2.2
 simp only [E6.deg] at h1 h2
 simp only [E6.add, E6.ok]
 omega
theorem zr1 {c : Nat} {s : MS} (h : MI c s) {x y : Tm} (hx : zbX x) (hy : zbX y) : MI (c + 1) (zcq x s y) := by
 have hf := fl_b hx.1 hy.1
 have hl := zlD (x.c * y.c) (x.e.add y.e)
 have hh := zlE (x.c * y.c)
 obtain ⟨h1, h2, h3, h4, h5, h6, h7⟩ := h
 refine ⟨⟨zg0 _ _ h1.dk, zja _ _ h1.ok (zj5 hx hy)⟩, ?_, ?_, ?_, ?_, ?_, ?_⟩
 ·have := zmI s.m (pT x y)
  simp only [zcq]; omega
 ·have := zmJ s.m (pT x y) h3 (by omega) hf.1 hf.2 (by decide)
  rw [show (70368744177664 : Int) * ((c + 1 : Nat) : Int) = 70368744177664 * (c : Int) + 70368744177664 by omega]
  exact this
 ·simp only [zcq]; omega
 ·simp only [zcq]; omega
 ·simp only [zcq]; omega
 ·simp only [zcq]; omega
def mW (a b : List Tm) (most i k : Int) (x : Tm) (s : MS) : St := zdL (b.map Tm.cs) most 0 0 x.c ((x.e.a : Nat) : Int) ((x.e.b : Nat) : Int) ((x.e.c : Nat) : Int) ((x.e.d : Nat) : Int) ((x.e.e : Nat) : Int) ((x.e.f : Nat) : Int) (a.map Tm.cs) ((a.length : Nat) : Int) i (b.map Tm.cs) ((b.length : Nat) : Int) k (s.m.map Tm.me) s.lo s.hi
set_option maxRecDepth 100000 in
theorem zpZ (a b : List Tm) (most i : Int) (x : Tm) (hx : zbX x) (k : Nat) (hk : k < b.length) (hb : b.length ≤ 1000) (hy : zbX b[k]) (c : Nat) (hc : c ≤ 20000) (s : MS) (hs : MI c s) :
  zw GU LU (CW GU LU) 38 none 7 (mW a b most i ((k : Nat) : Int) x s) = some (.normal, mW a b most i ((k + 1 : Nat) : Int) x (zcq x s b[k])) := by
 have e1 : decide (((k : Nat) : Int) < ((b.length : Nat) : Int)) = true := zcJ hk
 have ws := zbS k (by omega)
 have hgt := zeh b k hk
 generalize b[k] = y at *
 obtain ⟨z, hz⟩ : ∃ z, z = x.e.add y.e := ⟨_, rfl⟩
 have ho : z.ok := by rw [hz]; exact zj5 hx hy
 have hrow := zr0 a b most i ((k : Nat) : Int) x y z hz ho s
 have hmul := p51 x.c y.c (zdi hx.1 hy.1)
 have hmod := hs.mod
 have hf := fl_b hx.1 hy.1
 have hl1 := hs.lo1
 have hl2 := hs.lo2
 have hh1 := hs.hi1
 have hh2 := hs.hi2
 have hround := zrj (lo := s.lo) (hi := s.hi) z ((zbd s.m ⟨fl (x.c * y.c), z⟩).map Tm.me) (by omega) (by omega) (by omega) (by omega)
 have hstep : zcq x s y = ⟨zbd s.m ⟨fl (x.c * y.c), z⟩, s.lo + rlo (x.c * y.c) z, s.hi + rhi (x.c * y.c)⟩ := by rw [hz]; rfl
 rw [hstep]
 have hok := hs.ok.ok
 clear hstep hz hs
 unfold mU at hrow
 unfold mW
 rw [e38_7, e1, hgt]
 simp only [zb9, zca, zy, zA, zR, zB, Option.bind_some, cond_true]
 rw [zbo]
 refine (zae hrow _).trans ?_
 have g : ∀ t, t = zgp (b.map Tm.cs) most 0 0 x.c ((x.e.a : Nat) : Int) ((x.e.b : Nat) : Int) ((x.e.c : Nat) : Int) ((x.e.d : Nat) : Int) ((x.e.e : Nat) : Int) ((x.e.f : Nat) : Int) y.c ((y.e.a : Nat) : Int) ((y.e.b : Nat) : Int) ((y.e.c : Nat) : Int) ((y.e.d : Nat) : Int) ((y.e.e : Nat) : Int) ((y.e.f : Nat) : Int) ((z.a : Nat) : Int) ((z.b : Nat) : Int) ((z.c : Nat) : Int) ((z.d : Nat) : Int) ((z.e : Nat) : Int) ((z.f : Nat) : Int) (a.map Tm.cs) ((a.length : Nat) : Int) i (b.map Tm.cs) ((b.length : Nat) : Int) ((k : Nat) : Int) ((y.e.a : Nat) : Int) ((y.e.b : Nat) : Int) ((y.e.c : Nat) : Int) ((y.e.d : Nat) : Int) ((y.e.e : Nat) : Int) ((y.e.f : Nat) : Int) 6 (s.m.map Tm.me) s.lo s.hi →
   nth t.t 1 = .slice .any (b.map Tm.cs) ∧ nth t.t 2 = .int .i64 most ∧ nth t.t 7 = .box [.int .i64 0, .int .i64 0] ∧ nth t.t 8 = .map 0 ∧ nth t.t 9 = .ptr 1 0 ∧ nth t.t 11 = .box [.int .i64 x.c, .int .u8 ((x.e.a : Nat) : Int), .int .u8 ((x.e.b : Nat) : Int), .int .u8 ((x.e.c : Nat) : Int), .int .u8 ((x.e.d : Nat) : Int), .int .u8 ((x.e.e : Nat) : Int), .int .u8 ((x.e.f : Nat) : Int)] ∧ nth t.t 13 = .box [.int .i64 y.c, .int .u8 ((y.e.a : Nat) : Int), .int .u8 ((y.e.b : Nat) : Int), .int .u8 ((y.e.c : Nat) : Int), .int .u8 ((y.e.d : Nat) : Int), .int .u8 ((y.e.e : Nat) : Int), .int .u8 ((y.e.f : Nat) : Int)] ∧ nth t.t 14 = .box [.int .u8 ((z.a : Nat) : Int), .int .u8 ((z.b : Nat) : Int), .int .u8 ((z.c : Nat) : Int), .int .u8 ((z.d : Nat) : Int), .int .u8 ((z.e : Nat) : Int), .int .u8 ((z.f : Nat) : Int)] ∧ nth t.t 23 = .slice .any (a.map Tm.cs) ∧ nth t.t 24 = .int .i64 ((a.length : Nat) : Int) ∧ nth t.t 25 = .int .i64 i ∧ nth t.t 29 = .slice .any (b.map Tm.cs) ∧ nth t.t 30 = .int .i64 ((b.length : Nat) : Int) ∧ nth t.t 31 = .int .i64 ((k : Nat) : Int) ∧ nth t.t 38 = .agg [.int .u8 ((y.e.a : Nat) : Int), .int .u8 ((y.e.b : Nat) : Int), .int .u8 ((y.e.c : Nat) : Int), .int .u8 ((y.e.d : Nat) : Int), .int .u8 ((y.e.e : Nat) : Int), .int .u8 ((y.e.f : Nat) : Int)] ∧ nth t.t 39 = .int .i64 6 ∧ t.h = [.map true false 6 (s.m.map Tm.me), .cells [.int .i64 s.lo, .int .i64 s.hi]] := by
  intro t ht; subst ht
  exact ⟨rfl, rfl, rfl, rfl, rfl, rfl, rfl, rfl, rfl, rfl, rfl, rfl, rfl, rfl, rfl, rfl, rfl⟩
 obtain ⟨g1, g2, g3, g4, g5, g6, g7, g8, g9, g10, g11, g12, g13, g14, g15, g16, g17⟩ := g _ rfl
 rw [Option.bind_some]
 dsimp only
 rw [g1, g2, g3, g4, g5, g6, g7, g8, g9, g10, g11, g12, g13, g14, g15, g16, g17]
 simp only [Nat.beq_refl, zH, zY, zy, zA, zR, zB, Option.bind_some, cond_true, zC, zD, zx, zb5, zI, zP]
 rw [hmul]
 simp only [zJ, zy, zA, zB, Option.bind_some]
 rw [zpX]
 rw [Option.bind_some]
 have tail : ∀ (M : List (List V × List V)), M = (zbd s.m ⟨fl (x.c * y.c), z⟩).map Tm.me → ∀ (A : Option (Ex × St)), A = (cond (fl (x.c * y.c) != ce (x.c * y.c))
   (((CW GU LU).s (.func 52) [.ptr 1 0, .agg [.int .u8 ((z.a : Nat) : Int), .int .u8 ((z.b : Nat) : Int), .int .u8 ((z.c : Nat) : Int), .int .u8 ((z.d : Nat) : Int), .int .u8 ((z.e : Nat) : Int), .int .u8 ((z.f : Nat) : Int)]] [.map true false 6 M, .cells [.int .i64 s.lo, .int .i64 s.hi]]).bind fun x115 =>
     (zu (x115.1)).bind fun x116 =>
     (zh x116).bind fun x117 =>
     (zz x115.2).bind fun x118 =>
     (zbq true false 6 x118.1).bind fun x119 =>
     (zz x118.2).bind fun x120 =>
     (zF x120.1).bind fun x121 =>
     (zg x121).bind fun x122 =>
     (asInt .i64 (x122.1)).bind fun x123 =>
     (zg x122.2).bind fun x124 =>
     (asInt .i64 (x124.1)).bind fun x125 =>
     (zh x124.2).bind fun x126 =>
     some (.normal, (zdL (b.map Tm.cs) most 0 0 x.c ((x.e.a : Nat) : Int) ((x.e.b : Nat) : Int) ((x.e.c : Nat) : Int) ((x.e.d : Nat) : Int) ((x.e.e : Nat) : Int) ((x.e.f : Nat) : Int) (a.map Tm.cs) ((a.length : Nat) : Int) i (b.map Tm.cs) ((b.length : Nat) : Int) (IntKind.wrap .i64 (((k : Nat) : Int) + 1)) x119 x123 x125)))
   (some (.normal, (zdL (b.map Tm.cs) most 0 0 x.c ((x.e.a : Nat) : Int) ((x.e.b : Nat) : Int) ((x.e.c : Nat) : Int) ((x.e.d : Nat) : Int) ((x.e.e : Nat) : Int) ((x.e.f : Nat) : Int) (a.map Tm.cs) ((a.length : Nat) : Int) i (b.map Tm.cs) ((b.length : Nat) : Int) (IntKind.wrap .i64 (((k : Nat) : Int) + 1)) M s.lo s.hi)))) →
   A = some (.normal, zdL (b.map Tm.cs) most 0 0 x.c ((x.e.a : Nat) : Int) ((x.e.b : Nat) : Int) ((x.e.c : Nat) : Int) ((x.e.d : Nat) : Int) ((x.e.e : Nat) : Int) ((x.e.f : Nat) : Int) (a.map Tm.cs) ((a.length : Nat) : Int) i (b.map Tm.cs) ((b.length : Nat) : Int) ((k + 1 : Nat) : Int) ((zbd s.m ⟨fl (x.c * y.c), z⟩).map Tm.me) (s.lo + rlo (x.c * y.c) z) (s.hi + rhi (x.c * y.c))) := by
  intro M hM A hA
  rw [hA, hM, ws]
  cases hx : zkA (x.c * y.c)
  ·have hx' : (fl (x.c * y.c) != ce (x.c * y.c)) = false := hx
   have e1 : rlo (x.c * y.c) z = 0 := by simp [rlo, hx]
   have e2 : rhi (x.c * y.c) = 0 := by simp [rhi, hx]
   rw [hx', e1, e2, Int.add_zero, Int.add_zero]
   rfl
  ·have hx' : (fl (x.c * y.c) != ce (x.c * y.c)) = true := hx
   have e1 : s.lo + rlo (x.c * y.c) z = if z.odd = true then s.lo - 1 else s.lo := by
    simp only [rlo, hx, true_and]; split <;> omega
   have e2 : rhi (x.c * y.c) = 1 := by simp [rhi, hx]
   rw [hx', e1, e2]
   simp only [cond_true]
   rw [hround]
   simp only [zJ, zB, zD, zb5, zx, zy, zA, Option.bind_some]
 cases hfi : s.m.findIdx? (fun t => z.eqb t.e) with
 | none =>
  obtain ⟨q1, q2⟩ := zpY ⟨fl (x.c * y.c), z⟩ s.m 0 hfi hok ho
  have w0 : IntKind.wrap .i64 (0 + fl (x.c * y.c)) = fl (x.c * y.c) := by rw [Int.zero_add]; exact w64 (by omega) (by omega)
  simp only
  rw [Option.bind_some, Int.toNat_natCast, w0]
  rw [show decide (zbt (s.m.map Tm.me) none < (zcs (s.m.map Tm.me) none [.int .u8 ((z.a : Nat) : Int), .int .u8 ((z.b : Nat) : Int), .int .u8 ((z.c : Nat) : Int), .int .u8 ((z.d : Nat) : Int), .int .u8 ((z.e : Nat) : Int), .int .u8 ((z.f : Nat) : Int)] [.int .i64 0]).length) = true from decide_eq_true q2]
  simp only [cond_true]
  exact tail _ q1 _ rfl
 | some j =>
  obtain ⟨hj, q1, q2⟩ := zk8 ⟨fl (x.c * y.c), z⟩ s.m j hfi hok ho
  have hb2 := hmod s.m[j] (List.getElem_mem hj)
  have w0 : IntKind.wrap .i64 (s.m[j].c + fl (x.c * y.c)) = s.m[j].c + fl (x.c * y.c) := w64 (by omega) (by omega)
  have hmv : zd0 (s.m.map Tm.me) j = some [.int .i64 s.m[j].c] := by simp [zd0, hj, Tm.me]
  simp only
  rw [hmv]
  simp only [zy, zA, zB, Option.bind_some]
  rw [Int.toNat_natCast, w0]
  rw [show decide (zbt (s.m.map Tm.me) (some j) < (zcs (s.m.map Tm.me) (some j) [.int .u8 ((z.a : Nat) : Int), .int .u8 ((z.b : Nat) : Int), .int .u8 ((z.c : Nat) : Int), .int .u8 ((z.d : Nat) : Int), .int .u8 ((z.e : Nat) : Int), .int .u8 ((z.f : Nat) : Int)] [.int .i64 0]).length) = true from decide_eq_true (by simpa [zbt, zcs] using hj)]
  simp only [cond_true]
  exact tail _ q2 _ rfl
end Go.Ab
namespace Go.Ab
def zce (p : List Tm) : Prop := ∀ t ∈ p, zbX t
theorem zp0 (a b : List Tm) (hb : zce b) (hbl : b.length ≤ 100) (most i : Int) (x : Tm) (hx : zbX x) (c : Nat) (hc : c ≤ 10000) (s : MS) (hs : MI c s) :
  zas (zw GU LU (CW GU LU) 38 none 7) (mW a b most i 0 x s) = some (.exit 2, mW a b most i ((b.length : Nat) : Int) x (b.foldl (zcq x) s)) ∧ MI (c + b.length) (b.foldl (zcq x) s) :=
 zhB (round := zw GU LU (CW GU LU) 38 none 7) (fun k s => mW a b most i ((k : Nat) : Int) x s) (zcq x) (fun k s => MI (c + k) s) b (id := 2)
  (fun k hk s hs => ⟨zpZ a b most i x hx k hk (by omega) (hb _ (List.getElem_mem hk)) (c + k) (by omega) s hs, zr1 hs hx (hb _ (List.getElem_mem hk))⟩)
  (fun s _ => by unfold mW; rw [e38_7, zci]; rfl) s hs
def mV (a b : List Tm) (most i : Int) (s : MS) : St := zib (b.map Tm.cs) most 0 0 (a.map Tm.cs) ((a.length : Nat) : Int) i (s.m.map Tm.me) s.lo s.hi
def zjb (b : List Tm) (s : MS) (x : Tm) : MS := b.foldl (zcq x) s
theorem zoE (a b : List Tm) (ha : zce a) (hal : a.length ≤ 100) (hb : zce b) (hbl : b.length ≤ 100) (most : Int) (i : Nat) (hi : i < a.length) (s : MS) (hs : MI (i * b.length) s) :
  zw GU LU (CW GU LU) 38 none 4 (mV a b most ((i : Nat) : Int) s) = some (.normal, mV a b most ((i + 1 : Nat) : Int) (zjb b s a[i])) ∧ MI ((i + 1) * b.length) (zjb b s a[i]) := by
 have hc : i * b.length ≤ 10000 := by
  have := Nat.mul_le_mul (show i ≤ 100 by omega) hbl
  omega
 obtain ⟨hl, hI⟩ := zp0 a b hb hbl most ((i : Nat) : Int) a[i] (ha _ (List.getElem_mem hi)) _ hc s hs
 refine ⟨?_, by rw [Nat.add_mul, Nat.one_mul]; exact hI⟩
 have e1 : decide (((i : Nat) : Int) < ((a.length : Nat) : Int)) = true := zcJ hi
 have ws := zbS i (by omega)
 have hgt := zeh a i hi
 unfold zjb
 generalize a[i] = x at *
 generalize b.foldl (zcq x) s = u at *
 unfold mV
 unfold mW at hl
 rw [e38_4, e1, hgt]
 simp only [zb9, zca, zy, zA, zR, zB, Option.bind_some, cond_true]
 rw [zbo, List.length_map]
 refine (zae hl _).trans ?_
 have g : ∀ t, t = zdL (b.map Tm.cs) most 0 0 x.c ((x.e.a : Nat) : Int) ((x.e.b : Nat) : Int) ((x.e.c : Nat) : Int) ((x.e.d : Nat) : Int) ((x.e.e : Nat) : Int) ((x.e.f : Nat) : Int) (a.map Tm.cs) ((a.length : Nat) : Int) ((i : Nat) : Int) (b.map Tm.cs) ((b.length : Nat) : Int) ((b.length : Nat) : Int) (u.m.map Tm.me) u.lo u.hi →
   nth t.t 1 = .slice .any (b.map Tm.cs) ∧ nth t.t 2 = .int .i64 most ∧ nth t.t 7 = .box [.int .i64 0, .int .i64 0] ∧ nth t.t 8 = .map 0 ∧ nth t.t 9 = .ptr 1 0 ∧ nth t.t 11 = .box [.int .i64 x.c, .int .u8 ((x.e.a : Nat) : Int), .int .u8 ((x.e.b : Nat) : Int), .int .u8 ((x.e.c : Nat) : Int), .int .u8 ((x.e.d : Nat) : Int), .int .u8 ((x.e.e : Nat) : Int), .int .u8 ((x.e.f : Nat) : Int)] ∧ nth t.t 23 = .slice .any (a.map Tm.cs) ∧ nth t.t 24 = .int .i64 ((a.length : Nat) : Int) ∧ nth t.t 25 = .int .i64 ((i : Nat) : Int) ∧ nth t.t 29 = .slice .any (b.map Tm.cs) ∧ nth t.t 30 = .int .i64 ((b.length : Nat) : Int) ∧ nth t.t 31 = .int .i64 ((b.length : Nat) : Int) ∧ t.h = [.map true false 6 (u.m.map Tm.me), .cells [.int .i64 u.lo, .int .i64 u.hi]] := by
  intro t ht; subst ht
  exact ⟨rfl, rfl, rfl, rfl, rfl, rfl, rfl, rfl, rfl, rfl, rfl, rfl, rfl⟩
 obtain ⟨g1, g2, g3, g4, g5, g6, g7, g8, g9, g10, g11, g12, g13⟩ := g _ rfl
 rw [Option.bind_some]
 dsimp only
 rw [g1, g2, g3, g4, g5, g6, g7, g8, g9, g10, g11, g12, g13]
 simp only [Nat.beq_refl, zH, zY, zy, zA, zR, zB, Option.bind_some, cond_true, zD, zx, zb5, zI, zP, ws]
theorem MI_0 : MI 0 ⟨[], 0, 0⟩ := ⟨⟨List.Pairwise.nil, fun t ht => by cases ht⟩, Nat.le_refl _, (fun t ht => by cases ht), by decide, by decide, by decide, by decide⟩
def zjc (a b : List Tm) : MS := a.foldl (zjb b) ⟨[], 0, 0⟩
theorem zp1 (a b : List Tm) (ha : zce a) (hal : a.length ≤ 100) (hb : zce b) (hbl : b.length ≤ 100) (most : Int) :
  zas (zw GU LU (CW GU LU) 38 none 4) (mV a b most 0 ⟨[], 0, 0⟩) = some (.exit 0, mV a b most ((a.length : Nat) : Int) (zjc a b)) ∧ MI (a.length * b.length) (zjc a b) :=
 zhB (round := zw GU LU (CW GU LU) 38 none 4) (fun i s => mV a b most ((i : Nat) : Int) s) (zjb b) (fun i s => MI (i * b.length) s) a (id := 0)
  (fun i hi s hs => zoE a b ha hal hb hbl most i hi s hs)
  (fun s _ => by unfold mV; rw [e38_4, zci]; rfl) ⟨[], 0, 0⟩ (by rw [Nat.zero_mul]; exact MI_0)
instance (x : E6) : Decidable x.ok := inferInstanceAs (Decidable (_ ∧ _))
def mkR (x : E6) (h : x.ok) : R6 := ⟨x, h⟩
def toR (x : E6) : R6 := if h : x.ok then mkR x h else default
theorem zmM {x : E6} (h : x.ok) : (toR x).1 = x := by unfold toR; rw [dif_pos h]; rfl
theorem zk9 (t : Tm) (ht : t.e.ok) : ∀ l : List Tm, oks l → zdS (toR t.e) (l.map fun u => toR u.e) = (zcf t l).map fun u => toR u.e
 | [], _ => rfl
 | y :: l, h => by
  have hy := h y (by simp)
  have ih := zk9 t ht l fun u hu => h u (by simp [hu])
  simp only [List.map_cons, zdS, zcf, zmM ht, zmM hy]
  split
  ·rfl
  ·rw [ih]; rfl
theorem zhJ {m : List Tm} (h : oks m) : oks (zbz m) := fun t ht => h t ((zf3 m t).1 ht)
theorem zj6 : ∀ m : List Tm, oks m → (m.map fun u => toR u.e).foldr zdS [] = (zbz m).map fun u => toR u.e
 | [], _ => rfl
 | t :: m, h => by
  have h' : oks m := fun u hu => h u (by simp [hu])
  have ih := zj6 m h'
  rw [List.map_cons, List.foldr_cons, ih, zk9 t (h t (by simp)) _ (zhJ h')]; rfl
theorem zp2 (m : List Tm) (h : oks m) : zey (m.map fun t => t.e.l) = (zbz m).map fun t => t.e.l := by
 have e : ∀ l : List Tm, oks l → (l.map fun t => t.e.l) = (l.map fun u => toR u.e).map fun r => r.1.l := fun l hl => by
  rw [List.map_map]
  refine List.map_congr_left fun t ht => ?_
  simp only [Function.comp, zmM (hl t ht)]
 rw [e m h, zdI, zj6 m h, ← e _ (zhJ h)]
theorem zj7 : ∀ m : List Tm, zdQ ((m.map Tm.me).map (·.1)) = some (m.map fun t => t.e.l)
 | [] => rfl
 | t :: m => by
  simp only [List.map_cons, zdQ, zj7 m]
  rfl
theorem zoF (m : List Tm) (h : oks m) (hl : m.length < 1000000) (lo hi : Int) :
  (CW GU LU).s (.func 55) [.fn (.func 70) [] [.ptr 3 0], .fn (.func 54) [] []] [.map true false 6 (m.map Tm.me), .cells [.int .i64 lo, .int .i64 hi], .arr true 7 [], .cells [.map 0]] =
   some (.slice .any ((zbz m).map fun t => t.e.cs), [.map true false 6 (m.map Tm.me), .cells [.int .i64 lo, .int .i64 hi], .arr true 7 [], .cells [.map 0]]) := by
 refine zdD ?_
 have hs : ∀ C, zM GU LU C (.func 55) [.fn (.func 70) [] [.ptr 3 0], .fn (.func 54) [] []] [.map true false 6 (m.map Tm.me), .cells [.int .i64 lo, .int .i64 hi], .arr true 7 [], .cells [.map 0]] = zfG 70 54 [.fn (.func 70) [] [.ptr 3 0], .fn (.func 54) [] []] [.map true false 6 (m.map Tm.me), .cells [.int .i64 lo, .int .i64 hi], .arr true 7 [], .cells [.map 0]] := fun _ => rfl
 rw [hs]
 unfold zfG
 have h1 : zia 54 (.fn (.func 54) [] []) = true := rfl
 have h2 : zjW 70 [.map true false 6 (m.map Tm.me), .cells [.int .i64 lo, .int .i64 hi], .arr true 7 [], .cells [.map 0]] (.fn (.func 70) [] [.ptr 3 0]) = some (m.map Tm.me) := rfl
 dsimp only
 rw [h1, h2]
 dsimp only
 rw [Option.bind_some, zj7, Option.bind_some]
 rw [if_pos, zp2 m h, List.map_map]
 ·rfl
 ·refine ⟨by simpa using hl, fun k hk => ?_⟩
  obtain ⟨t, ht, rfl⟩ := List.mem_map.1 hk
  have := h t ht
  simp only [E6.ok] at this
  refine ⟨rfl, fun n hn => ?_⟩
  simp only [E6.l, List.mem_cons, List.not_mem_nil, or_false] at hn
  omega
theorem zla : ∀ (m : List Tm) (t : Tm), oks m → zig m → t ∈ m → ∃ j, m.findIdx? (fun u => t.e.eqb u.e) = some j ∧ ∃ hj : j < m.length, m[j] = t
 | [], t, _, _, h => by cases h
 | x :: m, t, ho, hd, h => by
  obtain ⟨h1, h2⟩ := List.pairwise_cons.1 hd
  have hx := ho x (by simp)
  have ht := ho t h
  rw [List.findIdx?_cons]
  simp only [zkC ht hx]
  rcases List.mem_cons.1 h with rfl | hm
  ·exact ⟨0, by simp, by simp, rfl⟩
  ·have hne : ¬ t.e.key = x.e.key := fun e => h1 t hm e.symm
   obtain ⟨j, g1, g2, g3⟩ := zla m t (fun u hu => ho u (by simp [hu])) h2 hm
   refine ⟨j + 1, by simp [hne, g1], by simpa using g2, by simpa using g3⟩
def mX (ks : List Tm) (most : Int) (i : Nat) (m : List Tm) (lo hi : Int) : St := zfH most 0 0 (((ks.take i).map Tm.cs).length) (ks.map fun t => t.e.cs) ((ks.length : Nat) : Int) ((i : Nat) : Int) (m.map Tm.me) lo hi ((ks.take i).map Tm.cs)
theorem znB (ks m : List Tm) (hm : mOk m) (hks : ∀ t ∈ ks, t ∈ m) (hl : ks.length ≤ 100000) (most lo hi : Int) (i : Nat) (hi' : i < ks.length) :
  zw GU LU (CW GU LU) 38 none 23 (mX ks most i m lo hi) = some (.normal, mX ks most (i + 1) m lo hi) := by
 obtain ⟨j, f1, f2, f3⟩ := zla m ks[i] hm.ok hm.dk (hks _ (List.getElem_mem hi'))
 have e1 : decide (((i : Nat) : Int) < ((ks.length : Nat) : Int)) = true := zcJ hi'
 have ws := zbS i (by omega)
 have hg : zab (ks.map fun t => t.e.cs) ((i : Nat) : Int) 6 = some ks[i].e.cs := zdv (fun t : Tm => t.e.cs) (fun _ => rfl) ks i hi'
 have hr : decide ((((ks.take i).map Tm.cs).length + 1) * 16 ≤ zaw) = true := by
  simp only [List.length_map, List.length_take, decide_eq_true_eq]; unfold zaw; omega
 have ap : List.append ((ks.take i).map Tm.cs) [[.int .i64 ks[i].c, .int .u8 ((ks[i].e.a : Nat) : Int), .int .u8 ((ks[i].e.b : Nat) : Int), .int .u8 ((ks[i].e.c : Nat) : Int), .int .u8 ((ks[i].e.d : Nat) : Int), .int .u8 ((ks[i].e.e : Nat) : Int), .int .u8 ((ks[i].e.f : Nat) : Int)]] = (ks.take i ++ [ks[i]]).map Tm.cs := by rw [List.map_append]; rfl
 have aq : ((ks.take i).map Tm.cs).length + 1 = ((ks.take i ++ [ks[i]]).map Tm.cs).length := by rw [List.map_append, List.length_append]; rfl
 have hmv : zd0 (m.map Tm.me) j = some [.int .i64 ks[i].c] := by
  simp only [zd0, List.getElem?_map, List.getElem?_eq_getElem f2, f3]; rfl
 unfold mX
 rw [zpF, e1, hg, zdh hi']
 generalize ks[i] = t at *
 have hcs : t.e.cs = [.int .u8 ((t.e.a : Nat) : Int), .int .u8 ((t.e.b : Nat) : Int), .int .u8 ((t.e.c : Nat) : Int), .int .u8 ((t.e.d : Nat) : Int), .int .u8 ((t.e.e : Nat) : Int), .int .u8 ((t.e.f : Nat) : Int)] := rfl
 rw [hcs]
 simp only [zy, zR, zB, Option.bind_some, cond_true]
 rw [zpX, f1, Option.bind_some]
 simp only
 rw [hmv]
 simp only [zy, zA, zB, Option.bind_some, decide_true, cond_true]
 rw [hr, ap, aq, ws]
 rfl
def zfM (a b : List Tm) (most : Int) : List Tm × Iv := zaJ (zbz (zjc a b).m) most (zjc a b).lo (zjc a b).hi
set_option maxRecDepth 100000 in
theorem p38 (a b : List Tm) (ha : zce a) (hal : a.length ≤ 100) (hb : zce b) (hbl : b.length ≤ 100) (most : Int) :
  (CW GU LU).p (.func 38) [.slice .any (a.map Tm.cs), .slice .any (b.map Tm.cs), .int .i64 most] = some (.tuple [.slice .any ((zfM a b most).1.map Tm.cs), .agg (zfM a b most).2.c]) := by
 obtain ⟨hl4, hI⟩ := zp1 a b ha hal hb hbl most
 have hc : a.length * b.length ≤ 10000 := Nat.mul_le_mul hal hbl
 unfold zfM
 generalize zjc a b = s at *
 have hlen := hI.len
 have hl1 := hI.lo1
 have hl2 := hI.lo2
 have hh1 := hI.hi1
 have hh2 := hI.hi2
 have hsl := zk7 s.m
 have hso := zhJ hI.ok.ok
 have hsr := zoF s.m hI.ok.ok (by omega) s.lo s.hi
 have hl23 := zdg (round := zw GU LU (CW GU LU) 38 none 23) (fun i => mX (zbz s.m) most i s.m s.lo s.hi) (zbz s.m).length (id := 6)
  (fun i hi => znB (zbz s.m) s.m hI.ok (fun t ht => (zf3 _ _).1 ht) (by omega) most s.lo s.hi i hi)
  (by unfold mX; rw [zpF, zci]; rfl)
 have hfin := p53 (zbz s.m) most s.lo s.hi hso (by unfold few; omega) (by omega) (by omega) (by omega) (by omega)
 have hkeys : ∀ r, (CW GU LU).s (.func 56) [.map 0] [.map true false 6 (s.m.map Tm.me), .cells [.int .i64 s.lo, .int .i64 s.hi], .arr true 7 r] = some (.fn (.func 70) [] [.ptr 3 0], [.map true false 6 (s.m.map Tm.me), .cells [.int .i64 s.lo, .int .i64 s.hi], .arr true 7 r, .cells [.map 0]]) := fun r => zdD (zqT _ _ _ _ _)
 clear hlen hl1 hl2 hh1 hh2 hc hI hso
 generalize zbz s.m = q at *
 unfold mV at hl4
 unfold mX at hl23
 rw [List.take_length] at hl23
 refine zbL (u := .tuple [.slice .any ((zaJ q most s.lo s.hi).1.map Tm.cs), .agg (zaJ q most s.lo s.hi).2.c]) (h := [.map true false 6 (s.m.map Tm.me), .cells [.int .i64 s.lo, .int .i64 s.hi], .arr false 7 (q.map Tm.cs), .cells [.map 0]]) ?_ rfl
 rw [e38, zbo, List.length_map]
 refine (zae hl4 _).trans ?_
 have g : ∀ t, t = zib (b.map Tm.cs) most 0 0 (a.map Tm.cs) ((a.length : Nat) : Int) ((a.length : Nat) : Int) (s.m.map Tm.me) s.lo s.hi →
   nth t.t 1 = .slice .any (b.map Tm.cs) ∧ nth t.t 2 = .int .i64 most ∧ nth t.t 7 = .box [.int .i64 0, .int .i64 0] ∧ nth t.t 8 = .map 0 ∧ nth t.t 9 = .ptr 1 0 ∧ nth t.t 23 = .slice .any (a.map Tm.cs) ∧ nth t.t 24 = .int .i64 ((a.length : Nat) : Int) ∧ nth t.t 25 = .int .i64 ((a.length : Nat) : Int) ∧ t.h = [.map true false 6 (s.m.map Tm.me), .cells [.int .i64 s.lo, .int .i64 s.hi]] := by
  intro t ht; subst ht
  exact ⟨rfl, rfl, rfl, rfl, rfl, rfl, rfl, rfl, rfl⟩
 obtain ⟨g1, g2, g3, g4, g5, g6, g7, g8, g9⟩ := g _ rfl
 rw [Option.bind_some]
 dsimp only
 rw [g1, g2, g3, g4, g5, g6, g7, g8, g9]
 simp only [Nat.beq_refl, zH, zY, zy, zA, zR, zB, Option.bind_some, cond_true, zD, zx, zb5, zI, zP]
 rw [hkeys]
 simp only [zy, zA, zB, Option.bind_some, zD, zx, zb5, zI, zP, zaa, zK]
 rw [hsr]
 simp only [zy, zA, zB, Option.bind_some, zD, zx, zb5, zI, zP, zH, zK]
 rw [List.length_map]
 refine (zae hl23 _).trans ?_
 have g' : ∀ t, t = zfH most 0 0 ((q.map Tm.cs).length) (q.map fun t => t.e.cs) ((q.length : Nat) : Int) ((q.length : Nat) : Int) (s.m.map Tm.me) s.lo s.hi (q.map Tm.cs) →
   nth t.t 2 = .int .i64 most ∧ nth t.t 7 = .box [.int .i64 0, .int .i64 0] ∧ nth t.t 8 = .map 0 ∧ nth t.t 9 = .ptr 1 0 ∧ nth t.t 19 = .arr 2 ((q.map Tm.cs).length) 7 ∧ nth t.t 74 = .slice .any (q.map fun t => t.e.cs) ∧ nth t.t 75 = .int .i64 ((q.length : Nat) : Int) ∧ nth t.t 76 = .int .i64 ((q.length : Nat) : Int) ∧ t.h = [.map true false 6 (s.m.map Tm.me), .cells [.int .i64 s.lo, .int .i64 s.hi], .arr true 7 (q.map Tm.cs), .cells [.map 0]] := by
  intro t ht; subst ht
  exact ⟨rfl, rfl, rfl, rfl, rfl, rfl, rfl, rfl, rfl⟩
 obtain ⟨k1, k2, k3, k4, k5, k6, k7, k8, k9⟩ := g' _ rfl
 have har : zaj [.map true false 6 (s.m.map Tm.me), .cells [.int .i64 s.lo, .int .i64 s.hi], .arr true 7 (q.map Tm.cs), .cells [.map 0]] 2 ((q.map Tm.cs).length) = some (q.map Tm.cs) := by simp [zaj, zar]
 rw [Option.bind_some]
 dsimp only
 rw [k1, k2, k3, k4, k5, k6, k7, k8, k9]
 simp only [Nat.beq_refl, zH, zY, zy, zA, zR, zB, Option.bind_some, cond_true, zD, zx, zb5, zI, zP, zZ, zK]
 rw [har, Option.bind_some, hfin]
 simp only [zJ, zH, zC, zG, zy, zA, zB, Option.bind_some]
 rfl
end Go.Ab
namespace Go.Ab
def zfg (x : Tm) (s : MS) (y : Tm) : MS := ⟨ins s.m (pT x y), s.lo + rlo (x.c * y.c) (x.e.add y.e), s.hi + rhi (x.c * y.c)⟩
structure RI (c : Nat) (s : MS) : Prop where
 ok : oks s.m
 len : s.m.length ≤ c
 mod : mod1 s.m (70368744177664 * c)
 lo1 : -(c : Int) ≤ s.lo
 lo2 : s.lo ≤ c
 hi1 : -(c : Int) ≤ s.hi
 hi2 : s.hi ≤ c
def rRow (b : List Tm) (s : MS) (x : Tm) : MS := b.foldl (zfg x) s
def rAll (a b : List Tm) : MS := a.foldl (rRow b) ⟨[], 0, 0⟩
structure SameMS (s r : MS) : Prop where
 ok : mOk s.m
 m : zbz s.m = r.m
 lo : s.lo = r.lo
 hi : s.hi = r.hi
theorem zp3 {s r : MS} (h : SameMS s r) {x y : Tm} (hx : zbX x) (hy : zbX y) : SameMS (zcq x s y) (zfg x r y) := by
 obtain ⟨h1, h2, h3, h4⟩ := h
 refine ⟨⟨zg0 _ _ h1.dk, zja _ _ h1.ok (zj5 hx hy)⟩, ?_, ?_, ?_⟩
 ·simp only [zcq, zfg]
  rw [zj4 s.m (pT x y) h1.dk h1.ok (zj5 hx hy), h2]
 ·simp only [zcq, zfg, h3]
 ·simp only [zcq, zfg, h4]
theorem zmN {x : Tm} (hx : zbX x) : ∀ (b : List Tm) (s r : MS), zce b → SameMS s r → SameMS (zjb b s x) (rRow b r x)
 | [], _, _, _, h => h
 | y :: b, s, r, hb, h => zmN hx b _ _ (fun t ht => hb t (by simp [ht])) (zp3 h hx (hb y (by simp)))
theorem zmO (b : List Tm) (hb : zce b) : ∀ (a : List Tm) (s r : MS), zce a → SameMS s r → SameMS (a.foldl (zjb b) s) (a.foldl (rRow b) r)
 | [], _, _, _, h => h
 | x :: a, s, r, ha, h => zmO b hb a _ _ (fun t ht => ha t (by simp [ht])) (zmN (ha x (by simp)) b _ _ hb h)
theorem zr2 {a b : List Tm} (ha : zce a) (hb : zce b) (most : Int) : zfM a b most = zaJ (rAll a b).m most (rAll a b).lo (rAll a b).hi := by
 have := zmO b hb a ⟨[], 0, 0⟩ ⟨[], 0, 0⟩ ha ⟨⟨List.Pairwise.nil, fun t ht => by cases ht⟩, rfl, rfl, rfl⟩
 unfold zfM zjc rAll
 rw [this.m, this.lo, this.hi]
end Go.Ab
namespace Go.Ab
theorem add_zero (x : E6) : x.add E6.zero = x := by
 simp only [E6.add, E6.zero, Nat.add_zero]
theorem zoG (c : Int) : (zaK c).length ≤ 1 := by unfold zaK; split <;> simp
end Go.Ab
