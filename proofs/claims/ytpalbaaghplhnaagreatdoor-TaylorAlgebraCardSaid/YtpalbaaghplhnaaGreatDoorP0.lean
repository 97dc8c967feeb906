/- Typed values, and what a loop over a list comes to; conditions: none. -/
import Derived.Test.YtpalbaaghplhnaaGreatDoorG5
import Derived.Test.YtpalbaaghplhnaaGreatDoorEA
import Derived.Test.YtpalbaaghplhnaaGreatDoorEC
set_option linter.unusedVariables false
set_option linter.unusedSimpArgs false
namespace Go.Ab
theorem w64 {x : Int} (h1 : -9223372036854775808 ≤ x) (h2 : x < 9223372036854775808) : IntKind.wrap .i64 x = x := by
 have e : IntKind.wrap .i64 x = if (9223372036854775808 : Int) ≤ x % 18446744073709551616 then x % 18446744073709551616 - 18446744073709551616 else x % 18446744073709551616 := by
  by_cases h : (9223372036854775808 : Int) ≤ x % 18446744073709551616
  ·simp [IntKind.wrap, IntKind.bits, IntKind.signed, h]
  ·simp [IntKind.wrap, IntKind.bits, IntKind.signed, h]
 rw [e]
 split <;> omega
theorem zaz (G : Cfg) (L : Lv) : (CW G L).w = zal := rfl
theorem zaA {G : Cfg} {L : Lv} {g : Fn} {args : List V} {u v : V} {h : List Ob} (hr : zO G L (CW G L) g args [] = some (u, h)) (hn : zbG h u some = some v) : (CW G L).p g args = some v := by
 refine zt5 ?_
 rw [hr]; exact hn
theorem zE {G : Cfg} {L : Lv} {g : Fn} {args : List V} {v : V} {h : List Ob} (hr : zO G L (CW G L) g args [] = some (v, h)) (hn : zbG h v some = some v) : (CW G L).p g args = some v := zaA hr hn
def zgW {α β σ : Type} (step : Nat → σ → α → Except β σ) : Nat → List α → σ → Except β σ
 | _, [], s => .ok s
 | i, a :: l, s => match step i s a with
  | .ok s' => zgW step (i + 1) l s'
  | .error b => .error b
theorem zpf {α β σ : Type} {round : St → Option (Ex × St)} {S : Nat → σ → St} {step : Nat → σ → α → Except β σ} {out : β → Ex × St} {ex : Ex} (Inv : Nat → σ → Prop) (l : List α)
  (hex : ex ≠ .normal) (hout : ∀ b, (out b).1 ≠ .normal)
  (h1 : ∀ (i : Nat) (hi : i < l.length) (s : σ), Inv i s → (∀ s', step i s l[i] = .ok s' → round (S i s) = some (.normal, S (i + 1) s') ∧ Inv (i + 1) s') ∧ ∀ b, step i s l[i] = .error b → round (S i s) = some (out b))
  (h2 : ∀ s, Inv l.length s → round (S l.length s) = some (ex, S l.length s)) :
  ∀ (k : List α) (i : Nat) (s : σ), l.drop i = k → i ≤ l.length → Inv i s → zal round (S i s) = (match zgW step i k s with
   | .ok s' => some (ex, S l.length s')
   | .error b => some (out b)) ∧ ∀ s', zgW step i k s = .ok s' → Inv l.length s' := by
 intro k
 induction k with
 | nil =>
  intro i s hk hi hInv
  have hil : i = l.length := by
   have := List.drop_eq_nil_iff.1 hk
   omega
  subst hil
  refine ⟨?_, fun s' hs' => by cases hs'; exact hInv⟩
  rw [zdg, h2 s hInv]
  simp only [zgW]
  cases ex with
  | normal => exact absurd rfl hex
  | exit id => rfl
  | ret => rfl
 | cons a k ih =>
  intro i s hk hi hInv
  have hil : i < l.length := by
   apply Nat.lt_of_not_le
   intro hle
   rw [List.drop_eq_nil_iff.2 hle] at hk; cases hk
  have hd := List.drop_eq_getElem_cons hil
  rw [hk] at hd
  injection hd with ha hk'
  obtain ⟨g1, g2⟩ := h1 i hil s hInv
  rw [zdg]
  simp only [zgW]
  rw [ha]
  cases hs : step i s l[i] with
  | ok s' =>
   obtain ⟨k1, k2⟩ := g1 s' hs
   rw [k1]
   exact ih (i + 1) s' hk'.symm (by omega) k2
  | error b =>
   rw [g2 b hs]
   refine ⟨?_, fun s' hs' => by cases hs'⟩
   have := hout b
   simp only
   cases ho : out b with
   | mk e st =>
    rw [ho] at this
    cases e with
    | normal => exact absurd rfl this
    | exit id => rfl
    | ret => rfl
theorem zlm {α σ : Type} {round : St → Option (Ex × St)} (S : Nat → σ → St) (step : Nat → σ → α → σ) (Inv : Nat → σ → Prop) (l : List α) {ex : Ex} (hex : ex ≠ .normal)
  (h1 : ∀ (i : Nat) (hi : i < l.length) (s : σ), Inv i s → round (S i s) = some (.normal, S (i + 1) (step i s l[i])) ∧ Inv (i + 1) (step i s l[i]))
  (h2 : ∀ s, Inv l.length s → round (S l.length s) = some (ex, S l.length s)) (s : σ) (hs : Inv 0 s) :
  ∃ s', zgW (β := Empty) (fun i s a => .ok (step i s a)) 0 l s = .ok s' ∧ zal round (S 0 s) = some (ex, S l.length s') ∧ Inv l.length s' := by
 have := zpf (β := Empty) (S := S) (round := round) (step := fun i s a => .ok (step i s a)) (out := fun b => nomatch b) (ex := ex) Inv l hex (fun b => nomatch b)
  (fun i hi s hI => ⟨fun s' e => by cases e; exact h1 i hi s hI, fun b => nomatch b⟩) h2 l 0 s rfl (Nat.zero_le _) hs
 cases hf : zgW (β := Empty) (fun i s a => .ok (step i s a)) 0 l s with
 | ok s' => rw [hf] at this; exact ⟨s', rfl, this.1, this.2 s' rfl⟩
 | error b => exact nomatch b
theorem zjZ {α β σ : Type} (step : σ → α → σ) : ∀ (l : List α) (i : Nat) (s : σ), zgW (β := β) (fun _ s a => .ok (step s a)) i l s = .ok (l.foldl step s) := by
 intro l
 induction l with
 | nil => intro i s; rfl
 | cons a l ih => intro i s; exact ih (i + 1) (step s a)
theorem zdm {α : Type} (f : α → List V) {sz : Nat} (hf : ∀ x, (f x).length = sz) (l : List α) (i : Nat) (hi : i < l.length) : zS (l.map f) (i : Int) sz = some (f l[i]) := by
 unfold zS
 have h0 : (0 : Int) ≤ (i : Int) := Int.natCast_nonneg i
 rw [if_pos h0]
 simp [hi, hf]
theorem zT {R : Type} {p : Prop} [Decidable p] (x y : R) : cond (decide p) x y = if p then x else y := by
 by_cases h : p <;> simp [h]
theorem zU {R : Type} (b : Bool) (x y : R) : cond (!b) x y = cond b y x := by cases b <;> rfl
structure Iv where
 lo : Int
 hi : Int
 deriving DecidableEq
def Iv.c (a : Iv) : List V := [.int .i64 a.lo, .int .i64 a.hi]
theorem Iv.c_len (a : Iv) : a.c.length = 2 := rfl
theorem zs (n : Int) : asInt .i64 (.int .i64 n) = some n := rfl
theorem zQ (b : Bool) : asBool (.bool b) = some b := rfl
theorem zD (fl : Fl) (r : List (List V)) : zl (.slice fl r) = some r := rfl
theorem zw (l : List V) : zi (.agg l) = some l := rfl
theorem zI (l : List V) : zy (.tuple l) = some l := rfl
theorem zP (l : List V) : zai (.box l) = some l := rfl
theorem zu (l : List V) : zX (.cells l) = some l := rfl
theorem zV (l : LoopA) : znk (.loop l) = some l := rfl
theorem zr (v : V) (l : List V) : zg (v :: l) = some (v, l) := rfl
theorem zC (v : Ob) (l : List Ob) : zJ (v :: l) = some (v, l) := rfl
theorem zt : zh [] = some () := rfl
theorem zR (i o : Nat) : zaj i o (.ptr i o) = some () := by simp [zaj]
theorem z6 (n : Nat) (a b : List V) : zcm (.func n) (.fn (.func n) a b) = some (a, b) := by simp [zcm, fnEq]
theorem zaa (n : Nat) (a b : List V) : zcm (.yield n) (.fn (.yield n) a b) = some (a, b) := by simp [zcm, fnEq]
theorem zY (id len sz : Nat) : zcn id sz (.arr id len sz) = some len := by simp [zcn]
theorem zH (sz : Nat) (r : List (List V)) : zaU true sz (.arr true sz r) = some r := by simp [zaU]
theorem zM (sz : Nat) (r : List (List V)) : zaU false sz (.arr false sz r) = some r := by simp [zaU]
theorem zN : zpm .ready = some () := rfl
theorem zW : zqR .busy = some () := rfl
theorem zB (a : Iv) : zg a.c = some (.int .i64 a.lo, [.int .i64 a.hi]) := rfl
theorem zL (wr : Bool) (sz : Nat) (r : List (List V)) (h : List Ob) : zak (.arr wr sz r :: h) 0 r.length = some r := by simp [zak, zav]
theorem Iv.eta (a : Iv) : (⟨a.lo, a.hi⟩ : Iv) = a := rfl
theorem zG (n : Int) : asInt .u8 (.int .u8 n) = some n := rfl
theorem zK (id : Nat) : zbm id (.map id) = some () := by simp [zbm]
theorem zaV (i : Nat) (h : i ≤ 1000000000) : IntKind.wrap .i64 ((i : Int) + 1) = ((i + 1 : Nat) : Int) := by
 rw [w64 (by omega) (by omega)]; simp
theorem zZ {A R : Type} {x y : Option A} (h : x = y) (k : A → Option R) : x.bind k = y.bind k := by rw [h]
theorem zj0 {α σ : Type} {round : St → Option (Ex × St)} (S : Nat → σ → St) (step : σ → α → σ) (Inv : σ → Prop) (l : List α) {id : Nat}
  (h1 : ∀ (i : Nat) (hi : i < l.length) (s : σ), Inv s → round (S i s) = some (.normal, S (i + 1) (step s l[i])) ∧ Inv (step s l[i]))
  (h2 : ∀ s, Inv s → round (S l.length s) = some (.exit id, S l.length s)) (s : σ) (hs : Inv s) :
  zal round (S 0 s) = some (.exit id, S l.length (l.foldl step s)) ∧ Inv (l.foldl step s) := by
 obtain ⟨s', e1, e2, e3⟩ := zlm S (fun _ s a => step s a) (fun _ s => Inv s) l (ex := .exit id) (by simp) h1 h2 s hs
 rw [zjZ] at e1
 cases e1
 exact ⟨e2, e3⟩
theorem zeW {α σ : Type} {round : St → Option (Ex × St)} (S : Nat → σ → St) (step : σ → α → σ) (Inv : Nat → σ → Prop) (l : List α) {id : Nat}
  (h1 : ∀ (i : Nat) (hi : i < l.length) (s : σ), Inv i s → round (S i s) = some (.normal, S (i + 1) (step s l[i])) ∧ Inv (i + 1) (step s l[i]))
  (h2 : ∀ s, Inv l.length s → round (S l.length s) = some (.exit id, S l.length s)) (s : σ) (hs : Inv 0 s) :
  zal round (S 0 s) = some (.exit id, S l.length (l.foldl step s)) ∧ Inv l.length (l.foldl step s) := by
 obtain ⟨s', e1, e2, e3⟩ := zlm S (fun _ s a => step s a) Inv l (ex := .exit id) (by simp) h1 h2 s hs
 rw [zjZ] at e1
 cases e1
 exact ⟨e2, e3⟩
theorem zba {i n : Nat} (h : i < n) : decide ((i : Int) < (n : Int)) = true := by simp [h]
theorem za7 {n : Nat} : decide ((n : Int) < (n : Int)) = false := by simp
theorem zk {b : St → Option (Ex × St)} {s s' : St} (h : b s = some (.normal, s')) : zal b s = zal b s' := by rw [zdg, h]
theorem zbb {b : St → Option (Ex × St)} {s s' : St} {id : Nat} (h : b s = some (.exit id, s')) : zal b s = some (.exit id, s') := by rw [zdg, h]
theorem zac {b : St → Option (Ex × St)} {s s' : St} (h : b s = some (.ret, s')) : zal b s = some (.ret, s') := by rw [zdg, h]
theorem zd3 {round : St → Option (Ex × St)} (T : Nat → St) (n : Nat) (ok : Nat → Bool) (Q : St → Prop) {id : Nat}
  (h1 : ∀ i, i < n → (∀ j, j < i → ok j = true) → ok i = true → round (T i) = some (.normal, T (i + 1)))
  (h1' : ∀ i, i < n → (∀ j, j < i → ok j = true) → ok i = false → ∃ z, round (T i) = some (.ret, z) ∧ Q z)
  (h2 : (∀ j, j < n → ok j = true) → round (T n) = some (.exit id, T n)) :
  ((∀ i, i < n → ok i = true) ∧ zal round (T 0) = some (.exit id, T n)) ∨ ((∃ i, i < n ∧ ok i = false) ∧ ∃ z, zal round (T 0) = some (.ret, z) ∧ Q z) := by
 have key : ∀ k i, i + k = n → (∀ j, j < i → ok j = true) → ((∀ i, i < n → ok i = true) ∧ zal round (T i) = some (.exit id, T n)) ∨ ((∃ i, i < n ∧ ok i = false) ∧ ∃ z, zal round (T i) = some (.ret, z) ∧ Q z) := by
  intro k
  induction k with
  | zero =>
   intro i hi hj
   have : i = n := by omega
   subst this
   exact .inl ⟨hj, zbb (h2 hj)⟩
  | succ k ih =>
   intro i hi hj
   cases hb : ok i with
   | true =>
    have := ih (i + 1) (by omega) (fun j hj' => by
     by_cases h : j = i
     ·rw [h]; exact hb
     ·exact hj j (by omega))
    rw [zk (h1 i (by omega) hj hb)]
    exact this
   | false =>
    obtain ⟨z, hz, hq⟩ := h1' i (by omega) hj hb
    exact .inr ⟨⟨i, by omega, hb⟩, z, zac hz, hq⟩
 exact key n 0 (by omega) (fun j hj => by omega)
theorem zch {round : St → Option (Ex × St)} (T : Nat → St) (n : Nat) {id : Nat} (h1 : ∀ i, i < n → round (T i) = some (.normal, T (i + 1))) (h2 : round (T n) = some (.exit id, T n)) : zal round (T 0) = some (.exit id, T n) := by
 rcases zd3 T n (fun _ => true) (fun _ => True) (fun i hi _ _ => h1 i hi) (fun i _ _ h => by cases h) (fun _ => h2) with h | ⟨⟨i, _, h⟩, _⟩
 ·exact h.2
 ·cases h
theorem zb6 {α : Type} {l : List α} {i : Nat} (h : i < l.length) : l.take (i + 1) = l.take i ++ [l[i]] := by
 rw [List.take_add_one, List.getElem?_eq_getElem h]; rfl
end Go.Ab
namespace Go.Ab
variable {R : Type}
theorem zad {x : Option V} {b : Bool} (h : x = some (.bool b)) (k : Bool → Option R) : (x.bind fun y => (asBool y).bind k) = k b := by subst h; rfl
theorem zg9 {x : Option V} {n : Int} (h : x = some (.int .i64 n)) (k : Int → Option R) : (x.bind fun y => (asInt .i64 y).bind k) = k n := by subst h; rfl
theorem zf6 {x : Option V} {fl : Fl} {r : List (List V)} (h : x = some (.slice fl r)) (k : List (List V) → Option R) : (x.bind fun y => (zl y).bind k) = k r := by subst h; rfl
theorem eIv {x : Option V} {a b : Int} (h : x = some (.agg [.int .i64 a, .int .i64 b])) (k : Int → Int → Option R) :
  (x.bind fun y => (zi y).bind fun c => (zg c).bind fun d => (asInt .i64 d.1).bind fun lo => (zg d.2).bind fun e => (asInt .i64 e.1).bind fun hi => (zh e.2).bind fun _ => k lo hi) = k a b := by subst h; rfl
theorem eP {x : Option V} {fl : Fl} {r : List (List V)} {a b : Int} (h : x = some (.tuple [.slice fl r, .agg [.int .i64 a, .int .i64 b]])) (k : List (List V) → Int → Int → Option R) :
  (x.bind fun y => (zy y).bind fun t => (zg t).bind fun u => (zl u.1).bind fun q => (zg u.2).bind fun v => (zi v.1).bind fun c => (zg c).bind fun d => (asInt .i64 d.1).bind fun lo => (zg d.2).bind fun e => (asInt .i64 e.1).bind fun hi => (zh e.2).bind fun _ => (zh v.2).bind fun _ => k q lo hi) = k r a b := by subst h; rfl
theorem zaC {α : Type} {x : Option α} {a : α} (h : x = some a) (k : α → Option R) : x.bind k = k a := by subst h; rfl
theorem cNT (a b : R) : cond (!true) a b = b := rfl
theorem cNF (a b : R) : cond (!false) a b = a := rfl
theorem cT {c : Bool} (h : c = true) (a b : R) : cond c a b = a := by subst h; rfl
theorem cF {c : Bool} (h : c = false) (a b : R) : cond c a b = b := by subst h; rfl
end Go.Ab
namespace Go.Ab
def Iv.whole : Iv := ⟨-2147483648, 2147483648⟩
def Iv.isW (a : Iv) : Bool := a.lo == -2147483648 && a.hi == 2147483648
def zz (x : Int) : Prop := -2147483648 < x ∧ x < 2147483648
instance (x : Int) : Decidable (zz x) := inferInstanceAs (Decidable (_ ∧ _))
def Iv.new (lo hi : Int) : Iv := if zz lo ∧ zz hi then ⟨lo, hi⟩ else Iv.whole
def Iv.valid (a : Iv) : Prop := a.lo ≤ a.hi ∧ -2147483648 ≤ a.lo ∧ a.hi ≤ 2147483648 ∧ (a.isW = true ∨ (zz a.lo ∧ zz a.hi))
def Iv.neg (a : Iv) : Iv := ⟨-a.hi, -a.lo⟩
def Iv.add (a b : Iv) : Iv := if a.isW || b.isW then Iv.whole else Iv.new (a.lo + b.lo) (a.hi + b.hi)
def Iv.sub (a b : Iv) : Iv := a.add b.neg
def fl (n : Int) : Int := n / 65536
def ce (n : Int) : Int := -((-n) / 65536)
def Iv.near (a : Iv) : Int := max 0 (max a.lo (-a.hi))
def Iv.far (a : Iv) : Int := max a.hi (-a.lo)
def Iv.sq (a : Iv) : Iv := if a.isW then a else Iv.new (fl (a.near * a.near)) (ce (a.far * a.far))
theorem zcZ : Iv.whole.valid := by simp [Iv.valid, Iv.whole, Iv.isW]
theorem zcQ {lo hi : Int} (h : lo ≤ hi) : (Iv.new lo hi).valid := by
 unfold Iv.new
 split
 ·rename_i hn
  refine ⟨h, ?_, ?_, .inr hn⟩
  ·exact Int.le_of_lt hn.1.1
  ·exact Int.le_of_lt hn.2.2
 ·exact zcZ
theorem ziP {a : Iv} (h : a.valid) : a.neg.valid := by
 obtain ⟨h1, h2, h3, h4⟩ := h
 simp only [Iv.valid, Iv.neg, Iv.isW, Bool.and_eq_true, beq_iff_eq, zz] at *
 omega
theorem zbo {a b : Iv} (ha : a.valid) (hb : b.valid) : (a.add b).valid := by
 unfold Iv.add
 split
 ·exact zcZ
 ·exact zcQ (by have := ha.1; have := hb.1; omega)
theorem sqb {x : Int} (h0 : 0 ≤ x) (h : x ≤ 2147483648) : 0 ≤ x * x ∧ x * x ≤ 4611686018427387904 :=
 ⟨Int.mul_nonneg h0 h0, by have := Int.mul_le_mul h h h0 (by decide); simpa using this⟩
theorem zln {a : Iv} (h : a.valid) : 0 ≤ a.near ∧ a.near ≤ 2147483648 ∧ a.near ≤ a.far ∧ a.far ≤ 2147483648 := by
 obtain ⟨h1, h2, h3, h4⟩ := h
 simp only [Iv.near, Iv.far]
 omega
theorem fl_ce {n m : Int} (h : n ≤ m) : fl n ≤ ce m := by unfold fl ce; omega
theorem zd4 {x y : Int} (h0 : 0 ≤ x) (h : x ≤ y) : x * x ≤ y * y := Int.mul_le_mul h h h0 (by omega)
theorem ztl {a : Iv} (h : a.valid) : a.sq.valid := by
 unfold Iv.sq
 split
 ·exact h
 ·obtain ⟨b1, b2, b3, b4⟩ := zln h
  exact zcQ (fl_ce (zd4 b1 b3))
theorem zn8 (n : Int) : n.tdiv 65536 = if 0 ≤ n then n / 65536 else -((-n) / 65536) := by
 split
 ·rename_i h; exact Int.tdiv_eq_ediv_of_nonneg h
 ·rename_i h
  have : n = -(-n) := by omega
  rw [this, Int.neg_tdiv, Int.tdiv_eq_ediv_of_nonneg (by omega)]
  simp
theorem zn9 (n : Int) : n.tmod 65536 = if 0 ≤ n then n % 65536 else -((-n) % 65536) := by
 split
 ·rename_i h; exact Int.tmod_eq_emod_of_nonneg h
 ·rename_i h
  have : n = -(-n) := by omega
  rw [this, Int.neg_tmod, Int.tmod_eq_emod_of_nonneg (by omega)]
  simp
theorem p87 : (CW GZ LZ).p (.func 87) [] = some (.agg Iv.whole.c) := zE (e87 _) rfl
theorem p48 : (CW GZ LZ).p (.func 48) [] = some (.agg Iv.whole.c) := zE (e48 _) rfl
theorem p44 (a b : Int) : (CW GZ LZ).p (.func 44) [.agg [.int .i64 a, .int .i64 b]] = some (.bool (Iv.isW ⟨a, b⟩)) := by
 refine zE (h := []) ?_ rfl
 simp only [e44, p87, zs, zQ, zD, zw, zI, zP, zu, zV, zr, zC, zt, zR, z6, zaa, zY, zH, zM, zN, zW, zB, zG, zK, zL, Option.bind_some, Option.bind_none, cond_true, cond_false, zT, zU, Bool.and_true]
 rfl
theorem p38 (a b : Int) : (CW GZ LZ).p (.func 38) [.agg [.int .i64 a, .int .i64 b]] = some (.bool (Iv.isW ⟨a, b⟩)) := by
 refine zE (h := []) ?_ rfl
 simp only [e38, Iv.isW]
 cases a == -2147483648 <;> rfl
theorem p89 (a : Int) : (CW GZ LZ).p (.func 89) [.int .i64 a] = some (.bool (decide (zz a))) := by
 refine zE (h := []) ?_ rfl
 simp only [e89, zs, zQ, zD, zw, zI, zP, zu, zV, zr, zC, zt, zR, z6, zaa, zY, zH, zM, zN, zW, zB, zG, zK, zL, Option.bind_some, Option.bind_none, cond_true, cond_false, zT, zU, zz]
 by_cases h : a > -2147483648
 ·have h' : -2147483648 < a := h
  simp [h, h']
 ·have h' : ¬ -2147483648 < a := h
  simp [h, h']
theorem p78 (a b : Int) : (CW GZ LZ).p (.func 78) [.int .i64 a, .int .i64 b] = some (.agg (Iv.new a b).c) := by
 refine zE (h := []) ?_ rfl
 simp only [e78, p89, p48, zs, zQ, zD, zw, zI, zP, zu, zV, zr, zC, zt, zR, z6, zaa, zY, zH, zM, zN, zW, zB, zG, zK, zL, Option.bind_some, Option.bind_none, cond_true, cond_false, zT, zU, Iv.new]
 by_cases h1 : zz a <;> by_cases h2 : zz b <;> simp [h1, h2, Iv.c]
theorem zks (a b : Int) : (CW GZ LZ).p (.func 75) [.int .i64 a, .int .i64 b] = some (.agg (Iv.new a b).c) := by
 refine zE (h := []) ?_ rfl
 simp only [e75, p87, zs, zQ, zD, zw, zI, zP, zu, zV, zr, zC, zt, zR, z6, zaa, zY, zH, zM, zN, zW, zB, zG, zK, zL, Option.bind_some, Option.bind_none, cond_true, cond_false, zT, zU, Iv.new]
 by_cases h1 : a ≤ -2147483648 <;> by_cases h2 : b ≥ 2147483648 <;> by_cases h3 : a ≥ 2147483648 <;> by_cases h4 : b ≤ -2147483648 <;> simp only [h1, h2, h3, h4, if_true, if_false] <;> first
  | (rw [if_neg (by simp only [zz]; omega)]; rfl)
  | (rw [if_pos (by simp only [zz]; omega)]; rfl)
theorem p60 (a : Iv) (h : a.valid) : (CW GZ LZ).p (.func 60) [.agg [.int .i64 a.lo, .int .i64 a.hi]] = some (.agg a.neg.c) := by
 obtain ⟨h1, h2, h3, h4⟩ := h
 refine zE (h := []) ?_ rfl
 simp only [e60]
 rw [w64 (by omega) (by omega), w64 (by omega) (by omega)]
 simp [Iv.neg, Iv.c]
theorem p71 (a b : Iv) (h : a.valid) (k : b.valid) : (CW GZ LZ).p (.func 71) [.agg [.int .i64 a.lo, .int .i64 a.hi], .agg [.int .i64 b.lo, .int .i64 b.hi]] = some (.agg (a.add b).c) := by
 obtain ⟨h1, h2, h3, h4⟩ := h
 obtain ⟨k1, k2, k3, k4⟩ := k
 refine zE (h := []) ?_ rfl
 simp only [e71, p44, p87, zks, zs, zQ, zD, zw, zI, zP, zu, zV, zr, zC, zt, zR, z6, zaa, zY, zH, zM, zN, zW, zB, zG, zK, zL, Option.bind_some, Option.bind_none, cond_true, cond_false, zT, zU, Iv.add]
 rw [w64 (by omega) (by omega), w64 (by omega) (by omega)]
 cases h5 : a.isW <;> cases h6 : b.isW <;> rfl
theorem p58 (a b : Iv) (h : a.valid) (k : b.valid) : (CW GZ LZ).p (.func 58) [.agg [.int .i64 a.lo, .int .i64 a.hi], .agg [.int .i64 b.lo, .int .i64 b.hi]] = some (.agg (a.add b).c) := by
 obtain ⟨h1, h2, h3, h4⟩ := h
 obtain ⟨k1, k2, k3, k4⟩ := k
 refine zE (h := []) ?_ rfl
 simp only [e58, p38, p48, p78, zs, zQ, zD, zw, zI, zP, zu, zV, zr, zC, zt, zR, z6, zaa, zY, zH, zM, zN, zW, zB, zG, zK, zL, Option.bind_some, Option.bind_none, cond_true, cond_false, zT, zU, Iv.add]
 rw [w64 (by omega) (by omega), w64 (by omega) (by omega)]
 cases h5 : a.isW <;> cases h6 : b.isW <;> rfl
theorem p120 (a : Int) : (CW GZ LZ).p (.func 120) [.int .i64 a] = some (.int .i64 (if 1 < a then 1 else a)) := zE (e120 _ _) rfl
def zcr (n : Int) : Prop := -4611686018427387904 ≤ n ∧ n ≤ 4611686018427387904
theorem p110 (n : Int) (h : zcr n) : (CW GZ LZ).p (.func 110) [.int .i64 n, .int .i64 65536] = some (.tuple [.int .i64 (fl n), .int .i64 (ce n)]) := by
 obtain ⟨h1, h2⟩ := h
 have q : (CW GZ LZ).p (.func 119) [.int .i64 n, .int .i64 65536, .fn (.func 120) [] []] = some (.tuple [.int .i64 (fl n), .int .i64 (ce n)]) := by
  refine zE (h := []) ?_ rfl
  have e0 : ((65536 : Int) == 0) = false := rfl
  simp only [p119, p120, e0, zs, zQ, zD, zw, zI, zP, zu, zV, zr, zC, zt, zR, z6, zaa, zY, zH, zM, zN, zW, zB, zG, zK, zL, Option.bind_some, Option.bind_none, cond_true, cond_false, zT, zU]
  have e1 := zn8 n
  have e2 := zn9 n
  generalize n.tdiv 65536 = x at *
  generalize n.tmod 65536 = y at *
  by_cases hn : 0 ≤ n
  ·rw [if_pos hn] at e1 e2
   have hy : ¬ y < 0 := by omega
   rw [if_neg hy]
   have hx : IntKind.wrap .i64 x = x := w64 (by omega) (by omega)
   rw [hx, w64 (by split <;> omega) (by split <;> omega)]
   have a1 : x = fl n := by unfold fl; omega
   have a2 : x + (if 1 < y then 1 else y) = ce n := by unfold ce; split <;> omega
   rw [a2, a1]
  ·rw [if_neg hn] at e1 e2
   have hx : IntKind.wrap .i64 x = x := w64 (by omega) (by omega)
   rw [hx]
   by_cases hy : y < 0
   ·rw [if_pos hy]
    have hx1 : IntKind.wrap .i64 (x - 1) = x - 1 := w64 (by omega) (by omega)
    have hy1 : IntKind.wrap .i64 (y + 65536) = y + 65536 := w64 (by omega) (by omega)
    rw [hx1, hy1, w64 (by split <;> omega) (by split <;> omega)]
    have a1 : x - 1 = fl n := by unfold fl; omega
    have a2 : x - 1 + (if 1 < y + 65536 then 1 else y + 65536) = ce n := by unfold ce; split <;> omega
    rw [a2, a1]
   ·rw [if_neg hy]
    rw [w64 (by split <;> omega) (by split <;> omega)]
    have a1 : x = fl n := by unfold fl; omega
    have a2 : x + (if 1 < y then 1 else y) = ce n := by unfold ce; split <;> omega
    rw [a2, a1]
 refine zE (h := []) ?_ rfl
 have e0 : decide ((65536 : Int) < 0) = false := rfl
 simp only [e110, q, e0, zs, zQ, zD, zw, zI, zP, zu, zV, zr, zC, zt, zR, z6, zaa, zY, zH, zM, zN, zW, zB, zG, zK, zL, Option.bind_some, Option.bind_none, cond_true, cond_false, zT, zU]
theorem p97 (a b : Int) (h : zcr (a * b)) : (CW GZ LZ).p (.func 97) [.int .i64 a, .int .i64 b] = some (.tuple [.int .i64 (fl (a * b)), .int .i64 (ce (a * b))]) := by
 refine zE (h := []) ?_ rfl
 simp only [e97]
 rw [w64 (by have := h.1; omega) (by have := h.2; omega), p110 _ h]
 simp only [zs, zQ, zD, zw, zI, zP, zu, zV, zr, zC, zt, zR, z6, zaa, zY, zH, zM, zN, zW, zB, zG, zK, zL, Option.bind_some, Option.bind_none, cond_true, cond_false, zT, zU]
theorem ztm (n : Int) (h : zcr n) : IntKind.wrap .i64 (n.tdiv 65536) = n.tdiv 65536 ∧ IntKind.wrap .i64 (n.tdiv 65536 - 1) = n.tdiv 65536 - 1 ∧ IntKind.wrap .i64 (n.tdiv 65536 + 1) = n.tdiv 65536 + 1 ∧
  (n.tmod 65536 = 0 → n.tdiv 65536 = fl n ∧ n.tdiv 65536 = ce n) ∧ (n.tmod 65536 ≠ 0 → (n < 0 → n.tdiv 65536 - 1 = fl n ∧ n.tdiv 65536 = ce n) ∧ (¬ n < 0 → n.tdiv 65536 = fl n ∧ n.tdiv 65536 + 1 = ce n)) := by
 obtain ⟨h1, h2⟩ := h
 have e1 := zn8 n
 have e2 := zn9 n
 refine ⟨w64 (by rw [e1]; split <;> omega) (by rw [e1]; split <;> omega), w64 (by rw [e1]; split <;> omega) (by rw [e1]; split <;> omega), w64 (by rw [e1]; split <;> omega) (by rw [e1]; split <;> omega), fun hm => ?_, fun hm => ⟨fun hn => ?_, fun hn => ?_⟩⟩
 ·unfold fl ce
  split at e1 <;> rename_i h0
  ·rw [if_pos h0] at e2; omega
  ·rw [if_neg h0] at e2; omega
 ·unfold fl ce
  rw [if_neg (by omega)] at e1 e2
  omega
 ·unfold fl ce
  rw [if_pos (by omega)] at e1 e2
  omega
theorem zlZ (n : Int) (h : zcr n) : (CW GZ LZ).p (.func 103) [.int .i64 n, .int .i64 65536] = some (.int .i64 (fl n)) := by
 refine zE (h := []) ?_ rfl
 have e0 : ((65536 : Int) == 0) = false := rfl
 have e3 : decide ((65536 : Int) < 0) = false := rfl
 obtain ⟨w1, w2, w3, f1, f2⟩ := ztm n h
 simp only [e103, e0, e3, zs, zQ, zD, zw, zI, zP, zu, zV, zr, zC, zt, zR, z6, zaa, zY, zH, zM, zN, zW, zB, zG, zK, zL, Option.bind_some, Option.bind_none, cond_true, cond_false, zT, zU, w1, w2]
 by_cases hm : n.tmod 65536 = 0
 ·simp [hm, (f1 hm).1]
 ·have hb : (n.tmod 65536 != 0) = true := by simpa using hm
  simp only [hb, cond_true]
  by_cases hn : n < 0
  ·simp [hn, ((f2 hm).1 hn).1]
  ·simp [hn, ((f2 hm).2 hn).1]
theorem zrR {n : Int} (h : zcr n) : zcr (-n) := ⟨by have := h.2; omega, by have := h.1; omega⟩
theorem p105 (n : Int) (h : zcr n) : (CW GZ LZ).p (.func 105) [.int .i64 n, .int .i64 65536] = some (.int .i64 (ce n)) := by
 have h1 := h.1
 have h2 := h.2
 refine zE (h := []) ?_ rfl
 simp only [e105]
 rw [w64 (by omega) (by omega), show 0 - n = -n by omega, zlZ _ (zrR h)]
 simp only [zs, zQ, zD, zw, zI, zP, zu, zV, zr, zC, zt, zR, z6, zaa, zY, zH, zM, zN, zW, zB, zG, zK, zL, Option.bind_some, Option.bind_none, cond_true, cond_false, zT, zU]
 rw [w64 (by unfold fl; omega) (by unfold fl; omega)]
 simp [ce, fl]
theorem p126 (a : Iv) (h : a.valid) : (CW GZ LZ).p (.func 126) [.agg [.int .i64 a.lo, .int .i64 a.hi]] = some (.int .i64 a.far) := by
 obtain ⟨h1, h2, h3, h4⟩ := h
 refine zE (h := []) ?_ rfl
 simp only [e126]
 rw [w64 (by omega) (by omega)]
 have : (if 0 - a.lo > a.hi then 0 - a.lo else a.hi) = a.far := by unfold Iv.far; split <;> omega
 rw [this]
theorem zh1 {x : Int} (h0 : 0 ≤ x) (h : x ≤ 2147483648) : zcr (x * x) := by
 obtain ⟨a, b⟩ := sqb h0 h
 exact ⟨by omega, b⟩
theorem p116 (a : Iv) (h : a.valid) : (CW GZ LZ).p (.func 116) [.agg [.int .i64 a.lo, .int .i64 a.hi]] = some (.agg a.sq.c) := by
 have hv := h
 obtain ⟨h1, h2, h3, h4⟩ := h
 obtain ⟨b1, b2, b3, b4⟩ := zln hv
 refine zE (h := []) ?_ rfl
 simp only [e116, p44, zs, zQ, zD, zw, zI, zP, zu, zV, zr, zC, zt, zR, z6, zaa, zY, zH, zM, zN, zW, zB, zG, zK, zL, Option.bind_some, Option.bind_none, cond_true, cond_false, zT, zU, Iv.eta]
 rw [w64 (by omega) (by omega)]
 have e : (if 0 > (if 0 - a.hi > a.lo then 0 - a.hi else a.lo) then 0 else (if 0 - a.hi > a.lo then 0 - a.hi else a.lo)) = a.near := by unfold Iv.near; split <;> split <;> omega
 rw [e, p126 a hv, p97 _ _ (zh1 b1 b2)]
 simp only [zs, zQ, zD, zw, zI, zP, zu, zV, zr, zC, zt, zR, z6, zaa, zY, zH, zM, zN, zW, zB, zG, zK, zL, Option.bind_some, Option.bind_none, cond_true, cond_false, zT, zU]
 rw [p97 _ _ (zh1 (by omega) b4)]
 simp only [zs, zQ, zD, zw, zI, zP, zu, zV, zr, zC, zt, zR, z6, zaa, zY, zH, zM, zN, zW, zB, zG, zK, zL, Option.bind_some, Option.bind_none, cond_true, cond_false, zT, zU, zks, Iv.sq]
 cases a.isW <;> rfl
theorem sq2 {a : Iv} (h : a.valid) : (if a.lo ≤ 0 ∧ a.hi ≥ 0 then 0 else (if a.hi * a.hi < a.lo * a.lo then a.hi * a.hi else a.lo * a.lo)) = a.near * a.near ∧ (if a.hi * a.hi > a.lo * a.lo then a.hi * a.hi else a.lo * a.lo) = a.far * a.far := by
 obtain ⟨h1, h2, h3, h4⟩ := h
 have e1 : (-a.hi) * (-a.hi) = a.hi * a.hi := by rw [Int.neg_mul_neg]
 have e2 : (-a.lo) * (-a.lo) = a.lo * a.lo := by rw [Int.neg_mul_neg]
 by_cases p0 : 0 ≤ a.lo
 ·have q : a.lo * a.lo ≤ a.hi * a.hi := zd4 p0 h1
  have hn : a.near = a.lo := by unfold Iv.near; omega
  have hf : a.far = a.hi := by unfold Iv.far; omega
  rw [hn, hf]
  refine ⟨?_, by split <;> omega⟩
  split
  ·rename_i h; have : a.lo = 0 := by omega
   rw [this]; rfl
  ·rw [if_neg (by omega)]
 ·by_cases p1 : a.hi ≤ 0
  ·have q : (-a.hi) * (-a.hi) ≤ (-a.lo) * (-a.lo) := zd4 (by omega) (by omega)
   have hn : a.near = -a.hi := by unfold Iv.near; omega
   have hf : a.far = -a.lo := by unfold Iv.far; omega
   rw [hn, hf]
   rw [e1, e2] at *
   refine ⟨?_, by rw [if_neg (by omega)]⟩
   split
   ·rename_i h; have : a.hi = 0 := by omega
    rw [this]; rfl
   ·split <;> omega
  ·have hn : a.near = 0 := by unfold Iv.near; omega
   rw [hn, if_pos (by omega)]
   refine ⟨rfl, ?_⟩
   by_cases p2 : -a.lo ≤ a.hi
   ·have q : (-a.lo) * (-a.lo) ≤ a.hi * a.hi := zd4 (by omega) p2
    have hf : a.far = a.hi := by unfold Iv.far; omega
    rw [hf]; split <;> omega
   ·have q : a.hi * a.hi ≤ (-a.lo) * (-a.lo) := zd4 (by omega) (by omega)
    have hf : a.far = -a.lo := by unfold Iv.far; omega
    rw [hf]; split <;> omega
theorem p117 (a : Iv) (h : a.valid) : (CW GZ LZ).p (.func 117) [.agg [.int .i64 a.lo, .int .i64 a.hi]] = some (.agg a.sq.c) := by
 have hv := h
 obtain ⟨h1, h2, h3, h4⟩ := h
 obtain ⟨b1, b2, b3, b4⟩ := zln hv
 obtain ⟨s1, s2⟩ := sq2 hv
 have bl : a.lo * a.lo ≤ 4611686018427387904 ∧ 0 ≤ a.lo * a.lo := by
  by_cases p0 : 0 ≤ a.lo
  ·have := sqb p0 (by omega); omega
  ·have := sqb (x := -a.lo) (by omega) (by omega); rw [Int.neg_mul_neg] at this; omega
 have bh : a.hi * a.hi ≤ 4611686018427387904 ∧ 0 ≤ a.hi * a.hi := by
  by_cases p0 : 0 ≤ a.hi
  ·have := sqb p0 (by omega); omega
  ·have := sqb (x := -a.hi) (by omega) (by omega); rw [Int.neg_mul_neg] at this; omega
 refine zE (h := []) ?_ rfl
 simp only [e117, p38, p48, zs, zQ, zD, zw, zI, zP, zu, zV, zr, zC, zt, zR, z6, zaa, zY, zH, zM, zN, zW, zB, zG, zK, zL, Option.bind_some, Option.bind_none, cond_true, cond_false, zT, zU, Iv.eta]
 rw [w64 (x := a.hi * a.hi) (by omega) (by omega), w64 (x := a.lo * a.lo) (by omega) (by omega)]
 rw [s2, p105 _ (zh1 (by omega) b4)]
 have z : (CW GZ LZ).p (.func 103) [.int .i64 0, .int .i64 65536] = some (.int .i64 (fl 0)) := zlZ 0 ⟨by decide, by decide⟩
 have sn := zh1 b1 b2
 unfold Iv.sq
 cases hw : a.isW with
 | true =>
  simp only [Iv.isW, Bool.and_eq_true, beq_iff_eq] at hw
  simp only [cond_true, zs, zQ, zD, zw, zI, zP, zu, zV, zr, zC, zt, zR, z6, zaa, zY, zH, zM, zN, zW, zB, zG, zK, zL, Option.bind_some, Option.bind_none, cond_true, cond_false, zT, zU, if_true]
  obtain ⟨lo, hi⟩ := a
  simp only at hw
  rw [hw.1, hw.2]; rfl
 | false =>
  simp only [cond_false, Bool.false_eq_true, if_false]
  by_cases c1 : a.lo ≤ 0
  ·simp only [c1, if_true]
   by_cases c2 : a.hi ≥ 0
   ·rw [if_pos ⟨c1, c2⟩] at s1
    simp only [c2, if_true, z, zs, zQ, zD, zw, zI, zP, zu, zV, zr, zC, zt, zR, z6, zaa, zY, zH, zM, zN, zW, zB, zG, zK, zL, Option.bind_some, Option.bind_none, cond_true, cond_false, zT, zU, p78]
    rw [← s1]; rfl
   ·rw [if_neg (fun h => c2 h.2)] at s1
    simp only [c2, if_false]
    rw [s1, zlZ _ sn]
    simp only [zs, zQ, zD, zw, zI, zP, zu, zV, zr, zC, zt, zR, z6, zaa, zY, zH, zM, zN, zW, zB, zG, zK, zL, Option.bind_some, Option.bind_none, cond_true, cond_false, zT, zU, p78]; rfl
  ·rw [if_neg (fun h => c1 h.1)] at s1
   simp only [c1, if_false]
   rw [s1, zlZ _ sn]
   simp only [zs, zQ, zD, zw, zI, zP, zu, zV, zr, zC, zt, zR, z6, zaa, zY, zH, zM, zN, zW, zB, zG, zK, zL, Option.bind_some, Option.bind_none, cond_true, cond_false, zT, zU, p78]; rfl
def zdK (a b c d : Int) : Int := min (min a b) (min c d)
def zdL (a b c d : Int) : Int := max (max a b) (max c d)
def Iv.mul (a b : Iv) : Iv := if a.isW || b.isW then Iv.whole else Iv.new (fl (zdK (a.lo * b.lo) (a.lo * b.hi) (a.hi * b.lo) (a.hi * b.hi))) (ce (zdL (a.lo * b.lo) (a.lo * b.hi) (a.hi * b.lo) (a.hi * b.hi)))
theorem zbv (a b : Iv) : (a.mul b).valid := by
 unfold Iv.mul
 split
 ·exact zcZ
 ·exact zcQ (fl_ce (by unfold zdK zdL; omega))
theorem zd5 {a : Iv} (h : a.valid) (hw : a.isW = false) : zz a.lo ∧ zz a.hi := by
 rcases h.2.2.2 with h' | h'
 ·rw [hw] at h'; cases h'
 ·exact h'
theorem zb7 {x y : Int} (hx : zz x) (hy : zz y) : zcr (x * y) := by
 obtain ⟨h1, h2⟩ := hx
 obtain ⟨h3, h4⟩ := hy
 have key : ∀ u v : Int, 0 ≤ u → u ≤ 2147483648 → 0 ≤ v → v ≤ 2147483648 → u * v ≤ 4611686018427387904 ∧ 0 ≤ u * v := fun u v a b c d =>
  ⟨by have := Int.mul_le_mul b d c (by omega); simpa using this, Int.mul_nonneg a c⟩
 by_cases hx : 0 ≤ x <;> by_cases hy : 0 ≤ y
 ·have := key x y hx (by omega) hy (by omega); exact ⟨by omega, by omega⟩
 ·have := key x (-y) hx (by omega) (by omega) (by omega)
  rw [Int.mul_neg] at this; exact ⟨by omega, by omega⟩
 ·have := key (-x) y (by omega) (by omega) hy (by omega)
  rw [Int.neg_mul] at this; exact ⟨by omega, by omega⟩
 ·have := key (-x) (-y) (by omega) (by omega) (by omega) (by omega)
  rw [Int.neg_mul_neg] at this; exact ⟨by omega, by omega⟩
theorem zhq {x y : Int} (h : x ≤ y) (z : Int) : (0 ≤ z → x * z ≤ y * z) ∧ (z ≤ 0 → y * z ≤ x * z) :=
 ⟨fun hz => Int.mul_le_mul_of_nonneg_right h hz, fun hz => Int.mul_le_mul_of_nonpos_right h hz⟩
theorem zfj {x y : Int} (h : x ≤ y) (z : Int) : (0 ≤ z → z * x ≤ z * y) ∧ (z ≤ 0 → z * y ≤ z * x) := by
 have := zhq h z
 rw [Int.mul_comm x z, Int.mul_comm y z] at this
 exact this
def side (a : Iv) : Int := if a.hi ≤ 0 then 0 else if a.lo ≥ 0 then 2 else 1
theorem p101 (a : Iv) : (CW GZ LZ).p (.func 101) [.agg [.int .i64 a.lo, .int .i64 a.hi]] = some (.int .i64 (side a)) := by
 refine zE (h := []) ?_ rfl
 simp only [e101, side, zs, zQ, zD, zw, zI, zP, zu, zV, zr, zC, zt, zR, z6, zaa, zY, zH, zM, zN, zW, zB, zG, zK, zL, Option.bind_some, Option.bind_none, cond_true, cond_false, zT, zU]
 by_cases h1 : a.hi ≤ 0
 ·simp only [h1, if_true]
 ·by_cases h2 : a.lo ≥ 0
  ·simp only [h1, h2, if_true, if_false]
  ·simp only [h1, h2, if_false]
theorem p161 (a b c d : Int) : (CW GZ LZ).p (.func 161) [.agg [.int .i64 a, .int .i64 b], .agg [.int .i64 c, .int .i64 d]] = some (.tuple [.int .i64 b, .int .i64 d]) := zE (e161 _ _ _ _ _) rfl
theorem p162 (a b c d : Int) : (CW GZ LZ).p (.func 162) [.agg [.int .i64 a, .int .i64 b], .agg [.int .i64 c, .int .i64 d]] = some (.tuple [.int .i64 a, .int .i64 c]) := zE (e162 _ _ _ _ _) rfl
theorem p163 (a b c d : Int) : (CW GZ LZ).p (.func 163) [.agg [.int .i64 a, .int .i64 b], .agg [.int .i64 c, .int .i64 d]] = some (.tuple [.int .i64 a, .int .i64 d]) := zE (e163 _ _ _ _ _) rfl
theorem p164 (a b c d : Int) : (CW GZ LZ).p (.func 164) [.agg [.int .i64 a, .int .i64 b], .agg [.int .i64 c, .int .i64 d]] = some (.tuple [.int .i64 b, .int .i64 c]) := zE (e164 _ _ _ _ _) rfl
theorem zpv {n m : Int} (h : n ≤ m) : fl n ≤ fl m := by unfold fl; omega
theorem zpw {n m : Int} (h : n ≤ m) : ce n ≤ ce m := by unfold ce; omega
theorem fl_min (a b : Int) : (if fl b < fl a then fl b else fl a) = fl (min a b) := by
 have h1 := @zpv a b
 have h2 := @zpv b a
 by_cases h : a ≤ b
 ·rw [Int.min_eq_left h, if_neg (by have := h1 h; omega)]
 ·rw [Int.min_eq_right (by omega)]
  have := h2 (by omega)
  split <;> omega
theorem ce_max (a b : Int) : (if ce b > ce a then ce b else ce a) = ce (max a b) := by
 have h1 := @zpw a b
 have h2 := @zpw b a
 by_cases h : a ≤ b
 ·rw [Int.max_eq_right h]
  have := h1 h
  split <;> omega
 ·rw [Int.max_eq_left (by omega), if_neg (by have := h2 (by omega); omega)]
theorem p64 (a b : Iv) (h : a.valid) (k : b.valid) : (CW GZ LZ).p (.func 64) [.agg [.int .i64 a.lo, .int .i64 a.hi], .agg [.int .i64 b.lo, .int .i64 b.hi]] = some (.agg (a.mul b).c) := by
 refine zE (h := []) ?_ rfl
 simp only [e64, p44, p87, zs, zQ, zD, zw, zI, zP, zu, zV, zr, zC, zt, zR, z6, zaa, zY, zH, zM, zN, zW, zB, zG, zK, zL, Option.bind_some, Option.bind_none, cond_true, cond_false, zT, zU]
 by_cases hw : a.isW = true
 ·simp only [hw, Iv.eta, if_true, Iv.mul, Bool.true_or]; rfl
 by_cases kw : b.isW = true
 ·simp only [hw, kw, Iv.eta, if_true, Iv.mul, Bool.or_true]; rfl
 have hw' : a.isW = false := by simpa using hw
 have kw' : b.isW = false := by simpa using kw
 obtain ⟨hn1, hn2⟩ := zd5 h hw'
 obtain ⟨kn1, kn2⟩ := zd5 k kw'
 have s11 := zb7 hn1 kn1
 have s12 := zb7 hn1 kn2
 have s21 := zb7 hn2 kn1
 have s22 := zb7 hn2 kn2
 have o1 := zhq h.1 b.lo
 have o2 := zhq h.1 b.hi
 have o3 := zfj k.1 a.lo
 have o4 := zfj k.1 a.hi
 have h1 := h.1
 have k1 := k.1
 simp only [hw', kw', Iv.eta, p101, Iv.mul, Bool.or_false, Bool.false_eq_true, if_false, zs, zQ, zD, zw, zI, zP, zu, zV, zr, zC, zt, zR, z6, zaa, zY, zH, zM, zN, zW, zB, zG, zK, zL, Option.bind_some, Option.bind_none, cond_true, cond_false, zT, zU]
 have fin : ∀ x y, zdK (a.lo * b.lo) (a.lo * b.hi) (a.hi * b.lo) (a.hi * b.hi) = x → zdL (a.lo * b.lo) (a.lo * b.hi) (a.hi * b.lo) (a.hi * b.hi) = y →
   some (V.agg [.int .i64 (Iv.new (fl x) (ce y)).lo, .int .i64 (Iv.new (fl x) (ce y)).hi], ([] : List Ob)) = some (V.agg (Iv.new (fl (zdK (a.lo * b.lo) (a.lo * b.hi) (a.hi * b.lo) (a.hi * b.hi))) (ce (zdL (a.lo * b.lo) (a.lo * b.hi) (a.hi * b.lo) (a.hi * b.hi)))).c, []) := fun x y hx hy => by rw [hx, hy]; rfl
 unfold side
 by_cases a1 : a.hi ≤ 0 <;> by_cases a2 : a.lo ≥ 0 <;> by_cases b1 : b.hi ≤ 0 <;> by_cases b2 : b.lo ≥ 0 <;>
  simp only [a1, a2, b1, b2, if_true, if_false, show ((0 : Int) == 1) = false from rfl, show ((2 : Int) == 1) = false from rfl, show ((1 : Int) == 1) = true from rfl, show decide ((0 : Int) = 0) = true from rfl, show decide ((2 : Int) = 0) = false from rfl, show decide ((2 : Int) = 1) = false from rfl, show decide ((2 : Int) = 2) = true from rfl, show decide ((1 : Int) = 0) = false from rfl, show decide ((1 : Int) = 1) = true from rfl, zs, zQ, zD, zw, zI, zP, zu, zV, zr, zC, zt, zR, z6, zaa, zY, zH, zM, zN, zW, zB, zG, zK, zL, Option.bind_some, Option.bind_none, cond_true, cond_false, zT, zU, p161, p162, p163, p164, p97 _ _ s11, p97 _ _ s12, p97 _ _ s21, p97 _ _ s22, zks, fl_min, ce_max] <;>
  (refine fin _ _ ?_ ?_ <;> first | (unfold zdK; omega) | (unfold zdL; omega))
theorem p107 (a : Int) : (CW GZ LZ).p (.func 107) [.int .i64 a] = some (.agg (Iv.new a a).c) := by
 refine zE (h := []) ?_ rfl
 simp only [e107, zks, zs, zQ, zD, zw, zI, zP, zu, zV, zr, zC, zt, zR, z6, zaa, zY, zH, zM, zN, zW, zB, zG, zK, zL, Option.bind_some, Option.bind_none, cond_true, cond_false, zT, zU]
 rfl
theorem p86 (a : Int) : (CW GZ LZ).p (.func 86) [.int .i64 a] = some (.agg (Iv.new a a).c) := by
 refine zE (h := []) ?_ rfl
 simp only [e86, p78, zs, zQ, zD, zw, zI, zP, zu, zV, zr, zC, zt, zR, z6, zaa, zY, zH, zM, zN, zW, zB, zG, zK, zL, Option.bind_some, Option.bind_none, cond_true, cond_false, zT, zU]
 rfl
theorem p47 (a : Iv) : (CW GZ LZ).p (.func 47) [.agg [.int .i64 a.lo, .int .i64 a.hi]] = some (.bool (a.isW || decide (zz a.lo ∧ zz a.hi ∧ a.lo ≤ a.hi))) := by
 refine zE (h := []) ?_ rfl
 simp only [e47, p38, p89, Iv.eta, zs, zQ, zD, zw, zI, zP, zu, zV, zr, zC, zt, zR, z6, zaa, zY, zH, zM, zN, zW, zB, zG, zK, zL, Option.bind_some, Option.bind_none, cond_true, cond_false, zT, zU]
 cases hw : a.isW
 ·by_cases h1 : zz a.lo <;> by_cases h2 : zz a.hi <;> by_cases h3 : a.lo ≤ a.hi <;> simp [h1, h2, h3]
 ·rfl
theorem p49 (a b : Int) : ∃ v : Iv, v.valid ∧ zz v.lo ∧ zz v.hi ∧ -16777216 < v.lo ∧ v.hi < 16777216 ∧ (CW GZ LZ).p (.func 49) [.agg [.int .i64 a, .int .i64 b]] = some (.agg v.c) := by
 have h1 := Int.tmod_lt_of_pos a (show (0 : Int) < 16777216 by decide)
 have h2 := Int.tmod_lt_of_pos b (show (0 : Int) < 16777216 by decide)
 have h3 : -16777216 < a.tmod 16777216 := Int.lt_tmod_of_pos a (by decide)
 have h4 : -16777216 < b.tmod 16777216 := Int.lt_tmod_of_pos b (by decide)
 refine ⟨⟨if b.tmod 16777216 < a.tmod 16777216 then b.tmod 16777216 else a.tmod 16777216, if b.tmod 16777216 > a.tmod 16777216 then b.tmod 16777216 else a.tmod 16777216⟩, ?_, ?_, ?_, ?_, ?_, zE (h := []) (e49 _ _ _) rfl⟩
 ·refine ⟨?_, ?_, ?_, .inr ⟨?_, ?_⟩⟩ <;> simp only [zz] <;> (repeat' split) <;> omega
 ·simp only [zz]; split <;> omega
 ·simp only [zz]; split <;> omega
 ·simp only; split <;> omega
 ·simp only; split <;> omega
theorem p12 (a b : Int) : ∃ v : Iv, v.valid ∧ (CW GZ LZ).p (.func 12) [.agg [.int .i64 a, .int .i64 b]] = some (.agg v.c) := by
 by_cases hv : (Iv.isW ⟨a, b⟩ || decide (zz a ∧ zz b ∧ a ≤ b)) = true
 ·refine ⟨⟨a, b⟩, ?_, ?_⟩
  ·rw [Bool.or_eq_true] at hv
   rcases hv with h | h
   ·have h' := h
    simp only [Iv.isW, Bool.and_eq_true, beq_iff_eq] at h'
    exact ⟨by simp only; omega, by simp only; omega, by simp only; omega, .inl h⟩
   ·have h' := of_decide_eq_true h
    have g := h'
    simp only [zz] at g
    exact ⟨h'.2.2, by simp only; omega, by simp only; omega, .inr ⟨h'.1, h'.2.1⟩⟩
  ·refine zE (h := []) ?_ rfl
   have := p47 ⟨a, b⟩
   simp only at this
   simp only [e12, this, hv, zs, zQ, zD, zw, zI, zP, zu, zV, zr, zC, zt, zR, z6, zaa, zY, zH, zM, zN, zW, zB, zG, zK, zL, Option.bind_some, Option.bind_none, cond_true, cond_false, zT, zU, if_true]
   rfl
 ·have hv' : (Iv.isW ⟨a, b⟩ || decide (zz a ∧ zz b ∧ a ≤ b)) = false := by simpa using hv
  have := p47 ⟨a, b⟩
  simp only at this
  obtain ⟨v, h1, _, _, _, _, h2⟩ := p49 a b
  by_cases hc : ((Go.IntKind.wrap .i64 (((BitVec.ofInt (Go.IntKind.bits .i64) a &&& BitVec.ofInt (Go.IntKind.bits .i64) 31).toNat : Nat) : Int)) == 7) = true
  ·refine ⟨Iv.whole, zcZ, zE (h := []) ?_ rfl⟩
   simp only [e12, this, hv', hc, p48, zs, zQ, zD, zw, zI, zP, zu, zV, zr, zC, zt, zR, z6, zaa, zY, zH, zM, zN, zW, zB, zG, zK, zL, Option.bind_some, Option.bind_none, cond_true, cond_false, zT, zU]
   rfl
  ·have hc' := Bool.not_eq_true _ ▸ hc
   refine ⟨v, h1, zE (h := []) ?_ rfl⟩
   simp only [e12, this, hv', hc', h2, zs, zQ, zD, zw, zI, zP, zu, zV, zr, zC, zt, zR, z6, zaa, zY, zH, zM, zN, zW, zB, zG, zK, zL, Option.bind_some, Option.bind_none, cond_true, cond_false, zT, zU]
   rfl
theorem i79 (lo hi p q r s : Int) : zal (zp GZ LZ (CW GZ LZ) 67 none 6) (zcp 0 0 [[.int .i64 p], [.int .i64 q], [.int .i64 r], [.int .i64 s]] p p 1) = some (.exit 0, zcp 0 0 [[.int .i64 p], [.int .i64 q], [.int .i64 r], [.int .i64 s]] (zdK p q r s) (zdL p q r s) 4) := by
 have r1 : ∀ lo hi, zp GZ LZ (CW GZ LZ) 67 none 6 (zcp 0 0 [[.int .i64 p], [.int .i64 q], [.int .i64 r], [.int .i64 s]] lo hi 1) = some (.normal, zcp 0 0 [[.int .i64 p], [.int .i64 q], [.int .i64 r], [.int .i64 s]] (if q < lo then q else lo) (if q > hi then q else hi) 2) := fun lo hi => zng _ _ _ _ _ _ _
 have r2 : ∀ lo hi, zp GZ LZ (CW GZ LZ) 67 none 6 (zcp 0 0 [[.int .i64 p], [.int .i64 q], [.int .i64 r], [.int .i64 s]] lo hi 2) = some (.normal, zcp 0 0 [[.int .i64 p], [.int .i64 q], [.int .i64 r], [.int .i64 s]] (if r < lo then r else lo) (if r > hi then r else hi) 3) := fun lo hi => zng _ _ _ _ _ _ _
 have r3 : ∀ lo hi, zp GZ LZ (CW GZ LZ) 67 none 6 (zcp 0 0 [[.int .i64 p], [.int .i64 q], [.int .i64 r], [.int .i64 s]] lo hi 3) = some (.normal, zcp 0 0 [[.int .i64 p], [.int .i64 q], [.int .i64 r], [.int .i64 s]] (if s < lo then s else lo) (if s > hi then s else hi) 4) := fun lo hi => zng _ _ _ _ _ _ _
 have r4 : ∀ lo hi, zp GZ LZ (CW GZ LZ) 67 none 6 (zcp 0 0 [[.int .i64 p], [.int .i64 q], [.int .i64 r], [.int .i64 s]] lo hi 4) = some (.exit 0, zcp 0 0 [[.int .i64 p], [.int .i64 q], [.int .i64 r], [.int .i64 s]] lo hi 4) := fun lo hi => zng _ _ _ _ _ _ _
 rw [zdg, r1]
 simp only
 rw [zdg, r2]
 simp only
 rw [zdg, r3]
 simp only
 rw [zdg, r4]
 simp only
 have g1 : (if s < if r < if q < p then q else p then r else if q < p then q else p then s else if r < if q < p then q else p then r else if q < p then q else p) = zdK p q r s := by unfold zdK; (repeat' split) <;> omega
 have g2 : (if s > if r > if q > p then q else p then r else if q > p then q else p then s else if r > if q > p then q else p then r else if q > p then q else p) = zdL p q r s := by unfold zdL; (repeat' split) <;> omega
 rw [g1, g2]
theorem p67 (a b : Iv) (h : a.valid) (k : b.valid) : (CW GZ LZ).p (.func 67) [.agg [.int .i64 a.lo, .int .i64 a.hi], .agg [.int .i64 b.lo, .int .i64 b.hi]] = some (.agg (a.mul b).c) := by
 refine zE (h := []) ?_ rfl
 simp only [e67, p38, p48, zs, zQ, zD, zw, zI, zP, zu, zV, zr, zC, zt, zR, z6, zaa, zY, zH, zM, zN, zW, zB, zG, zK, zL, Option.bind_some, Option.bind_none, cond_true, cond_false, zT, zU]
 by_cases hw : a.isW = true
 ·simp only [hw, Iv.eta, if_true, Iv.mul, Bool.true_or]; rfl
 by_cases kw : b.isW = true
 ·simp only [hw, kw, Iv.eta, if_true, Iv.mul, Bool.or_true]; rfl
 have hw' : a.isW = false := by simpa using hw
 have kw' : b.isW = false := by simpa using kw
 obtain ⟨hn1, hn2⟩ := zd5 h hw'
 obtain ⟨kn1, kn2⟩ := zd5 k kw'
 have s11 := zb7 hn1 kn1
 have s12 := zb7 hn1 kn2
 have s21 := zb7 hn2 kn1
 have s22 := zb7 hn2 kn2
 have w : ∀ {x : Int}, zcr x → IntKind.wrap .i64 x = x := fun hx => w64 (by have := hx.1; omega) (by have := hx.2; omega)
 have sm : ∀ p q r s, zcr p → zcr q → zcr r → zcr s → zcr (zdK p q r s) ∧ zcr (zdL p q r s) := fun p q r s hp hq hr hs => by
  simp only [zcr, zdK, zdL] at *; omega
 have sm' := sm _ _ _ _ s11 s12 s21 s22
 simp only [hw', kw', Iv.eta, zs, zQ, zD, zw, zI, zP, zu, zV, zr, zC, zt, zR, z6, zaa, zY, zH, zM, zN, zW, zB, zG, zK, zL, Option.bind_some, Option.bind_none, cond_true, cond_false, zT, zU, w s11, w s12, w s21, w s22, zaz]
 refine (zZ (i79 0 0 _ _ _ _) _).trans ?_
 have n4 : ∀ a b c d e f, nth (zcp a b c d e f).t 4 = .box [.int .i64 a, .int .i64 b] := fun _ _ _ _ _ _ => rfl
 have n5 : ∀ a b c d e f, nth (zcp a b c d e f).t 5 = .slice .any c := fun _ _ _ _ _ _ => rfl
 have n6 : ∀ a b c d e f, nth (zcp a b c d e f).t 6 = .int .i64 d := fun _ _ _ _ _ _ => rfl
 have n7 : ∀ a b c d e f, nth (zcp a b c d e f).t 7 = .int .i64 e := fun _ _ _ _ _ _ => rfl
 have n8 : ∀ a b c d e f, nth (zcp a b c d e f).t 8 = .int .i64 f := fun _ _ _ _ _ _ => rfl
 simp only [n4, n5, n6, n7, n8, Nat.beq_refl, zs, zQ, zD, zw, zI, zP, zu, zV, zr, zC, zt, zR, z6, zaa, zY, zH, zM, zN, zW, zB, zG, zK, zL, Option.bind_some, Option.bind_none, cond_true, cond_false, zT, zU, zlZ _ sm'.1, p105 _ sm'.2, p78, Iv.mul, hw', kw', Bool.or_false, Bool.false_eq_true, if_false]
 rfl
end Go.Ab
