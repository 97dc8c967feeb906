/- Typed values, and what a loop over a list comes to; conditions: none. -/
import Derived.Test.YtpalbaaghplhnaaDoorG5
import Derived.Test.YtpalbaaghplhnaaDoorEA
import Derived.Test.YtpalbaaghplhnaaDoorEC
set_option linter.unusedVariables false
set_option linter.unusedSimpArgs false
namespace Go.Ab
theorem w64 {x : Int} (h1 : -9223372036854775808 ≤ x) (h2 : x < 9223372036854775808) : IntKind.wrap .i64 x = x := by
 have e : IntKind.wrap .i64 x = if (9223372036854775808 : Int) ≤ x % 18446744073709551616 then x % 18446744073709551616 - 18446744073709551616 else x % 18446744073709551616 := by
  by_cases h : (9223372036854775808 : Int) ≤ x % 18446744073709551616
  ·simp [IntKind.wrap, IntKind.bits, IntKind.signed, h]
  ·simp [IntKind.wrap, IntKind.bits, IntKind.signed, h]
 rw [e]
 split <;> omega
theorem zbo (G : Cfg) (L : Lv) : (CW G L).w = zas := rfl
theorem zbL {G : Cfg} {L : Lv} {g : Fn} {args : List V} {u v : V} {h : List Ob} (hr : zM G L (CW G L) g args [] = some (u, h)) (hn : zbs h u some = some v) : (CW G L).p g args = some v := by
 refine zrC ?_
 rw [hr]; exact hn
theorem zE {G : Cfg} {L : Lv} {g : Fn} {args : List V} {v : V} {h : List Ob} (hr : zM G L (CW G L) g args [] = some (v, h)) (hn : zbs h v some = some v) : (CW G L).p g args = some v := zbL hr hn
def zf0 {α β σ : Type} (step : Nat → σ → α → Except β σ) : Nat → List α → σ → Except β σ
 | _, [], s => .ok s
 | i, a :: l, s => match step i s a with
  | .ok s' => zf0 step (i + 1) l s'
  | .error b => .error b
theorem znw {α β σ : Type} {round : St → Option (Ex × St)} {S : Nat → σ → St} {step : Nat → σ → α → Except β σ} {out : β → Ex × St} {ex : Ex} (Inv : Nat → σ → Prop) (l : List α)
  (hex : ex ≠ .normal) (hout : ∀ b, (out b).1 ≠ .normal)
  (h1 : ∀ (i : Nat) (hi : i < l.length) (s : σ), Inv i s → (∀ s', step i s l[i] = .ok s' → round (S i s) = some (.normal, S (i + 1) s') ∧ Inv (i + 1) s') ∧ ∀ b, step i s l[i] = .error b → round (S i s) = some (out b))
  (h2 : ∀ s, Inv l.length s → round (S l.length s) = some (ex, S l.length s)) :
  ∀ (k : List α) (i : Nat) (s : σ), l.drop i = k → i ≤ l.length → Inv i s → zas round (S i s) = (match zf0 step i k s with
   | .ok s' => some (ex, S l.length s')
   | .error b => some (out b)) ∧ ∀ s', zf0 step i k s = .ok s' → Inv l.length s' := by
 intro k
 induction k with
 | nil =>
  intro i s hk hi hInv
  have hil : i = l.length := by
   have := List.drop_eq_nil_iff.1 hk
   omega
  subst hil
  refine ⟨?_, fun s' hs' => by cases hs'; exact hInv⟩
  rw [zfr, h2 s hInv]
  simp only [zf0]
  cases ex with
  | normal => exact absurd rfl hex
  | exit id => rfl
  | ret => rfl
 | cons a k ih =>
  intro i s hk hi hInv
  have hil : i < l.length := by
   apply Nat.lt_of_not_le
   intro hle
   rw [List.drop_eq_nil_iff.2 hle] at hk; cases hk
  have hd := List.drop_eq_getElem_cons hil
  rw [hk] at hd
  injection hd with ha hk'
  obtain ⟨g1, g2⟩ := h1 i hil s hInv
  rw [zfr]
  simp only [zf0]
  rw [ha]
  cases hs : step i s l[i] with
  | ok s' =>
   obtain ⟨k1, k2⟩ := g1 s' hs
   rw [k1]
   exact ih (i + 1) s' hk'.symm (by omega) k2
  | error b =>
   rw [g2 b hs]
   refine ⟨?_, fun s' hs' => by cases hs'⟩
   have := hout b
   simp only
   cases ho : out b with
   | mk e st =>
    rw [ho] at this
    cases e with
    | normal => exact absurd rfl this
    | exit id => rfl
    | ret => rfl
theorem zjZ {α σ : Type} {round : St → Option (Ex × St)} (S : Nat → σ → St) (step : Nat → σ → α → σ) (Inv : Nat → σ → Prop) (l : List α) {ex : Ex} (hex : ex ≠ .normal)
  (h1 : ∀ (i : Nat) (hi : i < l.length) (s : σ), Inv i s → round (S i s) = some (.normal, S (i + 1) (step i s l[i])) ∧ Inv (i + 1) (step i s l[i]))
  (h2 : ∀ s, Inv l.length s → round (S l.length s) = some (ex, S l.length s)) (s : σ) (hs : Inv 0 s) :
  ∃ s', zf0 (β := Empty) (fun i s a => .ok (step i s a)) 0 l s = .ok s' ∧ zas round (S 0 s) = some (ex, S l.length s') ∧ Inv l.length s' := by
 have := znw (β := Empty) (S := S) (round := round) (step := fun i s a => .ok (step i s a)) (out := fun b => nomatch b) (ex := ex) Inv l hex (fun b => nomatch b)
  (fun i hi s hI => ⟨fun s' e => by cases e; exact h1 i hi s hI, fun b => nomatch b⟩) h2 l 0 s rfl (Nat.zero_le _) hs
 cases hf : zf0 (β := Empty) (fun i s a => .ok (step i s a)) 0 l s with
 | ok s' => rw [hf] at this; exact ⟨s', rfl, this.1, this.2 s' rfl⟩
 | error b => exact nomatch b
theorem ziD {α β σ : Type} (step : σ → α → σ) : ∀ (l : List α) (i : Nat) (s : σ), zf0 (β := β) (fun _ s a => .ok (step s a)) i l s = .ok (l.foldl step s) := by
 intro l
 induction l with
 | nil => intro i s; rfl
 | cons a l ih => intro i s; exact ih (i + 1) (step s a)
theorem zdv {α : Type} (f : α → List V) {sz : Nat} (hf : ∀ x, (f x).length = sz) (l : List α) (i : Nat) (hi : i < l.length) : zab (l.map f) (i : Int) sz = some (f l[i]) := by
 unfold zab
 have h0 : (0 : Int) ≤ (i : Int) := Int.natCast_nonneg i
 rw [if_pos h0]
 simp [hi, hf]
theorem zU {R : Type} {p : Prop} [Decidable p] (x y : R) : cond (decide p) x y = if p then x else y := by
 by_cases h : p <;> simp [h]
theorem zV {R : Type} (b : Bool) (x y : R) : cond (!b) x y = cond b y x := by cases b <;> rfl
structure Iv where
 lo : Int
 hi : Int
 deriving DecidableEq
def Iv.c (a : Iv) : List V := [.int .i64 a.lo, .int .i64 a.hi]
theorem Iv.c_len (a : Iv) : a.c.length = 2 := rfl
theorem zA (n : Int) : asInt .i64 (.int .i64 n) = some n := rfl
theorem zT (b : Bool) : asBool (.bool b) = some b := rfl
theorem zH (fl : Fl) (r : List (List V)) : zr (.slice fl r) = some r := rfl
theorem zC (l : List V) : zo (.agg l) = some l := rfl
theorem zJ (l : List V) : zu (.tuple l) = some l := rfl
theorem zY (l : List V) : zaH (.box l) = some l := rfl
theorem zx (l : List V) : zF (.cells l) = some l := rfl
theorem zW (l : LoopA) : zlF (.loop l) = some l := rfl
theorem zy (v : V) (l : List V) : zg (v :: l) = some (v, l) := rfl
theorem zD (v : Ob) (l : List Ob) : zz (v :: l) = some (v, l) := rfl
theorem zB : zh [] = some () := rfl
theorem zP (i o : Nat) : zaf i o (.ptr i o) = some () := by simp [zaf]
theorem zaa (n : Nat) (a b : List V) : zbV (.func n) (.fn (.func n) a b) = some (a, b) := by simp [zbV, fnEq]
theorem zah (n : Nat) (a b : List V) : zbV (.yield n) (.fn (.yield n) a b) = some (a, b) := by simp [zbV, fnEq]
theorem zZ (id len sz : Nat) : zcL id sz (.arr id len sz) = some len := by simp [zcL]
theorem zK (sz : Nat) (r : List (List V)) : zaX true sz (.arr true sz r) = some r := by simp [zaX]
theorem zN (sz : Nat) (r : List (List V)) : zaX false sz (.arr false sz r) = some r := by simp [zaX]
theorem zO : znC .ready = some () := rfl
theorem zX : zoN .busy = some () := rfl
theorem zG (a : Iv) : zg a.c = some (.int .i64 a.lo, [.int .i64 a.hi]) := rfl
theorem zL (wr : Bool) (sz : Nat) (r : List (List V)) (h : List Ob) : zaj (.arr wr sz r :: h) 0 r.length = some r := by simp [zaj, zar]
theorem Iv.eta (a : Iv) : (⟨a.lo, a.hi⟩ : Iv) = a := rfl
theorem zR (n : Int) : asInt .u8 (.int .u8 n) = some n := rfl
theorem zI (id : Nat) : zaV id (.map id) = some () := by simp [zaV]
theorem zbS (i : Nat) (h : i ≤ 1000000000) : IntKind.wrap .i64 ((i : Int) + 1) = ((i + 1 : Nat) : Int) := by
 rw [w64 (by omega) (by omega)]; simp
theorem zae {A R : Type} {x y : Option A} (h : x = y) (k : A → Option R) : x.bind k = y.bind k := by rw [h]
theorem znx {α σ : Type} {round : St → Option (Ex × St)} (S : Nat → σ → St) (step : σ → α → σ) (Inv : σ → Prop) (l : List α) {id : Nat}
  (h1 : ∀ (i : Nat) (hi : i < l.length) (s : σ), Inv s → round (S i s) = some (.normal, S (i + 1) (step s l[i])) ∧ Inv (step s l[i]))
  (h2 : ∀ s, Inv s → round (S l.length s) = some (.exit id, S l.length s)) (s : σ) (hs : Inv s) :
  zas round (S 0 s) = some (.exit id, S l.length (l.foldl step s)) ∧ Inv (l.foldl step s) := by
 obtain ⟨s', e1, e2, e3⟩ := zjZ S (fun _ s a => step s a) (fun _ s => Inv s) l (ex := .exit id) (by simp) h1 h2 s hs
 rw [ziD] at e1
 cases e1
 exact ⟨e2, e3⟩
theorem zhB {α σ : Type} {round : St → Option (Ex × St)} (S : Nat → σ → St) (step : σ → α → σ) (Inv : Nat → σ → Prop) (l : List α) {id : Nat}
  (h1 : ∀ (i : Nat) (hi : i < l.length) (s : σ), Inv i s → round (S i s) = some (.normal, S (i + 1) (step s l[i])) ∧ Inv (i + 1) (step s l[i]))
  (h2 : ∀ s, Inv l.length s → round (S l.length s) = some (.exit id, S l.length s)) (s : σ) (hs : Inv 0 s) :
  zas round (S 0 s) = some (.exit id, S l.length (l.foldl step s)) ∧ Inv l.length (l.foldl step s) := by
 obtain ⟨s', e1, e2, e3⟩ := zjZ S (fun _ s a => step s a) Inv l (ex := .exit id) (by simp) h1 h2 s hs
 rw [ziD] at e1
 cases e1
 exact ⟨e2, e3⟩
theorem zcJ {i n : Nat} (h : i < n) : decide ((i : Int) < (n : Int)) = true := by simp [h]
theorem zci {n : Nat} : decide ((n : Int) < (n : Int)) = false := by simp
theorem zn {b : St → Option (Ex × St)} {s s' : St} (h : b s = some (.normal, s')) : zas b s = zas b s' := by rw [zfr, h]
theorem zb4 {b : St → Option (Ex × St)} {s s' : St} {id : Nat} (h : b s = some (.exit id, s')) : zas b s = some (.exit id, s') := by rw [zfr, h]
theorem z6 {b : St → Option (Ex × St)} {s s' : St} (h : b s = some (.ret, s')) : zas b s = some (.ret, s') := by rw [zfr, h]
theorem zfc {round : St → Option (Ex × St)} (T : Nat → St) (n : Nat) (ok : Nat → Bool) (Q : St → Prop) {id : Nat}
  (h1 : ∀ i, i < n → (∀ j, j < i → ok j = true) → ok i = true → round (T i) = some (.normal, T (i + 1)))
  (h1' : ∀ i, i < n → (∀ j, j < i → ok j = true) → ok i = false → ∃ z, round (T i) = some (.ret, z) ∧ Q z)
  (h2 : (∀ j, j < n → ok j = true) → round (T n) = some (.exit id, T n)) :
  ((∀ i, i < n → ok i = true) ∧ zas round (T 0) = some (.exit id, T n)) ∨ ((∃ i, i < n ∧ ok i = false) ∧ ∃ z, zas round (T 0) = some (.ret, z) ∧ Q z) := by
 have key : ∀ k i, i + k = n → (∀ j, j < i → ok j = true) → ((∀ i, i < n → ok i = true) ∧ zas round (T i) = some (.exit id, T n)) ∨ ((∃ i, i < n ∧ ok i = false) ∧ ∃ z, zas round (T i) = some (.ret, z) ∧ Q z) := by
  intro k
  induction k with
  | zero =>
   intro i hi hj
   have : i = n := by omega
   subst this
   exact .inl ⟨hj, zb4 (h2 hj)⟩
  | succ k ih =>
   intro i hi hj
   cases hb : ok i with
   | true =>
    have := ih (i + 1) (by omega) (fun j hj' => by
     by_cases h : j = i
     ·rw [h]; exact hb
     ·exact hj j (by omega))
    rw [zn (h1 i (by omega) hj hb)]
    exact this
   | false =>
    obtain ⟨z, hz, hq⟩ := h1' i (by omega) hj hb
    exact .inr ⟨⟨i, by omega, hb⟩, z, z6 hz, hq⟩
 exact key n 0 (by omega) (fun j hj => by omega)
theorem zdg {round : St → Option (Ex × St)} (T : Nat → St) (n : Nat) {id : Nat} (h1 : ∀ i, i < n → round (T i) = some (.normal, T (i + 1))) (h2 : round (T n) = some (.exit id, T n)) : zas round (T 0) = some (.exit id, T n) := by
 rcases zfc T n (fun _ => true) (fun _ => True) (fun i hi _ _ => h1 i hi) (fun i _ _ h => by cases h) (fun _ => h2) with h | ⟨⟨i, _, h⟩, _⟩
 ·exact h.2
 ·cases h
theorem zdh {α : Type} {l : List α} {i : Nat} (h : i < l.length) : l.take (i + 1) = l.take i ++ [l[i]] := by
 rw [List.take_add_one, List.getElem?_eq_getElem h]; rfl
end Go.Ab
namespace Go.Ab
variable {R : Type}
theorem zaC {x : Option V} {b : Bool} (h : x = some (.bool b)) (k : Bool → Option R) : (x.bind fun y => (asBool y).bind k) = k b := by subst h; rfl
theorem zi2 {x : Option V} {n : Int} (h : x = some (.int .i64 n)) (k : Int → Option R) : (x.bind fun y => (asInt .i64 y).bind k) = k n := by subst h; rfl
theorem zlC {x : Option V} {fl : Fl} {r : List (List V)} (h : x = some (.slice fl r)) (k : List (List V) → Option R) : (x.bind fun y => (zr y).bind k) = k r := by subst h; rfl
theorem eIv {x : Option V} {a b : Int} (h : x = some (.agg [.int .i64 a, .int .i64 b])) (k : Int → Int → Option R) :
  (x.bind fun y => (zo y).bind fun c => (zg c).bind fun d => (asInt .i64 d.1).bind fun lo => (zg d.2).bind fun e => (asInt .i64 e.1).bind fun hi => (zh e.2).bind fun _ => k lo hi) = k a b := by subst h; rfl
theorem eP {x : Option V} {fl : Fl} {r : List (List V)} {a b : Int} (h : x = some (.tuple [.slice fl r, .agg [.int .i64 a, .int .i64 b]])) (k : List (List V) → Int → Int → Option R) :
  (x.bind fun y => (zu y).bind fun t => (zg t).bind fun u => (zr u.1).bind fun q => (zg u.2).bind fun v => (zo v.1).bind fun c => (zg c).bind fun d => (asInt .i64 d.1).bind fun lo => (zg d.2).bind fun e => (asInt .i64 e.1).bind fun hi => (zh e.2).bind fun _ => (zh v.2).bind fun _ => k q lo hi) = k r a b := by subst h; rfl
theorem zaE {α : Type} {x : Option α} {a : α} (h : x = some a) (k : α → Option R) : x.bind k = k a := by subst h; rfl
theorem cNF (a b : R) : cond (!false) a b = a := rfl
theorem cT {c : Bool} (h : c = true) (a b : R) : cond c a b = a := by subst h; rfl
theorem cF {c : Bool} (h : c = false) (a b : R) : cond c a b = b := by subst h; rfl
end Go.Ab
namespace Go.Ab
def Iv.whole : Iv := ⟨-2147483648, 2147483648⟩
def Iv.isW (a : Iv) : Bool := a.lo == -2147483648 && a.hi == 2147483648
def zs (x : Int) : Prop := -2147483648 < x ∧ x < 2147483648
instance (x : Int) : Decidable (zs x) := inferInstanceAs (Decidable (_ ∧ _))
def Iv.new (lo hi : Int) : Iv := if zs lo ∧ zs hi then ⟨lo, hi⟩ else Iv.whole
def Iv.valid (a : Iv) : Prop := a.lo ≤ a.hi ∧ -2147483648 ≤ a.lo ∧ a.hi ≤ 2147483648 ∧ (a.isW = true ∨ (zs a.lo ∧ zs a.hi))
def Iv.neg (a : Iv) : Iv := ⟨-a.hi, -a.lo⟩
def Iv.add (a b : Iv) : Iv := if a.isW || b.isW then Iv.whole else Iv.new (a.lo + b.lo) (a.hi + b.hi)
def Iv.sub (a b : Iv) : Iv := a.add b.neg
def fl (n : Int) : Int := n / 65536
def ce (n : Int) : Int := -((-n) / 65536)
def Iv.near (a : Iv) : Int := max 0 (max a.lo (-a.hi))
def Iv.far (a : Iv) : Int := max a.hi (-a.lo)
def Iv.sq (a : Iv) : Iv := if a.isW then a else Iv.new (fl (a.near * a.near)) (ce (a.far * a.far))
theorem zcx : Iv.whole.valid := by simp [Iv.valid, Iv.whole, Iv.isW]
theorem zco {lo hi : Int} (h : lo ≤ hi) : (Iv.new lo hi).valid := by
 unfold Iv.new
 split
 ·rename_i hn
  refine ⟨h, ?_, ?_, .inr hn⟩
  ·exact Int.le_of_lt hn.1.1
  ·exact Int.le_of_lt hn.2.2
 ·exact zcx
theorem zhC {a : Iv} (h : a.valid) : a.neg.valid := by
 obtain ⟨h1, h2, h3, h4⟩ := h
 simp only [Iv.valid, Iv.neg, Iv.isW, Bool.and_eq_true, beq_iff_eq, zs] at *
 omega
theorem zf1 {a b : Iv} (ha : a.valid) (hb : b.valid) : (a.add b).valid := by
 unfold Iv.add
 split
 ·exact zcx
 ·exact zco (by have := ha.1; have := hb.1; omega)
theorem sqb {x : Int} (h0 : 0 ≤ x) (h : x ≤ 2147483648) : 0 ≤ x * x ∧ x * x ≤ 4611686018427387904 :=
 ⟨Int.mul_nonneg h0 h0, by have := Int.mul_le_mul h h h0 (by decide); simpa using this⟩
theorem zpG {a : Iv} (h : a.valid) : 0 ≤ a.near ∧ a.near ≤ 2147483648 ∧ a.near ≤ a.far ∧ a.far ≤ 2147483648 := by
 obtain ⟨h1, h2, h3, h4⟩ := h
 simp only [Iv.near, Iv.far]
 omega
theorem fl_ce {n m : Int} (h : n ≤ m) : fl n ≤ ce m := by unfold fl ce; omega
theorem zrQ {x y : Int} (h0 : 0 ≤ x) (h : x ≤ y) : x * x ≤ y * y := Int.mul_le_mul h h h0 (by omega)
theorem zq0 {a : Iv} (h : a.valid) : a.sq.valid := by
 unfold Iv.sq
 split
 ·exact h
 ·obtain ⟨b1, b2, b3, b4⟩ := zpG h
  exact zco (fl_ce (zrQ b1 b3))
theorem zq1 (n : Int) : n.tdiv 65536 = if 0 ≤ n then n / 65536 else -((-n) / 65536) := by
 split
 ·rename_i h; exact Int.tdiv_eq_ediv_of_nonneg h
 ·rename_i h
  have : n = -(-n) := by omega
  rw [this, Int.neg_tdiv, Int.tdiv_eq_ediv_of_nonneg (by omega)]
  simp
theorem zq2 (n : Int) : n.tmod 65536 = if 0 ≤ n then n % 65536 else -((-n) % 65536) := by
 split
 ·rename_i h; exact Int.tmod_eq_emod_of_nonneg h
 ·rename_i h
  have : n = -(-n) := by omega
  rw [this, Int.neg_tmod, Int.tmod_eq_emod_of_nonneg (by omega)]
  simp
theorem p36 : (CW GU LU).p (.func 36) [] = some (.agg Iv.whole.c) := zE (e36 _) rfl
theorem p26 : (CW GU LU).p (.func 26) [] = some (.agg Iv.whole.c) := zE (e26 _) rfl
theorem p9 (a b : Int) : (CW GU LU).p (.func 9) [.agg [.int .i64 a, .int .i64 b]] = some (.bool (Iv.isW ⟨a, b⟩)) := by
 refine zE (h := []) ?_ rfl
 simp only [e9, p36, zA, zT, zH, zC, zJ, zY, zx, zW, zy, zD, zB, zP, zaa, zah, zZ, zK, zN, zO, zX, zG, zR, zI, zL, Option.bind_some, Option.bind_none, cond_true, cond_false, zU, zV, Bool.and_true]
 rfl
theorem p8 (a b : Int) : (CW GU LU).p (.func 8) [.agg [.int .i64 a, .int .i64 b]] = some (.bool (Iv.isW ⟨a, b⟩)) := by
 refine zE (h := []) ?_ rfl
 simp only [e8, Iv.isW]
 cases a == -2147483648 <;> rfl
theorem p50 (a : Int) : (CW GU LU).p (.func 50) [.int .i64 a] = some (.bool (decide (zs a))) := by
 refine zE (h := []) ?_ rfl
 simp only [e50, zA, zT, zH, zC, zJ, zY, zx, zW, zy, zD, zB, zP, zaa, zah, zZ, zK, zN, zO, zX, zG, zR, zI, zL, Option.bind_some, Option.bind_none, cond_true, cond_false, zU, zV, zs]
 by_cases h : a > -2147483648
 ·have h' : -2147483648 < a := h
  simp [h, h']
 ·have h' : ¬ -2147483648 < a := h
  simp [h, h']
theorem p64 (a b : Int) : (CW GU LU).p (.func 64) [.int .i64 a, .int .i64 b] = some (.agg (Iv.new a b).c) := by
 refine zE (h := []) ?_ rfl
 simp only [e64, p50, p26, zA, zT, zH, zC, zJ, zY, zx, zW, zy, zD, zB, zP, zaa, zah, zZ, zK, zN, zO, zX, zG, zR, zI, zL, Option.bind_some, Option.bind_none, cond_true, cond_false, zU, zV, Iv.new]
 by_cases h1 : zs a <;> by_cases h2 : zs b <;> simp [h1, h2, Iv.c]
theorem p35 (a b : Int) (h : a ≤ b) : (CW GU LU).p (.func 35) [.int .i64 a, .int .i64 b] = some (.agg (Iv.new a b).c) := by
 refine zE (h := []) ?_ rfl
 simp only [e35, p36, zA, zT, zH, zC, zJ, zY, zx, zW, zy, zD, zB, zP, zaa, zah, zZ, zK, zN, zO, zX, zG, zR, zI, zL, Option.bind_some, Option.bind_none, cond_true, cond_false, zU, zV, Iv.new]
 by_cases h1 : a ≤ -2147483648
 ·simp only [h1, if_true]
  rw [if_neg (fun hh => by have := hh.1.1; omega)]; rfl
 ·simp only [h1, if_false]
  by_cases h2 : b ≥ 2147483648
  ·simp only [h2, if_true]
   rw [if_neg (fun hh => by have := hh.2.2; omega)]; rfl
  ·simp only [h2, if_false]
   have h3 : ¬ a ≥ 2147483648 := by omega
   have h4 : ¬ b ≤ -2147483648 := by omega
   simp only [h3, h4, if_false]
   rw [if_pos (by simp only [zs]; omega)]; rfl
theorem zi3 (a b : Int) : (CW GU LU).p (.func 35) [.int .i64 a, .int .i64 b] = some (.agg (Iv.new a b).c) := by
 refine zE (h := []) ?_ rfl
 simp only [e35, p36, zA, zT, zH, zC, zJ, zY, zx, zW, zy, zD, zB, zP, zaa, zah, zZ, zK, zN, zO, zX, zG, zR, zI, zL, Option.bind_some, Option.bind_none, cond_true, cond_false, zU, zV, Iv.new]
 by_cases h1 : a ≤ -2147483648 <;> by_cases h2 : b ≥ 2147483648 <;> by_cases h3 : a ≥ 2147483648 <;> by_cases h4 : b ≤ -2147483648 <;> simp only [h1, h2, h3, h4, if_true, if_false] <;> first
  | (rw [if_neg (by simp only [zs]; omega)]; rfl)
  | (rw [if_pos (by simp only [zs]; omega)]; rfl)
theorem p42 (a : Iv) (h : a.valid) : (CW GU LU).p (.func 42) [.agg [.int .i64 a.lo, .int .i64 a.hi]] = some (.agg a.neg.c) := by
 obtain ⟨h1, h2, h3, h4⟩ := h
 refine zE (h := []) ?_ rfl
 simp only [e42]
 rw [w64 (by omega) (by omega), w64 (by omega) (by omega)]
 simp [Iv.neg, Iv.c]
theorem p44 (a b : Iv) (h : a.valid) (k : b.valid) : (CW GU LU).p (.func 44) [.agg [.int .i64 a.lo, .int .i64 a.hi], .agg [.int .i64 b.lo, .int .i64 b.hi]] = some (.agg (a.add b).c) := by
 obtain ⟨h1, h2, h3, h4⟩ := h
 obtain ⟨k1, k2, k3, k4⟩ := k
 refine zE (h := []) ?_ rfl
 simp only [e44, p9, p36, zi3, zA, zT, zH, zC, zJ, zY, zx, zW, zy, zD, zB, zP, zaa, zah, zZ, zK, zN, zO, zX, zG, zR, zI, zL, Option.bind_some, Option.bind_none, cond_true, cond_false, zU, zV, Iv.add]
 rw [w64 (by omega) (by omega), w64 (by omega) (by omega)]
 cases h5 : a.isW <;> cases h6 : b.isW <;> rfl
theorem p74 (a : Int) : (CW GU LU).p (.func 74) [.int .i64 a] = some (.int .i64 (if 1 < a then 1 else a)) := zE (e74 _ _) rfl
def zj0 (n : Int) : Prop := -4611686018427387904 ≤ n ∧ n ≤ 4611686018427387904
theorem p65 (n : Int) (h : zj0 n) : (CW GU LU).p (.func 65) [.int .i64 n, .int .i64 65536] = some (.tuple [.int .i64 (fl n), .int .i64 (ce n)]) := by
 obtain ⟨h1, h2⟩ := h
 have q : (CW GU LU).p (.func 73) [.int .i64 n, .int .i64 65536, .fn (.func 74) [] []] = some (.tuple [.int .i64 (fl n), .int .i64 (ce n)]) := by
  refine zE (h := []) ?_ rfl
  have e0 : ((65536 : Int) == 0) = false := rfl
  simp only [p73, p74, e0, zA, zT, zH, zC, zJ, zY, zx, zW, zy, zD, zB, zP, zaa, zah, zZ, zK, zN, zO, zX, zG, zR, zI, zL, Option.bind_some, Option.bind_none, cond_true, cond_false, zU, zV]
  have e1 := zq1 n
  have e2 := zq2 n
  generalize n.tdiv 65536 = x at *
  generalize n.tmod 65536 = y at *
  by_cases hn : 0 ≤ n
  ·rw [if_pos hn] at e1 e2
   have hy : ¬ y < 0 := by omega
   rw [if_neg hy]
   have hx : IntKind.wrap .i64 x = x := w64 (by omega) (by omega)
   rw [hx, w64 (by split <;> omega) (by split <;> omega)]
   have a1 : x = fl n := by unfold fl; omega
   have a2 : x + (if 1 < y then 1 else y) = ce n := by unfold ce; split <;> omega
   rw [a2, a1]
  ·rw [if_neg hn] at e1 e2
   have hx : IntKind.wrap .i64 x = x := w64 (by omega) (by omega)
   rw [hx]
   by_cases hy : y < 0
   ·rw [if_pos hy]
    have hx1 : IntKind.wrap .i64 (x - 1) = x - 1 := w64 (by omega) (by omega)
    have hy1 : IntKind.wrap .i64 (y + 65536) = y + 65536 := w64 (by omega) (by omega)
    rw [hx1, hy1, w64 (by split <;> omega) (by split <;> omega)]
    have a1 : x - 1 = fl n := by unfold fl; omega
    have a2 : x - 1 + (if 1 < y + 65536 then 1 else y + 65536) = ce n := by unfold ce; split <;> omega
    rw [a2, a1]
   ·rw [if_neg hy]
    rw [w64 (by split <;> omega) (by split <;> omega)]
    have a1 : x = fl n := by unfold fl; omega
    have a2 : x + (if 1 < y then 1 else y) = ce n := by unfold ce; split <;> omega
    rw [a2, a1]
 refine zE (h := []) ?_ rfl
 have e0 : decide ((65536 : Int) < 0) = false := rfl
 simp only [e65, q, e0, zA, zT, zH, zC, zJ, zY, zx, zW, zy, zD, zB, zP, zaa, zah, zZ, zK, zN, zO, zX, zG, zR, zI, zL, Option.bind_some, Option.bind_none, cond_true, cond_false, zU, zV]
theorem p51 (a b : Int) (h : zj0 (a * b)) : (CW GU LU).p (.func 51) [.int .i64 a, .int .i64 b] = some (.tuple [.int .i64 (fl (a * b)), .int .i64 (ce (a * b))]) := by
 refine zE (h := []) ?_ rfl
 simp only [e51]
 rw [w64 (by have := h.1; omega) (by have := h.2; omega), p65 _ h]
 simp only [zA, zT, zH, zC, zJ, zY, zx, zW, zy, zD, zB, zP, zaa, zah, zZ, zK, zN, zO, zX, zG, zR, zI, zL, Option.bind_some, Option.bind_none, cond_true, cond_false, zU, zV]
theorem p81 (a : Iv) (h : a.valid) : (CW GU LU).p (.func 81) [.agg [.int .i64 a.lo, .int .i64 a.hi]] = some (.int .i64 a.far) := by
 obtain ⟨h1, h2, h3, h4⟩ := h
 refine zE (h := []) ?_ rfl
 simp only [e81]
 rw [w64 (by omega) (by omega)]
 have : (if 0 - a.lo > a.hi then 0 - a.lo else a.hi) = a.far := by unfold Iv.far; split <;> omega
 rw [this]
theorem zmt {x : Int} (h0 : 0 ≤ x) (h : x ≤ 2147483648) : zj0 (x * x) := by
 obtain ⟨a, b⟩ := sqb h0 h
 exact ⟨by omega, b⟩
theorem p72 (a : Iv) (h : a.valid) : (CW GU LU).p (.func 72) [.agg [.int .i64 a.lo, .int .i64 a.hi]] = some (.agg a.sq.c) := by
 have hv := h
 obtain ⟨h1, h2, h3, h4⟩ := h
 obtain ⟨b1, b2, b3, b4⟩ := zpG hv
 refine zE (h := []) ?_ rfl
 simp only [e72, p9, zA, zT, zH, zC, zJ, zY, zx, zW, zy, zD, zB, zP, zaa, zah, zZ, zK, zN, zO, zX, zG, zR, zI, zL, Option.bind_some, Option.bind_none, cond_true, cond_false, zU, zV, Iv.eta]
 rw [w64 (by omega) (by omega)]
 have e : (if 0 > (if 0 - a.hi > a.lo then 0 - a.hi else a.lo) then 0 else (if 0 - a.hi > a.lo then 0 - a.hi else a.lo)) = a.near := by unfold Iv.near; split <;> split <;> omega
 rw [e, p81 a hv, p51 _ _ (zmt b1 b2)]
 simp only [zA, zT, zH, zC, zJ, zY, zx, zW, zy, zD, zB, zP, zaa, zah, zZ, zK, zN, zO, zX, zG, zR, zI, zL, Option.bind_some, Option.bind_none, cond_true, cond_false, zU, zV]
 rw [p51 _ _ (zmt (by omega) b4)]
 simp only [zA, zT, zH, zC, zJ, zY, zx, zW, zy, zD, zB, zP, zaa, zah, zZ, zK, zN, zO, zX, zG, zR, zI, zL, Option.bind_some, Option.bind_none, cond_true, cond_false, zU, zV, zi3, Iv.sq]
 cases a.isW <;> rfl
def min4 (a b c d : Int) : Int := min (min a b) (min c d)
def max4 (a b c d : Int) : Int := max (max a b) (max c d)
def Iv.mul (a b : Iv) : Iv := if a.isW || b.isW then Iv.whole else Iv.new (fl (min4 (a.lo * b.lo) (a.lo * b.hi) (a.hi * b.lo) (a.hi * b.hi))) (ce (max4 (a.lo * b.lo) (a.lo * b.hi) (a.hi * b.lo) (a.hi * b.hi)))
theorem zeU (a b : Iv) : (a.mul b).valid := by
 unfold Iv.mul
 split
 ·exact zcx
 ·exact zco (fl_ce (by unfold min4 max4; omega))
theorem zdX {a : Iv} (h : a.valid) (hw : a.isW = false) : zs a.lo ∧ zs a.hi := by
 rcases h.2.2.2 with h' | h'
 ·rw [hw] at h'; cases h'
 ·exact h'
theorem zdi {x y : Int} (hx : zs x) (hy : zs y) : zj0 (x * y) := by
 obtain ⟨h1, h2⟩ := hx
 obtain ⟨h3, h4⟩ := hy
 have key : ∀ u v : Int, 0 ≤ u → u ≤ 2147483648 → 0 ≤ v → v ≤ 2147483648 → u * v ≤ 4611686018427387904 ∧ 0 ≤ u * v := fun u v a b c d =>
  ⟨by have := Int.mul_le_mul b d c (by omega); simpa using this, Int.mul_nonneg a c⟩
 by_cases hx : 0 ≤ x <;> by_cases hy : 0 ≤ y
 ·have := key x y hx (by omega) hy (by omega); exact ⟨by omega, by omega⟩
 ·have := key x (-y) hx (by omega) (by omega) (by omega)
  rw [Int.mul_neg] at this; exact ⟨by omega, by omega⟩
 ·have := key (-x) y (by omega) (by omega) hy (by omega)
  rw [Int.neg_mul] at this; exact ⟨by omega, by omega⟩
 ·have := key (-x) (-y) (by omega) (by omega) (by omega) (by omega)
  rw [Int.neg_mul_neg] at this; exact ⟨by omega, by omega⟩
theorem zkz {x y : Int} (h : x ≤ y) (z : Int) : (0 ≤ z → x * z ≤ y * z) ∧ (z ≤ 0 → y * z ≤ x * z) :=
 ⟨fun hz => Int.mul_le_mul_of_nonneg_right h hz, fun hz => Int.mul_le_mul_of_nonpos_right h hz⟩
theorem zmu {x y : Int} (h : x ≤ y) (z : Int) : (0 ≤ z → z * x ≤ z * y) ∧ (z ≤ 0 → z * y ≤ z * x) := by
 have := zkz h z
 rw [Int.mul_comm x z, Int.mul_comm y z] at this
 exact this
def side (a : Iv) : Int := if a.hi ≤ 0 then 0 else if a.lo ≥ 0 then 2 else 1
theorem p57 (a : Iv) : (CW GU LU).p (.func 57) [.agg [.int .i64 a.lo, .int .i64 a.hi]] = some (.int .i64 (side a)) := by
 refine zE (h := []) ?_ rfl
 simp only [e57, side, zA, zT, zH, zC, zJ, zY, zx, zW, zy, zD, zB, zP, zaa, zah, zZ, zK, zN, zO, zX, zG, zR, zI, zL, Option.bind_some, Option.bind_none, cond_true, cond_false, zU, zV]
 by_cases h1 : a.hi ≤ 0
 ·simp only [h1, if_true]
 ·by_cases h2 : a.lo ≥ 0
  ·simp only [h1, h2, if_true, if_false]
  ·simp only [h1, h2, if_false]
theorem p116 (a b c d : Int) : (CW GU LU).p (.func 116) [.agg [.int .i64 a, .int .i64 b], .agg [.int .i64 c, .int .i64 d]] = some (.tuple [.int .i64 b, .int .i64 d]) := zE (e116 _ _ _ _ _) rfl
theorem p117 (a b c d : Int) : (CW GU LU).p (.func 117) [.agg [.int .i64 a, .int .i64 b], .agg [.int .i64 c, .int .i64 d]] = some (.tuple [.int .i64 a, .int .i64 c]) := zE (e117 _ _ _ _ _) rfl
theorem p118 (a b c d : Int) : (CW GU LU).p (.func 118) [.agg [.int .i64 a, .int .i64 b], .agg [.int .i64 c, .int .i64 d]] = some (.tuple [.int .i64 a, .int .i64 d]) := zE (e118 _ _ _ _ _) rfl
theorem p119 (a b c d : Int) : (CW GU LU).p (.func 119) [.agg [.int .i64 a, .int .i64 b], .agg [.int .i64 c, .int .i64 d]] = some (.tuple [.int .i64 b, .int .i64 c]) := zE (e119 _ _ _ _ _) rfl
theorem znL {n m : Int} (h : n ≤ m) : fl n ≤ fl m := by unfold fl; omega
theorem znM {n m : Int} (h : n ≤ m) : ce n ≤ ce m := by unfold ce; omega
theorem fl_min (a b : Int) : (if fl b < fl a then fl b else fl a) = fl (min a b) := by
 have h1 := @znL a b
 have h2 := @znL b a
 by_cases h : a ≤ b
 ·rw [Int.min_eq_left h, if_neg (by have := h1 h; omega)]
 ·rw [Int.min_eq_right (by omega)]
  have := h2 (by omega)
  split <;> omega
theorem ce_max (a b : Int) : (if ce b > ce a then ce b else ce a) = ce (max a b) := by
 have h1 := @znM a b
 have h2 := @znM b a
 by_cases h : a ≤ b
 ·rw [Int.max_eq_right h]
  have := h1 h
  split <;> omega
 ·rw [Int.max_eq_left (by omega), if_neg (by have := h2 (by omega); omega)]
theorem p39 (a b : Iv) (h : a.valid) (k : b.valid) : (CW GU LU).p (.func 39) [.agg [.int .i64 a.lo, .int .i64 a.hi], .agg [.int .i64 b.lo, .int .i64 b.hi]] = some (.agg (a.mul b).c) := by
 refine zE (h := []) ?_ rfl
 simp only [e39, p9, p36, zA, zT, zH, zC, zJ, zY, zx, zW, zy, zD, zB, zP, zaa, zah, zZ, zK, zN, zO, zX, zG, zR, zI, zL, Option.bind_some, Option.bind_none, cond_true, cond_false, zU, zV]
 by_cases hw : a.isW = true
 ·simp only [hw, Iv.eta, if_true, Iv.mul, Bool.true_or]; rfl
 by_cases kw : b.isW = true
 ·simp only [hw, kw, Iv.eta, if_true, Iv.mul, Bool.or_true]; rfl
 have hw' : a.isW = false := by simpa using hw
 have kw' : b.isW = false := by simpa using kw
 obtain ⟨hn1, hn2⟩ := zdX h hw'
 obtain ⟨kn1, kn2⟩ := zdX k kw'
 have s11 := zdi hn1 kn1
 have s12 := zdi hn1 kn2
 have s21 := zdi hn2 kn1
 have s22 := zdi hn2 kn2
 have o1 := zkz h.1 b.lo
 have o2 := zkz h.1 b.hi
 have o3 := zmu k.1 a.lo
 have o4 := zmu k.1 a.hi
 have h1 := h.1
 have k1 := k.1
 simp only [hw', kw', Iv.eta, p57, Iv.mul, Bool.or_false, Bool.false_eq_true, if_false, zA, zT, zH, zC, zJ, zY, zx, zW, zy, zD, zB, zP, zaa, zah, zZ, zK, zN, zO, zX, zG, zR, zI, zL, Option.bind_some, Option.bind_none, cond_true, cond_false, zU, zV]
 have fin : ∀ x y, min4 (a.lo * b.lo) (a.lo * b.hi) (a.hi * b.lo) (a.hi * b.hi) = x → max4 (a.lo * b.lo) (a.lo * b.hi) (a.hi * b.lo) (a.hi * b.hi) = y →
   some (V.agg [.int .i64 (Iv.new (fl x) (ce y)).lo, .int .i64 (Iv.new (fl x) (ce y)).hi], ([] : List Ob)) = some (V.agg (Iv.new (fl (min4 (a.lo * b.lo) (a.lo * b.hi) (a.hi * b.lo) (a.hi * b.hi))) (ce (max4 (a.lo * b.lo) (a.lo * b.hi) (a.hi * b.lo) (a.hi * b.hi)))).c, []) := fun x y hx hy => by rw [hx, hy]; rfl
 unfold side
 by_cases a1 : a.hi ≤ 0 <;> by_cases a2 : a.lo ≥ 0 <;> by_cases b1 : b.hi ≤ 0 <;> by_cases b2 : b.lo ≥ 0 <;>
  simp only [a1, a2, b1, b2, if_true, if_false, show ((0 : Int) == 1) = false from rfl, show ((2 : Int) == 1) = false from rfl, show ((1 : Int) == 1) = true from rfl, show decide ((0 : Int) = 0) = true from rfl, show decide ((2 : Int) = 0) = false from rfl, show decide ((2 : Int) = 1) = false from rfl, show decide ((2 : Int) = 2) = true from rfl, show decide ((1 : Int) = 0) = false from rfl, show decide ((1 : Int) = 1) = true from rfl, zA, zT, zH, zC, zJ, zY, zx, zW, zy, zD, zB, zP, zaa, zah, zZ, zK, zN, zO, zX, zG, zR, zI, zL, Option.bind_some, Option.bind_none, cond_true, cond_false, zU, zV, p116, p117, p118, p119, p51 _ _ s11, p51 _ _ s12, p51 _ _ s21, p51 _ _ s22, zi3, fl_min, ce_max] <;>
  (refine fin _ _ ?_ ?_ <;> first | (unfold min4; omega) | (unfold max4; omega))
theorem p63 (a : Int) : (CW GU LU).p (.func 63) [.int .i64 a] = some (.agg (Iv.new a a).c) := by
 refine zE (h := []) ?_ rfl
 simp only [e63, zi3, zA, zT, zH, zC, zJ, zY, zx, zW, zy, zD, zB, zP, zaa, zah, zZ, zK, zN, zO, zX, zG, zR, zI, zL, Option.bind_some, Option.bind_none, cond_true, cond_false, zU, zV]
 rfl
theorem p48 (a : Int) : (CW GU LU).p (.func 48) [.int .i64 a] = some (.agg (Iv.new a a).c) := by
 refine zE (h := []) ?_ rfl
 simp only [e48, p64, zA, zT, zH, zC, zJ, zY, zx, zW, zy, zD, zB, zP, zaa, zah, zZ, zK, zN, zO, zX, zG, zR, zI, zL, Option.bind_some, Option.bind_none, cond_true, cond_false, zU, zV]
 rfl
theorem p25 (a : Iv) : (CW GU LU).p (.func 25) [.agg [.int .i64 a.lo, .int .i64 a.hi]] = some (.bool (a.isW || decide (zs a.lo ∧ zs a.hi ∧ a.lo ≤ a.hi))) := by
 refine zE (h := []) ?_ rfl
 simp only [e25, p8, p50, Iv.eta, zA, zT, zH, zC, zJ, zY, zx, zW, zy, zD, zB, zP, zaa, zah, zZ, zK, zN, zO, zX, zG, zR, zI, zL, Option.bind_some, Option.bind_none, cond_true, cond_false, zU, zV]
 cases hw : a.isW
 ·by_cases h1 : zs a.lo <;> by_cases h2 : zs a.hi <;> by_cases h3 : a.lo ≤ a.hi <;> simp [h1, h2, h3]
 ·rfl
theorem p27 (a b : Int) : ∃ v : Iv, v.valid ∧ zs v.lo ∧ zs v.hi ∧ -16777216 < v.lo ∧ v.hi < 16777216 ∧ (CW GU LU).p (.func 27) [.agg [.int .i64 a, .int .i64 b]] = some (.agg v.c) := by
 have h1 := Int.tmod_lt_of_pos a (show (0 : Int) < 16777216 by decide)
 have h2 := Int.tmod_lt_of_pos b (show (0 : Int) < 16777216 by decide)
 have h3 : -16777216 < a.tmod 16777216 := Int.lt_tmod_of_pos a (by decide)
 have h4 : -16777216 < b.tmod 16777216 := Int.lt_tmod_of_pos b (by decide)
 refine ⟨⟨if b.tmod 16777216 < a.tmod 16777216 then b.tmod 16777216 else a.tmod 16777216, if b.tmod 16777216 > a.tmod 16777216 then b.tmod 16777216 else a.tmod 16777216⟩, ?_, ?_, ?_, ?_, ?_, zE (h := []) (e27 _ _ _) rfl⟩
 ·refine ⟨?_, ?_, ?_, .inr ⟨?_, ?_⟩⟩ <;> simp only [zs] <;> (repeat' split) <;> omega
 ·simp only [zs]; split <;> omega
 ·simp only [zs]; split <;> omega
 ·simp only; split <;> omega
 ·simp only; split <;> omega
theorem p5 (a b : Int) : ∃ v : Iv, v.valid ∧ (CW GU LU).p (.func 5) [.agg [.int .i64 a, .int .i64 b]] = some (.agg v.c) := by
 by_cases hv : (Iv.isW ⟨a, b⟩ || decide (zs a ∧ zs b ∧ a ≤ b)) = true
 ·refine ⟨⟨a, b⟩, ?_, ?_⟩
  ·rw [Bool.or_eq_true] at hv
   rcases hv with h | h
   ·have h' := h
    simp only [Iv.isW, Bool.and_eq_true, beq_iff_eq] at h'
    exact ⟨by simp only; omega, by simp only; omega, by simp only; omega, .inl h⟩
   ·have h' := of_decide_eq_true h
    have g := h'
    simp only [zs] at g
    exact ⟨h'.2.2, by simp only; omega, by simp only; omega, .inr ⟨h'.1, h'.2.1⟩⟩
  ·refine zE (h := []) ?_ rfl
   have := p25 ⟨a, b⟩
   simp only at this
   simp only [e5, this, hv, zA, zT, zH, zC, zJ, zY, zx, zW, zy, zD, zB, zP, zaa, zah, zZ, zK, zN, zO, zX, zG, zR, zI, zL, Option.bind_some, Option.bind_none, cond_true, cond_false, zU, zV, if_true]
   rfl
 ·have hv' : (Iv.isW ⟨a, b⟩ || decide (zs a ∧ zs b ∧ a ≤ b)) = false := by simpa using hv
  have := p25 ⟨a, b⟩
  simp only at this
  obtain ⟨v, h1, _, _, _, _, h2⟩ := p27 a b
  by_cases hc : ((Go.IntKind.wrap .i64 (((BitVec.ofInt (Go.IntKind.bits .i64) a &&& BitVec.ofInt (Go.IntKind.bits .i64) 31).toNat : Nat) : Int)) == 7) = true
  ·refine ⟨Iv.whole, zcx, zE (h := []) ?_ rfl⟩
   simp only [e5, this, hv', hc, p26, zA, zT, zH, zC, zJ, zY, zx, zW, zy, zD, zB, zP, zaa, zah, zZ, zK, zN, zO, zX, zG, zR, zI, zL, Option.bind_some, Option.bind_none, cond_true, cond_false, zU, zV]
   rfl
  ·have hc' := Bool.not_eq_true _ ▸ hc
   refine ⟨v, h1, zE (h := []) ?_ rfl⟩
   simp only [e5, this, hv', hc', h2, zA, zT, zH, zC, zJ, zY, zx, zW, zy, zD, zB, zP, zaa, zah, zZ, zK, zN, zO, zX, zG, zR, zI, zL, Option.bind_some, Option.bind_none, cond_true, cond_false, zU, zV]
   rfl
end Go.Ab
