/- Typed values, and what a loop over a list comes to; conditions: none. -/
import Derived.Test.YthjhgegilibadaaDoorG5
import Derived.Test.YthjhgegilibadaaDoorEA
import Derived.Test.YthjhgegilibadaaDoorEC
namespace Go.Ab
set_option linter.unusedVariables false
set_option linter.unusedSimpArgs false

theorem w64 {x : Int} (h1 : -9223372036854775808 ≤ x) (h2 : x < 9223372036854775808) : IntKind.wrap .i64 x = x := by
  have e : IntKind.wrap .i64 x = if (9223372036854775808 : Int) ≤ x % 18446744073709551616 then x % 18446744073709551616 - 18446744073709551616 else x % 18446744073709551616 := by
    by_cases h : (9223372036854775808 : Int) ≤ x % 18446744073709551616
    · simp [IntKind.wrap, IntKind.bits, IntKind.signed, h]
    · simp [IntKind.wrap, IntKind.bits, IntKind.signed, h]
  rw [e]
  split <;> omega

theorem CW_w (G : Cfg) (L : Lv) : (CW G L).w = iterW := rfl
theorem CW_valH {G : Cfg} {L : Lv} {g : Fn} {args : List V} {u v : V} {h : List Ob} (hr : run1 G L (CW G L) g args [] = some (u, h)) (hn : normResK h u some = some v) : (CW G L).p g args = some v := by
  refine CW_runP ?_
  rw [hr]; exact hn
theorem CW_val {G : Cfg} {L : Lv} {g : Fn} {args : List V} {v : V} {h : List Ob} (hr : run1 G L (CW G L) g args [] = some (v, h)) (hn : normResK h v some = some v) : (CW G L).p g args = some v := CW_valH hr hn

/-! Loops. -/
/-- Steps through a list, each with its number, till one leaves. -/
def foldE {α β σ : Type} (step : Nat → σ → α → Except β σ) : Nat → List α → σ → Except β σ
  | _, [], s => .ok s
  | i, a :: l, s => match step i s a with
    | .ok s' => foldE step (i + 1) l s'
    | .error b => .error b
/-- A loop over a list: S is the state at round i; a round goes on, or leaves in a state that is told. -/
theorem iterW_foldE {α β σ : Type} {round : St → Option (Ex × St)} {S : Nat → σ → St} {step : Nat → σ → α → Except β σ} {out : β → Ex × St} {ex : Ex} (Inv : Nat → σ → Prop) (l : List α)
    (hex : ex ≠ .normal) (hout : ∀ b, (out b).1 ≠ .normal)
    (h1 : ∀ (i : Nat) (hi : i < l.length) (s : σ), Inv i s → (∀ s', step i s l[i] = .ok s' → round (S i s) = some (.normal, S (i + 1) s') ∧ Inv (i + 1) s') ∧ ∀ b, step i s l[i] = .error b → round (S i s) = some (out b))
    (h2 : ∀ s, Inv l.length s → round (S l.length s) = some (ex, S l.length s)) :
    ∀ (k : List α) (i : Nat) (s : σ), l.drop i = k → i ≤ l.length → Inv i s → iterW round (S i s) = (match foldE step i k s with
      | .ok s' => some (ex, S l.length s')
      | .error b => some (out b)) ∧ ∀ s', foldE step i k s = .ok s' → Inv l.length s' := by
  intro k
  induction k with
  | nil =>
    intro i s hk hi hInv
    have hil : i = l.length := by
      have := List.drop_eq_nil_iff.1 hk
      omega
    subst hil
    refine ⟨?_, fun s' hs' => by cases hs'; exact hInv⟩
    rw [iterW_eq, h2 s hInv]
    simp only [foldE]
    cases ex with
    | normal => exact absurd rfl hex
    | exit id => rfl
    | ret => rfl
  | cons a k ih =>
    intro i s hk hi hInv
    have hil : i < l.length := by
      apply Nat.lt_of_not_le
      intro hle
      rw [List.drop_eq_nil_iff.2 hle] at hk; cases hk
    have hd := List.drop_eq_getElem_cons hil
    rw [hk] at hd
    injection hd with ha hk'
    obtain ⟨g1, g2⟩ := h1 i hil s hInv
    rw [iterW_eq]
    simp only [foldE]
    rw [ha]
    cases hs : step i s l[i] with
    | ok s' =>
      obtain ⟨k1, k2⟩ := g1 s' hs
      rw [k1]
      exact ih (i + 1) s' hk'.symm (by omega) k2
    | error b =>
      rw [g2 b hs]
      refine ⟨?_, fun s' hs' => by cases hs'⟩
      have := hout b
      simp only
      cases ho : out b with
      | mk e st =>
        rw [ho] at this
        cases e with
        | normal => exact absurd rfl this
        | exit id => rfl
        | ret => rfl

/-- A loop over a list that is not left early. -/
theorem iterW_list {α σ : Type} {round : St → Option (Ex × St)} (S : Nat → σ → St) (step : Nat → σ → α → σ) (Inv : Nat → σ → Prop) (l : List α) {ex : Ex} (hex : ex ≠ .normal)
    (h1 : ∀ (i : Nat) (hi : i < l.length) (s : σ), Inv i s → round (S i s) = some (.normal, S (i + 1) (step i s l[i])) ∧ Inv (i + 1) (step i s l[i]))
    (h2 : ∀ s, Inv l.length s → round (S l.length s) = some (ex, S l.length s)) (s : σ) (hs : Inv 0 s) :
    ∃ s', foldE (β := Empty) (fun i s a => .ok (step i s a)) 0 l s = .ok s' ∧ iterW round (S 0 s) = some (ex, S l.length s') ∧ Inv l.length s' := by
  have := iterW_foldE (β := Empty) (S := S) (round := round) (step := fun i s a => .ok (step i s a)) (out := fun b => nomatch b) (ex := ex) Inv l hex (fun b => nomatch b)
    (fun i hi s hI => ⟨fun s' e => by cases e; exact h1 i hi s hI, fun b => nomatch b⟩) h2 l 0 s rfl (Nat.zero_le _) hs
  cases hf : foldE (β := Empty) (fun i s a => .ok (step i s a)) 0 l s with
  | ok s' => rw [hf] at this; exact ⟨s', rfl, this.1, this.2 s' rfl⟩
  | error b => exact nomatch b
theorem foldE_foldl {α β σ : Type} (step : σ → α → σ) : ∀ (l : List α) (i : Nat) (s : σ), foldE (β := β) (fun _ s a => .ok (step s a)) i l s = .ok (l.foldl step s) := by
  intro l
  induction l with
  | nil => intro i s; rfl
  | cons a l ih => intro i s; exact ih (i + 1) (step s a)

/-! Rows. -/
theorem getRow_map {α : Type} (f : α → List V) {sz : Nat} (hf : ∀ x, (f x).length = sz) (l : List α) (i : Nat) (hi : i < l.length) : getRow (l.map f) (i : Int) sz = some (f l[i]) := by
  unfold getRow
  have h0 : (0 : Int) ≤ (i : Int) := Int.natCast_nonneg i
  rw [if_pos h0]
  simp [hi, hf]
theorem cond_dec {R : Type} {p : Prop} [Decidable p] (x y : R) : cond (decide p) x y = if p then x else y := by
  by_cases h : p <;> simp [h]
theorem cond_not {R : Type} (b : Bool) (x y : R) : cond (!b) x y = cond b y x := by cases b <;> rfl

/-- An interval. -/
structure Iv where
  lo : Int
  hi : Int
  deriving DecidableEq
def Iv.c (a : Iv) : List V := [.int .i64 a.lo, .int .i64 a.hi]
theorem Iv.c_len (a : Iv) : a.c.length = 2 := rfl
/-- A segment. -/
theorem asInt_i (n : Int) : asInt .i64 (.int .i64 n) = some n := rfl
theorem asBool_i (b : Bool) : asBool (.bool b) = some b := rfl
theorem asRows_i (fl : Fl) (r : List (List V)) : asRows (.slice fl r) = some r := rfl
theorem asCells_i (l : List V) : asCells (.agg l) = some l := rfl
theorem asTuple_i (l : List V) : asTuple (.tuple l) = some l := rfl
theorem asBox_i (l : List V) : asBox (.box l) = some l := rfl
theorem asObCells_i (l : List V) : asObCells (.cells l) = some l := rfl
theorem asLoop_i (l : LoopA) : asLoop (.loop l) = some l := rfl
theorem uncons_i (v : V) (l : List V) : uncons (v :: l) = some (v, l) := rfl
theorem unconsO_i (v : Ob) (l : List Ob) : unconsO (v :: l) = some (v, l) := rfl
theorem isNil_i : isNil [] = some () := rfl
theorem asPtr_i (i o : Nat) : asPtr i o (.ptr i o) = some () := by simp [asPtr]
theorem asFn_f (n : Nat) (a b : List V) : asFn (.func n) (.fn (.func n) a b) = some (a, b) := by simp [asFn, fnEq]
theorem asFn_y (n : Nat) (a b : List V) : asFn (.yield n) (.fn (.yield n) a b) = some (a, b) := by simp [asFn, fnEq]
theorem asArr_i (id len sz : Nat) : asArr id sz (.arr id len sz) = some len := by simp [asArr]
theorem asObArr_t (sz : Nat) (r : List (List V)) : asObArr true sz (.arr true sz r) = some r := by simp [asObArr]
theorem asObArr_f (sz : Nat) (r : List (List V)) : asObArr false sz (.arr false sz r) = some r := by simp [asObArr]
theorem isReady_i : isReady .ready = some () := rfl
theorem isBusy_i : isBusy .busy = some () := rfl
theorem uncons_c (a : Iv) : uncons a.c = some (.int .i64 a.lo, [.int .i64 a.hi]) := rfl
theorem arrRows_i (wr : Bool) (sz : Nat) (r : List (List V)) (h : List Ob) : arrRows (.arr wr sz r :: h) 0 r.length = some r := by simp [arrRows, hget]
theorem Iv.eta (a : Iv) : (⟨a.lo, a.hi⟩ : Iv) = a := rfl
theorem asInt_u (n : Int) : asInt .u8 (.int .u8 n) = some n := rfl
theorem asMapV_i (id : Nat) : asMapV id (.map id) = some () := by simp [asMapV]
theorem wsucc (i : Nat) (h : i ≤ 1000000000) : IntKind.wrap .i64 ((i : Int) + 1) = ((i + 1 : Nat) : Int) := by
  rw [w64 (by omega) (by omega)]; simp
theorem bind_via {A R : Type} {x y : Option A} (h : x = y) (k : A → Option R) : x.bind k = y.bind k := by rw [h]
/-- A loop over a list, by a fold from the left. -/
theorem iterW_foldl {α σ : Type} {round : St → Option (Ex × St)} (S : Nat → σ → St) (step : σ → α → σ) (Inv : σ → Prop) (l : List α) {id : Nat}
    (h1 : ∀ (i : Nat) (hi : i < l.length) (s : σ), Inv s → round (S i s) = some (.normal, S (i + 1) (step s l[i])) ∧ Inv (step s l[i]))
    (h2 : ∀ s, Inv s → round (S l.length s) = some (.exit id, S l.length s)) (s : σ) (hs : Inv s) :
    iterW round (S 0 s) = some (.exit id, S l.length (l.foldl step s)) ∧ Inv (l.foldl step s) := by
  obtain ⟨s', e1, e2, e3⟩ := iterW_list S (fun _ s a => step s a) (fun _ s => Inv s) l (ex := .exit id) (by simp) h1 h2 s hs
  rw [foldE_foldl] at e1
  cases e1
  exact ⟨e2, e3⟩
theorem iterW_foldlN {α σ : Type} {round : St → Option (Ex × St)} (S : Nat → σ → St) (step : σ → α → σ) (Inv : Nat → σ → Prop) (l : List α) {id : Nat}
    (h1 : ∀ (i : Nat) (hi : i < l.length) (s : σ), Inv i s → round (S i s) = some (.normal, S (i + 1) (step s l[i])) ∧ Inv (i + 1) (step s l[i]))
    (h2 : ∀ s, Inv l.length s → round (S l.length s) = some (.exit id, S l.length s)) (s : σ) (hs : Inv 0 s) :
    iterW round (S 0 s) = some (.exit id, S l.length (l.foldl step s)) ∧ Inv l.length (l.foldl step s) := by
  obtain ⟨s', e1, e2, e3⟩ := iterW_list S (fun _ s a => step s a) Inv l (ex := .exit id) (by simp) h1 h2 s hs
  rw [foldE_foldl] at e1
  cases e1
  exact ⟨e2, e3⟩
theorem lt_dec {i n : Nat} (h : i < n) : decide ((i : Int) < (n : Int)) = true := by simp [h]
theorem lt_decn {n : Nat} : decide ((n : Int) < (n : Int)) = false := by simp
theorem iterW_n {b : St → Option (Ex × St)} {s s' : St} (h : b s = some (.normal, s')) : iterW b s = iterW b s' := by rw [iterW_eq, h]
theorem iterW_x {b : St → Option (Ex × St)} {s s' : St} {id : Nat} (h : b s = some (.exit id, s')) : iterW b s = some (.exit id, s') := by rw [iterW_eq, h]
theorem iterW_r {b : St → Option (Ex × St)} {s s' : St} (h : b s = some (.ret, s')) : iterW b s = some (.ret, s') := by rw [iterW_eq, h]
/-- A loop that counts up to n, or leaves before. -/
theorem iterW_upto {round : St → Option (Ex × St)} (T : Nat → St) (n : Nat) (ok : Nat → Bool) (Q : St → Prop) {id : Nat}
    (h1 : ∀ i, i < n → (∀ j, j < i → ok j = true) → ok i = true → round (T i) = some (.normal, T (i + 1)))
    (h1' : ∀ i, i < n → (∀ j, j < i → ok j = true) → ok i = false → ∃ z, round (T i) = some (.ret, z) ∧ Q z)
    (h2 : (∀ j, j < n → ok j = true) → round (T n) = some (.exit id, T n)) :
    ((∀ i, i < n → ok i = true) ∧ iterW round (T 0) = some (.exit id, T n)) ∨ ((∃ i, i < n ∧ ok i = false) ∧ ∃ z, iterW round (T 0) = some (.ret, z) ∧ Q z) := by
  have key : ∀ k i, i + k = n → (∀ j, j < i → ok j = true) → ((∀ i, i < n → ok i = true) ∧ iterW round (T i) = some (.exit id, T n)) ∨ ((∃ i, i < n ∧ ok i = false) ∧ ∃ z, iterW round (T i) = some (.ret, z) ∧ Q z) := by
    intro k
    induction k with
    | zero =>
      intro i hi hj
      have : i = n := by omega
      subst this
      exact .inl ⟨hj, iterW_x (h2 hj)⟩
    | succ k ih =>
      intro i hi hj
      cases hb : ok i with
      | true =>
        have := ih (i + 1) (by omega) (fun j hj' => by
          by_cases h : j = i
          · rw [h]; exact hb
          · exact hj j (by omega))
        rw [iterW_n (h1 i (by omega) hj hb)]
        exact this
      | false =>
        obtain ⟨z, hz, hq⟩ := h1' i (by omega) hj hb
        exact .inr ⟨⟨i, by omega, hb⟩, z, iterW_r hz, hq⟩
  exact key n 0 (by omega) (fun j hj => by omega)
/-- A loop that counts up to n. -/
theorem iterW_all {round : St → Option (Ex × St)} (T : Nat → St) (n : Nat) {id : Nat} (h1 : ∀ i, i < n → round (T i) = some (.normal, T (i + 1))) (h2 : round (T n) = some (.exit id, T n)) : iterW round (T 0) = some (.exit id, T n) := by
  rcases iterW_upto T n (fun _ => true) (fun _ => True) (fun i hi _ _ => h1 i hi) (fun i _ _ h => by cases h) (fun _ => h2) with h | ⟨⟨i, _, h⟩, _⟩
  · exact h.2
  · cases h
theorem take_snoc {α : Type} {l : List α} {i : Nat} (h : i < l.length) : l.take (i + 1) = l.take i ++ [l[i]] := by
  rw [List.take_add_one, List.getElem?_eq_getElem h]; rfl
end Go.Ab
/- One step of a long chain of calls at a time: a call's result goes into what is behind it; conditions: none. -/
namespace Go.Ab
set_option linter.unusedVariables false
set_option linter.unusedSimpArgs false
variable {R : Type}
theorem eBool {x : Option V} {b : Bool} (h : x = some (.bool b)) (k : Bool → Option R) : (x.bind fun y => (asBool y).bind k) = k b := by subst h; rfl
theorem eInt {x : Option V} {n : Int} (h : x = some (.int .i64 n)) (k : Int → Option R) : (x.bind fun y => (asInt .i64 y).bind k) = k n := by subst h; rfl
theorem eIv {x : Option V} {a b : Int} (h : x = some (.agg [.int .i64 a, .int .i64 b])) (k : Int → Int → Option R) :
    (x.bind fun y => (asCells y).bind fun c => (uncons c).bind fun d => (asInt .i64 d.1).bind fun lo => (uncons d.2).bind fun e => (asInt .i64 e.1).bind fun hi => (isNil e.2).bind fun _ => k lo hi) = k a b := by subst h; rfl
theorem eTwo {x : Option V} {fl fm : Fl} {r s : List (List V)} (h : x = some (.tuple [.slice fl r, .slice fm s])) (k : List (List V) → List (List V) → Option R) :
    (x.bind fun y => (asTuple y).bind fun t => (uncons t).bind fun u => (asRows u.1).bind fun q => (uncons u.2).bind fun v => (asRows v.1).bind fun p => (isNil v.2).bind fun _ => k q p) = k r s := by subst h; rfl
theorem eSix {x : Option V} {a b c d e f : Int} (h : x = some (.agg [.int .i64 a, .int .i64 b, .int .i64 c, .int .i64 d, .int .i64 e, .int .i64 f])) (k : Int → Int → Int → Int → Int → Int → Option R) :
    (x.bind fun y => (asCells y).bind fun l => (uncons l).bind fun u => (asInt .i64 u.1).bind fun a => (uncons u.2).bind fun v => (asInt .i64 v.1).bind fun b => (uncons v.2).bind fun w => (asInt .i64 w.1).bind fun c => (uncons w.2).bind fun p => (asInt .i64 p.1).bind fun d => (uncons p.2).bind fun q => (asInt .i64 q.1).bind fun e => (uncons q.2).bind fun s => (asInt .i64 s.1).bind fun f => (isNil s.2).bind fun _ => k a b c d e f) = k a b c d e f := by subst h; rfl
theorem bSome {α : Type} {x : Option α} {a : α} (h : x = some a) (k : α → Option R) : x.bind k = k a := by subst h; rfl
theorem cNT (a b : R) : cond (!true) a b = b := rfl
theorem cNF (a b : R) : cond (!false) a b = a := rfl
theorem cT {c : Bool} (h : c = true) (a b : R) : cond c a b = a := by subst h; rfl
theorem cF {c : Bool} (h : c = false) (a b : R) : cond c a b = b := by subst h; rfl
end Go.Ab
/- Interval functions of the program and of the reference, typed; conditions: ranges where they are told. -/
namespace Go.Ab
set_option linter.unusedVariables false
set_option linter.unusedSimpArgs false
set_option linter.unusedSimpArgs false
set_option linter.unusedVariables false

def Iv.whole : Iv := ⟨-2147483648, 2147483648⟩
def Iv.isW (a : Iv) : Bool := a.lo == -2147483648 && a.hi == 2147483648
def number (x : Int) : Prop := -2147483648 < x ∧ x < 2147483648
instance (x : Int) : Decidable (number x) := inferInstanceAs (Decidable (_ ∧ _))
def Iv.new (lo hi : Int) : Iv := if number lo ∧ number hi then ⟨lo, hi⟩ else Iv.whole
def Iv.valid (a : Iv) : Prop := a.lo ≤ a.hi ∧ -2147483648 ≤ a.lo ∧ a.hi ≤ 2147483648 ∧ (a.isW = true ∨ (number a.lo ∧ number a.hi))
def Iv.neg (a : Iv) : Iv := ⟨-a.hi, -a.lo⟩
def Iv.add (a b : Iv) : Iv := if a.isW || b.isW then Iv.whole else Iv.new (a.lo + b.lo) (a.hi + b.hi)
def Iv.sub (a b : Iv) : Iv := a.add b.neg
def fl (n : Int) : Int := n / 65536
def ce (n : Int) : Int := -((-n) / 65536)
def Iv.near (a : Iv) : Int := max 0 (max a.lo (-a.hi))
def Iv.far (a : Iv) : Int := max a.hi (-a.lo)
def Iv.sq (a : Iv) : Iv := if a.isW then a else Iv.new (fl (a.near * a.near)) (ce (a.far * a.far))

theorem whole_valid : Iv.whole.valid := by simp [Iv.valid, Iv.whole, Iv.isW]
theorem new_valid {lo hi : Int} (h : lo ≤ hi) : (Iv.new lo hi).valid := by
  unfold Iv.new
  split
  · rename_i hn
    refine ⟨h, ?_, ?_, .inr hn⟩
    · exact Int.le_of_lt hn.1.1
    · exact Int.le_of_lt hn.2.2
  · exact whole_valid
theorem add_valid {a b : Iv} (ha : a.valid) (hb : b.valid) : (a.add b).valid := by
  unfold Iv.add
  split
  · exact whole_valid
  · exact new_valid (by have := ha.1; have := hb.1; omega)
theorem sqb {x : Int} (h0 : 0 ≤ x) (h : x ≤ 2147483648) : 0 ≤ x * x ∧ x * x ≤ 4611686018427387904 :=
  ⟨Int.mul_nonneg h0 h0, by have := Int.mul_le_mul h h h0 (by decide); simpa using this⟩
theorem near_b {a : Iv} (h : a.valid) : 0 ≤ a.near ∧ a.near ≤ 2147483648 ∧ a.near ≤ a.far ∧ a.far ≤ 2147483648 := by
  obtain ⟨h1, h2, h3, h4⟩ := h
  simp only [Iv.near, Iv.far]
  omega
theorem fl_ce {n m : Int} (h : n ≤ m) : fl n ≤ ce m := by unfold fl ce; omega
theorem sq_mono {x y : Int} (h0 : 0 ≤ x) (h : x ≤ y) : x * x ≤ y * y := Int.mul_le_mul h h h0 (by omega)
theorem sq_valid {a : Iv} (h : a.valid) : a.sq.valid := by
  unfold Iv.sq
  split
  · exact h
  · obtain ⟨b1, b2, b3, b4⟩ := near_b h
    exact new_valid (fl_ce (sq_mono b1 b3))

theorem td_floor (n : Int) : n.tdiv 65536 = if 0 ≤ n then n / 65536 else -((-n) / 65536) := by
  split
  · rename_i h; exact Int.tdiv_eq_ediv_of_nonneg h
  · rename_i h
    have : n = -(-n) := by omega
    rw [this, Int.neg_tdiv, Int.tdiv_eq_ediv_of_nonneg (by omega)]
    simp
theorem tm_floor (n : Int) : n.tmod 65536 = if 0 ≤ n then n % 65536 else -((-n) % 65536) := by
  split
  · rename_i h; exact Int.tmod_eq_emod_of_nonneg h
  · rename_i h
    have : n = -(-n) := by omega
    rw [this, Int.neg_tmod, Int.tmod_eq_emod_of_nonneg (by omega)]
    simp

theorem p71 : (CW GD LD).p (.func 71) [] = some (.agg Iv.whole.c) := CW_val (e71 _) rfl
theorem p51 : (CW GD LD).p (.func 51) [] = some (.agg Iv.whole.c) := CW_val (e51 _) rfl
theorem p72 (a b : Int) : (CW GD LD).p (.func 72) [.agg [.int .i64 a, .int .i64 b]] = some (.bool (Iv.isW ⟨a, b⟩)) := by
  refine CW_val (h := []) ?_ rfl
  simp only [e72, p71, asInt_i, asBool_i, asRows_i, asCells_i, asTuple_i, asBox_i, asObCells_i, asLoop_i, uncons_i, unconsO_i, isNil_i, asPtr_i, asFn_f, asFn_y, asArr_i, asObArr_t, asObArr_f, isReady_i, isBusy_i, uncons_c, asInt_u, asMapV_i, arrRows_i, Option.bind_some, Option.bind_none, cond_true, cond_false, cond_dec, cond_not, Bool.and_true]
  rfl
theorem p34 (a b : Int) : (CW GD LD).p (.func 34) [.agg [.int .i64 a, .int .i64 b]] = some (.bool (Iv.isW ⟨a, b⟩)) := by
  refine CW_val (h := []) ?_ rfl
  simp only [e34, Iv.isW]
  cases a == -2147483648 <;> rfl
theorem p46 (a : Int) : (CW GD LD).p (.func 46) [.int .i64 a] = some (.bool (decide (number a))) := by
  refine CW_val (h := []) ?_ rfl
  simp only [e46, asInt_i, asBool_i, asRows_i, asCells_i, asTuple_i, asBox_i, asObCells_i, asLoop_i, uncons_i, unconsO_i, isNil_i, asPtr_i, asFn_f, asFn_y, asArr_i, asObArr_t, asObArr_f, isReady_i, isBusy_i, uncons_c, asInt_u, asMapV_i, arrRows_i, Option.bind_some, Option.bind_none, cond_true, cond_false, cond_dec, cond_not, number]
  by_cases h : a > -2147483648
  · have h' : -2147483648 < a := h
    simp [h, h']
  · have h' : ¬ -2147483648 < a := h
    simp [h, h']
theorem p39 (a b : Int) : (CW GD LD).p (.func 39) [.int .i64 a, .int .i64 b] = some (.agg (Iv.new a b).c) := by
  refine CW_val (h := []) ?_ rfl
  simp only [e39, p46, p51, asInt_i, asBool_i, asRows_i, asCells_i, asTuple_i, asBox_i, asObCells_i, asLoop_i, uncons_i, unconsO_i, isNil_i, asPtr_i, asFn_f, asFn_y, asArr_i, asObArr_t, asObArr_f, isReady_i, isBusy_i, uncons_c, asInt_u, asMapV_i, arrRows_i, Option.bind_some, Option.bind_none, cond_true, cond_false, cond_dec, cond_not, Iv.new]
  by_cases h1 : number a <;> by_cases h2 : number b <;> simp [h1, h2, Iv.c]
/-- Without an order of the ends. -/
theorem p62' (a b : Int) : (CW GD LD).p (.func 62) [.int .i64 a, .int .i64 b] = some (.agg (Iv.new a b).c) := by
  refine CW_val (h := []) ?_ rfl
  simp only [e62, p71, asInt_i, asBool_i, asRows_i, asCells_i, asTuple_i, asBox_i, asObCells_i, asLoop_i, uncons_i, unconsO_i, isNil_i, asPtr_i, asFn_f, asFn_y, asArr_i, asObArr_t, asObArr_f, isReady_i, isBusy_i, uncons_c, asInt_u, asMapV_i, arrRows_i, Option.bind_some, Option.bind_none, cond_true, cond_false, cond_dec, cond_not, Iv.new]
  by_cases h1 : a ≤ -2147483648 <;> by_cases h2 : b ≥ 2147483648 <;> by_cases h3 : a ≥ 2147483648 <;> by_cases h4 : b ≤ -2147483648 <;> simp only [h1, h2, h3, h4, if_true, if_false] <;> first
    | (rw [if_neg (by simp only [number]; omega)]; rfl)
    | (rw [if_pos (by simp only [number]; omega)]; rfl)
theorem p66 (a b : Iv) (h : a.valid) (k : b.valid) : (CW GD LD).p (.func 66) [.agg [.int .i64 a.lo, .int .i64 a.hi], .agg [.int .i64 b.lo, .int .i64 b.hi]] = some (.agg (a.add b).c) := by
  obtain ⟨h1, h2, h3, h4⟩ := h
  obtain ⟨k1, k2, k3, k4⟩ := k
  refine CW_val (h := []) ?_ rfl
  simp only [e66, p72, p71, p62', asInt_i, asBool_i, asRows_i, asCells_i, asTuple_i, asBox_i, asObCells_i, asLoop_i, uncons_i, unconsO_i, isNil_i, asPtr_i, asFn_f, asFn_y, asArr_i, asObArr_t, asObArr_f, isReady_i, isBusy_i, uncons_c, asInt_u, asMapV_i, arrRows_i, Option.bind_some, Option.bind_none, cond_true, cond_false, cond_dec, cond_not, Iv.add]
  rw [w64 (by omega) (by omega), w64 (by omega) (by omega)]
  cases h5 : a.isW <;> cases h6 : b.isW <;> rfl
theorem p41 (a b : Iv) (h : a.valid) (k : b.valid) : (CW GD LD).p (.func 41) [.agg [.int .i64 a.lo, .int .i64 a.hi], .agg [.int .i64 b.lo, .int .i64 b.hi]] = some (.agg (a.add b).c) := by
  obtain ⟨h1, h2, h3, h4⟩ := h
  obtain ⟨k1, k2, k3, k4⟩ := k
  refine CW_val (h := []) ?_ rfl
  simp only [e41, p34, p51, p39, asInt_i, asBool_i, asRows_i, asCells_i, asTuple_i, asBox_i, asObCells_i, asLoop_i, uncons_i, unconsO_i, isNil_i, asPtr_i, asFn_f, asFn_y, asArr_i, asObArr_t, asObArr_f, isReady_i, isBusy_i, uncons_c, asInt_u, asMapV_i, arrRows_i, Option.bind_some, Option.bind_none, cond_true, cond_false, cond_dec, cond_not, Iv.add]
  rw [w64 (by omega) (by omega), w64 (by omega) (by omega)]
  cases h5 : a.isW <;> cases h6 : b.isW <;> rfl
theorem p85 (a : Int) : (CW GD LD).p (.func 85) [.int .i64 a] = some (.int .i64 (if 1 < a then 1 else a)) := CW_val (e85 _ _) rfl

def small (n : Int) : Prop := -4611686018427387904 ≤ n ∧ n ≤ 4611686018427387904
theorem p73 (n : Int) (h : small n) : (CW GD LD).p (.func 73) [.int .i64 n, .int .i64 65536] = some (.tuple [.int .i64 (fl n), .int .i64 (ce n)]) := by
  obtain ⟨h1, h2⟩ := h
  have q : (CW GD LD).p (.func 84) [.int .i64 n, .int .i64 65536, .fn (.func 85) [] []] = some (.tuple [.int .i64 (fl n), .int .i64 (ce n)]) := by
    refine CW_val (h := []) ?_ rfl
    have e0 : ((65536 : Int) == 0) = false := rfl
    simp only [p84, p85, e0, asInt_i, asBool_i, asRows_i, asCells_i, asTuple_i, asBox_i, asObCells_i, asLoop_i, uncons_i, unconsO_i, isNil_i, asPtr_i, asFn_f, asFn_y, asArr_i, asObArr_t, asObArr_f, isReady_i, isBusy_i, uncons_c, asInt_u, asMapV_i, arrRows_i, Option.bind_some, Option.bind_none, cond_true, cond_false, cond_dec, cond_not]
    have e1 := td_floor n
    have e2 := tm_floor n
    generalize n.tdiv 65536 = x at *
    generalize n.tmod 65536 = y at *
    by_cases hn : 0 ≤ n
    · rw [if_pos hn] at e1 e2
      have hy : ¬ y < 0 := by omega
      rw [if_neg hy]
      have hx : IntKind.wrap .i64 x = x := w64 (by omega) (by omega)
      rw [hx, w64 (by split <;> omega) (by split <;> omega)]
      have a1 : x = fl n := by unfold fl; omega
      have a2 : x + (if 1 < y then 1 else y) = ce n := by unfold ce; split <;> omega
      rw [a2, a1]
    · rw [if_neg hn] at e1 e2
      have hx : IntKind.wrap .i64 x = x := w64 (by omega) (by omega)
      rw [hx]
      by_cases hy : y < 0
      · rw [if_pos hy]
        have hx1 : IntKind.wrap .i64 (x - 1) = x - 1 := w64 (by omega) (by omega)
        have hy1 : IntKind.wrap .i64 (y + 65536) = y + 65536 := w64 (by omega) (by omega)
        rw [hx1, hy1, w64 (by split <;> omega) (by split <;> omega)]
        have a1 : x - 1 = fl n := by unfold fl; omega
        have a2 : x - 1 + (if 1 < y + 65536 then 1 else y + 65536) = ce n := by unfold ce; split <;> omega
        rw [a2, a1]
      · rw [if_neg hy]
        rw [w64 (by split <;> omega) (by split <;> omega)]
        have a1 : x = fl n := by unfold fl; omega
        have a2 : x + (if 1 < y then 1 else y) = ce n := by unfold ce; split <;> omega
        rw [a2, a1]
  refine CW_val (h := []) ?_ rfl
  have e0 : decide ((65536 : Int) < 0) = false := rfl
  simp only [e73, q, e0, asInt_i, asBool_i, asRows_i, asCells_i, asTuple_i, asBox_i, asObCells_i, asLoop_i, uncons_i, unconsO_i, isNil_i, asPtr_i, asFn_f, asFn_y, asArr_i, asObArr_t, asObArr_f, isReady_i, isBusy_i, uncons_c, asInt_u, asMapV_i, arrRows_i, Option.bind_some, Option.bind_none, cond_true, cond_false, cond_dec, cond_not]
theorem p55 (a b : Int) (h : small (a * b)) : (CW GD LD).p (.func 55) [.int .i64 a, .int .i64 b] = some (.tuple [.int .i64 (fl (a * b)), .int .i64 (ce (a * b))]) := by
  refine CW_val (h := []) ?_ rfl
  simp only [e55]
  rw [w64 (by have := h.1; omega) (by have := h.2; omega), p73 _ h]
  simp only [asInt_i, asBool_i, asRows_i, asCells_i, asTuple_i, asBox_i, asObCells_i, asLoop_i, uncons_i, unconsO_i, isNil_i, asPtr_i, asFn_f, asFn_y, asArr_i, asObArr_t, asObArr_f, isReady_i, isBusy_i, uncons_c, asInt_u, asMapV_i, arrRows_i, Option.bind_some, Option.bind_none, cond_true, cond_false, cond_dec, cond_not]
theorem floor_ok (n : Int) (h : small n) : IntKind.wrap .i64 (n.tdiv 65536) = n.tdiv 65536 ∧ IntKind.wrap .i64 (n.tdiv 65536 - 1) = n.tdiv 65536 - 1 ∧ IntKind.wrap .i64 (n.tdiv 65536 + 1) = n.tdiv 65536 + 1 ∧
    (n.tmod 65536 = 0 → n.tdiv 65536 = fl n ∧ n.tdiv 65536 = ce n) ∧ (n.tmod 65536 ≠ 0 → (n < 0 → n.tdiv 65536 - 1 = fl n ∧ n.tdiv 65536 = ce n) ∧ (¬ n < 0 → n.tdiv 65536 = fl n ∧ n.tdiv 65536 + 1 = ce n)) := by
  obtain ⟨h1, h2⟩ := h
  have e1 := td_floor n
  have e2 := tm_floor n
  refine ⟨w64 (by rw [e1]; split <;> omega) (by rw [e1]; split <;> omega), w64 (by rw [e1]; split <;> omega) (by rw [e1]; split <;> omega), w64 (by rw [e1]; split <;> omega) (by rw [e1]; split <;> omega), fun hm => ?_, fun hm => ⟨fun hn => ?_, fun hn => ?_⟩⟩
  · unfold fl ce
    split at e1 <;> rename_i h0
    · rw [if_pos h0] at e2; omega
    · rw [if_neg h0] at e2; omega
  · unfold fl ce
    rw [if_neg (by omega)] at e1 e2
    omega
  · unfold fl ce
    rw [if_pos (by omega)] at e1 e2
    omega
theorem p59 (n : Int) (h : small n) : (CW GD LD).p (.func 59) [.int .i64 n, .int .i64 65536] = some (.int .i64 (fl n)) := by
  refine CW_val (h := []) ?_ rfl
  have e0 : ((65536 : Int) == 0) = false := rfl
  have e3 : decide ((65536 : Int) < 0) = false := rfl
  obtain ⟨w1, w2, w3, f1, f2⟩ := floor_ok n h
  simp only [e59, e0, e3, asInt_i, asBool_i, asRows_i, asCells_i, asTuple_i, asBox_i, asObCells_i, asLoop_i, uncons_i, unconsO_i, isNil_i, asPtr_i, asFn_f, asFn_y, asArr_i, asObArr_t, asObArr_f, isReady_i, isBusy_i, uncons_c, asInt_u, asMapV_i, arrRows_i, Option.bind_some, Option.bind_none, cond_true, cond_false, cond_dec, cond_not, w1, w2]
  by_cases hm : n.tmod 65536 = 0
  · simp [hm, (f1 hm).1]
  · have hb : (n.tmod 65536 != 0) = true := by simpa using hm
    simp only [hb, cond_true]
    by_cases hn : n < 0
    · simp [hn, ((f2 hm).1 hn).1]
    · simp [hn, ((f2 hm).2 hn).1]
theorem small_neg {n : Int} (h : small n) : small (-n) := ⟨by have := h.2; omega, by have := h.1; omega⟩
theorem p81 (n : Int) (h : small n) : (CW GD LD).p (.func 81) [.int .i64 n, .int .i64 65536] = some (.int .i64 (ce n)) := by
  have h1 := h.1
  have h2 := h.2
  refine CW_val (h := []) ?_ rfl
  simp only [e81]
  rw [w64 (by omega) (by omega), show 0 - n = -n by omega, p59 _ (small_neg h)]
  simp only [asInt_i, asBool_i, asRows_i, asCells_i, asTuple_i, asBox_i, asObCells_i, asLoop_i, uncons_i, unconsO_i, isNil_i, asPtr_i, asFn_f, asFn_y, asArr_i, asObArr_t, asObArr_f, isReady_i, isBusy_i, uncons_c, asInt_u, asMapV_i, arrRows_i, Option.bind_some, Option.bind_none, cond_true, cond_false, cond_dec, cond_not]
  rw [w64 (by unfold fl; omega) (by unfold fl; omega)]
  simp [ce, fl]
/-! Squares; squared distances. -/
theorem p91 (a : Iv) (h : a.valid) : (CW GD LD).p (.func 91) [.agg [.int .i64 a.lo, .int .i64 a.hi]] = some (.int .i64 a.far) := by
  obtain ⟨h1, h2, h3, h4⟩ := h
  refine CW_val (h := []) ?_ rfl
  simp only [e91]
  rw [w64 (by omega) (by omega)]
  have : (if 0 - a.lo > a.hi then 0 - a.lo else a.hi) = a.far := by unfold Iv.far; split <;> omega
  rw [this]
theorem small_sq {x : Int} (h0 : 0 ≤ x) (h : x ≤ 2147483648) : small (x * x) := by
  obtain ⟨a, b⟩ := sqb h0 h
  exact ⟨by omega, b⟩
theorem p79 (a : Iv) (h : a.valid) : (CW GD LD).p (.func 79) [.agg [.int .i64 a.lo, .int .i64 a.hi]] = some (.agg a.sq.c) := by
  have hv := h
  obtain ⟨h1, h2, h3, h4⟩ := h
  obtain ⟨b1, b2, b3, b4⟩ := near_b hv
  refine CW_val (h := []) ?_ rfl
  simp only [e79, p72, asInt_i, asBool_i, asRows_i, asCells_i, asTuple_i, asBox_i, asObCells_i, asLoop_i, uncons_i, unconsO_i, isNil_i, asPtr_i, asFn_f, asFn_y, asArr_i, asObArr_t, asObArr_f, isReady_i, isBusy_i, uncons_c, asInt_u, asMapV_i, arrRows_i, Option.bind_some, Option.bind_none, cond_true, cond_false, cond_dec, cond_not, Iv.eta]
  rw [w64 (by omega) (by omega)]
  have e : (if 0 > (if 0 - a.hi > a.lo then 0 - a.hi else a.lo) then 0 else (if 0 - a.hi > a.lo then 0 - a.hi else a.lo)) = a.near := by unfold Iv.near; split <;> split <;> omega
  rw [e, p91 a hv, p55 _ _ (small_sq b1 b2)]
  simp only [asInt_i, asBool_i, asRows_i, asCells_i, asTuple_i, asBox_i, asObCells_i, asLoop_i, uncons_i, unconsO_i, isNil_i, asPtr_i, asFn_f, asFn_y, asArr_i, asObArr_t, asObArr_f, isReady_i, isBusy_i, uncons_c, asInt_u, asMapV_i, arrRows_i, Option.bind_some, Option.bind_none, cond_true, cond_false, cond_dec, cond_not]
  rw [p55 _ _ (small_sq (by omega) b4)]
  simp only [asInt_i, asBool_i, asRows_i, asCells_i, asTuple_i, asBox_i, asObCells_i, asLoop_i, uncons_i, unconsO_i, isNil_i, asPtr_i, asFn_f, asFn_y, asArr_i, asObArr_t, asObArr_f, isReady_i, isBusy_i, uncons_c, asInt_u, asMapV_i, arrRows_i, Option.bind_some, Option.bind_none, cond_true, cond_false, cond_dec, cond_not, p62', Iv.sq]
  cases a.isW <;> rfl
theorem sq2 {a : Iv} (h : a.valid) : (if a.lo ≤ 0 ∧ a.hi ≥ 0 then 0 else (if a.hi * a.hi < a.lo * a.lo then a.hi * a.hi else a.lo * a.lo)) = a.near * a.near ∧ (if a.hi * a.hi > a.lo * a.lo then a.hi * a.hi else a.lo * a.lo) = a.far * a.far := by
  obtain ⟨h1, h2, h3, h4⟩ := h
  have e1 : (-a.hi) * (-a.hi) = a.hi * a.hi := by rw [Int.neg_mul_neg]
  have e2 : (-a.lo) * (-a.lo) = a.lo * a.lo := by rw [Int.neg_mul_neg]
  by_cases p0 : 0 ≤ a.lo
  · have q : a.lo * a.lo ≤ a.hi * a.hi := sq_mono p0 h1
    have hn : a.near = a.lo := by unfold Iv.near; omega
    have hf : a.far = a.hi := by unfold Iv.far; omega
    rw [hn, hf]
    refine ⟨?_, by split <;> omega⟩
    split
    · rename_i h; have : a.lo = 0 := by omega
      rw [this]; rfl
    · rw [if_neg (by omega)]
  · by_cases p1 : a.hi ≤ 0
    · have q : (-a.hi) * (-a.hi) ≤ (-a.lo) * (-a.lo) := sq_mono (by omega) (by omega)
      have hn : a.near = -a.hi := by unfold Iv.near; omega
      have hf : a.far = -a.lo := by unfold Iv.far; omega
      rw [hn, hf]
      rw [e1, e2] at *
      refine ⟨?_, by rw [if_neg (by omega)]⟩
      split
      · rename_i h; have : a.hi = 0 := by omega
        rw [this]; rfl
      · split <;> omega
    · have hn : a.near = 0 := by unfold Iv.near; omega
      rw [hn, if_pos (by omega)]
      refine ⟨rfl, ?_⟩
      by_cases p2 : -a.lo ≤ a.hi
      · have q : (-a.lo) * (-a.lo) ≤ a.hi * a.hi := sq_mono (by omega) p2
        have hf : a.far = a.hi := by unfold Iv.far; omega
        rw [hf]; split <;> omega
      · have q : a.hi * a.hi ≤ (-a.lo) * (-a.lo) := sq_mono (by omega) (by omega)
        have hf : a.far = -a.lo := by unfold Iv.far; omega
        rw [hf]; split <;> omega
theorem p82 (a : Iv) (h : a.valid) : (CW GD LD).p (.func 82) [.agg [.int .i64 a.lo, .int .i64 a.hi]] = some (.agg a.sq.c) := by
  have hv := h
  obtain ⟨h1, h2, h3, h4⟩ := h
  obtain ⟨b1, b2, b3, b4⟩ := near_b hv
  obtain ⟨s1, s2⟩ := sq2 hv
  have bl : a.lo * a.lo ≤ 4611686018427387904 ∧ 0 ≤ a.lo * a.lo := by
    by_cases p0 : 0 ≤ a.lo
    · have := sqb p0 (by omega); omega
    · have := sqb (x := -a.lo) (by omega) (by omega); rw [Int.neg_mul_neg] at this; omega
  have bh : a.hi * a.hi ≤ 4611686018427387904 ∧ 0 ≤ a.hi * a.hi := by
    by_cases p0 : 0 ≤ a.hi
    · have := sqb p0 (by omega); omega
    · have := sqb (x := -a.hi) (by omega) (by omega); rw [Int.neg_mul_neg] at this; omega
  refine CW_val (h := []) ?_ rfl
  simp only [e82, p34, p51, asInt_i, asBool_i, asRows_i, asCells_i, asTuple_i, asBox_i, asObCells_i, asLoop_i, uncons_i, unconsO_i, isNil_i, asPtr_i, asFn_f, asFn_y, asArr_i, asObArr_t, asObArr_f, isReady_i, isBusy_i, uncons_c, asInt_u, asMapV_i, arrRows_i, Option.bind_some, Option.bind_none, cond_true, cond_false, cond_dec, cond_not, Iv.eta]
  rw [w64 (x := a.hi * a.hi) (by omega) (by omega), w64 (x := a.lo * a.lo) (by omega) (by omega)]
  rw [s2, p81 _ (small_sq (by omega) b4)]
  have z : (CW GD LD).p (.func 59) [.int .i64 0, .int .i64 65536] = some (.int .i64 (fl 0)) := p59 0 ⟨by decide, by decide⟩
  have sn := small_sq b1 b2
  unfold Iv.sq
  cases hw : a.isW with
  | true =>
    simp only [Iv.isW, Bool.and_eq_true, beq_iff_eq] at hw
    simp only [cond_true, asInt_i, asBool_i, asRows_i, asCells_i, asTuple_i, asBox_i, asObCells_i, asLoop_i, uncons_i, unconsO_i, isNil_i, asPtr_i, asFn_f, asFn_y, asArr_i, asObArr_t, asObArr_f, isReady_i, isBusy_i, uncons_c, asInt_u, asMapV_i, arrRows_i, Option.bind_some, Option.bind_none, cond_true, cond_false, cond_dec, cond_not, if_true]
    obtain ⟨lo, hi⟩ := a
    simp only at hw
    rw [hw.1, hw.2]; rfl
  | false =>
    simp only [cond_false, Bool.false_eq_true, if_false]
    by_cases c1 : a.lo ≤ 0
    · simp only [c1, if_true]
      by_cases c2 : a.hi ≥ 0
      · rw [if_pos ⟨c1, c2⟩] at s1
        simp only [c2, if_true, z, asInt_i, asBool_i, asRows_i, asCells_i, asTuple_i, asBox_i, asObCells_i, asLoop_i, uncons_i, unconsO_i, isNil_i, asPtr_i, asFn_f, asFn_y, asArr_i, asObArr_t, asObArr_f, isReady_i, isBusy_i, uncons_c, asInt_u, asMapV_i, arrRows_i, Option.bind_some, Option.bind_none, cond_true, cond_false, cond_dec, cond_not, p39]
        rw [← s1]; rfl
      · rw [if_neg (fun h => c2 h.2)] at s1
        simp only [c2, if_false]
        rw [s1, p59 _ sn]
        simp only [asInt_i, asBool_i, asRows_i, asCells_i, asTuple_i, asBox_i, asObCells_i, asLoop_i, uncons_i, unconsO_i, isNil_i, asPtr_i, asFn_f, asFn_y, asArr_i, asObArr_t, asObArr_f, isReady_i, isBusy_i, uncons_c, asInt_u, asMapV_i, arrRows_i, Option.bind_some, Option.bind_none, cond_true, cond_false, cond_dec, cond_not, p39]; rfl
    · rw [if_neg (fun h => c1 h.1)] at s1
      simp only [c1, if_false]
      rw [s1, p59 _ sn]
      simp only [asInt_i, asBool_i, asRows_i, asCells_i, asTuple_i, asBox_i, asObCells_i, asLoop_i, uncons_i, unconsO_i, isNil_i, asPtr_i, asFn_f, asFn_y, asArr_i, asObArr_t, asObArr_f, isReady_i, isBusy_i, uncons_c, asInt_u, asMapV_i, arrRows_i, Option.bind_some, Option.bind_none, cond_true, cond_false, cond_dec, cond_not, p39]; rfl

/-! Products. -/
def min4 (a b c d : Int) : Int := min (min a b) (min c d)
def max4 (a b c d : Int) : Int := max (max a b) (max c d)
def Iv.mul (a b : Iv) : Iv := if a.isW || b.isW then Iv.whole else Iv.new (fl (min4 (a.lo * b.lo) (a.lo * b.hi) (a.hi * b.lo) (a.hi * b.hi))) (ce (max4 (a.lo * b.lo) (a.lo * b.hi) (a.hi * b.lo) (a.hi * b.hi)))
theorem mul_valid (a b : Iv) : (a.mul b).valid := by
  unfold Iv.mul
  split
  · exact whole_valid
  · exact new_valid (fl_ce (by unfold min4 max4; omega))
theorem nums_of {a : Iv} (h : a.valid) (hw : a.isW = false) : number a.lo ∧ number a.hi := by
  rcases h.2.2.2 with h' | h'
  · rw [hw] at h'; cases h'
  · exact h'
theorem small_mul {x y : Int} (hx : number x) (hy : number y) : small (x * y) := by
  obtain ⟨h1, h2⟩ := hx
  obtain ⟨h3, h4⟩ := hy
  have key : ∀ u v : Int, 0 ≤ u → u ≤ 2147483648 → 0 ≤ v → v ≤ 2147483648 → u * v ≤ 4611686018427387904 ∧ 0 ≤ u * v := fun u v a b c d =>
    ⟨by have := Int.mul_le_mul b d c (by omega); simpa using this, Int.mul_nonneg a c⟩
  by_cases hx : 0 ≤ x <;> by_cases hy : 0 ≤ y
  · have := key x y hx (by omega) hy (by omega); exact ⟨by omega, by omega⟩
  · have := key x (-y) hx (by omega) (by omega) (by omega)
    rw [Int.mul_neg] at this; exact ⟨by omega, by omega⟩
  · have := key (-x) y (by omega) (by omega) hy (by omega)
    rw [Int.neg_mul] at this; exact ⟨by omega, by omega⟩
  · have := key (-x) (-y) (by omega) (by omega) (by omega) (by omega)
    rw [Int.neg_mul_neg] at this; exact ⟨by omega, by omega⟩
theorem mul_ord {x y : Int} (h : x ≤ y) (z : Int) : (0 ≤ z → x * z ≤ y * z) ∧ (z ≤ 0 → y * z ≤ x * z) :=
  ⟨fun hz => Int.mul_le_mul_of_nonneg_right h hz, fun hz => Int.mul_le_mul_of_nonpos_right h hz⟩
theorem mul_ord' {x y : Int} (h : x ≤ y) (z : Int) : (0 ≤ z → z * x ≤ z * y) ∧ (z ≤ 0 → z * y ≤ z * x) := by
  have := mul_ord h z
  rw [Int.mul_comm x z, Int.mul_comm y z] at this
  exact this
def side (a : Iv) : Int := if a.hi ≤ 0 then 0 else if a.lo ≥ 0 then 2 else 1
theorem p80 (a : Iv) : (CW GD LD).p (.func 80) [.agg [.int .i64 a.lo, .int .i64 a.hi]] = some (.int .i64 (side a)) := by
  refine CW_val (h := []) ?_ rfl
  simp only [e80, side, asInt_i, asBool_i, asRows_i, asCells_i, asTuple_i, asBox_i, asObCells_i, asLoop_i, uncons_i, unconsO_i, isNil_i, asPtr_i, asFn_f, asFn_y, asArr_i, asObArr_t, asObArr_f, isReady_i, isBusy_i, uncons_c, asInt_u, asMapV_i, arrRows_i, Option.bind_some, Option.bind_none, cond_true, cond_false, cond_dec, cond_not]
  by_cases h1 : a.hi ≤ 0
  · simp only [h1, if_true]
  · by_cases h2 : a.lo ≥ 0
    · simp only [h1, h2, if_true, if_false]
    · simp only [h1, h2, if_false]
theorem p126 (a b c d : Int) : (CW GD LD).p (.func 126) [.agg [.int .i64 a, .int .i64 b], .agg [.int .i64 c, .int .i64 d]] = some (.tuple [.int .i64 b, .int .i64 d]) := CW_val (e126 _ _ _ _ _) rfl
theorem p127 (a b c d : Int) : (CW GD LD).p (.func 127) [.agg [.int .i64 a, .int .i64 b], .agg [.int .i64 c, .int .i64 d]] = some (.tuple [.int .i64 a, .int .i64 c]) := CW_val (e127 _ _ _ _ _) rfl
theorem p128 (a b c d : Int) : (CW GD LD).p (.func 128) [.agg [.int .i64 a, .int .i64 b], .agg [.int .i64 c, .int .i64 d]] = some (.tuple [.int .i64 a, .int .i64 d]) := CW_val (e128 _ _ _ _ _) rfl
theorem p129 (a b c d : Int) : (CW GD LD).p (.func 129) [.agg [.int .i64 a, .int .i64 b], .agg [.int .i64 c, .int .i64 d]] = some (.tuple [.int .i64 b, .int .i64 c]) := CW_val (e129 _ _ _ _ _) rfl
theorem fl_mono {n m : Int} (h : n ≤ m) : fl n ≤ fl m := by unfold fl; omega
theorem ce_mono {n m : Int} (h : n ≤ m) : ce n ≤ ce m := by unfold ce; omega
theorem fl_min (a b : Int) : (if fl b < fl a then fl b else fl a) = fl (min a b) := by
  have h1 := @fl_mono a b
  have h2 := @fl_mono b a
  by_cases h : a ≤ b
  · rw [Int.min_eq_left h, if_neg (by have := h1 h; omega)]
  · rw [Int.min_eq_right (by omega)]
    have := h2 (by omega)
    split <;> omega
theorem ce_max (a b : Int) : (if ce b > ce a then ce b else ce a) = ce (max a b) := by
  have h1 := @ce_mono a b
  have h2 := @ce_mono b a
  by_cases h : a ≤ b
  · rw [Int.max_eq_right h]
    have := h1 h
    split <;> omega
  · rw [Int.max_eq_left (by omega), if_neg (by have := h2 (by omega); omega)]
theorem p65 (a b : Iv) (h : a.valid) (k : b.valid) : (CW GD LD).p (.func 65) [.agg [.int .i64 a.lo, .int .i64 a.hi], .agg [.int .i64 b.lo, .int .i64 b.hi]] = some (.agg (a.mul b).c) := by
  refine CW_val (h := []) ?_ rfl
  simp only [e65, p72, p71, asInt_i, asBool_i, asRows_i, asCells_i, asTuple_i, asBox_i, asObCells_i, asLoop_i, uncons_i, unconsO_i, isNil_i, asPtr_i, asFn_f, asFn_y, asArr_i, asObArr_t, asObArr_f, isReady_i, isBusy_i, uncons_c, asInt_u, asMapV_i, arrRows_i, Option.bind_some, Option.bind_none, cond_true, cond_false, cond_dec, cond_not]
  by_cases hw : a.isW = true
  · simp only [hw, Iv.eta, if_true, Iv.mul, Bool.true_or]; rfl
  by_cases kw : b.isW = true
  · simp only [hw, kw, Iv.eta, if_true, Iv.mul, Bool.or_true]; rfl
  have hw' : a.isW = false := by simpa using hw
  have kw' : b.isW = false := by simpa using kw
  obtain ⟨hn1, hn2⟩ := nums_of h hw'
  obtain ⟨kn1, kn2⟩ := nums_of k kw'
  have s11 := small_mul hn1 kn1
  have s12 := small_mul hn1 kn2
  have s21 := small_mul hn2 kn1
  have s22 := small_mul hn2 kn2
  have o1 := mul_ord h.1 b.lo
  have o2 := mul_ord h.1 b.hi
  have o3 := mul_ord' k.1 a.lo
  have o4 := mul_ord' k.1 a.hi
  have h1 := h.1
  have k1 := k.1
  simp only [hw', kw', Iv.eta, p80, Iv.mul, Bool.or_false, Bool.false_eq_true, if_false, asInt_i, asBool_i, asRows_i, asCells_i, asTuple_i, asBox_i, asObCells_i, asLoop_i, uncons_i, unconsO_i, isNil_i, asPtr_i, asFn_f, asFn_y, asArr_i, asObArr_t, asObArr_f, isReady_i, isBusy_i, uncons_c, asInt_u, asMapV_i, arrRows_i, Option.bind_some, Option.bind_none, cond_true, cond_false, cond_dec, cond_not]
  have fin : ∀ x y, min4 (a.lo * b.lo) (a.lo * b.hi) (a.hi * b.lo) (a.hi * b.hi) = x → max4 (a.lo * b.lo) (a.lo * b.hi) (a.hi * b.lo) (a.hi * b.hi) = y →
      some (V.agg [.int .i64 (Iv.new (fl x) (ce y)).lo, .int .i64 (Iv.new (fl x) (ce y)).hi], ([] : List Ob)) = some (V.agg (Iv.new (fl (min4 (a.lo * b.lo) (a.lo * b.hi) (a.hi * b.lo) (a.hi * b.hi))) (ce (max4 (a.lo * b.lo) (a.lo * b.hi) (a.hi * b.lo) (a.hi * b.hi)))).c, []) := fun x y hx hy => by rw [hx, hy]; rfl
  unfold side
  by_cases a1 : a.hi ≤ 0 <;> by_cases a2 : a.lo ≥ 0 <;> by_cases b1 : b.hi ≤ 0 <;> by_cases b2 : b.lo ≥ 0 <;>
    simp only [a1, a2, b1, b2, if_true, if_false, show ((0 : Int) == 1) = false from rfl, show ((2 : Int) == 1) = false from rfl, show ((1 : Int) == 1) = true from rfl, show decide ((0 : Int) = 0) = true from rfl, show decide ((2 : Int) = 0) = false from rfl, show decide ((2 : Int) = 1) = false from rfl, show decide ((2 : Int) = 2) = true from rfl, show decide ((1 : Int) = 0) = false from rfl, show decide ((1 : Int) = 1) = true from rfl, asInt_i, asBool_i, asRows_i, asCells_i, asTuple_i, asBox_i, asObCells_i, asLoop_i, uncons_i, unconsO_i, isNil_i, asPtr_i, asFn_f, asFn_y, asArr_i, asObArr_t, asObArr_f, isReady_i, isBusy_i, uncons_c, asInt_u, asMapV_i, arrRows_i, Option.bind_some, Option.bind_none, cond_true, cond_false, cond_dec, cond_not, p126, p127, p128, p129, p55 _ _ s11, p55 _ _ s12, p55 _ _ s21, p55 _ _ s22, p62', fl_min, ce_max] <;>
    (refine fin _ _ ?_ ?_ <;> first | (unfold min4; omega) | (unfold max4; omega))
theorem p64 (a : Int) : (CW GD LD).p (.func 64) [.int .i64 a] = some (.agg (Iv.new a a).c) := by
  refine CW_val (h := []) ?_ rfl
  simp only [e64, p62', asInt_i, asBool_i, asRows_i, asCells_i, asTuple_i, asBox_i, asObCells_i, asLoop_i, uncons_i, unconsO_i, isNil_i, asPtr_i, asFn_f, asFn_y, asArr_i, asObArr_t, asObArr_f, isReady_i, isBusy_i, uncons_c, asInt_u, asMapV_i, arrRows_i, Option.bind_some, Option.bind_none, cond_true, cond_false, cond_dec, cond_not]
  rfl
theorem p67 (a : Int) : (CW GD LD).p (.func 67) [.int .i64 a] = some (.agg (Iv.new a a).c) := by
  refine CW_val (h := []) ?_ rfl
  simp only [e67, p39, asInt_i, asBool_i, asRows_i, asCells_i, asTuple_i, asBox_i, asObCells_i, asLoop_i, uncons_i, unconsO_i, isNil_i, asPtr_i, asFn_f, asFn_y, asArr_i, asObArr_t, asObArr_f, isReady_i, isBusy_i, uncons_c, asInt_u, asMapV_i, arrRows_i, Option.bind_some, Option.bind_none, cond_true, cond_false, cond_dec, cond_not]
  rfl
theorem p22 (a b c d : Int) : (CW GD LD).p (.func 22) [.agg [.int .i64 a, .int .i64 b], .agg [.int .i64 c, .int .i64 d]] = some (.bool (decide ((⟨a, b⟩ : Iv) = ⟨c, d⟩))) := by
  refine CW_val (h := []) ?_ rfl
  simp only [e22, Iv.mk.injEq]
  by_cases h1 : a = c
  · by_cases h2 : b = d <;> simp [h1, h2]
  · have e1 : (a == c) = false := by simpa using h1
    simp [h1, e1]
theorem p50 (a : Iv) : (CW GD LD).p (.func 50) [.agg [.int .i64 a.lo, .int .i64 a.hi]] = some (.bool (a.isW || decide (number a.lo ∧ number a.hi ∧ a.lo ≤ a.hi))) := by
  refine CW_val (h := []) ?_ rfl
  simp only [e50, p34, p46, Iv.eta, asInt_i, asBool_i, asRows_i, asCells_i, asTuple_i, asBox_i, asObCells_i, asLoop_i, uncons_i, unconsO_i, isNil_i, asPtr_i, asFn_f, asFn_y, asArr_i, asObArr_t, asObArr_f, isReady_i, isBusy_i, uncons_c, asInt_u, asMapV_i, arrRows_i, Option.bind_some, Option.bind_none, cond_true, cond_false, cond_dec, cond_not]
  cases hw : a.isW
  · by_cases h1 : number a.lo <;> by_cases h2 : number a.hi <;> by_cases h3 : a.lo ≤ a.hi <;> simp [h1, h2, h3]
  · rfl
/-- Any two numbers made to a valid interval: what comes is valid. -/
theorem p38 (a b : Int) : ∃ v : Iv, v.valid ∧ number v.lo ∧ number v.hi ∧ -16777216 < v.lo ∧ v.hi < 16777216 ∧ (CW GD LD).p (.func 38) [.agg [.int .i64 a, .int .i64 b]] = some (.agg v.c) := by
  have h1 := Int.tmod_lt_of_pos a (show (0 : Int) < 16777216 by decide)
  have h2 := Int.tmod_lt_of_pos b (show (0 : Int) < 16777216 by decide)
  have h3 : -16777216 < a.tmod 16777216 := Int.lt_tmod_of_pos a (by decide)
  have h4 : -16777216 < b.tmod 16777216 := Int.lt_tmod_of_pos b (by decide)
  refine ⟨⟨if b.tmod 16777216 < a.tmod 16777216 then b.tmod 16777216 else a.tmod 16777216, if b.tmod 16777216 > a.tmod 16777216 then b.tmod 16777216 else a.tmod 16777216⟩, ?_, ?_, ?_, ?_, ?_, CW_val (h := []) (e38 _ _ _) rfl⟩
  · refine ⟨?_, ?_, ?_, .inr ⟨?_, ?_⟩⟩ <;> simp only [number] <;> (repeat' split) <;> omega
  · simp only [number]; split <;> omega
  · simp only [number]; split <;> omega
  · simp only; split <;> omega
  · simp only; split <;> omega
theorem p12 (a b : Int) : ∃ v : Iv, v.valid ∧ (CW GD LD).p (.func 12) [.agg [.int .i64 a, .int .i64 b]] = some (.agg v.c) := by
  by_cases hv : (Iv.isW ⟨a, b⟩ || decide (number a ∧ number b ∧ a ≤ b)) = true
  · refine ⟨⟨a, b⟩, ?_, ?_⟩
    · rw [Bool.or_eq_true] at hv
      rcases hv with h | h
      · have h' := h
        simp only [Iv.isW, Bool.and_eq_true, beq_iff_eq] at h'
        exact ⟨by simp only; omega, by simp only; omega, by simp only; omega, .inl h⟩
      · have h' := of_decide_eq_true h
        have g := h'
        simp only [number] at g
        exact ⟨h'.2.2, by simp only; omega, by simp only; omega, .inr ⟨h'.1, h'.2.1⟩⟩
    · refine CW_val (h := []) ?_ rfl
      have := p50 ⟨a, b⟩
      simp only at this
      simp only [e12, this, hv, asInt_i, asBool_i, asRows_i, asCells_i, asTuple_i, asBox_i, asObCells_i, asLoop_i, uncons_i, unconsO_i, isNil_i, asPtr_i, asFn_f, asFn_y, asArr_i, asObArr_t, asObArr_f, isReady_i, isBusy_i, uncons_c, asInt_u, asMapV_i, arrRows_i, Option.bind_some, Option.bind_none, cond_true, cond_false, cond_dec, cond_not, if_true]
      rfl
  · have hv' : (Iv.isW ⟨a, b⟩ || decide (number a ∧ number b ∧ a ≤ b)) = false := by simpa using hv
    have := p50 ⟨a, b⟩
    simp only at this
    obtain ⟨v, h1, _, _, _, _, h2⟩ := p38 a b
    by_cases hc : ((Go.IntKind.wrap .i64 (((BitVec.ofInt (Go.IntKind.bits .i64) a &&& BitVec.ofInt (Go.IntKind.bits .i64) 31).toNat : Nat) : Int)) == 7) = true
    · refine ⟨Iv.whole, whole_valid, CW_val (h := []) ?_ rfl⟩
      simp only [e12, this, hv', hc, p51, asInt_i, asBool_i, asRows_i, asCells_i, asTuple_i, asBox_i, asObCells_i, asLoop_i, uncons_i, unconsO_i, isNil_i, asPtr_i, asFn_f, asFn_y, asArr_i, asObArr_t, asObArr_f, isReady_i, isBusy_i, uncons_c, asInt_u, asMapV_i, arrRows_i, Option.bind_some, Option.bind_none, cond_true, cond_false, cond_dec, cond_not]
      rfl
    · have hc' := Bool.not_eq_true _ ▸ hc
      refine ⟨v, h1, CW_val (h := []) ?_ rfl⟩
      simp only [e12, this, hv', hc', h2, asInt_i, asBool_i, asRows_i, asCells_i, asTuple_i, asBox_i, asObCells_i, asLoop_i, uncons_i, unconsO_i, isNil_i, asPtr_i, asFn_f, asFn_y, asArr_i, asObArr_t, asObArr_f, isReady_i, isBusy_i, uncons_c, asInt_u, asMapV_i, arrRows_i, Option.bind_some, Option.bind_none, cond_true, cond_false, cond_dec, cond_not]
      rfl
theorem i79 (lo hi p q r s : Int) : iterW (roundK GD LD (CW GD LD) 68 none 6) (S68_6 0 0 [[.int .i64 p], [.int .i64 q], [.int .i64 r], [.int .i64 s]] p p 1) = some (.exit 0, S68_6 0 0 [[.int .i64 p], [.int .i64 q], [.int .i64 r], [.int .i64 s]] (min4 p q r s) (max4 p q r s) 4) := by
  have r1 : ∀ lo hi, roundK GD LD (CW GD LD) 68 none 6 (S68_6 0 0 [[.int .i64 p], [.int .i64 q], [.int .i64 r], [.int .i64 s]] lo hi 1) = some (.normal, S68_6 0 0 [[.int .i64 p], [.int .i64 q], [.int .i64 r], [.int .i64 s]] (if q < lo then q else lo) (if q > hi then q else hi) 2) := fun lo hi => e68_6 _ _ _ _ _ _ _
  have r2 : ∀ lo hi, roundK GD LD (CW GD LD) 68 none 6 (S68_6 0 0 [[.int .i64 p], [.int .i64 q], [.int .i64 r], [.int .i64 s]] lo hi 2) = some (.normal, S68_6 0 0 [[.int .i64 p], [.int .i64 q], [.int .i64 r], [.int .i64 s]] (if r < lo then r else lo) (if r > hi then r else hi) 3) := fun lo hi => e68_6 _ _ _ _ _ _ _
  have r3 : ∀ lo hi, roundK GD LD (CW GD LD) 68 none 6 (S68_6 0 0 [[.int .i64 p], [.int .i64 q], [.int .i64 r], [.int .i64 s]] lo hi 3) = some (.normal, S68_6 0 0 [[.int .i64 p], [.int .i64 q], [.int .i64 r], [.int .i64 s]] (if s < lo then s else lo) (if s > hi then s else hi) 4) := fun lo hi => e68_6 _ _ _ _ _ _ _
  have r4 : ∀ lo hi, roundK GD LD (CW GD LD) 68 none 6 (S68_6 0 0 [[.int .i64 p], [.int .i64 q], [.int .i64 r], [.int .i64 s]] lo hi 4) = some (.exit 0, S68_6 0 0 [[.int .i64 p], [.int .i64 q], [.int .i64 r], [.int .i64 s]] lo hi 4) := fun lo hi => e68_6 _ _ _ _ _ _ _
  rw [iterW_eq, r1]
  simp only
  rw [iterW_eq, r2]
  simp only
  rw [iterW_eq, r3]
  simp only
  rw [iterW_eq, r4]
  simp only
  have g1 : (if s < if r < if q < p then q else p then r else if q < p then q else p then s else if r < if q < p then q else p then r else if q < p then q else p) = min4 p q r s := by unfold min4; (repeat' split) <;> omega
  have g2 : (if s > if r > if q > p then q else p then r else if q > p then q else p then s else if r > if q > p then q else p then r else if q > p then q else p) = max4 p q r s := by unfold max4; (repeat' split) <;> omega
  rw [g1, g2]
theorem p68 (a b : Iv) (h : a.valid) (k : b.valid) : (CW GD LD).p (.func 68) [.agg [.int .i64 a.lo, .int .i64 a.hi], .agg [.int .i64 b.lo, .int .i64 b.hi]] = some (.agg (a.mul b).c) := by
  refine CW_val (h := []) ?_ rfl
  simp only [e68, p34, p51, asInt_i, asBool_i, asRows_i, asCells_i, asTuple_i, asBox_i, asObCells_i, asLoop_i, uncons_i, unconsO_i, isNil_i, asPtr_i, asFn_f, asFn_y, asArr_i, asObArr_t, asObArr_f, isReady_i, isBusy_i, uncons_c, asInt_u, asMapV_i, arrRows_i, Option.bind_some, Option.bind_none, cond_true, cond_false, cond_dec, cond_not]
  by_cases hw : a.isW = true
  · simp only [hw, Iv.eta, if_true, Iv.mul, Bool.true_or]; rfl
  by_cases kw : b.isW = true
  · simp only [hw, kw, Iv.eta, if_true, Iv.mul, Bool.or_true]; rfl
  have hw' : a.isW = false := by simpa using hw
  have kw' : b.isW = false := by simpa using kw
  obtain ⟨hn1, hn2⟩ := nums_of h hw'
  obtain ⟨kn1, kn2⟩ := nums_of k kw'
  have s11 := small_mul hn1 kn1
  have s12 := small_mul hn1 kn2
  have s21 := small_mul hn2 kn1
  have s22 := small_mul hn2 kn2
  have w : ∀ {x : Int}, small x → IntKind.wrap .i64 x = x := fun hx => w64 (by have := hx.1; omega) (by have := hx.2; omega)
  have sm : ∀ p q r s, small p → small q → small r → small s → small (min4 p q r s) ∧ small (max4 p q r s) := fun p q r s hp hq hr hs => by
    simp only [small, min4, max4] at *; omega
  have sm' := sm _ _ _ _ s11 s12 s21 s22
  simp only [hw', kw', Iv.eta, asInt_i, asBool_i, asRows_i, asCells_i, asTuple_i, asBox_i, asObCells_i, asLoop_i, uncons_i, unconsO_i, isNil_i, asPtr_i, asFn_f, asFn_y, asArr_i, asObArr_t, asObArr_f, isReady_i, isBusy_i, uncons_c, asInt_u, asMapV_i, arrRows_i, Option.bind_some, Option.bind_none, cond_true, cond_false, cond_dec, cond_not, w s11, w s12, w s21, w s22, CW_w]
  refine (bind_via (i79 0 0 _ _ _ _) _).trans ?_
  have n4 : ∀ a b c d e f, nth (S68_6 a b c d e f).t 4 = .box [.int .i64 a, .int .i64 b] := fun _ _ _ _ _ _ => rfl
  have n5 : ∀ a b c d e f, nth (S68_6 a b c d e f).t 5 = .slice .any c := fun _ _ _ _ _ _ => rfl
  have n6 : ∀ a b c d e f, nth (S68_6 a b c d e f).t 6 = .int .i64 d := fun _ _ _ _ _ _ => rfl
  have n7 : ∀ a b c d e f, nth (S68_6 a b c d e f).t 7 = .int .i64 e := fun _ _ _ _ _ _ => rfl
  have n8 : ∀ a b c d e f, nth (S68_6 a b c d e f).t 8 = .int .i64 f := fun _ _ _ _ _ _ => rfl
  simp only [n4, n5, n6, n7, n8, Nat.beq_refl, asInt_i, asBool_i, asRows_i, asCells_i, asTuple_i, asBox_i, asObCells_i, asLoop_i, uncons_i, unconsO_i, isNil_i, asPtr_i, asFn_f, asFn_y, asArr_i, asObArr_t, asObArr_f, isReady_i, isBusy_i, uncons_c, asInt_u, asMapV_i, arrRows_i, Option.bind_some, Option.bind_none, cond_true, cond_false, cond_dec, cond_not, p59 _ sm'.1, p81 _ sm'.2, p39, Iv.mul, hw', kw', Bool.or_false, Bool.false_eq_true, if_false]
  rfl
end Go.Ab
