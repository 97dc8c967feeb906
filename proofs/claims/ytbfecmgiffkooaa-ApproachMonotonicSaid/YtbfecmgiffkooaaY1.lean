/- Typed values, and what a loop over a list comes to; conditions: none. -/
import Derived.Test.YtbfecmgiffkooaaG4
import Derived.Test.YtbfecmgiffkooaaE5
namespace Go.Ab
set_option linter.unusedVariables false
set_option linter.unusedSimpArgs false

theorem w64 {x : Int} (h1 : -9223372036854775808 ≤ x) (h2 : x < 9223372036854775808) : IntKind.wrap .i64 x = x := by
  have e : IntKind.wrap .i64 x = if (9223372036854775808 : Int) ≤ x % 18446744073709551616 then x % 18446744073709551616 - 18446744073709551616 else x % 18446744073709551616 := by
    by_cases h : (9223372036854775808 : Int) ≤ x % 18446744073709551616
    · simp [IntKind.wrap, IntKind.bits, IntKind.signed, h]
    · simp [IntKind.wrap, IntKind.bits, IntKind.signed, h]
  rw [e]
  split <;> omega

theorem CW_w (G : Cfg) (L : Lv) : (CW G L).w = iterW := rfl
theorem CW_valH {G : Cfg} {L : Lv} {g : Fn} {args : List V} {u v : V} {h : List Ob} (hr : run1 G L (CW G L) g args [] = some (u, h)) (hn : normResK h u some = some v) : (CW G L).p g args = some v := by
  refine CW_runP ?_
  rw [hr]; exact hn
theorem CW_val {G : Cfg} {L : Lv} {g : Fn} {args : List V} {v : V} {h : List Ob} (hr : run1 G L (CW G L) g args [] = some (v, h)) (hn : normResK h v some = some v) : (CW G L).p g args = some v := CW_valH hr hn

/-! Loops. -/
/-- Steps through a list, each with its number, till one leaves. -/
def foldE {α β σ : Type} (step : Nat → σ → α → Except β σ) : Nat → List α → σ → Except β σ
  | _, [], s => .ok s
  | i, a :: l, s => match step i s a with
    | .ok s' => foldE step (i + 1) l s'
    | .error b => .error b
/-- A loop over a list: S is the state at round i; a round goes on, or leaves in a state that is told. -/
theorem iterW_foldE {α β σ : Type} {round : St → Option (Ex × St)} {S : Nat → σ → St} {step : Nat → σ → α → Except β σ} {out : β → Ex × St} {ex : Ex} (Inv : Nat → σ → Prop) (l : List α)
    (hex : ex ≠ .normal) (hout : ∀ b, (out b).1 ≠ .normal)
    (h1 : ∀ (i : Nat) (hi : i < l.length) (s : σ), Inv i s → (∀ s', step i s l[i] = .ok s' → round (S i s) = some (.normal, S (i + 1) s') ∧ Inv (i + 1) s') ∧ ∀ b, step i s l[i] = .error b → round (S i s) = some (out b))
    (h2 : ∀ s, Inv l.length s → round (S l.length s) = some (ex, S l.length s)) :
    ∀ (k : List α) (i : Nat) (s : σ), l.drop i = k → i ≤ l.length → Inv i s → iterW round (S i s) = (match foldE step i k s with
      | .ok s' => some (ex, S l.length s')
      | .error b => some (out b)) ∧ ∀ s', foldE step i k s = .ok s' → Inv l.length s' := by
  intro k
  induction k with
  | nil =>
    intro i s hk hi hInv
    have hil : i = l.length := by
      have := List.drop_eq_nil_iff.1 hk
      omega
    subst hil
    refine ⟨?_, fun s' hs' => by cases hs'; exact hInv⟩
    rw [iterW_eq, h2 s hInv]
    simp only [foldE]
    cases ex with
    | normal => exact absurd rfl hex
    | exit id => rfl
    | ret => rfl
  | cons a k ih =>
    intro i s hk hi hInv
    have hil : i < l.length := by
      apply Nat.lt_of_not_le
      intro hle
      rw [List.drop_eq_nil_iff.2 hle] at hk; cases hk
    have hd := List.drop_eq_getElem_cons hil
    rw [hk] at hd
    injection hd with ha hk'
    obtain ⟨g1, g2⟩ := h1 i hil s hInv
    rw [iterW_eq]
    simp only [foldE]
    rw [ha]
    cases hs : step i s l[i] with
    | ok s' =>
      obtain ⟨k1, k2⟩ := g1 s' hs
      rw [k1]
      exact ih (i + 1) s' hk'.symm (by omega) k2
    | error b =>
      rw [g2 b hs]
      refine ⟨?_, fun s' hs' => by cases hs'⟩
      have := hout b
      simp only
      cases ho : out b with
      | mk e st =>
        rw [ho] at this
        cases e with
        | normal => exact absurd rfl this
        | exit id => rfl
        | ret => rfl

/-- A loop over a list that is not left early. -/
theorem iterW_list {α σ : Type} {round : St → Option (Ex × St)} (S : Nat → σ → St) (step : Nat → σ → α → σ) (Inv : Nat → σ → Prop) (l : List α) {ex : Ex} (hex : ex ≠ .normal)
    (h1 : ∀ (i : Nat) (hi : i < l.length) (s : σ), Inv i s → round (S i s) = some (.normal, S (i + 1) (step i s l[i])) ∧ Inv (i + 1) (step i s l[i]))
    (h2 : ∀ s, Inv l.length s → round (S l.length s) = some (ex, S l.length s)) (s : σ) (hs : Inv 0 s) :
    ∃ s', foldE (β := Empty) (fun i s a => .ok (step i s a)) 0 l s = .ok s' ∧ iterW round (S 0 s) = some (ex, S l.length s') ∧ Inv l.length s' := by
  have := iterW_foldE (β := Empty) (S := S) (round := round) (step := fun i s a => .ok (step i s a)) (out := fun b => nomatch b) (ex := ex) Inv l hex (fun b => nomatch b)
    (fun i hi s hI => ⟨fun s' e => by cases e; exact h1 i hi s hI, fun b => nomatch b⟩) h2 l 0 s rfl (Nat.zero_le _) hs
  cases hf : foldE (β := Empty) (fun i s a => .ok (step i s a)) 0 l s with
  | ok s' => rw [hf] at this; exact ⟨s', rfl, this.1, this.2 s' rfl⟩
  | error b => exact nomatch b
theorem foldE_foldl {α β σ : Type} (step : σ → α → σ) : ∀ (l : List α) (i : Nat) (s : σ), foldE (β := β) (fun _ s a => .ok (step s a)) i l s = .ok (l.foldl step s) := by
  intro l
  induction l with
  | nil => intro i s; rfl
  | cons a l ih => intro i s; exact ih (i + 1) (step s a)

/-! Rows. -/
theorem getRow_map {α : Type} (f : α → List V) {sz : Nat} (hf : ∀ x, (f x).length = sz) (l : List α) (i : Nat) (hi : i < l.length) : getRow (l.map f) (i : Int) sz = some (f l[i]) := by
  unfold getRow
  have h0 : (0 : Int) ≤ (i : Int) := Int.natCast_nonneg i
  rw [if_pos h0]
  simp [hi, hf]
theorem getRow_mapI {α : Type} (f : α → List V) {sz : Nat} (hf : ∀ x, (f x).length = sz) (l : List α) (i : Int) (h0 : 0 ≤ i) (hi : i.toNat < l.length) : getRow (l.map f) i sz = some (f l[i.toNat]) := by
  obtain ⟨n, rfl⟩ := Int.eq_ofNat_of_zero_le h0
  exact getRow_map f hf l n hi

theorem cond_dec {R : Type} {p : Prop} [Decidable p] (x y : R) : cond (decide p) x y = if p then x else y := by
  by_cases h : p <;> simp [h]
theorem cond_not {R : Type} (b : Bool) (x y : R) : cond (!b) x y = cond b y x := by cases b <;> rfl

/-- An interval. -/
structure Iv where
  lo : Int
  hi : Int
  deriving DecidableEq
def Iv.c (a : Iv) : List V := [.int .i64 a.lo, .int .i64 a.hi]
theorem Iv.c_len (a : Iv) : a.c.length = 2 := rfl
/-- A segment. -/
structure Seg where
  t : Int
  h : Int
  frm : List Iv
  pre : List Iv
  tube : List Iv
  to : List Iv
def rows (l : List Iv) : V := .slice .any (l.map Iv.c)
def Seg.c (s : Seg) : List V := [.int .i64 s.t, .int .i64 s.h, .slice .any (s.frm.map Iv.c), .slice .any (s.pre.map Iv.c), .slice .any (s.tube.map Iv.c), .slice .any (s.to.map Iv.c)]
theorem Seg.c_len (a : Seg) : a.c.length = 6 := rfl

/-! What was looked at. -/
theorem asInt_i (n : Int) : asInt .i64 (.int .i64 n) = some n := rfl
theorem asBool_i (b : Bool) : asBool (.bool b) = some b := rfl
theorem asRows_i (fl : Fl) (r : List (List V)) : asRows (.slice fl r) = some r := rfl
theorem asCells_i (l : List V) : asCells (.agg l) = some l := rfl
theorem asTuple_i (l : List V) : asTuple (.tuple l) = some l := rfl
theorem asBox_i (l : List V) : asBox (.box l) = some l := rfl
theorem asObCells_i (l : List V) : asObCells (.cells l) = some l := rfl
theorem asLoop_i (l : LoopA) : asLoop (.loop l) = some l := rfl
theorem uncons_i (v : V) (l : List V) : uncons (v :: l) = some (v, l) := rfl
theorem unconsO_i (v : Ob) (l : List Ob) : unconsO (v :: l) = some (v, l) := rfl
theorem isNil_i : isNil [] = some () := rfl
theorem asPtr_i (i o : Nat) : asPtr i o (.ptr i o) = some () := by simp [asPtr]
theorem asFn_f (n : Nat) (a b : List V) : asFn (.func n) (.fn (.func n) a b) = some (a, b) := by simp [asFn, fnEq]
theorem asFn_y (n : Nat) (a b : List V) : asFn (.yield n) (.fn (.yield n) a b) = some (a, b) := by simp [asFn, fnEq]
theorem asArr_i (id len sz : Nat) : asArr id sz (.arr id len sz) = some len := by simp [asArr]
theorem asObArr_t (sz : Nat) (r : List (List V)) : asObArr true sz (.arr true sz r) = some r := by simp [asObArr]
theorem asObArr_f (sz : Nat) (r : List (List V)) : asObArr false sz (.arr false sz r) = some r := by simp [asObArr]
theorem isReady_i : isReady .ready = some () := rfl
theorem isBusy_i : isBusy .busy = some () := rfl
theorem uncons_c (a : Iv) : uncons a.c = some (.int .i64 a.lo, [.int .i64 a.hi]) := rfl
theorem uncons_sc (s : Seg) : uncons s.c = some (.int .i64 s.t, [.int .i64 s.h, .slice .any (s.frm.map Iv.c), .slice .any (s.pre.map Iv.c), .slice .any (s.tube.map Iv.c), .slice .any (s.to.map Iv.c)]) := rfl
theorem arrRows_i (wr : Bool) (sz : Nat) (r : List (List V)) (h : List Ob) : arrRows (.arr wr sz r :: h) 0 r.length = some r := by simp [arrRows, hget]
theorem Iv.eta (a : Iv) : (⟨a.lo, a.hi⟩ : Iv) = a := rfl
theorem nth0 (v : V) (l : List V) : nth (v :: l) 0 = v := rfl
theorem nthS (v : V) (l : List V) (n : Nat) : nth (v :: l) (n + 1) = nth l n := rfl
end Go.Ab
/- Interval functions of the program and of the reference, typed; conditions: ranges where they are told. -/
namespace Go.Ab
set_option linter.unusedVariables false
set_option linter.unusedSimpArgs false
set_option linter.unusedSimpArgs false
set_option linter.unusedVariables false

def Iv.whole : Iv := ⟨-2147483648, 2147483648⟩
def Iv.isW (a : Iv) : Bool := a.lo == -2147483648 && a.hi == 2147483648
def number (x : Int) : Prop := -2147483648 < x ∧ x < 2147483648
instance (x : Int) : Decidable (number x) := inferInstanceAs (Decidable (_ ∧ _))
def Iv.new (lo hi : Int) : Iv := if number lo ∧ number hi then ⟨lo, hi⟩ else Iv.whole
def Iv.valid (a : Iv) : Prop := a.lo ≤ a.hi ∧ -2147483648 ≤ a.lo ∧ a.hi ≤ 2147483648 ∧ (a.isW = true ∨ (number a.lo ∧ number a.hi))
def Iv.neg (a : Iv) : Iv := ⟨-a.hi, -a.lo⟩
def Iv.add (a b : Iv) : Iv := if a.isW || b.isW then Iv.whole else Iv.new (a.lo + b.lo) (a.hi + b.hi)
def Iv.sub (a b : Iv) : Iv := a.add b.neg
def fl (n : Int) : Int := n / 65536
def ce (n : Int) : Int := -((-n) / 65536)
def Iv.near (a : Iv) : Int := max 0 (max a.lo (-a.hi))
def Iv.far (a : Iv) : Int := max a.hi (-a.lo)
def Iv.sq (a : Iv) : Iv := if a.isW then a else Iv.new (fl (a.near * a.near)) (ce (a.far * a.far))

theorem whole_valid : Iv.whole.valid := by simp [Iv.valid, Iv.whole, Iv.isW]
theorem new_valid {lo hi : Int} (h : lo ≤ hi) : (Iv.new lo hi).valid := by
  unfold Iv.new
  split
  · rename_i hn
    refine ⟨h, ?_, ?_, .inr hn⟩
    · exact Int.le_of_lt hn.1.1
    · exact Int.le_of_lt hn.2.2
  · exact whole_valid
theorem neg_valid {a : Iv} (h : a.valid) : a.neg.valid := by
  obtain ⟨h1, h2, h3, h4⟩ := h
  simp only [Iv.valid, Iv.neg, Iv.isW, Bool.and_eq_true, beq_iff_eq, number] at *
  omega
theorem add_valid {a b : Iv} (ha : a.valid) (hb : b.valid) : (a.add b).valid := by
  unfold Iv.add
  split
  · exact whole_valid
  · exact new_valid (by have := ha.1; have := hb.1; omega)
theorem sub_valid {a b : Iv} (ha : a.valid) (hb : b.valid) : (a.sub b).valid := add_valid ha (neg_valid hb)
theorem sqb {x : Int} (h0 : 0 ≤ x) (h : x ≤ 2147483648) : 0 ≤ x * x ∧ x * x ≤ 4611686018427387904 :=
  ⟨Int.mul_nonneg h0 h0, by have := Int.mul_le_mul h h h0 (by decide); simpa using this⟩
theorem near_b {a : Iv} (h : a.valid) : 0 ≤ a.near ∧ a.near ≤ 2147483648 ∧ a.near ≤ a.far ∧ a.far ≤ 2147483648 := by
  obtain ⟨h1, h2, h3, h4⟩ := h
  simp only [Iv.near, Iv.far]
  omega
theorem fl_ce {n m : Int} (h : n ≤ m) : fl n ≤ ce m := by unfold fl ce; omega
theorem sq_mono {x y : Int} (h0 : 0 ≤ x) (h : x ≤ y) : x * x ≤ y * y := Int.mul_le_mul h h h0 (by omega)
theorem sq_valid {a : Iv} (h : a.valid) : a.sq.valid := by
  unfold Iv.sq
  split
  · exact h
  · obtain ⟨b1, b2, b3, b4⟩ := near_b h
    exact new_valid (fl_ce (sq_mono b1 b3))

theorem td_floor (n : Int) : n.tdiv 65536 = if 0 ≤ n then n / 65536 else -((-n) / 65536) := by
  split
  · rename_i h; exact Int.tdiv_eq_ediv_of_nonneg h
  · rename_i h
    have : n = -(-n) := by omega
    rw [this, Int.neg_tdiv, Int.tdiv_eq_ediv_of_nonneg (by omega)]
    simp
theorem tm_floor (n : Int) : n.tmod 65536 = if 0 ≤ n then n % 65536 else -((-n) % 65536) := by
  split
  · rename_i h; exact Int.tmod_eq_emod_of_nonneg h
  · rename_i h
    have : n = -(-n) := by omega
    rw [this, Int.neg_tmod, Int.tmod_eq_emod_of_nonneg (by omega)]
    simp

theorem p63 : (CW G20 L20).p (.func 63) [] = some (.agg Iv.whole.c) := CW_val (e63 _) rfl
theorem e72' (C : CallT) : run1 G20 L20 C (.func 72) [] [] = some (.agg Iv.whole.c, []) := e72 C
theorem p72 : (CW G20 L20).p (.func 72) [] = some (.agg Iv.whole.c) := CW_val (e72 _) rfl
theorem p46 (a b : Int) : (CW G20 L20).p (.func 46) [.agg [.int .i64 a, .int .i64 b]] = some (.bool (Iv.isW ⟨a, b⟩)) := by
  refine CW_val (h := []) ?_ rfl
  simp only [e46, p63, asInt_i, asBool_i, asRows_i, asCells_i, asTuple_i, asBox_i, asObCells_i, asLoop_i, uncons_i, unconsO_i, isNil_i, asPtr_i, asFn_f, asFn_y, asArr_i, asObArr_t, asObArr_f, isReady_i, isBusy_i, uncons_c, uncons_sc, arrRows_i, Option.bind_some, Option.bind_none, cond_true, cond_false, cond_dec, cond_not, Bool.and_true]
  rfl
theorem p26 (a b : Int) : (CW G20 L20).p (.func 26) [.agg [.int .i64 a, .int .i64 b]] = some (.bool (Iv.isW ⟨a, b⟩)) := by
  refine CW_val (h := []) ?_ rfl
  simp only [e26, Iv.isW]
  cases a == -2147483648 <;> rfl
theorem p71 (a : Int) : (CW G20 L20).p (.func 71) [.int .i64 a] = some (.bool (decide (number a))) := by
  refine CW_val (h := []) ?_ rfl
  simp only [e71, asInt_i, asBool_i, asRows_i, asCells_i, asTuple_i, asBox_i, asObCells_i, asLoop_i, uncons_i, unconsO_i, isNil_i, asPtr_i, asFn_f, asFn_y, asArr_i, asObArr_t, asObArr_f, isReady_i, isBusy_i, uncons_c, uncons_sc, arrRows_i, Option.bind_some, Option.bind_none, cond_true, cond_false, cond_dec, cond_not, number]
  by_cases h : a > -2147483648
  · have h' : -2147483648 < a := h
    simp [h, h']
  · have h' : ¬ -2147483648 < a := h
    simp [h, h']
theorem p43 (a b : Int) : (CW G20 L20).p (.func 43) [.int .i64 a, .int .i64 b] = some (.agg (Iv.new a b).c) := by
  refine CW_val (h := []) ?_ rfl
  simp only [e43, p71, p72, asInt_i, asBool_i, asRows_i, asCells_i, asTuple_i, asBox_i, asObCells_i, asLoop_i, uncons_i, unconsO_i, isNil_i, asPtr_i, asFn_f, asFn_y, asArr_i, asObArr_t, asObArr_f, isReady_i, isBusy_i, uncons_c, uncons_sc, arrRows_i, Option.bind_some, Option.bind_none, cond_true, cond_false, cond_dec, cond_not, Iv.new]
  by_cases h1 : number a <;> by_cases h2 : number b <;> simp [h1, h2, Iv.c]
theorem p36 (a b : Int) (h : a ≤ b) : (CW G20 L20).p (.func 36) [.int .i64 a, .int .i64 b] = some (.agg (Iv.new a b).c) := by
  refine CW_val (h := []) ?_ rfl
  simp only [e36, p63, asInt_i, asBool_i, asRows_i, asCells_i, asTuple_i, asBox_i, asObCells_i, asLoop_i, uncons_i, unconsO_i, isNil_i, asPtr_i, asFn_f, asFn_y, asArr_i, asObArr_t, asObArr_f, isReady_i, isBusy_i, uncons_c, uncons_sc, arrRows_i, Option.bind_some, Option.bind_none, cond_true, cond_false, cond_dec, cond_not, Iv.new]
  by_cases h1 : a ≤ -2147483648
  · simp only [h1, if_true]
    rw [if_neg (fun hh => by have := hh.1.1; omega)]; rfl
  · simp only [h1, if_false]
    by_cases h2 : b ≥ 2147483648
    · simp only [h2, if_true]
      rw [if_neg (fun hh => by have := hh.2.2; omega)]; rfl
    · simp only [h2, if_false]
      have h3 : ¬ a ≥ 2147483648 := by omega
      have h4 : ¬ b ≤ -2147483648 := by omega
      simp only [h3, h4, if_false]
      rw [if_pos (by simp only [number]; omega)]; rfl
/-- Without an order of the ends. -/
theorem p36' (a b : Int) : (CW G20 L20).p (.func 36) [.int .i64 a, .int .i64 b] = some (.agg (Iv.new a b).c) := by
  refine CW_val (h := []) ?_ rfl
  simp only [e36, p63, asInt_i, asBool_i, asRows_i, asCells_i, asTuple_i, asBox_i, asObCells_i, asLoop_i, uncons_i, unconsO_i, isNil_i, asPtr_i, asFn_f, asFn_y, asArr_i, asObArr_t, asObArr_f, isReady_i, isBusy_i, uncons_c, uncons_sc, arrRows_i, Option.bind_some, Option.bind_none, cond_true, cond_false, cond_dec, cond_not, Iv.new]
  by_cases h1 : a ≤ -2147483648 <;> by_cases h2 : b ≥ 2147483648 <;> by_cases h3 : a ≥ 2147483648 <;> by_cases h4 : b ≤ -2147483648 <;> simp only [h1, h2, h3, h4, if_true, if_false] <;> first
    | (rw [if_neg (by simp only [number]; omega)]; rfl)
    | (rw [if_pos (by simp only [number]; omega)]; rfl)
theorem p88 (a : Iv) (h : a.valid) : (CW G20 L20).p (.func 88) [.agg [.int .i64 a.lo, .int .i64 a.hi]] = some (.agg a.neg.c) := by
  obtain ⟨h1, h2, h3, h4⟩ := h
  refine CW_val (h := []) ?_ rfl
  simp only [e88]
  rw [w64 (by omega) (by omega), w64 (by omega) (by omega)]
  simp [Iv.neg, Iv.c]
theorem p83 (a : Iv) (h : a.valid) : (CW G20 L20).p (.func 83) [.agg [.int .i64 a.lo, .int .i64 a.hi]] = some (.agg a.neg.c) := by
  obtain ⟨h1, h2, h3, h4⟩ := h
  refine CW_val (h := []) ?_ rfl
  simp only [e83]
  rw [w64 (by omega) (by omega), w64 (by omega) (by omega)]
  simp [Iv.neg, Iv.c]
theorem p68 (a b : Iv) (h : a.valid) (k : b.valid) : (CW G20 L20).p (.func 68) [.agg [.int .i64 a.lo, .int .i64 a.hi], .agg [.int .i64 b.lo, .int .i64 b.hi]] = some (.agg (a.add b).c) := by
  obtain ⟨h1, h2, h3, h4⟩ := h
  obtain ⟨k1, k2, k3, k4⟩ := k
  refine CW_val (h := []) ?_ rfl
  simp only [e68, p46, p63, p36', asInt_i, asBool_i, asRows_i, asCells_i, asTuple_i, asBox_i, asObCells_i, asLoop_i, uncons_i, unconsO_i, isNil_i, asPtr_i, asFn_f, asFn_y, asArr_i, asObArr_t, asObArr_f, isReady_i, isBusy_i, uncons_c, uncons_sc, arrRows_i, Option.bind_some, Option.bind_none, cond_true, cond_false, cond_dec, cond_not, Iv.add]
  rw [w64 (by omega) (by omega), w64 (by omega) (by omega)]
  cases h5 : a.isW <;> cases h6 : b.isW <;> rfl
theorem p56 (a b : Iv) (h : a.valid) (k : b.valid) : (CW G20 L20).p (.func 56) [.agg [.int .i64 a.lo, .int .i64 a.hi], .agg [.int .i64 b.lo, .int .i64 b.hi]] = some (.agg (a.add b).c) := by
  obtain ⟨h1, h2, h3, h4⟩ := h
  obtain ⟨k1, k2, k3, k4⟩ := k
  refine CW_val (h := []) ?_ rfl
  simp only [e56, p26, p72, p43, asInt_i, asBool_i, asRows_i, asCells_i, asTuple_i, asBox_i, asObCells_i, asLoop_i, uncons_i, unconsO_i, isNil_i, asPtr_i, asFn_f, asFn_y, asArr_i, asObArr_t, asObArr_f, isReady_i, isBusy_i, uncons_c, uncons_sc, arrRows_i, Option.bind_some, Option.bind_none, cond_true, cond_false, cond_dec, cond_not, Iv.add]
  rw [w64 (by omega) (by omega), w64 (by omega) (by omega)]
  cases h5 : a.isW <;> cases h6 : b.isW <;> rfl
theorem p70 (a b : Iv) (h : a.valid) (k : b.valid) : (CW G20 L20).p (.func 70) [.agg [.int .i64 a.lo, .int .i64 a.hi], .agg [.int .i64 b.lo, .int .i64 b.hi]] = some (.agg (a.sub b).c) := by
  refine CW_val (h := []) ?_ rfl
  simp only [e70, p88 _ k, asInt_i, asBool_i, asRows_i, asCells_i, asTuple_i, asBox_i, asObCells_i, asLoop_i, uncons_i, unconsO_i, isNil_i, asPtr_i, asFn_f, asFn_y, asArr_i, asObArr_t, asObArr_f, isReady_i, isBusy_i, uncons_c, uncons_sc, arrRows_i, Option.bind_some, Option.bind_none, cond_true, cond_false, cond_dec, cond_not]
  rw [p68 _ _ h (neg_valid k)]
  simp only [asInt_i, asBool_i, asRows_i, asCells_i, asTuple_i, asBox_i, asObCells_i, asLoop_i, uncons_i, unconsO_i, isNil_i, asPtr_i, asFn_f, asFn_y, asArr_i, asObArr_t, asObArr_f, isReady_i, isBusy_i, uncons_c, uncons_sc, arrRows_i, Option.bind_some, Option.bind_none, cond_true, cond_false, cond_dec, cond_not]
  rfl
theorem p58 (a b : Iv) (h : a.valid) (k : b.valid) : (CW G20 L20).p (.func 58) [.agg [.int .i64 a.lo, .int .i64 a.hi], .agg [.int .i64 b.lo, .int .i64 b.hi]] = some (.agg (a.sub b).c) := by
  refine CW_val (h := []) ?_ rfl
  simp only [e58, p83 _ k, asInt_i, asBool_i, asRows_i, asCells_i, asTuple_i, asBox_i, asObCells_i, asLoop_i, uncons_i, unconsO_i, isNil_i, asPtr_i, asFn_f, asFn_y, asArr_i, asObArr_t, asObArr_f, isReady_i, isBusy_i, uncons_c, uncons_sc, arrRows_i, Option.bind_some, Option.bind_none, cond_true, cond_false, cond_dec, cond_not]
  rw [p56 _ _ h (neg_valid k)]
  simp only [asInt_i, asBool_i, asRows_i, asCells_i, asTuple_i, asBox_i, asObCells_i, asLoop_i, uncons_i, unconsO_i, isNil_i, asPtr_i, asFn_f, asFn_y, asArr_i, asObArr_t, asObArr_f, isReady_i, isBusy_i, uncons_c, uncons_sc, arrRows_i, Option.bind_some, Option.bind_none, cond_true, cond_false, cond_dec, cond_not]
  rfl
theorem p91 (a : Int) : (CW G20 L20).p (.func 91) [.int .i64 a] = some (.int .i64 (if 1 < a then 1 else a)) := CW_val (e91 _ _) rfl

def small (n : Int) : Prop := -4611686018427387904 ≤ n ∧ n ≤ 4611686018427387904
theorem p75 (n : Int) (h : small n) : (CW G20 L20).p (.func 75) [.int .i64 n, .int .i64 65536] = some (.tuple [.int .i64 (fl n), .int .i64 (ce n)]) := by
  obtain ⟨h1, h2⟩ := h
  have q : (CW G20 L20).p (.func 90) [.int .i64 n, .int .i64 65536, .fn (.func 91) [] []] = some (.tuple [.int .i64 (fl n), .int .i64 (ce n)]) := by
    refine CW_val (h := []) ?_ rfl
    have e0 : ((65536 : Int) == 0) = false := rfl
    simp only [p90, p91, e0, asInt_i, asBool_i, asRows_i, asCells_i, asTuple_i, asBox_i, asObCells_i, asLoop_i, uncons_i, unconsO_i, isNil_i, asPtr_i, asFn_f, asFn_y, asArr_i, asObArr_t, asObArr_f, isReady_i, isBusy_i, uncons_c, uncons_sc, arrRows_i, Option.bind_some, Option.bind_none, cond_true, cond_false, cond_dec, cond_not]
    have e1 := td_floor n
    have e2 := tm_floor n
    generalize n.tdiv 65536 = x at *
    generalize n.tmod 65536 = y at *
    by_cases hn : 0 ≤ n
    · rw [if_pos hn] at e1 e2
      have hy : ¬ y < 0 := by omega
      rw [if_neg hy]
      have hx : IntKind.wrap .i64 x = x := w64 (by omega) (by omega)
      rw [hx, w64 (by split <;> omega) (by split <;> omega)]
      have a1 : x = fl n := by unfold fl; omega
      have a2 : x + (if 1 < y then 1 else y) = ce n := by unfold ce; split <;> omega
      rw [a2, a1]
    · rw [if_neg hn] at e1 e2
      have hx : IntKind.wrap .i64 x = x := w64 (by omega) (by omega)
      rw [hx]
      by_cases hy : y < 0
      · rw [if_pos hy]
        have hx1 : IntKind.wrap .i64 (x - 1) = x - 1 := w64 (by omega) (by omega)
        have hy1 : IntKind.wrap .i64 (y + 65536) = y + 65536 := w64 (by omega) (by omega)
        rw [hx1, hy1, w64 (by split <;> omega) (by split <;> omega)]
        have a1 : x - 1 = fl n := by unfold fl; omega
        have a2 : x - 1 + (if 1 < y + 65536 then 1 else y + 65536) = ce n := by unfold ce; split <;> omega
        rw [a2, a1]
      · rw [if_neg hy]
        rw [w64 (by split <;> omega) (by split <;> omega)]
        have a1 : x = fl n := by unfold fl; omega
        have a2 : x + (if 1 < y then 1 else y) = ce n := by unfold ce; split <;> omega
        rw [a2, a1]
  refine CW_val (h := []) ?_ rfl
  have e0 : decide ((65536 : Int) < 0) = false := rfl
  simp only [e75, q, e0, asInt_i, asBool_i, asRows_i, asCells_i, asTuple_i, asBox_i, asObCells_i, asLoop_i, uncons_i, unconsO_i, isNil_i, asPtr_i, asFn_f, asFn_y, asArr_i, asObArr_t, asObArr_f, isReady_i, isBusy_i, uncons_c, uncons_sc, arrRows_i, Option.bind_some, Option.bind_none, cond_true, cond_false, cond_dec, cond_not]
theorem p45 (a b : Int) (h : small (a * b)) : (CW G20 L20).p (.func 45) [.int .i64 a, .int .i64 b] = some (.tuple [.int .i64 (fl (a * b)), .int .i64 (ce (a * b))]) := by
  refine CW_val (h := []) ?_ rfl
  simp only [e45]
  rw [w64 (by have := h.1; omega) (by have := h.2; omega), p75 _ h]
  simp only [asInt_i, asBool_i, asRows_i, asCells_i, asTuple_i, asBox_i, asObCells_i, asLoop_i, uncons_i, unconsO_i, isNil_i, asPtr_i, asFn_f, asFn_y, asArr_i, asObArr_t, asObArr_f, isReady_i, isBusy_i, uncons_c, uncons_sc, arrRows_i, Option.bind_some, Option.bind_none, cond_true, cond_false, cond_dec, cond_not]
theorem floor_ok (n : Int) (h : small n) : IntKind.wrap .i64 (n.tdiv 65536) = n.tdiv 65536 ∧ IntKind.wrap .i64 (n.tdiv 65536 - 1) = n.tdiv 65536 - 1 ∧ IntKind.wrap .i64 (n.tdiv 65536 + 1) = n.tdiv 65536 + 1 ∧
    (n.tmod 65536 = 0 → n.tdiv 65536 = fl n ∧ n.tdiv 65536 = ce n) ∧ (n.tmod 65536 ≠ 0 → (n < 0 → n.tdiv 65536 - 1 = fl n ∧ n.tdiv 65536 = ce n) ∧ (¬ n < 0 → n.tdiv 65536 = fl n ∧ n.tdiv 65536 + 1 = ce n)) := by
  obtain ⟨h1, h2⟩ := h
  have e1 := td_floor n
  have e2 := tm_floor n
  refine ⟨w64 (by rw [e1]; split <;> omega) (by rw [e1]; split <;> omega), w64 (by rw [e1]; split <;> omega) (by rw [e1]; split <;> omega), w64 (by rw [e1]; split <;> omega) (by rw [e1]; split <;> omega), fun hm => ?_, fun hm => ⟨fun hn => ?_, fun hn => ?_⟩⟩
  · unfold fl ce
    split at e1 <;> rename_i h0
    · rw [if_pos h0] at e2; omega
    · rw [if_neg h0] at e2; omega
  · unfold fl ce
    rw [if_neg (by omega)] at e1 e2
    omega
  · unfold fl ce
    rw [if_pos (by omega)] at e1 e2
    omega
theorem p47 (n : Int) (h : small n) : (CW G20 L20).p (.func 47) [.int .i64 n, .int .i64 65536] = some (.int .i64 (fl n)) := by
  refine CW_val (h := []) ?_ rfl
  have e0 : ((65536 : Int) == 0) = false := rfl
  have e3 : decide ((65536 : Int) < 0) = false := rfl
  obtain ⟨w1, w2, w3, f1, f2⟩ := floor_ok n h
  simp only [e47, e0, e3, asInt_i, asBool_i, asRows_i, asCells_i, asTuple_i, asBox_i, asObCells_i, asLoop_i, uncons_i, unconsO_i, isNil_i, asPtr_i, asFn_f, asFn_y, asArr_i, asObArr_t, asObArr_f, isReady_i, isBusy_i, uncons_c, uncons_sc, arrRows_i, Option.bind_some, Option.bind_none, cond_true, cond_false, cond_dec, cond_not, w1, w2]
  by_cases hm : n.tmod 65536 = 0
  · simp [hm, (f1 hm).1]
  · have hb : (n.tmod 65536 != 0) = true := by simpa using hm
    simp only [hb, cond_true]
    by_cases hn : n < 0
    · simp [hn, ((f2 hm).1 hn).1]
    · simp [hn, ((f2 hm).2 hn).1]
theorem p108 (n : Int) (h : small n) : (CW G20 L20).p (.func 108) [.int .i64 n, .int .i64 65536] = some (.int .i64 (fl n)) := by
  refine CW_val (h := []) ?_ rfl
  have e0 : ((65536 : Int) == 0) = false := rfl
  have e3 : decide ((65536 : Int) < 0) = false := rfl
  obtain ⟨w1, w2, w3, f1, f2⟩ := floor_ok n h
  simp only [e108, e0, e3, asInt_i, asBool_i, asRows_i, asCells_i, asTuple_i, asBox_i, asObCells_i, asLoop_i, uncons_i, unconsO_i, isNil_i, asPtr_i, asFn_f, asFn_y, asArr_i, asObArr_t, asObArr_f, isReady_i, isBusy_i, uncons_c, uncons_sc, arrRows_i, Option.bind_some, Option.bind_none, cond_true, cond_false, cond_dec, cond_not, w1, w2]
  by_cases hm : n.tmod 65536 = 0
  · simp [hm, (f1 hm).1]
  · have hb : (n.tmod 65536 != 0) = true := by simpa using hm
    simp only [hb, cond_true]
    by_cases hn : n < 0
    · simp [hn, ((f2 hm).1 hn).1]
    · simp [hn, ((f2 hm).2 hn).1]
theorem small_neg {n : Int} (h : small n) : small (-n) := ⟨by have := h.2; omega, by have := h.1; omega⟩
theorem p82 (n : Int) (h : small n) : (CW G20 L20).p (.func 82) [.int .i64 n, .int .i64 65536] = some (.int .i64 (ce n)) := by
  have h1 := h.1
  have h2 := h.2
  refine CW_val (h := []) ?_ rfl
  simp only [e82]
  rw [w64 (by omega) (by omega), show 0 - n = -n by omega, p47 _ (small_neg h)]
  simp only [asInt_i, asBool_i, asRows_i, asCells_i, asTuple_i, asBox_i, asObCells_i, asLoop_i, uncons_i, unconsO_i, isNil_i, asPtr_i, asFn_f, asFn_y, asArr_i, asObArr_t, asObArr_f, isReady_i, isBusy_i, uncons_c, uncons_sc, arrRows_i, Option.bind_some, Option.bind_none, cond_true, cond_false, cond_dec, cond_not]
  rw [w64 (by unfold fl; omega) (by unfold fl; omega)]
  simp [ce, fl]
theorem p109 (n : Int) (h : small n) : (CW G20 L20).p (.func 109) [.int .i64 n, .int .i64 65536] = some (.int .i64 (ce n)) := by
  refine CW_val (h := []) ?_ rfl
  have e0 : ((65536 : Int) == 0) = false := rfl
  have e3 : decide ((65536 : Int) < 0) = false := rfl
  obtain ⟨w1, w2, w3, f1, f2⟩ := floor_ok n h
  simp only [e109, e0, e3, asInt_i, asBool_i, asRows_i, asCells_i, asTuple_i, asBox_i, asObCells_i, asLoop_i, uncons_i, unconsO_i, isNil_i, asPtr_i, asFn_f, asFn_y, asArr_i, asObArr_t, asObArr_f, isReady_i, isBusy_i, uncons_c, uncons_sc, arrRows_i, Option.bind_some, Option.bind_none, cond_true, cond_false, cond_dec, cond_not, w1, w3]
  by_cases hm : n.tmod 65536 = 0
  · simp [hm, (f1 hm).2]
  · have hb : (n.tmod 65536 != 0) = true := by simpa using hm
    simp only [hb, cond_true]
    by_cases hn : n < 0
    · simp [hn, ((f2 hm).1 hn).2]
    · simp [hn, ((f2 hm).2 hn).2]
theorem p102 (a b : Int) (h : small (a * b)) : (CW G20 L20).p (.func 102) [.int .i64 a, .int .i64 b] = some (.tuple [.int .i64 (fl (a * b)), .int .i64 (ce (a * b))]) := by
  refine CW_val (h := []) ?_ rfl
  simp only [e102]
  rw [w64 (by have := h.1; omega) (by have := h.2; omega), p108 _ h, p109 _ h]
  simp only [asInt_i, asBool_i, asRows_i, asCells_i, asTuple_i, asBox_i, asObCells_i, asLoop_i, uncons_i, unconsO_i, isNil_i, asPtr_i, asFn_f, asFn_y, asArr_i, asObArr_t, asObArr_f, isReady_i, isBusy_i, uncons_c, uncons_sc, arrRows_i, Option.bind_some, Option.bind_none, cond_true, cond_false, cond_dec, cond_not]

/-! Squares; squared distances. -/
theorem p87 (a : Iv) (h : a.valid) : (CW G20 L20).p (.func 87) [.agg [.int .i64 a.lo, .int .i64 a.hi]] = some (.int .i64 a.far) := by
  obtain ⟨h1, h2, h3, h4⟩ := h
  refine CW_val (h := []) ?_ rfl
  simp only [e87]
  rw [w64 (by omega) (by omega)]
  have : (if 0 - a.lo > a.hi then 0 - a.lo else a.hi) = a.far := by unfold Iv.far; split <;> omega
  rw [this]
theorem small_sq {x : Int} (h0 : 0 ≤ x) (h : x ≤ 2147483648) : small (x * x) := by
  obtain ⟨a, b⟩ := sqb h0 h
  exact ⟨by omega, b⟩
theorem p69 (a : Iv) (h : a.valid) : (CW G20 L20).p (.func 69) [.agg [.int .i64 a.lo, .int .i64 a.hi]] = some (.agg a.sq.c) := by
  have hv := h
  obtain ⟨h1, h2, h3, h4⟩ := h
  obtain ⟨b1, b2, b3, b4⟩ := near_b hv
  refine CW_val (h := []) ?_ rfl
  simp only [e69, p46, asInt_i, asBool_i, asRows_i, asCells_i, asTuple_i, asBox_i, asObCells_i, asLoop_i, uncons_i, unconsO_i, isNil_i, asPtr_i, asFn_f, asFn_y, asArr_i, asObArr_t, asObArr_f, isReady_i, isBusy_i, uncons_c, uncons_sc, arrRows_i, Option.bind_some, Option.bind_none, cond_true, cond_false, cond_dec, cond_not, Iv.eta]
  rw [w64 (by omega) (by omega)]
  have e : (if 0 > (if 0 - a.hi > a.lo then 0 - a.hi else a.lo) then 0 else (if 0 - a.hi > a.lo then 0 - a.hi else a.lo)) = a.near := by unfold Iv.near; split <;> split <;> omega
  rw [e, p87 a hv, p45 _ _ (small_sq b1 b2)]
  simp only [asInt_i, asBool_i, asRows_i, asCells_i, asTuple_i, asBox_i, asObCells_i, asLoop_i, uncons_i, unconsO_i, isNil_i, asPtr_i, asFn_f, asFn_y, asArr_i, asObArr_t, asObArr_f, isReady_i, isBusy_i, uncons_c, uncons_sc, arrRows_i, Option.bind_some, Option.bind_none, cond_true, cond_false, cond_dec, cond_not]
  rw [p45 _ _ (small_sq (by omega) b4)]
  simp only [asInt_i, asBool_i, asRows_i, asCells_i, asTuple_i, asBox_i, asObCells_i, asLoop_i, uncons_i, unconsO_i, isNil_i, asPtr_i, asFn_f, asFn_y, asArr_i, asObArr_t, asObArr_f, isReady_i, isBusy_i, uncons_c, uncons_sc, arrRows_i, Option.bind_some, Option.bind_none, cond_true, cond_false, cond_dec, cond_not, p36', Iv.sq]
  cases a.isW <;> rfl
theorem sq2 {a : Iv} (h : a.valid) : (if a.lo ≤ 0 ∧ a.hi ≥ 0 then 0 else (if a.hi * a.hi < a.lo * a.lo then a.hi * a.hi else a.lo * a.lo)) = a.near * a.near ∧ (if a.hi * a.hi > a.lo * a.lo then a.hi * a.hi else a.lo * a.lo) = a.far * a.far := by
  obtain ⟨h1, h2, h3, h4⟩ := h
  have e1 : (-a.hi) * (-a.hi) = a.hi * a.hi := by rw [Int.neg_mul_neg]
  have e2 : (-a.lo) * (-a.lo) = a.lo * a.lo := by rw [Int.neg_mul_neg]
  by_cases p0 : 0 ≤ a.lo
  · have q : a.lo * a.lo ≤ a.hi * a.hi := sq_mono p0 h1
    have hn : a.near = a.lo := by unfold Iv.near; omega
    have hf : a.far = a.hi := by unfold Iv.far; omega
    rw [hn, hf]
    refine ⟨?_, by split <;> omega⟩
    split
    · rename_i h; have : a.lo = 0 := by omega
      rw [this]; rfl
    · rw [if_neg (by omega)]
  · by_cases p1 : a.hi ≤ 0
    · have q : (-a.hi) * (-a.hi) ≤ (-a.lo) * (-a.lo) := sq_mono (by omega) (by omega)
      have hn : a.near = -a.hi := by unfold Iv.near; omega
      have hf : a.far = -a.lo := by unfold Iv.far; omega
      rw [hn, hf]
      rw [e1, e2] at *
      refine ⟨?_, by rw [if_neg (by omega)]⟩
      split
      · rename_i h; have : a.hi = 0 := by omega
        rw [this]; rfl
      · split <;> omega
    · have hn : a.near = 0 := by unfold Iv.near; omega
      rw [hn, if_pos (by omega)]
      refine ⟨rfl, ?_⟩
      by_cases p2 : -a.lo ≤ a.hi
      · have q : (-a.lo) * (-a.lo) ≤ a.hi * a.hi := sq_mono (by omega) p2
        have hf : a.far = a.hi := by unfold Iv.far; omega
        rw [hf]; split <;> omega
      · have q : a.hi * a.hi ≤ (-a.lo) * (-a.lo) := sq_mono (by omega) (by omega)
        have hf : a.far = -a.lo := by unfold Iv.far; omega
        rw [hf]; split <;> omega
theorem p57 (a : Iv) (h : a.valid) : (CW G20 L20).p (.func 57) [.agg [.int .i64 a.lo, .int .i64 a.hi]] = some (.agg a.sq.c) := by
  have hv := h
  obtain ⟨h1, h2, h3, h4⟩ := h
  obtain ⟨b1, b2, b3, b4⟩ := near_b hv
  obtain ⟨s1, s2⟩ := sq2 hv
  have bl : a.lo * a.lo ≤ 4611686018427387904 ∧ 0 ≤ a.lo * a.lo := by
    by_cases p0 : 0 ≤ a.lo
    · have := sqb p0 (by omega); omega
    · have := sqb (x := -a.lo) (by omega) (by omega); rw [Int.neg_mul_neg] at this; omega
  have bh : a.hi * a.hi ≤ 4611686018427387904 ∧ 0 ≤ a.hi * a.hi := by
    by_cases p0 : 0 ≤ a.hi
    · have := sqb p0 (by omega); omega
    · have := sqb (x := -a.hi) (by omega) (by omega); rw [Int.neg_mul_neg] at this; omega
  refine CW_val (h := []) ?_ rfl
  simp only [e57, p26, p72, asInt_i, asBool_i, asRows_i, asCells_i, asTuple_i, asBox_i, asObCells_i, asLoop_i, uncons_i, unconsO_i, isNil_i, asPtr_i, asFn_f, asFn_y, asArr_i, asObArr_t, asObArr_f, isReady_i, isBusy_i, uncons_c, uncons_sc, arrRows_i, Option.bind_some, Option.bind_none, cond_true, cond_false, cond_dec, cond_not, Iv.eta]
  rw [w64 (x := a.hi * a.hi) (by omega) (by omega), w64 (x := a.lo * a.lo) (by omega) (by omega)]
  rw [s2, p82 _ (small_sq (by omega) b4)]
  have z : (CW G20 L20).p (.func 47) [.int .i64 0, .int .i64 65536] = some (.int .i64 (fl 0)) := p47 0 ⟨by decide, by decide⟩
  have sn := small_sq b1 b2
  unfold Iv.sq
  cases hw : a.isW with
  | true =>
    simp only [Iv.isW, Bool.and_eq_true, beq_iff_eq] at hw
    simp only [cond_true, asInt_i, asBool_i, asRows_i, asCells_i, asTuple_i, asBox_i, asObCells_i, asLoop_i, uncons_i, unconsO_i, isNil_i, asPtr_i, asFn_f, asFn_y, asArr_i, asObArr_t, asObArr_f, isReady_i, isBusy_i, uncons_c, uncons_sc, arrRows_i, Option.bind_some, Option.bind_none, cond_true, cond_false, cond_dec, cond_not, if_true]
    obtain ⟨lo, hi⟩ := a
    simp only at hw
    rw [hw.1, hw.2]; rfl
  | false =>
    simp only [cond_false, Bool.false_eq_true, if_false]
    by_cases c1 : a.lo ≤ 0
    · simp only [c1, if_true]
      by_cases c2 : a.hi ≥ 0
      · rw [if_pos ⟨c1, c2⟩] at s1
        simp only [c2, if_true, z, asInt_i, asBool_i, asRows_i, asCells_i, asTuple_i, asBox_i, asObCells_i, asLoop_i, uncons_i, unconsO_i, isNil_i, asPtr_i, asFn_f, asFn_y, asArr_i, asObArr_t, asObArr_f, isReady_i, isBusy_i, uncons_c, uncons_sc, arrRows_i, Option.bind_some, Option.bind_none, cond_true, cond_false, cond_dec, cond_not, p43]
        rw [← s1]; rfl
      · rw [if_neg (fun h => c2 h.2)] at s1
        simp only [c2, if_false]
        rw [s1, p47 _ sn]
        simp only [asInt_i, asBool_i, asRows_i, asCells_i, asTuple_i, asBox_i, asObCells_i, asLoop_i, uncons_i, unconsO_i, isNil_i, asPtr_i, asFn_f, asFn_y, asArr_i, asObArr_t, asObArr_f, isReady_i, isBusy_i, uncons_c, uncons_sc, arrRows_i, Option.bind_some, Option.bind_none, cond_true, cond_false, cond_dec, cond_not, p43]; rfl
    · rw [if_neg (fun h => c1 h.1)] at s1
      simp only [c1, if_false]
      rw [s1, p47 _ sn]
      simp only [asInt_i, asBool_i, asRows_i, asCells_i, asTuple_i, asBox_i, asObCells_i, asLoop_i, uncons_i, unconsO_i, isNil_i, asPtr_i, asFn_f, asFn_y, asArr_i, asObArr_t, asObArr_f, isReady_i, isBusy_i, uncons_c, uncons_sc, arrRows_i, Option.bind_some, Option.bind_none, cond_true, cond_false, cond_dec, cond_not, p43]; rfl
end Go.Ab
/- Squared distances and separation, typed; conditions: ranges where they are told. -/
namespace Go.Ab
set_option linter.unusedVariables false
set_option linter.unusedSimpArgs false
set_option linter.unusedSimpArgs false
set_option linter.unusedVariables false

def sqdFrom : Iv → List (Iv × Iv) → Iv
  | s, [] => s
  | s, (x, y) :: l => sqdFrom (s.add (x.sub y).sq) l
def sqd (a b : List Iv) : Iv := sqdFrom ⟨0, 0⟩ (a.zip b)
def Iv.zero : Iv := ⟨0, 0⟩
def valids (l : List Iv) : Prop := ∀ x ∈ l, x.valid
def few (l : List Iv) : Prop := l.length ≤ 1000000
theorem zero_valid : (⟨0, 0⟩ : Iv).valid := by simp [Iv.valid, Iv.isW, number]
theorem wsucc (i : Nat) (h : i ≤ 1000000000) : IntKind.wrap .i64 ((i : Int) + 1) = ((i + 1 : Nat) : Int) := by
  rw [w64 (by omega) (by omega)]; simp
theorem bind_via {A R : Type} {x y : Option A} (h : x = y) (k : A → Option R) : x.bind k = y.bind k := by rw [h]
theorem foldE_ok {α σ : Type} (step : Nat → σ → α → σ) : ∀ (l : List α) (i : Nat) (s : σ), ∃ s', foldE (β := Empty) (fun i s a => .ok (step i s a)) i l s = .ok s' := by
  intro l
  induction l with
  | nil => intro i s; exact ⟨s, rfl⟩
  | cons a l ih => intro i s; exact ih _ _
/-- A loop over a list, by a fold from the left. -/
theorem iterW_foldl {α σ : Type} {round : St → Option (Ex × St)} (S : Nat → σ → St) (step : σ → α → σ) (Inv : σ → Prop) (l : List α) {id : Nat}
    (h1 : ∀ (i : Nat) (hi : i < l.length) (s : σ), Inv s → round (S i s) = some (.normal, S (i + 1) (step s l[i])) ∧ Inv (step s l[i]))
    (h2 : ∀ s, Inv s → round (S l.length s) = some (.exit id, S l.length s)) (s : σ) (hs : Inv s) :
    iterW round (S 0 s) = some (.exit id, S l.length (l.foldl step s)) ∧ Inv (l.foldl step s) := by
  obtain ⟨s', e1, e2, e3⟩ := iterW_list S (fun _ s a => step s a) (fun _ s => Inv s) l (ex := .exit id) (by simp) h1 h2 s hs
  rw [foldE_foldl] at e1
  cases e1
  exact ⟨e2, e3⟩
theorem sqdFrom_foldl : ∀ (l : List (Iv × Iv)) (s : Iv), l.foldl (fun s p => s.add (p.1.sub p.2).sq) s = sqdFrom s l
  | [], _ => rfl
  | (_, _) :: l, s => sqdFrom_foldl l _
theorem sqdFrom_valid : ∀ (l : List (Iv × Iv)) (s : Iv), s.valid → (∀ p ∈ l, p.1.valid ∧ p.2.valid) → (sqdFrom s l).valid
  | [], _, h, _ => h
  | (x, y) :: l, s, h, hl => sqdFrom_valid l _ (add_valid h (sq_valid (sub_valid (hl (x, y) (by simp)).1 (hl (x, y) (by simp)).2))) fun p hp => hl p (by simp [hp])
theorem zip_valid {a b : List Iv} (ha : valids a) (hb : valids b) : ∀ p ∈ a.zip b, p.1.valid ∧ p.2.valid := fun p hp => ⟨ha _ (List.of_mem_zip hp).1, hb _ (List.of_mem_zip hp).2⟩
theorem sqd_valid {a b : List Iv} (ha : valids a) (hb : valids b) : (sqd a b).valid := sqdFrom_valid _ _ zero_valid (zip_valid ha hb)
theorem lt_dec {i n : Nat} (h : i < n) : decide ((i : Int) < (n : Int)) = true := by simp [h]
theorem lt_decn {n : Nat} : decide ((n : Int) < (n : Int)) = false := by simp

theorem p27 (a b : List Iv) (hl : a.length ≤ b.length) (ha : valids a) (hb : valids b) (hf : few a) : (CW G20 L20).p (.func 27) [.slice .any (a.map Iv.c), .slice .any (b.map Iv.c)] = some (.agg (sqd a b).c) := by
  have hz : (a.zip b).length = a.length := by simp [List.length_zip]; omega
  have hloop := iterW_foldl (round := roundK G20 L20 (CW G20 L20) 27 none 3)
    (S := fun i (s : Iv) => ⟨sp 0 27 [(0, .slice .any (a.map Iv.c)), (1, .slice .any (b.map Iv.c)), (4, .box [.int .i64 0, .int .i64 0]), (5, .box [.int .i64 s.lo, .int .i64 s.hi]), (6, .int .i64 i)], []⟩)
    (fun s p => s.add (p.1.sub p.2).sq) Iv.valid (a.zip b) (id := 0) (fun i hi s hI => by
      have hia : i < a.length := by omega
      have hib : i < b.length := by omega
      have va := ha _ (List.getElem_mem hia)
      have vb := hb _ (List.getElem_mem hib)
      have vs := sub_valid va vb
      refine ⟨?_, ?_⟩
      · simp only [e27_3, List.length_map, lt_dec hia, getRow_map Iv.c Iv.c_len a i hia, getRow_map Iv.c Iv.c_len b i hib, asInt_i, asBool_i, asRows_i, asCells_i, asTuple_i, asBox_i, asObCells_i, asLoop_i, uncons_i, unconsO_i, isNil_i, asPtr_i, asFn_f, asFn_y, asArr_i, asObArr_t, asObArr_f, isReady_i, isBusy_i, uncons_c, uncons_sc, arrRows_i, Option.bind_some, Option.bind_none, cond_true, cond_false, cond_dec, cond_not, p58 _ _ va vb, p57 _ vs, p56 _ _ hI (sq_valid vs), wsucc i (by have := hf; unfold few at this; omega), List.getElem_zip]
      · simp only [List.getElem_zip]; exact add_valid hI (sq_valid vs))
    (fun s hI => by simp only [e27_3, List.length_map, hz, lt_decn, cond_false]) ⟨0, 0⟩ zero_valid
  rw [sqdFrom_foldl] at hloop
  refine CW_val (h := []) ?_ rfl
  rw [e27, CW_w]
  refine (bind_via hloop.1 _).trans ?_
  kernel_rfl

/-! The program's own, by a range over pairs. -/
noncomputable def R41 (a b : List Iv) : LoopA := ⟨.ready, none, (sp 0 20 [(0, .slice .any (a.map Iv.c)), (1, .slice .any (b.map Iv.c)), (5, .ptr 0 0), (8, .slice .any (a.map Iv.c)), (9, .slice .any (b.map Iv.c)), (10, .fn (.func 86) [] [.ptr 1 0, .ptr 2 0])]), 41, [11, 12], rangeAssign GP 41 5, rangeBody GP 41 5⟩
theorem h41_y (a b : List Iv) (s x y : Iv) (hs : s.valid) (hx : x.valid) (hy : y.valid) :
    (CW G20 L20).s (.yield 3) [.agg [.int .i64 x.lo, .int .i64 x.hi], .agg [.int .i64 y.lo, .int .i64 y.hi]] [.cells [.int .i64 s.lo, .int .i64 s.hi], .cells [.slice .any (a.map Iv.c)], .cells [.slice .any (b.map Iv.c)], .loop (R41 a b)] =
      some (.bool true, [.cells [.int .i64 (s.add (x.sub y).sq).lo, .int .i64 (s.add (x.sub y).sq).hi], .cells [.slice .any (a.map Iv.c)], .cells [.slice .any (b.map Iv.c)], .loop (R41 a b)]) := by
  have vs := sub_valid hx hy
  refine CW_run ?_
  refine (y41_5 _ _ _ _ _ _ _ _ _ _ _ _ _).trans ?_
  simp only [p70 _ _ hx hy, p69 _ vs, p68 _ _ hs (sq_valid vs), asInt_i, asBool_i, asRows_i, asCells_i, asTuple_i, asBox_i, asObCells_i, asLoop_i, uncons_i, unconsO_i, isNil_i, asPtr_i, asFn_f, asFn_y, asArr_i, asObArr_t, asObArr_f, isReady_i, isBusy_i, uncons_c, uncons_sc, arrRows_i, Option.bind_some, Option.bind_none, cond_true, cond_false, cond_dec, cond_not]
  rfl
theorem h41_86 (a b : List Iv) (hl : a.length ≤ b.length) (ha : valids a) (hb : valids b) (hf : few a) :
    (CW G20 L20).s (.func 86) [.fn (.yield 3) [] [], .ptr 1 0, .ptr 2 0] [.cells [.int .i64 0, .int .i64 0], .cells [.slice .any (a.map Iv.c)], .cells [.slice .any (b.map Iv.c)], .loop (R41 a b)] =
      some (.tuple [], [.cells [.int .i64 (sqd a b).lo, .int .i64 (sqd a b).hi], .cells [.slice .any (a.map Iv.c)], .cells [.slice .any (b.map Iv.c)], .loop (R41 a b)]) := by
  have hz : (a.zip b).length = a.length := by simp [List.length_zip]; omega
  have hloop := iterW_foldl (round := roundK G20 L20 (CW G20 L20) 86 none 1)
    (S := fun i (s : Iv) => ⟨(sp 0 22 [(0, .fn (.yield 3) [] []), (2, .ptr 2 0), (6, .slice .any (a.map Iv.c)), (7, .int .i64 (((a.map Iv.c).length : Nat) : Int)), (8, .int .i64 (i : Nat))]), [.cells [.int .i64 s.lo, .int .i64 s.hi], .cells [.slice .any (a.map Iv.c)], .cells [.slice .any (b.map Iv.c)], .loop (R41 a b)]⟩)
    (fun s p => s.add (p.1.sub p.2).sq) Iv.valid (a.zip b) (id := 0) (fun i hi s hI => by
      have hia : i < a.length := by omega
      have hib : i < b.length := by omega
      have va := ha _ (List.getElem_mem hia)
      have vb := hb _ (List.getElem_mem hib)
      have vs := sub_valid va vb
      refine ⟨?_, ?_⟩
      · simp only [e86_1, List.length_map, lt_dec hia, getRow_map Iv.c Iv.c_len a i hia, getRow_map Iv.c Iv.c_len b i hib, asInt_i, asBool_i, asRows_i, asCells_i, asTuple_i, asBox_i, asObCells_i, asLoop_i, uncons_i, unconsO_i, isNil_i, asPtr_i, asFn_f, asFn_y, asArr_i, asObArr_t, asObArr_f, isReady_i, isBusy_i, uncons_c, uncons_sc, arrRows_i, Option.bind_some, Option.bind_none, cond_true, cond_false, cond_dec, cond_not, h41_y a b _ _ _ hI va vb, wsucc i (by have := hf; unfold few at this; omega), List.getElem_zip]
      · simp only [List.getElem_zip]; exact add_valid hI (sq_valid vs))
    (fun s hI => by simp only [e86_1, List.length_map, hz, lt_decn, cond_false]) ⟨0, 0⟩ zero_valid
  rw [sqdFrom_foldl] at hloop
  refine CW_run ?_
  rw [s86, CW_w]
  refine (bind_via hloop.1 _).trans ?_
  kernel_rfl
theorem p41 (a b : List Iv) (hl : a.length ≤ b.length) (ha : valids a) (hb : valids b) (hf : few a) : (CW G20 L20).p (.func 41) [.slice .any (a.map Iv.c), .slice .any (b.map Iv.c)] = some (.agg (sqd a b).c) := by
  refine CW_valH (u := .agg (sqd a b).c) (h := [.cells [.int .i64 (sqd a b).lo, .int .i64 (sqd a b).hi], .cells [.slice .any (a.map Iv.c)], .cells [.slice .any (b.map Iv.c)]]) ?_ rfl
  rw [e41]
  refine (bind_via (CW_run (s67 _ 0 0 (a.map Iv.c) (b.map Iv.c))) _).trans ?_
  simp only [asInt_i, asBool_i, asRows_i, asCells_i, asTuple_i, asBox_i, asObCells_i, asLoop_i, uncons_i, unconsO_i, isNil_i, asPtr_i, asFn_f, asFn_y, asArr_i, asObArr_t, asObArr_f, isReady_i, isBusy_i, uncons_c, uncons_sc, arrRows_i, Option.bind_some, Option.bind_none, cond_true, cond_false, cond_dec, cond_not]
  refine (bind_via (h41_86 a b hl ha hb hf) _).trans ?_
  kernel_rfl

/-! Separation. -/
theorem foldE_any {α : Type} (p : α → Bool) : ∀ (l : List α) (i : Nat), (l.any p = true ∧ ∃ j, foldE (fun i (_ : Unit) a => if p a then Except.error i else .ok ()) i l () = .error j) ∨ (l.any p = false ∧ foldE (fun i (_ : Unit) a => if p a then Except.error i else .ok ()) i l () = .ok ()) := by
  intro l
  induction l with
  | nil => intro i; exact .inr ⟨rfl, rfl⟩
  | cons a l ih =>
    intro i
    simp only [foldE, List.any_cons]
    cases hp : p a with
    | true => exact .inl ⟨by simp, i, by simp⟩
    | false => simpa using ih (i + 1)
/-- A loop that looks for an element. -/
theorem iterW_any {α : Type} {round : St → Option (Ex × St)} (S : Nat → St) (T : Nat → Ex × St) (p : α → Bool) (l : List α) {id : Nat} (hT : ∀ i, (T i).1 ≠ .normal)
    (h1 : ∀ (i : Nat) (hi : i < l.length), round (S i) = if p l[i] then some (T i) else some (.normal, S (i + 1)))
    (h2 : round (S l.length) = some (.exit id, S l.length)) :
    (l.any p = true ∧ ∃ i, iterW round (S 0) = some (T i)) ∨ (l.any p = false ∧ iterW round (S 0) = some (.exit id, S l.length)) := by
  have := iterW_foldE (S := fun i (_ : Unit) => S i) (round := round) (step := fun i (_ : Unit) a => if p a then Except.error i else .ok ()) (out := T) (ex := .exit id) (fun _ _ => True) l (by simp) hT
    (fun i hi s _ => ⟨fun s' e => by
      have hr := h1 i hi
      cases hp : p l[i] with
      | true => simp [hp] at e
      | false => rw [hp] at hr; exact ⟨by simpa using hr, trivial⟩, fun b e => by
      have hr := h1 i hi
      cases hp : p l[i] with
      | true => simp [hp] at e; subst e; rw [hp] at hr; simpa using hr
      | false => simp [hp] at e⟩) (fun _ _ => h2) l 0 () rfl (Nat.zero_le _) trivial
  rcases foldE_any p l 0 with ⟨k1, j, k2⟩ | ⟨k1, k2⟩
  · rw [k2] at this; exact .inl ⟨k1, j, this.1⟩
  · rw [k2] at this; exact .inr ⟨k1, this.1⟩

def sep (a b : List Iv) (d : Int) : Bool := !(sqd a b).isW && decide ((sqd a b).lo > ce (d * d))
def gap (d : Int) (p : Iv × Iv) : Bool := !p.1.isW && (!p.2.isW && (decide (p.1.lo - p.2.hi > d) || decide (p.2.lo - p.1.hi > d)))
def sepd (a b : List Iv) (d : Int) : Bool := (a.zip b).any (gap d) || sep a b d
theorem p89 (a b : List Iv) (hl : a.length ≤ b.length) (ha : valids a) (hb : valids b) (hf : few a) (d : Int) (hd : small (d * d)) :
    (CW G20 L20).p (.func 89) [.slice .any (a.map Iv.c), .slice .any (b.map Iv.c), .int .i64 d] = some (.bool (sep a b d)) := by
  refine CW_val (h := []) ?_ rfl
  simp only [e89, p41 a b hl ha hb hf, p45 _ _ hd, p46, asInt_i, asBool_i, asRows_i, asCells_i, asTuple_i, asBox_i, asObCells_i, asLoop_i, uncons_i, unconsO_i, isNil_i, asPtr_i, asFn_f, asFn_y, asArr_i, asObArr_t, asObArr_f, isReady_i, isBusy_i, uncons_c, uncons_sc, arrRows_i, Option.bind_some, Option.bind_none, cond_true, cond_false, cond_dec, cond_not, Iv.eta, sep]
  cases (sqd a b).isW <;> simp
theorem p80 (a b : List Iv) (hl : a.length ≤ b.length) (ha : valids a) (hb : valids b) (hf : few a) (d : Int) (hd : small (d * d)) :
    (CW G20 L20).p (.func 80) [.slice .any (a.map Iv.c), .slice .any (b.map Iv.c), .int .i64 d] = some (.bool (sep a b d)) := by
  refine CW_val (h := []) ?_ rfl
  simp only [e80, p27 a b hl ha hb hf, p102 _ _ hd, p26, asInt_i, asBool_i, asRows_i, asCells_i, asTuple_i, asBox_i, asObCells_i, asLoop_i, uncons_i, unconsO_i, isNil_i, asPtr_i, asFn_f, asFn_y, asArr_i, asObArr_t, asObArr_f, isReady_i, isBusy_i, uncons_c, uncons_sc, arrRows_i, Option.bind_some, Option.bind_none, cond_true, cond_false, cond_dec, cond_not, Iv.eta, sep]
  cases (sqd a b).isW <;> simp
theorem p74 (a b : List Iv) (hl : a.length ≤ b.length) (ha : valids a) (hb : valids b) (hf : few a) (d : Int) (hd : small (d * d)) :
    (CW G20 L20).p (.func 74) [.slice .any (a.map Iv.c), .slice .any (b.map Iv.c), .int .i64 d] = some (.bool (sepd a b d)) := by
  have hz : (a.zip b).length = a.length := by simp [List.length_zip]; omega
  have hloop := iterW_any (round := roundK G20 L20 (CW G20 L20) 74 none 2)
    (S := fun i => ⟨(sp 0 49 [(0, .slice .any (a.map Iv.c)), (1, .slice .any (b.map Iv.c)), (2, .int .i64 d), (6, .bool false), (10, .slice .any (a.map Iv.c)), (11, .int .i64 (((a.map Iv.c).length : Nat) : Int)), (12, .int .i64 (i : Nat))]), []⟩)
    (T := fun i => (.ret, ⟨(sp 0 49 [(0, .slice .any (a.map Iv.c)), (1, .slice .any (b.map Iv.c)), (2, .int .i64 d), (6, .bool true), (10, .slice .any (a.map Iv.c)), (11, .int .i64 (((a.map Iv.c).length : Nat) : Int)), (12, .int .i64 (i : Nat))]), []⟩))
    (gap d) (a.zip b) (id := 0) (fun i => by simp) (fun i hi => by
      have hia : i < a.length := by omega
      have hib : i < b.length := by omega
      have va := ha _ (List.getElem_mem hia)
      have vb := hb _ (List.getElem_mem hib)
      simp only [e74_2, List.length_map, lt_dec hia, getRow_map Iv.c Iv.c_len a i hia, getRow_map Iv.c Iv.c_len b i hib, asInt_i, asBool_i, asRows_i, asCells_i, asTuple_i, asBox_i, asObCells_i, asLoop_i, uncons_i, unconsO_i, isNil_i, asPtr_i, asFn_f, asFn_y, asArr_i, asObArr_t, asObArr_f, isReady_i, isBusy_i, uncons_c, uncons_sc, arrRows_i, Option.bind_some, Option.bind_none, cond_true, cond_false, cond_dec, cond_not, p46, wsucc i (by have := hf; unfold few at this; omega), List.getElem_zip, gap, Iv.eta]
      generalize a[i] = x at *
      generalize b[i] = y at *
      rw [w64 (by have := va.2; have := vb.2; have := va.1; have := vb.1; omega) (by have := va.2; have := vb.2; have := va.1; have := vb.1; omega), w64 (by have := va.2; have := vb.2; have := va.1; have := vb.1; omega) (by have := va.2; have := vb.2; have := va.1; have := vb.1; omega)]
      have hm : ((if y.lo - x.hi > x.lo - y.hi then y.lo - x.hi else x.lo - y.hi) > d) ↔ (x.lo - y.hi > d ∨ y.lo - x.hi > d) := by split <;> omega
      cases x.isW
      · cases y.isW
        · simp only [hm, cond_false, Bool.not_false, Bool.true_and, Bool.or_eq_true, decide_eq_true_eq]
        · simp
      · simp)
    (by simp only [e74_2, List.length_map, hz, lt_decn, cond_false])
  refine CW_val (h := []) ?_ rfl
  rw [e74, CW_w]
  rcases hloop with ⟨k1, i, k2⟩ | ⟨k1, k2⟩
  · refine (bind_via k2 _).trans ?_
    simp only [sepd, k1, Bool.true_or]
    kernel_rfl
  · refine (bind_via k2 _).trans ?_
    simp only [sepd, k1, Bool.false_or]
    refine Eq.trans (b := ((CW G20 L20).p (.func 89) [.slice .any (a.map Iv.c), .slice .any (b.map Iv.c), .int .i64 d]).bind fun x10 => (asBool x10).bind fun x11 => some (.bool x11, [])) (by kernel_rfl) ?_
    rw [p89 a b hl ha hb hf d hd]; rfl
theorem p53 (a b : List Iv) (hl : a.length ≤ b.length) (ha : valids a) (hb : valids b) (hf : few a) (d : Int) (hd : small (d * d)) :
    (CW G20 L20).p (.func 53) [.slice .any (a.map Iv.c), .slice .any (b.map Iv.c), .int .i64 d] = some (.bool (sepd a b d)) := by
  have hz : (a.zip b).length = a.length := by simp [List.length_zip]; omega
  have hloop := iterW_any (round := roundK G20 L20 (CW G20 L20) 53 none 2)
    (S := fun i => ⟨(sp 0 62 [(0, .slice .any (a.map Iv.c)), (1, .slice .any (b.map Iv.c)), (2, .int .i64 d), (6, .bool false), (7, .int .i64 (i : Nat))]), []⟩)
    (T := fun i => (.ret, ⟨(sp 0 62 [(0, .slice .any (a.map Iv.c)), (1, .slice .any (b.map Iv.c)), (2, .int .i64 d), (6, .bool true), (7, .int .i64 (i : Nat))]), []⟩))
    (gap d) (a.zip b) (id := 0) (fun i => by simp) (fun i hi => by
      have hia : i < a.length := by omega
      have hib : i < b.length := by omega
      have va := ha _ (List.getElem_mem hia)
      have vb := hb _ (List.getElem_mem hib)
      simp only [e53_2, List.length_map, lt_dec hia, getRow_map Iv.c Iv.c_len a i hia, getRow_map Iv.c Iv.c_len b i hib, asInt_i, asBool_i, asRows_i, asCells_i, asTuple_i, asBox_i, asObCells_i, asLoop_i, uncons_i, unconsO_i, isNil_i, asPtr_i, asFn_f, asFn_y, asArr_i, asObArr_t, asObArr_f, isReady_i, isBusy_i, uncons_c, uncons_sc, arrRows_i, Option.bind_some, Option.bind_none, cond_true, cond_false, cond_dec, cond_not, p26, wsucc i (by have := hf; unfold few at this; omega), List.getElem_zip, gap, Iv.eta]
      generalize a[i] = x at *
      generalize b[i] = y at *
      rw [w64 (by have := va.2; have := vb.2; have := va.1; have := vb.1; omega) (by have := va.2; have := vb.2; have := va.1; have := vb.1; omega), w64 (by have := va.2; have := vb.2; have := va.1; have := vb.1; omega) (by have := va.2; have := vb.2; have := va.1; have := vb.1; omega)]
      cases x.isW
      · cases y.isW
        · by_cases c1 : x.lo - y.hi > d
          · simp [c1]
          · by_cases c2 : y.lo - x.hi > d
            · simp [c1, c2]
            · simp [c1, c2]
        · simp
      · simp)
    (by simp only [e53_2, List.length_map, hz, lt_decn, cond_false])
  refine CW_val (h := []) ?_ rfl
  rw [e53, CW_w]
  rcases hloop with ⟨k1, i, k2⟩ | ⟨k1, k2⟩
  · refine (bind_via k2 _).trans ?_
    simp only [sepd, k1, Bool.true_or]
    kernel_rfl
  · refine (bind_via k2 _).trans ?_
    simp only [sepd, k1, Bool.false_or]
    refine Eq.trans (b := ((CW G20 L20).p (.func 80) [.slice .any (a.map Iv.c), .slice .any (b.map Iv.c), .int .i64 d]).bind fun x10 => (asBool x10).bind fun x11 => some (.bool x11, [])) (by kernel_rfl) ?_
    rw [p80 a b hl ha hb hf d hd]; rfl
end Go.Ab
/- Segments; pairs of segments that overlap; conditions: none. -/
namespace Go.Ab
set_option linter.unusedVariables false
set_option linter.unusedSimpArgs false
set_option linter.unusedSimpArgs false
set_option linter.unusedVariables false

def Seg.fin (s : Seg) : Int := s.t + s.h
structure Seg.ok (s : Seg) : Prop where
  t0 : -1000000000000 ≤ s.t
  t1 : s.t ≤ 1000000000000
  h0 : 0 ≤ s.h
  h1 : s.h ≤ 1000000000000
  len : s.tube.length ≤ 3
  val : valids s.tube
def oks (l : List Seg) : Prop := ∀ s ∈ l, s.ok
def long (l : List Seg) (pos : Nat) : Prop := ∀ s ∈ l, pos ≤ s.tube.length
theorem p37 (s : Seg) (h : s.ok) : (CW G20 L20).p (.func 37) [.agg [.int .i64 s.t, .int .i64 s.h, .slice .any (s.frm.map Iv.c), .slice .any (s.pre.map Iv.c), .slice .any (s.tube.map Iv.c), .slice .any (s.to.map Iv.c)]] = some (.int .i64 s.fin) := by
  refine CW_val (h := []) ?_ rfl
  rw [e37, w64 (by have := h.t0; have := h.h0; omega) (by have := h.t1; have := h.h1; omega)]; rfl
theorem p24 (s : Seg) (h : s.ok) : (CW G20 L20).p (.func 24) [.agg [.int .i64 s.t, .int .i64 s.h, .slice .any (s.frm.map Iv.c), .slice .any (s.pre.map Iv.c), .slice .any (s.tube.map Iv.c), .slice .any (s.to.map Iv.c)]] = some (.agg [.int .i64 s.t, .int .i64 s.fin]) := by
  refine CW_val (h := []) ?_ rfl
  rw [e24, w64 (by have := h.t0; have := h.h0; omega) (by have := h.t1; have := h.h1; omega)]; rfl
/-- The common time of two segments. -/
def timeOf (s r : Seg) : Iv := ⟨if r.t > s.t then r.t else s.t, if r.fin < s.fin then r.fin else s.fin⟩
def skipB (t : Int) (b : List Seg) : List Seg := b.dropWhile fun r => decide (r.fin < t)
def meetB (e : Int) (b : List Seg) : List Seg := b.takeWhile fun r => !decide (r.t > e)
/-- The pairs of segments that overlap, as the program finds them. -/
def pairsOf : List Seg → List Seg → List (Seg × Seg)
  | [], _ => []
  | s :: a, b => (meetB s.fin (skipB s.t b)).map (fun r => (s, r)) ++ pairsOf a (skipB s.t b)
/-- Steps through pairs, till one says no. -/
def runP {σ : Type} (step : σ → Seg × Seg → σ × Bool) : σ → List (Seg × Seg) → σ × Bool
  | s, [] => (s, true)
  | s, p :: l => match (step s p).2 with
    | true => runP step (step s p).1 l
    | false => ((step s p).1, false)
theorem runP_append {σ : Type} (step : σ → Seg × Seg → σ × Bool) : ∀ (l m : List (Seg × Seg)) (s : σ), runP step s (l ++ m) = match (runP step s l).2 with
    | true => runP step (runP step s l).1 m
    | false => ((runP step s l).1, false) := by
  intro l
  induction l with
  | nil => intro m s; rfl
  | cons p l ih =>
    intro m s
    simp only [List.cons_append, runP]
    cases (step s p).2 with
    | true => exact ih m _
    | false => rfl
theorem skipB_suffix (t : Int) (b : List Seg) : b.drop (b.length - (skipB t b).length) = skipB t b := by
  induction b with
  | nil => rfl
  | cons r b ih =>
    unfold skipB at ih ⊢
    simp only [List.dropWhile_cons]
    split
    · have hle : (List.dropWhile (fun r => decide (r.fin < t)) b).length ≤ b.length := (List.dropWhile_sublist _).length_le
      rw [show (r :: b).length - (List.dropWhile (fun r => decide (r.fin < t)) b).length = (b.length - (List.dropWhile (fun r => decide (r.fin < t)) b).length) + 1 by simp only [List.length_cons]; omega]
      exact ih
    · simp
theorem skipB_len (t : Int) (b : List Seg) : (skipB t b).length ≤ b.length := (List.dropWhile_sublist _).length_le
theorem drop_skip {b : List Seg} {first : Nat} (h : first ≤ b.length) (t : Int) : b.drop (b.length - (skipB t (b.drop first)).length) = skipB t (b.drop first) := by
  have h1 := skipB_suffix t (b.drop first)
  have h2 := skipB_len t (b.drop first)
  rw [List.drop_drop, List.length_drop] at h1
  rw [List.length_drop] at h2
  rw [show first + (b.length - first - (skipB t (b.drop first)).length) = b.length - (skipB t (b.drop first)).length by omega] at h1
  exact h1
theorem headIs_map (l : List Seg) : headIs 6 (l.map Seg.c) = true := by cases l <;> rfl
theorem nn_dec (n : Nat) : decide ((0 : Int) ≤ (n : Int)) = true := by simp
theorem getS (l : List Seg) (i : Nat) (h : i < l.length) : getRow (l.map Seg.c) (i : Int) 6 = some l[i].c := getRow_map Seg.c Seg.c_len l i h
end Go.Ab
/- The range over overlapping pairs in MinDistance; conditions: none. -/
namespace Go.Ab
set_option linter.unusedVariables false
set_option linter.unusedSimpArgs false
set_option linter.unusedSimpArgs false
set_option linter.unusedVariables false
structure MD where
  c1 : Iv
  c2 : Iv
  f : Bool
noncomputable def R15 (a b : List Seg) (pos : Int) : LoopA := ⟨.ready, none, (sp 0 38 [(0, .slice .any (a.map Seg.c)), (1, .slice .any (b.map Seg.c)), (2, .int .i64 pos), (5, .ptr 0 0), (7, .bool false), (8, .ptr 1 0), (9, .ptr 3 0), (10, .ptr 4 0), (12, .fn (.func 65) [] [.ptr 2 0]), (13, .slice .any (a.map Seg.c)), (14, .slice .any (b.map Seg.c)), (15, .fn (.func 66) [] [.ptr 5 0, .ptr 6 0])]), 15, [16], rangeAssign GP 15 5, rangeBody GP 15 5⟩
set_option maxRecDepth 100000 in
theorem ov15_7 (pos : Nat) (a b : List Seg) (ha : oks a) (hb : oks b) (hA : a.length ≤ 1000000) (hB : b.length ≤ 1000000) (step : MD → Seg × Seg → MD × Bool) (Inv : List (Seg × Seg) → MD → Prop)
    (hy : ∀ (x r : Seg) (l : List (Seg × Seg)) (s : MD), x ∈ a → r ∈ b → Inv ((x, r) :: l) s → (CW G20 L20).s (.yield 7) [.agg [.int .i64 x.t, .int .i64 x.h, .slice .any (x.frm.map Iv.c), .slice .any (x.pre.map Iv.c), .slice .any (x.tube.map Iv.c), .slice .any (x.to.map Iv.c), .int .i64 r.t, .int .i64 r.h, .slice .any (r.frm.map Iv.c), .slice .any (r.pre.map Iv.c), .slice .any (r.tube.map Iv.c), .slice .any (r.to.map Iv.c), .int .i64 (if r.t > x.t then r.t else x.t), .int .i64 (if r.fin < x.fin then r.fin else x.fin)]] [.cells [.int .i64 ((pos : Nat) : Int)], .cells [.int .i64 s.c1.lo, .int .i64 s.c1.hi], .cells [.int .i64 s.c2.lo, .int .i64 s.c2.hi], .cells [.bool s.f], .cells [.fn (.func 65) [] [.ptr 2 0]], .cells [.slice .any (a.map Seg.c)], .cells [.slice .any (b.map Seg.c)], .loop (R15 a b ((pos : Nat) : Int))] = some (.bool (step s (x, r)).2, [.cells [.int .i64 ((pos : Nat) : Int)], .cells [.int .i64 (step s (x, r)).1.c1.lo, .int .i64 (step s (x, r)).1.c1.hi], .cells [.int .i64 (step s (x, r)).1.c2.lo, .int .i64 (step s (x, r)).1.c2.hi], .cells [.bool (step s (x, r)).1.f], .cells [.fn (.func 65) [] [.ptr 2 0]], .cells [.slice .any (a.map Seg.c)], .cells [.slice .any (b.map Seg.c)], .loop (R15 a b ((pos : Nat) : Int))]) ∧ ((step s (x, r)).2 = true → Inv l (step s (x, r)).1)) (x : Seg) (hx : x ∈ a) (first i : Nat) (rest : List (Seg × Seg)) :
    ∀ (k : List Seg) (j : Nat) (s : MD), (b.drop first).drop j = k → j ≤ (b.drop first).length → Inv (((meetB x.fin k).map fun r => (x, r)) ++ rest) s →
    ∃ e j', iterW (roundK G20 L20 (CW G20 L20) 66 none 7) ⟨(sp 0 63 [(0, .fn (.yield 7) [] []), (2, .ptr 6 0), (4, .int .i64 ((first : Nat) : Int)), (6, .box [.int .i64 x.t, .int .i64 x.h, .slice .any (x.frm.map Iv.c), .slice .any (x.pre.map Iv.c), .slice .any (x.tube.map Iv.c), .slice .any (x.to.map Iv.c)]), (9, .slice .any (a.map Seg.c)), (10, .int .i64 ((a.length : Nat) : Int)), (11, .int .i64 ((i : Nat) : Int)), (33, .slice .any ((b.drop first).map Seg.c)), (34, .int .i64 (((b.drop first).length : Nat) : Int)), (35, .int .i64 ((j : Nat) : Int))]), [.cells [.int .i64 ((pos : Nat) : Int)], .cells [.int .i64 s.c1.lo, .int .i64 s.c1.hi], .cells [.int .i64 s.c2.lo, .int .i64 s.c2.hi], .cells [.bool s.f], .cells [.fn (.func 65) [] [.ptr 2 0]], .cells [.slice .any (a.map Seg.c)], .cells [.slice .any (b.map Seg.c)], .loop (R15 a b ((pos : Nat) : Int))]⟩ = some (e, ⟨(sp 0 63 [(0, .fn (.yield 7) [] []), (2, .ptr 6 0), (4, .int .i64 ((first : Nat) : Int)), (6, .box [.int .i64 x.t, .int .i64 x.h, .slice .any (x.frm.map Iv.c), .slice .any (x.pre.map Iv.c), .slice .any (x.tube.map Iv.c), .slice .any (x.to.map Iv.c)]), (9, .slice .any (a.map Seg.c)), (10, .int .i64 ((a.length : Nat) : Int)), (11, .int .i64 ((i : Nat) : Int)), (33, .slice .any ((b.drop first).map Seg.c)), (34, .int .i64 (((b.drop first).length : Nat) : Int)), (35, .int .i64 ((j' : Nat) : Int))]), [.cells [.int .i64 ((pos : Nat) : Int)], .cells [.int .i64 (runP step s ((meetB x.fin k).map fun r => (x, r))).1.c1.lo, .int .i64 (runP step s ((meetB x.fin k).map fun r => (x, r))).1.c1.hi], .cells [.int .i64 (runP step s ((meetB x.fin k).map fun r => (x, r))).1.c2.lo, .int .i64 (runP step s ((meetB x.fin k).map fun r => (x, r))).1.c2.hi], .cells [.bool (runP step s ((meetB x.fin k).map fun r => (x, r))).1.f], .cells [.fn (.func 65) [] [.ptr 2 0]], .cells [.slice .any (a.map Seg.c)], .cells [.slice .any (b.map Seg.c)], .loop (R15 a b ((pos : Nat) : Int))]⟩) ∧ ((runP step s ((meetB x.fin k).map fun r => (x, r))).2 = true → e = .exit 4 ∨ e = .exit 1) ∧ ((runP step s ((meetB x.fin k).map fun r => (x, r))).2 = false → e = .ret) ∧ ((runP step s ((meetB x.fin k).map fun r => (x, r))).2 = true → Inv rest (runP step s ((meetB x.fin k).map fun r => (x, r))).1) := by
  have hxo := ha x hx
  have hlen : (b.drop first).length ≤ 1000000 := by rw [List.length_drop]; omega
  intro k
  induction k with
  | nil =>
    intro j s hk hj hI
    have hjl : j = (b.drop first).length := by have := List.drop_eq_nil_iff.1 hk; omega
    subst hjl
    refine ⟨.exit 4, (b.drop first).length, ?_, fun _ => .inl rfl, (fun h => by cases h), fun _ => hI⟩
    rw [iterW_eq]
    simp only [e66_7, lt_decn, cond_false, meetB, List.takeWhile_nil, List.map_nil, runP]
  | cons r k ih =>
    intro j s hk hj hI
    have hil : j < (b.drop first).length := by
      apply Nat.lt_of_not_le
      intro hle
      rw [List.drop_eq_nil_iff.2 hle] at hk; cases hk
    have hd := List.drop_eq_getElem_cons hil
    rw [hk] at hd
    injection hd with hr hk'
    have hrm : r ∈ b := by rw [hr]; exact List.mem_of_mem_drop (List.getElem_mem hil)
    rw [iterW_eq]
    by_cases hc : r.t > x.fin
    · have hm : meetB x.fin (r :: k) = [] := by simp [meetB, hc]
      rw [hm] at hI ⊢
      refine ⟨.exit 1, j, ?_, fun _ => .inr rfl, (fun h => by cases h), fun _ => hI⟩
      simp only [e66_7, lt_dec hil, getS _ j hil, ← hr, asInt_i, asBool_i, asRows_i, asCells_i, asTuple_i, asBox_i, asObCells_i, asLoop_i, uncons_i, unconsO_i, isNil_i, asPtr_i, asFn_f, asFn_y, asArr_i, asObArr_t, asObArr_f, isReady_i, isBusy_i, uncons_c, uncons_sc, arrRows_i, Option.bind_some, Option.bind_none, cond_true, cond_false, cond_dec, cond_not, p37 x hxo, hc, if_true, List.map_nil, runP]
    · have hm : meetB x.fin (r :: k) = r :: meetB x.fin k := by simp [meetB, hc]
      have hI2 := hI
      rw [hm] at hI2
      obtain ⟨y1, y2⟩ := hy x r (((meetB x.fin k).map fun r => (x, r)) ++ rest) s hx hrm hI2
      cases hst : (step s (x, r)).2 with
      | true =>
        obtain ⟨e, j', g1, g2, g3, g4⟩ := ih (j + 1) (step s (x, r)).1 hk'.symm (by omega) (y2 hst)
        have hrun : runP step s ((meetB x.fin (r :: k)).map fun r => (x, r)) = runP step (step s (x, r)).1 ((meetB x.fin k).map fun r => (x, r)) := by rw [hm]; simp only [List.map_cons, runP, hst]
        rw [hrun]
        refine ⟨e, j', ?_, g2, g3, g4⟩
        rw [hst] at y1
        simp only [e66_7, lt_dec hil, getS _ j hil, ← hr, asInt_i, asBool_i, asRows_i, asCells_i, asTuple_i, asBox_i, asObCells_i, asLoop_i, uncons_i, unconsO_i, isNil_i, asPtr_i, asFn_f, asFn_y, asArr_i, asObArr_t, asObArr_f, isReady_i, isBusy_i, uncons_c, uncons_sc, arrRows_i, Option.bind_some, Option.bind_none, cond_true, cond_false, cond_dec, cond_not, p37 x hxo, p37 r (hb r hrm), hc, if_false, y1, Bool.not_true, wsucc j (by omega)]
        exact g1
      | false =>
        have hrun : runP step s ((meetB x.fin (r :: k)).map fun r => (x, r)) = ((step s (x, r)).1, false) := by rw [hm]; simp only [List.map_cons, runP, hst]
        rw [hrun]
        rw [hst] at y1
        refine ⟨.ret, j, ?_, (fun h => by cases h), fun _ => rfl, fun h => by cases h⟩
        simp only [e66_7, lt_dec hil, getS _ j hil, ← hr, asInt_i, asBool_i, asRows_i, asCells_i, asTuple_i, asBox_i, asObCells_i, asLoop_i, uncons_i, unconsO_i, isNil_i, asPtr_i, asFn_f, asFn_y, asArr_i, asObArr_t, asObArr_f, isReady_i, isBusy_i, uncons_c, uncons_sc, arrRows_i, Option.bind_some, Option.bind_none, cond_true, cond_false, cond_dec, cond_not, p37 x hxo, p37 r (hb r hrm), hc, if_false, y1, Bool.not_false]

theorem ov15_4 (pos : Nat) (a b : List Seg) (hb : oks b) (hB : b.length ≤ 1000000) (x : Seg) (i : Nat) (s : MD) :
    ∀ (k : List Seg) (first : Nat), b.drop first = k → first ≤ b.length →
    iterW (roundK G20 L20 (CW G20 L20) 66 none 4) ⟨(sp 0 63 [(0, .fn (.yield 7) [] []), (2, .ptr 6 0), (4, .int .i64 ((first : Nat) : Int)), (6, .box [.int .i64 x.t, .int .i64 x.h, .slice .any (x.frm.map Iv.c), .slice .any (x.pre.map Iv.c), .slice .any (x.tube.map Iv.c), .slice .any (x.to.map Iv.c)]), (9, .slice .any (a.map Seg.c)), (10, .int .i64 ((a.length : Nat) : Int)), (11, .int .i64 ((i : Nat) : Int))]), [.cells [.int .i64 ((pos : Nat) : Int)], .cells [.int .i64 s.c1.lo, .int .i64 s.c1.hi], .cells [.int .i64 s.c2.lo, .int .i64 s.c2.hi], .cells [.bool s.f], .cells [.fn (.func 65) [] [.ptr 2 0]], .cells [.slice .any (a.map Seg.c)], .cells [.slice .any (b.map Seg.c)], .loop (R15 a b ((pos : Nat) : Int))]⟩ = some (.exit 2, ⟨(sp 0 63 [(0, .fn (.yield 7) [] []), (2, .ptr 6 0), (4, .int .i64 (((b.length - (skipB x.t k).length) : Nat) : Int)), (6, .box [.int .i64 x.t, .int .i64 x.h, .slice .any (x.frm.map Iv.c), .slice .any (x.pre.map Iv.c), .slice .any (x.tube.map Iv.c), .slice .any (x.to.map Iv.c)]), (9, .slice .any (a.map Seg.c)), (10, .int .i64 ((a.length : Nat) : Int)), (11, .int .i64 ((i : Nat) : Int))]), [.cells [.int .i64 ((pos : Nat) : Int)], .cells [.int .i64 s.c1.lo, .int .i64 s.c1.hi], .cells [.int .i64 s.c2.lo, .int .i64 s.c2.hi], .cells [.bool s.f], .cells [.fn (.func 65) [] [.ptr 2 0]], .cells [.slice .any (a.map Seg.c)], .cells [.slice .any (b.map Seg.c)], .loop (R15 a b ((pos : Nat) : Int))]⟩) := by
  intro k
  induction k with
  | nil =>
    intro first hk hf
    have hjl : first = b.length := by have := List.drop_eq_nil_iff.1 hk; omega
    subst hjl
    rw [iterW_eq]
    simp only [e66_4, List.length_map, lt_decn, cond_false, skipB, List.dropWhile_nil, List.length_nil, Nat.sub_zero]
  | cons r k ih =>
    intro first hk hf
    have hil : first < b.length := by
      apply Nat.lt_of_not_le
      intro hle
      rw [List.drop_eq_nil_iff.2 hle] at hk; cases hk
    have hd := List.drop_eq_getElem_cons hil
    have hlk : (b.drop first).length = (r :: k).length := by rw [hk]
    rw [hk] at hd
    injection hd with hr hk'
    have hrm : r ∈ b := by rw [hr]; exact List.getElem_mem hil
    rw [iterW_eq]
    by_cases hc : r.fin < x.t
    · have hs : skipB x.t (r :: k) = skipB x.t k := by simp [skipB, hc]
      rw [hs]
      simp only [e66_4, List.length_map, lt_dec hil, getS _ first hil, ← hr, asInt_i, asBool_i, asRows_i, asCells_i, asTuple_i, asBox_i, asObCells_i, asLoop_i, uncons_i, unconsO_i, isNil_i, asPtr_i, asFn_f, asFn_y, asArr_i, asObArr_t, asObArr_f, isReady_i, isBusy_i, uncons_c, uncons_sc, arrRows_i, Option.bind_some, Option.bind_none, cond_true, cond_false, cond_dec, cond_not, p37 r (hb r hrm), hc, if_true, wsucc first (by omega)]
      exact ih (first + 1) hk'.symm hil
    · have hs : skipB x.t (r :: k) = r :: k := by simp [skipB, hc]
      have he : b.length - (skipB x.t (r :: k)).length = first := by rw [hs, ← hlk, List.length_drop]; omega
      rw [he]
      simp only [e66_4, List.length_map, lt_dec hil, getS _ first hil, ← hr, asInt_i, asBool_i, asRows_i, asCells_i, asTuple_i, asBox_i, asObCells_i, asLoop_i, uncons_i, unconsO_i, isNil_i, asPtr_i, asFn_f, asFn_y, asArr_i, asObArr_t, asObArr_f, isReady_i, isBusy_i, uncons_c, uncons_sc, arrRows_i, Option.bind_some, Option.bind_none, cond_true, cond_false, cond_dec, cond_not, p37 r (hb r hrm), hc, if_false]

set_option maxRecDepth 100000 in
theorem ov15_2 (pos : Nat) (a b : List Seg) (ha : oks a) (hb : oks b) (hA : a.length ≤ 1000000) (hB : b.length ≤ 1000000) (step : MD → Seg × Seg → MD × Bool) (Inv : List (Seg × Seg) → MD → Prop)
    (hy : ∀ (x r : Seg) (l : List (Seg × Seg)) (s : MD), x ∈ a → r ∈ b → Inv ((x, r) :: l) s → (CW G20 L20).s (.yield 7) [.agg [.int .i64 x.t, .int .i64 x.h, .slice .any (x.frm.map Iv.c), .slice .any (x.pre.map Iv.c), .slice .any (x.tube.map Iv.c), .slice .any (x.to.map Iv.c), .int .i64 r.t, .int .i64 r.h, .slice .any (r.frm.map Iv.c), .slice .any (r.pre.map Iv.c), .slice .any (r.tube.map Iv.c), .slice .any (r.to.map Iv.c), .int .i64 (if r.t > x.t then r.t else x.t), .int .i64 (if r.fin < x.fin then r.fin else x.fin)]] [.cells [.int .i64 ((pos : Nat) : Int)], .cells [.int .i64 s.c1.lo, .int .i64 s.c1.hi], .cells [.int .i64 s.c2.lo, .int .i64 s.c2.hi], .cells [.bool s.f], .cells [.fn (.func 65) [] [.ptr 2 0]], .cells [.slice .any (a.map Seg.c)], .cells [.slice .any (b.map Seg.c)], .loop (R15 a b ((pos : Nat) : Int))] = some (.bool (step s (x, r)).2, [.cells [.int .i64 ((pos : Nat) : Int)], .cells [.int .i64 (step s (x, r)).1.c1.lo, .int .i64 (step s (x, r)).1.c1.hi], .cells [.int .i64 (step s (x, r)).1.c2.lo, .int .i64 (step s (x, r)).1.c2.hi], .cells [.bool (step s (x, r)).1.f], .cells [.fn (.func 65) [] [.ptr 2 0]], .cells [.slice .any (a.map Seg.c)], .cells [.slice .any (b.map Seg.c)], .loop (R15 a b ((pos : Nat) : Int))]) ∧ ((step s (x, r)).2 = true → Inv l (step s (x, r)).1)) :
    ∀ (k : List Seg) (i first : Nat) (s : MD), a.drop i = k → i ≤ a.length → first ≤ b.length → Inv (pairsOf k (b.drop first)) s →
    ∃ e i' f', iterW (roundK G20 L20 (CW G20 L20) 66 none 2) ⟨(sp 0 63 [(0, .fn (.yield 7) [] []), (2, .ptr 6 0), (4, .int .i64 ((first : Nat) : Int)), (9, .slice .any (a.map Seg.c)), (10, .int .i64 ((a.length : Nat) : Int)), (11, .int .i64 ((i : Nat) : Int))]), [.cells [.int .i64 ((pos : Nat) : Int)], .cells [.int .i64 s.c1.lo, .int .i64 s.c1.hi], .cells [.int .i64 s.c2.lo, .int .i64 s.c2.hi], .cells [.bool s.f], .cells [.fn (.func 65) [] [.ptr 2 0]], .cells [.slice .any (a.map Seg.c)], .cells [.slice .any (b.map Seg.c)], .loop (R15 a b ((pos : Nat) : Int))]⟩ = some (e, ⟨(sp 0 63 [(0, .fn (.yield 7) [] []), (2, .ptr 6 0), (4, .int .i64 ((f' : Nat) : Int)), (9, .slice .any (a.map Seg.c)), (10, .int .i64 ((a.length : Nat) : Int)), (11, .int .i64 ((i' : Nat) : Int))]), [.cells [.int .i64 ((pos : Nat) : Int)], .cells [.int .i64 (runP step s (pairsOf k (b.drop first))).1.c1.lo, .int .i64 (runP step s (pairsOf k (b.drop first))).1.c1.hi], .cells [.int .i64 (runP step s (pairsOf k (b.drop first))).1.c2.lo, .int .i64 (runP step s (pairsOf k (b.drop first))).1.c2.hi], .cells [.bool (runP step s (pairsOf k (b.drop first))).1.f], .cells [.fn (.func 65) [] [.ptr 2 0]], .cells [.slice .any (a.map Seg.c)], .cells [.slice .any (b.map Seg.c)], .loop (R15 a b ((pos : Nat) : Int))]⟩) ∧ ((runP step s (pairsOf k (b.drop first))).2 = true → e = .exit 0) ∧ ((runP step s (pairsOf k (b.drop first))).2 = false → e = .ret) ∧ ((runP step s (pairsOf k (b.drop first))).2 = true → Inv [] (runP step s (pairsOf k (b.drop first))).1) := by
  intro k
  induction k with
  | nil =>
    intro i first s hk hj hf hI
    have hjl : i = a.length := by have := List.drop_eq_nil_iff.1 hk; omega
    subst hjl
    refine ⟨.exit 0, a.length, first, ?_, fun _ => rfl, (fun h => by cases h), fun _ => hI⟩
    rw [iterW_eq]
    rw [e66_2]
    simp only [lt_decn, cond_false, pairsOf, runP]
  | cons x k ih =>
    intro i first s hk hj hf hI
    have hil : i < a.length := by
      apply Nat.lt_of_not_le
      intro hle
      rw [List.drop_eq_nil_iff.2 hle] at hk; cases hk
    have hd := List.drop_eq_getElem_cons hil
    rw [hk] at hd
    injection hd with hr hk'
    have hxm : x ∈ a := by rw [hr]; exact List.getElem_mem hil
    have h4 := ov15_4 pos a b hb hB x i s (b.drop first) first rfl hf
    have hdr := drop_skip hf x.t
    generalize hnf : b.length - (skipB x.t (b.drop first)).length = nf at h4 hdr
    have hnl : nf ≤ b.length := by omega
    have hpo : pairsOf (x :: k) (b.drop first) = (meetB x.fin (b.drop nf)).map (fun r => (x, r)) ++ pairsOf k (b.drop nf) := by simp only [pairsOf, hdr]
    rw [hpo] at hI
    obtain ⟨e, j', g1, g2, g3, g4⟩ := ov15_7 pos a b ha hb hA hB step Inv hy x hxm nf i (pairsOf k (b.drop nf)) (b.drop nf) 0 s rfl (Nat.zero_le _) hI
    rw [hpo, runP_append]
    generalize hrn : runP step s ((meetB x.fin (b.drop nf)).map fun r => (x, r)) = rn at g1 g2 g3 g4
    obtain ⟨s', go⟩ := rn
    simp only at g1 g2 g3 g4
    have hz : ((0 : Nat) : Int) = 0 := rfl
    rw [hz] at g1
    have hnn : (0 : Int) ≤ (nf : Int) := Int.natCast_nonneg nf
    have n7_0 : nth (sp 0 63 [(0, .fn (.yield 7) [] []), (2, .ptr 6 0), (4, .int .i64 ((nf : Nat) : Int)), (6, .box [.int .i64 x.t, .int .i64 x.h, .slice .any (x.frm.map Iv.c), .slice .any (x.pre.map Iv.c), .slice .any (x.tube.map Iv.c), .slice .any (x.to.map Iv.c)]), (9, .slice .any (a.map Seg.c)), (10, .int .i64 ((a.length : Nat) : Int)), (11, .int .i64 ((i : Nat) : Int))]) 0 = .fn (.yield 7) [] [] := rfl
    have n7_2 : nth (sp 0 63 [(0, .fn (.yield 7) [] []), (2, .ptr 6 0), (4, .int .i64 ((nf : Nat) : Int)), (6, .box [.int .i64 x.t, .int .i64 x.h, .slice .any (x.frm.map Iv.c), .slice .any (x.pre.map Iv.c), .slice .any (x.tube.map Iv.c), .slice .any (x.to.map Iv.c)]), (9, .slice .any (a.map Seg.c)), (10, .int .i64 ((a.length : Nat) : Int)), (11, .int .i64 ((i : Nat) : Int))]) 2 = .ptr 6 0 := rfl
    have n7_4 : nth (sp 0 63 [(0, .fn (.yield 7) [] []), (2, .ptr 6 0), (4, .int .i64 ((nf : Nat) : Int)), (6, .box [.int .i64 x.t, .int .i64 x.h, .slice .any (x.frm.map Iv.c), .slice .any (x.pre.map Iv.c), .slice .any (x.tube.map Iv.c), .slice .any (x.to.map Iv.c)]), (9, .slice .any (a.map Seg.c)), (10, .int .i64 ((a.length : Nat) : Int)), (11, .int .i64 ((i : Nat) : Int))]) 4 = .int .i64 ((nf : Nat) : Int) := rfl
    have n7_6 : nth (sp 0 63 [(0, .fn (.yield 7) [] []), (2, .ptr 6 0), (4, .int .i64 ((nf : Nat) : Int)), (6, .box [.int .i64 x.t, .int .i64 x.h, .slice .any (x.frm.map Iv.c), .slice .any (x.pre.map Iv.c), .slice .any (x.tube.map Iv.c), .slice .any (x.to.map Iv.c)]), (9, .slice .any (a.map Seg.c)), (10, .int .i64 ((a.length : Nat) : Int)), (11, .int .i64 ((i : Nat) : Int))]) 6 = .box [.int .i64 x.t, .int .i64 x.h, .slice .any (x.frm.map Iv.c), .slice .any (x.pre.map Iv.c), .slice .any (x.tube.map Iv.c), .slice .any (x.to.map Iv.c)] := rfl
    have n7_9 : nth (sp 0 63 [(0, .fn (.yield 7) [] []), (2, .ptr 6 0), (4, .int .i64 ((nf : Nat) : Int)), (6, .box [.int .i64 x.t, .int .i64 x.h, .slice .any (x.frm.map Iv.c), .slice .any (x.pre.map Iv.c), .slice .any (x.tube.map Iv.c), .slice .any (x.to.map Iv.c)]), (9, .slice .any (a.map Seg.c)), (10, .int .i64 ((a.length : Nat) : Int)), (11, .int .i64 ((i : Nat) : Int))]) 9 = .slice .any (a.map Seg.c) := rfl
    have n7_10 : nth (sp 0 63 [(0, .fn (.yield 7) [] []), (2, .ptr 6 0), (4, .int .i64 ((nf : Nat) : Int)), (6, .box [.int .i64 x.t, .int .i64 x.h, .slice .any (x.frm.map Iv.c), .slice .any (x.pre.map Iv.c), .slice .any (x.tube.map Iv.c), .slice .any (x.to.map Iv.c)]), (9, .slice .any (a.map Seg.c)), (10, .int .i64 ((a.length : Nat) : Int)), (11, .int .i64 ((i : Nat) : Int))]) 10 = .int .i64 ((a.length : Nat) : Int) := rfl
    have n7_11 : nth (sp 0 63 [(0, .fn (.yield 7) [] []), (2, .ptr 6 0), (4, .int .i64 ((nf : Nat) : Int)), (6, .box [.int .i64 x.t, .int .i64 x.h, .slice .any (x.frm.map Iv.c), .slice .any (x.pre.map Iv.c), .slice .any (x.tube.map Iv.c), .slice .any (x.to.map Iv.c)]), (9, .slice .any (a.map Seg.c)), (10, .int .i64 ((a.length : Nat) : Int)), (11, .int .i64 ((i : Nat) : Int))]) 11 = .int .i64 ((i : Nat) : Int) := rfl
    have n10_0 : nth (sp 0 63 [(0, .fn (.yield 7) [] []), (2, .ptr 6 0), (4, .int .i64 ((nf : Nat) : Int)), (6, .box [.int .i64 x.t, .int .i64 x.h, .slice .any (x.frm.map Iv.c), .slice .any (x.pre.map Iv.c), .slice .any (x.tube.map Iv.c), .slice .any (x.to.map Iv.c)]), (9, .slice .any (a.map Seg.c)), (10, .int .i64 ((a.length : Nat) : Int)), (11, .int .i64 ((i : Nat) : Int)), (33, .slice .any ((b.drop nf).map Seg.c)), (34, .int .i64 (((b.drop nf).length : Nat) : Int)), (35, .int .i64 ((j' : Nat) : Int))]) 0 = .fn (.yield 7) [] [] := rfl
    have n10_2 : nth (sp 0 63 [(0, .fn (.yield 7) [] []), (2, .ptr 6 0), (4, .int .i64 ((nf : Nat) : Int)), (6, .box [.int .i64 x.t, .int .i64 x.h, .slice .any (x.frm.map Iv.c), .slice .any (x.pre.map Iv.c), .slice .any (x.tube.map Iv.c), .slice .any (x.to.map Iv.c)]), (9, .slice .any (a.map Seg.c)), (10, .int .i64 ((a.length : Nat) : Int)), (11, .int .i64 ((i : Nat) : Int)), (33, .slice .any ((b.drop nf).map Seg.c)), (34, .int .i64 (((b.drop nf).length : Nat) : Int)), (35, .int .i64 ((j' : Nat) : Int))]) 2 = .ptr 6 0 := rfl
    have n10_4 : nth (sp 0 63 [(0, .fn (.yield 7) [] []), (2, .ptr 6 0), (4, .int .i64 ((nf : Nat) : Int)), (6, .box [.int .i64 x.t, .int .i64 x.h, .slice .any (x.frm.map Iv.c), .slice .any (x.pre.map Iv.c), .slice .any (x.tube.map Iv.c), .slice .any (x.to.map Iv.c)]), (9, .slice .any (a.map Seg.c)), (10, .int .i64 ((a.length : Nat) : Int)), (11, .int .i64 ((i : Nat) : Int)), (33, .slice .any ((b.drop nf).map Seg.c)), (34, .int .i64 (((b.drop nf).length : Nat) : Int)), (35, .int .i64 ((j' : Nat) : Int))]) 4 = .int .i64 ((nf : Nat) : Int) := rfl
    have n10_6 : nth (sp 0 63 [(0, .fn (.yield 7) [] []), (2, .ptr 6 0), (4, .int .i64 ((nf : Nat) : Int)), (6, .box [.int .i64 x.t, .int .i64 x.h, .slice .any (x.frm.map Iv.c), .slice .any (x.pre.map Iv.c), .slice .any (x.tube.map Iv.c), .slice .any (x.to.map Iv.c)]), (9, .slice .any (a.map Seg.c)), (10, .int .i64 ((a.length : Nat) : Int)), (11, .int .i64 ((i : Nat) : Int)), (33, .slice .any ((b.drop nf).map Seg.c)), (34, .int .i64 (((b.drop nf).length : Nat) : Int)), (35, .int .i64 ((j' : Nat) : Int))]) 6 = .box [.int .i64 x.t, .int .i64 x.h, .slice .any (x.frm.map Iv.c), .slice .any (x.pre.map Iv.c), .slice .any (x.tube.map Iv.c), .slice .any (x.to.map Iv.c)] := rfl
    have n10_9 : nth (sp 0 63 [(0, .fn (.yield 7) [] []), (2, .ptr 6 0), (4, .int .i64 ((nf : Nat) : Int)), (6, .box [.int .i64 x.t, .int .i64 x.h, .slice .any (x.frm.map Iv.c), .slice .any (x.pre.map Iv.c), .slice .any (x.tube.map Iv.c), .slice .any (x.to.map Iv.c)]), (9, .slice .any (a.map Seg.c)), (10, .int .i64 ((a.length : Nat) : Int)), (11, .int .i64 ((i : Nat) : Int)), (33, .slice .any ((b.drop nf).map Seg.c)), (34, .int .i64 (((b.drop nf).length : Nat) : Int)), (35, .int .i64 ((j' : Nat) : Int))]) 9 = .slice .any (a.map Seg.c) := rfl
    have n10_10 : nth (sp 0 63 [(0, .fn (.yield 7) [] []), (2, .ptr 6 0), (4, .int .i64 ((nf : Nat) : Int)), (6, .box [.int .i64 x.t, .int .i64 x.h, .slice .any (x.frm.map Iv.c), .slice .any (x.pre.map Iv.c), .slice .any (x.tube.map Iv.c), .slice .any (x.to.map Iv.c)]), (9, .slice .any (a.map Seg.c)), (10, .int .i64 ((a.length : Nat) : Int)), (11, .int .i64 ((i : Nat) : Int)), (33, .slice .any ((b.drop nf).map Seg.c)), (34, .int .i64 (((b.drop nf).length : Nat) : Int)), (35, .int .i64 ((j' : Nat) : Int))]) 10 = .int .i64 ((a.length : Nat) : Int) := rfl
    have n10_11 : nth (sp 0 63 [(0, .fn (.yield 7) [] []), (2, .ptr 6 0), (4, .int .i64 ((nf : Nat) : Int)), (6, .box [.int .i64 x.t, .int .i64 x.h, .slice .any (x.frm.map Iv.c), .slice .any (x.pre.map Iv.c), .slice .any (x.tube.map Iv.c), .slice .any (x.to.map Iv.c)]), (9, .slice .any (a.map Seg.c)), (10, .int .i64 ((a.length : Nat) : Int)), (11, .int .i64 ((i : Nat) : Int)), (33, .slice .any ((b.drop nf).map Seg.c)), (34, .int .i64 (((b.drop nf).length : Nat) : Int)), (35, .int .i64 ((j' : Nat) : Int))]) 11 = .int .i64 ((i : Nat) : Int) := rfl
    have n10_33 : nth (sp 0 63 [(0, .fn (.yield 7) [] []), (2, .ptr 6 0), (4, .int .i64 ((nf : Nat) : Int)), (6, .box [.int .i64 x.t, .int .i64 x.h, .slice .any (x.frm.map Iv.c), .slice .any (x.pre.map Iv.c), .slice .any (x.tube.map Iv.c), .slice .any (x.to.map Iv.c)]), (9, .slice .any (a.map Seg.c)), (10, .int .i64 ((a.length : Nat) : Int)), (11, .int .i64 ((i : Nat) : Int)), (33, .slice .any ((b.drop nf).map Seg.c)), (34, .int .i64 (((b.drop nf).length : Nat) : Int)), (35, .int .i64 ((j' : Nat) : Int))]) 33 = .slice .any ((b.drop nf).map Seg.c) := rfl
    have n10_34 : nth (sp 0 63 [(0, .fn (.yield 7) [] []), (2, .ptr 6 0), (4, .int .i64 ((nf : Nat) : Int)), (6, .box [.int .i64 x.t, .int .i64 x.h, .slice .any (x.frm.map Iv.c), .slice .any (x.pre.map Iv.c), .slice .any (x.tube.map Iv.c), .slice .any (x.to.map Iv.c)]), (9, .slice .any (a.map Seg.c)), (10, .int .i64 ((a.length : Nat) : Int)), (11, .int .i64 ((i : Nat) : Int)), (33, .slice .any ((b.drop nf).map Seg.c)), (34, .int .i64 (((b.drop nf).length : Nat) : Int)), (35, .int .i64 ((j' : Nat) : Int))]) 34 = .int .i64 (((b.drop nf).length : Nat) : Int) := rfl
    have n10_35 : nth (sp 0 63 [(0, .fn (.yield 7) [] []), (2, .ptr 6 0), (4, .int .i64 ((nf : Nat) : Int)), (6, .box [.int .i64 x.t, .int .i64 x.h, .slice .any (x.frm.map Iv.c), .slice .any (x.pre.map Iv.c), .slice .any (x.tube.map Iv.c), .slice .any (x.to.map Iv.c)]), (9, .slice .any (a.map Seg.c)), (10, .int .i64 ((a.length : Nat) : Int)), (11, .int .i64 ((i : Nat) : Int)), (33, .slice .any ((b.drop nf).map Seg.c)), (34, .int .i64 (((b.drop nf).length : Nat) : Int)), (35, .int .i64 ((j' : Nat) : Int))]) 35 = .int .i64 ((j' : Nat) : Int) := rfl
    rw [iterW_eq]
    cases go with
    | true =>
      obtain ⟨e2, i', f', k1, k2, k3, k4⟩ := ih (i + 1) nf s' hk'.symm hil hnl (g4 rfl)
      simp only
      refine ⟨e2, i', f', ?_, k2, k3, k4⟩
      rcases g2 rfl with rfl | rfl
      · rw [e66_2]
        simp only [lt_dec hil, getS _ i hil, ← hr, asInt_i, asBool_i, asRows_i, asCells_i, asTuple_i, asBox_i, asObCells_i, asLoop_i, uncons_i, unconsO_i, isNil_i, asPtr_i, asFn_f, asFn_y, asArr_i, asObArr_t, asObArr_f, isReady_i, isBusy_i, uncons_c, uncons_sc, arrRows_i, Option.bind_some, Option.bind_none, cond_true, cond_false, cond_dec, cond_not, CW_w, h4, n7_0, n7_2, n7_4, n7_6, n7_9, n7_10, n7_11, Nat.beq_refl, headIs_map, hnn, hnl, if_true, Int.toNat_natCast, List.length_map, List.take_length, ← List.map_take, ← List.map_drop, g1, n10_0, n10_2, n10_4, n10_6, n10_9, n10_10, n10_11, n10_33, n10_34, n10_35, wsucc i (by omega)]
        exact k1
      · rw [e66_2]
        simp only [lt_dec hil, getS _ i hil, ← hr, asInt_i, asBool_i, asRows_i, asCells_i, asTuple_i, asBox_i, asObCells_i, asLoop_i, uncons_i, unconsO_i, isNil_i, asPtr_i, asFn_f, asFn_y, asArr_i, asObArr_t, asObArr_f, isReady_i, isBusy_i, uncons_c, uncons_sc, arrRows_i, Option.bind_some, Option.bind_none, cond_true, cond_false, cond_dec, cond_not, CW_w, h4, n7_0, n7_2, n7_4, n7_6, n7_9, n7_10, n7_11, Nat.beq_refl, headIs_map, hnn, hnl, if_true, Int.toNat_natCast, List.length_map, List.take_length, ← List.map_take, ← List.map_drop, g1, n10_0, n10_2, n10_4, n10_6, n10_9, n10_10, n10_11, n10_33, n10_34, n10_35, wsucc i (by omega), show Nat.beq 1 4 = false from rfl]
        exact k1
    | false =>
      simp only
      refine ⟨.ret, i, nf, ?_, (fun h => by cases h), fun _ => rfl, fun h => by cases h⟩
      cases g3 rfl
      rw [e66_2]
      simp only [lt_dec hil, getS _ i hil, ← hr, asInt_i, asBool_i, asRows_i, asCells_i, asTuple_i, asBox_i, asObCells_i, asLoop_i, uncons_i, unconsO_i, isNil_i, asPtr_i, asFn_f, asFn_y, asArr_i, asObArr_t, asObArr_f, isReady_i, isBusy_i, uncons_c, uncons_sc, arrRows_i, Option.bind_some, Option.bind_none, cond_true, cond_false, cond_dec, cond_not, CW_w, h4, n7_0, n7_2, n7_4, n7_6, n7_9, n7_10, n7_11, Nat.beq_refl, headIs_map, hnn, hnl, if_true, Int.toNat_natCast, List.length_map, List.take_length, ← List.map_take, ← List.map_drop, g1, n10_0, n10_2, n10_4, n10_6, n10_9, n10_10, n10_11, n10_33, n10_34, n10_35]

theorem ov15 (pos : Nat) (a b : List Seg) (ha : oks a) (hb : oks b) (hA : a.length ≤ 1000000) (hB : b.length ≤ 1000000) (step : MD → Seg × Seg → MD × Bool) (Inv : List (Seg × Seg) → MD → Prop)
    (hy : ∀ (x r : Seg) (l : List (Seg × Seg)) (s : MD), x ∈ a → r ∈ b → Inv ((x, r) :: l) s → (CW G20 L20).s (.yield 7) [.agg [.int .i64 x.t, .int .i64 x.h, .slice .any (x.frm.map Iv.c), .slice .any (x.pre.map Iv.c), .slice .any (x.tube.map Iv.c), .slice .any (x.to.map Iv.c), .int .i64 r.t, .int .i64 r.h, .slice .any (r.frm.map Iv.c), .slice .any (r.pre.map Iv.c), .slice .any (r.tube.map Iv.c), .slice .any (r.to.map Iv.c), .int .i64 (if r.t > x.t then r.t else x.t), .int .i64 (if r.fin < x.fin then r.fin else x.fin)]] [.cells [.int .i64 ((pos : Nat) : Int)], .cells [.int .i64 s.c1.lo, .int .i64 s.c1.hi], .cells [.int .i64 s.c2.lo, .int .i64 s.c2.hi], .cells [.bool s.f], .cells [.fn (.func 65) [] [.ptr 2 0]], .cells [.slice .any (a.map Seg.c)], .cells [.slice .any (b.map Seg.c)], .loop (R15 a b ((pos : Nat) : Int))] = some (.bool (step s (x, r)).2, [.cells [.int .i64 ((pos : Nat) : Int)], .cells [.int .i64 (step s (x, r)).1.c1.lo, .int .i64 (step s (x, r)).1.c1.hi], .cells [.int .i64 (step s (x, r)).1.c2.lo, .int .i64 (step s (x, r)).1.c2.hi], .cells [.bool (step s (x, r)).1.f], .cells [.fn (.func 65) [] [.ptr 2 0]], .cells [.slice .any (a.map Seg.c)], .cells [.slice .any (b.map Seg.c)], .loop (R15 a b ((pos : Nat) : Int))]) ∧ ((step s (x, r)).2 = true → Inv l (step s (x, r)).1)) (s : MD) (hI : Inv (pairsOf a b) s) :
    (CW G20 L20).s (.func 66) [.fn (.yield 7) [] [], .ptr 5 0, .ptr 6 0] [.cells [.int .i64 ((pos : Nat) : Int)], .cells [.int .i64 s.c1.lo, .int .i64 s.c1.hi], .cells [.int .i64 s.c2.lo, .int .i64 s.c2.hi], .cells [.bool s.f], .cells [.fn (.func 65) [] [.ptr 2 0]], .cells [.slice .any (a.map Seg.c)], .cells [.slice .any (b.map Seg.c)], .loop (R15 a b ((pos : Nat) : Int))] = some (.tuple [], [.cells [.int .i64 ((pos : Nat) : Int)], .cells [.int .i64 (runP step s (pairsOf a b)).1.c1.lo, .int .i64 (runP step s (pairsOf a b)).1.c1.hi], .cells [.int .i64 (runP step s (pairsOf a b)).1.c2.lo, .int .i64 (runP step s (pairsOf a b)).1.c2.hi], .cells [.bool (runP step s (pairsOf a b)).1.f], .cells [.fn (.func 65) [] [.ptr 2 0]], .cells [.slice .any (a.map Seg.c)], .cells [.slice .any (b.map Seg.c)], .loop (R15 a b ((pos : Nat) : Int))]) ∧ ((runP step s (pairsOf a b)).2 = true → Inv [] (runP step s (pairsOf a b)).1) := by
  obtain ⟨e, i', f', g1, g2, g3, g4⟩ := ov15_2 pos a b ha hb hA hB step Inv hy a 0 0 s rfl (Nat.zero_le _) (Nat.zero_le _) hI
  rw [List.drop_zero] at g1 g2 g3 g4
  refine ⟨CW_run ?_, g4⟩
  generalize runP step s (pairsOf a b) = rn at g1 g2 g3 g4
  obtain ⟨s', go⟩ := rn
  rw [s66, CW_w, List.length_map]
  refine (bind_via g1 _).trans ?_
  cases go with
  | true => cases g2 rfl; kernel_rfl
  | false => cases g3 rfl; kernel_rfl

end Go.Ab
/- MinDistance of the program, typed; conditions: flows whose tubes are valid boxes of three coordinates. -/
namespace Go.Ab
set_option linter.unusedVariables false
set_option linter.unusedSimpArgs false
set_option linter.unusedSimpArgs false
set_option linter.unusedVariables false
/-- A squared distance added to a minimum. -/
def mini (m d : Iv) : Iv := cond d.isW ⟨if 0 < m.lo then 0 else m.lo, if 2147483648 < m.hi then 2147483648 else m.hi⟩ ⟨if d.lo < m.lo then d.lo else m.lo, if d.hi < m.hi then d.hi else m.hi⟩
def dist (pos : Nat) (p : Seg × Seg) : Iv := sqd (p.1.tube.take pos) (p.2.tube.take pos)
def step15 (pos : Nat) (s : MD) (p : Seg × Seg) : MD × Bool := (⟨mini s.c2 (dist pos p), mini s.c2 (dist pos p), true⟩, true)
def minD (a b : List Seg) (pos : Nat) : Iv × Bool :=
  let s := (runP (step15 pos) ⟨⟨0, 0⟩, ⟨2147483648, 2147483648⟩, false⟩ (pairsOf a b)).1
  cond s.f (Iv.new s.c1.lo s.c1.hi, true) (s.c1, false)
theorem valids_take {l : List Iv} (h : valids l) (n : Nat) : valids (l.take n) := fun x hx => h x (List.mem_of_mem_take hx)
theorem few_take {s : Seg} (h : s.ok) (n : Nat) : few (s.tube.take n) := by
  unfold few; rw [List.length_take]; have := h.len; omega
theorem p41_take (x r : Seg) (hx : x.ok) (hr : r.ok) (pos : Nat) (h2 : pos ≤ x.tube.length) (h3 : pos ≤ r.tube.length) : (CW G20 L20).p (.func 41) [.slice .any ((x.tube.take pos).map Iv.c), .slice .any ((r.tube.take pos).map Iv.c)] = some (.agg (dist pos (x, r)).c) :=
  p41 _ _ (by simp only [List.length_take]; omega) (valids_take hx.val _) (valids_take hr.val _) (few_take hx _)
theorem p27_take (x r : Seg) (hx : x.ok) (hr : r.ok) (pos : Nat) (h2 : pos ≤ x.tube.length) (h3 : pos ≤ r.tube.length) : (CW G20 L20).p (.func 27) [.slice .any ((x.tube.take pos).map Iv.c), .slice .any ((r.tube.take pos).map Iv.c)] = some (.agg (dist pos (x, r)).c) :=
  p27 _ _ (by simp only [List.length_take]; omega) (valids_take hx.val _) (valids_take hr.val _) (few_take hx _)

theorem h15_65 (pos : Int) (c m d : Iv) (f : Bool) (A B : List (List V)) (l : LoopA) : (CW G20 L20).s (.func 65) [.agg [.int .i64 d.lo, .int .i64 d.hi], .ptr 2 0] [.cells [.int .i64 pos], .cells [.int .i64 c.lo, .int .i64 c.hi], .cells [.int .i64 m.lo, .int .i64 m.hi], .cells [.bool f], .cells [.fn (.func 65) [] [.ptr 2 0]], .cells [.slice .any A], .cells [.slice .any B], .loop l] =
    some (.agg (mini m d).c, [.cells [.int .i64 pos], .cells [.int .i64 c.lo, .int .i64 c.hi], .cells (mini m d).c, .cells [.bool f], .cells [.fn (.func 65) [] [.ptr 2 0]], .cells [.slice .any A], .cells [.slice .any B], .loop l]) := by
  refine CW_run ?_
  rw [s65]
  simp only [p46, asInt_i, asBool_i, asRows_i, asCells_i, asTuple_i, asBox_i, asObCells_i, asLoop_i, uncons_i, unconsO_i, isNil_i, asPtr_i, asFn_f, asFn_y, asArr_i, asObArr_t, asObArr_f, isReady_i, isBusy_i, uncons_c, uncons_sc, arrRows_i, Option.bind_some, Option.bind_none, cond_true, cond_false, cond_dec, cond_not, Iv.eta, mini]
  generalize d.isW = w
  cases w <;> rfl
set_option maxRecDepth 100000 in
theorem y15 (pos : Nat) (a b : List Seg) (x r : Seg) (s : MD) (hx : x.ok) (hr : r.ok) (h2 : pos ≤ x.tube.length) (h3 : pos ≤ r.tube.length) : (CW G20 L20).s (.yield 7) [.agg [.int .i64 x.t, .int .i64 x.h, .slice .any (x.frm.map Iv.c), .slice .any (x.pre.map Iv.c), .slice .any (x.tube.map Iv.c), .slice .any (x.to.map Iv.c), .int .i64 r.t, .int .i64 r.h, .slice .any (r.frm.map Iv.c), .slice .any (r.pre.map Iv.c), .slice .any (r.tube.map Iv.c), .slice .any (r.to.map Iv.c), .int .i64 (if r.t > x.t then r.t else x.t), .int .i64 (if r.fin < x.fin then r.fin else x.fin)]] [.cells [.int .i64 ((pos : Nat) : Int)], .cells [.int .i64 s.c1.lo, .int .i64 s.c1.hi], .cells [.int .i64 s.c2.lo, .int .i64 s.c2.hi], .cells [.bool s.f], .cells [.fn (.func 65) [] [.ptr 2 0]], .cells [.slice .any (a.map Seg.c)], .cells [.slice .any (b.map Seg.c)], .loop (R15 a b ((pos : Nat) : Int))] = some (.bool (step15 pos s (x, r)).2, [.cells [.int .i64 ((pos : Nat) : Int)], .cells [.int .i64 (step15 pos s (x, r)).1.c1.lo, .int .i64 (step15 pos s (x, r)).1.c1.hi], .cells [.int .i64 (step15 pos s (x, r)).1.c2.lo, .int .i64 (step15 pos s (x, r)).1.c2.hi], .cells [.bool (step15 pos s (x, r)).1.f], .cells [.fn (.func 65) [] [.ptr 2 0]], .cells [.slice .any (a.map Seg.c)], .cells [.slice .any (b.map Seg.c)], .loop (R15 a b ((pos : Nat) : Int))]) := by
  refine CW_run ?_
  unfold R15
  rw [y15_5]
  have h1 : (0 : Int) ≤ (pos : Int) := Int.natCast_nonneg pos
  simp only [asInt_i, asBool_i, asRows_i, asCells_i, asTuple_i, asBox_i, asObCells_i, asLoop_i, uncons_i, unconsO_i, isNil_i, asPtr_i, asFn_f, asFn_y, asArr_i, asObArr_t, asObArr_f, isReady_i, isBusy_i, uncons_c, uncons_sc, arrRows_i, Option.bind_some, Option.bind_none, cond_true, cond_false, cond_dec, cond_not, h1, h2, h3, if_true, Int.toNat_natCast, List.length_map, List.drop_zero, ← List.map_take, p41_take x r hx hr pos h2 h3]
  have hs := h15_65 (pos : Int) s.c1 s.c2 (dist pos (x, r)) s.f (a.map Seg.c) (b.map Seg.c) ⟨.busy, none, (R15 a b pos).t, 15, [16], rangeAssign GP 15 5, rangeBody GP 15 5⟩
  refine (bind_via hs _).trans ?_
  kernel_rfl
set_option maxRecDepth 100000 in
theorem p15 (a b : List Seg) (ha : oks a) (hb : oks b) (hA : a.length ≤ 1000000) (hB : b.length ≤ 1000000) (pos : Nat) (hpos : long a pos ∧ long b pos) :
    (CW G20 L20).p (.func 15) [.slice .any (a.map Seg.c), .slice .any (b.map Seg.c), .int .i64 (pos : Int)] = some (.tuple [.agg (minD a b pos).1.c, .bool (minD a b pos).2]) := by
  have h66 := (ov15 pos a b ha hb hA hB (step15 pos) (fun _ _ => True) (fun x r _ s hx hr _ => ⟨y15 pos a b x r s (ha x hx) (hb r hr) (hpos.1 x hx) (hpos.2 r hr), fun _ => trivial⟩) ⟨⟨0, 0⟩, ⟨2147483648, 2147483648⟩, false⟩ trivial).1
  unfold minD
  generalize (runP (step15 pos) ⟨⟨0, 0⟩, ⟨2147483648, 2147483648⟩, false⟩ (pairsOf a b)).1 = s at h66 ⊢
  refine CW_valH (u := .tuple [.agg (cond s.f (Iv.new s.c1.lo s.c1.hi, true) (s.c1, false)).1.c, .bool (cond s.f (Iv.new s.c1.lo s.c1.hi, true) (s.c1, false)).2]) (h := [.cells [.int .i64 ((pos : Nat) : Int)], .cells [.int .i64 s.c1.lo, .int .i64 s.c1.hi], .cells [.int .i64 s.c2.lo, .int .i64 s.c2.hi], .cells [.bool s.f], .cells [.fn (.func 65) [] [.ptr 2 0]], .cells [.slice .any (a.map Seg.c)], .cells [.slice .any (b.map Seg.c)]]) ?_ rfl
  rw [e15]
  refine (bind_via (CW_run (s39 _ (pos : Int) 0 0)) _).trans ?_
  simp only [asInt_i, asBool_i, asRows_i, asCells_i, asTuple_i, asBox_i, asObCells_i, asLoop_i, uncons_i, unconsO_i, isNil_i, asPtr_i, asFn_f, asFn_y, asArr_i, asObArr_t, asObArr_f, isReady_i, isBusy_i, uncons_c, uncons_sc, arrRows_i, Option.bind_some, Option.bind_none, cond_true, cond_false, cond_dec, cond_not]
  refine (bind_via (CW_run (s40 _ (pos : Int) 0 0 2147483648 2147483648 false (a.map Seg.c) (b.map Seg.c))) _).trans ?_
  simp only [asInt_i, asBool_i, asRows_i, asCells_i, asTuple_i, asBox_i, asObCells_i, asLoop_i, uncons_i, unconsO_i, isNil_i, asPtr_i, asFn_f, asFn_y, asArr_i, asObArr_t, asObArr_f, isReady_i, isBusy_i, uncons_c, uncons_sc, arrRows_i, Option.bind_some, Option.bind_none, cond_true, cond_false, cond_dec, cond_not]
  refine (bind_via h66 _).trans ?_
  have he : endOf (R15 a b pos) = some none := rfl
  have h36 := p36' s.c1.lo s.c1.hi
  cases hf : s.f with
  | false => change _ = _; kernel_rfl
  | true =>
    simp only [asInt_i, asBool_i, asRows_i, asCells_i, asTuple_i, asBox_i, asObCells_i, asLoop_i, uncons_i, unconsO_i, isNil_i, asPtr_i, asFn_f, asFn_y, asArr_i, asObArr_t, asObArr_f, isReady_i, isBusy_i, uncons_c, uncons_sc, arrRows_i, Option.bind_some, Option.bind_none, cond_true, cond_false, cond_dec, cond_not, he, Bool.not_true, h36, hf]
    change _ = _
    kernel_rfl
end Go.Ab
/- The reference's MinDistance; common times; conditions: flows that are valid. -/
namespace Go.Ab
set_option linter.unusedVariables false
set_option linter.unusedSimpArgs false
set_option linter.unusedSimpArgs false
set_option linter.unusedVariables false
def isect (a b : Iv) : Bool := !decide ((if b.lo > a.lo then b.lo else a.lo) > (if b.hi < a.hi then b.hi else a.hi))
def inter (a b : Iv) : Iv := cond (isect a b) ⟨if b.lo > a.lo then b.lo else a.lo, if b.hi < a.hi then b.hi else a.hi⟩ ⟨0, 0⟩
theorem p23 (a b : Iv) : (CW G20 L20).p (.func 23) [.agg [.int .i64 a.lo, .int .i64 a.hi], .agg [.int .i64 b.lo, .int .i64 b.hi]] = some (.tuple [.agg (inter a b).c, .bool (isect a b)]) := by
  refine CW_val (h := []) ?_ rfl
  rw [e23]
  simp only [inter, isect]
  generalize decide ((if b.lo > a.lo then b.lo else a.lo) > (if b.hi < a.hi then b.hi else a.hi)) = w
  cases w <;> rfl
theorem p64 (w : Bool) (a b : Iv) : (CW G20 L20).p (.func 64) [.bool w, .agg [.int .i64 a.lo, .int .i64 a.hi], .agg [.int .i64 b.lo, .int .i64 b.hi]] = some (.agg (cond w a b).c) := by
  refine CW_val (h := []) ?_ rfl
  rw [e64]
  cases w <;> rfl
theorem p38 (a b : Iv) : (CW G20 L20).p (.func 38) [.agg [.int .i64 a.lo, .int .i64 a.hi], .agg [.int .i64 b.lo, .int .i64 b.hi]] = some (.tuple [.agg (inter a b).c, .bool (isect a b)]) := by
  refine CW_val (h := []) ?_ rfl
  rw [e38]
  have hd : decide ((if b.lo > a.lo then b.lo else a.lo) ≤ (if b.hi < a.hi then b.hi else a.hi)) = isect a b := by
    unfold isect
    generalize (if b.lo > a.lo then b.lo else a.lo) = x
    generalize (if b.hi < a.hi then b.hi else a.hi) = y
    by_cases h : x ≤ y
    · simp [h, Int.not_lt.2 h]
    · simp [h, Int.not_le.1 h]
  rw [hd]
  have h := p64 (isect a b) ⟨if b.lo > a.lo then b.lo else a.lo, if b.hi < a.hi then b.hi else a.hi⟩ ⟨0, 0⟩
  simp only at h
  rw [h]
  simp only [asInt_i, asBool_i, asRows_i, asCells_i, asTuple_i, asBox_i, asObCells_i, asLoop_i, uncons_i, unconsO_i, isNil_i, asPtr_i, asFn_f, asFn_y, asArr_i, asObArr_t, asObArr_f, isReady_i, isBusy_i, uncons_c, uncons_sc, arrRows_i, Option.bind_some, Option.bind_none, cond_true, cond_false, cond_dec, cond_not, inter]
  rfl
def Seg.time (s : Seg) : Iv := ⟨s.t, s.fin⟩
theorem p24' (s : Seg) (h : s.ok) : (CW G20 L20).p (.func 24) [.agg [.int .i64 s.t, .int .i64 s.h, .slice .any (s.frm.map Iv.c), .slice .any (s.pre.map Iv.c), .slice .any (s.tube.map Iv.c), .slice .any (s.to.map Iv.c)]] = some (.agg s.time.c) := p24 s h
theorem p42 (x r : Seg) (hx : x.ok) (hr : r.ok) (pos : Nat) (h2 : pos ≤ x.tube.length) (h3 : pos ≤ r.tube.length) : (CW G20 L20).p (.func 42) [.agg [.int .i64 x.t, .int .i64 x.h, .slice .any (x.frm.map Iv.c), .slice .any (x.pre.map Iv.c), .slice .any (x.tube.map Iv.c), .slice .any (x.to.map Iv.c)], .agg [.int .i64 r.t, .int .i64 r.h, .slice .any (r.frm.map Iv.c), .slice .any (r.pre.map Iv.c), .slice .any (r.tube.map Iv.c), .slice .any (r.to.map Iv.c)], .int .i64 (pos : Int)] = some (.agg (dist pos (x, r)).c) := by
  refine CW_val (h := []) ?_ rfl
  rw [e42]
  have h1 : (0 : Int) ≤ (pos : Int) := Int.natCast_nonneg pos
  simp only [asInt_i, asBool_i, asRows_i, asCells_i, asTuple_i, asBox_i, asObCells_i, asLoop_i, uncons_i, unconsO_i, isNil_i, asPtr_i, asFn_f, asFn_y, asArr_i, asObArr_t, asObArr_f, isReady_i, isBusy_i, uncons_c, uncons_sc, arrRows_i, Option.bind_some, Option.bind_none, cond_true, cond_false, cond_dec, cond_not, h1, h2, h3, if_true, Int.toNat_natCast, List.length_map, List.drop_zero, ← List.map_take, p27_take x r hx hr pos h2 h3]
  rfl
structure MM where
  lo : Int
  hi : Int
  f : Bool
def stepM (pos : Nat) (x : Seg) (s : MM) (r : Seg) : MM :=
  cond (isect x.time r.time) (cond (dist pos (x, r)).isW ⟨if 0 < s.lo then 0 else s.lo, s.hi, true⟩ ⟨if (dist pos (x, r)).lo < s.lo then (dist pos (x, r)).lo else s.lo, if (dist pos (x, r)).hi < s.hi then (dist pos (x, r)).hi else s.hi, true⟩) s
def minR (a b : List Seg) (pos : Nat) : Iv × Bool :=
  let s := a.foldl (fun s x => b.foldl (stepM pos x) s) ⟨2147483648, 2147483648, false⟩
  cond s.f (Iv.new s.lo s.hi, true) (⟨0, 0⟩, false)
set_option maxRecDepth 100000 in
theorem h16_6 (a b : List Seg) (ha : oks a) (hb : oks b) (hB : b.length ≤ 1000000) (pos : Nat) (hpos : long a pos ∧ long b pos) (i : Nat) (hi : i < a.length) (s : MM) :
    iterW (roundK G20 L20 (CW G20 L20) 16 none 6) ⟨(sp 0 72 [(0, .slice .any (a.map Seg.c)), (1, .slice .any (b.map Seg.c)), (2, .int .i64 (pos : Int)), (6, .box [.int .i64 0, .int .i64 0]), (8, .int .i64 s.lo), (9, .int .i64 s.hi), (10, .bool s.f), (11, .int .i64 (i : Nat)), (12, .int .i64 ((0 : Nat) : Int))]), []⟩ =
      some (.exit 2, ⟨(sp 0 72 [(0, .slice .any (a.map Seg.c)), (1, .slice .any (b.map Seg.c)), (2, .int .i64 (pos : Int)), (6, .box [.int .i64 0, .int .i64 0]), (8, .int .i64 (b.foldl (stepM pos a[i]) s).lo), (9, .int .i64 (b.foldl (stepM pos a[i]) s).hi), (10, .bool (b.foldl (stepM pos a[i]) s).f), (11, .int .i64 (i : Nat)), (12, .int .i64 ((b.length : Nat) : Int))]), []⟩) := by
  have hx := ha _ (List.getElem_mem hi)
  have h2 := hpos.1 _ (List.getElem_mem hi)
  refine (iterW_foldl (round := roundK G20 L20 (CW G20 L20) 16 none 6)
    (S := fun j (s : MM) => ⟨(sp 0 72 [(0, .slice .any (a.map Seg.c)), (1, .slice .any (b.map Seg.c)), (2, .int .i64 (pos : Int)), (6, .box [.int .i64 0, .int .i64 0]), (8, .int .i64 s.lo), (9, .int .i64 s.hi), (10, .bool s.f), (11, .int .i64 (i : Nat)), (12, .int .i64 (j : Nat))]), []⟩)
    (stepM pos a[i]) (fun _ => True) b (id := 2) (fun j hj s _ => ⟨?_, trivial⟩) (fun s _ => ?_) s trivial).1
  · have hr := hb _ (List.getElem_mem hj)
    have h3 := hpos.2 _ (List.getElem_mem hj)
    have hg : getRow (a.map Seg.c) (i : Int) 6 = some a[i].c := getS a i hi
    have hg2 : getRow (b.map Seg.c) (j : Int) 6 = some b[j].c := getS b j hj
    generalize a[i] = x at *
    generalize b[j] = r at *
    rw [e16_6]
    simp only [List.length_map, lt_dec hj, hg, hg2, asInt_i, asBool_i, asRows_i, asCells_i, asTuple_i, asBox_i, asObCells_i, asLoop_i, uncons_i, unconsO_i, isNil_i, asPtr_i, asFn_f, asFn_y, asArr_i, asObArr_t, asObArr_f, isReady_i, isBusy_i, uncons_c, uncons_sc, arrRows_i, Option.bind_some, Option.bind_none, cond_true, cond_false, cond_dec, cond_not, p24' x hx, p24' r hr, p23, p42 x r hx hr pos h2 h3, p26, wsucc j (by omega), stepM, Iv.eta]
    cases isect x.time r.time <;> cases (dist pos (x, r)).isW <;> rfl
  · rw [e16_6]
    simp only [List.length_map, lt_decn, cond_false]
theorem p16 (a b : List Seg) (ha : oks a) (hb : oks b) (hA : a.length ≤ 1000000) (hB : b.length ≤ 1000000) (pos : Nat) (hpos : long a pos ∧ long b pos) :
    (CW G20 L20).p (.func 16) [.slice .any (a.map Seg.c), .slice .any (b.map Seg.c), .int .i64 (pos : Int)] = some (.tuple [.agg (minR a b pos).1.c, .bool (minR a b pos).2]) := by
  have hloop := (iterW_foldl (round := roundK G20 L20 (CW G20 L20) 16 none 3)
    (S := fun i (s : MM) => ⟨(sp 0 72 [(0, .slice .any (a.map Seg.c)), (1, .slice .any (b.map Seg.c)), (2, .int .i64 (pos : Int)), (6, .box [.int .i64 0, .int .i64 0]), (8, .int .i64 s.lo), (9, .int .i64 s.hi), (10, .bool s.f), (11, .int .i64 (i : Nat))]), []⟩)
    (fun s x => b.foldl (stepM pos x) s) (fun _ => True) a (id := 0) (fun i hi s _ => by
      refine ⟨?_, trivial⟩
      rw [e16_3]
      simp only [List.length_map, lt_dec hi, cond_true, CW_w]
      refine (bind_via (h16_6 a b ha hb hB pos hpos i hi s) _).trans ?_
      rw [← wsucc i (by omega)]
      kernel_rfl)
    (fun s _ => by rw [e16_3]; simp only [List.length_map, lt_decn, cond_false]) ⟨2147483648, 2147483648, false⟩ trivial).1
  unfold minR
  generalize (a.foldl (fun s x => b.foldl (stepM pos x) s) ⟨2147483648, 2147483648, false⟩) = s at hloop ⊢
  refine CW_val (h := []) ?_ rfl
  rw [e16, CW_w]
  refine (bind_via hloop _).trans ?_
  have h43 := p43 s.lo s.hi
  have h0 : s = ⟨s.lo, s.hi, s.f⟩ := rfl
  rw [h0]
  generalize hf : s.f = f
  cases f with
  | false => change _ = _; kernel_rfl
  | true =>
    refine Eq.trans (b := ((CW G20 L20).p (.func 43) [.int .i64 s.lo, .int .i64 s.hi]).bind fun x16 => (asCells x16).bind fun x17 => (uncons x17).bind fun x18 => (asInt .i64 x18.1).bind fun x19 => (uncons x18.2).bind fun x20 => (asInt .i64 x20.1).bind fun x21 => (isNil x20.2).bind fun _ => some (.tuple [.agg [.int .i64 x19, .int .i64 x21], .bool true], [])) (by kernel_rfl) ?_
    rw [h43]; rfl

/-! Common times; equal results. -/
def nums (l : List Seg) : Prop := ∀ s ∈ l, number s.t ∧ number s.fin
def commonT (a b : List Seg) : Iv × Bool :=
  match a.head?, a.getLast?, b.head?, b.getLast? with
  | some x, some x', some y, some y' => (inter ⟨x.t, x'.fin⟩ ⟨y.t, y'.fin⟩, isect ⟨x.t, x'.fin⟩ ⟨y.t, y'.fin⟩)
  | _, _, _, _ => (⟨0, 0⟩, false)
theorem new_num {lo hi : Int} (h : number lo) (k : number hi) : Iv.new lo hi = ⟨lo, hi⟩ := by unfold Iv.new; rw [if_pos ⟨h, k⟩]
theorem getLast_at {α : Type} (l : List α) (h : 0 < l.length) : l.getLast? = some l[l.length - 1] := by
  rw [List.getLast?_eq_getElem?]; simp [h]
theorem head_at {α : Type} (l : List α) (h : 0 < l.length) : l.head? = some l[0] := by
  cases l with
  | nil => simp at h
  | cons x l => rfl
theorem wpred (n : Nat) (h : 0 < n) (h2 : n ≤ 1000000000) : IntKind.wrap .i64 ((n : Int) - 1) = ((n - 1 : Nat) : Int) := by
  rw [w64 (by omega) (by omega)]; omega
theorem len0 {α : Type} (l : List α) (h : 0 < l.length) : (((l.length : Nat) : Int) == 0) = false := by
  rw [beq_eq_false_iff_ne]; omega
set_option maxRecDepth 100000 in
theorem p13 (a b : List Seg) (ha : oks a) (hb : oks b) (hA : a.length ≤ 1000000) (hB : b.length ≤ 1000000) (na : nums a) (nb : nums b) :
    (CW G20 L20).p (.func 13) [.slice .any (a.map Seg.c), .slice .any (b.map Seg.c)] = some (.tuple [.agg (commonT a b).1.c, .bool (commonT a b).2]) := by
  refine CW_val (h := []) ?_ rfl
  rw [e13]
  by_cases h1 : 0 < a.length
  · by_cases h2 : 0 < b.length
    · have g0 := getS a 0 h1
      have g1 := getS a (a.length - 1) (by omega)
      have g2 := getS b 0 h2
      have g3 := getS b (b.length - 1) (by omega)
      have i0 : a[0] ∈ a := List.getElem_mem h1
      have i1 : a[a.length - 1] ∈ a := List.getElem_mem (by omega)
      have i2 : b[0] ∈ b := List.getElem_mem h2
      have i3 : b[b.length - 1] ∈ b := List.getElem_mem (by omega)
      have hc : commonT a b = (inter ⟨a[0].t, a[a.length - 1].fin⟩ ⟨b[0].t, b[b.length - 1].fin⟩, isect ⟨a[0].t, a[a.length - 1].fin⟩ ⟨b[0].t, b[b.length - 1].fin⟩) := by
        unfold commonT; rw [head_at a h1, getLast_at a h1, head_at b h2, getLast_at b h2]
      rw [hc]
      rw [show ((0 : Nat) : Int) = 0 from rfl] at g0 g2
      have q := p38 ⟨a[0].t, a[a.length - 1].fin⟩ ⟨b[0].t, b[b.length - 1].fin⟩
      have l0 := len0 a h1
      have l1 := len0 b h2
      have w0 := wpred a.length h1 (by omega)
      have w1 := wpred b.length h2 (by omega)
      have e0 := new_num (na _ i0).1 (na _ i1).2
      have e1 := new_num (nb _ i2).1 (nb _ i3).2
      have f1 := p37 _ (ha _ i1)
      have f3 := p37 _ (hb _ i3)
      generalize a[0] = x0 at *
      generalize a[a.length - 1] = x1 at *
      generalize b[0] = y0 at *
      generalize b[b.length - 1] = y1 at *
      simp only at q
      simp only [List.length_map, l0, l1, g0, w0, g1, g2, w1, g3, asInt_i, asBool_i, asRows_i, asCells_i, asTuple_i, asBox_i, asObCells_i, asLoop_i, uncons_i, unconsO_i, isNil_i, asPtr_i, asFn_f, asFn_y, asArr_i, asObArr_t, asObArr_f, isReady_i, isBusy_i, uncons_c, uncons_sc, arrRows_i, Option.bind_some, Option.bind_none, cond_true, cond_false, cond_dec, cond_not, f1, f3, p36', e0, e1, q]
      rfl
    · have : b = [] := List.length_eq_zero_iff.1 (by omega)
      subst this
      have hc : commonT a [] = (⟨0, 0⟩, false) := by unfold commonT; cases a.head? <;> cases a.getLast? <;> rfl
      rw [hc]
      have l0 := len0 a h1
      simp only [List.length_map, l0, cond_false]
      rfl
  · have : a = [] := List.length_eq_zero_iff.1 (by omega)
    subst this
    have hc : commonT [] b = (⟨0, 0⟩, false) := rfl
    rw [hc]
    rfl
set_option maxRecDepth 100000 in
theorem p14 (a b : List Seg) (ha : oks a) (hb : oks b) (hA : a.length ≤ 1000000) (hB : b.length ≤ 1000000) :
    (CW G20 L20).p (.func 14) [.slice .any (a.map Seg.c), .slice .any (b.map Seg.c)] = some (.tuple [.agg (commonT a b).1.c, .bool (commonT a b).2]) := by
  refine CW_val (h := []) ?_ rfl
  rw [e14]
  by_cases h1 : 0 < a.length
  · by_cases h2 : 0 < b.length
    · have g0 := getS a 0 h1
      have g1 := getS a (a.length - 1) (by omega)
      have g2 := getS b 0 h2
      have g3 := getS b (b.length - 1) (by omega)
      have i1 : a[a.length - 1] ∈ a := List.getElem_mem (by omega)
      have i3 : b[b.length - 1] ∈ b := List.getElem_mem (by omega)
      have hc : commonT a b = (inter ⟨a[0].t, a[a.length - 1].fin⟩ ⟨b[0].t, b[b.length - 1].fin⟩, isect ⟨a[0].t, a[a.length - 1].fin⟩ ⟨b[0].t, b[b.length - 1].fin⟩) := by
        unfold commonT; rw [head_at a h1, getLast_at a h1, head_at b h2, getLast_at b h2]
      rw [hc]
      rw [show ((0 : Nat) : Int) = 0 from rfl] at g0 g2
      have q := p23 ⟨a[0].t, a[a.length - 1].fin⟩ ⟨b[0].t, b[b.length - 1].fin⟩
      have l0 := len0 a h1
      have l1 := len0 b h2
      have w0 := wpred a.length h1 (by omega)
      have w1 := wpred b.length h2 (by omega)
      have o1 := ha _ i1
      have o3 := hb _ i3
      generalize a[0] = x0 at *
      generalize a[a.length - 1] = x1 at *
      generalize b[0] = y0 at *
      generalize b[b.length - 1] = y1 at *
      simp only at q
      have v1 : IntKind.wrap .i64 (x1.t + x1.h) = x1.fin := w64 (by have := o1.t0; have := o1.h0; omega) (by have := o1.t1; have := o1.h1; omega)
      have v3 : IntKind.wrap .i64 (y1.t + y1.h) = y1.fin := w64 (by have := o3.t0; have := o3.h0; omega) (by have := o3.t1; have := o3.h1; omega)
      simp only [List.length_map, l0, l1, g0, w0, g1, g2, w1, g3, asInt_i, asBool_i, asRows_i, asCells_i, asTuple_i, asBox_i, asObCells_i, asLoop_i, uncons_i, unconsO_i, isNil_i, asPtr_i, asFn_f, asFn_y, asArr_i, asObArr_t, asObArr_f, isReady_i, isBusy_i, uncons_c, uncons_sc, arrRows_i, Option.bind_some, Option.bind_none, cond_true, cond_false, cond_dec, cond_not, v1, v3, q]
      rfl
    · have : b = [] := List.length_eq_zero_iff.1 (by omega)
      subst this
      have hc : commonT a [] = (⟨0, 0⟩, false) := by unfold commonT; cases a.head? <;> cases a.getLast? <;> rfl
      rw [hc]
      have l0 := len0 a h1
      simp only [List.length_map, l0, cond_false]
      rfl
  · have : a = [] := List.length_eq_zero_iff.1 (by omega)
    subst this
    have hc : commonT [] b = (⟨0, 0⟩, false) := rfl
    rw [hc]
    rfl
theorem p17 (a b : Iv) : (CW G20 L20).p (.func 17) [.agg [.int .i64 a.lo, .int .i64 a.hi], .agg [.int .i64 b.lo, .int .i64 b.hi]] = some (.bool (a.lo == b.lo && a.hi == b.hi)) := by
  refine CW_val (h := []) ?_ rfl
  rw [e17]
  cases a.lo == b.lo <;> rfl
/-- Equal slices of times: only what is needed. -/
theorem p48 (a : List Iv) (hf : few a) : (CW G20 L20).p (.func 48) [.slice .any (a.map Iv.c), .slice .any (a.map Iv.c)] = some (.bool true) := by
  have hloop := (iterW_foldl (round := roundK G20 L20 (CW G20 L20) 48 none 4)
    (S := fun i (_ : Unit) => ⟨(sp 0 26 [(0, .slice .any (a.map Iv.c)), (1, .slice .any (a.map Iv.c)), (4, .bool false), (5, .int .i64 (i : Nat))]), []⟩)
    (fun _ _ => ()) (fun _ => True) a (id := 0) (fun i hi s _ => by
      refine ⟨?_, trivial⟩
      rw [e48_4]
      simp only [List.length_map, lt_dec hi, getRow_map Iv.c Iv.c_len a i hi, asInt_i, asBool_i, asRows_i, asCells_i, asTuple_i, asBox_i, asObCells_i, asLoop_i, uncons_i, unconsO_i, isNil_i, asPtr_i, asFn_f, asFn_y, asArr_i, asObArr_t, asObArr_f, isReady_i, isBusy_i, uncons_c, uncons_sc, arrRows_i, Option.bind_some, Option.bind_none, cond_true, cond_false, cond_dec, cond_not, beq_self_eq_true, Bool.and_true, Bool.not_true, wsucc i (by have := hf; unfold few at this; omega)])
    (fun s _ => by rw [e48_4]; simp only [List.length_map, lt_decn, cond_false]) () trivial).1
  refine CW_val (h := []) ?_ rfl
  rw [e48, CW_w]
  have hn : ((((List.map Iv.c a).length : Nat) : Int) != (((List.map Iv.c a).length : Nat) : Int)) = false := by simp
  rw [hn]
  refine (bind_via hloop _).trans ?_
  kernel_rfl
theorem p20 (a : List Iv) (hf : few a) : (CW G20 L20).p (.func 20) [.slice .any (a.map Iv.c), .slice .any (a.map Iv.c)] = some (.bool true) := by
  refine CW_val (h := []) ?_ rfl
  rw [e20, p48 a hf]; rfl
end Go.Ab
