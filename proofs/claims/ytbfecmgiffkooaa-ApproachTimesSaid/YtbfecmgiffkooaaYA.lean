/- Typed values, and what a loop over a list comes to; conditions: none. -/
import Derived.Test.YtbfecmgiffkooaaAb17
namespace Go.Ab
set_option linter.unusedVariables false
set_option linter.unusedSimpArgs false

theorem w64 {x : Int} (h1 : -9223372036854775808 ≤ x) (h2 : x < 9223372036854775808) : IntKind.wrap .i64 x = x := by
  have e : IntKind.wrap .i64 x = if (9223372036854775808 : Int) ≤ x % 18446744073709551616 then x % 18446744073709551616 - 18446744073709551616 else x % 18446744073709551616 := by
    by_cases h : (9223372036854775808 : Int) ≤ x % 18446744073709551616
    · simp [IntKind.wrap, IntKind.bits, IntKind.signed, h]
    · simp [IntKind.wrap, IntKind.bits, IntKind.signed, h]
  rw [e]
  split <;> omega

theorem CW_w (G : Cfg) (L : Lv) : (CW G L).w = iterW := rfl
theorem CW_valH {G : Cfg} {L : Lv} {g : Fn} {args : List V} {u v : V} {h : List Ob} (hr : run1 G L (CW G L) g args [] = some (u, h)) (hn : normResK h u some = some v) : (CW G L).p g args = some v := by
  refine CW_runP ?_
  rw [hr]; exact hn
theorem CW_val {G : Cfg} {L : Lv} {g : Fn} {args : List V} {v : V} {h : List Ob} (hr : run1 G L (CW G L) g args [] = some (v, h)) (hn : normResK h v some = some v) : (CW G L).p g args = some v := CW_valH hr hn

/-! Loops. -/
/-- Steps through a list, each with its number, till one leaves. -/
def foldE {α β σ : Type} (step : Nat → σ → α → Except β σ) : Nat → List α → σ → Except β σ
  | _, [], s => .ok s
  | i, a :: l, s => match step i s a with
    | .ok s' => foldE step (i + 1) l s'
    | .error b => .error b
/-- A loop over a list: S is the state at round i; a round goes on, or leaves in a state that is told. -/
theorem iterW_foldE {α β σ : Type} {round : St → Option (Ex × St)} {S : Nat → σ → St} {step : Nat → σ → α → Except β σ} {out : β → Ex × St} {ex : Ex} (Inv : Nat → σ → Prop) (l : List α)
    (hex : ex ≠ .normal) (hout : ∀ b, (out b).1 ≠ .normal)
    (h1 : ∀ (i : Nat) (hi : i < l.length) (s : σ), Inv i s → (∀ s', step i s l[i] = .ok s' → round (S i s) = some (.normal, S (i + 1) s') ∧ Inv (i + 1) s') ∧ ∀ b, step i s l[i] = .error b → round (S i s) = some (out b))
    (h2 : ∀ s, Inv l.length s → round (S l.length s) = some (ex, S l.length s)) :
    ∀ (k : List α) (i : Nat) (s : σ), l.drop i = k → i ≤ l.length → Inv i s → iterW round (S i s) = (match foldE step i k s with
      | .ok s' => some (ex, S l.length s')
      | .error b => some (out b)) ∧ ∀ s', foldE step i k s = .ok s' → Inv l.length s' := by
  intro k
  induction k with
  | nil =>
    intro i s hk hi hInv
    have hil : i = l.length := by
      have := List.drop_eq_nil_iff.1 hk
      omega
    subst hil
    refine ⟨?_, fun s' hs' => by cases hs'; exact hInv⟩
    rw [iterW_eq, h2 s hInv]
    simp only [foldE]
    cases ex with
    | normal => exact absurd rfl hex
    | exit id => rfl
    | ret => rfl
  | cons a k ih =>
    intro i s hk hi hInv
    have hil : i < l.length := by
      apply Nat.lt_of_not_le
      intro hle
      rw [List.drop_eq_nil_iff.2 hle] at hk; cases hk
    have hd := List.drop_eq_getElem_cons hil
    rw [hk] at hd
    injection hd with ha hk'
    obtain ⟨g1, g2⟩ := h1 i hil s hInv
    rw [iterW_eq]
    simp only [foldE]
    rw [ha]
    cases hs : step i s l[i] with
    | ok s' =>
      obtain ⟨k1, k2⟩ := g1 s' hs
      rw [k1]
      exact ih (i + 1) s' hk'.symm (by omega) k2
    | error b =>
      rw [g2 b hs]
      refine ⟨?_, fun s' hs' => by cases hs'⟩
      have := hout b
      simp only
      cases ho : out b with
      | mk e st =>
        rw [ho] at this
        cases e with
        | normal => exact absurd rfl this
        | exit id => rfl
        | ret => rfl

/-- A loop over a list that is not left early. -/
theorem iterW_list {α σ : Type} {round : St → Option (Ex × St)} (S : Nat → σ → St) (step : Nat → σ → α → σ) (Inv : Nat → σ → Prop) (l : List α) {ex : Ex} (hex : ex ≠ .normal)
    (h1 : ∀ (i : Nat) (hi : i < l.length) (s : σ), Inv i s → round (S i s) = some (.normal, S (i + 1) (step i s l[i])) ∧ Inv (i + 1) (step i s l[i]))
    (h2 : ∀ s, Inv l.length s → round (S l.length s) = some (ex, S l.length s)) (s : σ) (hs : Inv 0 s) :
    ∃ s', foldE (β := Empty) (fun i s a => .ok (step i s a)) 0 l s = .ok s' ∧ iterW round (S 0 s) = some (ex, S l.length s') ∧ Inv l.length s' := by
  have := iterW_foldE (β := Empty) (S := S) (round := round) (step := fun i s a => .ok (step i s a)) (out := fun b => nomatch b) (ex := ex) Inv l hex (fun b => nomatch b)
    (fun i hi s hI => ⟨fun s' e => by cases e; exact h1 i hi s hI, fun b => nomatch b⟩) h2 l 0 s rfl (Nat.zero_le _) hs
  cases hf : foldE (β := Empty) (fun i s a => .ok (step i s a)) 0 l s with
  | ok s' => rw [hf] at this; exact ⟨s', rfl, this.1, this.2 s' rfl⟩
  | error b => exact nomatch b
theorem foldE_foldl {α β σ : Type} (step : σ → α → σ) : ∀ (l : List α) (i : Nat) (s : σ), foldE (β := β) (fun _ s a => .ok (step s a)) i l s = .ok (l.foldl step s) := by
  intro l
  induction l with
  | nil => intro i s; rfl
  | cons a l ih => intro i s; exact ih (i + 1) (step s a)

/-! Rows. -/
theorem getRow_map {α : Type} (f : α → List V) {sz : Nat} (hf : ∀ x, (f x).length = sz) (l : List α) (i : Nat) (hi : i < l.length) : getRow (l.map f) (i : Int) sz = some (f l[i]) := by
  unfold getRow
  have h0 : (0 : Int) ≤ (i : Int) := Int.natCast_nonneg i
  rw [if_pos h0]
  simp [hi, hf]
theorem getRow_mapI {α : Type} (f : α → List V) {sz : Nat} (hf : ∀ x, (f x).length = sz) (l : List α) (i : Int) (h0 : 0 ≤ i) (hi : i.toNat < l.length) : getRow (l.map f) i sz = some (f l[i.toNat]) := by
  obtain ⟨n, rfl⟩ := Int.eq_ofNat_of_zero_le h0
  exact getRow_map f hf l n hi

theorem cond_dec {R : Type} {p : Prop} [Decidable p] (x y : R) : cond (decide p) x y = if p then x else y := by
  by_cases h : p <;> simp [h]
theorem cond_not {R : Type} (b : Bool) (x y : R) : cond (!b) x y = cond b y x := by cases b <;> rfl

/-- An interval. -/
structure Iv where
  lo : Int
  hi : Int
  deriving DecidableEq
def Iv.c (a : Iv) : List V := [.int .i64 a.lo, .int .i64 a.hi]
theorem Iv.c_len (a : Iv) : a.c.length = 2 := rfl
/-- A segment. -/
structure Seg where
  t : Int
  h : Int
  frm : List Iv
  pre : List Iv
  tube : List Iv
  to : List Iv
def rows (l : List Iv) : V := .slice .any (l.map Iv.c)
def Seg.c (s : Seg) : List V := [.int .i64 s.t, .int .i64 s.h, .slice .any (s.frm.map Iv.c), .slice .any (s.pre.map Iv.c), .slice .any (s.tube.map Iv.c), .slice .any (s.to.map Iv.c)]
theorem Seg.c_len (a : Seg) : a.c.length = 6 := rfl

/-! What was looked at. -/
theorem asInt_i (n : Int) : asInt .i64 (.int .i64 n) = some n := rfl
theorem asBool_i (b : Bool) : asBool (.bool b) = some b := rfl
theorem asRows_i (fl : Fl) (r : List (List V)) : asRows (.slice fl r) = some r := rfl
theorem asCells_i (l : List V) : asCells (.agg l) = some l := rfl
theorem asTuple_i (l : List V) : asTuple (.tuple l) = some l := rfl
theorem asBox_i (l : List V) : asBox (.box l) = some l := rfl
theorem asObCells_i (l : List V) : asObCells (.cells l) = some l := rfl
theorem asLoop_i (l : LoopA) : asLoop (.loop l) = some l := rfl
theorem uncons_i (v : V) (l : List V) : uncons (v :: l) = some (v, l) := rfl
theorem unconsO_i (v : Ob) (l : List Ob) : unconsO (v :: l) = some (v, l) := rfl
theorem isNil_i : isNil [] = some () := rfl
theorem asPtr_i (i o : Nat) : asPtr i o (.ptr i o) = some () := by simp [asPtr]
theorem asFn_f (n : Nat) (a b : List V) : asFn (.func n) (.fn (.func n) a b) = some (a, b) := by simp [asFn, fnEq]
theorem asFn_y (n : Nat) (a b : List V) : asFn (.yield n) (.fn (.yield n) a b) = some (a, b) := by simp [asFn, fnEq]
theorem asArr_i (id len sz : Nat) : asArr id sz (.arr id len sz) = some len := by simp [asArr]
theorem asObArr_t (sz : Nat) (r : List (List V)) : asObArr true sz (.arr true sz r) = some r := by simp [asObArr]
theorem asObArr_f (sz : Nat) (r : List (List V)) : asObArr false sz (.arr false sz r) = some r := by simp [asObArr]
theorem isReady_i : isReady .ready = some () := rfl
theorem isBusy_i : isBusy .busy = some () := rfl
theorem uncons_c (a : Iv) : uncons a.c = some (.int .i64 a.lo, [.int .i64 a.hi]) := rfl
theorem uncons_sc (s : Seg) : uncons s.c = some (.int .i64 s.t, [.int .i64 s.h, .slice .any (s.frm.map Iv.c), .slice .any (s.pre.map Iv.c), .slice .any (s.tube.map Iv.c), .slice .any (s.to.map Iv.c)]) := rfl
theorem arrRows_i (wr : Bool) (sz : Nat) (r : List (List V)) (h : List Ob) : arrRows (.arr wr sz r :: h) 0 r.length = some r := by simp [arrRows, hget]
theorem Iv.eta (a : Iv) : (⟨a.lo, a.hi⟩ : Iv) = a := rfl
theorem nth0 (v : V) (l : List V) : nth (v :: l) 0 = v := rfl
theorem nthS (v : V) (l : List V) (n : Nat) : nth (v :: l) (n + 1) = nth l n := rfl
end Go.Ab
