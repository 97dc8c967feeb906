/- Squared distances and separation, typed; conditions: ranges where they are told. -/
import Derived.Test.YtbfecmgiffkooaaYB
namespace Go.Ab
set_option linter.unusedSimpArgs false
set_option linter.unusedVariables false

def sqdFrom : Iv → List (Iv × Iv) → Iv
  | s, [] => s
  | s, (x, y) :: l => sqdFrom (s.add (x.sub y).sq) l
def sqd (a b : List Iv) : Iv := sqdFrom ⟨0, 0⟩ (a.zip b)
def Iv.zero : Iv := ⟨0, 0⟩
def valids (l : List Iv) : Prop := ∀ x ∈ l, x.valid
def few (l : List Iv) : Prop := l.length ≤ 1000000
theorem zero_valid : (⟨0, 0⟩ : Iv).valid := by simp [Iv.valid, Iv.isW, number]
theorem wsucc (i : Nat) (h : i ≤ 1000000000) : IntKind.wrap .i64 ((i : Int) + 1) = ((i + 1 : Nat) : Int) := by
  rw [w64 (by omega) (by omega)]; simp
theorem bind_via {A R : Type} {x y : Option A} (h : x = y) (k : A → Option R) : x.bind k = y.bind k := by rw [h]
theorem foldE_ok {α σ : Type} (step : Nat → σ → α → σ) : ∀ (l : List α) (i : Nat) (s : σ), ∃ s', foldE (β := Empty) (fun i s a => .ok (step i s a)) i l s = .ok s' := by
  intro l
  induction l with
  | nil => intro i s; exact ⟨s, rfl⟩
  | cons a l ih => intro i s; exact ih _ _
/-- A loop over a list, by a fold from the left. -/
theorem iterW_foldl {α σ : Type} {round : St → Option (Ex × St)} (S : Nat → σ → St) (step : σ → α → σ) (Inv : σ → Prop) (l : List α) {id : Nat}
    (h1 : ∀ (i : Nat) (hi : i < l.length) (s : σ), Inv s → round (S i s) = some (.normal, S (i + 1) (step s l[i])) ∧ Inv (step s l[i]))
    (h2 : ∀ s, Inv s → round (S l.length s) = some (.exit id, S l.length s)) (s : σ) (hs : Inv s) :
    iterW round (S 0 s) = some (.exit id, S l.length (l.foldl step s)) ∧ Inv (l.foldl step s) := by
  obtain ⟨s', e1, e2, e3⟩ := iterW_list S (fun _ s a => step s a) (fun _ s => Inv s) l (ex := .exit id) (by simp) h1 h2 s hs
  rw [foldE_foldl] at e1
  cases e1
  exact ⟨e2, e3⟩
theorem sqdFrom_foldl : ∀ (l : List (Iv × Iv)) (s : Iv), l.foldl (fun s p => s.add (p.1.sub p.2).sq) s = sqdFrom s l
  | [], _ => rfl
  | (_, _) :: l, s => sqdFrom_foldl l _
theorem sqdFrom_valid : ∀ (l : List (Iv × Iv)) (s : Iv), s.valid → (∀ p ∈ l, p.1.valid ∧ p.2.valid) → (sqdFrom s l).valid
  | [], _, h, _ => h
  | (x, y) :: l, s, h, hl => sqdFrom_valid l _ (add_valid h (sq_valid (sub_valid (hl (x, y) (by simp)).1 (hl (x, y) (by simp)).2))) fun p hp => hl p (by simp [hp])
theorem zip_valid {a b : List Iv} (ha : valids a) (hb : valids b) : ∀ p ∈ a.zip b, p.1.valid ∧ p.2.valid := fun p hp => ⟨ha _ (List.of_mem_zip hp).1, hb _ (List.of_mem_zip hp).2⟩
theorem sqd_valid {a b : List Iv} (ha : valids a) (hb : valids b) : (sqd a b).valid := sqdFrom_valid _ _ zero_valid (zip_valid ha hb)
theorem lt_dec {i n : Nat} (h : i < n) : decide ((i : Int) < (n : Int)) = true := by simp [h]
theorem lt_decn {n : Nat} : decide ((n : Int) < (n : Int)) = false := by simp

theorem p27 (a b : List Iv) (hl : a.length ≤ b.length) (ha : valids a) (hb : valids b) (hf : few a) : (CW G20 L20).p (.func 27) [.slice .any (a.map Iv.c), .slice .any (b.map Iv.c)] = some (.agg (sqd a b).c) := by
  have hz : (a.zip b).length = a.length := by simp [List.length_zip]; omega
  have hloop := iterW_foldl (round := roundK G20 L20 (CW G20 L20) 27 none 3)
    (S := fun i (s : Iv) => ⟨sp 0 27 [(0, .slice .any (a.map Iv.c)), (1, .slice .any (b.map Iv.c)), (4, .box [.int .i64 0, .int .i64 0]), (5, .box [.int .i64 s.lo, .int .i64 s.hi]), (6, .int .i64 i)], []⟩)
    (fun s p => s.add (p.1.sub p.2).sq) Iv.valid (a.zip b) (id := 0) (fun i hi s hI => by
      have hia : i < a.length := by omega
      have hib : i < b.length := by omega
      have va := ha _ (List.getElem_mem hia)
      have vb := hb _ (List.getElem_mem hib)
      have vs := sub_valid va vb
      refine ⟨?_, ?_⟩
      · simp only [e27_3, List.length_map, lt_dec hia, getRow_map Iv.c Iv.c_len a i hia, getRow_map Iv.c Iv.c_len b i hib, asInt_i, asBool_i, asRows_i, asCells_i, asTuple_i, asBox_i, asObCells_i, asLoop_i, uncons_i, unconsO_i, isNil_i, asPtr_i, asFn_f, asFn_y, asArr_i, asObArr_t, asObArr_f, isReady_i, isBusy_i, uncons_c, uncons_sc, arrRows_i, Option.bind_some, Option.bind_none, cond_true, cond_false, cond_dec, cond_not, p58 _ _ va vb, p57 _ vs, p56 _ _ hI (sq_valid vs), wsucc i (by have := hf; unfold few at this; omega), List.getElem_zip]
      · simp only [List.getElem_zip]; exact add_valid hI (sq_valid vs))
    (fun s hI => by simp only [e27_3, List.length_map, hz, lt_decn, cond_false]) ⟨0, 0⟩ zero_valid
  rw [sqdFrom_foldl] at hloop
  refine CW_val (h := []) ?_ rfl
  rw [e27, CW_w]
  refine (bind_via hloop.1 _).trans ?_
  kernel_rfl

/-! The program's own, by a range over pairs. -/
noncomputable def R41 (a b : List Iv) : LoopA := ⟨.ready, none, (sp 0 20 [(0, .slice .any (a.map Iv.c)), (1, .slice .any (b.map Iv.c)), (5, .ptr 0 0), (8, .slice .any (a.map Iv.c)), (9, .slice .any (b.map Iv.c)), (10, .fn (.func 86) [] [.ptr 1 0, .ptr 2 0])]), 41, [11, 12], rangeAssign GP 41 5, rangeBody GP 41 5⟩
theorem h41_y (a b : List Iv) (s x y : Iv) (hs : s.valid) (hx : x.valid) (hy : y.valid) :
    (CW G20 L20).s (.yield 3) [.agg [.int .i64 x.lo, .int .i64 x.hi], .agg [.int .i64 y.lo, .int .i64 y.hi]] [.cells [.int .i64 s.lo, .int .i64 s.hi], .cells [.slice .any (a.map Iv.c)], .cells [.slice .any (b.map Iv.c)], .loop (R41 a b)] =
      some (.bool true, [.cells [.int .i64 (s.add (x.sub y).sq).lo, .int .i64 (s.add (x.sub y).sq).hi], .cells [.slice .any (a.map Iv.c)], .cells [.slice .any (b.map Iv.c)], .loop (R41 a b)]) := by
  have vs := sub_valid hx hy
  refine CW_run ?_
  refine (y41_5 _ _ _ _ _ _ _ _ _ _ _ _ _).trans ?_
  simp only [p70 _ _ hx hy, p69 _ vs, p68 _ _ hs (sq_valid vs), asInt_i, asBool_i, asRows_i, asCells_i, asTuple_i, asBox_i, asObCells_i, asLoop_i, uncons_i, unconsO_i, isNil_i, asPtr_i, asFn_f, asFn_y, asArr_i, asObArr_t, asObArr_f, isReady_i, isBusy_i, uncons_c, uncons_sc, arrRows_i, Option.bind_some, Option.bind_none, cond_true, cond_false, cond_dec, cond_not]
  rfl
theorem h41_86 (a b : List Iv) (hl : a.length ≤ b.length) (ha : valids a) (hb : valids b) (hf : few a) :
    (CW G20 L20).s (.func 86) [.fn (.yield 3) [] [], .ptr 1 0, .ptr 2 0] [.cells [.int .i64 0, .int .i64 0], .cells [.slice .any (a.map Iv.c)], .cells [.slice .any (b.map Iv.c)], .loop (R41 a b)] =
      some (.tuple [], [.cells [.int .i64 (sqd a b).lo, .int .i64 (sqd a b).hi], .cells [.slice .any (a.map Iv.c)], .cells [.slice .any (b.map Iv.c)], .loop (R41 a b)]) := by
  have hz : (a.zip b).length = a.length := by simp [List.length_zip]; omega
  have hloop := iterW_foldl (round := roundK G20 L20 (CW G20 L20) 86 none 1)
    (S := fun i (s : Iv) => ⟨(sp 0 22 [(0, .fn (.yield 3) [] []), (2, .ptr 2 0), (6, .slice .any (a.map Iv.c)), (7, .int .i64 (((a.map Iv.c).length : Nat) : Int)), (8, .int .i64 (i : Nat))]), [.cells [.int .i64 s.lo, .int .i64 s.hi], .cells [.slice .any (a.map Iv.c)], .cells [.slice .any (b.map Iv.c)], .loop (R41 a b)]⟩)
    (fun s p => s.add (p.1.sub p.2).sq) Iv.valid (a.zip b) (id := 0) (fun i hi s hI => by
      have hia : i < a.length := by omega
      have hib : i < b.length := by omega
      have va := ha _ (List.getElem_mem hia)
      have vb := hb _ (List.getElem_mem hib)
      have vs := sub_valid va vb
      refine ⟨?_, ?_⟩
      · simp only [e86_1, List.length_map, lt_dec hia, getRow_map Iv.c Iv.c_len a i hia, getRow_map Iv.c Iv.c_len b i hib, asInt_i, asBool_i, asRows_i, asCells_i, asTuple_i, asBox_i, asObCells_i, asLoop_i, uncons_i, unconsO_i, isNil_i, asPtr_i, asFn_f, asFn_y, asArr_i, asObArr_t, asObArr_f, isReady_i, isBusy_i, uncons_c, uncons_sc, arrRows_i, Option.bind_some, Option.bind_none, cond_true, cond_false, cond_dec, cond_not, h41_y a b _ _ _ hI va vb, wsucc i (by have := hf; unfold few at this; omega), List.getElem_zip]
      · simp only [List.getElem_zip]; exact add_valid hI (sq_valid vs))
    (fun s hI => by simp only [e86_1, List.length_map, hz, lt_decn, cond_false]) ⟨0, 0⟩ zero_valid
  rw [sqdFrom_foldl] at hloop
  refine CW_run ?_
  rw [s86, CW_w]
  refine (bind_via hloop.1 _).trans ?_
  kernel_rfl
theorem p41 (a b : List Iv) (hl : a.length ≤ b.length) (ha : valids a) (hb : valids b) (hf : few a) : (CW G20 L20).p (.func 41) [.slice .any (a.map Iv.c), .slice .any (b.map Iv.c)] = some (.agg (sqd a b).c) := by
  refine CW_valH (u := .agg (sqd a b).c) (h := [.cells [.int .i64 (sqd a b).lo, .int .i64 (sqd a b).hi], .cells [.slice .any (a.map Iv.c)], .cells [.slice .any (b.map Iv.c)]]) ?_ rfl
  rw [e41]
  refine (bind_via (CW_run (s67 _ 0 0 (a.map Iv.c) (b.map Iv.c))) _).trans ?_
  simp only [asInt_i, asBool_i, asRows_i, asCells_i, asTuple_i, asBox_i, asObCells_i, asLoop_i, uncons_i, unconsO_i, isNil_i, asPtr_i, asFn_f, asFn_y, asArr_i, asObArr_t, asObArr_f, isReady_i, isBusy_i, uncons_c, uncons_sc, arrRows_i, Option.bind_some, Option.bind_none, cond_true, cond_false, cond_dec, cond_not]
  refine (bind_via (h41_86 a b hl ha hb hf) _).trans ?_
  kernel_rfl

/-! Separation. -/
theorem foldE_any {α : Type} (p : α → Bool) : ∀ (l : List α) (i : Nat), (l.any p = true ∧ ∃ j, foldE (fun i (_ : Unit) a => if p a then Except.error i else .ok ()) i l () = .error j) ∨ (l.any p = false ∧ foldE (fun i (_ : Unit) a => if p a then Except.error i else .ok ()) i l () = .ok ()) := by
  intro l
  induction l with
  | nil => intro i; exact .inr ⟨rfl, rfl⟩
  | cons a l ih =>
    intro i
    simp only [foldE, List.any_cons]
    cases hp : p a with
    | true => exact .inl ⟨by simp, i, by simp⟩
    | false => simpa using ih (i + 1)
/-- A loop that looks for an element. -/
theorem iterW_any {α : Type} {round : St → Option (Ex × St)} (S : Nat → St) (T : Nat → Ex × St) (p : α → Bool) (l : List α) {id : Nat} (hT : ∀ i, (T i).1 ≠ .normal)
    (h1 : ∀ (i : Nat) (hi : i < l.length), round (S i) = if p l[i] then some (T i) else some (.normal, S (i + 1)))
    (h2 : round (S l.length) = some (.exit id, S l.length)) :
    (l.any p = true ∧ ∃ i, iterW round (S 0) = some (T i)) ∨ (l.any p = false ∧ iterW round (S 0) = some (.exit id, S l.length)) := by
  have := iterW_foldE (S := fun i (_ : Unit) => S i) (round := round) (step := fun i (_ : Unit) a => if p a then Except.error i else .ok ()) (out := T) (ex := .exit id) (fun _ _ => True) l (by simp) hT
    (fun i hi s _ => ⟨fun s' e => by
      have hr := h1 i hi
      cases hp : p l[i] with
      | true => simp [hp] at e
      | false => rw [hp] at hr; exact ⟨by simpa using hr, trivial⟩, fun b e => by
      have hr := h1 i hi
      cases hp : p l[i] with
      | true => simp [hp] at e; subst e; rw [hp] at hr; simpa using hr
      | false => simp [hp] at e⟩) (fun _ _ => h2) l 0 () rfl (Nat.zero_le _) trivial
  rcases foldE_any p l 0 with ⟨k1, j, k2⟩ | ⟨k1, k2⟩
  · rw [k2] at this; exact .inl ⟨k1, j, this.1⟩
  · rw [k2] at this; exact .inr ⟨k1, this.1⟩

def sep (a b : List Iv) (d : Int) : Bool := !(sqd a b).isW && decide ((sqd a b).lo > ce (d * d))
def gap (d : Int) (p : Iv × Iv) : Bool := !p.1.isW && (!p.2.isW && (decide (p.1.lo - p.2.hi > d) || decide (p.2.lo - p.1.hi > d)))
def sepd (a b : List Iv) (d : Int) : Bool := (a.zip b).any (gap d) || sep a b d
theorem p89 (a b : List Iv) (hl : a.length ≤ b.length) (ha : valids a) (hb : valids b) (hf : few a) (d : Int) (hd : small (d * d)) :
    (CW G20 L20).p (.func 89) [.slice .any (a.map Iv.c), .slice .any (b.map Iv.c), .int .i64 d] = some (.bool (sep a b d)) := by
  refine CW_val (h := []) ?_ rfl
  simp only [e89, p41 a b hl ha hb hf, p45 _ _ hd, p46, asInt_i, asBool_i, asRows_i, asCells_i, asTuple_i, asBox_i, asObCells_i, asLoop_i, uncons_i, unconsO_i, isNil_i, asPtr_i, asFn_f, asFn_y, asArr_i, asObArr_t, asObArr_f, isReady_i, isBusy_i, uncons_c, uncons_sc, arrRows_i, Option.bind_some, Option.bind_none, cond_true, cond_false, cond_dec, cond_not, Iv.eta, sep]
  cases (sqd a b).isW <;> simp
theorem p80 (a b : List Iv) (hl : a.length ≤ b.length) (ha : valids a) (hb : valids b) (hf : few a) (d : Int) (hd : small (d * d)) :
    (CW G20 L20).p (.func 80) [.slice .any (a.map Iv.c), .slice .any (b.map Iv.c), .int .i64 d] = some (.bool (sep a b d)) := by
  refine CW_val (h := []) ?_ rfl
  simp only [e80, p27 a b hl ha hb hf, p102 _ _ hd, p26, asInt_i, asBool_i, asRows_i, asCells_i, asTuple_i, asBox_i, asObCells_i, asLoop_i, uncons_i, unconsO_i, isNil_i, asPtr_i, asFn_f, asFn_y, asArr_i, asObArr_t, asObArr_f, isReady_i, isBusy_i, uncons_c, uncons_sc, arrRows_i, Option.bind_some, Option.bind_none, cond_true, cond_false, cond_dec, cond_not, Iv.eta, sep]
  cases (sqd a b).isW <;> simp
theorem p74 (a b : List Iv) (hl : a.length ≤ b.length) (ha : valids a) (hb : valids b) (hf : few a) (d : Int) (hd : small (d * d)) :
    (CW G20 L20).p (.func 74) [.slice .any (a.map Iv.c), .slice .any (b.map Iv.c), .int .i64 d] = some (.bool (sepd a b d)) := by
  have hz : (a.zip b).length = a.length := by simp [List.length_zip]; omega
  have hloop := iterW_any (round := roundK G20 L20 (CW G20 L20) 74 none 2)
    (S := fun i => ⟨(sp 0 49 [(0, .slice .any (a.map Iv.c)), (1, .slice .any (b.map Iv.c)), (2, .int .i64 d), (6, .bool false), (10, .slice .any (a.map Iv.c)), (11, .int .i64 (((a.map Iv.c).length : Nat) : Int)), (12, .int .i64 (i : Nat))]), []⟩)
    (T := fun i => (.ret, ⟨(sp 0 49 [(0, .slice .any (a.map Iv.c)), (1, .slice .any (b.map Iv.c)), (2, .int .i64 d), (6, .bool true), (10, .slice .any (a.map Iv.c)), (11, .int .i64 (((a.map Iv.c).length : Nat) : Int)), (12, .int .i64 (i : Nat))]), []⟩))
    (gap d) (a.zip b) (id := 0) (fun i => by simp) (fun i hi => by
      have hia : i < a.length := by omega
      have hib : i < b.length := by omega
      have va := ha _ (List.getElem_mem hia)
      have vb := hb _ (List.getElem_mem hib)
      simp only [e74_2, List.length_map, lt_dec hia, getRow_map Iv.c Iv.c_len a i hia, getRow_map Iv.c Iv.c_len b i hib, asInt_i, asBool_i, asRows_i, asCells_i, asTuple_i, asBox_i, asObCells_i, asLoop_i, uncons_i, unconsO_i, isNil_i, asPtr_i, asFn_f, asFn_y, asArr_i, asObArr_t, asObArr_f, isReady_i, isBusy_i, uncons_c, uncons_sc, arrRows_i, Option.bind_some, Option.bind_none, cond_true, cond_false, cond_dec, cond_not, p46, wsucc i (by have := hf; unfold few at this; omega), List.getElem_zip, gap, Iv.eta]
      generalize a[i] = x at *
      generalize b[i] = y at *
      rw [w64 (by have := va.2; have := vb.2; have := va.1; have := vb.1; omega) (by have := va.2; have := vb.2; have := va.1; have := vb.1; omega), w64 (by have := va.2; have := vb.2; have := va.1; have := vb.1; omega) (by have := va.2; have := vb.2; have := va.1; have := vb.1; omega)]
      have hm : ((if y.lo - x.hi > x.lo - y.hi then y.lo - x.hi else x.lo - y.hi) > d) ↔ (x.lo - y.hi > d ∨ y.lo - x.hi > d) := by split <;> omega
      cases x.isW
      · cases y.isW
        · simp only [hm, cond_false, Bool.not_false, Bool.true_and, Bool.or_eq_true, decide_eq_true_eq]
        · simp
      · simp)
    (by simp only [e74_2, List.length_map, hz, lt_decn, cond_false])
  refine CW_val (h := []) ?_ rfl
  rw [e74, CW_w]
  rcases hloop with ⟨k1, i, k2⟩ | ⟨k1, k2⟩
  · refine (bind_via k2 _).trans ?_
    simp only [sepd, k1, Bool.true_or]
    kernel_rfl
  · refine (bind_via k2 _).trans ?_
    simp only [sepd, k1, Bool.false_or]
    refine Eq.trans (b := ((CW G20 L20).p (.func 89) [.slice .any (a.map Iv.c), .slice .any (b.map Iv.c), .int .i64 d]).bind fun x10 => (asBool x10).bind fun x11 => some (.bool x11, [])) (by kernel_rfl) ?_
    rw [p89 a b hl ha hb hf d hd]; rfl
theorem p53 (a b : List Iv) (hl : a.length ≤ b.length) (ha : valids a) (hb : valids b) (hf : few a) (d : Int) (hd : small (d * d)) :
    (CW G20 L20).p (.func 53) [.slice .any (a.map Iv.c), .slice .any (b.map Iv.c), .int .i64 d] = some (.bool (sepd a b d)) := by
  have hz : (a.zip b).length = a.length := by simp [List.length_zip]; omega
  have hloop := iterW_any (round := roundK G20 L20 (CW G20 L20) 53 none 2)
    (S := fun i => ⟨(sp 0 62 [(0, .slice .any (a.map Iv.c)), (1, .slice .any (b.map Iv.c)), (2, .int .i64 d), (6, .bool false), (7, .int .i64 (i : Nat))]), []⟩)
    (T := fun i => (.ret, ⟨(sp 0 62 [(0, .slice .any (a.map Iv.c)), (1, .slice .any (b.map Iv.c)), (2, .int .i64 d), (6, .bool true), (7, .int .i64 (i : Nat))]), []⟩))
    (gap d) (a.zip b) (id := 0) (fun i => by simp) (fun i hi => by
      have hia : i < a.length := by omega
      have hib : i < b.length := by omega
      have va := ha _ (List.getElem_mem hia)
      have vb := hb _ (List.getElem_mem hib)
      simp only [e53_2, List.length_map, lt_dec hia, getRow_map Iv.c Iv.c_len a i hia, getRow_map Iv.c Iv.c_len b i hib, asInt_i, asBool_i, asRows_i, asCells_i, asTuple_i, asBox_i, asObCells_i, asLoop_i, uncons_i, unconsO_i, isNil_i, asPtr_i, asFn_f, asFn_y, asArr_i, asObArr_t, asObArr_f, isReady_i, isBusy_i, uncons_c, uncons_sc, arrRows_i, Option.bind_some, Option.bind_none, cond_true, cond_false, cond_dec, cond_not, p26, wsucc i (by have := hf; unfold few at this; omega), List.getElem_zip, gap, Iv.eta]
      generalize a[i] = x at *
      generalize b[i] = y at *
      rw [w64 (by have := va.2; have := vb.2; have := va.1; have := vb.1; omega) (by have := va.2; have := vb.2; have := va.1; have := vb.1; omega), w64 (by have := va.2; have := vb.2; have := va.1; have := vb.1; omega) (by have := va.2; have := vb.2; have := va.1; have := vb.1; omega)]
      cases x.isW
      · cases y.isW
        · by_cases c1 : x.lo - y.hi > d
          · simp [c1]
          · by_cases c2 : y.lo - x.hi > d
            · simp [c1, c2]
            · simp [c1, c2]
        · simp
      · simp)
    (by simp only [e53_2, List.length_map, hz, lt_decn, cond_false])
  refine CW_val (h := []) ?_ rfl
  rw [e53, CW_w]
  rcases hloop with ⟨k1, i, k2⟩ | ⟨k1, k2⟩
  · refine (bind_via k2 _).trans ?_
    simp only [sepd, k1, Bool.true_or]
    kernel_rfl
  · refine (bind_via k2 _).trans ?_
    simp only [sepd, k1, Bool.false_or]
    refine Eq.trans (b := ((CW G20 L20).p (.func 80) [.slice .any (a.map Iv.c), .slice .any (b.map Iv.c), .int .i64 d]).bind fun x10 => (asBool x10).bind fun x11 => some (.bool x11, [])) (by kernel_rfl) ?_
    rw [p80 a b hl ha hb hf d hd]; rfl
end Go.Ab
