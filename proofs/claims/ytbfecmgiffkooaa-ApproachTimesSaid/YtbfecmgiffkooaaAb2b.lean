/- Every step hands on one state; conditions: none. -/
import Derived.Test.YtbfecmgiffkooaaAb2
namespace Go.Ab
set_option linter.unusedVariables false
set_option linter.unusedSimpArgs false
variable {R : Type}

theorem bind_some' {A : Type} (x : Option A) : x.bind some = x := by cases x <;> rfl
theorem ifK_bind {A : Type} (b : Bool) (x : Option A) (k : A → Option R) : ifK b (x.bind k) = (ifK b x).bind k := by cases b <;> rfl
theorem cond_bind {A : Type} (b : Bool) (x y : Option A) (k : A → Option R) : cond b (x.bind k) (y.bind k) = (cond b x y).bind k := by cases b <;> rfl
theorem cond_bind_l {A : Type} (b : Bool) (x : Option A) (k : A → Option R) : cond b (x.bind k) none = (cond b x none).bind k := by cases b <;> rfl
theorem cond_bind_r {A : Type} (b : Bool) (x : Option A) (k : A → Option R) : cond b none (x.bind k) = (cond b none x).bind k := by cases b <;> rfl

theorem shK_bind (sh : Sh) (v : V) (k : V → Option R) : shK sh v k = (shK sh v some).bind k := by
  cases sh <;> simp only [shK] <;> first | rfl | (rw [Option.bind_assoc]; rfl)
theorem shsK_bind (l : List Sh) : ∀ {R : Type} (vs : List V) (k : List V → Option R), shsK l vs k = (shsK l vs some).bind k := by
  induction l with
  | nil => intro R vs k; simp only [shsK]; rw [Option.bind_assoc]; rfl
  | cons sh l ih =>
    intro R vs k
    simp only [shsK]
    rw [Option.bind_assoc]
    congr 1; funext p
    rw [shK_bind, shK_bind (R := List V), Option.bind_assoc]
    congr 1; funext v
    rw [ih _ (fun vs => k (v :: vs)), ih _ (fun vs => some (v :: vs)), Option.bind_assoc]
    rfl
theorem shapeK_bind (P : Program) (t : TypeId) (v : V) (k : V → Option R) : shapeK P t v k = (shapeK P t v some).bind k := by
  unfold shapeK
  split
  · rw [Option.bind_assoc]; congr 1; funext cs; rw [shsK_bind, shsK_bind (R := V), Option.bind_assoc]; rfl
  · rw [Option.bind_assoc]; congr 1; funext cs; rw [shsK_bind, shsK_bind (R := V), Option.bind_assoc]; rfl
  · exact shK_bind _ _ _
  · rfl
theorem shapesK_bind (P : Program) (l : List TypeId) : ∀ {R : Type} (vs : List V) (k : List V → Option R), shapesK P l vs k = (shapesK P l vs some).bind k := by
  induction l with
  | nil => intro R vs k; simp only [shapesK]; rw [Option.bind_assoc]; rfl
  | cons t l ih =>
    intro R vs k
    simp only [shapesK]
    rw [Option.bind_assoc]
    congr 1; funext p
    rw [shapeK_bind, shapeK_bind (R := List V), Option.bind_assoc]
    congr 1; funext v
    rw [ih _ (fun vs => k (v :: vs)), ih _ (fun vs => some (v :: vs)), Option.bind_assoc]
    rfl
theorem resultK_bind (P : Program) (t : TypeId) (v : V) (k : V → Option R) : resultK P t v k = (resultK P t v some).bind k := by
  unfold resultK
  split
  · rw [Option.bind_assoc]; congr 1; funext cs; rw [shapesK_bind, shapesK_bind (R := V), Option.bind_assoc]; rfl
  · exact shapeK_bind _ _ _ _
theorem normK1_bind (h : List Ob) (v : V) (k : V → Option R) : normK1 h v k = (normK1 h v some).bind k := by
  unfold normK1
  split
  · rw [Option.bind_assoc]; rfl
  · rfl
  · rw [← ifK_bind]; rfl
theorem normsK_bind (h : List Ob) (l : List V) : ∀ {R : Type} (k : List V → Option R), normsK h l k = (normsK h l some).bind k := by
  induction l with
  | nil => intro R k; rfl
  | cons v l ih =>
    intro R k
    simp only [normsK]
    rw [normK1_bind, normK1_bind (R := List V), Option.bind_assoc]
    congr 1; funext v
    rw [ih (fun l => k (v :: l)), ih (fun l => some (v :: l)), Option.bind_assoc]; rfl
theorem normK_bind (h : List Ob) (v : V) (k : V → Option R) : normK h v k = (normK h v some).bind k := by
  unfold normK
  split
  · rw [normsK_bind, normsK_bind (R := V), Option.bind_assoc]; rfl
  · exact normK1_bind _ _ _
theorem normArgsK_bind (h : List Ob) (l : List V) : ∀ {R : Type} (k : List V → Option R), normArgsK h l k = (normArgsK h l some).bind k := by
  induction l with
  | nil => intro R k; rfl
  | cons v l ih =>
    intro R k
    simp only [normArgsK]
    rw [normK_bind, normK_bind (R := List V), Option.bind_assoc]
    congr 1; funext v
    rw [ih (fun l => k (v :: l)), ih (fun l => some (v :: l)), Option.bind_assoc]; rfl
theorem normResK_bind (h : List Ob) (v : V) (k : V → Option R) : normResK h v k = (normResK h v some).bind k := by
  unfold normResK
  split
  · rw [normArgsK_bind, normArgsK_bind (R := V), Option.bind_assoc]; rfl
  · exact normK_bind _ _ _
theorem loadK_bind (s : St) (a : V) (ag : Bool) (n : Nat) (sh : List Sh) (k : V → Option R) : loadK s a ag n sh k = (loadK s a ag n sh some).bind k := by
  unfold loadK
  split
  · rw [bind_some']
  · split <;> first | rfl | rw [bind_some']
  · rw [bind_some']
  · split <;> first | rfl | rw [bind_some']
  · rw [← ifK_bind]; congr 1
    rw [Option.bind_assoc]; congr 1; funext rows
    rw [Option.bind_assoc]; congr 1; funext row
    rw [Option.bind_assoc]; congr 1; funext cs
    rw [shsK_bind, shsK_bind (R := V), Option.bind_assoc]; rfl
  · rfl
theorem storeK_bind (s : St) (i : Nat) (a : V) (new : List V) (k : St → Option R) : storeK s i a new k = (storeK s i a new some).bind k := by
  unfold storeK
  (repeat' split) <;> first
    | rfl
    | (rw [← ifK_bind]; rfl)
    | (rw [← ifK_bind, ← cond_bind_l]; rfl)
theorem appTo_bind (s : St) (sz b : Nat) (x : V) (new : List (List V)) (k : V → List Ob → Option R) : appTo s sz b x new k = (appTo s sz b x new fun v h => some (v, h)).bind fun p => k p.1 p.2 := by
  unfold appTo
  (repeat' split) <;> first
    | rfl
    | (rw [← cond_bind_l]; rfl)
    | (rw [← ifK_bind, ← cond_bind_l, ← cond_bind_l]; rfl)
theorem appendK_bind (s : St) (sz b : Nat) (x y : V) (k : V → List Ob → Option R) : appendK s sz b x y k = (appendK s sz b x y fun v h => some (v, h)).bind fun p => k p.1 p.2 := by
  unfold appendK srcRowsK
  split
  · show cond _ _ _ = _
    rw [appTo_bind, cond_bind_l]
  · rw [Option.bind_assoc]; congr 1; funext new
    rw [appTo_bind, cond_bind_l]
  · rfl
theorem boundK_bind (v : Option V) (d t : Nat) (k : Nat → Option R) : boundK v d t k = (boundK v d t some).bind k := by
  unfold boundK
  split
  · rfl
  · rw [← cond_bind_l, ← cond_bind_l]; rfl
  · rfl

mutual
theorem likeK_bind : ∀ (t v : V) {R : Type} (k : V → Option R), likeK t v k = (likeK t v some).bind k
  | .int _ _, _, _, k => by simp only [likeK]; rw [Option.bind_assoc]; rfl
  | .bool _, _, _, k => by simp only [likeK]; rw [Option.bind_assoc]; rfl
  | .str _, _, _, k => by simp only [likeK]; rw [Option.bind_assoc]; rfl
  | .slice _ _, _, _, k => by simp only [likeK]; rw [Option.bind_assoc]; rfl
  | .agg cs0, _, _, k => by
    simp only [likeK]; rw [Option.bind_assoc]; congr 1; funext cs
    rw [likesK_bind, likesK_bind cs0 cs (fun cs => some (V.agg cs)), Option.bind_assoc]; rfl
  | .box cs0, _, _, k => by
    simp only [likeK]; rw [Option.bind_assoc]; congr 1; funext cs
    rw [likesK_bind, likesK_bind cs0 cs (fun cs => some (V.box cs)), Option.bind_assoc]; rfl
  | .fn g a0 b0, _, _, k => by
    simp only [likeK]; rw [Option.bind_assoc]; congr 1; funext p
    rw [likesK_bind, likesK_bind a0 p.1 (fun a => likesK b0 p.2 fun b => some (V.fn g a b)), Option.bind_assoc]; congr 1; funext a
    rw [likesK_bind, likesK_bind b0 p.2 (fun b => some (V.fn g a b)), Option.bind_assoc]; rfl
  | .arr _ _ _, _, _, k => by simp only [likeK]; rw [Option.bind_assoc]; rfl
  | .ptr _ _, _, _, k => by simp only [likeK]; rw [Option.bind_assoc]; rfl
  | .adr _ _, _, _, k => by simp only [likeK]; rw [Option.bind_assoc]; rfl
  | .undef, _, _, k => by simp only [likeK]; rfl
  | .skip, _, _, k => by simp only [likeK]; rfl
  | .nilp, _, _, k => by simp only [likeK]; rfl
  | .rptr _ _, _, _, k => by simp only [likeK]; rfl
  | .eptr _ _ _ _ _, _, _, k => by simp only [likeK]; rfl
  | .nilmap, _, _, k => by simp only [likeK]; rfl
  | .map _, _, _, k => by simp only [likeK]; rfl
  | .nilfn, _, _, k => by simp only [likeK]; rfl
  | .iface _ _, _, _, k => by simp only [likeK]; rfl
  | .nili, _, _, k => by simp only [likeK]; rfl
  | .tuple _, _, _, k => by simp only [likeK]; rfl
theorem likesK_bind : ∀ (t vs : List V) {R : Type} (k : List V → Option R), likesK t vs k = (likesK t vs some).bind k
  | [], _, _, k => by simp only [likesK]; rw [Option.bind_assoc]; rfl
  | t :: l, vs, _, k => by
    simp only [likesK]; rw [Option.bind_assoc]; congr 1; funext p
    rw [likeK_bind, likeK_bind t p.1 (fun v => likesK l p.2 fun vs => some (v :: vs)), Option.bind_assoc]; congr 1; funext v
    rw [likesK_bind, likesK_bind l p.2 (fun vs => some (v :: vs)), Option.bind_assoc]; rfl
end
theorem slotsK_bind (ts : List V) : ∀ (l : List V) (i : Nat) {R : Type} (k : List V → Option R), slotsK ts l i k = (slotsK ts l i some).bind k := by
  intro l
  induction l with
  | nil => intro i R k; rfl
  | cons t l ih =>
    intro i R k
    simp only [slotsK]
    split
    · rw [ih _ (fun l => k (.undef :: l)), ih _ (fun l => some (.undef :: l)), Option.bind_assoc]; rfl
    · rw [likeK_bind, likeK_bind _ _ (fun v => slotsK ts l (i + 1) fun l => some (v :: l)), Option.bind_assoc]; congr 1; funext v
      rw [ih _ (fun l => k (v :: l)), ih _ (fun l => some (v :: l)), Option.bind_assoc]; rfl
theorem likeObK_bind (t o : Ob) {R : Type} (k : Ob → Option R) : likeObK t o k = (likeObK t o some).bind k := by
  cases t with
  | cells cs0 =>
    simp only [likeObK]; rw [Option.bind_assoc]; congr 1; funext cs
    rw [likesK_bind, likesK_bind cs0 cs (fun cs => some (Ob.cells cs)), Option.bind_assoc]; rfl
  | arr wr sz rows => simp only [likeObK]; rw [Option.bind_assoc]; rfl
  | loop l => simp only [likeObK]; rw [Option.bind_assoc]; rfl
  | dead => rfl
theorem heapK_bind : ∀ (t h : List Ob) {R : Type} (k : List Ob → Option R), heapK t h k = (heapK t h some).bind k := by
  intro t
  induction t with
  | nil => intro h R k; rfl
  | cons o t ih =>
    intro h R k
    simp only [heapK]; rw [Option.bind_assoc]; congr 1; funext p
    rw [likeObK_bind, likeObK_bind _ _ (fun o => heapK t p.2 fun h => some (o :: h)), Option.bind_assoc]; congr 1; funext o
    rw [ih _ (fun h => k (o :: h)), ih _ (fun h => some (o :: h)), Option.bind_assoc]; rfl
theorem likeSt_bind (s0 s : St) {R : Type} (k : St → Option R) : likeSt s0 s k = (likeSt s0 s some).bind k := by
  unfold likeSt
  rw [slotsK_bind, slotsK_bind s.t s0.t 0 (fun t => heapK s0.h s.h fun h => some (St.mk t h)), Option.bind_assoc]; congr 1; funext t
  rw [heapK_bind, heapK_bind s0.h s.h (fun h => some (St.mk t h)), Option.bind_assoc]; rfl

/-- A step hands on one state. -/
def Hands {A : Type} (F : (R : Type) → (A → Option R) → Option R) : Prop := (∀ (R : Type) (k : A → Option R), F R k = none) ∨ ∃ x, ∀ (R : Type) (k : A → Option R), F R k = k x

theorem Hands.none {A : Type} : Hands (A := A) (fun _ _ => none) := .inl fun _ _ => rfl
theorem Hands.it {A : Type} (x : A) : Hands (A := A) (fun _ k => k x) := .inr ⟨x, fun _ _ => rfl⟩
theorem Hands.opt {A B : Type} (x : Option B) {F : B → (R : Type) → (A → Option R) → Option R} (h : ∀ b, Hands (A := A) (F b)) : Hands (A := A) (fun R k => x.bind fun b => F b R k) := by
  cases x with
  | none => exact .inl fun _ _ => rfl
  | some b => exact h b
theorem Hands.ifK {A : Type} (b : Bool) {F : (R : Type) → (A → Option R) → Option R} (h : Hands (A := A) F) : Hands (A := A) (fun R k => Ab.ifK b (F R k)) := by
  cases b
  · exact .inl fun _ _ => rfl
  · exact h
theorem Hands.cond {A : Type} (b : Bool) {F F' : (R : Type) → (A → Option R) → Option R} (h : Hands (A := A) F) (h' : Hands (A := A) F') : Hands (A := A) (fun R k => _root_.cond b (F R k) (F' R k)) := by
  cases b
  · exact h'
  · exact h
theorem Hands.via {A B : Type} {F : (R : Type) → (B → Option R) → Option R} (x : Option B) (hx : ∀ (R : Type) (k : B → Option R), F R k = x.bind k) {H : B → (R : Type) → (A → Option R) → Option R} (h : ∀ b, Hands (A := A) (H b)) :
    Hands (A := A) (fun R k => F R fun b => H b R k) := by
  have e : (fun (R : Type) (k : A → Option R) => F R fun b => H b R k) = fun (R : Type) (k : A → Option R) => x.bind fun b => H b R k := by
    funext R k; exact hx R _
  rw [e]
  exact Hands.opt x h

theorem Hands.spec {A : Type} {F : (R : Type) → (A → Option R) → Option R} (h : Hands (A := A) F) (R : Type) (k : A → Option R) : F R k = (F A some).bind k := by
  rcases h with h | ⟨x, h⟩
  · rw [h, h]; rfl
  · rw [h, h]; rfl

theorem Hands.append (s : St) (sz b : Nat) (x y : V) (F : V → List Ob → St) : Hands (A := St) (fun R k => appendK (R := R) s sz b x y fun v h => k (F v h)) := by
  have h : ∀ (R : Type) (k : St → Option R), appendK (R := R) s sz b x y (fun v h => k (F v h)) = (appendK s sz b x y fun v h => some (v, h)).bind fun p => k (F p.1 p.2) := fun R k => appendK_bind _ _ _ _ _ _
  cases he : appendK s sz b x y (fun v h => some (v, h)) with
  | none => exact .inl fun R k => (h R k).trans (by rw [he]; rfl)
  | some p => exact .inr ⟨F p.1 p.2, fun R k => (h R k).trans (by rw [he]; rfl)⟩

theorem stepK_hands (G : Cfg) (C : CallT) (f : FuncId) (dr : Bool) (o : Oper) (s : St) : Hands (A := St) (fun R k => stepK (R := R) G C f dr o s k) := by
  unfold stepK
  split
  all_goals try (first
    | exact Hands.it _
    | exact Hands.none)
  all_goals (repeat' (first
    | exact Hands.it _
    | exact Hands.none
    | (refine Hands.ifK _ ?_)
    | (refine Hands.cond _ ?_ ?_)
    | (refine Hands.opt _ fun _ => ?_)
    | (refine Hands.via (F := fun R k => normArgsK (R := R) _ _ k) _ (fun R k => normArgsK_bind _ _ k) fun _ => ?_)
    | (refine Hands.via (F := fun R k => normK (R := R) _ _ k) _ (fun R k => normK_bind _ _ k) fun _ => ?_)
    | (refine Hands.via (F := fun R k => heapK (R := R) _ _ k) _ (fun R k => heapK_bind _ _ k) fun _ => ?_)
    | (refine Hands.via (F := fun R k => likeK (R := R) _ _ k) _ (fun R k => likeK_bind _ _ k) fun _ => ?_)
    | (refine Hands.via (F := fun R k => resultK (R := R) _ _ _ k) _ (fun R k => resultK_bind _ _ _ k) fun _ => ?_)
    | (refine Hands.via (F := fun R k => loadK (R := R) _ _ _ _ _ k) _ (fun R k => loadK_bind _ _ _ _ _ k) fun _ => ?_)
    | (refine Hands.via (F := fun R k => storeK (R := R) _ _ _ _ k) _ (fun R k => storeK_bind _ _ _ _ k) fun _ => ?_)
    | exact Hands.append s _ _ _ _ (fun v h => ⟨(s.put o.dst v).t, h⟩)
    | (refine Hands.via (F := fun R k => boundK (R := R) _ _ _ k) _ (fun R k => boundK_bind _ _ _ k) fun _ => ?_)
    | (refine Hands.via (F := fun R k => shsK (R := R) _ _ k) _ (fun R k => shsK_bind _ _ k) fun _ => ?_)
    | split))

/-- The step by itself. -/
def stepD (G : Cfg) (C : CallT) (f : FuncId) (dr : Bool) (o : Oper) (s : St) : Option St := stepK G C f dr o s some
theorem stepK_eq (G : Cfg) (C : CallT) (f : FuncId) (dr : Bool) (o : Oper) (s : St) (k : St → Option R) : stepK G C f dr o s k = (stepD G C f dr o s).bind k :=
  (stepK_hands G C f dr o s).spec R k

theorem upd_nth (l : List V) (i : Nat) (v : V) (h : nth l i = v) (hv : v ≠ .undef) : upd l i v = l := by
  induction l generalizing i with
  | nil => simp only [nth] at h; exact absurd h.symm hv
  | cons x l ih =>
    cases i with
    | zero => simp only [nth] at h; simp only [upd, h]
    | succ i => simp only [nth] at h; simp only [upd, ih i h]

/-- One operation of a region, by itself: none of it where its guard says no. -/
def operD (G : Cfg) (C : CallT) (f : FuncId) (dr : Bool) (all : List Oper) (o : Oper) (s : St) : Option St :=
  match o.guard with
  | none => ifK (pre (drOf dr all o) all o s) (stepD G C f (drOf dr all o) o s)
  | some (j, want) => match all[j]? with
    | some g => match g.dst with
      | some d => match nth s.t d with
        | .bool b => if b = want then ifK (pre (drOf dr all o) all o s) (stepD G C f (drOf dr all o) o s) else ifK (preSkip (drOf dr all o) o s) (some (s.put o.dst .skip))
        | .skip => ifK (preSkip (drOf dr all o) o s) (some (s.put o.dst .skip))
        | _ => none
      | none => none
    | none => none
def opsD (G : Cfg) (C : CallT) (f : FuncId) (dr : Bool) (all : List Oper) : List Oper → St → Option St
  | [], s => some s
  | o :: l, s => (operD G C f dr all o s).bind fun s => opsD G C f dr all l s

theorem opsK_eq (G : Cfg) (C : CallT) (f : FuncId) (dr : Bool) (all l : List Oper) : ∀ (s : St) (k : St → Option R), opsK G C f dr all l s k = (opsD G C f dr all l s).bind k := by
  induction l with
  | nil => intro s k; rfl
  | cons o l ih =>
    intro s k
    have hstep : ∀ (q b : Bool) (s : St) (k : St → Option R), ifK b (stepK G C f q o s fun s => opsK G C f dr all l s k) = ((ifK b (stepD G C f q o s)).bind fun s => opsD G C f dr all l s).bind k := by
      intro q b s k
      rw [stepK_eq, ifK_bind, Option.bind_assoc]; congr 1; funext s; exact ih s k
    have hskip : ∀ (b : Bool) (s : St) (k : St → Option R), ifK b (opsK G C f dr all l s k) = ((ifK b (some s)).bind fun s => opsD G C f dr all l s).bind k := by
      intro b s k
      cases b
      · rfl
      · exact ih s k
    unfold opsK opsD operD
    cases hg : o.guard with
    | none => exact hstep _ _ s k
    | some p =>
      obtain ⟨j, want⟩ := p
      simp only
      cases ha : all[j]? with
      | none => rfl
      | some g =>
        simp only
        cases hd : g.dst with
        | none => rfl
        | some d =>
          simp only
          cases hb : nth s.t d <;> simp only <;> first
            | rfl
            | exact hskip _ _ k
            | skip
          rename_i b
          have e : (⟨upd s.t d (.bool b), s.h⟩ : St) = s := by rw [upd_nth _ _ _ hb (by simp)]
          cases b <;> cases want <;> simp only [cond_true, cond_false, e, if_true, if_false, Bool.false_eq_true, Bool.true_eq_false]
          · exact hstep _ _ s k
          · exact hskip _ _ k
          · exact hskip _ _ k
          · exact hstep _ _ s k

end Go.Ab
