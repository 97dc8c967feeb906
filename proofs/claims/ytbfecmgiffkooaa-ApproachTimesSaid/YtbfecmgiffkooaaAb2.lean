/- The abstract machine's control: loops, ranges over functions, calls; its limit; conditions: none. -/
import Derived.Test.YtbfecmgiffkooaaAb1
namespace Go.Ab
set_option linter.unusedVariables false
set_option linter.unusedSimpArgs false

def LeO {R : Type} (a b : Option R) : Prop := ∀ r, a = some r → b = some r
theorem LeO.refl {R : Type} (a : Option R) : LeO a a := fun _ h => h
theorem LeO.none {R : Type} (b : Option R) : LeO Option.none b := fun _ h => by cases h
theorem LeO.trans {R : Type} {a b c : Option R} (h : LeO a b) (h' : LeO b c) : LeO a c := fun r hr => h' r (h r hr)
theorem LeO.bind {R S : Type} {a a' : Option R} {k k' : R → Option S} (h : LeO a a') (hk : ∀ r, LeO (k r) (k' r)) : LeO (a.bind k) (a'.bind k') := by
  intro r hr
  cases ha : a with
  | none => rw [ha] at hr; cases hr
  | some x =>
    rw [ha] at hr
    rw [h x ha]
    exact hk x r hr
theorem LeO.cond {R : Type} {b : Bool} {x x' y y' : Option R} (h : LeO x x') (h' : LeO y y') : LeO (cond b x y) (cond b x' y') := by cases b <;> assumption
theorem LeO.ifK {R : Type} {b : Bool} {x x' : Option R} (h : LeO x x') : LeO (Ab.ifK b x) (Ab.ifK b x') := by
  cases b
  · exact LeO.none _
  · exact h

/-- Rounds of a loop. -/
def iterN (b : St → Option (Ex × St)) : Nat → St → Option (Ex × St)
  | 0, _ => none
  | n + 1, s => match b s with
    | some (.normal, s') => iterN b n s'
    | some (.exit id, s') => some (.exit id, s')
    | some (.ret, s') => some (.ret, s')
    | none => none

theorem iterN_le {b b' : St → Option (Ex × St)} (h : ∀ s, LeO (b s) (b' s)) : ∀ (n : Nat) (s : St), LeO (iterN b n s) (iterN b' n s) := by
  intro n
  induction n with
  | zero => intro s; exact LeO.none _
  | succ n ih =>
    intro s r hr
    simp only [iterN] at hr ⊢
    cases hb : b s with
    | none => rw [hb] at hr; cases hr
    | some p =>
      obtain ⟨e, s'⟩ := p
      rw [hb] at hr
      rw [h s _ hb]
      cases e with
      | normal => exact ih s' r hr
      | exit id => exact hr
      | ret => exact hr

theorem iterN_more {b : St → Option (Ex × St)} : ∀ (n m : Nat) (s : St), n ≤ m → LeO (iterN b n s) (iterN b m s) := by
  intro n
  induction n with
  | zero => intro m s _; exact LeO.none _
  | succ n ih =>
    intro m s hm r hr
    obtain ⟨m, rfl⟩ : ∃ k, m = k + 1 := ⟨m - 1, by omega⟩
    simp only [iterN] at hr ⊢
    cases hb : b s with
    | none => rw [hb] at hr; cases hr
    | some p =>
      obtain ⟨e, s'⟩ := p
      rw [hb] at hr
      cases e with
      | normal => exact ih m s' (by omega) r hr
      | exit id => exact hr
      | ret => exact hr

open Classical in
/-- A loop: what its rounds come to, if they come to an end. -/
noncomputable def iterW (b : St → Option (Ex × St)) (s : St) : Option (Ex × St) :=
  if h : ∃ r n, iterN b n s = some r then some (Classical.choose h) else none

theorem iterW_some {b : St → Option (Ex × St)} {s : St} {r : Ex × St} : iterW b s = some r ↔ ∃ n, iterN b n s = some r := by
  unfold iterW
  split
  · rename_i h
    obtain ⟨n, hn⟩ := Classical.choose_spec h
    constructor
    · intro e; cases e; exact ⟨n, hn⟩
    · rintro ⟨m, hm⟩
      have h1 := iterN_more n (max n m) s (Nat.le_max_left _ _) _ hn
      have h2 := iterN_more m (max n m) s (Nat.le_max_right _ _) _ hm
      rw [h1] at h2; exact h2
  · rename_i h
    constructor
    · intro e; cases e
    · rintro ⟨n, hn⟩; exact absurd ⟨r, n, hn⟩ h

theorem iterW_le {b b' : St → Option (Ex × St)} (h : ∀ s, LeO (b s) (b' s)) (s : St) : LeO (iterW b s) (iterW b' s) := fun r hr => by
  obtain ⟨n, hn⟩ := iterW_some.1 hr
  exact iterW_some.2 ⟨n, iterN_le h n s r hn⟩

theorem iterW_eq (b : St → Option (Ex × St)) (s : St) : iterW b s = match b s with
    | some (.normal, s') => iterW b s'
    | some (.exit id, s') => some (.exit id, s')
    | some (.ret, s') => some (.ret, s')
    | none => none := by
  apply Option.ext
  intro r
  rw [iterW_some]
  constructor
  · rintro ⟨n, hn⟩
    cases n with
    | zero => cases hn
    | succ n =>
      simp only [iterN] at hn
      cases hb : b s with
      | none => rw [hb] at hn; cases hn
      | some p =>
        obtain ⟨e, s'⟩ := p
        rw [hb] at hn
        cases e with
        | normal => exact iterW_some.2 ⟨n, hn⟩
        | exit id => exact hn
        | ret => exact hn
  · intro hr
    cases hb : b s with
    | none => rw [hb] at hr; cases hr
    | some p =>
      obtain ⟨e, s'⟩ := p
      rw [hb] at hr
      cases e with
      | normal => obtain ⟨n, hn⟩ := iterW_some.1 hr; exact ⟨n + 1, by simp only [iterN, hb]; exact hn⟩
      | exit id => exact ⟨1, by simp only [iterN, hb]; exact hr⟩
      | ret => exact ⟨1, by simp only [iterN, hb]; exact hr⟩

/-- What is dead is forgotten. -/
def purgeL (live : List Nat) : Nat → List V → List V
  | _, [] => []
  | i, v :: l => (if lmem i live then v else .undef) :: purgeL live (i + 1) l
def purge (live : Option (List Nat)) (s : St) : St :=
  match live with
  | some l => ⟨purgeL l 0 s.t, s.h⟩
  | none => s
/-- What is known of slices' places is forgotten. -/
def loose1 : V → V
  | .slice _ r => .slice .any r
  | v => v
def loose1s : List V → List V
  | [] => []
  | v :: l => loose1 v :: loose1s l
def looseV : V → V
  | .box cs => .box (loose1s cs)
  | .agg cs => .agg (loose1s cs)
  | v => loose1 v
def looseVs : List V → List V
  | [] => []
  | v :: l => looseV v :: looseVs l
def looseH : List Ob → List Ob
  | [] => []
  | .cells cs :: l => .cells (loose1s cs) :: looseH l
  | o :: l => o :: looseH l
def loose (s : St) : St := ⟨looseVs s.t, looseH s.h⟩
def look (n : Nat) : List (Nat × List Nat) → Option (List Nat)
  | [] => none
  | (m, l) :: r => if Nat.beq n m then some l else look n r
def firstRegion : Code → Nat
  | .region id _ _ => id
  | .seq a _ => firstRegion a
  | .block _ c => firstRegion c
  | .scope c => firstRegion c
  | .loop c => firstRegion c
  | .cond _ a _ => firstRegion a
  | _ => 0

/-- What the walk keeps: for a function the slots that are alive at a loop's head (by the number of its first region) and behind a block. -/
structure Lv where
  loops : FuncId → List (Nat × List Nat)
  blocks : FuncId → List (Nat × List Nat)
  /-- Regions that are not walked. -/
  dead : FuncId → List Nat

def setPs : List Nat → List V → List V → Option (List V)
  | [], [], t => some t
  | p :: ps, v :: vs, t => setPs ps vs (upd t p v)
  | _, _, _ => none

def without (i : Nat) : List Nat → List Nat
  | [] => []
  | j :: l => match Nat.beq i j with
    | true => without i l
    | false => j :: without i l
def exits : Code → List Nat
  | .seq a b => exits a ++ exits b
  | .cond _ a b => exits a ++ exits b
  | .block i c => without i (exits c)
  | .scope c => exits c
  | .loop c => exits c
  | .rangeFunc _ _ a c => exits a ++ exits c
  | .exit id => [id]
  | _ => []
/-- Does the code return? -/
def rets : Code → Bool
  | .seq a b => rets a || rets b
  | .cond _ a b => rets a || rets b
  | .block _ c => rets c
  | .scope c => rets c
  | .loop c => rets c
  | .rangeFunc _ _ a c => rets a || rets c
  | .ret => true
  | _ => false
def exitK {R : Type} (id : Nat) (k : Ex → Option R) : List Nat → Option R
  | [] => none
  | i :: l => cond (Nat.beq id i) (k (.exit i)) (exitK id k l)
/-- How a loop was left. -/
def exK {R : Type} (rt : Bool) (ids : List Nat) (e : Ex) (k : Ex → Option R) : Option R := match e with
  | .normal => none
  | .ret => ifK rt (k .ret)
  | .exit id => exitK id k ids
/-- A state of another's shape. -/
def likeSt {R : Type} (s0 s : St) (k : St → Option R) : Option R := slotsK s.t s0.t 0 fun t => heapK s0.h s.h fun h => k ⟨t, h⟩
/-- How a range over a function was left, if it is left. -/
def endOf (l : LoopA) : Option (Option Ex) := match l.st with
  | .busy => none
  | _ => some l.pend
def endK {R : Type} (rt : Bool) (ids : List Nat) (pe : Option Ex) (k : Ex → Option R) : Option R := match pe with
  | none => k .normal
  | some e => exK rt ids e k

/-- The statement's code. rd: the round in which it runs. -/
noncomputable def execK (G : Cfg) (L : Lv) (C : CallT) (f : FuncId) (rd : Option Nat) : Code → (R : Type) → St → (Ex → St → Option R) → Option R
  | .skip, _, s, k => k .normal s
  | .scope c, R, s, k => execK G L C f rd c R s k
  | .label _, _, s, k => k .normal s
  | .region id ops d, _, s, k => ifK (!(lmem id (L.dead f)) && (!d || commOk ops.toList)) (opsK G C f d ops.toList ops.toList s fun s => k .normal s)
  | .seq a b, R, s, k => execK G L C f rd a R s fun e s => match e with
    | .normal => execK G L C f rd b R s k
    | .exit id => k (.exit id) s
    | .ret => k .ret s
  | .cond c a b, R, s, k => match getV s c with
    | .bool t => cond t (execK G L C f rd a R s k) (execK G L C f rd b R s k)
    | _ => none
  | .block id c, R, s, k => execK G L C f rd c R s fun e s => match e with
    | .normal => k .normal (purge (look id (L.blocks f)) s)
    | .exit j => match Nat.beq j id with
      | true => k .normal (purge (look id (L.blocks f)) s)
      | false => k (.exit j) s
    | .ret => k .ret s
  | .loop c, _, s, k => (C.w (fun s => execK G L C f rd c (Ex × St) s fun e s1 => trimK s.h.length (purge (look (firstRegion c) (L.loops f)) s1) fun s2 => some (e, s2)) (loose (purge (look (firstRegion c) (L.loops f)) s))).bind fun p => exK (rets c) (exits c) p.1 fun e => likeSt (purge (look (firstRegion c) (L.loops f)) s) p.2 fun s => k e s
  | .exit id, _, s, k => k (.exit id) s
  | .ret, _, s, k => k .ret s
  | .rangeFunc x ps assign body, _, s, k => match getV s x with
    | .fn (.func g) first cap =>
      let ok := match rd with
        | none => true
        | some l => match hget s.h l with
          | some (.loop _) => true
          | _ => false
      ifK ok <| (C.s (.func g) (first ++ ([.fn (.yield s.h.length) [] []] ++ cap)) (s.h ++ [.loop ⟨.ready, none, s.t.map view, f, ps.toList, assign, body⟩])).bind fun r =>
        heapK (s.h ++ [.loop ⟨.ready, none, s.t.map view, f, ps.toList, assign, body⟩]) r.2 fun h => ifK (belowObs h.length h) <| match hget h s.h.length with
        | some (.loop lp) => (endOf lp).bind fun pe => endK (rets body) (exits body) pe fun e => ifK (belowObs s.h.length (takeH s.h.length h)) <| k e ⟨s.t, takeH s.h.length h⟩
        | _ => none
    | _ => none
  | _, _, _, _ => none

/-- The loop whose first region is n. -/
def findLoop (n : Nat) : Code → Option Code
  | .loop c => match Nat.beq (firstRegion c) n with
    | true => some c
    | false => findLoop n c
  | .seq a b => match findLoop n a with
    | some c => some c
    | none => findLoop n b
  | .cond _ a b => match findLoop n a with
    | some c => some c
    | none => findLoop n b
  | .block _ c => findLoop n c
  | .scope c => findLoop n c
  | .rangeFunc _ _ _ c => findLoop n c
  | _ => none
def bodyOf (P : Program) (f : FuncId) : Code := match P.funcs[f]? with
  | some fn => match fn.body with
    | some c => c
    | none => .skip
  | none => .skip
/-- One round of loop n of function f. -/
noncomputable def roundK (G : Cfg) (L : Lv) (C : CallT) (f : FuncId) (rd : Option Nat) (n : Nat) : St → Option (Ex × St) :=
  match findLoop n (bodyOf G.P f) with
  | some c => fun s => execK G L C f rd c (Ex × St) s fun e s1 => trimK s.h.length (purge (look (firstRegion c) (L.loops f)) s1) fun s2 => some (e, s2)
  | none => fun _ => none
/-- A range over a function whose body's first region is n: its assignment, its body. -/
def findRange (n : Nat) : Code → Option (Code × Code)
  | .rangeFunc _ _ a c => match Nat.beq (firstRegion c) n with
    | true => some (a, c)
    | false => findRange n c
  | .loop c => findRange n c
  | .seq a b => match findRange n a with
    | some c => some c
    | none => findRange n b
  | .cond _ a b => match findRange n a with
    | some c => some c
    | none => findRange n b
  | .block _ c => findRange n c
  | .scope c => findRange n c
  | _ => none
def rangeAssign (P : Program) (f : FuncId) (n : Nat) : Code := match findRange n (bodyOf P f) with
  | some p => p.1
  | none => .skip
def rangeBody (P : Program) (f : FuncId) (n : Nat) : Code := match findRange n (bodyOf P f) with
  | some p => p.2
  | none => .skip
/-- Slots, few of them filled. -/
def sp : Nat → Nat → List (Nat × V) → List V
  | _, 0, _ => []
  | i, n + 1, [] => .undef :: sp (i + 1) n []
  | i, n + 1, (j, v) :: l => match Nat.beq i j with
    | true => v :: sp (i + 1) n l
    | false => .undef :: sp (i + 1) n ((j, v) :: l)

def resV (P : Program) (s : St) : ResultVar → Option V
  | .tmp i => some (view (nth s.t i))
  | .cell i t => match typeSize P t with
    | some (ag, n) => match nth s.t i with
      | .box cs => part ag n cs 0
      | .ptr id 0 => match hget s.h id with
        | some (.cells cs) => part ag n cs 0
        | _ => none
      | _ => none
    | none => none
def resVs (P : Program) (s : St) : List ResultVar → Option (List V)
  | [] => some []
  | r :: l => (resV P s r).bind fun v => (resVs P s l).bind fun vs => some (v :: vs)
def resultOf (P : Program) (fn : Func) (s : St) : Option V :=
  (resVs P s fn.results.toList).bind fun vs => match vs with
    | [v] => some v
    | vs => some (.tuple vs)

/-- A function's run, its objects shared with the caller's. -/
noncomputable def runF (G : Cfg) (L : Lv) (C : CallT) (f : FuncId) (fn : Func) (args : List V) (h : List Ob) : Option (V × List Ob) :=
  match fn.body with
  | some c => ifK (fn.name != "runtime.NumGoroutine" && Nat.ble args.length fn.ntmps) <|
    execK G L C f none c _ ⟨args ++ List.replicate (fn.ntmps - args.length) .undef, h⟩ fun e s => match e with
      | .exit _ => none
      | _ => (resultOf G.P fn s).bind fun v => retK s.h v fun v h => some (v, h)
  | none => none

def isReady : LoopState → Option Unit
  | .ready => some ()
  | _ => none
def isBusy : LoopState → Option Unit
  | .busy => some ()
  | _ => none
/-- A round of a range over a function. -/
noncomputable def runY (G : Cfg) (L : Lv) (C : CallT) (id : Nat) (args : List V) (h : List Ob) : Option (V × List Ob) :=
  match hget h id with
  | some (.loop lp) => (setPs lp.ps args lp.t).bind fun t =>
    execK G L C lp.fn (some id) lp.assign _ ⟨t, h⟩ fun e s => match e with
      | .normal => match hget s.h id with
        | some (.loop lp1) => (isReady lp1.st).bind fun _ => execK G L C lp.fn (some id) lp.body _ ⟨s.t, hset s.h id (.loop { lp1 with st := .busy })⟩ fun e s => match hget s.h id with
            | some (.loop lp') => (isBusy lp'.st).bind fun _ => match e with
                | .normal => some (.bool true, hset s.h id (.loop { lp' with st := .ready, pend := none }))
                | e => some (.bool false, hset s.h id (.loop { lp' with st := .done, pend := some e }))
            | _ => none
        | _ => none
      | _ => none
  | _ => none

noncomputable def run1 (G : Cfg) (L : Lv) (C : CallT) (g : Fn) (args : List V) (h : List Ob) : Option (V × List Ob) :=
  match g with
  | .func f => match G.P.funcs[f]? with
    | some fn => runF G L C f fn args h
    | none => none
  | .yield id => runY G L C id args h
  | _ => none

/-- What a call comes to. -/
inductive BS (G : Cfg) (L : Lv) : Fn → List V → List Ob → V × List Ob → Prop
  | mk (C : CallT) (rp : Fn → List V → V × List Ob) (g : Fn) (args : List V) (h : List Ob) (r : V × List Ob) (hw : C.w = iterW)
      (hs : ∀ g args h r, C.s g args h = some r → BS G L g args h r)
      (hp : ∀ g args v, C.p g args = some v → BS G L g args [] (rp g args))
      (hn : ∀ g args v, C.p g args = some v → normResK (rp g args).2 (rp g args).1 some = some v)
      (hr : run1 G L C g args h = some r) : BS G L g args h r

structure CLe (C C' : CallT) : Prop where
  w : ∀ (b b' : St → Option (Ex × St)), (∀ s, LeO (b s) (b' s)) → ∀ s, LeO (C.w b s) (C'.w b' s)
  p : ∀ g args, LeO (C.p g args) (C'.p g args)
  s : ∀ g args h, LeO (C.s g args h) (C'.s g args h)

section mono
variable {R : Type}

theorem shK_le (sh : Sh) (v : V) {k k' : V → Option R} (hk : ∀ v, LeO (k v) (k' v)) : LeO (shK sh v k) (shK sh v k') := by
  cases sh <;> simp only [shK] <;> first | exact hk _ | exact LeO.bind (LeO.refl _) fun _ => hk _
theorem shsK_le (l : List Sh) : ∀ (vs : List V) {k k' : List V → Option R} (_ : ∀ v, LeO (k v) (k' v)), LeO (shsK l vs k) (shsK l vs k') := by
  induction l with
  | nil => intro vs k k' hk; exact LeO.bind (LeO.refl _) fun _ => hk _
  | cons sh l ih => intro vs k k' hk; exact LeO.bind (LeO.refl _) fun p => shK_le _ _ fun v => ih _ fun vs => hk _
theorem shapeK_le (P : Program) (t : TypeId) (v : V) {k k' : V → Option R} (hk : ∀ v, LeO (k v) (k' v)) : LeO (shapeK P t v k) (shapeK P t v k') := by
  unfold shapeK
  split
  · exact LeO.bind (LeO.refl _) fun _ => shsK_le _ _ fun _ => hk _
  · exact LeO.bind (LeO.refl _) fun _ => shsK_le _ _ fun _ => hk _
  · exact shK_le _ _ hk
  · exact hk _
theorem shapesK_le (P : Program) (l : List TypeId) : ∀ (vs : List V) {k k' : List V → Option R} (_ : ∀ v, LeO (k v) (k' v)), LeO (shapesK P l vs k) (shapesK P l vs k') := by
  induction l with
  | nil => intro vs k k' hk; exact LeO.bind (LeO.refl _) fun _ => hk _
  | cons sh l ih => intro vs k k' hk; exact LeO.bind (LeO.refl _) fun p => shapeK_le _ _ _ fun v => ih _ fun vs => hk _
theorem resultK_le (P : Program) (t : TypeId) (v : V) {k k' : V → Option R} (hk : ∀ v, LeO (k v) (k' v)) : LeO (resultK P t v k) (resultK P t v k') := by
  unfold resultK
  split
  · exact LeO.bind (LeO.refl _) fun _ => shapesK_le _ _ _ fun _ => hk _
  · exact shapeK_le _ _ _ hk
theorem normK1_le (h : List Ob) (v : V) {k k' : V → Option R} (hk : ∀ v, LeO (k v) (k' v)) : LeO (normK1 h v k) (normK1 h v k') := by
  unfold normK1
  split
  · exact LeO.bind (LeO.refl _) fun _ => hk _
  · exact hk _
  · exact LeO.ifK (hk _)
theorem normsK_le (h : List Ob) (l : List V) : ∀ {k k' : List V → Option R} (_ : ∀ v, LeO (k v) (k' v)), LeO (normsK h l k) (normsK h l k') := by
  induction l with
  | nil => intro k k' hk; exact hk _
  | cons v l ih => intro k k' hk; exact normK1_le _ _ fun v => ih fun l => hk _
theorem normK_le (h : List Ob) (v : V) {k k' : V → Option R} (hk : ∀ v, LeO (k v) (k' v)) : LeO (normK h v k) (normK h v k') := by
  unfold normK
  split
  · exact normsK_le _ _ fun _ => hk _
  · exact normK1_le _ _ hk
theorem normArgsK_le (h : List Ob) (l : List V) : ∀ {k k' : List V → Option R} (_ : ∀ v, LeO (k v) (k' v)), LeO (normArgsK h l k) (normArgsK h l k') := by
  induction l with
  | nil => intro k k' hk; exact hk _
  | cons v l ih => intro k k' hk; exact normK_le _ _ fun v => ih fun l => hk _
theorem loadK_le (s : St) (a : V) (ag : Bool) (n : Nat) (sh : List Sh) {k k' : V → Option R} (hk : ∀ v, LeO (k v) (k' v)) : LeO (loadK s a ag n sh k) (loadK s a ag n sh k') := by
  unfold loadK
  repeat' (first
    | exact LeO.none _
    | exact LeO.bind (LeO.refl _) hk
    | refine LeO.ifK ?_
    | exact shsK_le _ _ fun _ => hk _
    | exact shK_le _ _ hk
    | (refine LeO.bind (LeO.refl _) fun _ => ?_)
    | split)
theorem storeK_le (s : St) (i : Nat) (a : V) (new : List V) {k k' : St → Option R} (hk : ∀ v, LeO (k v) (k' v)) : LeO (storeK s i a new k) (storeK s i a new k') := by
  unfold storeK
  (repeat' split) <;> first
    | exact LeO.none _
    | exact LeO.ifK (hk _)
    | exact LeO.ifK (LeO.cond (hk _) (LeO.refl _))
theorem appTo_le (s : St) (sz b : Nat) (x : V) (new : List (List V)) {k k' : V → List Ob → Option R} (hk : ∀ v h, LeO (k v h) (k' v h)) : LeO (appTo s sz b x new k) (appTo s sz b x new k') := by
  unfold appTo
  (repeat' split) <;> first
    | exact LeO.none _
    | exact LeO.cond (hk _ _) (LeO.refl _)
    | exact LeO.ifK (LeO.cond (LeO.cond (hk _ _) (LeO.refl _)) (LeO.refl _))
theorem appendK_le (s : St) (sz b : Nat) (x y : V) {k k' : V → List Ob → Option R} (hk : ∀ v h, LeO (k v h) (k' v h)) : LeO (appendK s sz b x y k) (appendK s sz b x y k') := by
  unfold appendK srcRowsK
  split
  · exact LeO.cond (appTo_le _ _ _ _ _ hk) (LeO.refl _)
  · exact LeO.bind (LeO.refl _) fun new => LeO.cond (appTo_le _ _ _ _ _ hk) (LeO.refl _)
  · exact LeO.none _
theorem boundK_le (v : Option V) (d t : Nat) {k k' : Nat → Option R} (hk : ∀ v, LeO (k v) (k' v)) : LeO (boundK v d t k) (boundK v d t k') := by
  unfold boundK
  split
  · exact hk _
  · exact LeO.cond (LeO.cond (hk _) (LeO.refl _)) (LeO.refl _)
  · exact LeO.none _

mutual
theorem likeK_le : ∀ (t v : V) {k k' : V → Option R} (_ : ∀ v, LeO (k v) (k' v)), LeO (likeK t v k) (likeK t v k')
  | .int _ _, _, _, _, hk => by simp only [likeK]; exact LeO.bind (LeO.refl _) fun _ => hk _
  | .bool _, _, _, _, hk => by simp only [likeK]; exact LeO.bind (LeO.refl _) fun _ => hk _
  | .str _, _, _, _, hk => by simp only [likeK]; exact LeO.bind (LeO.refl _) fun _ => hk _
  | .slice _ _, _, _, _, hk => by simp only [likeK]; exact LeO.bind (LeO.refl _) fun _ => hk _
  | .agg _, _, _, _, hk => by simp only [likeK]; exact LeO.bind (LeO.refl _) fun _ => likesK_le _ _ fun _ => hk _
  | .box _, _, _, _, hk => by simp only [likeK]; exact LeO.bind (LeO.refl _) fun _ => likesK_le _ _ fun _ => hk _
  | .fn _ _ _, _, _, _, hk => by simp only [likeK]; exact LeO.bind (LeO.refl _) fun _ => likesK_le _ _ fun _ => likesK_le _ _ fun _ => hk _
  | .arr _ _ _, _, _, _, hk => by simp only [likeK]; exact LeO.bind (LeO.refl _) fun _ => hk _
  | .ptr _ _, _, _, _, hk => by simp only [likeK]; exact LeO.bind (LeO.refl _) fun _ => hk _
  | .adr _ _, _, _, _, hk => by simp only [likeK]; exact LeO.bind (LeO.refl _) fun _ => hk _
  | .undef, _, _, _, hk => by simp only [likeK]; exact hk _
  | .skip, _, _, _, hk => by simp only [likeK]; exact hk _
  | .nilp, _, _, _, hk => by simp only [likeK]; exact hk _
  | .rptr _ _, _, _, _, hk => by simp only [likeK]; exact hk _
  | .eptr _ _ _ _ _, _, _, _, hk => by simp only [likeK]; exact hk _
  | .nilmap, _, _, _, hk => by simp only [likeK]; exact hk _
  | .map _, _, _, _, hk => by simp only [likeK]; exact hk _
  | .nilfn, _, _, _, hk => by simp only [likeK]; exact hk _
  | .iface _ _, _, _, _, hk => by simp only [likeK]; exact hk _
  | .nili, _, _, _, hk => by simp only [likeK]; exact hk _
  | .tuple _, _, _, _, hk => by simp only [likeK]; exact hk _
theorem likesK_le : ∀ (t vs : List V) {k k' : List V → Option R} (_ : ∀ v, LeO (k v) (k' v)), LeO (likesK t vs k) (likesK t vs k')
  | [], _, _, _, hk => by simp only [likesK]; exact LeO.bind (LeO.refl _) fun _ => hk _
  | t :: l, vs, _, _, hk => by simp only [likesK]; exact LeO.bind (LeO.refl _) fun p => likeK_le t p.1 fun _ => likesK_le l p.2 fun _ => hk _
end
theorem slotsK_le (ts : List V) : ∀ (l : List V) (i : Nat) {k k' : List V → Option R} (_ : ∀ v, LeO (k v) (k' v)), LeO (slotsK ts l i k) (slotsK ts l i k') := by
  intro l
  induction l with
  | nil => intro i k k' hk; exact hk _
  | cons t l ih =>
    intro i k k' hk
    simp only [slotsK]
    split
    · exact ih _ fun _ => hk _
    · exact likeK_le _ _ fun _ => ih _ fun _ => hk _
theorem likeObK_le (t o : Ob) {k k' : Ob → Option R} (hk : ∀ v, LeO (k v) (k' v)) : LeO (likeObK t o k) (likeObK t o k') := by
  cases t <;> simp only [likeObK]
  · exact LeO.bind (LeO.refl _) fun _ => likesK_le _ _ fun _ => hk _
  · exact LeO.bind (LeO.refl _) fun _ => hk _
  · exact LeO.bind (LeO.refl _) fun _ => hk _
  · exact hk _
theorem heapK_le : ∀ (t h : List Ob) {k k' : List Ob → Option R} (_ : ∀ v, LeO (k v) (k' v)), LeO (heapK t h k) (heapK t h k') := by
  intro t
  induction t with
  | nil => intro h k k' hk; exact hk _
  | cons o t ih => intro h k k' hk; exact LeO.bind (LeO.refl _) fun p => likeObK_le _ _ fun _ => ih _ fun _ => hk _
theorem likeSt_le (s0 s : St) {k k' : St → Option R} (hk : ∀ v, LeO (k v) (k' v)) : LeO (likeSt s0 s k) (likeSt s0 s k') := slotsK_le _ _ _ fun _ => heapK_le _ _ fun _ => hk _
theorem exitK_le (id : Nat) {k k' : Ex → Option R} (hk : ∀ v, LeO (k v) (k' v)) : ∀ l, LeO (exitK id k l) (exitK id k' l)
  | [] => LeO.none _
  | _ :: l => LeO.cond (hk _) (exitK_le id hk l)
theorem exK_le (rt : Bool) (ids : List Nat) (e : Ex) {k k' : Ex → Option R} (hk : ∀ v, LeO (k v) (k' v)) : LeO (exK rt ids e k) (exK rt ids e k') := by
  cases e
  · exact LeO.none _
  · exact exitK_le _ hk _
  · exact LeO.ifK (hk _)
theorem endK_le (rt : Bool) (ids : List Nat) (e : Option Ex) {k k' : Ex → Option R} (hk : ∀ v, LeO (k v) (k' v)) : LeO (endK rt ids e k) (endK rt ids e k') := by
  cases e
  · exact hk _
  · exact exK_le _ _ _ hk

theorem stepK_le (G : Cfg) {C C' : CallT} (hC : CLe C C') (f : FuncId) (dr : Bool) (o : Oper) (s : St) {k k' : St → Option R} (hk : ∀ s, LeO (k s) (k' s)) :
    LeO (stepK G C f dr o s k) (stepK G C' f dr o s k') := by
  unfold stepK
  split
  all_goals try (first
    | exact hk _
    | exact LeO.none _)
  all_goals (repeat' (first
    | exact hk _
    | exact LeO.none _
    | exact LeO.refl _
    | (refine LeO.ifK ?_)
    | (refine LeO.cond ?_ ?_)
    | (refine LeO.bind (hC.s _ _ _) fun _ => ?_)
    | (refine heapK_le _ _ fun _ => ?_)
    | (refine likeK_le _ _ fun _ => ?_)
    | (refine LeO.bind (hC.p _ _) fun _ => ?_)
    | (refine LeO.bind (LeO.refl _) fun _ => ?_)
    | (refine normArgsK_le _ _ fun _ => ?_)
    | (refine normK_le _ _ fun _ => ?_)
    | (refine resultK_le _ _ _ fun _ => ?_)
    | (refine loadK_le _ _ _ _ _ fun _ => ?_)
    | (refine storeK_le _ _ _ _ fun _ => ?_)
    | (refine appendK_le _ _ _ _ _ fun _ _ => ?_)
    | (refine boundK_le _ _ _ fun _ => ?_)
    | (refine shsK_le _ _ fun _ => ?_)
    | split))

theorem opsK_le (G : Cfg) {C C' : CallT} (hC : CLe C C') (f : FuncId) (dr : Bool) (all l : List Oper) : ∀ (s : St) {k k' : St → Option R} (_ : ∀ s, LeO (k s) (k' s)),
    LeO (opsK G C f dr all l s k) (opsK G C' f dr all l s k') := by
  induction l with
  | nil => intro s k k' hk; exact hk _
  | cons o l ih =>
    intro s k k' hk
    unfold opsK
    repeat' (first
      | exact LeO.none _
      | exact stepK_le G hC f _ o _ fun s => ih s hk
      | exact ih _ hk
      | refine LeO.ifK ?_
      | refine LeO.cond ?_ ?_
      | split)

end mono

theorem execK_le (G : Cfg) (L : Lv) {C C' : CallT} (hC : CLe C C') (f : FuncId) (rd : Option Nat) (c : Code) : ∀ (R : Type) (s : St) {k k' : Ex → St → Option R} (_ : ∀ e s, LeO (k e s) (k' e s)),
    LeO (execK G L C f rd c R s k) (execK G L C' f rd c R s k') := by
  induction c with
  | skip => intro R s k k' hk; exact hk _ _
  | label l => intro R s k k' hk; exact hk _ _
  | exit id => intro R s k k' hk; exact hk _ _
  | ret => intro R s k k' hk; exact hk _ _
  | goto l => intro R s k k' hk; exact LeO.none _
  | refuse l => intro R s k k' hk; exact LeO.none _
  | scope c ih => intro R s k k' hk; exact ih R s hk
  | region id ops d => intro R s k k' hk; exact LeO.ifK (opsK_le G hC f d _ _ s fun s => hk _ _)
  | seq a b iha ihb =>
    intro R s k k' hk
    refine iha R s fun e s => ?_
    cases e with
    | normal => exact ihb R s hk
    | exit id => exact hk _ _
    | ret => exact hk _ _
  | cond c a b iha ihb =>
    intro R s k k' hk
    simp only [execK]
    split
    · exact LeO.cond (iha R s hk) (ihb R s hk)
    · exact LeO.none _
  | block id c ih =>
    intro R s k k' hk
    refine ih R s fun e s => ?_
    cases e with
    | normal => exact hk _ _
    | exit j => simp only; split <;> exact hk _ _
    | ret => exact hk _ _
  | loop c ih =>
    intro R s k k' hk
    refine LeO.bind (hC.w _ _ (fun s => ih _ _ fun e s => LeO.refl _) _) fun p => exK_le _ _ _ fun _ => likeSt_le _ _ fun _ => hk _ _
  | rangeFunc x ps assign body _ _ =>
    intro R s k k' hk
    simp only [execK]
    repeat' (first
      | exact LeO.none _
      | exact hk _ _
      | refine LeO.ifK ?_
      | (refine LeO.bind (hC.s _ _ _) fun _ => ?_)
      | (refine heapK_le _ _ fun _ => ?_)
      | (refine LeO.bind (LeO.refl _) fun _ => ?_)
      | (refine endK_le _ _ _ fun _ => ?_)
      | split)

theorem run1_le (G : Cfg) (L : Lv) {C C' : CallT} (hC : CLe C C') (g : Fn) (args : List V) (h : List Ob) : LeO (run1 G L C g args h) (run1 G L C' g args h) := by
  unfold run1
  split
  · split
    · unfold runF
      split
      · refine LeO.ifK (execK_le G L hC _ _ _ _ _ fun e s => ?_)
        cases e <;> exact LeO.refl _
      · exact LeO.none _
    · exact LeO.none _
  · unfold runY
    split
    · refine LeO.bind (LeO.refl _) fun t => execK_le G L hC _ _ _ _ _ fun e s => ?_
      cases e with
      | normal =>
        simp only
        split
        · exact LeO.bind (LeO.refl _) fun _ => execK_le G L hC _ _ _ _ _ fun e s => LeO.refl _
        · exact LeO.none _
      | _ => exact LeO.none _
    · exact LeO.none _
  · exact LeO.none _

/-- Two oracles as one, if they agree. -/
theorem BS.det {G : Cfg} {L : Lv} {g : Fn} {args : List V} {h : List Ob} {r : V × List Ob} (b : BS G L g args h r) : ∀ r', BS G L g args h r' → r = r' := by
  induction b with
  | mk C rp g args h r hw hs hp hn hr ihs ihp =>
    intro r' b'
    cases b' with
    | mk C' rp' _ _ _ _ hw' hs' hp' hn' hr' =>
      let D : CallT := {
        w := iterW
        p := fun g args => match C.p g args with
          | some v => some v
          | none => C'.p g args
        s := fun g args h => match C.s g args h with
          | some v => some v
          | none => C'.s g args h }
      have h1 : CLe C D := ⟨fun b b' hb s => by rw [hw]; exact iterW_le hb s, fun g args r hr => by simp only [D, hr], fun g args h r hr => by simp only [D, hr]⟩
      have h2 : CLe C' D := by
        refine ⟨fun b b' hb s => by rw [hw']; exact iterW_le hb s, fun g args v hv => ?_, fun g args h v hv => ?_⟩
        · simp only [D]
          split
          · rename_i u hu
            have e := ihp g args u hu _ (hp' g args v hv)
            have n1 := hn g args u hu
            have n2 := hn' g args v hv
            rw [e] at n1
            rw [← n1, ← n2]
          · exact hv
        · simp only [D]
          split
          · rename_i u hu
            rw [ihs g args h u hu v (hs' g args h v hv)]
          · exact hv
      have e1 := run1_le G L h1 g args h _ hr
      have e2 := run1_le G L h2 g args h _ hr'
      rw [e1] at e2
      exact Option.some.inj e2

open Classical in
/-- The limit: all calls that come to an end. -/
noncomputable def CW (G : Cfg) (L : Lv) : CallT where
  w := iterW
  p := fun g args => if h : ∃ v r, BS G L g args [] r ∧ normResK r.2 r.1 some = some v then some (Classical.choose h) else none
  s := fun g args h => if hh : ∃ r, BS G L g args h r then some (Classical.choose hh) else none

theorem CW_s {G : Cfg} {L : Lv} {g : Fn} {args : List V} {h : List Ob} {r : V × List Ob} : (CW G L).s g args h = some r ↔ BS G L g args h r := by
  unfold CW
  simp only
  split
  · rename_i hh
    constructor
    · intro e; cases e; exact Classical.choose_spec hh
    · intro b; rw [BS.det b _ (Classical.choose_spec hh)]
  · rename_i hh
    constructor
    · intro e; cases e
    · intro b; exact absurd ⟨r, b⟩ hh

theorem CW_p {G : Cfg} {L : Lv} {g : Fn} {args : List V} {v : V} : (CW G L).p g args = some v ↔ ∃ r, BS G L g args [] r ∧ normResK r.2 r.1 some = some v := by
  unfold CW
  simp only
  split
  · rename_i hh
    obtain ⟨r, b, hn⟩ := Classical.choose_spec hh
    constructor
    · intro e; cases e; exact ⟨r, b, hn⟩
    · rintro ⟨r', b', hn'⟩
      rw [BS.det b _ b', hn'] at hn
      rw [← Option.some.inj hn]
  · rename_i hh
    constructor
    · intro e; cases e
    · rintro ⟨r, b, hn⟩; exact absurd ⟨v, r, b, hn⟩ hh

open Classical in
/-- A run under the limit is a call that comes to an end. -/
theorem CW_run {G : Cfg} {L : Lv} {g : Fn} {args : List V} {h : List Ob} {r : V × List Ob} (hr : run1 G L (CW G L) g args h = some r) : (CW G L).s g args h = some r := by
  refine CW_s.2 ?_
  refine BS.mk (CW G L) (fun g args => if hh : ∃ r v, BS G L g args [] r ∧ normResK r.2 r.1 some = some v then Classical.choose hh else (.undef, [])) g args h r rfl (fun g args h r e => CW_s.1 e) ?_ ?_ hr
  · intro g args v e
    obtain ⟨r, b, hn⟩ := CW_p.1 e
    have hh : ∃ r v, BS G L g args [] r ∧ normResK r.2 r.1 some = some v := ⟨r, v, b, hn⟩
    simp only [dif_pos hh]
    exact (Classical.choose_spec hh).choose_spec.1
  · intro g args v e
    obtain ⟨r, b, hn⟩ := CW_p.1 e
    have hh : ∃ r v, BS G L g args [] r ∧ normResK r.2 r.1 some = some v := ⟨r, v, b, hn⟩
    simp only [dif_pos hh]
    obtain ⟨v', b', hn'⟩ := Classical.choose_spec hh
    rw [BS.det b _ b', hn'] at hn
    rw [hn', hn]

theorem CW_runP {G : Cfg} {L : Lv} {g : Fn} {args : List V} {v : V} (hr : (run1 G L (CW G L) g args []).bind (fun r => normResK r.2 r.1 some) = some v) : (CW G L).p g args = some v := by
  cases h : run1 G L (CW G L) g args [] with
  | none => rw [h] at hr; cases hr
  | some r =>
    rw [h] at hr
    exact CW_p.2 ⟨r, CW_s.1 (CW_run h), hr⟩

end Go.Ab
