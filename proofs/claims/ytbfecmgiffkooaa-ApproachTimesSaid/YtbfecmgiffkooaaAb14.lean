/- Calls; conditions: the callees' own laws. -/
import Derived.Test.YtbfecmgiffkooaaAb13b
namespace Go.Ab
set_option linter.unusedVariables false
set_option linter.unusedSimpArgs false
variable {act hn : Nat} {s s' : St} {a : Act} {w : World} {g : Gh} {G : Cfg} {C : CallT} {f : FuncId} {dr : Bool} {n : Nat} {o : Oper}

/-- The walk's fence: none but the round. -/
def Fr (r : Option Nat) : Fence := { fn := fun _ => True, depth := none, alive := false, round := r }

/-- The shared objects by themselves. -/
def HS (hn : Nat) (h : List Ob) (w : World) (g : Gh) : Prop := SR 0 hn ⟨[], h⟩ { tmps := #[], defers := [] } w g

theorem SR.HS (h : SR act hn s a w g) : HS hn s.h w g :=
  { wf := h.wf, size := rfl, tmp := fun i v e => by simp at e, jl := h.jl, obj := h.obj, dfr := fun d hd => by simp at hd, an := Nat.lt_of_le_of_lt (Nat.zero_le _) h.an, hm := h.hm }

/-- What a call ends in. -/
def Ended (hn : Nat) (w : World) (g : Gh) (r : V × List Ob) (e : Ending) (w' : World) : Prop :=
  ∃ c g', e = .returned c ∧ HS hn r.2 w' g' ∧ Ext (obOf hn) w g w' g' ∧ VR r.1 (memOf w' g') c

def Has (P : Program) (f : FuncId) : Prop := ∃ fn, P.funcs[f]? = some fn ∧ fn.body.isSome = true ∧ (fn.name == "runtime.NumGoroutine") = false

/-- A call that shares objects does what was told. -/
def CallR (P : Program) : Fn → List V → List Ob → V × List Ob → Prop
  | .func f, args, h, r => Has P f ∧ ∀ hn w g cs, HS hn h w g → VRs args (memOf w g) cs → Calls P f ⟨cs⟩ w (Ended hn w g r)
  | .yield id, args, h, r => ∃ lp, h[id]? = some (.loop lp) ∧ lp.ps.length = args.length ∧ ∀ hn w g cs b lc, HS hn h w g → VRs args (memOf w g) cs → g.J[id]? = some (b, none) → w.heap[b]? = some (.loop lc) →
      RoundIn Fence.wide 0 P b lc.fn ((lc.params.zip ⟨cs⟩).foldl (fun tmps (t, a) => tmps.setIfInBounds t a) lc.tmps) lc.assign lc.body w (Ended hn w g r)
  | _, _, _, _ => False

/-- A call by value does what was told. -/
def PureR (P : Program) (q : Fn) (args : List V) (v : V) : Prop :=
  ∃ f, q = .func f ∧ Has P f ∧ ∀ w g cs, WF w g → VRs args (memOf w g).alone cs → Calls P f ⟨cs⟩ w fun e w' => ∃ c g', e = .returned c ∧ WF w' g' ∧ g'.J = g.J ∧ Ext (fun _ => False) w g w' g' ∧ VR v (memOf w' g').alone c

structure CallS (P : Program) (C : CallT) : Prop where
  w : C.w = iterW
  s : ∀ q args h r, C.s q args h = some r → CallR P q args h r
  p : ∀ q args v, C.p q args = some v → PureR P q args v

theorem calls_fr {P : Program} {r : Option Nat} {args : Array Value} {R : Ending → World → Prop} (h : Calls P f args w R) : CallsIn (Fr r) n P f args w R := by
  have := (callsIn_wide (n := n)).2 h
  exact this
theorem fr_calls {P : Program} {args : Array Value} {R : Ending → World → Prop} (h : CallsIn (Fr none) n P f args w R) : Calls P f args w R := by
  refine (callsIn_wide (n := n)).1 ?_
  exact h
theorem round_fr {P : Program} {r : Option Nat} {l : Nat} {tmps : Array Value} {as bd : Code} {R : Ending → World → Prop} (h : RoundIn Fence.wide 0 P l f tmps as bd w R) : RoundIn (Fr r) n P l f tmps as bd w R := by
  refine ⟨trivial, fun c cs _ => ?_⟩
  exact h.2 c cs (room_wide _)

/-- A call has turned the objects: the caller goes on. -/
theorem SR.back {h' : List Ob} {w' : World} {g' : Gh} (h : SR act hn s a w g) (k : Ab.HS hn h' w' g') (e : Ext (obOf hn) w g w' g') : SR act hn ⟨s.t, h'⟩ a w' g' where
  wf := k.wf
  size := h.size
  tmp i v hv := by
    obtain ⟨c, hc, ht⟩ := h.tmp i v hv
    refine ⟨c, hc, ht.frame e.le fun b j hb => e.keep b ?_ ?_⟩
    · exact Nat.lt_of_not_le fun hle => by rw [h.wf.new b hle] at hb; cases hb
    · rintro p hp ⟨id, rfl⟩; rw [hb] at hp; cases hp
  jl := k.jl
  obj := k.obj
  dfr d hd := by
    obtain ⟨D, h1, h2, h3⟩ := h.dfr d hd
    obtain ⟨k1, k2, _⟩ := e.keep D (Nat.lt_of_not_le fun hle => by rw [h.wf.new D hle] at h2; cases h2) (by rintro p hp ⟨id, rfl⟩; rw [h2] at hp; cases hp)
    exact ⟨D, h1, by rw [k2, h2], by rw [k1, h3]⟩
  an := Nat.lt_of_lt_of_le h.an e.nx
  hm := Nat.lt_of_lt_of_le h.hm e.nx

/-- A call has turned the objects; the first of them are kept. -/
theorem SR.backCut {h' hh t : List Ob} {w' : World} {g' : Gh} (h : SR act hn s a w g) (k : Ab.HS hn h' w' g') (e : Ext (obOf hn) w g w' g') (hk : heapK t h' some = some hh) (hl : s.h.length ≤ t.length) (hb : belowObs hh.length hh = true) :
    SR act hn ⟨s.t, hh⟩ a w' (g'.cut hh.length) ∧ Ext (obOf hn) w g w' (g'.cut hh.length) := by
  have k' : Ab.HS hn hh w' (g'.cut hh.length) := SR.heap k hk hb fun i v c hv => by simp at hv
  have e' := e.cut (n := hh.length) (by rw [h.jl, (heap_get _ _ hk).1]; exact hl)
  exact ⟨h.back k' e', e'⟩

/-- Nothing that was there has turned. -/
theorem SR.aside {w' : World} {g' : Gh} (h : SR act hn s a w g) (wf : WF w' g') (hJ : g'.J = g.J) (e : Ext (fun _ => False) w g w' g') : SR act hn s a w' g' :=
  h.frame wf hJ e.le (fun b p hp _ => e.keep b (Nat.lt_of_not_le fun hle => by rw [h.wf.new b hle] at hp; cases hp) fun _ _ => id) e.nx

/-! Results under their shapes. -/
theorem shapeK_ok {P : Program} {t : TypeId} {v v' : V} (h : shapeK P t v some = some v') {m : Mem} {c : Value} (hv : VR v m c) : VR v' m c := by
  unfold shapeK at h
  have key : ((asCells v).bind fun cs => shsK (leafs P 8 t) cs fun cs => some (V.agg cs)) = some v' → VR v' m c := by
    intro h
    obtain ⟨cs, h1, h⟩ := bind_some2 h
    rw [shsK_bind] at h
    obtain ⟨cs', h2, h⟩ := bind_some2 h
    cases h
    cases v <;> simp [asCells] at h1
    subst h1
    simp only [VR] at hv ⊢
    obtain ⟨ds, e, hv⟩ := hv
    exact ⟨ds, e, shsK_ok h2 hv⟩
  split at h
  · exact key h
  · exact key h
  · exact shK_ok h hv
  · cases h; exact hv
theorem shapesK_ok {P : Program} (l : List TypeId) : ∀ {vs vs' : List V} (_ : shapesK P l vs some = some vs') {m : Mem} {cs : List Value} (_ : VRs vs m cs), VRs vs' m cs := by
  induction l with
  | nil =>
    intro vs vs' h m cs hv
    simp only [shapesK] at h
    cases vs with
    | nil => simp [isNil] at h; subst h; exact hv
    | cons _ _ => simp [isNil] at h
  | cons t l ih =>
    intro vs vs' h m cs hv
    simp only [shapesK] at h
    cases vs with
    | nil => simp [uncons] at h
    | cons u us =>
      simp only [uncons, Option.bind_some] at h
      simp only [VRs] at hv
      obtain ⟨c, cs', rfl, h2, h3⟩ := hv
      rw [shapeK_bind] at h
      obtain ⟨u', hu, h⟩ := bind_some2 h
      rw [shapesK_bind] at h
      obtain ⟨us', hus, h⟩ := bind_some2 h
      cases h
      simp only [VRs]
      exact ⟨c, cs', rfl, shapeK_ok hu h2, ih hus h3⟩
theorem resultK_ok {P : Program} {t : TypeId} {v v' : V} (h : resultK P t v some = some v') {m : Mem} {c : Value} (hv : VR v m c) : VR v' m c := by
  unfold resultK at h
  split at h
  · obtain ⟨vs, h1, h⟩ := bind_some2 h
    rw [shapesK_bind] at h
    obtain ⟨vs', h2, h⟩ := bind_some2 h
    cases h
    cases v <;> simp [asTuple] at h1
    subst h1
    simp only [VR] at hv ⊢
    obtain ⟨ds, e, hv⟩ := hv
    exact ⟨ds, e, shapesK_ok _ h2 hv⟩
  · exact shapeK_ok h hv

theorem run_callFunc {P : Program} (hf : Has P f) (args : Array Value) : (callFunc f args).run P w = .ok (.enter f args) w := by
  obtain ⟨fn, h1, h2, h3⟩ := hf
  have h4 : fn.body.isNone = false := by cases hb : fn.body <;> simp_all
  have h5 : ¬ fn.name = "runtime.NumGoroutine" := by simpa using h3
  have h6 : ¬ fn.body = none := by intro e; rw [e] at h2; cases h2
  simp [callFunc, h1, h5, h6]

theorem evalArgs (h : SR act hn s a w g) (l : List Operand) : VRs (l.map fun x => view (getV s x)) (memOf w g) (l.map a.eval) := by
  induction l with
  | nil => simp only [List.map_nil, VRs]
  | cons x l ih => simp only [List.map_cons, VRs]; exact ⟨_, _, rfl, h.evalV x, ih⟩

theorem VRs.alone_of {l : List V} {w : World} {g : Gh} {cs : List Value} (h : VRs l (memOf w g).alone cs) : VRs l (memOf w g) cs := VRs.beside (m := (memOf w g).alone) (m' := memOf w g) l rfl rfl rfl h

/-- A value's call. -/
theorem step_call (hC : CallS G.P C) (h : SR act hn s a w g) {c : Call} {fx : Operand} (ho : o.op = .call c) (hc : c.callee = .value fx) (hd : stepD G C f dr o s = some s') (r : Option Nat) : Sound G.P (Fr r) n act hn s' a w g o := by
  unfold stepD stepK at hd
  simp only [ho, hc] at hd
  split at hd
  · rename_i q first cap hx
    obtain ⟨hcap, hd⟩ := ifK_some hd
    have hv := h.evalN hx rfl
    simp only [VR] at hv
    obtain ⟨q', first', cap', hev, hfi, hca, hq⟩ := hv
    have hargs : VRs (first ++ ((c.args.toList.map fun x => view (getV s x)) ++ cap)) (memOf w g) (first' ++ (c.args.toList.map a.eval ++ cap')) := hfi.append ((evalArgs h _).append hca)
    -- the operation's own run
    have hop : (execOp a.eval o).run G.P w = (invoke (.fn q' ⟨cap'⟩) (⟨first'⟩ ++ c.args.map a.eval)).run G.P w := by
      simp only [execOp, ho]
      simp [resolve, hc, hev, Deferred.ofValue]
    have hargsA : (⟨first'⟩ ++ c.args.map a.eval : Array Value) ++ ⟨cap'⟩ = ⟨first' ++ (c.args.toList.map a.eval ++ cap')⟩ := by
      apply Array.ext'; simp
    split at hd
    · -- objects are shared
      obtain ⟨_, hd⟩ := ifK_some hd
      obtain ⟨res, hr, hd⟩ := bind_some2 hd
      have hCR := hC.s _ _ _ _ hr
      obtain ⟨v, hh, t, hv, hhk, htl, hbl, hd⟩ : ∃ v hh t, (∀ (m : Mem) (c : Value), VR res.1 m c → VR v m c) ∧ heapK t res.2 some = some hh ∧ s.h.length ≤ t.length ∧ (below hh.length v && belowObs hh.length hh) = true ∧ s' = ⟨(s.put o.dst (view v)).t, hh⟩ := by
        split at hd
        · rename_i tv tl _
          rw [likeK_bind] at hd
          obtain ⟨v, hv, hd⟩ := bind_some2 hd
          rw [heapK_bind] at hd
          obtain ⟨hh, hhk, hd⟩ := bind_some2 hd
          obtain ⟨hbl, hd⟩ := ifK_some hd
          cases hd
          exact ⟨v, hh, _, fun m c => likeV _ _ hv, hhk, by simp, hbl, rfl⟩
        · rw [resultK_bind] at hd
          obtain ⟨v, hv, hd⟩ := bind_some2 hd
          rw [heapK_bind] at hd
          obtain ⟨hh, hhk, hd⟩ := bind_some2 hd
          obtain ⟨hbl, hd⟩ := ifK_some hd
          cases hd
          exact ⟨v, hh, _, fun m c => resultK_ok hv, hhk, Nat.le_refl _, hbl, rfl⟩
      subst hd
      simp only [Bool.and_eq_true] at hbl
      have cont : ∀ (next : Act → World → Prop), (∀ a' w' g', SR act hn ⟨(s.put o.dst (view v)).t, hh⟩ a' w' g' → Ext (mine act hn) w g w' g' → (a'.defers = a.defers ∧ a'.tmps.size = a.tmps.size) → next a' w') → ∀ (Q : Exit → Act → World → Prop) e w', Ended hn w g res e w' →
          (match e with | .returned v => next (a.put o.dst v) w' | .panicked chain => Q (.panic chain) a w' | .outgrown => LetsOut Q) := by
        intro next hnext Q e w' ⟨cc, g', e1, e2, e3, e4⟩
        subst e1
        obtain ⟨k1, k2⟩ := h.backCut e2 e3 hhk htl hbl.2
        refine hnext _ _ (g'.cut hh.length) ?_ k2.ofOb (put_same _ _ _)
        have := k1.putV o.dst (VR.below _ hbl.1 (hv _ _ e4)).view
        rwa [put_st] at this
      cases q with
      | func f' =>
        simp only at hq
        subst hq
        obtain ⟨hhas, hcalls⟩ := hCR
        intro next Q hnext
        rw [hop]
        simp only [invoke]
        rw [hargsA, run_callFunc hhas]
        simp only [Oper.uponIn]
        refine ⟨(fun e => by cases e), ?_⟩
        refine (calls_fr (hcalls hn w g _ h.HS hargs)).mono fun e w' he => ?_
        have := cont next hnext Q e w' he
        cases e <;> exact this
      | yield id =>
        simp only at hq
        obtain ⟨b, hJ, rfl⟩ := hq
        have hcap0 : cap = [] := by
          cases cap with
          | nil => rfl
          | cons _ _ => cases hcap
        subst hcap0
        simp only [VRs] at hca
        subst hca
        obtain ⟨lp, hlp, hlen, hround⟩ := hCR
        obtain ⟨b', lc, k1, k2, k3, k4, k5, k6, k7, k8, k9, k10⟩ := h.obj id _ hlp
        have hJ' : g.J[id]? = some (b, none) := hJ
        rw [hJ'] at k1; cases k1
        have hrun : (Instr.yield b (⟨first'⟩ ++ c.args.map a.eval)).run G.P w = .ok (.round b lc.fn ((lc.params.zip ⟨first' ++ (c.args.toList.map a.eval ++ [])⟩).foldl (fun tmps (t, a) => tmps.setIfInBounds t a) lc.tmps) lc.assign lc.body) w := by
          have e1 : (⟨first'⟩ ++ c.args.map a.eval : Array Value) = ⟨first' ++ (c.args.toList.map a.eval ++ [])⟩ := by apply Array.ext'; simp
          rw [e1]
          refine run_yield k3 ?_
          have := VRs.length _ hargs
          rw [← hlen, ← k6] at this
          simpa using this.symm
        intro next Q hnext
        rw [hop]
        simp only [invoke, hrun, Oper.uponIn]
        refine ⟨(fun e => by cases e), ?_⟩
        refine (round_fr (hround hn w g _ b lc h.HS hargs hJ' k3)).mono fun e w' he => ?_
        have := cont next hnext Q e w' he
        cases e <;> exact this
      | _ => exact hCR.elim
    · -- by value
      obtain ⟨_, hd⟩ := ifK_some hd
      rw [normArgsK_bind] at hd
      obtain ⟨args', hn', hd⟩ := bind_some2 hd
      obtain ⟨res, hr, hd⟩ := bind_some2 hd
      rw [resultK_bind] at hd
      obtain ⟨v, hv, hd⟩ := bind_some2 hd
      cases hd
      obtain ⟨f', rfl, hhas, hcalls⟩ := hC.p _ _ _ hr
      simp only at hq
      subst hq
      obtain ⟨g1, f1, f2⟩ := fixArgs_ok _ h hn' hargs
      intro next Q hnext
      rw [hop]
      simp only [invoke]
      rw [hargsA, run_callFunc hhas]
      simp only [Oper.uponIn]
      refine ⟨(fun e => by cases e), ?_⟩
      refine (calls_fr (hcalls w g1 _ f1.sr.wf f2)).mono fun e w' he => ?_
      obtain ⟨cc, g2, e1, e2, e3, e4, e5⟩ := he
      subst e1
      refine hnext _ _ g2 ?_ (f1.ext.ofOb.trans (e4.weaken fun _ h => h.elim)) (put_same _ _ _)
      have := (f1.sr.aside e2 e3 e4).putV o.dst (resultK_ok hv (VR.beside (m := (memOf w' g2).alone) (m' := memOf w' g2) _ rfl rfl rfl e5)).view
      rwa [put_st] at this
  · cases hd

/-- A builtin's call. -/
theorem step_builtin {F : Fence} (h : SR act hn s a w g) {c : Call} {b : Builtin} (ho : o.op = .call c) (hc : c.callee = .builtin b) (hd : stepD G C f dr o s = some s') : Sound G.P F n act hn s' a w g o := by
  unfold stepD stepK at hd
  simp only [ho, hc] at hd
  split at hd <;> rename_i heq <;> first
    | (cases heq; done)
    | (cases hd; done)
    | skip
  · -- len
    cases heq
    split at hd
    · rename_i x t hargs htys
      obtain ⟨hk, hd⟩ := ifK_some hd
      obtain ⟨m, hm, hd⟩ := bind_some2 hd
      cases hd
      have hk2 : (∃ e, G.P.underlying t = some (.slice e)) ∨ G.P.underlying t = some .string := by
        split at hk <;> first
          | (rename_i hu _; exact .inl ⟨_, hu⟩)
          | (rename_i hu _; exact .inr hu)
          | (cases hk; done)
      refine sound_len h ho hc hargs htys hk2 hm ?_
      split at hk
      · rename_i hu hx; rw [hx]; exact ⟨_, hu⟩
      · rename_i hu hx; rw [hx]; exact ⟨_, hu⟩
      · rename_i hu hx; rw [hx]; exact hu
      · cases hk
    · cases hd
  · -- min
    cases heq
    split at hd
    · rename_i x l hargs
      obtain ⟨v, hv, hd⟩ := bind_some2 hd
      cases hd
      have hev := evalArgs h c.args.toList
      rw [hargs] at hev
      simp only [VRs] at hev
      obtain ⟨cx, cl, e1, e2, e3⟩ := hev
      obtain ⟨d, d1, d2⟩ := minmax_run (P := G.P) (w := w) false l x v hv cl cx e2 e3
      refine Sound.pure h (c := d) ?_ d2
      simp only [execOp, ho]
      have e4 : (c.args.map a.eval).toList = cx :: cl := by rw [Array.toList_map]; exact e1
      simp only [Bool.false_eq_true, if_false] at d1
      simp only [resolve, hc, Sem.run_bind, Sem.run_pure, Result.andThen_ok, invoke, builtin, Builtin.min_, e4, d1]
    · cases hd
  · -- max
    cases heq
    split at hd
    · rename_i x l hargs
      obtain ⟨v, hv, hd⟩ := bind_some2 hd
      cases hd
      have hev := evalArgs h c.args.toList
      rw [hargs] at hev
      simp only [VRs] at hev
      obtain ⟨cx, cl, e1, e2, e3⟩ := hev
      obtain ⟨d, d1, d2⟩ := minmax_run (P := G.P) (w := w) true l x v hv cl cx e2 e3
      refine Sound.pure h (c := d) ?_ d2
      simp only [execOp, ho]
      have e4 : (c.args.map a.eval).toList = cx :: cl := by rw [Array.toList_map]; exact e1
      simp only [if_true] at d1
      simp only [resolve, hc, Sem.run_bind, Sem.run_pure, Result.andThen_ok, invoke, builtin, Builtin.max_, e4, d1]
    · cases hd
  · -- append
    cases heq
    split at hd
    · rename_i x y t t' hargs htys
      split at hd
      · rename_i e sz b q hs hs'
        split at hd
        · rename_i z hz
          obtain ⟨hb, hd⟩ := ifK_some hd
          simp only [Bool.and_eq_true] at hb
          rw [appendK_bind] at hd
          obtain ⟨⟨v, h'⟩, ha, hd⟩ := bind_some2 hd
          cases hd
          have hev := evalArgs h c.args.toList
          rw [hargs] at hev
          simp only [VRs] at hev
          obtain ⟨cx, cl, e1, e2, cy, cl', rfl, e3, rfl⟩ := hev
          obtain ⟨cc, w', g', k1, k2, k3, k4⟩ := append_ok h (ty := o.type) hs hs' hz (Nat.eq_of_beq_eq_true hb.1.1.1) (Nat.le_of_ble_eq_true hb.1.1.2) (Nat.le_of_ble_eq_true hb.1.2) e2 e3 ha
          refine Sound.value (c := cc) (w' := w') (g' := g') ?_ ?_ k3
          · simp only [execOp, ho]
            have e4 : c.args.map a.eval = #[cx, cy] := by apply Array.ext'; rw [Array.toList_map, e1]
            have e5 : c.argTypes = #[t, t'] := by apply Array.ext'; simpa using htys
            simp only [resolve, hc, Sem.run_bind, Sem.run_pure, Result.andThen_ok, invoke, builtin, e4, e5, k1]
          · have := k2.putV o.dst k4
            rwa [put_st] at this
        · cases hd
      · cases hd
    · cases hd

/-- Every step. -/
theorem step_ok (hC : CallS G.P C) (h : SR act hn s a w g) (hd : stepD G C f dr o s = some s') (r : Option Nat) : Sound G.P (Fr r) n act hn s' a w g o := by
  cases ho : o.op with
  | move x => exact step_move h ho hd
  | assign x => exact step_assign h ho hd
  | pick c x y => exact step_pick h ho hd
  | alloc t => exact step_alloc h ho hd
  | box t x => exact step_box h ho hd
  | build t parts => exact step_build h ho hd
  | buildSlice t l parts => exact step_buildSlice h ho hd
  | load t x => exact step_load h ho hd
  | store t y x => exact step_store h ho hd
  | nilCheck x => exact step_nilCheck h ho hd
  | binOp op t x y t' => exact step_binOp h ho hd
  | unOp op t x => exact step_unOp h ho hd
  | convert t t' x => exact step_convert h ho hd
  | makeFunc q fi ca => exact step_makeFunc h ho hd
  | fieldAddr t x fd => exact step_fieldAddr h ho hd
  | field t x fd => exact step_field h ho hd
  | indexAddr t x ix => exact step_indexAddr h ho hd
  | slice t x lo hi mx => exact step_slice h ho hd
  | index t x ix => exact step_index h ho hd
  | extract x i => exact step_extract h ho hd
  | call c =>
    cases hc : c.callee with
    | builtin b => exact step_builtin h ho hc hd
    | value fx => exact step_call hC h ho hc hd r
    | invoke _ _ => unfold stepD stepK at hd; simp only [ho, hc] at hd; cases hd
  | _ => unfold stepD stepK at hd; simp only [ho] at hd; cases hd

end Go.Ab
