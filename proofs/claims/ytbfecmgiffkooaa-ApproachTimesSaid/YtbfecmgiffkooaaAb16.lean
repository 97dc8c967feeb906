/- The abstract walk is the program's; conditions: the callees' own laws. -/
import Derived.Test.YtbfecmgiffkooaaAb15
namespace Go.Ab
set_option linter.unusedVariables false
set_option linter.unusedSimpArgs false
variable {act hn : Nat} {s s' : St} {a : Act} {w : World} {g : Gh} {G : Cfg} {L : Lv} {C : CallT} {f : FuncId} {dr : Bool} {n : Nat} {o : Oper}

theorem step_noDefer (hd : stepD G C f dr o s = some s') (c : Call) : o.op ≠ .defer c := by
  intro ho
  unfold stepD stepK at hd
  simp only [ho] at hd
  cases hd

theorem SR.boolAt (h : SR act hn s a w g) {d : Nat} {b : Bool} (hb : nth s.t d = .bool b) : a.tmps[d]? = some (.bool b) := by
  rw [nth_get] at hb
  cases hs : s.t[d]? with
  | none => rw [hs] at hb; simp at hb
  | some v =>
    rw [hs] at hb; simp at hb; subst hb
    obtain ⟨c, hc, ht⟩ := h.tmp d _ hs
    have : VR (.bool b) (memOf w g) c := ht
    simp only [VR] at this
    rw [hc, this]
theorem SR.skipAt (h : SR act hn s a w g) {d : Nat} (hb : nth s.t d = .skip) : a.tmps[d]? = some Go.undef := by
  rw [nth_get] at hb
  cases hs : s.t[d]? with
  | none => rw [hs] at hb; simp at hb
  | some v =>
    rw [hs] at hb; simp at hb; subst hb
    obtain ⟨c, hc, ht⟩ := h.tmp d _ hs
    have : VR .skip (memOf w g) c := ht
    simp only [VR] at this
    rw [hc, this]

/-- One operation in its place. -/
theorem oper_ok (hC : CallS G.P C) {ops : Array Oper} (h : SR act hn s a w g) (hd : operD G C f dr ops.toList o s = some s') (r : Option Nat) {rest : List Nat} {i : Nat} (hi : ops[i]? = some o) {Q : Exit → Act → World → Prop}
    (hk : ∀ a' w' g', SR act hn s' a' w' g' → Ext (mine act hn) w g w' g' → (a'.defers = a.defers ∧ a'.tmps.size = a.tmps.size) → wpOpsIn (Fr r) n G.P ops Q rest a' w') : wpOpsIn (Fr r) n G.P ops Q (i :: rest) a w := by
  have go : Region.wanted o (yielded ops a.tmps) = true → stepD G C f (drOf dr ops.toList o) o s = some s' → wpOpsIn (Fr r) n G.P ops Q (i :: rest) a w := by
    intro hw hd
    simp only [wpOpsIn, hi, hw, if_true]
    refine ⟨fun _ _ => trivial, ?_⟩
    rw [Oper.semAt_eq _ _ _ (step_noDefer hd)]
    exact step_ok hC h hd r _ _ fun a' w' g' h1 h2 h3 => hk a' w' g' h1 h2 h3
  have skip : Region.wanted o (yielded ops a.tmps) = false → s' = s.put o.dst .skip → wpOpsIn (Fr r) n G.P ops Q (i :: rest) a w := by
    intro hw he
    simp only [wpOpsIn, hi, hw, if_false, Bool.false_eq_true]
    refine ⟨fun _ _ => trivial, hk _ _ g ?_ (Ext.refl _ _ _) (put_same _ _ _)⟩
    rw [he]
    exact h.putV _ (by simp only [VR])
  unfold operD at hd
  cases hg : o.guard with
  | none =>
    rw [hg] at hd
    exact go (by simp [Region.wanted, hg]) (ifK_some hd).2
  | some p =>
    obtain ⟨j, want⟩ := p
    rw [hg] at hd
    simp only at hd
    cases hj : ops.toList[j]? with
    | none => rw [hj] at hd; cases hd
    | some gd =>
      rw [hj] at hd
      simp only at hd
      have hj' : ops[j]? = some gd := by simpa using hj
      cases hdst : gd.dst with
      | none => rw [hdst] at hd; cases hd
      | some d =>
        rw [hdst] at hd
        simp only at hd
        cases hb : nth s.t d <;> rw [hb] at hd <;> simp only at hd <;> first
          | (cases hd; done)
          | skip
        · obtain ⟨_, hd⟩ := ifK_some hd
          refine skip ?_ (Option.some.inj hd).symm
          have := h.skipAt hb
          simp [Region.wanted, hg, yielded, hj', hdst, this, Go.undef]
        · rename_i b
          have hy : yielded ops a.tmps j = some b := by simp [yielded, hj', hdst, h.boolAt hb]
          split at hd
          · rename_i e
            exact go (by simp [Region.wanted, hg, hy, e]) (ifK_some hd).2
          · rename_i e
            obtain ⟨_, hd⟩ := ifK_some hd
            exact skip (by simp [Region.wanted, hg, hy, e]) (Option.some.inj hd).symm

theorem ops_ok (hC : CallS G.P C) {ops : Array Oper} (r : Option Nat) {Q : Exit → Act → World → Prop} : ∀ (l : List Nat) {s : St} {a : Act} {w : World} {g : Gh} (_ : SR act hn s a w g) (_ : opsI G C f dr ops.toList l s = some s')
    (_ : ∀ a' w' g', SR act hn s' a' w' g' → Ext (mine act hn) w g w' g' → (a'.defers = a.defers ∧ a'.tmps.size = a.tmps.size) → Q .normal a' w'), wpOpsIn (Fr r) n G.P ops Q l a w := by
  intro l
  induction l with
  | nil =>
    intro s a w g h hd hk
    cases hd
    exact hk _ _ _ h (Ext.refl _ _ _) ⟨rfl, rfl⟩
  | cons i l ih =>
    intro s a w g h hd hk
    simp only [opsI] at hd
    cases hi : ops.toList[i]? with
    | none =>
      rw [hi] at hd
      have hi' : ops[i]? = none := by simpa using hi
      simp only [wpOpsIn, hi']
      exact ih h hd hk
    | some o =>
      rw [hi] at hd
      obtain ⟨s1, h1, h2⟩ := bind_some2 hd
      exact oper_ok hC h h1 r (by simpa using hi) fun a' w' g' k1 k2 k5 => ih k1 h2 fun a'' w'' g'' k3 k4 k6 => hk _ _ _ k3 (k2.trans k4) ⟨k6.1.trans k5.1, k6.2.trans k5.2⟩

/-- A region. -/
theorem region_ok (hm : G.P.follows .mixedOrders = true) (hC : CallS G.P C) {id : Nat} {ops : Array Oper} (r : Option Nat) {Q : Exit → Act → World → Prop} (h : SR act hn s a w g) (hc : (!dr || commOk ops.toList) = true)
    (hd : opsD G C f dr ops.toList ops.toList s = some s') (hk : ∀ a' w' g', SR act hn s' a' w' g' → Ext (mine act hn) w g w' g' → (a'.defers = a.defers ∧ a'.tmps.size = a.tmps.size) → Q .normal a' w') : (Code.region id ops dr).wpIn (Fr r) n G.P Q a w := by
  cases dr with
  | false =>
    refine wpIn_region (ops_ok (f := f) (dr := false) (s' := s') hC r _ h ?_ hk)
    rw [opsD_range] at hd
    simpa using hd
  | true =>
    refine wpIn_region_draw fun t => ops_ok (f := f) (dr := true) (s' := s') hC r _ (g := g) h.drew (order_ok hm (by simpa using hc) hd t) fun a' w' g' k1 k2 k3 => hk a' w' g' k1 ((Ext.drew _ w g).trans k2) k3

/-- What is forgotten. -/
theorem purgeL_get (live : List Nat) : ∀ (i : Nat) (l : List V) (j : Nat), (purgeL live i l)[j]? = (l[j]?).map fun v => if lmem (i + j) live then v else .undef := by
  intro i l
  induction l generalizing i with
  | nil => intro j; simp [purgeL]
  | cons v l ih =>
    intro j
    cases j with
    | zero => simp [purgeL]
    | succ j => simp only [purgeL, List.getElem?_cons_succ, ih]; rw [show i + 1 + j = i + (j + 1) by omega]
theorem SR.purge (h : SR act hn s a w g) (live : Option (List Nat)) : SR act hn (Ab.purge live s) a w g := by
  cases live with
  | none => exact h
  | some l =>
    have hlen : ∀ (i : Nat) (t : List V), (purgeL l i t).length = t.length := by
      intro i t
      induction t generalizing i with
      | nil => rfl
      | cons v t ih => simp [purgeL, ih]
    refine { h with size := by simp only [Ab.purge, hlen]; exact h.size, tmp := fun i v hv => ?_ }
    simp only [Ab.purge, purgeL_get] at hv
    cases hs : s.t[i]? with
    | none => rw [hs] at hv; cases hv
    | some u =>
      rw [hs] at hv; simp at hv
      obtain ⟨c, hc, ht⟩ := h.tmp i u hs
      refine ⟨c, hc, ?_⟩
      split at hv
      · subst hv; exact ht
      · subst hv; exact TR.of_VR (by simp only [VR])

theorem loose1_ok {v : V} {m : Mem} {c : Value} (h : VR v m c) : VR (loose1 v) m c := by
  cases v <;> first
    | exact h
    | exact h.any
theorem loose1_l : ∀ (l : List V) {m : Mem} {cs : List Value}, VRl l m cs → VRl (loose1s l) m cs
  | [], _, _, h => h
  | v :: l, m, cs, h => by
    simp only [VRl] at h
    obtain ⟨c, cs', h1, ⟨h2, h4⟩, h3⟩ := h
    simp only [loose1s, VRl]
    exact ⟨c, cs', h1, ⟨loose1_ok h2, h4⟩, loose1_l l h3⟩
theorem looseV_ok {i : Nat} {v : V} {c : Value} (h : TR w g act i v c) : TR w g act i (looseV v) c := by
  cases v with
  | box cells =>
    obtain ⟨b, cs, e, h1, h2, h3, h4, h5⟩ := h
    exact ⟨b, cs, e, h1, h2, h3, h4, loose1_l _ h5⟩
  | adr j off => exact h
  | agg cells =>
    have h : VR (.agg cells) (memOf w g) c := h
    simp only [VR] at h
    obtain ⟨cs, h1, h2⟩ := h
    refine TR.of_VR ?_
    simp only [looseV, VR]
    exact ⟨cs, h1, loose1_l _ h2⟩
  | slice fl rows => exact TR.of_VR (VR.any (show VR (.slice fl rows) (memOf w g) c from h))
  | _ => exact h
theorem looseVs_get : ∀ (l : List V) (i : Nat), (looseVs l)[i]? = (l[i]?).map looseV
  | [], i => by simp [looseVs]
  | v :: l, 0 => by simp [looseVs]
  | v :: l, i + 1 => by simp [looseVs, looseVs_get l i]
theorem looseVs_len : ∀ (l : List V), (looseVs l).length = l.length
  | [] => rfl
  | v :: l => by simp [looseVs, looseVs_len l]
theorem looseH_len : ∀ (l : List Ob), (looseH l).length = l.length
  | [] => rfl
  | .cells _ :: l => by simp [looseH, looseH_len l]
  | .arr _ _ _ :: l => by simp [looseH, looseH_len l]
  | .loop _ :: l => by simp [looseH, looseH_len l]
  | .dead :: l => by simp [looseH, looseH_len l]
theorem looseH_get : ∀ (l : List Ob) (i : Nat) (ob : Ob), (looseH l)[i]? = some ob → l[i]? = some ob ∨ ∃ cs, l[i]? = some (.cells cs) ∧ ob = .cells (loose1s cs)
  | [], i, ob, h => by simp [looseH] at h
  | .cells cs :: l, 0, ob, h => by simp [looseH] at h; exact .inr ⟨cs, rfl, h.symm⟩
  | .cells _ :: l, i + 1, ob, h => by simp [looseH] at h; simpa using looseH_get l i ob h
  | .arr _ _ _ :: l, 0, ob, h => by simp [looseH] at h; exact .inl (by simp [h])
  | .arr _ _ _ :: l, i + 1, ob, h => by simp [looseH] at h; simpa using looseH_get l i ob h
  | .loop _ :: l, 0, ob, h => by simp [looseH] at h; exact .inl (by simp [h])
  | .loop _ :: l, i + 1, ob, h => by simp [looseH] at h; simpa using looseH_get l i ob h
  | .dead :: l, 0, ob, h => by simp [looseH] at h; exact .inl (by simp [h])
  | .dead :: l, i + 1, ob, h => by simp [looseH] at h; simpa using looseH_get l i ob h
theorem SR.loose (h : SR act hn s a w g) : SR act hn (Ab.loose s) a w g := by
  refine { h with size := by simp only [Ab.loose, looseVs_len]; exact h.size, tmp := fun i v hv => ?_, jl := by simp only [Ab.loose, looseH_len]; exact h.jl, obj := fun id ob ho => ?_ }
  · simp only [Ab.loose, looseVs_get] at hv
    cases hs : s.t[i]? with
    | none => rw [hs] at hv; cases hv
    | some u =>
      rw [hs] at hv; simp at hv; subst hv
      obtain ⟨c, hc, ht⟩ := h.tmp i u hs
      exact ⟨c, hc, looseV_ok ht⟩
  · rcases looseH_get s.h id ob ho with h1 | ⟨cs, h1, rfl⟩
    · exact h.obj id ob h1
    · obtain ⟨b, cells, e, k1, k2, k3, k4, k5⟩ := h.obj id _ h1
      exact ⟨b, cells, e, k1, k2, k3, k4, loose1_l _ k5⟩
/-- How a walk is left. -/
def exitOf : Ex → Exit
  | .normal => .normal
  | .exit id => .exit id
  | .ret => .ret

/-- The round in which the walk goes. -/
def RD (rd : Option Nat) (g : Gh) (r : Option Nat) : Prop := match rd with
  | none => r = none
  | some l => ∃ b, r = some b ∧ g.J[l]? = some (b, none)
theorem RD.ext {rd r : Option Nat} {ok : Owner → Prop} {w' : World} {g' : Gh} (h : RD rd g r) (e : Ext ok w g w' g') : RD rd g' r := by
  cases rd with
  | none => exact h
  | some l => obtain ⟨b, h1, h2⟩ := h; exact ⟨b, h1, e.le.J _ _ h2⟩

/-- A jump that was kept is walked. -/
theorem wpIn_exCode {e : Ex} (he : e ≠ .normal) {r : Option Nat} {Q : Exit → Act → World → Prop} (h : Q (exitOf e) a w) : (exCode e).wpIn (Fr r) n G.P Q a w := by
  cases e with
  | normal => exact absurd rfl he
  | exit id => exact wpIn_exit h
  | ret => exact wpIn_ret h

theorem least {p : Nat → Prop} (h : ∃ m, p m) : ∃ m, p m ∧ ∀ k, p k → m ≤ k := by
  obtain ⟨m, hm⟩ := h
  induction m using Nat.strongRecOn with
  | _ m ih =>
    by_cases hk : ∃ k, k < m ∧ p k
    · obtain ⟨k, h1, h2⟩ := hk; exact ih k h1 h2
    · exact ⟨m, hm, fun k hp => Nat.le_of_not_lt fun hlt => hk ⟨k, hlt, hp⟩⟩
open Classical in
noncomputable def leastN (p : Nat → Prop) : Nat := if h : ∃ m, p m then Classical.choose (least h) else 0
theorem leastN_spec {p : Nat → Prop} (h : ∃ m, p m) : p (leastN p) := by
  unfold leastN; rw [dif_pos h]; exact (Classical.choose_spec (least h)).1
theorem leastN_le {p : Nat → Prop} {m : Nat} (h : p m) : leastN p ≤ m := by
  unfold leastN; rw [dif_pos ⟨m, h⟩]; exact (Classical.choose_spec (least ⟨m, h⟩)).2 m h

/-! Ranges over functions. -/
theorem SR.allocMark (h : SR act hn s a w g) :
    SR act hn s { a with defers := { target := .collected w.heap.size, args := #[] } :: a.defers } (w.alloc (.deferred (some []))) (g.grab w.heap.size (.mark act w.heap.size)) ∧
    Ext (mine act hn) w g (w.alloc (.deferred (some []))) (g.grab w.heap.size (.mark act w.heap.size)) := by
  have wf' : WF (w.alloc (.deferred (some []))) (g.grab w.heap.size (.mark act w.heap.size)) := h.wf.grab _ (.mark act w.heap.size) h.an g.J
  have le' : (memOf w g).le (memOf (w.alloc (.deferred (some []))) (g.grab w.heap.size (.mark act w.heap.size))) := le_grab h.wf _ _ g.J fun _ _ x => x
  have keep : ∀ b p, g.own b = some p → p ≠ .mark act w.heap.size → (w.alloc (.deferred (some []))).heap[b]? = w.heap[b]? ∧ (g.grab w.heap.size (.mark act w.heap.size)).own b = g.own b ∧ (g.grab w.heap.size (.mark act w.heap.size)).K b = g.K b := by
    intro b p hp hne
    have h1 := h.wf.ne_new hp
    refine ⟨by rw [alloc_heap, if_neg h1], ?_, by simp [Gh.grab, h1]⟩
    have h2 : ¬ g.own b = some (.mark act w.heap.size) := by rw [hp]; intro e; cases e; exact hne rfl
    simp only [Gh.grab, h1, if_false, h2]
  refine ⟨?_, Ext.grab h.wf _ _ _ (.inr (.inl ⟨_, rfl⟩)) g.J fun _ _ x => x⟩
  refine { wf := wf', size := h.size, tmp := fun i v hv => ?_, jl := h.jl, obj := fun id ob e => ?_, dfr := fun d hd => ?_, an := h.an, hm := h.hm }
  · obtain ⟨c, hc, ht⟩ := h.tmp i v hv
    exact ⟨c, hc, ht.frame le' fun b j e => keep b _ e (by intro e; cases e)⟩
  · exact (h.obj id ob e).frame rfl le' fun b e => keep b _ e (by intro e; cases e)
  · cases hd with
    | head => exact ⟨w.heap.size, rfl, by simp [Gh.grab], by rw [alloc_heap, if_pos rfl]⟩
    | tail _ hd =>
      obtain ⟨D, h1, h2, h3⟩ := h.dfr d hd
      have h4 := h.wf.ne_new h2
      obtain ⟨k1, k2, _⟩ := keep D _ h2 (by intro e; cases e; exact h4 rfl)
      exact ⟨D, h1, by rw [← h2]; exact k2, by rw [k1, h3]⟩

theorem le_putLoop {b : Nat} {lc lc' : Loop} (hb : w.heap[b]? = some (.loop lc)) : (memOf w g).le (memOf (w.putObj b (.loop lc')) g) where
  M x j c h := by
    simp only [memOf] at h ⊢
    by_cases e : x = b
    · subst e; rw [hb] at h; simp [cellAt] at h
    · rw [World.putObj_heap_other e]; exact h
  Z x n h := by
    simp only [memOf] at h ⊢
    by_cases e : x = b
    · subst e; rw [hb] at h; simp [sizeAt] at h
    · rw [World.putObj_heap_other e]; exact h
  J _ _ h := h
  L _ b l h := ⟨b, l, h, Nat.le_refl _, fun _ => rfl⟩

/-- A loop's record turns. -/
theorem SR.turnLoop (h : SR act hn s a w g) {id : Nat} {lp : LoopA} (hl : s.h[id]? = some (.loop lp)) :
    ∃ b lc, g.J[id]? = some (b, none) ∧ w.heap[b]? = some (.loop lc) ∧ lc.state = lp.st ∧ lc.pending = lp.pend.map exCode ∧ lc.params.toList = lp.ps ∧ lc.assign = lp.assign ∧ lc.body = lp.body ∧ VRs lp.t (memOf w g) lc.tmps.toList ∧ lp.pend ≠ some .normal ∧
      ∀ (st st' : LoopState) (pe : Option Ex), pe ≠ some .normal → ∀ ob', (ob' = .dead ∨ (ob' = .loop { lp with st := st, pend := pe } ∧ st' = st)) →
        SR act hn ⟨s.t, hset s.h id ob'⟩ a (w.putObj b (.loop { lc with state := st', pending := pe.map exCode })) g ∧ Ext (obOf hn) w g (w.putObj b (.loop { lc with state := st', pending := pe.map exCode })) g := by
  obtain ⟨b, lc, h1, h2, h4, h5, h6, h7, h8, h9, h10, h11⟩ := h.obj id _ hl
  refine ⟨b, lc, h1, h4, h5, h6, h7, h8, h9, VRs.mono _ (Mem.cut_le _ _) h10, h11, fun st st' pe hpe ob' hob => ?_⟩
  have le' := le_putLoop (w := w) (g := g) (lc' := { lc with state := st', pending := pe.map exCode }) h4
  have hlt : b < w.heap.size := (Array.getElem?_eq_some_iff.1 h4).1
  have keep : ∀ x p, g.own x = some p → p ≠ .ob hn id → (w.putObj b (.loop { lc with state := st', pending := pe.map exCode })).heap[x]? = w.heap[x]? ∧ g.own x = g.own x ∧ g.K x = g.K x := by
    intro x p hp hne
    refine ⟨World.putObj_heap_other (fun e => ?_), rfl, rfl⟩
    subst e; rw [h2] at hp; cases hp; exact hne rfl
  refine ⟨?_, ⟨by simp, fun x _ hp => ⟨World.putObj_heap_other (fun e => by subst e; exact hp _ h2 ⟨id, rfl⟩), rfl, rfl⟩, le', Nat.le_refl _, rfl, rfl, rfl⟩⟩
  refine h.setOb ⟨fun x hx => h.wf.new x (by simpa using hx), h.wf.inj, h.wf.nx⟩ le' (fun _ _ => rfl) rfl (fun x p hp _ hne => keep x p hp hne) (Nat.le_refl _) ?_
  rcases hob with rfl | ⟨rfl, rfl⟩
  · trivial
  · exact ⟨b, _, h1, h2, World.putObj_heap_same hlt, rfl, rfl, h7, h8, h9, VRs.mono _ (le'.cut id) h10, hpe⟩

theorem run_enterLoop_in {P : Program} {b : Nat} {lc : Loop} (hb : w.heap[b]? = some (.loop lc)) (fn : FuncId) (tmps : Array Value) (ps : Array Tmp) (assign body : Code) :
    (Instr.enterLoop fn tmps ps assign body (some b)).run P w = .ok (w.heap.size, []) (w.alloc (.loop { state := .ready, pending := none, fn, tmps, params := ps, assign, body, defers := lc.defers })) := by
  unfold Instr.enterLoop
  simp only [Sem.run_bind, run_getLoop hb, run_newObj_alloc, Result.andThen, Sem.run_pure]

theorem VRs_views (h : SR act hn s a w g) : VRs (s.t.map view) (memOf w g) a.tmps.toList := by
  have key : ∀ (l : List V) (cs : List Value), l.length = cs.length → (∀ (i : Nat) (v : V), l[i]? = some v → ∃ c, cs[i]? = some c ∧ VR (view v) (memOf w g) c) → VRs (l.map view) (memOf w g) cs := by
    intro l
    induction l with
    | nil => intro cs hl _; simp only [List.map_nil, VRs]; cases cs with | nil => rfl | cons _ _ => simp at hl
    | cons v l ih =>
      intro cs hl hv
      cases cs with
      | nil => simp at hl
      | cons c cs =>
        simp only [List.map_cons, VRs]
        obtain ⟨c', h1, h2⟩ := hv 0 v rfl
        simp at h1; subst h1
        exact ⟨c, cs, rfl, h2, ih cs (by simpa using hl) fun i u hu => by
          obtain ⟨c', h1, h2⟩ := hv (i + 1) u (by simpa using hu)
          exact ⟨c', by simpa using h1, h2⟩⟩
  refine key _ _ (by simpa using h.size) fun i v hv => ?_
  obtain ⟨c, hc, ht⟩ := h.tmp i v hv
  exact ⟨c, by simpa using hc, ht.view⟩

/-- A loop's record is laid. -/
theorem SR.allocLoop (h : SR act hn s a w g) {t : List V} (fn : FuncId) {tmps : Array Value} (ht : VRs t (memOf w g) tmps.toList) (ps : Array Tmp) (assign body : Code) (D : Nat) :
    ∃ g', SR act hn ⟨s.t, s.h ++ [.loop ⟨.ready, none, t, f, ps.toList, assign, body⟩]⟩ a (w.alloc (.loop { state := .ready, pending := none, fn, tmps, params := ps, assign, body, defers := D })) g' ∧
      Ext (mine act hn) w g (w.alloc (.loop { state := .ready, pending := none, fn, tmps, params := ps, assign, body, defers := D })) g' ∧ g'.J[s.h.length]? = some (w.heap.size, none) := by
  obtain ⟨k1, k2⟩ := h.allocOb (o := .loop { state := .ready, pending := none, fn, tmps, params := ps, assign, body, defers := D }) (ob := .loop ⟨.ready, none, t, f, ps.toList, assign, body⟩) none (by
    intro g' hg' le
    subst hg'
    refine ⟨w.heap.size, _, ?_, by simp [Gh.grab], by rw [alloc_heap, if_pos rfl], rfl, rfl, rfl, rfl, rfl, VRs.mono _ (by have := le.cut s.h.length; rwa [Mem.cut_all _ (Nat.le_of_eq h.jl)] at this) ht, by simp⟩
    show (g.J ++ [(w.heap.size, none)])[s.h.length]? = _
    rw [← h.jl]; simp)
  refine ⟨_, k1, k2, ?_⟩
  show (g.J ++ [(w.heap.size, none)])[s.h.length]? = _
  rw [← h.jl]; simp

theorem nodup_new {ds : List Deferred} (h : SR act hn s a w g) (hn' : a.defers.Nodup) (e : a.defers = ds) : ({ target := .collected w.heap.size, args := #[] } :: ds : List Deferred).Nodup := by
  subst e
  refine List.nodup_cons.2 ⟨fun hm => ?_, hn'⟩
  obtain ⟨D, h1, h2, _⟩ := h.dfr _ hm
  cases h1
  exact h.wf.ne_new h2 rfl

theorem exK_spec {R : Type} {rt : Bool} {ids : List Nat} {e : Ex} {k : Ex → Option R} {x : R} (h : exK rt ids e k = some x) : k e = some x := by
  cases e with
  | normal => cases h
  | ret => exact (ifK_some h).2
  | exit id =>
    have : ∀ l, exitK id k l = some x → k (.exit id) = some x := by
      intro l
      induction l with
      | nil => intro h; cases h
      | cons i l ih =>
        intro h
        simp only [exitK] at h
        cases hb : Nat.beq id i with
        | true => rw [hb] at h; rw [Nat.eq_of_beq_eq_true hb]; exact h
        | false => rw [hb] at h; exact ih h
    exact this ids h

theorem stepR_scope {P : Program} {b : Frame} {k : List Item} {cs : List Frame} {c : Code} :
    step P (lone (b.atR a (.code (.scope c) :: k)) cs w) = .next (lone (b.atR a (.code c :: .inScope c :: k)) cs w) :=
  step_lone_go (by simp [stepG, stepG.exec, Frame.atR])
theorem stepR_inScope {P : Program} {b : Frame} {k : List Item} {cs : List Frame} {c : Code} :
    step P (lone (b.atR a (.inScope c :: k)) cs w) = .next (lone (b.atR a k) cs w) :=
  step_lone_go (by simp [stepG, stepG.exec, Frame.atR])
/-- A scope through which the walk goes without a jump to its labels. -/
theorem wpIn_scope {F : Fence} {n : Nat} {P : Program} {Q : Exit → Act → World → Prop} {c : Code} (h : c.wpIn F n P (fun e a w => (∀ l, e ≠ .goto l) ∧ Q e a w) a w) : (Code.scope c).wpIn F n P Q a w := by
  intro b k cs hro hb hr
  have h0 : (lone (b.atR a (.code (.scope c) :: k)) cs w).fenced P F := fenced_calm hb hr rfl
  obtain ⟨e, a₁, w₁, ⟨hng, hq⟩, harr⟩ := h b (.inScope c :: k) cs hro hb hr
  cases e with
  | normal => exact ⟨.normal, a₁, w₁, hq, .head h0 stepR_scope (StepsIn.trans harr (.one (fenced_calm hb hr rfl) stepR_inScope))⟩
  | exit id' =>
    have hx : exitTo id' (.inScope c :: k) = exitTo id' k := by simp [exitTo]
    exact ⟨.exit id', a₁, w₁, hq, fun k' hk => .head h0 stepR_scope (harr.1 k' (by rw [hx]; exact hk)),
      fun hr' hk => let ⟨k₁, h1, h2⟩ := harr.2 hr' (by rw [hx]; exact hk); ⟨k₁, h1, .head h0 stepR_scope h2⟩⟩
  | goto l => exact absurd rfl (hng l)
  | ret => exact ⟨_, a₁, w₁, hq, .of_steps (.one h0 stepR_scope) harr⟩
  | panic ch => exact ⟨_, a₁, w₁, hq, .of_steps (.one h0 stepR_scope) harr⟩
  | outgrown => exact ⟨_, a₁, w₁, hq, .of_steps (.one h0 stepR_scope) harr⟩

theorem exec_ok (hm : G.P.follows .mixedOrders = true) (hC : CallS G.P C) (rd r : Option Nat) (c : Code) : ∀ {R : Type} {s : St} {a : Act} {w : World} {g : Gh} {k : Ex → St → Option R} {x : R} {Q : Exit → Act → World → Prop} (_ : execK G L C f rd c R s k = some x) (_ : SR act hn s a w g) (_ : RD rd g r) (_ : a.defers.Nodup)
    (_ : ∀ e s' a' w' g', k e s' = some x → SR act hn s' a' w' g' → Ext (mine act hn) w g w' g' → (a'.defers.Nodup ∧ a'.tmps.size = a.tmps.size) → Q (exitOf e) a' w'), c.wpIn (Fr r) n G.P Q a w := by
  induction c with
  | skip => intro R s a w g k x Q hx h hr hu hk; exact wpIn_skip (hk _ _ _ _ _ hx h (Ext.refl _ _ _) ⟨hu, rfl⟩)
  | scope c ih =>
    intro R s a w g k x Q hx h hr hu hk
    exact wpIn_scope (ih hx h hr hu fun e s' a' w' g' he h' x' u' => ⟨by cases e <;> simp [exitOf], hk e s' a' w' g' he h' x' u'⟩)
  | label l => intro R s a w g k x Q hx h hr hu hk; exact wpIn_label (hk _ _ _ _ _ hx h (Ext.refl _ _ _) ⟨hu, rfl⟩)
  | exit id => intro R s a w g k x Q hx h hr hu hk; exact wpIn_exit (hk _ _ _ _ _ hx h (Ext.refl _ _ _) ⟨hu, rfl⟩)
  | ret => intro R s a w g k x Q hx h hr hu hk; exact wpIn_ret (hk _ _ _ _ _ hx h (Ext.refl _ _ _) ⟨hu, rfl⟩)
  | region id ops d =>
    intro R s a w g k x Q hx h hr hu hk
    simp only [execK] at hx
    obtain ⟨hc, hx⟩ := ifK_some hx
    simp only [Bool.and_eq_true] at hc
    replace hc := hc.2
    rw [opsK_eq] at hx
    obtain ⟨s1, h1, h2⟩ := bind_some2 hx
    exact region_ok hm hC r h hc h1 fun a' w' g' k1 k2 k3 => hk _ _ _ _ _ h2 k1 k2 ⟨by rw [k3.1]; exact hu, k3.2⟩
  | seq c1 c2 ih1 ih2 =>
    intro R s a w g k x Q hx h hr hu hk
    simp only [execK] at hx
    refine wpIn_seq (ih1 hx h hr hu fun e s' a' w' g' he h' x' u' => ?_)
    cases e with
    | normal => exact ih2 he h' (hr.ext x') u'.1 fun e s'' a'' w'' g'' he' h'' x'' u'' => hk _ _ _ _ _ he' h'' (x'.trans x'') ⟨u''.1, u''.2.trans u'.2⟩
    | exit id => exact hk _ _ _ _ _ he h' x' u'
    | ret => exact hk _ _ _ _ _ he h' x' u'
  | cond c c1 c2 ih1 ih2 =>
    intro R s a w g k x Q hx h hr hu hk
    simp only [execK] at hx
    split at hx
    · rename_i t hc
      have hv := h.evalN hc rfl
      simp only [VR] at hv
      cases t with
      | true => exact wpIn_cond_true hv (ih1 hx h hr hu hk)
      | false => exact wpIn_cond_false hv (ih2 hx h hr hu hk)
    · cases hx
  | block id c ih =>
    intro R s a w g k x Q hx h hr hu hk
    simp only [execK] at hx
    refine wpIn_block (ih hx h hr hu fun e s' a' w' g' he h' x' u' => ?_)
    cases e with
    | normal => exact hk _ _ _ _ _ he (h'.purge _) x' u'
    | exit j =>
      simp only [exitOf, Exit.inBlock]
      simp only at he
      cases hj : Nat.beq j id with
      | true =>
        rw [hj] at he
        rw [if_pos (Nat.eq_of_beq_eq_true hj)]
        exact hk _ _ _ _ _ he (h'.purge _) x' u'
      | false =>
        rw [hj] at he
        rw [if_neg (Nat.ne_of_beq_eq_false hj)]
        exact hk (.exit j) _ _ _ _ he h' x' u'
    | ret => exact hk _ _ _ _ _ he h' x' u'
  | loop c ih =>
    intro R s a w g k x Q hx h hr hu hk
    simp only [execK] at hx
    obtain ⟨p, hp, hx⟩ := bind_some2 hx
    rw [hC.w] at hp
    obtain ⟨N, hN⟩ := iterW_some.1 hp
    let b : St → Option (Ex × St) := fun s => execK G L C f rd c (Ex × St) s fun e s1 => trimK s.h.length (purge (look (firstRegion c) (L.loops f)) s1) fun s2 => some (e, s2)
    let J : Nat → Act → World → Prop := fun m a' w' => ∃ s' g', SR act hn s' a' w' g' ∧ Ext (mine act hn) w g w' g' ∧ (a'.defers.Nodup ∧ a'.tmps.size = a.tmps.size) ∧ s'.h.length = s.h.length ∧ iterN b m s' = some p
    refine wpIn_loop (fun a' w' => ∃ m, J m a' w') (fun a' w' => leastN fun m => J m a' w') ⟨N, Ab.loose (purge (look (firstRegion c) (L.loops f)) s), g, (h.purge _).loose, Ext.refl _ _ _, ⟨hu, rfl⟩, by simp only [Ab.loose, looseH_len]; cases look (firstRegion c) (L.loops f) <;> rfl, hN⟩ ?_
    intro a1 w1 hI
    have hfind : J (leastN fun m => J m a1 w1) a1 w1 := leastN_spec (p := fun m => J m a1 w1) hI
    generalize hmu : (leastN fun m => J m a1 w1) = M at hfind
    obtain ⟨s1, g1, h1, x1, u1, l1, hit⟩ := hfind
    cases M with
    | zero => cases hit
    | succ M =>
      simp only [iterN] at hit
      cases hb : b s1 with
      | none => rw [hb] at hit; cases hit
      | some q =>
        obtain ⟨e1, s2⟩ := q
        rw [hb] at hit
        refine ih (k := fun e s' => trimK s1.h.length (purge (look (firstRegion c) (L.loops f)) s') fun s2 => some (e, s2)) (x := (e1, s2)) hb h1 (hr.ext x1) u1.1 fun e s' a' w' g0 he h'' x'' u'' => ?_
        have u' : a'.defers.Nodup ∧ a'.tmps.size = a.tmps.size := ⟨u''.1, u''.2.trans u1.2⟩
        rw [trimK_eq] at he
        obtain ⟨s3, ht3, he⟩ := bind_some2 he
        cases he
        obtain ⟨t1, t2, g', h', hg'⟩ := (h''.purge (look (firstRegion c) (L.loops f))).trim ht3
        have x' : Ext (mine act hn) w1 g1 w' g' := by
          rcases hg' with rfl | rfl
          · exact x''
          · exact x''.cut (Nat.le_of_eq h1.jl)
        have l2 : s2.h.length = s.h.length := by
          have := x'.jlen
          rw [h1.jl, h'.jl] at this
          omega
        have hpl : (purge (look (firstRegion c) (L.loops f)) s).h.length = s2.h.length := by
          rw [l2]; cases look (firstRegion c) (L.loops f) <;> rfl
        cases e1 with
        | normal =>
          have hJ : J M a' w' := ⟨_, g', h', x1.trans x', u', l2, hit⟩
          refine ⟨⟨M, hJ⟩, ?_⟩
          show (leastN fun m => J m a' w') < M + 1
          exact Nat.lt_succ_of_le (leastN_le (p := fun m => J m a' w') hJ)
        | exit id =>
          cases hit
          have hx2 := exK_spec hx
          rw [likeSt_bind] at hx2
          obtain ⟨s3, hl, hx3⟩ := bind_some2 hx2
          refine hk (.exit id) _ _ _ _ hx3 (h'.like ?_ hpl hl) (x1.trans x') u'
          rw [(h.purge (look (firstRegion c) (L.loops f))).size, h'.size, u'.2]
        | ret =>
          cases hit
          have hx2 := exK_spec hx
          rw [likeSt_bind] at hx2
          obtain ⟨s3, hl, hx3⟩ := bind_some2 hx2
          refine hk .ret _ _ _ _ hx3 (h'.like ?_ hpl hl) (x1.trans x') u'
          rw [(h.purge (look (firstRegion c) (L.loops f))).size, h'.size, u'.2]
  | rangeFunc xo ps as bd ih1 ih2 =>
    intro R s a w g k x Q hx h hr hu hk
    simp only [execK] at hx
    split at hx
    · rename_i q first cap hxo
      obtain ⟨hok, hx⟩ := ifK_some hx
      obtain ⟨res, hres, hx⟩ := bind_some2 hx
      rw [heapK_bind] at hx
      obtain ⟨hh, hhk, hx⟩ := bind_some2 hx
      have hv := h.evalN hxo rfl
      simp only [VR] at hv
      obtain ⟨q', first', cap', hev, hfi, hca, hq⟩ := hv
      subst hq
      obtain ⟨hhas, hcalls⟩ := hC.s _ _ _ _ hres
      -- the record stands: what follows
      obtain ⟨hbl, hx⟩ := ifK_some hx
      have main : ∀ (fn : FuncId) {a1 : Act} {w1 : World} {g1 : Gh} (mark : List Deferred) (D : Nat), SR act hn s a1 w1 g1 → Ext (mine act hn) w g w1 g1 → a1 = { a with defers := mark ++ a.defers } → a1.defers.Nodup →
          (Instr.enterLoop fn a.tmps ps as bd r).run G.P w = .ok (w1.heap.size, mark) (w1.alloc (.loop { state := .ready, pending := none, fn, tmps := a.tmps, params := ps, assign := as, body := bd, defers := D })) →
          ∃ (l : Nat) (mark : List Deferred) (w₁ : World) (d : Deferred) (w₁' : World) (f : FuncId) (args : Array Value) (w₂ : World),
            (Instr.enterLoop fn a.tmps ps as bd (Fr r).round).run G.P w = .ok (l, mark) w₁ ∧
            (resolve a.eval (rangeCall xo l) 0).run G.P w₁ = .ok d w₁' ∧
            (∀ f', Target.leads G.P w₁' d.target d.args = some f' → (Fr r).fn f') ∧
            (invoke d.target d.args).run G.P w₁' = .ok (.enter f args) w₂ ∧
            ((Fr r).depth.isSome = true → 1 ≤ n) ∧
            CallsIn (Fr r) (n - 1) G.P f args w₂ (rangePost (Fr r) n G.P l Q { a with defers := mark ++ a.defers }) := by
        intro fn a1 w1 g1 mark D h1 x1 ha1 hu1 hrun
        have hviews : VRs (s.t.map view) (memOf w1 g1) a.tmps.toList := VRs.mono _ x1.le (VRs_views h)
        obtain ⟨g2, h2, x2, hJ⟩ := h1.allocLoop (f := f) fn hviews ps as bd D
        have x12 := x1.trans x2
        let w2 := w1.alloc (.loop { state := .ready, pending := none, fn, tmps := a.tmps, params := ps, assign := as, body := bd, defers := D })
        have hargs : VRs (first ++ ([V.fn (.yield s.h.length) [] []] ++ cap)) (memOf w2 g2) (first' ++ ([Value.func (.yield w1.heap.size) ⟨[]⟩ ⟨[]⟩] ++ cap')) := by
          refine (VRs.mono _ x12.le hfi).append (VRs.append ?_ (VRs.mono _ x12.le hca))
          simp only [VRs, VR]
          exact ⟨_, [], rfl, ⟨_, [], [], rfl, rfl, rfl, w1.heap.size, hJ, rfl⟩, rfl⟩
        refine ⟨w1.heap.size, mark, w2, { target := .fn (.func q) ⟨cap'⟩, args := ⟨first'⟩ ++ #[.func (.yield w1.heap.size) #[] #[]] }, w2, q, (⟨first'⟩ ++ #[.func (.yield w1.heap.size) #[] #[]]) ++ ⟨cap'⟩, w2, hrun, ?_, fun _ _ => trivial, ?_, fun e => (by cases e), ?_⟩
        · have hcst : ∀ v, a.eval (.const v) = v := fun _ => rfl
          simp [resolve, hev, Deferred.ofValue, hcst]
        · simp only [invoke]
          exact run_callFunc hhas _
        · have hA : ((⟨first'⟩ ++ #[.func (.yield w1.heap.size) #[] #[]]) ++ ⟨cap'⟩ : Array Value) = ⟨first' ++ ([Value.func (.yield w1.heap.size) ⟨[]⟩ ⟨[]⟩] ++ cap')⟩ := by apply Array.ext'; simp
          rw [hA]
          refine (calls_fr (hcalls hn w2 g2 _ h2.HS hargs)).mono fun e w3 he => ?_
          obtain ⟨cc, g30, e1, e2, e30, e4⟩ := he
          subst e1
          obtain ⟨h3, e3⟩ := h2.backCut e2 e30 hhk (Nat.le_refl _) hbl
          have hhl : hh.length = s.h.length + 1 := by rw [(heap_get _ _ hhk).1]; simp
          generalize hg3 : g30.cut hh.length = g3 at h3 e3
          simp only [rangePost]
          split at hx
          · rename_i lp hlp
            rw [hget_eq] at hlp
            obtain ⟨b, lc, k1, k2, k3, k4, k5, k6, k7, k8, k9, k10⟩ := h3.turnLoop hlp
            have hbl : b = w1.heap.size := by
              have := e3.le.J _ _ hJ
              have this2 : g3.J[s.h.length]? = some (w1.heap.size, none) := this
              rw [this2] at k1; cases k1; rfl
            subst hbl
            obtain ⟨pe, hpe, hx⟩ := bind_some2 hx
            have hnb : lp.st ≠ .busy := by intro e; simp only [endOf, e] at hpe; cases hpe
            have hpe2 : pe = lp.pend := by
              unfold endOf at hpe
              split at hpe
              · cases hpe
              · cases hpe; rfl
            subst hpe2
            obtain ⟨k11, k12⟩ := k10 .ready .exhausted lp.pend k9 .dead (.inl rfl)
            have xall : Ext (mine act hn) w g (w3.putObj w1.heap.size (.loop { lc with state := .exhausted, pending := lp.pend.map exCode })) g3 := x12.trans (e3.ofOb.trans k12.ofOb)
            refine ⟨lc.pending, w3.putObj w1.heap.size (.loop { lc with state := .exhausted }), run_endLoop k2 (by rw [k3]; exact hnb), ?_⟩
            have hx' : ∃ e, (match lp.pend with | none => Ex.normal | some e => e) = e ∧ belowObs s.h.length (takeH s.h.length hh) = true ∧ k e ⟨s.t, takeH s.h.length hh⟩ = some x := by
              cases hpd : lp.pend with
              | none => rw [hpd] at hx; exact ⟨_, rfl, ifK_some hx⟩
              | some e => rw [hpd] at hx; simp only [endK] at hx; exact ⟨_, rfl, ifK_some (exK_spec (k := fun e => ifK (belowObs s.h.length (takeH s.h.length hh)) (k e ⟨s.t, takeH s.h.length hh⟩)) hx)⟩
            obtain ⟨e, he, hbo, hx'⟩ := hx'
            have hrec : ({ lc with state := .exhausted, pending := lp.pend.map exCode } : Loop) = { lc with state := .exhausted } := by rw [← k4]
            rw [hrec] at k11 xall
            have htk : takeH s.h.length hh = (hset hh s.h.length .dead).take s.h.length := by rw [takeH_eq, hset_eq, List.take_set_of_le (Nat.le_refl _)]
            have xcut := xall.cut (n := s.h.length) (Nat.le_of_eq h.jl)
            have k13 : SR act hn ⟨s.t, takeH s.h.length hh⟩ a1 (w3.putObj w1.heap.size (.loop { lc with state := .exhausted })) (g3.cut s.h.length) := by
              rw [htk] at hbo ⊢
              refine k11.cut (fun i v c hv hcc => ?_) hbo
              obtain ⟨_, _, ht⟩ := h.tmp i v hv
              have hbv := ht.isBelow
              rw [h.jl] at hbv
              obtain ⟨c', hc', ht'⟩ := k11.tmp i v hv
              rw [hcc] at hc'; cases hc'
              exact ht'.below hbv
            rw [← ha1]
            have fin : ∀ pd : Option Code, pd = lp.pend.map exCode → (match pd with
              | none => Q .normal a1 (w3.putObj w1.heap.size (.loop { lc with state := .exhausted }))
              | some c => c.wpIn (Fr r) n G.P Q a1 (w3.putObj w1.heap.size (.loop { lc with state := .exhausted }))) := by
              intro pd hpd
              subst hpd
              cases hp : lp.pend with
              | none =>
                rw [hp] at he
                subst he
                exact hk .normal _ _ _ _ hx' k13 xcut ⟨hu1, by rw [ha1]⟩
              | some e' =>
                rw [hp] at he k9
                subst he
                exact wpIn_exCode (fun he => k9 (by rw [he])) (hk e' _ _ _ _ hx' k13 xcut ⟨hu1, by rw [ha1]⟩)
            exact fin lc.pending k4
          · cases hx
      refine wpIn_rangeFunc fun fn _ => ?_
      cases hrd : rd with
      | none =>
        rw [hrd] at hr
        have hr' : r = none := hr
        subst hr'
        obtain ⟨m1, m2⟩ := h.allocMark
        exact main fn [{ target := .collected w.heap.size, args := #[] }] w.heap.size m1 m2 rfl (nodup_new h hu rfl) (by rw [run_enterLoop_outer]; simp)
      | some l =>
        rw [hrd] at hr hok
        obtain ⟨b, hr1, hr2⟩ := hr
        subst hr1
        simp only at hok
        have hlp : ∃ lp, s.h[l]? = some (.loop lp) := by
          rw [hget_eq] at hok
          split at hok
          · rename_i lp e; exact ⟨lp, e⟩
          · cases hok
        obtain ⟨lp, hlp⟩ := hlp
        obtain ⟨b', lc, k1, _, k3, _⟩ := h.obj l _ hlp
        rw [hr2] at k1; cases k1
        exact main fn [] lc.defers h (Ext.refl _ _ _) rfl hu (run_enterLoop_in k3 fn a.tmps ps as bd)
    · cases hx
  | _ => intro R s a w g k x Q hx h hr hu hk; simp only [execK] at hx; cases hx

end Go.Ab
