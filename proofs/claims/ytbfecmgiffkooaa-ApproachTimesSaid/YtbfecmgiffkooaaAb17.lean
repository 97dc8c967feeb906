/- What a call comes to, the program's call comes to; conditions: none. -/
import Derived.Test.YtbfecmgiffkooaaAb16
namespace Go.Ab
set_option linter.unusedVariables false
set_option linter.unusedSimpArgs false
variable {act hn : Nat} {s s' : St} {a : Act} {w : World} {g : Gh} {G : Cfg} {L : Lv} {C : CallT} {f : FuncId} {dr : Bool} {n : Nat} {o : Oper}

theorem VRs_undef (m : Mem) (k : Nat) : VRs (List.replicate k .undef) m (List.replicate k Go.undef) := by
  induction k with
  | zero => simp only [List.replicate, VRs]
  | succ k ih => simp only [List.replicate_succ, VRs]; exact ⟨_, _, rfl, by simp only [VR], ih⟩

/-- A new activation. -/
theorem HS.enter {h : List Ob} (k : HS hn h w g) {t : List V} {tmps : Array Value} (ht : VRs t (memOf w g) tmps.toList) : SR g.nx hn ⟨t, h⟩ { tmps := tmps, defers := [] } w { g with nx := g.nx + 1 } where
  wf := ⟨k.wf.new, k.wf.inj, fun b p hp => Nat.lt_succ_of_lt (k.wf.nx b p hp)⟩
  size := by simpa using VRs.length _ ht
  tmp i v hv := by
    obtain ⟨c, hc, h1⟩ := VRs.get _ ht i v hv
    exact ⟨c, by simpa using hc, TR.of_VR h1⟩
  jl := k.jl
  obj := k.obj
  dfr d hd := by cases hd
  an := Nat.lt_succ_self _
  hm := Nat.lt_succ_of_lt k.hm

theorem Ext.leave {w' : World} {g' : Gh} (wf : WF w g) (e : Ext (mine g.nx hn) w { g with nx := g.nx + 1 } w' g') : Ext (obOf hn) w g w' g' where
  size := e.size
  keep b hb hp := e.keep b hb fun p h1 h2 => by
    have hlt := wf.nx b p h1
    rcases h2 with ⟨i, rfl⟩ | ⟨d, rfl⟩ | ⟨id, rfl⟩
    · exact Nat.lt_irrefl _ hlt
    · exact Nat.lt_irrefl _ hlt
    · exact hp _ h1 ⟨id, rfl⟩
  le := e.le
  nx := Nat.le_trans (Nat.le_succ _) e.nx
  os := e.os
  tape := e.tape
  output := e.output

/-! Results. -/
theorem resV_ok (h : SR act hn s a w g) {x : ResultVar} {v : V} (hv : resV G.P s x = some v) :
    ∃ c, (match x with
      | .tmp t => pure (a.tmps.getD t Go.undef)
      | .cell i t => do loadVar t (← asAddr (a.tmps.getD i Go.undef)) : Sem Value).run G.P w = .ok c w ∧ VR v (memOf w g) c := by
  cases x with
  | tmp i =>
    simp only [resV] at hv
    cases hv
    exact ⟨a.tmps.getD i Go.undef, by simp, (h.slot i).view⟩
  | cell i t =>
    simp only [resV] at hv
    split at hv
    · rename_i ag m ht
      have core : ∀ {b : Nat} {cs : List V} {cells : Array Value} {e : TypeId}, a.tmps.getD i Go.undef = .pointer (some ⟨b, 0, none⟩) → w.heap[b]? = some (.cells cells e (0, 0)) → VRl cs (memOf w g) cells.toList → part ag m cs 0 = some v →
          ∃ c, (do loadVar t (← asAddr (a.tmps.getD i Go.undef)) : Sem Value).run G.P w = .ok c w ∧ VR v (memOf w g) c := by
        intro b cs cells e he hb hcs hp
        obtain ⟨vals, h1, h2, h3⟩ := part_ok (mm := memOf w g) (f := fun j => cells[j]?) hp (fun j y hy => by obtain ⟨c, c1, c2⟩ := VRl.get _ hcs j y hy; exact ⟨c, by simpa using c1, c2⟩)
        refine ⟨_, ?_, h3⟩
        rw [he]
        have := run_loads (P := G.P) (w := w) (b := b) (off := 0) (cs := vals) (fun j c hj => by
          have := h1 j c hj
          rw [cell?_eq, hb]; simpa [cellAt] using this) ht h2
        simp [asAddr, this]
      split at hv
      · rename_i cs hi
        have := h.slot i
        rw [hi] at this
        obtain ⟨b, cells, e, k1, _, _, k4, k5⟩ := this
        exact core k1 k4 k5 hv
      · rename_i id hi
        split at hv
        · rename_i cs ho
          rw [hget_eq] at ho
          have := h.slot i
          rw [hi] at this
          have this : VR (.ptr id 0) (memOf w g) (a.tmps.getD i Go.undef) := this
          simp only [VR] at this
          obtain ⟨b, k1, k2⟩ := this
          obtain ⟨b', cells, e, l1, _, _, l4, l5⟩ := h.obj id _ ho
          have k1' : g.J[id]? = some (b, none) := k1
          rw [k1'] at l1; cases l1
          exact core k2 l4 l5 hv
        · cases hv
      · cases hv
    · cases hv

theorem resVs_ok (h : SR act hn s a w g) : ∀ (l : List ResultVar) {vs : List V} (_ : resVs G.P s l = some vs),
    ∃ cs, (l.mapM (fun x => (match x with
      | .tmp t => pure (a.tmps.getD t Go.undef)
      | .cell i t => do loadVar t (← asAddr (a.tmps.getD i Go.undef)) : Sem Value))).run G.P w = .ok cs w ∧ VRs vs (memOf w g) cs := by
  intro l
  induction l with
  | nil => intro vs hv; cases hv; exact ⟨[], by simp, by simp only [VRs]⟩
  | cons x l ih =>
    intro vs hv
    simp only [resVs] at hv
    obtain ⟨v, h1, hv⟩ := bind_some2 hv
    obtain ⟨vs', h2, hv⟩ := bind_some2 hv
    cases hv
    obtain ⟨c, c1, c2⟩ := resV_ok h h1
    obtain ⟨cs, d1, d2⟩ := ih h2
    refine ⟨c :: cs, ?_, by simp only [VRs]; exact ⟨c, cs, rfl, c2, d2⟩⟩
    rw [List.mapM_cons]
    simp only [Sem.run_bind, c1, d1, Result.andThen_ok, Sem.run_pure]

theorem result_ok (h : SR act hn s a w g) {fn : Func} {v : V} (hv : resultOf G.P fn s = some v) : ∃ c, (results fn a.tmps).run G.P w = .ok c w ∧ VR v (memOf w g) c := by
  unfold resultOf at hv
  obtain ⟨vs, h1, hv⟩ := bind_some2 hv
  obtain ⟨cs, k1, k2⟩ := resVs_ok h _ h1
  have hlen := VRs.length _ k2
  refine ⟨if h : cs.toArray.size = 1 then cs.toArray[0] else .tuple cs.toArray, ?_, ?_⟩
  · unfold results
    rw [Array.mapM_eq_mapM_toList]
    change (((fn.results.toList.mapM (fun x => (match x with
      | .tmp t => pure (a.tmps.getD t Go.undef)
      | .cell i t => do loadVar t (← asAddr (a.tmps.getD i Go.undef)) : Sem Value))) >>= fun l => pure l.toArray) >>= fun vs => pure (if h : vs.size = 1 then vs[0] else .tuple vs) : Sem Value).run G.P w = _
    simp only [Sem.run_bind, k1, Result.andThen_ok, Sem.run_pure]
  · cases vs with
    | nil =>
      cases hv
      simp only [VRs] at k2
      subst k2
      simp [VR, VRs]
    | cons x l =>
      cases l with
      | nil =>
        cases hv
        simp only [VRs] at k2
        obtain ⟨c, _, rfl, h2, rfl⟩ := k2
        simpa using h2
      | cons y l =>
        cases hv
        have : ¬ cs.toArray.size = 1 := by simp at hlen ⊢; omega
        rw [dif_neg this]
        simp only [VR]
        exact ⟨cs, rfl, k2⟩

/-- A mark is shut. -/
theorem SR.shut (h : SR act hn s { a with defers := [] } w g) {D : Nat} (h1 : g.own D = some (.mark act D)) (h2 : w.heap[D]? = some (.deferred (some []))) :
    SR act hn s { a with defers := [] } (w.putObj D (.deferred none)) g ∧ Ext (mine act hn) w g (w.putObj D (.deferred none)) g := by
  have le' : (memOf w g).le (memOf (w.putObj D (.deferred none)) g) := by
    refine ⟨fun x j c hx => ?_, fun x n hx => ?_, fun _ _ x => x, fun _ b l x => ⟨b, l, x, Nat.le_refl _, fun _ => rfl⟩⟩
    · simp only [memOf] at hx ⊢
      by_cases e : x = D
      · subst e; rw [h2] at hx; simp [cellAt] at hx
      · rw [World.putObj_heap_other e]; exact hx
    · simp only [memOf] at hx ⊢
      by_cases e : x = D
      · subst e; rw [h2] at hx; simp [sizeAt] at hx
      · rw [World.putObj_heap_other e]; exact hx
  have keep : ∀ x p, g.own x = some p → p ≠ .mark act D → (w.putObj D (.deferred none)).heap[x]? = w.heap[x]? ∧ g.own x = g.own x ∧ g.K x = g.K x := by
    intro x p hp hne
    refine ⟨World.putObj_heap_other (fun e => ?_), rfl, rfl⟩
    subst e; rw [h1] at hp; cases hp; exact hne rfl
  refine ⟨{ wf := ⟨fun x hx => h.wf.new x (by simpa using hx), h.wf.inj, h.wf.nx⟩, size := h.size, tmp := fun i v hv => ?_, jl := h.jl, obj := fun id ob e => ?_, dfr := fun d hd => (by cases hd), an := h.an, hm := h.hm },
    ⟨by simp, fun x _ hp => ⟨World.putObj_heap_other (fun e => by subst e; exact hp _ h1 (.inr (.inl ⟨_, rfl⟩))), rfl, rfl⟩, le', Nat.le_refl _, rfl, rfl, rfl⟩⟩
  · obtain ⟨c, hc, ht⟩ := h.tmp i v hv
    exact ⟨c, hc, ht.frame le' fun b j e => keep b _ e (by intro e; cases e)⟩
  · exact (h.obj id ob e).frame rfl le' fun b e => keep b _ e (by intro e; cases e)

theorem leaves_ok {fn : Func} {R : Ending → World → Prop} : ∀ (ds : List Deferred) {w : World} (_ : SR act hn s { a with defers := [] } w g) (_ : ∀ d ∈ ds, ∃ D, d = { target := .collected D, args := #[] } ∧ g.own D = some (.mark act D) ∧ w.heap[D]? = some (.deferred (some [])))
    (_ : ds.Nodup) (_ : ∀ w', SR act hn s { a with defers := [] } w' g → Ext (mine act hn) w g w' g → LeavesIn (Fr none) n G.P fn a.tmps R [] .returning w'), LeavesInM (Fr none) n G.P fn a.tmps R ds .returning w := by
  intro ds
  induction ds with
  | nil => intro w h hd hu hk; exact hk w h (Ext.refl _ _ _)
  | cons d ds ih =>
    intro w h hd hu hk
    obtain ⟨D, rfl, h1, h2⟩ := hd d (by simp)
    obtain ⟨k1, k2⟩ := h.shut h1 h2
    refine ⟨by simp, .inl ⟨D, _, rfl, run_takeDeferred h2, ?_⟩⟩
    refine ih k1 (fun d' hd' => ?_) (List.nodup_cons.1 hu).2 fun w' l1 l2 => hk w' l1 (k2.trans l2)
    obtain ⟨D', rfl, h3, h4⟩ := hd d' (by simp [hd'])
    refine ⟨D', rfl, h3, ?_⟩
    rw [World.putObj_heap_other, h4]
    intro e; subst e
    exact (List.nodup_cons.1 hu).1 hd'

/-- A result is read out. -/
theorem ret_ok (h : SR act hn s a w g) {v : V} {r : V × List Ob} (hr : retK s.h v (fun v h => some (v, h)) = some r) {c : Value} (hv : VR v (memOf w g) c) :
    ∃ g', SR act hn ⟨s.t, r.2⟩ a w g' ∧ Ext (obOf hn) w g w g' ∧ VR r.1 (memOf w g') c := by
  unfold retK at hr
  split at hr
  · rw [normK1_bind] at hr
    obtain ⟨u, hu, hr⟩ := bind_some2 hr
    cases hr
    obtain ⟨g', f1, f2⟩ := fix1_ok h hu hv
    exact ⟨g', f1.sr, f1.ext, VR.beside (m := (memOf w g').alone) (m' := memOf w g') _ rfl rfl rfl f2⟩
  · cases hr
    exact ⟨g, h, Ext.refl _ _ _, hv⟩

/-- A function. -/
theorem func_ok (hm : G.P.follows .mixedOrders = true) (hC : CallS G.P C) {fn : Func} (hf : G.P.funcs[f]? = some fn) {args : List V} {h : List Ob} {r : V × List Ob} (hr : runF G L C f fn args h = some r) : CallR G.P (.func f) args h r := by
  unfold runF at hr
  split at hr
  · rename_i c hb
    obtain ⟨hc, hr⟩ := ifK_some hr
    simp only [Bool.and_eq_true] at hc
    refine ⟨⟨fn, hf, by rw [hb]; rfl, by simpa using hc.1⟩, fun hn w g cs hs ha => ?_⟩
    have hle : args.length ≤ fn.ntmps := Nat.le_of_ble_eq_true hc.2
    have hlen := VRs.length _ ha
    refine fr_calls (n := 0) (callsIn_of_wp_marks (F := Fr none) hf hb trivial ?_)
    have hs2 := HS.enter hs (t := args ++ List.replicate (fn.ntmps - args.length) .undef) (tmps := (⟨cs⟩ : Array Value) ++ Array.replicate (fn.ntmps - (⟨cs⟩ : Array Value).size) Go.undef) (by
      have e1 : ((⟨cs⟩ : Array Value) ++ Array.replicate (fn.ntmps - (⟨cs⟩ : Array Value).size) Go.undef).toList = cs ++ List.replicate (fn.ntmps - args.length) Go.undef := by simp [hlen]
      rw [e1]
      exact ha.append (VRs_undef _ _))
    refine exec_ok hm hC none none c hr hs2 rfl List.nodup_nil fun e s' a' w' g' he h' x' u' => ?_
    have fin : e = .normal ∨ e = .ret → LeavesInM (Fr none) 0 G.P fn a'.tmps (Ended hn w g r) a'.defers .returning w' := by
      intro hee
      have he2 : (resultOf G.P fn s').bind (fun v => retK s'.h v fun v h => some (v, h)) = some r := by rcases hee with rfl | rfl <;> exact he
      obtain ⟨v, hv, he3⟩ := bind_some2 he2
      refine leaves_ok (act := g.nx) (hn := hn) (s := s') (g := g') a'.defers { h' with dfr := fun d hd => (by cases hd) } h'.dfr u'.1 fun w'' h'' x'' => ?_
      obtain ⟨c, c1, c2⟩ := result_ok (G := G) h'' hv
      obtain ⟨g3, f1, f2⟩ := ret_ok h'' he3 c2
      exact ⟨c, c1, c, g3, rfl, f1.HS, Ext.leave hs.wf ((x'.trans x'').trans f2.1.ofOb), f2.2⟩
    cases e with
    | normal => exact fin (.inl rfl)
    | ret => exact fin (.inr rfl)
    | exit id => cases he
  · cases hr

theorem setPs_ok : ∀ (ps : List Nat) (args : List V) {t t' : List V} (_ : setPs ps args t = some t') {m : Mem} {tmps : Array Value} (_ : VRs t m tmps.toList) {cs : List Value} (_ : VRs args m cs),
    ps.length = args.length ∧ VRs t' m ((ps.zip cs).foldl (fun tmps (x : Nat × Value) => tmps.setIfInBounds x.1 x.2) tmps).toList := by
  intro ps
  induction ps with
  | nil =>
    intro args t t' h m tmps ht cs ha
    cases args with
    | nil => simp only [setPs] at h; cases h; simp only [VRs] at ha; subst ha; exact ⟨rfl, by simpa using ht⟩
    | cons _ _ => cases h
  | cons p ps ih =>
    intro args t t' h m tmps ht cs ha
    cases args with
    | nil => cases h
    | cons v vs =>
      simp only [setPs] at h
      simp only [VRs] at ha
      obtain ⟨c, cs', rfl, h1, h2⟩ := ha
      obtain ⟨k1, k2⟩ := ih vs h (tmps := tmps.setIfInBounds p c) (m := m) (by
        have hl := VRs.length _ ht
        have : ∀ (l : List V) (p : Nat) (ds : List Value), VRs l m ds → VRs (upd l p v) m (ds.set p c) := by
          intro l
          induction l with
          | nil => intro p ds hd; simp only [VRs] at hd; subst hd; simp [upd, VRs]
          | cons u l ihl =>
            intro p ds hd
            simp only [VRs] at hd
            obtain ⟨d, ds', rfl, hd1, hd2⟩ := hd
            cases p with
            | zero => simp only [upd, List.set_cons_zero, VRs]; exact ⟨c, ds', rfl, h1, hd2⟩
            | succ p => simp only [upd, List.set_cons_succ, VRs]; exact ⟨d, ds'.set p c, rfl, hd1, ihl p ds' hd2⟩
        rw [Array.toList_setIfInBounds]
        exact this _ _ _ ht) h2
      exact ⟨by simp [k1], by simpa using k2⟩

/-- A round. -/
theorem round_ok (hm : G.P.follows .mixedOrders = true) (hC : CallS G.P C) {id : Nat} {args : List V} {h : List Ob} {r : V × List Ob} (hr : runY G L C id args h = some r) : CallR G.P (.yield id) args h r := by
  unfold runY at hr
  split at hr
  · rename_i lp hlp
    rw [hget_eq] at hlp
    obtain ⟨t, ht, hr⟩ := bind_some2 hr
    have hlen : lp.ps.length = args.length := by
      have : ∀ (ps : List Nat) (args : List V) (t t' : List V), setPs ps args t = some t' → ps.length = args.length := by
        intro ps
        induction ps with
        | nil => intro args t t' h; cases args with | nil => rfl | cons _ _ => cases h
        | cons p ps ih => intro args t t' h; cases args with | nil => cases h | cons v vs => simp only [setPs] at h; simp [ih _ _ _ h]
      exact this _ _ _ _ ht
    refine ⟨lp, hlp, hlen, fun hn w g cs b lc hs ha hJ hb => ?_⟩
    obtain ⟨b', lc', k1, k2, k4, k5, k6, k7, k8, k9, k10, k11⟩ := hs.obj id _ hlp
    rw [hJ] at k1; cases k1
    rw [hb] at k4; cases k4
    have hps := (setPs_ok lp.ps args ht (tmps := lc.tmps) (VRs.mono _ (Mem.cut_le _ _) k10) ha).2
    have hfold : (lc.params.zip ⟨cs⟩).foldl (fun tmps (t, a) => tmps.setIfInBounds t a) lc.tmps = (lp.ps.zip cs).foldl (fun tmps (x : Nat × Value) => tmps.setIfInBounds x.1 x.2) lc.tmps := by
      rw [← Array.foldl_toList, Array.toList_zip, k7]
    rw [hfold]
    have hs2 := HS.enter hs hps
    refine roundIn_of_wpIn (F := Fence.wide) trivial ?_
    rw [k8, k9]
    refine exec_ok (G := G) (L := L) (f := lp.fn) hm hC (some id) (some b) lp.assign hr hs2 ⟨b, rfl, hJ⟩ List.nodup_nil fun e s' a' w' g' he h' x' u' => ?_
    cases e with
    | exit _ => cases he
    | ret => cases he
    | normal =>
      simp only at he
      split at he
      · rename_i lp1 hlp1
        rw [hget_eq] at hlp1
        obtain ⟨_, hst, he⟩ := bind_some2 he
        have hst : lp1.st = .ready := by cases hq : lp1.st <;> rw [hq] at hst <;> first | rfl | cases hst
        · obtain ⟨b1, lc1, l1, l2, l3, l4, l5, l6, l7, l8, l9, l10⟩ := h'.turnLoop hlp1
          have hJ' : g'.J[id]? = some (b, none) := x'.le.J _ _ hJ
          rw [hJ'] at l1; cases l1
          obtain ⟨m1, m2⟩ := l10 .busy .busy lp1.pend l9 (.loop { lp1 with st := .busy }) (.inr ⟨rfl, rfl⟩)
          have hrec : ({ lc1 with state := .busy, pending := lp1.pend.map exCode } : Loop) = { lc1 with state := .busy } := by rw [← l4]
          rw [hrec] at m1 m2
          refine ⟨_, run_beginRound l2 (by rw [l3]; exact hst), ?_⟩
          have x2 := x'.trans m2.ofOb
          refine exec_ok (G := G) (L := L) (f := lp.fn) hm hC (some id) (some b) lp.body he m1 ⟨b, rfl, hJ'⟩ u'.1 fun e s2 a2 w2 g2 he2 h2 x3 u2 => ?_
          split at he2
          · rename_i lp2 hlp2
            rw [hget_eq] at hlp2
            obtain ⟨_, hst2, he2⟩ := bind_some2 he2
            have hst2 : lp2.st = .busy := by cases hq : lp2.st <;> rw [hq] at hst2 <;> first | rfl | cases hst2
            · obtain ⟨b2, lc2, n1, n2, n3, n4, n5, n6, n7, n8, n9, n10⟩ := h2.turnLoop hlp2
              have hJ2 : g2.J[id]? = some (b, none) := x3.le.J _ _ hJ'
              rw [hJ2] at n1; cases n1
              cases e with
              | normal =>
                cases he2
                obtain ⟨q1, q2⟩ := n10 .ready .ready none (by simp) _ (.inr ⟨rfl, rfl⟩)
                refine ⟨_, _, run_endRound none n2, _, g2, rfl, q1.HS, Ext.leave hs.wf (x2.trans (x3.trans q2.ofOb)), ?_⟩
                simp only [VR, Option.isNone_none]
              | exit j =>
                cases he2
                obtain ⟨q1, q2⟩ := n10 .done .done (some (.exit j)) (by simp) _ (.inr ⟨rfl, rfl⟩)
                refine ⟨_, _, run_endRound (some (.exit j)) n2, _, g2, rfl, q1.HS, Ext.leave hs.wf (x2.trans (x3.trans q2.ofOb)), ?_⟩
                simp only [VR, Option.isNone_some]
              | ret =>
                cases he2
                obtain ⟨q1, q2⟩ := n10 .done .done (some .ret) (by simp) _ (.inr ⟨rfl, rfl⟩)
                refine ⟨_, _, run_endRound (some .ret) n2, _, g2, rfl, q1.HS, Ext.leave hs.wf (x2.trans (x3.trans q2.ofOb)), ?_⟩
                simp only [VR, Option.isNone_some]
          · cases he2
      · cases he
  · cases hr

/-- A call by value out of a call. -/
theorem pure_ok {P : Program} {q : Fn} {args : List V} {r : V × List Ob} {v : V} (h : CallR P q args [] r) (hn : normResK r.2 r.1 some = some v) : PureR P q args v := by
  cases q with
  | func f =>
    obtain ⟨hhas, hc⟩ := h
    refine ⟨f, rfl, hhas, fun w g cs wf ha => ?_⟩
    let g1 : Gh := { g with J := [], nx := g.nx + 1 }
    have hs : HS g.nx [] w g1 :=
      { wf := ⟨wf.new, wf.inj, fun b p hp => Nat.lt_succ_of_lt (wf.nx b p hp)⟩, size := rfl, tmp := fun i v e => (by simp at e), jl := rfl, obj := fun id ob e => (by simp at e), dfr := fun d hd => (by simp at hd), an := Nat.succ_pos _, hm := Nat.lt_succ_self _ }
    have := hc g.nx w g1 cs hs ha
    intro ks
    obtain ⟨e, w', fr, ⟨c, g2, e1, e2, e3, e4⟩, rest⟩ := this ks
    refine ⟨e, w', fr, ?_, rest⟩
    obtain ⟨h', g3, f1, f2⟩ := fixRes_ok e2 hn e4
    have x : Ext (obOf g.nx) w g1 w' g3 := e3.trans f1.ext
    refine ⟨c, { g3 with J := g.J }, e1, ⟨f1.sr.wf.new, f1.sr.wf.inj, f1.sr.wf.nx⟩, rfl, ⟨x.size, fun b hb hp => ?_, ⟨x.le.M, x.le.Z, fun _ _ x => x, fun _ b l x => ⟨b, l, x, Nat.le_refl _, fun _ => rfl⟩⟩, Nat.le_trans (Nat.le_succ _) x.nx, x.os, x.tape, x.output⟩, f2⟩
    refine x.keep b hb fun p h1 h2 => ?_
    obtain ⟨id, rfl⟩ := h2
    exact Nat.lt_irrefl _ (wf.nx b _ h1)
  | yield id => obtain ⟨lp, h1, _⟩ := h; simp at h1
  | _ => exact h.elim

theorem run1_ok (hm : G.P.follows .mixedOrders = true) (hC : CallS G.P C) {q : Fn} {args : List V} {h : List Ob} {r : V × List Ob} (hr : run1 G L C q args h = some r) : CallR G.P q args h r := by
  unfold run1 at hr
  split at hr
  · split at hr
    · rename_i fn hf; exact func_ok hm hC hf hr
    · cases hr
  · exact round_ok hm hC hr
  · cases hr

/-- **What a call comes to, the program's call comes to.** -/
theorem bs_ok (hm : G.P.follows .mixedOrders = true) {q : Fn} {args : List V} {h : List Ob} {r : V × List Ob} (b : BS G L q args h r) : CallR G.P q args h r := by
  induction b with
  | mk C rp q args h r hw hs hp hn hr ihs ihp => exact run1_ok hm ⟨hw, fun q args h r e => ihs q args h r e, fun q args v e => pure_ok (ihp q args v e) (hn q args v e)⟩ hr

end Go.Ab
