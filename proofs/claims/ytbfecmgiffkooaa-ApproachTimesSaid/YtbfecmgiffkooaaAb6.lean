/- Each operation of the abstract machine is the machine's; conditions: the calls' own. -/
import Derived.Test.YtbfecmgiffkooaaAb5
import Derived.Test.YtbfecmgiffkooaaAb2b
namespace Go.Ab
set_option linter.unusedVariables false
set_option linter.unusedSimpArgs false
variable {act hn : Nat} {s s' : St} {a : Act} {w : World} {g : Gh} {P : Program} {F : Fence} {n : Nat} {o : Oper}

/-- The machine's operation leads where the abstract one does. -/
def Sound (P : Program) (F : Fence) (n : Nat) (act hn : Nat) (s' : St) (a : Act) (w : World) (g : Gh) (o : Oper) : Prop :=
  ∀ (next : Act → World → Prop) (Q : Exit → Act → World → Prop), (∀ a' w' g', SR act hn s' a' w' g' → Ext (mine act hn) w g w' g' → (a'.defers = a.defers ∧ a'.tmps.size = a.tmps.size) → next a' w') →
    o.uponIn F n P a next Q ((execOp a.eval o).run P w)

theorem put_same (a : Act) (d : Option Tmp) (c : Value) : (a.put d c).defers = a.defers ∧ (a.put d c).tmps.size = a.tmps.size := by cases d <;> simp [Act.put]
theorem put_defers (a : Act) (d : Option Tmp) (c : Value) : (a.put d c).defers = a.defers := by cases d <;> rfl

theorem Sound.value {c : Value} {w' : World} {g' : Gh} (hrun : (execOp a.eval o).run P w = .ok (.value c) w') (hs : SR act hn s' (a.put o.dst c) w' g') (he : Ext (mine act hn) w g w' g') : Sound P F n act hn s' a w g o := by
  intro next Q h
  rw [hrun]
  exact h _ _ _ hs he (put_same _ _ _)
theorem Sound.skip {w' : World} {g' : Gh} (hrun : (execOp a.eval o).run P w = .ok .skip w') (hd : o.dst = none) (hs : SR act hn s' a w' g') (he : Ext (mine act hn) w g w' g') : Sound P F n act hn s' a w g o := by
  intro next Q h
  rw [hrun]
  simp only [Oper.uponIn, hd, Act.put_none]
  exact h _ _ _ hs he ⟨rfl, rfl⟩
theorem Sound.pure {c : Value} {v : V} (h : SR act hn s a w g) (hrun : (execOp a.eval o).run P w = .ok (.value c) w) (hv : VR v (memOf w g) c) : Sound P F n act hn (s.put o.dst v) a w g o :=
  Sound.value hrun (h.putV _ hv) (Ext.refl _ _ _)
theorem Sound.pureT {c : Value} {v : V} (h : SR act hn s a w g) (hrun : (execOp a.eval o).run P w = .ok (.value c) w) (hv : ∀ i, o.dst = some i → TR w g act i v c) : Sound P F n act hn (s.put o.dst v) a w g o :=
  Sound.value hrun (h.put _ hv) (Ext.refl _ _ _)

/-- What typeSize tells. -/
theorem typeSize_spec {t : TypeId} {ag : Bool} {m : Nat} (h : typeSize P t = some (ag, m)) :
    ∃ i d, P.info? t = some i ∧ P.underlying t = some d ∧ i.size = m ∧ (match d with | .struct _ | .array .. => ag = true | _ => ag = false) := by
  unfold typeSize at h
  split at h
  · cases h
  · rename_i i hi
    split at h
    · rename_i x hd; cases h; exact ⟨i, _, hi, hd, rfl, rfl⟩
    · rename_i x y hd; cases h; exact ⟨i, _, hi, hd, rfl, rfl⟩
    · rename_i d h1 h2 hd
      cases h
      refine ⟨i, d, hi, hd, rfl, ?_⟩
      cases d <;> first
        | rfl
        | exact absurd rfl (h1 _)
        | exact absurd rfl (h2 _ _)
    · cases h

theorem run_tInfo {t : TypeId} {i : TypeInfo} (h : P.info? t = some i) (w : World) : (typeInfo t).run P w = .ok i w := by
  simp [typeInfo, h]
theorem run_tSize {t : TypeId} {i : TypeInfo} (h : P.info? t = some i) (w : World) : (sizeOf t).run P w = .ok i.size w := by simp [sizeOf, run_tInfo h]
theorem run_tAgg {t : TypeId} {ag : Bool} {m : Nat} (h : typeSize P t = some (ag, m)) (w : World) : (isAgg t).run P w = .ok ag w := by
  obtain ⟨i, d, h1, h2, h3, h4⟩ := typeSize_spec h
  unfold isAgg
  simp only [Sem.run_bind, run_underlying h2, Result.andThen_ok]
  cases d <;> simp_all
theorem run_tSize' {t : TypeId} {ag : Bool} {m : Nat} (h : typeSize P t = some (ag, m)) (w : World) : (sizeOf t).run P w = .ok m w := by
  obtain ⟨i, d, h1, h2, h3, h4⟩ := typeSize_spec h
  rw [run_tSize h1, h3]

theorem sound_move (h : SR act hn s a w g) {x : Operand} (ho : o.op = .move x) : Sound P F n act hn (s.put o.dst (view (getV s x))) a w g o :=
  Sound.pure h (c := a.eval x) (by simp only [execOp, ho]; rfl) (h.evalV x)
theorem sound_assign (h : SR act hn s a w g) {x : Operand} (ho : o.op = .assign x) : Sound P F n act hn (s.put o.dst (view (getV s x))) a w g o :=
  Sound.pure h (c := a.eval x) (by simp only [execOp, ho]; rfl) (h.evalV x)

theorem killadr_id {s : St} (d : Nat) (h : ∀ v ∈ s.t, killadr d v = v) : s.t.map (killadr d) = s.t := List.map_congr_left h |>.trans (List.map_id _)

/-- A variable that gathers elements begins. -/
theorem sound_acc (h : SR act hn s a w g) {x : Operand} (ho : o.op = .assign x) {d : Nat} (hd : o.dst = some d) {fl : Fl} (hfl : fl = .nil ∨ fl = .cap0) (hx : getV s x = .slice fl []) {sz : Nat} (hsz : 0 < sz) :
    Sound P F n act hn ⟨upd s.t d (.arr s.h.length 0 sz), s.h ++ [.arr true sz []]⟩ a w g o := by
  have hv := h.evalN hx rfl
  simp only [VR] at hv
  obtain ⟨ad, cap, h1, h2, h3, h4, _⟩ := hv
  have hcap : cap = 0 := by rcases hfl with rfl | rfl <;> simp at h3 <;> omega
  have hJ : ∀ (id : Nat) (y : Nat × Option Nat), g.J[id]? = some y → (g.J ++ [(0, some 0)])[id]? = some y := fun id y hy => by
    rw [List.getElem?_append_left (List.getElem?_eq_some_iff.1 hy).1]; exact hy
  let g' : Gh := { g with J := g.J ++ [(0, some 0)] }
  have le' : (memOf w g).le (memOf w g') := ⟨fun _ _ _ x => x, fun _ _ x => x, fun id b x => hJ id _ x, fun id b l x => ⟨b, l, hJ id _ x, Nat.le_refl _, fun _ => rfl⟩⟩
  have hs : SR act hn ⟨s.t, s.h ++ [.arr true sz []]⟩ a w g' := by
    refine { wf := ⟨h.wf.new, h.wf.inj, h.wf.nx⟩, size := h.size, tmp := ?_, jl := by simp [g', h.jl], obj := ?_, dfr := h.dfr, an := h.an, hm := h.hm }
    · intro i v hv
      obtain ⟨c, hc, ht⟩ := h.tmp i v hv
      exact ⟨c, hc, ht.frame le' fun _ _ _ => ⟨rfl, rfl, rfl⟩⟩
    · intro id ob hob
      by_cases hid : id < s.h.length
      · rw [List.getElem?_append_left hid] at hob
        refine (h.obj id ob hob).frame ?_ le' fun _ _ => ⟨rfl, rfl, rfl⟩
        exact List.getElem?_append_left (by rw [h.jl]; exact hid)
      · have : id = s.h.length := by
          have := (List.getElem?_eq_some_iff.1 hob).1
          simp at this; omega
        subst this
        simp at hob; subst hob
        exact ⟨0, by simp [g', h.jl], hsz, fun e => absurd rfl e⟩
  refine Sound.value (c := a.eval x) (w' := w) (g' := g') (by simp only [execOp, ho]; rfl) ?_ ⟨Nat.le_refl _, fun _ _ _ => ⟨rfl, rfl, rfl⟩, le', Nat.le_refl _, rfl, rfl, rfl⟩
  rw [hd]
  refine hs.putV (some d) ?_
  simp only [VR]
  refine ⟨ad, cap, 0, 0, ?_, h1, h2, Nat.le_refl _, h4, fun _ => hcap, fun e => absurd rfl e⟩
  show (g.J ++ [(0, some 0)])[s.h.length]? = _
  rw [← h.jl]; simp


theorem zeroCells_spec {t : TypeId} {z : List V} (h : zeroCells P t = some z) (m : Mem) : ∃ i zv, P.info? t = some i ∧ i.zero = some zv ∧ VRl z m zv.cells.toList := by
  unfold zeroCells at h
  split at h
  · rename_i i hi
    split at h
    · rename_i zv hz
      split at h
      · rename_i hall
        cases h
        exact ⟨i, zv, hi, hz, VRl_liftCells hall⟩
      · cases h
    · cases h
  · cases h
theorem run_tZero {t : TypeId} {i : TypeInfo} {z : Value} (h : P.info? t = some i) (hz : i.zero = some z) (w : World) : (zeroValue t).run P w = .ok z w := by
  simp [zeroValue, run_tInfo h, hz]
theorem run_newVar (t : TypeId) (v : Value) (w : World) : (newVar t v).run P w = .ok ⟨w.heap.size, 0, none⟩ (w.alloc (.cells v.cells t)) := by
  simp [newVar, newRow, newObj, Sem.run]

theorem sound_alloc (h : SR act hn s a w g) {t : TypeId} (ho : o.op = .alloc t) {d : Nat} (hd : o.dst = some d) {z : List V} (hz : zeroCells P t = some z) :
    Sound P F n act hn ⟨upd (s.t.map (killadr d)) d (.box z), s.h⟩ a w g o := by
  obtain ⟨i, zv, h1, h2, h3⟩ := zeroCells_spec hz (memOf w g)
  obtain ⟨k1, k2⟩ := h.allocSlot d (cs := zv.cells) t h3
  refine Sound.value (c := .pointer (some ⟨w.heap.size, 0, none⟩)) ?_ (by rw [hd]; exact k1) k2
  simp only [execOp, ho, Instr.alloc]
  simp [run_tZero h1 h2, run_newVar]

theorem okCell_one {v : V} {m : Mem} {c : Value} (h : VR v m c) (hk : okCell v = true) : one c = true := by
  cases v <;> simp only [okCell] at hk <;> first
    | (cases hk; done)
    | (simp only [VR] at h; first
        | (subst h; rfl)
        | (obtain ⟨_, _, rfl⟩ := h; rfl)
        | (obtain ⟨_, rfl, _⟩ := h; rfl)
        | (obtain ⟨_, _, rfl, _⟩ := h; rfl)
        | (obtain ⟨_, _, _, rfl, _⟩ := h; rfl)
        | (obtain ⟨_, _, _, _, _, rfl, _⟩ := h; rfl)
        | (obtain ⟨_, _, _, _, rfl, _⟩ := h; rfl))

theorem okCell_cells {v : V} {m : Mem} {c : Value} (h : VR v m c) (hk : okCell v = true) : c.cells = #[c] := by
  have := okCell_one h hk
  cases c <;> first
    | rfl
    | (simp [one] at this)

/-- The cells that are stored. -/
theorem cellsOf_ok {v : V} {m : Mem} {c : Value} (h : VR (view v) m c) (hne : cellsOf v ≠ [] ∨ ∃ cs, v = .agg cs) : VRl (cellsOf v) m c.cells.toList := by
  unfold cellsOf at hne ⊢
  split
  · rename_i cs
    simp only [view, VR] at h
    obtain ⟨cs', rfl, h2⟩ := h
    exact h2
  · rename_i hno
    split
    · rename_i hk
      have hv : view v = v := by cases v <;> first | rfl | (simp [okCell] at hk)
      rw [hv] at h
      rw [okCell_cells h hk]
      simp only [VRl]
      exact ⟨c, [], rfl, ⟨h, okCell_one h hk⟩, rfl⟩
    · rename_i hk
      exfalso
      rcases hne with hne | ⟨cs, e⟩
      · simp only [hk] at hne; exact hne rfl
      · exact hno cs e

theorem sound_box (h : SR act hn s a w g) {t : TypeId} {x : Operand} (ho : o.op = .box t x) {d : Nat} (hd : o.dst = some d) (hne : cellsOf (getV s x) ≠ [] ∨ ∃ cs, getV s x = .agg cs) :
    Sound P F n act hn ⟨upd (s.t.map (killadr d)) d (.box (cellsOf (getV s x))), s.h⟩ a w g o := by
  have hv := cellsOf_ok (h.evalV x) hne
  obtain ⟨k1, k2⟩ := h.allocSlot d (cs := (a.eval x).cells) t hv
  refine Sound.value (c := .pointer (some ⟨w.heap.size, 0, none⟩)) ?_ (by rw [hd]; exact k1) k2
  simp only [execOp, ho, Instr.box]
  simp [run_newVar]

theorem SR.kill (h : SR act hn s a w g) (d : Nat) : SR act hn ⟨s.t.map (killadr d), s.h⟩ a w g := by
  refine { h with size := by simp [h.size], tmp := fun i u hu => ?_ }
  simp only [killadr_get] at hu
  cases hs : s.t[i]? with
  | none => rw [hs] at hu; cases hu
  | some u' =>
    rw [hs] at hu; simp at hu; subst hu
    obtain ⟨c, hc, ht⟩ := h.tmp i u' hs
    refine ⟨c, hc, ?_⟩
    cases u' with
    | adr j off =>
      simp only [killadr]
      split
      · exact TR.of_VR (by simp only [VR])
      · exact ht
    | _ => exact ht

theorem sound_allocOb (h : SR act hn s a w g) {cells : List V} {cs : Array Value} {t : TypeId} (hrun : (execOp a.eval o).run P w = .ok (.value (.pointer (some ⟨w.heap.size, 0, none⟩))) (w.alloc (.cells cs t))) {d : Nat} (hd : o.dst = some d)
    (hc : VRl cells (memOf w g) cs.toList) :
    Sound P F n act hn ⟨upd (s.t.map (killadr d)) d (.ptr s.h.length 0), s.h ++ [.cells cells]⟩ a w g o := by
  obtain ⟨k1, k2⟩ := (h.kill d).allocOb (o := .cells cs t) (ob := .cells cells) none (by
    intro g' hg' le
    refine ⟨w.heap.size, cs, t, ?_, by rw [hg']; simp [Gh.grab], by rw [hg']; simp [Gh.grab], by rw [alloc_heap, if_pos rfl], VRl.mono _ le hc⟩
    rw [hg']
    show (g.J ++ [(w.heap.size, none)])[s.h.length]? = _
    rw [← h.jl]; simp)
  refine Sound.value hrun ?_ k2
  rw [hd]
  refine k1.putV (some d) ?_
  simp only [VR]
  refine ⟨w.heap.size, ?_, rfl⟩
  show (g.J ++ [(w.heap.size, none)])[s.h.length]? = _
  rw [← h.jl]; simp

/-- An array that gathers elements begins. -/
theorem SR.pushAcc (h : SR act hn s a w g) {sz : Nat} (hsz : 0 < sz) (ok : Owner → Prop) :
    SR act hn ⟨s.t, s.h ++ [.arr true sz []]⟩ a w { g with J := g.J ++ [(0, some 0)] } ∧ Ext ok w g w { g with J := g.J ++ [(0, some 0)] } := by
  have hJ : ∀ (id : Nat) (y : Nat × Option Nat), g.J[id]? = some y → (g.J ++ [(0, some 0)])[id]? = some y := fun id y hy => by
    rw [List.getElem?_append_left (List.getElem?_eq_some_iff.1 hy).1]; exact hy
  have le' : (memOf w g).le (memOf w { g with J := g.J ++ [(0, some 0)] }) := ⟨fun _ _ _ x => x, fun _ _ x => x, fun id b x => hJ id _ x, fun id b l x => ⟨b, l, hJ id _ x, Nat.le_refl _, fun _ => rfl⟩⟩
  refine ⟨{ wf := ⟨h.wf.new, h.wf.inj, h.wf.nx⟩, size := h.size, tmp := ?_, jl := by simp [h.jl], obj := ?_, dfr := h.dfr, an := h.an, hm := h.hm }, ⟨Nat.le_refl _, fun _ _ _ => ⟨rfl, rfl, rfl⟩, le', Nat.le_refl _, rfl, rfl, rfl⟩⟩
  · intro i v hv
    obtain ⟨c, hc, ht⟩ := h.tmp i v hv
    exact ⟨c, hc, ht.frame le' fun _ _ _ => ⟨rfl, rfl, rfl⟩⟩
  · intro id ob hob
    by_cases hid : id < s.h.length
    · rw [List.getElem?_append_left hid] at hob
      refine (h.obj id ob hob).frame ?_ le' fun _ _ => ⟨rfl, rfl, rfl⟩
      exact List.getElem?_append_left (by rw [h.jl]; exact hid)
    · have : id = s.h.length := by
        have := (List.getElem?_eq_some_iff.1 hob).1
        simp at this; omega
      subst this
      simp at hob; subst hob
      exact ⟨0, by simp [h.jl], hsz, fun e => absurd rfl e⟩
theorem sound_accOb (h : SR act hn s a w g) {cs : Array Value} {t : TypeId} (hrun : (execOp a.eval o).run P w = .ok (.value (.pointer (some ⟨w.heap.size, 0, none⟩))) (w.alloc (.cells cs t))) {d : Nat} (hd : o.dst = some d)
    (hc : VRl [.slice .nil []] (memOf w g) cs.toList) {sz : Nat} (hsz : 0 < sz) :
    Sound P F n act hn ⟨upd (s.t.map (killadr d)) d (.ptr (s.h.length + 1) 0), s.h ++ [.arr true sz [], .cells [.arr s.h.length 0 sz]]⟩ a w g o := by
  obtain ⟨k1, k2⟩ := h.pushAcc hsz (mine act hn)
  have := sound_allocOb (F := F) (n := n) k1 (cells := [.arr s.h.length 0 sz]) hrun hd (by
    simp only [VRl] at hc ⊢
    obtain ⟨c, cs', e, ⟨hv, h1⟩, h2⟩ := hc
    refine ⟨c, cs', e, ⟨?_, h1⟩, h2⟩
    simp only [VR] at hv ⊢
    obtain ⟨ad, cap, g1, g2, g3, g4, _⟩ := hv
    refine ⟨ad, cap, 0, 0, ?_, g1, g2, Nat.le_refl _, g4, fun _ => g3.2, fun e => absurd rfl e⟩
    show (g.J ++ [(0, some 0)])[s.h.length]? = _
    rw [← h.jl]; simp)
  intro next Q hk
  refine this next Q fun a' w' g' h1 h2 h3 => hk a' w' g' ?_ (k2.trans h2) h3
  have e1 : ((s.h ++ [Ob.arr true sz []]).length) = s.h.length + 1 := by simp
  have e2 : (s.h ++ [Ob.arr true sz []]) ++ [Ob.cells [.arr s.h.length 0 sz]] = s.h ++ [.arr true sz [], .cells [.arr s.h.length 0 sz]] := by simp
  simp only [e1, e2] at h1
  exact h1

/-! Loads. -/
theorem run_loads {b off : Nat} {cs : List Value} (hcell : ∀ j c, cs[j]? = some c → w.cell? ⟨b, off + j, none⟩ = some c) {t : TypeId} {ag : Bool} {m : Nat} (ht : typeSize P t = some (ag, m)) (hm : if ag then cs.length = m else 0 < cs.length) :
    (loadVar t ⟨b, off, none⟩).run P w = .ok (if ag then .agg cs.toArray else cs.headD Go.undef) w := by
  unfold loadVar
  simp only [Sem.run_bind, run_tAgg ht, Result.andThen_ok]
  cases ag with
  | true =>
    simp only [if_true] at hm ⊢
    have := run_loadCells_list (P := P) w ⟨b, off, none⟩ cs (fun j v hv => by
      have hadd : (⟨b, off, none⟩ : Addr).add j = ⟨b, off + j, none⟩ := by unfold Addr.add; split <;> simp_all
      rw [hadd]; exact hcell j v hv)
    rw [hm] at this
    simp [run_tSize' ht, this]
  | false =>
    simp only [if_false, Bool.false_eq_true] at hm ⊢
    cases cs with
    | nil => simp at hm
    | cons c cs =>
      have hc : w.cell? ⟨b, off, none⟩ = some c := by simpa using hcell 0 c rfl
      simp [load, Sem.run, hc]

theorem part_spec {ag : Bool} {m off : Nat} {cs : List V} {v : V} (h : part ag m cs off = some v) :
    (ag = true ∧ off + m ≤ cs.length ∧ v = .agg ((cs.drop off).take m)) ∨ (ag = true ∧ m = 0 ∧ v = .agg []) ∨ (ag = false ∧ cs[off]? = some v) := by
  unfold part at h
  rw [dropL_eq] at h
  split at h
  · rename_i hd
    split at h
    · rename_i ha
      split at h
      · rename_i hm
        cases h
        exact .inr (.inl ⟨ha, Nat.eq_of_beq_eq_true hm, rfl⟩)
      · cases h
    · cases h
  · rename_i c l hd
    have hl := congrArg List.length hd
    simp at hl
    split at h
    · rename_i ha
      split at h
      · rename_i hm
        cases h
        have hm' := Nat.le_of_ble_eq_true hm
        refine .inl ⟨ha, by omega, ?_⟩
        rw [takeL_eq, hd]
      · cases h
    · rename_i ha
      cases h
      refine .inr (.inr ⟨by simpa using ha, ?_⟩)
      have := congrArg (fun x => x[0]?) hd
      simpa using this

/-- What is read out of cells that stand. -/
theorem part_ok {ag : Bool} {m off : Nat} {cs : List V} {v : V} (h : part ag m cs off = some v) {mm : Mem} {f : Nat → Option Value} (hc : ∀ (j : Nat) (u : V), cs[j]? = some u → ∃ c, f j = some c ∧ VR u mm c ∧ one c = true) :
    ∃ vals : List Value, (∀ j c, vals[j]? = some c → f (off + j) = some c) ∧ (if ag then vals.length = m else 0 < vals.length) ∧ VR v mm (if ag then .agg vals.toArray else vals.headD Go.undef) := by
  rcases part_spec h with ⟨rfl, hlen, rfl⟩ | ⟨rfl, rfl, rfl⟩ | ⟨rfl, hv⟩
  · have hj : ∀ j, j < m → ∃ c, f (off + j) = some c ∧ ∀ u, cs[off + j]? = some u → VR u mm c ∧ one c = true := by
      intro j hjm
      have hlt : off + j < cs.length := by omega
      obtain ⟨c, c1, c2⟩ := hc (off + j) cs[off + j] (List.getElem?_eq_getElem hlt)
      exact ⟨c, c1, fun u hu => by rw [List.getElem?_eq_getElem hlt] at hu; cases hu; exact c2⟩
    let vals : List Value := (List.range m).map fun j => (f (off + j)).getD Go.undef
    have hvals : ∀ j, j < m → vals[j]? = some ((f (off + j)).getD Go.undef) := fun j hjm => by simp [vals, hjm]
    have hvl : vals.length = m := by simp [vals]
    refine ⟨vals, fun j c hjc => ?_, by simpa using hvl, ?_⟩
    · have hjm : j < m := by have := (List.getElem?_eq_some_iff.1 hjc).1; omega
      obtain ⟨c', c1, _⟩ := hj j hjm
      rw [hvals j hjm, c1] at hjc
      cases hjc; exact c1
    · simp only [if_true, VR]
      refine ⟨vals, rfl, VRl.of_get _ (by rw [hvl]; simp; omega) fun j u c hu hcj => ?_⟩
      have hjm : j < m := by have := (List.getElem?_eq_some_iff.1 hcj).1; omega
      obtain ⟨c', c1, c2⟩ := hj j hjm
      rw [hvals j hjm, c1] at hcj
      cases hcj
      refine c2 u ?_
      rw [List.getElem?_take, if_pos hjm, List.getElem?_drop] at hu
      exact hu
  · exact ⟨[], fun j c hj => by simp at hj, by simp, by simp [VR, VRl]⟩
  · obtain ⟨c, c1, c2, _⟩ := hc off v hv
    refine ⟨[c], fun j x hj => ?_, by simp, by simpa using c2⟩
    cases j with
    | zero => simp at hj; subst hj; exact c1
    | succ j => simp at hj


/-! Shapes. -/
theorem VR.any {fl : Fl} {rows : List (List V)} {m : Mem} {c : Value} (h : VR (.slice fl rows) m c) : VR (.slice .any rows) m c := by
  simp only [VR] at h ⊢
  obtain ⟨a, cap, h1, h2, _, h4, h5⟩ := h
  exact ⟨a, cap, h1, h2, trivial, h4, h5⟩
theorem shK_ok {sh : Sh} {v v' : V} (h : shK sh v some = some v') {m : Mem} {c : Value} (hv : VR v m c) : VR v' m c := by
  cases sh with
  | any => simp only [shK] at h; cases h; exact hv
  | bool =>
    simp only [shK] at h
    cases v <;> simp [asBool] at h
    subst h; exact hv
  | int k =>
    simp only [shK] at h
    cases v <;> simp only [asInt, Option.bind_none, reduceCtorEq] at h
    split at h
    · rename_i e; subst e; simp only [Option.bind_some] at h; cases h; exact hv
    · cases h
  | str =>
    simp only [shK] at h
    cases v <;> simp [asStr] at h
    subst h; exact hv
  | slice =>
    simp only [shK] at h
    cases v <;> simp [asRows] at h
    subst h; exact hv.any
theorem shsK_ok {l : List Sh} : ∀ {vs vs' : List V} (_ : shsK l vs some = some vs') {m : Mem} {cs : List Value} (_ : VRl vs m cs), VRl vs' m cs := by
  induction l with
  | nil =>
    intro vs vs' h m cs hv
    simp only [shsK] at h
    cases vs with
    | nil => simp [isNil] at h; subst h; exact hv
    | cons _ _ => simp [isNil] at h
  | cons sh l ih =>
    intro vs vs' h m cs hv
    simp only [shsK] at h
    cases vs with
    | nil => simp [uncons] at h
    | cons u us =>
      simp only [uncons, Option.bind_some] at h
      simp only [VRl] at hv
      obtain ⟨c, cs', rfl, ⟨h2, h4⟩, h3⟩ := hv
      rw [shK_bind] at h
      cases hu : shK sh u some with
      | none => rw [hu] at h; cases h
      | some u' =>
        rw [hu, Option.bind_some, shsK_bind] at h
        cases hus : shsK l us some with
        | none => rw [hus] at h; cases h
        | some us' =>
          rw [hus] at h; cases h
          simp only [VRl]
          exact ⟨c, cs', rfl, ⟨shK_ok hu h2, h4⟩, ih hus h3⟩
theorem shsK_len {l : List Sh} : ∀ {vs vs' : List V} (_ : shsK l vs some = some vs'), vs'.length = l.length ∧ l.length = vs.length := by
  induction l with
  | nil =>
    intro vs vs' h
    simp only [shsK] at h
    cases vs with
    | nil => simp [isNil] at h; subst h; simp
    | cons _ _ => simp [isNil] at h
  | cons sh l ih =>
    intro vs vs' h
    simp only [shsK] at h
    cases vs with
    | nil => simp [uncons] at h
    | cons u us =>
      simp only [uncons, Option.bind_some] at h
      rw [shK_bind] at h
      cases hu : shK sh u some with
      | none => rw [hu] at h; cases h
      | some u' =>
        rw [hu, Option.bind_some, shsK_bind] at h
        cases hus : shsK l us some with
        | none => rw [hus] at h; cases h
        | some us' =>
          rw [hus] at h; cases h
          obtain ⟨g1, g2⟩ := ih hus
          simp; omega
/-- Fixed cells keep standing under their shapes. -/
theorem shsK_okc {l : List Sh} : ∀ {vs vs' : List V} (_ : shsK l vs some = some vs') {m : Mem} {b o : Nat} (_ : VRc vs m b o), VRc vs' m b o := by
  induction l with
  | nil =>
    intro vs vs' h m b o hv
    simp only [shsK] at h
    cases vs with
    | nil => simp [isNil] at h; subst h; exact hv
    | cons _ _ => simp [isNil] at h
  | cons sh l ih =>
    intro vs vs' h m b o hv
    simp only [shsK] at h
    cases vs with
    | nil => simp [uncons] at h
    | cons u us =>
      simp only [uncons, Option.bind_some] at h
      simp only [VRc] at hv
      obtain ⟨⟨c, h1, h2, h4⟩, h3⟩ := hv
      rw [shK_bind] at h
      cases hu : shK sh u some with
      | none => rw [hu] at h; cases h
      | some u' =>
        rw [hu, Option.bind_some, shsK_bind] at h
        cases hus : shsK l us some with
        | none => rw [hus] at h; cases h
        | some us' =>
          rw [hus] at h; cases h
          simp only [VRc]
          exact ⟨⟨c, h1, shK_ok hu h2, h4⟩, ih hus h3⟩

theorem getRow_spec {rows : List (List V)} {i : Int} {sz : Nat} {r : List V} (h : getRow rows i sz = some r) : 0 ≤ i ∧ rows[i.toNat]? = some r ∧ r.length = sz := by
  unfold getRow at h
  split at h
  · rename_i h0
    split at h
    · rename_i r' hr
      split at h
      · rename_i hl; cases h; exact ⟨h0, hr, hl⟩
      · cases h
    · cases h
  · cases h
theorem arrRows_spec {h : List Ob} {id len : Nat} {rows : List (List V)} (e : arrRows h id len = some rows) : ∃ wr sz, h[id]? = some (.arr wr sz rows) ∧ len = rows.length := by
  unfold arrRows at e
  rw [hget_eq] at e
  split at e
  · rename_i wr sz rows' he
    split at e
    · rename_i hl; cases e; exact ⟨wr, sz, he, hl⟩
    · cases e
  · cases e

theorem memOf_cell {b j : Nat} {c : Value} (h : (memOf w g).M b j = some c) : w.cell? ⟨b, j, none⟩ = some c := by
  simp only [memOf] at h
  split at h
  · rw [cell?_eq]; exact h
  · cases h

theorem run_loadAt {t : TypeId} {ad : Addr} {v : Value} (h : (loadVar t ad).run P w = .ok v w) : (Instr.loadAt t (.pointer (some ad))).run P w = .ok v w := by
  simp [Instr.loadAt, Instr.sureAddr, h]

theorem load_ok (h : SR act hn s a w g) {x : Operand} {t : TypeId} {ag : Bool} {m : Nat} (ht : typeSize P t = some (ag, m)) {sh : List Sh} {v : V} (hl : loadK s (getV s x) ag m sh some = some v) :
    ∃ c, (Instr.loadAt t (a.eval x)).run P w = .ok c w ∧ VR v (memOf w g) c := by
  -- a reading out of cells f, the address being off
  have core : ∀ {b base off : Nat} {cells : List V} {f : Nat → Option Value} {mm : Mem} {u : V}, a.eval x = .pointer (some ⟨b, base + off, none⟩) → (∀ j c, f j = some c → w.cell? ⟨b, base + j, none⟩ = some c) →
      (∀ (j : Nat) (y : V), cells[j]? = some y → ∃ c, f j = some c ∧ VR y mm c ∧ one c = true) → part ag m cells off = some u → ∃ c, (Instr.loadAt t (a.eval x)).run P w = .ok c w ∧ VR u mm c := by
    intro b base off cells f mm u he hf hcells hp
    obtain ⟨vals, h1, h2, h3⟩ := part_ok hp hcells
    refine ⟨_, ?_, h3⟩
    rw [he]
    refine run_loadAt ?_
    refine run_loads (cs := vals) (fun j c hj => ?_) ht h2
    have := hf _ _ (h1 j c hj)
    rw [← Nat.add_assoc] at this
    exact this
  have boxc : ∀ {i : Nat} {cs : List V}, nth s.t i = .box cs → ∃ b cells e, a.tmps.getD i Go.undef = .pointer (some ⟨b, 0, none⟩) ∧ g.own b = some (.slot act i) ∧ w.heap[b]? = some (.cells cells e (0, 0)) ∧ VRl cs (memOf w g) cells.toList := by
    intro i cs hi
    have := h.slot i
    rw [hi] at this
    obtain ⟨b, cells, e, h1, h2, _, h4, h5⟩ := this
    exact ⟨b, cells, e, h1, h2, h4, h5⟩
  have fromCells : ∀ {b off : Nat} {cs : List V} {cells : Array Value} {e : TypeId} {u : V}, a.eval x = .pointer (some ⟨b, off, none⟩) → w.heap[b]? = some (.cells cells e (0, 0)) → VRl cs (memOf w g) cells.toList → part ag m cs off = some u →
      ∃ c, (Instr.loadAt t (a.eval x)).run P w = .ok c w ∧ VR u (memOf w g) c := by
    intro b off cs cells e u he hb hv hp
    refine core (b := b) (base := 0) (off := off) (f := fun j => cells[j]?) (mm := memOf w g) (by rw [he]; simp) (fun j c hj => ?_) (fun j y hy => ?_) hp
    · rw [cell?_eq, hb]; simpa [cellAt] using hj
    · obtain ⟨c, c1, c2⟩ := VRl.get _ hv j y hy
      exact ⟨c, by simpa using c1, c2⟩
  cases hx : getV s x with
  | box cs =>
    rw [hx] at hl
    simp only [loadK, bind_some'] at hl
    cases x with
    | tmp i =>
      obtain ⟨b, cells, e, h1, _, h4, h5⟩ := boxc (i := i) (cs := cs) hx
      exact fromCells (off := 0) h1 h4 h5 hl
    | const c =>
      exfalso
      simp only [getV] at hx
      have := VR_liftAgg (memOf w g) c
      rw [hx] at this; simp only [VR] at this
    | func f => simp [getV] at hx
    | global f => simp [getV] at hx
  | adr j off =>
    rw [hx] at hl
    simp only [loadK] at hl
    cases hj : nth s.t j <;> rw [hj] at hl <;> first
      | (cases hl; done)
      | skip
    rename_i cs
    simp only [bind_some'] at hl
    obtain ⟨b, cells, e, h1, h2, h4, h5⟩ := boxc hj
    cases x with
    | tmp i =>
      have ht' := h.slot i
      have hx' : nth s.t i = .adr j off := hx
      rw [hx'] at ht'
      obtain ⟨b', k1, k2⟩ := ht'
      have : b' = b := h.wf.inj _ _ _ k1 h2
      subst this
      exact fromCells (off := off) k2 h4 h5 hl
    | const c =>
      exfalso
      simp only [getV] at hx
      have := VR_liftAgg (memOf w g) c
      rw [hx] at this; simp only [VR] at this
    | func f => simp [getV] at hx
    | global f => simp [getV] at hx
  | rptr row off =>
    have hv := h.evalN hx rfl
    rw [hx] at hl
    simp only [loadK, bind_some'] at hl
    simp only [VR] at hv
    obtain ⟨b, o', h1, h2⟩ := hv
    obtain ⟨c, c1, c2⟩ := core (b := b) (base := o') (off := off) (f := fun j => (memOf w g).alone.M b (o' + j)) (mm := (memOf w g).alone) h1 (fun j c hj => memOf_cell hj) (fun j y hy => VRc.get _ h2 j y hy) hl
    exact ⟨c, c1, VR.beside (m := (memOf w g).alone) _ rfl rfl rfl c2⟩
  | ptr id off =>
    have hv := h.evalN hx rfl
    rw [hx] at hl
    simp only [loadK] at hl
    simp only [VR] at hv
    obtain ⟨b, h1, h2⟩ := hv
    split at hl
    · rename_i cs ho
      rw [hget_eq] at ho
      simp only [bind_some'] at hl
      obtain ⟨b', cells, e, k1, k2, k3, k4, k5⟩ := h.obj id _ ho
      have h1' : g.J[id]? = some (b, none) := h1
      rw [h1'] at k1; cases k1
      exact fromCells (off := off) h2 k4 k5 hl
    · cases hl
  | eptr id len sz i off =>
    have hv := h.evalN hx rfl
    rw [hx] at hl
    simp only [loadK] at hl
    simp only [VR] at hv
    obtain ⟨b, l, ad, h1, h2, h3, h4, h5⟩ := hv
    cases hb : (Nat.beq sh.length m && Nat.blt 0 m) with
    | false => rw [hb] at hl; cases hl
    | true =>
    rw [hb] at hl
    simp only [Bool.and_eq_true] at hb
    have hm0 : 0 < m := Nat.le_of_ble_eq_true hb.2
    simp only [ifK] at hl
    cases hr : arrRows s.h id len with
    | none => rw [hr] at hl; cases hl
    | some rows =>
      rw [hr, Option.bind_some] at hl
      cases hrow : getRow rows i sz with
      | none => rw [hrow] at hl; cases hl
      | some row =>
        rw [hrow, Option.bind_some] at hl
        cases hp : cellsAt row off m with
        | none => rw [hp] at hl; cases hl
        | some us =>
          rw [hp, Option.bind_some, shsK_bind] at hl
          cases hsh : shsK sh us some with
          | none => rw [hsh] at hl; cases hl
          | some us' =>
            rw [hsh, Option.bind_some] at hl
            cases hl
            obtain ⟨wr, sz', ho, hlen⟩ := arrRows_spec hr
            obtain ⟨r1, r2, r3⟩ := getRow_spec hrow
            have hne : rows ≠ [] := by intro e; rw [e] at hlen; simp at hlen; omega
            obtain ⟨b', cells, e, k1, k2, k3, k4, k5, k6⟩ := OR_arr (h.obj id _ ho) hne
            have h1' : g.J[id]? = some (b, some l) := h1
            rw [h1'] at k1; cases k1
            have e2 := h5 (by omega)
            obtain ⟨q1, q2⟩ := k4 _ _ r2
            have hsz : sz' = sz := by omega
            subst hsz
            simp only [Int.toNat_natCast] at q2
            unfold cellsAt at hp
            split at hp
            · rename_i hoff
              cases hp
              have hpart : part true m row off = some (.agg ((row.drop off).take m)) := by
                unfold part
                rw [dropL_eq]
                cases hd : row.drop off with
                | nil =>
                  have := congrArg List.length hd
                  simp at this
                  have : m = 0 := by omega
                  subst this
                  rfl
                | cons y l =>
                  have := congrArg List.length hd
                  simp at this
                  have hble : Nat.ble m (l.length + 1) = true := Nat.ble_eq_true_of_le (by omega)
                  simp only [hble, if_true, takeL_eq]
              obtain ⟨vals, v1, v2, v3⟩ := part_ok (mm := (memOf w g).alone) (f := fun j => cells[i * sz' + j]?) hpart (fun j y hy => by obtain ⟨c, c1, c2⟩ := q2 j y hy; exact ⟨c, by simpa using c1, c2⟩)
              simp only [if_true, VR] at v2 v3
              obtain ⟨cs0, e0, v4⟩ := v3
              cases e0
              have v5 := shsK_ok hsh v4
              have hcell : ∀ j c, vals[j]? = some c → w.cell? ⟨b, i * sz' + off + j, none⟩ = some c := fun j c hj => by
                have := v1 j c hj
                rw [cell?_eq, k3]
                simp only [cellAt]
                rw [← this]; congr 1; omega
              cases ag with
              | true =>
                refine ⟨.agg vals.toArray, ?_, ?_⟩
                · rw [h2, e2]; exact run_loadAt (run_loads hcell ht (by simpa using v2))
                · simp only [mkV]
                  refine VR.beside (m := (memOf w g).alone) _ rfl rfl rfl ?_
                  simp only [VR]
                  exact ⟨vals, rfl, v5⟩
              | false =>
                cases vals with
                | nil =>
                  simp at v2; omega
                | cons c vals =>
                  refine ⟨c, ?_, ?_⟩
                  · rw [h2, e2]
                    have := run_loads (P := P) (cs := c :: vals) hcell ht (by simp)
                    exact run_loadAt (by simpa using this)
                  · cases us' with
                    | nil => simp only [mkV, VR]
                    | cons y ys =>
                      cases ys with
                      | nil =>
                        simp only [mkV]
                        simp only [VRl] at v5
                        obtain ⟨c', cs', e7, ⟨y1, _⟩, _⟩ := v5
                        cases e7
                        exact VR.beside (m := (memOf w g).alone) _ rfl rfl rfl y1
                      | cons _ _ => simp only [mkV, VR]
            · cases hp
  | _ => rw [hx] at hl; simp only [loadK] at hl; cases hl

end Go.Ab
