/- The abstract state and the machine's world beside it; how both turn together; conditions: none. -/
import Derived.Test.YtbfecmgiffkooaaAb3
import Derived.Laws.Tables
import Derived.Laws.CopyRow
namespace Go.Ab
set_option linter.unusedVariables false
set_option linter.unusedSimpArgs false

/-- Who may write to a block: an activation's slot; an activation's mark; a shared object. -/
inductive Owner where
  | slot (a i : Nat)
  | mark (a d : Nat)
  | ob (h id : Nat)
  deriving DecidableEq
def Owner.name : Owner → Nat
  | .slot a _ => a
  | .mark a _ => a
  | .ob h _ => h

structure Gh where
  K : Nat → Nat
  own : Nat → Option Owner
  J : List (Nat × Option Nat)
  nx : Nat

def cellAt (o : Option Obj) (j : Nat) : Option Value :=
  match o with
  | some (.cells c _ _) => c[j]?
  | _ => none
def sizeAt (o : Option Obj) : Option Nat :=
  match o with
  | some (.cells c _ (0, 0)) => some c.size
  | _ => none
theorem cell?_eq (w : World) (b j : Nat) : w.cell? ⟨b, j, none⟩ = cellAt w.heap[b]? j := by
  unfold World.cell? cellAt
  cases h : w.heap[b]? with
  | none => rfl
  | some o => cases o <;> rfl

def memOf (w : World) (g : Gh) : Mem where
  M b j := if g.own b = none ∨ j < g.K b then cellAt w.heap[b]? j else none
  Z b := sizeAt w.heap[b]?
  J := g.J

structure WF (w : World) (g : Gh) : Prop where
  new : ∀ b, w.heap.size ≤ b → g.own b = none
  inj : ∀ b b' p, g.own b = some p → g.own b' = some p → b = b'
  nx : ∀ b p, g.own b = some p → p.name < g.nx

def exCode : Ex → Code
  | .normal => .skip
  | .exit id => .exit id
  | .ret => .ret

/-- A shared object stands in memory. -/
def OR (w : World) (g : Gh) (hn id : Nat) : Ob → Prop
  | .cells cs => ∃ b cells e, g.J[id]? = some (b, none) ∧ g.own b = some (.ob hn id) ∧ g.K b = 0 ∧ w.heap[b]? = some (.cells cells e (0, 0)) ∧ VRl cs (memOf w g) cells.toList
  | .arr wr sz rows => ∃ b, g.J[id]? = some (b, some rows.length) ∧ 0 < sz ∧ (rows ≠ [] → ∃ cells e, g.own b = some (.ob hn id) ∧ w.heap[b]? = some (.cells cells e (0, 0)) ∧
      (∀ (i : Nat) (r : List V), rows[i]? = some r → r.length = sz ∧ ∀ (j : Nat) (v : V), r[j]? = some v → ∃ c, cells[i * sz + j]? = some c ∧ VR v (memOf w g).alone c ∧ one c = true) ∧
      g.K b ≤ rows.length * sz ∧ (wr = true → g.K b = 0))
  | .loop lp => ∃ b lc, g.J[id]? = some (b, none) ∧ g.own b = some (.ob hn id) ∧ w.heap[b]? = some (.loop lc) ∧ lc.state = lp.st ∧ lc.pending = lp.pend.map exCode ∧
      lc.params.toList = lp.ps ∧ lc.assign = lp.assign ∧ lc.body = lp.body ∧ VRs lp.t ((memOf w g).cut id) lc.tmps.toList ∧ lp.pend ≠ some .normal
  | .dead => True

/-- A slot's value. -/
def TR (w : World) (g : Gh) (act i : Nat) (v : V) (c : Value) : Prop :=
  match v with
  | .box cells => ∃ b cs e, c = .pointer (some ⟨b, 0, none⟩) ∧ g.own b = some (.slot act i) ∧ g.K b = 0 ∧ w.heap[b]? = some (.cells cs e (0, 0)) ∧ VRl cells (memOf w g) cs.toList
  | .adr j off => ∃ b, g.own b = some (.slot act j) ∧ c = .pointer (some ⟨b, off, none⟩)
  | v => VR v (memOf w g) c

def mine (act hn : Nat) (p : Owner) : Prop := (∃ i, p = .slot act i) ∨ (∃ d, p = .mark act d) ∨ ∃ id, p = .ob hn id

structure SR (act hn : Nat) (s : St) (a : Act) (w : World) (g : Gh) : Prop where
  wf : WF w g
  size : s.t.length = a.tmps.size
  tmp : ∀ (i : Nat) (v : V), s.t[i]? = some v → ∃ c, a.tmps[i]? = some c ∧ TR w g act i v c
  jl : g.J.length = s.h.length
  obj : ∀ (id : Nat) (ob : Ob), s.h[id]? = some ob → OR w g hn id ob
  dfr : ∀ d ∈ a.defers, ∃ D, d = { target := .collected D, args := #[] } ∧ g.own D = some (.mark act D) ∧ w.heap[D]? = some (.deferred (some []))
  an : act < g.nx
  hm : hn < g.nx

/-- What a run may have turned: blocks whose owners are ok, and new ones. -/
structure Ext (ok : Owner → Prop) (w : World) (g : Gh) (w' : World) (g' : Gh) : Prop where
  size : w.heap.size ≤ w'.heap.size
  keep : ∀ b, b < w.heap.size → (∀ p, g.own b = some p → ¬ ok p) → w'.heap[b]? = w.heap[b]? ∧ g'.own b = g.own b ∧ g'.K b = g.K b
  le : (memOf w g).le (memOf w' g')
  nx : g.nx ≤ g'.nx
  os : w'.os = w.os
  tape : w'.tape = w.tape
  output : w'.output = w.output

theorem Ext.refl (ok : Owner → Prop) (w : World) (g : Gh) : Ext ok w g w g := ⟨Nat.le_refl _, fun _ _ _ => ⟨rfl, rfl, rfl⟩, Mem.le.refl _, Nat.le_refl _, rfl, rfl, rfl⟩
theorem Ext.trans {ok : Owner → Prop} {w w1 w2 : World} {g g1 g2 : Gh} (h : Ext ok w g w1 g1) (k : Ext ok w1 g1 w2 g2) : Ext ok w g w2 g2 :=
  ⟨Nat.le_trans h.size k.size, fun b hb hp => by
    obtain ⟨e1, e2, e3⟩ := h.keep b hb hp
    obtain ⟨k1, k2, k3⟩ := k.keep b (Nat.lt_of_lt_of_le hb h.size) (fun p e => hp p (e2 ▸ e))
    exact ⟨k1.trans e1, k2.trans e2, k3.trans e3⟩, h.le.trans k.le, Nat.le_trans h.nx k.nx, k.os.trans h.os, k.tape.trans h.tape, k.output.trans h.output⟩
theorem Ext.weaken {ok ok' : Owner → Prop} {w w1 : World} {g g1 : Gh} (h : Ext ok w g w1 g1) (hk : ∀ p, ok p → ok' p) : Ext ok' w g w1 g1 :=
  ⟨h.size, fun b hb hp => h.keep b hb fun p e k => hp p e (hk p k), h.le, h.nx, h.os, h.tape, h.output⟩

/-! Slots. -/
theorem nth_get (l : List V) (i : Nat) : nth l i = (l[i]?).getD .undef := by
  induction l generalizing i with
  | nil => rfl
  | cons x l ih => cases i with
    | zero => rfl
    | succ i => simpa [nth] using ih i
theorem upd_get (l : List V) (i j : Nat) (v : V) : (upd l i v)[j]? = if j = i then (l[j]?).map (fun _ => v) else l[j]? := by
  induction l generalizing i j with
  | nil => simp [upd]
  | cons x l ih =>
    cases i with
    | zero => cases j with
      | zero => simp [upd]
      | succ j => simp [upd]
    | succ i => cases j with
      | zero => simp [upd]
      | succ j => simp only [upd, List.getElem?_cons_succ, ih]; simp
theorem upd_length (l : List V) (i : Nat) (v : V) : (upd l i v).length = l.length := by
  induction l generalizing i with
  | nil => rfl
  | cons x l ih => cases i with
    | zero => rfl
    | succ i => simp [upd, ih]
theorem hget_eq (l : List Ob) (i : Nat) : hget l i = l[i]? := by
  induction l generalizing i with
  | nil => rfl
  | cons x l ih => cases i with
    | zero => rfl
    | succ i => simpa [hget] using ih i
theorem hset_eq (l : List Ob) (i : Nat) (o : Ob) : hset l i o = l.set i o := by
  induction l generalizing i with
  | nil => rfl
  | cons x l ih => cases i with
    | zero => rfl
    | succ i => simp [hset, ih]
theorem lmem_iff (n : Nat) (l : List Nat) : lmem n l = true ↔ n ∈ l := by
  induction l with
  | nil => simp [lmem]
  | cons m l ih =>
    simp only [lmem, List.mem_cons]
    cases h : Nat.beq n m with
    | true => have := Nat.eq_of_beq_eq_true h; simp [this]
    | false => simp [ih, Nat.ne_of_beq_eq_false h]
theorem takeL_eq (n : Nat) (l : List V) : takeL n l = l.take n := by
  induction n generalizing l with
  | zero => rfl
  | succ n ih => cases l with
    | nil => rfl
    | cons v l => simp [takeL, ih]
theorem dropL_eq (n : Nat) (l : List V) : dropL n l = l.drop n := by
  induction n generalizing l with
  | zero => rfl
  | succ n ih => cases l with
    | nil => rfl
    | cons v l => simp [dropL, ih]

/-! Values. -/
theorem TR.of_VR {w : World} {g : Gh} {act i : Nat} {v : V} {c : Value} (h : VR v (memOf w g) c) : TR w g act i v c := by
  cases v <;> first
    | exact h
    | (simp only [VR] at h)
theorem TR.view {w : World} {g : Gh} {act i : Nat} {v : V} {c : Value} (h : TR w g act i v c) : VR (view v) (memOf w g) c := by
  cases v <;> first
    | exact h
    | (simp only [Ab.view, VR])
theorem VR.view {m : Mem} {v : V} {c : Value} (h : VR v m c) : VR (view v) m c := by
  cases v <;> first
    | exact h
    | (simp only [Ab.view, VR])
theorem TR.VR {w : World} {g : Gh} {act i : Nat} {v : V} {c : Value} (h : TR w g act i v c) (h1 : ∀ cs, v ≠ .box cs) (h2 : ∀ j o, v ≠ .adr j o) : VR v (memOf w g) c := by
  cases v <;> first
    | exact h
    | exact absurd rfl (h1 _)
    | exact absurd rfl (h2 _ _)

variable {act hn : Nat} {s : St} {a : Act} {w : World} {g : Gh}

theorem SR.slot (h : SR act hn s a w g) (i : Nat) : TR w g act i (nth s.t i) (a.tmps.getD i Go.undef) := by
  rw [nth_get]
  cases hv : s.t[i]? with
  | none => exact TR.of_VR (by simp only [Option.getD_none, Ab.VR])
  | some v =>
    obtain ⟨c, hc, ht⟩ := h.tmp i v hv
    simpa [Array.getD_eq_getD_getElem?, hc] using ht

theorem VR_lift (m : Mem) (c : Value) : VR (lift c) m c := by
  unfold lift
  split <;> (try simp only [VR]) <;> try trivial
  · exact ⟨none, 0, rfl, Nat.le_refl _, ⟨rfl, rfl⟩, fun _ => rfl, fun h => absurd rfl h⟩
  · rename_i f
    split
    · simp only [VR, VRs]
      exact ⟨_, [], [], rfl, rfl, rfl, rfl⟩
    · simp only [VR]
theorem VRl_lift (m : Mem) : ∀ (cs : List Value), cs.all one = true → VRl (cs.map lift) m cs
  | [], _ => by simp only [List.map_nil, VRl]
  | c :: cs, h => by
    simp only [List.all_cons, Bool.and_eq_true] at h
    simp only [List.map_cons, VRl]
    exact ⟨c, cs, rfl, ⟨VR_lift m c, h.1⟩, VRl_lift m cs h.2⟩

theorem VR_liftAgg (m : Mem) (c : Value) : VR (liftAgg c) m c := by
  unfold liftAgg
  split
  · split
    · rename_i h
      simp only [VR]
      exact ⟨_, rfl, VRl_lift m _ h⟩
    · simp only [VR]
  · exact VR_lift m c
theorem VRl_liftCells {m : Mem} {z : Value} (h : z.cells.toList.all one = true) : VRl (liftCells z) m z.cells.toList := by
  unfold liftCells
  split
  · rename_i cs
    exact VRl_lift m cs (by simpa [Value.cells] using h)
  · rename_i hz
    have e : z.cells = #[z] := by
      cases z <;> first
        | rfl
        | exact absurd rfl (hz _)
    rw [e] at h ⊢
    simp only [List.all_cons, List.all_nil, Bool.and_true] at h
    simp only [VRl]
    exact ⟨z, [], rfl, ⟨VR_lift m z, h⟩, rfl⟩

theorem SR.evalT (h : SR act hn s a w g) (i : Nat) : TR w g act i (getV s (.tmp i)) (a.eval (.tmp i)) := h.slot i
theorem SR.evalV (h : SR act hn s a w g) (x : Operand) : VR (view (getV s x)) (memOf w g) (a.eval x) := by
  cases x with
  | tmp i => exact (h.slot i).view
  | const v => exact (VR_liftAgg _ v).view
  | func f => simp only [getV, view, VR, VRs, Act.eval]; exact ⟨_, [], [], rfl, rfl, rfl, rfl⟩
  | global n => simp only [getV, view, VR]
theorem SR.evalN (h : SR act hn s a w g) {x : Operand} {v : V} (e : getV s x = v) (h1 : view v = v) : VR v (memOf w g) (a.eval x) := by
  have := h.evalV x
  rwa [e, h1] at this

theorem Act.put_none (a : Act) (c : Value) : a.put none c = a := rfl

/-- What abides beside blocks that aren't the walk's own. -/
theorem OR.frame {id : Nat} {ob : Ob} {w' : World} {g' : Gh} (h : OR w g hn id ob) (hJ : g'.J[id]? = g.J[id]?) (le : (memOf w g).le (memOf w' g'))
    (hb : ∀ b, g.own b = some (.ob hn id) → w'.heap[b]? = w.heap[b]? ∧ g'.own b = g.own b ∧ g'.K b = g.K b) : OR w' g' hn id ob := by
  cases ob with
  | dead => trivial
  | cells cs =>
    obtain ⟨b, cells, e, h1, h2, h3, h4, h5⟩ := h
    obtain ⟨k1, k2, k3⟩ := hb b h2
    exact ⟨b, cells, e, by rw [hJ, h1], by rw [k2, h2], by rw [k3, h3], by rw [k1, h4], VRl.mono _ le h5⟩
  | arr wr sz rows =>
    obtain ⟨b, h1, h0, h2⟩ := h
    refine ⟨b, by rw [hJ, h1], h0, fun hr => ?_⟩
    obtain ⟨cells, e, g1, g2, g3, g4, g5⟩ := h2 hr
    obtain ⟨k1, k2, k3⟩ := hb b g1
    exact ⟨cells, e, by rw [k2, g1], by rw [k1, g2], fun i r hi => ⟨(g3 i r hi).1, fun j v hv => by
      obtain ⟨c, c1, c2, c3⟩ := (g3 i r hi).2 j v hv
      exact ⟨c, c1, VR.mono _ le.alone c2, c3⟩⟩, by rw [k3]; exact g4, by rw [k3]; exact g5⟩
  | loop lp =>
    obtain ⟨b, lc, h1, h2, h4, h5, h6, h7, h8, h9, h10, h11⟩ := h
    obtain ⟨k1, k2, k3⟩ := hb b h2
    exact ⟨b, lc, by rw [hJ, h1], by rw [k2, h2], by rw [k1, h4], h5, h6, h7, h8, h9, VRs.mono _ (le.cut id) h10, h11⟩

theorem TR.frame {i : Nat} {v : V} {c : Value} {w' : World} {g' : Gh} (h : TR w g act i v c) (le : (memOf w g).le (memOf w' g'))
    (hb : ∀ b j, g.own b = some (.slot act j) → w'.heap[b]? = w.heap[b]? ∧ g'.own b = g.own b ∧ g'.K b = g.K b) : TR w' g' act i v c := by
  cases v with
  | box cells =>
    obtain ⟨b, cs, e, h1, h2, h3, h4, h5⟩ := h
    obtain ⟨k1, k2, k3⟩ := hb b _ h2
    exact ⟨b, cs, e, h1, by rw [k2, h2], by rw [k3, h3], by rw [k1, h4], VRl.mono _ le h5⟩
  | adr j off =>
    obtain ⟨b, h1, h2⟩ := h
    obtain ⟨k1, k2, k3⟩ := hb b _ h1
    exact ⟨b, by rw [k2, h1], h2⟩
  | _ => exact VR.mono _ le h

theorem SR.frame {w' : World} {g' : Gh} (h : SR act hn s a w g) (wf : WF w' g') (hJ : g'.J = g.J) (le : (memOf w g).le (memOf w' g'))
    (hb : ∀ b p, g.own b = some p → mine act hn p → w'.heap[b]? = w.heap[b]? ∧ g'.own b = g.own b ∧ g'.K b = g.K b) (nx : g.nx ≤ g'.nx) : SR act hn s a w' g' where
  wf := wf
  size := h.size
  tmp i v hv := by
    obtain ⟨c, hc, ht⟩ := h.tmp i v hv
    exact ⟨c, hc, ht.frame le fun b j e => hb b _ e (.inl ⟨j, rfl⟩)⟩
  jl := by rw [hJ]; exact h.jl
  obj id ob e := (h.obj id ob e).frame (by rw [hJ]) le fun b e => hb b _ e (.inr (.inr ⟨id, rfl⟩))
  dfr d hd := by
    obtain ⟨D, h1, h2, h3⟩ := h.dfr d hd
    obtain ⟨k1, k2, _⟩ := hb D _ h2 (.inr (.inl ⟨D, rfl⟩))
    exact ⟨D, h1, by rw [k2, h2], by rw [k1, h3]⟩
  an := Nat.lt_of_lt_of_le h.an nx
  hm := Nat.lt_of_lt_of_le h.hm nx

/-- The first n objects are kept. -/
def Gh.cut (g : Gh) (n : Nat) : Gh := { g with J := g.J.take n }
theorem memOf_cut (w : World) (g : Gh) (n : Nat) : memOf w (g.cut n) = (memOf w g).cut n := rfl
theorem takeH_eq (n : Nat) (h : List Ob) : takeH n h = h.take n := by
  induction n generalizing h with
  | zero => rfl
  | succ n ih => cases h with
    | nil => rfl
    | cons o l => simp [takeH, ih]
theorem belowObs_get {n : Nat} : ∀ {h : List Ob} (_ : belowObs n h = true) {id : Nat} {cs : List V} (_ : h[id]? = some (.cells cs)), belows n cs = true
  | [], _, id, cs, e => by simp at e
  | .cells ds :: l, hb, id, cs, e => by
    simp only [belowObs, Bool.and_eq_true] at hb
    cases id with
    | zero => simp at e; subst e; exact hb.1
    | succ id => exact belowObs_get hb.2 (by simpa using e)
  | .arr _ _ _ :: l, hb, id, cs, e => by
    simp only [belowObs] at hb
    cases id with
    | zero => simp at e
    | succ id => exact belowObs_get hb (by simpa using e)
  | .loop _ :: l, hb, id, cs, e => by
    simp only [belowObs] at hb
    cases id with
    | zero => simp at e
    | succ id => exact belowObs_get hb (by simpa using e)
  | .dead :: l, hb, id, cs, e => by
    simp only [belowObs] at hb
    cases id with
    | zero => simp at e
    | succ id => exact belowObs_get hb (by simpa using e)
theorem OR.cut {n id : Nat} {ob : Ob} (h : OR w g hn id ob) (hid : id < n) (hb : ∀ cs, ob = .cells cs → belows n cs = true) : OR w (g.cut n) hn id ob := by
  have e : ((g.cut n).J)[id]? = g.J[id]? := Mem.cut_get (memOf w g) hid
  cases ob with
  | dead => trivial
  | cells cs =>
    obtain ⟨b, cells, ty, h1, h2, h3, h4, h5⟩ := h
    exact ⟨b, cells, ty, by rw [e, h1], h2, h3, h4, VRl.below _ (hb _ rfl) h5⟩
  | arr wr sz rows =>
    obtain ⟨b, h1, h2⟩ := h
    exact ⟨b, by rw [e, h1], h2⟩
  | loop lp =>
    obtain ⟨b, lc, h1, h2, h4, h5, h6, h7, h8, h9, h10, h11⟩ := h
    refine ⟨b, lc, by rw [e, h1], h2, h4, h5, h6, h7, h8, h9, ?_, h11⟩
    rw [memOf_cut, Mem.cut_cut _ (Nat.le_of_lt hid)]; exact h10
theorem SR.cut (h : SR act hn s a w g) {n : Nat} (hs : ∀ (i : Nat) (v : V) (c : Value), s.t[i]? = some v → a.tmps[i]? = some c → TR w (g.cut n) act i v c) (ho : belowObs n (s.h.take n) = true) : SR act hn ⟨s.t, s.h.take n⟩ a w (g.cut n) where
  wf := ⟨h.wf.new, h.wf.inj, h.wf.nx⟩
  size := h.size
  tmp i v hv := by
    obtain ⟨c, hc, _⟩ := h.tmp i v hv
    exact ⟨c, hc, hs i v c hv hc⟩
  jl := by simp [Gh.cut, h.jl]
  obj id ob e := by
    have e0 := e
    simp only [List.getElem?_take] at e
    split at e
    · rename_i hid; exact (h.obj id ob e).cut hid fun cs hc => by subst hc; exact belowObs_get ho e0
    · cases e
  dfr := h.dfr
  an := h.an
  hm := h.hm
theorem TR.below {i n : Nat} {v : V} {c : Value} (hb : below n v = true) (h : TR w g act i v c) : TR w (g.cut n) act i v c := by
  cases v with
  | box cells =>
    obtain ⟨b, cs, e, h1, h2, h3, h4, h5⟩ := h
    exact ⟨b, cs, e, h1, h2, h3, h4, VRl.below _ (by simpa only [Ab.below] using hb) h5⟩
  | adr j off => exact h
  | _ => exact VR.below (m := memOf w g) (c := c) _ hb h
theorem TR.isBelow {i : Nat} {v : V} {c : Value} (h : TR w g act i v c) : Ab.below g.J.length v = true := by
  cases v with
  | box cells =>
    obtain ⟨b, cs, e, h1, h2, h3, h4, h5⟩ := h
    simp only [Ab.below]; exact VRl.isBelow _ h5
  | adr j off => rfl
  | _ => exact VR.isBelow (m := memOf w g) (c := c) _ h
theorem belows_get {n : Nat} : ∀ {l : List V} (_ : belows n l = true) {i : Nat} {v : V} (_ : l[i]? = some v), below n v = true
  | [], _, i, v, e => by simp at e
  | u :: l, hb, i, v, e => by
    simp only [belows, Bool.and_eq_true] at hb
    cases i with
    | zero => simp at e; subst e; exact hb.1
    | succ i => exact belows_get hb.2 (by simpa using e)
theorem SR.trim (h : SR act hn s a w g) {n : Nat} {s' : St} (hk : trimK n s some = some s') : s'.t = s.t ∧ s'.h.length ≤ n ∧ ∃ g', SR act hn s' a w g' ∧ (g' = g ∨ g' = g.cut n) := by
  unfold trimK at hk
  cases hb : Nat.ble s.h.length n with
  | true =>
    rw [hb] at hk; cases hk
    exact ⟨rfl, Nat.le_of_ble_eq_true hb, g, h, .inl rfl⟩
  | false =>
    rw [hb] at hk
    simp only at hk
    split at hk
    · rename_i hc
      simp only [Bool.and_eq_true, takeH_eq] at hc
      cases hk
      rw [takeH_eq]
      refine ⟨rfl, by simp; omega, _, h.cut (fun i v c hv hcc => ?_) hc.2, .inr rfl⟩
      obtain ⟨c', hc', ht⟩ := h.tmp i v hv
      rw [hcc] at hc'; cases hc'
      exact ht.below (belows_get hc.1 hv)
    · cases hk
theorem trimK_eq {R : Type} (n : Nat) (s : St) (k : St → Option R) : trimK n s k = (trimK n s some).bind k := by
  unfold trimK
  split
  · rfl
  · split <;> rfl
/-- What is told of the first n objects. -/
theorem Ext.cut {ok : Owner → Prop} {w' : World} {g' : Gh} (h : Ext ok w g w' g') {n : Nat} (hn : g.J.length ≤ n) : Ext ok w g w' (g'.cut n) where
  size := h.size
  keep := h.keep
  le := by
    have := h.le.cut n
    rwa [Mem.cut_all _ hn] at this
  nx := h.nx
  os := h.os
  tape := h.tape
  output := h.output

theorem Ext.jlen {ok : Owner → Prop} {w' : World} {g' : Gh} (h : Ext ok w g w' g') : g.J.length ≤ g'.J.length := by
  apply Nat.le_of_not_lt
  intro hlt
  have hg : g.J[g'.J.length]? = some g.J[g'.J.length] := List.getElem?_eq_getElem hlt
  have hn : g'.J[g'.J.length]? = none := by simp
  rcases hx : g.J[g'.J.length] with ⟨b, _ | l⟩
  · rw [hx] at hg
    have := h.le.J _ _ hg
    have this : g'.J[g'.J.length]? = some (b, none) := this
    rw [hn] at this; cases this
  · rw [hx] at hg
    obtain ⟨b', l', this, _⟩ := h.le.L _ _ _ hg
    have this : g'.J[g'.J.length]? = some (b', some l') := this
    rw [hn] at this; cases this

theorem put_tmps (a : Act) (d : Nat) (c : Value) (i : Nat) : (a.put (some d) c).tmps[i]? = if i = d then (a.tmps[i]?).map (fun _ => c) else a.tmps[i]? := by
  simp only [Act.put, Array.getElem?_setIfInBounds]
  by_cases e : d = i
  · subst e
    by_cases hd : d < a.tmps.size
    · simp [hd]
    · simp [hd]
  · have e' : ¬ i = d := fun h => e h.symm
    simp [e, e']

/-- A value is laid into a slot. -/
theorem SR.put (h : SR act hn s a w g) (d : Option Nat) {v : V} {c : Value} (hv : ∀ i, d = some i → TR w g act i v c) : SR act hn (s.put d v) (a.put d c) w g := by
  cases d with
  | none => exact h
  | some d =>
    refine { h with size := ?_, tmp := ?_ }
    · simp only [St.put, upd_length, Act.put, Array.size_setIfInBounds]; exact h.size
    · intro i u hu
      simp only [St.put, upd_get] at hu
      rw [put_tmps]
      by_cases e : i = d
      · subst e
        simp only [if_true] at hu ⊢
        cases hs : s.t[i]? with
        | none => rw [hs] at hu; cases hu
        | some u' =>
          rw [hs] at hu
          cases hu
          obtain ⟨c', hc', _⟩ := h.tmp i u' hs
          exact ⟨c, by rw [hc']; rfl, hv i rfl⟩
      · rw [if_neg e] at hu ⊢
        exact h.tmp i u hu
theorem SR.putV (h : SR act hn s a w g) (d : Option Nat) {v : V} {c : Value} (hv : VR v (memOf w g) c) : SR act hn (s.put d v) (a.put d c) w g := h.put d fun _ _ => TR.of_VR hv

/-! The world turns. -/
def Gh.grab (g : Gh) (b : Nat) (p : Owner) : Gh :=
  { g with own := fun x => if x = b then some p else if g.own x = some p then none else g.own x, K := fun x => if x = b then 0 else g.K x }

theorem alloc_heap (w : World) (o : Obj) (b : Nat) : (w.alloc o).heap[b]? = if b = w.heap.size then some o else w.heap[b]? := by
  show (w.heap.push o)[b]? = _
  rw [Array.getElem?_push]

theorem WF.grab (wf : WF w g) (o : Obj) (p : Owner) (hp : p.name < g.nx) (J : List (Nat × Option Nat)) : WF (w.alloc o) { g.grab w.heap.size p with J := J } where
  new b hb := by
    have hb' : w.heap.size + 1 ≤ b := by simpa [World.size_alloc] using hb
    have h1 : b ≠ w.heap.size := by omega
    simp only [Gh.grab, h1, if_false, wf.new b (by omega)]
    simp
  inj b b' q h1 h2 := by
    simp only [Gh.grab] at h1 h2
    by_cases e1 : b = w.heap.size
    · by_cases e2 : b' = w.heap.size
      · omega
      · simp only [e1, if_true, e2, if_false] at h1 h2
        split at h2
        · cases h2
        · rename_i hne; cases h1; exact absurd h2 hne
    · by_cases e2 : b' = w.heap.size
      · simp only [e1, if_false, e2, if_true] at h1 h2
        split at h1
        · cases h1
        · rename_i hne; cases h2; exact absurd h1 hne
      · simp only [e1, e2, if_false] at h1 h2
        split at h1
        · cases h1
        · split at h2
          · cases h2
          · exact wf.inj b b' q h1 h2
  nx b q h1 := by
    simp only [Gh.grab] at h1 ⊢
    split at h1
    · cases h1; exact hp
    · split at h1
      · cases h1
      · exact wf.nx b q h1

theorem le_grab (wf : WF w g) (o : Obj) (p : Owner) (J : List (Nat × Option Nat)) (hJ : ∀ (id : Nat) (x : Nat × Option Nat), g.J[id]? = some x → J[id]? = some x) :
    (memOf w g).le (memOf (w.alloc o) { g.grab w.heap.size p with J := J }) where
  M b j c h := by
    simp only [memOf, Gh.grab] at h ⊢
    rw [alloc_heap]
    split at h
    · rename_i hc
      have hne : b ≠ w.heap.size := by
        intro e
        rw [e] at h
        have : w.heap[w.heap.size]? = none := by simp
        rw [this] at h; simp [cellAt] at h
      simp only [hne, if_false]
      rw [if_pos, h]
      rcases hc with hc | hc
      · left; simp [hc]
      · right; exact hc
    · cases h
  Z b n h := by
    simp only [memOf] at h ⊢
    rw [alloc_heap]
    split
    · rename_i e; rw [e] at h; simp [sizeAt] at h
    · exact h
  J id b h := hJ id _ h
  L id b l h := ⟨b, l, hJ id _ h, Nat.le_refl _, fun _ => rfl⟩

theorem Ext.grab (wf : WF w g) (o : Obj) (p : Owner) (ok : Owner → Prop) (hok : ok p) (J : List (Nat × Option Nat)) (hJ : ∀ (id : Nat) (x : Nat × Option Nat), g.J[id]? = some x → J[id]? = some x) :
    Ext ok w g (w.alloc o) { g.grab w.heap.size p with J := J } where
  size := by simp
  keep b hb hp := by
    have hne : b ≠ w.heap.size := by omega
    refine ⟨by rw [alloc_heap, if_neg hne], ?_, by simp [Gh.grab, hne]⟩
    simp only [Gh.grab, hne, if_false]
    split
    · rename_i e; exact absurd hok (hp p e)
    · rfl
  le := le_grab wf o p J hJ
  nx := Nat.le_refl _
  os := rfl
  tape := rfl
  output := rfl

theorem killadr_get (l : List V) (d i : Nat) : (l.map (killadr d))[i]? = (l[i]?).map (killadr d) := by simp

/-- A local variable is laid. -/
theorem SR.allocSlot (h : SR act hn s a w g) (d : Nat) {cells : List V} {cs : Array Value} (e : TypeId) (hc : VRl cells (memOf w g) cs.toList) :
    SR act hn ⟨upd (s.t.map (killadr d)) d (.box cells), s.h⟩ (a.put (some d) (.pointer (some ⟨w.heap.size, 0, none⟩))) (w.alloc (.cells cs e)) (g.grab w.heap.size (.slot act d)) ∧
    Ext (mine act hn) w g (w.alloc (.cells cs e)) (g.grab w.heap.size (.slot act d)) := by
  have wf' : WF (w.alloc (.cells cs e)) (g.grab w.heap.size (.slot act d)) := h.wf.grab _ (.slot act d) h.an g.J
  have le' : (memOf w g).le (memOf (w.alloc (.cells cs e)) (g.grab w.heap.size (.slot act d))) := le_grab h.wf _ _ g.J fun _ _ x => x
  have hlt : ∀ b p, g.own b = some p → b ≠ w.heap.size := fun b p hp e => by rw [h.wf.new b (by omega)] at hp; cases hp
  have keep : ∀ b p, g.own b = some p → p ≠ .slot act d → (w.alloc (.cells cs e)).heap[b]? = w.heap[b]? ∧ (g.grab w.heap.size (.slot act d)).own b = g.own b ∧ (g.grab w.heap.size (.slot act d)).K b = g.K b := by
    intro b p hp hne
    have h1 := hlt b p hp
    refine ⟨by rw [alloc_heap, if_neg h1], ?_, by simp [Gh.grab, h1]⟩
    have h2 : ¬ g.own b = some (.slot act d) := by rw [hp]; intro e; cases e; exact hne rfl
    simp only [Gh.grab, h1, if_false, h2]
  refine ⟨?_, Ext.grab h.wf _ _ _ (.inl ⟨d, rfl⟩) g.J fun _ _ x => x⟩
  refine { wf := wf', size := ?_, tmp := ?_, jl := h.jl, obj := ?_, dfr := ?_, an := h.an, hm := h.hm }
  · simp only [upd_length, List.length_map, Act.put, Array.size_setIfInBounds]; exact h.size
  · intro i u hu
    rw [put_tmps]
    simp only [upd_get, killadr_get] at hu
    by_cases hid : i = d
    · subst hid
      simp only [if_true] at hu ⊢
      cases hs : s.t[i]? with
      | none => rw [hs] at hu; cases hu
      | some u' =>
        rw [hs] at hu
        simp at hu; subst hu
        obtain ⟨c', hc', _⟩ := h.tmp i u' hs
        refine ⟨_, by rw [hc']; rfl, w.heap.size, cs, e, rfl, by simp [Gh.grab], by simp [Gh.grab], by rw [alloc_heap, if_pos rfl], VRl.mono _ le' hc⟩
    · rw [if_neg hid] at hu ⊢
      cases hs : s.t[i]? with
      | none => rw [hs] at hu; cases hu
      | some u' =>
        rw [hs] at hu
        simp at hu; subst hu
        obtain ⟨c', hc', ht⟩ := h.tmp i u' hs
        refine ⟨c', hc', ?_⟩
        cases u' with
        | adr j off =>
          simp only [killadr]
          cases hj : Nat.beq d j with
          | true => simp only [if_true]; exact TR.of_VR (by simp only [VR])
          | false =>
            simp only [if_false, Bool.false_eq_true]
            have hjd : j ≠ d := fun e => Nat.ne_of_beq_eq_false hj e.symm
            obtain ⟨b, h1, h2⟩ := ht
            exact ⟨b, by rw [(keep b _ h1 (by intro e; cases e; exact hjd rfl)).2.1, h1], h2⟩
        | box cells' =>
          obtain ⟨b, cs', e', h1, h2, h3, h4, h5⟩ := ht
          obtain ⟨k1, k2, k3⟩ := keep b _ h2 (by intro e; cases e; exact hid rfl)
          exact ⟨b, cs', e', h1, by rw [k2, h2], by rw [k3, h3], by rw [k1, h4], VRl.mono _ le' h5⟩
        | _ => exact VR.mono _ le' ht
  · intro id ob ho
    exact (h.obj id ob ho).frame rfl le' fun b hb => keep b _ hb (by intro e; cases e)
  · intro x hx
    obtain ⟨D, h1, h2, h3⟩ := h.dfr x hx
    obtain ⟨k1, k2, _⟩ := keep D _ h2 (by intro e; cases e)
    exact ⟨D, h1, by rw [k2, h2], by rw [k1, h3]⟩

/-- A shared object is laid; nothing is laid into slots. -/
theorem SR.allocOb (h : SR act hn s a w g) {o : Obj} {ob : Ob} (len : Option Nat)
    (ho : ∀ g', g' = { g.grab w.heap.size (.ob hn s.h.length) with J := g.J ++ [(w.heap.size, len)] } → (memOf w g).le (memOf (w.alloc o) g') → OR (w.alloc o) g' hn s.h.length ob) :
    SR act hn ⟨s.t, s.h ++ [ob]⟩ a (w.alloc o) { g.grab w.heap.size (.ob hn s.h.length) with J := g.J ++ [(w.heap.size, len)] } ∧
    Ext (mine act hn) w g (w.alloc o) { g.grab w.heap.size (.ob hn s.h.length) with J := g.J ++ [(w.heap.size, len)] } := by
  have hJ : ∀ (id : Nat) (x : Nat × Option Nat), g.J[id]? = some x → (g.J ++ [(w.heap.size, len)])[id]? = some x := fun id x hx => by
    rw [List.getElem?_append_left (List.getElem?_eq_some_iff.1 hx).1]; exact hx
  have wf' := h.wf.grab o (.ob hn s.h.length) h.hm (g.J ++ [(w.heap.size, len)])
  have le' := le_grab h.wf o (.ob hn s.h.length) (g.J ++ [(w.heap.size, len)]) hJ
  have hlt : ∀ b p, g.own b = some p → b ≠ w.heap.size := fun b p hp e => by rw [h.wf.new b (by omega)] at hp; cases hp
  have keep : ∀ b p, g.own b = some p → p ≠ .ob hn s.h.length → (w.alloc o).heap[b]? = w.heap[b]? ∧ (g.grab w.heap.size (.ob hn s.h.length)).own b = g.own b ∧ (g.grab w.heap.size (.ob hn s.h.length)).K b = g.K b := by
    intro b p hp hne
    have h1 := hlt b p hp
    refine ⟨by rw [alloc_heap, if_neg h1], ?_, by simp [Gh.grab, h1]⟩
    have h2 : ¬ g.own b = some (.ob hn s.h.length) := by rw [hp]; intro e; cases e; exact hne rfl
    simp only [Gh.grab, h1, if_false, h2]
  refine ⟨?_, Ext.grab h.wf _ _ _ (.inr (.inr ⟨_, rfl⟩)) _ hJ⟩
  refine { wf := wf', size := h.size, tmp := ?_, jl := by simp [h.jl], obj := ?_, dfr := ?_, an := h.an, hm := h.hm }
  · intro i v hv
    obtain ⟨c, hc, ht⟩ := h.tmp i v hv
    exact ⟨c, hc, ht.frame le' fun b j e => keep b _ e (by intro e; cases e)⟩
  · intro id ob' ho'
    by_cases hid : id < s.h.length
    · rw [List.getElem?_append_left hid] at ho'
      refine (h.obj id ob' ho').frame ?_ le' fun b hb => keep b _ hb (by intro e; cases e; omega)
      exact List.getElem?_append_left (by rw [h.jl]; exact hid)
    · have : id = s.h.length := by
        have := (List.getElem?_eq_some_iff.1 ho').1
        simp at this; omega
      subst this
      simp at ho'; subst ho'
      exact ho _ rfl le'
  · intro x hx
    obtain ⟨D, h1, h2, h3⟩ := h.dfr x hx
    obtain ⟨k1, k2, _⟩ := keep D _ h2 (by intro e; cases e)
    exact ⟨D, h1, by rw [← h2]; exact k2, by rw [k1, h3]⟩

/-- A block that nobody writes to is laid. -/
theorem le_free (wf : WF w g) (o : Obj) : (memOf w g).le (memOf (w.alloc o) g) where
  M b j c h := by
    simp only [memOf] at h ⊢
    rw [alloc_heap]
    split at h
    · rename_i hc
      have hne : b ≠ w.heap.size := by
        intro e
        rw [e] at h
        have : w.heap[w.heap.size]? = none := by simp
        rw [this] at h; simp [cellAt] at h
      rw [if_pos hc, if_neg hne, h]
    · cases h
  Z b n h := by
    simp only [memOf] at h ⊢
    rw [alloc_heap]
    split
    · rename_i e; rw [e] at h; simp [sizeAt] at h
    · exact h
  J id b h := h
  L id b l h := ⟨b, l, h, Nat.le_refl _, fun _ => rfl⟩
theorem WF.free (wf : WF w g) (o : Obj) : WF (w.alloc o) g := ⟨fun b hb => wf.new b (by simp at hb; omega), wf.inj, wf.nx⟩
theorem Ext.free (wf : WF w g) (o : Obj) (ok : Owner → Prop) : Ext ok w g (w.alloc o) g :=
  ⟨by simp, fun b hb _ => ⟨by rw [alloc_heap, if_neg (by omega)], rfl, rfl⟩, le_free wf o, Nat.le_refl _, rfl, rfl, rfl⟩
theorem WF.ne_new (wf : WF w g) {b : Nat} {p : Owner} (hp : g.own b = some p) : b ≠ w.heap.size := fun e => by
  rw [wf.new b (by omega)] at hp
  cases hp
theorem SR.allocFree (h : SR act hn s a w g) (o : Obj) : SR act hn s a (w.alloc o) g ∧ Ext (mine act hn) w g (w.alloc o) g :=
  ⟨h.frame (h.wf.free o) rfl (le_free h.wf o) (fun b p hp _ => ⟨by rw [alloc_heap, if_neg (h.wf.ne_new hp)], rfl, rfl⟩) (Nat.le_refl _), Ext.free h.wf o _⟩

theorem SR.drew (h : SR act hn s a w g) : SR act hn s a w.drew g :=
  h.frame ⟨h.wf.new, h.wf.inj, h.wf.nx⟩ rfl (Mem.le.refl _) (fun _ _ _ _ => ⟨rfl, rfl, rfl⟩) (Nat.le_refl _)
theorem Ext.drew (ok : Owner → Prop) (w : World) (g : Gh) : Ext ok w g w.drew g := ⟨Nat.le_refl _, fun _ _ _ => ⟨rfl, rfl, rfl⟩, Mem.le.refl _, Nat.le_refl _, rfl, rfl, rfl⟩

end Go.Ab
