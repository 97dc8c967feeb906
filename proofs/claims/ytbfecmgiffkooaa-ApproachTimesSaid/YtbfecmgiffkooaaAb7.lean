/- Loads and stores, and what computes with values; conditions: none. -/
import Derived.Test.YtbfecmgiffkooaaAb6
namespace Go.Ab
set_option linter.unusedVariables false
set_option linter.unusedSimpArgs false
variable {act hn : Nat} {s s' : St} {a : Act} {w : World} {g : Gh} {P : Program} {F : Fence} {n : Nat} {o : Oper}

theorem sound_load (h : SR act hn s a w g) {t : TypeId} {x : Operand} (ho : o.op = .load t x) {ag : Bool} {m : Nat} (ht : typeSize P t = some (ag, m)) {sh : List Sh} {v : V} (hl : loadK s (getV s x) ag m sh some = some v) :
    Sound P F n act hn (s.put o.dst (view v)) a w g o := by
  obtain ⟨c, h1, h2⟩ := load_ok h ht hl
  exact Sound.pure h (c := c) (by simp only [execOp, ho]; simp [h1]) h2.view

theorem run_storeAt' {t : TypeId} {ag : Bool} {m : Nat} (ht : typeSize P t = some (ag, m)) {c : Value} (hc : c.cells.size = m) {b off : Nat} {cs : Array Value} {e : TypeId} (hb : w.heap[b]? = some (.cells cs e (0, 0)))
    (hfit : off + c.cells.toList.length ≤ cs.size) (hone : ∀ v ∈ c.cells.toList, one v = true) :
    (Instr.storeAt t (.pointer (some ⟨b, off, none⟩)) c).run P w = .ok () (w.setRow b (cs.toList.take off ++ c.cells.toList ++ cs.toList.drop (off + c.cells.toList.length)).toArray) := by
  have h1 := run_storeCells_at P b off e c.cells.toList 0 cs w hb (by simpa using hfit) (fun v hv => by rw [one_eq]; exact hone v hv)
  simp only [Nat.add_zero] at h1
  have h2 : ¬ (c.cells.size ≠ m) := by simp [hc]
  simp [Instr.storeAt, Instr.sureAddr, storeVar, run_tSize' ht, hc, h1]

theorem sound_store (h : SR act hn s a w g) {t : TypeId} {i : Nat} {x : Operand} (ho : o.op = .store t (.tmp i) x) (hd : o.dst = none) {ag : Bool} {m : Nat} (ht : typeSize P t = some (ag, m)) (hm : (cellsOf (getV s x)).length = m) (hm0 : cellsOf (getV s x) ≠ [] ∨ ∃ cs, getV s x = .agg cs)
    (hst : storeK s i (nth s.t i) (cellsOf (getV s x)) some = some s') : Sound P F n act hn s' a w g o := by
  have hv := cellsOf_ok (h.evalV x) hm0
  have hone := hv.ones
  have hlen := VRl.length _ hv
  have hsz : (a.eval x).cells.size = m := by rw [← hm, hlen]; simp
  have hi := h.slot i
  have fin : ∀ {b off : Nat} {cs : Array Value} {e : TypeId}, a.eval (.tmp i) = .pointer (some ⟨b, off, none⟩) → w.heap[b]? = some (.cells cs e (0, 0)) → off + (a.eval x).cells.toList.length ≤ cs.size →
      SR act hn s' a (w.setRow b (cs.toList.take off ++ (a.eval x).cells.toList ++ cs.toList.drop (off + (a.eval x).cells.toList.length)).toArray) g →
      Ext (mine act hn) w g (w.setRow b (cs.toList.take off ++ (a.eval x).cells.toList ++ cs.toList.drop (off + (a.eval x).cells.toList.length)).toArray) g → Sound P F n act hn s' a w g o := by
    intro b off cs e he hb hf hs hx
    refine Sound.skip ?_ hd hs hx
    simp only [execOp, ho, he]
    simp [run_storeAt' ht hsz hb hf hone]
  cases hs : nth s.t i with
  | box cells =>
    rw [hs] at hst
    simp only [storeK, ifK] at hst
    split at hst
    · rename_i hf
      cases hst
      obtain ⟨b, cs, e, h1, h2, h3, h4, h5, h6⟩ := h.storeSlot hs 0 (by simpa [fits] using Nat.le_of_ble_eq_true hf) hv
      exact fin (off := 0) h1 h3 h4 h5 h6
    · cases hst
  | adr j off =>
    rw [hs] at hst hi
    simp only [storeK] at hst
    obtain ⟨b', k1, k2⟩ := hi
    split at hst
    · rename_i cells hj
      simp only [ifK] at hst
      split at hst
      · rename_i hf
        cases hst
        obtain ⟨b, cs, e, h1, h2, h3, h4, h5, h6⟩ := h.storeSlot hj off (by simpa [fits] using Nat.le_of_ble_eq_true hf) hv
        have : b' = b := h.wf.inj _ _ _ k1 h2
        subst this
        exact fin k2 h3 h4 h5 h6
      · cases hst
    · cases hst
  | ptr id off =>
    rw [hs] at hst hi
    simp only [storeK] at hst
    simp only [TR, VR] at hi
    obtain ⟨b', k1, k2⟩ := hi
    split at hst
    · rename_i cells hj
      simp only [ifK] at hst
      split at hst
      · rename_i hf
        cases hst
        obtain ⟨b, cs, e, h1, h2, h3, h4, h5, h6⟩ := h.storeOb hj off (by simpa [fits] using Nat.le_of_ble_eq_true hf) hv
        have k1' : g.J[id]? = some (b', none) := k1
        rw [k1'] at h1; cases h1
        exact fin k2 h3 h4 h5 h6
      · cases hst
    · cases hst
  | eptr id len sz ix off =>
    rw [hs] at hst hi
    simp only [storeK] at hst
    simp only [TR, VR] at hi
    obtain ⟨b', l, ad, k1, k2, k3, k4, k5⟩ := hi
    split at hst
    · rename_i sz' rows hj
      simp only [ifK] at hst
      split at hst
      · rename_i hc
        simp only [Bool.and_eq_true] at hc
        obtain ⟨⟨c1, c2⟩, c3⟩ := hc
        have c1' := Nat.eq_of_beq_eq_true c1
        subst c1'
        have c2' := Nat.le_of_ble_eq_true c2
        cases hdec : decide (len = rows.length) with
        | false => rw [hdec] at hst; cases hst
        | true =>
          rw [hdec] at hst
          simp only [cond_true] at hst
          cases hst
          have hlr := of_decide_eq_true hdec
          obtain ⟨b, cs, e, h1, h2, h3, h4, h5, h6⟩ := h.storeArr hj ix off (by omega) c2' (VRl.alone (m := memOf w g) (m' := (memOf w g).alone) _ c3 rfl rfl hv)
          have k1' : g.J[id]? = some (b', some l) := k1
          rw [k1'] at h1; cases h1
          have := k5 (by omega)
          subst this
          exact fin k2 h3 h4 h5 h6
      · cases hst
    · cases hst
  | _ => rw [hs] at hst; simp only [storeK] at hst; cases hst

theorem sound_pick (h : SR act hn s a w g) {c x y : Operand} (ho : o.op = .pick c x y) {q : Bool} (hc : getV s c = .bool q) : Sound P F n act hn (s.put o.dst (view (getV s (if q then x else y)))) a w g o := by
  have hv := h.evalN hc rfl
  simp only [VR] at hv
  refine Sound.pure h (c := a.eval (if q then x else y)) ?_ (h.evalV _)
  simp only [execOp, ho, hv]
  cases q <;> simp [Go.asBool]

theorem sound_extract (h : SR act hn s a w g) {x : Operand} {i : Nat} (ho : o.op = .extract x i) {vs : List V} (hx : getV s x = .tuple vs) {v : V} (hi : vs[i]? = some v) : Sound P F n act hn (s.put o.dst (view v)) a w g o := by
  have hv := h.evalN hx rfl
  simp only [VR] at hv
  obtain ⟨cs, h1, h2⟩ := hv
  obtain ⟨c, c1, c2⟩ := VRs.get _ h2 i v hi
  refine Sound.pure h (c := c) ?_ c2.view
  simp only [execOp, ho, h1, Instr.extract]
  simp [c1]

theorem sound_makeFunc (h : SR act hn s a w g) {f : FuncId} {first captured : Array Operand} (ho : o.op = .makeFunc (.func f) first captured) :
    Sound P F n act hn (s.put o.dst (.fn (.func f) (first.toList.map fun x => view (getV s x)) (captured.toList.map fun x => view (getV s x)))) a w g o := by
  have hl : ∀ l : List Operand, VRs (l.map fun x => view (getV s x)) (memOf w g) (l.map a.eval) := by
    intro l
    induction l with
    | nil => simp only [List.map_nil, VRs]
    | cons x l ih => simp only [List.map_cons, VRs]; exact ⟨_, _, rfl, h.evalV x, ih⟩
  refine Sound.pure h (c := .func (.func f) (first.map a.eval) (captured.map a.eval)) (by simp only [execOp, ho, Instr.makeFunc]; simp) ?_
  simp only [VR]
  exact ⟨.func f, first.toList.map a.eval, captured.toList.map a.eval, by simp [← Array.toList_map], hl _, hl _, rfl⟩

theorem sound_convert (h : SR act hn s a w g) {t1 t2 : TypeId} {x : Operand} (ho : o.op = .convert t1 t2 x) {q k : IntKind} {m : Int} (ht : P.underlying t2 = some (.int q)) (hs : (P.underlying t1).isSome = true) (hx : getV s x = .int k m) :
    Sound P F n act hn (s.put o.dst (.int q (q.wrap m))) a w g o := by
  have hv := h.evalN hx rfl
  simp only [VR] at hv
  obtain ⟨u, hu⟩ := Option.isSome_iff_exists.1 hs
  refine Sound.pure h (c := .int q (q.wrap m)) ?_ (by simp only [VR])
  simp only [execOp, ho, hv, convert]
  simp [run_underlying hu, run_underlying ht, Conv.intToInt]

theorem sound_unNeg (h : SR act hn s a w g) {t : TypeId} {x : Operand} (ho : o.op = .unOp .neg t x) {q : IntKind} {m : Int} (hx : getV s x = .int q m) : Sound P F n act hn (s.put o.dst (.int q (q.wrap (0 - m)))) a w g o := by
  have hv := h.evalN hx rfl
  simp only [VR] at hv
  refine Sound.pure h (c := .int q (q.wrap (0 - m))) ?_ (by simp only [VR])
  simp only [execOp, ho, hv, Op.unary, Op.intArith]
  simp
theorem sound_unNot (h : SR act hn s a w g) {t : TypeId} {x : Operand} (ho : o.op = .unOp .not t x) {b : Bool} (hx : getV s x = .bool b) : Sound P F n act hn (s.put o.dst (.bool (!b))) a w g o := by
  have hv := h.evalN hx rfl
  simp only [VR] at hv
  refine Sound.pure h (c := .bool !b) ?_ (by simp only [VR])
  simp only [execOp, ho, hv, Op.unary]
  simp

theorem kEq_iff {k k' : IntKind} : kEq k k' = true ↔ k = k' := by cases k <;> cases k' <;> simp [kEq]

theorem run_eqGuard_int {op : BinOp} {t : TypeId} {x y : Operand} {k k' : IntKind} {i j : Int} : (eqGuard op t x y (.int k i) (.int k' j)).run P w = .ok () w := by
  unfold eqGuard
  split <;> simp
theorem run_eqGuard_bool {op : BinOp} {t : TypeId} {x y : Operand} {i j : Bool} : (eqGuard op t x y (.bool i) (.bool j)).run P w = .ok () w := by
  unfold eqGuard
  split <;> simp

def concS : V → Value
  | .int k n => .int k n
  | .bool b => .bool b
  | _ => Go.undef
theorem arith_run {op : BinOp} {t : TypeId} {k : IntKind} {i j : Int} {v : V} (ha : arith op k i j = some v) : (∀ m, VR v m (concS v)) ∧ (binOp op t (.int k i) (.int k j)).run P w = .ok (concS v) w := by
  unfold arith at ha
  split at ha <;> first
    | (cases ha; done)
    | (cases ha; exact ⟨fun m => by simp only [VR, concS], by simp [binOp, Op.intArith, Op.intCmp, Op.intBits, concS]⟩)
theorem sound_arith (h : SR act hn s a w g) {op : BinOp} {t t' : TypeId} {x y : Operand} (ho : o.op = .binOp op t x y t') {k1 k2 : IntKind} {i j : Int} (hx : getV s x = .int k1 i) (hy : getV s y = .int k2 j) (hk : k1 = k2) {v : V} (ha : arith op k1 i j = some v) :
    Sound P F n act hn (s.put o.dst v) a w g o := by
  subst hk
  have hvx := h.evalN hx rfl
  have hvy := h.evalN hy rfl
  simp only [VR] at hvx hvy
  obtain ⟨h1, h2⟩ := arith_run (P := P) (w := w) (t := t) ha
  refine Sound.pure h (c := concS v) ?_ (h1 _)
  simp only [execOp, ho, hvx, hvy]
  simp [run_eqGuard_int, h2]

theorem sound_quo (h : SR act hn s a w g) {t t' : TypeId} {x y : Operand} (ho : o.op = .binOp .quo t x y t') {k1 k2 : IntKind} {i j : Int} (hx : getV s x = .int k1 i) (hy : getV s y = .int k2 j) (hk : k1 = k2) (hj : j ≠ 0) :
    Sound P F n act hn (s.put o.dst (.int k1 (k1.wrap (i.tdiv j)))) a w g o := by
  subst hk
  have hvx := h.evalN hx rfl
  have hvy := h.evalN hy rfl
  simp only [VR] at hvx hvy
  refine Sound.pure h (c := .int k1 (k1.wrap (i.tdiv j))) ?_ (by simp only [VR])
  simp only [execOp, ho, hvx, hvy]
  simp [run_eqGuard_int, binOp, Op.intDiv, hj]
theorem sound_rem (h : SR act hn s a w g) {t t' : TypeId} {x y : Operand} (ho : o.op = .binOp .rem t x y t') {k1 k2 : IntKind} {i j : Int} (hx : getV s x = .int k1 i) (hy : getV s y = .int k2 j) (hk : k1 = k2) (hj : j ≠ 0) :
    Sound P F n act hn (s.put o.dst (.int k1 (i.tmod j))) a w g o := by
  subst hk
  have hvx := h.evalN hx rfl
  have hvy := h.evalN hy rfl
  simp only [VR] at hvx hvy
  refine Sound.pure h (c := .int k1 (i.tmod j)) ?_ (by simp only [VR])
  simp only [execOp, ho, hvx, hvy]
  simp [run_eqGuard_int, binOp, Op.intDiv, hj]
theorem sound_shl (h : SR act hn s a w g) {t t' : TypeId} {x y : Operand} (ho : o.op = .binOp .shl t x y t') {k1 k2 : IntKind} {i j : Int} (hx : getV s x = .int k1 i) (hy : getV s y = .int k2 j) (hj : ¬ j < 0) :
    Sound P F n act hn (s.put o.dst (.int k1 (k1.wrap (i * 2 ^ (min j.toNat k1.bits))))) a w g o := by
  have hvx := h.evalN hx rfl
  have hvy := h.evalN hy rfl
  simp only [VR] at hvx hvy
  refine Sound.pure h (c := .int k1 (k1.wrap (i * 2 ^ (min j.toNat k1.bits)))) ?_ (by simp only [VR])
  simp only [execOp, ho, hvx, hvy]
  simp [run_eqGuard_int, binOp, Op.shift, hj]
theorem sound_shr (h : SR act hn s a w g) {t t' : TypeId} {x y : Operand} (ho : o.op = .binOp .shr t x y t') {k1 k2 : IntKind} {i j : Int} (hx : getV s x = .int k1 i) (hy : getV s y = .int k2 j) (hj : ¬ j < 0) :
    Sound P F n act hn (s.put o.dst (.int k1 (i.fdiv (2 ^ (min j.toNat k1.bits))))) a w g o := by
  have hvx := h.evalN hx rfl
  have hvy := h.evalN hy rfl
  simp only [VR] at hvx hvy
  refine Sound.pure h (c := .int k1 (i.fdiv (2 ^ (min j.toNat k1.bits)))) ?_ (by simp only [VR])
  simp only [execOp, ho, hvx, hvy]
  simp [run_eqGuard_int, binOp, Op.shift, hj]

end Go.Ab
