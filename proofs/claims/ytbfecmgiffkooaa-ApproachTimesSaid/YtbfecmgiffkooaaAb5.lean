/- Stores, and what becomes of shared arrays; conditions: none. -/
import Derived.Test.YtbfecmgiffkooaaAb4
namespace Go.Ab
set_option linter.unusedVariables false
set_option linter.unusedSimpArgs false
variable {act hn : Nat} {s : St} {a : Act} {w : World} {g : Gh}

theorem VRl.take {l : List V} {m : Mem} {cs : List Value} (h : VRl l m cs) (n : Nat) : VRl (l.take n) m (cs.take n) := by
  induction l generalizing cs n with
  | nil => simp only [VRl] at h; subst h; simp [VRl]
  | cons v l ih =>
    simp only [VRl] at h
    obtain ⟨c, cs', rfl, h2, h3⟩ := h
    cases n with
    | zero => simp [VRl]
    | succ n => simp only [List.take_succ_cons, VRl]; exact ⟨c, cs'.take n, rfl, h2, ih h3 n⟩
theorem VRl.drop {l : List V} {m : Mem} {cs : List Value} (h : VRl l m cs) (n : Nat) : VRl (l.drop n) m (cs.drop n) := by
  induction l generalizing cs n with
  | nil => simp only [VRl] at h; subst h; simp [VRl]
  | cons v l ih =>
    have h0 := h
    simp only [VRl] at h
    obtain ⟨c, cs', rfl, h2, h3⟩ := h
    cases n with
    | zero => exact h0
    | succ n => simp only [List.drop_succ_cons]; exact ih h3 n
theorem VRl.splice {cells new : List V} {m : Mem} {cs news : List Value} (h : VRl cells m cs) (h' : VRl new m news) (off : Nat) :
    VRl (splice cells off new) m (cs.take off ++ news ++ cs.drop (off + news.length)) := by
  unfold Ab.splice
  rw [takeL_eq, dropL_eq, List.append_assoc, VRl.length new h']
  exact (h.take off).append (h'.append (h.drop _))
theorem VRl.ones {l : List V} {m : Mem} {cs : List Value} (h : VRl l m cs) : ∀ c ∈ cs, one c = true := by
  induction l generalizing cs with
  | nil => simp only [VRl] at h; subst h; simp
  | cons v l ih =>
    simp only [VRl] at h
    obtain ⟨c, cs', rfl, h2, h3⟩ := h
    intro x hx
    cases hx with
    | head => exact h2.2
    | tail _ hx => exact ih h3 x hx
theorem one_eq (c : Value) : c.oneCell' = one c := by cases c <;> rfl

theorem le_setRow {b : Nat} {cs cs' : Array Value} {e : TypeId} {p : Owner} (hown : g.own b = some p) (hb : w.heap[b]? = some (.cells cs e (0, 0))) (hs : cs'.size = cs.size)
    (hk : ∀ j, j < g.K b → cs'[j]? = cs[j]?) : (memOf w g).le (memOf (w.setRow b cs') g) where
  M x j c h := by
    simp only [memOf] at h ⊢
    by_cases e1 : x = b
    · subst e1
      rw [setRow_heap w x cs cs' e _ hb]
      rw [hb] at h
      split at h
      · rename_i hc
        rw [if_pos hc]
        rcases hc with hc | hc
        · rw [hown] at hc; cases hc
        · simp only [cellAt] at h ⊢; rw [hk j hc]; exact h
      · cases h
    · rw [setRow_other w b x cs' e1]; exact h
  Z x n h := by
    simp only [memOf] at h ⊢
    by_cases e1 : x = b
    · subst e1
      rw [setRow_heap w x cs cs' e _ hb]
      rw [hb] at h
      simp only [sizeAt] at h ⊢
      rw [hs]; exact h
    · rw [setRow_other w b x cs' e1]; exact h
  J id x h := h
  L id x l h := ⟨x, l, h, Nat.le_refl _, fun _ => rfl⟩

theorem WF.setRow (wf : WF w g) (b : Nat) (cs : Array Value) : WF (w.setRow b cs) g := ⟨fun x hx => wf.new x (by simpa using hx), wf.inj, wf.nx⟩
theorem Ext.setRow {ok : Owner → Prop} {b : Nat} {cs cs' : Array Value} {e : TypeId} {p : Owner} (hown : g.own b = some p) (hok : ok p) (hb : w.heap[b]? = some (.cells cs e (0, 0))) (hs : cs'.size = cs.size)
    (hk : ∀ j, j < g.K b → cs'[j]? = cs[j]?) : Ext ok w g (w.setRow b cs') g :=
  ⟨by simp, fun x _ hp => ⟨setRow_other w b x cs' (fun e => by subst e; exact hp p hown hok), rfl, rfl⟩, le_setRow hown hb hs hk, Nat.le_refl _, rfl, rfl, rfl⟩

theorem spliced_size (cs : Array Value) (off : Nat) (news : List Value) (h : off + news.length ≤ cs.size) :
    (cs.toList.take off ++ news ++ cs.toList.drop (off + news.length)).toArray.size = cs.size := by
  simp; omega

/-- A store into a slot's variable. -/
theorem SR.storeSlot (h : SR act hn s a w g) {j : Nat} {cells new : List V} {news : List Value} (hj : nth s.t j = .box cells) (off : Nat) (hf : off + new.length ≤ cells.length) (hv : VRl new (memOf w g) news) :
    ∃ b cs e, a.tmps.getD j Go.undef = .pointer (some ⟨b, 0, none⟩) ∧ g.own b = some (.slot act j) ∧ w.heap[b]? = some (.cells cs e (0, 0)) ∧ off + news.length ≤ cs.size ∧
      SR act hn ⟨upd s.t j (.box (splice cells off new)), s.h⟩ a (w.setRow b (cs.toList.take off ++ news ++ cs.toList.drop (off + news.length)).toArray) g ∧
      Ext (mine act hn) w g (w.setRow b (cs.toList.take off ++ news ++ cs.toList.drop (off + news.length)).toArray) g := by
  have ht := h.slot j
  rw [hj] at ht
  obtain ⟨b, cs, e, h1, h2, h3, h4, h5⟩ := ht
  have hlen := VRl.length _ h5
  have hn' := VRl.length _ hv
  have hfit : off + news.length ≤ cs.size := by rw [← hn']; simp at hlen; omega
  have hk : ∀ x, x < g.K b → (cs.toList.take off ++ news ++ cs.toList.drop (off + news.length)).toArray[x]? = cs[x]? := fun x hx => by omega
  have le' := le_setRow (w := w) (g := g) h2 h4 (spliced_size cs off news hfit) hk
  refine ⟨b, cs, e, h1, h2, h4, hfit, ?_, Ext.setRow h2 (.inl ⟨j, rfl⟩) h4 (spliced_size cs off news hfit) hk⟩
  have keep : ∀ x p, g.own x = some p → p ≠ .slot act j → (w.setRow b (cs.toList.take off ++ news ++ cs.toList.drop (off + news.length)).toArray).heap[x]? = w.heap[x]? ∧ g.own x = g.own x ∧ g.K x = g.K x := by
    intro x p hp hne
    refine ⟨setRow_other w b x _ ?_, rfl, rfl⟩
    intro e; subst e; rw [h2] at hp; cases hp; exact hne rfl
  refine { wf := h.wf.setRow _ _, size := by simp only [upd_length]; exact h.size, tmp := ?_, jl := h.jl, obj := ?_, dfr := ?_, an := h.an, hm := h.hm }
  · intro i u hu
    simp only [upd_get] at hu
    by_cases hid : i = j
    · subst hid
      simp only [if_true] at hu
      cases hs : s.t[i]? with
      | none => rw [hs] at hu; cases hu
      | some u' =>
        rw [hs] at hu
        cases hu
        obtain ⟨c', hc', _⟩ := h.tmp i u' hs
        have : c' = .pointer (some ⟨b, 0, none⟩) := by rw [← h1]; simp [Array.getD_eq_getD_getElem?, hc']
        refine ⟨c', hc', b, _, e, this, h2, h3, setRow_heap w b cs _ e _ h4, ?_⟩
        have := (h5.splice hv off)
        exact VRl.mono _ le' this
    · rw [if_neg hid] at hu
      obtain ⟨c, hc, ht⟩ := h.tmp i u hu
      refine ⟨c, hc, ?_⟩
      cases u with
      | box cells' =>
        obtain ⟨b', cs', e', k1, k2, k3, k4, k5⟩ := ht
        exact ⟨b', cs', e', k1, k2, k3, by rw [(keep b' _ k2 (by intro e; cases e; exact hid rfl)).1, k4], VRl.mono _ le' k5⟩
      | adr j' off' => exact ht
      | _ => exact VR.mono _ le' ht
  · intro id ob ho
    exact (h.obj id ob ho).frame rfl le' fun x hx => keep x _ hx (by intro e; cases e)
  · intro x hx
    obtain ⟨D, k1, k2, k3⟩ := h.dfr x hx
    exact ⟨D, k1, k2, by rw [(keep D _ k2 (by intro e; cases e)).1, k3]⟩

/-- A shared object is set anew, its block alone having turned. -/
theorem SR.setOb (h : SR act hn s a w g) {id : Nat} {ob : Ob} {w' : World} {g' : Gh} (wf : WF w' g') (le : (memOf w g).le (memOf w' g')) (hJ : ∀ x, x ≠ id → g'.J[x]? = g.J[x]?) (hJl : g'.J.length = g.J.length)
    (keep : ∀ x p, g.own x = some p → mine act hn p → p ≠ .ob hn id → w'.heap[x]? = w.heap[x]? ∧ g'.own x = g.own x ∧ g'.K x = g.K x) (nx : g.nx ≤ g'.nx)
    (ho : OR w' g' hn id ob) : SR act hn ⟨s.t, hset s.h id ob⟩ a w' g' := by
  refine { wf := wf, size := h.size, tmp := ?_, jl := ?_, obj := ?_, dfr := ?_, an := Nat.lt_of_lt_of_le h.an nx, hm := Nat.lt_of_lt_of_le h.hm nx }
  · intro i v hv
    obtain ⟨c, hc, ht⟩ := h.tmp i v hv
    exact ⟨c, hc, ht.frame le fun b j e => keep b _ e (.inl ⟨j, rfl⟩) (by intro e; cases e)⟩
  · simp only [hset_eq, List.length_set]; rw [hJl]; exact h.jl
  · intro x ob' ho'
    simp only [hset_eq, List.getElem?_set] at ho'
    split at ho'
    · rename_i e
      subst e
      split at ho'
      · cases ho'; exact ho
      · cases ho'
    · rename_i e
      exact (h.obj x ob' ho').frame (hJ x fun e' => e e'.symm) le fun b hb => keep b _ hb (.inr (.inr ⟨x, rfl⟩)) (by intro e'; cases e'; exact e rfl)
  · intro x hx
    obtain ⟨D, h1, h2, h3⟩ := h.dfr x hx
    obtain ⟨k1, k2, _⟩ := keep D _ h2 (.inr (.inl ⟨D, rfl⟩)) (by intro e; cases e)
    exact ⟨D, h1, by rw [k2, h2], by rw [k1, h3]⟩

/-- A store into a shared variable. -/
theorem SR.storeOb (h : SR act hn s a w g) {id : Nat} {cells new : List V} {news : List Value} (hj : hget s.h id = some (.cells cells)) (off : Nat) (hf : off + new.length ≤ cells.length) (hv : VRl new (memOf w g) news) :
    ∃ b cs e, g.J[id]? = some (b, none) ∧ g.own b = some (.ob hn id) ∧ w.heap[b]? = some (.cells cs e (0, 0)) ∧ off + news.length ≤ cs.size ∧
      SR act hn ⟨s.t, hset s.h id (.cells (splice cells off new))⟩ a (w.setRow b (cs.toList.take off ++ news ++ cs.toList.drop (off + news.length)).toArray) g ∧
      Ext (mine act hn) w g (w.setRow b (cs.toList.take off ++ news ++ cs.toList.drop (off + news.length)).toArray) g := by
  rw [hget_eq] at hj
  obtain ⟨b, cs, e, h1, h2, h3, h4, h5⟩ := h.obj id _ hj
  have hlen := VRl.length _ h5
  have hn' := VRl.length _ hv
  have hfit : off + news.length ≤ cs.size := by rw [← hn']; simp at hlen; omega
  have hk : ∀ x, x < g.K b → (cs.toList.take off ++ news ++ cs.toList.drop (off + news.length)).toArray[x]? = cs[x]? := fun x hx => by omega
  have le' := le_setRow (w := w) (g := g) h2 h4 (spliced_size cs off news hfit) hk
  refine ⟨b, cs, e, h1, h2, h4, hfit, ?_, Ext.setRow h2 (.inr (.inr ⟨id, rfl⟩)) h4 (spliced_size cs off news hfit) hk⟩
  refine h.setOb (h.wf.setRow _ _) le' (fun _ _ => rfl) rfl ?_ (Nat.le_refl _) ⟨b, _, e, h1, h2, h3, setRow_heap w b cs _ e _ h4, VRl.mono _ le' (h5.splice hv off)⟩
  intro x p hp _ hne
  refine ⟨setRow_other w b x _ ?_, rfl, rfl⟩
  intro e; subst e; rw [h2] at hp; cases hp; exact hne rfl


mutual
/-- A value that holds no shared object's address stands whatever these are. -/
theorem VR.alone : ∀ (v : V) {m m' : Mem} {c : Value}, refFree v = true → m.M = m'.M → m.Z = m'.Z → VR v m c → VR v m' c
  | .undef, _, _, _, _, _, _, _ => by simp only [VR]
  | .skip, _, _, _, _, _, _, h => by simpa only [VR] using h
  | .bool _, _, _, _, _, _, _, h => by simpa only [VR] using h
  | .int _ _, _, _, _, _, _, _, h => by simpa only [VR] using h
  | .str _, _, _, _, _, _, _, h => by simpa only [VR] using h
  | .nilp, _, _, _, _, _, _, h => by simpa only [VR] using h
  | .ptr _ _, _, _, _, hr, _, _, _ => by simp [refFree] at hr
  | .rptr _ _, _, _, _, hr, _, _, _ => by simp [refFree] at hr
  | .eptr _ _ _ _ _, _, _, _, hr, _, _, _ => by simp [refFree] at hr
  | .adr _ _, _, _, _, hr, _, _, _ => by simp [refFree] at hr
  | .box _, _, _, _, hr, _, _, _ => by simp [refFree] at hr
  | .arr _ _ _, _, _, _, hr, _, _, _ => by simp [refFree] at hr
  | .map _, _, _, _, hr, _, _, _ => by simp [refFree] at hr
  | .nilmap, _, _, _, _, _, _, h => by simpa only [VR] using h
  | .nilfn, _, _, _, _, _, _, h => by simpa only [VR] using h
  | .nili, _, _, _, _, _, _, h => by simpa only [VR] using h
  | .slice fl rows, m, m', c, _, h1, h2, h => by
    have e : m.alone = m'.alone := by simp [Mem.alone, h1, h2]
    simp only [VR] at h ⊢
    rw [← e]; exact h
  | .fn f first cap, m, m', c, hr, h1, h2, h => by
    simp only [refFree, Bool.and_eq_true] at hr
    simp only [VR] at h ⊢
    obtain ⟨f', first', cap', k1, k2, k3, k4⟩ := h
    refine ⟨f', first', cap', k1, VRs.alone first hr.1.2 h1 h2 k2, VRs.alone cap hr.2 h1 h2 k3, ?_⟩
    cases f with
    | yield id => simp at hr
    | _ => exact k4
  | .iface t v, m, m', c, hr, h1, h2, h => by
    simp only [refFree] at hr
    simp only [VR] at h ⊢
    obtain ⟨c', k1, k2⟩ := h
    exact ⟨c', k1, VR.alone v hr h1 h2 k2⟩
  | .agg cells, m, m', c, hr, h1, h2, h => by
    simp only [refFree] at hr
    simp only [VR] at h ⊢
    obtain ⟨cs, k1, k2⟩ := h
    exact ⟨cs, k1, VRl.alone cells hr h1 h2 k2⟩
  | .tuple vs, m, m', c, hr, h1, h2, h => by
    simp only [refFree] at hr
    simp only [VR] at h ⊢
    obtain ⟨cs, k1, k2⟩ := h
    exact ⟨cs, k1, VRs.alone vs hr h1 h2 k2⟩
theorem VRl.alone : ∀ (l : List V) {m m' : Mem} {cs : List Value}, refFrees l = true → m.M = m'.M → m.Z = m'.Z → VRl l m cs → VRl l m' cs
  | [], _, _, _, _, _, _, h => by simpa only [VRl] using h
  | v :: l, m, m', cs, hr, h1, h2, h => by
    simp only [refFrees, Bool.and_eq_true] at hr
    simp only [VRl] at h ⊢
    obtain ⟨c, cs', k1, ⟨k2, k4⟩, k3⟩ := h
    exact ⟨c, cs', k1, ⟨VR.alone v hr.1 h1 h2 k2, k4⟩, VRl.alone l hr.2 h1 h2 k3⟩
theorem VRs.alone : ∀ (l : List V) {m m' : Mem} {cs : List Value}, refFrees l = true → m.M = m'.M → m.Z = m'.Z → VRs l m cs → VRs l m' cs
  | [], _, _, _, _, _, _, h => by simpa only [VRs] using h
  | v :: l, m, m', cs, hr, h1, h2, h => by
    simp only [refFrees, Bool.and_eq_true] at hr
    simp only [VRs] at h ⊢
    obtain ⟨c, cs', k1, k2, k3⟩ := h
    exact ⟨c, cs', k1, VR.alone v hr.1 h1 h2 k2, VRs.alone l hr.2 h1 h2 k3⟩
end
mutual
/-- A value that stands without shared objects stands with them. -/
theorem VR.beside : ∀ (v : V) {m m' : Mem} {c : Value}, m.J = [] → m.M = m'.M → m.Z = m'.Z → VR v m c → VR v m' c
  | .undef, _, _, _, _, _, _, _ => by simp only [VR]
  | .skip, _, _, _, _, _, _, h => by simpa only [VR] using h
  | .bool _, _, _, _, _, _, _, h => by simpa only [VR] using h
  | .int _ _, _, _, _, _, _, _, h => by simpa only [VR] using h
  | .str _, _, _, _, _, _, _, h => by simpa only [VR] using h
  | .nilp, _, _, _, _, _, _, h => by simpa only [VR] using h
  | .ptr _ _, _, _, _, hj, _, _, h => by simp only [VR] at h; obtain ⟨b, h1, _⟩ := h; rw [hj] at h1; simp at h1
  | .rptr row off, m, m', c, hj, h1, h2, h => by
    have e : m.alone = m'.alone := by simp [Mem.alone, h1, h2]
    simp only [VR] at h ⊢
    rw [← e]; exact h
  | .eptr _ _ _ _ _, _, _, _, hj, _, _, h => by simp only [VR] at h; obtain ⟨b, l, ad, h1, _⟩ := h; rw [hj] at h1; simp at h1
  | .adr _ _, _, _, _, _, _, _, h => by simp only [VR] at h
  | .box _, _, _, _, _, _, _, h => by simp only [VR] at h
  | .arr _ _ _, _, _, _, hj, _, _, h => by simp only [VR] at h; obtain ⟨x, y, b, l, h1, _⟩ := h; rw [hj] at h1; simp at h1
  | .map _, _, _, _, hj, _, _, h => by simp only [VR] at h; obtain ⟨b, h1, _⟩ := h; rw [hj] at h1; simp at h1
  | .nilmap, _, _, _, _, _, _, h => by simpa only [VR] using h
  | .nilfn, _, _, _, _, _, _, h => by simpa only [VR] using h
  | .nili, _, _, _, _, _, _, h => by simpa only [VR] using h
  | .slice fl rows, m, m', c, _, h1, h2, h => by
    have e : m.alone = m'.alone := by simp [Mem.alone, h1, h2]
    simp only [VR] at h ⊢
    rw [← e]; exact h
  | .fn f first cap, m, m', c, hj, h1, h2, h => by
    simp only [VR] at h ⊢
    obtain ⟨f', first', cap', k1, k2, k3, k4⟩ := h
    refine ⟨f', first', cap', k1, VRs.beside first hj h1 h2 k2, VRs.beside cap hj h1 h2 k3, ?_⟩
    cases f with
    | yield id => obtain ⟨b, h1, _⟩ := k4; rw [hj] at h1; simp at h1
    | _ => exact k4
  | .iface t v, m, m', c, hj, h1, h2, h => by
    simp only [VR] at h ⊢
    obtain ⟨c', k1, k2⟩ := h
    exact ⟨c', k1, VR.beside v hj h1 h2 k2⟩
  | .agg cells, m, m', c, hj, h1, h2, h => by
    simp only [VR] at h ⊢
    obtain ⟨cs, k1, k2⟩ := h
    exact ⟨cs, k1, VRl.beside cells hj h1 h2 k2⟩
  | .tuple vs, m, m', c, hj, h1, h2, h => by
    simp only [VR] at h ⊢
    obtain ⟨cs, k1, k2⟩ := h
    exact ⟨cs, k1, VRs.beside vs hj h1 h2 k2⟩
theorem VRl.beside : ∀ (l : List V) {m m' : Mem} {cs : List Value}, m.J = [] → m.M = m'.M → m.Z = m'.Z → VRl l m cs → VRl l m' cs
  | [], _, _, _, _, _, _, h => by simpa only [VRl] using h
  | v :: l, m, m', cs, hj, h1, h2, h => by
    simp only [VRl] at h ⊢
    obtain ⟨c, cs', k1, ⟨k2, k4⟩, k3⟩ := h
    exact ⟨c, cs', k1, ⟨VR.beside v hj h1 h2 k2, k4⟩, VRl.beside l hj h1 h2 k3⟩
theorem VRs.beside : ∀ (l : List V) {m m' : Mem} {cs : List Value}, m.J = [] → m.M = m'.M → m.Z = m'.Z → VRs l m cs → VRs l m' cs
  | [], _, _, _, _, _, _, h => by simpa only [VRs] using h
  | v :: l, m, m', cs, hj, h1, h2, h => by
    simp only [VRs] at h ⊢
    obtain ⟨c, cs', k1, k2, k3⟩ := h
    exact ⟨c, cs', k1, VR.beside v hj h1 h2 k2, VRs.beside l hj h1 h2 k3⟩
end

/-- Rows laid out in a block. -/
def rowsAt (m : Mem) (rows : List (List V)) (sz : Nat) (cells : List Value) : Prop :=
  ∀ (i : Nat) (r : List V), rows[i]? = some r → r.length = sz ∧ ∀ (j : Nat) (v : V), r[j]? = some v → ∃ c, cells[i * sz + j]? = some c ∧ VR v m c ∧ one c = true

theorem rowsAt.mono {m m' : Mem} {rows : List (List V)} {sz : Nat} {cells : List Value} (h : rowsAt m rows sz cells) (le : m.le m') : rowsAt m' rows sz cells := fun i r hi =>
  ⟨(h i r hi).1, fun j v hv => by obtain ⟨c, c1, c2, c3⟩ := (h i r hi).2 j v hv; exact ⟨c, c1, VR.mono _ le c2, c3⟩⟩
theorem rowsAt.cut {m : Mem} {rows : List (List V)} {sz : Nat} {cells : List Value} (h : rowsAt m rows sz cells) : rows.length * sz ≤ cells.length := by
  cases hr : rows.length with
  | zero => omega
  | succ n =>
    rcases Nat.eq_zero_or_pos sz with h0 | h0
    · subst h0; omega
    · have hn : n < rows.length := by omega
      obtain ⟨g1, g2⟩ := h n rows[n] (List.getElem?_eq_getElem hn)
      obtain ⟨c, c1, _⟩ := g2 (sz - 1) (rows[n][sz - 1]'(by omega)) (List.getElem?_eq_getElem _)
      have := (List.getElem?_eq_some_iff.1 c1).1
      rw [Nat.add_mul]; omega
theorem rowsAt.congr {m : Mem} {rows : List (List V)} {sz : Nat} {cells cells' : List Value} (h : rowsAt m rows sz cells) (he : ∀ x, x < rows.length * sz → cells'[x]? = cells[x]?) : rowsAt m rows sz cells' := fun i r hi => by
  obtain ⟨g1, g2⟩ := h i r hi
  refine ⟨g1, fun j v hv => ?_⟩
  obtain ⟨c, c1, c2⟩ := g2 j v hv
  have hil := (List.getElem?_eq_some_iff.1 hi).1
  have hjl := (List.getElem?_eq_some_iff.1 hv).1
  have : i * sz + j < rows.length * sz := by
    have : (i + 1) * sz ≤ rows.length * sz := Nat.mul_le_mul_right _ hil
    rw [Nat.add_mul] at this; omega
  exact ⟨c, by rw [he _ this]; exact c1, c2⟩
theorem rowsAt.append {m : Mem} {rows new : List (List V)} {sz : Nat} {cells news tail : List Value} (h : rowsAt m rows sz cells) (h' : rowsAt m new sz news) :
    rowsAt m (rows ++ new) sz (cells.take (rows.length * sz) ++ news ++ tail) := by
  have hc := h.cut
  have hc' := h'.cut
  have htl : (cells.take (rows.length * sz)).length = rows.length * sz := by simp; omega
  intro i r hi
  by_cases hl : i < rows.length
  · rw [List.getElem?_append_left hl] at hi
    obtain ⟨g1, g2⟩ := h i r hi
    refine ⟨g1, fun j v hv => ?_⟩
    obtain ⟨c, c1, c2⟩ := g2 j v hv
    have hjl := (List.getElem?_eq_some_iff.1 hv).1
    have : i * sz + j < rows.length * sz := by
      have : (i + 1) * sz ≤ rows.length * sz := Nat.mul_le_mul_right _ hl
      rw [Nat.add_mul] at this; omega
    refine ⟨c, ?_, c2⟩
    rw [List.append_assoc, List.getElem?_append_left (by omega), List.getElem?_take, if_pos this]; exact c1
  · rw [List.getElem?_append_right (by omega)] at hi
    obtain ⟨g1, g2⟩ := h' (i - rows.length) r hi
    refine ⟨g1, fun j v hv => ?_⟩
    obtain ⟨c, c1, c2⟩ := g2 j v hv
    have hin := (List.getElem?_eq_some_iff.1 c1).1
    refine ⟨c, ?_, c2⟩
    have e : i * sz + j = rows.length * sz + ((i - rows.length) * sz + j) := by
      obtain ⟨d, rfl⟩ : ∃ d, i = rows.length + d := ⟨i - rows.length, by omega⟩
      rw [Nat.add_sub_cancel_left, Nat.add_mul]; omega
    rw [List.append_assoc, e, List.getElem?_append_right (by omega), htl, Nat.add_sub_cancel_left, List.getElem?_append_left hin]; exact c1
theorem rowsAt.set {m : Mem} {rows : List (List V)} {sz : Nat} {cells news : List Value} {new : List V} (h : rowsAt m rows sz cells) (hn : VRl new m news) (i off : Nat) (hi : i < rows.length) (hf : off + new.length ≤ sz) :
    rowsAt m (rows.set i (splice (rows.getD i []) off new)) sz (cells.take (i * sz + off) ++ news ++ cells.drop (i * sz + off + news.length)) := by
  have hc := h.cut
  have hnl := VRl.length _ hn
  have hrow : (i + 1) * sz ≤ rows.length * sz := Nat.mul_le_mul_right _ hi
  rw [Nat.add_mul] at hrow
  have htl : (cells.take (i * sz + off)).length = i * sz + off := by simp; omega
  obtain ⟨g1, g2⟩ := h i rows[i] (List.getElem?_eq_getElem hi)
  intro x r hx
  simp only [List.getElem?_set] at hx
  have cell : ∀ y, cells[y]? = (cells.take (i * sz + off) ++ news ++ cells.drop (i * sz + off + news.length))[y]? ∨ (i * sz + off ≤ y ∧ y < i * sz + off + news.length) := by
    intro y
    rcases Nat.lt_or_ge y (i * sz + off) with hy | hy
    · left; rw [List.append_assoc, List.getElem?_append_left (by omega), List.getElem?_take, if_pos hy]
    · rcases Nat.lt_or_ge y (i * sz + off + news.length) with hy2 | hy2
      · right; omega
      · left
        rw [List.append_assoc, List.getElem?_append_right (by omega), htl, List.getElem?_append_right (by omega), List.getElem?_drop]
        congr 1; omega
  split at hx
  · rename_i e
    subst e
    · cases hx
      have hlen : (splice (rows.getD i []) off new).length = sz := by
        unfold Ab.splice
        rw [takeL_eq, dropL_eq]
        simp [List.getD_eq_getElem?_getD, List.getElem?_eq_getElem hi]
        omega
      refine ⟨hlen, fun j v hv => ?_⟩
      have hsp : (splice (rows.getD i []) off new)[j]? = if j < off then rows[i][j]? else if j < off + new.length then new[j - off]? else rows[i][j]? := by
        unfold Ab.splice
        rw [takeL_eq, dropL_eq]
        simp only [List.getD_eq_getElem?_getD, List.getElem?_eq_getElem hi, Option.getD_some]
        have hto : (rows[i].take off).length = off := by simp; omega
        split
        · rename_i hj; rw [List.getElem?_append_left (by omega), List.getElem?_take, if_pos hj]
        · rename_i hj
          rw [List.getElem?_append_right (by omega), hto]
          split
          · rename_i hj2; rw [List.getElem?_append_left (by omega)]
          · rename_i hj2; rw [List.getElem?_append_right (by omega), List.getElem?_drop]; congr 1; omega
      rw [hsp] at hv
      have old : ∀ (_ : ¬ (off ≤ j ∧ j < off + new.length)), rows[i][j]? = some v → ∃ c, (cells.take (i * sz + off) ++ news ++ cells.drop (i * sz + off + news.length))[i * sz + j]? = some c ∧ VR v m c ∧ one c = true := by
        intro hno hv
        obtain ⟨c, c1, c2⟩ := g2 j v hv
        refine ⟨c, ?_, c2⟩
        rcases cell (i * sz + j) with h1 | h1
        · rw [← h1]; exact c1
        · exact absurd (by omega) hno
      split at hv
      · exact old (by omega) hv
      · split at hv
        · obtain ⟨c, c1, c2⟩ := VRl.get _ hn _ v hv
          have hin := (List.getElem?_eq_some_iff.1 c1).1
          refine ⟨c, ?_, c2⟩
          rw [List.append_assoc, List.getElem?_append_right (by omega), htl, List.getElem?_append_left (by omega), ← c1]
          congr 1; omega
        · exact old (by omega) hv
  · rename_i e
    obtain ⟨k1, k2⟩ := h x r hx
    refine ⟨k1, fun j v hv => ?_⟩
    obtain ⟨c, c1, c2⟩ := k2 j v hv
    have hjl := (List.getElem?_eq_some_iff.1 hv).1
    refine ⟨c, ?_, c2⟩
    rcases cell (x * sz + j) with h1 | h1
    · rw [← h1]; exact c1
    · exfalso
      rcases Nat.lt_or_ge x i with hxi | hxi
      · have : (x + 1) * sz ≤ i * sz := Nat.mul_le_mul_right _ hxi
        rw [Nat.add_mul] at this; omega
      · have : (i + 1) * sz ≤ x * sz := Nat.mul_le_mul_right _ (by omega)
        rw [Nat.add_mul] at this; omega


theorem OR_arr {id : Nat} {wr : Bool} {sz : Nat} {rows : List (List V)} (h : OR w g hn id (.arr wr sz rows)) (hr : rows ≠ []) :
    ∃ b cells e, g.J[id]? = some (b, some rows.length) ∧ g.own b = some (.ob hn id) ∧ w.heap[b]? = some (.cells cells e (0, 0)) ∧ rowsAt (memOf w g).alone rows sz cells.toList ∧ g.K b ≤ rows.length * sz ∧ (wr = true → g.K b = 0) := by
  obtain ⟨b, h1, _, h2⟩ := h
  obtain ⟨cells, e, g1, g2, g3, g4, g5⟩ := h2 hr
  refine ⟨b, cells, e, h1, g1, g2, fun i r hi => ?_, g4, g5⟩
  obtain ⟨k1, k2⟩ := g3 i r hi
  exact ⟨k1, fun j v hv => by obtain ⟨c, c1, c2⟩ := k2 j v hv; exact ⟨c, by simpa using c1, c2⟩⟩
theorem OR_mk {id : Nat} {wr : Bool} {sz b : Nat} {rows : List (List V)} {cells : Array Value} {e : TypeId} (h1 : g.J[id]? = some (b, some rows.length)) (h0 : 0 < sz) (h2 : g.own b = some (.ob hn id)) (h3 : w.heap[b]? = some (.cells cells e (0, 0)))
    (h4 : rowsAt (memOf w g).alone rows sz cells.toList) (h5 : g.K b ≤ rows.length * sz) (h6 : wr = true → g.K b = 0) : OR w g hn id (.arr wr sz rows) :=
  ⟨b, h1, h0, fun _ => ⟨cells, e, h2, h3, fun i r hi => ⟨(h4 i r hi).1, fun j v hv => by obtain ⟨c, c1, c2⟩ := (h4 i r hi).2 j v hv; exact ⟨c, by simpa using c1, c2⟩⟩, h5, h6⟩⟩

/-- A store into a shared array. -/
theorem SR.storeArr (h : SR act hn s a w g) {id sz : Nat} {rows : List (List V)} {new : List V} {news : List Value} (hj : hget s.h id = some (.arr true sz rows)) (i off : Nat) (hi : i < rows.length) (hf : off + new.length ≤ sz)
    (hv : VRl new (memOf w g).alone news) :
    ∃ b cs e, g.J[id]? = some (b, some rows.length) ∧ g.own b = some (.ob hn id) ∧ w.heap[b]? = some (.cells cs e (0, 0)) ∧ (i * sz + off) + news.length ≤ cs.size ∧
      SR act hn ⟨s.t, hset s.h id (.arr true sz (rows.set i (splice (rows.getD i []) off new)))⟩ a (w.setRow b (cs.toList.take (i * sz + off) ++ news ++ cs.toList.drop ((i * sz + off) + news.length)).toArray) g ∧
      Ext (mine act hn) w g (w.setRow b (cs.toList.take (i * sz + off) ++ news ++ cs.toList.drop ((i * sz + off) + news.length)).toArray) g := by
  rw [hget_eq] at hj
  have ho := h.obj id _ hj
  have h0 : 0 < sz := by obtain ⟨_, _, h0, _⟩ := ho; exact h0
  obtain ⟨b, cs, e, h1, h2, h4, h5, h6, h7⟩ := OR_arr ho (by intro e; rw [e] at hi; simp at hi)
  have hK : g.K b = 0 := h7 rfl
  have hcut := h5.cut
  have hn' := VRl.length _ hv
  have hrow : (i + 1) * sz ≤ rows.length * sz := Nat.mul_le_mul_right _ hi
  rw [Nat.add_mul] at hrow
  have hfit : (i * sz + off) + news.length ≤ cs.size := by simp at hcut; omega
  have hk : ∀ x, x < g.K b → (cs.toList.take (i * sz + off) ++ news ++ cs.toList.drop ((i * sz + off) + news.length)).toArray[x]? = cs[x]? := fun x hx => by omega
  have le' := le_setRow (w := w) (g := g) h2 h4 (spliced_size cs _ news hfit) hk
  refine ⟨b, cs, e, h1, h2, h4, hfit, ?_, Ext.setRow h2 (.inr (.inr ⟨id, rfl⟩)) h4 (spliced_size cs _ news hfit) hk⟩
  refine h.setOb (h.wf.setRow _ _) le' (fun _ _ => rfl) rfl ?_ (Nat.le_refl _) (OR_mk (cells := (cs.toList.take (i * sz + off) ++ news ++ cs.toList.drop ((i * sz + off) + news.length)).toArray) (e := e) (b := b) ?_ h0 h2 ?_ ?_ ?_ ?_)
  · intro x p hp _ hne
    refine ⟨setRow_other w b x _ ?_, rfl, rfl⟩
    intro e; subst e; rw [h2] at hp; cases hp; exact hne rfl
  · rw [List.length_set]; exact h1
  · exact setRow_heap w b cs _ e _ h4
  · exact (h5.set hv i off hi hf).mono le'.alone
  · omega
  · intro _; exact hK

theorem J_set {J : List (Nat × Option Nat)} {id : Nat} {x : Nat × Option Nat} (y : Nat) : (J.set id x)[y]? = if y = id then (J[y]?).map (fun _ => x) else J[y]? := by
  rw [List.getElem?_set]
  by_cases e : id = y
  · subst e
    by_cases hl : id < J.length
    · simp [hl]
    · simp [hl]
  · have e' : ¬ y = id := fun h => e h.symm
    simp [e, e']

theorem le_J {w : World} {g : Gh} (J' : List (Nat × Option Nat)) (h1 : ∀ (id b : Nat), g.J[id]? = some (b, none) → J'[id]? = some (b, none))
    (h2 : ∀ (id b l : Nat), g.J[id]? = some (b, some l) → ∃ b' l', J'[id]? = some (b', some l') ∧ l ≤ l' ∧ (l' = l → b' = b)) : (memOf w g).le (memOf w { g with J := J' }) :=
  ⟨fun _ _ _ h => h, fun _ _ h => h, h1, h2⟩

/-- Elements come behind an array's own, in its block. -/
theorem SR.appendIn (h : SR act hn s a w g) {id sz cap : Nat} {wr : Bool} {rows new : List (List V)} {news : List Value} (hj : hget s.h id = some (.arr wr sz rows)) (hr : rows ≠ []) (hnew : rowsAt (memOf w g).alone new sz news)
    (hnl : news.length = new.length * sz) (hpos : new ≠ []) {b : Nat} {cs : Array Value} {e : TypeId} (hJ : g.J[id]? = some (b, some rows.length)) (hb : w.heap[b]? = some (.cells cs e (0, 0))) (hcap : rows.length + new.length ≤ cap) (hcs : cap * sz ≤ cs.size) :
    SR act hn ⟨s.t, hset s.h id (.arr wr sz (rows ++ new))⟩ a (w.setRow b (cs.toList.take (rows.length * sz) ++ news ++ cs.toList.drop (rows.length * sz + news.length)).toArray) { g with J := g.J.set id (b, some (rows.length + new.length)) } ∧
    Ext (mine act hn) w g (w.setRow b (cs.toList.take (rows.length * sz) ++ news ++ cs.toList.drop (rows.length * sz + news.length)).toArray) { g with J := g.J.set id (b, some (rows.length + new.length)) } ∧
    sizeAt (w.setRow b (cs.toList.take (rows.length * sz) ++ news ++ cs.toList.drop (rows.length * sz + news.length)).toArray).heap[b]? = some cs.size := by
  rw [hget_eq] at hj
  have ho := h.obj id _ hj
  have h0 : 0 < sz := by obtain ⟨_, _, h0, _⟩ := ho; exact h0
  obtain ⟨b', cs', e', h1, h2, h4, h5, h6, h7⟩ := OR_arr ho hr
  have eb : b' = b := by rw [hJ] at h1; cases h1; rfl
  subst eb
  rw [hb] at h4
  cases h4
  have hfit : rows.length * sz + news.length ≤ cs.size := by
    have := Nat.mul_le_mul_right sz hcap
    rw [Nat.add_mul] at this; omega
  have hk : ∀ x, x < g.K b' → (cs.toList.take (rows.length * sz) ++ news ++ cs.toList.drop (rows.length * sz + news.length)).toArray[x]? = cs[x]? := fun x hx => by
    have hx2 : x < rows.length * sz := by omega
    have hcut := h5.cut
    simp only [List.getElem?_toArray]
    rw [List.append_assoc, List.getElem?_append_left (by simp; omega), List.getElem?_take, if_pos hx2]; simp
  have le1 := le_setRow (w := w) (g := g) h2 hb (spliced_size cs _ news hfit) hk
  have hidJ : id < g.J.length := (List.getElem?_eq_some_iff.1 hJ).1
  have hnlen : new.length ≠ 0 := fun e => hpos (List.length_eq_zero_iff.1 e)
  have le2 : (memOf (w.setRow b' (cs.toList.take (rows.length * sz) ++ news ++ cs.toList.drop (rows.length * sz + news.length)).toArray) g).le (memOf (w.setRow b' (cs.toList.take (rows.length * sz) ++ news ++ cs.toList.drop (rows.length * sz + news.length)).toArray) { g with J := g.J.set id (b', some (rows.length + new.length)) }) := by
    refine le_J _ (fun x y hx => ?_) (fun x y l hx => ?_)
    · rw [J_set]; split
      · rename_i e1; subst e1; rw [hJ] at hx; cases hx
      · exact hx
    · rw [J_set]; split
      · rename_i e1; subst e1; rw [hJ] at hx; cases hx
        exact ⟨b', rows.length + new.length, by rw [hJ]; rfl, by omega, fun e => by omega⟩
      · exact ⟨y, l, hx, Nat.le_refl _, fun _ => rfl⟩
  have le' := le1.trans le2
  have ext1 : Ext (mine act hn) w g (w.setRow b' (cs.toList.take (rows.length * sz) ++ news ++ cs.toList.drop (rows.length * sz + news.length)).toArray) { g with J := g.J.set id (b', some (rows.length + new.length)) } :=
    ⟨by simp, fun x _ hp => ⟨setRow_other w b' x _ (fun e => by subst e; exact hp _ h2 (.inr (.inr ⟨id, rfl⟩))), rfl, rfl⟩, le', Nat.le_refl _, rfl, rfl, rfl⟩
  refine ⟨?_, ext1, ?_⟩
  · refine h.setOb ⟨fun x hx => h.wf.new x (by simpa using hx), h.wf.inj, h.wf.nx⟩ le' (fun x hx => by rw [J_set, if_neg hx]) (by simp) ?_ (Nat.le_refl _)
      (OR_mk (cells := (cs.toList.take (rows.length * sz) ++ news ++ cs.toList.drop (rows.length * sz + news.length)).toArray) (e := e) (b := b') ?_ h0 h2 ?_ ?_ ?_ h7)
    · intro x p hp _ hne
      refine ⟨setRow_other w b' x _ ?_, rfl, rfl⟩
      intro e; subst e; rw [h2] at hp; cases hp; exact hne rfl
    · rw [J_set, if_pos rfl, hJ]; simp
    · exact setRow_heap w b' cs _ e _ hb
    · exact (h5.append hnew).mono le'.alone
    · rw [List.length_append, Nat.add_mul]; show g.K b' ≤ _; omega
  · rw [setRow_heap w b' cs _ e _ hb]; simp only [sizeAt, spliced_size cs _ news hfit]

/-- An array moves into a new block. -/
theorem SR.regrow (h : SR act hn s a w g) {id sz : Nat} {wr : Bool} {rows new : List (List V)} {cells : Array Value} {e : TypeId} (hj : hget s.h id = some (.arr wr sz rows)) (hpos : new ≠ [])
    (hrows : rowsAt (memOf w g).alone (rows ++ new) sz cells.toList) :
    ∃ g', g' = { g.grab w.heap.size (.ob hn id) with J := g.J.set id (w.heap.size, some (rows.length + new.length)) } ∧
    SR act hn ⟨s.t, hset s.h id (.arr wr sz (rows ++ new))⟩ a (w.alloc (.cells cells e)) g' ∧ Ext (mine act hn) w g (w.alloc (.cells cells e)) g' := by
  refine ⟨_, rfl, ?_⟩
  rw [hget_eq] at hj
  have ho := h.obj id _ hj
  obtain ⟨b0, hJ, h0, _⟩ := ho
  have hidJ : id < g.J.length := (List.getElem?_eq_some_iff.1 hJ).1
  have hnlen : new.length ≠ 0 := fun e => hpos (List.length_eq_zero_iff.1 e)
  have wf' := h.wf.grab (.cells cells e) (.ob hn id) h.hm (g.J.set id (w.heap.size, some (rows.length + new.length)))
  have le1 := le_grab h.wf (.cells cells e) (.ob hn id) g.J fun _ _ x => x
  have le2 : (memOf (w.alloc (.cells cells e)) { g.grab w.heap.size (.ob hn id) with J := g.J }).le (memOf (w.alloc (.cells cells e)) { g.grab w.heap.size (.ob hn id) with J := g.J.set id (w.heap.size, some (rows.length + new.length)) }) := by
    refine ⟨fun _ _ _ h => h, fun _ _ h => h, fun x y hx => ?_, fun x y l hx => ?_⟩
    · show (g.J.set id _)[x]? = _
      have hx' : g.J[x]? = some (y, none) := hx
      clear hx
      rw [J_set]; split
      · rename_i e1; subst e1; rw [hJ] at hx'; cases hx'
      · exact hx'
    · show ∃ b' l', (g.J.set id _)[x]? = _ ∧ _
      have hx' : g.J[x]? = some (y, some l) := hx
      clear hx
      rw [J_set]; split
      · rename_i e1; subst e1; rw [hJ] at hx'; cases hx'
        exact ⟨w.heap.size, rows.length + new.length, by rw [hJ]; rfl, by omega, fun e => by omega⟩
      · exact ⟨y, l, hx', Nat.le_refl _, fun _ => rfl⟩
  have le' := le1.trans le2
  have keep : ∀ b p, g.own b = some p → p ≠ .ob hn id → (w.alloc (.cells cells e)).heap[b]? = w.heap[b]? ∧ (g.grab w.heap.size (.ob hn id)).own b = g.own b ∧ (g.grab w.heap.size (.ob hn id)).K b = g.K b := by
    intro b p hp hne
    have h1 := h.wf.ne_new hp
    refine ⟨by rw [alloc_heap, if_neg h1], ?_, by simp [Gh.grab, h1]⟩
    have h2 : ¬ g.own b = some (.ob hn id) := by rw [hp]; intro e; cases e; exact hne rfl
    simp only [Gh.grab, h1, if_false, h2]
  refine ⟨?_, ?_⟩
  · refine h.setOb wf' le' (fun x hx => ?_) (by simp) (fun x p hp _ hne => keep x p hp hne) (Nat.le_refl _) (OR_mk (cells := cells) (e := e) (b := w.heap.size) ?_ h0 ?_ ?_ ?_ ?_ ?_)
    · show (g.J.set id _)[x]? = _
      rw [J_set, if_neg hx]
    · show (g.J.set id _)[id]? = _
      rw [J_set, if_pos rfl, hJ]; simp
    · simp [Gh.grab]
    · rw [alloc_heap, if_pos rfl]
    · exact hrows.mono le'.alone
    · simp [Gh.grab]
    · intro _; simp [Gh.grab]
  · refine ⟨by simp, fun b hb hp => ?_, le', Nat.le_refl _, rfl, rfl, rfl⟩
    have hne : b ≠ w.heap.size := by omega
    refine ⟨by rw [alloc_heap, if_neg hne], ?_, by simp [Gh.grab, hne]⟩
    simp only [Gh.grab, hne, if_false]
    split
    · rename_i e; exact absurd (.inr (.inr ⟨id, rfl⟩)) (hp _ e)
    · rfl

/-- A shared array's elements are written no more. -/
theorem SR.fix (h : SR act hn s a w g) {id sz : Nat} {wr : Bool} {rows : List (List V)} (hj : hget s.h id = some (.arr wr sz rows)) :
    ∃ g', g'.J = g.J ∧ g'.own = g.own ∧ g'.nx = g.nx ∧ SR act hn ⟨s.t, hset s.h id (.arr false sz rows)⟩ a w g' ∧ (∀ ok : Owner → Prop, ok (.ob hn id) → Ext ok w g w g') ∧
      (rows ≠ [] → ∃ b, g.J[id]? = some (b, some rows.length) ∧ VRr rows (memOf w g').alone b 0 sz) := by
  rw [hget_eq] at hj
  have ho := h.obj id _ hj
  obtain ⟨b, hJ, h0, h2⟩ := ho
  by_cases hr : rows = []
  · subst hr
    refine ⟨g, rfl, rfl, rfl, ?_, fun _ _ => Ext.refl _ _ _, fun e => absurd rfl e⟩
    exact h.setOb h.wf (Mem.le.refl _) (fun _ _ => rfl) rfl (fun _ _ _ _ _ => ⟨rfl, rfl, rfl⟩) (Nat.le_refl _) ⟨b, hJ, h0, fun e => absurd rfl e⟩
  · obtain ⟨b', cs, e, k1, k2, k3, k4, k5, k6⟩ := OR_arr (h.obj id _ hj) hr
    rw [hJ] at k1; cases k1
    let g' : Gh := { g with K := fun x => if x = b then rows.length * sz else g.K x }
    have le' : (memOf w g).le (memOf w g') := by
      refine ⟨fun x j c hx => ?_, fun _ _ x => x, fun _ _ x => x, fun x y l hx => ⟨y, l, hx, Nat.le_refl _, fun _ => rfl⟩⟩
      simp only [memOf, g'] at hx ⊢
      split at hx
      · rename_i hc
        rw [if_pos, hx]
        rcases hc with hc | hc
        · exact .inl hc
        · right; split
          · rename_i e1; subst e1; omega
          · exact hc
      · cases hx
    refine ⟨g', rfl, rfl, rfl, ?_, fun ok hok => ⟨Nat.le_refl _, fun x _ hp => ⟨rfl, rfl, ?_⟩, le', Nat.le_refl _, rfl, rfl, rfl⟩, fun _ => ⟨b, hJ, ?_⟩⟩
    · refine h.setOb ⟨h.wf.new, h.wf.inj, h.wf.nx⟩ le' (fun _ _ => rfl) rfl (fun x p hp _ hne => ⟨rfl, rfl, ?_⟩) (Nat.le_refl _) (OR_mk (cells := cs) (e := e) (b := b) hJ h0 k2 k3 (k4.mono le'.alone) (by simp [g']) (fun e => by cases e))
      simp only [g']; rw [if_neg]; intro e; subst e; rw [k2] at hp; cases hp; exact hne rfl
    · simp only [g']; rw [if_neg]; intro e; subst e; exact hp _ k2 hok
    · refine VRr.of_get _ fun i r hi => ?_
      obtain ⟨c1, c2⟩ := k4 i r hi
      refine ⟨c1, VRc.of_get _ fun j v hv => ?_⟩
      obtain ⟨c, d1, d2, d3⟩ := c2 j v hv
      refine ⟨c, ?_, VR.mono _ le'.alone d2, d3⟩
      have hil := (List.getElem?_eq_some_iff.1 hi).1
      have hjl := (List.getElem?_eq_some_iff.1 hv).1
      have hx : i * sz + j < rows.length * sz := by
        have : (i + 1) * sz ≤ rows.length * sz := Nat.mul_le_mul_right _ hil
        rw [Nat.add_mul] at this; omega
      simp only [memOf, Mem.alone, g']
      rw [if_pos (.inr (by simp; omega)), k3]
      simp only [cellAt]
      rw [← d1]; simp

end Go.Ab
