/- Stores, and what becomes of shared arrays; conditions: none. -/
import Derived.Laws.StructEq
import Derived.ChangeKeysEq
import Derived.Laws.Cover3
import Derived.Test.YtpalbaaghplhnaaGreatDoorG1
set_option linter.unusedVariables false
set_option linter.unusedSimpArgs false
namespace Go.Ab
variable {act hn : Nat} {s : St} {a : Act} {w : World} {g : Gh}
theorem VRl.take {l : List V} {m : Mem} {cs : List Value} (h : VRl l m cs) (n : Nat) : VRl (l.take n) m (cs.take n) := by
 induction l generalizing cs n with
 | nil => simp only [VRl] at h; subst h; simp [VRl]
 | cons v l ih =>
  simp only [VRl] at h
  obtain ⟨c, cs', rfl, h2, h3⟩ := h
  cases n with
  | zero => simp [VRl]
  | succ n => simp only [List.take_succ_cons, VRl]; exact ⟨c, cs'.take n, rfl, h2, ih h3 n⟩
theorem VRl.drop {l : List V} {m : Mem} {cs : List Value} (h : VRl l m cs) (n : Nat) : VRl (l.drop n) m (cs.drop n) := by
 induction l generalizing cs n with
 | nil => simp only [VRl] at h; subst h; simp [VRl]
 | cons v l ih =>
  have h0 := h
  simp only [VRl] at h
  obtain ⟨c, cs', rfl, h2, h3⟩ := h
  cases n with
  | zero => exact h0
  | succ n => simp only [List.drop_succ_cons]; exact ih h3 n
theorem VRl.splice {cells new : List V} {m : Mem} {cs news : List Value} (h : VRl cells m cs) (h' : VRl new m news) (off : Nat) :
  VRl (splice cells off new) m (cs.take off ++ news ++ cs.drop (off + news.length)) := by
 unfold Ab.splice
 rw [zcB, zbr, List.append_assoc, VRl.length new h']
 exact (h.take off).append (h'.append (h.drop _))
theorem VRl.ones {l : List V} {m : Mem} {cs : List Value} (h : VRl l m cs) : ∀ c ∈ cs, one c = true := by
 induction l generalizing cs with
 | nil => simp only [VRl] at h; subst h; simp
 | cons v l ih =>
  simp only [VRl] at h
  obtain ⟨c, cs', rfl, h2, h3⟩ := h
  intro x hx
  cases hx with
  | head => exact h2.2
  | tail _ hx => exact ih h3 x hx
theorem znx (c : Value) : c.oneCell' = one c := by cases c <;> rfl
theorem zfG {b : Nat} {cs cs' : Array Value} {e : TypeId} {p : Owner} (hown : g.own b = some p) (hb : w.heap[b]? = some (.cells cs e (0, 0))) (hs : cs'.size = cs.size)
  (hk : ∀ j, j < g.K b → cs'[j]? = cs[j]?) : (zn w g).le (zn (w.setRow b cs') g) where
 M x j c h := by
  simp only [zn] at h ⊢
  by_cases e1 : x = b
  ·subst e1
   rw [setRow_heap w x cs cs' e _ hb]
   rw [hb] at h
   split at h
   ·rename_i hc
    rw [if_pos hc]
    rcases hc with hc | hc
    ·rw [hown] at hc; cases hc
    ·simp only [zca] at h ⊢; rw [hk j hc]; exact h
   ·cases h
  ·rw [setRow_other w b x cs' e1]; exact h
 Z x n h := by
  simp only [zn] at h ⊢
  by_cases e1 : x = b
  ·subst e1
   rw [setRow_heap w x cs cs' e _ hb]
   rw [hb] at h
   simp only [zds] at h ⊢
   rw [hs]; exact h
  ·rw [setRow_other w b x cs' e1]; exact h
 J id x h := h
 L id x l h := ⟨x, l, h, Nat.le_refl _, fun _ => rfl⟩
theorem WF.setRow (wf : WF w g) (b : Nat) (cs : Array Value) : WF (w.setRow b cs) g := ⟨fun x hx => wf.new x (by simpa using hx), wf.inj, wf.nx⟩
theorem Ext.setRow {ok : Owner → Prop} {b : Nat} {cs cs' : Array Value} {e : TypeId} {p : Owner} (hown : g.own b = some p) (hok : ok p) (hb : w.heap[b]? = some (.cells cs e (0, 0))) (hs : cs'.size = cs.size)
  (hk : ∀ j, j < g.K b → cs'[j]? = cs[j]?) : Ext ok w g (w.setRow b cs') g :=
 ⟨by simp, fun x _ hp => ⟨setRow_other w b x cs' (fun e => by subst e; exact hp p hown hok), rfl, rfl⟩, zfG hown hb hs hk, Nat.le_refl _, rfl, rfl, rfl, Nat.le_refl _⟩
theorem zcf (cs : Array Value) (off : Nat) (news : List Value) (h : off + news.length ≤ cs.size) :
  (cs.toList.take off ++ news ++ cs.toList.drop (off + news.length)).toArray.size = cs.size := by
 simp; omega
theorem SR.storeSlot (h : SR act hn s a w g) {j : Nat} {cells new : List V} {news : List Value} (hj : nth s.t j = .box cells) (off : Nat) (hf : off + new.length ≤ cells.length) (hv : VRl new (zn w g) news) :
  ∃ b cs e, a.tmps.getD j Go.undef = .pointer (some ⟨b, 0, none⟩) ∧ g.own b = some (.slot act j) ∧ w.heap[b]? = some (.cells cs e (0, 0)) ∧ off + news.length ≤ cs.size ∧
   SR act hn ⟨upd s.t j (.box (splice cells off new)), s.h⟩ a (w.setRow b (cs.toList.take off ++ news ++ cs.toList.drop (off + news.length)).toArray) g ∧
   Ext (zbd act hn) w g (w.setRow b (cs.toList.take off ++ news ++ cs.toList.drop (off + news.length)).toArray) g := by
 have ht := h.slot j
 rw [hj] at ht
 obtain ⟨b, cs, e, h1, h2, h3, h4, h5⟩ := ht
 have hlen := VRl.length _ h5
 have hn' := VRl.length _ hv
 have hfit : off + news.length ≤ cs.size := by rw [← hn']; simp at hlen; omega
 have hk : ∀ x, x < g.K b → (cs.toList.take off ++ news ++ cs.toList.drop (off + news.length)).toArray[x]? = cs[x]? := fun x hx => by omega
 have le' := zfG (w := w) (g := g) h2 h4 (zcf cs off news hfit) hk
 refine ⟨b, cs, e, h1, h2, h4, hfit, ?_, Ext.setRow h2 (.inl ⟨j, rfl⟩) h4 (zcf cs off news hfit) hk⟩
 have keep : ∀ x p, g.own x = some p → p ≠ .slot act j → (w.setRow b (cs.toList.take off ++ news ++ cs.toList.drop (off + news.length)).toArray).heap[x]? = w.heap[x]? ∧ g.own x = g.own x ∧ g.K x = g.K x := by
  intro x p hp hne
  refine ⟨setRow_other w b x _ ?_, rfl, rfl⟩
  intro e; subst e; rw [h2] at hp; cases hp; exact hne rfl
 refine { wf := h.wf.setRow _ _, size := by simp only [zfZ]; exact h.size, tmp := ?_, jl := h.jl, obj := ?_, dfr := ?_, an := h.an, hm := h.hm }
 ·intro i u hu
  simp only [zfe] at hu
  by_cases hid : i = j
  ·subst hid
   simp only [if_true] at hu
   cases hs : s.t[i]? with
   | none => rw [hs] at hu; cases hu
   | some u' =>
    rw [hs] at hu
    cases hu
    obtain ⟨c', hc', _⟩ := h.tmp i u' hs
    have : c' = .pointer (some ⟨b, 0, none⟩) := by rw [← h1]; simp [Array.getD_eq_getD_getElem?, hc']
    refine ⟨c', hc', b, _, e, this, h2, h3, setRow_heap w b cs _ e _ h4, ?_⟩
    have := (h5.splice hv off)
    exact VRl.mono _ le' this
  ·rw [if_neg hid] at hu
   obtain ⟨c, hc, ht⟩ := h.tmp i u hu
   refine ⟨c, hc, ?_⟩
   cases u with
   | box cells' =>
    obtain ⟨b', cs', e', k1, k2, k3, k4, k5⟩ := ht
    exact ⟨b', cs', e', k1, k2, k3, by rw [(keep b' _ k2 (by intro e; cases e; exact hid rfl)).1, k4], VRl.mono _ le' k5⟩
   | adr j' off' => exact ht
   | _ => exact VR.mono _ le' ht
 ·intro id ob ho
  exact (h.obj id ob ho).frame rfl le' fun x hx => keep x _ hx (by intro e; cases e)
 ·intro x hx
  obtain ⟨D, k1, k2, k3⟩ := h.dfr x hx
  exact ⟨D, k1, k2, by rw [(keep D _ k2 (by intro e; cases e)).1, k3]⟩
theorem SR.setOb (h : SR act hn s a w g) {id : Nat} {ob : Ob} {w' : World} {g' : Gh} (wf : WF w' g') (le : (zn w g).le (zn w' g')) (hJ : ∀ x, x ≠ id → g'.J[x]? = g.J[x]?) (hJl : g'.J.length = g.J.length)
  (keep : ∀ x p, g.own x = some p → zbd act hn p → p ≠ .ob hn id → w'.heap[x]? = w.heap[x]? ∧ g'.own x = g.own x ∧ g'.K x = g.K x) (nx : g.nx ≤ g'.nx)
  (ho : OR w' g' hn id ob) : SR act hn ⟨s.t, zah s.h id ob⟩ a w' g' := by
 refine { wf := wf, size := h.size, tmp := ?_, jl := ?_, obj := ?_, dfr := ?_, an := Nat.lt_of_lt_of_le h.an nx, hm := Nat.lt_of_lt_of_le h.hm nx }
 ·intro i v hv
  obtain ⟨c, hc, ht⟩ := h.tmp i v hv
  exact ⟨c, hc, ht.frame le fun b j e => keep b _ e (.inl ⟨j, rfl⟩) (by intro e; cases e)⟩
 ·simp only [zdZ, List.length_set]; rw [hJl]; exact h.jl
 ·intro x ob' ho'
  simp only [zdZ, List.getElem?_set] at ho'
  split at ho'
  ·rename_i e
   subst e
   split at ho'
   ·cases ho'; exact ho
   ·cases ho'
  ·rename_i e
   exact (h.obj x ob' ho').frame (hJ x fun e' => e e'.symm) le fun b hb => keep b _ hb (.inr (.inr ⟨x, rfl⟩)) (by intro e'; cases e'; exact e rfl)
 ·intro x hx
  obtain ⟨D, h1, h2, h3⟩ := h.dfr x hx
  obtain ⟨k1, k2, _⟩ := keep D _ h2 (.inr (.inl ⟨D, rfl⟩)) (by intro e; cases e)
  exact ⟨D, h1, by rw [k2, h2], by rw [k1, h3]⟩
theorem SR.storeOb (h : SR act hn s a w g) {id : Nat} {cells new : List V} {news : List Value} (hj : zav s.h id = some (.cells cells)) (off : Nat) (hf : off + new.length ≤ cells.length) (hv : VRl new (zn w g) news) :
  ∃ b cs e, g.J[id]? = some (b, none) ∧ g.own b = some (.ob hn id) ∧ w.heap[b]? = some (.cells cs e (0, 0)) ∧ off + news.length ≤ cs.size ∧
   SR act hn ⟨s.t, zah s.h id (.cells (splice cells off new))⟩ a (w.setRow b (cs.toList.take off ++ news ++ cs.toList.drop (off + news.length)).toArray) g ∧
   Ext (zbd act hn) w g (w.setRow b (cs.toList.take off ++ news ++ cs.toList.drop (off + news.length)).toArray) g := by
 rw [zaG] at hj
 obtain ⟨b, cs, e, h1, h2, h3, h4, h5⟩ := h.obj id _ hj
 have hlen := VRl.length _ h5
 have hn' := VRl.length _ hv
 have hfit : off + news.length ≤ cs.size := by rw [← hn']; simp at hlen; omega
 have hk : ∀ x, x < g.K b → (cs.toList.take off ++ news ++ cs.toList.drop (off + news.length)).toArray[x]? = cs[x]? := fun x hx => by omega
 have le' := zfG (w := w) (g := g) h2 h4 (zcf cs off news hfit) hk
 refine ⟨b, cs, e, h1, h2, h4, hfit, ?_, Ext.setRow h2 (.inr (.inr ⟨id, rfl⟩)) h4 (zcf cs off news hfit) hk⟩
 refine h.setOb (h.wf.setRow _ _) le' (fun _ _ => rfl) rfl ?_ (Nat.le_refl _) ⟨b, _, e, h1, h2, h3, setRow_heap w b cs _ e _ h4, VRl.mono _ le' (h5.splice hv off)⟩
 intro x p hp _ hne
 refine ⟨setRow_other w b x _ ?_, rfl, rfl⟩
 intro e; subst e; rw [h2] at hp; cases hp; exact hne rfl
mutual
theorem VR.alone : ∀ (v : V) {m m' : Mem} {c : Value}, za6 v = true → m.M = m'.M → m.Z = m'.Z → VR v m c → VR v m' c
 | .undef, _, _, _, _, _, _, _ => by simp only [VR]
 | .skip, _, _, _, _, _, _, h => by simpa only [VR] using h
 | .bool _, _, _, _, _, _, _, h => by simpa only [VR] using h
 | .int _ _, _, _, _, _, _, _, h => by simpa only [VR] using h
 | .str _, _, _, _, _, _, _, h => by simpa only [VR] using h
 | .nilp, _, _, _, _, _, _, h => by simpa only [VR] using h
 | .ptr _ _, _, _, _, hr, _, _, _ => by simp [za6] at hr
 | .rptr _ _, _, _, _, hr, _, _, _ => by simp [za6] at hr
 | .eptr _ _ _ _ _, _, _, _, hr, _, _, _ => by simp [za6] at hr
 | .adr _ _, _, _, _, hr, _, _, _ => by simp [za6] at hr
 | .box _, _, _, _, hr, _, _, _ => by simp [za6] at hr
 | .arr _ _ _, _, _, _, hr, _, _, _ => by simp [za6] at hr
 | .map _, _, _, _, hr, _, _, _ => by simp [za6] at hr
 | .nilmap, _, _, _, _, _, _, h => by simpa only [VR] using h
 | .nilfn, _, _, _, _, _, _, h => by simpa only [VR] using h
 | .nili, _, _, _, _, _, _, h => by simpa only [VR] using h
 | .slice fl rows, m, m', c, _, h1, h2, h => by
  have e : m.alone = m'.alone := by simp [Mem.alone, h1, h2]
  simp only [VR] at h ⊢
  rw [← e]; exact h
 | .fn f first cap, m, m', c, hr, h1, h2, h => by
  simp only [za6, Bool.and_eq_true] at hr
  simp only [VR] at h ⊢
  obtain ⟨f', first', cap', k1, k2, k3, k4⟩ := h
  refine ⟨f', first', cap', k1, VRs.alone first hr.1.2 h1 h2 k2, VRs.alone cap hr.2 h1 h2 k3, ?_⟩
  cases f with
  | yield id => simp at hr
  | _ => exact k4
 | .iface t v, m, m', c, hr, h1, h2, h => by
  simp only [za6] at hr
  simp only [VR] at h ⊢
  obtain ⟨c', k1, k2⟩ := h
  exact ⟨c', k1, VR.alone v hr h1 h2 k2⟩
 | .agg cells, m, m', c, hr, h1, h2, h => by
  simp only [za6] at hr
  simp only [VR] at h ⊢
  obtain ⟨cs, k1, k2⟩ := h
  exact ⟨cs, k1, VRl.alone cells hr h1 h2 k2⟩
 | .tuple vs, m, m', c, hr, h1, h2, h => by
  simp only [za6] at hr
  simp only [VR] at h ⊢
  obtain ⟨cs, k1, k2⟩ := h
  exact ⟨cs, k1, VRs.alone vs hr h1 h2 k2⟩
theorem VRl.alone : ∀ (l : List V) {m m' : Mem} {cs : List Value}, zaM l = true → m.M = m'.M → m.Z = m'.Z → VRl l m cs → VRl l m' cs
 | [], _, _, _, _, _, _, h => by simpa only [VRl] using h
 | v :: l, m, m', cs, hr, h1, h2, h => by
  simp only [zaM, Bool.and_eq_true] at hr
  simp only [VRl] at h ⊢
  obtain ⟨c, cs', k1, ⟨k2, k4⟩, k3⟩ := h
  exact ⟨c, cs', k1, ⟨VR.alone v hr.1 h1 h2 k2, k4⟩, VRl.alone l hr.2 h1 h2 k3⟩
theorem VRs.alone : ∀ (l : List V) {m m' : Mem} {cs : List Value}, zaM l = true → m.M = m'.M → m.Z = m'.Z → VRs l m cs → VRs l m' cs
 | [], _, _, _, _, _, _, h => by simpa only [VRs] using h
 | v :: l, m, m', cs, hr, h1, h2, h => by
  simp only [zaM, Bool.and_eq_true] at hr
  simp only [VRs] at h ⊢
  obtain ⟨c, cs', k1, k2, k3⟩ := h
  exact ⟨c, cs', k1, VR.alone v hr.1 h1 h2 k2, VRs.alone l hr.2 h1 h2 k3⟩
end
mutual
theorem VR.beside : ∀ (v : V) {m m' : Mem} {c : Value}, m.J = [] → m.M = m'.M → m.Z = m'.Z → VR v m c → VR v m' c
 | .undef, _, _, _, _, _, _, _ => by simp only [VR]
 | .skip, _, _, _, _, _, _, h => by simpa only [VR] using h
 | .bool _, _, _, _, _, _, _, h => by simpa only [VR] using h
 | .int _ _, _, _, _, _, _, _, h => by simpa only [VR] using h
 | .str _, _, _, _, _, _, _, h => by simpa only [VR] using h
 | .nilp, _, _, _, _, _, _, h => by simpa only [VR] using h
 | .ptr _ _, _, _, _, hj, _, _, h => by simp only [VR] at h; obtain ⟨b, h1, _⟩ := h; rw [hj] at h1; simp at h1
 | .rptr row off, m, m', c, hj, h1, h2, h => by
  have e : m.alone = m'.alone := by simp [Mem.alone, h1, h2]
  simp only [VR] at h ⊢
  rw [← e]; exact h
 | .eptr _ _ _ _ _, _, _, _, hj, _, _, h => by simp only [VR] at h; obtain ⟨b, l, ad, h1, _⟩ := h; rw [hj] at h1; simp at h1
 | .adr _ _, _, _, _, _, _, _, h => by simp only [VR] at h
 | .box _, _, _, _, _, _, _, h => by simp only [VR] at h
 | .arr _ _ _, _, _, _, hj, _, _, h => by simp only [VR] at h; obtain ⟨x, y, b, l, h1, _⟩ := h; rw [hj] at h1; simp at h1
 | .map _, _, _, _, hj, _, _, h => by simp only [VR] at h; obtain ⟨b, h1, _⟩ := h; rw [hj] at h1; simp at h1
 | .nilmap, _, _, _, _, _, _, h => by simpa only [VR] using h
 | .nilfn, _, _, _, _, _, _, h => by simpa only [VR] using h
 | .nili, _, _, _, _, _, _, h => by simpa only [VR] using h
 | .slice fl rows, m, m', c, _, h1, h2, h => by
  have e : m.alone = m'.alone := by simp [Mem.alone, h1, h2]
  simp only [VR] at h ⊢
  rw [← e]; exact h
 | .fn f first cap, m, m', c, hj, h1, h2, h => by
  simp only [VR] at h ⊢
  obtain ⟨f', first', cap', k1, k2, k3, k4⟩ := h
  refine ⟨f', first', cap', k1, VRs.beside first hj h1 h2 k2, VRs.beside cap hj h1 h2 k3, ?_⟩
  cases f with
  | yield id => obtain ⟨b, h1, _⟩ := k4; rw [hj] at h1; simp at h1
  | _ => exact k4
 | .iface t v, m, m', c, hj, h1, h2, h => by
  simp only [VR] at h ⊢
  obtain ⟨c', k1, k2⟩ := h
  exact ⟨c', k1, VR.beside v hj h1 h2 k2⟩
 | .agg cells, m, m', c, hj, h1, h2, h => by
  simp only [VR] at h ⊢
  obtain ⟨cs, k1, k2⟩ := h
  exact ⟨cs, k1, VRl.beside cells hj h1 h2 k2⟩
 | .tuple vs, m, m', c, hj, h1, h2, h => by
  simp only [VR] at h ⊢
  obtain ⟨cs, k1, k2⟩ := h
  exact ⟨cs, k1, VRs.beside vs hj h1 h2 k2⟩
theorem VRl.beside : ∀ (l : List V) {m m' : Mem} {cs : List Value}, m.J = [] → m.M = m'.M → m.Z = m'.Z → VRl l m cs → VRl l m' cs
 | [], _, _, _, _, _, _, h => by simpa only [VRl] using h
 | v :: l, m, m', cs, hj, h1, h2, h => by
  simp only [VRl] at h ⊢
  obtain ⟨c, cs', k1, ⟨k2, k4⟩, k3⟩ := h
  exact ⟨c, cs', k1, ⟨VR.beside v hj h1 h2 k2, k4⟩, VRl.beside l hj h1 h2 k3⟩
theorem VRs.beside : ∀ (l : List V) {m m' : Mem} {cs : List Value}, m.J = [] → m.M = m'.M → m.Z = m'.Z → VRs l m cs → VRs l m' cs
 | [], _, _, _, _, _, _, h => by simpa only [VRs] using h
 | v :: l, m, m', cs, hj, h1, h2, h => by
  simp only [VRs] at h ⊢
  obtain ⟨c, cs', k1, k2, k3⟩ := h
  exact ⟨c, cs', k1, VR.beside v hj h1 h2 k2, VRs.beside l hj h1 h2 k3⟩
end
def zaO (m : Mem) (rows : List (List V)) (sz : Nat) (cells : List Value) : Prop :=
 ∀ (i : Nat) (r : List V), rows[i]? = some r → r.length = sz ∧ ∀ (j : Nat) (v : V), r[j]? = some v → ∃ c, cells[i * sz + j]? = some c ∧ VR v m c ∧ one c = true
theorem zaO.mono {m m' : Mem} {rows : List (List V)} {sz : Nat} {cells : List Value} (h : zaO m rows sz cells) (le : m.le m') : zaO m' rows sz cells := fun i r hi =>
 ⟨(h i r hi).1, fun j v hv => by obtain ⟨c, c1, c2, c3⟩ := (h i r hi).2 j v hv; exact ⟨c, c1, VR.mono _ le c2, c3⟩⟩
theorem zaO.cut {m : Mem} {rows : List (List V)} {sz : Nat} {cells : List Value} (h : zaO m rows sz cells) : rows.length * sz ≤ cells.length := by
 cases hr : rows.length with
 | zero => omega
 | succ n =>
  rcases Nat.eq_zero_or_pos sz with h0 | h0
  ·subst h0; omega
  ·have hn : n < rows.length := by omega
   obtain ⟨g1, g2⟩ := h n rows[n] (List.getElem?_eq_getElem hn)
   obtain ⟨c, c1, _⟩ := g2 (sz - 1) (rows[n][sz - 1]'(by omega)) (List.getElem?_eq_getElem _)
   have := (List.getElem?_eq_some_iff.1 c1).1
   rw [Nat.add_mul]; omega
theorem zaO.congr {m : Mem} {rows : List (List V)} {sz : Nat} {cells cells' : List Value} (h : zaO m rows sz cells) (he : ∀ x, x < rows.length * sz → cells'[x]? = cells[x]?) : zaO m rows sz cells' := fun i r hi => by
 obtain ⟨g1, g2⟩ := h i r hi
 refine ⟨g1, fun j v hv => ?_⟩
 obtain ⟨c, c1, c2⟩ := g2 j v hv
 have hil := (List.getElem?_eq_some_iff.1 hi).1
 have hjl := (List.getElem?_eq_some_iff.1 hv).1
 have : i * sz + j < rows.length * sz := by
  have : (i + 1) * sz ≤ rows.length * sz := Nat.mul_le_mul_right _ hil
  rw [Nat.add_mul] at this; omega
 exact ⟨c, by rw [he _ this]; exact c1, c2⟩
theorem zaO.append {m : Mem} {rows new : List (List V)} {sz : Nat} {cells news tail : List Value} (h : zaO m rows sz cells) (h' : zaO m new sz news) :
  zaO m (rows ++ new) sz (cells.take (rows.length * sz) ++ news ++ tail) := by
 have hc := h.cut
 have hc' := h'.cut
 have htl : (cells.take (rows.length * sz)).length = rows.length * sz := by simp; omega
 intro i r hi
 by_cases hl : i < rows.length
 ·rw [List.getElem?_append_left hl] at hi
  obtain ⟨g1, g2⟩ := h i r hi
  refine ⟨g1, fun j v hv => ?_⟩
  obtain ⟨c, c1, c2⟩ := g2 j v hv
  have hjl := (List.getElem?_eq_some_iff.1 hv).1
  have : i * sz + j < rows.length * sz := by
   have : (i + 1) * sz ≤ rows.length * sz := Nat.mul_le_mul_right _ hl
   rw [Nat.add_mul] at this; omega
  refine ⟨c, ?_, c2⟩
  rw [List.append_assoc, List.getElem?_append_left (by omega), List.getElem?_take, if_pos this]; exact c1
 ·rw [List.getElem?_append_right (by omega)] at hi
  obtain ⟨g1, g2⟩ := h' (i - rows.length) r hi
  refine ⟨g1, fun j v hv => ?_⟩
  obtain ⟨c, c1, c2⟩ := g2 j v hv
  have hin := (List.getElem?_eq_some_iff.1 c1).1
  refine ⟨c, ?_, c2⟩
  have e : i * sz + j = rows.length * sz + ((i - rows.length) * sz + j) := by
   obtain ⟨d, rfl⟩ : ∃ d, i = rows.length + d := ⟨i - rows.length, by omega⟩
   rw [Nat.add_sub_cancel_left, Nat.add_mul]; omega
  rw [List.append_assoc, e, List.getElem?_append_right (by omega), htl, Nat.add_sub_cancel_left, List.getElem?_append_left hin]; exact c1
theorem zaO.set {m : Mem} {rows : List (List V)} {sz : Nat} {cells news : List Value} {new : List V} (h : zaO m rows sz cells) (hn : VRl new m news) (i off : Nat) (hi : i < rows.length) (hf : off + new.length ≤ sz) :
  zaO m (rows.set i (splice (rows.getD i []) off new)) sz (cells.take (i * sz + off) ++ news ++ cells.drop (i * sz + off + news.length)) := by
 have hc := h.cut
 have hnl := VRl.length _ hn
 have hrow : (i + 1) * sz ≤ rows.length * sz := Nat.mul_le_mul_right _ hi
 rw [Nat.add_mul] at hrow
 have htl : (cells.take (i * sz + off)).length = i * sz + off := by simp; omega
 obtain ⟨g1, g2⟩ := h i rows[i] (List.getElem?_eq_getElem hi)
 intro x r hx
 simp only [List.getElem?_set] at hx
 have cell : ∀ y, cells[y]? = (cells.take (i * sz + off) ++ news ++ cells.drop (i * sz + off + news.length))[y]? ∨ (i * sz + off ≤ y ∧ y < i * sz + off + news.length) := by
  intro y
  rcases Nat.lt_or_ge y (i * sz + off) with hy | hy
  ·left; rw [List.append_assoc, List.getElem?_append_left (by omega), List.getElem?_take, if_pos hy]
  ·rcases Nat.lt_or_ge y (i * sz + off + news.length) with hy2 | hy2
   ·right; omega
   ·left
    rw [List.append_assoc, List.getElem?_append_right (by omega), htl, List.getElem?_append_right (by omega), List.getElem?_drop]
    congr 1; omega
 split at hx
 ·rename_i e
  subst e
  ·cases hx
   have hlen : (splice (rows.getD i []) off new).length = sz := by
    unfold Ab.splice
    rw [zcB, zbr]
    simp [List.getD_eq_getElem?_getD, List.getElem?_eq_getElem hi]
    omega
   refine ⟨hlen, fun j v hv => ?_⟩
   have hsp : (splice (rows.getD i []) off new)[j]? = if j < off then rows[i][j]? else if j < off + new.length then new[j - off]? else rows[i][j]? := by
    unfold Ab.splice
    rw [zcB, zbr]
    simp only [List.getD_eq_getElem?_getD, List.getElem?_eq_getElem hi, Option.getD_some]
    have hto : (rows[i].take off).length = off := by simp; omega
    split
    ·rename_i hj; rw [List.getElem?_append_left (by omega), List.getElem?_take, if_pos hj]
    ·rename_i hj
     rw [List.getElem?_append_right (by omega), hto]
     split
     ·rename_i hj2; rw [List.getElem?_append_left (by omega)]
     ·rename_i hj2; rw [List.getElem?_append_right (by omega), List.getElem?_drop]; congr 1; omega
   rw [hsp] at hv
   have old : ∀ (_ : ¬ (off ≤ j ∧ j < off + new.length)), rows[i][j]? = some v → ∃ c, (cells.take (i * sz + off) ++ news ++ cells.drop (i * sz + off + news.length))[i * sz + j]? = some c ∧ VR v m c ∧ one c = true := by
    intro hno hv
    obtain ⟨c, c1, c2⟩ := g2 j v hv
    refine ⟨c, ?_, c2⟩
    rcases cell (i * sz + j) with h1 | h1
    ·rw [← h1]; exact c1
    ·exact absurd (by omega) hno
   split at hv
   ·exact old (by omega) hv
   ·split at hv
    ·obtain ⟨c, c1, c2⟩ := VRl.get _ hn _ v hv
     have hin := (List.getElem?_eq_some_iff.1 c1).1
     refine ⟨c, ?_, c2⟩
     rw [List.append_assoc, List.getElem?_append_right (by omega), htl, List.getElem?_append_left (by omega), ← c1]
     congr 1; omega
    ·exact old (by omega) hv
 ·rename_i e
  obtain ⟨k1, k2⟩ := h x r hx
  refine ⟨k1, fun j v hv => ?_⟩
  obtain ⟨c, c1, c2⟩ := k2 j v hv
  have hjl := (List.getElem?_eq_some_iff.1 hv).1
  refine ⟨c, ?_, c2⟩
  rcases cell (x * sz + j) with h1 | h1
  ·rw [← h1]; exact c1
  ·exfalso
   rcases Nat.lt_or_ge x i with hxi | hxi
   ·have : (x + 1) * sz ≤ i * sz := Nat.mul_le_mul_right _ hxi
    rw [Nat.add_mul] at this; omega
   ·have : (i + 1) * sz ≤ x * sz := Nat.mul_le_mul_right _ (by omega)
    rw [Nat.add_mul] at this; omega
theorem zgq {id : Nat} {wr : Bool} {sz : Nat} {rows : List (List V)} (h : OR w g hn id (.arr wr sz rows)) (hr : rows ≠ []) :
  ∃ b cells e, g.J[id]? = some (b, some rows.length) ∧ g.own b = some (.ob hn id) ∧ w.heap[b]? = some (.cells cells e (0, 0)) ∧ zaO (zn w g).alone rows sz cells.toList ∧ g.K b ≤ rows.length * sz ∧ (wr = true → g.K b = 0) := by
 obtain ⟨b, h1, _, h2⟩ := h
 obtain ⟨cells, e, g1, g2, g3, g4, g5⟩ := h2 hr
 refine ⟨b, cells, e, h1, g1, g2, fun i r hi => ?_, g4, g5⟩
 obtain ⟨k1, k2⟩ := g3 i r hi
 exact ⟨k1, fun j v hv => by obtain ⟨c, c1, c2⟩ := k2 j v hv; exact ⟨c, by simpa using c1, c2⟩⟩
theorem zkO {id : Nat} {wr : Bool} {sz b : Nat} {rows : List (List V)} {cells : Array Value} {e : TypeId} (h1 : g.J[id]? = some (b, some rows.length)) (h0 : 0 < sz) (h2 : g.own b = some (.ob hn id)) (h3 : w.heap[b]? = some (.cells cells e (0, 0)))
  (h4 : zaO (zn w g).alone rows sz cells.toList) (h5 : g.K b ≤ rows.length * sz) (h6 : wr = true → g.K b = 0) : OR w g hn id (.arr wr sz rows) :=
 ⟨b, h1, h0, fun _ => ⟨cells, e, h2, h3, fun i r hi => ⟨(h4 i r hi).1, fun j v hv => by obtain ⟨c, c1, c2⟩ := (h4 i r hi).2 j v hv; exact ⟨c, by simpa using c1, c2⟩⟩, h5, h6⟩⟩
theorem SR.storeArr (h : SR act hn s a w g) {id sz : Nat} {rows : List (List V)} {new : List V} {news : List Value} (hj : zav s.h id = some (.arr true sz rows)) (i off : Nat) (hi : i < rows.length) (hf : off + new.length ≤ sz)
  (hv : VRl new (zn w g).alone news) :
  ∃ b cs e, g.J[id]? = some (b, some rows.length) ∧ g.own b = some (.ob hn id) ∧ w.heap[b]? = some (.cells cs e (0, 0)) ∧ (i * sz + off) + news.length ≤ cs.size ∧
   SR act hn ⟨s.t, zah s.h id (.arr true sz (rows.set i (splice (rows.getD i []) off new)))⟩ a (w.setRow b (cs.toList.take (i * sz + off) ++ news ++ cs.toList.drop ((i * sz + off) + news.length)).toArray) g ∧
   Ext (zbd act hn) w g (w.setRow b (cs.toList.take (i * sz + off) ++ news ++ cs.toList.drop ((i * sz + off) + news.length)).toArray) g := by
 rw [zaG] at hj
 have ho := h.obj id _ hj
 have h0 : 0 < sz := by obtain ⟨_, _, h0, _⟩ := ho; exact h0
 obtain ⟨b, cs, e, h1, h2, h4, h5, h6, h7⟩ := zgq ho (by intro e; rw [e] at hi; simp at hi)
 have hK : g.K b = 0 := h7 rfl
 have hcut := h5.cut
 have hn' := VRl.length _ hv
 have hrow : (i + 1) * sz ≤ rows.length * sz := Nat.mul_le_mul_right _ hi
 rw [Nat.add_mul] at hrow
 have hfit : (i * sz + off) + news.length ≤ cs.size := by simp at hcut; omega
 have hk : ∀ x, x < g.K b → (cs.toList.take (i * sz + off) ++ news ++ cs.toList.drop ((i * sz + off) + news.length)).toArray[x]? = cs[x]? := fun x hx => by omega
 have le' := zfG (w := w) (g := g) h2 h4 (zcf cs _ news hfit) hk
 refine ⟨b, cs, e, h1, h2, h4, hfit, ?_, Ext.setRow h2 (.inr (.inr ⟨id, rfl⟩)) h4 (zcf cs _ news hfit) hk⟩
 refine h.setOb (h.wf.setRow _ _) le' (fun _ _ => rfl) rfl ?_ (Nat.le_refl _) (zkO (cells := (cs.toList.take (i * sz + off) ++ news ++ cs.toList.drop ((i * sz + off) + news.length)).toArray) (e := e) (b := b) ?_ h0 h2 ?_ ?_ ?_ ?_)
 ·intro x p hp _ hne
  refine ⟨setRow_other w b x _ ?_, rfl, rfl⟩
  intro e; subst e; rw [h2] at hp; cases hp; exact hne rfl
 ·rw [List.length_set]; exact h1
 ·exact setRow_heap w b cs _ e _ h4
 ·exact (h5.set hv i off hi hf).mono le'.alone
 ·omega
 ·intro _; exact hK
theorem zfu {J : List (Nat × Option Nat)} {id : Nat} {x : Nat × Option Nat} (y : Nat) : (J.set id x)[y]? = if y = id then (J[y]?).map (fun _ => x) else J[y]? := by
 rw [List.getElem?_set]
 by_cases e : id = y
 ·subst e
  by_cases hl : id < J.length
  ·simp [hl]
  ·simp [hl]
 ·have e' : ¬ y = id := fun h => e h.symm
  simp [e, e']
theorem le_J {w : World} {g : Gh} (J' : List (Nat × Option Nat)) (h1 : ∀ (id b : Nat), g.J[id]? = some (b, none) → J'[id]? = some (b, none))
  (h2 : ∀ (id b l : Nat), g.J[id]? = some (b, some l) → ∃ b' l', J'[id]? = some (b', some l') ∧ l ≤ l' ∧ (l' = l → b' = b)) : (zn w g).le (zn w { g with J := J' }) :=
 ⟨fun _ _ _ h => h, fun _ _ h => h, h1, h2⟩
theorem SR.appendIn (h : SR act hn s a w g) {id sz cap : Nat} {wr : Bool} {rows new : List (List V)} {news : List Value} (hj : zav s.h id = some (.arr wr sz rows)) (hr : rows ≠ []) (hnew : zaO (zn w g).alone new sz news)
  (hnl : news.length = new.length * sz) (hpos : new ≠ []) {b : Nat} {cs : Array Value} {e : TypeId} (hJ : g.J[id]? = some (b, some rows.length)) (hb : w.heap[b]? = some (.cells cs e (0, 0))) (hcap : rows.length + new.length ≤ cap) (hcs : cap * sz ≤ cs.size) :
  SR act hn ⟨s.t, zah s.h id (.arr wr sz (rows ++ new))⟩ a (w.setRow b (cs.toList.take (rows.length * sz) ++ news ++ cs.toList.drop (rows.length * sz + news.length)).toArray) { g with J := g.J.set id (b, some (rows.length + new.length)) } ∧
  Ext (zbd act hn) w g (w.setRow b (cs.toList.take (rows.length * sz) ++ news ++ cs.toList.drop (rows.length * sz + news.length)).toArray) { g with J := g.J.set id (b, some (rows.length + new.length)) } ∧
  zds (w.setRow b (cs.toList.take (rows.length * sz) ++ news ++ cs.toList.drop (rows.length * sz + news.length)).toArray).heap[b]? = some cs.size := by
 rw [zaG] at hj
 have ho := h.obj id _ hj
 have h0 : 0 < sz := by obtain ⟨_, _, h0, _⟩ := ho; exact h0
 obtain ⟨b', cs', e', h1, h2, h4, h5, h6, h7⟩ := zgq ho hr
 have eb : b' = b := by rw [hJ] at h1; cases h1; rfl
 subst eb
 rw [hb] at h4
 cases h4
 have hfit : rows.length * sz + news.length ≤ cs.size := by
  have := Nat.mul_le_mul_right sz hcap
  rw [Nat.add_mul] at this; omega
 have hk : ∀ x, x < g.K b' → (cs.toList.take (rows.length * sz) ++ news ++ cs.toList.drop (rows.length * sz + news.length)).toArray[x]? = cs[x]? := fun x hx => by
  have hx2 : x < rows.length * sz := by omega
  have hcut := h5.cut
  simp only [List.getElem?_toArray]
  rw [List.append_assoc, List.getElem?_append_left (by simp; omega), List.getElem?_take, if_pos hx2]; simp
 have le1 := zfG (w := w) (g := g) h2 hb (zcf cs _ news hfit) hk
 have hidJ : id < g.J.length := (List.getElem?_eq_some_iff.1 hJ).1
 have hnlen : new.length ≠ 0 := fun e => hpos (List.length_eq_zero_iff.1 e)
 have le2 : (zn (w.setRow b' (cs.toList.take (rows.length * sz) ++ news ++ cs.toList.drop (rows.length * sz + news.length)).toArray) g).le (zn (w.setRow b' (cs.toList.take (rows.length * sz) ++ news ++ cs.toList.drop (rows.length * sz + news.length)).toArray) { g with J := g.J.set id (b', some (rows.length + new.length)) }) := by
  refine le_J _ (fun x y hx => ?_) (fun x y l hx => ?_)
  ·rw [zfu]; split
   ·rename_i e1; subst e1; rw [hJ] at hx; cases hx
   ·exact hx
  ·rw [zfu]; split
   ·rename_i e1; subst e1; rw [hJ] at hx; cases hx
    exact ⟨b', rows.length + new.length, by rw [hJ]; rfl, by omega, fun e => by omega⟩
   ·exact ⟨y, l, hx, Nat.le_refl _, fun _ => rfl⟩
 have le' := le1.trans le2
 have ext1 : Ext (zbd act hn) w g (w.setRow b' (cs.toList.take (rows.length * sz) ++ news ++ cs.toList.drop (rows.length * sz + news.length)).toArray) { g with J := g.J.set id (b', some (rows.length + new.length)) } :=
  ⟨by simp, fun x _ hp => ⟨setRow_other w b' x _ (fun e => by subst e; exact hp _ h2 (.inr (.inr ⟨id, rfl⟩))), rfl, rfl⟩, le', Nat.le_refl _, rfl, rfl, rfl, Nat.le_refl _⟩
 refine ⟨?_, ext1, ?_⟩
 ·refine h.setOb ⟨fun x hx => h.wf.new x (by simpa using hx), h.wf.inj, h.wf.nx⟩ le' (fun x hx => by rw [zfu, if_neg hx]) (by simp) ?_ (Nat.le_refl _)
   (zkO (cells := (cs.toList.take (rows.length * sz) ++ news ++ cs.toList.drop (rows.length * sz + news.length)).toArray) (e := e) (b := b') ?_ h0 h2 ?_ ?_ ?_ h7)
  ·intro x p hp _ hne
   refine ⟨setRow_other w b' x _ ?_, rfl, rfl⟩
   intro e; subst e; rw [h2] at hp; cases hp; exact hne rfl
  ·rw [zfu, if_pos rfl, hJ]; simp
  ·exact setRow_heap w b' cs _ e _ hb
  ·exact (h5.append hnew).mono le'.alone
  ·rw [List.length_append, Nat.add_mul]; show g.K b' ≤ _; omega
 ·rw [setRow_heap w b' cs _ e _ hb]; simp only [zds, zcf cs _ news hfit]
theorem SR.regrow (h : SR act hn s a w g) {id sz : Nat} {wr : Bool} {rows new : List (List V)} {cells : Array Value} {e : TypeId} (hj : zav s.h id = some (.arr wr sz rows)) (hpos : new ≠ [])
  (hrows : zaO (zn w g).alone (rows ++ new) sz cells.toList) :
  ∃ g', g' = { g.grab w.heap.size (.ob hn id) with J := g.J.set id (w.heap.size, some (rows.length + new.length)) } ∧
  SR act hn ⟨s.t, zah s.h id (.arr wr sz (rows ++ new))⟩ a (w.alloc (.cells cells e)) g' ∧ Ext (zbd act hn) w g (w.alloc (.cells cells e)) g' := by
 refine ⟨_, rfl, ?_⟩
 rw [zaG] at hj
 have ho := h.obj id _ hj
 obtain ⟨b0, hJ, h0, _⟩ := ho
 have hidJ : id < g.J.length := (List.getElem?_eq_some_iff.1 hJ).1
 have hnlen : new.length ≠ 0 := fun e => hpos (List.length_eq_zero_iff.1 e)
 have wf' := h.wf.grab (.cells cells e) (.ob hn id) h.hm (g.J.set id (w.heap.size, some (rows.length + new.length)))
 have le1 := zhg h.wf (.cells cells e) (.ob hn id) g.J fun _ _ x => x
 have le2 : (zn (w.alloc (.cells cells e)) { g.grab w.heap.size (.ob hn id) with J := g.J }).le (zn (w.alloc (.cells cells e)) { g.grab w.heap.size (.ob hn id) with J := g.J.set id (w.heap.size, some (rows.length + new.length)) }) := by
  refine ⟨fun _ _ _ h => h, fun _ _ h => h, fun x y hx => ?_, fun x y l hx => ?_⟩
  ·show (g.J.set id _)[x]? = _
   have hx' : g.J[x]? = some (y, none) := hx
   clear hx
   rw [zfu]; split
   ·rename_i e1; subst e1; rw [hJ] at hx'; cases hx'
   ·exact hx'
  ·show ∃ b' l', (g.J.set id _)[x]? = _ ∧ _
   have hx' : g.J[x]? = some (y, some l) := hx
   clear hx
   rw [zfu]; split
   ·rename_i e1; subst e1; rw [hJ] at hx'; cases hx'
    exact ⟨w.heap.size, rows.length + new.length, by rw [hJ]; rfl, by omega, fun e => by omega⟩
   ·exact ⟨y, l, hx', Nat.le_refl _, fun _ => rfl⟩
 have le' := le1.trans le2
 have keep : ∀ b p, g.own b = some p → p ≠ .ob hn id → (w.alloc (.cells cells e)).heap[b]? = w.heap[b]? ∧ (g.grab w.heap.size (.ob hn id)).own b = g.own b ∧ (g.grab w.heap.size (.ob hn id)).K b = g.K b := by
  intro b p hp hne
  have h1 := h.wf.ne_new hp
  refine ⟨by rw [zao, if_neg h1], ?_, by simp [Gh.grab, h1]⟩
  have h2 : ¬ g.own b = some (.ob hn id) := by rw [hp]; intro e; cases e; exact hne rfl
  simp only [Gh.grab, h1, if_false, h2]
 refine ⟨?_, ?_⟩
 ·refine h.setOb wf' le' (fun x hx => ?_) (by simp) (fun x p hp _ hne => keep x p hp hne) (Nat.le_refl _) (zkO (cells := cells) (e := e) (b := w.heap.size) ?_ h0 ?_ ?_ ?_ ?_ ?_)
  ·show (g.J.set id _)[x]? = _
   rw [zfu, if_neg hx]
  ·show (g.J.set id _)[id]? = _
   rw [zfu, if_pos rfl, hJ]; simp
  ·simp [Gh.grab]
  ·rw [zao, if_pos rfl]
  ·exact hrows.mono le'.alone
  ·simp [Gh.grab]
  ·intro _; simp [Gh.grab]
 ·refine ⟨by simp, fun b hb hp => ?_, le', Nat.le_refl _, rfl, rfl, rfl, Nat.le_refl _⟩
  have hne : b ≠ w.heap.size := by omega
  refine ⟨by rw [zao, if_neg hne], ?_, by simp [Gh.grab, hne]⟩
  simp only [Gh.grab, hne, if_false]
  split
  ·rename_i e; exact absurd (.inr (.inr ⟨id, rfl⟩)) (hp _ e)
  ·rfl
theorem SR.fix (h : SR act hn s a w g) {id sz : Nat} {wr : Bool} {rows : List (List V)} (hj : zav s.h id = some (.arr wr sz rows)) :
  ∃ g', g'.J = g.J ∧ g'.own = g.own ∧ g'.nx = g.nx ∧ SR act hn ⟨s.t, zah s.h id (.arr false sz rows)⟩ a w g' ∧ (∀ ok : Owner → Prop, ok (.ob hn id) → Ext ok w g w g') ∧
   (rows ≠ [] → ∃ b, g.J[id]? = some (b, some rows.length) ∧ VRr rows (zn w g').alone b 0 sz) := by
 rw [zaG] at hj
 have ho := h.obj id _ hj
 obtain ⟨b, hJ, h0, h2⟩ := ho
 by_cases hr : rows = []
 ·subst hr
  refine ⟨g, rfl, rfl, rfl, ?_, fun _ _ => Ext.refl _ _ _, fun e => absurd rfl e⟩
  exact h.setOb h.wf (Mem.le.refl _) (fun _ _ => rfl) rfl (fun _ _ _ _ _ => ⟨rfl, rfl, rfl⟩) (Nat.le_refl _) ⟨b, hJ, h0, fun e => absurd rfl e⟩
 ·obtain ⟨b', cs, e, k1, k2, k3, k4, k5, k6⟩ := zgq (h.obj id _ hj) hr
  rw [hJ] at k1; cases k1
  let g' : Gh := { g with K := fun x => if x = b then rows.length * sz else g.K x }
  have le' : (zn w g).le (zn w g') := by
   refine ⟨fun x j c hx => ?_, fun _ _ x => x, fun _ _ x => x, fun x y l hx => ⟨y, l, hx, Nat.le_refl _, fun _ => rfl⟩⟩
   simp only [zn, g'] at hx ⊢
   split at hx
   ·rename_i hc
    rw [if_pos, hx]
    rcases hc with hc | hc
    ·exact .inl hc
    ·right; split
     ·rename_i e1; subst e1; omega
     ·exact hc
   ·cases hx
  refine ⟨g', rfl, rfl, rfl, ?_, fun ok hok => ⟨Nat.le_refl _, fun x _ hp => ⟨rfl, rfl, ?_⟩, le', Nat.le_refl _, rfl, rfl, rfl, Nat.le_refl _⟩, fun _ => ⟨b, hJ, ?_⟩⟩
  ·refine h.setOb ⟨h.wf.new, h.wf.inj, h.wf.nx⟩ le' (fun _ _ => rfl) rfl (fun x p hp _ hne => ⟨rfl, rfl, ?_⟩) (Nat.le_refl _) (zkO (cells := cs) (e := e) (b := b) hJ h0 k2 k3 (k4.mono le'.alone) (by simp [g']) (fun e => by cases e))
   simp only [g']; rw [if_neg]; intro e; subst e; rw [k2] at hp; cases hp; exact hne rfl
  ·simp only [g']; rw [if_neg]; intro e; subst e; exact hp _ k2 hok
  ·refine VRr.of_get _ fun i r hi => ?_
   obtain ⟨c1, c2⟩ := k4 i r hi
   refine ⟨c1, VRc.of_get _ fun j v hv => ?_⟩
   obtain ⟨c, d1, d2, d3⟩ := c2 j v hv
   refine ⟨c, ?_, VR.mono _ le'.alone d2, d3⟩
   have hil := (List.getElem?_eq_some_iff.1 hi).1
   have hjl := (List.getElem?_eq_some_iff.1 hv).1
   have hx : i * sz + j < rows.length * sz := by
    have : (i + 1) * sz ≤ rows.length * sz := Nat.mul_le_mul_right _ hil
    rw [Nat.add_mul] at this; omega
   simp only [zn, Mem.alone, g']
   rw [if_pos (.inr (by simp; omega)), k3]
   simp only [zca]
   rw [← d1]; simp
end Go.Ab
namespace Go.Ab
variable {act hn : Nat} {s s' : St} {a : Act} {w : World} {g : Gh} {P : Program} {F : Fence} {n : Nat} {o : Oper}
def zF (P : Program) (F : Fence) (n : Nat) (act hn : Nat) (s' : St) (a : Act) (w : World) (g : Gh) (o : Oper) : Prop :=
 ∀ (next : Act → World → Prop) (Q : Exit → Act → World → Prop), (∀ a' w' g', SR act hn s' a' w' g' → Ext (zbd act hn) w g w' g' → (a'.defers = a.defers ∧ a'.tmps.size = a.tmps.size) → next a' w') →
  o.uponIn F n P a next Q ((execOp a.eval o).run P w)
theorem zhI (a : Act) (d : Option Tmp) (c : Value) : (a.put d c).defers = a.defers ∧ (a.put d c).tmps.size = a.tmps.size := by cases d <;> simp [Act.put]
theorem zF.value {c : Value} {w' : World} {g' : Gh} (hrun : (execOp a.eval o).run P w = .ok (.value c) w') (hs : SR act hn s' (a.put o.dst c) w' g') (he : Ext (zbd act hn) w g w' g') : zF P F n act hn s' a w g o := by
 intro next Q h
 rw [hrun]
 exact h _ _ _ hs he (zhI _ _ _)
theorem zF.skip {w' : World} {g' : Gh} (hrun : (execOp a.eval o).run P w = .ok .skip w') (hd : o.dst = none) (hs : SR act hn s' a w' g') (he : Ext (zbd act hn) w g w' g') : zF P F n act hn s' a w g o := by
 intro next Q h
 rw [hrun]
 simp only [Oper.uponIn, hd, Act.put_none]
 exact h _ _ _ hs he ⟨rfl, rfl⟩
theorem zF.pure {c : Value} {v : V} (h : SR act hn s a w g) (hrun : (execOp a.eval o).run P w = .ok (.value c) w) (hv : VR v (zn w g) c) : zF P F n act hn (s.put o.dst v) a w g o :=
 zF.value hrun (h.putV _ hv) (Ext.refl _ _ _)
theorem zF.pureT {c : Value} {v : V} (h : SR act hn s a w g) (hrun : (execOp a.eval o).run P w = .ok (.value c) w) (hv : ∀ i, o.dst = some i → TR w g act i v c) : zF P F n act hn (s.put o.dst v) a w g o :=
 zF.value hrun (h.put _ hv) (Ext.refl _ _ _)
theorem zb5 {t : TypeId} {ag : Bool} {m : Nat} (h : zab P t = some (ag, m)) :
  ∃ i d, P.info? t = some i ∧ P.underlying t = some d ∧ i.size = m ∧ (match d with | .struct _ | .array .. => ag = true | _ => ag = false) := by
 unfold zab at h
 split at h
 ·cases h
 ·rename_i i hi
  split at h
  ·rename_i x hd; cases h; exact ⟨i, _, hi, hd, rfl, rfl⟩
  ·rename_i x y hd; cases h; exact ⟨i, _, hi, hd, rfl, rfl⟩
  ·rename_i d h1 h2 hd
   cases h
   refine ⟨i, d, hi, hd, rfl, ?_⟩
   cases d <;> first
    | rfl
    | exact absurd rfl (h1 _)
    | exact absurd rfl (h2 _ _)
  ·cases h
theorem zis {t : TypeId} {i : TypeInfo} (h : P.info? t = some i) (w : World) : (typeInfo t).run P w = .ok i w := by
 simp [typeInfo, h]
theorem zdI {t : TypeId} {i : TypeInfo} (h : P.info? t = some i) (w : World) : (sizeOf t).run P w = .ok i.size w := by simp [sizeOf, zis h]
theorem zny {t : TypeId} {ag : Bool} {m : Nat} (h : zab P t = some (ag, m)) (w : World) : (isAgg t).run P w = .ok ag w := by
 obtain ⟨i, d, h1, h2, h3, h4⟩ := zb5 h
 unfold isAgg
 simp only [Sem.run_bind, run_underlying h2, Result.andThen_ok]
 cases d <;> simp_all
theorem zeP {t : TypeId} {ag : Bool} {m : Nat} (h : zab P t = some (ag, m)) (w : World) : (sizeOf t).run P w = .ok m w := by
 obtain ⟨i, d, h1, h2, h3, h4⟩ := zb5 h
 rw [zdI h1, h3]
theorem zpV (h : SR act hn s a w g) {x : Operand} (ho : o.op = .move x) : zF P F n act hn (s.put o.dst (view (zo s x))) a w g o :=
 zF.pure h (c := a.eval x) (by simp only [execOp, ho]; rfl) (h.evalV x)
theorem zit (h : SR act hn s a w g) {x : Operand} (ho : o.op = .assign x) : zF P F n act hn (s.put o.dst (view (zo s x))) a w g o :=
 zF.pure h (c := a.eval x) (by simp only [execOp, ho]; rfl) (h.evalV x)
theorem zmi (h : SR act hn s a w g) {x : Operand} (ho : o.op = .assign x) {d : Nat} (hd : o.dst = some d) {fl : Fl} (hfl : fl = .nil ∨ fl = .cap0) (hx : zo s x = .slice fl []) {sz : Nat} (hsz : 0 < sz) :
  zF P F n act hn ⟨upd s.t d (.arr s.h.length 0 sz), s.h ++ [.arr true sz []]⟩ a w g o := by
 have hv := h.evalN hx rfl
 simp only [VR] at hv
 obtain ⟨ad, cap, h1, h2, h3, h4, _⟩ := hv
 have hcap : cap = 0 := by rcases hfl with rfl | rfl <;> simp at h3 <;> omega
 have hJ : ∀ (id : Nat) (y : Nat × Option Nat), g.J[id]? = some y → (g.J ++ [(0, some 0)])[id]? = some y := fun id y hy => by
  rw [List.getElem?_append_left (List.getElem?_eq_some_iff.1 hy).1]; exact hy
 let g' : Gh := { g with J := g.J ++ [(0, some 0)] }
 have le' : (zn w g).le (zn w g') := ⟨fun _ _ _ x => x, fun _ _ x => x, fun id b x => hJ id _ x, fun id b l x => ⟨b, l, hJ id _ x, Nat.le_refl _, fun _ => rfl⟩⟩
 have hs : SR act hn ⟨s.t, s.h ++ [.arr true sz []]⟩ a w g' := by
  refine { wf := ⟨h.wf.new, h.wf.inj, h.wf.nx⟩, size := h.size, tmp := ?_, jl := by simp [g', h.jl], obj := ?_, dfr := h.dfr, an := h.an, hm := h.hm }
  ·intro i v hv
   obtain ⟨c, hc, ht⟩ := h.tmp i v hv
   exact ⟨c, hc, ht.frame le' fun _ _ _ => ⟨rfl, rfl, rfl⟩⟩
  ·intro id ob hob
   by_cases hid : id < s.h.length
   ·rw [List.getElem?_append_left hid] at hob
    refine (h.obj id ob hob).frame ?_ le' fun _ _ => ⟨rfl, rfl, rfl⟩
    exact List.getElem?_append_left (by rw [h.jl]; exact hid)
   ·have : id = s.h.length := by
     have := (List.getElem?_eq_some_iff.1 hob).1
     simp at this; omega
    subst this
    simp at hob; subst hob
    exact ⟨0, by simp [g', h.jl], hsz, fun e => absurd rfl e⟩
 refine zF.value (c := a.eval x) (w' := w) (g' := g') (by simp only [execOp, ho]; rfl) ?_ ⟨Nat.le_refl _, fun _ _ _ => ⟨rfl, rfl, rfl⟩, le', Nat.le_refl _, rfl, rfl, rfl, Nat.le_refl _⟩
 rw [hd]
 refine hs.putV (some d) ?_
 simp only [VR]
 refine ⟨ad, cap, 0, 0, ?_, h1, h2, Nat.le_refl _, h4, fun _ => hcap, fun e => absurd rfl e⟩
 show (g.J ++ [(0, some 0)])[s.h.length]? = _
 rw [← h.jl]; simp
theorem zbO {t : TypeId} {z : List V} (h : zeroCells P t = some z) (m : Mem) : ∃ i zv, P.info? t = some i ∧ i.zero = some zv ∧ VRl z m zv.cells.toList := by
 unfold zeroCells at h
 split at h
 ·rename_i i hi
  split at h
  ·rename_i zv hz
   split at h
   ·rename_i hall
    cases h
    exact ⟨i, zv, hi, hz, zmW hall⟩
   ·cases h
  ·cases h
 ·cases h
theorem zgP {t : TypeId} {i : TypeInfo} {z : Value} (h : P.info? t = some i) (hz : i.zero = some z) (w : World) : (zeroValue t).run P w = .ok z w := by
 simp [zeroValue, zis h, hz]
theorem zdk (t : TypeId) (v : Value) (w : World) : (newVar t v).run P w = .ok ⟨w.heap.size, 0, none⟩ (w.alloc (.cells v.cells t)) := by
 simp [newVar, newRow, newObj, Sem.run]
theorem zoM (h : SR act hn s a w g) {t : TypeId} (ho : o.op = .alloc t) {d : Nat} (hd : o.dst = some d) {z : List V} (hz : zeroCells P t = some z) :
  zF P F n act hn ⟨upd (s.t.map (zbk d)) d (.box z), s.h⟩ a w g o := by
 obtain ⟨i, zv, h1, h2, h3⟩ := zbO hz (zn w g)
 obtain ⟨k1, k2⟩ := h.allocSlot d (cs := zv.cells) t h3
 refine zF.value (c := .pointer (some ⟨w.heap.size, 0, none⟩)) ?_ (by rw [hd]; exact k1) k2
 simp only [execOp, ho, Instr.alloc]
 simp [zgP h1 h2, zdk]
theorem zkP {v : V} {m : Mem} {c : Value} (h : VR v m c) (hk : zgh v = true) : one c = true := by
 cases v <;> simp only [zgh] at hk <;> first
  | (cases hk; done)
  | (simp only [VR] at h; first
    | (subst h; rfl)
    | (obtain ⟨_, _, rfl⟩ := h; rfl)
    | (obtain ⟨_, rfl, _⟩ := h; rfl)
    | (obtain ⟨_, _, rfl, _⟩ := h; rfl)
    | (obtain ⟨_, _, _, rfl, _⟩ := h; rfl)
    | (obtain ⟨_, _, _, _, _, rfl, _⟩ := h; rfl)
    | (obtain ⟨_, _, _, _, rfl, _⟩ := h; rfl))
theorem ziu {v : V} {m : Mem} {c : Value} (h : VR v m c) (hk : zgh v = true) : c.cells = #[c] := by
 have := zkP h hk
 cases c <;> first
  | rfl
  | (simp [one] at this)
theorem zco {v : V} {m : Mem} {c : Value} (h : VR (view v) m c) (hne : cellsOf v ≠ [] ∨ ∃ cs, v = .agg cs) : VRl (cellsOf v) m c.cells.toList := by
 unfold cellsOf at hne ⊢
 split
 ·rename_i cs
  simp only [view, VR] at h
  obtain ⟨cs', rfl, h2⟩ := h
  exact h2
 ·rename_i hno
  split
  ·rename_i hk
   have hv : view v = v := by cases v <;> first | rfl | (simp [zgh] at hk)
   rw [hv] at h
   rw [ziu h hk]
   simp only [VRl]
   exact ⟨c, [], rfl, ⟨h, zkP h hk⟩, rfl⟩
  ·rename_i hk
   exfalso
   rcases hne with hne | ⟨cs, e⟩
   ·simp only [hk] at hne; exact hne rfl
   ·exact hno cs e
theorem zqZ (h : SR act hn s a w g) {t : TypeId} {x : Operand} (ho : o.op = .box t x) {d : Nat} (hd : o.dst = some d) (hne : cellsOf (zo s x) ≠ [] ∨ ∃ cs, zo s x = .agg cs) :
  zF P F n act hn ⟨upd (s.t.map (zbk d)) d (.box (cellsOf (zo s x))), s.h⟩ a w g o := by
 have hv := zco (h.evalV x) hne
 obtain ⟨k1, k2⟩ := h.allocSlot d (cs := (a.eval x).cells) t hv
 refine zF.value (c := .pointer (some ⟨w.heap.size, 0, none⟩)) ?_ (by rw [hd]; exact k1) k2
 simp only [execOp, ho, Instr.box]
 simp [zdk]
theorem SR.kill (h : SR act hn s a w g) (d : Nat) : SR act hn ⟨s.t.map (zbk d), s.h⟩ a w g := by
 refine { h with size := by simp [h.size], tmp := fun i u hu => ?_ }
 simp only [zjF] at hu
 cases hs : s.t[i]? with
 | none => rw [hs] at hu; cases hu
 | some u' =>
  rw [hs] at hu; simp at hu; subst hu
  obtain ⟨c, hc, ht⟩ := h.tmp i u' hs
  refine ⟨c, hc, ?_⟩
  cases u' with
  | adr j off =>
   simp only [zbk]
   split
   ·exact TR.of_VR (by simp only [VR])
   ·exact ht
  | _ => exact ht
theorem zfT (h : SR act hn s a w g) {cells : List V} {cs : Array Value} {t : TypeId} (hrun : (execOp a.eval o).run P w = .ok (.value (.pointer (some ⟨w.heap.size, 0, none⟩))) (w.alloc (.cells cs t))) {d : Nat} (hd : o.dst = some d)
  (hc : VRl cells (zn w g) cs.toList) :
  zF P F n act hn ⟨upd (s.t.map (zbk d)) d (.ptr s.h.length 0), s.h ++ [.cells cells]⟩ a w g o := by
 obtain ⟨k1, k2⟩ := (h.kill d).allocOb (o := .cells cs t) (ob := .cells cells) none (by
  intro g' hg' le
  refine ⟨w.heap.size, cs, t, ?_, by rw [hg']; simp [Gh.grab], by rw [hg']; simp [Gh.grab], by rw [zao, if_pos rfl], VRl.mono _ le hc⟩
  rw [hg']
  show (g.J ++ [(w.heap.size, none)])[s.h.length]? = _
  rw [← h.jl]; simp)
 refine zF.value hrun ?_ k2
 rw [hd]
 refine k1.putV (some d) ?_
 simp only [VR]
 refine ⟨w.heap.size, ?_, rfl⟩
 show (g.J ++ [(w.heap.size, none)])[s.h.length]? = _
 rw [← h.jl]; simp
theorem SR.pushAcc (h : SR act hn s a w g) {sz : Nat} (hsz : 0 < sz) (ok : Owner → Prop) :
  SR act hn ⟨s.t, s.h ++ [.arr true sz []]⟩ a w { g with J := g.J ++ [(0, some 0)] } ∧ Ext ok w g w { g with J := g.J ++ [(0, some 0)] } := by
 have hJ : ∀ (id : Nat) (y : Nat × Option Nat), g.J[id]? = some y → (g.J ++ [(0, some 0)])[id]? = some y := fun id y hy => by
  rw [List.getElem?_append_left (List.getElem?_eq_some_iff.1 hy).1]; exact hy
 have le' : (zn w g).le (zn w { g with J := g.J ++ [(0, some 0)] }) := ⟨fun _ _ _ x => x, fun _ _ x => x, fun id b x => hJ id _ x, fun id b l x => ⟨b, l, hJ id _ x, Nat.le_refl _, fun _ => rfl⟩⟩
 refine ⟨{ wf := ⟨h.wf.new, h.wf.inj, h.wf.nx⟩, size := h.size, tmp := ?_, jl := by simp [h.jl], obj := ?_, dfr := h.dfr, an := h.an, hm := h.hm }, ⟨Nat.le_refl _, fun _ _ _ => ⟨rfl, rfl, rfl⟩, le', Nat.le_refl _, rfl, rfl, rfl, Nat.le_refl _⟩⟩
 ·intro i v hv
  obtain ⟨c, hc, ht⟩ := h.tmp i v hv
  exact ⟨c, hc, ht.frame le' fun _ _ _ => ⟨rfl, rfl, rfl⟩⟩
 ·intro id ob hob
  by_cases hid : id < s.h.length
  ·rw [List.getElem?_append_left hid] at hob
   refine (h.obj id ob hob).frame ?_ le' fun _ _ => ⟨rfl, rfl, rfl⟩
   exact List.getElem?_append_left (by rw [h.jl]; exact hid)
  ·have : id = s.h.length := by
    have := (List.getElem?_eq_some_iff.1 hob).1
    simp at this; omega
   subst this
   simp at hob; subst hob
   exact ⟨0, by simp [h.jl], hsz, fun e => absurd rfl e⟩
theorem zjG (h : SR act hn s a w g) {cs : Array Value} {t : TypeId} (hrun : (execOp a.eval o).run P w = .ok (.value (.pointer (some ⟨w.heap.size, 0, none⟩))) (w.alloc (.cells cs t))) {d : Nat} (hd : o.dst = some d)
  (hc : VRl [.slice .nil []] (zn w g) cs.toList) {sz : Nat} (hsz : 0 < sz) :
  zF P F n act hn ⟨upd (s.t.map (zbk d)) d (.ptr (s.h.length + 1) 0), s.h ++ [.arr true sz [], .cells [.arr s.h.length 0 sz]]⟩ a w g o := by
 obtain ⟨k1, k2⟩ := h.pushAcc hsz (zbd act hn)
 have := zfT (F := F) (n := n) k1 (cells := [.arr s.h.length 0 sz]) hrun hd (by
  simp only [VRl] at hc ⊢
  obtain ⟨c, cs', e, ⟨hv, h1⟩, h2⟩ := hc
  refine ⟨c, cs', e, ⟨?_, h1⟩, h2⟩
  simp only [VR] at hv ⊢
  obtain ⟨ad, cap, g1, g2, g3, g4, _⟩ := hv
  refine ⟨ad, cap, 0, 0, ?_, g1, g2, Nat.le_refl _, g4, fun _ => g3.2, fun e => absurd rfl e⟩
  show (g.J ++ [(0, some 0)])[s.h.length]? = _
  rw [← h.jl]; simp)
 intro next Q hk
 refine this next Q fun a' w' g' h1 h2 h3 => hk a' w' g' ?_ (k2.trans h2) h3
 have e1 : ((s.h ++ [Ob.arr true sz []]).length) = s.h.length + 1 := by simp
 have e2 : (s.h ++ [Ob.arr true sz []]) ++ [Ob.cells [.arr s.h.length 0 sz]] = s.h ++ [.arr true sz [], .cells [.arr s.h.length 0 sz]] := by simp
 simp only [e1, e2] at h1
 exact h1
theorem zfH {b off : Nat} {cs : List Value} (hcell : ∀ j c, cs[j]? = some c → w.cell? ⟨b, off + j, none⟩ = some c) {t : TypeId} {ag : Bool} {m : Nat} (ht : zab P t = some (ag, m)) (hm : if ag then cs.length = m else 0 < cs.length) :
  (loadVar t ⟨b, off, none⟩).run P w = .ok (if ag then .agg cs.toArray else cs.headD Go.undef) w := by
 unfold loadVar
 simp only [Sem.run_bind, zny ht, Result.andThen_ok]
 cases ag with
 | true =>
  simp only [if_true] at hm ⊢
  have := run_loadCells_list (P := P) w ⟨b, off, none⟩ cs (fun j v hv => by
   have hadd : (⟨b, off, none⟩ : Addr).add j = ⟨b, off + j, none⟩ := by unfold Addr.add; split <;> simp_all
   rw [hadd]; exact hcell j v hv)
  rw [hm] at this
  simp [zeP ht, this]
 | false =>
  simp only [if_false, Bool.false_eq_true] at hm ⊢
  cases cs with
  | nil => simp at hm
  | cons c cs =>
   have hc : w.cell? ⟨b, off, none⟩ = some c := by simpa using hcell 0 c rfl
   simp [load, Sem.run, hc]
theorem znz {k k' : IntKind} (h : kEq k k' = true) : k = k' := by cases k <;> cases k' <;> first | rfl | cases h
theorem ziv : ∀ {cs : List V} {k : IntKind} {ns : List Int}, zg0 cs = some (k, ns) → cs = ns.map (V.int k) ∧ ns ≠ []
 | [], _, _, h => by simp [zg0] at h
 | c :: l, k, ns, h => by
  cases c <;> simp only [zg0] at h <;> first
   | (cases h; done)
   | skip
  rename_i q n
  cases l with
  | nil => cases h; exact ⟨rfl, by simp⟩
  | cons d l =>
   simp only at h
   cases hu : zg0 (d :: l) with
   | none => rw [hu] at h; cases h
   | some p =>
    obtain ⟨k', ns'⟩ := p
    rw [hu] at h
    simp only at h
    cases hk : kEq q k' with
    | false => rw [hk] at h; cases h
    | true =>
     rw [hk] at h
     cases h
     have := znz hk
     subst this
     exact ⟨by rw [(ziv hu).1]; rfl, by simp⟩
theorem zgQ : ∀ {ns : List Int} {i : Nat} {x : Int}, za5 ns i = some x ↔ ns[i]? = some x
 | [], i, x => by simp [za5]
 | n :: l, 0, x => by simp [za5]
 | n :: l, i + 1, x => by simp only [za5, List.getElem?_cons_succ]; exact zgQ
theorem zkQ {k : IntKind} {ns : List Int} : ∀ {n off : Nat} {l : List V}, zgL k ns off n = some l → (off + n ≤ ns.length ∨ n = 0) ∧ l = ((ns.map (V.int k)).drop off).take n
 | 0, off, l, h => by simp only [zgL] at h; cases h; simp
 | n + 1, off, l, h => by
  simp only [zgL, Option.bind_eq_some_iff] at h
  obtain ⟨x, h1, l', h2, h3⟩ := h
  cases h3
  have h1 := zgQ.1 h1
  obtain ⟨k1, k2⟩ := zkQ h2
  have hlt := (List.getElem?_eq_some_iff.1 h1).1
  refine ⟨.inl (by omega), ?_⟩
  have : (ns.map (V.int k)).drop off = V.int k x :: (ns.map (V.int k)).drop (off + 1) := by
   rw [List.drop_eq_getElem_cons (by simpa using hlt)]
   simp only [List.getElem_map]
   rw [(List.getElem?_eq_some_iff.1 h1).2]
  rw [this, List.take_succ_cons, ← k2]
theorem zkR {ag : Bool} {n : Nat} {cs : List V} {off : Nat} {v : V} (h : zi7 ag n cs off = some v) : part ag n cs off = some v := by
 unfold zi7 at h
 split at h
 ·rename_i k ns hu
  obtain ⟨rfl, _⟩ := ziv hu
  have one : ∀ x, za5 ns off = some x → zek off (ns.map (V.int k)) = V.int k x :: (ns.map (V.int k)).drop (off + 1) := fun x hx => by
   have h1 := zgQ.1 hx
   have hlt := (List.getElem?_eq_some_iff.1 h1).1
   rw [zbr, List.drop_eq_getElem_cons (by simpa using hlt)]
   simp only [List.getElem_map]
   rw [(List.getElem?_eq_some_iff.1 h1).2]
  split at h
  ·split at h
   ·cases h
   ·rename_i n
    simp only [Option.bind_eq_some_iff] at h
    obtain ⟨l, h1, h2⟩ := h
    cases h2
    obtain ⟨k1, k2⟩ := zkQ h1
    have hx : ∃ x, za5 ns off = some x := by
     simp only [zgL, Option.bind_eq_some_iff] at h1
     obtain ⟨x, hx, _⟩ := h1
     exact ⟨x, hx⟩
    obtain ⟨x, hx⟩ := hx
    have e := one x hx
    unfold part
    rw [e]
    simp only [if_true]
    rw [if_pos (by
     apply Nat.ble_eq_true_of_le
     rw [List.length_drop, List.length_map]; omega), zcB, ← e, zbr, ← k2]
  ·simp only [Option.bind_eq_some_iff] at h
   obtain ⟨x, h1, h2⟩ := h
   cases h2
   unfold part
   rw [one x h1]; rfl
 ·exact h
theorem zmj (k : IntKind) (x : Int) : ∀ (ns : List Int) (j off : Nat), j ≤ off → off - j < ns.length → zj9 k x off j ns = ((ns.map (V.int k)).take (off - j)) ++ (V.int k x :: (ns.map (V.int k)).drop (off - j + 1))
 | [], j, off, _, h => by simp at h
 | n :: l, j, off, hj, h => by
  simp only [zj9]
  by_cases he : off = j
  ·subst he
   have rest : ∀ (l : List Int) (i : Nat), off < i → zj9 k x off i l = l.map (V.int k) := by
    intro l
    induction l with
    | nil => intro i _; rfl
    | cons m l ih =>
     intro i hi
     have : Nat.beq off i = false := by rw [Bool.eq_false_iff]; intro e; have := Nat.eq_of_beq_eq_true e; omega
     simp only [zj9, this, cond_false, List.map_cons]
     rw [ih (i + 1) (by omega)]
   rw [rest l (off + 1) (by omega), Nat.beq_refl]
   simp
  ·have : Nat.beq off j = false := by rw [Bool.eq_false_iff]; intro e; exact he (Nat.eq_of_beq_eq_true e)
   have e : off - j = (off - (j + 1)) + 1 := by omega
   rw [this, zmj k x l (j + 1) off (by omega) (by simp only [List.length_cons] at h; omega), e]
   simp
theorem zjH : ∀ {cs : List V} {ns : List Int}, zgg cs = some ns → cs.length = ns.length ∧ ∀ (i : Nat) (v : V), cs[i]? = some v → ∃ k n, v = .int k n ∧ ns[i]? = some n
 | [], ns, h => by simp only [zgg] at h; cases h; exact ⟨rfl, fun i v hv => by simp at hv⟩
 | v :: l, ns, h => by
  cases v <;> simp only [zgg, reduceCtorEq] at h
  rename_i k n
  simp only [Option.map_eq_some_iff] at h
  obtain ⟨r, h1, rfl⟩ := h
  obtain ⟨h2, h3⟩ := zjH h1
  refine ⟨by simp [h2], fun i v hv => ?_⟩
  cases i with
  | zero => simp at hv; subst hv; exact ⟨k, n, rfl, rfl⟩
  | succ i => simp at hv; simpa using h3 i v hv
theorem zhJ {q : IntKind} {off : Nat} : ∀ {cs : List V} {j : Nat}, zel q off j cs = true → ∃ i n, off = j + i ∧ cs[i]? = some (.int q n)
 | [], j, h => by simp [zel] at h
 | v :: l, j, h => by
  have tail : zel q off (j + 1) l = true → ∃ i n, off = j + i ∧ (v :: l)[i]? = some (.int q n) := fun h => by
   obtain ⟨i, n, h1, h2⟩ := zhJ h
   exact ⟨i + 1, n, by omega, by simpa using h2⟩
  cases v <;> first
   | exact tail h
   | skip
  rename_i k n
  simp only [zel, Bool.or_eq_true, Bool.and_eq_true] at h
  rcases h with ⟨h1, h2⟩ | h
  ·have := znz h1
   subst this
   exact ⟨0, n, by simpa using Nat.eq_of_beq_eq_true h2, rfl⟩
  ·exact tail h
theorem zhK {sh : List Sh} {ag : Bool} {n : Nat} {cs : List V} {off : Nat} {v : V} (h : zhC sh ag n cs off some = some v) : part ag n cs off = some v := by
 have old : zdR ag n cs off some = some v → part ag n cs off = some v := fun h => by
  rw [zcc] at h
  simp only [Option.bind_eq_some_iff] at h
  obtain ⟨x, h1, h2⟩ := h
  cases h2
  exact zkR h1
 unfold zhC at h
 split at h
 ·exact old h
 ·split at h
  ·rename_i q ns hi
   cases ho : zel q off 0 cs with
   | false => rw [ho] at h; cases h
   | true =>
    rw [ho] at h
    simp only [cond_true, Option.bind_eq_some_iff] at h
    obtain ⟨x, h1, h2⟩ := h
    cases h2
    obtain ⟨i, m, e1, e2⟩ := zhJ ho
    rw [Nat.zero_add] at e1
    subst e1
    obtain ⟨k', n', e3, e4⟩ := (zjH hi).2 _ _ e2
    cases e3
    rw [zgQ.1 h1] at e4
    cases e4
    have hlt := (List.getElem?_eq_some_iff.1 e2).1
    unfold part
    rw [zbr, List.drop_eq_getElem_cons hlt]
    simp only [Bool.false_eq_true, if_false]
    rw [List.getElem?_eq_getElem hlt] at e2
    rw [Option.some.inj e2]
  ·exact old h
theorem zsS (k : IntKind) : kEq k k = true := by cases k <;> rfl
theorem zmk {k' : IntKind} {x : Int} {off : Nat} : ∀ (cs : List V) (j : Nat), off < j → zhz k' x off j cs = cs
 | [], _, _ => rfl
 | v :: l, j, h => by
  have ih := zmk (k' := k') (x := x) (off := off) l (j + 1) (by omega)
  have hb : Nat.beq off j = false := by
   cases hb : Nat.beq off j with
   | false => rfl
   | true => have := Nat.eq_of_beq_eq_true hb; omega
  cases v <;> simp only [zhz, ih, hb, cond_false]
  split <;> rfl
theorem zml {k' : IntKind} {x : Int} {off : Nat} : ∀ (cs : List V) (j i : Nat) (n : Int), off = j + i → cs[i]? = some (.int k' n) → zhz k' x off j cs = cs.take i ++ (.int k' x :: cs.drop (i + 1))
 | [], _, i, _, _, h => by simp at h
 | v :: l, j, i, n, e, h => by
  cases i with
  | zero =>
   simp at h
   subst h
   have hb : Nat.beq off j = true := by rw [e, Nat.add_zero]; exact Nat.beq_refl j
   simp only [zhz, hb, zsS, cond_true, zmk (k' := k') (x := x) (off := off) l (j + 1) (by omega)]
   simp
  | succ i =>
   have ih := zml (k' := k') (x := x) (off := off) l (j + 1) i n (by omega) (by simpa using h)
   have hb : Nat.beq off j = false := by
    cases hb : Nat.beq off j with
    | false => rfl
    | true => have := Nat.eq_of_beq_eq_true hb; omega
   cases v <;> simp only [zhz, ih, hb, cond_false, List.take_succ_cons, List.drop_succ_cons, List.cons_append]
   split <;> rfl
theorem znA {cs : List V} {off : Nat} {new r : List V} (h : zjc cs off new = some r) : zeI cs off new = true ∧ r = splice cs off new := by
 have old : ∀ {r}, (cond (zeI cs off new) (some (splice cs off new)) none) = some r → zeI cs off new = true ∧ r = splice cs off new := fun h => by
  cases hf : zeI cs off new with
  | true => rw [hf] at h; cases h; exact ⟨rfl, rfl⟩
  | false => rw [hf] at h; cases h
 unfold zjc at h
 split at h
 ·rename_i k' x
  split at h
  ·rename_i k ns hu
   obtain ⟨rfl, _⟩ := ziv hu
   split at h
   ·rename_i hk
    have := znz hk
    subst this
    cases hb : Nat.blt off ns.length with
    | false => rw [hb] at h; cases h
    | true =>
     rw [hb] at h
     cases h
     have hlt : off < ns.length := Nat.lt_of_lt_of_le (Nat.lt_succ_self off) (Nat.le_of_ble_eq_true hb)
     refine ⟨Nat.ble_eq_true_of_le (by simp; omega), ?_⟩
     rw [zmj k x ns 0 off (by omega) (by omega)]
     unfold splice
     rw [zcB, zbr]
     simp
   ·cases h
  ·split at h
   ·rename_i hu ns hi
    cases ho : zel k' off 0 cs with
    | false => rw [ho] at h; cases h
    | true =>
     rw [ho] at h
     cases h
     obtain ⟨i, m, e1, e2⟩ := zhJ ho
     rw [Nat.zero_add] at e1
     subst e1
     have hlt := (List.getElem?_eq_some_iff.1 e2).1
     refine ⟨Nat.ble_eq_true_of_le (by simp; omega), ?_⟩
     rw [zml cs 0 off m (by omega) e2]
     unfold splice
     rw [zcB, zbr]
     simp
   ·exact old h
 ·exact old h
theorem ziw {ag : Bool} {m off : Nat} {cs : List V} {v : V} (h : part ag m cs off = some v) :
  (ag = true ∧ off + m ≤ cs.length ∧ v = .agg ((cs.drop off).take m)) ∨ (ag = true ∧ m = 0 ∧ v = .agg []) ∨ (ag = false ∧ cs[off]? = some v) := by
 unfold part at h
 rw [zbr] at h
 split at h
 ·rename_i hd
  split at h
  ·rename_i ha
   split at h
   ·rename_i hm
    cases h
    exact .inr (.inl ⟨ha, Nat.eq_of_beq_eq_true hm, rfl⟩)
   ·cases h
  ·cases h
 ·rename_i c l hd
  have hl := congrArg List.length hd
  simp at hl
  split at h
  ·rename_i ha
   split at h
   ·rename_i hm
    cases h
    have hm' := Nat.le_of_ble_eq_true hm
    refine .inl ⟨ha, by omega, ?_⟩
    rw [zcB, hd]
   ·cases h
  ·rename_i ha
   cases h
   refine .inr (.inr ⟨by simpa using ha, ?_⟩)
   have := congrArg (fun x => x[0]?) hd
   simpa using this
theorem zjm {ag : Bool} {m off : Nat} {cs : List V} {v : V} (h : part ag m cs off = some v) {mm : Mem} {f : Nat → Option Value} (hc : ∀ (j : Nat) (u : V), cs[j]? = some u → ∃ c, f j = some c ∧ VR u mm c ∧ one c = true) :
  ∃ vals : List Value, (∀ j c, vals[j]? = some c → f (off + j) = some c) ∧ (if ag then vals.length = m else 0 < vals.length) ∧ VR v mm (if ag then .agg vals.toArray else vals.headD Go.undef) := by
 rcases ziw h with ⟨rfl, hlen, rfl⟩ | ⟨rfl, rfl, rfl⟩ | ⟨rfl, hv⟩
 ·have hj : ∀ j, j < m → ∃ c, f (off + j) = some c ∧ ∀ u, cs[off + j]? = some u → VR u mm c ∧ one c = true := by
   intro j hjm
   have hlt : off + j < cs.length := by omega
   obtain ⟨c, c1, c2⟩ := hc (off + j) cs[off + j] (List.getElem?_eq_getElem hlt)
   exact ⟨c, c1, fun u hu => by rw [List.getElem?_eq_getElem hlt] at hu; cases hu; exact c2⟩
  let vals : List Value := (List.range m).map fun j => (f (off + j)).getD Go.undef
  have hvals : ∀ j, j < m → vals[j]? = some ((f (off + j)).getD Go.undef) := fun j hjm => by simp [vals, hjm]
  have hvl : vals.length = m := by simp [vals]
  refine ⟨vals, fun j c hjc => ?_, by simpa using hvl, ?_⟩
  ·have hjm : j < m := by have := (List.getElem?_eq_some_iff.1 hjc).1; omega
   obtain ⟨c', c1, _⟩ := hj j hjm
   rw [hvals j hjm, c1] at hjc
   cases hjc; exact c1
  ·simp only [if_true, VR]
   refine ⟨vals, rfl, VRl.of_get _ (by rw [hvl]; simp; omega) fun j u c hu hcj => ?_⟩
   have hjm : j < m := by have := (List.getElem?_eq_some_iff.1 hcj).1; omega
   obtain ⟨c', c1, c2⟩ := hj j hjm
   rw [hvals j hjm, c1] at hcj
   cases hcj
   refine c2 u ?_
   rw [List.getElem?_take, if_pos hjm, List.getElem?_drop] at hu
   exact hu
 ·exact ⟨[], fun j c hj => by simp at hj, by simp, by simp [VR, VRl]⟩
 ·obtain ⟨c, c1, c2, _⟩ := hc off v hv
  refine ⟨[c], fun j x hj => ?_, by simp, by simpa using c2⟩
  cases j with
  | zero => simp at hj; subst hj; exact c1
  | succ j => simp at hj
theorem VR.any {fl : Fl} {rows : List (List V)} {m : Mem} {c : Value} (h : VR (.slice fl rows) m c) : VR (.slice .any rows) m c := by
 simp only [VR] at h ⊢
 obtain ⟨a, cap, h1, h2, _, h4, h5⟩ := h
 exact ⟨a, cap, h1, h2, trivial, h4, h5⟩
theorem znB {sh : Sh} {v v' : V} (h : shK sh v some = some v') {m : Mem} {c : Value} (hv : VR v m c) : VR v' m c := by
 cases sh with
 | any => simp only [shK] at h; cases h; exact hv
 | bool =>
  simp only [shK] at h
  cases v <;> simp [asBool] at h
  subst h; exact hv
 | int k =>
  simp only [shK] at h
  cases v <;> simp only [asInt, Option.bind_none, reduceCtorEq] at h
  split at h
  ·rename_i e; subst e; simp only [Option.bind_some] at h; cases h; exact hv
  ·cases h
 | str =>
  simp only [shK] at h
  cases v <;> simp [zi6] at h
  subst h; exact hv
 | slice =>
  simp only [shK] at h
  cases v <;> simp [zl] at h
  subst h; exact hv.any
theorem zjn {l : List Sh} : ∀ {vs vs' : List V} (_ : zbS l vs some = some vs') {m : Mem} {cs : List Value} (_ : VRl vs m cs), VRl vs' m cs := by
 induction l with
 | nil =>
  intro vs vs' h m cs hv
  simp only [zbS] at h
  cases vs with
  | nil => simp [zh] at h; subst h; exact hv
  | cons _ _ => simp [zh] at h
 | cons sh l ih =>
  intro vs vs' h m cs hv
  simp only [zbS] at h
  cases vs with
  | nil => simp [zg] at h
  | cons u us =>
   simp only [zg, Option.bind_some] at h
   simp only [VRl] at hv
   obtain ⟨c, cs', rfl, ⟨h2, h4⟩, h3⟩ := hv
   rw [zfd] at h
   cases hu : shK sh u some with
   | none => rw [hu] at h; cases h
   | some u' =>
    rw [hu, Option.bind_some, zat] at h
    cases hus : zbS l us some with
    | none => rw [hus] at h; cases h
    | some us' =>
     rw [hus] at h; cases h
     simp only [VRl]
     exact ⟨c, cs', rfl, ⟨znB hu h2, h4⟩, ih hus h3⟩
theorem zsT {l : List Sh} : ∀ {vs vs' : List V} (_ : zbS l vs some = some vs'), vs'.length = l.length ∧ l.length = vs.length := by
 induction l with
 | nil =>
  intro vs vs' h
  simp only [zbS] at h
  cases vs with
  | nil => simp [zh] at h; subst h; simp
  | cons _ _ => simp [zh] at h
 | cons sh l ih =>
  intro vs vs' h
  simp only [zbS] at h
  cases vs with
  | nil => simp [zg] at h
  | cons u us =>
   simp only [zg, Option.bind_some] at h
   rw [zfd] at h
   cases hu : shK sh u some with
   | none => rw [hu] at h; cases h
   | some u' =>
    rw [hu, Option.bind_some, zat] at h
    cases hus : zbS l us some with
    | none => rw [hus] at h; cases h
    | some us' =>
     rw [hus] at h; cases h
     obtain ⟨g1, g2⟩ := ih hus
     simp; omega
theorem zsU {l : List Sh} : ∀ {vs vs' : List V} (_ : zbS l vs some = some vs') {m : Mem} {b o : Nat} (_ : VRc vs m b o), VRc vs' m b o := by
 induction l with
 | nil =>
  intro vs vs' h m b o hv
  simp only [zbS] at h
  cases vs with
  | nil => simp [zh] at h; subst h; exact hv
  | cons _ _ => simp [zh] at h
 | cons sh l ih =>
  intro vs vs' h m b o hv
  simp only [zbS] at h
  cases vs with
  | nil => simp [zg] at h
  | cons u us =>
   simp only [zg, Option.bind_some] at h
   simp only [VRc] at hv
   obtain ⟨⟨c, h1, h2, h4⟩, h3⟩ := hv
   rw [zfd] at h
   cases hu : shK sh u some with
   | none => rw [hu] at h; cases h
   | some u' =>
    rw [hu, Option.bind_some, zat] at h
    cases hus : zbS l us some with
    | none => rw [hus] at h; cases h
    | some us' =>
     rw [hus] at h; cases h
     simp only [VRc]
     exact ⟨⟨c, h1, znB hu h2, h4⟩, ih hus h3⟩
theorem zjI {rows : List (List V)} {i : Int} {sz : Nat} {r : List V} (h : zS rows i sz = some r) : 0 ≤ i ∧ rows[i.toNat]? = some r ∧ r.length = sz := by
 unfold zS at h
 split at h
 ·rename_i h0
  split at h
  ·rename_i r' hr
   split at h
   ·rename_i hl; cases h; exact ⟨h0, hr, hl⟩
   ·cases h
  ·cases h
 ·cases h
theorem zgr {h : List Ob} {id len : Nat} {rows : List (List V)} (e : zak h id len = some rows) : ∃ wr sz, h[id]? = some (.arr wr sz rows) ∧ len = rows.length := by
 unfold zak at e
 rw [zaG] at e
 split at e
 ·rename_i wr sz rows' he
  split at e
  ·rename_i hl; cases e; exact ⟨wr, sz, he, hl⟩
  ·cases e
 ·cases e
theorem zhL {b j : Nat} {c : Value} (h : (zn w g).M b j = some c) : w.cell? ⟨b, j, none⟩ = some c := by
 simp only [zn] at h
 split at h
 ·rw [zcX]; exact h
 ·cases h
theorem zf0 {t : TypeId} {ad : Addr} {v : Value} (h : (loadVar t ad).run P w = .ok v w) : (Instr.loadAt t (.pointer (some ad))).run P w = .ok v w := by
 simp [Instr.loadAt, Instr.sureAddr, h]
theorem zt8 (h : SR act hn s a w g) {x : Operand} {t : TypeId} {ag : Bool} {m : Nat} (ht : zab P t = some (ag, m)) {sh : List Sh} {v : V} (hl : zbP s (zo s x) ag m sh some = some v) :
  ∃ c, (Instr.loadAt t (a.eval x)).run P w = .ok c w ∧ VR v (zn w g) c := by
 have core : ∀ {b base off : Nat} {cells : List V} {f : Nat → Option Value} {mm : Mem} {u : V}, a.eval x = .pointer (some ⟨b, base + off, none⟩) → (∀ j c, f j = some c → w.cell? ⟨b, base + j, none⟩ = some c) →
   (∀ (j : Nat) (y : V), cells[j]? = some y → ∃ c, f j = some c ∧ VR y mm c ∧ one c = true) → part ag m cells off = some u → ∃ c, (Instr.loadAt t (a.eval x)).run P w = .ok c w ∧ VR u mm c := by
  intro b base off cells f mm u he hf hcells hp
  obtain ⟨vals, h1, h2, h3⟩ := zjm hp hcells
  refine ⟨_, ?_, h3⟩
  rw [he]
  refine zf0 ?_
  refine zfH (cs := vals) (fun j c hj => ?_) ht h2
  have := hf _ _ (h1 j c hj)
  rw [← Nat.add_assoc] at this
  exact this
 have boxc : ∀ {i : Nat} {cs : List V}, nth s.t i = .box cs → ∃ b cells e, a.tmps.getD i Go.undef = .pointer (some ⟨b, 0, none⟩) ∧ g.own b = some (.slot act i) ∧ w.heap[b]? = some (.cells cells e (0, 0)) ∧ VRl cs (zn w g) cells.toList := by
  intro i cs hi
  have := h.slot i
  rw [hi] at this
  obtain ⟨b, cells, e, h1, h2, _, h4, h5⟩ := this
  exact ⟨b, cells, e, h1, h2, h4, h5⟩
 have fromCells : ∀ {b off : Nat} {cs : List V} {cells : Array Value} {e : TypeId} {u : V}, a.eval x = .pointer (some ⟨b, off, none⟩) → w.heap[b]? = some (.cells cells e (0, 0)) → VRl cs (zn w g) cells.toList → part ag m cs off = some u →
   ∃ c, (Instr.loadAt t (a.eval x)).run P w = .ok c w ∧ VR u (zn w g) c := by
  intro b off cs cells e u he hb hv hp
  refine core (b := b) (base := 0) (off := off) (f := fun j => cells[j]?) (mm := zn w g) (by rw [he]; simp) (fun j c hj => ?_) (fun j y hy => ?_) hp
  ·rw [zcX, hb]; simpa [zca] using hj
  ·obtain ⟨c, c1, c2⟩ := VRl.get _ hv j y hy
   exact ⟨c, by simpa using c1, c2⟩
 cases hx : zo s x with
 | box cs =>
  rw [hx] at hl
  simp only [zbP, zdi] at hl
  cases x with
  | tmp i =>
   obtain ⟨b, cells, e, h1, _, h4, h5⟩ := boxc (i := i) (cs := cs) hx
   exact fromCells (off := 0) h1 h4 h5 hl
  | const c =>
   exfalso
   simp only [zo] at hx
   have := zdj (zn w g) c
   rw [hx] at this; simp only [VR] at this
  | func f => simp [zo] at hx
  | global f => simp [zo] at hx
 | adr j off =>
  rw [hx] at hl
  simp only [zbP] at hl
  cases hj : nth s.t j <;> rw [hj] at hl <;> first
   | (cases hl; done)
   | skip
  rename_i cs
  obtain ⟨b, cells, e, h1, h2, h4, h5⟩ := boxc hj
  cases x with
  | tmp i =>
   have ht' := h.slot i
   have hx' : nth s.t i = .adr j off := hx
   rw [hx'] at ht'
   obtain ⟨b', k1, k2⟩ := ht'
   have : b' = b := h.wf.inj _ _ _ k1 h2
   subst this
   exact fromCells (off := off) k2 h4 h5 (zhK hl)
  | const c =>
   exfalso
   simp only [zo] at hx
   have := zdj (zn w g) c
   rw [hx] at this; simp only [VR] at this
  | func f => simp [zo] at hx
  | global f => simp [zo] at hx
 | rptr row off =>
  have hv := h.evalN hx rfl
  rw [hx] at hl
  simp only [zbP] at hl
  simp only [VR] at hv
  obtain ⟨b, o', h1, h2⟩ := hv
  obtain ⟨c, c1, c2⟩ := core (b := b) (base := o') (off := off) (f := fun j => (zn w g).alone.M b (o' + j)) (mm := (zn w g).alone) h1 (fun j c hj => zhL hj) (fun j y hy => VRc.get _ h2 j y hy) (zhK hl)
  exact ⟨c, c1, VR.beside (m := (zn w g).alone) _ rfl rfl rfl c2⟩
 | ptr id off =>
  have hv := h.evalN hx rfl
  rw [hx] at hl
  simp only [zbP] at hl
  simp only [VR] at hv
  obtain ⟨b, h1, h2⟩ := hv
  split at hl
  ·rename_i cs ho
   rw [zaG] at ho
   simp only [zdi] at hl
   obtain ⟨b', cells, e, k1, k2, k3, k4, k5⟩ := h.obj id _ ho
   have h1' : g.J[id]? = some (b, none) := h1
   rw [h1'] at k1; cases k1
   exact fromCells (off := off) h2 k4 k5 hl
  ·cases hl
 | eptr id len sz i off =>
  have hv := h.evalN hx rfl
  rw [hx] at hl
  simp only [zbP] at hl
  simp only [VR] at hv
  obtain ⟨b, l, ad, h1, h2, h3, h4, h5⟩ := hv
  cases hb : (Nat.beq sh.length m && Nat.blt 0 m) with
  | false => rw [hb] at hl; cases hl
  | true =>
  rw [hb] at hl
  simp only [Bool.and_eq_true] at hb
  have hm0 : 0 < m := Nat.le_of_ble_eq_true hb.2
  simp only [ifK] at hl
  cases hr : zak s.h id len with
  | none => rw [hr] at hl; cases hl
  | some rows =>
   rw [hr, Option.bind_some] at hl
   cases hrow : zS rows i sz with
   | none => rw [hrow] at hl; cases hl
   | some row =>
    rw [hrow, Option.bind_some] at hl
    cases hp : zjb row off m with
    | none => rw [hp] at hl; cases hl
    | some us =>
     rw [hp, Option.bind_some, zat] at hl
     cases hsh : zbS sh us some with
     | none => rw [hsh] at hl; cases hl
     | some us' =>
      rw [hsh, Option.bind_some] at hl
      cases hl
      obtain ⟨wr, sz', ho, hlen⟩ := zgr hr
      obtain ⟨r1, r2, r3⟩ := zjI hrow
      have hne : rows ≠ [] := by intro e; rw [e] at hlen; simp at hlen; omega
      obtain ⟨b', cells, e, k1, k2, k3, k4, k5, k6⟩ := zgq (h.obj id _ ho) hne
      have h1' : g.J[id]? = some (b, some l) := h1
      rw [h1'] at k1; cases k1
      have e2 := h5 (by omega)
      obtain ⟨q1, q2⟩ := k4 _ _ r2
      have hsz : sz' = sz := by omega
      subst hsz
      simp only [Int.toNat_natCast] at q2
      unfold zjb at hp
      split at hp
      ·rename_i hoff
       cases hp
       have hpart : part true m row off = some (.agg ((row.drop off).take m)) := by
        unfold part
        rw [zbr]
        cases hd : row.drop off with
        | nil =>
         have := congrArg List.length hd
         simp at this
         have : m = 0 := by omega
         subst this
         rfl
        | cons y l =>
         have := congrArg List.length hd
         simp at this
         have hble : Nat.ble m (l.length + 1) = true := Nat.ble_eq_true_of_le (by omega)
         simp only [hble, if_true, zcB]
       obtain ⟨vals, v1, v2, v3⟩ := zjm (mm := (zn w g).alone) (f := fun j => cells[i * sz' + j]?) hpart (fun j y hy => by obtain ⟨c, c1, c2⟩ := q2 j y hy; exact ⟨c, by simpa using c1, c2⟩)
       simp only [if_true, VR] at v2 v3
       obtain ⟨cs0, e0, v4⟩ := v3
       cases e0
       have v5 := zjn hsh v4
       have hcell : ∀ j c, vals[j]? = some c → w.cell? ⟨b, i * sz' + off + j, none⟩ = some c := fun j c hj => by
        have := v1 j c hj
        rw [zcX, k3]
        simp only [zca]
        rw [← this]; congr 1; omega
       cases ag with
       | true =>
        refine ⟨.agg vals.toArray, ?_, ?_⟩
        ·rw [h2, e2]; exact zf0 (zfH hcell ht (by simpa using v2))
        ·simp only [mkV]
         refine VR.beside (m := (zn w g).alone) _ rfl rfl rfl ?_
         simp only [VR]
         exact ⟨vals, rfl, v5⟩
       | false =>
        cases vals with
        | nil =>
         simp at v2; omega
        | cons c vals =>
         refine ⟨c, ?_, ?_⟩
         ·rw [h2, e2]
          have := zfH (P := P) (cs := c :: vals) hcell ht (by simp)
          exact zf0 (by simpa using this)
         ·cases us' with
          | nil => simp only [mkV, VR]
          | cons y ys =>
           cases ys with
           | nil =>
            simp only [mkV]
            simp only [VRl] at v5
            obtain ⟨c', cs', e7, ⟨y1, _⟩, _⟩ := v5
            cases e7
            exact VR.beside (m := (zn w g).alone) _ rfl rfl rfl y1
           | cons _ _ => simp only [mkV, VR]
      ·cases hp
 | _ => rw [hx] at hl; simp only [zbP] at hl; cases hl
end Go.Ab
namespace Go.Ab
variable {act hn : Nat} {s s' : St} {a : Act} {w : World} {g : Gh} {P : Program} {F : Fence} {n : Nat} {o : Oper}
theorem znC {t : TypeId} {ag : Bool} {m : Nat} (ht : zab P t = some (ag, m)) {c : Value} (hc : c.cells.size = m) {b off : Nat} {cs : Array Value} {e : TypeId} (hb : w.heap[b]? = some (.cells cs e (0, 0)))
  (hfit : off + c.cells.toList.length ≤ cs.size) (hone : ∀ v ∈ c.cells.toList, one v = true) :
  (Instr.storeAt t (.pointer (some ⟨b, off, none⟩)) c).run P w = .ok () (w.setRow b (cs.toList.take off ++ c.cells.toList ++ cs.toList.drop (off + c.cells.toList.length)).toArray) := by
 have h1 := run_storeCells_at P b off e c.cells.toList 0 cs w hb (by simpa using hfit) (fun v hv => by rw [znx]; exact hone v hv)
 simp only [Nat.add_zero] at h1
 have h2 : ¬ (c.cells.size ≠ m) := by simp [hc]
 simp [Instr.storeAt, Instr.sureAddr, storeVar, zeP ht, hc, h1]
theorem zoN (h : SR act hn s a w g) {t : TypeId} {i : Nat} {x : Operand} (ho : o.op = .store t (.tmp i) x) (hd : o.dst = none) {ag : Bool} {m : Nat} (ht : zab P t = some (ag, m)) (hm : (cellsOf (zo s x)).length = m) (hm0 : cellsOf (zo s x) ≠ [] ∨ ∃ cs, zo s x = .agg cs)
  (hst : zb9 s i (nth s.t i) (cellsOf (zo s x)) some = some s') : zF P F n act hn s' a w g o := by
 have hv := zco (h.evalV x) hm0
 have hone := hv.ones
 have hlen := VRl.length _ hv
 have hsz : (a.eval x).cells.size = m := by rw [← hm, hlen]; simp
 have hi := h.slot i
 have fin : ∀ {b off : Nat} {cs : Array Value} {e : TypeId}, a.eval (.tmp i) = .pointer (some ⟨b, off, none⟩) → w.heap[b]? = some (.cells cs e (0, 0)) → off + (a.eval x).cells.toList.length ≤ cs.size →
   SR act hn s' a (w.setRow b (cs.toList.take off ++ (a.eval x).cells.toList ++ cs.toList.drop (off + (a.eval x).cells.toList.length)).toArray) g →
   Ext (zbd act hn) w g (w.setRow b (cs.toList.take off ++ (a.eval x).cells.toList ++ cs.toList.drop (off + (a.eval x).cells.toList.length)).toArray) g → zF P F n act hn s' a w g o := by
  intro b off cs e he hb hf hs hx
  refine zF.skip ?_ hd hs hx
  simp only [execOp, ho, he]
  simp [znC ht hsz hb hf hone]
 cases hs : nth s.t i with
 | box cells =>
  rw [hs] at hst
  simp only [zb9, ifK] at hst
  split at hst
  ·rename_i hf
   cases hst
   obtain ⟨b, cs, e, h1, h2, h3, h4, h5, h6⟩ := h.storeSlot hs 0 (by simpa [zeI] using Nat.le_of_ble_eq_true hf) hv
   exact fin (off := 0) h1 h3 h4 h5 h6
  ·cases hst
 | adr j off =>
  rw [hs] at hst hi
  simp only [zb9] at hst
  obtain ⟨b', k1, k2⟩ := hi
  split at hst
  ·rename_i cells hj
   simp only [zdE, Option.bind_eq_some_iff] at hst
   obtain ⟨r, hr, hst⟩ := hst
   obtain ⟨hf, rfl⟩ := znA hr
   cases hst
   obtain ⟨b, cs, e, h1, h2, h3, h4, h5, h6⟩ := h.storeSlot hj off (by simpa [zeI] using Nat.le_of_ble_eq_true hf) hv
   have : b' = b := h.wf.inj _ _ _ k1 h2
   subst this
   exact fin k2 h3 h4 h5 h6
  ·cases hst
 | ptr id off =>
  rw [hs] at hst hi
  simp only [zb9] at hst
  simp only [TR, VR] at hi
  obtain ⟨b', k1, k2⟩ := hi
  split at hst
  ·rename_i cells hj
   simp only [ifK] at hst
   split at hst
   ·rename_i hf
    cases hst
    obtain ⟨b, cs, e, h1, h2, h3, h4, h5, h6⟩ := h.storeOb hj off (by simpa [zeI] using Nat.le_of_ble_eq_true hf) hv
    have k1' : g.J[id]? = some (b', none) := k1
    rw [k1'] at h1; cases h1
    exact fin k2 h3 h4 h5 h6
   ·cases hst
  ·cases hst
 | eptr id len sz ix off =>
  rw [hs] at hst hi
  simp only [zb9] at hst
  simp only [TR, VR] at hi
  obtain ⟨b', l, ad, k1, k2, k3, k4, k5⟩ := hi
  split at hst
  ·rename_i sz' rows hj
   simp only [ifK] at hst
   split at hst
   ·rename_i hc
    simp only [Bool.and_eq_true] at hc
    obtain ⟨⟨c1, c2⟩, c3⟩ := hc
    have c1' := Nat.eq_of_beq_eq_true c1
    subst c1'
    have c2' := Nat.le_of_ble_eq_true c2
    cases hdec : decide (len = rows.length) with
    | false => rw [hdec] at hst; cases hst
    | true =>
     rw [hdec] at hst
     simp only [cond_true] at hst
     cases hst
     have hlr := of_decide_eq_true hdec
     obtain ⟨b, cs, e, h1, h2, h3, h4, h5, h6⟩ := h.storeArr hj ix off (by omega) c2' (VRl.alone (m := zn w g) (m' := (zn w g).alone) _ c3 rfl rfl hv)
     have k1' : g.J[id]? = some (b', some l) := k1
     rw [k1'] at h1; cases h1
     have := k5 (by omega)
     subst this
     exact fin k2 h3 h4 h5 h6
   ·cases hst
  ·cases hst
 | _ => rw [hs] at hst; simp only [zb9] at hst; cases hst
theorem zpW (h : SR act hn s a w g) {c x y : Operand} (ho : o.op = .pick c x y) {q : Bool} (hc : zo s c = .bool q) : zF P F n act hn (s.put o.dst (view (zo s (if q then x else y)))) a w g o := by
 have hv := h.evalN hc rfl
 simp only [VR] at hv
 refine zF.pure h (c := a.eval (if q then x else y)) ?_ (h.evalV _)
 simp only [execOp, ho, hv]
 cases q <;> simp [Go.asBool]
theorem zmX (h : SR act hn s a w g) {x : Operand} {i : Nat} (ho : o.op = .extract x i) {vs : List V} (hx : zo s x = .tuple vs) {v : V} (hi : vs[i]? = some v) : zF P F n act hn (s.put o.dst (view v)) a w g o := by
 have hv := h.evalN hx rfl
 simp only [VR] at hv
 obtain ⟨cs, h1, h2⟩ := hv
 obtain ⟨c, c1, c2⟩ := VRs.get _ h2 i v hi
 refine zF.pure h (c := c) ?_ c2.view
 simp only [execOp, ho, h1, Instr.extract]
 simp [c1]
theorem zlJ (h : SR act hn s a w g) {f : FuncId} {first captured : Array Operand} (ho : o.op = .makeFunc (.func f) first captured) :
  zF P F n act hn (s.put o.dst (.fn (.func f) (first.toList.map fun x => view (zo s x)) (captured.toList.map fun x => view (zo s x)))) a w g o := by
 have hl : ∀ l : List Operand, VRs (l.map fun x => view (zo s x)) (zn w g) (l.map a.eval) := by
  intro l
  induction l with
  | nil => simp only [List.map_nil, VRs]
  | cons x l ih => simp only [List.map_cons, VRs]; exact ⟨_, _, rfl, h.evalV x, ih⟩
 refine zF.pure h (c := .func (.func f) (first.map a.eval) (captured.map a.eval)) (by simp only [execOp, ho, Instr.makeFunc]; simp) ?_
 simp only [VR]
 exact ⟨.func f, first.toList.map a.eval, captured.toList.map a.eval, by simp [← Array.toList_map], hl _, hl _, rfl⟩
theorem zmY (h : SR act hn s a w g) {t1 t2 : TypeId} {x : Operand} (ho : o.op = .convert t1 t2 x) {q k : IntKind} {m : Int} (ht : P.underlying t2 = some (.int q)) (hs : (P.underlying t1).isSome = true) (hx : zo s x = .int k m) :
  zF P F n act hn (s.put o.dst (.int q (q.wrap m))) a w g o := by
 have hv := h.evalN hx rfl
 simp only [VR] at hv
 obtain ⟨u, hu⟩ := Option.isSome_iff_exists.1 hs
 refine zF.pure h (c := .int q (q.wrap m)) ?_ (by simp only [VR])
 simp only [execOp, ho, hv, convert]
 simp [run_underlying hu, run_underlying ht, Conv.intToInt]
theorem zoO (h : SR act hn s a w g) {t : TypeId} {x : Operand} (ho : o.op = .unOp .neg t x) {q : IntKind} {m : Int} (hx : zo s x = .int q m) : zF P F n act hn (s.put o.dst (.int q (q.wrap (0 - m)))) a w g o := by
 have hv := h.evalN hx rfl
 simp only [VR] at hv
 refine zF.pure h (c := .int q (q.wrap (0 - m))) ?_ (by simp only [VR])
 simp only [execOp, ho, hv, Op.unary, Op.intArith]
 simp
theorem zoP (h : SR act hn s a w g) {t : TypeId} {x : Operand} (ho : o.op = .unOp .not t x) {b : Bool} (hx : zo s x = .bool b) : zF P F n act hn (s.put o.dst (.bool (!b))) a w g o := by
 have hv := h.evalN hx rfl
 simp only [VR] at hv
 refine zF.pure h (c := .bool !b) ?_ (by simp only [VR])
 simp only [execOp, ho, hv, Op.unary]
 simp
theorem zgc {k k' : IntKind} : kEq k k' = true ↔ k = k' := by cases k <;> cases k' <;> simp [kEq]
theorem zcN {op : BinOp} {t : TypeId} {x y : Operand} {k k' : IntKind} {i j : Int} : (eqGuard op t x y (.int k i) (.int k' j)).run P w = .ok () w := by
 unfold eqGuard
 split <;> simp
theorem zgs {op : BinOp} {t : TypeId} {x y : Operand} {i j : Bool} : (eqGuard op t x y (.bool i) (.bool j)).run P w = .ok () w := by
 unfold eqGuard
 split <;> simp
def zkS : V → Value
 | .int k n => .int k n
 | .bool b => .bool b
 | _ => Go.undef
theorem zq0 {op : BinOp} {t : TypeId} {k : IntKind} {i j : Int} {v : V} (ha : zi8 op k i j = some v) : (∀ m, VR v m (zkS v)) ∧ (binOp op t (.int k i) (.int k j)).run P w = .ok (zkS v) w := by
 unfold zi8 at ha
 split at ha <;> first
  | (cases ha; done)
  | (cases ha; exact ⟨fun m => by simp only [VR, zkS], by simp [binOp, Op.intArith, Op.intCmp, Op.intBits, zkS]⟩)
theorem zoQ (h : SR act hn s a w g) {op : BinOp} {t t' : TypeId} {x y : Operand} (ho : o.op = .binOp op t x y t') {k1 k2 : IntKind} {i j : Int} (hx : zo s x = .int k1 i) (hy : zo s y = .int k2 j) (hk : k1 = k2) {v : V} (ha : zi8 op k1 i j = some v) :
  zF P F n act hn (s.put o.dst v) a w g o := by
 subst hk
 have hvx := h.evalN hx rfl
 have hvy := h.evalN hy rfl
 simp only [VR] at hvx hvy
 obtain ⟨h1, h2⟩ := zq0 (P := P) (w := w) (t := t) ha
 refine zF.pure h (c := zkS v) ?_ (h1 _)
 simp only [execOp, ho, hvx, hvy]
 simp [zcN, h2]
theorem zq1 (h : SR act hn s a w g) {t t' : TypeId} {x y : Operand} (ho : o.op = .binOp .quo t x y t') {k1 k2 : IntKind} {i j : Int} (hx : zo s x = .int k1 i) (hy : zo s y = .int k2 j) (hk : k1 = k2) (hj : j ≠ 0) :
  zF P F n act hn (s.put o.dst (.int k1 (k1.wrap (i.tdiv j)))) a w g o := by
 subst hk
 have hvx := h.evalN hx rfl
 have hvy := h.evalN hy rfl
 simp only [VR] at hvx hvy
 refine zF.pure h (c := .int k1 (k1.wrap (i.tdiv j))) ?_ (by simp only [VR])
 simp only [execOp, ho, hvx, hvy]
 simp [zcN, binOp, Op.intDiv, hj]
theorem zq2 (h : SR act hn s a w g) {t t' : TypeId} {x y : Operand} (ho : o.op = .binOp .rem t x y t') {k1 k2 : IntKind} {i j : Int} (hx : zo s x = .int k1 i) (hy : zo s y = .int k2 j) (hk : k1 = k2) (hj : j ≠ 0) :
  zF P F n act hn (s.put o.dst (.int k1 (i.tmod j))) a w g o := by
 subst hk
 have hvx := h.evalN hx rfl
 have hvy := h.evalN hy rfl
 simp only [VR] at hvx hvy
 refine zF.pure h (c := .int k1 (i.tmod j)) ?_ (by simp only [VR])
 simp only [execOp, ho, hvx, hvy]
 simp [zcN, binOp, Op.intDiv, hj]
theorem zq3 (h : SR act hn s a w g) {t t' : TypeId} {x y : Operand} (ho : o.op = .binOp .shl t x y t') {k1 k2 : IntKind} {i j : Int} (hx : zo s x = .int k1 i) (hy : zo s y = .int k2 j) (hj : ¬ j < 0) :
  zF P F n act hn (s.put o.dst (.int k1 (k1.wrap (i * 2 ^ (min j.toNat k1.bits))))) a w g o := by
 have hvx := h.evalN hx rfl
 have hvy := h.evalN hy rfl
 simp only [VR] at hvx hvy
 refine zF.pure h (c := .int k1 (k1.wrap (i * 2 ^ (min j.toNat k1.bits)))) ?_ (by simp only [VR])
 simp only [execOp, ho, hvx, hvy]
 simp [zcN, binOp, Op.shift, hj]
theorem zq4 (h : SR act hn s a w g) {t t' : TypeId} {x y : Operand} (ho : o.op = .binOp .shr t x y t') {k1 k2 : IntKind} {i j : Int} (hx : zo s x = .int k1 i) (hy : zo s y = .int k2 j) (hj : ¬ j < 0) :
  zF P F n act hn (s.put o.dst (.int k1 (i.fdiv (2 ^ (min j.toNat k1.bits))))) a w g o := by
 have hvx := h.evalN hx rfl
 have hvy := h.evalN hy rfl
 simp only [VR] at hvx hvy
 refine zF.pure h (c := .int k1 (i.fdiv (2 ^ (min j.toNat k1.bits)))) ?_ (by simp only [VR])
 simp only [execOp, ho, hvx, hvy]
 simp [zcN, binOp, Op.shift, hj]
end Go.Ab
namespace Go.Ab
variable {act hn : Nat} {s s' : St} {a : Act} {w : World} {g : Gh} {P : Program} {F : Fence} {n : Nat} {o : Oper}
theorem zig (h : SR act hn s a w g) {op : BinOp} {t t' : TypeId} {x y : Operand} (ho : o.op = .binOp op t x y t') {p q r : Bool} (hx : zo s x = .bool p) (hy : zo s y = .bool q) (ht : P.underlying t = some .bool)
  (hr : (op = .eql ∧ r = (p == q)) ∨ (op = .neq ∧ r = !(p == q))) : zF P F n act hn (s.put o.dst (.bool r)) a w g o := by
 have hvx := h.evalN hx rfl
 have hvy := h.evalN hy rfl
 simp only [VR] at hvx hvy
 have he : (Op.equal t (.bool p) (.bool q)).run P w = .ok (p == q) w := by
  show (Op.equalIn (9999 + 1) t (.bool p) (.bool q)).run P w = _
  exact run_equalIn_bool' w _ t p q ht
 refine zF.pure h (c := .bool r) ?_ (by simp only [VR])
 rcases hr with ⟨rfl, rfl⟩ | ⟨rfl, rfl⟩
 ·simp only [execOp, ho, hvx, hvy, binOp]
  simp [zgs, he]
 ·simp only [execOp, ho, hvx, hvy, binOp]
  simp [zgs, he]
theorem zff {t : TypeId} {ag : Bool} {m : Nat} (ht : zab P t = some (ag, m)) {xs : List V} {cs : List Value} {mm : Mem} (hv : VRl xs mm cs) {off : Nat} {v : V} (hp : part ag m xs off = some v) :
  ∃ c, (Go.part t ⟨cs⟩ off).run P w = .ok c w ∧ VR v mm c ∧ (ag = false → one c = true) ∧ (ag = true → ∃ ds, v = .agg ds) := by
 have hlen := VRl.length _ hv
 unfold Go.part
 simp only [Sem.run_bind, zny ht, Result.andThen_ok]
 rcases ziw hp with ⟨rfl, hl, rfl⟩ | ⟨rfl, rfl, rfl⟩ | ⟨rfl, hv'⟩
 ·refine ⟨.agg ((⟨cs⟩ : Array Value).extract off (off + m)), by simp [zeP ht], ?_, by simp, fun _ => ⟨_, rfl⟩⟩
  simp only [VR]
  refine ⟨(cs.drop off).take m, ?_, (hv.drop off).take m⟩
  congr 1
  apply Array.ext'
  simp [List.take_drop, Nat.add_comm]
 ·refine ⟨.agg ((⟨cs⟩ : Array Value).extract off (off + 0)), by simp [zeP ht], ?_, by simp, fun _ => ⟨_, rfl⟩⟩
  simp only [VR]
  exact ⟨[], by congr 1; apply Array.ext'; simp, by simp only [VRl]⟩
 ·obtain ⟨c, c1, c2, c3⟩ := VRl.get _ hv off v hv'
  refine ⟨c, ?_, c2, fun _ => c3, by simp⟩
  simp [c1]
theorem zpX {u : TypeDesc} {x y : V} {b : Bool} (h : zdD u x y = some b) {m m' : Mem} {c c' : Value} (hx : VR x m c) (hy : VR y m' c') {t : TypeId} (ht : P.underlying t = some u) (d : Nat) : (Op.equalIn (d + 1) t c c').run P w = .ok b w := by
 unfold zdD at h
 split at h
 ·simp only [VR] at hx hy; subst hx; subst hy; cases h
  exact run_equalIn_bool' w _ t _ _ ht
 ·simp only [VR] at hx hy; subst hx; subst hy
  split at h
  ·rename_i hk
   cases h
   have := zgc.1 hk; subst this
   exact run_equalIn_int w _ t _ _ _ _ ht
  ·cases h
 ·simp only [VR] at hx hy; subst hx; subst hy; cases h
  rw [beq_toListBytes]
  exact run_equalIn_string w _ t _ _ ht
 ·cases h
theorem Value.one_cells {c : Value} (h : one c = true) : c.cells = #[c] := by
 cases c <;> first
  | rfl
  | (simp [one] at h)
def zbA (u : TypeDesc) : Bool := match u with
 | .struct _ | .array .. => true
 | _ => false
def zbp (P : Program) (t : TypeId) (c : Value) (cs : List Value) : Prop := match P.underlying t with
 | some u => (zbA u = true ∧ c = .agg ⟨cs⟩) ∨ (zbA u = false ∧ cs = [c])
 | none => cs = [c]
theorem zpo {d0 : Nat} (ih : ∀ (t : TypeId) {xs ys : List V} {b : Bool} (_ : eqT P d0 t xs ys = some b) {m m' : Mem} {cs cs' : List Value} (_ : VRl xs m cs) (_ : VRl ys m' cs') (d : Nat) (_ : d0 ≤ d) (c c' : Value)
  (_ : zbp P t c cs) (_ : zbp P t c' cs'), (Op.equalIn d t c c').run P w = .ok b w)
  {t : TypeId} {ag : Bool} {k : Nat} (hts : zab P t = some (ag, k)) {xs ys : List V} {m m' : Mem} {cs cs' : List Value} (hx : VRl xs m cs) (hy : VRl ys m' cs') {off : Nat} {x y : V} (hpx : part ag k xs off = some x) (hpy : part ag k ys off = some y)
  {r : Bool} (he : eqT P d0 t (cellsOf x) (cellsOf y) = some r) (d : Nat) (hd : d0 ≤ d) :
  ∃ cx cy, (Go.part t ⟨cs⟩ off).run P w = .ok cx w ∧ (Go.part t ⟨cs'⟩ off).run P w = .ok cy w ∧ (Op.equalIn d t cx cy).run P w = .ok r w := by
 obtain ⟨cx, px1, px2, px3, px4⟩ := zff (P := P) (w := w) hts hx hpx
 obtain ⟨cy, py1, py2, py3, py4⟩ := zff (P := P) (w := w) hts hy hpy
 obtain ⟨i, u, _, hu', _, hag⟩ := zb5 hts
 refine ⟨cx, cy, px1, py1, ?_⟩
 have agU : zbA u = ag := by cases u <;> simp_all [zbA]
 have nex : cellsOf x ≠ [] ∨ ∃ ds, x = .agg ds := by
  cases ag with
  | true => exact .inr (px4 rfl)
  | false =>
   left; intro e
   rw [e] at he
   cases d0 with
   | zero => simp [eqT] at he
   | succ d0 => cases u <;> simp_all [eqT, zb3]
 have ney : cellsOf y ≠ [] ∨ ∃ ds, y = .agg ds := by
  cases ag with
  | true => exact .inr (py4 rfl)
  | false =>
   left; intro e
   rw [e] at he
   cases d0 with
   | zero => simp [eqT] at he
   | succ d0 => cases u <;> simp_all [eqT, zb3]
 have kx : VRl (cellsOf x) m cx.cells.toList := zco (by cases x <;> first | exact px2 | (simp only [VR] at px2)) nex
 have ky : VRl (cellsOf y) m' cy.cells.toList := zco (by cases y <;> first | exact py2 | (simp only [VR] at py2)) ney
 refine ih t he kx ky d hd cx cy ?_ ?_
 ·simp only [zbp, hu', agU]
  cases ag with
  | true =>
   obtain ⟨ds, rfl⟩ := px4 rfl
   simp only [VR] at px2
   obtain ⟨cs1, rfl, _⟩ := px2
   exact .inl ⟨rfl, rfl⟩
  | false =>
   rw [Value.one_cells (px3 rfl)]
   exact .inr ⟨rfl, rfl⟩
 ·simp only [zbp, hu', agU]
  cases ag with
  | true =>
   obtain ⟨ds, rfl⟩ := py4 rfl
   simp only [VR] at py2
   obtain ⟨cs1, rfl, _⟩ := py2
   exact .inl ⟨rfl, rfl⟩
  | false =>
   rw [Value.one_cells (py3 rfl)]
   exact .inr ⟨rfl, rfl⟩
theorem zpp (d0 : Nat) : ∀ (t : TypeId) {xs ys : List V} {b : Bool} (_ : eqT P d0 t xs ys = some b) {m m' : Mem} {cs cs' : List Value} (_ : VRl xs m cs) (_ : VRl ys m' cs') (d : Nat) (_ : d0 ≤ d) (c c' : Value)
    (_ : zbp P t c cs) (_ : zbp P t c' cs'), (Op.equalIn d t c c').run P w = .ok b w := by
  induction d0 with
  | zero => intro t xs ys b h; simp [eqT] at h
  | succ d0 ih =>
    intro t xs ys b h m m' cs cs' hx hy d hd c c' hc hc2
    obtain ⟨d, rfl⟩ : ∃ k, d = k + 1 := ⟨d - 1, by omega⟩
    unfold eqT at h
    cases hu : P.underlying t with
    | none => rw [hu] at h; cases h
    | some u =>
      rw [hu] at h
      simp only [zbp, hu] at hc hc2
      by_cases hst : ∃ fs, u = .struct fs
      · obtain ⟨fs, rfl⟩ := hst
        simp only [zbA, true_and, Bool.true_eq_false, false_and, or_false] at hc hc2
        subst hc; subst hc2
        simp only at h
        cases hh : P.stoodInHeld t with
        | true => rw [hh] at h; cases h
        | false =>
          rw [hh] at h
          simp only at h
          have hf : P.fieldsOf t = fs := by simp [Program.fieldsOf, hu]
          rw [run_equalIn_struct (P := P) w d t _ _ (by rw [hf]; exact hu) hh, hf]
          generalize fs.toList = l at h
          induction l generalizing b with
          | nil => simp only [zhB] at h; cases h; simp [Op.eqFields]
          | cons f l ihl =>
            simp only [zhB] at h
            cases hn : f.name == "_" with
            | true => rw [hn] at h; cases h
            | false =>
              rw [hn] at h
              simp only at h
              have hn' : f.name ≠ "_" := by simpa using hn
              cases hts : zab P f.type with
              | none => rw [hts] at h; cases h
              | some p =>
                obtain ⟨ag, k⟩ := p
                rw [hts] at h
                simp only at h
                cases hpx : part ag k xs f.offset with
                | none => rw [hpx] at h; cases h
                | some x =>
                  rw [hpx, Option.bind_some] at h
                  cases hpy : part ag k ys f.offset with
                  | none => rw [hpy] at h; cases h
                  | some y =>
                    rw [hpy, Option.bind_some] at h
                    cases he : eqT P d0 f.type (cellsOf x) (cellsOf y) with
                    | none => rw [he] at h; cases h
                    | some r =>
                      rw [he, Option.bind_some] at h
                      cases hq : zhB P (eqT P d0) xs ys l with
                      | none => rw [hq] at h; cases h
                      | some q =>
                        rw [hq, Option.bind_some] at h
                        cases h
                        obtain ⟨cx, cy, px1, py1, e1⟩ := zpo ih hts hx hy hpx hpy he d (by omega)
                        have e2 := ihl hq
                        rw [Op.eqFields]
                        simp only [if_pos hn', Sem.run_bind, px1, py1, e1, Result.andThen_ok]
                        cases r
                        · simp
                        · simpa using e2
      · by_cases har : ∃ n e, u = .array n e
        · obtain ⟨n, e, rfl⟩ := har
          simp only [zbA, true_and, Bool.true_eq_false, false_and, or_false] at hc hc2
          subst hc; subst hc2
          simp only at h
          cases hts : zab P e with
          | none => rw [hts] at h; cases h
          | some p =>
            obtain ⟨ag, k⟩ := p
            rw [hts] at h
            simp only at h
            obtain ⟨i, u', hi, _, hk, _⟩ := zb5 hts
            have hk' : P.cellsOf e = k := by simp [Program.cellsOf, hi, hk]
            rw [run_equalIn_array w d _ _ hu hi, hk', List.range_eq_range']
            have loop : ∀ (len j : Nat) {b : Bool}, ze7 (eqT P d0 e) ag k xs ys len j = some b → (Op.eqItems d e k ⟨cs⟩ ⟨cs'⟩ (List.range' j len)).run P w = .ok b w := by
              intro len
              induction len with
              | zero => intro j b h; simp only [ze7] at h; cases h; simp [Op.eqItems]
              | succ len ihl =>
                intro j b h
                simp only [ze7] at h
                cases hpx : part ag k xs (j * k) with
                | none => rw [hpx] at h; cases h
                | some x =>
                  rw [hpx, Option.bind_some] at h
                  cases hpy : part ag k ys (j * k) with
                  | none => rw [hpy] at h; cases h
                  | some y =>
                    rw [hpy, Option.bind_some] at h
                    cases he : eqT P d0 e (cellsOf x) (cellsOf y) with
                    | none => rw [he] at h; cases h
                    | some r =>
                      rw [he, Option.bind_some] at h
                      cases hq : ze7 (eqT P d0 e) ag k xs ys len (j + 1) with
                      | none => rw [hq] at h; cases h
                      | some q =>
                        rw [hq, Option.bind_some] at h
                        cases h
                        obtain ⟨cx, cy, px1, py1, e1⟩ := zpo ih hts hx hy hpx hpy he d (by omega)
                        have e2 := ihl (j + 1) hq
                        rw [List.range'_succ]
                        simp only [Op.eqItems, Sem.run_bind, px1, py1, e1, Result.andThen_ok]
                        cases r
                        · simp
                        · simpa using e2
            exact loop n 0 h
        · have ha : zbA u = false := by
            cases u <;> first
              | rfl
              | exact absurd ⟨_, rfl⟩ hst
              | exact absurd ⟨_, _, rfl⟩ har
          simp only [ha, Bool.false_eq_true, false_and, true_and, false_or] at hc hc2
          subst hc; subst hc2
          have h' : zb3 u xs ys = some b := by
            cases u <;> first
              | exact absurd ⟨_, rfl⟩ hst
              | exact absurd ⟨_, _, rfl⟩ har
              | exact h
          unfold zb3 at h'
          split at h'
          · rename_i x y
            simp only [VRl] at hx hy
            obtain ⟨c1, r1, e1, ⟨v1, _⟩, _⟩ := hx
            obtain ⟨c2, r2, e2, ⟨v2, _⟩, _⟩ := hy
            cases e1; cases e2
            exact zpX h' v1 v2 hu d
          · cases h'
theorem zix (h : SR act hn s a w g) {op : BinOp} {t t' : TypeId} {x y : Operand} (ho : o.op = .binOp op t x y t') {xs ys : List V} {b r : Bool} (hx : zo s x = .agg xs) (hy : zo s y = .agg ys) (hg : P.eqGuardType P.depth t = false)
  (ht : ∃ u, P.underlying t = some u ∧ zbA u = true) (he : eqT P 8 t xs ys = some b) (hr : (op = .eql ∧ r = b) ∨ (op = .neq ∧ r = !b)) : zF P F n act hn (s.put o.dst (.bool r)) a w g o := by
 have hvx := h.evalN hx rfl
 have hvy := h.evalN hy rfl
 simp only [VR] at hvx hvy
 obtain ⟨cs, e1, v1⟩ := hvx
 obtain ⟨cs', e2, v2⟩ := hvy
 obtain ⟨u, hu, hau⟩ := ht
 have hq : (Op.equalIn 10000 t (.agg ⟨cs⟩) (.agg ⟨cs'⟩)).run P w = .ok b w := zpp 8 t he v1 v2 10000 (by omega) _ _ (by simp [zbp, hu, hau]) (by simp [zbp, hu, hau])
 refine zF.pure h (c := .bool r) ?_ (by simp only [VR])
 rcases hr with ⟨rfl, rfl⟩ | ⟨rfl, rfl⟩
 ·simp only [execOp, ho, e1, e2]
  simp [run_eqGuard_agg w _ t x y _ _ hg, run_eql_struct, hq]
 ·simp only [execOp, ho, e1, e2]
  simp [run_eqGuard_agg w _ t x y _ _ hg, run_neq_struct, hq]
theorem zpY {v : V} {b : Bool} (h : zkE v = some b) {m : Mem} {c : Value} (hv : VR v m c) : ∃ ad l cap, c = .slice ad l cap ∧ ad.isNone = b := by
 unfold zkE at h
 split at h
 ·cases h
  simp only [VR] at hv
  obtain ⟨ad, cap, h1, _, ⟨h3, _⟩, _⟩ := hv
  exact ⟨ad, _, cap, h1, by rw [h3]; rfl⟩
 ·cases h
  simp only [VR] at hv
  obtain ⟨ad, cap, h1, _, h3, _⟩ := hv
  exact ⟨ad, _, cap, h1, by cases ad <;> simp_all⟩
 ·cases h
  simp only [VR] at hv
  obtain ⟨ad, cap, h1, _, _, _, h5⟩ := hv
  obtain ⟨b, o, sz, h6, _⟩ := h5 (by simp)
  exact ⟨ad, _, cap, h1, by rw [h6]; rfl⟩
 ·cases h
theorem ziy (h : SR act hn s a w g) {op : BinOp} {t t' e : TypeId} {x y : Operand} (ho : o.op = .binOp op t x y t') {v : V} {b r : Bool} (hx : zo s x = v) (hp : view v = v) (hy : zo s y = .slice .nil []) (hb : zkE v = some b)
  (ht : P.underlying t = some (.slice e)) (hr : (op = .eql ∧ r = b) ∨ (op = .neq ∧ r = !b)) : zF P F n act hn (s.put o.dst (.bool r)) a w g o := by
 have hvx := h.evalN hx hp
 have hvy := h.evalN hy rfl
 obtain ⟨ad, l, cap, e1, e2⟩ := zpY hb hvx
 simp only [VR] at hvy
 obtain ⟨ad', cap', e3, _, ⟨e4, e5⟩, _⟩ := hvy
 subst e4; subst e5
 have e3' : a.eval y = .slice none 0 0 := e3
 refine zF.pure h (c := .bool r) ?_ (by simp only [VR])
 have hq : (Op.equal t (.slice ad l cap) (.slice none 0 0)).run P w = .ok ad.isNone w := run_equal_slice_nil w t e ad l cap ht
 rcases hr with ⟨rfl, rfl⟩ | ⟨rfl, rfl⟩
 ·simp only [execOp, ho, e1, e3', binOp]
  simp [eqGuard, hq, e2]
 ·simp only [execOp, ho, e1, e3', binOp]
  simp [eqGuard, hq, e2]
theorem ziz {t : TypeId} {fd off : Nat} {ft : TypeId} (h : fieldAt P t fd = some (off, ft)) : ∃ fs f, P.underlying t = some (.struct fs) ∧ fs[fd]? = some f ∧ f.offset = off ∧ f.type = ft := by
 unfold fieldAt at h
 split at h
 ·rename_i fs hu
  split at h
  ·rename_i f hf
   cases h
   exact ⟨fs, f, hu, hf, rfl, rfl⟩
  ·cases h
 ·cases h
theorem zjJ {t : TypeId} {fd off : Nat} {ft : TypeId} (h : fieldAt P t fd = some (off, ft)) {ag : Bool} {m : Nat} (ht : zab P ft = some (ag, m)) (hm : 0 < m) (ad : Addr) : (Instr.fieldAt t (.pointer (some ad)) fd).run P w = .ok (.pointer (some (ad.add off))) w := by
 obtain ⟨fs, f, h1, h2, h3, h4⟩ := ziz h
 subst h3; subst h4
 simp [Instr.fieldAt, run_underlying h1, h2, Instr.sureAddr, fieldPlace, zeP ht]
 omega
theorem zbn (b o' off : Nat) : (⟨b, o', none⟩ : Addr).add off = ⟨b, o' + off, none⟩ := by unfold Addr.add; split <;> simp_all
theorem zdB (h : SR act hn s a w g) {t : TypeId} {x : Operand} {fd off : Nat} {ft : TypeId} (ho : o.op = .fieldAddr t x fd) (hf : fieldAt P t fd = some (off, ft)) {ag : Bool} {m : Nat} (ht : zab P ft = some (ag, m)) (hm : 0 < m) {v : V}
  (hv : (∃ i cs, x = .tmp i ∧ zo s x = .box cs ∧ v = .adr i off) ∨ (∃ i o', zo s x = .adr i o' ∧ v = .adr i (o' + off)) ∨ (∃ id o', zo s x = .ptr id o' ∧ v = .ptr id (o' + off)) ∨
   (∃ row o', zo s x = .rptr row o' ∧ v = .rptr row (o' + off)) ∨ (∃ id len sz i o', zo s x = .eptr id len sz i o' ∧ v = .eptr id len sz i (o' + off))) :
  zF P F n act hn (s.put o.dst v) a w g o := by
 have fin : ∀ {ad : Addr}, a.eval x = .pointer (some ad) → (∀ i, o.dst = some i → TR w g act i v (.pointer (some (ad.add off)))) → zF P F n act hn (s.put o.dst v) a w g o := by
  intro ad he hv
  refine zF.pureT h (c := .pointer (some (ad.add off))) ?_ hv
  simp only [execOp, ho, he]
  simp [zjJ hf ht hm]
 have adrCase : ∀ {i o' : Nat}, zo s x = .adr i o' → ∃ b, g.own b = some (.slot act i) ∧ a.eval x = .pointer (some ⟨b, o', none⟩) := by
  intro i o' hx
  cases x with
  | tmp j =>
   have ht' := h.evalT j
   rw [hx] at ht'
   exact ht'
  | const c =>
   exfalso
   have := zdj (zn w g) c
   simp only [zo] at hx
   rw [hx] at this; simp only [VR] at this
  | func f => simp [zo] at hx
  | global f => simp [zo] at hx
 rcases hv with ⟨i, cs, rfl, hx, rfl⟩ | ⟨i, o', hx, rfl⟩ | ⟨id, o', hx, rfl⟩ | ⟨row, o', hx, rfl⟩ | ⟨id, len, sz, i, o', hx, rfl⟩
 ·have ht' := h.evalT i
  rw [hx] at ht'
  obtain ⟨b, cs', e, h1, h2, _⟩ := ht'
  refine fin h1 fun _ _ => ⟨b, h2, by rw [zbn]; simp⟩
 ·obtain ⟨b, h1, h2⟩ := adrCase hx
  exact fin h2 fun _ _ => ⟨b, h1, by rw [zbn]⟩
 ·have hv := h.evalN hx rfl
  simp only [VR] at hv
  obtain ⟨b, h1, h2⟩ := hv
  exact fin h2 fun _ _ => TR.of_VR (by simp only [VR]; exact ⟨b, h1, by rw [zbn]⟩)
 ·have hv := h.evalN hx rfl
  simp only [VR] at hv
  obtain ⟨b, o2, h1, h2⟩ := hv
  exact fin h1 fun _ _ => TR.of_VR (by simp only [VR]; exact ⟨b, o2, by rw [zbn, Nat.add_assoc], h2⟩)
 ·have hv := h.evalN hx rfl
  simp only [VR] at hv
  obtain ⟨b, l, ad, h1, h2, h3, h4, h5⟩ := hv
  refine fin h2 fun _ _ => TR.of_VR ?_
  simp only [VR]
  exact ⟨b, l, _, h1, rfl, h3, h4, fun e => by rw [h5 e, zbn, Nat.add_assoc]⟩
theorem zda (h : SR act hn s a w g) {x : Operand} (ho : o.op = .nilCheck x) {v : V}
  (hv : (∃ i cs, x = .tmp i ∧ zo s x = .box cs ∧ v = .adr i 0) ∨ (∃ i o', zo s x = .adr i o' ∧ v = .adr i o') ∨ (∃ id o', zo s x = .ptr id o' ∧ v = .ptr id o') ∨
   (∃ row o', zo s x = .rptr row o' ∧ v = .rptr row o') ∨ (∃ f first cap, zo s x = .fn (.func f) first cap ∧ v = .fn (.func f) first cap)) :
  zF P F n act hn (s.put o.dst v) a w g o := by
 have fin : ∀ {c : Value}, a.eval x = c → (match c with | .pointer (some _) => True | .func (.func _) _ _ => True | _ => False) → (∀ i, o.dst = some i → TR w g act i v c) → zF P F n act hn (s.put o.dst v) a w g o := by
  intro c he hc hv
  refine zF.pureT h (c := c) ?_ hv
  simp only [execOp, ho, he]
  split at hc <;> first
   | (simp; done)
   | exact hc.elim
 rcases hv with ⟨i, cs, rfl, hx, rfl⟩ | ⟨i, o', hx, rfl⟩ | ⟨id, o', hx, rfl⟩ | ⟨row, o', hx, rfl⟩ | ⟨f, first, cap, hx, rfl⟩
 ·have ht' := h.evalT i
  rw [hx] at ht'
  obtain ⟨b, cs', e, h1, h2, _⟩ := ht'
  exact fin h1 trivial fun _ _ => ⟨b, h2, rfl⟩
 ·cases x with
  | tmp j =>
   have ht' := h.evalT j
   rw [hx] at ht'
   obtain ⟨b, h1, h2⟩ := ht'
   exact fin h2 trivial fun _ _ => ⟨b, h1, rfl⟩
  | const c =>
   exfalso
   have := zdj (zn w g) c
   simp only [zo] at hx
   rw [hx] at this; simp only [VR] at this
  | func f => simp [zo] at hx
  | global f => simp [zo] at hx
 ·have hv := h.evalN hx rfl
  have hv' := hv
  simp only [VR] at hv
  obtain ⟨b, h1, h2⟩ := hv
  rw [h2] at hv'
  exact fin h2 trivial fun _ _ => TR.of_VR hv'
 ·have hv := h.evalN hx rfl
  have hv' := hv
  simp only [VR] at hv
  obtain ⟨b, o2, h1, h2⟩ := hv
  rw [h1] at hv'
  exact fin h1 trivial fun _ _ => TR.of_VR hv'
 ·have hv := h.evalN hx rfl
  have hv' := hv
  simp only [VR] at hv
  obtain ⟨f', fi, ca, h1, h2, h3, h4⟩ := hv
  rw [h1] at hv'
  subst h4
  exact fin h1 trivial fun _ _ => TR.of_VR hv'
theorem zoR (h : SR act hn s a w g) {t : TypeId} {x : Operand} {fd off : Nat} {ft : TypeId} (ho : o.op = .field t x fd) (hf : fieldAt P t fd = some (off, ft)) {ag : Bool} {m : Nat} (ht : zab P ft = some (ag, m)) {cs : List V} (hx : zo s x = .agg cs) {v : V}
  (hp : part ag m cs off = some v) : zF P F n act hn (s.put o.dst (view v)) a w g o := by
 have hv := h.evalN hx rfl
 simp only [VR] at hv
 obtain ⟨ds, h1, h2⟩ := hv
 obtain ⟨fs, f, k1, k2, k3, k4⟩ := ziz hf
 obtain ⟨c, c1, c2, _⟩ := zff (P := P) (w := w) ht h2 hp
 subst k3; subst k4
 refine zF.pure h (c := c) ?_ c2.view
 simp only [execOp, ho, h1, Instr.field]
 simp [run_underlying k1, k2, asAgg, c1]
theorem zdb {t e : TypeId} {sz b : Nat} (h : zaW P t = some (e, sz, b)) : ∃ i, P.underlying t = some (.slice e) ∧ P.info? e = some i ∧ i.size = sz ∧ i.bytes = b := by
 unfold zaW at h
 split at h
 ·rename_i e' hu
  split at h
  ·rename_i i hi; cases h; exact ⟨i, hu, hi, rfl, rfl⟩
  ·cases h
 ·cases h
theorem zjK {t e : TypeId} {sz b : Nat} (h : zaW P t = some (e, sz, b)) {ad : Addr} {len cap : Nat} {k : IntKind} {i : Int} (h0 : 0 ≤ i) (hi : i < len) :
  (Instr.indexAt t (.slice (some ad) len cap) (.int k i)).run P w = .ok (.pointer (some (ad.add (i.toNat * sz)))) w := by
 obtain ⟨j, h1, h2, h3, h4⟩ := zdb h
 simp [Instr.indexAt, asIntOf, run_underlying h1, h0, hi, zdI h2, h3]
theorem zkf (h : SR act hn s a w g) {t e : TypeId} {x ix : Operand} (ho : o.op = .indexAddr t x ix) {sz b : Nat} (hs : zaW P t = some (e, sz, b)) {k : IntKind} {i : Int} (hi : zo s ix = .int k i) {fl : Fl} {rows : List (List V)}
  (hx : zo s x = .slice fl rows) {row row' : List V} (hr : zS rows i sz = some row) {sh : List Sh} (hsh : zbS sh row some = some row') : zF P F n act hn (s.put o.dst (.rptr row' 0)) a w g o := by
 have hv := h.evalN hx rfl
 have hvi := h.evalN hi rfl
 simp only [VR] at hv hvi
 obtain ⟨r1, r2, r3⟩ := zjI hr
 have hlt := (List.getElem?_eq_some_iff.1 r2).1
 obtain ⟨ad, cap, h1, h2, h3, h4, h5⟩ := hv
 obtain ⟨bb, oo, sz', k1, k2⟩ := h5 (by intro e; rw [e] at hlt; simp at hlt)
 subst k1
 obtain ⟨q1, q2⟩ := VRr.get _ k2 _ _ r2
 have : sz' = sz := by omega
 subst this
 refine zF.pure h (c := .pointer (some ⟨bb, oo + i.toNat * sz', none⟩)) ?_ ?_
 ·simp only [execOp, ho, h1, hvi]
  simp [zjK hs r1 (show i < (rows.length : Int) by omega), zbn]
 ·simp only [VR]
  exact ⟨bb, oo + i.toNat * sz', by simp, zsU hsh q2⟩
theorem zlK (h : SR act hn s a w g) {t e : TypeId} {x ix : Operand} (ho : o.op = .indexAddr t x ix) {sz b : Nat} (hs : zaW P t = some (e, sz, b)) {k : IntKind} {i : Int} (hi : zo s ix = .int k i) {id len : Nat}
  (hx : zo s x = .arr id len sz) (h0 : 0 ≤ i) (hl : i.toNat < len) : zF P F n act hn (s.put o.dst (.eptr id len sz i.toNat 0)) a w g o := by
 have hv := h.evalN hx rfl
 have hvi := h.evalN hi rfl
 simp only [VR] at hv hvi
 obtain ⟨ad, cap, bb, l, h1, h2, h3, h4, h5, h6, h7⟩ := hv
 cases ad with
 | none => have := h5 rfl; omega
 | some ad =>
  refine zF.pure h (c := .pointer (some (ad.add (i.toNat * sz)))) ?_ ?_
  ·simp only [execOp, ho, h2, hvi]
   simp [zjK hs h0 (show i < (len : Int) by omega)]
  ·simp only [VR]
   refine ⟨bb, l, _, h1, rfl, h4, hl, fun e => ?_⟩
   obtain ⟨g1, _⟩ := h7 (by omega) e
   cases g1
   rw [zbn]; simp
theorem ziA {t e : TypeId} {sz n : Nat} (h : zdP P t = some (e, sz, n)) : ∃ i, P.underlying t = some (.array n e) ∧ P.info? e = some i ∧ i.size = sz := by
 unfold zdP at h
 split at h
 ·rename_i m e' hu
  split at h
  ·rename_i i hi; cases h; exact ⟨i, hu, hi, rfl⟩
  ·cases h
 ·cases h
theorem ziB {t e : TypeId} {sz m : Nat} (h : zdP P t = some (e, sz, m)) {ad : Addr} {k : IntKind} {i : Int} (h0 : 0 ≤ i) (hi : i < m) :
  (Instr.indexAt t (.pointer (some ad)) (.int k i)).run P w = .ok (.pointer (some (ad.add (i.toNat * sz)))) w := by
 obtain ⟨j, h1, h2, h3⟩ := ziA h
 simp [Instr.indexAt, asIntOf, run_underlying h1, h0, hi, zdI h2, h3, Instr.sureAddr]
theorem zhh (h : SR act hn s a w g) {t e : TypeId} {x ix : Operand} (ho : o.op = .indexAddr t x ix) {sz m : Nat} (hs : zdP P t = some (e, sz, m)) {k : IntKind} {i : Int} (hi : zo s ix = .int k i) (h0 : 0 ≤ i) (hl : i.toNat < m) {v : V}
  (hv : (∃ j cs, x = .tmp j ∧ zo s x = .box cs ∧ v = .adr j (i.toNat * sz)) ∨ (∃ j o', zo s x = .adr j o' ∧ v = .adr j (o' + i.toNat * sz)) ∨ (∃ row o', zo s x = .rptr row o' ∧ v = .rptr row (o' + i.toNat * sz))) :
  zF P F n act hn (s.put o.dst v) a w g o := by
 have hvi := h.evalN hi rfl
 simp only [VR] at hvi
 have fin : ∀ {ad : Addr}, a.eval x = .pointer (some ad) → (∀ i', o.dst = some i' → TR w g act i' v (.pointer (some (ad.add (i.toNat * sz))))) → zF P F n act hn (s.put o.dst v) a w g o := by
  intro ad he hv
  refine zF.pureT h (c := .pointer (some (ad.add (i.toNat * sz)))) ?_ hv
  simp only [execOp, ho, he, hvi]
  simp [ziB hs h0 (show i < (m : Int) by omega)]
 have adrCase : ∀ {j o' : Nat}, zo s x = .adr j o' → ∃ b, g.own b = some (.slot act j) ∧ a.eval x = .pointer (some ⟨b, o', none⟩) := by
  intro j o' hx
  cases x with
  | tmp j =>
   have ht' := h.evalT j
   rw [hx] at ht'
   exact ht'
  | const c =>
   exfalso
   have := zdj (zn w g) c
   simp only [zo] at hx
   rw [hx] at this; simp only [VR] at this
  | func f => simp [zo] at hx
  | global f => simp [zo] at hx
 rcases hv with ⟨j, cs, rfl, hx, rfl⟩ | ⟨j, o', hx, rfl⟩ | ⟨row, o', hx, rfl⟩
 ·have ht' := h.evalT j
  rw [hx] at ht'
  obtain ⟨b, cs', e, h1, h2, _⟩ := ht'
  refine fin h1 fun _ _ => ⟨b, h2, by rw [zbn]; simp⟩
 ·obtain ⟨b, h1, h2⟩ := adrCase hx
  exact fin h2 fun _ _ => ⟨b, h1, by rw [zbn]⟩
 ·have hv := h.evalN hx rfl
  simp only [VR] at hv
  obtain ⟨b, o2, h1, h2⟩ := hv
  exact fin h1 fun _ _ => TR.of_VR (by simp only [VR]; exact ⟨b, o2, by rw [zbn, Nat.add_assoc], h2⟩)
end Go.Ab
namespace Go.Ab
variable {act hn : Nat} {s s' : St} {a : Act} {w : World} {g : Gh} {P : Program} {F : Fence} {n : Nat} {o : Oper}
theorem VRr.take {l : List (List V)} {m : Mem} {b o sz : Nat} (h : VRr l m b o sz) (k : Nat) : VRr (l.take k) m b o sz :=
 VRr.of_get _ fun i r hi => by
  rw [List.getElem?_take] at hi
  split at hi
  ·exact VRr.get _ h i r hi
  ·cases hi
theorem VRr.drop {l : List (List V)} {m : Mem} {b o sz : Nat} (h : VRr l m b o sz) (k : Nat) : VRr (l.drop k) m b (o + k * sz) sz :=
 VRr.of_get _ fun i r hi => by
  rw [List.getElem?_drop] at hi
  obtain ⟨h1, h2⟩ := VRr.get _ h _ r hi
  refine ⟨h1, ?_⟩
  rw [Nat.add_mul] at h2
  rw [show o + k * sz + i * sz = o + (k * sz + i * sz) by omega]
  exact h2
theorem zjL {v : Option V} {d t : Nat} {R : Type} {k : Nat → Option R} {r : R} (h : zdF v d t k = some r) : ∃ i, k i = some r ∧ ((v = none ∧ i = d) ∨ ∃ (q : IntKind) (x : Int), v = some (.int q x) ∧ 0 ≤ x ∧ i = x.toNat ∧ i ≤ t) := by
 unfold zdF at h
 split at h
 ·exact ⟨_, h, .inl ⟨rfl, rfl⟩⟩
 ·rename_i q x
  cases h1 : decide (0 ≤ x) with
  | false => rw [h1] at h; cases h
  | true =>
   rw [h1] at h
   simp only [cond_true] at h
   cases h2 : decide (x.toNat ≤ t) with
   | false => rw [h2] at h; cases h
   | true =>
    rw [h2] at h
    exact ⟨_, h, .inr ⟨q, x, rfl, of_decide_eq_true h1, rfl, of_decide_eq_true h2⟩⟩
 ·cases h
theorem zd0 {q : IntKind} {x : Int} {y : Nat} {code : BoundsCode} (h0 : 0 ≤ x) (hy : x.toNat ≤ y) : (Instr.sliceBound (.int q x) y code).run P w = .ok x.toNat w := by
 have : x ≤ y := by omega
 simp [Instr.sliceBound, asIntOf, h0, this]
theorem zq5 {t e : TypeId} {sz b : Nat} (hs : zaW P t = some (e, sz, b)) {ad : Option Addr} {len cap : Nat} {hi lo : Option Value} {H L : Nat} (hcap : len ≤ cap)
  (hh : (hi = none ∧ H = len) ∨ ∃ (q : IntKind) (x : Int), hi = some (.int q x) ∧ 0 ≤ x ∧ H = x.toNat ∧ H ≤ len) (hl : (lo = none ∧ L = 0) ∨ ∃ (q : IntKind) (x : Int), lo = some (.int q x) ∧ 0 ≤ x ∧ L = x.toNat ∧ L ≤ H) :
  (Instr.sliceAt t (.slice ad len cap) lo hi none).run P w = .ok (.slice (if cap = L then ad else ad.map (·.add (L * sz))) (H - L) (cap - L)) w := by
 obtain ⟨i, h1, h2, h3, h4⟩ := zdb hs
 have e1 : ∀ {w : World}, (Instr.sliceBounds true len cap lo hi none).run P w = .ok (L, H, cap) w := by
  intro w
  unfold Instr.sliceBounds
  rcases hh with ⟨rfl, rfl⟩ | ⟨q, x, rfl, x0, rfl, x1⟩ <;> rcases hl with ⟨rfl, rfl⟩ | ⟨q', y, rfl, y0, rfl, y1⟩
  ·simp
  ·simp [zd0 y0 y1]
  ·simp [zd0 x0 (show x.toNat ≤ cap by omega)]
  ·simp [zd0 x0 (show x.toNat ≤ cap by omega), zd0 y0 y1]
 simp [Instr.sliceAt, run_underlying h1, Instr.slice, e1, zdI h2, h3]
theorem zoS (h : SR act hn s a w g) {t e : TypeId} {sz b : Nat} (hs : zaW P t = some (e, sz, b)) {x : Operand} {lo hi : Option Operand} (ho : o.op = .slice t x lo hi none) {fl : Fl} {rows : List (List V)} (hx : zo s x = .slice fl rows) {H L : Nat}
  (hh : (hi = none ∧ H = rows.length) ∨ ∃ (y : Operand) (q : IntKind) (i : Int), hi = some y ∧ zo s y = .int q i ∧ 0 ≤ i ∧ H = i.toNat ∧ H ≤ rows.length) (hl : (lo = none ∧ L = 0) ∨ ∃ (y : Operand) (q : IntKind) (i : Int), lo = some y ∧ zo s y = .int q i ∧ 0 ≤ i ∧ L = i.toNat ∧ L ≤ H)
  (hLH : L ≤ H) (hsz : lo = none ∨ ∀ r, rows[0]? = some r → r.length = sz) :
  zF P F n act hn (s.put o.dst (.slice (slFl fl) ((rows.take H).drop L))) a w g o := by
 have hv := h.evalN hx rfl
 simp only [VR] at hv
 obtain ⟨ad, cap, h1, h2, h3, h4, h5⟩ := hv
 have hH : H ≤ rows.length := by rcases hh with ⟨_, rfl⟩ | ⟨_, _, _, _, _, _, _, hle⟩ <;> omega
 have ih : (hi.map a.eval = none ∧ H = rows.length) ∨ ∃ (q : IntKind) (x : Int), hi.map a.eval = some (.int q x) ∧ 0 ≤ x ∧ H = x.toNat ∧ H ≤ rows.length := by
  rcases hh with ⟨rfl, e⟩ | ⟨y, q, i, rfl, e, i0, i1, i2⟩
  ·exact .inl ⟨rfl, e⟩
  ·have := h.evalN e rfl
   simp only [VR] at this
   exact .inr ⟨q, i, by simp [this], i0, i1, i2⟩
 have il : (lo.map a.eval = none ∧ L = 0) ∨ ∃ (q : IntKind) (x : Int), lo.map a.eval = some (.int q x) ∧ 0 ≤ x ∧ L = x.toNat ∧ L ≤ H := by
  rcases hl with ⟨rfl, e⟩ | ⟨y, q, i, rfl, e, i0, i1, i2⟩
  ·exact .inl ⟨rfl, e⟩
  ·have := h.evalN e rfl
   simp only [VR] at this
   exact .inr ⟨q, i, by simp [this], i0, i1, i2⟩
 refine zF.pure h (c := .slice (if cap = L then ad else ad.map (·.add (L * sz))) (H - L) (cap - L)) ?_ ?_
 ·simp only [execOp, ho, h1]
  simp [zq5 hs h2 ih il]
 ·simp only [VR]
  have hlen : ((rows.take H).drop L).length = H - L := by simp; omega
  refine ⟨_, _, by rw [hlen], by rw [hlen]; omega, ?_, ?_, ?_⟩
  ·cases fl with
   | nil => obtain ⟨rfl, rfl⟩ := h3; simp [slFl]
   | _ => trivial
  ·intro e
   split at e
   ·have := h4 e; omega
   ·cases ad with
    | none => have := h4 rfl; omega
    | some _ => simp at e
  ·intro hne
   have hpos : L < H := by
    rcases Nat.lt_or_ge L H with hlt | hge
    ·exact hlt
    ·exfalso; apply hne; apply List.length_eq_zero_iff.1; omega
   have hrne : rows ≠ [] := by intro e; subst e; simp at hH; omega
   obtain ⟨bb, oo, sz', k1, k2⟩ := h5 hrne
   subst k1
   have hsz' : L * sz = L * sz' := by
    rcases hsz with e | hsz
    ·rcases hl with ⟨_, rfl⟩ | ⟨y, _, _, e', _⟩
     ·simp
     ·rw [e] at e'; cases e'
    ·cases rows with
     | nil => exact absurd rfl hrne
     | cons r rows => rw [← hsz r rfl, (VRr.get _ k2 0 r rfl).1]
   rw [if_neg (by omega)]
   exact ⟨bb, oo + L * sz', sz', by simp [zbn, hsz'], (k2.take H).drop L⟩
theorem zq6 (h : SR act hn s a w g) {c : Call} (ho : o.op = .call c) (hb : c.callee = .builtin .len) {x : Operand} (hc : c.args.toList = [x]) {t : TypeId} (hta : c.argTypes.toList = [t]) (ht : (∃ e, P.underlying t = some (.slice e)) ∨ P.underlying t = some .string) {m : Nat} (hl : zpP (zo s x) = some m)
  (hk : match zo s x with | .str _ => P.underlying t = some .string | _ => ∃ e, P.underlying t = some (.slice e)) :
  zF P F n act hn (s.put o.dst (.int .i64 m)) a w g o := by
 have hargs : c.args = #[x] := by apply Array.ext'; simpa using hc
 have hat : c.argTypes = #[t] := by apply Array.ext'; simpa using hta
 refine zF.pure h (c := .int .i64 m) ?_ (by simp only [VR])
 have hv := h.evalV x
 cases hx : zo s x <;> rw [hx] at hl hk hv <;> simp only [zpP, reduceCtorEq] at hl
 ·cases hl
  simp only [view, VR] at hv hk
  simp only [execOp, ho]
  simp [resolve, hb, invoke, builtin, hargs, hat, Builtin.len_, run_underlying hk, hv, goInt]
 ·cases hl
  obtain ⟨e, he⟩ := hk
  simp only [view, VR] at hv
  obtain ⟨ad, cap, h1, _⟩ := hv
  simp only [execOp, ho]
  simp [resolve, hb, invoke, builtin, hargs, hat, Builtin.len_, run_underlying he, h1, goInt]
 ·cases hl
  obtain ⟨e, he⟩ := hk
  simp only [view, VR] at hv
  obtain ⟨ad, cap, b, l, _, h1, _⟩ := hv
  simp only [execOp, ho]
  simp [resolve, hb, invoke, builtin, hargs, hat, Builtin.len_, run_underlying he, h1, goInt]
theorem zkT (mx : Bool) : ∀ (l : List V) (x v : V) (_ : zgM (if mx then max2 else min2) x l = some v) (cs : List Value) (c : Value) {m : Mem}, VR x m c → VRs l m cs →
  ∃ d, ((cs.foldlM (if mx then Builtin.max2 else Builtin.min2) c : Sem Value)).run P w = .ok d w ∧ VR v m d := by
 intro l
 induction l with
 | nil =>
  intro x v h cs c m hx hl
  simp only [zgM] at h; cases h
  simp only [VRs] at hl; subst hl
  exact ⟨c, by simp, hx⟩
 | cons y l ih =>
  intro x v h cs c m hx hl
  simp only [zgM] at h
  simp only [VRs] at hl
  obtain ⟨d, cs', rfl, hy, hl'⟩ := hl
  split at h
  ·rename_i u hu
   have step : ∃ e, ((if mx then Builtin.max2 else Builtin.min2) c d).run P w = .ok e w ∧ VR u m e := by
    cases mx
    ·simp only [Bool.false_eq_true, if_false] at hu ⊢
     unfold min2 at hu
     split at hu
     ·simp only [VR] at hx hy; subst hx; subst hy
      split at hu
      ·cases hu; exact ⟨_, by simp [Builtin.min2]; rfl, by simp only [VR]⟩
      ·cases hu
     ·cases hu
    ·simp only [if_true] at hu ⊢
     unfold max2 at hu
     split at hu
     ·simp only [VR] at hx hy; subst hx; subst hy
      split at hu
      ·cases hu; exact ⟨_, by simp [Builtin.max2]; rfl, by simp only [VR]⟩
      ·cases hu
     ·cases hu
   obtain ⟨e, e1, e2⟩ := step
   obtain ⟨z, z1, z2⟩ := ih u v h cs' e e2 hl'
   exact ⟨z, by simp [e1, z1], z2⟩
  ·cases h
end Go.Ab
