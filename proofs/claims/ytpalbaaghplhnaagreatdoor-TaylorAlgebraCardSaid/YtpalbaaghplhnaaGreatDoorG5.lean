/- The abstract walk is the program's; conditions: the callees' own laws. -/
import Derived.Carry
import Derived.OpenShut
import Derived.ChangeSame
import Derived.DataReads
import Derived.ReadAgain
import Derived.Test.YtpalbaaghplhnaaGreatDoorG4
set_option linter.unusedVariables false
set_option linter.unusedSimpArgs false
namespace Go.Ab
variable {act hn : Nat} {s s' : St} {a : Act} {w : World} {g : Gh} {G : Cfg} {L : Lv} {C : CallT} {f : FuncId} {dr : Bool} {n : Nat} {o : Oper}
theorem zn4 (hd : zq G C f dr o s = some s') (c : Call) : o.op ≠ .defer c := by
 intro ho
 unfold zq zA at hd
 simp only [ho] at hd
 cases hd
theorem SR.boolAt (h : SR act hn s a w g) {d : Nat} {b : Bool} (hb : nth s.t d = .bool b) : a.tmps[d]? = some (.bool b) := by
 rw [zdY] at hb
 cases hs : s.t[d]? with
 | none => rw [hs] at hb; simp at hb
 | some v =>
  rw [hs] at hb; simp at hb; subst hb
  obtain ⟨c, hc, ht⟩ := h.tmp d _ hs
  have : VR (.bool b) (zn w g) c := ht
  simp only [VR] at this
  rw [hc, this]
theorem SR.skipAt (h : SR act hn s a w g) {d : Nat} (hb : nth s.t d = .skip) : a.tmps[d]? = some Go.undef := by
 rw [zdY] at hb
 cases hs : s.t[d]? with
 | none => rw [hs] at hb; simp at hb
 | some v =>
  rw [hs] at hb; simp at hb; subst hb
  obtain ⟨c, hc, ht⟩ := h.tmp d _ hs
  have : VR .skip (zn w g) c := ht
  simp only [VR] at this
  rw [hc, this]
theorem zud (hC : CallS G C) {ops : Array Oper} (h : SR act hn s a w g) (hG : zcg G w g) (hd : zay G C f dr ops.toList o s = some s') (r : Option Nat) {rest : List Nat} {i : Nat} (hi : ops[i]? = some o) {Q : Exit → Act → World → Prop}
  (hk : ∀ a' w' g', SR act hn s' a' w' g' → Ext (zbd act hn) w g w' g' → (a'.defers = a.defers ∧ a'.tmps.size = a.tmps.size) → wpOpsIn (Fr r) n G.P ops Q rest a' w') : wpOpsIn (Fr r) n G.P ops Q (i :: rest) a w := by
 have go : Region.wanted o (yielded ops a.tmps) = true → zq G C f (zce dr ops.toList o) o s = some s' → wpOpsIn (Fr r) n G.P ops Q (i :: rest) a w := by
  intro hw hd
  simp only [wpOpsIn, hi, hw, if_true]
  refine ⟨fun _ _ => trivial, ?_⟩
  rw [Oper.semAt_eq _ _ _ (zn4 hd)]
  exact zub hC h hG hd r _ _ fun a' w' g' h1 h2 h3 => hk a' w' g' h1 h2 h3
 have skip : Region.wanted o (yielded ops a.tmps) = false → s' = s.put o.dst .skip → wpOpsIn (Fr r) n G.P ops Q (i :: rest) a w := by
  intro hw he
  simp only [wpOpsIn, hi, hw, if_false, Bool.false_eq_true]
  refine ⟨fun _ _ => trivial, hk _ _ g ?_ (Ext.refl _ _ _) (zhI _ _ _)⟩
  rw [he]
  exact h.putV _ (by simp only [VR])
 unfold zay at hd
 cases hg : o.guard with
 | none =>
  rw [hg] at hd
  obtain ⟨_, hd⟩ := zx hd
  obtain ⟨z, hz, hd⟩ := zj hd
  obtain ⟨_, hd⟩ := zx hd
  cases hd
  exact go (by simp [Region.wanted, hg]) hz
 | some p =>
  obtain ⟨j, want⟩ := p
  rw [hg] at hd
  simp only at hd
  cases hj : ops.toList[j]? with
  | none => rw [hj] at hd; cases hd
  | some gd =>
   rw [hj] at hd
   simp only at hd
   have hj' : ops[j]? = some gd := by simpa using hj
   cases hdst : gd.dst with
   | none => rw [hdst] at hd; cases hd
   | some d =>
    rw [hdst] at hd
    simp only at hd
    cases hb : nth s.t d <;> rw [hb] at hd <;> simp only at hd <;> first
     | (cases hd; done)
     | skip
    ·obtain ⟨_, hd⟩ := zx hd
     refine skip ?_ (Option.some.inj hd).symm
     have := h.skipAt hb
     simp [Region.wanted, hg, yielded, hj', hdst, this, Go.undef]
    ·rename_i b
     have hy : yielded ops a.tmps j = some b := by simp [yielded, hj', hdst, h.boolAt hb]
     split at hd
     ·rename_i e
      exact go (by simp [Region.wanted, hg, hy, e]) (zx hd).2
     ·rename_i e
      obtain ⟨_, hd⟩ := zx hd
      exact skip (by simp [Region.wanted, hg, hy, e]) (Option.some.inj hd).symm
theorem zrw (hC : CallS G C) {ops : Array Oper} (r : Option Nat) {Q : Exit → Act → World → Prop} : ∀ (l : List Nat) {s : St} {a : Act} {w : World} {g : Gh} (_ : SR act hn s a w g) (_ : zcg G w g) (_ : zcY G C f dr ops.toList l s = some s')
  (_ : ∀ a' w' g', SR act hn s' a' w' g' → Ext (zbd act hn) w g w' g' → (a'.defers = a.defers ∧ a'.tmps.size = a.tmps.size) → Q .normal a' w'), wpOpsIn (Fr r) n G.P ops Q l a w := by
 intro l
 induction l with
 | nil =>
  intro s a w g h hG hd hk
  cases hd
  exact hk _ _ _ h (Ext.refl _ _ _) ⟨rfl, rfl⟩
 | cons i l ih =>
  intro s a w g h hG hd hk
  simp only [zcY] at hd
  cases hi : ops.toList[i]? with
  | none =>
   rw [hi] at hd
   have hi' : ops[i]? = none := by simpa using hi
   simp only [wpOpsIn, hi']
   exact ih h hG hd hk
  | some o =>
   rw [hi] at hd
   obtain ⟨s1, h1, h2⟩ := zj hd
   exact zud hC h hG h1 r (by simpa using hi) fun a' w' g' k1 k2 k5 => ih k1 (hG.ext k2) h2 fun a'' w'' g'' k3 k4 k6 => hk _ _ _ k3 (k2.trans k4) ⟨k6.1.trans k5.1, k6.2.trans k5.2⟩
theorem zrx (hm : G.P.follows .mixedOrders = true) (hC : CallS G C) {id : Nat} {ops : Array Oper} (r : Option Nat) {Q : Exit → Act → World → Prop} (h : SR act hn s a w g) (hG : zcg G w g) (hc : (!dr || zio ops.toList) = true)
  (hd : zgp G C f dr ops.toList ops.toList s = some s') (hk : ∀ a' w' g', SR act hn s' a' w' g' → Ext (zbd act hn) w g w' g' → (a'.defers = a.defers ∧ a'.tmps.size = a.tmps.size) → Q .normal a' w') : (Code.region id ops dr).wpIn (Fr r) n G.P Q a w := by
 cases dr with
 | false =>
  refine wpIn_region (zrw (f := f) (dr := false) (s' := s') hC r _ h hG ?_ hk)
  rw [zk5] at hd
  simpa using hd
 | true =>
  refine wpIn_region_draw fun t => zrw (f := f) (dr := true) (s' := s') hC r _ (g := g) h.drew (hG.ext (Ext.drew (fun _ => True) w g)) (zte hm (by simpa using hc) hd t) fun a' w' g' k1 k2 k3 => hk a' w' g' k1 ((Ext.drew _ w g).trans k2) k3
theorem SR.upd {i : Nat} {v : V} (h : SR act hn s a w g) (hv : VR v (zn w g) (a.tmps.getD i Go.undef)) : SR act hn ⟨Ab.upd s.t i v, s.h⟩ a w g where
 wf := h.wf
 size := by rw [zfZ]; exact h.size
 tmp j u hu := by
  simp only [zfe] at hu
  split at hu
  ·rename_i e; subst e
   cases hs : s.t[j]? with
   | none => rw [hs] at hu; cases hu
   | some x =>
    rw [hs] at hu; cases hu
    obtain ⟨c, hc, _⟩ := h.tmp j x hs
    refine ⟨c, hc, TR.of_VR ?_⟩
    rwa [Array.getD_eq_getD_getElem?, hc] at hv
  ·exact h.tmp j u hu
 jl := h.jl
 obj := h.obj
 dfr := h.dfr
 an := h.an
 hm := h.hm
theorem ziN {R : Type} {x : R} : ∀ (l : List Nat) {s : St} {g : Gh} {k : St → Option R} (_ : zey l s k = some x) (_ : SR act hn s a w g), ∃ s' g', k s' = some x ∧ SR act hn s' a w g' ∧ Ext (zbd act hn) w g w g'
 | [], s, g, k, hx, h => ⟨s, g, hx, h, Ext.refl _ _ _⟩
 | i :: l, s, g, k, hx, h => by
  unfold zey at hx
  split at hx
  ·rename_i id len sz he
   obtain ⟨rows, h1, h2⟩ := zj hx
   have hv := h.slot i
   rw [he] at hv
   obtain ⟨g1, f1, f2⟩ := zjo (v := .arr id len sz) (v' := .slice .any rows) h (by simp only [zby, h1, Option.bind_some]) hv
   have hs : SR act hn ⟨s.t, zea s.h (.arr id len sz)⟩ a w g1 := f1.sr
   have hs' := hs.upd (i := i) (v := .slice .any rows) (by simp only [VR] at f2 ⊢; exact f2)
   obtain ⟨s', g', k1, k2, k3⟩ := ziN l h2 hs'
   exact ⟨s', g', k1, k2, (f1.ext.weaken fun p hp => by obtain ⟨id, rfl⟩ := hp; exact .inr (.inr ⟨id, rfl⟩)).trans k3⟩
  ·exact ziN l hx h
theorem zqk (live : List Nat) : ∀ (i : Nat) (l : List V) (j : Nat), (zfE live i l)[j]? = (l[j]?).map fun v => if zeF (i + j) live then v else .undef := by
 intro i l
 induction l generalizing i with
 | nil => intro j; simp [zfE]
 | cons v l ih =>
  intro j
  cases j with
  | zero => simp [zfE]
  | succ j => simp only [zfE, List.getElem?_cons_succ, ih]; rw [show i + 1 + j = i + (j + 1) by omega]
theorem SR.purge (h : SR act hn s a w g) (live : Option (List Nat)) : SR act hn (Ab.purge live s) a w g := by
 cases live with
 | none => exact h
 | some l =>
  have hlen : ∀ (i : Nat) (t : List V), (zfE l i t).length = t.length := by
   intro i t
   induction t generalizing i with
   | nil => rfl
   | cons v t ih => simp [zfE, ih]
  refine { h with size := by simp only [Ab.purge, hlen]; exact h.size, tmp := fun i v hv => ?_ }
  simp only [Ab.purge, zqk] at hv
  cases hs : s.t[i]? with
  | none => rw [hs] at hv; cases hv
  | some u =>
   rw [hs] at hv; simp at hv
   obtain ⟨c, hc, ht⟩ := h.tmp i u hs
   refine ⟨c, hc, ?_⟩
   split at hv
   ·subst hv; exact ht
   ·subst hv; exact TR.of_VR (by simp only [VR])
theorem zry {v : V} {m : Mem} {c : Value} (h : VR v m c) : VR (znm v) m c := by
 cases v <;> first
  | exact h
  | exact h.any
theorem zhV : ∀ (l : List V) {m : Mem} {cs : List Value}, VRl l m cs → VRl (zfb l) m cs
 | [], _, _, h => h
 | v :: l, m, cs, h => by
  simp only [VRl] at h
  obtain ⟨c, cs', h1, ⟨h2, h4⟩, h3⟩ := h
  simp only [zfb, VRl]
  exact ⟨c, cs', h1, ⟨zry h2, h4⟩, zhV l h3⟩
theorem zrz {i : Nat} {v : V} {c : Value} (h : TR w g act i v c) : TR w g act i (zkL v) c := by
 cases v with
 | box cells =>
  obtain ⟨b, cs, e, h1, h2, h3, h4, h5⟩ := h
  exact ⟨b, cs, e, h1, h2, h3, h4, zhV _ h5⟩
 | adr j off => exact h
 | agg cells =>
  have h : VR (.agg cells) (zn w g) c := h
  simp only [VR] at h
  obtain ⟨cs, h1, h2⟩ := h
  refine TR.of_VR ?_
  simp only [zkL, VR]
  exact ⟨cs, h1, zhV _ h2⟩
 | slice fl rows => exact TR.of_VR (VR.any (show VR (.slice fl rows) (zn w g) c from h))
 | _ => exact h
theorem zjW : ∀ (l : List V) (i : Nat), (zex l)[i]? = (l[i]?).map zkL
 | [], i => by simp [zex]
 | v :: l, 0 => by simp [zex]
 | v :: l, i + 1 => by simp [zex, zjW l i]
theorem zjX : ∀ (l : List V), (zex l).length = l.length
 | [] => rfl
 | v :: l => by simp [zex, zjX l]
theorem zdl : ∀ (l : List Ob), (zbz l).length = l.length
 | [] => rfl
 | .cells _ :: l => by simp [zbz, zdl l]
 | .arr _ _ _ :: l => by simp [zbz, zdl l]
 | .loop _ :: l => by simp [zbz, zdl l]
 | .dead :: l => by simp [zbz, zdl l]
 | .map _ _ _ _ :: l => by simp [zbz, zdl l]
theorem zd2 : ∀ (l : List Ob) (i : Nat) (ob : Ob), (zbz l)[i]? = some ob → l[i]? = some ob ∨ ∃ cs, l[i]? = some (.cells cs) ∧ ob = .cells (zfb cs)
 | [], i, ob, h => by simp [zbz] at h
 | .cells cs :: l, 0, ob, h => by simp [zbz] at h; exact .inr ⟨cs, rfl, h.symm⟩
 | .cells _ :: l, i + 1, ob, h => by simp [zbz] at h; simpa using zd2 l i ob h
 | .arr _ _ _ :: l, 0, ob, h => by simp [zbz] at h; exact .inl (by simp [h])
 | .arr _ _ _ :: l, i + 1, ob, h => by simp [zbz] at h; simpa using zd2 l i ob h
 | .loop _ :: l, 0, ob, h => by simp [zbz] at h; exact .inl (by simp [h])
 | .loop _ :: l, i + 1, ob, h => by simp [zbz] at h; simpa using zd2 l i ob h
 | .dead :: l, 0, ob, h => by simp [zbz] at h; exact .inl (by simp [h])
 | .dead :: l, i + 1, ob, h => by simp [zbz] at h; simpa using zd2 l i ob h
 | .map _ _ _ _ :: l, 0, ob, h => by simp [zbz] at h; exact .inl (by simp [h])
 | .map _ _ _ _ :: l, i + 1, ob, h => by simp [zbz] at h; simpa using zd2 l i ob h
theorem SR.loose (h : SR act hn s a w g) : SR act hn (Ab.loose s) a w g := by
 refine { h with size := by simp only [Ab.loose, zjX]; exact h.size, tmp := fun i v hv => ?_, jl := by simp only [Ab.loose, zdl]; exact h.jl, obj := fun id ob ho => ?_ }
 ·simp only [Ab.loose, zjW] at hv
  cases hs : s.t[i]? with
  | none => rw [hs] at hv; cases hv
  | some u =>
   rw [hs] at hv; simp at hv; subst hv
   obtain ⟨c, hc, ht⟩ := h.tmp i u hs
   exact ⟨c, hc, zrz ht⟩
 ·rcases zd2 s.h id ob ho with h1 | ⟨cs, h1, rfl⟩
  ·exact h.obj id ob h1
  ·obtain ⟨b, cells, e, k1, k2, k3, k4, k5⟩ := h.obj id _ h1
   exact ⟨b, cells, e, k1, k2, k3, k4, zhV _ k5⟩
def zlh : Ex → Exit
 | .normal => .normal
 | .exit id => .exit id
 | .ret => .ret
def RD (rd : Option Nat) (g : Gh) (r : Option Nat) : Prop := match rd with
 | none => r = none
 | some l => ∃ b, r = some b ∧ g.J[l]? = some (b, none)
theorem RD.ext {rd r : Option Nat} {ok : Owner → Prop} {w' : World} {g' : Gh} (h : RD rd g r) (e : Ext ok w g w' g') : RD rd g' r := by
 cases rd with
 | none => exact h
 | some l => obtain ⟨b, h1, h2⟩ := h; exact ⟨b, h1, e.le.J _ _ h2⟩
structure RG (G : Cfg) (rd : Option Nat) (w : World) (g : Gh) (r : Option Nat) : Prop where
 rd : RD rd g r
 gl : zcg G w g
theorem RG.ext {rd r : Option Nat} {ok : Owner → Prop} {w' : World} {g' : Gh} (h : RG G rd w g r) (e : Ext ok w g w' g') : RG G rd w' g' r := ⟨h.rd.ext e, h.gl.ext e⟩
theorem zpd {e : Ex} (he : e ≠ .normal) {r : Option Nat} {Q : Exit → Act → World → Prop} (h : Q (zlh e) a w) : (zdH e).wpIn (Fr r) n G.P Q a w := by
 cases e with
 | normal => exact absurd rfl he
 | exit id => exact wpIn_exit h
 | ret => exact wpIn_ret h
theorem zql {p : Nat → Prop} (h : ∃ m, p m) : ∃ m, p m ∧ ∀ k, p k → m ≤ k := by
 obtain ⟨m, hm⟩ := h
 induction m using Nat.strongRecOn with
 | _ m ih =>
  by_cases hk : ∃ k, k < m ∧ p k
  ·obtain ⟨k, h1, h2⟩ := hk; exact ih k h1 h2
  ·exact ⟨m, hm, fun k hp => Nat.le_of_not_lt fun hlt => hk ⟨k, hlt, hp⟩⟩
open Classical in
noncomputable def zfI (p : Nat → Prop) : Nat := if h : ∃ m, p m then Classical.choose (zql h) else 0
theorem zpe {p : Nat → Prop} (h : ∃ m, p m) : p (zfI p) := by
 unfold zfI; rw [dif_pos h]; exact (Classical.choose_spec (zql h)).1
theorem zrA {p : Nat → Prop} {m : Nat} (h : p m) : zfI p ≤ m := by
 unfold zfI; rw [dif_pos ⟨m, h⟩]; exact (Classical.choose_spec (zql ⟨m, h⟩)).2 m h
theorem SR.allocMark (h : SR act hn s a w g) :
  SR act hn s { a with defers := { target := .collected w.heap.size, args := #[] } :: a.defers } (w.alloc (.deferred (some []))) (g.grab w.heap.size (.mark act w.heap.size)) ∧
  Ext (zbd act hn) w g (w.alloc (.deferred (some []))) (g.grab w.heap.size (.mark act w.heap.size)) := by
 have wf' : WF (w.alloc (.deferred (some []))) (g.grab w.heap.size (.mark act w.heap.size)) := h.wf.grab _ (.mark act w.heap.size) h.an g.J
 have le' : (zn w g).le (zn (w.alloc (.deferred (some []))) (g.grab w.heap.size (.mark act w.heap.size))) := zhg h.wf _ _ g.J fun _ _ x => x
 have keep : ∀ b p, g.own b = some p → p ≠ .mark act w.heap.size → (w.alloc (.deferred (some []))).heap[b]? = w.heap[b]? ∧ (g.grab w.heap.size (.mark act w.heap.size)).own b = g.own b ∧ (g.grab w.heap.size (.mark act w.heap.size)).K b = g.K b := by
  intro b p hp hne
  have h1 := h.wf.ne_new hp
  refine ⟨by rw [zao, if_neg h1], ?_, by simp [Gh.grab, h1]⟩
  have h2 : ¬ g.own b = some (.mark act w.heap.size) := by rw [hp]; intro e; cases e; exact hne rfl
  simp only [Gh.grab, h1, if_false, h2]
 refine ⟨?_, Ext.grab h.wf _ _ _ (.inr (.inl ⟨_, rfl⟩)) g.J fun _ _ x => x⟩
 refine { wf := wf', size := h.size, tmp := fun i v hv => ?_, jl := h.jl, obj := fun id ob e => ?_, dfr := fun d hd => ?_, an := h.an, hm := h.hm }
 ·obtain ⟨c, hc, ht⟩ := h.tmp i v hv
  exact ⟨c, hc, ht.frame le' fun b j e => keep b _ e (by intro e; cases e)⟩
 ·exact (h.obj id ob e).frame rfl le' fun b e => keep b _ e (by intro e; cases e)
 ·cases hd with
  | head => exact ⟨w.heap.size, rfl, by simp [Gh.grab], by rw [zao, if_pos rfl]⟩
  | tail _ hd =>
   obtain ⟨D, h1, h2, h3⟩ := h.dfr d hd
   have h4 := h.wf.ne_new h2
   obtain ⟨k1, k2, _⟩ := keep D _ h2 (by intro e; cases e; exact h4 rfl)
   exact ⟨D, h1, by rw [← h2]; exact k2, by rw [k1, h3]⟩
theorem zqm {b : Nat} {lc lc' : Loop} (hb : w.heap[b]? = some (.loop lc)) : (zn w g).le (zn (w.putObj b (.loop lc')) g) where
 M x j c h := by
  simp only [zn] at h ⊢
  by_cases e : x = b
  ·subst e; rw [hb] at h; simp [zca] at h
  ·rw [World.putObj_heap_other e]; exact h
 Z x n h := by
  simp only [zn] at h ⊢
  by_cases e : x = b
  ·subst e; rw [hb] at h; simp [zds] at h
  ·rw [World.putObj_heap_other e]; exact h
 J _ _ h := h
 L _ b l h := ⟨b, l, h, Nat.le_refl _, fun _ => rfl⟩
theorem SR.turnLoop (h : SR act hn s a w g) {id : Nat} {lp : LoopA} (hl : s.h[id]? = some (.loop lp)) :
  ∃ b lc, g.J[id]? = some (b, none) ∧ w.heap[b]? = some (.loop lc) ∧ lc.state = lp.st ∧ lc.pending = lp.pend.map zdH ∧ lc.params.toList = lp.ps ∧ lc.assign = lp.assign ∧ lc.body = lp.body ∧ VRs lp.t (zn w g) lc.tmps.toList ∧ lp.pend ≠ some .normal ∧
   ∀ (st st' : LoopState) (pe : Option Ex), pe ≠ some .normal → ∀ ob', (ob' = .dead ∨ (ob' = .loop { lp with st := st, pend := pe } ∧ st' = st)) →
    SR act hn ⟨s.t, zah s.h id ob'⟩ a (w.putObj b (.loop { lc with state := st', pending := pe.map zdH })) g ∧ Ext (zeQ hn) w g (w.putObj b (.loop { lc with state := st', pending := pe.map zdH })) g := by
 obtain ⟨b, lc, h1, h2, h4, h5, h6, h7, h8, h9, h10, h11⟩ := h.obj id _ hl
 refine ⟨b, lc, h1, h4, h5, h6, h7, h8, h9, VRs.mono _ (Mem.cut_le _ _) h10, h11, fun st st' pe hpe ob' hob => ?_⟩
 have le' := zqm (w := w) (g := g) (lc' := { lc with state := st', pending := pe.map zdH }) h4
 have hlt : b < w.heap.size := (Array.getElem?_eq_some_iff.1 h4).1
 have keep : ∀ x p, g.own x = some p → p ≠ .ob hn id → (w.putObj b (.loop { lc with state := st', pending := pe.map zdH })).heap[x]? = w.heap[x]? ∧ g.own x = g.own x ∧ g.K x = g.K x := by
  intro x p hp hne
  refine ⟨World.putObj_heap_other (fun e => ?_), rfl, rfl⟩
  subst e; rw [h2] at hp; cases hp; exact hne rfl
 refine ⟨?_, ⟨by simp, fun x _ hp => ⟨World.putObj_heap_other (fun e => by subst e; exact hp _ h2 ⟨id, rfl⟩), rfl, rfl⟩, le', Nat.le_refl _, rfl, rfl, rfl, Nat.le_refl _⟩⟩
 refine h.setOb ⟨fun x hx => h.wf.new x (by simpa using hx), h.wf.inj, h.wf.nx⟩ le' (fun _ _ => rfl) rfl (fun x p hp _ hne => keep x p hp hne) (Nat.le_refl _) ?_
 rcases hob with rfl | ⟨rfl, rfl⟩
 ·trivial
 ·exact ⟨b, _, h1, h2, World.putObj_heap_same hlt, rfl, rfl, h7, h8, h9, VRs.mono _ (le'.cut id) h10, hpe⟩
theorem zkn {P : Program} {b : Nat} {lc : Loop} (hb : w.heap[b]? = some (.loop lc)) (fn : FuncId) (tmps : Array Value) (ps : Array Tmp) (assign body : Code) :
  (Instr.enterLoop fn tmps ps assign body (some b)).run P w = .ok (w.heap.size, []) (w.alloc (.loop { state := .ready, pending := none, fn, tmps, params := ps, assign, body, defers := lc.defers })) := by
 unfold Instr.enterLoop
 simp only [Sem.run_bind, run_getLoop hb, run_newObj_alloc, Result.andThen, Sem.run_pure]
theorem zrB (h : SR act hn s a w g) : VRs (s.t.map view) (zn w g) a.tmps.toList := by
 have key : ∀ (l : List V) (cs : List Value), l.length = cs.length → (∀ (i : Nat) (v : V), l[i]? = some v → ∃ c, cs[i]? = some c ∧ VR (view v) (zn w g) c) → VRs (l.map view) (zn w g) cs := by
  intro l
  induction l with
  | nil => intro cs hl _; simp only [List.map_nil, VRs]; cases cs with | nil => rfl | cons _ _ => simp at hl
  | cons v l ih =>
   intro cs hl hv
   cases cs with
   | nil => simp at hl
   | cons c cs =>
    simp only [List.map_cons, VRs]
    obtain ⟨c', h1, h2⟩ := hv 0 v rfl
    simp at h1; subst h1
    exact ⟨c, cs, rfl, h2, ih cs (by simpa using hl) fun i u hu => by
     obtain ⟨c', h1, h2⟩ := hv (i + 1) u (by simpa using hu)
     exact ⟨c', by simpa using h1, h2⟩⟩
 refine key _ _ (by simpa using h.size) fun i v hv => ?_
 obtain ⟨c, hc, ht⟩ := h.tmp i v hv
 exact ⟨c, by simpa using hc, ht.view⟩
theorem SR.allocLoop (h : SR act hn s a w g) {t : List V} (fn : FuncId) {tmps : Array Value} (ht : VRs t (zn w g) tmps.toList) (ps : Array Tmp) (assign body : Code) (D : Nat) :
  ∃ g', SR act hn ⟨s.t, s.h ++ [.loop ⟨.ready, none, t, f, ps.toList, assign, body⟩]⟩ a (w.alloc (.loop { state := .ready, pending := none, fn, tmps, params := ps, assign, body, defers := D })) g' ∧
   Ext (zbd act hn) w g (w.alloc (.loop { state := .ready, pending := none, fn, tmps, params := ps, assign, body, defers := D })) g' ∧ g'.J[s.h.length]? = some (w.heap.size, none) := by
 obtain ⟨k1, k2⟩ := h.allocOb (o := .loop { state := .ready, pending := none, fn, tmps, params := ps, assign, body, defers := D }) (ob := .loop ⟨.ready, none, t, f, ps.toList, assign, body⟩) none (by
  intro g' hg' le
  subst hg'
  refine ⟨w.heap.size, _, ?_, by simp [Gh.grab], by rw [zao, if_pos rfl], rfl, rfl, rfl, rfl, rfl, VRs.mono _ (by have := le.cut s.h.length; rwa [Mem.cut_all _ (Nat.le_of_eq h.jl)] at this) ht, by simp⟩
  show (g.J ++ [(w.heap.size, none)])[s.h.length]? = _
  rw [← h.jl]; simp)
 refine ⟨_, k1, k2, ?_⟩
 show (g.J ++ [(w.heap.size, none)])[s.h.length]? = _
 rw [← h.jl]; simp
theorem zrC {ds : List Deferred} (h : SR act hn s a w g) (hn' : a.defers.Nodup) (e : a.defers = ds) : ({ target := .collected w.heap.size, args := #[] } :: ds : List Deferred).Nodup := by
 subst e
 refine List.nodup_cons.2 ⟨fun hm => ?_, hn'⟩
 obtain ⟨D, h1, h2, _⟩ := h.dfr _ hm
 cases h1
 exact h.wf.ne_new h2 rfl
theorem zko {R : Type} {rt : Bool} {ids : List Nat} {e : Ex} {k : Ex → Option R} {x : R} (h : exK rt ids e k = some x) : k e = some x := by
 cases e with
 | normal => cases h
 | ret => exact (zx h).2
 | exit id =>
  have : ∀ l, zjk id k l = some x → k (.exit id) = some x := by
   intro l
   induction l with
   | nil => intro h; cases h
   | cons i l ih =>
    intro h
    simp only [zjk] at h
    cases hb : Nat.beq id i with
    | true => rw [hb] at h; rw [Nat.eq_of_beq_eq_true hb]; exact h
    | false => rw [hb] at h; exact ih h
  exact this ids h
theorem zdx {P : Program} {b : Frame} {k : List Item} {cs : List Frame} {c : Code} :
  step P (lone (b.atR a (.code (.scope c) :: k)) cs w) = .next (lone (b.atR a (.code c :: .inScope c :: k)) cs w) :=
 step_lone_go (by simp [stepG, stepG.exec, Frame.atR])
theorem zm9 {P : Program} {b : Frame} {k : List Item} {cs : List Frame} {c : Code} :
  step P (lone (b.atR a (.inScope c :: k)) cs w) = .next (lone (b.atR a k) cs w) :=
 step_lone_go (by simp [stepG, stepG.exec, Frame.atR])
theorem zqn {F : Fence} {n : Nat} {P : Program} {Q : Exit → Act → World → Prop} {c : Code} (h : c.wpIn F n P (fun e a w => (∀ l, e ≠ .goto l) ∧ Q e a w) a w) : (Code.scope c).wpIn F n P Q a w := by
 intro b k cs hro hb hr
 have h0 : (lone (b.atR a (.code (.scope c) :: k)) cs w).fenced P F := fenced_calm hb hr rfl
 obtain ⟨e, a₁, w₁, ⟨hng, hq⟩, harr⟩ := h b (.inScope c :: k) cs hro hb hr
 cases e with
 | normal => exact ⟨.normal, a₁, w₁, hq, .head h0 zdx (StepsIn.trans harr (.one (fenced_calm hb hr rfl) zm9))⟩
 | exit id' =>
  have hx : exitTo id' (.inScope c :: k) = exitTo id' k := by simp [exitTo]
  exact ⟨.exit id', a₁, w₁, hq, fun k' hk => .head h0 zdx (harr.1 k' (by rw [hx]; exact hk)),
   fun hr' hk => let ⟨k₁, h1, h2⟩ := harr.2 hr' (by rw [hx]; exact hk); ⟨k₁, h1, .head h0 zdx h2⟩⟩
 | goto l => exact absurd rfl (hng l)
 | ret => exact ⟨_, a₁, w₁, hq, .of_steps (.one h0 zdx) harr⟩
 | panic ch => exact ⟨_, a₁, w₁, hq, .of_steps (.one h0 zdx) harr⟩
 | outgrown => exact ⟨_, a₁, w₁, hq, .of_steps (.one h0 zdx) harr⟩
theorem zlX (hm : G.P.follows .mixedOrders = true) (hC : CallS G C) (rd r : Option Nat) (c : Code) : ∀ {R : Type} {s : St} {a : Act} {w : World} {g : Gh} {k : Ex → St → Option R} {x : R} {Q : Exit → Act → World → Prop} (_ : zbQ G L C f rd c R s k = some x) (_ : SR act hn s a w g) (_ : RG G rd w g r) (_ : a.defers.Nodup)
  (_ : ∀ e s' a' w' g', k e s' = some x → SR act hn s' a' w' g' → Ext (zbd act hn) w g w' g' → (a'.defers.Nodup ∧ a'.tmps.size = a.tmps.size) → Q (zlh e) a' w'), c.wpIn (Fr r) n G.P Q a w := by
 induction c with
 | skip => intro R s a w g k x Q hx h hr hu hk; exact wpIn_skip (hk _ _ _ _ _ hx h (Ext.refl _ _ _) ⟨hu, rfl⟩)
 | scope c ih =>
  intro R s a w g k x Q hx h hr hu hk
  exact zqn (ih hx h hr hu fun e s' a' w' g' he h' x' u' => ⟨by cases e <;> simp [zlh], hk e s' a' w' g' he h' x' u'⟩)
 | label l => intro R s a w g k x Q hx h hr hu hk; exact wpIn_label (hk _ _ _ _ _ hx h (Ext.refl _ _ _) ⟨hu, rfl⟩)
 | exit id => intro R s a w g k x Q hx h hr hu hk; exact wpIn_exit (hk _ _ _ _ _ hx h (Ext.refl _ _ _) ⟨hu, rfl⟩)
 | ret => intro R s a w g k x Q hx h hr hu hk; exact wpIn_ret (hk _ _ _ _ _ hx h (Ext.refl _ _ _) ⟨hu, rfl⟩)
 | region id ops d =>
  intro R s a w g k x Q hx h hr hu hk
  simp only [zbQ] at hx
  obtain ⟨hc, hx⟩ := zx hx
  simp only [Bool.and_eq_true] at hc
  replace hc := hc.2
  obtain ⟨s0, g0, hx, h, x0⟩ := ziN _ hx h
  rw [zt7] at hx
  obtain ⟨s1, h1, h2⟩ := zj hx
  exact zrx hm hC r h (hr.ext x0).gl hc h1 fun a' w' g' k1 k2 k3 => hk _ _ _ _ _ h2 k1 (x0.trans k2) ⟨by rw [k3.1]; exact hu, k3.2⟩
 | seq c1 c2 ih1 ih2 =>
  intro R s a w g k x Q hx h hr hu hk
  simp only [zbQ] at hx
  refine wpIn_seq (ih1 hx h hr hu fun e s' a' w' g' he h' x' u' => ?_)
  cases e with
  | normal => exact ih2 he h' (hr.ext x') u'.1 fun e s'' a'' w'' g'' he' h'' x'' u'' => hk _ _ _ _ _ he' h'' (x'.trans x'') ⟨u''.1, u''.2.trans u'.2⟩
  | exit id => exact hk _ _ _ _ _ he h' x' u'
  | ret => exact hk _ _ _ _ _ he h' x' u'
 | cond c c1 c2 ih1 ih2 =>
  intro R s a w g k x Q hx h hr hu hk
  simp only [zbQ] at hx
  split at hx
  ·rename_i t hc
   have hv := h.evalN hc rfl
   simp only [VR] at hv
   cases t with
   | true => exact wpIn_cond_true hv (ih1 hx h hr hu hk)
   | false => exact wpIn_cond_false hv (ih2 hx h hr hu hk)
  ·cases hx
 | block id c ih =>
  intro R s a w g k x Q hx h hr hu hk
  simp only [zbQ] at hx
  refine wpIn_block (ih hx h hr hu fun e s' a' w' g' he h' x' u' => ?_)
  cases e with
  | normal => exact hk _ _ _ _ _ he (h'.purge _) x' u'
  | exit j =>
   simp only [zlh, Exit.inBlock]
   simp only at he
   cases hj : Nat.beq j id with
   | true =>
    rw [hj] at he
    rw [if_pos (Nat.eq_of_beq_eq_true hj)]
    exact hk _ _ _ _ _ he (h'.purge _) x' u'
   | false =>
    rw [hj] at he
    rw [if_neg (Nat.ne_of_beq_eq_false hj)]
    exact hk (.exit j) _ _ _ _ he h' x' u'
  | ret => exact hk _ _ _ _ _ he h' x' u'
 | loop c ih =>
  intro R s a w g k x Q hx h hr hu hk
  simp only [zbQ] at hx
  obtain ⟨p, hp, hx⟩ := zj hx
  rw [hC.w] at hp
  obtain ⟨N, hN⟩ := zdX.1 hp
  let b : St → Option (Ex × St) := fun s => zbQ G L C f rd c (Ex × St) s fun e s1 => zfW s.h.length (purge (zeb (zau c) (L.loops f)) s1) fun s2 => some (e, s2)
  let J : Nat → Act → World → Prop := fun m a' w' => ∃ s' g', SR act hn s' a' w' g' ∧ Ext (zbd act hn) w g w' g' ∧ (a'.defers.Nodup ∧ a'.tmps.size = a.tmps.size) ∧ s'.h.length = s.h.length ∧ zdf b m s' = some p
  refine wpIn_loop (fun a' w' => ∃ m, J m a' w') (fun a' w' => zfI fun m => J m a' w') ⟨N, Ab.loose (purge (zeb (zau c) (L.loops f)) s), g, (h.purge _).loose, Ext.refl _ _ _, ⟨hu, rfl⟩, by simp only [Ab.loose, zdl]; cases zeb (zau c) (L.loops f) <;> rfl, hN⟩ ?_
  intro a1 w1 hI
  have hfind : J (zfI fun m => J m a1 w1) a1 w1 := zpe (p := fun m => J m a1 w1) hI
  generalize hmu : (zfI fun m => J m a1 w1) = M at hfind
  obtain ⟨s1, g1, h1, x1, u1, l1, hit⟩ := hfind
  cases M with
  | zero => cases hit
  | succ M =>
   simp only [zdf] at hit
   cases hb : b s1 with
   | none => rw [hb] at hit; cases hit
   | some q =>
    obtain ⟨e1, s2⟩ := q
    rw [hb] at hit
    refine ih (k := fun e s' => zfW s1.h.length (purge (zeb (zau c) (L.loops f)) s') fun s2 => some (e, s2)) (x := (e1, s2)) hb h1 (hr.ext x1) u1.1 fun e s' a' w' g0 he h'' x'' u'' => ?_
    have u' : a'.defers.Nodup ∧ a'.tmps.size = a.tmps.size := ⟨u''.1, u''.2.trans u1.2⟩
    rw [zsR] at he
    obtain ⟨s3, ht3, he⟩ := zj he
    cases he
    obtain ⟨t1, t2, g', h', hg'⟩ := (h''.purge (zeb (zau c) (L.loops f))).trim ht3
    have x' : Ext (zbd act hn) w1 g1 w' g' := by
     rcases hg' with rfl | rfl
     ·exact x''
     ·exact x''.cut (Nat.le_of_eq h1.jl)
    have l2 : s2.h.length = s.h.length := by
     have := x'.jlen
     rw [h1.jl, h'.jl] at this
     omega
    have hpl : (purge (zeb (zau c) (L.loops f)) s).h.length = s2.h.length := by
     rw [l2]; cases zeb (zau c) (L.loops f) <;> rfl
    cases e1 with
    | normal =>
     have hJ : J M a' w' := ⟨_, g', h', x1.trans x', u', l2, hit⟩
     refine ⟨⟨M, hJ⟩, ?_⟩
     show (zfI fun m => J m a' w') < M + 1
     exact Nat.lt_succ_of_le (zrA (p := fun m => J m a' w') hJ)
    | exit id =>
     cases hit
     have hx2 := zko hx
     rw [zjE] at hx2
     obtain ⟨s3, hl, hx3⟩ := zj hx2
     refine hk (.exit id) _ _ _ _ hx3 (h'.like ?_ hpl hl) (x1.trans x') u'
     rw [(h.purge (zeb (zau c) (L.loops f))).size, h'.size, u'.2]
    | ret =>
     cases hit
     have hx2 := zko hx
     rw [zjE] at hx2
     obtain ⟨s3, hl, hx3⟩ := zj hx2
     refine hk .ret _ _ _ _ hx3 (h'.like ?_ hpl hl) (x1.trans x') u'
     rw [(h.purge (zeb (zau c) (L.loops f))).size, h'.size, u'.2]
 | rangeFunc xo ps as bd ih1 ih2 =>
  intro R s a w g k x Q hx h hr hu hk
  simp only [zbQ] at hx
  split at hx
  ·rename_i q first cap hxo
   obtain ⟨hok, hx⟩ := zx hx
   obtain ⟨res, hres, hx⟩ := zj hx
   rw [zbD] at hx
   obtain ⟨hh, hhk, hx⟩ := zj hx
   have hv := h.evalN hxo rfl
   simp only [VR] at hv
   obtain ⟨q', first', cap', hev, hfi, hca, hq⟩ := hv
   subst hq
   obtain ⟨hhas, hcalls⟩ := hC.s _ _ _ _ hres
   obtain ⟨hbl, hx⟩ := zx hx
   have main : ∀ (fn : FuncId) {a1 : Act} {w1 : World} {g1 : Gh} (mark : List Deferred) (D : Nat), SR act hn s a1 w1 g1 → Ext (zbd act hn) w g w1 g1 → a1 = { a with defers := mark ++ a.defers } → a1.defers.Nodup →
     (Instr.enterLoop fn a.tmps ps as bd r).run G.P w = .ok (w1.heap.size, mark) (w1.alloc (.loop { state := .ready, pending := none, fn, tmps := a.tmps, params := ps, assign := as, body := bd, defers := D })) →
     ∃ (l : Nat) (mark : List Deferred) (w₁ : World) (d : Deferred) (w₁' : World) (f : FuncId) (args : Array Value) (w₂ : World),
      (Instr.enterLoop fn a.tmps ps as bd (Fr r).round).run G.P w = .ok (l, mark) w₁ ∧
      (resolve a.eval (rangeCall xo l) 0).run G.P w₁ = .ok d w₁' ∧
      (∀ f', Target.leads G.P w₁' d.target d.args = some f' → (Fr r).fn f') ∧
      (invoke d.target d.args).run G.P w₁' = .ok (.enter f args) w₂ ∧
      ((Fr r).depth.isSome = true → 1 ≤ n) ∧
      CallsIn (Fr r) (n - 1) G.P f args w₂ (rangePost (Fr r) n G.P l Q { a with defers := mark ++ a.defers }) := by
    intro fn a1 w1 g1 mark D h1 x1 ha1 hu1 hrun
    have hviews : VRs (s.t.map view) (zn w1 g1) a.tmps.toList := VRs.mono _ x1.le (zrB h)
    obtain ⟨g2, h2, x2, hJ⟩ := h1.allocLoop (f := f) fn hviews ps as bd D
    have x12 := x1.trans x2
    let w2 := w1.alloc (.loop { state := .ready, pending := none, fn, tmps := a.tmps, params := ps, assign := as, body := bd, defers := D })
    have hargs : VRs (first ++ ([V.fn (.yield s.h.length) [] []] ++ cap)) (zn w2 g2) (first' ++ ([Value.func (.yield w1.heap.size) ⟨[]⟩ ⟨[]⟩] ++ cap')) := by
     refine (VRs.mono _ x12.le hfi).append (VRs.append ?_ (VRs.mono _ x12.le hca))
     simp only [VRs, VR]
     exact ⟨_, [], rfl, ⟨_, [], [], rfl, rfl, rfl, w1.heap.size, hJ, rfl⟩, rfl⟩
    refine ⟨w1.heap.size, mark, w2, { target := .fn (.func q) ⟨cap'⟩, args := ⟨first'⟩ ++ #[.func (.yield w1.heap.size) #[] #[]] }, w2, q, (⟨first'⟩ ++ #[.func (.yield w1.heap.size) #[] #[]]) ++ ⟨cap'⟩, w2, hrun, ?_, fun _ _ => trivial, ?_, fun e => (by cases e), ?_⟩
    ·have hcst : ∀ v, a.eval (.const v) = v := fun _ => rfl
     simp [resolve, hev, Deferred.ofValue, hcst]
    ·simp only [invoke]
     exact zgu hhas _
    ·have hA : ((⟨first'⟩ ++ #[.func (.yield w1.heap.size) #[] #[]]) ++ ⟨cap'⟩ : Array Value) = ⟨first' ++ ([Value.func (.yield w1.heap.size) ⟨[]⟩ ⟨[]⟩] ++ cap')⟩ := by apply Array.ext'; simp
     rw [hA]
     refine (zkk (hcalls hn w2 g2 _ h2.HS (hr.gl.ext x12) hargs)).mono fun e w3 he => ?_
     obtain ⟨cc, g30, e1, e2, e30, e4⟩ := he
     subst e1
     obtain ⟨h3, e3⟩ := h2.backCut e2 e30 hhk (Nat.le_refl _) hbl
     have hhl : hh.length = s.h.length + 1 := by rw [(zhN _ _ hhk).1]; simp
     generalize hg3 : g30.cut hh.length = g3 at h3 e3
     simp only [rangePost]
     split at hx
     ·rename_i lp hlp
      rw [zaG] at hlp
      obtain ⟨b, lc, k1, k2, k3, k4, k5, k6, k7, k8, k9, k10⟩ := h3.turnLoop hlp
      have hbl : b = w1.heap.size := by
       have := e3.le.J _ _ hJ
       have this2 : g3.J[s.h.length]? = some (w1.heap.size, none) := this
       rw [this2] at k1; cases k1; rfl
      subst hbl
      obtain ⟨pe, hpe, hx⟩ := zj hx
      have hnb : lp.st ≠ .busy := by intro e; simp only [zpQ, e] at hpe; cases hpe
      have hpe2 : pe = lp.pend := by
       unfold zpQ at hpe
       split at hpe
       ·cases hpe
       ·cases hpe; rfl
      subst hpe2
      obtain ⟨k11, k12⟩ := k10 .ready .exhausted lp.pend k9 .dead (.inl rfl)
      have xall : Ext (zbd act hn) w g (w3.putObj w1.heap.size (.loop { lc with state := .exhausted, pending := lp.pend.map zdH })) g3 := x12.trans (e3.ofOb.trans k12.ofOb)
      refine ⟨lc.pending, w3.putObj w1.heap.size (.loop { lc with state := .exhausted }), run_endLoop k2 (by rw [k3]; exact hnb), ?_⟩
      have hx' : ∃ e, (match lp.pend with | none => Ex.normal | some e => e) = e ∧ za8 s.h.length (zdS s.h.length hh) = true ∧ k e ⟨s.t, zdS s.h.length hh⟩ = some x := by
       cases hpd : lp.pend with
       | none => rw [hpd] at hx; exact ⟨_, rfl, zx hx⟩
       | some e => rw [hpd] at hx; simp only [endK] at hx; exact ⟨_, rfl, zx (zko (k := fun e => ifK (za8 s.h.length (zdS s.h.length hh)) (k e ⟨s.t, zdS s.h.length hh⟩)) hx)⟩
      obtain ⟨e, he, hbo, hx'⟩ := hx'
      have hrec : ({ lc with state := .exhausted, pending := lp.pend.map zdH } : Loop) = { lc with state := .exhausted } := by rw [← k4]
      rw [hrec] at k11 xall
      have htk : zdS s.h.length hh = (zah hh s.h.length .dead).take s.h.length := by rw [zke, zdZ, List.take_set_of_le (Nat.le_refl _)]
      have xcut := xall.cut (n := s.h.length) (Nat.le_of_eq h.jl)
      have k13 : SR act hn ⟨s.t, zdS s.h.length hh⟩ a1 (w3.putObj w1.heap.size (.loop { lc with state := .exhausted })) (g3.cut s.h.length) := by
       rw [htk] at hbo ⊢
       refine k11.cut (fun i v c hv hcc => ?_) hbo
       obtain ⟨_, _, ht⟩ := h.tmp i v hv
       have hbv := ht.isBelow
       rw [h.jl] at hbv
       obtain ⟨c', hc', ht'⟩ := k11.tmp i v hv
       rw [hcc] at hc'; cases hc'
       exact ht'.below hbv
      rw [← ha1]
      have fin : ∀ pd : Option Code, pd = lp.pend.map zdH → (match pd with
       | none => Q .normal a1 (w3.putObj w1.heap.size (.loop { lc with state := .exhausted }))
       | some c => c.wpIn (Fr r) n G.P Q a1 (w3.putObj w1.heap.size (.loop { lc with state := .exhausted }))) := by
       intro pd hpd
       subst hpd
       cases hp : lp.pend with
       | none =>
        rw [hp] at he
        subst he
        exact hk .normal _ _ _ _ hx' k13 xcut ⟨hu1, by rw [ha1]⟩
       | some e' =>
        rw [hp] at he k9
        subst he
        exact zpd (fun he => k9 (by rw [he])) (hk e' _ _ _ _ hx' k13 xcut ⟨hu1, by rw [ha1]⟩)
      exact fin lc.pending k4
     ·cases hx
   refine wpIn_rangeFunc fun fn _ => ?_
   cases hrd : rd with
   | none =>
    have hr1 := hr.rd
    rw [hrd] at hr1
    have hr' : r = none := hr1
    subst hr'
    obtain ⟨m1, m2⟩ := h.allocMark
    exact main fn [{ target := .collected w.heap.size, args := #[] }] w.heap.size m1 m2 rfl (zrC h hu rfl) (by rw [run_enterLoop_outer]; simp)
   | some l =>
    have hrr := hr.rd
    rw [hrd] at hrr hok
    obtain ⟨b, hr1, hr2⟩ := hrr
    subst hr1
    simp only at hok
    have hlp : ∃ lp, s.h[l]? = some (.loop lp) := by
     rw [zaG] at hok
     split at hok
     ·rename_i lp e; exact ⟨lp, e⟩
     ·cases hok
    obtain ⟨lp, hlp⟩ := hlp
    obtain ⟨b', lc, k1, _, k3, _⟩ := h.obj l _ hlp
    rw [hr2] at k1; cases k1
    exact main fn [] lc.defers h (Ext.refl _ _ _) rfl hu (zkn k3 fn a.tmps ps as bd)
  ·cases hx
 | _ => intro R s a w g k x Q hx h hr hu hk; simp only [zbQ] at hx; cases hx
end Go.Ab
namespace Go.Ab
variable {act hn : Nat} {s s' : St} {a : Act} {w : World} {g : Gh} {G : Cfg} {L : Lv} {C : CallT} {f : FuncId} {dr : Bool} {n : Nat} {o : Oper}
theorem zrD (m : Mem) (k : Nat) : VRs (List.replicate k .undef) m (List.replicate k Go.undef) := by
 induction k with
 | zero => simp only [List.replicate, VRs]
 | succ k ih => simp only [List.replicate_succ, VRs]; exact ⟨_, _, rfl, by simp only [VR], ih⟩
theorem HS.enter {h : List Ob} (k : HS hn h w g) {t : List V} {tmps : Array Value} (ht : VRs t (zn w g) tmps.toList) : SR g.nx hn ⟨t, h⟩ { tmps := tmps, defers := [] } w { g with nx := g.nx + 1 } where
 wf := ⟨k.wf.new, k.wf.inj, fun b p hp => Nat.lt_succ_of_lt (k.wf.nx b p hp)⟩
 size := by simpa using VRs.length _ ht
 tmp i v hv := by
  obtain ⟨c, hc, h1⟩ := VRs.get _ ht i v hv
  exact ⟨c, by simpa using hc, TR.of_VR h1⟩
 jl := k.jl
 obj := k.obj
 dfr d hd := by cases hd
 an := Nat.lt_succ_self _
 hm := Nat.lt_succ_of_lt k.hm
theorem Ext.leave {w' : World} {g' : Gh} (wf : WF w g) (e : Ext (zbd g.nx hn) w { g with nx := g.nx + 1 } w' g') : Ext (zeQ hn) w g w' g' where
 size := e.size
 keep b hb hp := e.keep b hb fun p h1 h2 => by
  have hlt := wf.nx b p h1
  rcases h2 with ⟨i, rfl⟩ | ⟨d, rfl⟩ | ⟨id, rfl⟩
  ·exact Nat.lt_irrefl _ hlt
  ·exact Nat.lt_irrefl _ hlt
  ·exact hp _ h1 ⟨id, rfl⟩
 le := e.le
 nx := Nat.le_trans (Nat.le_succ _) e.nx
 os := e.os
 tape := e.tape
 output := e.output
 dr := e.dr
theorem zue (h : SR act hn s a w g) {x : ResultVar} {v : V} (hv : resV G.P s x = some v) :
  ∃ c, (match x with
   | .tmp t => pure (a.tmps.getD t Go.undef)
   | .cell i t => do loadVar t (← asAddr (a.tmps.getD i Go.undef)) : Sem Value).run G.P w = .ok c w ∧ VR v (zn w g) c := by
 cases x with
 | tmp i =>
  simp only [resV] at hv
  cases hv
  exact ⟨a.tmps.getD i Go.undef, by simp, (h.slot i).view⟩
 | cell i t =>
  simp only [resV] at hv
  split at hv
  ·rename_i ag m ht
   have core : ∀ {b : Nat} {cs : List V} {cells : Array Value} {e : TypeId}, a.tmps.getD i Go.undef = .pointer (some ⟨b, 0, none⟩) → w.heap[b]? = some (.cells cells e (0, 0)) → VRl cs (zn w g) cells.toList → part ag m cs 0 = some v →
     ∃ c, (do loadVar t (← asAddr (a.tmps.getD i Go.undef)) : Sem Value).run G.P w = .ok c w ∧ VR v (zn w g) c := by
    intro b cs cells e he hb hcs hp
    obtain ⟨vals, h1, h2, h3⟩ := zjm (mm := zn w g) (f := fun j => cells[j]?) hp (fun j y hy => by obtain ⟨c, c1, c2⟩ := VRl.get _ hcs j y hy; exact ⟨c, by simpa using c1, c2⟩)
    refine ⟨_, ?_, h3⟩
    rw [he]
    have := zfH (P := G.P) (w := w) (b := b) (off := 0) (cs := vals) (fun j c hj => by
     have := h1 j c hj
     rw [zcX, hb]; simpa [zca] using this) ht h2
    simp [asAddr, this]
   split at hv
   ·rename_i cs hi
    have := h.slot i
    rw [hi] at this
    obtain ⟨b, cells, e, k1, _, _, k4, k5⟩ := this
    exact core k1 k4 k5 hv
   ·rename_i id hi
    split at hv
    ·rename_i cs ho
     rw [zaG] at ho
     have := h.slot i
     rw [hi] at this
     have this : VR (.ptr id 0) (zn w g) (a.tmps.getD i Go.undef) := this
     simp only [VR] at this
     obtain ⟨b, k1, k2⟩ := this
     obtain ⟨b', cells, e, l1, _, _, l4, l5⟩ := h.obj id _ ho
     have k1' : g.J[id]? = some (b, none) := k1
     rw [k1'] at l1; cases l1
     exact core k2 l4 l5 hv
    ·cases hv
   ·cases hv
  ·cases hv
theorem ztf (h : SR act hn s a w g) : ∀ (l : List ResultVar) {vs : List V} (_ : zne G.P s l = some vs),
  ∃ cs, (l.mapM (fun x => (match x with
   | .tmp t => pure (a.tmps.getD t Go.undef)
   | .cell i t => do loadVar t (← asAddr (a.tmps.getD i Go.undef)) : Sem Value))).run G.P w = .ok cs w ∧ VRs vs (zn w g) cs := by
 intro l
 induction l with
 | nil => intro vs hv; cases hv; exact ⟨[], by simp, by simp only [VRs]⟩
 | cons x l ih =>
  intro vs hv
  simp only [zne] at hv
  obtain ⟨v, h1, hv⟩ := zj hv
  obtain ⟨vs', h2, hv⟩ := zj hv
  cases hv
  obtain ⟨c, c1, c2⟩ := zue h h1
  obtain ⟨cs, d1, d2⟩ := ih h2
  refine ⟨c :: cs, ?_, by simp only [VRs]; exact ⟨c, cs, rfl, c2, d2⟩⟩
  rw [List.mapM_cons]
  simp only [Sem.run_bind, c1, d1, Result.andThen_ok, Sem.run_pure]
theorem zrE (h : SR act hn s a w g) {fn : Func} {v : V} (hv : zhH G.P fn s = some v) : ∃ c, (results fn a.tmps).run G.P w = .ok c w ∧ VR v (zn w g) c := by
 unfold zhH at hv
 obtain ⟨vs, h1, hv⟩ := zj hv
 obtain ⟨cs, k1, k2⟩ := ztf h _ h1
 have hlen := VRs.length _ k2
 refine ⟨if h : cs.toArray.size = 1 then cs.toArray[0] else .tuple cs.toArray, ?_, ?_⟩
 ·unfold results
  rw [Array.mapM_eq_mapM_toList]
  change (((fn.results.toList.mapM (fun x => (match x with
   | .tmp t => pure (a.tmps.getD t Go.undef)
   | .cell i t => do loadVar t (← asAddr (a.tmps.getD i Go.undef)) : Sem Value))) >>= fun l => pure l.toArray) >>= fun vs => pure (if h : vs.size = 1 then vs[0] else .tuple vs) : Sem Value).run G.P w = _
  simp only [Sem.run_bind, k1, Result.andThen_ok, Sem.run_pure]
 ·cases vs with
  | nil =>
   cases hv
   simp only [VRs] at k2
   subst k2
   simp [VR, VRs]
  | cons x l =>
   cases l with
   | nil =>
    cases hv
    simp only [VRs] at k2
    obtain ⟨c, _, rfl, h2, rfl⟩ := k2
    simpa using h2
   | cons y l =>
    cases hv
    have : ¬ cs.toArray.size = 1 := by simp at hlen ⊢; omega
    rw [dif_neg this]
    simp only [VR]
    exact ⟨cs, rfl, k2⟩
theorem SR.shut (h : SR act hn s { a with defers := [] } w g) {D : Nat} (h1 : g.own D = some (.mark act D)) (h2 : w.heap[D]? = some (.deferred (some []))) :
  SR act hn s { a with defers := [] } (w.putObj D (.deferred none)) g ∧ Ext (zbd act hn) w g (w.putObj D (.deferred none)) g := by
 have le' : (zn w g).le (zn (w.putObj D (.deferred none)) g) := by
  refine ⟨fun x j c hx => ?_, fun x n hx => ?_, fun _ _ x => x, fun _ b l x => ⟨b, l, x, Nat.le_refl _, fun _ => rfl⟩⟩
  ·simp only [zn] at hx ⊢
   by_cases e : x = D
   ·subst e; rw [h2] at hx; simp [zca] at hx
   ·rw [World.putObj_heap_other e]; exact hx
  ·simp only [zn] at hx ⊢
   by_cases e : x = D
   ·subst e; rw [h2] at hx; simp [zds] at hx
   ·rw [World.putObj_heap_other e]; exact hx
 have keep : ∀ x p, g.own x = some p → p ≠ .mark act D → (w.putObj D (.deferred none)).heap[x]? = w.heap[x]? ∧ g.own x = g.own x ∧ g.K x = g.K x := by
  intro x p hp hne
  refine ⟨World.putObj_heap_other (fun e => ?_), rfl, rfl⟩
  subst e; rw [h1] at hp; cases hp; exact hne rfl
 refine ⟨{ wf := ⟨fun x hx => h.wf.new x (by simpa using hx), h.wf.inj, h.wf.nx⟩, size := h.size, tmp := fun i v hv => ?_, jl := h.jl, obj := fun id ob e => ?_, dfr := fun d hd => (by cases hd), an := h.an, hm := h.hm },
  ⟨by simp, fun x _ hp => ⟨World.putObj_heap_other (fun e => by subst e; exact hp _ h1 (.inr (.inl ⟨_, rfl⟩))), rfl, rfl⟩, le', Nat.le_refl _, rfl, rfl, rfl, Nat.le_refl _⟩⟩
 ·obtain ⟨c, hc, ht⟩ := h.tmp i v hv
  exact ⟨c, hc, ht.frame le' fun b j e => keep b _ e (by intro e; cases e)⟩
 ·exact (h.obj id ob e).frame rfl le' fun b e => keep b _ e (by intro e; cases e)
theorem zrF {fn : Func} {R : Ending → World → Prop} : ∀ (ds : List Deferred) {w : World} (_ : SR act hn s { a with defers := [] } w g) (_ : ∀ d ∈ ds, ∃ D, d = { target := .collected D, args := #[] } ∧ g.own D = some (.mark act D) ∧ w.heap[D]? = some (.deferred (some [])))
  (_ : ds.Nodup) (_ : ∀ w', SR act hn s { a with defers := [] } w' g → Ext (zbd act hn) w g w' g → LeavesIn (Fr none) n G.P fn a.tmps R [] .returning w'), LeavesInM (Fr none) n G.P fn a.tmps R ds .returning w := by
 intro ds
 induction ds with
 | nil => intro w h hd hu hk; exact hk w h (Ext.refl _ _ _)
 | cons d ds ih =>
  intro w h hd hu hk
  obtain ⟨D, rfl, h1, h2⟩ := hd d (by simp)
  obtain ⟨k1, k2⟩ := h.shut h1 h2
  refine ⟨by simp, .inl ⟨D, _, rfl, run_takeDeferred h2, ?_⟩⟩
  refine ih k1 (fun d' hd' => ?_) (List.nodup_cons.1 hu).2 fun w' l1 l2 => hk w' l1 (k2.trans l2)
  obtain ⟨D', rfl, h3, h4⟩ := hd d' (by simp [hd'])
  refine ⟨D', rfl, h3, ?_⟩
  rw [World.putObj_heap_other, h4]
  intro e; subst e
  exact (List.nodup_cons.1 hu).1 hd'
theorem ret_ok (h : SR act hn s a w g) {v : V} {r : V × List Ob} (hr : retK s.h v (fun v h => some (v, h)) = some r) {c : Value} (hv : VR v (zn w g) c) :
  ∃ g', SR act hn ⟨s.t, r.2⟩ a w g' ∧ Ext (zeQ hn) w g w g' ∧ VR r.1 (zn w g') c := by
 unfold retK at hr
 split at hr
 ·rw [zee] at hr
  obtain ⟨u, hu, hr⟩ := zj hr
  cases hr
  obtain ⟨g', f1, f2⟩ := zjo h hu hv
  exact ⟨g', f1.sr, f1.ext, VR.beside (m := (zn w g').alone) (m' := zn w g') _ rfl rfl rfl f2⟩
 ·cases hr
  exact ⟨g, h, Ext.refl _ _ _, hv⟩
theorem zuf (hm : G.P.follows .mixedOrders = true) (hC : CallS G C) {fn : Func} (hf : G.P.funcs[f]? = some fn) {args : List V} {h : List Ob} {r : V × List Ob} (hr : runF G L C f fn args h = some r) : zf1 G (.func f) args h r := by
 unfold runF at hr
 split at hr
 ·rename_i c hb
  obtain ⟨hc, hr⟩ := zx hr
  simp only [Bool.and_eq_true] at hc
  refine ⟨⟨fn, hf, by rw [hb]; rfl, by simpa using hc.1⟩, fun hn w g cs hs hG ha => ?_⟩
  have hle : args.length ≤ fn.ntmps := Nat.le_of_ble_eq_true hc.2
  have hlen := VRs.length _ ha
  refine zs2 (n := 0) (callsIn_of_wp_marks (F := Fr none) hf hb trivial ?_)
  have hs2 := HS.enter hs (t := args ++ List.replicate (fn.ntmps - args.length) .undef) (tmps := (⟨cs⟩ : Array Value) ++ Array.replicate (fn.ntmps - (⟨cs⟩ : Array Value).size) Go.undef) (by
   have e1 : ((⟨cs⟩ : Array Value) ++ Array.replicate (fn.ntmps - (⟨cs⟩ : Array Value).size) Go.undef).toList = cs ++ List.replicate (fn.ntmps - args.length) Go.undef := by simp [hlen]
   rw [e1]
   exact ha.append (zrD _ _))
  refine zlX hm hC none none c hr hs2 ⟨rfl, fun b => hG b⟩ List.nodup_nil fun e s' a' w' g' he h' x' u' => ?_
  have fin : e = .normal ∨ e = .ret → LeavesInM (Fr none) 0 G.P fn a'.tmps (zk1 hn w g r) a'.defers .returning w' := by
   intro hee
   have he2 : (zhH G.P fn s').bind (fun v => retK s'.h v fun v h => some (v, h)) = some r := by rcases hee with rfl | rfl <;> exact he
   obtain ⟨v, hv, he3⟩ := zj he2
   refine zrF (act := g.nx) (hn := hn) (s := s') (g := g') a'.defers { h' with dfr := fun d hd => (by cases hd) } h'.dfr u'.1 fun w'' h'' x'' => ?_
   obtain ⟨c, c1, c2⟩ := zrE (G := G) h'' hv
   obtain ⟨g3, f1, f2⟩ := ret_ok h'' he3 c2
   exact ⟨c, c1, c, g3, rfl, f1.HS, Ext.leave hs.wf ((x'.trans x'').trans f2.1.ofOb), f2.2⟩
  cases e with
  | normal => exact fin (.inl rfl)
  | ret => exact fin (.inr rfl)
  | exit id => cases he
 ·cases hr
theorem ztg : ∀ (ps : List Nat) (args : List V) {t t' : List V} (_ : zhF ps args t = some t') {m : Mem} {tmps : Array Value} (_ : VRs t m tmps.toList) {cs : List Value} (_ : VRs args m cs),
  ps.length = args.length ∧ VRs t' m ((ps.zip cs).foldl (fun tmps (x : Nat × Value) => tmps.setIfInBounds x.1 x.2) tmps).toList := by
 intro ps
 induction ps with
 | nil =>
  intro args t t' h m tmps ht cs ha
  cases args with
  | nil => simp only [zhF] at h; cases h; simp only [VRs] at ha; subst ha; exact ⟨rfl, by simpa using ht⟩
  | cons _ _ => cases h
 | cons p ps ih =>
  intro args t t' h m tmps ht cs ha
  cases args with
  | nil => cases h
  | cons v vs =>
   simp only [zhF] at h
   simp only [VRs] at ha
   obtain ⟨c, cs', rfl, h1, h2⟩ := ha
   obtain ⟨k1, k2⟩ := ih vs h (tmps := tmps.setIfInBounds p c) (m := m) (by
    have hl := VRs.length _ ht
    have : ∀ (l : List V) (p : Nat) (ds : List Value), VRs l m ds → VRs (upd l p v) m (ds.set p c) := by
     intro l
     induction l with
     | nil => intro p ds hd; simp only [VRs] at hd; subst hd; simp [upd, VRs]
     | cons u l ihl =>
      intro p ds hd
      simp only [VRs] at hd
      obtain ⟨d, ds', rfl, hd1, hd2⟩ := hd
      cases p with
      | zero => simp only [upd, List.set_cons_zero, VRs]; exact ⟨c, ds', rfl, h1, hd2⟩
      | succ p => simp only [upd, List.set_cons_succ, VRs]; exact ⟨d, ds'.set p c, rfl, hd1, ihl p ds' hd2⟩
    rw [Array.toList_setIfInBounds]
    exact this _ _ _ ht) h2
   exact ⟨by simp [k1], by simpa using k2⟩
theorem zth (hm : G.P.follows .mixedOrders = true) (hC : CallS G C) {id : Nat} {args : List V} {h : List Ob} {r : V × List Ob} (hr : runY G L C id args h = some r) : zf1 G (.yield id) args h r := by
 unfold runY at hr
 split at hr
 ·rename_i lp hlp
  rw [zaG] at hlp
  obtain ⟨t, ht, hr⟩ := zj hr
  have hlen : lp.ps.length = args.length := by
   have : ∀ (ps : List Nat) (args : List V) (t t' : List V), zhF ps args t = some t' → ps.length = args.length := by
    intro ps
    induction ps with
    | nil => intro args t t' h; cases args with | nil => rfl | cons _ _ => cases h
    | cons p ps ih => intro args t t' h; cases args with | nil => cases h | cons v vs => simp only [zhF] at h; simp [ih _ _ _ h]
   exact this _ _ _ _ ht
  refine ⟨lp, hlp, hlen, fun hn w g cs b lc hs hG ha hJ hb => ?_⟩
  obtain ⟨b', lc', k1, k2, k4, k5, k6, k7, k8, k9, k10, k11⟩ := hs.obj id _ hlp
  rw [hJ] at k1; cases k1
  rw [hb] at k4; cases k4
  have hps := (ztg lp.ps args ht (tmps := lc.tmps) (VRs.mono _ (Mem.cut_le _ _) k10) ha).2
  have hfold : (lc.params.zip ⟨cs⟩).foldl (fun tmps (t, a) => tmps.setIfInBounds t a) lc.tmps = (lp.ps.zip cs).foldl (fun tmps (x : Nat × Value) => tmps.setIfInBounds x.1 x.2) lc.tmps := by
   rw [← Array.foldl_toList, Array.toList_zip, k7]
  rw [hfold]
  have hs2 := HS.enter hs hps
  refine roundIn_of_wpIn (F := Fence.wide) trivial ?_
  rw [k8, k9]
  refine zlX (G := G) (L := L) (f := lp.fn) hm hC (some id) (some b) lp.assign hr hs2 ⟨⟨b, rfl, hJ⟩, fun b => hG b⟩ List.nodup_nil fun e s' a' w' g' he h' x' u' => ?_
  cases e with
  | exit _ => cases he
  | ret => cases he
  | normal =>
   simp only at he
   split at he
   ·rename_i lp1 hlp1
    rw [zaG] at hlp1
    obtain ⟨_, hst, he⟩ := zj he
    have hst : lp1.st = .ready := by cases hq : lp1.st <;> rw [hq] at hst <;> first | rfl | cases hst
    ·obtain ⟨b1, lc1, l1, l2, l3, l4, l5, l6, l7, l8, l9, l10⟩ := h'.turnLoop hlp1
     have hJ' : g'.J[id]? = some (b, none) := x'.le.J _ _ hJ
     rw [hJ'] at l1; cases l1
     obtain ⟨m1, m2⟩ := l10 .busy .busy lp1.pend l9 (.loop { lp1 with st := .busy }) (.inr ⟨rfl, rfl⟩)
     have hrec : ({ lc1 with state := .busy, pending := lp1.pend.map zdH } : Loop) = { lc1 with state := .busy } := by rw [← l4]
     rw [hrec] at m1 m2
     refine ⟨_, run_beginRound l2 (by rw [l3]; exact hst), ?_⟩
     have x2 := x'.trans m2.ofOb
     refine zlX (G := G) (L := L) (f := lp.fn) hm hC (some id) (some b) lp.body he m1 ⟨⟨b, rfl, hJ'⟩, zcg.ext (w := w) (g := { g with nx := g.nx + 1 }) (fun b => hG b) x2⟩ u'.1 fun e s2 a2 w2 g2 he2 h2 x3 u2 => ?_
     split at he2
     ·rename_i lp2 hlp2
      rw [zaG] at hlp2
      obtain ⟨_, hst2, he2⟩ := zj he2
      have hst2 : lp2.st = .busy := by cases hq : lp2.st <;> rw [hq] at hst2 <;> first | rfl | cases hst2
      ·obtain ⟨b2, lc2, n1, n2, n3, n4, n5, n6, n7, n8, n9, n10⟩ := h2.turnLoop hlp2
       have hJ2 : g2.J[id]? = some (b, none) := x3.le.J _ _ hJ'
       rw [hJ2] at n1; cases n1
       cases e with
       | normal =>
        cases he2
        obtain ⟨q1, q2⟩ := n10 .ready .ready none (by simp) _ (.inr ⟨rfl, rfl⟩)
        refine ⟨_, _, run_endRound none n2, _, g2, rfl, q1.HS, Ext.leave hs.wf (x2.trans (x3.trans q2.ofOb)), ?_⟩
        simp only [VR, Option.isNone_none]
       | exit j =>
        cases he2
        obtain ⟨q1, q2⟩ := n10 .done .done (some (.exit j)) (by simp) _ (.inr ⟨rfl, rfl⟩)
        refine ⟨_, _, run_endRound (some (.exit j)) n2, _, g2, rfl, q1.HS, Ext.leave hs.wf (x2.trans (x3.trans q2.ofOb)), ?_⟩
        simp only [VR, Option.isNone_some]
       | ret =>
        cases he2
        obtain ⟨q1, q2⟩ := n10 .done .done (some .ret) (by simp) _ (.inr ⟨rfl, rfl⟩)
        refine ⟨_, _, run_endRound (some .ret) n2, _, g2, rfl, q1.HS, Ext.leave hs.wf (x2.trans (x3.trans q2.ofOb)), ?_⟩
        simp only [VR, Option.isNone_some]
     ·cases he2
   ·cases he
 ·cases hr
theorem zlY {G : Cfg} {q : Fn} {args : List V} {r : V × List Ob} {v : V} (h : zf1 G q args [] r) (hn : zbG r.2 r.1 some = some v) : zk2 G q args v := by
 cases q with
 | func f =>
  obtain ⟨hhas, hc⟩ := h
  refine ⟨f, rfl, hhas, fun w g cs wf hG ha => ?_⟩
  let g1 : Gh := { g with J := [], nx := g.nx + 1 }
  have hs : HS g.nx [] w g1 :=
   { wf := ⟨wf.new, wf.inj, fun b p hp => Nat.lt_succ_of_lt (wf.nx b p hp)⟩, size := rfl, tmp := fun i v e => (by simp at e), jl := rfl, obj := fun id ob e => (by simp at e), dfr := fun d hd => (by simp at hd), an := Nat.succ_pos _, hm := Nat.lt_succ_self _ }
  have := hc g.nx w g1 cs hs (fun b => hG b) ha
  intro ks
  obtain ⟨e, w', fr, ⟨c, g2, e1, e2, e3, e4⟩, rest⟩ := this ks
  refine ⟨e, w', fr, ?_, rest⟩
  obtain ⟨h', g3, f1, f2⟩ := zra e2 hn e4
  have x : Ext (zeQ g.nx) w g1 w' g3 := e3.trans f1.ext
  refine ⟨c, { g3 with J := g.J }, e1, ⟨f1.sr.wf.new, f1.sr.wf.inj, f1.sr.wf.nx⟩, rfl, ⟨x.size, fun b hb hp => ?_, ⟨x.le.M, x.le.Z, fun _ _ x => x, fun _ b l x => ⟨b, l, x, Nat.le_refl _, fun _ => rfl⟩⟩, Nat.le_trans (Nat.le_succ _) x.nx, x.os, x.tape, x.output, x.dr⟩, f2⟩
  refine x.keep b hb fun p h1 h2 => ?_
  obtain ⟨id, rfl⟩ := h2
  exact Nat.lt_irrefl _ (wf.nx b _ h1)
 | yield id => obtain ⟨lp, h1, _⟩ := h; simp at h1
 | _ => exact h.elim
def Told (G : Cfg) : Prop := ∀ f S args h r, G.sp f = some S → S args h = some r → zf1 G (.func f) args h r
theorem zrG (h : ∀ f, G.sp f = none) : Told G := fun f S _ _ _ e => by rw [h f] at e; cases e
theorem zug (hm : G.P.follows .mixedOrders = true) (hT : Told G) (hC : CallS G C) {q : Fn} {args : List V} {h : List Ob} {r : V × List Ob} (hr : zO G L C q args h = some r) : zf1 G q args h r := by
 unfold zO at hr
 split at hr
 ·split at hr
  ·rename_i S hS; exact hT _ _ _ _ _ hS hr
  ·split at hr
   ·rename_i fn hf; exact zuf hm hC hf hr
   ·cases hr
 ·exact zth hm hC hr
 ·cases hr
theorem bs_ok (hm : G.P.follows .mixedOrders = true) (hT : Told G) {q : Fn} {args : List V} {h : List Ob} {r : V × List Ob} (b : BS G L q args h r) : zf1 G q args h r := by
 induction b with
 | mk C rp q args h r hw hs hp hn hr ihs ihp => exact zug hm hT ⟨hw, fun q args h r e => ihs q args h r e, fun q args v e => zlY (ihp q args v e) (hn q args v e)⟩ hr
end Go.Ab
namespace Go.Ab
open Go.RowKit
variable {H : Type} {enc : TypeId × Value → H} {P : Program} {W : World}
def g0 : Gh := { K := fun _ => 0, own := fun _ => none, J := [], nx := 0 }
theorem wf0 (W : World) : WF W g0 := ⟨fun _ _ => rfl, fun _ _ _ h => by simp [g0] at h, fun _ _ h => by simp [g0] at h⟩
theorem m0_M (W : World) (b j : Nat) : (zn W g0).M b j = W.cell? ⟨b, j, none⟩ := by
 simp only [zn, g0, true_or, if_true, zcX]
theorem zn5 (W : World) : (zn W g0).alone = zn W g0 := rfl
def Shp (P : Program) : Nat → TypeId → List V → Prop
 | 0, _, _ => False
 | d + 1, t, vs => match P.underlying t with
  | some .bool => ∃ b, vs = [.bool b]
  | some (.int k) => ∃ n, vs = [.int k n] ∧ k.min ≤ n ∧ n ≤ k.max
  | some .string => ∃ s, vs = [.str s]
  | some (.slice e) => ∃ rows, vs = [.slice .any rows] ∧ rows.length ≤ maxLen ∧ ∀ r ∈ rows, Shp P d e r
  | some (.struct fs) => vs.length = P.cellsOf t ∧ ∀ f ∈ fs.toList, Shp P d f.type ((vs.drop f.offset).take (P.cellsOf f.type))
  | some (.array n e) => vs.length = P.cellsOf t ∧ ∀ i, i < n → Shp P d e ((vs.drop (i * P.cellsOf e)).take (P.cellsOf e))
  | _ => True
theorem zli {m : Mem} : ∀ (vs : List V) {us : List V} {cs ds : List Value}, VRl vs m cs → VRl us m ds → VRl (vs ++ us) m (cs ++ ds)
 | [], us, cs, ds, h, k => by simp only [VRl] at h; subst h; exact k
 | v :: vs, us, cs, ds, h, k => by
  simp only [VRl] at h
  obtain ⟨c, cs', rfl, h1, h2⟩ := h
  simp only [List.cons_append, VRl]
  exact ⟨c, cs' ++ ds, rfl, h1, zli vs h2 k⟩
theorem tile {α : Type} {m : Mem} (sz : α → Nat) (S : α → List V → Prop) : ∀ (fs : List α) (cs : List Value), cs.length = (fs.map sz).sum →
  (∀ (j : Nat) (f : α), fs[j]? = some f → ∃ vs, VRl vs m ((cs.drop ((fs.take j).map sz).sum).take (sz f)) ∧ S f vs) →
  ∃ vs, VRl vs m cs ∧ vs.length = cs.length ∧ ∀ (j : Nat) (f : α), fs[j]? = some f → S f ((vs.drop ((fs.take j).map sz).sum).take (sz f)) := by
 intro fs
 induction fs with
 | nil =>
  intro cs hl _
  have : cs = [] := List.length_eq_zero_iff.1 (by simpa using hl)
  subst this
  exact ⟨[], by simp only [VRl], rfl, fun j f hf => by simp at hf⟩
 | cons f fs ih =>
  intro cs hl h
  simp only [List.map_cons, List.sum_cons] at hl
  obtain ⟨v1, h1, h2⟩ := h 0 f rfl
  simp only [List.take_zero, List.map_nil, List.sum_nil, List.drop_zero] at h1
  obtain ⟨v2, k1, k2, k3⟩ := ih (cs.drop (sz f)) (by rw [List.length_drop]; omega) (fun j g hg => by
   obtain ⟨vs, q1, q2⟩ := h (j + 1) g (by simpa using hg)
   refine ⟨vs, ?_, q2⟩
   rw [List.drop_drop]
   simpa only [List.take_succ_cons, List.map_cons, List.sum_cons] using q1)
  have hv1 : v1.length = sz f := by
   have := VRl.length v1 h1
   rw [List.length_take] at this; omega
  refine ⟨v1 ++ v2, ?_, ?_, fun j g hg => ?_⟩
  ·have := zli v1 h1 k1
   rwa [List.take_append_drop] at this
  ·rw [List.length_append, hv1, k2, List.length_drop]; omega
  ·cases j with
   | zero =>
    simp only [List.getElem?_cons_zero, Option.some.injEq] at hg
    subst hg
    simp only [List.take_zero, List.map_nil, List.sum_nil, List.drop_zero]
    rw [← hv1, List.take_left]; exact h2
   | succ j =>
    simp only [List.take_succ_cons, List.map_cons, List.sum_cons]
    have e : (v1 ++ v2).drop (sz f + ((fs.take j).map sz).sum) = v2.drop ((fs.take j).map sz).sum := by
     rw [← hv1, List.drop_length_add_append]
    rw [e]
    exact k3 j g (by simpa using hg)
theorem zrH {W : World} : ∀ (vs : List V) (cs : List Value) (b o : Nat), VRl vs (zn W g0) cs → (∀ j c, cs[j]? = some c → W.cell? ⟨b, o + j, none⟩ = some c) → VRc vs (zn W g0) b o
 | [], _, _, _, _, _ => by simp only [VRc]
 | v :: vs, cs, b, o, h, hc => by
  simp only [VRl] at h
  obtain ⟨c, cs', rfl, h1, h2⟩ := h
  simp only [VRc]
  refine ⟨⟨c, ?_, h1⟩, zrH vs cs' b (o + 1) h2 fun j c' hj => ?_⟩
  ·rw [m0_M]; have := hc 0 c rfl; simpa using this
  ·have := hc (j + 1) c' (by simpa using hj)
   rwa [show o + (j + 1) = o + 1 + j by omega] at this
theorem zrI {W : World} {sz : Nat} : ∀ (rows : List (List V)) (css : List (List Value)) (b o : Nat), rows.length = css.length → (∀ (i : Nat) (r : List V) (cs : List Value), rows[i]? = some r → css[i]? = some cs → VRl r (zn W g0) cs ∧ cs.length = sz ∧ ∀ j c, cs[j]? = some c → W.cell? ⟨b, o + i * sz + j, none⟩ = some c) → VRr rows (zn W g0) b o sz
 | [], _, _, _, _, _ => by simp only [VRr]
 | r :: rows, css, b, o, hl, h => by
  cases css with
  | nil => simp at hl
  | cons cs css =>
   obtain ⟨h1, h2, h3⟩ := h 0 r cs rfl rfl
   simp only [VRr]
   refine ⟨by rw [VRl.length r h1, h2], zrH r cs b o h1 fun j c hj => by simpa using h3 j c hj, zrI rows css b (o + sz) (by simpa using hl) fun i r' cs' hr hc => ?_⟩
   obtain ⟨k1, k2, k3⟩ := h (i + 1) r' cs' (by simpa using hr) (by simpa using hc)
   refine ⟨k1, k2, fun j c hj => ?_⟩
   have := k3 j c hj
   rwa [show o + (i + 1) * sz + j = o + sz + i * sz + j by rw [Nat.add_mul]; omega] at this
theorem zkp {α β : Type} {f : α → Option β} : ∀ {l : List α} {r : List β}, l.mapM f = some r → ∀ x ∈ l, ∃ y, f x = some y := by
 intro l
 induction l with
 | nil => intro r _ x hx; simp at hx
 | cons a l ih =>
  intro r h x hx
  rw [List.mapM_cons] at h
  simp only [Option.bind_eq_bind, Option.bind_eq_some_iff] at h
  obtain ⟨y, h1, ys, h2, _⟩ := h
  cases hx with
  | head => exact ⟨y, h1⟩
  | tail _ hx => exact ih h2 x hx
theorem zjY {α β : Type} {Q : Nat → α → β → Prop} : ∀ (l : List α) (s : Nat), (∀ (i : Nat) (x : α), l[i]? = some x → ∃ y, Q (s + i) x y) → ∃ r : List β, r.length = l.length ∧ ∀ (i : Nat) (x : α) (y : β), l[i]? = some x → r[i]? = some y → Q (s + i) x y
 | [], s, _ => ⟨[], rfl, fun i x y h => by simp at h⟩
 | a :: l, s, h => by
  obtain ⟨y, hy⟩ := h 0 a rfl
  obtain ⟨r, r1, r2⟩ := zjY l (s + 1) fun i x hx => by
   have := h (i + 1) x (by simpa using hx)
   rwa [show s + (i + 1) = s + 1 + i by omega] at this
  refine ⟨y :: r, by simp [r1], fun i x z hx hz => ?_⟩
  cases i with
  | zero => simp at hx hz; subst hx hz; exact hy
  | succ i =>
   have := r2 i x z (by simpa using hx) (by simpa using hz)
   rwa [show s + 1 + i = s + (i + 1) by omega] at this
theorem zmu {W : World} {base : Nat} {a : Addr} {n : Nat} {cs : List Value} (h : W.cells? base a n = some cs) : cs.length = n ∧ ∀ j c, cs[j]? = some c → W.cell? (a.add j) = some c := by
 unfold World.cells? at h
 split at h
 ·have hl := mapM_some_length h
  refine ⟨by simpa using hl, fun j c hj => ?_⟩
  have hjl := (List.getElem?_eq_some_iff.1 hj).1
  have hl' : cs.length = n := by simpa using hl
  have := mapM_some_get h j j (by rw [List.getElem?_range (by omega)])
  rw [this, hj]
 ·cases h
theorem zmv (a : Addr) (n : Nat) : (a.add n).block = a.block := by unfold Addr.add; split <;> rfl
theorem zpu (a : Addr) (n : Nat) : (a.add n).off = a.off + n := by unfold Addr.add; split <;> simp_all
theorem zmw {W : World} {a : Addr} {c : Value} (h : W.cell? a = some c) : a = ⟨a.block, a.off, none⟩ := by
 unfold World.cell? at h
 obtain ⟨b, o, sp⟩ := a
 cases sp with
 | none => rfl
 | some x =>
  simp only [Option.isSome_some, if_true] at h
  split at h <;> cases h
theorem zuh {m : Mem} {c : Value} (h : one c = true) : ∃ vs, VRl vs m [c] ∧ vs.length = 1 := ⟨[.undef], by simp only [VRl, VR]; exact ⟨c, [], rfl, ⟨trivial, h⟩, rfl⟩, rfl⟩
theorem zti (K : Kids P (· < P.types.size)) (hz : ∀ t e, t < P.types.size → P.underlying t = some (.slice e) → 0 < P.cellsOf e) {sp : Nat → Bool} {hd : Bool} : ∀ (n : Nat) (t : TypeId) (cs : List Value) (x : DataW H × List MemPlace), t < P.types.size → DataW.trod enc P W 0 sp hd n t cs = some x →
  ∃ vs, VRl vs (zn W g0) cs ∧ vs.length = cs.length ∧ Shp P n t vs := by
 intro n
 induction n with
 | zero => intro t cs x _ h; simp [DataW.trod] at h
 | succ n ih =>
  intro t cs x ht h
  unfold DataW.trod at h
  have any1 : ∀ c : Value, one c = true → (∀ vs, Shp P (n + 1) t vs) → ∃ vs, VRl vs (zn W g0) [c] ∧ vs.length = 1 ∧ Shp P (n + 1) t vs := fun c hc hs => by
   obtain ⟨vs, h1, h2⟩ := zuh hc
   exact ⟨vs, h1, h2, hs vs⟩
  split at h <;> rename_i hu <;> first
   | (refine any1 _ rfl fun vs => ?_; simp only [Shp, hu]; done)
   | skip
  ·
   rename_i b
   exact ⟨[.bool b], by simp only [VRl, VR]; exact ⟨_, [], rfl, ⟨rfl, rfl⟩, rfl⟩, rfl, by simp only [Shp, hu]; exact ⟨b, rfl⟩⟩
  ·
   rename_i k k' m
   split at h
   ·rename_i hk
    obtain ⟨rfl, hw⟩ := hk
    simp only [Lit.wf, Bool.and_eq_true, decide_eq_true_eq] at hw
    exact ⟨[.int k' m], by simp only [VRl, VR]; exact ⟨_, [], rfl, ⟨rfl, rfl⟩, rfl⟩, rfl, by simp only [Shp, hu]; exact ⟨m, rfl, hw.1, hw.2⟩⟩
   ·cases h
  ·
   rename_i s
   exact ⟨[.str s], by simp only [VRl, VR]; exact ⟨_, [], rfl, ⟨rfl, rfl⟩, rfl⟩, rfl, by simp only [Shp, hu]; exact ⟨s, rfl⟩⟩
  ·
   refine ⟨[.slice .any []], by simp only [VRl, VR]; exact ⟨_, [], rfl, ⟨⟨none, 0, rfl, Nat.le_refl _, trivial, fun _ => rfl, fun h => absurd rfl h⟩, rfl⟩, rfl⟩, rfl, by simp only [Shp, hu]; exact ⟨[], rfl, Nat.zero_le _, fun r hr => by simp at hr⟩⟩
  ·
   rename_i e a len cap
   split at h
   ·rename_i hc
    simp only [Option.bind_eq_some_iff, Option.map_eq_some_iff] at h
    obtain ⟨elems, he, _, _, _⟩ := h
    have hel : elems.length = len := by simpa using mapM_some_length he
    have one1 : ∀ (i : Nat) (z : Nat), (List.range len)[i]? = some z → ∃ p : List V × List Value, VRl p.1 (zn W g0) p.2 ∧ Shp P n e p.1 ∧ W.cells? 0 (a.add (i * P.cellsOf e)) (P.cellsOf e) = some p.2 := by
     intro i z hz'
     have hil : i < len := by have := (List.getElem?_eq_some_iff.1 hz').1; simpa using this
     have hzi : z = i := by simp [hil] at hz'; exact hz'.symm
     subst hzi
     obtain ⟨y, hy⟩ := zkp he z (List.mem_of_getElem? hz')
     simp only [Option.bind_eq_some_iff] at hy
     obtain ⟨cs', hc', hy'⟩ := hy
     obtain ⟨vs, v1, _, v3⟩ := ih e cs' y (K.slice ht hu) hy'
     exact ⟨(vs, cs'), v1, v3, hc'⟩
    obtain ⟨ps, p1, p2⟩ := zjY (Q := fun i (_ : Nat) (p : List V × List Value) => VRl p.1 (zn W g0) p.2 ∧ Shp P n e p.1 ∧ W.cells? 0 (a.add (i * P.cellsOf e)) (P.cellsOf e) = some p.2) (List.range len) 0 (fun i z hz' => by simpa using one1 i z hz')
    have p1' : ps.length = len := by simpa using p1
    have p3 : ∀ (i : Nat) (p : List V × List Value), ps[i]? = some p → VRl p.1 (zn W g0) p.2 ∧ Shp P n e p.1 ∧ W.cells? 0 (a.add (i * P.cellsOf e)) (P.cellsOf e) = some p.2 := fun i p hp => by
     have hil := (List.getElem?_eq_some_iff.1 hp).1
     have := p2 i i p (by rw [List.getElem?_range (by omega)]) hp
     simpa using this
    have hpos := hz t e ht hu
    refine ⟨[.slice .any (ps.map (·.1))], ?_, rfl, ?_⟩
    ·simp only [VRl, VR]
     refine ⟨_, [], rfl, ⟨⟨some a, cap, by rw [List.length_map, p1'], by rw [List.length_map, p1']; exact hc.2.1, trivial, (fun e => by cases e), fun hne => ?_⟩, rfl⟩, rfl⟩
     have hne' : ps ≠ [] := fun e => hne (by rw [e]; rfl)
     obtain ⟨p0, hp0⟩ : ∃ p, ps[0]? = some p := by
      cases ps with
      | nil => exact absurd rfl hne'
      | cons p _ => exact ⟨p, rfl⟩
     obtain ⟨_, _, q3⟩ := p3 0 p0 hp0
     obtain ⟨l1, l2⟩ := zmu q3
     have ha : a = ⟨a.block, a.off, none⟩ := by
      have h0 : ∃ c, p0.2[0]? = some c := ⟨_, List.getElem?_eq_getElem (by omega)⟩
      obtain ⟨c, hc0⟩ := h0
      have := l2 0 c hc0
      rw [Nat.zero_mul] at this
      simp only [Addr.add, if_true] at this
      exact zmw this
     refine ⟨a.block, a.off, P.cellsOf e, by rw [← ha], ?_⟩
     rw [zn5]
     refine zrI _ (ps.map (·.2)) _ _ (by simp) fun i r cs hr hcs => ?_
     simp only [List.getElem?_map, Option.map_eq_some_iff] at hr hcs
     obtain ⟨p, hp, rfl⟩ := hr
     obtain ⟨p', hp', rfl⟩ := hcs
     rw [hp] at hp'; cases hp'
     obtain ⟨k1, k2, k3⟩ := p3 i p hp
     obtain ⟨m1, m2⟩ := zmu k3
     refine ⟨k1, m1, fun j c hj => ?_⟩
     have := m2 j c hj
     have he2 : (a.add (i * P.cellsOf e)).add j = ⟨a.block, a.off + i * P.cellsOf e + j, none⟩ := by
      rw [zmw this, zmv, zmv, zpu, zpu]
     rwa [he2] at this
    ·simp only [Shp, hu]
     refine ⟨_, rfl, by rw [List.length_map, p1']; exact Nat.le_trans hc.2.1 hc.2.2, fun r hr => ?_⟩
     simp only [List.mem_map] at hr
     obtain ⟨p, hp, rfl⟩ := hr
     obtain ⟨i, hi⟩ := List.mem_iff_getElem?.1 hp
     exact (p3 i p hi).2.1
   ·cases h
  ·
   rename_i cs _ _ fs
   split at h
   ·rename_i hl
    simp only [Option.map_eq_some_iff] at h
    obtain ⟨xs, hxs, _⟩ := h
    obtain ⟨k1, k2, k3⟩ := K.struct ht hu
    obtain ⟨vs, v1, v2, v3⟩ := tile (m := zn W g0) (fun f : Field => P.cellsOf f.type) (fun f vs => Shp P n f.type vs) fs.toList cs (by rw [hl, k2]) (fun j f hf => by
     obtain ⟨y, hy⟩ := zkp hxs f (List.mem_of_getElem? hf)
     have ho := k3 j f hf
     obtain ⟨vs, w1, _, w3⟩ := ih _ _ _ (k1 f (List.mem_of_getElem? hf)) hy
     rw [ho] at w1
     exact ⟨vs, w1, w3⟩)
    refine ⟨vs, v1, v2, ?_⟩
    simp only [Shp, hu]
    refine ⟨by rw [v2, hl], fun f hf => ?_⟩
    obtain ⟨j, hj⟩ := List.mem_iff_getElem?.1 hf
    have := v3 j f hj
    rwa [← k3 j f hj] at this
   ·cases h
  ·
   rename_i cs _ _ m e
   split at h
   ·rename_i hl
    simp only [Option.map_eq_some_iff] at h
    obtain ⟨xs, hxs, _⟩ := h
    obtain ⟨k1, k2⟩ := K.array ht hu
    have hsum : ∀ (l : List Nat), (l.map fun _ => P.cellsOf e).sum = l.length * P.cellsOf e := by
     intro l
     induction l with
     | nil => simp
     | cons a l ih => simp only [List.map_cons, List.sum_cons, ih, List.length_cons, Nat.add_mul, Nat.one_mul]; omega
    have htk : ∀ j, j ≤ m → (((List.range m).take j).map fun _ => P.cellsOf e).sum = j * P.cellsOf e := fun j hj => by
     rw [hsum, List.length_take, List.length_range, Nat.min_eq_left hj]
    obtain ⟨vs, v1, v2, v3⟩ := tile (m := zn W g0) (fun _ : Nat => P.cellsOf e) (fun _ vs => Shp P n e vs) (List.range m) cs (by rw [hl, k2, hsum, List.length_range]) (fun j i hi => by
     have hjl : j < m := by have := (List.getElem?_eq_some_iff.1 hi).1; simpa using this
     have hij : i = j := by simp [hjl] at hi; exact hi.symm
     subst hij
     obtain ⟨y, hy⟩ := zkp hxs i (by simpa using hjl)
     obtain ⟨vs, w1, _, w3⟩ := ih _ _ _ k1 hy
     rw [htk i (Nat.le_of_lt hjl)]
     exact ⟨vs, w1, w3⟩)
    refine ⟨vs, v1, v2, ?_⟩
    simp only [Shp, hu]
    refine ⟨by rw [v2, hl], fun i hi => ?_⟩
    have := v3 i i (by simp [hi])
    rwa [htk i (Nat.le_of_lt hi)] at this
   ·cases h
  ·cases h
end Go.Ab
namespace Go.Ab
open Go.RowKit Go.ChangeShapes Go.WideShapes
variable {H : Type} {enc : TypeId × Value → H} {P : Program} {W : World}
def zgz (P : Program) (t : TypeId) (v : V) : Prop :=
 match P.underlying t with
 | some (.struct _) | some (.array _ _) => ∃ n vs, v = .agg vs ∧ Shp P n t vs
 | some .bool | some (.int _) | some .string | some (.slice _) => ∃ n, Shp P n t [v]
 | _ => True
def zhm (P : Program) : List TypeId → List V → Prop
 | [], vs => vs = []
 | t :: ts, vs => ∃ v l, vs = v :: l ∧ zgz P t v ∧ zhm P ts l
theorem zui (K : Kids P (· < P.types.size)) (hz : ∀ t e, t < P.types.size → P.underlying t = some (.slice e) → 0 < P.cellsOf e) {base : Nat} {sp : Nat → Bool} {hd : Bool} {t : TypeId} {c : Value} {d : DataW H} {p : List MemPlace}
    (ht : t < P.types.size) (hok : Value.okWide P W .any base t c) (T : DataW.Trod enc P W 0 sp hd t c d p) : ∃ v, VR v (zn W g0) c ∧ zgz P t v := by
  obtain ⟨n, h⟩ := T
  obtain ⟨vs, h1, h2, h3⟩ := zti K hz n t _ _ ht h
  have single : (∀ cs, c ≠ .agg cs) → ∃ v, vs = [v] ∧ VR v (zn W g0) c := by
    intro hne
    have hc : c.cells = #[c] := by
      cases c <;> first | rfl | exact absurd rfl (hne _)
    rw [hc] at h1 h2
    match vs, h2 with
    | [v], _ =>
      simp only [VRl] at h1
      obtain ⟨c', cs', e, h4, _⟩ := h1
      cases e
      exact ⟨v, rfl, h4.1⟩
  unfold Value.okWide at hok
  unfold zgz
  split at hok
  all_goals first
    | (rename_i hu
       obtain ⟨cs, rfl, _⟩ := hok
       simp only [hu]
       refine ⟨.agg vs, ?_, n, vs, rfl, h3⟩
       simp only [VR]
       exact ⟨cs.toList, rfl, h1⟩)
    | skip
  split
  · rename_i h _ _ _ hu; exact absurd hu (by intro e; exact h _ e)
  · rename_i h _ _ _ hu; exact absurd hu (by intro e; simp_all)
  all_goals first
    | (rename_i hu
       obtain ⟨v, rfl, hv⟩ := single (by
         rintro cs rfl
         simp [Cell.okWide, Cell.ok, hu] at hok)
       exact ⟨v, hv, n, h3⟩)
    | exact ⟨.undef, by simp only [VR], trivial⟩
theorem zn6 (K : Kids P (· < P.types.size)) (hz : ∀ t e, t < P.types.size → P.underlying t = some (.slice e) → 0 < P.cellsOf e) {base : Nat} {sp : Nat → Bool} {hd : Bool} : ∀ {ts : List TypeId} {cs : List Value} {ds : List (DataW H)} {p : List MemPlace},
  (∀ t ∈ ts, t < P.types.size) → (∀ (j : Nat) t v, ts[j]? = some t → cs[j]? = some v → Value.okWide P W .any base t v) → DataW.TrodAll enc P W 0 sp hd ts cs ds p → ∃ vs, VRs vs (zn W g0) cs ∧ zhm P ts vs
 | [], _, _, _, _, _, h => by
  obtain ⟨rfl, rfl, rfl⟩ := trodAll_nil h
  exact ⟨[], by simp only [VRs], rfl⟩
 | t :: ts, _, _, _, ht, hv, h => by
  obtain ⟨v, vs, d, ds, p, q, rfl, rfl, rfl, h1, h2⟩ := trodAll_cons h
  obtain ⟨u, u1, u2⟩ := zui K hz (ht t (by simp)) (hv 0 t v rfl rfl) h1
  obtain ⟨us, w1, w2⟩ := zn6 K hz (fun t' h' => ht t' (by simp [h'])) (fun j t' v' a b => hv (j + 1) t' v' (by simpa using a) (by simpa using b)) h2
  exact ⟨u :: us, by simp only [VRs]; exact ⟨v, vs, rfl, u1, w1⟩, u, us, rfl, u2, w2⟩
theorem zmx (hl : laidOutB P = true) {W' : World} {sp : Nat → Bool} : ∀ {ts : List TypeId} {cs : List Value} {ds : List (DataW H)} {p : List MemPlace}, (∀ t ∈ ts, P.readableRec t = true ∧ t < P.types.size) →
  DataW.TrodAll enc P W 0 (fun _ => true) true ts cs ds p → (∀ x ∈ p, W.sameAt W' x) → (∀ x ∈ p, sp x.block = true) → DataW.TrodAll enc P W' 0 sp true ts cs ds p
 | [], _, _, _, _, h, _, _ => by
  obtain ⟨rfl, rfl, rfl⟩ := trodAll_nil h
  exact trodAll_mk0
 | t :: ts, _, _, _, ht, h, hs, hp => by
  obtain ⟨v, vs, d, ds, p, q, rfl, rfl, rfl, h1, h2⟩ := trodAll_cons h
  exact ⟨p, q, WideElems.Trod_stays hl (ht t (by simp)).1 (ht t (by simp)).2 h1 (fun x hx => hs x (by simp [hx])) (fun x hx => hp x (by simp [hx])),
   zmx hl (fun t' h' => ht t' (by simp [h'])) h2 (fun x hx => hs x (by simp [hx])) (fun x hx => hp x (by simp [hx])), rfl⟩
theorem zn7 {G : Cfg} (hGP : G.P = P) {fn : Func} {f : FuncId} {s : ChangeSpec} {tb : TypeId} {apart fresh handsOn again : Bool}
  (hl : laidOutB P = true) (hm : mapsRowed P = true) (hz : ∀ t e, t < P.types.size → P.underlying t = some (.slice e) → 0 < P.cellsOf e)
  (hts : ∀ t ∈ fn.params.toList, P.readableRec t = true ∧ t < P.types.size)
  (hv : s.vars = []) (hs : ∀ ds : List (DataW H), ds.length = fn.params.size → s.fn H ds = { results := [.lit (.bool true)], args := ds })
  (hr : fn.resultTypes = #[tb]) (hb : P.underlying tb = some .bool)
  (law : ∀ vs, zhm P fn.params.toList vs → zk2 G (.func f) vs (.bool true))
  (W : World) (hG : zcg G W g0) (base : Nat) (args : Array Value) (ds gs : List (DataW H)) (zap : List MemPlace)
  (hval : ∀ (j : Nat) t v, fn.params[j]? = some t → args[j]? = some v → Value.okWide P W .any base t v)
  (hW : DataW.Whole enc P fn.params.toList s.vars apart W args.toList ds gs zap) :
  Calls P f args W fun e W' => ∃ v, e = .returned v ∧ s.post enc P fn apart fresh handsOn again W args v W' := by
 subst hGP
 have hW' := hW
 obtain ⟨p, q, hA, hV, rfl, hfz, hnd⟩ := hW
 rw [hv] at hV
 obtain ⟨rfl, rfl⟩ := trodVars_none hV
 obtain ⟨vs, a1, a2⟩ := zn6 (base := base) (kids_rows hl hm) hz (fun t ht => (hts t ht).2) (fun j t v a b => hval j t v (by simpa using a) (by simpa using b)) hA
 obtain ⟨f', hf', _, hc⟩ := law vs a2
 cases hf'
 have hlen : ds.length = fn.params.size := by
  have : ∀ {ts : List TypeId} {cs : List Value} {ds : List (DataW H)} {p : List MemPlace}, DataW.TrodAll enc G.P W 0 (fun _ => true) true ts cs ds p → ds.length = ts.length := by
   intro ts
   induction ts with
   | nil => intro _ _ _ h; obtain ⟨rfl, rfl, rfl⟩ := trodAll_nil h; rfl
   | cons t ts ih =>
    intro _ _ _ h
    obtain ⟨v, vs, d, ds, p, q, rfl, rfl, rfl, h1, h2⟩ := trodAll_cons h
    simp [ih h2]
  simpa using this hA
 refine (hc W g0 args.toList (wf0 W) hG a1).mono fun e W' ⟨c, g', he, wf', _, hx, hvr⟩ => ?_
 subst he
 simp only [VR] at hvr
 subst hvr
 have hbl : Below W.heap.size W W' := ⟨hx.os, hx.tape, hx.output, hx.size, fun k hk => (hx.keep k hk (fun p hp => by simp [g0] at hp)).1⟩
 have hlt : ∀ x ∈ p, x.block < W.heap.size := fun x hx => hW'.lt x (by simpa using hx)
 have efn : s.fn H (ds ++ []) = { results := [.lit (.bool true)], args := ds } := by rw [List.append_nil]; exact hs ds hlen
 have hone : ∀ (b : Nat) (sp : Nat → Bool) (hd : Bool), DataW.Trod enc G.P W' b sp hd tb (.bool true) (.lit (.bool true)) [] := fun b sp hd => shut_bool hb true
 have hres : ∀ (b : Nat) (sp : Nat → Bool) (hd : Bool), DataW.TrodAll enc G.P W' b sp hd fn.resultTypes.toList ((Value.bool true).resultList fn.resultTypes.size) (s.fn H (ds ++ [])).results [] := fun b sp hd => by
  rw [efn, hr]
  exact trodAll_cons_mk (hone b sp hd) trodAll_mk0
 have hargs : ∀ sp : Nat → Bool, (∀ x ∈ p, sp x.block = true) → DataW.TrodAll enc G.P W' 0 sp true fn.params.toList args.toList (s.fn H (ds ++ [])).args p := fun sp hsp => by
  rw [efn]
  exact zmx hl hts hA (fun x hx => hbl.same (hlt x hx)) hsp
 have hvars : ∀ sp : Nat → Bool, DataW.TrodVars enc G.P W' sp s.vars (s.fn H (ds ++ [])).vars [] := fun sp => by
  rw [efn, hv]; rfl
 have hz' : W'.noneFrozen (p ++ []) := fun b o hb => by
  rw [hbl.frozen (hlt _ (by simpa using hb))]
  exact hfz b o hb
 refine ⟨_, rfl, ds, [], p ++ [], [], p, [], hW', hres _ _ _, hargs _ (fun x hx => by simpa using hlt x hx), hvars _, hbl.frame _, fun _ => ⟨ok_one hr rfl (okWide_bool_mk hb true), _, _, ([] ++ p) ++ [], ⟨[] ++ p, [], trodAll_append (hargs _ fun _ _ => rfl) (hres _ _ _), hvars _, rfl, ?_, fun ha => ?_⟩, fun x hx _ => by simpa using hx⟩⟩
 ·simpa using hz'
 ·simpa using hnd ha
end Go.Ab
namespace Go.Ab
def zgA : List V → Option (List Int)
 | [] => some []
 | .int .u8 n :: l => (zgA l).map (n :: ·)
 | _ :: _ => none
def zet : List (List V) → Option (List (List Int))
 | [] => some []
 | r :: l => (zgA r).bind fun b => (zet l).map (b :: ·)
def zfJ : List Int → List Int → Int
 | [], [] => 0
 | [], _ :: _ => -1
 | _ :: _, [] => 1
 | a :: l, b :: r => if a < b then -1 else if b < a then 1 else zfJ l r
def zlj (k : List Int) : List (List Int) → List (List Int)
 | [] => [k]
 | x :: l => if zfJ k x < 0 then k :: x :: l else x :: zlj k l
def zfi (l : List (List Int)) : List (List Int) := l.foldr zlj []
def zcD (l : List Int) : List V := l.map (.int .u8)
def zjr (fo : FuncId) : V → Bool
 | .fn (.func f) [] [] => Nat.beq f fo
 | _ => false
def zlk (fk : FuncId) (h : List Ob) : V → Option (List (List V × List V))
 | .fn (.func f) [] [.ptr b 0] => match Nat.beq f fk, zav h b with
  | true, some (.cells [.map id]) => match zav h id with
   | some (.map true false 6 es) => some es
   | _ => none
  | _, _ => none
 | _ => none
def zgB (fk fo : FuncId) : List V → List Ob → Option (V × List Ob)
 | [k, o], h => match zjr fo o with
  | true => (zlk fk h k).bind fun es => (zet (es.map (·.1))).bind fun ks => if decide (ks.length < 1000000) = true ∧ (∀ k ∈ ks, k.length = 6 ∧ ∀ n ∈ k, 0 ≤ n ∧ n < 256) then some (.slice .any ((zfi ks).map zcD), h) else none
  | false => none
 | _, _ => none
def zrJ (n : Nat) (rows : List (List V)) : Bool := rows.all fun r => Nat.beq r.length n
def zhn : List V → List Ob → Option (V × List Ob)
 | [.slice _ rows], h => if zrJ 7 rows = true ∧ rows.length < 1000000 then some (.arr h.length rows.length 7, h ++ [.arr true 7 rows]) else none
 | _, _ => none
end Go.Ab
