/- Appends; conditions: none. -/
import Derived.Great.BuildSlice
import Derived.MapKept
import Derived.WideKeyRuns
import Derived.Carry
import Derived.RangeFuncRecord
import Derived.Test.YtpalbaaghplhnaaGreatDoorG2
set_option linter.unusedVariables false
set_option linter.unusedSimpArgs false
namespace Go.Ab
variable {act hn : Nat} {s s' : St} {a : Act} {w : World} {g : Gh} {P : Program} {F : Fence} {n : Nat} {o : Oper}
theorem SR.pushArr (h : SR act hn s a w g) {sz : Nat} (hsz : 0 < sz) : SR act hn ⟨s.t, s.h ++ [.arr true sz []]⟩ a w { g with J := g.J ++ [(0, some 0)] } ∧
  Ext (zbd act hn) w g w { g with J := g.J ++ [(0, some 0)] } := by
 have hJ : ∀ (id : Nat) (y : Nat × Option Nat), g.J[id]? = some y → (g.J ++ [(0, some 0)])[id]? = some y := fun id y hy => by
  rw [List.getElem?_append_left (List.getElem?_eq_some_iff.1 hy).1]; exact hy
 let g' : Gh := { g with J := g.J ++ [(0, some 0)] }
 have le' : (zn w g).le (zn w g') := ⟨fun _ _ _ x => x, fun _ _ x => x, fun id b x => hJ id _ x, fun id b l x => ⟨b, l, hJ id _ x, Nat.le_refl _, fun _ => rfl⟩⟩
 refine ⟨?_, ⟨Nat.le_refl _, fun _ _ _ => ⟨rfl, rfl, rfl⟩, le', Nat.le_refl _, rfl, rfl, rfl, Nat.le_refl _⟩⟩
 refine { wf := ⟨h.wf.new, h.wf.inj, h.wf.nx⟩, size := h.size, tmp := ?_, jl := by simp [h.jl], obj := ?_, dfr := h.dfr, an := h.an, hm := h.hm }
 ·intro i v hv
  obtain ⟨c, hc, ht⟩ := h.tmp i v hv
  exact ⟨c, hc, ht.frame le' fun _ _ _ => ⟨rfl, rfl, rfl⟩⟩
 ·intro id ob hob
  by_cases hid : id < s.h.length
  ·rw [List.getElem?_append_left hid] at hob
   refine (h.obj id ob hob).frame ?_ le' fun _ _ => ⟨rfl, rfl, rfl⟩
   exact List.getElem?_append_left (by rw [h.jl]; exact hid)
  ·have : id = s.h.length := by
    have := (List.getElem?_eq_some_iff.1 hob).1
    simp at this; omega
   subst this
   simp at hob; subst hob
   exact ⟨0, by simp [h.jl], hsz, fun e => absurd rfl e⟩
theorem zaO.one {m : Mem} {rows : List (List V)} {sz : Nat} {cells : List Value} (h : zaO m rows sz cells) (h0 : 0 < sz) {x : Nat} (hx : x < rows.length * sz) : ∃ c, cells[x]? = some c ∧ Ab.one c = true := by
 have hi : x / sz < rows.length := Nat.div_lt_of_lt_mul (by rw [Nat.mul_comm]; exact hx)
 obtain ⟨g1, g2⟩ := h (x / sz) rows[x / sz] (List.getElem?_eq_getElem hi)
 have hj : x % sz < rows[x / sz].length := by rw [g1]; exact Nat.mod_lt _ h0
 obtain ⟨c, c1, c2, c3⟩ := g2 (x % sz) _ (List.getElem?_eq_getElem hj)
 refine ⟨c, ?_, c3⟩
 rw [show x / sz * sz + x % sz = x by rw [Nat.mul_comm]; exact Nat.div_add_mod x sz] at c1
 exact c1
theorem VRr.cells {rows : List (List V)} {m : Mem} {b off sz : Nat} (h : VRr rows m b off sz) (h0 : 0 < sz) :
  ∃ news : List Value, news.length = rows.length * sz ∧ (∀ j c, news[j]? = some c → m.M b (off + j) = some c) ∧ (∀ c ∈ news, one c = true) ∧ zaO m rows sz news := by
 have hall : ∀ x, x < rows.length * sz → ∃ c, m.M b (off + x) = some c ∧ one c = true := fun x hx => by
  have hi : x / sz < rows.length := Nat.div_lt_of_lt_mul (by rw [Nat.mul_comm]; exact hx)
  obtain ⟨g1, g2⟩ := VRr.get _ h (x / sz) rows[x / sz] (List.getElem?_eq_getElem hi)
  have hj : x % sz < rows[x / sz].length := by rw [g1]; exact Nat.mod_lt _ h0
  obtain ⟨c, c1, c2, c3⟩ := VRc.get _ g2 (x % sz) _ (List.getElem?_eq_getElem hj)
  refine ⟨c, ?_, c3⟩
  rw [Nat.add_assoc, show x / sz * sz + x % sz = x by rw [Nat.mul_comm]; exact Nat.div_add_mod x sz] at c1
  exact c1
 let news : List Value := (List.range (rows.length * sz)).map fun j => (m.M b (off + j)).getD Go.undef
 have hn : ∀ j, j < rows.length * sz → news[j]? = some ((m.M b (off + j)).getD Go.undef) := fun j hj => by simp [news, hj]
 refine ⟨news, by simp [news], fun j c hj => ?_, fun c hc => ?_, fun i r hi => ?_⟩
 ·have hjl : j < rows.length * sz := by have := (List.getElem?_eq_some_iff.1 hj).1; simpa [news] using this
  obtain ⟨d, d1, _⟩ := hall j hjl
  rw [hn j hjl, d1] at hj
  cases hj; exact d1
 ·obtain ⟨j, hj, rfl⟩ := List.mem_iff_getElem.1 hc
  have hjl : j < rows.length * sz := by simpa [news] using hj
  obtain ⟨d, d1, d2⟩ := hall j hjl
  have := hn j hjl
  rw [List.getElem?_eq_getElem hj, d1] at this
  cases this; exact d2
 ·obtain ⟨g1, g2⟩ := VRr.get _ h i r hi
  refine ⟨g1, fun j v hv => ?_⟩
  obtain ⟨c, c1, c2, c3⟩ := VRc.get _ g2 j v hv
  have hil := (List.getElem?_eq_some_iff.1 hi).1
  have hjl := (List.getElem?_eq_some_iff.1 hv).1
  have : i * sz + j < rows.length * sz := by
   have : (i + 1) * sz ≤ rows.length * sz := Nat.mul_le_mul_right _ hil
   rw [Nat.add_mul] at this; omega
  refine ⟨c, ?_, c2, c3⟩
  rw [hn _ this, ← Nat.add_assoc, c1]; rfl
theorem znD {h : List Ob} {v : V} {rows : List (List V)} (e : zcW h v some = some rows) : (∃ fl, v = .slice fl rows) ∨ ∃ id len sz wr sz', v = .arr id len sz ∧ h[id]? = some (.arr wr sz' rows) ∧ len = rows.length := by
 unfold zcW at e
 split at e
 ·cases e; exact .inl ⟨_, rfl⟩
 ·rename_i id len sz
  rw [zdi] at e
  obtain ⟨wr, sz', h1, h2⟩ := zgr e
  exact .inr ⟨id, len, sz, wr, sz', rfl, h1, h2⟩
 ·cases e
theorem zih {R : Type} (h : List Ob) (v : V) (k : List (List V) → Option R) : zcW h v k = (zcW h v some).bind k := by
 unfold zcW
 split
 ·rfl
 ·rw [zdi]
 ·rfl
theorem zg1 {sz : Nat} {rows : List (List V)} (h : zaN sz rows = true) : ∀ r, rows[0]? = some r → r.length = sz := by
 intro r hr
 cases rows with
 | nil => simp at hr
 | cons x l => simp at hr; subst hr; exact Nat.eq_of_beq_eq_true h
theorem src_ok (h : SR act hn s a w g) {v : V} {c : Value} (hv : VR v (zn w g) c) {rows : List (List V)} (hr : zcW s.h v some = some rows) {sz : Nat} (h0 : 0 < sz) (hh : zaN sz rows = true) {tx e : TypeId} (hk : P.underlying tx = some (.slice e)) :
  ∃ news, Src P sz tx c rows.length news w ∧ zaO (zn w g).alone rows sz news := by
 have hemp : rows = [] → ∀ {ad : Option Addr} {cap : Nat}, c = .slice ad 0 cap → ∃ news, Src P sz tx c rows.length news w ∧ zaO (zn w g).alone rows sz news := by
  intro e1 ad cap e2
  subst e1; subst e2
  refine ⟨[], ?_, fun i r hi => by simp at hi⟩
  cases ad with
  | none => exact Src.ofNil w hk cap
  | some ad => exact Src.ofSlice w hk ad 0 cap [] (by simp) (fun j u hu => by simp at hu) (by simp)
 rcases znD hr with ⟨fl, rfl⟩ | ⟨id, len, sz1, wr, sz', rfl, ho, hlen⟩
 ·simp only [VR] at hv
  obtain ⟨ad, cap, h1, h2, h3, h4, h5⟩ := hv
  by_cases hne : rows = []
  ·subst hne; exact hemp rfl h1
  ·obtain ⟨b, off, sz', k1, k2⟩ := h5 hne
   have hsz : sz' = sz := by
    cases rows with
    | nil => exact absurd rfl hne
    | cons r rows => rw [← zg1 hh r rfl]; exact ((VRr.get _ k2 0 r rfl).1).symm
   subst hsz
   obtain ⟨news, n1, n2, n3, n4⟩ := k2.cells h0
   subst h1; subst k1
   refine ⟨news, Src.ofSlice w hk _ _ _ _ n1 (fun j u hu => ?_) (fun u hu => by rw [znx]; exact n3 u hu), n4⟩
   rw [zbn]
   exact zhL (g := g) (n2 j u hu)
 ·simp only [VR] at hv
  obtain ⟨ad, cap, b, l, h1, h2, h3, h4, h5, h6, h7⟩ := hv
  by_cases hne : rows = []
  ·subst hne; simp at hlen; subst hlen; exact hemp rfl h2
  ·obtain ⟨b', cells, e', k1, k2, k3, k4, k5, k6⟩ := zgq (h.obj id _ ho) hne
   have h1' : g.J[id]? = some (b, some l) := h1
   rw [h1'] at k1; cases k1
   have hsz : sz' = sz := by
    cases rows with
    | nil => exact absurd rfl hne
    | cons r rows => rw [← zg1 hh r rfl]; exact ((k4 0 r rfl).1).symm
   subst hsz
   have hl0 : len ≠ 0 := by intro e; rw [e] at hlen; exact hne (List.length_eq_zero_iff.1 hlen.symm)
   obtain ⟨q1, _⟩ := h7 hl0 hlen.symm
   subst h2; subst q1; subst hlen
   have hcut := k4.cut
   refine ⟨cells.toList.take (rows.length * sz'), Src.ofSlice w hk _ _ _ _ (by simp only [List.length_take, Array.length_toList]; simp at hcut; omega) (fun j u hu => ?_) (fun u hu => ?_), k4.congr fun x hx => by rw [List.getElem?_take, if_pos hx]⟩
   ·rw [zbn, zcX, k3]
    rw [List.getElem?_take] at hu
    split at hu
    ·simpa [zca] using hu
    ·cases hu
   ·rw [znx]
    obtain ⟨j, hj, rfl⟩ := List.mem_iff_getElem.1 hu
    have hjl : j < rows.length * sz' := by simp at hj; omega
    obtain ⟨d, d1, d2⟩ := k4.one h0 hjl
    simp only [List.getElem_take]
    rw [List.getElem?_eq_some_iff] at d1
    obtain ⟨_, d1⟩ := d1
    rw [d1]; exact d2
theorem zmZ (t tx ty e : TypeId) (i : TypeInfo) (ht : P.underlying t = some (.slice e)) (hi : P.info? e = some i) {b sLen sCap : Nat} {cur : Array Value} {e' : TypeId} (hb : w.heap[b]? = some (.cells cur e' (0, 0))) (x : Value) (m : Nat) (news : List Value)
  (hs : Src P i.size tx x m news w) (hroom : sLen + m ≤ sCap) (hfit : sLen * i.size + news.length ≤ cur.size) :
  (Builtin.append_ #[t, tx] ty #[.slice (some ⟨b, 0, none⟩) sLen sCap, x]).run P w =
   .ok (.slice (some ⟨b, 0, none⟩) (sLen + m) sCap) (w.setRow b (cur.toList.take (sLen * i.size) ++ news ++ cur.toList.drop (sLen * i.size + news.length)).toArray) := by
 have hst := run_storeCells_at P b (sLen * i.size) e' news 0 cur w hb (by simpa using hfit) hs.one
 simp only [Nat.add_zero] at hst
 rcases hs.kind with ⟨e', hk⟩ | hk <;> simp [Builtin.append_, run_underlying ht, run_underlying hk, sizeOf, typeInfo, hi, hs.len, hroom, hs.cells, Addr.add_lit, hst]
theorem zq7 (l : List Ob) (i : Nat) (ob : Ob) (h : l[i]? = some ob) : zah l i ob = l := by
 rw [zdZ]
 apply List.ext_getElem?
 intro j
 rw [List.getElem?_set]
 split
 ·rename_i e; subst e
  split
  ·exact h.symm
  ·rename_i hl; rw [List.getElem?_eq_none (by omega)]
 ·rfl
theorem zq8 (h : SR act hn s a w g) {t t' ty e : TypeId} {sz b : Nat} (hs : zaW P t = some (e, sz, b)) {q : TypeId × Nat × Nat} (hs' : zaW P t' = some q) {z : List V} (hz : zeroCells P e = some z) (hzl : z.length = sz) (h0 : 0 < sz) (hb : 0 < b)
  {x y : V} {cx cy : Value} (hx : VR x (zn w g) cx) (hy : VR y (zn w g) cy) {v' : V} {h' : List Ob} (ha : zbL s sz b x y (fun v h => some (v, h)) = some (v', h')) :
  ∃ c w' g', (Builtin.append_ #[t, t'] ty #[cx, cy]).run P w = .ok c w' ∧ SR act hn ⟨s.t, h'⟩ a w' g' ∧ Ext (zbd act hn) w g w' g' ∧ VR v' (zn w' g') c := by
 obtain ⟨i, ht, hi, hsz, hbb⟩ := zdb hs
 obtain ⟨e', sz', b'⟩ := q
 obtain ⟨i', ht', _⟩ := zdb hs'
 obtain ⟨iz, zv, hiz, hzv, hzr⟩ := zbO hz (zn w g)
 rw [hi] at hiz; cases hiz
 have hzs : zv.cells.size = sz := by have := VRl.length _ hzr; simp at this; omega
 subst hsz
 unfold zbL at ha
 rw [zih] at ha
 cases hnew : zcW s.h y some with
 | none => rw [hnew] at ha; cases ha
 | some new =>
 rw [hnew, Option.bind_some] at ha
 have ha2 := ha
 cases hhd : zaN i.size new with
 | false => rw [hhd] at ha2; cases ha2
 | true =>
 rw [hhd] at ha2
 simp only [cond_true] at ha2
 obtain ⟨news, hsrc, hrows⟩ := src_ok h hy hnew h0 hhd ht'
 have hnl := hsrc.newsLen
 have hgrow : ∀ (sLen cap : Nat), cap < sLen + new.length → (sLen + new.length) * b ≤ zag → ∀ (base : Option Addr) (olds : List Value), (Builtin.firstCells i.size sLen (.slice base sLen cap)).run P w.drew = .ok olds.toArray w.drew → olds.length = sLen * i.size →
   ∃ (C : Nat) (cells : Array Value), sLen + new.length ≤ C ∧ (Builtin.append_ #[t, t'] ty #[.slice base sLen cap, cy]).run P w = .ok (.slice (some ⟨w.heap.size, 0, none⟩) (sLen + new.length) C) (w.drew.alloc (.cells cells e)) ∧
    cells.toList = olds ++ news ++ cells.toList.drop ((sLen + new.length) * i.size) ∧ C * i.size ≤ cells.size := by
  intro sLen cap hlt hroom base olds hold holds
  have hbyt : (sLen + new.length) * i.bytes ≤ 140737488355328 := by rw [hbb]; exact hroom
  have hle : sLen + new.length ≤ (sLen + new.length) * b := Nat.le_mul_of_pos_right _ hb
  have h63 : ((sLen + new.length : Nat) : Int) ≤ 9223372036854775807 := by simp only [zag] at hroom; omega
  have hrun := run_append_grow_src (P := P) w t t' ty e i zv ht hi hzv base sLen cap olds hold cy new.length news hsrc hlt h63 (growslice_fits hlt hbyt)
  have hge := grownCap_ge w (sLen + new.length) cap e
  refine ⟨_, _, hge, hrun, ?_, ?_⟩
  ·simp only [Array.toList_append, List.append_assoc]
   rw [← List.append_assoc, List.drop_left' (by simp [holds, hnl, Nat.add_mul]), List.append_assoc]
  ·simp only [Array.size_append, List.size_toArray, List.length_append, size_zeroCells, hzs, holds, hnl, ← Nat.add_mul]
   exact Nat.mul_le_mul_right _ (by omega)
 have fresh : ∀ {ad : Option Addr} {cap : Nat}, cx = .slice ad 0 cap → cap = 0 → (ad = none → cap = 0) →
   cond (decide (new.length * b ≤ zag)) (some (V.arr s.h.length new.length i.size, s.h ++ [.arr true i.size new])) none = some (v', h') →
   ∃ c w' g', (Builtin.append_ #[t, t'] ty #[cx, cy]).run P w = .ok c w' ∧ SR act hn ⟨s.t, h'⟩ a w' g' ∧ Ext (zbd act hn) w g w' g' ∧ VR v' (zn w' g') c := by
  intro ad cap hcx hcap hnone hk
  subst hcap; subst hcx
  cases hroom : decide (new.length * b ≤ zag) with
  | false => rw [hroom] at hk; cases hk
  | true =>
  rw [hroom] at hk
  simp only [cond_true] at hk
  cases hk
  have hroom' := of_decide_eq_true hroom
  by_cases hne : new = []
  ·subst hne
   have hn0 : news = [] := List.eq_nil_of_length_eq_zero (by simpa using hnl)
   subst hn0
   have hrun := run_append_nothing (P := P) w t t' ty e i ht hi ad 0 0 (Nat.le_refl _) cy hsrc
   obtain ⟨s1, s2⟩ := h.pushArr h0
   refine ⟨_, _, _, hrun, s1, s2, ?_⟩
   simp only [VR]
   refine ⟨ad, 0, 0, 0, ?_, rfl, Nat.le_refl _, Nat.le_refl _, fun _ => rfl, fun _ => rfl, fun e => absurd rfl e⟩
   show (g.J ++ [(0, some 0)])[s.h.length]? = _
   rw [← h.jl]; simp
  ·have hpos : 0 < new.length := List.length_pos_iff.2 hne
   obtain ⟨C, cells, hC, hrun, hcells, hsz⟩ := hgrow 0 0 (by omega) (by simpa using hroom') ad [] (by cases ad with | none => exact run_firstCells_none _ _ _ _ _ | some ad => exact run_firstCells_some _ _ _ _ _ _ [] (by simp) (fun j u hu => by simp at hu)) (by simp)
   simp only [Nat.zero_add] at hC hrun hcells
   have hd := h.drew
   obtain ⟨s1, s2⟩ := hd.allocOb (o := .cells cells e) (ob := .arr true i.size new) (some new.length) (fun g' hg' le' => by
    subst hg'
    refine zkO (b := w.heap.size) (cells := cells) (e := e) ?_ h0 ?_ ?_ ?_ ?_ ?_
    ·show (g.J ++ [(w.heap.size, some new.length)])[s.h.length]? = _
     rw [← h.jl]; simp
    ·simp [Gh.grab]
    ·show (w.drew.alloc (.cells cells e)).heap[w.heap.size]? = _
     exact (zao w.drew (.cells cells e) w.heap.size).trans (if_pos rfl)
    ·refine zaO.mono ?_ le'.alone
     refine hrows.congr fun x hx => ?_
     rw [hcells, List.nil_append, List.getElem?_append_left (by omega)]
    ·simp [Gh.grab]
    ·simp [Gh.grab])
   refine ⟨_, _, _, hrun, s1, (Ext.drew _ w g).trans s2, ?_⟩
   simp only [VR]
   refine ⟨_, C, w.heap.size, new.length, ?_, rfl, hC, Nat.le_refl _, (fun e => by cases e), (fun e => by omega), fun _ _ => ⟨rfl, cells.size, ?_, hsz⟩⟩
   ·show (g.J ++ [(w.heap.size, some new.length)])[s.h.length]? = _
    rw [← h.jl]; simp
   ·simp only [zn]
    rw [show (w.drew.alloc (.cells cells e)).heap[w.heap.size]? = _ from (zao w.drew (.cells cells e) w.heap.size).trans (if_pos rfl)]
    rfl
 unfold zeJ at ha2
 split at ha2
 ·simp only [VR] at hx
  obtain ⟨ad, cap, h1, h2, h3, h4, _⟩ := hx
  exact fresh h1 h3.2 h4 ha2
 ·simp only [VR] at hx
  obtain ⟨ad, cap, h1, h2, h3, h4, _⟩ := hx
  exact fresh h1 h3 h4 ha2
 ·rename_i id len sz1
  split at ha2
  ·rename_i wr q rows hob
   cases hq : (Nat.beq i.size sz1 && Nat.beq i.size q) with
   | false => rw [hq] at ha2; cases ha2
   | true =>
   rw [hq] at ha2
   simp only [Bool.and_eq_true] at hq
   have q1 := Nat.eq_of_beq_eq_true hq.1
   have q2 := Nat.eq_of_beq_eq_true hq.2
   subst q1
   have hob2 : zav s.h id = some (.arr wr i.size rows) := by rw [hob, q2]
   clear hob
   simp only [ifK] at ha2
   cases hl : decide (len = rows.length) with
   | false => rw [hl] at ha2; cases ha2
   | true =>
   rw [hl] at ha2
   simp only [cond_true] at ha2
   cases hroom : decide ((rows.length + new.length) * b ≤ zag) with
   | false => rw [hroom] at ha2; cases ha2
   | true =>
   rw [hroom] at ha2
   simp only [cond_true] at ha2
   cases ha2
   have hlen := of_decide_eq_true hl
   have hroom' := of_decide_eq_true hroom
   subst hlen
   simp only [VR] at hx
   obtain ⟨ad, cap, bb, l, hJ, hcx, hcap, hll, hnone, hzero, hfull⟩ := hx
   have hJ' : g.J[id]? = some (bb, some l) := hJ
   have hob3 := hob2
   rw [zaG] at hob3
   have hlr : l = rows.length := by
    obtain ⟨b2, k1, _⟩ := h.obj id _ hob3
    rw [hJ'] at k1; cases k1; rfl
   subst hlr
   by_cases hne : new = []
   ·subst hne
    have hn0 : news = [] := List.eq_nil_of_length_eq_zero (by simpa using hnl)
    subst hn0
    subst hcx
    have hrun := run_append_nothing (P := P) w t t' ty e i ht hi ad rows.length cap hcap cy hsrc
    refine ⟨_, w, g, hrun, ?_, Ext.refl _ _ _, ?_⟩
    ·rw [List.append_nil, zq7 _ _ _ hob3]; exact h
    ·simp only [VR, List.length_nil, Nat.add_zero]
     exact ⟨ad, cap, bb, _, hJ, rfl, hcap, hll, hnone, hzero, hfull⟩
   ·have hpos : 0 < new.length := List.length_pos_iff.2 hne
    by_cases hin : rows.length + new.length ≤ cap
    ·
     have hr0 : rows.length ≠ 0 := by intro e; have := hzero e; omega
     have hrne : rows ≠ [] := by intro e; subst e; simp at hr0
     obtain ⟨q1, N, q2, q3⟩ := hfull hr0 rfl
     subst q1; subst hcx
     obtain ⟨b2, cs, e2, k1, k2, k3, k4, k5, k6⟩ := zgq (h.obj id _ hob3) hrne
     rw [hJ'] at k1; cases k1
     have hN : N = cs.size := by
      simp only [zn] at q2
      rw [k3] at q2
      simp only [zds] at q2
      cases q2; rfl
     subst hN
     obtain ⟨s1, s2, s3⟩ := h.appendIn hob2 hrne hrows hnl hne hJ' k3 hin q3
     have hfit : rows.length * i.size + news.length ≤ cs.size := by
      have := Nat.mul_le_mul_right i.size hin
      rw [Nat.add_mul] at this; omega
     have hrun := zmZ (P := P) t t' ty e i ht hi (sLen := rows.length) (sCap := cap) k3 cy new.length news hsrc hin hfit
     refine ⟨_, _, _, hrun, s1, s2, ?_⟩
     simp only [VR]
     refine ⟨_, cap, bb, rows.length + new.length, ?_, rfl, hin, Nat.le_refl _, hnone, (fun e => by omega), fun _ _ => ⟨rfl, cs.size, ?_, q3⟩⟩
     ·show (g.J.set id _)[id]? = _
      rw [zfu, if_pos rfl, hJ']; rfl
     ·exact s3
    ·
     obtain ⟨olds, hold, holds, holdr⟩ : ∃ olds : List Value, (Builtin.firstCells i.size rows.length (.slice ad rows.length cap)).run P w.drew = .ok olds.toArray w.drew ∧ olds.length = rows.length * i.size ∧ zaO (zn w g).alone rows i.size olds := by
      by_cases hrne : rows = []
      ·subst hrne
       refine ⟨[], ?_, by simp, fun j r hj => by simp at hj⟩
       cases ad with
       | none => exact run_firstCells_none _ _ _ _ _
       | some ad => exact run_firstCells_some _ _ _ _ _ _ [] (by simp) (fun j u hu => by simp at hu)
      ·have hr0 : rows.length ≠ 0 := fun e => hrne (List.length_eq_zero_iff.1 e)
       obtain ⟨q1, N, q2, q3⟩ := hfull hr0 rfl
       subst q1
       obtain ⟨b2, cs, e2, k1, k2, k3, k4, k5, k6⟩ := zgq (h.obj id _ hob3) hrne
       rw [hJ'] at k1; cases k1
       have hcut := k4.cut
       refine ⟨cs.toList.take (rows.length * i.size), run_firstCells_some _ _ _ _ _ _ _ (by simp only [List.length_take, Array.length_toList]; simp at hcut; omega) (fun j u hu => ?_), by simp only [List.length_take, Array.length_toList]; simp at hcut; omega, k4.congr fun x hx => by rw [List.getElem?_take, if_pos hx]⟩
       rw [zbn, zcX]
       show zca w.heap[bb]? _ = _
       rw [k3]
       rw [List.getElem?_take] at hu
       split at hu
       ·simpa [zca] using hu
       ·cases hu
     obtain ⟨C, cells, hC, hrun, hcells, hsz⟩ := hgrow rows.length cap (by omega) hroom' ad olds hold holds
     subst hcx
     have hall : zaO (zn w g).alone (rows ++ new) i.size cells.toList := by
      rw [hcells]
      have := holdr.append hrows (tail := cells.toList.drop ((rows.length + new.length) * i.size))
      rwa [List.take_of_length_le (by omega)] at this
     obtain ⟨g', hg', s1, s2⟩ := h.drew.regrow (cells := cells) (e := e) hob2 hne hall
     refine ⟨_, _, g', hrun, s1, (Ext.drew _ w g).trans s2, ?_⟩
     simp only [VR]
     refine ⟨_, C, w.heap.size, rows.length + new.length, ?_, rfl, hC, Nat.le_refl _, (fun e => by cases e), (fun e => by omega), fun _ _ => ⟨rfl, cells.size, ?_, hsz⟩⟩
     ·rw [hg']
      show (g.J.set id _)[id]? = _
      rw [zfu, if_pos rfl, hJ']; rfl
     ·simp only [zn]
      rw [show (w.drew.alloc (.cells cells e)).heap[w.heap.size]? = _ from (zao w.drew (.cells cells e) w.heap.size).trans (if_pos rfl)]
      rfl
  ·cases ha2
 ·cases ha2
end Go.Ab
namespace Go.Ab
variable {act hn : Nat} {s s' : St} {a : Act} {w : World} {g : Gh} {P : Program} {F : Fence} {n : Nat} {o : Oper}
def zeQ (hn : Nat) (p : Owner) : Prop := ∃ id, p = .ob hn id
theorem znE (h : List Ob) (v : V) (id len : Nat) : zak (zea h v) id len = zak h id len := by
 unfold zea
 split
 ·rename_i id' _ _
  split
  ·rename_i wr sz rows hob
   unfold zak
   rw [zaG, zaG, zdZ, List.getElem?_set]
   rw [zaG] at hob
   by_cases e : id' = id
   ·subst e
    have hl := (List.getElem?_eq_some_iff.1 hob).1
    simp only [if_true, hl, hob]
   ·simp only [e, if_false]
  ·rfl
 ·rfl
theorem zg2 {R : Type} (h : List Ob) (v u : V) (k : V → Option R) : zby (zea h v) u k = zby h u k := by
 unfold zby
 split
 ·rw [znE]
 ·rfl
 ·rfl
theorem zg3 {R : Type} (h : List Ob) (v : V) (l : List V) : ∀ k : List V → Option R, zbV (zea h v) l k = zbV h l k := by
 induction l with
 | nil => intro k; rfl
 | cons u l ih => intro k; simp only [zbV]; rw [zg2]; congr 1; funext v; exact ih _
theorem zoT {R : Type} (us l : List V) : ∀ (h : List Ob) (k : List V → Option R), zbV (zhA h us) l k = zbV h l k := by
 induction us with
 | nil => intro h k; rfl
 | cons u us ih => intro h k; simp only [zhA]; rw [ih, zg3]
theorem zoU {R : Type} (us : List V) (u : V) : ∀ (h : List Ob) (k : V → Option R), zby (zhA h us) u k = zby h u k := by
 induction us with
 | nil => intro h k; rfl
 | cons v us ih => intro h k; simp only [zhA]; rw [ih, zg2]
theorem zpZ {R : Type} (h : List Ob) (v u : V) (k : V → Option R) : zbg (zer h v) u k = zbg h u k := by
 unfold zer
 split
 ·unfold zbg
  split
  ·rw [zoT]
  ·rw [zoU]
 ·unfold zbg
  split
  ·rw [zg3]
  ·rw [zg2]
theorem zlL {R : Type} (h : List Ob) (v : V) (l : List V) : ∀ k : List V → Option R, zaX (zer h v) l k = zaX h l k := by
 induction l with
 | nil => intro k; rfl
 | cons u l ih => intro k; simp only [zaX]; rw [zpZ]; congr 1; funext v; exact ih _
structure Fixed (act hn : Nat) (s : St) (a : Act) (w : World) (g : Gh) (h' : List Ob) (g' : Gh) : Prop where
 J : g'.J = g.J
 own : g'.own = g.own
 nx : g'.nx = g.nx
 sr : SR act hn ⟨s.t, h'⟩ a w g'
 ext : Ext (zeQ hn) w g w g'
theorem Fixed.refl (h : SR act hn s a w g) : Fixed act hn s a w g s.h g := ⟨rfl, rfl, rfl, h, Ext.refl _ _ _⟩
theorem Fixed.trans {h1 h2 : List Ob} {g1 g2 : Gh} (k : Fixed act hn s a w g h1 g1) (k' : Fixed act hn ⟨s.t, h1⟩ a w g1 h2 g2) : Fixed act hn s a w g h2 g2 :=
 ⟨k'.J.trans k.J, k'.own.trans k.own, k'.nx.trans k.nx, k'.sr, k.ext.trans k'.ext⟩
theorem zjo (h : SR act hn s a w g) {v v' : V} (hk : zby s.h v some = some v') {c : Value} (hv : VR v (zn w g) c) : ∃ g', Fixed act hn s a w g (zea s.h v) g' ∧ VR v' (zn w g').alone c := by
 unfold zby at hk
 split at hk
 ·rename_i id len sz
  cases hr : zak s.h id len with
  | none => rw [hr] at hk; cases hk
  | some rows =>
   rw [hr] at hk
   simp only [Option.bind_some] at hk
   cases hk
   obtain ⟨wr, sz', ho, hlen⟩ := zgr hr
   have ho' : zav s.h id = some (.arr wr sz' rows) := by rw [zaG]; exact ho
   obtain ⟨g', f1, f2, f3, f4, f5, f6⟩ := h.fix ho'
   refine ⟨g', ⟨f1, f2, f3, ?_, f5 _ ⟨id, rfl⟩⟩, ?_⟩
   ·simp only [zea, ho']; exact f4
   ·simp only [VR] at hv ⊢
    obtain ⟨ad, cap, b, l, h1, h2, h3, h4, h5, h6, h7⟩ := hv
    refine ⟨ad, cap, by rw [← hlen]; exact h2, by omega, trivial, h5, fun hne => ?_⟩
    obtain ⟨b', k1, k2⟩ := f6 hne
    have h1' : g.J[id]? = some (b, some l) := h1
    rw [h1'] at k1; cases k1
    have hl0 : len ≠ 0 := by intro e; rw [e] at hlen; exact hne (List.length_eq_zero_iff.1 hlen.symm)
    obtain ⟨q, _⟩ := h7 hl0 hlen.symm
    exact ⟨b, 0, sz', q, k2⟩
 ·cases hk
  refine ⟨g, Fixed.refl h, ?_⟩
  have := hv.any
  simp only [VR] at this ⊢
  exact this
 ·rename_i h1 h2
  cases hb : za6 v with
  | false => rw [hb] at hk; cases hk
  | true =>
   rw [hb] at hk
   cases hk
   refine ⟨g, ?_, VR.alone (m := zn w g) v hb rfl rfl hv⟩
   have e : zea s.h v = s.h := by
    unfold zea
    split
    ·simp [za6] at hb
    ·rfl
   rw [e]; exact Fixed.refl h
theorem zt9 (l : List V) : ∀ {s : St} {g : Gh} (_ : SR act hn s a w g) {l' : List V} (_ : zbV s.h l some = some l') {cs : List Value} (_ : VRl l (zn w g) cs), ∃ g', Fixed act hn s a w g (zhA s.h l) g' ∧ VRl l' (zn w g').alone cs := by
 induction l with
 | nil =>
  intro s g h l' hk cs hv
  cases hk
  simp only [VRl] at hv
  exact ⟨g, Fixed.refl h, by simp only [VRl]; exact hv⟩
 | cons v l ih =>
  intro s g h l' hk cs hv
  simp only [zbV] at hk
  rw [zee] at hk
  cases h1 : zby s.h v some with
  | none => rw [h1] at hk; cases hk
  | some v' =>
   rw [h1, Option.bind_some, zdv] at hk
   cases h2 : zbV s.h l some with
   | none => rw [h2] at hk; cases hk
   | some l2 =>
    rw [h2] at hk
    cases hk
    simp only [VRl] at hv
    obtain ⟨c, cs', rfl, ⟨v1, v2⟩, v3⟩ := hv
    obtain ⟨g1, f1, f2⟩ := zjo h h1 v1
    obtain ⟨g2, f3, f4⟩ := ih f1.sr (l' := l2) (by rw [zg3]; exact h2) (VRl.mono _ f1.ext.le v3)
    refine ⟨g2, f1.trans f3, ?_⟩
    simp only [VRl]
    exact ⟨c, cs', rfl, ⟨VR.mono _ f3.ext.le.alone f2, v2⟩, f4⟩
theorem zq9 {R : Type} {h : List Ob} {v : V} (hv : ∀ cs, v ≠ .agg cs) (k : V → Option R) : zbg h v k = zby h v k := by
 cases v <;> first
  | rfl
  | exact absurd rfl (hv _)
theorem zsV {h : List Ob} {v : V} (hv : ∀ cs, v ≠ .agg cs) : zer h v = zea h v := by
 cases v <;> first
  | rfl
  | exact absurd rfl (hv _)
theorem znF {R : Type} {h : List Ob} {v : V} (hv : ∀ cs, v ≠ .tuple cs) (k : V → Option R) : zbG h v k = zbg h v k := by
 cases v <;> first
  | rfl
  | exact absurd rfl (hv _)
theorem zjp (h : SR act hn s a w g) {v v' : V} (hk : zbg s.h v some = some v') {c : Value} (hv : VR v (zn w g) c) : ∃ g', Fixed act hn s a w g (zer s.h v) g' ∧ VR v' (zn w g').alone c := by
 cases v with
 | agg cs =>
  simp only [zbg] at hk
  rw [zdv] at hk
  cases h1 : zbV s.h cs some with
  | none => rw [h1] at hk; cases hk
  | some cs' =>
   rw [h1] at hk
   cases hk
   simp only [VR] at hv
   obtain ⟨ds, rfl, hv⟩ := hv
   obtain ⟨g', f1, f2⟩ := zt9 cs h h1 hv
   exact ⟨g', f1, by simp only [VR]; exact ⟨ds, rfl, f2⟩⟩
 | _ =>
  rw [zq9 (by simp)] at hk
  rw [zsV (by simp)]
  exact zjo h hk hv
theorem zkU (l : List V) : ∀ {s : St} {g : Gh} (_ : SR act hn s a w g) {l' : List V} (_ : zaX s.h l some = some l') {cs : List Value} (_ : VRs l (zn w g) cs), ∃ g', Fixed act hn s a w g (zhe s.h l) g' ∧ VRs l' (zn w g').alone cs := by
 induction l with
 | nil =>
  intro s g h l' hk cs hv
  cases hk
  simp only [VRs] at hv
  exact ⟨g, Fixed.refl h, by simp only [VRs]; exact hv⟩
 | cons v l ih =>
  intro s g h l' hk cs hv
  simp only [zaX] at hk
  rw [zbZ] at hk
  cases h1 : zbg s.h v some with
  | none => rw [h1] at hk; cases hk
  | some v' =>
   rw [h1, Option.bind_some, zbN] at hk
   cases h2 : zaX s.h l some with
   | none => rw [h2] at hk; cases hk
   | some l2 =>
    rw [h2] at hk
    cases hk
    simp only [VRs] at hv
    obtain ⟨c, cs', rfl, v1, v3⟩ := hv
    obtain ⟨g1, f1, f2⟩ := zjp h h1 v1
    obtain ⟨g2, f3, f4⟩ := ih f1.sr (l' := l2) (by rw [zlL]; exact h2) (VRs.mono _ f1.ext.le v3)
    refine ⟨g2, f1.trans f3, ?_⟩
    simp only [VRs]
    exact ⟨c, cs', rfl, VR.mono _ f3.ext.le.alone f2, f4⟩
theorem zra (h : SR act hn s a w g) {v v' : V} (hk : zbG s.h v some = some v') {c : Value} (hv : VR v (zn w g) c) : ∃ h' g', Fixed act hn s a w g h' g' ∧ VR v' (zn w g').alone c := by
 cases v with
 | tuple vs =>
  simp only [zbG] at hk
  rw [zbN] at hk
  cases h1 : zaX s.h vs some with
  | none => rw [h1] at hk; cases hk
  | some vs' =>
   rw [h1] at hk
   cases hk
   simp only [VR] at hv
   obtain ⟨ds, rfl, hv⟩ := hv
   obtain ⟨g', f1, f2⟩ := zkU vs h h1 hv
   exact ⟨_, g', f1, by simp only [VR]; exact ⟨ds, rfl, f2⟩⟩
 | _ =>
  rw [znF (by simp)] at hk
  obtain ⟨g', f1, f2⟩ := zjp h hk hv
  exact ⟨_, g', f1, f2⟩
theorem Ext.ofOb {w' : World} {g' : Gh} (h : Ext (zeQ hn) w g w' g') : Ext (zbd act hn) w g w' g' := h.weaken fun p ⟨id, e⟩ => .inr (.inr ⟨id, e⟩)
end Go.Ab
namespace Go.Ab
variable {act hn : Nat} {s s' : St} {a : Act} {w : World} {g : Gh} {P : Program} {F : Fence} {n : Nat} {o : Oper}
theorem zgt (d : Option Nat) (v : V) (h' : List Ob) : (⟨s.t, h'⟩ : St).put d v = ⟨(s.put d v).t, h'⟩ := by cases d <;> rfl
theorem zoV (off : Nat) (l : List Value) (cs : Array Value) (hf : off + l.length ≤ cs.size) :
  (((⟨l⟩ : Array Value).zipIdx.foldl (fun cs (x : Value × Nat) => cs.setIfInBounds (off + x.2) x.1) cs)).toList = cs.toList.take off ++ l ++ cs.toList.drop (off + l.length) := by
 have e : ((⟨l⟩ : Array Value).zipIdx.foldl (fun cs (x : Value × Nat) => cs.setIfInBounds (off + x.2) x.1) cs) = (l.zipIdx 0).foldl (fun cs (x : Value × Nat) => cs.setIfInBounds (off + x.2) x.1) cs := by
  rw [← Array.foldl_toList, Array.toList_zipIdx]
 rw [e]
 obtain ⟨h1, h2⟩ := Great.foldl_set off l 0 cs
 apply List.ext_getElem?
 intro k
 have h3 := h2 k
 simp only [Nat.add_zero] at h3
 rw [← Array.getElem?_toList] at h3
 rw [h3]
 split
 ·rename_i hk
  rw [List.append_assoc, List.getElem?_append_right (by simp; omega), List.length_take, List.getElem?_append_left (by simp; omega)]
  congr 1
  simp; omega
 ·rename_i hk
  by_cases hlt : k < off
  ·rw [List.append_assoc, List.getElem?_append_left (by simp; omega), List.getElem?_take, if_pos hlt]; simp
  ·by_cases hge : off + l.length ≤ k
   ·rw [List.getElem?_append_right (by simp; omega), List.getElem?_drop]
    simp only [List.length_append, List.length_take, Array.length_toList]
    rw [← Array.getElem?_toList]
    congr 1
    omega
   ·omega
theorem zm0 (cs new : List V) (off : Nat) (h : off + new.length ≤ cs.length) : (splice cs off new).length = cs.length := by
 unfold splice
 rw [zcB, zbr]
 simp; omega
theorem zlM (h : SR act hn s a w g) {place place' : Nat → Option (Nat × Nat)} (hp : ∀ i x, place i = some x → place' i = some x) : ∀ (parts : List (Nat × Operand)) (cs : List V) {cs' : List V} (_ : zdT s place parts cs = some cs') {cells : Array Value} (_ : VRl cs (zn w g) cells.toList),
  ∃ cells' : Array Value, Instr.fill place' cells (parts.map fun x => (x.1, a.eval x.2)) = some cells' ∧ VRl cs' (zn w g) cells'.toList ∧ cs'.length = cs.length ∧ (parts ≠ [] → cs ≠ []) := by
 intro parts
 induction parts with
 | nil =>
  intro cs cs' hf cells hv
  simp only [zdT] at hf; cases hf
  exact ⟨cells, rfl, hv, rfl, fun e => absurd rfl e⟩
 | cons p parts ih =>
  intro cs cs' hf cells hv
  obtain ⟨i, x⟩ := p
  simp only [zdT] at hf
  cases hpl : place i with
  | none => rw [hpl] at hf; cases hf
  | some y =>
   obtain ⟨off, m⟩ := y
   rw [hpl] at hf
   simp only at hf
   split at hf
   ·rename_i hc
    simp only [Bool.and_eq_true] at hc
    obtain ⟨⟨c1, c2⟩, c3⟩ := hc
    have c1 := Nat.eq_of_beq_eq_true c1
    have c2 : 0 < m := Nat.le_of_ble_eq_true c2
    have c3 : off + (cellsOf (zo s x)).length ≤ cs.length := Nat.le_of_ble_eq_true c3
    have hx := zco (h.evalV x) (.inl (by intro e; rw [e] at c1; simp at c1; omega))
    have hl := VRl.length _ hx
    have hl2 := VRl.length _ hv
    have hsp := hv.splice hx off
    have hfit : off + (a.eval x).cells.toList.length ≤ cells.size := by simp only [Array.length_toList] at hl2 hl ⊢; omega
    have hfold := zoV off (a.eval x).cells.toList cells hfit
    obtain ⟨cells', k1, k2, k3, k4⟩ := ih (splice cs off (cellsOf (zo s x))) hf (cells := (a.eval x).cells.zipIdx.foldl (fun cs (x : Value × Nat) => cs.setIfInBounds (off + x.2) x.1) cells) (by rw [← hfold] at hsp; exact hsp)
    refine ⟨cells', ?_, k2, by rw [k3, zm0 _ _ _ c3], fun _ e => by have h9 := c3; rw [e] at h9; simp only [List.length_nil] at h9; omega⟩
    simp only [List.map_cons, Instr.fill, hp _ _ hpl]
    have n1 : ¬ (((a.eval x).cells.size ≠ m || decide (off + (a.eval x).cells.size > cells.size)) = true) := by
     simp at hl hl2 hfit ⊢
     omega
    rw [if_neg n1]
    exact k1
   ·cases hf
theorem znG {t : TypeId} {it : TypeInfo} {zv : Value} {fs : Array Field} {places : List (Nat × Nat)} {parts : List (Nat × Value)} {cells : Array Value} (h1 : P.info? t = some it) (h2 : P.underlying t = some (.struct fs)) (h3 : it.zero = some zv)
  (h4 : fs.toList.mapM (fun f => (P.info? f.type).map fun i => (f.offset, i.size)) = some places) (h5 : Instr.fill (places.toArray[·]?) zv.cells parts = some cells) : P.built t parts = some cells := by
 unfold Program.built
 simp only [h1, h2, h3, h4, h5]
theorem zoW {t e : TypeId} {len : Nat} {it ie : TypeInfo} {zv : Value} {parts : List (Nat × Value)} {cells : Array Value} (h1 : P.info? t = some it) (h2 : P.underlying t = some (.array len e)) (h3 : it.zero = some zv)
  (h4 : P.info? e = some ie) (h5 : Instr.fill (fun i => some (i * ie.size, ie.size)) zv.cells parts = some cells) : P.built t parts = some cells := by
 unfold Program.built
 simp only [h1, h2, h3, h4, h5]
theorem zjM (h : SR act hn s a w g) {t : TypeId} {parts : Array (Nat × Operand)} (ho : o.op = .build t parts) {cs : List V} {cells : Array Value} (hb : P.built t (parts.toList.map fun x => (x.1, a.eval x.2)) = some cells) (hv : VRl cs (zn w g) cells.toList) {v : V}
  (hk : zbg s.h (.agg cs) some = some v) : zF P F n act hn ⟨(s.put o.dst v).t, zer s.h (.agg cs)⟩ a w g o := by
 obtain ⟨g', f1, f2⟩ := zjp h hk (c := .agg cells) (by simp only [VR]; exact ⟨cells.toList, rfl, hv⟩)
 refine zF.value (c := .agg cells) (w' := w) (g' := g') ?_ ?_ f1.ext.ofOb
 ·simp only [execOp, ho]
  have e : (parts.map fun (x : Nat × Operand) => (x.1, a.eval x.2)).toList = parts.toList.map fun x => (x.1, a.eval x.2) := by simp
  have := run_build (P := P) w t (parts.map fun (x : Nat × Operand) => (x.1, a.eval x.2)) cells (by rw [e]; exact hb)
  simp [this]
 ·have := f1.sr.putV o.dst (VR.beside (m := (zn w g').alone) (m' := zn w g') _ rfl rfl rfl f2)
  rwa [zgt] at this
theorem zmm (sz : Nat) : ∀ (len : Nat) (cs : List V), cs.length = len * sz → ∀ (i : Nat) (r : List V), (zdU sz len cs)[i]? = some r → r.length = sz ∧ ∀ (j : Nat) (v : V), r[j]? = some v → cs[i * sz + j]? = some v := by
 intro len
 induction len with
 | zero => intro cs _ i r hi; simp [zdU] at hi
 | succ len ih =>
  intro cs hl i r hi
  rw [Nat.add_mul] at hl
  simp only [zdU] at hi
  cases i with
  | zero =>
   simp at hi; subst hi
   rw [zcB]
   refine ⟨by simp; omega, fun j v hj => ?_⟩
   rw [List.getElem?_take] at hj
   split at hj
   ·simpa using hj
   ·cases hj
  | succ i =>
   simp only [List.getElem?_cons_succ] at hi
   obtain ⟨h1, h2⟩ := ih (zek sz cs) (by rw [zbr]; simp; omega) i r hi
   refine ⟨h1, fun j v hj => ?_⟩
   have := h2 j v hj
   rw [zbr, List.getElem?_drop] at this
   rw [← this]; congr 1; rw [Nat.add_mul]; omega
theorem zdJ (sz : Nat) : ∀ (len : Nat) (cs : List V), (zdU sz len cs).length = len
 | 0, _ => rfl
 | n + 1, cs => by simp [zdU, zdJ sz n]
theorem zrb {z : List V} {zv : Value} {m : Mem} (hz : VRl z m zv.cells.toList) (h0 : 0 < z.length) (len : Nat) :
  VRl ((List.replicate len z).flatten) m ((Array.range (len * z.length)).map (zv.cells[· % zv.cells.size]!)).toList := by
 have hl := VRl.length _ hz
 simp at hl
 have hlen : ∀ k, ((List.replicate k z).flatten).length = k * z.length := by intro k; simp
 have zav : ∀ (k x : Nat), x < k * z.length → ((List.replicate k z).flatten)[x]? = z[x % z.length]? := by
  intro k
  induction k with
  | zero => intro x hx; omega
  | succ k ih =>
   intro x hx
   rw [Nat.add_mul] at hx
   simp only [List.replicate_succ, List.flatten_cons]
   by_cases hlt : x < z.length
   ·rw [List.getElem?_append_left hlt, Nat.mod_eq_of_lt hlt]
   ·rw [List.getElem?_append_right (by omega), ih (x - z.length) (by omega)]
    congr 1
    conv => rhs; rw [show x = x - z.length + z.length by omega]
    simp
 refine VRl.of_get _ (by simp) fun j v c hj hc => ?_
 have hjl : j < len * z.length := by have := (List.getElem?_eq_some_iff.1 hj).1; rwa [hlen] at this
 rw [zav len j hjl] at hj
 have hm : j % z.length < z.length := Nat.mod_lt _ h0
 obtain ⟨d, d1, d2⟩ := VRl.get _ hz _ _ hj
 have e : c = d := by
  simp [hjl] at hc
  rw [← hl] at hc
  have hlt : j % z.length < zv.cells.size := by omega
  rw [← hc]
  simp at d1
  rw [Array.getElem?_eq_getElem hlt] at d1
  simp [hlt] at d1 ⊢
  exact d1
 subst e; exact d2
theorem ziC (w : World) (t e : TypeId) (ie : TypeInfo) (hu : P.underlying t = some (.slice e)) (hie : P.info? e = some ie) :
  (Instr.buildSlice t 0 #[]).run P w = .ok (.slice (some ⟨w.heap.size, 0, none⟩) 0 0) (w.alloc (.cells #[] e)) := by
 simp [Instr.buildSlice, run_underlying hu, sizeOf, typeInfo, hie, newRow, Instr.fill]
 congr 2
 apply Array.ext'
 simp
theorem zkg (h : SR act hn s a w g) {t e : TypeId} {len : Nat} {parts : Array (Nat × Operand)} (ho : o.op = .buildSlice t len parts) {sz b : Nat} (hs : zaW P t = some (e, sz, b)) {z : List V} (hz : zeroCells P e = some z) (hzl : z.length = sz) (h0 : 0 < sz)
  (hlim : len * sz ≤ 16777216) {cs : List V} (hf : zdT s (fun i => some (i * sz, sz)) parts.toList ((List.replicate len z).flatten) = some cs) {v : V} (hk : zbg s.h (.agg cs) some = some v) :
  zF P F n act hn ⟨(s.put o.dst (.slice (znd len) (zdU sz len (cellsOf v)))).t, zer s.h (.agg cs)⟩ a w g o := by
 obtain ⟨ie, hu, hie, hsz, _⟩ := zdb hs
 obtain ⟨ie', zv, hie', hzv, hzr⟩ := zbO hz (zn w g)
 rw [hie] at hie'; cases hie'
 subst hsz
 have hfl := zrb hzr (by omega) len
 rw [hzl] at hfl
 obtain ⟨cells, k1, k2, k3, k4⟩ := zlM h (place' := fun i => some (i * ie.size, ie.size)) (fun i x e => e) parts.toList _ hf hfl
 obtain ⟨g', f1, f2⟩ := zjp h hk (c := .agg cells) (by simp only [VR]; exact ⟨cells.toList, rfl, k2⟩)
 obtain ⟨s1, s2⟩ := f1.sr.allocFree (.cells cells e)
 have eparts : (parts.map fun (x : Nat × Operand) => (x.1, a.eval x.2)).toList = parts.toList.map fun x => (x.1, a.eval x.2) := by simp
 have hrun : (Instr.buildSlice t len (parts.map fun (x : Nat × Operand) => (x.1, a.eval x.2))).run P w = .ok (.slice (some ⟨w.heap.size, 0, none⟩) len len) (w.alloc (.cells cells e)) := by
  by_cases hl0 : len = 0
  ·subst hl0
   have hp : parts = #[] := by
    apply Array.ext'
    by_cases e : parts.toList = []
    ·simpa using e
    ·exact absurd rfl (k4 e)
   subst hp
   have e1 : cells = #[] := by
    have h1 := VRl.length _ k2
    rw [k3] at h1
    exact Array.eq_empty_of_size_eq_zero (by simpa using h1.symm)
   subst e1
   have := ziC (P := P) w t e ie hu hie
   simpa using this
  ·refine run_buildSlice w t e len _ cells ie zv hu hie hzv (by omega) (by have := Nat.mul_ne_zero hl0 (by omega : ie.size ≠ 0); omega) ?_
   rw [eparts]
   exact k1
 have hcells : ∃ cs', v = .agg cs' ∧ VRl cs' (zn w g').alone cells.toList := by
  simp only [zbg] at hk
  rw [zdv] at hk
  cases hn : zbV s.h cs some with
  | none => rw [hn] at hk; cases hk
  | some cs' =>
   rw [hn] at hk
   cases hk
   simp only [VR] at f2
   obtain ⟨ds, e1, e2⟩ := f2
   cases e1
   exact ⟨cs', rfl, e2⟩
 obtain ⟨cs', rfl, hv⟩ := hcells
 have hcl : cs'.length = len * ie.size := by
  have h1 := VRl.length _ hv
  have h2 := VRl.length _ k2
  rw [h1, ← h2, k3]; simp [hzl]
 refine zF.value (c := .slice (some ⟨w.heap.size, 0, none⟩) len len) (w' := w.alloc (.cells cells e)) (g' := g') ?_ ?_ (f1.ext.ofOb.trans s2)
 ·simp only [execOp, ho]
  simp [hrun]
 ·have hval : VR (.slice (znd len) (zdU ie.size len (cellsOf (.agg cs')))) (zn (w.alloc (.cells cells e)) g') (.slice (some ⟨w.heap.size, 0, none⟩) len len) := by
   simp only [VR]
   refine ⟨_, len, by rw [zdJ], by rw [zdJ]; exact Nat.le_refl _, ?_, fun e => (by cases e), fun hne => ⟨w.heap.size, 0, ie.size, rfl, ?_⟩⟩
   ·cases len <;> simp [znd]
   ·refine VRr.of_get _ fun i r hi => ?_
    have hil := (List.getElem?_eq_some_iff.1 hi).1
    rw [zdJ] at hil
    obtain ⟨c1, c2⟩ := zmm ie.size len cs' hcl i r hi
    refine ⟨c1, VRc.of_get _ fun j u hu => ?_⟩
    obtain ⟨c, d1, d2, d3⟩ := VRl.get _ hv _ _ (c2 j u hu)
    refine ⟨c, ?_, VR.mono _ (zlI f1.sr.wf (.cells cells e)).alone d2, d3⟩
    simp only [zn, Mem.alone]
    rw [if_pos (.inl (f1.sr.wf.new _ (Nat.le_refl _))), zao, if_pos rfl]
    simp only [zca]
    rw [← d1]; simp
  have := s1.putV o.dst hval
  rwa [zgt] at this
end Go.Ab
namespace Go.Ab
variable {act hn : Nat} {s s' : St} {a : Act} {w : World} {g : Gh} {P : Program} {G : Cfg} {F : Fence} {n : Nat} {o : Oper}
def zcg (G : Cfg) (w : World) (g : Gh) : Prop := ∀ b, VRc (G.gl b) (zn w g).alone b 0
theorem zcg.le {w' : World} {g' : Gh} (h : zcg G w g) (k : (zn w g).le (zn w' g')) : zcg G w' g' := fun b => VRc.mono _ k.alone (h b)
theorem zcg.ext {ok : Owner → Prop} {w' : World} {g' : Gh} (h : zcg G w g) (k : Ext ok w g w' g') : zcg G w' g' := h.le k.le
theorem zpq {x : Operand} (hx : ∀ b, x ≠ .global b) : zc5 G s x = zo s x := by
 cases x <;> first
  | rfl
  | exact absurd rfl (hx _)
theorem SR.evalA (h : SR act hn s a w g) (hG : zcg G w g) {x : Operand} {v : V} (e : zc5 G s x = v) (h1 : view v = v) : VR v (zn w g) (a.eval x) := by
 by_cases hx : ∃ b, x = .global b
 ·obtain ⟨b, rfl⟩ := hx
  have hb := hG b
  unfold zc5 at e
  simp only at e
  split at e
  ·subst e; simp only [VR]
  ·rename_i u l hl
   subst e
   rw [hl] at hb
   simp only [VR, Act.eval]
   exact ⟨b, 0, rfl, hb⟩
 ·have e2 : zc5 G s x = zo s x := zpq fun b hb => hx ⟨b, hb⟩
  rw [e2] at e
  exact h.evalN e h1
theorem zdw {x : Operand} {v : V} (e : zc5 G s x = v) (h1 : ∀ row off, v ≠ .rptr row off) (h2 : v ≠ .undef) : zo s x = v := by
 by_cases hx : ∃ b, x = .global b
 ·exfalso
  obtain ⟨b, rfl⟩ := hx
  unfold zc5 at e
  simp only at e
  split at e
  ·exact h2 e.symm
  ·exact h1 _ _ e.symm
 ·rwa [zpq fun b hb => hx ⟨b, hb⟩] at e
theorem zrc (h : SR act hn s a w g) {c0 : Value} {t : TypeId} {ag : Bool} {m : Nat} (ht : zab P t = some (ag, m)) {sh : List Sh} {row : List V} {off : Nat} {v : V} (hv : VR (.rptr row off) (zn w g) c0)
  (hl : zbP s (.rptr row off) ag m sh some = some v) : ∃ c, (Instr.loadAt t c0).run P w = .ok c w ∧ VR v (zn w g) c := by
 simp only [zbP] at hl
 simp only [VR] at hv
 obtain ⟨b, o', h1, h2⟩ := hv
 obtain ⟨vals, k1, k2, k3⟩ := zjm (f := fun j => (zn w g).alone.M b (o' + j)) (mm := (zn w g).alone) (zhK hl) (fun j y hy => VRc.get _ h2 j y hy)
 refine ⟨_, ?_, VR.beside (m := (zn w g).alone) _ rfl rfl rfl k3⟩
 rw [h1]
 refine zf0 ?_
 refine zfH (cs := vals) (fun j c hj => ?_) ht k2
 have := zhL (k1 j c hj)
 rw [← Nat.add_assoc] at this
 exact this
theorem zsW (h : SR act hn s a w g) (hG : zcg G w g) {x : Operand} {t : TypeId} {ag : Bool} {m : Nat} (ht : zab P t = some (ag, m)) {sh : List Sh} {v : V} (hl : zbP s (zc5 G s x) ag m sh some = some v) :
  ∃ c, (Instr.loadAt t (a.eval x)).run P w = .ok c w ∧ VR v (zn w g) c := by
 cases hx : zc5 G s x with
 | rptr row off => rw [hx] at hl; exact zrc h ht (h.evalA hG hx rfl) hl
 | undef => rw [hx] at hl; cases hl
 | _ => have e := zdw hx (fun _ _ e => by cases e) (fun e => by cases e); rw [hx, ← e] at hl; exact zt8 h ht hl
theorem zoX (h : SR act hn s a w g) (hG : zcg G w g) {t : TypeId} {x : Operand} (ho : o.op = .load t x) {ag : Bool} {m : Nat} (ht : zab P t = some (ag, m)) {sh : List Sh} {v : V} (hl : zbP s (zc5 G s x) ag m sh some = some v) :
  zF P F n act hn (s.put o.dst (view v)) a w g o := by
 obtain ⟨c, h1, h2⟩ := zsW h hG ht hl
 exact zF.pure h (c := c) (by simp only [execOp, ho]; simp [h1]) h2.view
theorem zkh (h : SR act hn s a w g) {t : TypeId} {x : Operand} {fd off : Nat} {ft : TypeId} (ho : o.op = .fieldAddr t x fd) (hf : fieldAt P t fd = some (off, ft)) {ag : Bool} {m : Nat} (ht : zab P ft = some (ag, m)) (hm : 0 < m) {row : List V} {o' : Nat}
  (hv : VR (.rptr row o') (zn w g) (a.eval x)) : zF P F n act hn (s.put o.dst (.rptr row (o' + off))) a w g o := by
 simp only [VR] at hv
 obtain ⟨b, o2, h1, h2⟩ := hv
 refine zF.pureT h (c := .pointer (some (Addr.add ⟨b, o2 + o', none⟩ off))) ?_ fun _ _ => TR.of_VR (by simp only [VR]; exact ⟨b, o2, by rw [zbn, Nat.add_assoc], h2⟩)
 simp only [execOp, ho, h1]
 simp [zjJ hf ht hm]
theorem ziD (h : SR act hn s a w g) {t e : TypeId} {x ix : Operand} (ho : o.op = .indexAddr t x ix) {sz m : Nat} (hs : zdP P t = some (e, sz, m)) {k : IntKind} {i : Int} (hi : zo s ix = .int k i) (h0 : 0 ≤ i) (hl : i.toNat < m) {row : List V} {o' : Nat}
  (hv : VR (.rptr row o') (zn w g) (a.eval x)) : zF P F n act hn (s.put o.dst (.rptr row (o' + i.toNat * sz))) a w g o := by
 have hvi := h.evalN hi rfl
 simp only [VR] at hvi
 simp only [VR] at hv
 obtain ⟨b, o2, h1, h2⟩ := hv
 refine zF.pureT h (c := .pointer (some (Addr.add ⟨b, o2 + o', none⟩ (i.toNat * sz)))) ?_ fun _ _ => TR.of_VR (by simp only [VR]; exact ⟨b, o2, by rw [zbn, Nat.add_assoc], h2⟩)
 simp only [execOp, ho, h1, hvi]
 simp [ziB hs h0 (show i < (m : Int) by omega)]
theorem zkV {R : Type} {i : Int} {k : Nat → Option R} {r : R} : ∀ (m j : Nat), zfs i k m j = some r → ∃ x, j ≤ x ∧ x < j + m ∧ i = (x : Int) ∧ k x = some r
 | 0, _, h => by cases h
 | m + 1, j, h => by
  unfold zfs at h
  by_cases hi : i = (j : Int)
  ·simp only [hi, decide_true, cond_true] at h
   exact ⟨j, Nat.le_refl _, by omega, hi, h⟩
  ·simp only [hi, decide_false, cond_false] at h
   obtain ⟨x, h1, h2, h3, h4⟩ := zkV m (j + 1) h
   exact ⟨x, by omega, by omega, h3, h4⟩
theorem znH (h : SR act hn s a w g) {t e : TypeId} {x : Operand} (ho : o.op = .box t x) {d : Nat} (hd : o.dst = some d) {cs : List V} (hx : zo s x = .agg cs) {sz m : Nat} (hs : 0 < sz) (hm : 0 < m) (hl : cs.length = m * sz) (hr : zaM cs = true) :
  zF P F n act hn ⟨upd (s.t.map (zbk d)) d (.eptr s.h.length m sz 0 0), s.h ++ [.arr true sz (zdU sz m cs)]⟩ a w g o := by
 have hv := h.evalN hx rfl
 simp only [VR] at hv
 obtain ⟨vs, e1, hvs⟩ := hv
 have hlen := VRl.length _ hvs
 have hrows : (zdU sz m cs).length = m := zdJ sz m cs
 obtain ⟨k1, k2⟩ := (h.kill d).allocOb (o := .cells ⟨vs⟩ t) (ob := .arr true sz (zdU sz m cs)) (some m) (by
  intro g' hg' le
  refine ⟨w.heap.size, ?_, hs, fun _ => ⟨⟨vs⟩, t, by rw [hg']; simp [Gh.grab], by rw [zao, if_pos rfl], fun i r hi => ?_, ?_, fun _ => by rw [hg']; simp [Gh.grab]⟩⟩
  ·rw [hg', hrows]
   show (g.J ++ [(w.heap.size, some m)])[s.h.length]? = _
   rw [← h.jl]; simp
  ·obtain ⟨c1, c2⟩ := zmm sz m cs hl i r hi
   refine ⟨c1, fun j v hj => ?_⟩
   obtain ⟨c, c3, c4, c5⟩ := VRl.get _ hvs _ _ (c2 j v hj)
   refine ⟨c, by simpa using c3, ?_, c5⟩
   have hrf : za6 v = true := by
    have : ∀ (l : List V) (j : Nat), zaM l = true → l[j]? = some v → za6 v = true := by
     intro l
     induction l with
     | nil => intro j _ h; simp at h
     | cons u l ih =>
      intro j h1 h2
      simp only [zaM, Bool.and_eq_true] at h1
      cases j with
      | zero => simp at h2; subst h2; exact h1.1
      | succ j => exact ih j h1.2 (by simpa using h2)
    exact this cs _ hr (c2 j v hj)
   exact VR.mono _ le.alone (VR.alone (m := zn w g) (m' := (zn w g).alone) _ hrf rfl rfl c4)
  ·rw [hg']
   show (if w.heap.size = w.heap.size then 0 else g.K w.heap.size) ≤ _
   simp)
 refine zF.value (c := .pointer (some ⟨w.heap.size, 0, none⟩)) (w' := w.alloc (.cells ⟨vs⟩ t)) ?_ ?_ k2
 ·simp only [execOp, ho, Instr.box, e1]
  simp [zdk, Value.cells]
 rw [hd]
 refine k1.putV (some d) ?_
 simp only [VR]
 refine ⟨w.heap.size, m, ⟨w.heap.size, 0, none⟩, ?_, rfl, Nat.le_refl _, hm, fun _ => by simp⟩
 show (g.J ++ [(w.heap.size, some m)])[s.h.length]? = _
 rw [← h.jl]; simp
theorem zlN (h : SR act hn s a w g) {t e : TypeId} {x : Operand} (ho : o.op = .slice t x none none none) {id len sz : Nat} (hx : zo s x = .eptr id len sz 0 0) (hl0 : 0 < len) (hs : zdP P t = some (e, sz, len))
  {wr : Bool} {rows : List (List V)} (hob : zav s.h id = some (.arr wr sz rows)) (hlen : len = rows.length) : zF P F n act hn (s.put o.dst (.arr id len sz)) a w g o := by
 have hv := h.evalN hx rfl
 simp only [VR] at hv
 obtain ⟨b, l, ad, h1, h2, h3, h4, h5⟩ := hv
 obtain ⟨j, k1, k2, k3⟩ := ziA hs
 rw [zaG] at hob
 obtain ⟨b', g1, g2, g3⟩ := h.obj id _ hob
 have h1' : g.J[id]? = some (b, some l) := h1
 rw [h1'] at g1
 cases g1
 obtain ⟨cells, e', q1, q2, q3, q4, q5⟩ := g3 (by intro e; rw [e] at hlen; simp at hlen; omega)
 have hcut : rows.length * sz ≤ cells.size := by
  have := zaO.cut (m := (zn w g).alone) (rows := rows) (sz := sz) (cells := cells.toList) (fun i r hi => ⟨(q3 i r hi).1, fun j v hj => by
   obtain ⟨c, c1, c2, c3⟩ := (q3 i r hi).2 j v hj
   exact ⟨c, by simpa using c1, c2, c3⟩⟩)
  simpa using this
 have had := h5 hlen.symm
 subst had
 simp only [Nat.zero_mul, Nat.zero_add] at h2
 refine zF.pure h (c := .slice (some ⟨b, 0, none⟩) len len) ?_ ?_
 ·simp only [execOp, ho, h2]
  have ne : ¬ (len = 0) := by omega
  simp [Instr.sliceAt, Instr.sureAddr, run_underlying k1, Instr.sliceBounds, zdI k2, ne, zbn]
 ·simp only [VR]
  refine ⟨_, len, b, rows.length, h1, rfl, Nat.le_refl _, by omega, (fun e => by cases e), fun e => by omega, fun _ _ => ⟨rfl, cells.size, ?_, by rw [hlen]; exact hcut⟩⟩
  simp only [zn, q2, zds]
theorem zlO (h : SR act hn s a w g) {t e : TypeId} {x ix : Operand} (ho : o.op = .index t x ix) {m : Nat} (ht : P.underlying t = some (.array m e)) {cs : List V} (hx : zo s x = .agg cs) {k : IntKind} {i : Int} (hi : zo s ix = .int k i) {ag : Bool} {sz : Nat}
  (hs : zab P e = some (ag, sz)) (h0 : 0 ≤ i) (hl : i.toNat < m) {v : V} (hp : zi7 ag sz cs (i.toNat * sz) = some v) : zF P F n act hn (s.put o.dst (view v)) a w g o := by
 have hv := h.evalN hx rfl
 have hvi := h.evalN hi rfl
 simp only [VR] at hv hvi
 obtain ⟨ds, e1, e2⟩ := hv
 obtain ⟨c, c1, c2, _⟩ := zff (P := P) (w := w) hs e2 (zkR hp)
 refine zF.pure h (c := c) ?_ c2.view
 simp only [execOp, ho, e1, hvi]
 obtain ⟨j, u, j1, j2, j3, _⟩ := zb5 hs
 have hi' : 0 ≤ i ∧ i < (m : Int) := ⟨h0, by omega⟩
 simp [Instr.index, run_underlying ht, asIntOf, hi', zdI j1, j3, c1]
end Go.Ab
namespace Go.Ab
variable {act hn : Nat} {s s' : St} {a : Act} {w : World} {g : Gh} {P : Program} {G : Cfg} {F : Fence} {n : Nat} {o : Oper}
theorem ziE {t kt vt : TypeId} {ka va : Bool} {kn m : Nat} (h : ze8 P t = some (kt, ka, kn, vt, va, m)) : P.underlying t = some (.map kt vt) ∧ zab P kt = some (ka, kn) ∧ zab P vt = some (va, m) := by
 unfold ze8 at h
 split at h
 ·rename_i kt' vt' hu
  split at h
  ·rename_i ka' q va' m' h1 h2
   cases h
   exact ⟨hu, h1, h2⟩
  ·cases h
 ·cases h
theorem zdc {h : List Ob} {id kn : Nat} {ka va : Bool} {es : List (List V × List V)} (e : zcx h id ka va kn = some es) : h[id]? = some (.map ka va kn es) := by
 unfold zcx at e
 rw [zaG] at e
 split at e
 ·rename_i ka' va' kn' es' he
  split at e
  ·rename_i hq
   cases e
   simp only [Bool.and_eq_true, beq_iff_eq] at hq
   rw [he, hq.1, hq.2.1, Nat.eq_of_beq_eq_true hq.2.2]
  ·cases e
 ·cases e
theorem zoY {u : TypeDesc} {x : V} {b : Bool} (h : zdD u x x = some b) : b = true := by
 cases u <;> cases x <;> simp only [zdD, reduceCtorEq] at h <;> first
  | (rw [beq_toListBytes] at h; simp at h; exact h)
  | (simp at h; exact h)
  | (split at h <;> simp at h; exact h)
theorem zsX (d : Nat) : ∀ (t : TypeId) {xs : List V} {b : Bool}, eqT P d t xs xs = some b → b = true := by
 induction d with
 | zero => intro t xs b h; simp [eqT] at h
 | succ d ih =>
  intro t xs b h
  unfold eqT at h
  cases hu : P.underlying t with
  | none => rw [hu] at h; cases h
  | some u =>
  rw [hu] at h
  by_cases hst : ∃ fs, u = .struct fs
  ·obtain ⟨fs, rfl⟩ := hst
   simp only at h
   split at h
   ·cases h
   ·generalize fs.toList = l at h
    induction l generalizing b with
    | nil => simp only [zhB] at h; cases h; rfl
    | cons f l ihl =>
     simp only [zhB] at h
     split at h
     ·cases h
     ·split at h
      ·simp only [Option.bind_eq_some_iff] at h
       obtain ⟨x, h1, y, h2, r, h3, q, h4, h5⟩ := h
       rw [h1] at h2; cases h2
       cases h5
       rw [ih _ h3, ihl h4]; rfl
      ·cases h
  ·by_cases har : ∃ n e, u = .array n e
   ·obtain ⟨len, e, rfl⟩ := har
    simp only at h
    split at h
    ·rename_i ag k _
     have loop : ∀ (m j : Nat) {b : Bool}, ze7 (eqT P d e) ag k xs xs m j = some b → b = true := by
      intro m
      induction m with
      | zero => intro j b h; simp only [ze7] at h; cases h; rfl
      | succ m ihm =>
       intro j b h
       simp only [ze7, Option.bind_eq_some_iff] at h
       obtain ⟨x, h1, y, h2, r, h3, q, h4, h5⟩ := h
       rw [h1] at h2; cases h2
       cases h5
       rw [ih _ h3, ihm _ h4]; rfl
     exact loop _ _ h
    ·cases h
   ·have h' : zb3 u xs xs = some b := by
     cases u <;> first
      | exact absurd ⟨_, rfl⟩ hst
      | exact absurd ⟨_, _, rfl⟩ har
      | exact h
    match xs, h' with
    | [x], h' => exact zoY h'
theorem znI (em : Bool) (d0 : Nat) : ∀ (t : TypeId) {xs : List V} {b : Bool} (_ : eqT P d0 t xs xs = some b) {m : Mem} {cs : List Value} (_ : VRl xs m cs) (d : Nat) (_ : d0 ≤ d) (c : Value) (_ : zbp P t c cs), (Instr.checkKey em d t c).run P w = .ok () w := by
  induction d0 with
  | zero => intro t xs b h; simp [eqT] at h
  | succ d0 ih =>
    intro t xs b h m cs hx d hd c hc
    obtain ⟨d, rfl⟩ : ∃ k, d = k + 1 := ⟨d - 1, by omega⟩
    unfold eqT at h
    cases hu : P.underlying t with
    | none => rw [hu] at h; cases h
    | some u =>
      rw [hu] at h
      simp only [zbp, hu] at hc
      have partOk : ∀ {t' : TypeId} {ag : Bool} {k off : Nat} {x : V} {r : Bool}, zab P t' = some (ag, k) → part ag k xs off = some x → eqT P d0 t' (cellsOf x) (cellsOf x) = some r →
          ∃ cx, (Go.part t' ⟨cs⟩ off).run P w = .ok cx w ∧ (Instr.checkKey em d t' cx).run P w = .ok () w := by
        intro t' ag k off x r hts hpx he
        obtain ⟨cx, px1, px2, px3, px4⟩ := zff (P := P) (w := w) hts hx hpx
        refine ⟨cx, px1, ?_⟩
        obtain ⟨i, u', _, hu', _, hag⟩ := zb5 hts
        have agU : zbA u' = ag := by cases u' <;> simp_all [zbA]
        have nex : cellsOf x ≠ [] ∨ ∃ ds, x = .agg ds := by
          cases ag with
          | true => exact .inr (px4 rfl)
          | false =>
            left; intro e
            rw [e] at he
            cases d0 with
            | zero => simp [eqT] at he
            | succ d0 => cases u' <;> simp_all [eqT, zb3]
        have kx : VRl (cellsOf x) m cx.cells.toList := zco (by cases x <;> first | exact px2 | (simp only [VR] at px2)) nex
        refine ih t' he kx d (by omega) cx ?_
        simp only [zbp, hu', agU]
        cases ag with
        | true =>
          obtain ⟨ds, rfl⟩ := px4 rfl
          simp only [VR] at px2
          obtain ⟨cs1, rfl, _⟩ := px2
          exact .inl ⟨rfl, rfl⟩
        | false =>
          rw [Value.one_cells (px3 rfl)]
          exact .inr ⟨rfl, rfl⟩
      by_cases hst : ∃ fs, u = .struct fs
      · obtain ⟨fs, rfl⟩ := hst
        simp only [zbA, true_and, Bool.true_eq_false, false_and, or_false] at hc
        subst hc
        simp only at h
        cases hh : P.stoodInHeld t with
        | true => rw [hh] at h; cases h
        | false =>
          rw [hh] at h
          simp only at h
          rw [Instr.checkKey]
          simp only [Sem.run_bind, run_underlying hu, Result.andThen_ok, ← Array.forIn_toList]
          generalize fs.toList = l at h
          induction l generalizing b with
          | nil => simp
          | cons f l ihl =>
            simp only [zhB] at h
            cases hn : f.name == "_" with
            | true => rw [hn] at h; cases h
            | false =>
              rw [hn] at h
              simp only at h
              have hn' : f.name ≠ "_" := by simpa using hn
              split at h
              · rename_i ag k hts
                simp only [Option.bind_eq_some_iff] at h
                obtain ⟨x, h1, y, h2, r, h3, q, h4, h5⟩ := h
                rw [h1] at h2; cases h2
                obtain ⟨cx, p1, p2⟩ := partOk hts h1 h3
                simp only [List.forIn_cons, if_pos hn', Sem.run_bind, p1, p2, Result.andThen_ok, Sem.run_pure]
                exact ihl h4
              · cases h
      · by_cases har : ∃ n e, u = .array n e
        · obtain ⟨len, e, rfl⟩ := har
          simp only [zbA, true_and, Bool.true_eq_false, false_and, or_false] at hc
          subst hc
          simp only at h
          split at h
          · rename_i ag k hts
            obtain ⟨i, u', hi, _, hk, _⟩ := zb5 hts
            rw [Instr.checkKey]
            simp only [Sem.run_bind, run_underlying hu, Result.andThen_ok]
            simp only [Std.Legacy.Range.forIn_eq_forIn_range', Std.Legacy.Range.size, Nat.sub_zero, Nat.add_one_sub_one, Nat.div_one]
            have loop : ∀ (m j : Nat) {b : Bool}, ze7 (eqT P d0 e) ag k xs xs m j = some b →
                (forIn (List.range' j m) PUnit.unit fun i (_ : PUnit) => do
                  Instr.checkKey em d e (← Go.part e ⟨cs⟩ (i * (← sizeOf e)))
                  pure (ForInStep.yield PUnit.unit) : Sem PUnit).run P w = .ok PUnit.unit w := by
              intro m
              induction m with
              | zero => intro j b h; simp
              | succ m ihm =>
                intro j b h
                simp only [ze7, Option.bind_eq_some_iff] at h
                obtain ⟨x, h1, y, h2, r, h3, q, h4, h5⟩ := h
                rw [h1] at h2; cases h2
                obtain ⟨cx, p1, p2⟩ := partOk hts h1 h3
                rw [List.range'_succ]
                simp only [List.forIn_cons, Sem.run_bind, zdI hi, hk, Result.andThen_ok, p1, p2, Sem.run_pure]
                exact ihm (j + 1) h4
            rw [loop len 0 h]; rfl
          · cases h
        · have hi : ∀ ms, u ≠ .interface ms := by
            rintro ms rfl
            simp only [zb3] at h
            split at h
            · simp [zdD] at h
            · cases h
          rw [Instr.checkKey]
          simp only [Sem.run_bind, run_underlying hu, Result.andThen_ok]
          cases u <;> first
            | rfl
            | exact absurd ⟨_, rfl⟩ hst
            | exact absurd ⟨_, _, rfl⟩ har
            | exact absurd rfl (hi _)
theorem zhi {t : TypeId} {ag : Bool} {q : Nat} (h : zab P t = some (ag, q)) : ∃ u, P.underlying t = some u ∧ zbA u = ag := by
 obtain ⟨i, u, _, hu, _, hag⟩ := zb5 h
 exact ⟨u, hu, by cases u <;> simp_all [zbA]⟩
theorem zlP {kt : TypeId} {ka : Bool} {q d : Nat} (hk : zab P kt = some (ka, q)) {xs ys : List V} {b : Bool} (he : eqT P d kt xs ys = some b) {m : Mem} {cs : List Value} (hv : VRl ys m cs) : zbp P kt (zb8 ka cs) cs := by
 obtain ⟨u, hu, hag⟩ := zhi hk
 simp only [zbp, hu, hag]
 cases ka with
 | true => exact .inl ⟨rfl, rfl⟩
 | false =>
  refine .inr ⟨rfl, ?_⟩
  cases d with
  | zero => simp [eqT] at he
  | succ d =>
   have h' : zb3 u xs ys = some b := by
    unfold eqT at he
    rw [hu] at he
    cases u <;> simp [zbA] at hag <;> exact he
   unfold zb3 at h'
   split at h'
   ·simp only [VRl] at hv
    obtain ⟨c, cs', rfl, _, rfl⟩ := hv
    rfl
   ·cases h'
def zcz (l : List MapEntry) (i : Nat) : Option Nat → Option (Nat × Value)
 | none => none
 | some j => (l[j]?).map fun x => (i + j, x.val)
theorem ziF (x : MapEntry) (l : List MapEntry) (i : Nat) (r : Option Nat) : zcz (x :: l) i (r.map (· + 1)) = zcz l (i + 1) r := by
 cases r with
 | none => rfl
 | some j =>
  simp only [zcz, Option.map_some, List.getElem?_cons_succ]
  congr 1; funext x; rw [show i + (j + 1) = i + 1 + j by omega]
theorem zlQ {kt : TypeId} {ka : Bool} {q : Nat} (hk : zab P kt = some (ka, q)) {key : List V} {m m' : Mem} {kcs : List Value} {c : Value} (hkey : VRl key m kcs) (hc : zbp P kt c kcs) :
  ∀ (es : List (List V × List V)) (l : List MapEntry) (i : Nat) {r : Option Nat}, es.length = l.length → (∀ (j : Nat) (e : List V × List V) (x : MapEntry), es[j]? = some e → l[j]? = some x → ∃ cs, VRl e.1 m' cs ∧ x.key = zb8 ka cs) →
   zaw (eqT P 8 kt) key es = some r → (Instr.findAsking kt c l i).run P w = .ok (zcz l i r) w := by
 intro es
 induction es with
 | nil =>
  intro l i r hl _ h
  cases l with
  | nil => simp only [zaw] at h; cases h; simp [Instr.findAsking, zcz]
  | cons _ _ => simp at hl
 | cons e es ih =>
  intro l i r hl hr h
  cases l with
  | nil => simp at hl
  | cons x l =>
   simp only [zaw, Option.bind_eq_some_iff] at h
   obtain ⟨b, h1, h2⟩ := h
   obtain ⟨cs, k1, k2⟩ := hr 0 e x rfl rfl
   have hq : (Op.equal kt c x.key).run P w = .ok b w := by
    rw [k2]
    exact zpp 8 kt h1 hkey k1 10000 (by omega) _ _ hc (zlP hk h1 k1)
   rw [Instr.findAsking]
   simp only [Sem.run_bind, hq, Result.andThen_ok]
   cases b with
   | true =>
    simp only [cond_true] at h2
    cases h2
    simp [zcz]
   | false =>
    simp only [cond_false, Option.bind_eq_some_iff] at h2
    obtain ⟨r', h3, h4⟩ := h2
    cases h4
    have := ih l (i + 1) (by simpa using hl) (fun j e x h1 h2 => hr (j + 1) e x (by simpa using h1) (by simpa using h2)) h3
    rw [ziF]
    simpa using this
theorem zp0 {kt : TypeId} {u : TypeDesc} (hu : P.underlying kt = some u) (hag : zbA u = false) {key : List V} {m m' : Mem} {kcs : List Value} {c : Value} (hkey : VRl key m kcs) (hc : kcs = [c]) :
  ∀ (es : List (List V × List V)) (l : List MapEntry) (i : Nat) {r : Option Nat}, es.length = l.length → (∀ (j : Nat) (e : List V × List V) (x : MapEntry), es[j]? = some e → l[j]? = some x → ∃ cs, VRl e.1 m' cs ∧ x.key = zb8 false cs) →
   zaw (eqT P 8 kt) key es = some r → Instr.findNow u c l i = some (zcz l i r) := by
 subst hc
 intro es
 induction es with
 | nil =>
  intro l i r hl _ h
  cases l with
  | nil => simp only [zaw] at h; cases h; simp [Instr.findNow, zcz]
  | cons _ _ => simp at hl
 | cons e es ih =>
  intro l i r hl hr h
  cases l with
  | nil => simp at hl
  | cons x l =>
   simp only [zaw, Option.bind_eq_some_iff] at h
   obtain ⟨b, h1, h2⟩ := h
   obtain ⟨cs, k1, k2⟩ := hr 0 e x rfl rfl
   have h' : zb3 u key e.1 = some b := by
    unfold eqT at h1
    rw [hu] at h1
    cases u <;> simp [zbA] at hag <;> exact h1
   have hq : Instr.sameNow u c x.key = some b := by
    unfold zb3 at h'
    split at h'
    ·rename_i p q e1
     rw [e1] at k1
     simp only [VRl] at hkey k1
     obtain ⟨c1, r1, e2, ⟨v1, _⟩, _⟩ := hkey
     obtain ⟨c2, r2, rfl, ⟨v2, _⟩, rfl⟩ := k1
     cases e2
     have e3 : x.key = c2 := k2
     rw [e3]
     unfold zdD at h'
     split at h'
     ·simp only [VR] at v1 v2; subst v1; subst v2; cases h'; rfl
     ·simp only [VR] at v1 v2; subst v1; subst v2
      split at h'
      ·rename_i hkk
       cases h'
       have := zgc.1 hkk; subst this
       simp [Instr.sameNow]
      ·cases h'
     ·simp only [VR] at v1 v2; subst v1; subst v2; cases h'; rfl
     ·cases h'
    ·cases h'
   rw [Instr.findNow, hq]
   cases b with
   | true =>
    simp only [cond_true] at h2
    cases h2
    simp [zcz]
   | false =>
    simp only [cond_false, Option.bind_eq_some_iff] at h2
    obtain ⟨r', h3, h4⟩ := h2
    cases h4
    have := ih l (i + 1) (by simpa using hl) (fun j e x h1 h2 => hr (j + 1) e x (by simpa using h1) (by simpa using h2)) h3
    rw [ziF]
    simpa using this
theorem zoZ {kt : TypeId} {ka : Bool} {q : Nat} (hk : zab P kt = some (ka, q)) {key : List V} {m m' : Mem} {kcs : List Value} {c : Value} (hkey : VRl key m kcs) (hc : zbp P kt c kcs)
  {es : List (List V × List V)} {l : List MapEntry} {r : Option Nat} (hl : es.length = l.length) (hr : ∀ (j : Nat) (e : List V × List V) (x : MapEntry), es[j]? = some e → l[j]? = some x → ∃ cs, VRl e.1 m' cs ∧ x.key = zb8 ka cs)
  (h : zaw (eqT P 8 kt) key es = some r) : (Instr.findKey kt c l).run P w = .ok (zcz l 0 r) w := by
 obtain ⟨u, hu, hag⟩ := zhi hk
 cases ka with
 | true =>
  rw [run_findKey_eq w (by rw [hu]; cases u <;> simp_all [zbA])]
  exact zlQ hk hkey hc es l 0 hl hr h
 | false =>
  have hc' : kcs = [c] := by
   simp only [zbp, hu, hag, Bool.false_eq_true, false_and, false_or, true_and] at hc
   exact hc
  exact MapKept.run_findKey hu (zp0 hu hag hkey hc' es l 0 hl hr h)
theorem zp1 (d : Nat) : ∀ (t : TypeId) (off : Nat), zgi P d t off = (zgi P d t 0).map (off + ·) := by
 induction d with
 | zero => intro t off; rfl
 | succ d ih =>
  intro t off
  unfold zgi
  split
  ·rename_i fs _
   rw [List.map_flatMap]
   congr 1; funext f
   rw [ih _ (off + f.offset), ih _ (0 + f.offset), List.map_map]
   apply List.map_congr_left
   intro x _
   simp only [Function.comp]; omega
  ·split
   ·rw [List.map_flatMap]
    congr 1; funext i
    rw [ih _ (off + _), ih _ (0 + _), List.map_map]
    apply List.map_congr_left
    intro x _
    simp only [Function.comp]; omega
   ·rfl
  ·simp
  ·rfl
theorem znJ {ag : Bool} {k off : Nat} {xs : List V} {x : V} (h : part ag k xs off = some x) {m : Mem} {cs : List Value} (hv : VRl xs m cs) {j : Nat} {v : V} (hj : (cellsOf x)[j]? = some v) : xs[off + j]? = some v := by
 rcases ziw h with ⟨rfl, hl, rfl⟩ | ⟨rfl, rfl, rfl⟩ | ⟨rfl, hv'⟩
 ·simp only [cellsOf] at hj
  rw [List.getElem?_take] at hj
  split at hj
  ·rw [List.getElem?_drop] at hj; exact hj
  ·cases hj
 ·simp [cellsOf] at hj
 ·unfold cellsOf at hj
  split at hj
  ·exfalso
   obtain ⟨c, _, c2, c3⟩ := VRl.get _ hv _ _ hv'
   simp only [VR] at c2
   obtain ⟨cs', rfl, _⟩ := c2
   simp [one] at c3
  ·split at hj
   ·cases j with
    | zero => simp at hj; subst hj; simpa using hv'
    | succ j => simp at hj
   ·simp at hj
theorem znK {t : TypeId} {ag : Bool} {m : Nat} (ht : zab P t = some (ag, m)) {xs : List V} {cs : List Value} {mm : Mem} (hv : VRl xs mm cs) {off : Nat} {v : V} (hp : part ag m xs off = some v) (hne : ag = false → cellsOf v ≠ []) :
  ∃ ds, VRl (cellsOf v) mm ds := by
 obtain ⟨c, _, c2, c3, c4⟩ := zff (P := P) (w := default) ht hv hp
 refine ⟨_, zco (by cases v <;> first | exact c2 | (simp only [VR] at c2)) ?_⟩
 cases ag with
 | true => exact .inr (c4 rfl)
 | false => exact .inl (hne rfl)
theorem zrd {d : Nat} {t : TypeId} {q : Nat} (ht : zab P t = some (false, q)) {xs ys : List V} {b : Bool} (h : eqT P d t xs ys = some b) : xs ≠ [] ∧ ys ≠ [] := by
 obtain ⟨u, hu, hag⟩ := zhi ht
 cases d with
 | zero => simp [eqT] at h
 | succ d =>
  unfold eqT at h
  rw [hu] at h
  have h' : zb3 u xs ys = some b := by cases u <;> simp [zbA] at hag <;> exact h
  unfold zb3 at h'
  split at h'
  ·simp
  ·cases h'
theorem zua (d : Nat) : ∀ (t : TypeId) {xs ys : List V} (_ : eqT P d t xs ys = some true) {m m' : Mem} {cs cs' : List Value} (_ : VRl xs m cs) (_ : VRl ys m' cs') (j : Nat), j ∈ zgi P d t 0 →
  ∃ x y u, xs[j]? = some x ∧ ys[j]? = some y ∧ zdD u x y = some true := by
 induction d with
 | zero => intro t xs ys h; simp [eqT] at h
 | succ d ih =>
  intro t xs ys h m m' cs cs' hx hy j hj
  have partEq : ∀ {t' : TypeId} {ag : Bool} {k off : Nat} {x y : V}, zab P t' = some (ag, k) → part ag k xs off = some x → part ag k ys off = some y → eqT P d t' (cellsOf x) (cellsOf y) = some true → j ∈ zgi P d t' off →
    ∃ x y u, xs[j]? = some x ∧ ys[j]? = some y ∧ zdD u x y = some true := by
   intro t' ag k off x y ht h1 h2 h3 hj
   rw [zp1] at hj
   obtain ⟨i, hi, rfl⟩ := List.mem_map.1 hj
   have hne : ag = false → cellsOf x ≠ [] ∧ cellsOf y ≠ [] := fun e => by subst e; exact zrd ht h3
   obtain ⟨ds, d1⟩ := znK ht hx h1 fun e => (hne e).1
   obtain ⟨es, d2⟩ := znK ht hy h2 fun e => (hne e).2
   obtain ⟨p, q, u, k1, k2, k3⟩ := ih t' h3 d1 d2 i hi
   exact ⟨p, q, u, znJ h1 hx k1, znJ h2 hy k2, k3⟩
  unfold eqT at h
  unfold zgi at hj
  cases hu : P.underlying t with
  | none => rw [hu] at h; cases h
  | some u =>
   rw [hu] at h hj
   by_cases hst : ∃ fs, u = .struct fs
   ·obtain ⟨fs, rfl⟩ := hst
    simp only at h hj
    split at h
    ·cases h
    ·generalize fs.toList = l at h hj
     induction l with
     | nil => simp at hj
     | cons f l ihl =>
      simp only [zhB] at h
      split at h
      ·cases h
      ·split at h
       ·rename_i ag k hts
        simp only [Option.bind_eq_some_iff] at h
        obtain ⟨x, h1, y, h2, r, h3, q, h4, h5⟩ := h
        simp only [Option.some.injEq, Bool.and_eq_true] at h5
        obtain ⟨rfl, rfl⟩ := h5
        rw [List.flatMap_cons, List.mem_append] at hj
        rcases hj with hj | hj
        ·rw [Nat.zero_add] at hj; exact partEq hts h1 h2 h3 hj
        ·exact ihl h4 hj
       ·cases h
   ·by_cases har : ∃ n e, u = .array n e
    ·obtain ⟨len, e, rfl⟩ := har
     simp only at h hj
     cases hts : zab P e with
     | none => rw [hts] at h; cases h
     | some p =>
      obtain ⟨ag, k⟩ := p
      rw [hts] at h hj
      simp only at h hj
      obtain ⟨i, hi, hj⟩ := List.mem_flatMap.1 hj
      rw [List.mem_range] at hi
      rw [Nat.zero_add] at hj
      have loop : ∀ (m z : Nat), ze7 (eqT P d e) ag k xs ys m z = some true → ∀ i, z ≤ i → i < z + m → ∃ x y, part ag k xs (i * k) = some x ∧ part ag k ys (i * k) = some y ∧ eqT P d e (cellsOf x) (cellsOf y) = some true := by
       intro m
       induction m with
       | zero => intro z _ i h1 h2; omega
       | succ m ihm =>
        intro z h i hz hm
        simp only [ze7, Option.bind_eq_some_iff] at h
        obtain ⟨x, h1, y, h2, r, h3, q, h4, h5⟩ := h
        simp only [Option.some.injEq, Bool.and_eq_true] at h5
        obtain ⟨rfl, rfl⟩ := h5
        by_cases hiz : i = z
        ·subst hiz; exact ⟨x, y, h1, h2, h3⟩
        ·exact ihm (z + 1) h4 i (by omega) (by omega)
      obtain ⟨x, y, h1, h2, h3⟩ := loop len 0 h i (Nat.zero_le _) (by omega)
      exact partEq hts h1 h2 h3 hj
    ·have h' : zb3 u xs ys = some true := by
      cases u <;> first
       | exact absurd ⟨_, rfl⟩ hst
       | exact absurd ⟨_, _, rfl⟩ har
       | exact h
     have hj' : j = 0 := by
      cases u <;> first
       | exact absurd ⟨_, rfl⟩ hst
       | exact absurd ⟨_, _, rfl⟩ har
       | simpa using hj
     subst hj'
     unfold zb3 at h'
     split at h'
     ·rename_i x y
      exact ⟨x, y, u, rfl, rfl, h'⟩
     ·cases h'
theorem zmn {l : List Nat} : ∀ {n : Nat}, zi9 l n = true → ∀ j, j < n → j ∈ l
 | 0, _, j, hj => by omega
 | n + 1, h, j, hj => by
  simp only [zi9, Bool.and_eq_true] at h
  by_cases e : j = n
  ·subst e; exact (znv _ _).1 h.1
  ·exact zmn h.2 j (by omega)
def zfg : Value → Bool
 | .bool _ | .int .. | .string _ => true
 | _ => false
theorem zsY {a b : ByteArray} (h : (a == b) = true) : a = b := by
 have h' : ByteArray.beq a b = true := h
 unfold ByteArray.beq at h'
 cases a; cases b; simp_all
theorem zp2 (a : ByteArray) : (a == a) = true := by
 show ByteArray.beq a a = true
 unfold ByteArray.beq
 simp
theorem zo0 {u : TypeDesc} {x y : V} (h : zdD u x y = some true) {m m' : Mem} {c c' : Value} (h1 : VR x m c) (h2 : VR y m' c') : c = c' ∧ zfg c = true := by
 unfold zdD at h
 split at h
 ·simp only [VR] at h1 h2; subst h1; subst h2; simp at h; subst h; exact ⟨rfl, rfl⟩
 ·simp only [VR] at h1 h2; subst h1; subst h2
  split at h
  ·rename_i hk
   have := zgc.1 hk; subst this
   simp at h; subst h; exact ⟨rfl, rfl⟩
  ·cases h
 ·simp only [VR] at h1 h2; subst h1; subst h2; simp only [Option.some.injEq] at h; have := zsY h; subst this; exact ⟨rfl, rfl⟩
 ·cases h
theorem zsZ {d : Nat} {t : TypeId} {xs ys : List V} (h : eqT P d t xs ys = some true) {m m' : Mem} {cs cs' : List Value} (hx : VRl xs m cs) (hy : VRl ys m' cs') (hl : xs.length = ys.length) (hc : zi9 (zgi P d t 0) xs.length = true) :
  cs = cs' ∧ ∀ c ∈ cs, zfg c = true := by
 have l1 := VRl.length _ hx
 have l2 := VRl.length _ hy
 have each : ∀ j, j < xs.length → ∃ c, cs[j]? = some c ∧ cs'[j]? = some c ∧ zfg c = true := by
  intro j hj
  obtain ⟨x, y, u, k1, k2, k3⟩ := zua d t h hx hy j (zmn hc j hj)
  obtain ⟨c, c1, c2, _⟩ := VRl.get _ hx j x k1
  obtain ⟨c', c1', c2', _⟩ := VRl.get _ hy j y k2
  obtain ⟨rfl, hp⟩ := zo0 k3 c2 c2'
  exact ⟨c, c1, c1', hp⟩
 constructor
 ·apply List.ext_getElem?
  intro j
  by_cases hj : j < xs.length
  ·obtain ⟨c, c1, c2, _⟩ := each j hj
   rw [c1, c2]
  ·rw [List.getElem?_eq_none (by omega), List.getElem?_eq_none (by omega)]
 ·intro c hc'
  obtain ⟨j, hj⟩ := List.mem_iff_getElem?.1 hc'
  obtain ⟨c', c1, _, hp⟩ := each j (by rw [l1]; exact (List.getElem?_eq_some_iff.1 hj).1)
  rw [hj] at c1; cases c1; exact hp
theorem zhj {c : Value} (h : zfg c = true) (n : Nat) : Instr.sameBits n c c = true := by
 cases c <;> simp [zfg] at h <;> cases n <;> simp [Instr.sameBits, zp2]
theorem zm1 {ka : Bool} {cs : List Value} (h : ∀ c ∈ cs, zfg c = true) (h1 : ka = false → ∃ c, cs = [c]) : Instr.sameBits 10000 (zb8 ka cs) (zb8 ka cs) = true := by
 cases ka with
 | true =>
  simp only [zb8, Instr.sameBits, BEq.rfl, Bool.true_and]
  rw [List.all_eq_true]
  rintro ⟨p, q⟩ hpq
  have : p = q ∧ p ∈ cs := by
   have := List.of_mem_zip hpq
   obtain ⟨j, hj⟩ := List.mem_iff_getElem?.1 hpq
   rw [List.getElem?_zip_eq_some] at hj
   obtain ⟨a1, a2⟩ := hj
   rw [a1] at a2; cases a2
   exact ⟨rfl, this.1⟩
  obtain ⟨rfl, hm⟩ := this
  exact zhj (h _ hm) _
 | false =>
  obtain ⟨c, rfl⟩ := h1 rfl
  exact zhj (h c (by simp)) _
def zhk (ag : Bool) : V → Bool
 | .agg _ => ag
 | _ => !ag
theorem zhM (h : SR act hn s a w g) {x : Operand} {ag : Bool} (hf : zhk ag (zo s x) = true) (hne : ag = false → cellsOf (zo s x) ≠ []) (hr : zaM (cellsOf (zo s x)) = true) :
  ∃ cs, VRl (cellsOf (zo s x)) (zn w g) cs ∧ VRl (cellsOf (zo s x)) (zn w g).alone cs ∧ a.eval x = zb8 ag cs := by
 have hv := h.evalV x
 cases hx : zo s x with
 | agg l =>
  rw [hx] at hf hv hr
  simp only [zhk] at hf
  subst hf
  simp only [view, VR] at hv
  obtain ⟨cs, e1, e2⟩ := hv
  exact ⟨cs, e2, VRl.alone (m := zn w g) (m' := (zn w g).alone) _ hr rfl rfl e2, e1⟩
 | _ =>
  rw [hx] at hf hr hne hv
  simp only [zhk, Bool.not_eq_true'] at hf
  subst hf
  have hne' := hne rfl
  have c1 := zco hv (.inl hne')
  have c2 := VRl.ones c1
  refine ⟨_, c1, VRl.alone (m := zn w g) (m' := (zn w g).alone) _ hr rfl rfl c1, ?_⟩
  have hok : zgh (zo s x) = true := by
   rw [hx]
   unfold cellsOf at hne'
   first
    | rfl
    | (exfalso; exact hne' rfl)
  have hv2 : VR (zo s x) (zn w g) (a.eval x) := by
   rw [hx] at hok ⊢
   first
    | exact hv
    | (exfalso; simp [zgh] at hok)
  rw [ziu hv2 hok]; rfl
theorem zgR (h : SR act hn s a w g) {kt : TypeId} {ka : Bool} {kn q : Nat} (hk : zab P kt = some (ka, q)) {x : Operand} (hf : zdr P kt ka kn (zo s x) = true) :
  ∃ b cs, eqT P 8 kt (cellsOf (zo s x)) (cellsOf (zo s x)) = some b ∧ VRl (cellsOf (zo s x)) (zn w g) cs ∧ VRl (cellsOf (zo s x)) (zn w g).alone cs ∧ a.eval x = zb8 ka cs ∧ zbp P kt (a.eval x) cs ∧ zi9 (zgi P 8 kt 0) (cellsOf (zo s x)).length = true ∧ (cellsOf (zo s x)).length = kn := by
 unfold zdr at hf
 simp only [Bool.and_eq_true, Option.isSome_iff_exists] at hf
 obtain ⟨⟨b, hb⟩, hr, hln, hal, hfl⟩ := hf
 have hln := Nat.eq_of_beq_eq_true hln
 obtain ⟨cs, c1, c2, c3⟩ := zhM h (x := x) (ag := ka) (by unfold zhk; exact hfl) (fun e => by subst e; exact (zrd hk hb).1) hr
 exact ⟨b, cs, hb, c1, c2, c3, by rw [c3]; exact zlP hk hb c1, by rw [hln]; exact hal, hln⟩
theorem SR.mapAt (h : SR act hn s a w g) {x : Operand} {id : Nat} (hx : zo s x = .map id) {ka va : Bool} {kn : Nat} {es : List (List V × List V)} (hid : s.h[id]? = some (.map ka va kn es)) :
  (∀ e ∈ es, e.1.length = kn) ∧ ∃ b ents, a.eval x = .map (some b) ∧ g.J[id]? = some (b, none) ∧ g.own b = some (.ob hn id) ∧ w.heap[b]? = some (.map ents ents.size) ∧ ents.size = es.length ∧
   ∀ (i : Nat) (e : List V × List V), es[i]? = some e → ∃ x : MapEntry, ents[i]? = some x ∧ x.born = i ∧ (∃ cs, VRl e.1 (zn w g).alone cs ∧ x.key = zb8 ka cs) ∧ ∃ cs, VRl e.2 (zn w g).alone cs ∧ x.val = zb8 va cs := by
 have hv := h.evalN hx rfl
 simp only [VR] at hv
 obtain ⟨b, h1, h2⟩ := hv
 obtain ⟨k0, b', ents, k1, k2, k3, k4, k5⟩ := h.obj id _ hid
 have h1' : g.J[id]? = some (b, none) := h1
 rw [h1'] at k1; cases k1
 exact ⟨k0, b, ents, h2, h1', k2, k3, k4, k5⟩
theorem zre {b : Nat} {ents ents' : Array MapEntry} {c c' : Nat} (hb : w.heap[b]? = some (.map ents c)) : (zn w g).le (zn (w.putObj b (.map ents' c')) g) where
 M x j c h := by
  simp only [zn] at h ⊢
  by_cases e : x = b
  ·subst e; rw [hb] at h; simp [zca] at h
  ·rw [World.putObj_heap_other e]; exact h
 Z x n h := by
  simp only [zn] at h ⊢
  by_cases e : x = b
  ·subst e; rw [hb] at h; simp [zds] at h
  ·rw [World.putObj_heap_other e]; exact h
 J _ _ h := h
 L _ b l h := ⟨b, l, h, Nat.le_refl _, fun _ => rfl⟩
theorem SR.setMap (h : SR act hn s a w g) {id b kn : Nat} {ka va : Bool} {ents ents' : Array MapEntry} {es' : List (List V × List V)} (h1 : g.J[id]? = some (b, none)) (h2 : g.own b = some (.ob hn id)) (h3 : w.heap[b]? = some (.map ents ents.size)) (hsz : ents'.size = es'.length) (hkn : ∀ e ∈ es', e.1.length = kn)
  (hents : ∀ (i : Nat) (e : List V × List V), es'[i]? = some e → ∃ x : MapEntry, ents'[i]? = some x ∧ x.born = i ∧ (∃ cs, VRl e.1 (zn w g).alone cs ∧ x.key = zb8 ka cs) ∧ ∃ cs, VRl e.2 (zn w g).alone cs ∧ x.val = zb8 va cs) :
  SR act hn ⟨s.t, zah s.h id (.map ka va kn es')⟩ a (w.putObj b (.map ents' ents'.size)) g ∧ Ext (zbd act hn) w g (w.putObj b (.map ents' ents'.size)) g := by
 have le' := zre (w := w) (g := g) (ents' := ents') (c' := ents'.size) h3
 have hlt : b < w.heap.size := (Array.getElem?_eq_some_iff.1 h3).1
 refine ⟨?_, ⟨by simp, fun x _ hp => ⟨World.putObj_heap_other (fun e => by subst e; exact hp _ h2 (.inr (.inr ⟨id, rfl⟩))), rfl, rfl⟩, le', Nat.le_refl _, rfl, rfl, rfl, Nat.le_refl _⟩⟩
 refine h.setOb ⟨fun x hx => h.wf.new x (by simpa using hx), h.wf.inj, h.wf.nx⟩ le' (fun _ _ => rfl) rfl (fun x p hp _ hne => ?_) (Nat.le_refl _) ?_
 ·refine ⟨World.putObj_heap_other (fun e => ?_), rfl, rfl⟩
  subst e; rw [h2] at hp; cases hp; exact hne rfl
 ·refine ⟨hkn, b, ents', h1, h2, World.putObj_heap_same hlt, hsz, fun i e he => ?_⟩
  obtain ⟨x, g1, g2, ⟨cs, g3, g4⟩, ds, g5, g6⟩ := hents i e he
  exact ⟨x, g1, g2, ⟨cs, VRl.mono _ le'.alone g3, g4⟩, ds, VRl.mono _ le'.alone g5, g6⟩
theorem zm2 (h : SR act hn s a w g) {t : TypeId} (ho : o.op = .makeMap t none) (ka va : Bool) (kn : Nat) : zF P F n act hn ⟨(s.put o.dst (.map s.h.length)).t, s.h ++ [.map ka va kn []]⟩ a w g o := by
 obtain ⟨k1, k2⟩ := h.allocOb (o := .map #[] 0) (ob := .map ka va kn []) none (by
  intro g' hg' le
  refine ⟨fun e he => (by simp at he), w.heap.size, #[], ?_, by rw [hg']; simp [Gh.grab], by rw [zao, if_pos rfl]; rfl, rfl, fun i e he => by simp at he⟩
  rw [hg']
  show (g.J ++ [(w.heap.size, none)])[s.h.length]? = _
  rw [← h.jl]; simp)
 refine zF.value (c := .map (some w.heap.size)) (w' := w.alloc (.map #[] 0)) ?_ ?_ k2
 ·simp only [execOp, ho, Option.map_none]
  have hm : (Instr.makeMap t none).run P w = .ok (.map (some w.heap.size)) (w.alloc (.map #[] 0)) := rfl
  simp [hm]
 ·have := k1.putV o.dst (v := .map s.h.length) (c := .map (some w.heap.size)) (by
   simp only [VR]
   refine ⟨w.heap.size, ?_, rfl⟩
   show (g.J ++ [(w.heap.size, none)])[s.h.length]? = _
   rw [← h.jl]; simp)
  rwa [zgt] at this
theorem zlR (h : SR act hn s a w g) {kt : TypeId} {ka : Bool} {kn q : Nat} (hk : zab P kt = some (ka, q)) {x : Operand} (hf : zdr P kt ka kn (zo s x) = true) {ents : Array MapEntry} {es : List (List V × List V)} (hsz : ents.size = es.length) {va : Bool}
  (hents : ∀ (i : Nat) (e : List V × List V), es[i]? = some e → ∃ x : MapEntry, ents[i]? = some x ∧ x.born = i ∧ (∃ cs, VRl e.1 (zn w g).alone cs ∧ x.key = zb8 ka cs) ∧ ∃ cs, VRl e.2 (zn w g).alone cs ∧ x.val = zb8 va cs) {r : Option Nat}
  (hr : zaw (eqT P 8 kt) (cellsOf (zo s x)) es = some r) : (∀ em, (Instr.checkKey em 10000 kt (a.eval x)).run P w = .ok () w) ∧ (Instr.findKey kt (a.eval x) ents.toList).run P w = .ok (zcz ents.toList 0 r) w := by
 obtain ⟨b, cs, e1, e2, e3, e4, e5, e6, _⟩ := zgR h hk hf
 refine ⟨fun em => znI em 8 kt e1 e2 10000 (by omega) _ e5, ?_⟩
 refine zoZ (m' := (zn w g).alone) hk e2 e5 (by simp [hsz]) (fun j e x h1 h2 => ?_) hr
 obtain ⟨x', k1, _, ⟨cs', k2, k3⟩, _⟩ := hents j e h1
 rw [← Array.getElem?_toList] at k1
 rw [h2] at k1; cases k1
 exact ⟨cs', k2, k3⟩
theorem zki {eq : List V → List V → Option Bool} {key : List V} : ∀ {es : List (List V × List V)} {i : Nat}, zaw eq key es = some (some i) → ∃ e, es[i]? = some e ∧ eq key e.1 = some true
 | [], i, h => by simp [zaw] at h
 | e :: es, i, h => by
  simp only [zaw, Option.bind_eq_some_iff] at h
  obtain ⟨b, h1, h2⟩ := h
  cases b with
  | true => simp only [cond_true] at h2; cases h2; exact ⟨e, rfl, h1⟩
  | false =>
   simp only [cond_false, Option.bind_eq_some_iff] at h2
   obtain ⟨r', h3, h4⟩ := h2
   cases r' with
   | none => cases h4
   | some j =>
    cases h4
    obtain ⟨e', k1, k2⟩ := zki h3
    exact ⟨e', by simpa using k1, k2⟩
theorem znL {va : Bool} {row : List V} {m : Mem} {cs : List Value} (hv : VRl row m cs) (hl : va = false → row.length = 1) : VR (mkV va row) m (zb8 va cs) := by
 cases va with
 | true => simp only [mkV, zb8, VR]; exact ⟨cs, rfl, hv⟩
 | false =>
  have := hl rfl
  match row, this with
  | [v], _ =>
   simp only [VRl] at hv
   obtain ⟨c, cs', rfl, ⟨h1, _⟩, rfl⟩ := hv
   exact h1
theorem zg4 {ents : Array MapEntry} {i : Nat} {x : MapEntry} (h : ents[i]? = some x) : zcz ents.toList 0 (some i) = some (i, x.val) := by
 simp [zcz, h]
theorem zs0 {vt : TypeId} {n : Nat} (h : zab P vt = some (false, n)) {sh : List Sh} (hs : sh = zdQ P 8 vt) : sh.length = 1 := by
 obtain ⟨u, hu, hag⟩ := zhi h
 subst hs
 unfold zdQ
 rw [hu]
 cases u <;> simp [zbA] at hag <;> rfl
theorem zkW {t : TypeId} {ag : Bool} (h : zja P t ag = true) {i : TypeInfo} {zv : Value} (h1 : P.info? t = some i) (h2 : i.zero = some zv) (h3 : ∀ c ∈ zv.cells.toList, one c = true) : zv = zb8 ag zv.cells.toList := by
 unfold zja at h
 rw [h1] at h
 simp only [h2] at h
 cases zv with
 | agg cs => subst h; rfl
 | _ => simp only [Bool.not_eq_true'] at h; subst h; rfl
theorem ziG (h : SR act hn s a w g) {t kt vt : TypeId} {x ix : Operand} {ok : Bool} (ho : o.op = .lookup t x ix ok) {ka va : Bool} {kn m : Nat} (hkv : ze8 P t = some (kt, ka, kn, vt, va, m)) {id : Nat} (hx : zo s x = .map id) {es : List (List V × List V)}
  (hid : s.h[id]? = some (.map ka va kn es)) (hf : zdr P kt ka kn (zo s ix) = true) {r : Option Nat} (hr : zaw (eqT P 8 kt) (cellsOf (zo s ix)) es = some r) {row0 row : List V} {fnd : Bool}
  (hzf : zja P vt va = true) (h0 : (∃ i, r = some i ∧ zeG es i = some row0 ∧ fnd = true) ∨ (r = none ∧ zeroCells P vt = some row0 ∧ fnd = false)) (hsh : zbS (zdQ P 8 vt) row0 some = some row) :
  zF P F n act hn (s.put o.dst (match ok with | true => .tuple [mkV va row, .bool fnd] | false => view (mkV va row))) a w g o := by
 obtain ⟨hu, hk, hvt⟩ := ziE hkv
 obtain ⟨e0, b, ents, e1, e2, e3, e4, e5, e6⟩ := h.mapAt hx hid
 obtain ⟨c1, c2⟩ := zlR (P := P) h hk hf e5 e6 hr
 have hrow : va = false → row.length = 1 := fun e => by subst e; rw [(zsT hsh).1]; exact zs0 hvt rfl
 have key : ∃ c, VR (mkV va row) (zn w g) c ∧ (Instr.lookup t (.map (some b)) (a.eval ix) ok).run P w = .ok (if ok then .tuple #[c, .bool fnd] else c) w := by
  rcases h0 with ⟨i, rfl, hm, rfl⟩ | ⟨rfl, hz, rfl⟩
  ·unfold zeG at hm
   cases he : es[i]? with
   | none => rw [he] at hm; cases hm
   | some e =>
    rw [he] at hm
    cases hm
    obtain ⟨y, y1, y2, _, cs, y3, y4⟩ := e6 i e he
    refine ⟨y.val, ?_, ?_⟩
    ·rw [y4]
     exact VR.beside (m := (zn w g).alone) _ rfl rfl rfl (znL (zjn hsh y3) hrow)
    ·rw [zg4 y1] at c2
     simp [Instr.lookup, run_underlying hu, MapKept.run_getObj_map e4, c1, c2]
  ·obtain ⟨i, zv, z1, z2, z3⟩ := zbO hz (zn w g)
   refine ⟨zv, ?_, ?_⟩
   ·rw [zkW hzf z1 z2 z3.ones]
    exact znL (zjn hsh z3) hrow
   ·have c2' : (Instr.findKey kt (a.eval ix) ents.toList).run P w = .ok none w := c2
    simp [Instr.lookup, run_underlying hu, MapKept.run_getObj_map e4, c1, c2', zeroValue, zis z1, z2]
 obtain ⟨c, k1, k2⟩ := key
 refine zF.pure h (c := if ok then .tuple #[c, .bool fnd] else c) ?_ ?_
 ·simp only [execOp, ho, e1]
  simp [k2]
 ·cases ok with
  | true => simp only [if_true, VR, VRs]; exact ⟨[c, .bool fnd], rfl, c, [.bool fnd], rfl, k1, .bool fnd, [], rfl, rfl, rfl⟩
  | false => exact k1.view
theorem zmo (h : SR act hn s a w g) {kt : TypeId} {ka : Bool} {kn q : Nat} (hk : zab P kt = some (ka, q)) {x : Operand} (hf : zdr P kt ka kn (zo s x) = true) {ents : Array MapEntry} {es : List (List V × List V)} {va : Bool}
  (hents : ∀ (i : Nat) (e : List V × List V), es[i]? = some e → ∃ x : MapEntry, ents[i]? = some x ∧ x.born = i ∧ (∃ cs, VRl e.1 (zn w g).alone cs ∧ x.key = zb8 ka cs) ∧ ∃ cs, VRl e.2 (zn w g).alone cs ∧ x.val = zb8 va cs) {i : Nat} {e : List V × List V}
  (he : es[i]? = some e) (heq : eqT P 8 kt (cellsOf (zo s x)) e.1 = some true) (hlen : e.1.length = (cellsOf (zo s x)).length) :
  ∃ y : MapEntry, ents[i]? = some y ∧ y.key = a.eval x ∧ Instr.sameBits 10000 y.key (a.eval x) = true := by
 obtain ⟨b, cs, e1, e2, e3, e4, e5, e6, _⟩ := zgR h hk hf
 obtain ⟨y, y1, _, ⟨ds, y2, y3⟩, _⟩ := hents i e he
 obtain ⟨rfl, hp⟩ := zsZ heq e2 y2 hlen.symm e6
 have hke : y.key = a.eval x := by rw [y3, e4]
 refine ⟨y, y1, hke, ?_⟩
 rw [hke, e4]
 refine zm1 hp fun hka => ?_
 subst hka
 have := (zlP hk heq y2)
 obtain ⟨u, hu, hag⟩ := zhi hk
 simp only [zbp, hu, hag, Bool.false_eq_true, false_and, false_or, true_and] at this
 exact ⟨_, this⟩
theorem ziH {m : Mem} {ka va : Bool} {ents : Array MapEntry} {es : List (List V × List V)} (hsz : ents.size = es.length)
  (hents : ∀ (i : Nat) (e : List V × List V), es[i]? = some e → ∃ x : MapEntry, ents[i]? = some x ∧ x.born = i ∧ (∃ cs, VRl e.1 m cs ∧ x.key = zb8 ka cs) ∧ ∃ cs, VRl e.2 m cs ∧ x.val = zb8 va cs) {kr vr : List V} {kc vc : Value}
  (hk : ∃ cs, VRl kr m cs ∧ kc = zb8 ka cs) (hv : ∃ cs, VRl vr m cs ∧ vc = zb8 va cs) (i : Nat) (e : List V × List V) (he : (es ++ [(kr, vr)])[i]? = some e) :
  ∃ x : MapEntry, (ents.push { key := kc, val := vc, born := ents.size })[i]? = some x ∧ x.born = i ∧ (∃ cs, VRl e.1 m cs ∧ x.key = zb8 ka cs) ∧ ∃ cs, VRl e.2 m cs ∧ x.val = zb8 va cs := by
 rw [List.getElem?_append] at he
 split at he
 ·rename_i hi
  obtain ⟨y, y1, y2⟩ := hents i e he
  refine ⟨y, ?_, y2⟩
  rw [Array.getElem?_push, if_neg (by omega)]; exact y1
 ·rename_i hi
  have hi' : i = ents.size := by
   have := (List.getElem?_eq_some_iff.1 he).1
   simp at this; omega
  subst hi'
  simp [hsz] at he
  subst he
  exact ⟨{ key := kc, val := vc, born := ents.size }, by simp, rfl, hk, hv⟩
theorem zkX (h : SR act hn s a w g) {t kt vt : TypeId} {x ix v : Operand} (ho : o.op = .mapUpdate t x ix v) (hd : o.dst = none) {ka va : Bool} {kn m : Nat} (hkv : ze8 P t = some (kt, ka, kn, vt, va, m)) {id : Nat} (hx : zo s x = .map id) {es : List (List V × List V)}
  (hid : s.h[id]? = some (.map ka va kn es)) (hf : zdr P kt ka kn (zo s ix) = true) {r : Option Nat} (hr : zaw (eqT P 8 kt) (cellsOf (zo s ix)) es = some r)
  (hv1 : zaM (cellsOf (zo s v)) = true) (hv2 : zhk va (zo s v) = true) (hv3 : va = false → cellsOf (zo s v) ≠ []) :
  zF P F n act hn ⟨s.t, zah s.h id (.map ka va kn (zeH es r (cellsOf (zo s ix)) (cellsOf (zo s v))))⟩ a w g o := by
 obtain ⟨hu, hk, hvt⟩ := ziE hkv
 obtain ⟨e0, b, ents, e1, e2, e3, e4, e5, e6⟩ := h.mapAt hx hid
 obtain ⟨c1, c2⟩ := zlR (P := P) h hk hf e5 e6 hr
 obtain ⟨_, ks, _, k2, k3, k4, _, _, kl⟩ := zgR h hk hf
 have hlen : ∀ e ∈ es, e.1.length = (cellsOf (zo s ix)).length := fun e he => by rw [kl]; exact e0 e he
 obtain ⟨vs, _, v3, v4⟩ := zhM h hv2 hv3 hv1
 cases r with
 | none =>
  have zah := h.setMap (id := id) (kn := kn) (es' := es ++ [(cellsOf (zo s ix), cellsOf (zo s v))]) (ents' := ents.push { key := a.eval ix, val := a.eval v, born := ents.size }) (ka := ka) (va := va) e2 e3 e4 (by simp [e5])
   (fun e he => by
    rcases List.mem_append.1 he with he | he
    ·exact e0 e he
    ·simp at he; subst he; exact kl)
   (fun i e he => ziH e5 e6 ⟨ks, k3, k4⟩ ⟨vs, v3, v4⟩ i e he)
  have c2' : (Instr.findKey kt (a.eval ix) ents.toList).run P w = .ok none w := c2
  refine zF.skip (g' := g) (w' := w.putObj b (.map (ents.push { key := a.eval ix, val := a.eval v, born := ents.size }) (ents.size + 1))) ?_ hd ?_ ?_
  ·simp only [execOp, ho, e1]
   simp [Instr.mapUpdate, run_underlying hu, MapKept.run_getObj_map e4, c1, c2', MapKept.run_setObj_map _ e4, World.putObj]
  ·have := zah.1; simp only [Array.size_push] at this; exact this
  ·have := zah.2; simp only [Array.size_push] at this; exact this
 | some i =>
  obtain ⟨e, he, heq⟩ := zki hr
  obtain ⟨y, y1, y2, y3⟩ := zmo h hk hf e6 he heq (hlen e (List.mem_of_getElem? he))
  have hi : i < ents.size := (Array.getElem?_eq_some_iff.1 y1).1
  have zah := h.setMap (id := id) (kn := kn) (es' := es.set i (cellsOf (zo s ix), cellsOf (zo s v))) (ents' := ents.modify i fun z => { z with key := a.eval ix, val := a.eval v }) (ka := ka) (va := va) e2 e3 e4 (by simp [e5])
   (fun e he => by
    rcases List.mem_or_eq_of_mem_set he with he | he
    ·exact e0 e he
    ·subst he; exact kl)
   (fun j f hf' => by
    rw [List.getElem?_set] at hf'
    split at hf'
    ·rename_i hij
     subst hij
     split at hf'
     ·cases hf'
      obtain ⟨y', y1', y2', _⟩ := e6 i e he
      rw [y1] at y1'; cases y1'
      exact ⟨{ y with key := a.eval ix, val := a.eval v }, by rw [Array.getElem?_modify, if_pos rfl, y1]; rfl, y2', ⟨ks, k3, k4⟩, vs, v3, v4⟩
     ·cases hf'
    ·rename_i hij
     obtain ⟨z, z1, z2⟩ := e6 j f hf'
     exact ⟨z, by rw [Array.getElem?_modify, if_neg hij, z1], z2⟩)
  rw [zg4 y1] at c2
  refine zF.skip (g' := g) (w' := w.putObj b (.map (ents.modify i fun z => { z with key := a.eval ix, val := a.eval v }) ents.size)) ?_ hd ?_ ?_
  ·simp only [execOp, ho, e1]
   simp [Instr.mapUpdate, run_underlying hu, MapKept.run_getObj_map e4, c1, c2, MapKept.run_setObj_map _ e4, World.putObj, y1, Instr.keyThatStays, y3]
  ·have := zah.1; simp only [Array.size_modify] at this; exact this
  ·have := zah.2; simp only [Array.size_modify] at this; exact this
theorem zlS (h : SR act hn s a w g) {t kt vt : TypeId} {x ix : Operand} (ho : o.op = .mapEntry t x ix) {ka va : Bool} {kn m : Nat} (hkv : ze8 P t = some (kt, ka, kn, vt, va, m)) {id : Nat} (hx : zo s x = .map id) {es : List (List V × List V)}
  (hid : s.h[id]? = some (.map ka va kn es)) (hf : zdr P kt ka kn (zo s ix) = true) {r : Option Nat} (hr : zaw (eqT P 8 kt) (cellsOf (zo s ix)) es = some r) {z : List V} (hz : zeroCells P vt = some z) (hzr : zaM z = true) (hzf : zja P vt va = true) :
  zF P F n act hn ⟨(s.put o.dst (.tuple [.undef, .int .i64 ((zbW es r : Nat) : Int)])).t, zah s.h id (.map ka va kn (zcV es r (cellsOf (zo s ix)) z))⟩ a w g o := by
 obtain ⟨hu, hk, hvt⟩ := ziE hkv
 obtain ⟨e0, b, ents, e1, e2, e3, e4, e5, e6⟩ := h.mapAt hx hid
 obtain ⟨c1, c2⟩ := zlR (P := P) h hk hf e5 e6 hr
 obtain ⟨_, ks, _, k2, k3, k4, _, _, kl⟩ := zgR h hk hf
 obtain ⟨iz, zv, z1, z2, z3⟩ := zbO hz (zn w g)
 have zc := zkW hzf z1 z2 z3.ones
 have z4 := VRl.alone (m := zn w g) (m' := (zn w g).alone) _ hzr rfl rfl z3
 have fin : ∀ {v : Value} {st : Nat} {w' : World} {es' : List (List V × List V)}, (Instr.mapEntry t (.map (some b)) (a.eval ix)).run P w = .ok (.tuple #[v, goInt st]) w' → SR act hn ⟨s.t, zah s.h id (.map ka va kn es')⟩ a w' g → Ext (zbd act hn) w g w' g →
   zF P F n act hn ⟨(s.put o.dst (.tuple [.undef, .int .i64 ((st : Nat) : Int)])).t, zah s.h id (.map ka va kn es')⟩ a w g o := by
  intro v st w' es' hrun hs he
  refine zF.value (c := .tuple #[v, goInt st]) (w' := w') (g' := g) ?_ ?_ he
  ·simp only [execOp, ho, e1]
   simp [hrun]
  ·have := hs.putV o.dst (v := .tuple [.undef, .int .i64 ((st : Nat) : Int)]) (c := .tuple #[v, goInt st]) (by
    simp only [VR, VRs]
    exact ⟨[v, goInt st], rfl, v, [goInt st], rfl, trivial, goInt st, [], rfl, rfl, rfl⟩)
   rwa [zgt] at this
 cases r with
 | none =>
  have zah := h.setMap (id := id) (kn := kn) (es' := es ++ [(cellsOf (zo s ix), z)]) (ents' := ents.push { key := a.eval ix, val := zv, born := ents.size }) (ka := ka) (va := va) e2 e3 e4 (by simp [e5])
   (fun e he => by
    rcases List.mem_append.1 he with he | he
    ·exact e0 e he
    ·simp at he; subst he; exact kl)
   (fun i e he => ziH e5 e6 ⟨ks, k3, k4⟩ ⟨zv.cells.toList, z4, zc⟩ i e he)
  have c2' : (Instr.findKey kt (a.eval ix) ents.toList).run P w = .ok none w := c2
  simp only [Array.size_push] at zah
  have e7 : zbW es none = ents.size := e5.symm
  rw [e7]
  refine fin (v := zv) (w' := w.putObj b (.map (ents.push { key := a.eval ix, val := zv, born := ents.size }) (ents.size + 1))) ?_ zah.1 zah.2
  simp [Instr.mapEntry, run_underlying hu, MapKept.run_getObj_map e4, c1, c2', MapKept.run_setObj_map _ e4, World.putObj, zgP z1 z2]
 | some i =>
  obtain ⟨e, he, heq⟩ := zki hr
  obtain ⟨y, y1, y2, y3⟩ := zmo h hk hf e6 he heq (by rw [kl]; exact e0 e (List.mem_of_getElem? he))
  obtain ⟨y', y1', y4, y5, y6⟩ := e6 i e he
  rw [y1] at y1'; cases y1'
  have zah := h.setMap (id := id) (kn := kn) (es' := es) (ents' := ents.modify i fun z => { z with key := a.eval ix }) (ka := ka) (va := va) e2 e3 e4 (by simp [e5]) e0
   (fun j f hf' => by
    by_cases hij : i = j
    ·subst hij
     rw [he] at hf'; cases hf'
     exact ⟨{ y with key := a.eval ix }, by rw [Array.getElem?_modify, if_pos rfl, y1]; rfl, y4, by rw [← y2]; exact y5, y6⟩
    ·obtain ⟨z, z1, z2⟩ := e6 j f hf'
     exact ⟨z, by rw [Array.getElem?_modify, if_neg hij, z1], z2⟩)
  rw [zg4 y1] at c2
  simp only [Array.size_modify] at zah
  refine fin (v := y.val) (st := i) (w' := w.putObj b (.map (ents.modify i fun z => { z with key := a.eval ix }) ents.size)) ?_ zah.1 zah.2
  simp [Instr.mapEntry, run_underlying hu, MapKept.run_getObj_map e4, c1, c2, MapKept.run_setObj_map _ e4, World.putObj, y1, Instr.keyThatStays, y3, y4]
theorem zkj (h : SR act hn s a w g) {t : TypeId} {x st v : Operand} (ho : o.op = .entryStore t x st v) (hd : o.dst = none) {ka va : Bool} {kn : Nat} {id : Nat} (hx : zo s x = .map id) {es : List (List V × List V)}
  (hid : s.h[id]? = some (.map ka va kn es)) {i : Int} (hi : zo s st = .int .i64 i) (h0 : 0 ≤ i) (hl : i.toNat < es.length)
  (hv1 : zaM (cellsOf (zo s v)) = true) (hv2 : zhk va (zo s v) = true) (hv3 : va = false → cellsOf (zo s v) ≠ []) :
  zF P F n act hn ⟨s.t, zah s.h id (.map ka va kn (zfS es i.toNat (cellsOf (zo s v))))⟩ a w g o := by
 obtain ⟨e0, b, ents, e1, e2, e3, e4, e5, e6⟩ := h.mapAt hx hid
 obtain ⟨vs, _, v3, v4⟩ := zhM h hv2 hv3 hv1
 have hvi := h.evalN hi rfl
 simp only [VR] at hvi
 obtain ⟨j, rfl⟩ := Int.eq_ofNat_of_zero_le h0
 simp only [Int.toNat_natCast] at hl ⊢
 obtain ⟨y, y1, y2, _⟩ := e6 j es[j] (List.getElem?_eq_getElem hl)
 have zah := h.setMap (id := id) (kn := kn) (es' := zfS es j (cellsOf (zo s v))) (ents' := ents.modify j fun z => { z with val := a.eval v }) (ka := ka) (va := va) e2 e3 e4 (by simp [zfS, e5])
  (fun e he => by
   obtain ⟨q, hq⟩ := List.mem_iff_getElem?.1 he
   unfold zfS at hq
   rw [List.getElem?_modify] at hq
   split at hq
   ·cases hg : es[q]? with
    | none => rw [hg] at hq; cases hq
    | some f => rw [hg] at hq; cases hq; exact e0 f (List.mem_of_getElem? hg)
   ·cases hg : es[q]? with
    | none => rw [hg] at hq; cases hq
    | some f => rw [hg] at hq; cases hq; exact e0 f (List.mem_of_getElem? hg))
  (fun q f hf' => by
   unfold zfS at hf'
   rw [List.getElem?_modify] at hf'
   split at hf'
   ·rename_i hij
    subst hij
    rw [List.getElem?_eq_getElem hl] at hf'
    cases hf'
    obtain ⟨y', y1', y4, y5, y6⟩ := e6 j es[j] (List.getElem?_eq_getElem hl)
    exact ⟨{ y' with val := a.eval v }, by rw [Array.getElem?_modify, if_pos rfl, y1']; rfl, y4, y5, vs, v3, v4⟩
   ·rename_i hij
    have hf2 : es[q]? = some f := by
     cases hg : es[q]? with
     | none => rw [hg] at hf'; cases hf'
     | some f' => rw [hg] at hf'; cases hf'; rfl
    obtain ⟨z, z1, z2⟩ := e6 q f hf2
    exact ⟨z, by rw [Array.getElem?_modify, if_neg hij, z1], z2⟩)
 simp only [Array.size_modify] at zah
 have hfind : ents.findIdx? (fun e => (e.born : Int) == ((j : Nat) : Int)) = some j := by
  rw [Array.findIdx?_eq_some_iff_getElem]
  have hj : j < ents.size := by omega
  refine ⟨hj, ?_, fun k hk => ?_⟩
  ·have : ents[j] = y := by rw [Array.getElem?_eq_getElem hj] at y1; exact Option.some.inj y1
   rw [this, y2]; simp
  ·obtain ⟨z, z1, z2, _⟩ := e6 k (es[k]'(by omega)) (List.getElem?_eq_getElem (by omega))
   have : ents[k]'(by omega) = z := by rw [Array.getElem?_eq_getElem (by omega)] at z1; exact Option.some.inj z1
   rw [this, z2]; simp; omega
 refine zF.skip (g' := g) (w' := w.putObj b (.map (ents.modify j fun z => { z with val := a.eval v }) ents.size)) ?_ hd zah.1 zah.2
 simp only [execOp, ho, e1, hvi]
 simp [Instr.entryStore, MapKept.run_getObj_map e4, MapKept.run_setObj_map _ e4, World.putObj, hfind, Go.asInt, asIntOf]
end Go.Ab
namespace Go.Ab
variable {act hn : Nat} {s s' : St} {a : Act} {w : World} {g : Gh} {G : Cfg} {C : CallT} {f : FuncId} {dr : Bool} {F : Fence} {n : Nat} {o : Oper}
theorem zx {R : Type} {b : Bool} {k : Option R} {r : R} (h : ifK b k = some r) : b = true ∧ k = some r := by
 cases b with
 | false => cases h
 | true => exact ⟨rfl, h⟩
theorem zj {A R : Type} {x : Option A} {k : A → Option R} {r : R} (h : x.bind k = some r) : ∃ y, x = some y ∧ k y = some r := by
 cases x with
 | none => cases h
 | some y => exact ⟨y, rfl, h⟩
theorem zaf {R : Type} {b : Bool} {k : Option R} {r : R} (h : cond b k none = some r) : b = true ∧ k = some r := by
 cases b with
 | false => cases h
 | true => exact ⟨rfl, h⟩
theorem zcO {R : Type} {b : Bool} {k : Option R} {r : R} (h : cond b none k = some r) : b = false ∧ k = some r := by
 cases b with
 | true => cases h
 | false => exact ⟨rfl, h⟩
theorem zrf (h : SR act hn s a w g) {x : Operand} (ho : o.op = .move x) (hd : zq G C f dr o s = some s') : zF G.P F n act hn s' a w g o := by
 unfold zq zA at hd
 simp only [ho] at hd
 cases hd
 exact zpV h ho
theorem zo1 (h : SR act hn s a w g) {x : Operand} (ho : o.op = .assign x) (hd : zq G C f dr o s = some s') : zF G.P F n act hn s' a w g o := by
 unfold zq zA at hd
 simp only [ho] at hd
 split at hd
 ·rename_i d hdst
  split at hd
  ·rename_i sz _ h1 h2 h3
   obtain ⟨b, hd⟩ := zx hd
   simp only [Bool.and_eq_true] at b
   cases hd
   exact zmi h ho hdst (.inl rfl) h2 (Nat.le_of_ble_eq_true b.2)
  ·rename_i sz _ h1 h2 h3
   obtain ⟨b, hd⟩ := zx hd
   simp only [Bool.and_eq_true] at b
   cases hd
   exact zmi h ho hdst (.inr rfl) h2 (Nat.le_of_ble_eq_true b.2)
  ·cases hd
   exact zit h ho
 ·rename_i hdst
  cases hd
  have := zit (P := G.P) (F := F) (n := n) h ho
  rw [hdst] at this
  exact this
theorem zrg (h : SR act hn s a w g) {c x y : Operand} (ho : o.op = .pick c x y) (hd : zq G C f dr o s = some s') : zF G.P F n act hn s' a w g o := by
 unfold zq zA at hd
 simp only [ho] at hd
 split at hd
 ·rename_i q hq
  cases q <;> (simp only [cond_true, cond_false] at hd; cases hd; exact zpW h ho hq)
 ·cases hd
theorem zp3 (h : SR act hn s a w g) {t : TypeId} (ho : o.op = .alloc t) (hd : zq G C f dr o s = some s') : zF G.P F n act hn s' a w g o := by
 unfold zq zA at hd
 simp only [ho] at hd
 split at hd
 ·rename_i d z hdst hz
  split at hd
  ·cases hd
   exact zoM h ho hdst hz
  ·obtain ⟨_, hd⟩ := zx hd
   obtain ⟨i, zv, h1, h2, h3⟩ := zbO hz (zn w g)
   split at hd
   ·obtain ⟨hsz, hd⟩ := zx hd
    cases hd
    refine zjG h (cs := zv.cells) (t := t) ?_ hdst h3 (Nat.le_of_ble_eq_true hsz)
    simp only [execOp, ho, Instr.alloc]
    simp [zgP h1 h2, zdk]
   ·cases hd
    refine zfT h (cs := zv.cells) (t := t) ?_ hdst h3
    simp only [execOp, ho, Instr.alloc]
    simp [zgP h1 h2, zdk]
 ·cases hd
theorem zs1 (h : SR act hn s a w g) {t : TypeId} {x : Operand} (ho : o.op = .box t x) (hd : zq G C f dr o s = some s') : zF G.P F n act hn s' a w g o := by
 unfold zq zA at hd
 simp only [ho] at hd
 split at hd
 ·rename_i d hdst
  obtain ⟨hb, hd⟩ := zx hd
  have hne : cellsOf (zo s x) ≠ [] := by intro e; rw [e] at hb; cases hb
  split at hd
  ·cases hd
   exact zqZ h ho hdst (.inl hne)
  ·obtain ⟨_, hd⟩ := zx hd
   have hcs := zco (h.evalV x) (.inl hne)
   split at hd
   ·rename_i hx _
    obtain ⟨hsz, hd⟩ := zx hd
    cases hd
    rw [hx] at hcs
    refine zjG h (cs := (a.eval x).cells) (t := t) ?_ hdst hcs (Nat.le_of_ble_eq_true hsz)
    simp only [execOp, ho, Instr.box]
    simp [zdk]
   ·rename_i cs hx _
    split at hd
    ·rename_i e sz m hs
     obtain ⟨hb2, hd⟩ := zx hd
     cases hd
     simp only [Bool.and_eq_true] at hb2
     exact znH (e := e) h ho hdst hx (Nat.le_of_ble_eq_true hb2.1) (Nat.le_of_ble_eq_true hb2.2.1) (Nat.eq_of_beq_eq_true hb2.2.2.1) hb2.2.2.2
    ·cases hd
   ·cases hd
    refine zfT h (cs := (a.eval x).cells) (t := t) ?_ hdst hcs
    simp only [execOp, ho, Instr.box]
    simp [zdk]
 ·cases hd
theorem zp4 (h : SR act hn s a w g) {t : TypeId} {parts : Array (Nat × Operand)} (ho : o.op = .build t parts) (hd : zq G C f dr o s = some s') : zF G.P F n act hn s' a w g o := by
 unfold zq zA at hd
 simp only [ho] at hd
 split at hd
 ·rename_i z fs hz hu
  split at hd
  ·rename_i places hp
   obtain ⟨cs, hf, hd⟩ := zj hd
   obtain ⟨_, hd⟩ := zx hd
   rw [zbZ] at hd
   obtain ⟨v, hk, hd⟩ := zj hd
   cases hd
   obtain ⟨i, zv, h1, h2, h3⟩ := zbO hz (zn w g)
   obtain ⟨cells, k1, k2, _, _⟩ := zlM h (place' := fun i => places.toArray[i]?) (fun i x e => by simpa using e) parts.toList _ hf h3
   exact zjM h ho (znG h1 hu h2 hp k1) k2 hk
  ·cases hd
 ·rename_i z _ e hz hu
  split at hd
  ·rename_i ie hie
   obtain ⟨cs, hf, hd⟩ := zj hd
   obtain ⟨_, hd⟩ := zx hd
   rw [zbZ] at hd
   obtain ⟨v, hk, hd⟩ := zj hd
   cases hd
   obtain ⟨i, zv, h1, h2, h3⟩ := zbO hz (zn w g)
   obtain ⟨cells, k1, k2, _, _⟩ := zlM h (place' := fun i => some (i * ie.size, ie.size)) (fun i x e => e) parts.toList _ hf h3
   exact zjM h ho (zoW h1 hu h2 hie k1) k2 hk
  ·cases hd
 ·cases hd
theorem zkY (h : SR act hn s a w g) {t : TypeId} {len : Nat} {parts : Array (Nat × Operand)} (ho : o.op = .buildSlice t len parts) (hd : zq G C f dr o s = some s') : zF G.P F n act hn s' a w g o := by
 unfold zq zA at hd
 simp only [ho] at hd
 split at hd
 ·rename_i e m _ hs
  split at hd
  ·rename_i z hz
   obtain ⟨hb, hd⟩ := zx hd
   simp only [Bool.and_eq_true] at hb
   obtain ⟨cs, hf, hd⟩ := zj hd
   obtain ⟨_, hd⟩ := zx hd
   rw [zbZ] at hd
   obtain ⟨v, hk, hd⟩ := zj hd
   cases hd
   exact zkg h ho hs hz (Nat.eq_of_beq_eq_true hb.1.1) (Nat.le_of_ble_eq_true hb.1.2) (Nat.le_of_ble_eq_true hb.2) hf hk
  ·cases hd
 ·cases hd
theorem zrh (h : SR act hn s a w g) (hG : zcg G w g) {t : TypeId} {x : Operand} (ho : o.op = .load t x) (hd : zq G C f dr o s = some s') : zF G.P F n act hn s' a w g o := by
 unfold zq zA at hd
 simp only [ho] at hd
 split at hd
 ·rename_i ag m ht
  rw [zfY] at hd
  obtain ⟨v, hl, hd⟩ := zj hd
  cases hd
  exact zoX h hG ho ht hl
 ·cases hd
theorem zp5 (h : SR act hn s a w g) {t : TypeId} {y x : Operand} (ho : o.op = .store t y x) (hd : zq G C f dr o s = some s') : zF G.P F n act hn s' a w g o := by
 unfold zq zA at hd
 simp only [ho] at hd
 split at hd
 ·rename_i ag m i ht hdst
  obtain ⟨hb, hd⟩ := zx hd
  simp only [Bool.and_eq_true] at hb
  have hm := Nat.eq_of_beq_eq_true hb.1
  have hm0 : 0 < m := Nat.le_of_ble_eq_true hb.2
  exact zoN h ho hdst ht hm (.inl (by intro e; rw [e] at hm; simp at hm; omega)) hd
 ·cases hd
theorem zm3 (h : SR act hn s a w g) {x : Operand} (ho : o.op = .nilCheck x) (hd : zq G C f dr o s = some s') : zF G.P F n act hn s' a w g o := by
 unfold zq zA at hd
 simp only [ho] at hd
 split at hd <;> first
  | (cases hd; done)
  | skip
 ·rename_i hx; cases hd; exact zda h ho (.inl ⟨_, _, rfl, hx, rfl⟩)
 ·rename_i hx; cases hd; exact zda h ho (.inr (.inl ⟨_, _, hx, rfl⟩))
 ·rename_i hx; cases hd; exact zda h ho (.inr (.inr (.inl ⟨_, _, hx, rfl⟩)))
 ·rename_i hx; cases hd; exact zda h ho (.inr (.inr (.inr (.inl ⟨_, _, hx, rfl⟩))))
 ·rename_i hx; cases hd; exact zda h ho (.inr (.inr (.inr (.inr ⟨_, _, _, hx, rfl⟩))))
theorem zp6 (h : SR act hn s a w g) {op : BinOp} {t t' : TypeId} {x y : Operand} (ho : o.op = .binOp op t x y t') (hd : zq G C f dr o s = some s') : zF G.P F n act hn s' a w g o := by
 unfold zq zA at hd
 simp only [ho] at hd
 split at hd
 ·rename_i k1 i k2 j hx hy
  split at hd
  ·obtain ⟨hk, hd⟩ := zx hd
   obtain ⟨hj, hd⟩ := zcO hd
   cases hd
   exact zq1 h ho hx hy (zgc.1 hk) (by simpa using hj)
  ·obtain ⟨hk, hd⟩ := zx hd
   obtain ⟨hj, hd⟩ := zcO hd
   cases hd
   exact zq2 h ho hx hy (zgc.1 hk) (by simpa using hj)
  ·obtain ⟨hj, hd⟩ := zcO hd
   cases hd
   exact zq3 h ho hx hy (by simpa using hj)
  ·obtain ⟨hj, hd⟩ := zcO hd
   cases hd
   exact zq4 h ho hx hy (by simpa using hj)
  ·obtain ⟨hk, hd⟩ := zx hd
   obtain ⟨v, hv, hd⟩ := zj hd
   cases hd
   exact zoQ h ho hx hy (zgc.1 hk) hv
 ·rename_i p q hx hy
  split at hd
  ·rename_i ht; cases hd; exact zig h ho hx hy ht (.inl ⟨rfl, rfl⟩)
  ·rename_i ht; cases hd; exact zig h ho hx hy ht (.inr ⟨rfl, rfl⟩)
  ·cases hd
 ·rename_i fl rows hx hy
  obtain ⟨hb, hd⟩ := zx hd
  have ht : ∃ e, G.P.underlying t = some (.slice e) := by
   split at hb
   ·rename_i e he; exact ⟨e, he⟩
   ·cases hb
  obtain ⟨e, ht⟩ := ht
  split at hd
  ·obtain ⟨b, hb, hd⟩ := zj hd
   cases hd
   exact ziy h ho hx rfl hy hb ht (.inl ⟨rfl, rfl⟩)
  ·obtain ⟨b, hb, hd⟩ := zj hd
   cases hd
   exact ziy h ho hx rfl hy hb ht (.inr ⟨rfl, rfl⟩)
  ·cases hd
 ·rename_i xs ys hx hy
  obtain ⟨hb, hd⟩ := zx hd
  simp only [Bool.and_eq_true, Bool.not_eq_true'] at hb
  obtain ⟨hg, hu⟩ := hb
  have ht : ∃ u, G.P.underlying t = some u ∧ zbA u = true := by
   split at hu
   ·rename_i fs hfs; exact ⟨_, hfs, rfl⟩
   ·rename_i n' e' hfs; exact ⟨_, hfs, rfl⟩
   ·cases hu
  split at hd
  ·obtain ⟨b, hb, hd⟩ := zj hd
   cases hd
   exact zix h ho hx hy hg ht hb (.inl ⟨rfl, rfl⟩)
  ·obtain ⟨b, hb, hd⟩ := zj hd
   cases hd
   exact zix h ho hx hy hg ht hb (.inr ⟨rfl, rfl⟩)
  ·cases hd
 ·cases hd
theorem zri (h : SR act hn s a w g) {op : UnOp} {t : TypeId} {x : Operand} (ho : o.op = .unOp op t x) (hd : zq G C f dr o s = some s') : zF G.P F n act hn s' a w g o := by
 unfold zq zA at hd
 simp only [ho] at hd
 split at hd
 ·rename_i hx; cases hd; exact zoO h ho hx
 ·rename_i hx; cases hd; exact zoP h ho hx
 ·cases hd
theorem znM (h : SR act hn s a w g) {t t' : TypeId} {x : Operand} (ho : o.op = .convert t t' x) (hd : zq G C f dr o s = some s') : zF G.P F n act hn s' a w g o := by
 unfold zq zA at hd
 simp only [ho] at hd
 split at hd
 ·rename_i h1 h2 hx
  cases hd
  exact zmY h ho h2 (by rw [h1]; rfl) hx
 ·cases hd
theorem zp7 (h : SR act hn s a w g) {t : TypeId} {x ix : Operand} (ho : o.op = .index t x ix) (hd : zq G C f dr o s = some s') : zF G.P F n act hn s' a w g o := by
 unfold zq zA at hd
 simp only [ho] at hd
 split at hd
 ·rename_i b k i hu hx hi
  obtain ⟨m, hm, hd⟩ := zj hd
  cases hd
  have hv := h.evalN hx rfl
  have hw := h.evalN hi rfl
  simp only [VR] at hv hw
  unfold strAt at hm
  split at hm
  ·rename_i hb
   cases hm
   refine zF.pure h (c := .int .u8 ((b.get! i.toNat).toNat : Int)) ?_ (by simp only [VR])
   simp only [execOp, ho, hv, hw]
   have := run_index_string w t b k i hu
   rw [dif_pos hb] at this
   simp only [Sem.run_bind, this, Result.andThen_ok, Sem.run_pure]
   congr 4
   have hlt : i.toNat < b.size := by omega
   simp [ByteArray.get!, hlt, ByteArray.getElem_eq_getElem_data]
  ·cases hm
 ·rename_i m e cs k i hu hx hi
  split at hd
  ·rename_i ag sz hs
   obtain ⟨h0, hd⟩ := zaf hd
   obtain ⟨hl, hd⟩ := zaf hd
   rw [zcc] at hd
   obtain ⟨v, hp, hd⟩ := zj hd
   cases hd
   exact zlO h ho hu hx hi hs (of_decide_eq_true h0) (of_decide_eq_true hl) hp
  ·cases hd
 ·cases hd
theorem zm4 (h : SR act hn s a w g) {q : Fn} {fi ca : Array Operand} (ho : o.op = .makeFunc q fi ca) (hd : zq G C f dr o s = some s') : zF G.P F n act hn s' a w g o := by
 unfold zq zA at hd
 simp only [ho] at hd
 split at hd <;> rename_i heq <;> first
  | (cases heq; cases hd; exact zlJ h ho)
  | (cases heq; done)
  | (cases hd; done)
theorem zlT (h : SR act hn s a w g) (hG : zcg G w g) {t : TypeId} {x : Operand} {fd : Nat} (ho : o.op = .fieldAddr t x fd) (hd : zq G C f dr o s = some s') : zF G.P F n act hn s' a w g o := by
 unfold zq zA at hd
 simp only [ho] at hd
 split at hd
 ·rename_i off ft hf
  split at hd
  ·rename_i ag m ht
   obtain ⟨hm, hd⟩ := zx hd
   have hm : 0 < m := Nat.le_of_ble_eq_true hm
   split at hd <;> first
    | (cases hd; done)
    | skip
   ·rename_i hx; cases hd; exact zdB h ho hf ht hm (.inl ⟨_, _, rfl, zdw hx (fun _ _ e => by cases e) (fun e => by cases e), rfl⟩)
   ·rename_i hx; cases hd; exact zdB h ho hf ht hm (.inr (.inl ⟨_, _, zdw hx (fun _ _ e => by cases e) (fun e => by cases e), rfl⟩))
   ·rename_i hx; cases hd; exact zdB h ho hf ht hm (.inr (.inr (.inl ⟨_, _, zdw hx (fun _ _ e => by cases e) (fun e => by cases e), rfl⟩)))
   ·rename_i hx; cases hd; exact zkh h ho hf ht hm (h.evalA hG hx rfl)
   ·rename_i hx; cases hd; exact zdB h ho hf ht hm (.inr (.inr (.inr (.inr ⟨_, _, _, _, _, zdw hx (fun _ _ e => by cases e) (fun e => by cases e), rfl⟩))))
  ·cases hd
 ·cases hd
theorem zp8 (h : SR act hn s a w g) {t : TypeId} {x : Operand} {fd : Nat} (ho : o.op = .field t x fd) (hd : zq G C f dr o s = some s') : zF G.P F n act hn s' a w g o := by
 unfold zq zA at hd
 simp only [ho] at hd
 split at hd
 ·rename_i off ft cs hf hx
  split at hd
  ·rename_i ag m ht
   obtain ⟨v, hp, hd⟩ := zj hd
   cases hd
   exact zoR h ho hf ht hx hp
  ·cases hd
 ·cases hd
theorem zlU (h : SR act hn s a w g) (hG : zcg G w g) {t : TypeId} {x ix : Operand} (ho : o.op = .indexAddr t x ix) (hd : zq G C f dr o s = some s') : zF G.P F n act hn s' a w g o := by
 unfold zq zA at hd
 simp only [ho] at hd
 split at hd
 ·rename_i k i hi
  split at hd
  ·rename_i e sz b hs
   obtain ⟨h0, hd⟩ := zx hd
   split at hd
   ·rename_i fl rows hx
    obtain ⟨row, hr, hd⟩ := zj hd
    rw [zat] at hd
    obtain ⟨row', hr', hd⟩ := zj hd
    cases hd
    exact zkf h ho hs hi hx hr hr'
   ·rename_i id len sz' hx
    obtain ⟨hsz, hd2⟩ := zx hd
    have := Nat.eq_of_beq_eq_true hsz
    subst this
    obtain ⟨h1, hd3⟩ := zaf hd2
    obtain ⟨h2, hd4⟩ := zaf hd3
    cases hd4
    exact zlK h ho hs hi hx (of_decide_eq_true h1) (of_decide_eq_true h2)
   ·cases hd
  ·split at hd
   ·rename_i e sz m hs
    obtain ⟨h0, hd⟩ := zx hd
    split at hd <;> first
     | (cases hd; done)
     | skip
    ·rename_i hx
     obtain ⟨h1, hd3⟩ := zaf hd
     obtain ⟨h2, hd4⟩ := zaf hd3
     cases hd4
     exact zhh h ho hs hi (of_decide_eq_true h1) (of_decide_eq_true h2) (.inl ⟨_, _, rfl, zdw hx (fun _ _ e => by cases e) (fun e => by cases e), rfl⟩)
    ·rename_i hx
     obtain ⟨h1, hd3⟩ := zaf hd
     obtain ⟨h2, hd4⟩ := zaf hd3
     cases hd4
     exact zhh h ho hs hi (of_decide_eq_true h1) (of_decide_eq_true h2) (.inr (.inl ⟨_, _, zdw hx (fun _ _ e => by cases e) (fun e => by cases e), rfl⟩))
    ·rename_i hx
     split at hd
     ·obtain ⟨j, _, j2, j3, j4⟩ := zkV _ _ hd
      cases j4
      have := ziD (F := F) (n := n) h ho hs hi (by omega) (by omega : i.toNat < m) (h.evalA hG hx rfl)
      rw [show i.toNat = j by omega] at this
      exact this
     ·obtain ⟨h1, hd3⟩ := zaf hd
      obtain ⟨h2, hd4⟩ := zaf hd3
      cases hd4
      exact ziD h ho hs hi (of_decide_eq_true h1) (of_decide_eq_true h2) (h.evalA hG hx rfl)
   ·cases hd
 ·cases hd
theorem zp9 (h : SR act hn s a w g) {t : TypeId} {x : Operand} {lo hi mx : Option Operand} (ho : o.op = .slice t x lo hi mx) (hd : zq G C f dr o s = some s') : zF G.P F n act hn s' a w g o := by
 unfold zq zA at hd
 simp only [ho] at hd
 split at hd <;> rename_i heq <;> first
  | (cases heq; done)
  | (cases hd; done)
  | skip
 cases heq
 split at hd
 ·rename_i e sz b fl rows hs hx
  obtain ⟨H, hd, hH⟩ := zjL hd
  obtain ⟨L, hd, hL⟩ := zjL hd
  obtain ⟨hh, hd⟩ := zaf hd
  cases hd
  have hH' : (hi = none ∧ H = rows.length) ∨ ∃ (y : Operand) (q : IntKind) (i : Int), hi = some y ∧ zo s y = .int q i ∧ 0 ≤ i ∧ H = i.toNat ∧ H ≤ rows.length := by
   rcases hH with ⟨h1, h2⟩ | ⟨q, i, h1, h2, h3, h4⟩
   ·left; cases hi with
    | none => exact ⟨rfl, h2⟩
    | some _ => cases h1
   ·right; cases hi with
    | none => cases h1
    | some y => simp at h1; exact ⟨y, q, i, rfl, h1, h2, h3, h4⟩
  have hL' : (lo = none ∧ L = 0) ∨ ∃ (y : Operand) (q : IntKind) (i : Int), lo = some y ∧ zo s y = .int q i ∧ 0 ≤ i ∧ L = i.toNat ∧ L ≤ H := by
   rcases hL with ⟨h1, h2⟩ | ⟨q, i, h1, h2, h3, h4⟩
   ·left; cases lo with
    | none => exact ⟨rfl, h2⟩
    | some _ => cases h1
   ·right; cases lo with
    | none => cases h1
    | some y => simp at h1; exact ⟨y, q, i, rfl, h1, h2, h3, h4⟩
  refine zoS h hs ho hx hH' hL' ?_ ?_
  ·rcases hL' with ⟨_, rfl⟩ | ⟨_, _, _, _, _, _, _, hle⟩ <;> omega
  ·cases lo with
   | none => exact .inl rfl
   | some _ => exact .inr (zg1 hh)
 ·rename_i id len sz hs0 hx
  split at hd
  ·rename_i e sz2 m hs
   obtain ⟨hb, hd2⟩ := zx hd
   clear hd
   simp only [Bool.and_eq_true] at hb
   have e1 := Nat.eq_of_beq_eq_true hb.1
   have e2 := Nat.eq_of_beq_eq_true hb.2.1
   subst e1; subst e2
   cases hob : zav s.h id with
   | none => rw [hob] at hd2; cases hd2
   | some ob =>
   rw [hob] at hd2
   cases ob with
   | arr wr sz3 rows =>
    obtain ⟨hb3, hd3⟩ := zx hd2
    clear hd2
    have e3 := Nat.eq_of_beq_eq_true hb3
    subst e3
    obtain ⟨hlen, hd4⟩ := zaf hd3
    cases hd4
    exact zlN h ho hx (Nat.le_of_ble_eq_true hb.2.2.2) hs hob (of_decide_eq_true hlen)
   | _ => cases hd2
  ·cases hd
 ·cases hd
theorem znN (h : SR act hn s a w g) {x : Operand} {i : Nat} (ho : o.op = .extract x i) (hd : zq G C f dr o s = some s') : zF G.P F n act hn s' a w g o := by
 unfold zq zA at hd
 simp only [ho] at hd
 split at hd
 ·rename_i vs hx
  split at hd
  ·rename_i v hv
   cases hd
   refine zmX h ho hx ?_
   have e : ∀ (vs : List V) (i : Nat), zA.hgetV vs i = vs[i]? := by
    intro vs
    induction vs with
    | nil => intro i; rfl
    | cons v vs ih => intro i; cases i with
     | zero => rfl
     | succ i => simpa [zA.hgetV] using ih i
   rw [← e]; exact hv
  ·cases hd
 ·cases hd
theorem zjN {va : Bool} {m : Nat} {v : V} (h0 : 0 < m) (hl : (cellsOf v).length = m) : va = false → cellsOf v ≠ [] := fun _ e => by rw [e] at hl; simp at hl; omega
theorem znO (h : SR act hn s a w g) {t : TypeId} {rs : Option Operand} (ho : o.op = .makeMap t rs) (hd : zq G C f dr o s = some s') : zF G.P F n act hn s' a w g o := by
 unfold zq zA at hd
 simp only [ho] at hd
 cases rs with
 | some _ => cases hd
 | none =>
  simp only at hd
  split at hd
  ·obtain ⟨_, hd⟩ := zx hd
   cases hd
   exact zm2 h ho _ _ _
  ·cases hd
theorem zo2 (h : SR act hn s a w g) {t : TypeId} {x ix : Operand} {ok : Bool} (ho : o.op = .lookup t x ix ok) (hd : zq G C f dr o s = some s') : zF G.P F n act hn s' a w g o := by
 unfold zq zA at hd
 simp only [ho] at hd
 split at hd
 ·rename_i kt ka kn vt va m id hkv hx
  obtain ⟨es, hes, hd⟩ := zj hd
  obtain ⟨hb, hd⟩ := zx hd
  simp only [Bool.and_eq_true] at hb
  obtain ⟨r, hr, hd⟩ := zj hd
  split at hd
  ·rename_i i
   obtain ⟨row0, hm, hd⟩ := zj hd
   rw [zat] at hd
   obtain ⟨row, hsh, hd⟩ := zj hd
   cases hd
   have := ziG (F := F) (n := n) h ho hkv hx (zdc hes) hb.2.1 hr hb.2.2.1 (.inl ⟨i, rfl, hm, rfl⟩) hsh
   cases ok <;> exact this
  ·split at hd
   ·rename_i z hz
    rw [zat] at hd
    obtain ⟨row, hsh, hd⟩ := zj hd
    cases hd
    have := ziG (F := F) (n := n) h ho hkv hx (zdc hes) hb.2.1 hr hb.2.2.1 (.inr ⟨rfl, hz, rfl⟩) hsh
    cases ok <;> exact this
   ·cases hd
 ·cases hd
theorem zlV (h : SR act hn s a w g) {t : TypeId} {x ix v : Operand} (ho : o.op = .mapUpdate t x ix v) (hd : zq G C f dr o s = some s') : zF G.P F n act hn s' a w g o := by
 unfold zq zA at hd
 simp only [ho] at hd
 split at hd
 ·rename_i kt ka kn vt va m id hkv hx hdst
  obtain ⟨es, hes, hd⟩ := zj hd
  obtain ⟨hb, hd⟩ := zx hd
  simp only [Bool.and_eq_true] at hb
  obtain ⟨r, hr, hd⟩ := zj hd
  cases hd
  exact zkX h ho hdst hkv hx (zdc hes) hb.2.2.1 hr hb.2.2.2.2.1 hb.2.2.2.2.2 (zjN (Nat.le_of_ble_eq_true hb.2.1) (Nat.eq_of_beq_eq_true hb.2.2.2.1))
 ·cases hd
theorem zm5 (h : SR act hn s a w g) {t : TypeId} {x ix : Operand} (ho : o.op = .mapEntry t x ix) (hd : zq G C f dr o s = some s') : zF G.P F n act hn s' a w g o := by
 unfold zq zA at hd
 simp only [ho] at hd
 split at hd
 ·rename_i kt ka kn vt va m id hkv hx
  obtain ⟨es, hes, hd⟩ := zj hd
  split at hd
  ·rename_i z hz
   obtain ⟨hb, hd⟩ := zx hd
   simp only [Bool.and_eq_true] at hb
   obtain ⟨r, hr, hd⟩ := zj hd
   cases hd
   exact zlS h ho hkv hx (zdc hes) hb.2.2.1 hr hz hb.2.2.2.2.2 hb.2.2.2.1
  ·cases hd
 ·cases hd
theorem zkZ (h : SR act hn s a w g) {t : TypeId} {x st v : Operand} (ho : o.op = .entryStore t x st v) (hd : zq G C f dr o s = some s') : zF G.P F n act hn s' a w g o := by
 unfold zq zA at hd
 simp only [ho] at hd
 split at hd
 ·rename_i kt ka kn vt va m id i hkv hx hi hdst
  obtain ⟨es, hes, hd⟩ := zj hd
  obtain ⟨hb, hd⟩ := zx hd
  simp only [Bool.and_eq_true] at hb
  obtain ⟨h0, hd⟩ := zaf hd
  obtain ⟨hl, hd⟩ := zaf hd
  cases hd
  exact zkj h ho hdst hx (zdc hes) hi (of_decide_eq_true h0) (of_decide_eq_true hl) hb.2.2.2.1 hb.2.2.2.2 (zjN (Nat.le_of_ble_eq_true hb.2.1) (Nat.eq_of_beq_eq_true hb.2.2.1))
 ·cases hd
end Go.Ab
