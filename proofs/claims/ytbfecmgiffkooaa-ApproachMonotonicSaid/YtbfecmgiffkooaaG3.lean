/- Appends; conditions: none. -/
import Derived.Great.BuildSlice
import Derived.Test.YtbfecmgiffkooaaG2
namespace Go.Ab
set_option linter.unusedVariables false
set_option linter.unusedSimpArgs false
variable {act hn : Nat} {s s' : St} {a : Act} {w : World} {g : Gh} {P : Program} {F : Fence} {n : Nat} {o : Oper}

theorem SR.pushArr (h : SR act hn s a w g) {sz : Nat} (hsz : 0 < sz) : SR act hn ⟨s.t, s.h ++ [.arr true sz []]⟩ a w { g with J := g.J ++ [(0, some 0)] } ∧
    Ext (mine act hn) w g w { g with J := g.J ++ [(0, some 0)] } := by
  have hJ : ∀ (id : Nat) (y : Nat × Option Nat), g.J[id]? = some y → (g.J ++ [(0, some 0)])[id]? = some y := fun id y hy => by
    rw [List.getElem?_append_left (List.getElem?_eq_some_iff.1 hy).1]; exact hy
  let g' : Gh := { g with J := g.J ++ [(0, some 0)] }
  have le' : (memOf w g).le (memOf w g') := ⟨fun _ _ _ x => x, fun _ _ x => x, fun id b x => hJ id _ x, fun id b l x => ⟨b, l, hJ id _ x, Nat.le_refl _, fun _ => rfl⟩⟩
  refine ⟨?_, ⟨Nat.le_refl _, fun _ _ _ => ⟨rfl, rfl, rfl⟩, le', Nat.le_refl _, rfl, rfl, rfl⟩⟩
  refine { wf := ⟨h.wf.new, h.wf.inj, h.wf.nx⟩, size := h.size, tmp := ?_, jl := by simp [h.jl], obj := ?_, dfr := h.dfr, an := h.an, hm := h.hm }
  · intro i v hv
    obtain ⟨c, hc, ht⟩ := h.tmp i v hv
    exact ⟨c, hc, ht.frame le' fun _ _ _ => ⟨rfl, rfl, rfl⟩⟩
  · intro id ob hob
    by_cases hid : id < s.h.length
    · rw [List.getElem?_append_left hid] at hob
      refine (h.obj id ob hob).frame ?_ le' fun _ _ => ⟨rfl, rfl, rfl⟩
      exact List.getElem?_append_left (by rw [h.jl]; exact hid)
    · have : id = s.h.length := by
        have := (List.getElem?_eq_some_iff.1 hob).1
        simp at this; omega
      subst this
      simp at hob; subst hob
      exact ⟨0, by simp [h.jl], hsz, fun e => absurd rfl e⟩

theorem rowsAt.one {m : Mem} {rows : List (List V)} {sz : Nat} {cells : List Value} (h : rowsAt m rows sz cells) (h0 : 0 < sz) {x : Nat} (hx : x < rows.length * sz) : ∃ c, cells[x]? = some c ∧ Ab.one c = true := by
  have hi : x / sz < rows.length := Nat.div_lt_of_lt_mul (by rw [Nat.mul_comm]; exact hx)
  obtain ⟨g1, g2⟩ := h (x / sz) rows[x / sz] (List.getElem?_eq_getElem hi)
  have hj : x % sz < rows[x / sz].length := by rw [g1]; exact Nat.mod_lt _ h0
  obtain ⟨c, c1, c2, c3⟩ := g2 (x % sz) _ (List.getElem?_eq_getElem hj)
  refine ⟨c, ?_, c3⟩
  rw [show x / sz * sz + x % sz = x by rw [Nat.mul_comm]; exact Nat.div_add_mod x sz] at c1
  exact c1

/-- Fixed rows as cells. -/
theorem VRr.cells {rows : List (List V)} {m : Mem} {b off sz : Nat} (h : VRr rows m b off sz) (h0 : 0 < sz) :
    ∃ news : List Value, news.length = rows.length * sz ∧ (∀ j c, news[j]? = some c → m.M b (off + j) = some c) ∧ (∀ c ∈ news, one c = true) ∧ rowsAt m rows sz news := by
  have hall : ∀ x, x < rows.length * sz → ∃ c, m.M b (off + x) = some c ∧ one c = true := fun x hx => by
    have hi : x / sz < rows.length := Nat.div_lt_of_lt_mul (by rw [Nat.mul_comm]; exact hx)
    obtain ⟨g1, g2⟩ := VRr.get _ h (x / sz) rows[x / sz] (List.getElem?_eq_getElem hi)
    have hj : x % sz < rows[x / sz].length := by rw [g1]; exact Nat.mod_lt _ h0
    obtain ⟨c, c1, c2, c3⟩ := VRc.get _ g2 (x % sz) _ (List.getElem?_eq_getElem hj)
    refine ⟨c, ?_, c3⟩
    rw [Nat.add_assoc, show x / sz * sz + x % sz = x by rw [Nat.mul_comm]; exact Nat.div_add_mod x sz] at c1
    exact c1
  let news : List Value := (List.range (rows.length * sz)).map fun j => (m.M b (off + j)).getD Go.undef
  have hn : ∀ j, j < rows.length * sz → news[j]? = some ((m.M b (off + j)).getD Go.undef) := fun j hj => by simp [news, hj]
  refine ⟨news, by simp [news], fun j c hj => ?_, fun c hc => ?_, fun i r hi => ?_⟩
  · have hjl : j < rows.length * sz := by have := (List.getElem?_eq_some_iff.1 hj).1; simpa [news] using this
    obtain ⟨d, d1, _⟩ := hall j hjl
    rw [hn j hjl, d1] at hj
    cases hj; exact d1
  · obtain ⟨j, hj, rfl⟩ := List.mem_iff_getElem.1 hc
    have hjl : j < rows.length * sz := by simpa [news] using hj
    obtain ⟨d, d1, d2⟩ := hall j hjl
    have := hn j hjl
    rw [List.getElem?_eq_getElem hj, d1] at this
    cases this; exact d2
  · obtain ⟨g1, g2⟩ := VRr.get _ h i r hi
    refine ⟨g1, fun j v hv => ?_⟩
    obtain ⟨c, c1, c2, c3⟩ := VRc.get _ g2 j v hv
    have hil := (List.getElem?_eq_some_iff.1 hi).1
    have hjl := (List.getElem?_eq_some_iff.1 hv).1
    have : i * sz + j < rows.length * sz := by
      have : (i + 1) * sz ≤ rows.length * sz := Nat.mul_le_mul_right _ hil
      rw [Nat.add_mul] at this; omega
    refine ⟨c, ?_, c2, c3⟩
    rw [hn _ this, ← Nat.add_assoc, c1]; rfl

theorem srcRows_spec {h : List Ob} {v : V} {rows : List (List V)} (e : srcRowsK h v some = some rows) : (∃ fl, v = .slice fl rows) ∨ ∃ id len sz wr sz', v = .arr id len sz ∧ h[id]? = some (.arr wr sz' rows) ∧ len = rows.length := by
  unfold srcRowsK at e
  split at e
  · cases e; exact .inl ⟨_, rfl⟩
  · rename_i id len sz
    rw [bind_some'] at e
    obtain ⟨wr, sz', h1, h2⟩ := arrRows_spec e
    exact .inr ⟨id, len, sz, wr, sz', rfl, h1, h2⟩
  · cases e

theorem srcRowsK_bind {R : Type} (h : List Ob) (v : V) (k : List (List V) → Option R) : srcRowsK h v k = (srcRowsK h v some).bind k := by
  unfold srcRowsK
  split
  · rfl
  · rw [bind_some']
  · rfl
theorem headIs_spec {sz : Nat} {rows : List (List V)} (h : headIs sz rows = true) : ∀ r, rows[0]? = some r → r.length = sz := by
  intro r hr
  cases rows with
  | nil => simp at hr
  | cons x l => simp at hr; subst hr; exact Nat.eq_of_beq_eq_true h

theorem cell_none (ad : Addr) (h : ad.spot = none) (j : Nat) : ad.add j = ⟨ad.block, ad.off + j, none⟩ := by
  obtain ⟨b, o, sp⟩ := ad
  simp only at h; subst h
  exact add_none ..

/-- What is appended, as the program sees it. -/
theorem src_ok (h : SR act hn s a w g) {v : V} {c : Value} (hv : VR v (memOf w g) c) {rows : List (List V)} (hr : srcRowsK s.h v some = some rows) {sz : Nat} (h0 : 0 < sz) (hh : headIs sz rows = true) {tx e : TypeId} (hk : P.underlying tx = some (.slice e)) :
    ∃ news, Src P sz tx c rows.length news w ∧ rowsAt (memOf w g).alone rows sz news := by
  have hemp : rows = [] → ∀ {ad : Option Addr} {cap : Nat}, c = .slice ad 0 cap → ∃ news, Src P sz tx c rows.length news w ∧ rowsAt (memOf w g).alone rows sz news := by
    intro e1 ad cap e2
    subst e1; subst e2
    refine ⟨[], ?_, fun i r hi => by simp at hi⟩
    cases ad with
    | none => exact Src.ofNil w hk cap
    | some ad => exact Src.ofSlice w hk ad 0 cap [] (by simp) (fun j u hu => by simp at hu) (by simp)
  rcases srcRows_spec hr with ⟨fl, rfl⟩ | ⟨id, len, sz1, wr, sz', rfl, ho, hlen⟩
  · simp only [VR] at hv
    obtain ⟨ad, cap, h1, h2, h3, h4, h5⟩ := hv
    by_cases hne : rows = []
    · subst hne; exact hemp rfl h1
    · obtain ⟨b, off, sz', k1, k2⟩ := h5 hne
      have hsz : sz' = sz := by
        cases rows with
        | nil => exact absurd rfl hne
        | cons r rows => rw [← headIs_spec hh r rfl]; exact ((VRr.get _ k2 0 r rfl).1).symm
      subst hsz
      obtain ⟨news, n1, n2, n3, n4⟩ := k2.cells h0
      subst h1; subst k1
      refine ⟨news, Src.ofSlice w hk _ _ _ _ n1 (fun j u hu => ?_) (fun u hu => by rw [one_eq]; exact n3 u hu), n4⟩
      rw [add_none]
      exact memOf_cell (g := g) (n2 j u hu)
  · simp only [VR] at hv
    obtain ⟨ad, cap, b, l, h1, h2, h3, h4, h5, h6, h7⟩ := hv
    by_cases hne : rows = []
    · subst hne; simp at hlen; subst hlen; exact hemp rfl h2
    · obtain ⟨b', cells, e', k1, k2, k3, k4, k5, k6⟩ := OR_arr (h.obj id _ ho) hne
      have h1' : g.J[id]? = some (b, some l) := h1
      rw [h1'] at k1; cases k1
      have hsz : sz' = sz := by
        cases rows with
        | nil => exact absurd rfl hne
        | cons r rows => rw [← headIs_spec hh r rfl]; exact ((k4 0 r rfl).1).symm
      subst hsz
      have hl0 : len ≠ 0 := by intro e; rw [e] at hlen; exact hne (List.length_eq_zero_iff.1 hlen.symm)
      obtain ⟨q1, _⟩ := h7 hl0 hlen.symm
      subst h2; subst q1; subst hlen
      have hcut := k4.cut
      refine ⟨cells.toList.take (rows.length * sz'), Src.ofSlice w hk _ _ _ _ (by simp only [List.length_take, Array.length_toList]; simp at hcut; omega) (fun j u hu => ?_) (fun u hu => ?_), k4.congr fun x hx => by rw [List.getElem?_take, if_pos hx]⟩
      · rw [add_none, cell?_eq, k3]
        rw [List.getElem?_take] at hu
        split at hu
        · simpa [cellAt] using hu
        · cases hu
      · rw [one_eq]
        obtain ⟨j, hj, rfl⟩ := List.mem_iff_getElem.1 hu
        have hjl : j < rows.length * sz' := by simp at hj; omega
        obtain ⟨d, d1, d2⟩ := k4.one h0 hjl
        simp only [List.getElem_take]
        rw [List.getElem?_eq_some_iff] at d1
        obtain ⟨_, d1⟩ := d1
        rw [d1]; exact d2

/-- There is room: the block of cells is set anew. -/
theorem run_append_in (t tx ty e : TypeId) (i : TypeInfo) (ht : P.underlying t = some (.slice e)) (hi : P.info? e = some i) {b sLen sCap : Nat} {cur : Array Value} {e' : TypeId} (hb : w.heap[b]? = some (.cells cur e' (0, 0))) (x : Value) (m : Nat) (news : List Value)
    (hs : Src P i.size tx x m news w) (hroom : sLen + m ≤ sCap) (hfit : sLen * i.size + news.length ≤ cur.size) :
    (Builtin.append_ #[t, tx] ty #[.slice (some ⟨b, 0, none⟩) sLen sCap, x]).run P w =
      .ok (.slice (some ⟨b, 0, none⟩) (sLen + m) sCap) (w.setRow b (cur.toList.take (sLen * i.size) ++ news ++ cur.toList.drop (sLen * i.size + news.length)).toArray) := by
  have hst := run_storeCells_at P b (sLen * i.size) e' news 0 cur w hb (by simpa using hfit) hs.one
  simp only [Nat.add_zero] at hst
  rcases hs.kind with ⟨e', hk⟩ | hk <;> simp [Builtin.append_, run_underlying ht, run_underlying hk, sizeOf, typeInfo, hi, hs.len, hroom, hs.cells, Addr.add_lit, hst]

theorem hset_self (l : List Ob) (i : Nat) (ob : Ob) (h : l[i]? = some ob) : hset l i ob = l := by
  rw [hset_eq]
  apply List.ext_getElem?
  intro j
  rw [List.getElem?_set]
  split
  · rename_i e; subst e
    split
    · exact h.symm
    · rename_i hl; rw [List.getElem?_eq_none (by omega)]
  · rfl

/-- Append. -/
theorem append_ok (h : SR act hn s a w g) {t t' ty e : TypeId} {sz b : Nat} (hs : sliceElem P t = some (e, sz, b)) {q : TypeId × Nat × Nat} (hs' : sliceElem P t' = some q) {z : List V} (hz : zeroCells P e = some z) (hzl : z.length = sz) (h0 : 0 < sz) (hb : 0 < b)
    {x y : V} {cx cy : Value} (hx : VR x (memOf w g) cx) (hy : VR y (memOf w g) cy) {v' : V} {h' : List Ob} (ha : appendK s sz b x y (fun v h => some (v, h)) = some (v', h')) :
    ∃ c w' g', (Builtin.append_ #[t, t'] ty #[cx, cy]).run P w = .ok c w' ∧ SR act hn ⟨s.t, h'⟩ a w' g' ∧ Ext (mine act hn) w g w' g' ∧ VR v' (memOf w' g') c := by
  obtain ⟨i, ht, hi, hsz, hbb⟩ := sliceElem_spec hs
  obtain ⟨e', sz', b'⟩ := q
  obtain ⟨i', ht', _⟩ := sliceElem_spec hs'
  obtain ⟨iz, zv, hiz, hzv, hzr⟩ := zeroCells_spec hz (memOf w g)
  rw [hi] at hiz; cases hiz
  have hzs : zv.cells.size = sz := by have := VRl.length _ hzr; simp at this; omega
  subst hsz
  unfold appendK at ha
  rw [srcRowsK_bind] at ha
  cases hnew : srcRowsK s.h y some with
  | none => rw [hnew] at ha; cases ha
  | some new =>
  rw [hnew, Option.bind_some] at ha
  have ha2 := ha
  cases hhd : headIs i.size new with
  | false => rw [hhd] at ha2; cases ha2
  | true =>
  rw [hhd] at ha2
  simp only [cond_true] at ha2
  obtain ⟨news, hsrc, hrows⟩ := src_ok h hy hnew h0 hhd ht'
  have hnl := hsrc.newsLen
  -- a new block
  have hgrow : ∀ (sLen cap : Nat), cap < sLen + new.length → (sLen + new.length) * b ≤ room → ∀ (base : Option Addr) (olds : List Value), (Builtin.firstCells i.size sLen (.slice base sLen cap)).run P w.drew = .ok olds.toArray w.drew → olds.length = sLen * i.size →
      ∃ (C : Nat) (cells : Array Value), sLen + new.length ≤ C ∧ (Builtin.append_ #[t, t'] ty #[.slice base sLen cap, cy]).run P w = .ok (.slice (some ⟨w.heap.size, 0, none⟩) (sLen + new.length) C) (w.drew.alloc (.cells cells e)) ∧
        cells.toList = olds ++ news ++ cells.toList.drop ((sLen + new.length) * i.size) ∧ C * i.size ≤ cells.size := by
    intro sLen cap hlt hroom base olds hold holds
    have hbyt : (sLen + new.length) * i.bytes ≤ 140737488355328 := by rw [hbb]; exact hroom
    have hle : sLen + new.length ≤ (sLen + new.length) * b := Nat.le_mul_of_pos_right _ hb
    have h63 : ((sLen + new.length : Nat) : Int) ≤ 9223372036854775807 := by simp only [room] at hroom; omega
    have hrun := run_append_grow_src (P := P) w t t' ty e i zv ht hi hzv base sLen cap olds hold cy new.length news hsrc hlt h63 (growslice_fits hlt hbyt)
    have hge := grownCap_ge w (sLen + new.length) cap e
    refine ⟨_, _, hge, hrun, ?_, ?_⟩
    · simp only [Array.toList_append, List.append_assoc]
      rw [← List.append_assoc, List.drop_left' (by simp [holds, hnl, Nat.add_mul]), List.append_assoc]
    · simp only [Array.size_append, List.size_toArray, List.length_append, size_zeroCells, hzs, holds, hnl, ← Nat.add_mul]
      exact Nat.mul_le_mul_right _ (by omega)
  -- an array begins
  have fresh : ∀ {ad : Option Addr} {cap : Nat}, cx = .slice ad 0 cap → cap = 0 → (ad = none → cap = 0) →
      cond (decide (new.length * b ≤ room)) (some (V.arr s.h.length new.length i.size, s.h ++ [.arr true i.size new])) none = some (v', h') →
      ∃ c w' g', (Builtin.append_ #[t, t'] ty #[cx, cy]).run P w = .ok c w' ∧ SR act hn ⟨s.t, h'⟩ a w' g' ∧ Ext (mine act hn) w g w' g' ∧ VR v' (memOf w' g') c := by
    intro ad cap hcx hcap hnone hk
    subst hcap; subst hcx
    cases hroom : decide (new.length * b ≤ room) with
    | false => rw [hroom] at hk; cases hk
    | true =>
    rw [hroom] at hk
    simp only [cond_true] at hk
    cases hk
    have hroom' := of_decide_eq_true hroom
    by_cases hne : new = []
    · subst hne
      have hn0 : news = [] := List.eq_nil_of_length_eq_zero (by simpa using hnl)
      subst hn0
      have hrun := run_append_nothing (P := P) w t t' ty e i ht hi ad 0 0 (Nat.le_refl _) cy hsrc
      obtain ⟨s1, s2⟩ := h.pushArr h0
      refine ⟨_, _, _, hrun, s1, s2, ?_⟩
      simp only [VR]
      refine ⟨ad, 0, 0, 0, ?_, rfl, Nat.le_refl _, Nat.le_refl _, fun _ => rfl, fun _ => rfl, fun e => absurd rfl e⟩
      show (g.J ++ [(0, some 0)])[s.h.length]? = _
      rw [← h.jl]; simp
    · have hpos : 0 < new.length := List.length_pos_iff.2 hne
      obtain ⟨C, cells, hC, hrun, hcells, hsz⟩ := hgrow 0 0 (by omega) (by simpa using hroom') ad [] (by cases ad with | none => exact run_firstCells_none _ _ _ _ _ | some ad => exact run_firstCells_some _ _ _ _ _ _ [] (by simp) (fun j u hu => by simp at hu)) (by simp)
      simp only [Nat.zero_add] at hC hrun hcells
      have hd := h.drew
      obtain ⟨s1, s2⟩ := hd.allocOb (o := .cells cells e) (ob := .arr true i.size new) (some new.length) (fun g' hg' le' => by
        subst hg'
        refine OR_mk (b := w.heap.size) (cells := cells) (e := e) ?_ h0 ?_ ?_ ?_ ?_ ?_
        · show (g.J ++ [(w.heap.size, some new.length)])[s.h.length]? = _
          rw [← h.jl]; simp
        · simp [Gh.grab]
        · show (w.drew.alloc (.cells cells e)).heap[w.heap.size]? = _
          exact (alloc_heap w.drew (.cells cells e) w.heap.size).trans (if_pos rfl)
        · refine rowsAt.mono ?_ le'.alone
          refine hrows.congr fun x hx => ?_
          rw [hcells, List.nil_append, List.getElem?_append_left (by omega)]
        · simp [Gh.grab]
        · simp [Gh.grab])
      refine ⟨_, _, _, hrun, s1, (Ext.drew _ w g).trans s2, ?_⟩
      simp only [VR]
      refine ⟨_, C, w.heap.size, new.length, ?_, rfl, hC, Nat.le_refl _, (fun e => by cases e), (fun e => by omega), fun _ _ => ⟨rfl, cells.size, ?_, hsz⟩⟩
      · show (g.J ++ [(w.heap.size, some new.length)])[s.h.length]? = _
        rw [← h.jl]; simp
      · simp only [memOf]
        rw [show (w.drew.alloc (.cells cells e)).heap[w.heap.size]? = _ from (alloc_heap w.drew (.cells cells e) w.heap.size).trans (if_pos rfl)]
        rfl
  unfold appTo at ha2
  split at ha2
  · simp only [VR] at hx
    obtain ⟨ad, cap, h1, h2, h3, h4, _⟩ := hx
    exact fresh h1 h3.2 h4 ha2
  · simp only [VR] at hx
    obtain ⟨ad, cap, h1, h2, h3, h4, _⟩ := hx
    exact fresh h1 h3 h4 ha2
  · rename_i id len sz1
    split at ha2
    · rename_i wr q rows hob
      cases hq : (Nat.beq i.size sz1 && Nat.beq i.size q) with
      | false => rw [hq] at ha2; cases ha2
      | true =>
      rw [hq] at ha2
      simp only [Bool.and_eq_true] at hq
      have q1 := Nat.eq_of_beq_eq_true hq.1
      have q2 := Nat.eq_of_beq_eq_true hq.2
      subst q1
      have hob2 : hget s.h id = some (.arr wr i.size rows) := by rw [hob, q2]
      clear hob
      simp only [ifK] at ha2
      cases hl : decide (len = rows.length) with
      | false => rw [hl] at ha2; cases ha2
      | true =>
      rw [hl] at ha2
      simp only [cond_true] at ha2
      cases hroom : decide ((rows.length + new.length) * b ≤ room) with
      | false => rw [hroom] at ha2; cases ha2
      | true =>
      rw [hroom] at ha2
      simp only [cond_true] at ha2
      cases ha2
      have hlen := of_decide_eq_true hl
      have hroom' := of_decide_eq_true hroom
      subst hlen
      simp only [VR] at hx
      obtain ⟨ad, cap, bb, l, hJ, hcx, hcap, hll, hnone, hzero, hfull⟩ := hx
      have hJ' : g.J[id]? = some (bb, some l) := hJ
      have hob3 := hob2
      rw [hget_eq] at hob3
      have hlr : l = rows.length := by
        obtain ⟨b2, k1, _⟩ := h.obj id _ hob3
        rw [hJ'] at k1; cases k1; rfl
      subst hlr
      by_cases hne : new = []
      · subst hne
        have hn0 : news = [] := List.eq_nil_of_length_eq_zero (by simpa using hnl)
        subst hn0
        subst hcx
        have hrun := run_append_nothing (P := P) w t t' ty e i ht hi ad rows.length cap hcap cy hsrc
        refine ⟨_, w, g, hrun, ?_, Ext.refl _ _ _, ?_⟩
        · rw [List.append_nil, hset_self _ _ _ hob3]; exact h
        · simp only [VR, List.length_nil, Nat.add_zero]
          exact ⟨ad, cap, bb, _, hJ, rfl, hcap, hll, hnone, hzero, hfull⟩
      · have hpos : 0 < new.length := List.length_pos_iff.2 hne
        by_cases hin : rows.length + new.length ≤ cap
        · -- there is room
          have hr0 : rows.length ≠ 0 := by intro e; have := hzero e; omega
          have hrne : rows ≠ [] := by intro e; subst e; simp at hr0
          obtain ⟨q1, N, q2, q3⟩ := hfull hr0 rfl
          subst q1; subst hcx
          obtain ⟨b2, cs, e2, k1, k2, k3, k4, k5, k6⟩ := OR_arr (h.obj id _ hob3) hrne
          rw [hJ'] at k1; cases k1
          have hN : N = cs.size := by
            simp only [memOf] at q2
            rw [k3] at q2
            simp only [sizeAt] at q2
            cases q2; rfl
          subst hN
          obtain ⟨s1, s2, s3⟩ := h.appendIn hob2 hrne hrows hnl hne hJ' k3 hin q3
          have hfit : rows.length * i.size + news.length ≤ cs.size := by
            have := Nat.mul_le_mul_right i.size hin
            rw [Nat.add_mul] at this; omega
          have hrun := run_append_in (P := P) t t' ty e i ht hi (sLen := rows.length) (sCap := cap) k3 cy new.length news hsrc hin hfit
          refine ⟨_, _, _, hrun, s1, s2, ?_⟩
          simp only [VR]
          refine ⟨_, cap, bb, rows.length + new.length, ?_, rfl, hin, Nat.le_refl _, hnone, (fun e => by omega), fun _ _ => ⟨rfl, cs.size, ?_, q3⟩⟩
          · show (g.J.set id _)[id]? = _
            rw [J_set, if_pos rfl, hJ']; rfl
          · exact s3
        · -- there is none
          obtain ⟨olds, hold, holds, holdr⟩ : ∃ olds : List Value, (Builtin.firstCells i.size rows.length (.slice ad rows.length cap)).run P w.drew = .ok olds.toArray w.drew ∧ olds.length = rows.length * i.size ∧ rowsAt (memOf w g).alone rows i.size olds := by
            by_cases hrne : rows = []
            · subst hrne
              refine ⟨[], ?_, by simp, fun j r hj => by simp at hj⟩
              cases ad with
              | none => exact run_firstCells_none _ _ _ _ _
              | some ad => exact run_firstCells_some _ _ _ _ _ _ [] (by simp) (fun j u hu => by simp at hu)
            · have hr0 : rows.length ≠ 0 := fun e => hrne (List.length_eq_zero_iff.1 e)
              obtain ⟨q1, N, q2, q3⟩ := hfull hr0 rfl
              subst q1
              obtain ⟨b2, cs, e2, k1, k2, k3, k4, k5, k6⟩ := OR_arr (h.obj id _ hob3) hrne
              rw [hJ'] at k1; cases k1
              have hcut := k4.cut
              refine ⟨cs.toList.take (rows.length * i.size), run_firstCells_some _ _ _ _ _ _ _ (by simp only [List.length_take, Array.length_toList]; simp at hcut; omega) (fun j u hu => ?_), by simp only [List.length_take, Array.length_toList]; simp at hcut; omega, k4.congr fun x hx => by rw [List.getElem?_take, if_pos hx]⟩
              rw [add_none, cell?_eq]
              show cellAt w.heap[bb]? _ = _
              rw [k3]
              rw [List.getElem?_take] at hu
              split at hu
              · simpa [cellAt] using hu
              · cases hu
          obtain ⟨C, cells, hC, hrun, hcells, hsz⟩ := hgrow rows.length cap (by omega) hroom' ad olds hold holds
          subst hcx
          have hall : rowsAt (memOf w g).alone (rows ++ new) i.size cells.toList := by
            rw [hcells]
            have := holdr.append hrows (tail := cells.toList.drop ((rows.length + new.length) * i.size))
            rwa [List.take_of_length_le (by omega)] at this
          obtain ⟨g', hg', s1, s2⟩ := h.drew.regrow (cells := cells) (e := e) hob2 hne hall
          refine ⟨_, _, g', hrun, s1, (Ext.drew _ w g).trans s2, ?_⟩
          simp only [VR]
          refine ⟨_, C, w.heap.size, rows.length + new.length, ?_, rfl, hC, Nat.le_refl _, (fun e => by cases e), (fun e => by omega), fun _ _ => ⟨rfl, cells.size, ?_, hsz⟩⟩
          · rw [hg']
            show (g.J.set id _)[id]? = _
            rw [J_set, if_pos rfl, hJ']; rfl
          · simp only [memOf]
            rw [show (w.drew.alloc (.cells cells e)).heap[w.heap.size]? = _ from (alloc_heap w.drew (.cells cells e) w.heap.size).trans (if_pos rfl)]
            rfl
    · cases ha2
  · cases ha2

end Go.Ab
/- Values by themselves: what leads to a shared array is read out of it, and it is written no more; conditions: none. -/
namespace Go.Ab
set_option linter.unusedVariables false
set_option linter.unusedSimpArgs false
variable {act hn : Nat} {s s' : St} {a : Act} {w : World} {g : Gh} {P : Program} {F : Fence} {n : Nat} {o : Oper}

/-- The objects of world hn. -/
def obOf (hn : Nat) (p : Owner) : Prop := ∃ id, p = .ob hn id

theorem arrRows_fix1 (h : List Ob) (v : V) (id len : Nat) : arrRows (fix1 h v) id len = arrRows h id len := by
  unfold fix1
  split
  · rename_i id' _ _
    split
    · rename_i wr sz rows hob
      unfold arrRows
      rw [hget_eq, hget_eq, hset_eq, List.getElem?_set]
      rw [hget_eq] at hob
      by_cases e : id' = id
      · subst e
        have hl := (List.getElem?_eq_some_iff.1 hob).1
        simp only [if_true, hl, hob]
      · simp only [e, if_false]
    · rfl
  · rfl
theorem normK1_fix1 {R : Type} (h : List Ob) (v u : V) (k : V → Option R) : normK1 (fix1 h v) u k = normK1 h u k := by
  unfold normK1
  split
  · rw [arrRows_fix1]
  · rfl
  · rfl
theorem normsK_fix1 {R : Type} (h : List Ob) (v : V) (l : List V) : ∀ k : List V → Option R, normsK (fix1 h v) l k = normsK h l k := by
  induction l with
  | nil => intro k; rfl
  | cons u l ih => intro k; simp only [normsK]; rw [normK1_fix1]; congr 1; funext v; exact ih _
theorem normsK_fixs {R : Type} (us l : List V) : ∀ (h : List Ob) (k : List V → Option R), normsK (fixs h us) l k = normsK h l k := by
  induction us with
  | nil => intro h k; rfl
  | cons u us ih => intro h k; simp only [fixs]; rw [ih, normsK_fix1]
theorem normK1_fixs {R : Type} (us : List V) (u : V) : ∀ (h : List Ob) (k : V → Option R), normK1 (fixs h us) u k = normK1 h u k := by
  induction us with
  | nil => intro h k; rfl
  | cons v us ih => intro h k; simp only [fixs]; rw [ih, normK1_fix1]
theorem normK_fixV {R : Type} (h : List Ob) (v u : V) (k : V → Option R) : normK (fixV h v) u k = normK h u k := by
  unfold fixV
  split
  · unfold normK
    split
    · rw [normsK_fixs]
    · rw [normK1_fixs]
  · unfold normK
    split
    · rw [normsK_fix1]
    · rw [normK1_fix1]
theorem normArgsK_fixV {R : Type} (h : List Ob) (v : V) (l : List V) : ∀ k : List V → Option R, normArgsK (fixV h v) l k = normArgsK h l k := by
  induction l with
  | nil => intro k; rfl
  | cons u l ih => intro k; simp only [normArgsK]; rw [normK_fixV]; congr 1; funext v; exact ih _

/-- What fixing comes to. -/
structure Fixed (act hn : Nat) (s : St) (a : Act) (w : World) (g : Gh) (h' : List Ob) (g' : Gh) : Prop where
  J : g'.J = g.J
  own : g'.own = g.own
  nx : g'.nx = g.nx
  sr : SR act hn ⟨s.t, h'⟩ a w g'
  ext : Ext (obOf hn) w g w g'
theorem Fixed.refl (h : SR act hn s a w g) : Fixed act hn s a w g s.h g := ⟨rfl, rfl, rfl, h, Ext.refl _ _ _⟩
theorem Fixed.trans {h1 h2 : List Ob} {g1 g2 : Gh} (k : Fixed act hn s a w g h1 g1) (k' : Fixed act hn ⟨s.t, h1⟩ a w g1 h2 g2) : Fixed act hn s a w g h2 g2 :=
  ⟨k'.J.trans k.J, k'.own.trans k.own, k'.nx.trans k.nx, k'.sr, k.ext.trans k'.ext⟩

theorem fix1_ok (h : SR act hn s a w g) {v v' : V} (hk : normK1 s.h v some = some v') {c : Value} (hv : VR v (memOf w g) c) : ∃ g', Fixed act hn s a w g (fix1 s.h v) g' ∧ VR v' (memOf w g').alone c := by
  unfold normK1 at hk
  split at hk
  · rename_i id len sz
    cases hr : arrRows s.h id len with
    | none => rw [hr] at hk; cases hk
    | some rows =>
      rw [hr] at hk
      simp only [Option.bind_some] at hk
      cases hk
      obtain ⟨wr, sz', ho, hlen⟩ := arrRows_spec hr
      have ho' : hget s.h id = some (.arr wr sz' rows) := by rw [hget_eq]; exact ho
      obtain ⟨g', f1, f2, f3, f4, f5, f6⟩ := h.fix ho'
      refine ⟨g', ⟨f1, f2, f3, ?_, f5 _ ⟨id, rfl⟩⟩, ?_⟩
      · simp only [fix1, ho']; exact f4
      · simp only [VR] at hv ⊢
        obtain ⟨ad, cap, b, l, h1, h2, h3, h4, h5, h6, h7⟩ := hv
        refine ⟨ad, cap, by rw [← hlen]; exact h2, by omega, trivial, h5, fun hne => ?_⟩
        obtain ⟨b', k1, k2⟩ := f6 hne
        have h1' : g.J[id]? = some (b, some l) := h1
        rw [h1'] at k1; cases k1
        have hl0 : len ≠ 0 := by intro e; rw [e] at hlen; exact hne (List.length_eq_zero_iff.1 hlen.symm)
        obtain ⟨q, _⟩ := h7 hl0 hlen.symm
        exact ⟨b, 0, sz', q, k2⟩
  · cases hk
    refine ⟨g, Fixed.refl h, ?_⟩
    have := hv.any
    simp only [VR] at this ⊢
    exact this
  · rename_i h1 h2
    cases hb : refFree v with
    | false => rw [hb] at hk; cases hk
    | true =>
      rw [hb] at hk
      cases hk
      refine ⟨g, ?_, VR.alone (m := memOf w g) v hb rfl rfl hv⟩
      have e : fix1 s.h v = s.h := by
        unfold fix1
        split
        · simp [refFree] at hb
        · rfl
      rw [e]; exact Fixed.refl h

theorem fixs_ok (l : List V) : ∀ {s : St} {g : Gh} (_ : SR act hn s a w g) {l' : List V} (_ : normsK s.h l some = some l') {cs : List Value} (_ : VRl l (memOf w g) cs), ∃ g', Fixed act hn s a w g (fixs s.h l) g' ∧ VRl l' (memOf w g').alone cs := by
  induction l with
  | nil =>
    intro s g h l' hk cs hv
    cases hk
    simp only [VRl] at hv
    exact ⟨g, Fixed.refl h, by simp only [VRl]; exact hv⟩
  | cons v l ih =>
    intro s g h l' hk cs hv
    simp only [normsK] at hk
    rw [normK1_bind] at hk
    cases h1 : normK1 s.h v some with
    | none => rw [h1] at hk; cases hk
    | some v' =>
      rw [h1, Option.bind_some, normsK_bind] at hk
      cases h2 : normsK s.h l some with
      | none => rw [h2] at hk; cases hk
      | some l2 =>
        rw [h2] at hk
        cases hk
        simp only [VRl] at hv
        obtain ⟨c, cs', rfl, ⟨v1, v2⟩, v3⟩ := hv
        obtain ⟨g1, f1, f2⟩ := fix1_ok h h1 v1
        obtain ⟨g2, f3, f4⟩ := ih f1.sr (l' := l2) (by rw [normsK_fix1]; exact h2) (VRl.mono _ f1.ext.le v3)
        refine ⟨g2, f1.trans f3, ?_⟩
        simp only [VRl]
        exact ⟨c, cs', rfl, ⟨VR.mono _ f3.ext.le.alone f2, v2⟩, f4⟩

theorem normK_one {R : Type} {h : List Ob} {v : V} (hv : ∀ cs, v ≠ .agg cs) (k : V → Option R) : normK h v k = normK1 h v k := by
  cases v <;> first
    | rfl
    | exact absurd rfl (hv _)
theorem fixV_one {h : List Ob} {v : V} (hv : ∀ cs, v ≠ .agg cs) : fixV h v = fix1 h v := by
  cases v <;> first
    | rfl
    | exact absurd rfl (hv _)
theorem normResK_one {R : Type} {h : List Ob} {v : V} (hv : ∀ cs, v ≠ .tuple cs) (k : V → Option R) : normResK h v k = normK h v k := by
  cases v <;> first
    | rfl
    | exact absurd rfl (hv _)
theorem fixV_ok (h : SR act hn s a w g) {v v' : V} (hk : normK s.h v some = some v') {c : Value} (hv : VR v (memOf w g) c) : ∃ g', Fixed act hn s a w g (fixV s.h v) g' ∧ VR v' (memOf w g').alone c := by
  cases v with
  | agg cs =>
    simp only [normK] at hk
    rw [normsK_bind] at hk
    cases h1 : normsK s.h cs some with
    | none => rw [h1] at hk; cases hk
    | some cs' =>
      rw [h1] at hk
      cases hk
      simp only [VR] at hv
      obtain ⟨ds, rfl, hv⟩ := hv
      obtain ⟨g', f1, f2⟩ := fixs_ok cs h h1 hv
      exact ⟨g', f1, by simp only [VR]; exact ⟨ds, rfl, f2⟩⟩
  | _ =>
    rw [normK_one (by simp)] at hk
    rw [fixV_one (by simp)]
    exact fix1_ok h hk hv

theorem fixArgs_ok (l : List V) : ∀ {s : St} {g : Gh} (_ : SR act hn s a w g) {l' : List V} (_ : normArgsK s.h l some = some l') {cs : List Value} (_ : VRs l (memOf w g) cs), ∃ g', Fixed act hn s a w g (fixArgs s.h l) g' ∧ VRs l' (memOf w g').alone cs := by
  induction l with
  | nil =>
    intro s g h l' hk cs hv
    cases hk
    simp only [VRs] at hv
    exact ⟨g, Fixed.refl h, by simp only [VRs]; exact hv⟩
  | cons v l ih =>
    intro s g h l' hk cs hv
    simp only [normArgsK] at hk
    rw [normK_bind] at hk
    cases h1 : normK s.h v some with
    | none => rw [h1] at hk; cases hk
    | some v' =>
      rw [h1, Option.bind_some, normArgsK_bind] at hk
      cases h2 : normArgsK s.h l some with
      | none => rw [h2] at hk; cases hk
      | some l2 =>
        rw [h2] at hk
        cases hk
        simp only [VRs] at hv
        obtain ⟨c, cs', rfl, v1, v3⟩ := hv
        obtain ⟨g1, f1, f2⟩ := fixV_ok h h1 v1
        obtain ⟨g2, f3, f4⟩ := ih f1.sr (l' := l2) (by rw [normArgsK_fixV]; exact h2) (VRs.mono _ f1.ext.le v3)
        refine ⟨g2, f1.trans f3, ?_⟩
        simp only [VRs]
        exact ⟨c, cs', rfl, VR.mono _ f3.ext.le.alone f2, f4⟩

/-- A call's result by itself. -/
theorem fixRes_ok (h : SR act hn s a w g) {v v' : V} (hk : normResK s.h v some = some v') {c : Value} (hv : VR v (memOf w g) c) : ∃ h' g', Fixed act hn s a w g h' g' ∧ VR v' (memOf w g').alone c := by
  cases v with
  | tuple vs =>
    simp only [normResK] at hk
    rw [normArgsK_bind] at hk
    cases h1 : normArgsK s.h vs some with
    | none => rw [h1] at hk; cases hk
    | some vs' =>
      rw [h1] at hk
      cases hk
      simp only [VR] at hv
      obtain ⟨ds, rfl, hv⟩ := hv
      obtain ⟨g', f1, f2⟩ := fixArgs_ok vs h h1 hv
      exact ⟨_, g', f1, by simp only [VR]; exact ⟨ds, rfl, f2⟩⟩
  | _ =>
    rw [normResK_one (by simp)] at hk
    obtain ⟨g', f1, f2⟩ := fixV_ok h hk hv
    exact ⟨_, g', f1, f2⟩

theorem Ext.ofOb {w' : World} {g' : Gh} (h : Ext (obOf hn) w g w' g') : Ext (mine act hn) w g w' g' := h.weaken fun p ⟨id, e⟩ => .inr (.inr ⟨id, e⟩)

end Go.Ab
/- What is built: structs, arrays, slices; conditions: none. -/
namespace Go.Ab
set_option linter.unusedVariables false
set_option linter.unusedSimpArgs false
variable {act hn : Nat} {s s' : St} {a : Act} {w : World} {g : Gh} {P : Program} {F : Fence} {n : Nat} {o : Oper}

theorem put_st (d : Option Nat) (v : V) (h' : List Ob) : (⟨s.t, h'⟩ : St).put d v = ⟨(s.put d v).t, h'⟩ := by cases d <;> rfl

theorem fold_splice (off : Nat) (l : List Value) (cs : Array Value) (hf : off + l.length ≤ cs.size) :
    (((⟨l⟩ : Array Value).zipIdx.foldl (fun cs (x : Value × Nat) => cs.setIfInBounds (off + x.2) x.1) cs)).toList = cs.toList.take off ++ l ++ cs.toList.drop (off + l.length) := by
  have e : ((⟨l⟩ : Array Value).zipIdx.foldl (fun cs (x : Value × Nat) => cs.setIfInBounds (off + x.2) x.1) cs) = (l.zipIdx 0).foldl (fun cs (x : Value × Nat) => cs.setIfInBounds (off + x.2) x.1) cs := by
    rw [← Array.foldl_toList, Array.toList_zipIdx]
  rw [e]
  obtain ⟨h1, h2⟩ := Great.foldl_set off l 0 cs
  apply List.ext_getElem?
  intro k
  have h3 := h2 k
  simp only [Nat.add_zero] at h3
  rw [← Array.getElem?_toList] at h3
  rw [h3]
  split
  · rename_i hk
    rw [List.append_assoc, List.getElem?_append_right (by simp; omega), List.length_take, List.getElem?_append_left (by simp; omega)]
    congr 1
    simp; omega
  · rename_i hk
    by_cases hlt : k < off
    · rw [List.append_assoc, List.getElem?_append_left (by simp; omega), List.getElem?_take, if_pos hlt]; simp
    · by_cases hge : off + l.length ≤ k
      · rw [List.getElem?_append_right (by simp; omega), List.getElem?_drop]
        simp only [List.length_append, List.length_take, Array.length_toList]
        rw [← Array.getElem?_toList]
        congr 1
        omega
      · omega

theorem splice_length (cs new : List V) (off : Nat) (h : off + new.length ≤ cs.length) : (splice cs off new).length = cs.length := by
  unfold splice
  rw [takeL_eq, dropL_eq]
  simp; omega

theorem fill_ok (h : SR act hn s a w g) {place place' : Nat → Option (Nat × Nat)} (hp : ∀ i x, place i = some x → place' i = some x) : ∀ (parts : List (Nat × Operand)) (cs : List V) {cs' : List V} (_ : fillV s place parts cs = some cs') {cells : Array Value} (_ : VRl cs (memOf w g) cells.toList),
    ∃ cells' : Array Value, Instr.fill place' cells (parts.map fun x => (x.1, a.eval x.2)) = some cells' ∧ VRl cs' (memOf w g) cells'.toList ∧ cs'.length = cs.length ∧ (parts ≠ [] → cs ≠ []) := by
  intro parts
  induction parts with
  | nil =>
    intro cs cs' hf cells hv
    simp only [fillV] at hf; cases hf
    exact ⟨cells, rfl, hv, rfl, fun e => absurd rfl e⟩
  | cons p parts ih =>
    intro cs cs' hf cells hv
    obtain ⟨i, x⟩ := p
    simp only [fillV] at hf
    cases hpl : place i with
    | none => rw [hpl] at hf; cases hf
    | some y =>
      obtain ⟨off, m⟩ := y
      rw [hpl] at hf
      simp only at hf
      split at hf
      · rename_i hc
        simp only [Bool.and_eq_true] at hc
        obtain ⟨⟨c1, c2⟩, c3⟩ := hc
        have c1 := Nat.eq_of_beq_eq_true c1
        have c2 : 0 < m := Nat.le_of_ble_eq_true c2
        have c3 : off + (cellsOf (getV s x)).length ≤ cs.length := Nat.le_of_ble_eq_true c3
        have hx := cellsOf_ok (h.evalV x) (.inl (by intro e; rw [e] at c1; simp at c1; omega))
        have hl := VRl.length _ hx
        have hl2 := VRl.length _ hv
        have hsp := hv.splice hx off
        have hfit : off + (a.eval x).cells.toList.length ≤ cells.size := by simp only [Array.length_toList] at hl2 hl ⊢; omega
        have hfold := fold_splice off (a.eval x).cells.toList cells hfit
        obtain ⟨cells', k1, k2, k3, k4⟩ := ih (splice cs off (cellsOf (getV s x))) hf (cells := (a.eval x).cells.zipIdx.foldl (fun cs (x : Value × Nat) => cs.setIfInBounds (off + x.2) x.1) cells) (by rw [← hfold] at hsp; exact hsp)
        refine ⟨cells', ?_, k2, by rw [k3, splice_length _ _ _ c3], fun _ e => by have h9 := c3; rw [e] at h9; simp only [List.length_nil] at h9; omega⟩
        simp only [List.map_cons, Instr.fill, hp _ _ hpl]
        have n1 : ¬ (((a.eval x).cells.size ≠ m || decide (off + (a.eval x).cells.size > cells.size)) = true) := by
          simp at hl hl2 hfit ⊢
          omega
        rw [if_neg n1]
        exact k1
      · cases hf

theorem places_eq (P : Program) (fs : List Field) (places : List (Nat × Nat)) (h : fs.mapM (fun f => (P.info? f.type).map fun i => (f.offset, i.size)) = some places) (i : Nat) : (places.toArray[i]?) = places[i]? := by simp

theorem built_struct {t : TypeId} {it : TypeInfo} {zv : Value} {fs : Array Field} {places : List (Nat × Nat)} {parts : List (Nat × Value)} {cells : Array Value} (h1 : P.info? t = some it) (h2 : P.underlying t = some (.struct fs)) (h3 : it.zero = some zv)
    (h4 : fs.toList.mapM (fun f => (P.info? f.type).map fun i => (f.offset, i.size)) = some places) (h5 : Instr.fill (places.toArray[·]?) zv.cells parts = some cells) : P.built t parts = some cells := by
  unfold Program.built
  simp only [h1, h2, h3, h4, h5]
theorem built_array {t e : TypeId} {len : Nat} {it ie : TypeInfo} {zv : Value} {parts : List (Nat × Value)} {cells : Array Value} (h1 : P.info? t = some it) (h2 : P.underlying t = some (.array len e)) (h3 : it.zero = some zv)
    (h4 : P.info? e = some ie) (h5 : Instr.fill (fun i => some (i * ie.size, ie.size)) zv.cells parts = some cells) : P.built t parts = some cells := by
  unfold Program.built
  simp only [h1, h2, h3, h4, h5]

theorem sound_built (h : SR act hn s a w g) {t : TypeId} {parts : Array (Nat × Operand)} (ho : o.op = .build t parts) {cs : List V} {cells : Array Value} (hb : P.built t (parts.toList.map fun x => (x.1, a.eval x.2)) = some cells) (hv : VRl cs (memOf w g) cells.toList) {v : V}
    (hk : normK s.h (.agg cs) some = some v) : Sound P F n act hn ⟨(s.put o.dst v).t, fixV s.h (.agg cs)⟩ a w g o := by
  obtain ⟨g', f1, f2⟩ := fixV_ok h hk (c := .agg cells) (by simp only [VR]; exact ⟨cells.toList, rfl, hv⟩)
  refine Sound.value (c := .agg cells) (w' := w) (g' := g') ?_ ?_ f1.ext.ofOb
  · simp only [execOp, ho]
    have e : (parts.map fun (x : Nat × Operand) => (x.1, a.eval x.2)).toList = parts.toList.map fun x => (x.1, a.eval x.2) := by simp
    have := run_build (P := P) w t (parts.map fun (x : Nat × Operand) => (x.1, a.eval x.2)) cells (by rw [e]; exact hb)
    simp [this]
  · have := f1.sr.putV o.dst (VR.beside (m := (memOf w g').alone) (m' := memOf w g') _ rfl rfl rfl f2)
    rwa [put_st] at this

theorem chunk_get (sz : Nat) : ∀ (len : Nat) (cs : List V), cs.length = len * sz → ∀ (i : Nat) (r : List V), (chunk sz len cs)[i]? = some r → r.length = sz ∧ ∀ (j : Nat) (v : V), r[j]? = some v → cs[i * sz + j]? = some v := by
  intro len
  induction len with
  | zero => intro cs _ i r hi; simp [chunk] at hi
  | succ len ih =>
    intro cs hl i r hi
    rw [Nat.add_mul] at hl
    simp only [chunk] at hi
    cases i with
    | zero =>
      simp at hi; subst hi
      rw [takeL_eq]
      refine ⟨by simp; omega, fun j v hj => ?_⟩
      rw [List.getElem?_take] at hj
      split at hj
      · simpa using hj
      · cases hj
    | succ i =>
      simp only [List.getElem?_cons_succ] at hi
      obtain ⟨h1, h2⟩ := ih (dropL sz cs) (by rw [dropL_eq]; simp; omega) i r hi
      refine ⟨h1, fun j v hj => ?_⟩
      have := h2 j v hj
      rw [dropL_eq, List.getElem?_drop] at this
      rw [← this]; congr 1; rw [Nat.add_mul]; omega
theorem chunk_length (sz : Nat) : ∀ (len : Nat) (cs : List V), (chunk sz len cs).length = len
  | 0, _ => rfl
  | n + 1, cs => by simp [chunk, chunk_length sz n]

theorem zero_flat {z : List V} {zv : Value} {m : Mem} (hz : VRl z m zv.cells.toList) (h0 : 0 < z.length) (len : Nat) :
    VRl ((List.replicate len z).flatten) m ((Array.range (len * z.length)).map (zv.cells[· % zv.cells.size]!)).toList := by
  have hl := VRl.length _ hz
  simp at hl
  have hlen : ∀ k, ((List.replicate k z).flatten).length = k * z.length := by intro k; simp
  have hget : ∀ (k x : Nat), x < k * z.length → ((List.replicate k z).flatten)[x]? = z[x % z.length]? := by
    intro k
    induction k with
    | zero => intro x hx; omega
    | succ k ih =>
      intro x hx
      rw [Nat.add_mul] at hx
      simp only [List.replicate_succ, List.flatten_cons]
      by_cases hlt : x < z.length
      · rw [List.getElem?_append_left hlt, Nat.mod_eq_of_lt hlt]
      · rw [List.getElem?_append_right (by omega), ih (x - z.length) (by omega)]
        congr 1
        conv => rhs; rw [show x = x - z.length + z.length by omega]
        simp
  refine VRl.of_get _ (by simp) fun j v c hj hc => ?_
  have hjl : j < len * z.length := by have := (List.getElem?_eq_some_iff.1 hj).1; rwa [hlen] at this
  rw [hget len j hjl] at hj
  have hm : j % z.length < z.length := Nat.mod_lt _ h0
  obtain ⟨d, d1, d2⟩ := VRl.get _ hz _ _ hj
  have e : c = d := by
    simp [hjl] at hc
    rw [← hl] at hc
    have hlt : j % z.length < zv.cells.size := by omega
    rw [← hc]
    simp at d1
    rw [Array.getElem?_eq_getElem hlt] at d1
    simp [hlt] at d1 ⊢
    exact d1
  subst e; exact d2

theorem run_buildSlice_nil (w : World) (t e : TypeId) (ie : TypeInfo) (hu : P.underlying t = some (.slice e)) (hie : P.info? e = some ie) :
    (Instr.buildSlice t 0 #[]).run P w = .ok (.slice (some ⟨w.heap.size, 0, none⟩) 0 0) (w.alloc (.cells #[] e)) := by
  simp [Instr.buildSlice, run_underlying hu, sizeOf, typeInfo, hie, newRow, Instr.fill]
  congr 2
  apply Array.ext'
  simp

/-- A slice's literal. -/
theorem sound_buildSlice (h : SR act hn s a w g) {t e : TypeId} {len : Nat} {parts : Array (Nat × Operand)} (ho : o.op = .buildSlice t len parts) {sz b : Nat} (hs : sliceElem P t = some (e, sz, b)) {z : List V} (hz : zeroCells P e = some z) (hzl : z.length = sz) (h0 : 0 < sz)
    (hlim : len * sz ≤ 16777216) {cs : List V} (hf : fillV s (fun i => some (i * sz, sz)) parts.toList ((List.replicate len z).flatten) = some cs) {v : V} (hk : normK s.h (.agg cs) some = some v) :
    Sound P F n act hn ⟨(s.put o.dst (.slice (litFl len) (chunk sz len (cellsOf v)))).t, fixV s.h (.agg cs)⟩ a w g o := by
  obtain ⟨ie, hu, hie, hsz, _⟩ := sliceElem_spec hs
  obtain ⟨ie', zv, hie', hzv, hzr⟩ := zeroCells_spec hz (memOf w g)
  rw [hie] at hie'; cases hie'
  subst hsz
  have hfl := zero_flat hzr (by omega) len
  rw [hzl] at hfl
  obtain ⟨cells, k1, k2, k3, k4⟩ := fill_ok h (place' := fun i => some (i * ie.size, ie.size)) (fun i x e => e) parts.toList _ hf hfl
  obtain ⟨g', f1, f2⟩ := fixV_ok h hk (c := .agg cells) (by simp only [VR]; exact ⟨cells.toList, rfl, k2⟩)
  obtain ⟨s1, s2⟩ := f1.sr.allocFree (.cells cells e)
  have eparts : (parts.map fun (x : Nat × Operand) => (x.1, a.eval x.2)).toList = parts.toList.map fun x => (x.1, a.eval x.2) := by simp
  have hrun : (Instr.buildSlice t len (parts.map fun (x : Nat × Operand) => (x.1, a.eval x.2))).run P w = .ok (.slice (some ⟨w.heap.size, 0, none⟩) len len) (w.alloc (.cells cells e)) := by
    by_cases hl0 : len = 0
    · subst hl0
      have hp : parts = #[] := by
        apply Array.ext'
        by_cases e : parts.toList = []
        · simpa using e
        · exact absurd rfl (k4 e)
      subst hp
      have e1 : cells = #[] := by
        have h1 := VRl.length _ k2
        rw [k3] at h1
        exact Array.eq_empty_of_size_eq_zero (by simpa using h1.symm)
      subst e1
      have := run_buildSlice_nil (P := P) w t e ie hu hie
      simpa using this
    · refine run_buildSlice w t e len _ cells ie zv hu hie hzv (by omega) (by have := Nat.mul_ne_zero hl0 (by omega : ie.size ≠ 0); omega) ?_
      rw [eparts]
      exact k1
  have hcells : ∃ cs', v = .agg cs' ∧ VRl cs' (memOf w g').alone cells.toList := by
    simp only [normK] at hk
    rw [normsK_bind] at hk
    cases hn : normsK s.h cs some with
    | none => rw [hn] at hk; cases hk
    | some cs' =>
      rw [hn] at hk
      cases hk
      simp only [VR] at f2
      obtain ⟨ds, e1, e2⟩ := f2
      cases e1
      exact ⟨cs', rfl, e2⟩
  obtain ⟨cs', rfl, hv⟩ := hcells
  have hcl : cs'.length = len * ie.size := by
    have h1 := VRl.length _ hv
    have h2 := VRl.length _ k2
    rw [h1, ← h2, k3]; simp [hzl]
  refine Sound.value (c := .slice (some ⟨w.heap.size, 0, none⟩) len len) (w' := w.alloc (.cells cells e)) (g' := g') ?_ ?_ (f1.ext.ofOb.trans s2)
  · simp only [execOp, ho]
    simp [hrun]
  · have hval : VR (.slice (litFl len) (chunk ie.size len (cellsOf (.agg cs')))) (memOf (w.alloc (.cells cells e)) g') (.slice (some ⟨w.heap.size, 0, none⟩) len len) := by
      simp only [VR]
      refine ⟨_, len, by rw [chunk_length], by rw [chunk_length]; exact Nat.le_refl _, ?_, fun e => (by cases e), fun hne => ⟨w.heap.size, 0, ie.size, rfl, ?_⟩⟩
      · cases len <;> simp [litFl]
      · refine VRr.of_get _ fun i r hi => ?_
        have hil := (List.getElem?_eq_some_iff.1 hi).1
        rw [chunk_length] at hil
        obtain ⟨c1, c2⟩ := chunk_get ie.size len cs' hcl i r hi
        refine ⟨c1, VRc.of_get _ fun j u hu => ?_⟩
        obtain ⟨c, d1, d2, d3⟩ := VRl.get _ hv _ _ (c2 j u hu)
        refine ⟨c, ?_, VR.mono _ (le_free f1.sr.wf (.cells cells e)).alone d2, d3⟩
        simp only [memOf, Mem.alone]
        rw [if_pos (.inl (f1.sr.wf.new _ (Nat.le_refl _))), alloc_heap, if_pos rfl]
        simp only [cellAt]
        rw [← d1]; simp
    have := s1.putV o.dst hval
    rwa [put_st] at this

end Go.Ab
/- Each step of the abstract machine but a call is the machine's; conditions: none. -/
namespace Go.Ab
set_option linter.unusedVariables false
set_option linter.unusedSimpArgs false
variable {act hn : Nat} {s s' : St} {a : Act} {w : World} {g : Gh} {G : Cfg} {C : CallT} {f : FuncId} {dr : Bool} {F : Fence} {n : Nat} {o : Oper}

theorem ifK_some {R : Type} {b : Bool} {k : Option R} {r : R} (h : ifK b k = some r) : b = true ∧ k = some r := by
  cases b with
  | false => cases h
  | true => exact ⟨rfl, h⟩
theorem bind_some2 {A R : Type} {x : Option A} {k : A → Option R} {r : R} (h : x.bind k = some r) : ∃ y, x = some y ∧ k y = some r := by
  cases x with
  | none => cases h
  | some y => exact ⟨y, rfl, h⟩
theorem cond_some {R : Type} {b : Bool} {k : Option R} {r : R} (h : cond b k none = some r) : b = true ∧ k = some r := by
  cases b with
  | false => cases h
  | true => exact ⟨rfl, h⟩
theorem cond_some' {R : Type} {b : Bool} {k : Option R} {r : R} (h : cond b none k = some r) : b = false ∧ k = some r := by
  cases b with
  | true => cases h
  | false => exact ⟨rfl, h⟩

theorem step_move (h : SR act hn s a w g) {x : Operand} (ho : o.op = .move x) (hd : stepD G C f dr o s = some s') : Sound G.P F n act hn s' a w g o := by
  unfold stepD stepK at hd
  simp only [ho] at hd
  cases hd
  exact sound_move h ho
theorem step_assign (h : SR act hn s a w g) {x : Operand} (ho : o.op = .assign x) (hd : stepD G C f dr o s = some s') : Sound G.P F n act hn s' a w g o := by
  unfold stepD stepK at hd
  simp only [ho] at hd
  split at hd
  · rename_i d hdst
    split at hd
    · rename_i sz _ h1 h2 h3
      obtain ⟨b, hd⟩ := ifK_some hd
      simp only [Bool.and_eq_true] at b
      cases hd
      exact sound_acc h ho hdst (.inl rfl) h2 (Nat.le_of_ble_eq_true b.2)
    · rename_i sz _ h1 h2 h3
      obtain ⟨b, hd⟩ := ifK_some hd
      simp only [Bool.and_eq_true] at b
      cases hd
      exact sound_acc h ho hdst (.inr rfl) h2 (Nat.le_of_ble_eq_true b.2)
    · cases hd
      exact sound_assign h ho
  · rename_i hdst
    cases hd
    have := sound_assign (P := G.P) (F := F) (n := n) h ho
    rw [hdst] at this
    exact this
theorem step_pick (h : SR act hn s a w g) {c x y : Operand} (ho : o.op = .pick c x y) (hd : stepD G C f dr o s = some s') : Sound G.P F n act hn s' a w g o := by
  unfold stepD stepK at hd
  simp only [ho] at hd
  split at hd
  · rename_i q hq
    cases q <;> (simp only [cond_true, cond_false] at hd; cases hd; exact sound_pick h ho hq)
  · cases hd
theorem step_alloc (h : SR act hn s a w g) {t : TypeId} (ho : o.op = .alloc t) (hd : stepD G C f dr o s = some s') : Sound G.P F n act hn s' a w g o := by
  unfold stepD stepK at hd
  simp only [ho] at hd
  split at hd
  · rename_i d z hdst hz
    split at hd
    · cases hd
      exact sound_alloc h ho hdst hz
    · obtain ⟨_, hd⟩ := ifK_some hd
      obtain ⟨i, zv, h1, h2, h3⟩ := zeroCells_spec hz (memOf w g)
      split at hd
      · obtain ⟨hsz, hd⟩ := ifK_some hd
        cases hd
        refine sound_accOb h (cs := zv.cells) (t := t) ?_ hdst h3 (Nat.le_of_ble_eq_true hsz)
        simp only [execOp, ho, Instr.alloc]
        simp [run_tZero h1 h2, run_newVar]
      · cases hd
        refine sound_allocOb h (cs := zv.cells) (t := t) ?_ hdst h3
        simp only [execOp, ho, Instr.alloc]
        simp [run_tZero h1 h2, run_newVar]
  · cases hd
theorem step_box (h : SR act hn s a w g) {t : TypeId} {x : Operand} (ho : o.op = .box t x) (hd : stepD G C f dr o s = some s') : Sound G.P F n act hn s' a w g o := by
  unfold stepD stepK at hd
  simp only [ho] at hd
  split at hd
  · rename_i d hdst
    obtain ⟨hb, hd⟩ := ifK_some hd
    have hne : cellsOf (getV s x) ≠ [] := by intro e; rw [e] at hb; cases hb
    split at hd
    · cases hd
      exact sound_box h ho hdst (.inl hne)
    · obtain ⟨_, hd⟩ := ifK_some hd
      have hcs := cellsOf_ok (h.evalV x) (.inl hne)
      split at hd
      · rename_i hx _
        obtain ⟨hsz, hd⟩ := ifK_some hd
        cases hd
        rw [hx] at hcs
        refine sound_accOb h (cs := (a.eval x).cells) (t := t) ?_ hdst hcs (Nat.le_of_ble_eq_true hsz)
        simp only [execOp, ho, Instr.box]
        simp [run_newVar]
      · cases hd
        refine sound_allocOb h (cs := (a.eval x).cells) (t := t) ?_ hdst hcs
        simp only [execOp, ho, Instr.box]
        simp [run_newVar]
  · cases hd
theorem step_build (h : SR act hn s a w g) {t : TypeId} {parts : Array (Nat × Operand)} (ho : o.op = .build t parts) (hd : stepD G C f dr o s = some s') : Sound G.P F n act hn s' a w g o := by
  unfold stepD stepK at hd
  simp only [ho] at hd
  split at hd
  · rename_i z fs hz hu
    split at hd
    · rename_i places hp
      obtain ⟨cs, hf, hd⟩ := bind_some2 hd
      obtain ⟨_, hd⟩ := ifK_some hd
      rw [normK_bind] at hd
      obtain ⟨v, hk, hd⟩ := bind_some2 hd
      cases hd
      obtain ⟨i, zv, h1, h2, h3⟩ := zeroCells_spec hz (memOf w g)
      obtain ⟨cells, k1, k2, _, _⟩ := fill_ok h (place' := fun i => places.toArray[i]?) (fun i x e => by simpa using e) parts.toList _ hf h3
      exact sound_built h ho (built_struct h1 hu h2 hp k1) k2 hk
    · cases hd
  · rename_i z _ e hz hu
    split at hd
    · rename_i ie hie
      obtain ⟨cs, hf, hd⟩ := bind_some2 hd
      obtain ⟨_, hd⟩ := ifK_some hd
      rw [normK_bind] at hd
      obtain ⟨v, hk, hd⟩ := bind_some2 hd
      cases hd
      obtain ⟨i, zv, h1, h2, h3⟩ := zeroCells_spec hz (memOf w g)
      obtain ⟨cells, k1, k2, _, _⟩ := fill_ok h (place' := fun i => some (i * ie.size, ie.size)) (fun i x e => e) parts.toList _ hf h3
      exact sound_built h ho (built_array h1 hu h2 hie k1) k2 hk
    · cases hd
  · cases hd
theorem step_buildSlice (h : SR act hn s a w g) {t : TypeId} {len : Nat} {parts : Array (Nat × Operand)} (ho : o.op = .buildSlice t len parts) (hd : stepD G C f dr o s = some s') : Sound G.P F n act hn s' a w g o := by
  unfold stepD stepK at hd
  simp only [ho] at hd
  split at hd
  · rename_i e m _ hs
    split at hd
    · rename_i z hz
      obtain ⟨hb, hd⟩ := ifK_some hd
      simp only [Bool.and_eq_true] at hb
      obtain ⟨cs, hf, hd⟩ := bind_some2 hd
      obtain ⟨_, hd⟩ := ifK_some hd
      rw [normK_bind] at hd
      obtain ⟨v, hk, hd⟩ := bind_some2 hd
      cases hd
      exact sound_buildSlice h ho hs hz (Nat.eq_of_beq_eq_true hb.1.1) (Nat.le_of_ble_eq_true hb.1.2) (Nat.le_of_ble_eq_true hb.2) hf hk
    · cases hd
  · cases hd
theorem step_load (h : SR act hn s a w g) {t : TypeId} {x : Operand} (ho : o.op = .load t x) (hd : stepD G C f dr o s = some s') : Sound G.P F n act hn s' a w g o := by
  unfold stepD stepK at hd
  simp only [ho] at hd
  split at hd
  · rename_i ag m ht
    rw [loadK_bind] at hd
    obtain ⟨v, hl, hd⟩ := bind_some2 hd
    cases hd
    exact sound_load h ho ht hl
  · cases hd
theorem step_store (h : SR act hn s a w g) {t : TypeId} {y x : Operand} (ho : o.op = .store t y x) (hd : stepD G C f dr o s = some s') : Sound G.P F n act hn s' a w g o := by
  unfold stepD stepK at hd
  simp only [ho] at hd
  split at hd
  · rename_i ag m i ht hdst
    obtain ⟨hb, hd⟩ := ifK_some hd
    simp only [Bool.and_eq_true] at hb
    have hm := Nat.eq_of_beq_eq_true hb.1
    have hm0 : 0 < m := Nat.le_of_ble_eq_true hb.2
    exact sound_store h ho hdst ht hm (.inl (by intro e; rw [e] at hm; simp at hm; omega)) hd
  · cases hd
theorem step_nilCheck (h : SR act hn s a w g) {x : Operand} (ho : o.op = .nilCheck x) (hd : stepD G C f dr o s = some s') : Sound G.P F n act hn s' a w g o := by
  unfold stepD stepK at hd
  simp only [ho] at hd
  split at hd <;> first
    | (cases hd; done)
    | skip
  · rename_i hx; cases hd; exact sound_nilCheck h ho (.inl ⟨_, _, rfl, hx, rfl⟩)
  · rename_i hx; cases hd; exact sound_nilCheck h ho (.inr (.inl ⟨_, _, hx, rfl⟩))
  · rename_i hx; cases hd; exact sound_nilCheck h ho (.inr (.inr (.inl ⟨_, _, hx, rfl⟩)))
  · rename_i hx; cases hd; exact sound_nilCheck h ho (.inr (.inr (.inr (.inl ⟨_, _, hx, rfl⟩))))
  · rename_i hx; cases hd; exact sound_nilCheck h ho (.inr (.inr (.inr (.inr ⟨_, _, _, hx, rfl⟩))))
theorem step_binOp (h : SR act hn s a w g) {op : BinOp} {t t' : TypeId} {x y : Operand} (ho : o.op = .binOp op t x y t') (hd : stepD G C f dr o s = some s') : Sound G.P F n act hn s' a w g o := by
  unfold stepD stepK at hd
  simp only [ho] at hd
  split at hd
  · rename_i k1 i k2 j hx hy
    split at hd
    · obtain ⟨hk, hd⟩ := ifK_some hd
      obtain ⟨hj, hd⟩ := cond_some' hd
      cases hd
      exact sound_quo h ho hx hy (kEq_iff.1 hk) (by simpa using hj)
    · obtain ⟨hk, hd⟩ := ifK_some hd
      obtain ⟨hj, hd⟩ := cond_some' hd
      cases hd
      exact sound_rem h ho hx hy (kEq_iff.1 hk) (by simpa using hj)
    · obtain ⟨hj, hd⟩ := cond_some' hd
      cases hd
      exact sound_shl h ho hx hy (by simpa using hj)
    · obtain ⟨hj, hd⟩ := cond_some' hd
      cases hd
      exact sound_shr h ho hx hy (by simpa using hj)
    · obtain ⟨hk, hd⟩ := ifK_some hd
      obtain ⟨v, hv, hd⟩ := bind_some2 hd
      cases hd
      exact sound_arith h ho hx hy (kEq_iff.1 hk) hv
  · rename_i p q hx hy
    split at hd
    · rename_i ht; cases hd; exact sound_eqlBool h ho hx hy ht (.inl ⟨rfl, rfl⟩)
    · rename_i ht; cases hd; exact sound_eqlBool h ho hx hy ht (.inr ⟨rfl, rfl⟩)
    · cases hd
  · rename_i xs ys hx hy
    obtain ⟨hb, hd⟩ := ifK_some hd
    simp only [Bool.and_eq_true, Bool.not_eq_true'] at hb
    obtain ⟨hg, hu⟩ := hb
    have ht : ∃ fs, G.P.underlying t = some (.struct fs) := by
      split at hu
      · rename_i fs hfs; exact ⟨fs, hfs⟩
      · cases hu
    split at hd
    · obtain ⟨b, hb, hd⟩ := bind_some2 hd
      cases hd
      exact sound_eqlAgg h ho hx hy hg ht hb (.inl ⟨rfl, rfl⟩)
    · obtain ⟨b, hb, hd⟩ := bind_some2 hd
      cases hd
      exact sound_eqlAgg h ho hx hy hg ht hb (.inr ⟨rfl, rfl⟩)
    · cases hd
  · cases hd
theorem step_unOp (h : SR act hn s a w g) {op : UnOp} {t : TypeId} {x : Operand} (ho : o.op = .unOp op t x) (hd : stepD G C f dr o s = some s') : Sound G.P F n act hn s' a w g o := by
  unfold stepD stepK at hd
  simp only [ho] at hd
  split at hd
  · rename_i hx; cases hd; exact sound_unNeg h ho hx
  · rename_i hx; cases hd; exact sound_unNot h ho hx
  · cases hd
theorem step_convert (h : SR act hn s a w g) {t t' : TypeId} {x : Operand} (ho : o.op = .convert t t' x) (hd : stepD G C f dr o s = some s') : Sound G.P F n act hn s' a w g o := by
  unfold stepD stepK at hd
  simp only [ho] at hd
  split at hd
  · rename_i h1 h2 hx
    cases hd
    exact sound_convert h ho h2 (by rw [h1]; rfl) hx
  · cases hd
theorem step_index (h : SR act hn s a w g) {t : TypeId} {x ix : Operand} (ho : o.op = .index t x ix) (hd : stepD G C f dr o s = some s') : Sound G.P F n act hn s' a w g o := by
  unfold stepD stepK at hd
  simp only [ho] at hd
  split at hd
  · rename_i b k i hu hx hi
    obtain ⟨m, hm, hd⟩ := bind_some2 hd
    cases hd
    have hv := h.evalN hx rfl
    have hw := h.evalN hi rfl
    simp only [VR] at hv hw
    unfold strAt at hm
    split at hm
    · rename_i hb
      cases hm
      refine Sound.pure h (c := .int .u8 ((b.get! i.toNat).toNat : Int)) ?_ (by simp only [VR])
      simp only [execOp, ho, hv, hw]
      have := run_index_string w t b k i hu
      rw [dif_pos hb] at this
      simp only [Sem.run_bind, this, Result.andThen_ok, Sem.run_pure]
      congr 4
      have hlt : i.toNat < b.size := by omega
      simp [ByteArray.get!, hlt, ByteArray.getElem_eq_getElem_data]
    · cases hm
  · cases hd
theorem step_makeFunc (h : SR act hn s a w g) {q : Fn} {fi ca : Array Operand} (ho : o.op = .makeFunc q fi ca) (hd : stepD G C f dr o s = some s') : Sound G.P F n act hn s' a w g o := by
  unfold stepD stepK at hd
  simp only [ho] at hd
  split at hd <;> rename_i heq <;> first
    | (cases heq; cases hd; exact sound_makeFunc h ho)
    | (cases heq; done)
    | (cases hd; done)
theorem step_fieldAddr (h : SR act hn s a w g) {t : TypeId} {x : Operand} {fd : Nat} (ho : o.op = .fieldAddr t x fd) (hd : stepD G C f dr o s = some s') : Sound G.P F n act hn s' a w g o := by
  unfold stepD stepK at hd
  simp only [ho] at hd
  split at hd
  · rename_i off ft hf
    split at hd
    · rename_i ag m ht
      obtain ⟨hm, hd⟩ := ifK_some hd
      have hm : 0 < m := Nat.le_of_ble_eq_true hm
      split at hd <;> first
        | (cases hd; done)
        | skip
      · rename_i hx; cases hd; exact sound_fieldAddr h ho hf ht hm (.inl ⟨_, _, rfl, hx, rfl⟩)
      · rename_i hx; cases hd; exact sound_fieldAddr h ho hf ht hm (.inr (.inl ⟨_, _, hx, rfl⟩))
      · rename_i hx; cases hd; exact sound_fieldAddr h ho hf ht hm (.inr (.inr (.inl ⟨_, _, hx, rfl⟩)))
      · rename_i hx; cases hd; exact sound_fieldAddr h ho hf ht hm (.inr (.inr (.inr (.inl ⟨_, _, hx, rfl⟩))))
      · rename_i hx; cases hd; exact sound_fieldAddr h ho hf ht hm (.inr (.inr (.inr (.inr ⟨_, _, _, _, _, hx, rfl⟩))))
    · cases hd
  · cases hd
theorem step_field (h : SR act hn s a w g) {t : TypeId} {x : Operand} {fd : Nat} (ho : o.op = .field t x fd) (hd : stepD G C f dr o s = some s') : Sound G.P F n act hn s' a w g o := by
  unfold stepD stepK at hd
  simp only [ho] at hd
  split at hd
  · rename_i off ft cs hf hx
    split at hd
    · rename_i ag m ht
      obtain ⟨v, hp, hd⟩ := bind_some2 hd
      cases hd
      exact sound_field h ho hf ht hx hp
    · cases hd
  · cases hd
theorem step_indexAddr (h : SR act hn s a w g) {t : TypeId} {x ix : Operand} (ho : o.op = .indexAddr t x ix) (hd : stepD G C f dr o s = some s') : Sound G.P F n act hn s' a w g o := by
  unfold stepD stepK at hd
  simp only [ho] at hd
  split at hd
  · rename_i k i hi
    split at hd
    · rename_i e sz b hs
      obtain ⟨h0, hd⟩ := ifK_some hd
      split at hd
      · rename_i fl rows hx
        obtain ⟨row, hr, hd⟩ := bind_some2 hd
        rw [shsK_bind] at hd
        obtain ⟨row', hr', hd⟩ := bind_some2 hd
        cases hd
        exact sound_indexSlice h ho hs hi hx hr hr'
      · rename_i id len sz' hx
        obtain ⟨hsz, hd2⟩ := ifK_some hd
        have := Nat.eq_of_beq_eq_true hsz
        subst this
        obtain ⟨h1, hd3⟩ := cond_some hd2
        obtain ⟨h2, hd4⟩ := cond_some hd3
        cases hd4
        exact sound_indexArr h ho hs hi hx (of_decide_eq_true h1) (of_decide_eq_true h2)
      · cases hd
    · split at hd
      · rename_i e sz m hs
        obtain ⟨h0, hd⟩ := ifK_some hd
        split at hd <;> first
          | (cases hd; done)
          | skip
        all_goals (
          rename_i hx
          obtain ⟨h1, hd3⟩ := cond_some hd
          obtain ⟨h2, hd4⟩ := cond_some hd3
          cases hd4
          refine sound_indexBox h ho hs hi (of_decide_eq_true h1) (of_decide_eq_true h2) ?_
          first
            | exact .inl ⟨_, _, rfl, hx, rfl⟩
            | exact .inr (.inl ⟨_, _, hx, rfl⟩)
            | exact .inr (.inr ⟨_, _, hx, rfl⟩))
      · cases hd
  · cases hd
theorem step_slice (h : SR act hn s a w g) {t : TypeId} {x : Operand} {lo hi mx : Option Operand} (ho : o.op = .slice t x lo hi mx) (hd : stepD G C f dr o s = some s') : Sound G.P F n act hn s' a w g o := by
  unfold stepD stepK at hd
  simp only [ho] at hd
  split at hd <;> rename_i heq <;> first
    | (cases heq; done)
    | (cases hd; done)
    | skip
  cases heq
  split at hd
  · rename_i e sz b fl rows hs hx
    obtain ⟨H, hd, hH⟩ := boundK_spec hd
    obtain ⟨L, hd, hL⟩ := boundK_spec hd
    obtain ⟨hh, hd⟩ := cond_some hd
    cases hd
    have hH' : (hi = none ∧ H = rows.length) ∨ ∃ (y : Operand) (q : IntKind) (i : Int), hi = some y ∧ getV s y = .int q i ∧ 0 ≤ i ∧ H = i.toNat ∧ H ≤ rows.length := by
      rcases hH with ⟨h1, h2⟩ | ⟨q, i, h1, h2, h3, h4⟩
      · left; cases hi with
        | none => exact ⟨rfl, h2⟩
        | some _ => cases h1
      · right; cases hi with
        | none => cases h1
        | some y => simp at h1; exact ⟨y, q, i, rfl, h1, h2, h3, h4⟩
    have hL' : (lo = none ∧ L = 0) ∨ ∃ (y : Operand) (q : IntKind) (i : Int), lo = some y ∧ getV s y = .int q i ∧ 0 ≤ i ∧ L = i.toNat ∧ L ≤ H := by
      rcases hL with ⟨h1, h2⟩ | ⟨q, i, h1, h2, h3, h4⟩
      · left; cases lo with
        | none => exact ⟨rfl, h2⟩
        | some _ => cases h1
      · right; cases lo with
        | none => cases h1
        | some y => simp at h1; exact ⟨y, q, i, rfl, h1, h2, h3, h4⟩
    refine sound_slice h hs ho hx hH' hL' ?_ ?_
    · rcases hL' with ⟨_, rfl⟩ | ⟨_, _, _, _, _, _, _, hle⟩ <;> omega
    · cases lo with
      | none => exact .inl rfl
      | some _ => exact .inr (headIs_spec hh)
  · cases hd
theorem step_extract (h : SR act hn s a w g) {x : Operand} {i : Nat} (ho : o.op = .extract x i) (hd : stepD G C f dr o s = some s') : Sound G.P F n act hn s' a w g o := by
  unfold stepD stepK at hd
  simp only [ho] at hd
  split at hd
  · rename_i vs hx
    split at hd
    · rename_i v hv
      cases hd
      refine sound_extract h ho hx ?_
      have e : ∀ (vs : List V) (i : Nat), stepK.hgetV vs i = vs[i]? := by
        intro vs
        induction vs with
        | nil => intro i; rfl
        | cons v vs ih => intro i; cases i with
          | zero => rfl
          | succ i => simpa [stepK.hgetV] using ih i
      rw [← e]; exact hv
    · cases hd
  · cases hd

end Go.Ab
/- States of others' shapes stand for what they stood for; conditions: none. -/
namespace Go.Ab
set_option linter.unusedVariables false
set_option linter.unusedSimpArgs false
variable {act hn : Nat} {s s0 s' : St} {a : Act} {w : World} {g : Gh}

mutual
theorem likeV : ∀ (t v : V) {v' : V} (_ : likeK t v some = some v') {m : Mem} {c : Value} (_ : VR v m c), VR v' m c
  | .int q _, v, v', h, m, c, hv => by
    simp only [likeK] at h
    obtain ⟨n, h1, h2⟩ := bind_some2 h
    cases h2
    cases v <;> simp only [asInt, reduceCtorEq] at h1
    split at h1
    · rename_i e; cases h1; subst e; exact hv
    · cases h1
  | .bool _, v, v', h, m, c, hv => by
    simp only [likeK] at h
    obtain ⟨n, h1, h2⟩ := bind_some2 h
    cases h2
    cases v <;> simp only [asBool, reduceCtorEq] at h1
    cases h1; exact hv
  | .str _, v, v', h, m, c, hv => by
    simp only [likeK] at h
    obtain ⟨n, h1, h2⟩ := bind_some2 h
    cases h2
    cases v <;> simp only [asStr, reduceCtorEq] at h1
    cases h1; exact hv
  | .slice _ _, v, v', h, m, c, hv => by
    simp only [likeK] at h
    obtain ⟨n, h1, h2⟩ := bind_some2 h
    cases h2
    cases v <;> simp only [asRows, reduceCtorEq] at h1
    cases h1; exact hv.any
  | .agg cs0, v, v', h, m, c, hv => by
    simp only [likeK] at h
    obtain ⟨cs, h1, h2⟩ := bind_some2 h
    rw [likesK_bind] at h2
    obtain ⟨cs', h3, h4⟩ := bind_some2 h2
    cases h4
    cases v <;> simp only [asCells, reduceCtorEq] at h1
    cases h1
    simp only [VR] at hv ⊢
    obtain ⟨ds, e, hv⟩ := hv
    exact ⟨ds, e, likesL cs0 _ h3 hv⟩
  | .box cs0, v, v', h, m, c, hv => by
    simp only [likeK] at h
    obtain ⟨cs, h1, h2⟩ := bind_some2 h
    cases v <;> simp only [asBox, reduceCtorEq] at h1
    simp only [VR] at hv
  | .fn q a0 b0, v, v', h, m, c, hv => by
    simp only [likeK] at h
    obtain ⟨p, h1, h2⟩ := bind_some2 h
    rw [likesK_bind] at h2
    obtain ⟨fi, h3, h4⟩ := bind_some2 h2
    rw [likesK_bind] at h4
    obtain ⟨ca, h5, h6⟩ := bind_some2 h4
    cases h6
    cases v <;> simp only [asFn, reduceCtorEq] at h1
    rename_i q' x y
    cases hq : fnEq q q' with
    | false => rw [hq] at h1; cases h1
    | true =>
      rw [hq] at h1
      cases h1
      have hqq : q = q' := by
        cases q <;> cases q' <;> simp only [fnEq, reduceCtorEq] at hq
        · rw [Nat.eq_of_beq_eq_true hq]
        · rw [Nat.eq_of_beq_eq_true hq]
      subst hqq
      simp only [VR] at hv ⊢
      obtain ⟨f', fi', ca', e, k1, k2, k3⟩ := hv
      exact ⟨f', fi', ca', e, likesS a0 _ h3 k1, likesS b0 _ h5 k2, k3⟩
  | .arr id _ sz, v, v', h, m, c, hv => by
    simp only [likeK] at h
    obtain ⟨n, h1, h2⟩ := bind_some2 h
    cases h2
    cases v <;> simp only [asArr, reduceCtorEq] at h1
    split at h1
    · rename_i hb
      simp only [Bool.and_eq_true] at hb
      cases h1
      rw [Nat.eq_of_beq_eq_true hb.1, Nat.eq_of_beq_eq_true hb.2]
      exact hv
    · cases h1
  | .ptr id off, v, v', h, m, c, hv => by
    simp only [likeK] at h
    obtain ⟨n, h1, h2⟩ := bind_some2 h
    cases h2
    cases v <;> simp only [asPtr, reduceCtorEq] at h1
    split at h1
    · rename_i hb
      simp only [Bool.and_eq_true] at hb
      rw [Nat.eq_of_beq_eq_true hb.1, Nat.eq_of_beq_eq_true hb.2]
      exact hv
    · cases h1
  | .adr j off, v, v', h, m, c, hv => by
    simp only [likeK] at h
    obtain ⟨n, h1, h2⟩ := bind_some2 h
    cases v <;> simp only [asAdr, reduceCtorEq] at h1
    simp only [VR] at hv
  | .undef, v, v', h, m, c, hv => by simp only [likeK] at h; cases h; simp only [VR]
  | .skip, v, v', h, m, c, hv => by simp only [likeK] at h; cases h; simp only [VR]
  | .nilp, v, v', h, m, c, hv => by simp only [likeK] at h; cases h; simp only [VR]
  | .rptr _ _, v, v', h, m, c, hv => by simp only [likeK] at h; cases h; simp only [VR]
  | .eptr _ _ _ _ _, v, v', h, m, c, hv => by simp only [likeK] at h; cases h; simp only [VR]
  | .nilmap, v, v', h, m, c, hv => by simp only [likeK] at h; cases h; simp only [VR]
  | .map _, v, v', h, m, c, hv => by simp only [likeK] at h; cases h; simp only [VR]
  | .nilfn, v, v', h, m, c, hv => by simp only [likeK] at h; cases h; simp only [VR]
  | .iface _ _, v, v', h, m, c, hv => by simp only [likeK] at h; cases h; simp only [VR]
  | .nili, v, v', h, m, c, hv => by simp only [likeK] at h; cases h; simp only [VR]
  | .tuple _, v, v', h, m, c, hv => by simp only [likeK] at h; cases h; simp only [VR]
theorem likesL : ∀ (t vs : List V) {vs' : List V} (_ : likesK t vs some = some vs') {m : Mem} {cs : List Value} (_ : VRl vs m cs), VRl vs' m cs
  | [], vs, vs', h, m, cs, hv => by
    simp only [likesK] at h
    obtain ⟨_, h1, h2⟩ := bind_some2 h
    cases h2
    cases vs with
    | nil => exact hv
    | cons _ _ => cases h1
  | t :: l, vs, vs', h, m, cs, hv => by
    simp only [likesK] at h
    obtain ⟨p, h1, h2⟩ := bind_some2 h
    rw [likeK_bind] at h2
    obtain ⟨v', h3, h4⟩ := bind_some2 h2
    rw [likesK_bind] at h4
    obtain ⟨l', h5, h6⟩ := bind_some2 h4
    cases h6
    cases vs with
    | nil => cases h1
    | cons u us =>
      cases h1
      simp only [VRl] at hv ⊢
      obtain ⟨c, cs', e, ⟨k1, k2⟩, k3⟩ := hv
      exact ⟨c, cs', e, ⟨likeV t _ h3 k1, k2⟩, likesL l _ h5 k3⟩
theorem likesS : ∀ (t vs : List V) {vs' : List V} (_ : likesK t vs some = some vs') {m : Mem} {cs : List Value} (_ : VRs vs m cs), VRs vs' m cs
  | [], vs, vs', h, m, cs, hv => by
    simp only [likesK] at h
    obtain ⟨_, h1, h2⟩ := bind_some2 h
    cases h2
    cases vs with
    | nil => exact hv
    | cons _ _ => cases h1
  | t :: l, vs, vs', h, m, cs, hv => by
    simp only [likesK] at h
    obtain ⟨p, h1, h2⟩ := bind_some2 h
    rw [likeK_bind] at h2
    obtain ⟨v', h3, h4⟩ := bind_some2 h2
    rw [likesK_bind] at h4
    obtain ⟨l', h5, h6⟩ := bind_some2 h4
    cases h6
    cases vs with
    | nil => cases h1
    | cons u us =>
      cases h1
      simp only [VRs] at hv ⊢
      obtain ⟨c, cs', e, k1, k3⟩ := hv
      exact ⟨c, cs', e, likeV t _ h3 k1, likesS l _ h5 k3⟩
end

theorem TR.any (i : Nat) (c : Value) : TR w g act i .undef c := TR.of_VR (by simp only [Ab.VR])

theorem likeT {t v v' : V} (h : likeK t v some = some v') {i : Nat} {c : Value} (hv : TR w g act i v c) : TR w g act i v' c := by
  by_cases hb : ∃ cs, v = .box cs
  · obtain ⟨cs, rfl⟩ := hb
    cases t <;> simp only [likeK] at h <;> first
      | (cases h; exact TR.any _ _)
      | (obtain ⟨x, h1, _⟩ := bind_some2 h; simp only [asInt, asBool, asStr, asRows, asCells, asFn, asArr, asPtr, asAdr, reduceCtorEq] at h1; done)
      | skip
    obtain ⟨x, h1, h2⟩ := bind_some2 h
    cases h1
    rw [likesK_bind] at h2
    obtain ⟨cs', h3, h4⟩ := bind_some2 h2
    cases h4
    obtain ⟨b, ds, e, k1, k2, k3, k4, k5⟩ := hv
    exact ⟨b, ds, e, k1, k2, k3, k4, likesL _ _ h3 k5⟩
  · by_cases ha : ∃ j off, v = .adr j off
    · obtain ⟨j, off, rfl⟩ := ha
      cases t <;> simp only [likeK] at h <;> first
        | (cases h; exact TR.any _ _)
        | (obtain ⟨x, h1, _⟩ := bind_some2 h; simp only [asInt, asBool, asStr, asRows, asCells, asBox, asFn, asArr, asPtr, reduceCtorEq] at h1; done)
        | skip
      obtain ⟨x, h1, h2⟩ := bind_some2 h
      cases h2
      simp only [asAdr] at h1
      split at h1
      · rename_i hb
        simp only [Bool.and_eq_true] at hb
        rw [Nat.eq_of_beq_eq_true hb.1, Nat.eq_of_beq_eq_true hb.2]
        exact hv
      · cases h1
    · exact TR.of_VR (likeV t v h (hv.VR (fun cs e => hb ⟨cs, e⟩) fun j off e => ha ⟨j, off, e⟩))

theorem likeOb {t o o' : Ob} (h : likeObK t o some = some o') {id : Nat} (ho : OR w g hn id o) : OR w g hn id o' := by
  cases t with
  | cells cs0 =>
    simp only [likeObK] at h
    obtain ⟨cs, h1, h2⟩ := bind_some2 h
    rw [likesK_bind] at h2
    obtain ⟨cs', h3, h4⟩ := bind_some2 h2
    cases h4
    cases o <;> simp only [asObCells, reduceCtorEq] at h1
    cases h1
    obtain ⟨b, ds, e, k1, k2, k3, k4, k5⟩ := ho
    exact ⟨b, ds, e, k1, k2, k3, k4, likesL _ _ h3 k5⟩
  | arr wr sz rows0 =>
    simp only [likeObK] at h
    obtain ⟨rows, h1, h2⟩ := bind_some2 h
    cases h2
    cases o <;> simp only [asObArr, reduceCtorEq] at h1
    split at h1
    · rename_i hb
      simp only [Bool.and_eq_true] at hb
      cases h1
      rw [eq_of_beq hb.1, Nat.eq_of_beq_eq_true hb.2]
      exact ho
    · cases h1
  | loop l0 =>
    simp only [likeObK] at h
    obtain ⟨l, h1, h2⟩ := bind_some2 h
    cases h2
    cases o <;> simp only [asLoop, reduceCtorEq] at h1
    cases h1
    exact ho
  | dead => cases h; trivial

theorem heap_get : ∀ (t h : List Ob) {h' : List Ob} (_ : heapK t h some = some h'), h'.length = t.length ∧ h'.length ≤ h.length ∧ ∀ (i : Nat) (o' : Ob), h'[i]? = some o' → ∃ o, h[i]? = some o ∧ ∀ (w : World) (g : Gh) (hn id : Nat), OR w g hn id o → OR w g hn id o' := by
  intro t
  induction t with
  | nil =>
    intro h h' e
    simp only [heapK] at e
    cases e
    exact ⟨rfl, Nat.zero_le _, fun i o' ho => by simp at ho⟩
  | cons x t ih =>
    intro h h' e
    simp only [heapK] at e
    obtain ⟨p, h1, h2⟩ := bind_some2 e
    rw [likeObK_bind] at h2
    obtain ⟨o1, h3, h4⟩ := bind_some2 h2
    rw [heapK_bind] at h4
    obtain ⟨h5, h6, h7⟩ := bind_some2 h4
    cases h7
    cases h with
    | nil => cases h1
    | cons o h =>
      cases h1
      obtain ⟨k1, k0, k2⟩ := ih _ h6
      have k0 : h5.length ≤ h.length := k0
      refine ⟨by simp [k1], by simp only [List.length_cons]; omega, fun i o' ho => ?_⟩
      cases i with
      | zero => simp at ho; subst ho; exact ⟨o, rfl, fun _ _ _ _ hor => likeOb h3 hor⟩
      | succ i => simp at ho; obtain ⟨o2, l1, l2⟩ := k2 i o' ho; exact ⟨o2, by simpa using l1, l2⟩

/-- Others' shapes over a state's first objects, which alone are kept. -/
theorem SR.heap (h : SR act hn s a w g) {t h' : List Ob} (e : heapK t s.h some = some h') (hb : belowObs h'.length h' = true)
    (hs : ∀ (i : Nat) (v : V) (c : Value), s.t[i]? = some v → a.tmps[i]? = some c → TR w (g.cut h'.length) act i v c) : SR act hn ⟨s.t, h'⟩ a w (g.cut h'.length) := by
  obtain ⟨_, k1, k2⟩ := heap_get _ _ e
  refine { wf := ⟨h.wf.new, h.wf.inj, h.wf.nx⟩, size := h.size, tmp := fun i v hv => ?_, jl := ?_, obj := fun id ob ho => ?_, dfr := h.dfr, an := h.an, hm := h.hm }
  · obtain ⟨c, hc, _⟩ := h.tmp i v hv
    exact ⟨c, hc, hs i v c hv hc⟩
  · have h0 : h'.length ≤ s.h.length := k1
    simp [Gh.cut, h.jl, h0]
  · obtain ⟨o, l1, l2⟩ := k2 id ob ho
    have hid := (List.getElem?_eq_some_iff.1 ho).1
    exact (l2 _ _ _ _ (h.obj id o l1)).cut hid fun cs hc => by subst hc; exact belowObs_get hb ho
theorem Gh.cut_all (h : SR act hn s a w g) : g.cut s.h.length = g := by
  rw [← h.jl]; simp [Gh.cut]
theorem SR.heapSame (h : SR act hn s a w g) {t h' : List Ob} (e : heapK t s.h some = some h') (hl : t.length = s.h.length) : SR act hn ⟨s.t, h'⟩ a w g := by
  obtain ⟨k0, _, k2⟩ := heap_get _ _ e
  refine { h with jl := by rw [k0, hl]; exact h.jl, obj := fun id ob ho => ?_ }
  obtain ⟨o, l1, l2⟩ := k2 id ob ho
  exact l2 _ _ _ _ (h.obj id o l1)

theorem slots_get {ts : List V} : ∀ (l : List V) (i : Nat) {l' : List V} (_ : slotsK ts l i some = some l'), l'.length = l.length ∧ ∀ (j : Nat) (v' : V), l'[j]? = some v' → v' = .undef ∨ ∃ t, likeK t (nth ts (i + j)) some = some v' := by
  intro l
  induction l with
  | nil => intro i l' e; cases e; exact ⟨rfl, fun j v' hv => by simp at hv⟩
  | cons t l ih =>
    intro i l' e
    simp only [slotsK] at e
    split at e
    · rw [slotsK_bind] at e
      obtain ⟨l2, h1, h2⟩ := bind_some2 e
      cases h2
      obtain ⟨k1, k2⟩ := ih _ h1
      refine ⟨by simp [k1], fun j v' hv => ?_⟩
      cases j with
      | zero => simp at hv; exact .inl hv.symm
      | succ j => simp at hv; have := k2 j v' hv; rwa [show i + 1 + j = i + (j + 1) by omega] at this
    · rw [likeK_bind] at e
      obtain ⟨v, h0, e⟩ := bind_some2 e
      rw [slotsK_bind] at e
      obtain ⟨l2, h1, h2⟩ := bind_some2 e
      cases h2
      obtain ⟨k1, k2⟩ := ih _ h1
      refine ⟨by simp [k1], fun j v' hv => ?_⟩
      cases j with
      | zero => simp at hv; subst hv; exact .inr ⟨t, h0⟩
      | succ j => simp at hv; have := k2 j v' hv; rwa [show i + 1 + j = i + (j + 1) by omega] at this

/-- A state of another's shape. -/
theorem SR.like (h : SR act hn s a w g) (hl : s0.t.length = s.t.length) (hh0 : s0.h.length = s.h.length) (e : likeSt s0 s some = some s') : SR act hn s' a w g := by
  unfold likeSt at e
  rw [slotsK_bind] at e
  obtain ⟨t, h1, h2⟩ := bind_some2 e
  rw [heapK_bind] at h2
  obtain ⟨hh, h3, h4⟩ := bind_some2 h2
  cases h4
  obtain ⟨k1, k2⟩ := slots_get _ _ h1
  have h5 := h.heapSame h3 hh0
  refine { h5 with size := by show t.length = _; rw [k1, hl]; exact h.size, tmp := fun i v' hv => ?_ }
  have hv' : t[i]? = some v' := hv
  have hil := (List.getElem?_eq_some_iff.1 hv').1
  have hil2 : i < s.t.length := by omega
  obtain ⟨c, hc, ht⟩ := h.tmp i s.t[i] (List.getElem?_eq_getElem hil2)
  refine ⟨c, hc, ?_⟩
  rcases k2 i v' hv' with rfl | ⟨t0, h6⟩
  · exact TR.any _ _
  · rw [Nat.zero_add, nth_get, List.getElem?_eq_getElem hil2] at h6
    exact likeT h6 ht

end Go.Ab
/- Calls; conditions: the callees' own laws. -/
namespace Go.Ab
set_option linter.unusedVariables false
set_option linter.unusedSimpArgs false
variable {act hn : Nat} {s s' : St} {a : Act} {w : World} {g : Gh} {G : Cfg} {C : CallT} {f : FuncId} {dr : Bool} {n : Nat} {o : Oper}

/-- The walk's fence: none but the round. -/
def Fr (r : Option Nat) : Fence := { fn := fun _ => True, depth := none, alive := false, round := r }

/-- The shared objects by themselves. -/
def HS (hn : Nat) (h : List Ob) (w : World) (g : Gh) : Prop := SR 0 hn ⟨[], h⟩ { tmps := #[], defers := [] } w g

theorem SR.HS (h : SR act hn s a w g) : HS hn s.h w g :=
  { wf := h.wf, size := rfl, tmp := fun i v e => by simp at e, jl := h.jl, obj := h.obj, dfr := fun d hd => by simp at hd, an := Nat.lt_of_le_of_lt (Nat.zero_le _) h.an, hm := h.hm }

/-- What a call ends in. -/
def Ended (hn : Nat) (w : World) (g : Gh) (r : V × List Ob) (e : Ending) (w' : World) : Prop :=
  ∃ c g', e = .returned c ∧ HS hn r.2 w' g' ∧ Ext (obOf hn) w g w' g' ∧ VR r.1 (memOf w' g') c

def Has (P : Program) (f : FuncId) : Prop := ∃ fn, P.funcs[f]? = some fn ∧ fn.body.isSome = true ∧ (fn.name == "runtime.NumGoroutine") = false

/-- A call that shares objects does what was told. -/
def CallR (P : Program) : Fn → List V → List Ob → V × List Ob → Prop
  | .func f, args, h, r => Has P f ∧ ∀ hn w g cs, HS hn h w g → VRs args (memOf w g) cs → Calls P f ⟨cs⟩ w (Ended hn w g r)
  | .yield id, args, h, r => ∃ lp, h[id]? = some (.loop lp) ∧ lp.ps.length = args.length ∧ ∀ hn w g cs b lc, HS hn h w g → VRs args (memOf w g) cs → g.J[id]? = some (b, none) → w.heap[b]? = some (.loop lc) →
      RoundIn Fence.wide 0 P b lc.fn ((lc.params.zip ⟨cs⟩).foldl (fun tmps (t, a) => tmps.setIfInBounds t a) lc.tmps) lc.assign lc.body w (Ended hn w g r)
  | _, _, _, _ => False

/-- A call by value does what was told. -/
def PureR (P : Program) (q : Fn) (args : List V) (v : V) : Prop :=
  ∃ f, q = .func f ∧ Has P f ∧ ∀ w g cs, WF w g → VRs args (memOf w g).alone cs → Calls P f ⟨cs⟩ w fun e w' => ∃ c g', e = .returned c ∧ WF w' g' ∧ g'.J = g.J ∧ Ext (fun _ => False) w g w' g' ∧ VR v (memOf w' g').alone c

structure CallS (P : Program) (C : CallT) : Prop where
  w : C.w = iterW
  s : ∀ q args h r, C.s q args h = some r → CallR P q args h r
  p : ∀ q args v, C.p q args = some v → PureR P q args v

theorem calls_fr {P : Program} {r : Option Nat} {args : Array Value} {R : Ending → World → Prop} (h : Calls P f args w R) : CallsIn (Fr r) n P f args w R := by
  have := (callsIn_wide (n := n)).2 h
  exact this
theorem fr_calls {P : Program} {args : Array Value} {R : Ending → World → Prop} (h : CallsIn (Fr none) n P f args w R) : Calls P f args w R := by
  refine (callsIn_wide (n := n)).1 ?_
  exact h
theorem round_fr {P : Program} {r : Option Nat} {l : Nat} {tmps : Array Value} {as bd : Code} {R : Ending → World → Prop} (h : RoundIn Fence.wide 0 P l f tmps as bd w R) : RoundIn (Fr r) n P l f tmps as bd w R := by
  refine ⟨trivial, fun c cs _ => ?_⟩
  exact h.2 c cs (room_wide _)

/-- A call has turned the objects: the caller goes on. -/
theorem SR.back {h' : List Ob} {w' : World} {g' : Gh} (h : SR act hn s a w g) (k : Ab.HS hn h' w' g') (e : Ext (obOf hn) w g w' g') : SR act hn ⟨s.t, h'⟩ a w' g' where
  wf := k.wf
  size := h.size
  tmp i v hv := by
    obtain ⟨c, hc, ht⟩ := h.tmp i v hv
    refine ⟨c, hc, ht.frame e.le fun b j hb => e.keep b ?_ ?_⟩
    · exact Nat.lt_of_not_le fun hle => by rw [h.wf.new b hle] at hb; cases hb
    · rintro p hp ⟨id, rfl⟩; rw [hb] at hp; cases hp
  jl := k.jl
  obj := k.obj
  dfr d hd := by
    obtain ⟨D, h1, h2, h3⟩ := h.dfr d hd
    obtain ⟨k1, k2, _⟩ := e.keep D (Nat.lt_of_not_le fun hle => by rw [h.wf.new D hle] at h2; cases h2) (by rintro p hp ⟨id, rfl⟩; rw [h2] at hp; cases hp)
    exact ⟨D, h1, by rw [k2, h2], by rw [k1, h3]⟩
  an := Nat.lt_of_lt_of_le h.an e.nx
  hm := Nat.lt_of_lt_of_le h.hm e.nx

/-- A call has turned the objects; the first of them are kept. -/
theorem SR.backCut {h' hh t : List Ob} {w' : World} {g' : Gh} (h : SR act hn s a w g) (k : Ab.HS hn h' w' g') (e : Ext (obOf hn) w g w' g') (hk : heapK t h' some = some hh) (hl : s.h.length ≤ t.length) (hb : belowObs hh.length hh = true) :
    SR act hn ⟨s.t, hh⟩ a w' (g'.cut hh.length) ∧ Ext (obOf hn) w g w' (g'.cut hh.length) := by
  have k' : Ab.HS hn hh w' (g'.cut hh.length) := SR.heap k hk hb fun i v c hv => by simp at hv
  have e' := e.cut (n := hh.length) (by rw [h.jl, (heap_get _ _ hk).1]; exact hl)
  exact ⟨h.back k' e', e'⟩

/-- Nothing that was there has turned. -/
theorem SR.aside {w' : World} {g' : Gh} (h : SR act hn s a w g) (wf : WF w' g') (hJ : g'.J = g.J) (e : Ext (fun _ => False) w g w' g') : SR act hn s a w' g' :=
  h.frame wf hJ e.le (fun b p hp _ => e.keep b (Nat.lt_of_not_le fun hle => by rw [h.wf.new b hle] at hp; cases hp) fun _ _ => id) e.nx

/-! Results under their shapes. -/
theorem shapeK_ok {P : Program} {t : TypeId} {v v' : V} (h : shapeK P t v some = some v') {m : Mem} {c : Value} (hv : VR v m c) : VR v' m c := by
  unfold shapeK at h
  have key : ((asCells v).bind fun cs => shsK (leafs P 8 t) cs fun cs => some (V.agg cs)) = some v' → VR v' m c := by
    intro h
    obtain ⟨cs, h1, h⟩ := bind_some2 h
    rw [shsK_bind] at h
    obtain ⟨cs', h2, h⟩ := bind_some2 h
    cases h
    cases v <;> simp [asCells] at h1
    subst h1
    simp only [VR] at hv ⊢
    obtain ⟨ds, e, hv⟩ := hv
    exact ⟨ds, e, shsK_ok h2 hv⟩
  split at h
  · exact key h
  · exact key h
  · exact shK_ok h hv
  · cases h; exact hv
theorem shapesK_ok {P : Program} (l : List TypeId) : ∀ {vs vs' : List V} (_ : shapesK P l vs some = some vs') {m : Mem} {cs : List Value} (_ : VRs vs m cs), VRs vs' m cs := by
  induction l with
  | nil =>
    intro vs vs' h m cs hv
    simp only [shapesK] at h
    cases vs with
    | nil => simp [isNil] at h; subst h; exact hv
    | cons _ _ => simp [isNil] at h
  | cons t l ih =>
    intro vs vs' h m cs hv
    simp only [shapesK] at h
    cases vs with
    | nil => simp [uncons] at h
    | cons u us =>
      simp only [uncons, Option.bind_some] at h
      simp only [VRs] at hv
      obtain ⟨c, cs', rfl, h2, h3⟩ := hv
      rw [shapeK_bind] at h
      obtain ⟨u', hu, h⟩ := bind_some2 h
      rw [shapesK_bind] at h
      obtain ⟨us', hus, h⟩ := bind_some2 h
      cases h
      simp only [VRs]
      exact ⟨c, cs', rfl, shapeK_ok hu h2, ih hus h3⟩
theorem resultK_ok {P : Program} {t : TypeId} {v v' : V} (h : resultK P t v some = some v') {m : Mem} {c : Value} (hv : VR v m c) : VR v' m c := by
  unfold resultK at h
  split at h
  · obtain ⟨vs, h1, h⟩ := bind_some2 h
    rw [shapesK_bind] at h
    obtain ⟨vs', h2, h⟩ := bind_some2 h
    cases h
    cases v <;> simp [asTuple] at h1
    subst h1
    simp only [VR] at hv ⊢
    obtain ⟨ds, e, hv⟩ := hv
    exact ⟨ds, e, shapesK_ok _ h2 hv⟩
  · exact shapeK_ok h hv

theorem run_callFunc {P : Program} (hf : Has P f) (args : Array Value) : (callFunc f args).run P w = .ok (.enter f args) w := by
  obtain ⟨fn, h1, h2, h3⟩ := hf
  have h4 : fn.body.isNone = false := by cases hb : fn.body <;> simp_all
  have h5 : ¬ fn.name = "runtime.NumGoroutine" := by simpa using h3
  have h6 : ¬ fn.body = none := by intro e; rw [e] at h2; cases h2
  simp [callFunc, h1, h5, h6]

theorem evalArgs (h : SR act hn s a w g) (l : List Operand) : VRs (l.map fun x => view (getV s x)) (memOf w g) (l.map a.eval) := by
  induction l with
  | nil => simp only [List.map_nil, VRs]
  | cons x l ih => simp only [List.map_cons, VRs]; exact ⟨_, _, rfl, h.evalV x, ih⟩

theorem VRs.alone_of {l : List V} {w : World} {g : Gh} {cs : List Value} (h : VRs l (memOf w g).alone cs) : VRs l (memOf w g) cs := VRs.beside (m := (memOf w g).alone) (m' := memOf w g) l rfl rfl rfl h

/-- A value's call. -/
theorem step_call (hC : CallS G.P C) (h : SR act hn s a w g) {c : Call} {fx : Operand} (ho : o.op = .call c) (hc : c.callee = .value fx) (hd : stepD G C f dr o s = some s') (r : Option Nat) : Sound G.P (Fr r) n act hn s' a w g o := by
  unfold stepD stepK at hd
  simp only [ho, hc] at hd
  split at hd
  · rename_i q first cap hx
    obtain ⟨hcap, hd⟩ := ifK_some hd
    have hv := h.evalN hx rfl
    simp only [VR] at hv
    obtain ⟨q', first', cap', hev, hfi, hca, hq⟩ := hv
    have hargs : VRs (first ++ ((c.args.toList.map fun x => view (getV s x)) ++ cap)) (memOf w g) (first' ++ (c.args.toList.map a.eval ++ cap')) := hfi.append ((evalArgs h _).append hca)
    -- the operation's own run
    have hop : (execOp a.eval o).run G.P w = (invoke (.fn q' ⟨cap'⟩) (⟨first'⟩ ++ c.args.map a.eval)).run G.P w := by
      simp only [execOp, ho]
      simp [resolve, hc, hev, Deferred.ofValue]
    have hargsA : (⟨first'⟩ ++ c.args.map a.eval : Array Value) ++ ⟨cap'⟩ = ⟨first' ++ (c.args.toList.map a.eval ++ cap')⟩ := by
      apply Array.ext'; simp
    split at hd
    · -- objects are shared
      obtain ⟨_, hd⟩ := ifK_some hd
      obtain ⟨res, hr, hd⟩ := bind_some2 hd
      have hCR := hC.s _ _ _ _ hr
      obtain ⟨v, hh, t, hv, hhk, htl, hbl, hd⟩ : ∃ v hh t, (∀ (m : Mem) (c : Value), VR res.1 m c → VR v m c) ∧ heapK t res.2 some = some hh ∧ s.h.length ≤ t.length ∧ (below hh.length v && belowObs hh.length hh) = true ∧ s' = ⟨(s.put o.dst (view v)).t, hh⟩ := by
        split at hd
        · rename_i tv tl _
          rw [likeK_bind] at hd
          obtain ⟨v, hv, hd⟩ := bind_some2 hd
          rw [heapK_bind] at hd
          obtain ⟨hh, hhk, hd⟩ := bind_some2 hd
          obtain ⟨hbl, hd⟩ := ifK_some hd
          cases hd
          exact ⟨v, hh, _, fun m c => likeV _ _ hv, hhk, by simp, hbl, rfl⟩
        · rw [resultK_bind] at hd
          obtain ⟨v, hv, hd⟩ := bind_some2 hd
          rw [heapK_bind] at hd
          obtain ⟨hh, hhk, hd⟩ := bind_some2 hd
          obtain ⟨hbl, hd⟩ := ifK_some hd
          cases hd
          exact ⟨v, hh, _, fun m c => resultK_ok hv, hhk, Nat.le_refl _, hbl, rfl⟩
      subst hd
      simp only [Bool.and_eq_true] at hbl
      have cont : ∀ (next : Act → World → Prop), (∀ a' w' g', SR act hn ⟨(s.put o.dst (view v)).t, hh⟩ a' w' g' → Ext (mine act hn) w g w' g' → (a'.defers = a.defers ∧ a'.tmps.size = a.tmps.size) → next a' w') → ∀ (Q : Exit → Act → World → Prop) e w', Ended hn w g res e w' →
          (match e with | .returned v => next (a.put o.dst v) w' | .panicked chain => Q (.panic chain) a w' | .outgrown => LetsOut Q) := by
        intro next hnext Q e w' ⟨cc, g', e1, e2, e3, e4⟩
        subst e1
        obtain ⟨k1, k2⟩ := h.backCut e2 e3 hhk htl hbl.2
        refine hnext _ _ (g'.cut hh.length) ?_ k2.ofOb (put_same _ _ _)
        have := k1.putV o.dst (VR.below _ hbl.1 (hv _ _ e4)).view
        rwa [put_st] at this
      cases q with
      | func f' =>
        simp only at hq
        subst hq
        obtain ⟨hhas, hcalls⟩ := hCR
        intro next Q hnext
        rw [hop]
        simp only [invoke]
        rw [hargsA, run_callFunc hhas]
        simp only [Oper.uponIn]
        refine ⟨(fun e => by cases e), ?_⟩
        refine (calls_fr (hcalls hn w g _ h.HS hargs)).mono fun e w' he => ?_
        have := cont next hnext Q e w' he
        cases e <;> exact this
      | yield id =>
        simp only at hq
        obtain ⟨b, hJ, rfl⟩ := hq
        have hcap0 : cap = [] := by
          cases cap with
          | nil => rfl
          | cons _ _ => cases hcap
        subst hcap0
        simp only [VRs] at hca
        subst hca
        obtain ⟨lp, hlp, hlen, hround⟩ := hCR
        obtain ⟨b', lc, k1, k2, k3, k4, k5, k6, k7, k8, k9, k10⟩ := h.obj id _ hlp
        have hJ' : g.J[id]? = some (b, none) := hJ
        rw [hJ'] at k1; cases k1
        have hrun : (Instr.yield b (⟨first'⟩ ++ c.args.map a.eval)).run G.P w = .ok (.round b lc.fn ((lc.params.zip ⟨first' ++ (c.args.toList.map a.eval ++ [])⟩).foldl (fun tmps (t, a) => tmps.setIfInBounds t a) lc.tmps) lc.assign lc.body) w := by
          have e1 : (⟨first'⟩ ++ c.args.map a.eval : Array Value) = ⟨first' ++ (c.args.toList.map a.eval ++ [])⟩ := by apply Array.ext'; simp
          rw [e1]
          refine run_yield k3 ?_
          have := VRs.length _ hargs
          rw [← hlen, ← k6] at this
          simpa using this.symm
        intro next Q hnext
        rw [hop]
        simp only [invoke, hrun, Oper.uponIn]
        refine ⟨(fun e => by cases e), ?_⟩
        refine (round_fr (hround hn w g _ b lc h.HS hargs hJ' k3)).mono fun e w' he => ?_
        have := cont next hnext Q e w' he
        cases e <;> exact this
      | _ => exact hCR.elim
    · -- by value
      obtain ⟨_, hd⟩ := ifK_some hd
      rw [normArgsK_bind] at hd
      obtain ⟨args', hn', hd⟩ := bind_some2 hd
      obtain ⟨res, hr, hd⟩ := bind_some2 hd
      rw [resultK_bind] at hd
      obtain ⟨v, hv, hd⟩ := bind_some2 hd
      cases hd
      obtain ⟨f', rfl, hhas, hcalls⟩ := hC.p _ _ _ hr
      simp only at hq
      subst hq
      obtain ⟨g1, f1, f2⟩ := fixArgs_ok _ h hn' hargs
      intro next Q hnext
      rw [hop]
      simp only [invoke]
      rw [hargsA, run_callFunc hhas]
      simp only [Oper.uponIn]
      refine ⟨(fun e => by cases e), ?_⟩
      refine (calls_fr (hcalls w g1 _ f1.sr.wf f2)).mono fun e w' he => ?_
      obtain ⟨cc, g2, e1, e2, e3, e4, e5⟩ := he
      subst e1
      refine hnext _ _ g2 ?_ (f1.ext.ofOb.trans (e4.weaken fun _ h => h.elim)) (put_same _ _ _)
      have := (f1.sr.aside e2 e3 e4).putV o.dst (resultK_ok hv (VR.beside (m := (memOf w' g2).alone) (m' := memOf w' g2) _ rfl rfl rfl e5)).view
      rwa [put_st] at this
  · cases hd

/-- A builtin's call. -/
theorem step_builtin {F : Fence} (h : SR act hn s a w g) {c : Call} {b : Builtin} (ho : o.op = .call c) (hc : c.callee = .builtin b) (hd : stepD G C f dr o s = some s') : Sound G.P F n act hn s' a w g o := by
  unfold stepD stepK at hd
  simp only [ho, hc] at hd
  split at hd <;> rename_i heq <;> first
    | (cases heq; done)
    | (cases hd; done)
    | skip
  · -- len
    cases heq
    split at hd
    · rename_i x t hargs htys
      obtain ⟨hk, hd⟩ := ifK_some hd
      obtain ⟨m, hm, hd⟩ := bind_some2 hd
      cases hd
      have hk2 : (∃ e, G.P.underlying t = some (.slice e)) ∨ G.P.underlying t = some .string := by
        split at hk <;> first
          | (rename_i hu _; exact .inl ⟨_, hu⟩)
          | (rename_i hu _; exact .inr hu)
          | (cases hk; done)
      refine sound_len h ho hc hargs htys hk2 hm ?_
      split at hk
      · rename_i hu hx; rw [hx]; exact ⟨_, hu⟩
      · rename_i hu hx; rw [hx]; exact ⟨_, hu⟩
      · rename_i hu hx; rw [hx]; exact hu
      · cases hk
    · cases hd
  · -- min
    cases heq
    split at hd
    · rename_i x l hargs
      obtain ⟨v, hv, hd⟩ := bind_some2 hd
      cases hd
      have hev := evalArgs h c.args.toList
      rw [hargs] at hev
      simp only [VRs] at hev
      obtain ⟨cx, cl, e1, e2, e3⟩ := hev
      obtain ⟨d, d1, d2⟩ := minmax_run (P := G.P) (w := w) false l x v hv cl cx e2 e3
      refine Sound.pure h (c := d) ?_ d2
      simp only [execOp, ho]
      have e4 : (c.args.map a.eval).toList = cx :: cl := by rw [Array.toList_map]; exact e1
      simp only [Bool.false_eq_true, if_false] at d1
      simp only [resolve, hc, Sem.run_bind, Sem.run_pure, Result.andThen_ok, invoke, builtin, Builtin.min_, e4, d1]
    · cases hd
  · -- max
    cases heq
    split at hd
    · rename_i x l hargs
      obtain ⟨v, hv, hd⟩ := bind_some2 hd
      cases hd
      have hev := evalArgs h c.args.toList
      rw [hargs] at hev
      simp only [VRs] at hev
      obtain ⟨cx, cl, e1, e2, e3⟩ := hev
      obtain ⟨d, d1, d2⟩ := minmax_run (P := G.P) (w := w) true l x v hv cl cx e2 e3
      refine Sound.pure h (c := d) ?_ d2
      simp only [execOp, ho]
      have e4 : (c.args.map a.eval).toList = cx :: cl := by rw [Array.toList_map]; exact e1
      simp only [if_true] at d1
      simp only [resolve, hc, Sem.run_bind, Sem.run_pure, Result.andThen_ok, invoke, builtin, Builtin.max_, e4, d1]
    · cases hd
  · -- append
    cases heq
    split at hd
    · rename_i x y t t' hargs htys
      split at hd
      · rename_i e sz b q hs hs'
        split at hd
        · rename_i z hz
          obtain ⟨hb, hd⟩ := ifK_some hd
          simp only [Bool.and_eq_true] at hb
          rw [appendK_bind] at hd
          obtain ⟨⟨v, h'⟩, ha, hd⟩ := bind_some2 hd
          cases hd
          have hev := evalArgs h c.args.toList
          rw [hargs] at hev
          simp only [VRs] at hev
          obtain ⟨cx, cl, e1, e2, cy, cl', rfl, e3, rfl⟩ := hev
          obtain ⟨cc, w', g', k1, k2, k3, k4⟩ := append_ok h (ty := o.type) hs hs' hz (Nat.eq_of_beq_eq_true hb.1.1.1) (Nat.le_of_ble_eq_true hb.1.1.2) (Nat.le_of_ble_eq_true hb.1.2) e2 e3 ha
          refine Sound.value (c := cc) (w' := w') (g' := g') ?_ ?_ k3
          · simp only [execOp, ho]
            have e4 : c.args.map a.eval = #[cx, cy] := by apply Array.ext'; rw [Array.toList_map, e1]
            have e5 : c.argTypes = #[t, t'] := by apply Array.ext'; simpa using htys
            simp only [resolve, hc, Sem.run_bind, Sem.run_pure, Result.andThen_ok, invoke, builtin, e4, e5, k1]
          · have := k2.putV o.dst k4
            rwa [put_st] at this
        · cases hd
      · cases hd
    · cases hd

/-- Every step. -/
theorem step_ok (hC : CallS G.P C) (h : SR act hn s a w g) (hd : stepD G C f dr o s = some s') (r : Option Nat) : Sound G.P (Fr r) n act hn s' a w g o := by
  cases ho : o.op with
  | move x => exact step_move h ho hd
  | assign x => exact step_assign h ho hd
  | pick c x y => exact step_pick h ho hd
  | alloc t => exact step_alloc h ho hd
  | box t x => exact step_box h ho hd
  | build t parts => exact step_build h ho hd
  | buildSlice t l parts => exact step_buildSlice h ho hd
  | load t x => exact step_load h ho hd
  | store t y x => exact step_store h ho hd
  | nilCheck x => exact step_nilCheck h ho hd
  | binOp op t x y t' => exact step_binOp h ho hd
  | unOp op t x => exact step_unOp h ho hd
  | convert t t' x => exact step_convert h ho hd
  | makeFunc q fi ca => exact step_makeFunc h ho hd
  | fieldAddr t x fd => exact step_fieldAddr h ho hd
  | field t x fd => exact step_field h ho hd
  | indexAddr t x ix => exact step_indexAddr h ho hd
  | slice t x lo hi mx => exact step_slice h ho hd
  | index t x ix => exact step_index h ho hd
  | extract x i => exact step_extract h ho hd
  | call c =>
    cases hc : c.callee with
    | builtin b => exact step_builtin h ho hc hd
    | value fx => exact step_call hC h ho hc hd r
    | invoke _ _ => unfold stepD stepK at hd; simp only [ho, hc] at hd; cases hd
  | _ => unfold stepD stepK at hd; simp only [ho] at hd; cases hd

end Go.Ab
