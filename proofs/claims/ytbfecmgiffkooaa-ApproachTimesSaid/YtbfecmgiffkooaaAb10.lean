/- Appends; conditions: none. -/
import Derived.Test.YtbfecmgiffkooaaAb9
namespace Go.Ab
set_option linter.unusedVariables false
set_option linter.unusedSimpArgs false
variable {act hn : Nat} {s s' : St} {a : Act} {w : World} {g : Gh} {P : Program} {F : Fence} {n : Nat} {o : Oper}

theorem SR.pushArr (h : SR act hn s a w g) {sz : Nat} (hsz : 0 < sz) : SR act hn ⟨s.t, s.h ++ [.arr true sz []]⟩ a w { g with J := g.J ++ [(0, some 0)] } ∧
    Ext (mine act hn) w g w { g with J := g.J ++ [(0, some 0)] } := by
  have hJ : ∀ (id : Nat) (y : Nat × Option Nat), g.J[id]? = some y → (g.J ++ [(0, some 0)])[id]? = some y := fun id y hy => by
    rw [List.getElem?_append_left (List.getElem?_eq_some_iff.1 hy).1]; exact hy
  let g' : Gh := { g with J := g.J ++ [(0, some 0)] }
  have le' : (memOf w g).le (memOf w g') := ⟨fun _ _ _ x => x, fun _ _ x => x, fun id b x => hJ id _ x, fun id b l x => ⟨b, l, hJ id _ x, Nat.le_refl _, fun _ => rfl⟩⟩
  refine ⟨?_, ⟨Nat.le_refl _, fun _ _ _ => ⟨rfl, rfl, rfl⟩, le', Nat.le_refl _, rfl, rfl, rfl⟩⟩
  refine { wf := ⟨h.wf.new, h.wf.inj, h.wf.nx⟩, size := h.size, tmp := ?_, jl := by simp [h.jl], obj := ?_, dfr := h.dfr, an := h.an, hm := h.hm }
  · intro i v hv
    obtain ⟨c, hc, ht⟩ := h.tmp i v hv
    exact ⟨c, hc, ht.frame le' fun _ _ _ => ⟨rfl, rfl, rfl⟩⟩
  · intro id ob hob
    by_cases hid : id < s.h.length
    · rw [List.getElem?_append_left hid] at hob
      refine (h.obj id ob hob).frame ?_ le' fun _ _ => ⟨rfl, rfl, rfl⟩
      exact List.getElem?_append_left (by rw [h.jl]; exact hid)
    · have : id = s.h.length := by
        have := (List.getElem?_eq_some_iff.1 hob).1
        simp at this; omega
      subst this
      simp at hob; subst hob
      exact ⟨0, by simp [h.jl], hsz, fun e => absurd rfl e⟩

theorem rowsAt.one {m : Mem} {rows : List (List V)} {sz : Nat} {cells : List Value} (h : rowsAt m rows sz cells) (h0 : 0 < sz) {x : Nat} (hx : x < rows.length * sz) : ∃ c, cells[x]? = some c ∧ Ab.one c = true := by
  have hi : x / sz < rows.length := Nat.div_lt_of_lt_mul (by rw [Nat.mul_comm]; exact hx)
  obtain ⟨g1, g2⟩ := h (x / sz) rows[x / sz] (List.getElem?_eq_getElem hi)
  have hj : x % sz < rows[x / sz].length := by rw [g1]; exact Nat.mod_lt _ h0
  obtain ⟨c, c1, c2, c3⟩ := g2 (x % sz) _ (List.getElem?_eq_getElem hj)
  refine ⟨c, ?_, c3⟩
  rw [show x / sz * sz + x % sz = x by rw [Nat.mul_comm]; exact Nat.div_add_mod x sz] at c1
  exact c1

/-- Fixed rows as cells. -/
theorem VRr.cells {rows : List (List V)} {m : Mem} {b off sz : Nat} (h : VRr rows m b off sz) (h0 : 0 < sz) :
    ∃ news : List Value, news.length = rows.length * sz ∧ (∀ j c, news[j]? = some c → m.M b (off + j) = some c) ∧ (∀ c ∈ news, one c = true) ∧ rowsAt m rows sz news := by
  have hall : ∀ x, x < rows.length * sz → ∃ c, m.M b (off + x) = some c ∧ one c = true := fun x hx => by
    have hi : x / sz < rows.length := Nat.div_lt_of_lt_mul (by rw [Nat.mul_comm]; exact hx)
    obtain ⟨g1, g2⟩ := VRr.get _ h (x / sz) rows[x / sz] (List.getElem?_eq_getElem hi)
    have hj : x % sz < rows[x / sz].length := by rw [g1]; exact Nat.mod_lt _ h0
    obtain ⟨c, c1, c2, c3⟩ := VRc.get _ g2 (x % sz) _ (List.getElem?_eq_getElem hj)
    refine ⟨c, ?_, c3⟩
    rw [Nat.add_assoc, show x / sz * sz + x % sz = x by rw [Nat.mul_comm]; exact Nat.div_add_mod x sz] at c1
    exact c1
  let news : List Value := (List.range (rows.length * sz)).map fun j => (m.M b (off + j)).getD Go.undef
  have hn : ∀ j, j < rows.length * sz → news[j]? = some ((m.M b (off + j)).getD Go.undef) := fun j hj => by simp [news, hj]
  refine ⟨news, by simp [news], fun j c hj => ?_, fun c hc => ?_, fun i r hi => ?_⟩
  · have hjl : j < rows.length * sz := by have := (List.getElem?_eq_some_iff.1 hj).1; simpa [news] using this
    obtain ⟨d, d1, _⟩ := hall j hjl
    rw [hn j hjl, d1] at hj
    cases hj; exact d1
  · obtain ⟨j, hj, rfl⟩ := List.mem_iff_getElem.1 hc
    have hjl : j < rows.length * sz := by simpa [news] using hj
    obtain ⟨d, d1, d2⟩ := hall j hjl
    have := hn j hjl
    rw [List.getElem?_eq_getElem hj, d1] at this
    cases this; exact d2
  · obtain ⟨g1, g2⟩ := VRr.get _ h i r hi
    refine ⟨g1, fun j v hv => ?_⟩
    obtain ⟨c, c1, c2, c3⟩ := VRc.get _ g2 j v hv
    have hil := (List.getElem?_eq_some_iff.1 hi).1
    have hjl := (List.getElem?_eq_some_iff.1 hv).1
    have : i * sz + j < rows.length * sz := by
      have : (i + 1) * sz ≤ rows.length * sz := Nat.mul_le_mul_right _ hil
      rw [Nat.add_mul] at this; omega
    refine ⟨c, ?_, c2, c3⟩
    rw [hn _ this, ← Nat.add_assoc, c1]; rfl

theorem srcRows_spec {h : List Ob} {v : V} {rows : List (List V)} (e : srcRowsK h v some = some rows) : (∃ fl, v = .slice fl rows) ∨ ∃ id len sz wr sz', v = .arr id len sz ∧ h[id]? = some (.arr wr sz' rows) ∧ len = rows.length := by
  unfold srcRowsK at e
  split at e
  · cases e; exact .inl ⟨_, rfl⟩
  · rename_i id len sz
    rw [bind_some'] at e
    obtain ⟨wr, sz', h1, h2⟩ := arrRows_spec e
    exact .inr ⟨id, len, sz, wr, sz', rfl, h1, h2⟩
  · cases e

theorem srcRowsK_bind {R : Type} (h : List Ob) (v : V) (k : List (List V) → Option R) : srcRowsK h v k = (srcRowsK h v some).bind k := by
  unfold srcRowsK
  split
  · rfl
  · rw [bind_some']
  · rfl
theorem headIs_spec {sz : Nat} {rows : List (List V)} (h : headIs sz rows = true) : ∀ r, rows[0]? = some r → r.length = sz := by
  intro r hr
  cases rows with
  | nil => simp at hr
  | cons x l => simp at hr; subst hr; exact Nat.eq_of_beq_eq_true h

theorem cell_none (ad : Addr) (h : ad.spot = none) (j : Nat) : ad.add j = ⟨ad.block, ad.off + j, none⟩ := by
  obtain ⟨b, o, sp⟩ := ad
  simp only at h; subst h
  exact add_none ..

/-- What is appended, as the program sees it. -/
theorem src_ok (h : SR act hn s a w g) {v : V} {c : Value} (hv : VR v (memOf w g) c) {rows : List (List V)} (hr : srcRowsK s.h v some = some rows) {sz : Nat} (h0 : 0 < sz) (hh : headIs sz rows = true) {tx e : TypeId} (hk : P.underlying tx = some (.slice e)) :
    ∃ news, Src P sz tx c rows.length news w ∧ rowsAt (memOf w g).alone rows sz news := by
  have hemp : rows = [] → ∀ {ad : Option Addr} {cap : Nat}, c = .slice ad 0 cap → ∃ news, Src P sz tx c rows.length news w ∧ rowsAt (memOf w g).alone rows sz news := by
    intro e1 ad cap e2
    subst e1; subst e2
    refine ⟨[], ?_, fun i r hi => by simp at hi⟩
    cases ad with
    | none => exact Src.ofNil w hk cap
    | some ad => exact Src.ofSlice w hk ad 0 cap [] (by simp) (fun j u hu => by simp at hu) (by simp)
  rcases srcRows_spec hr with ⟨fl, rfl⟩ | ⟨id, len, sz1, wr, sz', rfl, ho, hlen⟩
  · simp only [VR] at hv
    obtain ⟨ad, cap, h1, h2, h3, h4, h5⟩ := hv
    by_cases hne : rows = []
    · subst hne; exact hemp rfl h1
    · obtain ⟨b, off, sz', k1, k2⟩ := h5 hne
      have hsz : sz' = sz := by
        cases rows with
        | nil => exact absurd rfl hne
        | cons r rows => rw [← headIs_spec hh r rfl]; exact ((VRr.get _ k2 0 r rfl).1).symm
      subst hsz
      obtain ⟨news, n1, n2, n3, n4⟩ := k2.cells h0
      subst h1; subst k1
      refine ⟨news, Src.ofSlice w hk _ _ _ _ n1 (fun j u hu => ?_) (fun u hu => by rw [one_eq]; exact n3 u hu), n4⟩
      rw [add_none]
      exact memOf_cell (g := g) (n2 j u hu)
  · simp only [VR] at hv
    obtain ⟨ad, cap, b, l, h1, h2, h3, h4, h5, h6, h7⟩ := hv
    by_cases hne : rows = []
    · subst hne; simp at hlen; subst hlen; exact hemp rfl h2
    · obtain ⟨b', cells, e', k1, k2, k3, k4, k5, k6⟩ := OR_arr (h.obj id _ ho) hne
      have h1' : g.J[id]? = some (b, some l) := h1
      rw [h1'] at k1; cases k1
      have hsz : sz' = sz := by
        cases rows with
        | nil => exact absurd rfl hne
        | cons r rows => rw [← headIs_spec hh r rfl]; exact ((k4 0 r rfl).1).symm
      subst hsz
      have hl0 : len ≠ 0 := by intro e; rw [e] at hlen; exact hne (List.length_eq_zero_iff.1 hlen.symm)
      obtain ⟨q1, _⟩ := h7 hl0 hlen.symm
      subst h2; subst q1; subst hlen
      have hcut := k4.cut
      refine ⟨cells.toList.take (rows.length * sz'), Src.ofSlice w hk _ _ _ _ (by simp only [List.length_take, Array.length_toList]; simp at hcut; omega) (fun j u hu => ?_) (fun u hu => ?_), k4.congr fun x hx => by rw [List.getElem?_take, if_pos hx]⟩
      · rw [add_none, cell?_eq, k3]
        rw [List.getElem?_take] at hu
        split at hu
        · simpa [cellAt] using hu
        · cases hu
      · rw [one_eq]
        obtain ⟨j, hj, rfl⟩ := List.mem_iff_getElem.1 hu
        have hjl : j < rows.length * sz' := by simp at hj; omega
        obtain ⟨d, d1, d2⟩ := k4.one h0 hjl
        simp only [List.getElem_take]
        rw [List.getElem?_eq_some_iff] at d1
        obtain ⟨_, d1⟩ := d1
        rw [d1]; exact d2

/-- There is room: the block of cells is set anew. -/
theorem run_append_in (t tx ty e : TypeId) (i : TypeInfo) (ht : P.underlying t = some (.slice e)) (hi : P.info? e = some i) {b sLen sCap : Nat} {cur : Array Value} {e' : TypeId} (hb : w.heap[b]? = some (.cells cur e' (0, 0))) (x : Value) (m : Nat) (news : List Value)
    (hs : Src P i.size tx x m news w) (hroom : sLen + m ≤ sCap) (hfit : sLen * i.size + news.length ≤ cur.size) :
    (Builtin.append_ #[t, tx] ty #[.slice (some ⟨b, 0, none⟩) sLen sCap, x]).run P w =
      .ok (.slice (some ⟨b, 0, none⟩) (sLen + m) sCap) (w.setRow b (cur.toList.take (sLen * i.size) ++ news ++ cur.toList.drop (sLen * i.size + news.length)).toArray) := by
  have hst := run_storeCells_at P b (sLen * i.size) e' news 0 cur w hb (by simpa using hfit) hs.one
  simp only [Nat.add_zero] at hst
  rcases hs.kind with ⟨e', hk⟩ | hk <;> simp [Builtin.append_, run_underlying ht, run_underlying hk, sizeOf, typeInfo, hi, hs.len, hroom, hs.cells, Addr.add_lit, hst]

theorem hset_self (l : List Ob) (i : Nat) (ob : Ob) (h : l[i]? = some ob) : hset l i ob = l := by
  rw [hset_eq]
  apply List.ext_getElem?
  intro j
  rw [List.getElem?_set]
  split
  · rename_i e; subst e
    split
    · exact h.symm
    · rename_i hl; rw [List.getElem?_eq_none (by omega)]
  · rfl

/-- Append. -/
theorem append_ok (h : SR act hn s a w g) {t t' ty e : TypeId} {sz b : Nat} (hs : sliceElem P t = some (e, sz, b)) {q : TypeId × Nat × Nat} (hs' : sliceElem P t' = some q) {z : List V} (hz : zeroCells P e = some z) (hzl : z.length = sz) (h0 : 0 < sz) (hb : 0 < b)
    {x y : V} {cx cy : Value} (hx : VR x (memOf w g) cx) (hy : VR y (memOf w g) cy) {v' : V} {h' : List Ob} (ha : appendK s sz b x y (fun v h => some (v, h)) = some (v', h')) :
    ∃ c w' g', (Builtin.append_ #[t, t'] ty #[cx, cy]).run P w = .ok c w' ∧ SR act hn ⟨s.t, h'⟩ a w' g' ∧ Ext (mine act hn) w g w' g' ∧ VR v' (memOf w' g') c := by
  obtain ⟨i, ht, hi, hsz, hbb⟩ := sliceElem_spec hs
  obtain ⟨e', sz', b'⟩ := q
  obtain ⟨i', ht', _⟩ := sliceElem_spec hs'
  obtain ⟨iz, zv, hiz, hzv, hzr⟩ := zeroCells_spec hz (memOf w g)
  rw [hi] at hiz; cases hiz
  have hzs : zv.cells.size = sz := by have := VRl.length _ hzr; simp at this; omega
  subst hsz
  unfold appendK at ha
  rw [srcRowsK_bind] at ha
  cases hnew : srcRowsK s.h y some with
  | none => rw [hnew] at ha; cases ha
  | some new =>
  rw [hnew, Option.bind_some] at ha
  have ha2 := ha
  cases hhd : headIs i.size new with
  | false => rw [hhd] at ha2; cases ha2
  | true =>
  rw [hhd] at ha2
  simp only [cond_true] at ha2
  obtain ⟨news, hsrc, hrows⟩ := src_ok h hy hnew h0 hhd ht'
  have hnl := hsrc.newsLen
  -- a new block
  have hgrow : ∀ (sLen cap : Nat), cap < sLen + new.length → (sLen + new.length) * b ≤ room → ∀ (base : Option Addr) (olds : List Value), (Builtin.firstCells i.size sLen (.slice base sLen cap)).run P w.drew = .ok olds.toArray w.drew → olds.length = sLen * i.size →
      ∃ (C : Nat) (cells : Array Value), sLen + new.length ≤ C ∧ (Builtin.append_ #[t, t'] ty #[.slice base sLen cap, cy]).run P w = .ok (.slice (some ⟨w.heap.size, 0, none⟩) (sLen + new.length) C) (w.drew.alloc (.cells cells e)) ∧
        cells.toList = olds ++ news ++ cells.toList.drop ((sLen + new.length) * i.size) ∧ C * i.size ≤ cells.size := by
    intro sLen cap hlt hroom base olds hold holds
    have hbyt : (sLen + new.length) * i.bytes ≤ 140737488355328 := by rw [hbb]; exact hroom
    have hle : sLen + new.length ≤ (sLen + new.length) * b := Nat.le_mul_of_pos_right _ hb
    have h63 : ((sLen + new.length : Nat) : Int) ≤ 9223372036854775807 := by simp only [room] at hroom; omega
    have hrun := run_append_grow_src (P := P) w t t' ty e i zv ht hi hzv base sLen cap olds hold cy new.length news hsrc hlt h63 (growslice_fits hlt hbyt)
    have hge := grownCap_ge w (sLen + new.length) cap e
    refine ⟨_, _, hge, hrun, ?_, ?_⟩
    · simp only [Array.toList_append, List.append_assoc]
      rw [← List.append_assoc, List.drop_left' (by simp [holds, hnl, Nat.add_mul]), List.append_assoc]
    · simp only [Array.size_append, List.size_toArray, List.length_append, size_zeroCells, hzs, holds, hnl, ← Nat.add_mul]
      exact Nat.mul_le_mul_right _ (by omega)
  -- an array begins
  have fresh : ∀ {ad : Option Addr} {cap : Nat}, cx = .slice ad 0 cap → cap = 0 → (ad = none → cap = 0) →
      cond (decide (new.length * b ≤ room)) (some (V.arr s.h.length new.length i.size, s.h ++ [.arr true i.size new])) none = some (v', h') →
      ∃ c w' g', (Builtin.append_ #[t, t'] ty #[cx, cy]).run P w = .ok c w' ∧ SR act hn ⟨s.t, h'⟩ a w' g' ∧ Ext (mine act hn) w g w' g' ∧ VR v' (memOf w' g') c := by
    intro ad cap hcx hcap hnone hk
    subst hcap; subst hcx
    cases hroom : decide (new.length * b ≤ room) with
    | false => rw [hroom] at hk; cases hk
    | true =>
    rw [hroom] at hk
    simp only [cond_true] at hk
    cases hk
    have hroom' := of_decide_eq_true hroom
    by_cases hne : new = []
    · subst hne
      have hn0 : news = [] := List.eq_nil_of_length_eq_zero (by simpa using hnl)
      subst hn0
      have hrun := run_append_nothing (P := P) w t t' ty e i ht hi ad 0 0 (Nat.le_refl _) cy hsrc
      obtain ⟨s1, s2⟩ := h.pushArr h0
      refine ⟨_, _, _, hrun, s1, s2, ?_⟩
      simp only [VR]
      refine ⟨ad, 0, 0, 0, ?_, rfl, Nat.le_refl _, Nat.le_refl _, fun _ => rfl, fun _ => rfl, fun e => absurd rfl e⟩
      show (g.J ++ [(0, some 0)])[s.h.length]? = _
      rw [← h.jl]; simp
    · have hpos : 0 < new.length := List.length_pos_iff.2 hne
      obtain ⟨C, cells, hC, hrun, hcells, hsz⟩ := hgrow 0 0 (by omega) (by simpa using hroom') ad [] (by cases ad with | none => exact run_firstCells_none _ _ _ _ _ | some ad => exact run_firstCells_some _ _ _ _ _ _ [] (by simp) (fun j u hu => by simp at hu)) (by simp)
      simp only [Nat.zero_add] at hC hrun hcells
      have hd := h.drew
      obtain ⟨s1, s2⟩ := hd.allocOb (o := .cells cells e) (ob := .arr true i.size new) (some new.length) (fun g' hg' le' => by
        subst hg'
        refine OR_mk (b := w.heap.size) (cells := cells) (e := e) ?_ h0 ?_ ?_ ?_ ?_ ?_
        · show (g.J ++ [(w.heap.size, some new.length)])[s.h.length]? = _
          rw [← h.jl]; simp
        · simp [Gh.grab]
        · show (w.drew.alloc (.cells cells e)).heap[w.heap.size]? = _
          exact (alloc_heap w.drew (.cells cells e) w.heap.size).trans (if_pos rfl)
        · refine rowsAt.mono ?_ le'.alone
          refine hrows.congr fun x hx => ?_
          rw [hcells, List.nil_append, List.getElem?_append_left (by omega)]
        · simp [Gh.grab]
        · simp [Gh.grab])
      refine ⟨_, _, _, hrun, s1, (Ext.drew _ w g).trans s2, ?_⟩
      simp only [VR]
      refine ⟨_, C, w.heap.size, new.length, ?_, rfl, hC, Nat.le_refl _, (fun e => by cases e), (fun e => by omega), fun _ _ => ⟨rfl, cells.size, ?_, hsz⟩⟩
      · show (g.J ++ [(w.heap.size, some new.length)])[s.h.length]? = _
        rw [← h.jl]; simp
      · simp only [memOf]
        rw [show (w.drew.alloc (.cells cells e)).heap[w.heap.size]? = _ from (alloc_heap w.drew (.cells cells e) w.heap.size).trans (if_pos rfl)]
        rfl
  unfold appTo at ha2
  split at ha2
  · simp only [VR] at hx
    obtain ⟨ad, cap, h1, h2, h3, h4, _⟩ := hx
    exact fresh h1 h3.2 h4 ha2
  · simp only [VR] at hx
    obtain ⟨ad, cap, h1, h2, h3, h4, _⟩ := hx
    exact fresh h1 h3 h4 ha2
  · rename_i id len sz1
    split at ha2
    · rename_i wr q rows hob
      cases hq : (Nat.beq i.size sz1 && Nat.beq i.size q) with
      | false => rw [hq] at ha2; cases ha2
      | true =>
      rw [hq] at ha2
      simp only [Bool.and_eq_true] at hq
      have q1 := Nat.eq_of_beq_eq_true hq.1
      have q2 := Nat.eq_of_beq_eq_true hq.2
      subst q1
      have hob2 : hget s.h id = some (.arr wr i.size rows) := by rw [hob, q2]
      clear hob
      simp only [ifK] at ha2
      cases hl : decide (len = rows.length) with
      | false => rw [hl] at ha2; cases ha2
      | true =>
      rw [hl] at ha2
      simp only [cond_true] at ha2
      cases hroom : decide ((rows.length + new.length) * b ≤ room) with
      | false => rw [hroom] at ha2; cases ha2
      | true =>
      rw [hroom] at ha2
      simp only [cond_true] at ha2
      cases ha2
      have hlen := of_decide_eq_true hl
      have hroom' := of_decide_eq_true hroom
      subst hlen
      simp only [VR] at hx
      obtain ⟨ad, cap, bb, l, hJ, hcx, hcap, hll, hnone, hzero, hfull⟩ := hx
      have hJ' : g.J[id]? = some (bb, some l) := hJ
      have hob3 := hob2
      rw [hget_eq] at hob3
      have hlr : l = rows.length := by
        obtain ⟨b2, k1, _⟩ := h.obj id _ hob3
        rw [hJ'] at k1; cases k1; rfl
      subst hlr
      by_cases hne : new = []
      · subst hne
        have hn0 : news = [] := List.eq_nil_of_length_eq_zero (by simpa using hnl)
        subst hn0
        subst hcx
        have hrun := run_append_nothing (P := P) w t t' ty e i ht hi ad rows.length cap hcap cy hsrc
        refine ⟨_, w, g, hrun, ?_, Ext.refl _ _ _, ?_⟩
        · rw [List.append_nil, hset_self _ _ _ hob3]; exact h
        · simp only [VR, List.length_nil, Nat.add_zero]
          exact ⟨ad, cap, bb, _, hJ, rfl, hcap, hll, hnone, hzero, hfull⟩
      · have hpos : 0 < new.length := List.length_pos_iff.2 hne
        by_cases hin : rows.length + new.length ≤ cap
        · -- there is room
          have hr0 : rows.length ≠ 0 := by intro e; have := hzero e; omega
          have hrne : rows ≠ [] := by intro e; subst e; simp at hr0
          obtain ⟨q1, N, q2, q3⟩ := hfull hr0 rfl
          subst q1; subst hcx
          obtain ⟨b2, cs, e2, k1, k2, k3, k4, k5, k6⟩ := OR_arr (h.obj id _ hob3) hrne
          rw [hJ'] at k1; cases k1
          have hN : N = cs.size := by
            simp only [memOf] at q2
            rw [k3] at q2
            simp only [sizeAt] at q2
            cases q2; rfl
          subst hN
          obtain ⟨s1, s2, s3⟩ := h.appendIn hob2 hrne hrows hnl hne hJ' k3 hin q3
          have hfit : rows.length * i.size + news.length ≤ cs.size := by
            have := Nat.mul_le_mul_right i.size hin
            rw [Nat.add_mul] at this; omega
          have hrun := run_append_in (P := P) t t' ty e i ht hi (sLen := rows.length) (sCap := cap) k3 cy new.length news hsrc hin hfit
          refine ⟨_, _, _, hrun, s1, s2, ?_⟩
          simp only [VR]
          refine ⟨_, cap, bb, rows.length + new.length, ?_, rfl, hin, Nat.le_refl _, hnone, (fun e => by omega), fun _ _ => ⟨rfl, cs.size, ?_, q3⟩⟩
          · show (g.J.set id _)[id]? = _
            rw [J_set, if_pos rfl, hJ']; rfl
          · exact s3
        · -- there is none
          obtain ⟨olds, hold, holds, holdr⟩ : ∃ olds : List Value, (Builtin.firstCells i.size rows.length (.slice ad rows.length cap)).run P w.drew = .ok olds.toArray w.drew ∧ olds.length = rows.length * i.size ∧ rowsAt (memOf w g).alone rows i.size olds := by
            by_cases hrne : rows = []
            · subst hrne
              refine ⟨[], ?_, by simp, fun j r hj => by simp at hj⟩
              cases ad with
              | none => exact run_firstCells_none _ _ _ _ _
              | some ad => exact run_firstCells_some _ _ _ _ _ _ [] (by simp) (fun j u hu => by simp at hu)
            · have hr0 : rows.length ≠ 0 := fun e => hrne (List.length_eq_zero_iff.1 e)
              obtain ⟨q1, N, q2, q3⟩ := hfull hr0 rfl
              subst q1
              obtain ⟨b2, cs, e2, k1, k2, k3, k4, k5, k6⟩ := OR_arr (h.obj id _ hob3) hrne
              rw [hJ'] at k1; cases k1
              have hcut := k4.cut
              refine ⟨cs.toList.take (rows.length * i.size), run_firstCells_some _ _ _ _ _ _ _ (by simp only [List.length_take, Array.length_toList]; simp at hcut; omega) (fun j u hu => ?_), by simp only [List.length_take, Array.length_toList]; simp at hcut; omega, k4.congr fun x hx => by rw [List.getElem?_take, if_pos hx]⟩
              rw [add_none, cell?_eq]
              show cellAt w.heap[bb]? _ = _
              rw [k3]
              rw [List.getElem?_take] at hu
              split at hu
              · simpa [cellAt] using hu
              · cases hu
          obtain ⟨C, cells, hC, hrun, hcells, hsz⟩ := hgrow rows.length cap (by omega) hroom' ad olds hold holds
          subst hcx
          have hall : rowsAt (memOf w g).alone (rows ++ new) i.size cells.toList := by
            rw [hcells]
            have := holdr.append hrows (tail := cells.toList.drop ((rows.length + new.length) * i.size))
            rwa [List.take_of_length_le (by omega)] at this
          obtain ⟨g', hg', s1, s2⟩ := h.drew.regrow (cells := cells) (e := e) hob2 hne hall
          refine ⟨_, _, g', hrun, s1, (Ext.drew _ w g).trans s2, ?_⟩
          simp only [VR]
          refine ⟨_, C, w.heap.size, rows.length + new.length, ?_, rfl, hC, Nat.le_refl _, (fun e => by cases e), (fun e => by omega), fun _ _ => ⟨rfl, cells.size, ?_, hsz⟩⟩
          · rw [hg']
            show (g.J.set id _)[id]? = _
            rw [J_set, if_pos rfl, hJ']; rfl
          · simp only [memOf]
            rw [show (w.drew.alloc (.cells cells e)).heap[w.heap.size]? = _ from (alloc_heap w.drew (.cells cells e) w.heap.size).trans (if_pos rfl)]
            rfl
    · cases ha2
  · cases ha2

end Go.Ab
