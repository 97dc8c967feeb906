/- What is built: structs, arrays, slices; conditions: none. -/
import Derived.Test.YtbfecmgiffkooaaAb11
import Derived.Great.BuildSlice
namespace Go.Ab
set_option linter.unusedVariables false
set_option linter.unusedSimpArgs false
variable {act hn : Nat} {s s' : St} {a : Act} {w : World} {g : Gh} {P : Program} {F : Fence} {n : Nat} {o : Oper}

theorem put_st (d : Option Nat) (v : V) (h' : List Ob) : (⟨s.t, h'⟩ : St).put d v = ⟨(s.put d v).t, h'⟩ := by cases d <;> rfl

theorem fold_splice (off : Nat) (l : List Value) (cs : Array Value) (hf : off + l.length ≤ cs.size) :
    (((⟨l⟩ : Array Value).zipIdx.foldl (fun cs (x : Value × Nat) => cs.setIfInBounds (off + x.2) x.1) cs)).toList = cs.toList.take off ++ l ++ cs.toList.drop (off + l.length) := by
  have e : ((⟨l⟩ : Array Value).zipIdx.foldl (fun cs (x : Value × Nat) => cs.setIfInBounds (off + x.2) x.1) cs) = (l.zipIdx 0).foldl (fun cs (x : Value × Nat) => cs.setIfInBounds (off + x.2) x.1) cs := by
    rw [← Array.foldl_toList, Array.toList_zipIdx]
  rw [e]
  obtain ⟨h1, h2⟩ := Great.foldl_set off l 0 cs
  apply List.ext_getElem?
  intro k
  have h3 := h2 k
  simp only [Nat.add_zero] at h3
  rw [← Array.getElem?_toList] at h3
  rw [h3]
  split
  · rename_i hk
    rw [List.append_assoc, List.getElem?_append_right (by simp; omega), List.length_take, List.getElem?_append_left (by simp; omega)]
    congr 1
    simp; omega
  · rename_i hk
    by_cases hlt : k < off
    · rw [List.append_assoc, List.getElem?_append_left (by simp; omega), List.getElem?_take, if_pos hlt]; simp
    · by_cases hge : off + l.length ≤ k
      · rw [List.getElem?_append_right (by simp; omega), List.getElem?_drop]
        simp only [List.length_append, List.length_take, Array.length_toList]
        rw [← Array.getElem?_toList]
        congr 1
        omega
      · omega

theorem splice_length (cs new : List V) (off : Nat) (h : off + new.length ≤ cs.length) : (splice cs off new).length = cs.length := by
  unfold splice
  rw [takeL_eq, dropL_eq]
  simp; omega

theorem fill_ok (h : SR act hn s a w g) {place place' : Nat → Option (Nat × Nat)} (hp : ∀ i x, place i = some x → place' i = some x) : ∀ (parts : List (Nat × Operand)) (cs : List V) {cs' : List V} (_ : fillV s place parts cs = some cs') {cells : Array Value} (_ : VRl cs (memOf w g) cells.toList),
    ∃ cells' : Array Value, Instr.fill place' cells (parts.map fun x => (x.1, a.eval x.2)) = some cells' ∧ VRl cs' (memOf w g) cells'.toList ∧ cs'.length = cs.length ∧ (parts ≠ [] → cs ≠ []) := by
  intro parts
  induction parts with
  | nil =>
    intro cs cs' hf cells hv
    simp only [fillV] at hf; cases hf
    exact ⟨cells, rfl, hv, rfl, fun e => absurd rfl e⟩
  | cons p parts ih =>
    intro cs cs' hf cells hv
    obtain ⟨i, x⟩ := p
    simp only [fillV] at hf
    cases hpl : place i with
    | none => rw [hpl] at hf; cases hf
    | some y =>
      obtain ⟨off, m⟩ := y
      rw [hpl] at hf
      simp only at hf
      split at hf
      · rename_i hc
        simp only [Bool.and_eq_true] at hc
        obtain ⟨⟨c1, c2⟩, c3⟩ := hc
        have c1 := Nat.eq_of_beq_eq_true c1
        have c2 : 0 < m := Nat.le_of_ble_eq_true c2
        have c3 : off + (cellsOf (getV s x)).length ≤ cs.length := Nat.le_of_ble_eq_true c3
        have hx := cellsOf_ok (h.evalV x) (.inl (by intro e; rw [e] at c1; simp at c1; omega))
        have hl := VRl.length _ hx
        have hl2 := VRl.length _ hv
        have hsp := hv.splice hx off
        have hfit : off + (a.eval x).cells.toList.length ≤ cells.size := by simp only [Array.length_toList] at hl2 hl ⊢; omega
        have hfold := fold_splice off (a.eval x).cells.toList cells hfit
        obtain ⟨cells', k1, k2, k3, k4⟩ := ih (splice cs off (cellsOf (getV s x))) hf (cells := (a.eval x).cells.zipIdx.foldl (fun cs (x : Value × Nat) => cs.setIfInBounds (off + x.2) x.1) cells) (by rw [← hfold] at hsp; exact hsp)
        refine ⟨cells', ?_, k2, by rw [k3, splice_length _ _ _ c3], fun _ e => by have h9 := c3; rw [e] at h9; simp only [List.length_nil] at h9; omega⟩
        simp only [List.map_cons, Instr.fill, hp _ _ hpl]
        have n1 : ¬ (((a.eval x).cells.size ≠ m || decide (off + (a.eval x).cells.size > cells.size)) = true) := by
          simp at hl hl2 hfit ⊢
          omega
        rw [if_neg n1]
        exact k1
      · cases hf

theorem places_eq (P : Program) (fs : List Field) (places : List (Nat × Nat)) (h : fs.mapM (fun f => (P.info? f.type).map fun i => (f.offset, i.size)) = some places) (i : Nat) : (places.toArray[i]?) = places[i]? := by simp

theorem built_struct {t : TypeId} {it : TypeInfo} {zv : Value} {fs : Array Field} {places : List (Nat × Nat)} {parts : List (Nat × Value)} {cells : Array Value} (h1 : P.info? t = some it) (h2 : P.underlying t = some (.struct fs)) (h3 : it.zero = some zv)
    (h4 : fs.toList.mapM (fun f => (P.info? f.type).map fun i => (f.offset, i.size)) = some places) (h5 : Instr.fill (places.toArray[·]?) zv.cells parts = some cells) : P.built t parts = some cells := by
  unfold Program.built
  simp only [h1, h2, h3, h4, h5]
theorem built_array {t e : TypeId} {len : Nat} {it ie : TypeInfo} {zv : Value} {parts : List (Nat × Value)} {cells : Array Value} (h1 : P.info? t = some it) (h2 : P.underlying t = some (.array len e)) (h3 : it.zero = some zv)
    (h4 : P.info? e = some ie) (h5 : Instr.fill (fun i => some (i * ie.size, ie.size)) zv.cells parts = some cells) : P.built t parts = some cells := by
  unfold Program.built
  simp only [h1, h2, h3, h4, h5]

theorem sound_built (h : SR act hn s a w g) {t : TypeId} {parts : Array (Nat × Operand)} (ho : o.op = .build t parts) {cs : List V} {cells : Array Value} (hb : P.built t (parts.toList.map fun x => (x.1, a.eval x.2)) = some cells) (hv : VRl cs (memOf w g) cells.toList) {v : V}
    (hk : normK s.h (.agg cs) some = some v) : Sound P F n act hn ⟨(s.put o.dst v).t, fixV s.h (.agg cs)⟩ a w g o := by
  obtain ⟨g', f1, f2⟩ := fixV_ok h hk (c := .agg cells) (by simp only [VR]; exact ⟨cells.toList, rfl, hv⟩)
  refine Sound.value (c := .agg cells) (w' := w) (g' := g') ?_ ?_ f1.ext.ofOb
  · simp only [execOp, ho]
    have e : (parts.map fun (x : Nat × Operand) => (x.1, a.eval x.2)).toList = parts.toList.map fun x => (x.1, a.eval x.2) := by simp
    have := run_build (P := P) w t (parts.map fun (x : Nat × Operand) => (x.1, a.eval x.2)) cells (by rw [e]; exact hb)
    simp [this]
  · have := f1.sr.putV o.dst (VR.beside (m := (memOf w g').alone) (m' := memOf w g') _ rfl rfl rfl f2)
    rwa [put_st] at this

theorem chunk_get (sz : Nat) : ∀ (len : Nat) (cs : List V), cs.length = len * sz → ∀ (i : Nat) (r : List V), (chunk sz len cs)[i]? = some r → r.length = sz ∧ ∀ (j : Nat) (v : V), r[j]? = some v → cs[i * sz + j]? = some v := by
  intro len
  induction len with
  | zero => intro cs _ i r hi; simp [chunk] at hi
  | succ len ih =>
    intro cs hl i r hi
    rw [Nat.add_mul] at hl
    simp only [chunk] at hi
    cases i with
    | zero =>
      simp at hi; subst hi
      rw [takeL_eq]
      refine ⟨by simp; omega, fun j v hj => ?_⟩
      rw [List.getElem?_take] at hj
      split at hj
      · simpa using hj
      · cases hj
    | succ i =>
      simp only [List.getElem?_cons_succ] at hi
      obtain ⟨h1, h2⟩ := ih (dropL sz cs) (by rw [dropL_eq]; simp; omega) i r hi
      refine ⟨h1, fun j v hj => ?_⟩
      have := h2 j v hj
      rw [dropL_eq, List.getElem?_drop] at this
      rw [← this]; congr 1; rw [Nat.add_mul]; omega
theorem chunk_length (sz : Nat) : ∀ (len : Nat) (cs : List V), (chunk sz len cs).length = len
  | 0, _ => rfl
  | n + 1, cs => by simp [chunk, chunk_length sz n]

theorem zero_flat {z : List V} {zv : Value} {m : Mem} (hz : VRl z m zv.cells.toList) (h0 : 0 < z.length) (len : Nat) :
    VRl ((List.replicate len z).flatten) m ((Array.range (len * z.length)).map (zv.cells[· % zv.cells.size]!)).toList := by
  have hl := VRl.length _ hz
  simp at hl
  have hlen : ∀ k, ((List.replicate k z).flatten).length = k * z.length := by intro k; simp
  have hget : ∀ (k x : Nat), x < k * z.length → ((List.replicate k z).flatten)[x]? = z[x % z.length]? := by
    intro k
    induction k with
    | zero => intro x hx; omega
    | succ k ih =>
      intro x hx
      rw [Nat.add_mul] at hx
      simp only [List.replicate_succ, List.flatten_cons]
      by_cases hlt : x < z.length
      · rw [List.getElem?_append_left hlt, Nat.mod_eq_of_lt hlt]
      · rw [List.getElem?_append_right (by omega), ih (x - z.length) (by omega)]
        congr 1
        conv => rhs; rw [show x = x - z.length + z.length by omega]
        simp
  refine VRl.of_get _ (by simp) fun j v c hj hc => ?_
  have hjl : j < len * z.length := by have := (List.getElem?_eq_some_iff.1 hj).1; rwa [hlen] at this
  rw [hget len j hjl] at hj
  have hm : j % z.length < z.length := Nat.mod_lt _ h0
  obtain ⟨d, d1, d2⟩ := VRl.get _ hz _ _ hj
  have e : c = d := by
    simp [hjl] at hc
    rw [← hl] at hc
    have hlt : j % z.length < zv.cells.size := by omega
    rw [← hc]
    simp at d1
    rw [Array.getElem?_eq_getElem hlt] at d1
    simp [hlt] at d1 ⊢
    exact d1
  subst e; exact d2

theorem run_buildSlice_nil (w : World) (t e : TypeId) (ie : TypeInfo) (hu : P.underlying t = some (.slice e)) (hie : P.info? e = some ie) :
    (Instr.buildSlice t 0 #[]).run P w = .ok (.slice (some ⟨w.heap.size, 0, none⟩) 0 0) (w.alloc (.cells #[] e)) := by
  simp [Instr.buildSlice, run_underlying hu, sizeOf, typeInfo, hie, newRow, Instr.fill]
  congr 2
  apply Array.ext'
  simp

/-- A slice's literal. -/
theorem sound_buildSlice (h : SR act hn s a w g) {t e : TypeId} {len : Nat} {parts : Array (Nat × Operand)} (ho : o.op = .buildSlice t len parts) {sz b : Nat} (hs : sliceElem P t = some (e, sz, b)) {z : List V} (hz : zeroCells P e = some z) (hzl : z.length = sz) (h0 : 0 < sz)
    (hlim : len * sz ≤ 16777216) {cs : List V} (hf : fillV s (fun i => some (i * sz, sz)) parts.toList ((List.replicate len z).flatten) = some cs) {v : V} (hk : normK s.h (.agg cs) some = some v) :
    Sound P F n act hn ⟨(s.put o.dst (.slice (litFl len) (chunk sz len (cellsOf v)))).t, fixV s.h (.agg cs)⟩ a w g o := by
  obtain ⟨ie, hu, hie, hsz, _⟩ := sliceElem_spec hs
  obtain ⟨ie', zv, hie', hzv, hzr⟩ := zeroCells_spec hz (memOf w g)
  rw [hie] at hie'; cases hie'
  subst hsz
  have hfl := zero_flat hzr (by omega) len
  rw [hzl] at hfl
  obtain ⟨cells, k1, k2, k3, k4⟩ := fill_ok h (place' := fun i => some (i * ie.size, ie.size)) (fun i x e => e) parts.toList _ hf hfl
  obtain ⟨g', f1, f2⟩ := fixV_ok h hk (c := .agg cells) (by simp only [VR]; exact ⟨cells.toList, rfl, k2⟩)
  obtain ⟨s1, s2⟩ := f1.sr.allocFree (.cells cells e)
  have eparts : (parts.map fun (x : Nat × Operand) => (x.1, a.eval x.2)).toList = parts.toList.map fun x => (x.1, a.eval x.2) := by simp
  have hrun : (Instr.buildSlice t len (parts.map fun (x : Nat × Operand) => (x.1, a.eval x.2))).run P w = .ok (.slice (some ⟨w.heap.size, 0, none⟩) len len) (w.alloc (.cells cells e)) := by
    by_cases hl0 : len = 0
    · subst hl0
      have hp : parts = #[] := by
        apply Array.ext'
        by_cases e : parts.toList = []
        · simpa using e
        · exact absurd rfl (k4 e)
      subst hp
      have e1 : cells = #[] := by
        have h1 := VRl.length _ k2
        rw [k3] at h1
        exact Array.eq_empty_of_size_eq_zero (by simpa using h1.symm)
      subst e1
      have := run_buildSlice_nil (P := P) w t e ie hu hie
      simpa using this
    · refine run_buildSlice w t e len _ cells ie zv hu hie hzv (by omega) (by have := Nat.mul_ne_zero hl0 (by omega : ie.size ≠ 0); omega) ?_
      rw [eparts]
      exact k1
  have hcells : ∃ cs', v = .agg cs' ∧ VRl cs' (memOf w g').alone cells.toList := by
    simp only [normK] at hk
    rw [normsK_bind] at hk
    cases hn : normsK s.h cs some with
    | none => rw [hn] at hk; cases hk
    | some cs' =>
      rw [hn] at hk
      cases hk
      simp only [VR] at f2
      obtain ⟨ds, e1, e2⟩ := f2
      cases e1
      exact ⟨cs', rfl, e2⟩
  obtain ⟨cs', rfl, hv⟩ := hcells
  have hcl : cs'.length = len * ie.size := by
    have h1 := VRl.length _ hv
    have h2 := VRl.length _ k2
    rw [h1, ← h2, k3]; simp [hzl]
  refine Sound.value (c := .slice (some ⟨w.heap.size, 0, none⟩) len len) (w' := w.alloc (.cells cells e)) (g' := g') ?_ ?_ (f1.ext.ofOb.trans s2)
  · simp only [execOp, ho]
    simp [hrun]
  · have hval : VR (.slice (litFl len) (chunk ie.size len (cellsOf (.agg cs')))) (memOf (w.alloc (.cells cells e)) g') (.slice (some ⟨w.heap.size, 0, none⟩) len len) := by
      simp only [VR]
      refine ⟨_, len, by rw [chunk_length], by rw [chunk_length]; exact Nat.le_refl _, ?_, fun e => (by cases e), fun hne => ⟨w.heap.size, 0, ie.size, rfl, ?_⟩⟩
      · cases len <;> simp [litFl]
      · refine VRr.of_get _ fun i r hi => ?_
        have hil := (List.getElem?_eq_some_iff.1 hi).1
        rw [chunk_length] at hil
        obtain ⟨c1, c2⟩ := chunk_get ie.size len cs' hcl i r hi
        refine ⟨c1, VRc.of_get _ fun j u hu => ?_⟩
        obtain ⟨c, d1, d2, d3⟩ := VRl.get _ hv _ _ (c2 j u hu)
        refine ⟨c, ?_, VR.mono _ (le_free f1.sr.wf (.cells cells e)).alone d2, d3⟩
        simp only [memOf, Mem.alone]
        rw [if_pos (.inl (f1.sr.wf.new _ (Nat.le_refl _))), alloc_heap, if_pos rfl]
        simp only [cellAt]
        rw [← d1]; simp
    have := s1.putV o.dst hval
    rwa [put_st] at this

end Go.Ab
