/- Comparisons of structs, addresses, slices, appends; conditions: none. -/
import Derived.Test.YtbfecmgiffkooaaAb7
import Derived.Laws.StructEq
namespace Go.Ab
set_option linter.unusedVariables false
set_option linter.unusedSimpArgs false
variable {act hn : Nat} {s s' : St} {a : Act} {w : World} {g : Gh} {P : Program} {F : Fence} {n : Nat} {o : Oper}

theorem sound_eqlBool (h : SR act hn s a w g) {op : BinOp} {t t' : TypeId} {x y : Operand} (ho : o.op = .binOp op t x y t') {p q r : Bool} (hx : getV s x = .bool p) (hy : getV s y = .bool q) (ht : P.underlying t = some .bool)
    (hr : (op = .eql ∧ r = (p == q)) ∨ (op = .neq ∧ r = !(p == q))) : Sound P F n act hn (s.put o.dst (.bool r)) a w g o := by
  have hvx := h.evalN hx rfl
  have hvy := h.evalN hy rfl
  simp only [VR] at hvx hvy
  have he : (Op.equal t (.bool p) (.bool q)).run P w = .ok (p == q) w := by
    show (Op.equalIn (9999 + 1) t (.bool p) (.bool q)).run P w = _
    exact run_equalIn_bool' w _ t p q ht
  refine Sound.pure h (c := .bool r) ?_ (by simp only [VR])
  rcases hr with ⟨rfl, rfl⟩ | ⟨rfl, rfl⟩
  · simp only [execOp, ho, hvx, hvy, binOp]
    simp [run_eqGuard_bool, he]
  · simp only [execOp, ho, hvx, hvy, binOp]
    simp [run_eqGuard_bool, he]

/-- A part of an aggregate. -/
theorem run_part {t : TypeId} {ag : Bool} {m : Nat} (ht : typeSize P t = some (ag, m)) {xs : List V} {cs : List Value} {mm : Mem} (hv : VRl xs mm cs) {off : Nat} {v : V} (hp : part ag m xs off = some v) :
    ∃ c, (Go.part t ⟨cs⟩ off).run P w = .ok c w ∧ VR v mm c ∧ (ag = false → one c = true) ∧ (ag = true → ∃ ds, v = .agg ds) := by
  have hlen := VRl.length _ hv
  unfold Go.part
  simp only [Sem.run_bind, run_tAgg ht, Result.andThen_ok]
  rcases part_spec hp with ⟨rfl, hl, rfl⟩ | ⟨rfl, rfl, rfl⟩ | ⟨rfl, hv'⟩
  · refine ⟨.agg ((⟨cs⟩ : Array Value).extract off (off + m)), by simp [run_tSize' ht], ?_, by simp, fun _ => ⟨_, rfl⟩⟩
    simp only [VR]
    refine ⟨(cs.drop off).take m, ?_, (hv.drop off).take m⟩
    congr 1
    apply Array.ext'
    simp [List.take_drop, Nat.add_comm]
  · refine ⟨.agg ((⟨cs⟩ : Array Value).extract off (off + 0)), by simp [run_tSize' ht], ?_, by simp, fun _ => ⟨_, rfl⟩⟩
    simp only [VR]
    exact ⟨[], by congr 1; apply Array.ext'; simp, by simp only [VRl]⟩
  · obtain ⟨c, c1, c2, c3⟩ := VRl.get _ hv off v hv'
    refine ⟨c, ?_, c2, fun _ => c3, by simp⟩
    simp [c1]

theorem cellEq_run {u : TypeDesc} {x y : V} {b : Bool} (h : cellEq u x y = some b) {m m' : Mem} {c c' : Value} (hx : VR x m c) (hy : VR y m' c') {t : TypeId} (ht : P.underlying t = some u) (d : Nat) : (Op.equalIn (d + 1) t c c').run P w = .ok b w := by
  unfold cellEq at h
  split at h
  · simp only [VR] at hx hy; subst hx; subst hy; cases h
    exact run_equalIn_bool' w _ t _ _ ht
  · simp only [VR] at hx hy; subst hx; subst hy
    split at h
    · rename_i hk
      cases h
      have := kEq_iff.1 hk; subst this
      exact run_equalIn_int w _ t _ _ _ _ ht
    · cases h
  · simp only [VR] at hx hy; subst hx; subst hy; cases h
    rw [beq_toListBytes]
    exact run_equalIn_string w _ t _ _ ht
  · cases h

theorem Value.one_cells {c : Value} (h : one c = true) : c.cells = #[c] := by
  cases c <;> first
    | rfl
    | (simp [one] at h)

theorem eqT_run (d0 : Nat) : ∀ (t : TypeId) {xs ys : List V} {b : Bool} (_ : eqT P d0 t xs ys = some b) {m m' : Mem} {cs cs' : List Value} (_ : VRl xs m cs) (_ : VRl ys m' cs') (d : Nat) (_ : d0 ≤ d) (c c' : Value)
    (_ : (match P.underlying t with | some (.struct _) => c = .agg ⟨cs⟩ ∧ c' = .agg ⟨cs'⟩ | _ => cs = [c] ∧ cs' = [c'])), (Op.equalIn d t c c').run P w = .ok b w := by
  induction d0 with
  | zero => intro t xs ys b h; simp [eqT] at h
  | succ d0 ih =>
    intro t xs ys b h m m' cs cs' hx hy d hd c c' hc
    obtain ⟨d, rfl⟩ : ∃ k, d = k + 1 := ⟨d - 1, by omega⟩
    unfold eqT at h
    cases hu : P.underlying t with
    | none => rw [hu] at h; cases h
    | some u =>
      rw [hu] at h hc
      by_cases hst : ∃ fs, u = .struct fs
      · obtain ⟨fs, rfl⟩ := hst
        simp only at h hc
        obtain ⟨rfl, rfl⟩ := hc
        cases hh : P.stoodInHeld t with
        | true => rw [hh] at h; cases h
        | false =>
          rw [hh] at h
          simp only at h
          have hf : P.fieldsOf t = fs := by simp [Program.fieldsOf, hu]
          rw [run_equalIn_struct (P := P) w d t _ _ (by rw [hf]; exact hu) hh, hf]
          generalize fs.toList = l at h
          induction l generalizing b with
          | nil => simp only [eqFs] at h; cases h; simp [Op.eqFields]
          | cons f l ihl =>
            simp only [eqFs] at h
            cases hn : f.name == "_" with
            | true => rw [hn] at h; cases h
            | false =>
              rw [hn] at h
              simp only at h
              have hn' : f.name ≠ "_" := by simpa using hn
              cases hts : typeSize P f.type with
              | none => rw [hts] at h; cases h
              | some p =>
                obtain ⟨ag, k⟩ := p
                rw [hts] at h
                simp only at h
                cases hpx : part ag k xs f.offset with
                | none => rw [hpx] at h; cases h
                | some x =>
                  rw [hpx, Option.bind_some] at h
                  cases hpy : part ag k ys f.offset with
                  | none => rw [hpy] at h; cases h
                  | some y =>
                    rw [hpy, Option.bind_some] at h
                    cases he : eqT P d0 f.type (cellsOf x) (cellsOf y) with
                    | none => rw [he] at h; cases h
                    | some r =>
                      rw [he, Option.bind_some] at h
                      cases hq : eqFs P (eqT P d0) xs ys l with
                      | none => rw [hq] at h; cases h
                      | some q =>
                        rw [hq, Option.bind_some] at h
                        cases h
                        obtain ⟨cx, px1, px2, px3, px4⟩ := run_part (P := P) (w := w) hts hx hpx
                        obtain ⟨cy, py1, py2, py3, py4⟩ := run_part (P := P) (w := w) hts hy hpy
                        obtain ⟨i, u, _, hu', _, hag⟩ := typeSize_spec hts
                        have key : ∀ {v : V} {mm : Mem} {cc : Value}, VR v mm cc → (ag = false → one cc = true) → (ag = true → ∃ ds, v = .agg ds) → cellsOf v ≠ [] ∨ (∃ ds, v = .agg ds) → VRl (cellsOf v) mm cc.cells.toList := by
                          intro v mm cc hv _ _ hne
                          exact cellsOf_ok (by cases v <;> first | exact hv | (simp only [VR] at hv)) hne
                        have nex : cellsOf x ≠ [] ∨ ∃ ds, x = .agg ds := by
                          cases ag with
                          | true => exact .inr (px4 rfl)
                          | false =>
                            left; intro e
                            rw [e] at he
                            cases d0 with
                            | zero => simp [eqT] at he
                            | succ d0 =>
                              simp only [eqT, hu'] at he
                              cases u <;> simp [cellEqL] at hag he
                        have ney : cellsOf y ≠ [] ∨ ∃ ds, y = .agg ds := by
                          cases ag with
                          | true => exact .inr (py4 rfl)
                          | false =>
                            left; intro e
                            rw [e] at he
                            cases d0 with
                            | zero => simp [eqT] at he
                            | succ d0 =>
                              simp only [eqT, hu'] at he
                              cases u <;> simp [cellEqL] at hag he
                        have e1 := ih f.type he (key px2 px3 px4 nex) (key py2 py3 py4 ney) d (by omega) cx cy (by
                          rw [hu']
                          cases ag with
                          | true =>
                            obtain ⟨ds, rfl⟩ := px4 rfl
                            obtain ⟨es, rfl⟩ := py4 rfl
                            simp only [VR] at px2 py2
                            obtain ⟨cs1, rfl, _⟩ := px2
                            obtain ⟨cs2, rfl, _⟩ := py2
                            cases u <;> first
                              | exact ⟨rfl, rfl⟩
                              | (exfalso; simp at hag; done)
                              | skip
                            exfalso
                            cases d0 with
                            | zero => simp [eqT] at he
                            | succ d0 =>
                              simp only [eqT, hu', cellEqL] at he
                              split at he
                              · simp [cellEq] at he
                              · cases he
                          | false =>
                            have o1 := Value.one_cells (px3 rfl)
                            have o2 := Value.one_cells (py3 rfl)
                            rw [o1, o2]
                            cases u <;> simp at hag ⊢)
                        have e2 := ihl hq
                        rw [Op.eqFields]
                        simp only [if_pos hn', Sem.run_bind, px1, py1, e1, Result.andThen_ok]
                        cases r
                        · simp
                        · simpa using e2
      · have hc' : cs = [c] ∧ cs' = [c'] := by
          cases u <;> first
            | (exfalso; exact hst ⟨_, rfl⟩)
            | simpa using hc
        obtain ⟨rfl, rfl⟩ := hc'
        have hl1 := VRl.length _ hx
        have hl2 := VRl.length _ hy
        have h' : cellEqL u xs ys = some b := by
          cases u <;> first
            | (exfalso; exact hst ⟨_, rfl⟩)
            | exact h
        unfold cellEqL at h'
        split at h'
        · rename_i x y
          simp only [VRl] at hx hy
          obtain ⟨c1, r1, e1, ⟨v1, _⟩, _⟩ := hx
          obtain ⟨c2, r2, e2, ⟨v2, _⟩, _⟩ := hy
          cases e1; cases e2
          exact cellEq_run h' v1 v2 hu d
        · cases h'


theorem sound_eqlAgg (h : SR act hn s a w g) {op : BinOp} {t t' : TypeId} {x y : Operand} (ho : o.op = .binOp op t x y t') {xs ys : List V} {b r : Bool} (hx : getV s x = .agg xs) (hy : getV s y = .agg ys) (hg : P.eqGuardType P.depth t = false)
    (ht : ∃ fs, P.underlying t = some (.struct fs)) (he : eqT P 8 t xs ys = some b) (hr : (op = .eql ∧ r = b) ∨ (op = .neq ∧ r = !b)) : Sound P F n act hn (s.put o.dst (.bool r)) a w g o := by
  have hvx := h.evalN hx rfl
  have hvy := h.evalN hy rfl
  simp only [VR] at hvx hvy
  obtain ⟨cs, e1, v1⟩ := hvx
  obtain ⟨cs', e2, v2⟩ := hvy
  obtain ⟨fs, hu⟩ := ht
  have hq : (Op.equalIn 10000 t (.agg ⟨cs⟩) (.agg ⟨cs'⟩)).run P w = .ok b w := eqT_run 8 t he v1 v2 10000 (by omega) _ _ (by rw [hu]; exact ⟨rfl, rfl⟩)
  refine Sound.pure h (c := .bool r) ?_ (by simp only [VR])
  rcases hr with ⟨rfl, rfl⟩ | ⟨rfl, rfl⟩
  · simp only [execOp, ho, e1, e2]
    simp [run_eqGuard_agg w _ t x y _ _ hg, run_eql_struct, hq]
  · simp only [execOp, ho, e1, e2]
    simp [run_eqGuard_agg w _ t x y _ _ hg, run_neq_struct, hq]

/-! Addresses. -/
theorem fieldAt_spec {t : TypeId} {fd off : Nat} {ft : TypeId} (h : fieldAt P t fd = some (off, ft)) : ∃ fs f, P.underlying t = some (.struct fs) ∧ fs[fd]? = some f ∧ f.offset = off ∧ f.type = ft := by
  unfold fieldAt at h
  split at h
  · rename_i fs hu
    split at h
    · rename_i f hf
      cases h
      exact ⟨fs, f, hu, hf, rfl, rfl⟩
    · cases h
  · cases h

theorem run_fieldAt {t : TypeId} {fd off : Nat} {ft : TypeId} (h : fieldAt P t fd = some (off, ft)) {ag : Bool} {m : Nat} (ht : typeSize P ft = some (ag, m)) (hm : 0 < m) (ad : Addr) : (Instr.fieldAt t (.pointer (some ad)) fd).run P w = .ok (.pointer (some (ad.add off))) w := by
  obtain ⟨fs, f, h1, h2, h3, h4⟩ := fieldAt_spec h
  subst h3; subst h4
  simp [Instr.fieldAt, run_underlying h1, h2, Instr.sureAddr, fieldPlace, run_tSize' ht]
  omega

theorem add_none (b o' off : Nat) : (⟨b, o', none⟩ : Addr).add off = ⟨b, o' + off, none⟩ := by unfold Addr.add; split <;> simp_all

theorem sound_fieldAddr (h : SR act hn s a w g) {t : TypeId} {x : Operand} {fd off : Nat} {ft : TypeId} (ho : o.op = .fieldAddr t x fd) (hf : fieldAt P t fd = some (off, ft)) {ag : Bool} {m : Nat} (ht : typeSize P ft = some (ag, m)) (hm : 0 < m) {v : V}
    (hv : (∃ i cs, x = .tmp i ∧ getV s x = .box cs ∧ v = .adr i off) ∨ (∃ i o', getV s x = .adr i o' ∧ v = .adr i (o' + off)) ∨ (∃ id o', getV s x = .ptr id o' ∧ v = .ptr id (o' + off)) ∨
      (∃ row o', getV s x = .rptr row o' ∧ v = .rptr row (o' + off)) ∨ (∃ id len sz i o', getV s x = .eptr id len sz i o' ∧ v = .eptr id len sz i (o' + off))) :
    Sound P F n act hn (s.put o.dst v) a w g o := by
  have fin : ∀ {ad : Addr}, a.eval x = .pointer (some ad) → (∀ i, o.dst = some i → TR w g act i v (.pointer (some (ad.add off)))) → Sound P F n act hn (s.put o.dst v) a w g o := by
    intro ad he hv
    refine Sound.pureT h (c := .pointer (some (ad.add off))) ?_ hv
    simp only [execOp, ho, he]
    simp [run_fieldAt hf ht hm]
  have adrCase : ∀ {i o' : Nat}, getV s x = .adr i o' → ∃ b, g.own b = some (.slot act i) ∧ a.eval x = .pointer (some ⟨b, o', none⟩) := by
    intro i o' hx
    cases x with
    | tmp j =>
      have ht' := h.evalT j
      rw [hx] at ht'
      exact ht'
    | const c =>
      exfalso
      have := VR_liftAgg (memOf w g) c
      simp only [getV] at hx
      rw [hx] at this; simp only [VR] at this
    | func f => simp [getV] at hx
    | global f => simp [getV] at hx
  rcases hv with ⟨i, cs, rfl, hx, rfl⟩ | ⟨i, o', hx, rfl⟩ | ⟨id, o', hx, rfl⟩ | ⟨row, o', hx, rfl⟩ | ⟨id, len, sz, i, o', hx, rfl⟩
  · have ht' := h.evalT i
    rw [hx] at ht'
    obtain ⟨b, cs', e, h1, h2, _⟩ := ht'
    refine fin h1 fun _ _ => ⟨b, h2, by rw [add_none]; simp⟩
  · obtain ⟨b, h1, h2⟩ := adrCase hx
    exact fin h2 fun _ _ => ⟨b, h1, by rw [add_none]⟩
  · have hv := h.evalN hx rfl
    simp only [VR] at hv
    obtain ⟨b, h1, h2⟩ := hv
    exact fin h2 fun _ _ => TR.of_VR (by simp only [VR]; exact ⟨b, h1, by rw [add_none]⟩)
  · have hv := h.evalN hx rfl
    simp only [VR] at hv
    obtain ⟨b, o2, h1, h2⟩ := hv
    exact fin h1 fun _ _ => TR.of_VR (by simp only [VR]; exact ⟨b, o2, by rw [add_none, Nat.add_assoc], h2⟩)
  · have hv := h.evalN hx rfl
    simp only [VR] at hv
    obtain ⟨b, l, ad, h1, h2, h3, h4, h5⟩ := hv
    refine fin h2 fun _ _ => TR.of_VR ?_
    simp only [VR]
    exact ⟨b, l, _, h1, rfl, h3, h4, fun e => by rw [h5 e, add_none, Nat.add_assoc]⟩

theorem sound_nilCheck (h : SR act hn s a w g) {x : Operand} (ho : o.op = .nilCheck x) {v : V}
    (hv : (∃ i cs, x = .tmp i ∧ getV s x = .box cs ∧ v = .adr i 0) ∨ (∃ i o', getV s x = .adr i o' ∧ v = .adr i o') ∨ (∃ id o', getV s x = .ptr id o' ∧ v = .ptr id o') ∨
      (∃ row o', getV s x = .rptr row o' ∧ v = .rptr row o') ∨ (∃ f first cap, getV s x = .fn (.func f) first cap ∧ v = .fn (.func f) first cap)) :
    Sound P F n act hn (s.put o.dst v) a w g o := by
  have fin : ∀ {c : Value}, a.eval x = c → (match c with | .pointer (some _) => True | .func (.func _) _ _ => True | _ => False) → (∀ i, o.dst = some i → TR w g act i v c) → Sound P F n act hn (s.put o.dst v) a w g o := by
    intro c he hc hv
    refine Sound.pureT h (c := c) ?_ hv
    simp only [execOp, ho, he]
    split at hc <;> first
      | (simp; done)
      | exact hc.elim
  rcases hv with ⟨i, cs, rfl, hx, rfl⟩ | ⟨i, o', hx, rfl⟩ | ⟨id, o', hx, rfl⟩ | ⟨row, o', hx, rfl⟩ | ⟨f, first, cap, hx, rfl⟩
  · have ht' := h.evalT i
    rw [hx] at ht'
    obtain ⟨b, cs', e, h1, h2, _⟩ := ht'
    exact fin h1 trivial fun _ _ => ⟨b, h2, rfl⟩
  · cases x with
    | tmp j =>
      have ht' := h.evalT j
      rw [hx] at ht'
      obtain ⟨b, h1, h2⟩ := ht'
      exact fin h2 trivial fun _ _ => ⟨b, h1, rfl⟩
    | const c =>
      exfalso
      have := VR_liftAgg (memOf w g) c
      simp only [getV] at hx
      rw [hx] at this; simp only [VR] at this
    | func f => simp [getV] at hx
    | global f => simp [getV] at hx
  · have hv := h.evalN hx rfl
    have hv' := hv
    simp only [VR] at hv
    obtain ⟨b, h1, h2⟩ := hv
    rw [h2] at hv'
    exact fin h2 trivial fun _ _ => TR.of_VR hv'
  · have hv := h.evalN hx rfl
    have hv' := hv
    simp only [VR] at hv
    obtain ⟨b, o2, h1, h2⟩ := hv
    rw [h1] at hv'
    exact fin h1 trivial fun _ _ => TR.of_VR hv'
  · have hv := h.evalN hx rfl
    have hv' := hv
    simp only [VR] at hv
    obtain ⟨f', fi, ca, h1, h2, h3, h4⟩ := hv
    rw [h1] at hv'
    subst h4
    exact fin h1 trivial fun _ _ => TR.of_VR hv'

theorem sound_field (h : SR act hn s a w g) {t : TypeId} {x : Operand} {fd off : Nat} {ft : TypeId} (ho : o.op = .field t x fd) (hf : fieldAt P t fd = some (off, ft)) {ag : Bool} {m : Nat} (ht : typeSize P ft = some (ag, m)) {cs : List V} (hx : getV s x = .agg cs) {v : V}
    (hp : part ag m cs off = some v) : Sound P F n act hn (s.put o.dst (view v)) a w g o := by
  have hv := h.evalN hx rfl
  simp only [VR] at hv
  obtain ⟨ds, h1, h2⟩ := hv
  obtain ⟨fs, f, k1, k2, k3, k4⟩ := fieldAt_spec hf
  obtain ⟨c, c1, c2, _⟩ := run_part (P := P) (w := w) ht h2 hp
  subst k3; subst k4
  refine Sound.pure h (c := c) ?_ c2.view
  simp only [execOp, ho, h1, Instr.field]
  simp [run_underlying k1, k2, asAgg, c1]

theorem sliceElem_spec {t e : TypeId} {sz b : Nat} (h : sliceElem P t = some (e, sz, b)) : ∃ i, P.underlying t = some (.slice e) ∧ P.info? e = some i ∧ i.size = sz ∧ i.bytes = b := by
  unfold sliceElem at h
  split at h
  · rename_i e' hu
    split at h
    · rename_i i hi; cases h; exact ⟨i, hu, hi, rfl, rfl⟩
    · cases h
  · cases h

theorem run_indexAt {t e : TypeId} {sz b : Nat} (h : sliceElem P t = some (e, sz, b)) {ad : Addr} {len cap : Nat} {k : IntKind} {i : Int} (h0 : 0 ≤ i) (hi : i < len) :
    (Instr.indexAt t (.slice (some ad) len cap) (.int k i)).run P w = .ok (.pointer (some (ad.add (i.toNat * sz)))) w := by
  obtain ⟨j, h1, h2, h3, h4⟩ := sliceElem_spec h
  simp [Instr.indexAt, asIntOf, run_underlying h1, h0, hi, run_tSize h2, h3]

theorem sound_indexSlice (h : SR act hn s a w g) {t e : TypeId} {x ix : Operand} (ho : o.op = .indexAddr t x ix) {sz b : Nat} (hs : sliceElem P t = some (e, sz, b)) {k : IntKind} {i : Int} (hi : getV s ix = .int k i) {fl : Fl} {rows : List (List V)}
    (hx : getV s x = .slice fl rows) {row row' : List V} (hr : getRow rows i sz = some row) {sh : List Sh} (hsh : shsK sh row some = some row') : Sound P F n act hn (s.put o.dst (.rptr row' 0)) a w g o := by
  have hv := h.evalN hx rfl
  have hvi := h.evalN hi rfl
  simp only [VR] at hv hvi
  obtain ⟨r1, r2, r3⟩ := getRow_spec hr
  have hlt := (List.getElem?_eq_some_iff.1 r2).1
  obtain ⟨ad, cap, h1, h2, h3, h4, h5⟩ := hv
  obtain ⟨bb, oo, sz', k1, k2⟩ := h5 (by intro e; rw [e] at hlt; simp at hlt)
  subst k1
  obtain ⟨q1, q2⟩ := VRr.get _ k2 _ _ r2
  have : sz' = sz := by omega
  subst this
  refine Sound.pure h (c := .pointer (some ⟨bb, oo + i.toNat * sz', none⟩)) ?_ ?_
  · simp only [execOp, ho, h1, hvi]
    simp [run_indexAt hs r1 (show i < (rows.length : Int) by omega), add_none]
  · simp only [VR]
    exact ⟨bb, oo + i.toNat * sz', by simp, shsK_okc hsh q2⟩

theorem sound_indexArr (h : SR act hn s a w g) {t e : TypeId} {x ix : Operand} (ho : o.op = .indexAddr t x ix) {sz b : Nat} (hs : sliceElem P t = some (e, sz, b)) {k : IntKind} {i : Int} (hi : getV s ix = .int k i) {id len : Nat}
    (hx : getV s x = .arr id len sz) (h0 : 0 ≤ i) (hl : i.toNat < len) : Sound P F n act hn (s.put o.dst (.eptr id len sz i.toNat 0)) a w g o := by
  have hv := h.evalN hx rfl
  have hvi := h.evalN hi rfl
  simp only [VR] at hv hvi
  obtain ⟨ad, cap, bb, l, h1, h2, h3, h4, h5, h6, h7⟩ := hv
  cases ad with
  | none => have := h5 rfl; omega
  | some ad =>
    refine Sound.pure h (c := .pointer (some (ad.add (i.toNat * sz)))) ?_ ?_
    · simp only [execOp, ho, h2, hvi]
      simp [run_indexAt hs h0 (show i < (len : Int) by omega)]
    · simp only [VR]
      refine ⟨bb, l, _, h1, rfl, h4, hl, fun e => ?_⟩
      obtain ⟨g1, _⟩ := h7 (by omega) e
      cases g1
      rw [add_none]; simp

end Go.Ab
