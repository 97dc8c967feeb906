/- Slices, lengths, appends, what is built; conditions: none. -/
import Derived.Test.YtbfecmgiffkooaaAb8
namespace Go.Ab
set_option linter.unusedVariables false
set_option linter.unusedSimpArgs false
variable {act hn : Nat} {s s' : St} {a : Act} {w : World} {g : Gh} {P : Program} {F : Fence} {n : Nat} {o : Oper}

theorem VRr.take {l : List (List V)} {m : Mem} {b o sz : Nat} (h : VRr l m b o sz) (k : Nat) : VRr (l.take k) m b o sz :=
  VRr.of_get _ fun i r hi => by
    rw [List.getElem?_take] at hi
    split at hi
    · exact VRr.get _ h i r hi
    · cases hi
theorem VRr.drop {l : List (List V)} {m : Mem} {b o sz : Nat} (h : VRr l m b o sz) (k : Nat) : VRr (l.drop k) m b (o + k * sz) sz :=
  VRr.of_get _ fun i r hi => by
    rw [List.getElem?_drop] at hi
    obtain ⟨h1, h2⟩ := VRr.get _ h _ r hi
    refine ⟨h1, ?_⟩
    rw [Nat.add_mul] at h2
    rw [show o + k * sz + i * sz = o + (k * sz + i * sz) by omega]
    exact h2

/-- What boundK tells. -/
theorem boundK_spec {v : Option V} {d t : Nat} {R : Type} {k : Nat → Option R} {r : R} (h : boundK v d t k = some r) : ∃ i, k i = some r ∧ ((v = none ∧ i = d) ∨ ∃ (q : IntKind) (x : Int), v = some (.int q x) ∧ 0 ≤ x ∧ i = x.toNat ∧ i ≤ t) := by
  unfold boundK at h
  split at h
  · exact ⟨_, h, .inl ⟨rfl, rfl⟩⟩
  · rename_i q x
    cases h1 : decide (0 ≤ x) with
    | false => rw [h1] at h; cases h
    | true =>
      rw [h1] at h
      simp only [cond_true] at h
      cases h2 : decide (x.toNat ≤ t) with
      | false => rw [h2] at h; cases h
      | true =>
        rw [h2] at h
        exact ⟨_, h, .inr ⟨q, x, rfl, of_decide_eq_true h1, rfl, of_decide_eq_true h2⟩⟩
  · cases h

theorem run_sliceBound {q : IntKind} {x : Int} {y : Nat} {code : BoundsCode} (h0 : 0 ≤ x) (hy : x.toNat ≤ y) : (Instr.sliceBound (.int q x) y code).run P w = .ok x.toNat w := by
  have : x ≤ y := by omega
  simp [Instr.sliceBound, asIntOf, h0, this]

theorem run_slice {t e : TypeId} {sz b : Nat} (hs : sliceElem P t = some (e, sz, b)) {ad : Option Addr} {len cap : Nat} {hi lo : Option Value} {H L : Nat} (hcap : len ≤ cap)
    (hh : (hi = none ∧ H = len) ∨ ∃ (q : IntKind) (x : Int), hi = some (.int q x) ∧ 0 ≤ x ∧ H = x.toNat ∧ H ≤ len) (hl : (lo = none ∧ L = 0) ∨ ∃ (q : IntKind) (x : Int), lo = some (.int q x) ∧ 0 ≤ x ∧ L = x.toNat ∧ L ≤ H) :
    (Instr.sliceAt t (.slice ad len cap) lo hi none).run P w = .ok (.slice (if cap = L then ad else ad.map (·.add (L * sz))) (H - L) (cap - L)) w := by
  obtain ⟨i, h1, h2, h3, h4⟩ := sliceElem_spec hs
  have e1 : ∀ {w : World}, (Instr.sliceBounds true len cap lo hi none).run P w = .ok (L, H, cap) w := by
    intro w
    unfold Instr.sliceBounds
    rcases hh with ⟨rfl, rfl⟩ | ⟨q, x, rfl, x0, rfl, x1⟩ <;> rcases hl with ⟨rfl, rfl⟩ | ⟨q', y, rfl, y0, rfl, y1⟩
    · simp
    · simp [run_sliceBound y0 y1]
    · simp [run_sliceBound x0 (show x.toNat ≤ cap by omega)]
    · simp [run_sliceBound x0 (show x.toNat ≤ cap by omega), run_sliceBound y0 y1]
  simp [Instr.sliceAt, run_underlying h1, Instr.slice, e1, run_tSize h2, h3]

theorem sound_slice (h : SR act hn s a w g) {t e : TypeId} {sz b : Nat} (hs : sliceElem P t = some (e, sz, b)) {x : Operand} {lo hi : Option Operand} (ho : o.op = .slice t x lo hi none) {fl : Fl} {rows : List (List V)} (hx : getV s x = .slice fl rows) {H L : Nat}
    (hh : (hi = none ∧ H = rows.length) ∨ ∃ (y : Operand) (q : IntKind) (i : Int), hi = some y ∧ getV s y = .int q i ∧ 0 ≤ i ∧ H = i.toNat ∧ H ≤ rows.length) (hl : (lo = none ∧ L = 0) ∨ ∃ (y : Operand) (q : IntKind) (i : Int), lo = some y ∧ getV s y = .int q i ∧ 0 ≤ i ∧ L = i.toNat ∧ L ≤ H)
    (hLH : L ≤ H) (hsz : lo = none ∨ ∀ r, rows[0]? = some r → r.length = sz) :
    Sound P F n act hn (s.put o.dst (.slice (slFl fl) ((rows.take H).drop L))) a w g o := by
  have hv := h.evalN hx rfl
  simp only [VR] at hv
  obtain ⟨ad, cap, h1, h2, h3, h4, h5⟩ := hv
  have hH : H ≤ rows.length := by rcases hh with ⟨_, rfl⟩ | ⟨_, _, _, _, _, _, _, hle⟩ <;> omega
  have ih : (hi.map a.eval = none ∧ H = rows.length) ∨ ∃ (q : IntKind) (x : Int), hi.map a.eval = some (.int q x) ∧ 0 ≤ x ∧ H = x.toNat ∧ H ≤ rows.length := by
    rcases hh with ⟨rfl, e⟩ | ⟨y, q, i, rfl, e, i0, i1, i2⟩
    · exact .inl ⟨rfl, e⟩
    · have := h.evalN e rfl
      simp only [VR] at this
      exact .inr ⟨q, i, by simp [this], i0, i1, i2⟩
  have il : (lo.map a.eval = none ∧ L = 0) ∨ ∃ (q : IntKind) (x : Int), lo.map a.eval = some (.int q x) ∧ 0 ≤ x ∧ L = x.toNat ∧ L ≤ H := by
    rcases hl with ⟨rfl, e⟩ | ⟨y, q, i, rfl, e, i0, i1, i2⟩
    · exact .inl ⟨rfl, e⟩
    · have := h.evalN e rfl
      simp only [VR] at this
      exact .inr ⟨q, i, by simp [this], i0, i1, i2⟩
  refine Sound.pure h (c := .slice (if cap = L then ad else ad.map (·.add (L * sz))) (H - L) (cap - L)) ?_ ?_
  · simp only [execOp, ho, h1]
    simp [run_slice hs h2 ih il]
  · simp only [VR]
    have hlen : ((rows.take H).drop L).length = H - L := by simp; omega
    refine ⟨_, _, by rw [hlen], by rw [hlen]; omega, ?_, ?_, ?_⟩
    · cases fl with
      | nil => obtain ⟨rfl, rfl⟩ := h3; simp [slFl]
      | _ => trivial
    · intro e
      split at e
      · have := h4 e; omega
      · cases ad with
        | none => have := h4 rfl; omega
        | some _ => simp at e
    · intro hne
      have hpos : L < H := by
        rcases Nat.lt_or_ge L H with hlt | hge
        · exact hlt
        · exfalso; apply hne; apply List.length_eq_zero_iff.1; omega
      have hrne : rows ≠ [] := by intro e; subst e; simp at hH; omega
      obtain ⟨bb, oo, sz', k1, k2⟩ := h5 hrne
      subst k1
      have hsz' : L * sz = L * sz' := by
        rcases hsz with e | hsz
        · rcases hl with ⟨_, rfl⟩ | ⟨y, _, _, e', _⟩
          · simp
          · rw [e] at e'; cases e'
        · cases rows with
          | nil => exact absurd rfl hrne
          | cons r rows => rw [← hsz r rfl, (VRr.get _ k2 0 r rfl).1]
      rw [if_neg (by omega)]
      exact ⟨bb, oo + L * sz', sz', by simp [add_none, hsz'], (k2.take H).drop L⟩

theorem sound_len (h : SR act hn s a w g) {c : Call} (ho : o.op = .call c) (hb : c.callee = .builtin .len) {x : Operand} (hc : c.args.toList = [x]) {t : TypeId} (hta : c.argTypes.toList = [t]) (ht : (∃ e, P.underlying t = some (.slice e)) ∨ P.underlying t = some .string) {m : Nat} (hl : asLen (getV s x) = some m)
    (hk : match getV s x with | .str _ => P.underlying t = some .string | _ => ∃ e, P.underlying t = some (.slice e)) :
    Sound P F n act hn (s.put o.dst (.int .i64 m)) a w g o := by
  have hargs : c.args = #[x] := by apply Array.ext'; simpa using hc
  have hat : c.argTypes = #[t] := by apply Array.ext'; simpa using hta
  refine Sound.pure h (c := .int .i64 m) ?_ (by simp only [VR])
  have hv := h.evalV x
  cases hx : getV s x <;> rw [hx] at hl hk hv <;> simp only [asLen, reduceCtorEq] at hl
  · cases hl
    simp only [view, VR] at hv hk
    simp only [execOp, ho]
    simp [resolve, hb, invoke, builtin, hargs, hat, Builtin.len_, run_underlying hk, hv, goInt]
  · cases hl
    obtain ⟨e, he⟩ := hk
    simp only [view, VR] at hv
    obtain ⟨ad, cap, h1, _⟩ := hv
    simp only [execOp, ho]
    simp [resolve, hb, invoke, builtin, hargs, hat, Builtin.len_, run_underlying he, h1, goInt]
  · cases hl
    obtain ⟨e, he⟩ := hk
    simp only [view, VR] at hv
    obtain ⟨ad, cap, b, l, _, h1, _⟩ := hv
    simp only [execOp, ho]
    simp [resolve, hb, invoke, builtin, hargs, hat, Builtin.len_, run_underlying he, h1, goInt]

theorem minmax_run (mx : Bool) : ∀ (l : List V) (x v : V) (_ : foldV (if mx then max2 else min2) x l = some v) (cs : List Value) (c : Value) {m : Mem}, VR x m c → VRs l m cs →
    ∃ d, ((cs.foldlM (if mx then Builtin.max2 else Builtin.min2) c : Sem Value)).run P w = .ok d w ∧ VR v m d := by
  intro l
  induction l with
  | nil =>
    intro x v h cs c m hx hl
    simp only [foldV] at h; cases h
    simp only [VRs] at hl; subst hl
    exact ⟨c, by simp, hx⟩
  | cons y l ih =>
    intro x v h cs c m hx hl
    simp only [foldV] at h
    simp only [VRs] at hl
    obtain ⟨d, cs', rfl, hy, hl'⟩ := hl
    split at h
    · rename_i u hu
      have step : ∃ e, ((if mx then Builtin.max2 else Builtin.min2) c d).run P w = .ok e w ∧ VR u m e := by
        cases mx
        · simp only [Bool.false_eq_true, if_false] at hu ⊢
          unfold min2 at hu
          split at hu
          · simp only [VR] at hx hy; subst hx; subst hy
            split at hu
            · cases hu; exact ⟨_, by simp [Builtin.min2]; rfl, by simp only [VR]⟩
            · cases hu
          · cases hu
        · simp only [if_true] at hu ⊢
          unfold max2 at hu
          split at hu
          · simp only [VR] at hx hy; subst hx; subst hy
            split at hu
            · cases hu; exact ⟨_, by simp [Builtin.max2]; rfl, by simp only [VR]⟩
            · cases hu
          · cases hu
      obtain ⟨e, e1, e2⟩ := step
      obtain ⟨z, z1, z2⟩ := ih u v h cs' e e2 hl'
      exact ⟨z, by simp [e1, z1], z2⟩
    · cases h

theorem evals (h : SR act hn s a w g) (l : List Operand) (hv : ∀ x ∈ l, view (getV s x) = getV s x) : VRs (l.map (getV s)) (memOf w g) (l.map a.eval) := by
  induction l with
  | nil => simp only [List.map_nil, VRs]
  | cons x l ih =>
    simp only [List.map_cons, VRs]
    refine ⟨_, _, rfl, ?_, ih fun y hy => hv y (by simp [hy])⟩
    have := h.evalV x
    rwa [hv x (by simp)] at this

end Go.Ab
