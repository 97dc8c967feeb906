/- Values by themselves: what leads to a shared array is read out of it, and it is written no more; conditions: none. -/
import Derived.Test.YtbfecmgiffkooaaAb10
namespace Go.Ab
set_option linter.unusedVariables false
set_option linter.unusedSimpArgs false
variable {act hn : Nat} {s s' : St} {a : Act} {w : World} {g : Gh} {P : Program} {F : Fence} {n : Nat} {o : Oper}

/-- The objects of world hn. -/
def obOf (hn : Nat) (p : Owner) : Prop := ∃ id, p = .ob hn id

theorem arrRows_fix1 (h : List Ob) (v : V) (id len : Nat) : arrRows (fix1 h v) id len = arrRows h id len := by
  unfold fix1
  split
  · rename_i id' _ _
    split
    · rename_i wr sz rows hob
      unfold arrRows
      rw [hget_eq, hget_eq, hset_eq, List.getElem?_set]
      rw [hget_eq] at hob
      by_cases e : id' = id
      · subst e
        have hl := (List.getElem?_eq_some_iff.1 hob).1
        simp only [if_true, hl, hob]
      · simp only [e, if_false]
    · rfl
  · rfl
theorem normK1_fix1 {R : Type} (h : List Ob) (v u : V) (k : V → Option R) : normK1 (fix1 h v) u k = normK1 h u k := by
  unfold normK1
  split
  · rw [arrRows_fix1]
  · rfl
  · rfl
theorem normsK_fix1 {R : Type} (h : List Ob) (v : V) (l : List V) : ∀ k : List V → Option R, normsK (fix1 h v) l k = normsK h l k := by
  induction l with
  | nil => intro k; rfl
  | cons u l ih => intro k; simp only [normsK]; rw [normK1_fix1]; congr 1; funext v; exact ih _
theorem normsK_fixs {R : Type} (us l : List V) : ∀ (h : List Ob) (k : List V → Option R), normsK (fixs h us) l k = normsK h l k := by
  induction us with
  | nil => intro h k; rfl
  | cons u us ih => intro h k; simp only [fixs]; rw [ih, normsK_fix1]
theorem normK1_fixs {R : Type} (us : List V) (u : V) : ∀ (h : List Ob) (k : V → Option R), normK1 (fixs h us) u k = normK1 h u k := by
  induction us with
  | nil => intro h k; rfl
  | cons v us ih => intro h k; simp only [fixs]; rw [ih, normK1_fix1]
theorem normK_fixV {R : Type} (h : List Ob) (v u : V) (k : V → Option R) : normK (fixV h v) u k = normK h u k := by
  unfold fixV
  split
  · unfold normK
    split
    · rw [normsK_fixs]
    · rw [normK1_fixs]
  · unfold normK
    split
    · rw [normsK_fix1]
    · rw [normK1_fix1]
theorem normArgsK_fixV {R : Type} (h : List Ob) (v : V) (l : List V) : ∀ k : List V → Option R, normArgsK (fixV h v) l k = normArgsK h l k := by
  induction l with
  | nil => intro k; rfl
  | cons u l ih => intro k; simp only [normArgsK]; rw [normK_fixV]; congr 1; funext v; exact ih _

/-- What fixing comes to. -/
structure Fixed (act hn : Nat) (s : St) (a : Act) (w : World) (g : Gh) (h' : List Ob) (g' : Gh) : Prop where
  J : g'.J = g.J
  own : g'.own = g.own
  nx : g'.nx = g.nx
  sr : SR act hn ⟨s.t, h'⟩ a w g'
  ext : Ext (obOf hn) w g w g'
theorem Fixed.refl (h : SR act hn s a w g) : Fixed act hn s a w g s.h g := ⟨rfl, rfl, rfl, h, Ext.refl _ _ _⟩
theorem Fixed.trans {h1 h2 : List Ob} {g1 g2 : Gh} (k : Fixed act hn s a w g h1 g1) (k' : Fixed act hn ⟨s.t, h1⟩ a w g1 h2 g2) : Fixed act hn s a w g h2 g2 :=
  ⟨k'.J.trans k.J, k'.own.trans k.own, k'.nx.trans k.nx, k'.sr, k.ext.trans k'.ext⟩

theorem fix1_ok (h : SR act hn s a w g) {v v' : V} (hk : normK1 s.h v some = some v') {c : Value} (hv : VR v (memOf w g) c) : ∃ g', Fixed act hn s a w g (fix1 s.h v) g' ∧ VR v' (memOf w g').alone c := by
  unfold normK1 at hk
  split at hk
  · rename_i id len sz
    cases hr : arrRows s.h id len with
    | none => rw [hr] at hk; cases hk
    | some rows =>
      rw [hr] at hk
      simp only [Option.bind_some] at hk
      cases hk
      obtain ⟨wr, sz', ho, hlen⟩ := arrRows_spec hr
      have ho' : hget s.h id = some (.arr wr sz' rows) := by rw [hget_eq]; exact ho
      obtain ⟨g', f1, f2, f3, f4, f5, f6⟩ := h.fix ho'
      refine ⟨g', ⟨f1, f2, f3, ?_, f5 _ ⟨id, rfl⟩⟩, ?_⟩
      · simp only [fix1, ho']; exact f4
      · simp only [VR] at hv ⊢
        obtain ⟨ad, cap, b, l, h1, h2, h3, h4, h5, h6, h7⟩ := hv
        refine ⟨ad, cap, by rw [← hlen]; exact h2, by omega, trivial, h5, fun hne => ?_⟩
        obtain ⟨b', k1, k2⟩ := f6 hne
        have h1' : g.J[id]? = some (b, some l) := h1
        rw [h1'] at k1; cases k1
        have hl0 : len ≠ 0 := by intro e; rw [e] at hlen; exact hne (List.length_eq_zero_iff.1 hlen.symm)
        obtain ⟨q, _⟩ := h7 hl0 hlen.symm
        exact ⟨b, 0, sz', q, k2⟩
  · cases hk
    refine ⟨g, Fixed.refl h, ?_⟩
    have := hv.any
    simp only [VR] at this ⊢
    exact this
  · rename_i h1 h2
    cases hb : refFree v with
    | false => rw [hb] at hk; cases hk
    | true =>
      rw [hb] at hk
      cases hk
      refine ⟨g, ?_, VR.alone (m := memOf w g) v hb rfl rfl hv⟩
      have e : fix1 s.h v = s.h := by
        unfold fix1
        split
        · simp [refFree] at hb
        · rfl
      rw [e]; exact Fixed.refl h

theorem fixs_ok (l : List V) : ∀ {s : St} {g : Gh} (_ : SR act hn s a w g) {l' : List V} (_ : normsK s.h l some = some l') {cs : List Value} (_ : VRl l (memOf w g) cs), ∃ g', Fixed act hn s a w g (fixs s.h l) g' ∧ VRl l' (memOf w g').alone cs := by
  induction l with
  | nil =>
    intro s g h l' hk cs hv
    cases hk
    simp only [VRl] at hv
    exact ⟨g, Fixed.refl h, by simp only [VRl]; exact hv⟩
  | cons v l ih =>
    intro s g h l' hk cs hv
    simp only [normsK] at hk
    rw [normK1_bind] at hk
    cases h1 : normK1 s.h v some with
    | none => rw [h1] at hk; cases hk
    | some v' =>
      rw [h1, Option.bind_some, normsK_bind] at hk
      cases h2 : normsK s.h l some with
      | none => rw [h2] at hk; cases hk
      | some l2 =>
        rw [h2] at hk
        cases hk
        simp only [VRl] at hv
        obtain ⟨c, cs', rfl, ⟨v1, v2⟩, v3⟩ := hv
        obtain ⟨g1, f1, f2⟩ := fix1_ok h h1 v1
        obtain ⟨g2, f3, f4⟩ := ih f1.sr (l' := l2) (by rw [normsK_fix1]; exact h2) (VRl.mono _ f1.ext.le v3)
        refine ⟨g2, f1.trans f3, ?_⟩
        simp only [VRl]
        exact ⟨c, cs', rfl, ⟨VR.mono _ f3.ext.le.alone f2, v2⟩, f4⟩

theorem normK_one {R : Type} {h : List Ob} {v : V} (hv : ∀ cs, v ≠ .agg cs) (k : V → Option R) : normK h v k = normK1 h v k := by
  cases v <;> first
    | rfl
    | exact absurd rfl (hv _)
theorem fixV_one {h : List Ob} {v : V} (hv : ∀ cs, v ≠ .agg cs) : fixV h v = fix1 h v := by
  cases v <;> first
    | rfl
    | exact absurd rfl (hv _)
theorem normResK_one {R : Type} {h : List Ob} {v : V} (hv : ∀ cs, v ≠ .tuple cs) (k : V → Option R) : normResK h v k = normK h v k := by
  cases v <;> first
    | rfl
    | exact absurd rfl (hv _)
theorem fixV_ok (h : SR act hn s a w g) {v v' : V} (hk : normK s.h v some = some v') {c : Value} (hv : VR v (memOf w g) c) : ∃ g', Fixed act hn s a w g (fixV s.h v) g' ∧ VR v' (memOf w g').alone c := by
  cases v with
  | agg cs =>
    simp only [normK] at hk
    rw [normsK_bind] at hk
    cases h1 : normsK s.h cs some with
    | none => rw [h1] at hk; cases hk
    | some cs' =>
      rw [h1] at hk
      cases hk
      simp only [VR] at hv
      obtain ⟨ds, rfl, hv⟩ := hv
      obtain ⟨g', f1, f2⟩ := fixs_ok cs h h1 hv
      exact ⟨g', f1, by simp only [VR]; exact ⟨ds, rfl, f2⟩⟩
  | _ =>
    rw [normK_one (by simp)] at hk
    rw [fixV_one (by simp)]
    exact fix1_ok h hk hv

theorem fixArgs_ok (l : List V) : ∀ {s : St} {g : Gh} (_ : SR act hn s a w g) {l' : List V} (_ : normArgsK s.h l some = some l') {cs : List Value} (_ : VRs l (memOf w g) cs), ∃ g', Fixed act hn s a w g (fixArgs s.h l) g' ∧ VRs l' (memOf w g').alone cs := by
  induction l with
  | nil =>
    intro s g h l' hk cs hv
    cases hk
    simp only [VRs] at hv
    exact ⟨g, Fixed.refl h, by simp only [VRs]; exact hv⟩
  | cons v l ih =>
    intro s g h l' hk cs hv
    simp only [normArgsK] at hk
    rw [normK_bind] at hk
    cases h1 : normK s.h v some with
    | none => rw [h1] at hk; cases hk
    | some v' =>
      rw [h1, Option.bind_some, normArgsK_bind] at hk
      cases h2 : normArgsK s.h l some with
      | none => rw [h2] at hk; cases hk
      | some l2 =>
        rw [h2] at hk
        cases hk
        simp only [VRs] at hv
        obtain ⟨c, cs', rfl, v1, v3⟩ := hv
        obtain ⟨g1, f1, f2⟩ := fixV_ok h h1 v1
        obtain ⟨g2, f3, f4⟩ := ih f1.sr (l' := l2) (by rw [normArgsK_fixV]; exact h2) (VRs.mono _ f1.ext.le v3)
        refine ⟨g2, f1.trans f3, ?_⟩
        simp only [VRs]
        exact ⟨c, cs', rfl, VR.mono _ f3.ext.le.alone f2, f4⟩

/-- A call's result by itself. -/
theorem fixRes_ok (h : SR act hn s a w g) {v v' : V} (hk : normResK s.h v some = some v') {c : Value} (hv : VR v (memOf w g) c) : ∃ h' g', Fixed act hn s a w g h' g' ∧ VR v' (memOf w g').alone c := by
  cases v with
  | tuple vs =>
    simp only [normResK] at hk
    rw [normArgsK_bind] at hk
    cases h1 : normArgsK s.h vs some with
    | none => rw [h1] at hk; cases hk
    | some vs' =>
      rw [h1] at hk
      cases hk
      simp only [VR] at hv
      obtain ⟨ds, rfl, hv⟩ := hv
      obtain ⟨g', f1, f2⟩ := fixArgs_ok vs h h1 hv
      exact ⟨_, g', f1, by simp only [VR]; exact ⟨ds, rfl, f2⟩⟩
  | _ =>
    rw [normResK_one (by simp)] at hk
    obtain ⟨g', f1, f2⟩ := fixV_ok h hk hv
    exact ⟨_, g', f1, f2⟩

theorem Ext.ofOb {w' : World} {g' : Gh} (h : Ext (obOf hn) w g w' g') : Ext (mine act hn) w g w' g' := h.weaken fun p ⟨id, e⟩ => .inr (.inr ⟨id, e⟩)

end Go.Ab
