/- States of others' shapes stand for what they stood for; conditions: none. -/
import Derived.Test.YtbfecmgiffkooaaAb13
namespace Go.Ab
set_option linter.unusedVariables false
set_option linter.unusedSimpArgs false
variable {act hn : Nat} {s s0 s' : St} {a : Act} {w : World} {g : Gh}

mutual
theorem likeV : ∀ (t v : V) {v' : V} (_ : likeK t v some = some v') {m : Mem} {c : Value} (_ : VR v m c), VR v' m c
  | .int q _, v, v', h, m, c, hv => by
    simp only [likeK] at h
    obtain ⟨n, h1, h2⟩ := bind_some2 h
    cases h2
    cases v <;> simp only [asInt, reduceCtorEq] at h1
    split at h1
    · rename_i e; cases h1; subst e; exact hv
    · cases h1
  | .bool _, v, v', h, m, c, hv => by
    simp only [likeK] at h
    obtain ⟨n, h1, h2⟩ := bind_some2 h
    cases h2
    cases v <;> simp only [asBool, reduceCtorEq] at h1
    cases h1; exact hv
  | .str _, v, v', h, m, c, hv => by
    simp only [likeK] at h
    obtain ⟨n, h1, h2⟩ := bind_some2 h
    cases h2
    cases v <;> simp only [asStr, reduceCtorEq] at h1
    cases h1; exact hv
  | .slice _ _, v, v', h, m, c, hv => by
    simp only [likeK] at h
    obtain ⟨n, h1, h2⟩ := bind_some2 h
    cases h2
    cases v <;> simp only [asRows, reduceCtorEq] at h1
    cases h1; exact hv.any
  | .agg cs0, v, v', h, m, c, hv => by
    simp only [likeK] at h
    obtain ⟨cs, h1, h2⟩ := bind_some2 h
    rw [likesK_bind] at h2
    obtain ⟨cs', h3, h4⟩ := bind_some2 h2
    cases h4
    cases v <;> simp only [asCells, reduceCtorEq] at h1
    cases h1
    simp only [VR] at hv ⊢
    obtain ⟨ds, e, hv⟩ := hv
    exact ⟨ds, e, likesL cs0 _ h3 hv⟩
  | .box cs0, v, v', h, m, c, hv => by
    simp only [likeK] at h
    obtain ⟨cs, h1, h2⟩ := bind_some2 h
    cases v <;> simp only [asBox, reduceCtorEq] at h1
    simp only [VR] at hv
  | .fn q a0 b0, v, v', h, m, c, hv => by
    simp only [likeK] at h
    obtain ⟨p, h1, h2⟩ := bind_some2 h
    rw [likesK_bind] at h2
    obtain ⟨fi, h3, h4⟩ := bind_some2 h2
    rw [likesK_bind] at h4
    obtain ⟨ca, h5, h6⟩ := bind_some2 h4
    cases h6
    cases v <;> simp only [asFn, reduceCtorEq] at h1
    rename_i q' x y
    cases hq : fnEq q q' with
    | false => rw [hq] at h1; cases h1
    | true =>
      rw [hq] at h1
      cases h1
      have hqq : q = q' := by
        cases q <;> cases q' <;> simp only [fnEq, reduceCtorEq] at hq
        · rw [Nat.eq_of_beq_eq_true hq]
        · rw [Nat.eq_of_beq_eq_true hq]
      subst hqq
      simp only [VR] at hv ⊢
      obtain ⟨f', fi', ca', e, k1, k2, k3⟩ := hv
      exact ⟨f', fi', ca', e, likesS a0 _ h3 k1, likesS b0 _ h5 k2, k3⟩
  | .arr id _ sz, v, v', h, m, c, hv => by
    simp only [likeK] at h
    obtain ⟨n, h1, h2⟩ := bind_some2 h
    cases h2
    cases v <;> simp only [asArr, reduceCtorEq] at h1
    split at h1
    · rename_i hb
      simp only [Bool.and_eq_true] at hb
      cases h1
      rw [Nat.eq_of_beq_eq_true hb.1, Nat.eq_of_beq_eq_true hb.2]
      exact hv
    · cases h1
  | .ptr id off, v, v', h, m, c, hv => by
    simp only [likeK] at h
    obtain ⟨n, h1, h2⟩ := bind_some2 h
    cases h2
    cases v <;> simp only [asPtr, reduceCtorEq] at h1
    split at h1
    · rename_i hb
      simp only [Bool.and_eq_true] at hb
      rw [Nat.eq_of_beq_eq_true hb.1, Nat.eq_of_beq_eq_true hb.2]
      exact hv
    · cases h1
  | .adr j off, v, v', h, m, c, hv => by
    simp only [likeK] at h
    obtain ⟨n, h1, h2⟩ := bind_some2 h
    cases v <;> simp only [asAdr, reduceCtorEq] at h1
    simp only [VR] at hv
  | .undef, v, v', h, m, c, hv => by simp only [likeK] at h; cases h; simp only [VR]
  | .skip, v, v', h, m, c, hv => by simp only [likeK] at h; cases h; simp only [VR]
  | .nilp, v, v', h, m, c, hv => by simp only [likeK] at h; cases h; simp only [VR]
  | .rptr _ _, v, v', h, m, c, hv => by simp only [likeK] at h; cases h; simp only [VR]
  | .eptr _ _ _ _ _, v, v', h, m, c, hv => by simp only [likeK] at h; cases h; simp only [VR]
  | .nilmap, v, v', h, m, c, hv => by simp only [likeK] at h; cases h; simp only [VR]
  | .map _, v, v', h, m, c, hv => by simp only [likeK] at h; cases h; simp only [VR]
  | .nilfn, v, v', h, m, c, hv => by simp only [likeK] at h; cases h; simp only [VR]
  | .iface _ _, v, v', h, m, c, hv => by simp only [likeK] at h; cases h; simp only [VR]
  | .nili, v, v', h, m, c, hv => by simp only [likeK] at h; cases h; simp only [VR]
  | .tuple _, v, v', h, m, c, hv => by simp only [likeK] at h; cases h; simp only [VR]
theorem likesL : ∀ (t vs : List V) {vs' : List V} (_ : likesK t vs some = some vs') {m : Mem} {cs : List Value} (_ : VRl vs m cs), VRl vs' m cs
  | [], vs, vs', h, m, cs, hv => by
    simp only [likesK] at h
    obtain ⟨_, h1, h2⟩ := bind_some2 h
    cases h2
    cases vs with
    | nil => exact hv
    | cons _ _ => cases h1
  | t :: l, vs, vs', h, m, cs, hv => by
    simp only [likesK] at h
    obtain ⟨p, h1, h2⟩ := bind_some2 h
    rw [likeK_bind] at h2
    obtain ⟨v', h3, h4⟩ := bind_some2 h2
    rw [likesK_bind] at h4
    obtain ⟨l', h5, h6⟩ := bind_some2 h4
    cases h6
    cases vs with
    | nil => cases h1
    | cons u us =>
      cases h1
      simp only [VRl] at hv ⊢
      obtain ⟨c, cs', e, ⟨k1, k2⟩, k3⟩ := hv
      exact ⟨c, cs', e, ⟨likeV t _ h3 k1, k2⟩, likesL l _ h5 k3⟩
theorem likesS : ∀ (t vs : List V) {vs' : List V} (_ : likesK t vs some = some vs') {m : Mem} {cs : List Value} (_ : VRs vs m cs), VRs vs' m cs
  | [], vs, vs', h, m, cs, hv => by
    simp only [likesK] at h
    obtain ⟨_, h1, h2⟩ := bind_some2 h
    cases h2
    cases vs with
    | nil => exact hv
    | cons _ _ => cases h1
  | t :: l, vs, vs', h, m, cs, hv => by
    simp only [likesK] at h
    obtain ⟨p, h1, h2⟩ := bind_some2 h
    rw [likeK_bind] at h2
    obtain ⟨v', h3, h4⟩ := bind_some2 h2
    rw [likesK_bind] at h4
    obtain ⟨l', h5, h6⟩ := bind_some2 h4
    cases h6
    cases vs with
    | nil => cases h1
    | cons u us =>
      cases h1
      simp only [VRs] at hv ⊢
      obtain ⟨c, cs', e, k1, k3⟩ := hv
      exact ⟨c, cs', e, likeV t _ h3 k1, likesS l _ h5 k3⟩
end

theorem TR.any (i : Nat) (c : Value) : TR w g act i .undef c := TR.of_VR (by simp only [Ab.VR])

theorem likeT {t v v' : V} (h : likeK t v some = some v') {i : Nat} {c : Value} (hv : TR w g act i v c) : TR w g act i v' c := by
  by_cases hb : ∃ cs, v = .box cs
  · obtain ⟨cs, rfl⟩ := hb
    cases t <;> simp only [likeK] at h <;> first
      | (cases h; exact TR.any _ _)
      | (obtain ⟨x, h1, _⟩ := bind_some2 h; simp only [asInt, asBool, asStr, asRows, asCells, asFn, asArr, asPtr, asAdr, reduceCtorEq] at h1; done)
      | skip
    obtain ⟨x, h1, h2⟩ := bind_some2 h
    cases h1
    rw [likesK_bind] at h2
    obtain ⟨cs', h3, h4⟩ := bind_some2 h2
    cases h4
    obtain ⟨b, ds, e, k1, k2, k3, k4, k5⟩ := hv
    exact ⟨b, ds, e, k1, k2, k3, k4, likesL _ _ h3 k5⟩
  · by_cases ha : ∃ j off, v = .adr j off
    · obtain ⟨j, off, rfl⟩ := ha
      cases t <;> simp only [likeK] at h <;> first
        | (cases h; exact TR.any _ _)
        | (obtain ⟨x, h1, _⟩ := bind_some2 h; simp only [asInt, asBool, asStr, asRows, asCells, asBox, asFn, asArr, asPtr, reduceCtorEq] at h1; done)
        | skip
      obtain ⟨x, h1, h2⟩ := bind_some2 h
      cases h2
      simp only [asAdr] at h1
      split at h1
      · rename_i hb
        simp only [Bool.and_eq_true] at hb
        rw [Nat.eq_of_beq_eq_true hb.1, Nat.eq_of_beq_eq_true hb.2]
        exact hv
      · cases h1
    · exact TR.of_VR (likeV t v h (hv.VR (fun cs e => hb ⟨cs, e⟩) fun j off e => ha ⟨j, off, e⟩))

theorem likeOb {t o o' : Ob} (h : likeObK t o some = some o') {id : Nat} (ho : OR w g hn id o) : OR w g hn id o' := by
  cases t with
  | cells cs0 =>
    simp only [likeObK] at h
    obtain ⟨cs, h1, h2⟩ := bind_some2 h
    rw [likesK_bind] at h2
    obtain ⟨cs', h3, h4⟩ := bind_some2 h2
    cases h4
    cases o <;> simp only [asObCells, reduceCtorEq] at h1
    cases h1
    obtain ⟨b, ds, e, k1, k2, k3, k4, k5⟩ := ho
    exact ⟨b, ds, e, k1, k2, k3, k4, likesL _ _ h3 k5⟩
  | arr wr sz rows0 =>
    simp only [likeObK] at h
    obtain ⟨rows, h1, h2⟩ := bind_some2 h
    cases h2
    cases o <;> simp only [asObArr, reduceCtorEq] at h1
    split at h1
    · rename_i hb
      simp only [Bool.and_eq_true] at hb
      cases h1
      rw [eq_of_beq hb.1, Nat.eq_of_beq_eq_true hb.2]
      exact ho
    · cases h1
  | loop l0 =>
    simp only [likeObK] at h
    obtain ⟨l, h1, h2⟩ := bind_some2 h
    cases h2
    cases o <;> simp only [asLoop, reduceCtorEq] at h1
    cases h1
    exact ho
  | dead => cases h; trivial

theorem heap_get : ∀ (t h : List Ob) {h' : List Ob} (_ : heapK t h some = some h'), h'.length = t.length ∧ h'.length ≤ h.length ∧ ∀ (i : Nat) (o' : Ob), h'[i]? = some o' → ∃ o, h[i]? = some o ∧ ∀ (w : World) (g : Gh) (hn id : Nat), OR w g hn id o → OR w g hn id o' := by
  intro t
  induction t with
  | nil =>
    intro h h' e
    simp only [heapK] at e
    cases e
    exact ⟨rfl, Nat.zero_le _, fun i o' ho => by simp at ho⟩
  | cons x t ih =>
    intro h h' e
    simp only [heapK] at e
    obtain ⟨p, h1, h2⟩ := bind_some2 e
    rw [likeObK_bind] at h2
    obtain ⟨o1, h3, h4⟩ := bind_some2 h2
    rw [heapK_bind] at h4
    obtain ⟨h5, h6, h7⟩ := bind_some2 h4
    cases h7
    cases h with
    | nil => cases h1
    | cons o h =>
      cases h1
      obtain ⟨k1, k0, k2⟩ := ih _ h6
      have k0 : h5.length ≤ h.length := k0
      refine ⟨by simp [k1], by simp only [List.length_cons]; omega, fun i o' ho => ?_⟩
      cases i with
      | zero => simp at ho; subst ho; exact ⟨o, rfl, fun _ _ _ _ hor => likeOb h3 hor⟩
      | succ i => simp at ho; obtain ⟨o2, l1, l2⟩ := k2 i o' ho; exact ⟨o2, by simpa using l1, l2⟩

/-- Others' shapes over a state's first objects, which alone are kept. -/
theorem SR.heap (h : SR act hn s a w g) {t h' : List Ob} (e : heapK t s.h some = some h') (hb : belowObs h'.length h' = true)
    (hs : ∀ (i : Nat) (v : V) (c : Value), s.t[i]? = some v → a.tmps[i]? = some c → TR w (g.cut h'.length) act i v c) : SR act hn ⟨s.t, h'⟩ a w (g.cut h'.length) := by
  obtain ⟨_, k1, k2⟩ := heap_get _ _ e
  refine { wf := ⟨h.wf.new, h.wf.inj, h.wf.nx⟩, size := h.size, tmp := fun i v hv => ?_, jl := ?_, obj := fun id ob ho => ?_, dfr := h.dfr, an := h.an, hm := h.hm }
  · obtain ⟨c, hc, _⟩ := h.tmp i v hv
    exact ⟨c, hc, hs i v c hv hc⟩
  · have h0 : h'.length ≤ s.h.length := k1
    simp [Gh.cut, h.jl, h0]
  · obtain ⟨o, l1, l2⟩ := k2 id ob ho
    have hid := (List.getElem?_eq_some_iff.1 ho).1
    exact (l2 _ _ _ _ (h.obj id o l1)).cut hid fun cs hc => by subst hc; exact belowObs_get hb ho
theorem Gh.cut_all (h : SR act hn s a w g) : g.cut s.h.length = g := by
  rw [← h.jl]; simp [Gh.cut]
theorem SR.heapSame (h : SR act hn s a w g) {t h' : List Ob} (e : heapK t s.h some = some h') (hl : t.length = s.h.length) : SR act hn ⟨s.t, h'⟩ a w g := by
  obtain ⟨k0, _, k2⟩ := heap_get _ _ e
  refine { h with jl := by rw [k0, hl]; exact h.jl, obj := fun id ob ho => ?_ }
  obtain ⟨o, l1, l2⟩ := k2 id ob ho
  exact l2 _ _ _ _ (h.obj id o l1)

theorem slots_get {ts : List V} : ∀ (l : List V) (i : Nat) {l' : List V} (_ : slotsK ts l i some = some l'), l'.length = l.length ∧ ∀ (j : Nat) (v' : V), l'[j]? = some v' → v' = .undef ∨ ∃ t, likeK t (nth ts (i + j)) some = some v' := by
  intro l
  induction l with
  | nil => intro i l' e; cases e; exact ⟨rfl, fun j v' hv => by simp at hv⟩
  | cons t l ih =>
    intro i l' e
    simp only [slotsK] at e
    split at e
    · rw [slotsK_bind] at e
      obtain ⟨l2, h1, h2⟩ := bind_some2 e
      cases h2
      obtain ⟨k1, k2⟩ := ih _ h1
      refine ⟨by simp [k1], fun j v' hv => ?_⟩
      cases j with
      | zero => simp at hv; exact .inl hv.symm
      | succ j => simp at hv; have := k2 j v' hv; rwa [show i + 1 + j = i + (j + 1) by omega] at this
    · rw [likeK_bind] at e
      obtain ⟨v, h0, e⟩ := bind_some2 e
      rw [slotsK_bind] at e
      obtain ⟨l2, h1, h2⟩ := bind_some2 e
      cases h2
      obtain ⟨k1, k2⟩ := ih _ h1
      refine ⟨by simp [k1], fun j v' hv => ?_⟩
      cases j with
      | zero => simp at hv; subst hv; exact .inr ⟨t, h0⟩
      | succ j => simp at hv; have := k2 j v' hv; rwa [show i + 1 + j = i + (j + 1) by omega] at this

/-- A state of another's shape. -/
theorem SR.like (h : SR act hn s a w g) (hl : s0.t.length = s.t.length) (hh0 : s0.h.length = s.h.length) (e : likeSt s0 s some = some s') : SR act hn s' a w g := by
  unfold likeSt at e
  rw [slotsK_bind] at e
  obtain ⟨t, h1, h2⟩ := bind_some2 e
  rw [heapK_bind] at h2
  obtain ⟨hh, h3, h4⟩ := bind_some2 h2
  cases h4
  obtain ⟨k1, k2⟩ := slots_get _ _ h1
  have h5 := h.heapSame h3 hh0
  refine { h5 with size := by show t.length = _; rw [k1, hl]; exact h.size, tmp := fun i v' hv => ?_ }
  have hv' : t[i]? = some v' := hv
  have hil := (List.getElem?_eq_some_iff.1 hv').1
  have hil2 : i < s.t.length := by omega
  obtain ⟨c, hc, ht⟩ := h.tmp i s.t[i] (List.getElem?_eq_getElem hil2)
  refine ⟨c, hc, ?_⟩
  rcases k2 i v' hv' with rfl | ⟨t0, h6⟩
  · exact TR.any _ _
  · rw [Nat.zero_add, nth_get, List.getElem?_eq_getElem hil2] at h6
    exact likeT h6 ht

end Go.Ab
