/- What an operation of a drawn region does hangs on what it looks at; conditions: none. -/
import Derived.Test.YtbfecmgiffkooaaAb14
namespace Go.Ab
set_option linter.unusedVariables false
set_option linter.unusedSimpArgs false
variable {G : Cfg} {C : CallT} {f : FuncId} {s s' s2 : St} {o : Oper}

/-- Two states agree where o looks. -/
structure AgreeV (o : Oper) (s s2 : St) : Prop where
  h : s2.h = s.h
  ev : ∀ x ∈ o.op.operands.toList, getV s2 x = getV s x
  bx : ∀ x ∈ o.op.operands.toList, ∀ j off cs, getV s x = .adr j off → nth s.t j = .box cs → nth s2.t j = .box cs

def Prov (o : Oper) (s : St) (v : V) : Prop := ∃ j off, v = .adr j off ∧ (Operand.tmp j ∈ o.op.operands.toList ∨ ∃ x ∈ o.op.operands.toList, ∃ off', getV s x = .adr j off')

def Loc (G : Cfg) (C : CallT) (f : FuncId) (o : Oper) (s s' : St) : Prop :=
  ∃ v, s' = s.put o.dst v ∧ (plain v = true ∨ Prov o s v) ∧ ∀ s2, AgreeV o s s2 → stepD G C f true o s2 = some (s2.put o.dst v)

theorem view_plain (v : V) : plain (view v) = true := by cases v <;> rfl

theorem loc_move {x : Operand} (ho : o.op = .move x) (hd : stepD G C f true o s = some s') : Loc G C f o s s' := by
  unfold stepD stepK at hd
  simp only [ho] at hd
  cases hd
  refine ⟨_, rfl, .inl (view_plain _), fun s2 h2 => ?_⟩
  have e := h2.ev x (by simp [ho, Op.operands])
  unfold stepD stepK
  simp only [ho, e]
theorem loc_assign {x : Operand} (ho : o.op = .assign x) (hd : stepD G C f true o s = some s') : Loc G C f o s s' := by
  unfold stepD stepK at hd
  simp only [ho] at hd
  split at hd
  · rename_i d hdst
    split at hd
    · cases hd
    · cases hd
    · rename_i h1 h2
      cases hd
      refine ⟨_, rfl, .inl (view_plain _), fun s2 ha => ?_⟩
      have e := ha.ev x (by simp [ho, Op.operands])
      unfold stepD stepK
      simp only [ho, hdst, e]
  · rename_i hdst
    cases hd
    refine ⟨.undef, by rw [hdst]; rfl, .inl rfl, fun s2 ha => ?_⟩
    unfold stepD stepK
    simp only [ho, hdst]
    rfl
theorem loc_pick {c x y : Operand} (ho : o.op = .pick c x y) (hd : stepD G C f true o s = some s') : Loc G C f o s s' := by
  unfold stepD stepK at hd
  simp only [ho] at hd
  split at hd
  · rename_i q hq
    cases q <;> simp only [cond_true, cond_false] at hd <;> cases hd <;> (
      refine ⟨_, rfl, .inl (view_plain _), fun s2 h2 => ?_⟩
      have e1 := h2.ev c (by simp [ho, Op.operands])
      have e2 := h2.ev x (by simp [ho, Op.operands])
      have e3 := h2.ev y (by simp [ho, Op.operands])
      unfold stepD stepK
      simp only [ho, e1, e2, e3, hq, cond_true, cond_false])
  · cases hd

theorem fix1_noArr {h : List Ob} {v : V} (hv : ∀ i l z, v ≠ .arr i l z) : fix1 h v = h := by
  unfold fix1
  split
  · exact absurd rfl (hv _ _ _)
  · rfl
theorem fixs_noArr {h : List Ob} (l : List V) (hl : ∀ v ∈ l, ∀ i n z, v ≠ .arr i n z) : fixs h l = h := by
  induction l with
  | nil => rfl
  | cons v l ih =>
    simp only [fixs]
    rw [fix1_noArr (hl v (by simp)), ih fun u hu => hl u (by simp [hu])]
theorem fixV_noArr {h : List Ob} {v : V} (hv : hasArr v = false) : fixV h v = h := by
  unfold fixV
  split
  · rename_i cs
    refine fixs_noArr cs fun u hu i n z e => ?_
    subst e
    simp only [hasArr, List.any_eq_false] at hv
    exact absurd (hv _ hu) (by simp)
  · refine fix1_noArr fun i n z e => ?_
    subst e; cases hv
theorem fixArgs_noArr {h : List Ob} (l : List V) (hl : l.any hasArr = false) : fixArgs h l = h := by
  induction l with
  | nil => rfl
  | cons v l ih =>
    simp only [List.any_cons, Bool.or_eq_false_iff] at hl
    simp only [fixArgs]
    rw [fixV_noArr hl.1, ih hl.2]

theorem fillV_agree {place : Nat → Option (Nat × Nat)} : ∀ (parts : List (Nat × Operand)) (cs : List V), (∀ p ∈ parts, getV s2 p.2 = getV s p.2) → fillV s2 place parts cs = fillV s place parts cs := by
  intro parts
  induction parts with
  | nil => intro cs _; rfl
  | cons p parts ih =>
    intro cs h
    obtain ⟨i, x⟩ := p
    have e : getV s2 x = getV s x := h (i, x) (by simp)
    simp only [fillV, e]
    split
    · split
      · exact ih _ fun p hp => h p (by simp [hp])
      · rfl
    · rfl

theorem put_self (d : Option Nat) (v : V) : (⟨(s.put d v).t, s.h⟩ : St) = s.put d v := by cases d <;> rfl

theorem loc_build {t : TypeId} {parts : Array (Nat × Operand)} (ho : o.op = .build t parts) (hd : stepD G C f true o s = some s') : Loc G C f o s s' := by
  unfold stepD stepK at hd
  simp only [ho] at hd
  have main : ∀ (place : Nat → Option (Nat × Nat)) (z : List V), ((fillV s place parts.toList z).bind fun cs => ifK (!true || !hasArr (.agg cs)) <| normK s.h (.agg cs) fun v => some (⟨(s.put o.dst v).t, fixV s.h (.agg cs)⟩ : St)) = some s' →
      ∃ v, s' = s.put o.dst v ∧ (plain v = true ∨ Prov o s v) ∧ ∀ s2, AgreeV o s s2 → ((fillV s2 place parts.toList z).bind fun cs => ifK (!true || !hasArr (.agg cs)) <| normK s2.h (.agg cs) fun v => some (⟨(s2.put o.dst v).t, fixV s2.h (.agg cs)⟩ : St)) = some (s2.put o.dst v) := by
    intro place z hd
    obtain ⟨cs, hf, hd⟩ := bind_some2 hd
    obtain ⟨hb, hd⟩ := ifK_some hd
    rw [normK_bind] at hd
    obtain ⟨v, hk, hd⟩ := bind_some2 hd
    have hna : hasArr (.agg cs) = false := by simpa using hb
    rw [fixV_noArr hna, put_self] at hd
    cases hd
    refine ⟨v, rfl, .inl ?_, fun s2 h2 => ?_⟩
    · simp only [normK] at hk
      rw [normsK_bind] at hk
      obtain ⟨l, _, hk⟩ := bind_some2 hk
      cases hk; rfl
    · rw [fillV_agree parts.toList z (s := s) fun p hp => h2.ev p.2 (by simp [ho, Op.operands]; exact ⟨p.1, by simpa using hp⟩), hf]
      simp only [Option.bind_some, hna, Bool.not_true, Bool.not_false, Bool.or_true, ifK]
      rw [normK_bind, h2.h, hk]
      simp only [Option.bind_some]
      rw [fixV_noArr hna, ← h2.h, put_self]
  split at hd
  · rename_i z fs hz hu
    split at hd
    · rename_i places hp
      obtain ⟨v, h1, h2, h3⟩ := main _ _ hd
      refine ⟨v, h1, h2, fun s2 ha => ?_⟩
      unfold stepD stepK
      simp only [ho, hz, hu, hp]
      exact h3 s2 ha
    · cases hd
  · rename_i z _ e hz hu
    split at hd
    · rename_i ie hie
      obtain ⟨v, h1, h2, h3⟩ := main _ _ hd
      refine ⟨v, h1, h2, fun s2 ha => ?_⟩
      unfold stepD stepK
      simp only [ho, hz, hu, hie]
      exact h3 s2 ha
    · cases hd
  · cases hd
theorem loc_buildSlice {t : TypeId} {len : Nat} {parts : Array (Nat × Operand)} (ho : o.op = .buildSlice t len parts) (hd : stepD G C f true o s = some s') : Loc G C f o s s' := by
  unfold stepD stepK at hd
  simp only [ho] at hd
  split at hd
  · rename_i e m _ hs
    split at hd
    · rename_i z hz
      obtain ⟨hb, hd⟩ := ifK_some hd
      obtain ⟨cs, hf, hd⟩ := bind_some2 hd
      obtain ⟨hb2, hd⟩ := ifK_some hd
      rw [normK_bind] at hd
      obtain ⟨v, hk, hd⟩ := bind_some2 hd
      have hna : hasArr (.agg cs) = false := by simpa using hb2
      rw [fixV_noArr hna, put_self] at hd
      cases hd
      refine ⟨_, rfl, .inl rfl, fun s2 h2 => ?_⟩
      unfold stepD stepK
      simp only [ho, hs, hz]
      rw [hb, fillV_agree parts.toList _ (s := s) fun p hp => h2.ev p.2 (by simp [ho, Op.operands]; exact ⟨p.1, by simpa using hp⟩), hf]
      simp only [Option.bind_some, hna, Bool.not_true, Bool.not_false, Bool.or_true, ifK]
      rw [normK_bind, h2.h, hk]
      simp only [Option.bind_some]
      rw [fixV_noArr hna, ← h2.h, put_self]
    · cases hd
  · cases hd

theorem loadK_agree {a : V} {ag : Bool} {n : Nat} {sh : List Sh} {v : V} (hl : loadK s a ag n sh some = some v) (hh : s2.h = s.h) (hb : ∀ j off cs, a = .adr j off → nth s.t j = .box cs → nth s2.t j = .box cs) : loadK s2 a ag n sh some = some v := by
  unfold loadK at hl ⊢
  split at hl
  · exact hl
  · split at hl
    · rename_i cs hj
      rw [hb _ _ _ rfl hj]
      exact hl
    · cases hl
  · exact hl
  · rw [hh]; exact hl
  · rw [hh]; exact hl
  · cases hl
theorem loc_load {t : TypeId} {x : Operand} (ho : o.op = .load t x) (hd : stepD G C f true o s = some s') : Loc G C f o s s' := by
  unfold stepD stepK at hd
  simp only [ho] at hd
  split at hd
  · rename_i ag m ht
    rw [loadK_bind] at hd
    obtain ⟨v, hl, hd⟩ := bind_some2 hd
    cases hd
    refine ⟨_, rfl, .inl (view_plain _), fun s2 h2 => ?_⟩
    have e := h2.ev x (by simp [ho, Op.operands])
    unfold stepD stepK
    simp only [ho, ht]
    rw [loadK_bind, e, loadK_agree hl h2.h (h2.bx x (by simp [ho, Op.operands]))]
    rfl
  · cases hd
theorem loc_nilCheck {x : Operand} (ho : o.op = .nilCheck x) (hd : stepD G C f true o s = some s') : Loc G C f o s s' := by
  unfold stepD stepK at hd
  simp only [ho] at hd
  have hx : x ∈ o.op.operands.toList := by simp [ho, Op.operands]
  split at hd <;> first
    | (cases hd; done)
    | skip
  all_goals (
    rename_i hv
    cases hd
    refine ⟨_, rfl, ?_, fun s2 h2 => ?_⟩
    · first
        | exact .inl rfl
        | exact .inr ⟨_, _, rfl, .inl hx⟩
        | exact .inr ⟨_, _, rfl, .inr ⟨_, hx, _, hv⟩⟩
    · have e := h2.ev _ hx
      unfold stepD stepK
      simp only [ho, e, hv])
theorem loc_fieldAddr {t : TypeId} {x : Operand} {fd : Nat} (ho : o.op = .fieldAddr t x fd) (hd : stepD G C f true o s = some s') : Loc G C f o s s' := by
  unfold stepD stepK at hd
  simp only [ho] at hd
  have hx : x ∈ o.op.operands.toList := by simp [ho, Op.operands]
  split at hd
  · rename_i off ft hf
    split at hd
    · rename_i ag m ht
      obtain ⟨hm, hd⟩ := ifK_some hd
      split at hd <;> first
        | (cases hd; done)
        | skip
      all_goals (
        rename_i hv
        cases hd
        refine ⟨_, rfl, ?_, fun s2 h2 => ?_⟩
        · first
            | exact .inl rfl
            | exact .inr ⟨_, _, rfl, .inl hx⟩
            | exact .inr ⟨_, _, rfl, .inr ⟨_, hx, _, hv⟩⟩
        · have e := h2.ev _ hx
          unfold stepD stepK
          simp only [ho, hf, ht, hm, ifK, e, hv])
    · cases hd
  · cases hd

theorem arith_plain {op : BinOp} {k : IntKind} {i j : Int} {v : V} (h : arith op k i j = some v) : plain v = true := by
  unfold arith at h
  split at h <;> first
    | (cases h; done)
    | (cases h; rfl)
theorem loc_binOp {op : BinOp} {t t' : TypeId} {x y : Operand} (ho : o.op = .binOp op t x y t') (hd : stepD G C f true o s = some s') : Loc G C f o s s' := by
  have same : ∀ s2, AgreeV o s s2 → ∀ v, stepD G C f true o s = some (s.put o.dst v) → (∀ u, s.put o.dst u = s.put o.dst v → u = v) → True := fun _ _ _ _ _ => trivial
  have hx : x ∈ o.op.operands.toList := by simp [ho, Op.operands]
  have hy : y ∈ o.op.operands.toList := by simp [ho, Op.operands]
  unfold stepD stepK at hd
  simp only [ho] at hd
  split at hd
  · rename_i k1 i k2 j hvx hvy
    split at hd
    · obtain ⟨hk, hd⟩ := ifK_some hd
      obtain ⟨hj, hd⟩ := cond_some' hd
      cases hd
      refine ⟨_, rfl, .inl rfl, fun s2 h2 => ?_⟩
      unfold stepD stepK
      simp only [ho, h2.ev _ hx, h2.ev _ hy, hvx, hvy, hk, hj, ifK, cond_false]
    · obtain ⟨hk, hd⟩ := ifK_some hd
      obtain ⟨hj, hd⟩ := cond_some' hd
      cases hd
      refine ⟨_, rfl, .inl rfl, fun s2 h2 => ?_⟩
      unfold stepD stepK
      simp only [ho, h2.ev _ hx, h2.ev _ hy, hvx, hvy, hk, hj, ifK, cond_false]
    · obtain ⟨hj, hd⟩ := cond_some' hd
      cases hd
      refine ⟨_, rfl, .inl rfl, fun s2 h2 => ?_⟩
      unfold stepD stepK
      simp only [ho, h2.ev _ hx, h2.ev _ hy, hvx, hvy, hj, cond_false]
    · obtain ⟨hj, hd⟩ := cond_some' hd
      cases hd
      refine ⟨_, rfl, .inl rfl, fun s2 h2 => ?_⟩
      unfold stepD stepK
      simp only [ho, h2.ev _ hx, h2.ev _ hy, hvx, hvy, hj, cond_false]
    · rename_i n1 n2 n3 n4
      obtain ⟨hk, hd⟩ := ifK_some hd
      obtain ⟨v, hv, hd⟩ := bind_some2 hd
      cases hd
      refine ⟨_, rfl, .inl (arith_plain hv), fun s2 h2 => ?_⟩
      unfold stepD stepK
      simp only [ho, h2.ev _ hx, h2.ev _ hy, hvx, hvy]
      simp only [hk, hv, ifK, Option.bind_some]
  · rename_i p q hvx hvy
    split at hd
    · rename_i ht
      cases hd
      refine ⟨_, rfl, .inl rfl, fun s2 h2 => ?_⟩
      unfold stepD stepK
      simp only [ho, h2.ev _ hx, h2.ev _ hy, hvx, hvy, ht]
    · rename_i ht
      cases hd
      refine ⟨_, rfl, .inl rfl, fun s2 h2 => ?_⟩
      unfold stepD stepK
      simp only [ho, h2.ev _ hx, h2.ev _ hy, hvx, hvy, ht]
    · cases hd
  · rename_i xs ys hvx hvy
    obtain ⟨hb, hd⟩ := ifK_some hd
    split at hd
    · obtain ⟨b, hb2, hd⟩ := bind_some2 hd
      cases hd
      refine ⟨_, rfl, .inl rfl, fun s2 h2 => ?_⟩
      unfold stepD stepK
      simp only [ho, h2.ev _ hx, h2.ev _ hy, hvx, hvy, hb2, Option.bind_some]
      rw [hb]; rfl
    · obtain ⟨b, hb2, hd⟩ := bind_some2 hd
      cases hd
      refine ⟨_, rfl, .inl rfl, fun s2 h2 => ?_⟩
      unfold stepD stepK
      simp only [ho, h2.ev _ hx, h2.ev _ hy, hvx, hvy, hb2, Option.bind_some]
      rw [hb]; rfl
    · cases hd
  · cases hd
theorem loc_unOp {op : UnOp} {t : TypeId} {x : Operand} (ho : o.op = .unOp op t x) (hd : stepD G C f true o s = some s') : Loc G C f o s s' := by
  have hx : x ∈ o.op.operands.toList := by simp [ho, Op.operands]
  unfold stepD stepK at hd
  simp only [ho] at hd
  split at hd <;> first
    | (cases hd; done)
    | skip
  all_goals (
    rename_i hv
    cases hd
    refine ⟨_, rfl, .inl rfl, fun s2 h2 => ?_⟩
    unfold stepD stepK
    simp only [ho, h2.ev _ hx, hv])
theorem loc_convert {t t' : TypeId} {x : Operand} (ho : o.op = .convert t t' x) (hd : stepD G C f true o s = some s') : Loc G C f o s s' := by
  have hx : x ∈ o.op.operands.toList := by simp [ho, Op.operands]
  unfold stepD stepK at hd
  simp only [ho] at hd
  split at hd
  · rename_i h1 h2 hv
    cases hd
    refine ⟨_, rfl, .inl rfl, fun s2 ha => ?_⟩
    unfold stepD stepK
    simp only [ho, ha.ev _ hx, hv, h1, h2]
  · cases hd
theorem loc_index {t : TypeId} {x ix : Operand} (ho : o.op = .index t x ix) (hd : stepD G C f true o s = some s') : Loc G C f o s s' := by
  have hx : x ∈ o.op.operands.toList := by simp [ho, Op.operands]
  have hi : ix ∈ o.op.operands.toList := by simp [ho, Op.operands]
  unfold stepD stepK at hd
  simp only [ho] at hd
  split at hd
  · rename_i b k i hu hv hw
    obtain ⟨m, hm, hd⟩ := bind_some2 hd
    cases hd
    refine ⟨_, rfl, .inl rfl, fun s2 ha => ?_⟩
    unfold stepD stepK
    simp only [ho, ha.ev _ hx, ha.ev _ hi, hv, hw, hu, hm, Option.bind_some]
  · cases hd
theorem loc_makeFunc {q : Fn} {fi ca : Array Operand} (ho : o.op = .makeFunc q fi ca) (hd : stepD G C f true o s = some s') : Loc G C f o s s' := by
  unfold stepD stepK at hd
  simp only [ho] at hd
  split at hd <;> rename_i heq <;> first
    | (cases heq; done)
    | (cases hd; done)
    | skip
  cases heq
  cases hd
  refine ⟨_, rfl, .inl rfl, fun s2 ha => ?_⟩
  have e : ∀ l : List Operand, (∀ x ∈ l, x ∈ o.op.operands.toList) → (l.map fun x => view (getV s2 x)) = l.map fun x => view (getV s x) := fun l hl => List.map_congr_left fun x hx => by rw [ha.ev x (hl x hx)]
  unfold stepD stepK
  simp only [ho]
  rw [e fi.toList (fun x hx => by simp [ho, Op.operands]; exact .inl (by simpa using hx)), e ca.toList (fun x hx => by simp [ho, Op.operands]; exact .inr (by simpa using hx))]
theorem loc_field {t : TypeId} {x : Operand} {fd : Nat} (ho : o.op = .field t x fd) (hd : stepD G C f true o s = some s') : Loc G C f o s s' := by
  have hx : x ∈ o.op.operands.toList := by simp [ho, Op.operands]
  unfold stepD stepK at hd
  simp only [ho] at hd
  split at hd
  · rename_i off ft cs hf hv
    split at hd
    · rename_i ag m ht
      obtain ⟨v, hp, hd⟩ := bind_some2 hd
      cases hd
      refine ⟨_, rfl, .inl (view_plain _), fun s2 ha => ?_⟩
      unfold stepD stepK
      simp only [ho, hf, ha.ev _ hx, hv, ht, hp, Option.bind_some]
    · cases hd
  · cases hd
theorem loc_indexAddr {t : TypeId} {x ix : Operand} (ho : o.op = .indexAddr t x ix) (hd : stepD G C f true o s = some s') : Loc G C f o s s' := by
  have hx : x ∈ o.op.operands.toList := by simp [ho, Op.operands]
  have hix : ix ∈ o.op.operands.toList := by simp [ho, Op.operands]
  unfold stepD stepK at hd
  simp only [ho] at hd
  split at hd
  · rename_i k i hi
    split at hd
    · rename_i e sz b hs
      obtain ⟨h0, hd⟩ := ifK_some hd
      split at hd
      · rename_i fl rows hv
        obtain ⟨row, hr, hd⟩ := bind_some2 hd
        rw [shsK_bind] at hd
        obtain ⟨row', hr', hd⟩ := bind_some2 hd
        cases hd
        refine ⟨_, rfl, .inl rfl, fun s2 ha => ?_⟩
        unfold stepD stepK
        simp only [ho, ha.ev _ hx, ha.ev _ hix, hi, hs, h0, ifK, hv, hr, Option.bind_some]
        rw [shsK_bind, hr']; rfl
      · rename_i id len sz' hv
        obtain ⟨hsz, hd⟩ := ifK_some hd
        obtain ⟨h1, hd⟩ := cond_some hd
        obtain ⟨h2, hd⟩ := cond_some hd
        cases hd
        refine ⟨_, rfl, .inl rfl, fun s2 ha => ?_⟩
        unfold stepD stepK
        simp only [ho, ha.ev _ hx, ha.ev _ hix, hi, hs, h0, ifK, hv, hsz, h1, h2, cond_true]
      · cases hd
    · cases hd
  · cases hd
theorem loc_slice {t : TypeId} {x : Operand} {lo hi mx : Option Operand} (ho : o.op = .slice t x lo hi mx) (hd : stepD G C f true o s = some s') : Loc G C f o s s' := by
  unfold stepD stepK at hd
  simp only [ho] at hd
  split at hd <;> rename_i heq <;> first
    | (cases heq; done)
    | (cases hd; done)
    | skip
  cases heq
  have hx : x ∈ o.op.operands.toList := by simp [ho, Op.operands]
  split at hd
  · rename_i e sz b fl rows hs hv
    rw [boundK_bind] at hd
    obtain ⟨H, hH, hd⟩ := bind_some2 hd
    rw [boundK_bind] at hd
    obtain ⟨L, hL, hd⟩ := bind_some2 hd
    obtain ⟨hh, hd⟩ := cond_some hd
    cases hd
    refine ⟨_, rfl, .inl rfl, fun s2 ha => ?_⟩
    have eh : hi.map (getV s2) = hi.map (getV s) := by
      cases hi with
      | none => rfl
      | some y => simp only [Option.map_some]; rw [ha.ev y (by simp [ho, Op.operands])]
    have el : lo.map (getV s2) = lo.map (getV s) := by
      cases lo with
      | none => rfl
      | some y => simp only [Option.map_some]; rw [ha.ev y (by simp [ho, Op.operands])]
    unfold stepD stepK
    simp only [ho, hs, ha.ev _ hx, hv, eh, el]
    rw [boundK_bind, hH, Option.bind_some, boundK_bind, hL, Option.bind_some, hh]
    rfl
  · cases hd
theorem loc_extract {x : Operand} {i : Nat} (ho : o.op = .extract x i) (hd : stepD G C f true o s = some s') : Loc G C f o s s' := by
  have hx : x ∈ o.op.operands.toList := by simp [ho, Op.operands]
  unfold stepD stepK at hd
  simp only [ho] at hd
  split at hd
  · rename_i vs hv
    split at hd
    · rename_i v hi
      cases hd
      refine ⟨_, rfl, .inl (view_plain _), fun s2 ha => ?_⟩
      unfold stepD stepK
      simp only [ho, ha.ev _ hx, hv, hi]
    · cases hd
  · cases hd

theorem foldV_plain {F : V → V → Option V} (hF : ∀ x y z, F x y = some z → plain z = true) : ∀ (l : List V) (x v : V), foldV F x l = some v → plain x = true → plain v = true := by
  intro l
  induction l with
  | nil => intro x v h hx; cases h; exact hx
  | cons y l ih =>
    intro x v h hx
    simp only [foldV] at h
    split at h
    · rename_i u hu; exact ih u v h (hF _ _ _ hu)
    · cases h
theorem min2_plain (x y z : V) (h : min2 x y = some z) : plain z = true := by
  unfold min2 at h
  split at h
  · split at h
    · cases h; rfl
    · cases h
  · cases h
theorem max2_plain (x y z : V) (h : max2 x y = some z) : plain z = true := by
  unfold max2 at h
  split at h
  · split at h
    · cases h; rfl
    · cases h
  · cases h

theorem callOps (c : Call) (ho : o.op = .call c) (x : Operand) (hx : x ∈ c.args.toList) : x ∈ o.op.operands.toList := by
  rw [ho]
  simp only [Op.operands, Call.operands]
  cases c.callee <;> simp <;> first
    | exact .inr (by simpa using hx)
    | (simpa using hx)
theorem callFn (c : Call) (ho : o.op = .call c) (x : Operand) (hx : c.callee = .value x) : x ∈ o.op.operands.toList := by
  rw [ho]
  simp [Op.operands, Call.operands, hx]

theorem loc_builtin {c : Call} {b : Builtin} (ho : o.op = .call c) (hc : c.callee = .builtin b) (hd : stepD G C f true o s = some s') : Loc G C f o s s' := by
  have hops := callOps c ho
  have hmap : ∀ s2, AgreeV o s s2 → (c.args.toList.map fun x => view (getV s2 x)) = c.args.toList.map fun x => view (getV s x) := fun s2 ha => List.map_congr_left fun x hx => by rw [ha.ev x (hops x hx)]
  unfold stepD stepK at hd
  simp only [ho, hc] at hd
  split at hd <;> rename_i heq <;> first
    | (cases heq; done)
    | (cases hd; done)
    | skip
  · cases heq
    split at hd
    · rename_i x t hargs htys
      obtain ⟨hk, hd⟩ := ifK_some hd
      obtain ⟨m, hm, hd⟩ := bind_some2 hd
      cases hd
      refine ⟨_, rfl, .inl rfl, fun s2 ha => ?_⟩
      have e := ha.ev x (hops x (by rw [hargs]; simp))
      unfold stepD stepK
      simp only [ho, hc, hargs, htys, e]
      rw [hk, hm]; rfl
    · cases hd
  · cases heq
    split at hd
    · rename_i x l hargs
      obtain ⟨v, hv, hd⟩ := bind_some2 hd
      cases hd
      have hpl : plain x = true := by
        have : x ∈ c.args.toList.map fun x => view (getV s x) := by rw [hargs]; simp
        obtain ⟨y, _, rfl⟩ := List.mem_map.1 this
        exact view_plain _
      refine ⟨_, rfl, .inl (foldV_plain min2_plain _ _ _ hv hpl), fun s2 ha => ?_⟩
      unfold stepD stepK
      simp only [ho, hc]
      rw [hmap s2 ha, hargs]
      simp only [hv, Option.bind_some]
    · cases hd
  · cases heq
    split at hd
    · rename_i x l hargs
      obtain ⟨v, hv, hd⟩ := bind_some2 hd
      cases hd
      have hpl : plain x = true := by
        have : x ∈ c.args.toList.map fun x => view (getV s x) := by rw [hargs]; simp
        obtain ⟨y, _, rfl⟩ := List.mem_map.1 this
        exact view_plain _
      refine ⟨_, rfl, .inl (foldV_plain max2_plain _ _ _ hv hpl), fun s2 ha => ?_⟩
      unfold stepD stepK
      simp only [ho, hc]
      rw [hmap s2 ha, hargs]
      simp only [hv, Option.bind_some]
    · cases hd
  · cases heq
    split at hd
    · split at hd
      · split at hd
        · obtain ⟨hb, hd⟩ := ifK_some hd
          simp at hb
        · cases hd
      · cases hd
    · cases hd
theorem loc_call {c : Call} {fx : Operand} (ho : o.op = .call c) (hc : c.callee = .value fx) (hd : stepD G C f true o s = some s') : Loc G C f o s s' := by
  have hops := callOps c ho
  have hfx := callFn c ho fx hc
  unfold stepD stepK at hd
  simp only [ho, hc] at hd
  split at hd
  · rename_i q first cap hx
    obtain ⟨hcap, hd⟩ := ifK_some hd
    split at hd
    · obtain ⟨hb, hd⟩ := ifK_some hd
      simp at hb
    · rename_i hsw
      obtain ⟨hb, hd⟩ := ifK_some hd
      rw [normArgsK_bind] at hd
      obtain ⟨args', hn', hd⟩ := bind_some2 hd
      obtain ⟨res, hr, hd⟩ := bind_some2 hd
      rw [resultK_bind] at hd
      obtain ⟨v, hv, hd⟩ := bind_some2 hd
      have hna : (first ++ ((c.args.toList.map fun x => view (getV s x)) ++ cap)).any hasArr = false := by simpa using hb
      rw [fixArgs_noArr _ hna, put_self] at hd
      cases hd
      refine ⟨_, rfl, .inl (view_plain _), fun s2 ha => ?_⟩
      have hmap : (c.args.toList.map fun x => view (getV s2 x)) = c.args.toList.map fun x => view (getV s x) := List.map_congr_left fun x hx => by rw [ha.ev x (hops x hx)]
      unfold stepD stepK
      simp only [ho, hc, ha.ev _ hfx, hx, hmap, hsw, hcap, ifK]
      rw [hna]
      simp only [Bool.not_true, Bool.not_false, Bool.or_true]
      rw [normArgsK_bind, ha.h, hn']
      simp only [Option.bind_some, hr]
      rw [resultK_bind, hv]
      simp only [Option.bind_some]
      rw [fixArgs_noArr _ hna, ← ha.h, put_self]
  · cases hd

/-- What gives a value, is known by what it looks at. -/
theorem loc_ok (h1 : ∀ t, o.op ≠ .alloc t) (h2 : ∀ t x, o.op ≠ .box t x) (h3 : ∀ t y x, o.op ≠ .store t y x) (hd : stepD G C f true o s = some s') : Loc G C f o s s' := by
  cases ho : o.op with
  | move x => exact loc_move ho hd
  | assign x => exact loc_assign ho hd
  | pick c x y => exact loc_pick ho hd
  | alloc t => exact absurd ho (h1 t)
  | box t x => exact absurd ho (h2 t x)
  | build t parts => exact loc_build ho hd
  | buildSlice t l parts => exact loc_buildSlice ho hd
  | load t x => exact loc_load ho hd
  | store t y x => exact absurd ho (h3 t y x)
  | nilCheck x => exact loc_nilCheck ho hd
  | binOp op t x y t' => exact loc_binOp ho hd
  | index t x ix => exact loc_index ho hd
  | unOp op t x => exact loc_unOp ho hd
  | convert t t' x => exact loc_convert ho hd
  | makeFunc q fi ca => exact loc_makeFunc ho hd
  | fieldAddr t x fd => exact loc_fieldAddr ho hd
  | field t x fd => exact loc_field ho hd
  | indexAddr t x ix => exact loc_indexAddr ho hd
  | slice t x lo hi mx => exact loc_slice ho hd
  | extract x i => exact loc_extract ho hd
  | call c =>
    cases hc : c.callee with
    | builtin b => exact loc_builtin ho hc hd
    | value fx => exact loc_call ho hc hd
    | invoke _ _ => unfold stepD stepK at hd; simp only [ho, hc] at hd; cases hd
  | _ => unfold stepD stepK at hd; simp only [ho] at hd; cases hd

end Go.Ab
