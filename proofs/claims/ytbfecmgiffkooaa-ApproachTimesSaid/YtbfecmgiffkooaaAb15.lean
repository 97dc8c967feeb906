/- Whatever order a region draws, it comes to the text's; conditions: the check on the region. -/
import Derived.Test.YtbfecmgiffkooaaAb15a
namespace Go.Ab
set_option linter.unusedVariables false
set_option linter.unusedSimpArgs false
variable {G : Cfg} {C : CallT} {f : FuncId} {s s' s1 s2 : St} {o x y : Oper} {all : List Oper}

/-- Operations by their numbers. -/
def opsI (G : Cfg) (C : CallT) (f : FuncId) (dr : Bool) (all : List Oper) : List Nat → St → Option St
  | [], s => some s
  | i :: l, s => match all[i]? with
    | some o => (operD G C f dr all o s).bind (opsI G C f dr all l)
    | none => opsI G C f dr all l s

theorem opsD_opsI (dr : Bool) (all : List Oper) : ∀ (l done : List Oper) (s : St), all = done ++ l → opsD G C f dr all l s = opsI G C f dr all (List.range' done.length l.length) s := by
  intro l
  induction l with
  | nil => intro done s _; rfl
  | cons o l ih =>
    intro done s he
    have h0 : all[done.length]? = some o := by rw [he]; simp
    simp only [List.length_cons, List.range'_succ, opsI, h0, opsD]
    congr 1; funext s'
    rw [ih (done ++ [o]) s' (by rw [he]; simp)]
    simp
theorem opsD_range (dr : Bool) (all : List Oper) (s : St) : opsD G C f dr all all s = opsI G C f dr all (List.range all.length) s := by
  rw [opsD_opsI dr all all [] s rfl, List.range_eq_range']; rfl

/-! Slots. -/
theorem nth_upd_ne {l : List V} {i j : Nat} {v : V} (h : j ≠ i) : nth (upd l i v) j = nth l j := by
  rw [nth_get, nth_get, upd_get, if_neg h]
theorem nth_upd_or (l : List V) (i : Nat) (v : V) : nth (upd l i v) i = v ∨ nth (upd l i v) i = nth l i := by
  rw [nth_get, nth_get, upd_get, if_pos rfl]
  cases l[i]? with
  | none => exact .inr rfl
  | some u => exact .inl rfl
theorem noadr_iff {d : Nat} {t : List V} : noadr d t = true ↔ ∀ k off, nth t k ≠ .adr d off := by
  induction t with
  | nil => simp [noadr, nth]
  | cons v t ih =>
    have key : noadr d (v :: t) = true ↔ (∀ off, v ≠ .adr d off) ∧ noadr d t = true := by
      cases v <;> simp only [noadr] <;> try (simp; done)
      rename_i j off
      simp only [Bool.and_eq_true, Bool.not_eq_true']
      constructor
      · rintro ⟨h1, h2⟩
        exact ⟨fun off' e => by cases e; exact Nat.ne_of_beq_eq_false h1 rfl, h2⟩
      · rintro ⟨h1, h2⟩
        refine ⟨?_, h2⟩
        cases hb : Nat.beq d j with
        | false => rfl
        | true => exact absurd (by rw [Nat.eq_of_beq_eq_true hb]) (h1 off)
    rw [key, ih]
    constructor
    · rintro ⟨h1, h2⟩ k off
      cases k with
      | zero => exact h1 off
      | succ k => exact h2 k off
    · intro h
      exact ⟨fun off => h 0 off, fun k off => h (k + 1) off⟩
theorem killadr_noadr {d : Nat} {t : List V} (h : noadr d t = true) : t.map (killadr d) = t := by
  refine (List.map_congr_left fun v hv => ?_).trans (List.map_id _)
  obtain ⟨k, hk, rfl⟩ := List.mem_iff_getElem.1 hv
  have h1 := noadr_iff.1 h k
  rw [nth_get, List.getElem?_eq_getElem hk] at h1
  simp only [Option.getD_some] at h1
  cases hv2 : t[k] with
  | adr j off =>
    simp only [killadr]
    cases hb : Nat.beq d j with
    | false => rfl
    | true =>
      have := Nat.eq_of_beq_eq_true hb
      subst this
      exact absurd hv2 (h1 off)
  | _ => rfl

/-- Two states agree where an operation looks. -/
structure Agree (all : List Oper) (o : Oper) (s s2 : St) : Prop where
  h : s2.h = s.h
  rd : ∀ k ∈ readsOf all o, nth s2.t k = nth s.t k
  wr : ∀ d, writeOf o = some d → nth s2.t d = nth s.t d
  bx : ∀ k ∈ readsOf all o, ∀ j off cs, nth s.t k = .adr j off → nth s.t j = .box cs → nth s2.t j = .box cs
  na : ∀ d, writeOf o = some d → noadr d s.t = true → noadr d s2.t = true

theorem liftAgg_adr {c : Value} {j off : Nat} (h : liftAgg c = .adr j off) : False := by
  have := VR_liftAgg ⟨fun _ _ => none, fun _ => none, []⟩ c
  rw [h] at this
  simp only [VR] at this

theorem mem_reads {k : Nat} (h : Operand.tmp k ∈ o.op.operands.toList) : k ∈ readsOf all o := by
  unfold readsOf
  refine List.mem_append.2 (.inl (List.mem_flatMap.2 ⟨_, h, by simp [tmpOf]⟩))
theorem Agree.V (h : Agree all o s s2) : AgreeV o s s2 where
  h := h.h
  ev x hx := by
    cases x with
    | tmp k => exact h.rd k (mem_reads hx)
    | _ => rfl
  bx x hx j off cs h1 h2 := by
    cases x with
    | tmp k => exact h.bx k (mem_reads hx) j off cs h1 h2
    | const c => exact (liftAgg_adr h1).elim
    | func f => simp [getV] at h1
    | global f => simp [getV] at h1

/-- What an operation in a drawn region does. -/
structure Eff (G : Cfg) (C : CallT) (f : FuncId) (all : List Oper) (o : Oper) (s s' : St) (d : Option Nat) (v : V) : Prop where
  eq : s' = s.put d v
  wr : d = none ∨ d = writeOf o
  kind : (plainAt s d = true ∧ (isStore o = false ∨ d = none) ∧ (plain v = true ∨ ∃ j off, v = .adr j off ∧ (j ∈ readsOf all o ∨ ∃ k ∈ readsOf all o, ∃ off', nth s.t k = .adr j off'))) ∨
    (∃ e cs, d = some e ∧ v = .box cs ∧ noadr e s.t = true ∧ notAdr (nth s.t e) = true)
  loc : ∀ s2, Agree all o s s2 → operD G C f true all o s2 = some (s2.put d v)

theorem writeOf_plain (h3 : ∀ t y x, o.op ≠ .store t y x) : writeOf o = o.dst := by
  unfold writeOf
  split
  · rename_i h; exact absurd h (h3 _ _ _)
  · rfl
theorem isStore_iff : isStore o = true ↔ ∃ t y x, o.op = .store t y x := by
  unfold isStore
  split
  · rename_i h; exact ⟨fun _ => ⟨_, _, _, h⟩, fun _ => rfl⟩
  · rename_i h; exact ⟨fun e => by (cases e), fun ⟨t, y, x, e⟩ => absurd e (h _ _ _)⟩

/-- The operation, wanted. -/
theorem step_eff (hst : isStore o = true → o.dst = none) (hp : okDr all o s = true) (hd : stepD G C f true o s = some s') :
    (soloAux all all 0 = true ∧ isStore o = true) ∨ ∃ d v, s' = s.put d v ∧ (d = none ∨ d = writeOf o) ∧
      ((plainAt s d = true ∧ (isStore o = false ∨ d = none) ∧ (plain v = true ∨ ∃ j off, v = .adr j off ∧ (j ∈ readsOf all o ∨ ∃ k ∈ readsOf all o, ∃ off', nth s.t k = .adr j off'))) ∨
        (∃ e cs, d = some e ∧ v = .box cs ∧ noadr e s.t = true ∧ notAdr (nth s.t e) = true)) ∧
      ∀ s2, Agree all o s s2 → okDr all o s2 = true ∧ stepD G C f true o s2 = some (s2.put d v) := by
  by_cases h1 : ∃ t, o.op = .alloc t
  · obtain ⟨t, ho⟩ := h1
    right
    unfold stepD stepK at hd
    simp only [ho] at hd
    split at hd
    · rename_i d z hdst hz
      have hw : writeOf o = o.dst := writeOf_plain (by simp [ho])
      simp only [okDr, ho, hdst, Bool.and_eq_true] at hp
      split at hd
      · rename_i hl
        rw [killadr_noadr hp.1] at hd
        cases hd
        refine ⟨some d, .box z, rfl, .inr (by rw [hw, hdst]), .inr ⟨d, z, rfl, rfl, hp.1, hp.2⟩, fun s2 ha => ?_⟩
        have hn2 := ha.na d (by rw [hw, hdst]) hp.1
        refine ⟨by simp only [okDr, ho, hdst, Bool.and_eq_true]; exact ⟨hn2, by rw [ha.wr d (by rw [hw, hdst])]; exact hp.2⟩, ?_⟩
        unfold stepD stepK
        simp only [ho, hdst, hz, hl]
        rw [killadr_noadr hn2]
        rfl
      · obtain ⟨hb, _⟩ := ifK_some hd
        cases hb
    · cases hd
  · by_cases h2 : ∃ t x, o.op = .box t x
    · obtain ⟨t, x, ho⟩ := h2
      right
      unfold stepD stepK at hd
      simp only [ho] at hd
      split at hd
      · rename_i d hdst
        have hw : writeOf o = o.dst := writeOf_plain (by simp [ho])
        simp only [okDr, ho, hdst, Bool.and_eq_true] at hp
        obtain ⟨hne, hd⟩ := ifK_some hd
        split at hd
        · rename_i hl
          rw [killadr_noadr hp.1] at hd
          cases hd
          refine ⟨some d, _, rfl, .inr (by rw [hw, hdst]), .inr ⟨d, _, rfl, rfl, hp.1, hp.2⟩, fun s2 ha => ?_⟩
          have hn2 := ha.na d (by rw [hw, hdst]) hp.1
          refine ⟨by simp only [okDr, ho, hdst, Bool.and_eq_true]; exact ⟨hn2, by rw [ha.wr d (by rw [hw, hdst])]; exact hp.2⟩, ?_⟩
          have e := ha.V.ev x (by simp [ho, Op.operands])
          unfold stepD stepK
          simp only [ho, hdst, hl, e, hne, ifK]
          rw [killadr_noadr hn2]
          rfl
        · obtain ⟨hb, _⟩ := ifK_some hd
          cases hb
      · cases hd
    · by_cases h3 : ∃ t y x, o.op = .store t y x
      · obtain ⟨t, y, x, ho⟩ := h3
        have hdn := hst (isStore_iff.2 ⟨t, y, x, ho⟩)
        unfold stepD stepK at hd
        simp only [ho, hdn] at hd
        split at hd
        · rename_i ag m i ht _
          obtain ⟨hb, hd⟩ := ifK_some hd
          have hw : writeOf o = some i := by simp [writeOf, ho]
          have hi : i ∈ readsOf all o := mem_reads (by simp [ho, Op.operands])
          by_cases hbox : ∃ cs, nth s.t i = .box cs
          · obtain ⟨cs, hcs⟩ := hbox
            right
            simp only [okDr, ho, hcs] at hp
            rw [hcs] at hd
            simp only [storeK] at hd
            obtain ⟨hf, hd⟩ := ifK_some hd
            cases hd
            refine ⟨some i, _, rfl, .inr hw.symm, .inr ⟨i, _, rfl, rfl, hp, by rw [hcs]; rfl⟩, fun s2 ha => ?_⟩
            have hcs2 : nth s2.t i = .box cs := by rw [ha.rd i hi, hcs]
            refine ⟨by simp only [okDr, ho, hcs2]; exact ha.na i hw hp, ?_⟩
            have e := ha.V.ev x (by simp [ho, Op.operands])
            unfold stepD stepK
            simp only [ho, hdn, ht, e, hb, hcs2, storeK, hf, ifK]
            rfl
          · left
            refine ⟨?_, isStore_iff.2 ⟨_, _, _, ho⟩⟩
            simp only [okDr, ho] at hp
            split at hp
            · rename_i cs hcs; exact absurd ⟨cs, hcs⟩ hbox
            · exact hp
        · cases hd
      · right
        have n1 : ∀ t, o.op ≠ .alloc t := fun t e => h1 ⟨t, e⟩
        have n2 : ∀ t x, o.op ≠ .box t x := fun t x e => h2 ⟨t, x, e⟩
        have n3 : ∀ t y x, o.op ≠ .store t y x := fun t y x e => h3 ⟨t, y, x, e⟩
        have hok : ∀ s, okDr all o s = plainAt s o.dst := by
          intro s
          unfold okDr
          split
          · rename_i h; exact absurd h (n1 _)
          · rename_i h; exact absurd h (n2 _ _)
          · rename_i h; exact absurd h (n3 _ _ _)
          · rfl
        obtain ⟨v, e1, e2, e3⟩ := loc_ok n1 n2 n3 hd
        have hw := writeOf_plain n3
        rw [hok] at hp
        refine ⟨o.dst, v, e1, .inr hw.symm, .inl ⟨hp, .inl ?_, ?_⟩, fun s2 ha => ⟨?_, e3 s2 ha.V⟩⟩
        · cases hb : isStore o with
          | false => rfl
          | true => obtain ⟨t, y, x, e⟩ := isStore_iff.1 hb; exact absurd e (n3 _ _ _)
        · rcases e2 with e2 | ⟨j, off, e4, e5⟩
          · exact .inl e2
          · refine .inr ⟨j, off, e4, ?_⟩
            rcases e5 with e5 | ⟨x, hx, off', e6⟩
            · exact .inl (mem_reads e5)
            · cases x with
              | tmp k => exact .inr ⟨k, mem_reads hx, off', e6⟩
              | const c => exact (liftAgg_adr e6).elim
              | func f => simp [getV] at e6
              | global f => simp [getV] at e6
        · rw [hok]
          cases hdst : o.dst with
          | none => rfl
          | some d =>
            rw [hdst] at hp
            simp only [plainAt] at hp ⊢
            rw [ha.wr d (by rw [hw, hdst])]; exact hp

/-- Its place is fixed. -/
def Solo (all : List Oper) (o : Oper) : Prop := (soloAux all all 0 = true ∧ isStore o = true) ∨ soloCall all o = true

theorem oper_eff (hst : isStore o = true → o.dst = none) (hd : operD G C f true all o s = some s') :
    Solo all o ∨ ∃ d v, Eff G C f all o s s' d v := by
  by_cases hcs : soloCall all o = true
  · exact .inl (.inr hcs)
  have hdr : drOf true all o = true := by simp only [drOf, Bool.not_eq_true']; simpa using hcs
  -- the operation is wanted
  have go : ∀ (hstep : ifK (pre true all o s) (stepD G C f true o s) = some s') (hloc : ∀ s2, Agree all o s s2 → operD G C f true all o s2 = ifK (pre true all o s2) (stepD G C f true o s2)),
      Solo all o ∨ ∃ d v, Eff G C f all o s s' d v := by
    intro hstep hloc
    obtain ⟨hp, hd⟩ := ifK_some hstep
    rcases step_eff hst hp hd with h | ⟨d, v, h1, h2, h3, h4⟩
    · exact .inl (.inl h)
    · refine .inr ⟨d, v, h1, h2, h3, fun s2 ha => ?_⟩
      obtain ⟨k1, k2⟩ := h4 s2 ha
      rw [hloc s2 ha]
      simp only [pre, k1, k2, ifK]
  have skip : ∀ (hstep : ifK (preSkip true o s) (some (s.put o.dst .skip)) = some s') (hloc : ∀ s2, Agree all o s s2 → operD G C f true all o s2 = ifK (preSkip true o s2) (some (s2.put o.dst .skip))),
      Solo all o ∨ ∃ d v, Eff G C f all o s s' d v := by
    intro hstep hloc
    obtain ⟨hp, hd⟩ := ifK_some hstep
    cases hd
    simp only [preSkip] at hp
    have hw : o.dst = none ∨ o.dst = writeOf o := by
      cases hb : isStore o with
      | true => exact .inl (hst hb)
      | false => exact .inr (writeOf_plain fun t y x e => by rw [isStore_iff.2 ⟨t, y, x, e⟩] at hb; cases hb).symm
    refine .inr ⟨o.dst, .skip, rfl, hw, .inl ⟨hp, ?_, .inl rfl⟩, fun s2 ha => ?_⟩
    · cases hb : isStore o with
      | true => exact .inr (hst hb)
      | false => exact .inl rfl
    · rw [hloc s2 ha]
      have : plainAt s2 o.dst = true := by
        cases hdst : o.dst with
        | none => rfl
        | some d =>
          rw [hdst] at hp hw
          simp only [plainAt] at hp ⊢
          rcases hw with hw | hw
          · cases hw
          · rw [ha.wr d hw.symm]; exact hp
      simp only [preSkip, this, ifK]
  have hd0 := hd
  unfold operD at hd
  rw [hdr] at hd
  cases hg : o.guard with
  | none =>
    rw [hg] at hd
    exact go hd fun s2 _ => by unfold operD; rw [hg, hdr]
  | some p =>
    obtain ⟨j, want⟩ := p
    rw [hg] at hd
    simp only at hd
    cases hj : all[j]? with
    | none => rw [hj] at hd; cases hd
    | some gd =>
      rw [hj] at hd
      simp only at hd
      cases hdst : gd.dst with
      | none => rw [hdst] at hd; cases hd
      | some d =>
        rw [hdst] at hd
        simp only at hd
        have hmem : d ∈ readsOf all o := by
          unfold readsOf guardSlot
          simp [hg, hj, hdst]
        cases hb : nth s.t d <;> rw [hb] at hd <;> simp only at hd <;> first
          | (cases hd; done)
          | skip
        · refine skip hd fun s2 ha => ?_
          unfold operD
          simp only [hg, hj, hdst, hdr]
          rw [ha.rd d hmem, hb]
        · rename_i b
          split at hd
          · rename_i e
            refine go hd fun s2 ha => ?_
            unfold operD
            simp only [hg, hj, hdst, hdr]
            rw [ha.rd d hmem, hb]
            simp only [e, if_true]
          · rename_i e
            refine skip hd fun s2 ha => ?_
            unfold operD
            simp only [hg, hj, hdst, hdr]
            rw [ha.rd d hmem, hb]
            simp only [e, if_false]

theorem upd_comm (l : List V) {i j : Nat} (h : i ≠ j) (u v : V) : upd (upd l i u) j v = upd (upd l j v) i u := by
  apply List.ext_getElem?
  intro k
  simp only [upd_get]
  by_cases h1 : k = i
  · subst h1
    simp only [if_true, h, if_false]
  · by_cases h2 : k = j
    · subst h2; simp only [if_true, h1, if_false]
    · simp only [h1, h2, if_false]

theorem clash_some {d : Nat} {l : List Nat} (h : clash (some d) l = false) : d ∉ l := by
  intro hm
  simp only [clash, (lmem_iff d l).2 hm] at h
  cases h

/-- Two operations side by side change places. -/
theorem swap_ok (sy : isStore y = true → y.dst = none) (sx : isStore x = true → x.dst = none) (hi : indep all y x = true) (cy : clash y.dst (readsOf all y) = false)
    (hso : ¬ Solo all y ∧ ¬ Solo all x) (h1 : operD G C f true all y s = some s1) (h2 : operD G C f true all x s1 = some s2) :
    ∃ s1', operD G C f true all x s = some s1' ∧ operD G C f true all y s1' = some s2 := by
  unfold indep at hi
  simp only [Bool.and_eq_true, Bool.not_eq_true'] at hi
  obtain ⟨i1, i2, i3, i4⟩ := hi
  rcases oper_eff sy h1 with hs | ⟨d1, v1, E1⟩
  · exact absurd hs hso.1
  rcases oper_eff sx h2 with hs | ⟨d2, v2, E2⟩
  · exact absurd hs hso.2
  have hs1 := E1.eq
  have hs2 := E2.eq
  -- what is known of the two slots
  have w1x : ∀ e, d1 = some e → e ∉ readsOf all x := fun e he => by
    rcases E1.wr with h | h
    · rw [he] at h; cases h
    · rw [← h, he] at i1; exact clash_some i1
  have w2y : ∀ e, d2 = some e → e ∉ readsOf all y := fun e he => by
    rcases E2.wr with h | h
    · rw [he] at h; cases h
    · rw [← h, he] at i2; exact clash_some i2
  have w1n : ∀ e e', d1 = some e → writeOf x = some e' → e ≠ e' := fun e e' he he' => by
    rcases E1.wr with h | h
    · rw [he] at h; cases h
    · rw [← h, he, he'] at i3
      simp only [meets] at i3
      exact Nat.ne_of_beq_eq_false i3
  have w2n : ∀ e e', d2 = some e → writeOf y = some e' → e ≠ e' := fun e e' he he' => by
    rcases E2.wr with h | h
    · rw [he] at h; cases h
    · rw [he', ← h, he] at i3
      simp only [meets] at i3
      exact fun e2 => Nat.ne_of_beq_eq_false i3 e2.symm
  have w12 : ∀ e e', d1 = some e → d2 = some e' → e ≠ e' := fun e e' he he' => by
    rcases E2.wr with h | h
    · rw [he'] at h; cases h
    · exact w1n e e' he (by rw [← h, he'])
  have hh1 : s1.h = s.h := by rw [hs1]; cases d1 <;> rfl
  have at1 : ∀ k, (∀ e, d1 = some e → k ≠ e) → nth s1.t k = nth s.t k := fun k hk => by
    rw [hs1]
    cases hd : d1 with
    | none => rfl
    | some e => exact nth_upd_ne (hk e hd)
  have at1x : ∀ k ∈ readsOf all x, nth s1.t k = nth s.t k := fun k hk => at1 k fun e he hke => by subst hke; exact w1x _ he hk
  -- x first
  have ax : Agree all x s1 s := by
    refine ⟨hh1.symm, fun k hk => (at1x k hk).symm, fun d hd => (at1 d fun e he hde => w1n e d he hd hde.symm).symm, fun k hk j off cs hk1 hj => ?_, fun d hd hn => ?_⟩
    · by_cases hj1 : ∃ e, d1 = some e ∧ j = e
      · obtain ⟨e, he, rfl⟩ := hj1
        rw [at1x k hk] at hk1
        rcases E1.kind with ⟨hp, _, hv⟩ | ⟨e', cs', he', rfl, hn, _⟩
        · exfalso
          rw [hs1, he] at hj
          rcases nth_upd_or s.t j v1 with hu | hu
          · have hj' : nth (upd s.t j v1) j = .box cs := hj
            rw [hu] at hj'
            subst hj'
            rcases hv with hv | ⟨_, _, hv, _⟩
            · cases hv
            · cases hv
          · have hj' : nth (upd s.t j v1) j = .box cs := hj
            rw [hu] at hj'
            rw [he] at hp
            simp only [plainAt, hj'] at hp
            cases hp
        · rw [he] at he'; cases he'
          exact absurd hk1 (noadr_iff.1 hn k off)
      · rw [at1 j fun e he hje => hj1 ⟨e, he, hje⟩] at hj
        exact hj
    · refine noadr_iff.2 fun k off hk => ?_
      by_cases hk1 : ∃ e, d1 = some e ∧ k = e
      · obtain ⟨e, he, rfl⟩ := hk1
        rcases E1.kind with ⟨hp, _, _⟩ | ⟨e', cs', he', _, _, hna⟩
        · rw [he] at hp
          simp only [plainAt, hk] at hp
          cases hp
        · rw [he] at he'; cases he'
          rw [hk] at hna; cases hna
      · have := at1 k fun e he hke => hk1 ⟨e, he, hke⟩
        rw [hk] at this
        exact noadr_iff.1 hn k off this
  have hx := E2.loc s ax
  refine ⟨_, hx, ?_⟩
  have at2 : ∀ k, (∀ e, d2 = some e → k ≠ e) → nth (s.put d2 v2).t k = nth s.t k := fun k hk => by
    cases hd : d2 with
    | none => rfl
    | some e => exact nth_upd_ne (hk e hd)
  have ay : Agree all y s (s.put d2 v2) := by
    refine ⟨by cases d2 <;> rfl, fun k hk => at2 k fun e he hke => by subst hke; exact w2y _ he hk, fun d hd => at2 d fun e he hde => w2n e d he hd hde.symm, fun k hk j off cs hk1 hj => ?_, fun d hd hn => ?_⟩
    · by_cases hj2 : ∃ e, d2 = some e ∧ j = e
      · obtain ⟨e, he, rfl⟩ := hj2
        exfalso
        have hj1 : nth s1.t j = nth s.t j := at1 j fun e' he' hje => w12 e' j he' he hje.symm
        rcases E2.kind with ⟨hp, _, _⟩ | ⟨e', cs', he', _, hn, _⟩
        · rw [he] at hp
          simp only [plainAt, hj1, hj] at hp
          cases hp
        · rw [he] at he'; cases he'
          by_cases hk2 : ∃ e, d1 = some e ∧ k = e
          · obtain ⟨e, he1, rfl⟩ := hk2
            rcases E1.kind with ⟨hp, hns, _⟩ | ⟨e'', cs'', he'', _, _, hna⟩
            · rcases hns with hns | hns
              · have hwy : writeOf y = y.dst := writeOf_plain fun t y' x' e => by rw [isStore_iff.2 ⟨t, y', x', e⟩] at hns; cases hns
                rcases E1.wr with h | h
                · rw [he1] at h; cases h
                · rw [← hwy, ← h, he1] at cy
                  exact clash_some cy hk
              · rw [he1] at hns; cases hns
            · rw [he1] at he''; cases he''
              rw [hk1] at hna; cases hna
          · have := at1 k fun e he hke => hk2 ⟨e, he, hke⟩
            rw [hk1] at this
            exact noadr_iff.1 hn k off this
      · rw [at2 j fun e he hje => hj2 ⟨e, he, hje⟩]
        exact hj
    · refine noadr_iff.2 fun k off hk => ?_
      by_cases hk2 : ∃ e, d2 = some e ∧ k = e
      · obtain ⟨e, he, rfl⟩ := hk2
        rw [he] at hk
        have hk' : nth (upd s.t k v2) k = .adr d off := hk
        rcases nth_upd_or s.t k v2 with hu | hu
        · rw [hu] at hk'
          subst hk'
          rcases E2.kind with ⟨_, _, hv⟩ | ⟨_, _, _, hv, _⟩
          · rcases hv with hv | ⟨j, off', hv, hpr⟩
            · cases hv
            · cases hv
              rcases hpr with hpr | ⟨k', hk'', off'', hk3⟩
              · rcases E1.wr with h | h
                · rw [hd] at i1
                  exact clash_some i1 hpr
                · rw [hd] at i1
                  exact clash_some i1 hpr
              · rw [at1x k' hk''] at hk3
                exact noadr_iff.1 hn k' off'' hk3
          · cases hv
        · rw [hu] at hk'
          exact noadr_iff.1 hn k off hk'
      · rw [at2 k fun e he hke => hk2 ⟨e, he, hke⟩] at hk
        exact noadr_iff.1 hn k off hk
  rw [E1.loc _ ay, hs2, hs1]
  congr 1
  cases hd1 : d1 with
  | none => rfl
  | some e1 =>
    cases hd2 : d2 with
    | none => rfl
    | some e2 =>
      simp only [St.put]
      rw [upd_comm _ (w12 e1 e2 hd1 hd2)]

/-! What the checks tell. -/
theorem edgeTo_iff {j : Nat} {l : List Edge} : edgeTo j l = true ↔ ∃ e ∈ l, bindsAny e = true ∧ e.on = j := by
  induction l with
  | nil => simp [edgeTo]
  | cons e l ih =>
    simp only [edgeTo, Bool.or_eq_true, Bool.and_eq_true, ih, List.mem_cons]
    constructor
    · rintro (⟨h1, h2⟩ | ⟨e', h1, h2⟩)
      · exact ⟨e, .inl rfl, h1, Nat.eq_of_beq_eq_true h2⟩
      · exact ⟨e', .inr h1, h2⟩
    · rintro ⟨e', rfl | h1, h2, h3⟩
      · left; refine ⟨h2, ?_⟩; rw [h3]; exact Nat.beq_refl _
      · exact .inr ⟨e', h1, h2, h3⟩
theorem edgeVia_iff {r : Oper → Bool} {j : Nat} {l : List Edge} (h : edgeVia r all j l = true) : ∃ e ∈ l, bindsAny e = true ∧ ∃ z, all[e.on]? = some z ∧ r z = true := by
  induction l with
  | nil => cases h
  | cons e l ih =>
    simp only [edgeVia, Bool.or_eq_true, Bool.and_eq_true] at h
    rcases h with ⟨h1, _, h2⟩ | h
    · cases hz : all[e.on]? with
      | none => rw [hz] at h2; cases h2
      | some z => rw [hz] at h2; exact ⟨e, by simp, h1, z, hz, h2⟩
    · obtain ⟨e', h1, h2⟩ := ih h
      exact ⟨e', by simp [h1], h2⟩
/-- What is waited for lies ahead, whatever holds of operations' numbers. -/
theorem reach_ind {Q : Nat → Prop} {j : Nat} (hstep : ∀ k z, all[k]? = some z → Q k → ∀ e ∈ z.after.toList, bindsAny e = true → Q e.on) : ∀ (n : Nat) (x : Oper) (_ : ∀ e ∈ x.after.toList, bindsAny e = true → Q e.on), reach all j n x = true → Q j := by
  intro n
  induction n with
  | zero =>
    intro x hx h
    obtain ⟨e, h1, h2, h3⟩ := edgeTo_iff.1 h
    rw [← h3]; exact hx e h1 h2
  | succ n ih =>
    intro x hx h
    simp only [reach, Bool.or_eq_true] at h
    rcases h with h | h
    · obtain ⟨e, h1, h2, h3⟩ := edgeTo_iff.1 h
      rw [← h3]; exact hx e h1 h2
    · obtain ⟨e, h1, h2, z, h3, h4⟩ := edgeVia_iff h
      exact ih z (fun e' h5 h6 => hstep e.on z h3 (hx e h1 h2) e' h5 h6) h4
theorem reach_direct {j : Nat} : ∀ (n : Nat) (x : Oper), direct x j = true → reach all j n x = true
  | 0, _, h => h
  | n + 1, x, h => by simp only [reach, h, Bool.true_or]
theorem edgesBack_iff {i : Nat} {l : List Edge} (h : edgesBack i l = true) : ∀ e ∈ l, bindsAny e = true → e.on < i := by
  induction l with
  | nil => simp
  | cons e l ih =>
    simp only [edgesBack, Bool.and_eq_true, Bool.or_eq_true, Bool.not_eq_true'] at h
    intro e' he' hb
    cases he' with
    | head =>
      rcases h.1 with h1 | h1
      · rw [hb] at h1; cases h1
      · exact Nat.le_of_ble_eq_true h1
    | tail _ he' => exact ih h.2 e' he' hb
theorem pairsOk_iff : ∀ (ys : List Oper) (j : Nat), pairsOk all x ys j = true → ∀ k y, ys[k]? = some y → direct x (j + k) = true ∨ indep all y x = true ∨ before all x (j + k) = true := by
  intro ys
  induction ys with
  | nil => intro j _ k y hy; simp at hy
  | cons z ys ih =>
    intro j h k y hy
    simp only [pairsOk, Bool.and_eq_true, Bool.or_eq_true] at h
    cases k with
    | zero => simp at hy; subst hy; exact h.1
    | succ k =>
      simp at hy
      have := ih (j + 1) h.2 k y hy
      rwa [show j + 1 + k = j + (k + 1) by omega] at this
theorem commAux_iff : ∀ (todo done : List Oper) (i : Nat), done.length = i → commAux all todo done i = true → ∀ k x, todo[k]? = some x →
    (∀ e ∈ x.after.toList, bindsAny e = true → e.on < i + k) ∧ (isStore x = true → x.dst = none) ∧ clash x.dst (readsOf all x) = false ∧
      ∀ j y, (done ++ todo)[j]? = some y → j < i + k → direct x j = true ∨ indep all y x = true ∨ before all x j = true := by
  intro todo
  induction todo with
  | nil => intro done i _ _ k x hx; simp at hx
  | cons z todo ih =>
    intro done i hi h k x hx
    simp only [commAux, Bool.and_eq_true, Bool.or_eq_true, Bool.not_eq_true'] at h
    obtain ⟨h1, ⟨h2, h3⟩, h4, h5⟩ := h
    cases k with
    | zero =>
      simp at hx; subst hx
      refine ⟨edgesBack_iff h1, fun hs => ?_, h3, fun j y hy hj => ?_⟩
      · rcases h2 with h2 | h2
        · rw [hs] at h2; cases h2
        · simpa using h2
      · rw [List.getElem?_append_left (by omega)] at hy
        have := pairsOk_iff done 0 h4 j y hy
        simpa using this
    | succ k =>
      simp at hx
      have := ih (done ++ [z]) (i + 1) (by simp [hi]) h5 k x hx
      rw [show i + 1 + k = i + (k + 1) by omega] at this
      simpa using this
theorem soloOne_iff {i : Nat} : ∀ (ys : List Oper) (j : Nat), soloOne all x i ys j = true → ∀ k y, ys[k]? = some y → j + k = i ∨ before all x (j + k) = true ∨ before all y i = true := by
  intro ys
  induction ys with
  | nil => intro j _ k y hy; simp at hy
  | cons z ys ih =>
    intro j h k y hy
    simp only [soloOne, Bool.and_eq_true, Bool.or_eq_true] at h
    cases k with
    | zero =>
      simp at hy; subst hy
      rcases h.1 with h1 | h1
      · exact .inl (Nat.eq_of_beq_eq_true h1)
      · right; split at h1
        · exact .inl h1
        · exact .inr h1
    | succ k =>
      simp at hy
      have := ih (j + 1) h.2 k y hy
      rwa [show j + 1 + k = j + (k + 1) by omega] at this
theorem soloAux_iff : ∀ (l : List Oper) (i : Nat), soloAux all l i = true → ∀ k x, l[k]? = some x → isStore x = true → soloOne all x (i + k) all 0 = true := by
  intro l
  induction l with
  | nil => intro i _ k x hx; simp at hx
  | cons z l ih =>
    intro i h k x hx hs
    simp only [soloAux, Bool.and_eq_true, Bool.or_eq_true, Bool.not_eq_true'] at h
    cases k with
    | zero =>
      simp at hx; subst hx
      rcases h.1 with h1 | h1
      · rw [hs] at h1; cases h1
      · exact h1
    | succ k =>
      simp at hx
      have := ih (i + 1) h.2 k x hx hs
      rwa [show i + 1 + k = i + (k + 1) by omega] at this

theorem soloCAux_iff {o : Oper} : ∀ (l : List Oper) (i : Nat), soloCAux all o l i = true → ∀ k x, l[k]? = some x → isValCall x = true → sameDst x o = true → soloOne all x (i + k) all 0 = true := by
  intro l
  induction l with
  | nil => intro i _ k x hx; simp at hx
  | cons z l ih =>
    intro i h k x hx h1 h2
    simp only [soloCAux, Bool.and_eq_true, Bool.or_eq_true, Bool.not_eq_true'] at h
    cases k with
    | zero =>
      simp at hx
      subst hx
      rcases h.1 with h3 | h3
      · rw [h1, h2] at h3; cases h3
      · exact h3
    | succ k =>
      have := ih (i + 1) h.2 k x (by simpa using hx) h1 h2
      rw [show i + (k + 1) = i + 1 + k by omega]; exact this
theorem sameDst_self (o : Oper) : sameDst o o = true := by
  unfold sameDst
  cases o.dst with
  | none => rfl
  | some d => simp
theorem soloCall_iff {o : Oper} {i : Nat} (h : soloCall all o = true) (ho : all[i]? = some o) : soloOne all o i all 0 = true := by
  simp only [soloCall, Bool.and_eq_true] at h
  have := soloCAux_iff all 0 h.2 i o ho h.1 (sameDst_self o)
  rwa [Nat.zero_add] at this

theorem bindsAny_eq (e : Edge) : Region.binds .any e = bindsAny e := by
  unfold Region.binds bindsAny
  cases e.ground <;> rfl

/-- An operation comes to the front. -/
theorem front_ok (hc : commOk all = true) {i : Nat} {x : Oper} (hx : all[i]? = some x) : ∀ (A : List Nat) {B : List Nat} {s s' : St} (_ : ∀ a ∈ A, a < i ∧ a < all.length ∧ before all x a = false) (_ : opsI G C f true all (A ++ i :: B) s = some s'),
    opsI G C f true all (i :: (A ++ B)) s = some s' := by
  intro A
  induction A with
  | nil => intro B s s' _ h; exact h
  | cons a A ih =>
    intro B s s' hA h
    obtain ⟨ha1, ha2, ha3⟩ := hA a (by simp)
    obtain ⟨y, hy⟩ : ∃ y, all[a]? = some y := ⟨all[a], List.getElem?_eq_getElem ha2⟩
    simp only [List.cons_append, opsI, hy] at h
    obtain ⟨s1, h1, h2⟩ := bind_some2 h
    have h3 := ih (fun b hb => hA b (by simp [hb])) h2
    simp only [opsI, hx] at h3
    obtain ⟨s2, h4, h5⟩ := bind_some2 h3
    have cx := commAux_iff all [] 0 rfl hc i x hx
    have cy := commAux_iff all [] 0 rfl hc a y hy
    simp only [Nat.zero_add, List.nil_append] at cx cy
    have hind : indep all y x = true := by
      rcases cx.2.2.2 a y hy ha1 with h | h | h
      · rw [show before all x a = true from reach_direct _ _ h] at ha3; cases ha3
      · exact h
      · rw [ha3] at h; cases h
    have hback : before all y i = false := by
      cases hb : before all y i with
      | false => rfl
      | true =>
        exfalso
        have : i < a := reach_ind (Q := fun k => k < a) (fun k z hz hk e he1 he2 => by
          have cz := commAux_iff all [] 0 rfl hc k z hz
          simp only [Nat.zero_add] at cz
          have := cz.1 e he1 he2
          omega) 16 y (fun e he1 he2 => cy.1 e he1 he2) hb
        omega
    have nox : ¬ soloOne all x i all 0 = true := fun hs => by
      rcases soloOne_iff all 0 hs a y hy with h | h | h
      · omega
      · rw [Nat.zero_add, ha3] at h; cases h
      · rw [hback] at h; cases h
    have noy : ¬ soloOne all y a all 0 = true := fun hs => by
      rcases soloOne_iff all 0 hs i x hx with h | h | h
      · omega
      · rw [Nat.zero_add, hback] at h; cases h
      · rw [ha3] at h; cases h
    have hsolo : ¬ Solo all y ∧ ¬ Solo all x := by
      constructor
      · rintro (⟨hs, hb⟩ | hs)
        · have := soloAux_iff all 0 hs a y hy hb
          rw [Nat.zero_add] at this
          exact noy this
        · have := soloCall_iff hs hy
          exact noy this
      · rintro (⟨hs, hb⟩ | hs)
        · have := soloAux_iff all 0 hs i x hx hb
          rw [Nat.zero_add] at this
          exact nox this
        · exact nox (soloCall_iff hs hx)
    obtain ⟨s1', k1, k2⟩ := swap_ok cy.2.1 cx.2.1 hind cy.2.2.1 hsolo h1 h4
    simp only [List.cons_append, opsI, hx, hy, k1, k2, Option.bind_some]
    exact h5

/-- Whatever order is drawn. -/
theorem go_ok {ops : Array Oper} (hc : commOk ops.toList = true) : ∀ (fuel t : Nat) (listed : Array Bool) (acc T : List Nat) {s s' : St} (_ : T.length = fuel) (_ : T.Pairwise (· < ·)) (_ : listed.size = ops.size)
    (_ : ∀ i ∈ T, i < ops.size) (_ : ∀ i, i < ops.size → (listed.getD i true = false ↔ i ∈ T)) (_ : ∀ j z, ops.toList[j]? = some z → j ∉ T → ∀ e ∈ z.after.toList, bindsAny e = true → e.on ∉ T)
    (_ : opsI G C f true ops.toList T s = some s'), ∃ l, Region.linearise.go .any ops fuel t listed acc = acc.reverse ++ l ∧ opsI G C f true ops.toList l s = some s' := by
  intro fuel
  induction fuel with
  | zero =>
    intro t listed acc T s s' hT _ _ _ _ _ h
    have : T = [] := List.length_eq_zero_iff.1 hT
    subst this
    exact ⟨[], by simp [Region.linearise.go], h⟩
  | succ fuel ih =>
    intro t listed acc T s s' hT hpw hsz hlt hlisted hclosed h
    have comm := commAux_iff (all := ops.toList) ops.toList [] 0 rfl hc
    simp only [Nat.zero_add, List.nil_append] at comm
    let rs := (List.range ops.size).filter fun i => !listed.getD i true && ((ops[i]?).map (·.after.all fun e => !Region.binds .any e || listed.getD e.on false)).getD false
    have mem_rs : ∀ i, i ∈ rs ↔ i ∈ T ∧ ∃ x, ops.toList[i]? = some x ∧ ∀ e ∈ x.after.toList, bindsAny e = true → listed.getD e.on false = true := by
      intro i
      simp only [rs, List.mem_filter, List.mem_range, Bool.and_eq_true, Bool.not_eq_true']
      constructor
      · rintro ⟨h1, h2, h3⟩
        refine ⟨(hlisted i h1).1 h2, ops[i], by simp [h1], fun e he hb => ?_⟩
        simp only [Array.getElem?_eq_getElem h1, Option.map_some, Option.getD_some, Array.all_eq_true', Bool.or_eq_true, Bool.not_eq_true', bindsAny_eq] at h3
        rcases h3 e (by simpa using he) with h4 | h4
        · rw [hb] at h4; cases h4
        · exact h4
      · rintro ⟨h1, x, h2, h3⟩
        have hil := hlt i h1
        refine ⟨hil, (hlisted i hil).2 h1, ?_⟩
        have hx : ops[i]? = some x := by simpa using h2
        simp only [hx, Option.map_some, Option.getD_some, Array.all_eq_true', Bool.or_eq_true, Bool.not_eq_true', bindsAny_eq]
        intro e he
        cases hb : bindsAny e with
        | false => exact .inl rfl
        | true => exact .inr (h3 e (by simpa using he) hb)
    have inT : ∀ j, j < ops.size → (listed.getD j false = true ↔ j ∉ T) := by
      intro j hj
      have h1 := hlisted j hj
      have h2 : listed.getD j false = listed.getD j true := by
        simp [Array.getD_eq_getD_getElem?, hsz, hj]
      rw [h2]
      constructor
      · intro h3 h4; rw [h1.2 h4] at h3; cases h3
      · intro h3
        cases hb : listed.getD j true with
        | true => rfl
        | false => exact absurd (h1.1 hb) h3
    -- some operation is ready
    have hne : rs ≠ [] := by
      cases hTc : T with
      | nil => rw [hTc] at hT; simp at hT
      | cons m T' =>
        have hm : m ∈ T := by rw [hTc]; simp
        have hml := hlt m hm
        intro hrs
        have : m ∈ rs := by
          refine (mem_rs m).2 ⟨hm, ops.toList[m], by simp [hml], fun e he hb => ?_⟩
          have hlt2 := (comm m _ (by simp [hml])).1 e he hb
          refine (inT e.on (by omega)).2 fun hin => ?_
          rw [hTc] at hin hpw
          cases hin with
          | head => omega
          | tail _ hin => have := (List.pairwise_cons.1 hpw).1 _ hin; omega
        rw [hrs] at this; simp at this
    have hpos : 0 < rs.length := List.length_pos_iff.2 hne
    obtain ⟨i, hi⟩ : ∃ i, rs[t % rs.length]? = some i := ⟨rs[t % rs.length]'(Nat.mod_lt _ hpos), List.getElem?_eq_getElem _⟩
    have him : i ∈ rs := List.mem_of_getElem? hi
    obtain ⟨hiT, x, hx, hready⟩ := (mem_rs i).1 him
    have hil := hlt i hiT
    obtain ⟨A, B, hAB⟩ := List.append_of_mem hiT
    have hstep : Region.linearise.go .any ops (fuel + 1) t listed acc = Region.linearise.go .any ops fuel (t / rs.length) (listed.setIfInBounds i true) (i :: acc) := by
      rw [Region.linearise.go]
      show (match rs[t % rs.length]? with
        | some i => Region.linearise.go .any ops fuel (t / rs.length) (listed.setIfInBounds i true) (i :: acc)
        | none => acc.reverse) = _
      rw [hi]
    have hnd : i ∉ A ++ B := by
      rw [hAB] at hpw
      intro hm
      rw [List.pairwise_append] at hpw
      rcases List.mem_append.1 hm with hm | hm
      · have := hpw.2.2 i hm i (by simp); omega
      · have := (List.pairwise_cons.1 hpw.2.1).1 i hm; omega
    have hA : ∀ a ∈ A, a < i ∧ a < ops.toList.length ∧ before ops.toList x a = false := by
      intro a ha
      have haT : a ∈ T := by rw [hAB]; simp [ha]
      refine ⟨?_, by simpa using hlt a haT, ?_⟩
      · rw [hAB, List.pairwise_append] at hpw
        exact hpw.2.2 a ha i (by simp)
      · cases hb : before ops.toList x a with
        | false => rfl
        | true =>
          exfalso
          have : a ∉ T := reach_ind (Q := fun k => k ∉ T) (fun k z hz hk e h1 h2 => hclosed k z hz hk e h1 h2) 16 x (fun e h1 h2 hin => (inT e.on (hlt _ hin)).1 (hready e h1 h2) hin) hb
          exact this haT
    rw [hAB] at h
    have hfront := front_ok hc hx A hA h
    simp only [opsI, hx] at hfront
    obtain ⟨s1, h1, h2⟩ := bind_some2 hfront
    have hgd : ∀ j d, j ≠ i → (listed.setIfInBounds i true).getD j d = listed.getD j d := fun j d hj => by
      simp [Array.getD_eq_getD_getElem?, Array.getElem?_setIfInBounds_ne (Ne.symm hj)]
    obtain ⟨l, k1, k2⟩ := ih (t / rs.length) (listed.setIfInBounds i true) (i :: acc) (A ++ B) (s := s1) (s' := s') (by rw [hAB] at hT; simp at hT ⊢; omega)
      (by rw [hAB, List.pairwise_append] at hpw; rw [List.pairwise_append]; exact ⟨hpw.1, (List.pairwise_cons.1 hpw.2.1).2, fun a ha b hb => hpw.2.2 a ha b (by simp [hb])⟩) (by simpa using hsz)
      (fun j hj => hlt j (by rw [hAB]; simp at hj ⊢; rcases hj with hj | hj <;> simp [hj]))
      (fun j hj => by
        by_cases hji : j = i
        · subst hji
          have : (listed.setIfInBounds j true).getD j true = true := by simp [Array.getD_eq_getD_getElem?, hsz, hj]
          rw [this]
          exact ⟨fun e => (by cases e), fun e => absurd e hnd⟩
        · rw [hgd j true hji, hlisted j hj, hAB]
          simp [hji])
      (fun j z hj hjn e he hb hin => by
        have hin' : e.on ∈ T := by rw [hAB]; simp at hin ⊢; rcases hin with hin | hin <;> simp [hin]
        by_cases hji : j = i
        · subst hji
          rw [hx] at hj; cases hj
          exact (inT e.on (hlt _ hin')).1 (hready e he hb) hin'
        · refine hclosed j z hj (fun hjT => hjn ?_) e he hb hin'
          rw [hAB] at hjT
          simp [hji] at hjT ⊢
          exact hjT)
      h2
    refine ⟨i :: l, by rw [hstep, k1]; simp, ?_⟩
    simp only [opsI, hx, h1, Option.bind_some]
    exact k2

theorem order_ok (hm : G.P.follows .mixedOrders = true) {ops : Array Oper} (hc : commOk ops.toList = true) {s s' : St} (h : opsD G C f true ops.toList ops.toList s = some s') (t : Nat) :
    opsI G C f true ops.toList (Region.schedule (G.P.follows .mixedOrders) ops t) s = some s' := by
  have e : Region.schedule (G.P.follows .mixedOrders) ops t = Region.linearise .any ops t := by
    unfold Region.schedule
    rw [hm]; rfl
  rw [e]
  unfold Region.linearise
  rw [opsD_range] at h
  obtain ⟨l, h1, h2⟩ := go_ok hc ops.size t (Array.replicate ops.size false) [] (List.range ops.toList.length) (s := s) (s' := s') (by simp) List.pairwise_lt_range (by simp) (fun i hi => by simpa using hi)
    (fun i hi => by simp [Array.getD_eq_getD_getElem?, hi]) (fun j z hj hjn => by
      exfalso; apply hjn
      have := (List.getElem?_eq_some_iff.1 hj).1
      simpa using this) h
  rw [h1]
  simpa using h2

end Go.Ab
