/- Each step of the abstract machine but a call is the machine's; conditions: none. -/
import Derived.Test.YtbfecmgiffkooaaAb12
namespace Go.Ab
set_option linter.unusedVariables false
set_option linter.unusedSimpArgs false
variable {act hn : Nat} {s s' : St} {a : Act} {w : World} {g : Gh} {G : Cfg} {C : CallT} {f : FuncId} {dr : Bool} {F : Fence} {n : Nat} {o : Oper}

theorem ifK_some {R : Type} {b : Bool} {k : Option R} {r : R} (h : ifK b k = some r) : b = true ∧ k = some r := by
  cases b with
  | false => cases h
  | true => exact ⟨rfl, h⟩
theorem bind_some2 {A R : Type} {x : Option A} {k : A → Option R} {r : R} (h : x.bind k = some r) : ∃ y, x = some y ∧ k y = some r := by
  cases x with
  | none => cases h
  | some y => exact ⟨y, rfl, h⟩
theorem cond_some {R : Type} {b : Bool} {k : Option R} {r : R} (h : cond b k none = some r) : b = true ∧ k = some r := by
  cases b with
  | false => cases h
  | true => exact ⟨rfl, h⟩
theorem cond_some' {R : Type} {b : Bool} {k : Option R} {r : R} (h : cond b none k = some r) : b = false ∧ k = some r := by
  cases b with
  | true => cases h
  | false => exact ⟨rfl, h⟩

theorem step_move (h : SR act hn s a w g) {x : Operand} (ho : o.op = .move x) (hd : stepD G C f dr o s = some s') : Sound G.P F n act hn s' a w g o := by
  unfold stepD stepK at hd
  simp only [ho] at hd
  cases hd
  exact sound_move h ho
theorem step_assign (h : SR act hn s a w g) {x : Operand} (ho : o.op = .assign x) (hd : stepD G C f dr o s = some s') : Sound G.P F n act hn s' a w g o := by
  unfold stepD stepK at hd
  simp only [ho] at hd
  split at hd
  · rename_i d hdst
    split at hd
    · rename_i sz _ h1 h2 h3
      obtain ⟨b, hd⟩ := ifK_some hd
      simp only [Bool.and_eq_true] at b
      cases hd
      exact sound_acc h ho hdst (.inl rfl) h2 (Nat.le_of_ble_eq_true b.2)
    · rename_i sz _ h1 h2 h3
      obtain ⟨b, hd⟩ := ifK_some hd
      simp only [Bool.and_eq_true] at b
      cases hd
      exact sound_acc h ho hdst (.inr rfl) h2 (Nat.le_of_ble_eq_true b.2)
    · cases hd
      exact sound_assign h ho
  · rename_i hdst
    cases hd
    have := sound_assign (P := G.P) (F := F) (n := n) h ho
    rw [hdst] at this
    exact this
theorem step_pick (h : SR act hn s a w g) {c x y : Operand} (ho : o.op = .pick c x y) (hd : stepD G C f dr o s = some s') : Sound G.P F n act hn s' a w g o := by
  unfold stepD stepK at hd
  simp only [ho] at hd
  split at hd
  · rename_i q hq
    cases q <;> (simp only [cond_true, cond_false] at hd; cases hd; exact sound_pick h ho hq)
  · cases hd
theorem step_alloc (h : SR act hn s a w g) {t : TypeId} (ho : o.op = .alloc t) (hd : stepD G C f dr o s = some s') : Sound G.P F n act hn s' a w g o := by
  unfold stepD stepK at hd
  simp only [ho] at hd
  split at hd
  · rename_i d z hdst hz
    split at hd
    · cases hd
      exact sound_alloc h ho hdst hz
    · obtain ⟨_, hd⟩ := ifK_some hd
      obtain ⟨i, zv, h1, h2, h3⟩ := zeroCells_spec hz (memOf w g)
      split at hd
      · obtain ⟨hsz, hd⟩ := ifK_some hd
        cases hd
        refine sound_accOb h (cs := zv.cells) (t := t) ?_ hdst h3 (Nat.le_of_ble_eq_true hsz)
        simp only [execOp, ho, Instr.alloc]
        simp [run_tZero h1 h2, run_newVar]
      · cases hd
        refine sound_allocOb h (cs := zv.cells) (t := t) ?_ hdst h3
        simp only [execOp, ho, Instr.alloc]
        simp [run_tZero h1 h2, run_newVar]
  · cases hd
theorem step_box (h : SR act hn s a w g) {t : TypeId} {x : Operand} (ho : o.op = .box t x) (hd : stepD G C f dr o s = some s') : Sound G.P F n act hn s' a w g o := by
  unfold stepD stepK at hd
  simp only [ho] at hd
  split at hd
  · rename_i d hdst
    obtain ⟨hb, hd⟩ := ifK_some hd
    have hne : cellsOf (getV s x) ≠ [] := by intro e; rw [e] at hb; cases hb
    split at hd
    · cases hd
      exact sound_box h ho hdst (.inl hne)
    · obtain ⟨_, hd⟩ := ifK_some hd
      have hcs := cellsOf_ok (h.evalV x) (.inl hne)
      split at hd
      · rename_i hx _
        obtain ⟨hsz, hd⟩ := ifK_some hd
        cases hd
        rw [hx] at hcs
        refine sound_accOb h (cs := (a.eval x).cells) (t := t) ?_ hdst hcs (Nat.le_of_ble_eq_true hsz)
        simp only [execOp, ho, Instr.box]
        simp [run_newVar]
      · cases hd
        refine sound_allocOb h (cs := (a.eval x).cells) (t := t) ?_ hdst hcs
        simp only [execOp, ho, Instr.box]
        simp [run_newVar]
  · cases hd
theorem step_build (h : SR act hn s a w g) {t : TypeId} {parts : Array (Nat × Operand)} (ho : o.op = .build t parts) (hd : stepD G C f dr o s = some s') : Sound G.P F n act hn s' a w g o := by
  unfold stepD stepK at hd
  simp only [ho] at hd
  split at hd
  · rename_i z fs hz hu
    split at hd
    · rename_i places hp
      obtain ⟨cs, hf, hd⟩ := bind_some2 hd
      obtain ⟨_, hd⟩ := ifK_some hd
      rw [normK_bind] at hd
      obtain ⟨v, hk, hd⟩ := bind_some2 hd
      cases hd
      obtain ⟨i, zv, h1, h2, h3⟩ := zeroCells_spec hz (memOf w g)
      obtain ⟨cells, k1, k2, _, _⟩ := fill_ok h (place' := fun i => places.toArray[i]?) (fun i x e => by simpa using e) parts.toList _ hf h3
      exact sound_built h ho (built_struct h1 hu h2 hp k1) k2 hk
    · cases hd
  · rename_i z _ e hz hu
    split at hd
    · rename_i ie hie
      obtain ⟨cs, hf, hd⟩ := bind_some2 hd
      obtain ⟨_, hd⟩ := ifK_some hd
      rw [normK_bind] at hd
      obtain ⟨v, hk, hd⟩ := bind_some2 hd
      cases hd
      obtain ⟨i, zv, h1, h2, h3⟩ := zeroCells_spec hz (memOf w g)
      obtain ⟨cells, k1, k2, _, _⟩ := fill_ok h (place' := fun i => some (i * ie.size, ie.size)) (fun i x e => e) parts.toList _ hf h3
      exact sound_built h ho (built_array h1 hu h2 hie k1) k2 hk
    · cases hd
  · cases hd
theorem step_buildSlice (h : SR act hn s a w g) {t : TypeId} {len : Nat} {parts : Array (Nat × Operand)} (ho : o.op = .buildSlice t len parts) (hd : stepD G C f dr o s = some s') : Sound G.P F n act hn s' a w g o := by
  unfold stepD stepK at hd
  simp only [ho] at hd
  split at hd
  · rename_i e m _ hs
    split at hd
    · rename_i z hz
      obtain ⟨hb, hd⟩ := ifK_some hd
      simp only [Bool.and_eq_true] at hb
      obtain ⟨cs, hf, hd⟩ := bind_some2 hd
      obtain ⟨_, hd⟩ := ifK_some hd
      rw [normK_bind] at hd
      obtain ⟨v, hk, hd⟩ := bind_some2 hd
      cases hd
      exact sound_buildSlice h ho hs hz (Nat.eq_of_beq_eq_true hb.1.1) (Nat.le_of_ble_eq_true hb.1.2) (Nat.le_of_ble_eq_true hb.2) hf hk
    · cases hd
  · cases hd
theorem step_load (h : SR act hn s a w g) {t : TypeId} {x : Operand} (ho : o.op = .load t x) (hd : stepD G C f dr o s = some s') : Sound G.P F n act hn s' a w g o := by
  unfold stepD stepK at hd
  simp only [ho] at hd
  split at hd
  · rename_i ag m ht
    rw [loadK_bind] at hd
    obtain ⟨v, hl, hd⟩ := bind_some2 hd
    cases hd
    exact sound_load h ho ht hl
  · cases hd
theorem step_store (h : SR act hn s a w g) {t : TypeId} {y x : Operand} (ho : o.op = .store t y x) (hd : stepD G C f dr o s = some s') : Sound G.P F n act hn s' a w g o := by
  unfold stepD stepK at hd
  simp only [ho] at hd
  split at hd
  · rename_i ag m i ht hdst
    obtain ⟨hb, hd⟩ := ifK_some hd
    simp only [Bool.and_eq_true] at hb
    have hm := Nat.eq_of_beq_eq_true hb.1
    have hm0 : 0 < m := Nat.le_of_ble_eq_true hb.2
    exact sound_store h ho hdst ht hm (.inl (by intro e; rw [e] at hm; simp at hm; omega)) hd
  · cases hd
theorem step_nilCheck (h : SR act hn s a w g) {x : Operand} (ho : o.op = .nilCheck x) (hd : stepD G C f dr o s = some s') : Sound G.P F n act hn s' a w g o := by
  unfold stepD stepK at hd
  simp only [ho] at hd
  split at hd <;> first
    | (cases hd; done)
    | skip
  · rename_i hx; cases hd; exact sound_nilCheck h ho (.inl ⟨_, _, rfl, hx, rfl⟩)
  · rename_i hx; cases hd; exact sound_nilCheck h ho (.inr (.inl ⟨_, _, hx, rfl⟩))
  · rename_i hx; cases hd; exact sound_nilCheck h ho (.inr (.inr (.inl ⟨_, _, hx, rfl⟩)))
  · rename_i hx; cases hd; exact sound_nilCheck h ho (.inr (.inr (.inr (.inl ⟨_, _, hx, rfl⟩))))
  · rename_i hx; cases hd; exact sound_nilCheck h ho (.inr (.inr (.inr (.inr ⟨_, _, _, hx, rfl⟩))))
theorem step_binOp (h : SR act hn s a w g) {op : BinOp} {t t' : TypeId} {x y : Operand} (ho : o.op = .binOp op t x y t') (hd : stepD G C f dr o s = some s') : Sound G.P F n act hn s' a w g o := by
  unfold stepD stepK at hd
  simp only [ho] at hd
  split at hd
  · rename_i k1 i k2 j hx hy
    split at hd
    · obtain ⟨hk, hd⟩ := ifK_some hd
      obtain ⟨hj, hd⟩ := cond_some' hd
      cases hd
      exact sound_quo h ho hx hy (kEq_iff.1 hk) (by simpa using hj)
    · obtain ⟨hk, hd⟩ := ifK_some hd
      obtain ⟨hj, hd⟩ := cond_some' hd
      cases hd
      exact sound_rem h ho hx hy (kEq_iff.1 hk) (by simpa using hj)
    · obtain ⟨hj, hd⟩ := cond_some' hd
      cases hd
      exact sound_shl h ho hx hy (by simpa using hj)
    · obtain ⟨hj, hd⟩ := cond_some' hd
      cases hd
      exact sound_shr h ho hx hy (by simpa using hj)
    · obtain ⟨hk, hd⟩ := ifK_some hd
      obtain ⟨v, hv, hd⟩ := bind_some2 hd
      cases hd
      exact sound_arith h ho hx hy (kEq_iff.1 hk) hv
  · rename_i p q hx hy
    split at hd
    · rename_i ht; cases hd; exact sound_eqlBool h ho hx hy ht (.inl ⟨rfl, rfl⟩)
    · rename_i ht; cases hd; exact sound_eqlBool h ho hx hy ht (.inr ⟨rfl, rfl⟩)
    · cases hd
  · rename_i xs ys hx hy
    obtain ⟨hb, hd⟩ := ifK_some hd
    simp only [Bool.and_eq_true, Bool.not_eq_true'] at hb
    obtain ⟨hg, hu⟩ := hb
    have ht : ∃ fs, G.P.underlying t = some (.struct fs) := by
      split at hu
      · rename_i fs hfs; exact ⟨fs, hfs⟩
      · cases hu
    split at hd
    · obtain ⟨b, hb, hd⟩ := bind_some2 hd
      cases hd
      exact sound_eqlAgg h ho hx hy hg ht hb (.inl ⟨rfl, rfl⟩)
    · obtain ⟨b, hb, hd⟩ := bind_some2 hd
      cases hd
      exact sound_eqlAgg h ho hx hy hg ht hb (.inr ⟨rfl, rfl⟩)
    · cases hd
  · cases hd
theorem step_unOp (h : SR act hn s a w g) {op : UnOp} {t : TypeId} {x : Operand} (ho : o.op = .unOp op t x) (hd : stepD G C f dr o s = some s') : Sound G.P F n act hn s' a w g o := by
  unfold stepD stepK at hd
  simp only [ho] at hd
  split at hd
  · rename_i hx; cases hd; exact sound_unNeg h ho hx
  · rename_i hx; cases hd; exact sound_unNot h ho hx
  · cases hd
theorem step_convert (h : SR act hn s a w g) {t t' : TypeId} {x : Operand} (ho : o.op = .convert t t' x) (hd : stepD G C f dr o s = some s') : Sound G.P F n act hn s' a w g o := by
  unfold stepD stepK at hd
  simp only [ho] at hd
  split at hd
  · rename_i h1 h2 hx
    cases hd
    exact sound_convert h ho h2 (by rw [h1]; rfl) hx
  · cases hd
theorem step_index (h : SR act hn s a w g) {t : TypeId} {x ix : Operand} (ho : o.op = .index t x ix) (hd : stepD G C f dr o s = some s') : Sound G.P F n act hn s' a w g o := by
  unfold stepD stepK at hd
  simp only [ho] at hd
  split at hd
  · rename_i b k i hu hx hi
    obtain ⟨m, hm, hd⟩ := bind_some2 hd
    cases hd
    have hv := h.evalN hx rfl
    have hw := h.evalN hi rfl
    simp only [VR] at hv hw
    unfold strAt at hm
    split at hm
    · rename_i hb
      cases hm
      refine Sound.pure h (c := .int .u8 ((b.get! i.toNat).toNat : Int)) ?_ (by simp only [VR])
      simp only [execOp, ho, hv, hw]
      have := run_index_string w t b k i hu
      rw [dif_pos hb] at this
      simp only [Sem.run_bind, this, Result.andThen_ok, Sem.run_pure]
      congr 4
      have hlt : i.toNat < b.size := by omega
      simp [ByteArray.get!, hlt, ByteArray.getElem_eq_getElem_data]
    · cases hm
  · cases hd
theorem step_makeFunc (h : SR act hn s a w g) {q : Fn} {fi ca : Array Operand} (ho : o.op = .makeFunc q fi ca) (hd : stepD G C f dr o s = some s') : Sound G.P F n act hn s' a w g o := by
  unfold stepD stepK at hd
  simp only [ho] at hd
  split at hd <;> rename_i heq <;> first
    | (cases heq; cases hd; exact sound_makeFunc h ho)
    | (cases heq; done)
    | (cases hd; done)
theorem step_fieldAddr (h : SR act hn s a w g) {t : TypeId} {x : Operand} {fd : Nat} (ho : o.op = .fieldAddr t x fd) (hd : stepD G C f dr o s = some s') : Sound G.P F n act hn s' a w g o := by
  unfold stepD stepK at hd
  simp only [ho] at hd
  split at hd
  · rename_i off ft hf
    split at hd
    · rename_i ag m ht
      obtain ⟨hm, hd⟩ := ifK_some hd
      have hm : 0 < m := Nat.le_of_ble_eq_true hm
      split at hd <;> first
        | (cases hd; done)
        | skip
      · rename_i hx; cases hd; exact sound_fieldAddr h ho hf ht hm (.inl ⟨_, _, rfl, hx, rfl⟩)
      · rename_i hx; cases hd; exact sound_fieldAddr h ho hf ht hm (.inr (.inl ⟨_, _, hx, rfl⟩))
      · rename_i hx; cases hd; exact sound_fieldAddr h ho hf ht hm (.inr (.inr (.inl ⟨_, _, hx, rfl⟩)))
      · rename_i hx; cases hd; exact sound_fieldAddr h ho hf ht hm (.inr (.inr (.inr (.inl ⟨_, _, hx, rfl⟩))))
      · rename_i hx; cases hd; exact sound_fieldAddr h ho hf ht hm (.inr (.inr (.inr (.inr ⟨_, _, _, _, _, hx, rfl⟩))))
    · cases hd
  · cases hd
theorem step_field (h : SR act hn s a w g) {t : TypeId} {x : Operand} {fd : Nat} (ho : o.op = .field t x fd) (hd : stepD G C f dr o s = some s') : Sound G.P F n act hn s' a w g o := by
  unfold stepD stepK at hd
  simp only [ho] at hd
  split at hd
  · rename_i off ft cs hf hx
    split at hd
    · rename_i ag m ht
      obtain ⟨v, hp, hd⟩ := bind_some2 hd
      cases hd
      exact sound_field h ho hf ht hx hp
    · cases hd
  · cases hd
theorem step_indexAddr (h : SR act hn s a w g) {t : TypeId} {x ix : Operand} (ho : o.op = .indexAddr t x ix) (hd : stepD G C f dr o s = some s') : Sound G.P F n act hn s' a w g o := by
  unfold stepD stepK at hd
  simp only [ho] at hd
  split at hd
  · rename_i k i hi
    split at hd
    · rename_i e sz b hs
      obtain ⟨h0, hd⟩ := ifK_some hd
      split at hd
      · rename_i fl rows hx
        obtain ⟨row, hr, hd⟩ := bind_some2 hd
        rw [shsK_bind] at hd
        obtain ⟨row', hr', hd⟩ := bind_some2 hd
        cases hd
        exact sound_indexSlice h ho hs hi hx hr hr'
      · rename_i id len sz' hx
        obtain ⟨hsz, hd2⟩ := ifK_some hd
        have := Nat.eq_of_beq_eq_true hsz
        subst this
        obtain ⟨h1, hd3⟩ := cond_some hd2
        obtain ⟨h2, hd4⟩ := cond_some hd3
        cases hd4
        exact sound_indexArr h ho hs hi hx (of_decide_eq_true h1) (of_decide_eq_true h2)
      · cases hd
    · cases hd
  · cases hd
theorem step_slice (h : SR act hn s a w g) {t : TypeId} {x : Operand} {lo hi mx : Option Operand} (ho : o.op = .slice t x lo hi mx) (hd : stepD G C f dr o s = some s') : Sound G.P F n act hn s' a w g o := by
  unfold stepD stepK at hd
  simp only [ho] at hd
  split at hd <;> rename_i heq <;> first
    | (cases heq; done)
    | (cases hd; done)
    | skip
  cases heq
  split at hd
  · rename_i e sz b fl rows hs hx
    obtain ⟨H, hd, hH⟩ := boundK_spec hd
    obtain ⟨L, hd, hL⟩ := boundK_spec hd
    obtain ⟨hh, hd⟩ := cond_some hd
    cases hd
    have hH' : (hi = none ∧ H = rows.length) ∨ ∃ (y : Operand) (q : IntKind) (i : Int), hi = some y ∧ getV s y = .int q i ∧ 0 ≤ i ∧ H = i.toNat ∧ H ≤ rows.length := by
      rcases hH with ⟨h1, h2⟩ | ⟨q, i, h1, h2, h3, h4⟩
      · left; cases hi with
        | none => exact ⟨rfl, h2⟩
        | some _ => cases h1
      · right; cases hi with
        | none => cases h1
        | some y => simp at h1; exact ⟨y, q, i, rfl, h1, h2, h3, h4⟩
    have hL' : (lo = none ∧ L = 0) ∨ ∃ (y : Operand) (q : IntKind) (i : Int), lo = some y ∧ getV s y = .int q i ∧ 0 ≤ i ∧ L = i.toNat ∧ L ≤ H := by
      rcases hL with ⟨h1, h2⟩ | ⟨q, i, h1, h2, h3, h4⟩
      · left; cases lo with
        | none => exact ⟨rfl, h2⟩
        | some _ => cases h1
      · right; cases lo with
        | none => cases h1
        | some y => simp at h1; exact ⟨y, q, i, rfl, h1, h2, h3, h4⟩
    refine sound_slice h hs ho hx hH' hL' ?_ ?_
    · rcases hL' with ⟨_, rfl⟩ | ⟨_, _, _, _, _, _, _, hle⟩ <;> omega
    · cases lo with
      | none => exact .inl rfl
      | some _ => exact .inr (headIs_spec hh)
  · cases hd
theorem step_extract (h : SR act hn s a w g) {x : Operand} {i : Nat} (ho : o.op = .extract x i) (hd : stepD G C f dr o s = some s') : Sound G.P F n act hn s' a w g o := by
  unfold stepD stepK at hd
  simp only [ho] at hd
  split at hd
  · rename_i vs hx
    split at hd
    · rename_i v hv
      cases hd
      refine sound_extract h ho hx ?_
      have e : ∀ (vs : List V) (i : Nat), stepK.hgetV vs i = vs[i]? := by
        intro vs
        induction vs with
        | nil => intro i; rfl
        | cons v vs ih => intro i; cases i with
          | zero => rfl
          | succ i => simpa [stepK.hgetV] using ih i
      rw [← e]; exact hv
    · cases hd
  · cases hd

end Go.Ab
