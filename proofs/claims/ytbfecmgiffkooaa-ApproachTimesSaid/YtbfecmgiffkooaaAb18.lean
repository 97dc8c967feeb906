/- A statement's arguments as abstract values; what a call comes to, told of the statement's call; conditions: none. -/
import Derived.Test.YtbfecmgiffkooaaAb17
import Derived.Carry
import Derived.OpenShut
import Derived.ChangeSame
import Derived.DataReads
namespace Go.Ab
set_option linter.unusedVariables false
set_option linter.unusedSimpArgs false
open Go.RowKit
variable {H : Type} {enc : TypeId × Value → H} {P : Program} {W : World}

/-- All of memory is fixed. -/
def g0 : Gh := { K := fun _ => 0, own := fun _ => none, J := [], nx := 0 }
theorem wf0 (W : World) : WF W g0 := ⟨fun _ _ => rfl, fun _ _ _ h => by simp [g0] at h, fun _ _ h => by simp [g0] at h⟩
theorem m0_M (W : World) (b j : Nat) : (memOf W g0).M b j = W.cell? ⟨b, j, none⟩ := by
  simp only [memOf, g0, true_or, if_true, cell?_eq]
theorem m0_alone (W : World) : (memOf W g0).alone = memOf W g0 := rfl

/-- What is read at a type. -/
def Shp (P : Program) : Nat → TypeId → List V → Prop
  | 0, _, _ => False
  | d + 1, t, vs => match P.underlying t with
    | some .bool => ∃ b, vs = [.bool b]
    | some (.int k) => ∃ n, vs = [.int k n] ∧ k.min ≤ n ∧ n ≤ k.max
    | some .string => ∃ s, vs = [.str s]
    | some (.slice e) => ∃ rows, vs = [.slice .any rows] ∧ rows.length ≤ maxLen ∧ ∀ r ∈ rows, Shp P d e r
    | some (.struct fs) => vs.length = P.cellsOf t ∧ ∀ f ∈ fs.toList, Shp P d f.type ((vs.drop f.offset).take (P.cellsOf f.type))
    | some (.array n e) => vs.length = P.cellsOf t ∧ ∀ i, i < n → Shp P d e ((vs.drop (i * P.cellsOf e)).take (P.cellsOf e))
    | _ => True

theorem VRl_take {m : Mem} : ∀ (vs : List V) (cs : List Value) (n : Nat), VRl vs m cs → VRl (vs.take n) m (cs.take n)
  | [], cs, n, h => by simp only [VRl] at h; subst h; simp [VRl]
  | v :: vs, cs, 0, h => by simp [VRl]
  | v :: vs, cs, n + 1, h => by
    simp only [VRl] at h
    obtain ⟨c, cs', rfl, h1, h2⟩ := h
    simp only [List.take_succ_cons, VRl]
    exact ⟨c, cs'.take n, rfl, h1, VRl_take vs cs' n h2⟩
theorem VRl_append {m : Mem} : ∀ (vs : List V) {us : List V} {cs ds : List Value}, VRl vs m cs → VRl us m ds → VRl (vs ++ us) m (cs ++ ds)
  | [], us, cs, ds, h, k => by simp only [VRl] at h; subst h; exact k
  | v :: vs, us, cs, ds, h, k => by
    simp only [VRl] at h
    obtain ⟨c, cs', rfl, h1, h2⟩ := h
    simp only [List.cons_append, VRl]
    exact ⟨c, cs' ++ ds, rfl, h1, VRl_append vs h2 k⟩

/-- Parts in a row. -/
theorem tile {α : Type} {m : Mem} (sz : α → Nat) (S : α → List V → Prop) : ∀ (fs : List α) (cs : List Value), cs.length = (fs.map sz).sum →
    (∀ (j : Nat) (f : α), fs[j]? = some f → ∃ vs, VRl vs m ((cs.drop ((fs.take j).map sz).sum).take (sz f)) ∧ S f vs) →
    ∃ vs, VRl vs m cs ∧ vs.length = cs.length ∧ ∀ (j : Nat) (f : α), fs[j]? = some f → S f ((vs.drop ((fs.take j).map sz).sum).take (sz f)) := by
  intro fs
  induction fs with
  | nil =>
    intro cs hl _
    have : cs = [] := List.length_eq_zero_iff.1 (by simpa using hl)
    subst this
    exact ⟨[], by simp only [VRl], rfl, fun j f hf => by simp at hf⟩
  | cons f fs ih =>
    intro cs hl h
    simp only [List.map_cons, List.sum_cons] at hl
    obtain ⟨v1, h1, h2⟩ := h 0 f rfl
    simp only [List.take_zero, List.map_nil, List.sum_nil, List.drop_zero] at h1
    obtain ⟨v2, k1, k2, k3⟩ := ih (cs.drop (sz f)) (by rw [List.length_drop]; omega) (fun j g hg => by
      obtain ⟨vs, q1, q2⟩ := h (j + 1) g (by simpa using hg)
      refine ⟨vs, ?_, q2⟩
      rw [List.drop_drop]
      simpa only [List.take_succ_cons, List.map_cons, List.sum_cons] using q1)
    have hv1 : v1.length = sz f := by
      have := VRl.length v1 h1
      rw [List.length_take] at this; omega
    refine ⟨v1 ++ v2, ?_, ?_, fun j g hg => ?_⟩
    · have := VRl_append v1 h1 k1
      rwa [List.take_append_drop] at this
    · rw [List.length_append, hv1, k2, List.length_drop]; omega
    · cases j with
      | zero =>
        simp only [List.getElem?_cons_zero, Option.some.injEq] at hg
        subst hg
        simp only [List.take_zero, List.map_nil, List.sum_nil, List.drop_zero]
        rw [← hv1, List.take_left]; exact h2
      | succ j =>
        simp only [List.take_succ_cons, List.map_cons, List.sum_cons]
        have e : (v1 ++ v2).drop (sz f + ((fs.take j).map sz).sum) = v2.drop ((fs.take j).map sz).sum := by
          rw [← hv1, List.drop_length_add_append]
        rw [e]
        exact k3 j g (by simpa using hg)

theorem VRc_of {W : World} : ∀ (vs : List V) (cs : List Value) (b o : Nat), VRl vs (memOf W g0) cs → (∀ j c, cs[j]? = some c → W.cell? ⟨b, o + j, none⟩ = some c) → VRc vs (memOf W g0) b o
  | [], _, _, _, _, _ => by simp only [VRc]
  | v :: vs, cs, b, o, h, hc => by
    simp only [VRl] at h
    obtain ⟨c, cs', rfl, h1, h2⟩ := h
    simp only [VRc]
    refine ⟨⟨c, ?_, h1⟩, VRc_of vs cs' b (o + 1) h2 fun j c' hj => ?_⟩
    · rw [m0_M]; have := hc 0 c rfl; simpa using this
    · have := hc (j + 1) c' (by simpa using hj)
      rwa [show o + (j + 1) = o + 1 + j by omega] at this
theorem VRr_of {W : World} {sz : Nat} : ∀ (rows : List (List V)) (css : List (List Value)) (b o : Nat), rows.length = css.length → (∀ (i : Nat) (r : List V) (cs : List Value), rows[i]? = some r → css[i]? = some cs → VRl r (memOf W g0) cs ∧ cs.length = sz ∧ ∀ j c, cs[j]? = some c → W.cell? ⟨b, o + i * sz + j, none⟩ = some c) → VRr rows (memOf W g0) b o sz
  | [], _, _, _, _, _ => by simp only [VRr]
  | r :: rows, css, b, o, hl, h => by
    cases css with
    | nil => simp at hl
    | cons cs css =>
      obtain ⟨h1, h2, h3⟩ := h 0 r cs rfl rfl
      simp only [VRr]
      refine ⟨by rw [VRl.length r h1, h2], VRc_of r cs b o h1 fun j c hj => by simpa using h3 j c hj, VRr_of rows css b (o + sz) (by simpa using hl) fun i r' cs' hr hc => ?_⟩
      obtain ⟨k1, k2, k3⟩ := h (i + 1) r' cs' (by simpa using hr) (by simpa using hc)
      refine ⟨k1, k2, fun j c hj => ?_⟩
      have := k3 j c hj
      rwa [show o + (i + 1) * sz + j = o + sz + i * sz + j by rw [Nat.add_mul]; omega] at this

theorem mapM_all {α β : Type} {f : α → Option β} : ∀ {l : List α} {r : List β}, l.mapM f = some r → ∀ x ∈ l, ∃ y, f x = some y := by
  intro l
  induction l with
  | nil => intro r _ x hx; simp at hx
  | cons a l ih =>
    intro r h x hx
    rw [List.mapM_cons] at h
    simp only [Option.bind_eq_bind, Option.bind_eq_some_iff] at h
    obtain ⟨y, h1, ys, h2, _⟩ := h
    cases hx with
    | head => exact ⟨y, h1⟩
    | tail _ hx => exact ih h2 x hx
theorem choose_list {α β : Type} {Q : Nat → α → β → Prop} : ∀ (l : List α) (s : Nat), (∀ (i : Nat) (x : α), l[i]? = some x → ∃ y, Q (s + i) x y) → ∃ r : List β, r.length = l.length ∧ ∀ (i : Nat) (x : α) (y : β), l[i]? = some x → r[i]? = some y → Q (s + i) x y
  | [], s, _ => ⟨[], rfl, fun i x y h => by simp at h⟩
  | a :: l, s, h => by
    obtain ⟨y, hy⟩ := h 0 a rfl
    obtain ⟨r, r1, r2⟩ := choose_list l (s + 1) fun i x hx => by
      have := h (i + 1) x (by simpa using hx)
      rwa [show s + (i + 1) = s + 1 + i by omega] at this
    refine ⟨y :: r, by simp [r1], fun i x z hx hz => ?_⟩
    cases i with
    | zero => simp at hx hz; subst hx hz; exact hy
    | succ i =>
      have := r2 i x z (by simpa using hx) (by simpa using hz)
      rwa [show s + 1 + i = s + (i + 1) by omega] at this

theorem cells_get {W : World} {base : Nat} {a : Addr} {n : Nat} {cs : List Value} (h : W.cells? base a n = some cs) : cs.length = n ∧ ∀ j c, cs[j]? = some c → W.cell? (a.add j) = some c := by
  unfold World.cells? at h
  split at h
  · have hl := mapM_some_length h
    refine ⟨by simpa using hl, fun j c hj => ?_⟩
    have hjl := (List.getElem?_eq_some_iff.1 hj).1
    have hl' : cs.length = n := by simpa using hl
    have := mapM_some_get h j j (by rw [List.getElem?_range (by omega)])
    rw [this, hj]
  · cases h
theorem add_block (a : Addr) (n : Nat) : (a.add n).block = a.block := by unfold Addr.add; split <;> rfl
theorem add_off (a : Addr) (n : Nat) : (a.add n).off = a.off + n := by unfold Addr.add; split <;> simp_all
theorem cell_spot {W : World} {a : Addr} {c : Value} (h : W.cell? a = some c) : a = ⟨a.block, a.off, none⟩ := by
  unfold World.cell? at h
  obtain ⟨b, o, sp⟩ := a
  cases sp with
  | none => rfl
  | some x =>
    simp only [Option.isSome_some, if_true] at h
    split at h <;> cases h

theorem one_any {m : Mem} {c : Value} (h : one c = true) : ∃ vs, VRl vs m [c] ∧ vs.length = 1 := ⟨[.undef], by simp only [VRl, VR]; exact ⟨c, [], rfl, ⟨trivial, h⟩, rfl⟩, rfl⟩

/-- What is read is an abstract value. -/
theorem trod_shp (K : Kids P (· < P.types.size)) (hz : ∀ t e, t < P.types.size → P.underlying t = some (.slice e) → 0 < P.cellsOf e) {sp : Nat → Bool} {hd : Bool} : ∀ (n : Nat) (t : TypeId) (cs : List Value) (x : DataW H × List MemPlace), t < P.types.size → DataW.trod enc P W 0 sp hd n t cs = some x →
    ∃ vs, VRl vs (memOf W g0) cs ∧ vs.length = cs.length ∧ Shp P n t vs := by
  intro n
  induction n with
  | zero => intro t cs x _ h; simp [DataW.trod] at h
  | succ n ih =>
    intro t cs x ht h
    unfold DataW.trod at h
    have any1 : ∀ c : Value, one c = true → (∀ vs, Shp P (n + 1) t vs) → ∃ vs, VRl vs (memOf W g0) [c] ∧ vs.length = 1 ∧ Shp P (n + 1) t vs := fun c hc hs => by
      obtain ⟨vs, h1, h2⟩ := one_any hc
      exact ⟨vs, h1, h2, hs vs⟩
    split at h <;> rename_i hu <;> first
      | (refine any1 _ rfl fun vs => ?_; simp only [Shp, hu]; done)
      | skip
    · -- bool
      rename_i b
      exact ⟨[.bool b], by simp only [VRl, VR]; exact ⟨_, [], rfl, ⟨rfl, rfl⟩, rfl⟩, rfl, by simp only [Shp, hu]; exact ⟨b, rfl⟩⟩
    · -- int
      rename_i k k' m
      split at h
      · rename_i hk
        obtain ⟨rfl, hw⟩ := hk
        simp only [Lit.wf, Bool.and_eq_true, decide_eq_true_eq] at hw
        exact ⟨[.int k' m], by simp only [VRl, VR]; exact ⟨_, [], rfl, ⟨rfl, rfl⟩, rfl⟩, rfl, by simp only [Shp, hu]; exact ⟨m, rfl, hw.1, hw.2⟩⟩
      · cases h
    · -- string
      rename_i s
      exact ⟨[.str s], by simp only [VRl, VR]; exact ⟨_, [], rfl, ⟨rfl, rfl⟩, rfl⟩, rfl, by simp only [Shp, hu]; exact ⟨s, rfl⟩⟩
    · -- nil slice
      refine ⟨[.slice .any []], by simp only [VRl, VR]; exact ⟨_, [], rfl, ⟨⟨none, 0, rfl, Nat.le_refl _, trivial, fun _ => rfl, fun h => absurd rfl h⟩, rfl⟩, rfl⟩, rfl, by simp only [Shp, hu]; exact ⟨[], rfl, Nat.zero_le _, fun r hr => by simp at hr⟩⟩
    · -- slice
      rename_i e a len cap
      split at h
      · rename_i hc
        simp only [Option.bind_eq_some_iff, Option.map_eq_some_iff] at h
        obtain ⟨elems, he, _, _, _⟩ := h
        have hel : elems.length = len := by simpa using mapM_some_length he
        have one1 : ∀ (i : Nat) (z : Nat), (List.range len)[i]? = some z → ∃ p : List V × List Value, VRl p.1 (memOf W g0) p.2 ∧ Shp P n e p.1 ∧ W.cells? 0 (a.add (i * P.cellsOf e)) (P.cellsOf e) = some p.2 := by
          intro i z hz'
          have hil : i < len := by have := (List.getElem?_eq_some_iff.1 hz').1; simpa using this
          have hzi : z = i := by simp [hil] at hz'; exact hz'.symm
          subst hzi
          obtain ⟨y, hy⟩ := mapM_all he z (List.mem_of_getElem? hz')
          simp only [Option.bind_eq_some_iff] at hy
          obtain ⟨cs', hc', hy'⟩ := hy
          obtain ⟨vs, v1, _, v3⟩ := ih e cs' y (K.slice ht hu) hy'
          exact ⟨(vs, cs'), v1, v3, hc'⟩
        obtain ⟨ps, p1, p2⟩ := choose_list (Q := fun i (_ : Nat) (p : List V × List Value) => VRl p.1 (memOf W g0) p.2 ∧ Shp P n e p.1 ∧ W.cells? 0 (a.add (i * P.cellsOf e)) (P.cellsOf e) = some p.2) (List.range len) 0 (fun i z hz' => by simpa using one1 i z hz')
        have p1' : ps.length = len := by simpa using p1
        have p3 : ∀ (i : Nat) (p : List V × List Value), ps[i]? = some p → VRl p.1 (memOf W g0) p.2 ∧ Shp P n e p.1 ∧ W.cells? 0 (a.add (i * P.cellsOf e)) (P.cellsOf e) = some p.2 := fun i p hp => by
          have hil := (List.getElem?_eq_some_iff.1 hp).1
          have := p2 i i p (by rw [List.getElem?_range (by omega)]) hp
          simpa using this
        have hpos := hz t e ht hu
        refine ⟨[.slice .any (ps.map (·.1))], ?_, rfl, ?_⟩
        · simp only [VRl, VR]
          refine ⟨_, [], rfl, ⟨⟨some a, cap, by rw [List.length_map, p1'], by rw [List.length_map, p1']; exact hc.2.1, trivial, (fun e => by cases e), fun hne => ?_⟩, rfl⟩, rfl⟩
          -- the first cell tells the address's form
          have hne' : ps ≠ [] := fun e => hne (by rw [e]; rfl)
          obtain ⟨p0, hp0⟩ : ∃ p, ps[0]? = some p := by
            cases ps with
            | nil => exact absurd rfl hne'
            | cons p _ => exact ⟨p, rfl⟩
          obtain ⟨_, _, q3⟩ := p3 0 p0 hp0
          obtain ⟨l1, l2⟩ := cells_get q3
          have ha : a = ⟨a.block, a.off, none⟩ := by
            have h0 : ∃ c, p0.2[0]? = some c := ⟨_, List.getElem?_eq_getElem (by omega)⟩
            obtain ⟨c, hc0⟩ := h0
            have := l2 0 c hc0
            rw [Nat.zero_mul] at this
            simp only [Addr.add, if_true] at this
            exact cell_spot this
          refine ⟨a.block, a.off, P.cellsOf e, by rw [← ha], ?_⟩
          rw [m0_alone]
          refine VRr_of _ (ps.map (·.2)) _ _ (by simp) fun i r cs hr hcs => ?_
          simp only [List.getElem?_map, Option.map_eq_some_iff] at hr hcs
          obtain ⟨p, hp, rfl⟩ := hr
          obtain ⟨p', hp', rfl⟩ := hcs
          rw [hp] at hp'; cases hp'
          obtain ⟨k1, k2, k3⟩ := p3 i p hp
          obtain ⟨m1, m2⟩ := cells_get k3
          refine ⟨k1, m1, fun j c hj => ?_⟩
          have := m2 j c hj
          have he2 : (a.add (i * P.cellsOf e)).add j = ⟨a.block, a.off + i * P.cellsOf e + j, none⟩ := by
            rw [cell_spot this, add_block, add_block, add_off, add_off]
          rwa [he2] at this
        · simp only [Shp, hu]
          refine ⟨_, rfl, by rw [List.length_map, p1']; exact Nat.le_trans hc.2.1 hc.2.2, fun r hr => ?_⟩
          simp only [List.mem_map] at hr
          obtain ⟨p, hp, rfl⟩ := hr
          obtain ⟨i, hi⟩ := List.mem_iff_getElem?.1 hp
          exact (p3 i p hi).2.1
      · cases h
    · -- struct
      rename_i cs _ _ fs
      split at h
      · rename_i hl
        simp only [Option.map_eq_some_iff] at h
        obtain ⟨xs, hxs, _⟩ := h
        obtain ⟨k1, k2, k3⟩ := K.struct ht hu
        obtain ⟨vs, v1, v2, v3⟩ := tile (m := memOf W g0) (fun f : Field => P.cellsOf f.type) (fun f vs => Shp P n f.type vs) fs.toList cs (by rw [hl, k2]) (fun j f hf => by
          obtain ⟨y, hy⟩ := mapM_all hxs f (List.mem_of_getElem? hf)
          have ho := k3 j f hf
          obtain ⟨vs, w1, _, w3⟩ := ih _ _ _ (k1 f (List.mem_of_getElem? hf)) hy
          rw [ho] at w1
          exact ⟨vs, w1, w3⟩)
        refine ⟨vs, v1, v2, ?_⟩
        simp only [Shp, hu]
        refine ⟨by rw [v2, hl], fun f hf => ?_⟩
        obtain ⟨j, hj⟩ := List.mem_iff_getElem?.1 hf
        have := v3 j f hj
        rwa [← k3 j f hj] at this
      · cases h
    · -- array
      rename_i cs _ _ m e
      split at h
      · rename_i hl
        simp only [Option.map_eq_some_iff] at h
        obtain ⟨xs, hxs, _⟩ := h
        obtain ⟨k1, k2⟩ := K.array ht hu
        have hsum : ∀ (l : List Nat), (l.map fun _ => P.cellsOf e).sum = l.length * P.cellsOf e := by
          intro l
          induction l with
          | nil => simp
          | cons a l ih => simp only [List.map_cons, List.sum_cons, ih, List.length_cons, Nat.add_mul, Nat.one_mul]; omega
        have htk : ∀ j, j ≤ m → (((List.range m).take j).map fun _ => P.cellsOf e).sum = j * P.cellsOf e := fun j hj => by
          rw [hsum, List.length_take, List.length_range, Nat.min_eq_left hj]
        obtain ⟨vs, v1, v2, v3⟩ := tile (m := memOf W g0) (fun _ : Nat => P.cellsOf e) (fun _ vs => Shp P n e vs) (List.range m) cs (by rw [hl, k2, hsum, List.length_range]) (fun j i hi => by
          have hjl : j < m := by have := (List.getElem?_eq_some_iff.1 hi).1; simpa using this
          have hij : i = j := by simp [hjl] at hi; exact hi.symm
          subst hij
          obtain ⟨y, hy⟩ := mapM_all hxs i (by simpa using hjl)
          obtain ⟨vs, w1, _, w3⟩ := ih _ _ _ k1 hy
          rw [htk i (Nat.le_of_lt hjl)]
          exact ⟨vs, w1, w3⟩)
        refine ⟨vs, v1, v2, ?_⟩
        simp only [Shp, hu]
        refine ⟨by rw [v2, hl], fun i hi => ?_⟩
        have := v3 i i (by simp [hi])
        rwa [htk i (Nat.le_of_lt hi)] at this
      · cases h
    · cases h
end Go.Ab
