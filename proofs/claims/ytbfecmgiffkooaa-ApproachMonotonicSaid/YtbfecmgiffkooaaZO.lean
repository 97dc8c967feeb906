/- The plain law of shifted and translated flows; conditions: none. -/
import Derived.Test.YtbfecmgiffkooaaZM
import Derived.Test.YtbfecmgiffkooaaZI
namespace Go.Ab
set_option linter.unusedVariables false
set_option linter.unusedSimpArgs false
set_option linter.unusedVariables false
set_option linter.unusedSectionVars false
theorem sub_nrm {a b : Iv} (ha : a.isW = false) (hb : b.isW = false) : a.sub b = Iv.new (a.lo - b.hi) (a.hi - b.lo) := by
  unfold Iv.sub Iv.add
  rw [neg_isW, ha, hb]
  simp only [Bool.or_self, Bool.false_eq_true, if_false]
  rfl
theorem notW_lo {a : Iv} (h : -2147483648 < a.lo) : a.isW = false := by
  unfold Iv.isW
  have : (a.lo == -2147483648) = false := by rw [beq_eq_false_iff_ne]; omega
  rw [this]; rfl
def NarB (a : Iv) : Prop := -1048576 < a.lo ∧ a.lo ≤ a.hi ∧ a.hi < 1248576
def mv (v : Int) (a : Iv) : Iv := a.add (Iv.new v v)
theorem mv_eq {v : Int} {a : Iv} (h : NarB a) (h1 : -4194304 < v) (h2 : v < 4194304) : mv v a = ⟨a.lo + v, a.hi + v⟩ := by
  obtain ⟨a1, a2, a3⟩ := h
  have e : Iv.new v v = ⟨v, v⟩ := new_num (by unfold number; omega) (by unfold number; omega)
  unfold mv Iv.add
  rw [e, notW_lo (a := a) (by omega), notW_lo (a := ⟨v, v⟩) (by simp only; omega)]
  simp only [Bool.or_self, Bool.false_eq_true, if_false]
  exact new_num (by unfold number; omega) (by unfold number; omega)
def shS (t v : Int) (s : Seg) : Seg := ⟨s.t + t, s.h, s.frm.map (mv v), s.pre.map (mv v), s.tube.map (mv v), s.to.map (mv v)⟩
def NarS (l : List Seg) : Prop := ∀ s ∈ l, ∀ a ∈ s.tube, NarB a
theorem ite_gt (a b t : Int) : (if a + t > b + t then a + t else b + t) = (if a > b then a else b) + t := by
  by_cases h : a > b
  · rw [if_pos h, if_pos (by omega)]
  · rw [if_neg h, if_neg (by omega)]
theorem ite_lt (a b t : Int) : (if a + t < b + t then a + t else b + t) = (if a < b then a else b) + t := by
  by_cases h : a < b
  · rw [if_pos h, if_pos (by omega)]
  · rw [if_neg h, if_neg (by omega)]
section
variable {t v : Int} (v1 : -4194304 < v) (v2 : v < 4194304)
include v1 v2
theorem mv_sub {a b : Iv} (ha : NarB a) (hb : NarB b) : (mv v a).sub (mv v b) = a.sub b := by
  have na := ha
  have nb := hb
  rw [mv_eq ha v1 v2, mv_eq hb v1 v2]
  obtain ⟨a1, a2, a3⟩ := ha
  obtain ⟨b1, b2, b3⟩ := hb
  rw [sub_nrm (notW_lo (by simp only; omega)) (notW_lo (by simp only; omega)), sub_nrm (notW_lo (by omega)) (notW_lo (by omega))]
  simp only
  congr 1 <;> omega
theorem mv_gap {a b : Iv} (ha : NarB a) (hb : NarB b) (d : Int) : gap d (mv v a, mv v b) = gap d (a, b) := by
  rw [mv_eq ha v1 v2, mv_eq hb v1 v2]
  obtain ⟨a1, a2, a3⟩ := ha
  obtain ⟨b1, b2, b3⟩ := hb
  unfold gap
  rw [notW_lo (a := a) (by omega), notW_lo (a := b) (by omega), notW_lo (a := ⟨a.lo + v, a.hi + v⟩) (by simp only; omega), notW_lo (a := ⟨b.lo + v, b.hi + v⟩) (by simp only; omega)]
  simp only [Bool.not_false, Bool.true_and]
  congr 1 <;> (apply decide_eq_decide.2; omega)
theorem sqdFrom_mv : ∀ (l : List (Iv × Iv)) (s : Iv), (∀ p ∈ l, NarB p.1 ∧ NarB p.2) → sqdFrom s (l.map (Prod.map (mv v) (mv v))) = sqdFrom s l
  | [], _, _ => rfl
  | (x, y) :: l, s, h => by
    have h1 := h (x, y) (by simp)
    simp only [List.map_cons, Prod.map, sqdFrom]
    rw [mv_sub v1 v2 h1.1 h1.2, ← sqdFrom_mv l _ fun p hp => h p (by simp [hp])]
theorem gaps_mv (d : Int) : ∀ (l : List (Iv × Iv)), (∀ p ∈ l, NarB p.1 ∧ NarB p.2) → (l.map (Prod.map (mv v) (mv v))).any (gap d) = l.any (gap d)
  | [], _ => rfl
  | (x, y) :: l, h => by
    have h1 := h (x, y) (by simp)
    simp only [List.map_cons, List.any_cons, Prod.map]
    rw [mv_gap v1 v2 h1.1 h1.2, ← gaps_mv d l fun p hp => h p (by simp [hp])]
theorem pair_mv {x r : Seg} (hx : ∀ a ∈ x.tube, NarB a) (hr : ∀ a ∈ r.tube, NarB a) (pos : Nat) (d : Int) : dist pos (shS t v x, shS t v r) = dist pos (x, r) ∧ nears pos d (shS t v x, shS t v r) = nears pos d (x, r) := by
  have hz : ((x.tube.map (mv v)).take pos).zip ((r.tube.map (mv v)).take pos) = ((x.tube.take pos).zip (r.tube.take pos)).map (Prod.map (mv v) (mv v)) := by
    rw [← List.map_take, ← List.map_take, List.zip_map]
  have hn : ∀ p ∈ (x.tube.take pos).zip (r.tube.take pos), NarB p.1 ∧ NarB p.2 := fun p hp => by
    obtain ⟨h1, h2⟩ := List.of_mem_zip (a := p.1) (b := p.2) hp
    exact ⟨hx _ (List.mem_of_mem_take h1), hr _ (List.mem_of_mem_take h2)⟩
  have hs : sqd ((x.tube.map (mv v)).take pos) ((r.tube.map (mv v)).take pos) = sqd (x.tube.take pos) (r.tube.take pos) := by
    unfold sqd
    rw [hz, sqdFrom_mv v1 v2 _ _ hn]
  refine ⟨hs, ?_⟩
  unfold nears sepd sep
  show (!((((x.tube.map (mv v)).take pos).zip ((r.tube.map (mv v)).take pos)).any (gap d) || (!(sqd ((x.tube.map (mv v)).take pos) ((r.tube.map (mv v)).take pos)).isW && decide ((sqd ((x.tube.map (mv v)).take pos) ((r.tube.map (mv v)).take pos)).lo > ce (d * d))))) = _
  rw [hz, gaps_mv v1 v2 d _ hn, hs]
theorem sh_up {l : List Seg} (h : upT l) : upT (l.map (shS t v)) := by
  unfold upT at *
  rw [List.pairwise_map]
  refine List.Pairwise.imp (fun {x y} h => ?_) h
  simp only [shS, Seg.fin] at *
  omega
theorem sh_pos {l : List Seg} (h : posH l) : posH (l.map (shS t v)) := fun x hx => by
  obtain ⟨y, hy, rfl⟩ := List.mem_map.1 hx
  exact h y hy
theorem shift_all {a b : List Seg} (ha : upT a) (hb : upT b) (pa : posH a) (pb : posH b) (na : NarS a) (nb : NarS b) (pos : Nat) (d : Int) :
    minD (a.map (shS t v)) (b.map (shS t v)) pos = minD a b pos ∧ classP (a.map (shS t v)) (b.map (shS t v)) pos d = classP a b pos d ∧
      closeP (a.map (shS t v)) (b.map (shS t v)) pos d = (closeP a b pos d).map fun z => ⟨z.lo + t, z.hi + t⟩ := by
  have hc := sh_up (t := t) v1 v2 ha
  have he := sh_up (t := t) v1 v2 hb
  have pc := sh_pos (t := t) v1 v2 pa
  have pe := sh_pos (t := t) v1 v2 pb
  have hm : ∀ x r, (shS t v x, shS t v r) ∈ prod (a.map (shS t v)) (b.map (shS t v)) ↔ ∃ y s, (y, s) ∈ prod a b ∧ shS t v y = shS t v x ∧ shS t v s = shS t v r := fun x r => by
    rw [prod_mem_iff hc he pc pe]
    simp only [List.mem_map]
    constructor
    · rintro ⟨⟨y, hy, ey⟩, ⟨s, hs, es⟩, h3, h4⟩
      refine ⟨y, s, (prod_mem_iff ha hb pa pb).2 ⟨hy, hs, ?_, ?_⟩, ey, es⟩
      · rw [← ey, ← es] at h3; simp only [shS, Seg.fin] at h3 ⊢; omega
      · rw [← ey, ← es] at h4; simp only [shS, Seg.fin] at h4 ⊢; omega
    · rintro ⟨y, s, hp, ey, es⟩
      obtain ⟨h1, h2, h3, h4⟩ := (prod_mem_iff ha hb pa pb).1 hp
      refine ⟨⟨y, h1, ey⟩, ⟨s, h2, es⟩, ?_, ?_⟩ <;> rw [← ey, ← es] <;> simp only [shS, Seg.fin] at h3 h4 ⊢ <;> omega
  have hp : ∀ p, p ∈ prod (a.map (shS t v)) (b.map (shS t v)) ↔ ∃ q ∈ prod a b, p = (shS t v q.1, shS t v q.2) := fun p => by
    constructor
    · intro h
      obtain ⟨h1, h2, _⟩ := prod_mem h
      obtain ⟨y, hy, ey⟩ := List.mem_map.1 h1
      obtain ⟨s, hs, es⟩ := List.mem_map.1 h2
      have : p = (shS t v y, shS t v s) := by obtain ⟨p1, p2⟩ := p; simp only at ey es; rw [ey, es]
      rw [this] at h
      obtain ⟨y', s', h', ey', es'⟩ := (hm y s).1 h
      exact ⟨(y', s'), h', by rw [this]; simp only [ey', es']⟩
    · rintro ⟨q, hq, rfl⟩
      exact (hm q.1 q.2).2 ⟨q.1, q.2, hq, rfl, rfl⟩
  have hd : ∀ q ∈ prod a b, dist pos (shS t v q.1, shS t v q.2) = dist pos q ∧ nears pos d (shS t v q.1, shS t v q.2) = nears pos d q := fun q hq => by
    obtain ⟨h1, h2, _⟩ := prod_mem hq
    exact pair_mv (t := t) v1 v2 (na _ h1) (nb _ h2) pos d
  have ht : ∀ q : Seg × Seg, timeOf (shS t v q.1) (shS t v q.2) = ⟨(timeOf q.1 q.2).lo + t, (timeOf q.1 q.2).hi + t⟩ := fun q => by
    have ef : ∀ x : Seg, (shS t v x).fin = x.fin + t := fun x => by simp only [shS, Seg.fin]; omega
    unfold timeOf
    rw [ef, ef, show (shS t v q.1).t = q.1.t + t from rfl, show (shS t v q.2).t = q.2.t + t from rfl, ite_gt, ite_lt]
  have e1 : minD (a.map (shS t v)) (b.map (shS t v)) pos = minD a b pos := by
    rw [minD_of hc he pc pe, minD_of ha hb pa pb]
    refine minOf_ext fun u => ?_
    simp only [List.mem_map]
    constructor
    · rintro ⟨p, h, rfl⟩
      obtain ⟨q, hq, rfl⟩ := (hp p).1 h
      exact ⟨q, hq, (hd q hq).1.symm⟩
    · rintro ⟨q, hq, rfl⟩
      exact ⟨_, (hp _).2 ⟨q, hq, rfl⟩, (hd q hq).1⟩
  have e3 : closeP (a.map (shS t v)) (b.map (shS t v)) pos d = (closeP a b pos d).map fun z => ⟨z.lo + t, z.hi + t⟩ := by
    obtain ⟨k1, k2, k3⟩ := close_spec hc he pc pe pos d
    obtain ⟨m1, m2, m3⟩ := close_spec ha hb pa pb pos d
    refine apart_ext _ _ k1 ?_ k2 (fun z hz => ?_) fun x => ?_
    · unfold apartI at *
      rw [List.pairwise_map]
      exact List.Pairwise.imp (fun {z w} h => by simp only; omega) m1
    · obtain ⟨y, hy, rfl⟩ := List.mem_map.1 hz
      have := m2 y hy
      simp only; omega
    · rw [k3]
      have hx : hits ((closeP a b pos d).map fun z => ⟨z.lo + t, z.hi + t⟩) x ↔ hits (closeP a b pos d) (x - 2 * t) := by
        unfold hits
        simp only [List.mem_map]
        constructor
        · rintro ⟨z, ⟨y, hy, rfl⟩, h1, h2⟩
          simp only at h1 h2
          exact ⟨y, hy, by omega, by omega⟩
        · rintro ⟨y, hy, h1, h2⟩
          exact ⟨_, ⟨y, hy, rfl⟩, by simp only; omega, by simp only; omega⟩
      rw [hx, m3]
      constructor
      · rintro ⟨p, h, hn, h1, h2⟩
        obtain ⟨q, hq, rfl⟩ := (hp p).1 h
        simp only [ht q] at h1 h2
        rw [(hd q hq).2] at hn
        exact ⟨q, hq, hn, by omega, by omega⟩
      · rintro ⟨q, hq, hn, h1, h2⟩
        refine ⟨_, (hp _).2 ⟨q, hq, rfl⟩, by rw [(hd q hq).2]; exact hn, ?_, ?_⟩ <;> simp only [ht q] <;> omega
  refine ⟨e1, ?_, e3⟩
  have h3 := close_empty (a.map (shS t v)) (b.map (shS t v)) pos d
  have h4 := close_empty a b pos d
  rw [e3] at h3
  have he' : ((closeP a b pos d).map fun z => (⟨z.lo + t, z.hi + t⟩ : Iv)).isEmpty = (closeP a b pos d).isEmpty := by cases closeP a b pos d <;> rfl
  rw [he', h4] at h3
  have : (pairsOf (a.map (shS t v)) (b.map (shS t v))).any (nears pos d) = (pairsOf a b).any (nears pos d) := by
    cases h5 : (pairsOf a b).any (nears pos d) <;> cases h6 : (pairsOf (a.map (shS t v)) (b.map (shS t v))).any (nears pos d) <;> rw [h5, h6] at h3 <;> first | rfl | cases h3
  unfold classP verd
  rw [e1, this]
end
theorem shift_common (a b : List Seg) (t v : Int) : (commonT (a.map (shS t v)) (b.map (shS t v))).2 = (commonT a b).2 ∧ ((commonT a b).2 = true → (commonT (a.map (shS t v)) (b.map (shS t v))).1 = ⟨(commonT a b).1.lo + t, (commonT a b).1.hi + t⟩) := by
  have hh : ∀ l : List Seg, (l.map (shS t v)).head? = l.head?.map (shS t v) := fun l => List.head?_map
  have hl : ∀ l : List Seg, (l.map (shS t v)).getLast? = l.getLast?.map (shS t v) := fun l => List.getLast?_map
  unfold commonT
  rw [hh a, hh b, hl a, hl b]
  cases a.head? <;> cases a.getLast? <;> cases b.head? <;> cases b.getLast? <;> simp only [Option.map_none, Option.map_some, true_and] <;> first
    | exact ⟨rfl, fun h => by cases h⟩
    | skip
  all_goals try (intro h; cases h; done)
  rename_i x x' y y'
  have e : ∀ (x x' y y' : Int), isect ⟨x + t, x' + t⟩ ⟨y + t, y' + t⟩ = isect ⟨x, x'⟩ ⟨y, y'⟩ := fun x x' y y' => by
    unfold isect
    simp only
    rw [ite_gt, ite_lt]
    congr 1
    apply decide_eq_decide.2
    omega
  have ef : ∀ x : Seg, (shS t v x).fin = x.fin + t := fun x => by simp only [shS, Seg.fin]; omega
  rw [ef, ef, show (shS t v x).t = x.t + t from rfl, show (shS t v y).t = y.t + t from rfl, e]
  refine ⟨rfl, fun h => ?_⟩
  unfold inter
  rw [e, h]
  simp only [cond_true]
  rw [ite_gt, ite_lt]
end Go.Ab
