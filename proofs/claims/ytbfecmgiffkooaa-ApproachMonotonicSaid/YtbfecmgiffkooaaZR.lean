/- The plain law of wider boxes and smaller distances; conditions: none. -/
import Derived.Test.YtbfecmgiffkooaaZO
namespace Go.Ab
set_option linter.unusedVariables false
set_option linter.unusedSimpArgs false
set_option linter.unusedVariables false
set_option linter.unusedSectionVars false
def wid (w : Int) (a : Iv) : Iv := if a.isW then a else Iv.new (a.lo - w) (a.hi + w)
def wdS (w : Int) (s : Seg) : Seg := ⟨s.t, s.h, s.frm, s.pre, s.tube.map (wid w), s.to⟩
theorem wid_eq {w : Int} {a : Iv} (h : NarB a) (h1 : 0 ≤ w) (h2 : w ≤ 65535) : wid w a = ⟨a.lo - w, a.hi + w⟩ := by
  obtain ⟨a1, a2, a3⟩ := h
  unfold wid
  rw [notW_lo (a := a) (by omega)]
  simp only [Bool.false_eq_true, if_false]
  exact new_num (by unfold number; omega) (by unfold number; omega)
theorem fl_mono {a b : Int} (h : a ≤ b) : fl a ≤ fl b := by unfold fl; omega
theorem ce_mono {a b : Int} (h : a ≤ b) : ce a ≤ ce b := by unfold ce; omega
theorem fl_ce2 {a b : Int} (h : a ≤ b) : fl a ≤ ce b := by unfold fl ce; omega
theorem ce_nn {a : Int} (h : 0 ≤ a) : 0 ≤ ce a := by unfold ce; omega
theorem fl_nn {a : Int} (h : 0 ≤ a) : 0 ≤ fl a := by unfold fl; omega
/-- An enclosure within an enclosure. -/
def Wi (a b : Iv) : Prop := 0 ≤ a.lo ∧ b.lo ≤ a.lo ∧ a.lo ≤ a.hi ∧ a.hi ≤ b.hi ∧ 0 ≤ b.lo
section
variable {w : Int} (w1 : 0 ≤ w) (w2 : w ≤ 65535)
include w1 w2
theorem sub_wid {x y : Iv} (hx : NarB x) (hy : NarB y) : (wid w x).sub y = ⟨x.lo - w - y.hi, x.hi + w - y.lo⟩ ∧ x.sub y = ⟨x.lo - y.hi, x.hi - y.lo⟩ := by
  have nx := hx
  rw [wid_eq hx w1 w2]
  obtain ⟨a1, a2, a3⟩ := hx
  obtain ⟨b1, b2, b3⟩ := hy
  refine ⟨?_, ?_⟩
  · rw [sub_nrm (notW_lo (by simp only; omega)) (notW_lo (by omega))]
    show Iv.new (x.lo - w - y.hi) (x.hi + w - y.lo) = _
    exact new_num (by unfold number; omega) (by unfold number; omega)
  · rw [sub_nrm (notW_lo (by omega)) (notW_lo (by omega))]
    exact new_num (by unfold number; omega) (by unfold number; omega)
theorem sq_wid {x y : Iv} (hx : NarB x) (hy : NarB y) (h : ((wid w x).sub y).sq.isW = false) : Wi (x.sub y).sq ((wid w x).sub y).sq ∧ (x.sub y).sq.isW = false := by
  obtain ⟨e1, e2⟩ := sub_wid w1 w2 hx hy
  obtain ⟨a1, a2, a3⟩ := hx
  obtain ⟨b1, b2, b3⟩ := hy
  rw [e1] at h ⊢
  rw [e2]
  unfold Iv.sq at h ⊢
  rw [notW_lo (a := ⟨x.lo - w - y.hi, x.hi + w - y.lo⟩) (by simp only; omega)] at h ⊢
  rw [notW_lo (a := ⟨x.lo - y.hi, x.hi - y.lo⟩) (by simp only; omega)]
  simp only [Bool.false_eq_true, if_false] at h ⊢
  obtain ⟨e, n1, n2⟩ := new_notW h
  have k1 : (⟨x.lo - w - y.hi, x.hi + w - y.lo⟩ : Iv).near * (⟨x.lo - w - y.hi, x.hi + w - y.lo⟩ : Iv).near ≤ (⟨x.lo - y.hi, x.hi - y.lo⟩ : Iv).near * (⟨x.lo - y.hi, x.hi - y.lo⟩ : Iv).near := by
    refine sq_le ?_ ?_ <;> simp only [Iv.near] <;> omega
  have k2 : (⟨x.lo - y.hi, x.hi - y.lo⟩ : Iv).near * (⟨x.lo - y.hi, x.hi - y.lo⟩ : Iv).near ≤ (⟨x.lo - y.hi, x.hi - y.lo⟩ : Iv).far * (⟨x.lo - y.hi, x.hi - y.lo⟩ : Iv).far := by
    refine sq_le ?_ ?_ <;> simp only [Iv.near, Iv.far] <;> omega
  have k3 : (⟨x.lo - y.hi, x.hi - y.lo⟩ : Iv).far * (⟨x.lo - y.hi, x.hi - y.lo⟩ : Iv).far ≤ (⟨x.lo - w - y.hi, x.hi + w - y.lo⟩ : Iv).far * (⟨x.lo - w - y.hi, x.hi + w - y.lo⟩ : Iv).far := by
    refine sq_le ?_ ?_ <;> simp only [Iv.far] <;> omega
  have m1 := fl_mono k1
  have m2 := fl_ce2 k2
  have m3 := ce_mono k3
  have m4 := fl_nn (sq_nn (⟨x.lo - w - y.hi, x.hi + w - y.lo⟩ : Iv).near)
  unfold number at n1 n2
  have e' : Iv.new (fl ((⟨x.lo - y.hi, x.hi - y.lo⟩ : Iv).near * (⟨x.lo - y.hi, x.hi - y.lo⟩ : Iv).near)) (ce ((⟨x.lo - y.hi, x.hi - y.lo⟩ : Iv).far * (⟨x.lo - y.hi, x.hi - y.lo⟩ : Iv).far)) = ⟨_, _⟩ := new_num (by unfold number; omega) (by unfold number; omega)
  rw [e', e]
  refine ⟨⟨?_, ?_, ?_, ?_, ?_⟩, notW_lo ?_⟩ <;> simp only <;> omega
theorem sqdFrom_wid : ∀ (l : List (Iv × Iv)) (acc acc' : Iv), (∀ p ∈ l, NarB p.1 ∧ NarB p.2) → Wi acc acc' → acc.isW = false → (sqdFrom acc' (l.map (Prod.map (wid w) id))).isW = false → Wi (sqdFrom acc l) (sqdFrom acc' (l.map (Prod.map (wid w) id))) ∧ (sqdFrom acc l).isW = false
  | [], acc, acc', _, h, h2, _ => ⟨h, h2⟩
  | (x, y) :: l, acc, acc', hn, h, h2, hw => by
    have hxy : NarB x ∧ NarB y := hn (x, y) (by simp)
    simp only [List.map_cons, Prod.map, id, sqdFrom] at hw ⊢
    have hacc : (acc'.add ((wid w x).sub y).sq).isW = false := by
      cases k : (acc'.add ((wid w x).sub y).sq).isW with
      | false => rfl
      | true => rw [isW_eq k, sqdFrom_W] at hw; cases hw
    have e1 : acc'.isW = false ∧ ((wid w x).sub y).sq.isW = false ∧ acc'.add ((wid w x).sub y).sq = Iv.new (acc'.lo + ((wid w x).sub y).sq.lo) (acc'.hi + ((wid w x).sub y).sq.hi) := by
      unfold Iv.add at hacc ⊢
      cases k : acc'.isW <;> cases k2 : ((wid w x).sub y).sq.isW <;> rw [k, k2] at hacc <;> first | exact ⟨rfl, rfl, rfl⟩ | cases hacc
    obtain ⟨q1, q2⟩ := sq_wid w1 w2 hxy.1 hxy.2 e1.2.1
    rw [e1.2.2] at hacc
    obtain ⟨e2, n1, n2⟩ := new_notW hacc
    have e3 : acc.add (x.sub y).sq = ⟨acc.lo + (x.sub y).sq.lo, acc.hi + (x.sub y).sq.hi⟩ := by
      unfold Iv.add
      rw [h2, q2]
      simp only [Bool.or_self, Bool.false_eq_true, if_false]
      unfold Wi at h q1
      unfold number at n1 n2
      exact new_num (by unfold number; omega) (by unfold number; omega)
    refine sqdFrom_wid l _ _ (fun p hp => hn p (by simp [hp])) ?_ ?_ hw
    · rw [e3, e1.2.2, e2]
      unfold Wi at *
      simp only
      omega
    · rw [e3]
      unfold Wi at h q1
      exact notW_lo (by simp only; omega)
theorem zip_wid (x r : List Iv) (pos : Nat) : ((x.map (wid w)).take pos).zip (r.take pos) = ((x.take pos).zip (r.take pos)).map (Prod.map (wid w) id) := by
  rw [← List.map_take]
  have := List.zip_map (f := wid w) (g := id) (l₁ := x.take pos) (l₂ := r.take pos)
  rwa [List.map_id] at this
theorem zip_nar {x r : List Iv} (hx : ∀ a ∈ x, NarB a) (hr : ∀ a ∈ r, NarB a) (pos : Nat) : ∀ p ∈ (x.take pos).zip (r.take pos), NarB p.1 ∧ NarB p.2 := fun p hp => by
  obtain ⟨h1, h2⟩ := List.of_mem_zip (a := p.1) (b := p.2) hp
  exact ⟨hx _ (List.mem_of_mem_take h1), hr _ (List.mem_of_mem_take h2)⟩
theorem dist_wid {x r : Seg} (hx : ∀ a ∈ x.tube, NarB a) (hr : ∀ a ∈ r.tube, NarB a) (pos : Nat) (h : (dist pos (wdS w x, r)).isW = false) : Wi (dist pos (x, r)) (dist pos (wdS w x, r)) ∧ (dist pos (x, r)).isW = false := by
  unfold dist sqd at *
  show Wi (sqdFrom ⟨0, 0⟩ ((x.tube.take pos).zip (r.tube.take pos))) (sqdFrom ⟨0, 0⟩ (((x.tube.map (wid w)).take pos).zip (r.tube.take pos))) ∧ _
  have h' : (sqdFrom ⟨0, 0⟩ (((x.tube.map (wid w)).take pos).zip (r.tube.take pos))).isW = false := h
  rw [zip_wid w1 w2] at h' ⊢
  exact sqdFrom_wid w1 w2 _ _ _ (zip_nar w1 w2 hx hr pos) ⟨by simp, by simp, by simp, by simp, by simp⟩ rfl h'
theorem dist_nn {x r : Seg} (hx : ∀ a ∈ x.tube, NarB a) (hr : ∀ a ∈ r.tube, NarB a) (pos : Nat) (h : (dist pos (x, r)).isW = false) : 0 ≤ (dist pos (x, r)).lo ∧ (dist pos (x, r)).lo < 2147483648 ∧ (dist pos (x, r)).hi ≤ 2147483648 ∧ 0 ≤ (dist pos (x, r)).hi := by
  have key : ∀ (l : List (Iv × Iv)) (acc : Iv), (∀ p ∈ l, NarB p.1 ∧ NarB p.2) → 0 ≤ acc.lo → acc.lo < 2147483648 → acc.hi ≤ 2147483648 → 0 ≤ acc.hi → (sqdFrom acc l).isW = false → 0 ≤ (sqdFrom acc l).lo ∧ (sqdFrom acc l).lo < 2147483648 ∧ (sqdFrom acc l).hi ≤ 2147483648 ∧ 0 ≤ (sqdFrom acc l).hi := by
    intro l
    induction l with
    | nil => intro acc _ h1 h2 h3 h4 _; exact ⟨h1, h2, h3, h4⟩
    | cons p l ih =>
      intro acc hn h1 h2 h3 h4 hw
      obtain ⟨x, y⟩ := p
      simp only [sqdFrom] at hw ⊢
      have hacc : (acc.add (x.sub y).sq).isW = false := by
        cases k : (acc.add (x.sub y).sq).isW with
        | false => rfl
        | true => rw [isW_eq k, sqdFrom_W] at hw; cases hw
      have e1 : acc.isW = false ∧ (x.sub y).sq.isW = false ∧ acc.add (x.sub y).sq = Iv.new (acc.lo + (x.sub y).sq.lo) (acc.hi + (x.sub y).sq.hi) := by
        unfold Iv.add at hacc ⊢
        cases k : acc.isW <;> cases k2 : (x.sub y).sq.isW <;> rw [k, k2] at hacc <;> first | exact ⟨rfl, rfl, rfl⟩ | cases hacc
      have q0 : 0 ≤ (x.sub y).sq.lo ∧ 0 ≤ (x.sub y).sq.hi := by
        have q := e1.2.1
        unfold Iv.sq at q ⊢
        cases k : (x.sub y).isW with
        | true => rw [k] at q; simp only [if_true] at q; rw [k] at q; cases q
        | false =>
          rw [k] at q
          simp only [Bool.false_eq_true, if_false] at q ⊢
          rw [(new_notW q).1]
          exact ⟨fl_nn (sq_nn _), ce_nn (sq_nn _)⟩
      rw [e1.2.2] at hacc
      obtain ⟨e2, n1, n2⟩ := new_notW hacc
      unfold number at n1 n2
      refine ih _ (fun p hp => hn p (by simp [hp])) ?_ ?_ ?_ ?_ hw <;> rw [e1.2.2, e2] <;> simp only <;> omega
  unfold dist sqd at *
  exact key _ _ (zip_nar w1 w2 hx hr pos) (by simp) (by simp) (by simp) (by simp) h
theorem near_wid {x r : Seg} (hx : ∀ a ∈ x.tube, NarB a) (hr : ∀ a ∈ r.tube, NarB a) (pos : Nat) (d : Int) (h : nears pos d (x, r) = true) : nears pos d (wdS w x, r) = true := by
  cases hn : nears pos d (wdS w x, r) with
  | true => rfl
  | false =>
    exfalso
    unfold nears at h hn
    simp only [Bool.not_eq_false', Bool.not_eq_true'] at h hn
    unfold sepd at h hn
    rw [Bool.or_eq_false_iff] at h
    have hn2 : ((((x.tube.map (wid w)).take pos).zip (r.tube.take pos)).any (gap d) || sep ((x.tube.map (wid w)).take pos) (r.tube.take pos) d) = true := hn
    rw [Bool.or_eq_true] at hn2
    rcases hn2 with hn2 | hn2
    · rw [zip_wid w1 w2, List.any_map, List.any_eq_true] at hn2
      obtain ⟨p, hp, hg⟩ := hn2
      obtain ⟨n1, n2⟩ := zip_nar w1 w2 hx hr pos p hp
      have : gap d p = true := by
        simp only [Function.comp, Prod.map, id] at hg
        rw [wid_eq n1 w1 w2] at hg
        obtain ⟨a1, a2, a3⟩ := n1
        obtain ⟨b1, b2, b3⟩ := n2
        unfold gap at hg ⊢
        rw [notW_lo (a := p.1) (by omega), notW_lo (a := p.2) (by omega)]
        simp only [Bool.and_eq_true, Bool.or_eq_true, decide_eq_true_eq, Bool.not_false, true_and] at hg ⊢
        omega
      have k := h.1
      rw [List.any_eq_false] at k
      exact k p hp this
    · unfold sep at hn2
      simp only [Bool.and_eq_true, Bool.not_eq_true', decide_eq_true_eq] at hn2
      obtain ⟨q1, q2⟩ := dist_wid w1 w2 hx hr pos (show (dist pos (wdS w x, r)).isW = false from hn2.1)
      have k := h.2
      have q2' : (sqd (x.tube.take pos) (r.tube.take pos)).isW = false := q2
      unfold sep at k
      rw [q2'] at k
      simp only [Bool.not_false, Bool.true_and, decide_eq_false_iff_not] at k
      have q3 : (sqd ((x.tube.map (wid w)).take pos) (r.tube.take pos)).lo ≤ (sqd (x.tube.take pos) (r.tube.take pos)).lo := q1.2.1
      omega
theorem wd_up {l : List Seg} (h : upT l) : upT (l.map (wdS w)) := by
  unfold upT at *
  rw [List.pairwise_map]
  exact h
theorem wd_pos {l : List Seg} (h : posH l) : posH (l.map (wdS w)) := fun x hx => by
  obtain ⟨y, hy, rfl⟩ := List.mem_map.1 hx
  exact h y hy
end
/-- Within one interval. -/
def inOne (l m : List Iv) : Prop := ∀ z ∈ l, ∃ y ∈ m, y.lo ≤ z.lo ∧ z.hi ≤ y.hi
theorem in_one {l m : List Iv} (vl : validI l) (am : apartI m) (vm : validI m) (h : ∀ x, hits l x → hits m x) : inOne l m := fun z hz => by
  have hv := vl z hz
  obtain ⟨y, hy, k1, k2⟩ := h (2 * z.lo) ⟨z, hz, by omega, by omega⟩
  refine ⟨y, hy, by omega, ?_⟩
  rcases Int.lt_or_le y.hi z.hi with hlt | hge
  · exfalso
    obtain ⟨y', hy', j1, j2⟩ := h (2 * y.hi + 1) ⟨z, hz, by omega, by omega⟩
    obtain ⟨i, hi, rfl⟩ := List.mem_iff_getElem.1 hy
    obtain ⟨j, hj, rfl⟩ := List.mem_iff_getElem.1 hy'
    have hp := List.pairwise_iff_getElem.1 am
    have v1 := vm _ hy
    have v2 := vm _ hy'
    rcases Nat.lt_trichotomy i j with c | c | c
    · have := hp i j hi hj c; omega
    · subst c; omega
    · have := hp j i hj hi c; omega
  · exact hge
section
variable {a b : List Seg} (ha : upT a) (hb : upT b) (pa : posH a) (pb : posH b) (na : NarS a) (nb : NarS b) {w : Int} (w1 : 0 ≤ w) (w2 : w ≤ 65535)
include ha hb pa pb na nb w1 w2
theorem prod_wid (p : Seg × Seg) : p ∈ prod (a.map (wdS w)) b ↔ ∃ q ∈ prod a b, p = (wdS w q.1, q.2) := by
  rw [prod_mem_iff (wd_up w1 w2 ha) hb (wd_pos w1 w2 pa) pb]
  constructor
  · rintro ⟨h1, h2, h3, h4⟩
    obtain ⟨y, hy, e⟩ := List.mem_map.1 h1
    refine ⟨(y, p.2), (prod_mem_iff ha hb pa pb).2 ⟨hy, h2, ?_, ?_⟩, by obtain ⟨p1, p2⟩ := p; simp only at e; rw [e]⟩
    · rw [← e] at h3; exact h3
    · rw [← e] at h4; exact h4
  · rintro ⟨q, hq, rfl⟩
    obtain ⟨h1, h2, h3, h4⟩ := (prod_mem_iff ha hb pa pb).1 hq
    exact ⟨List.mem_map.2 ⟨_, h1, rfl⟩, h2, h3, h4⟩
theorem min_wid (pos : Nat) : (minD (a.map (wdS w)) b pos).2 = (minD a b pos).2 ∧ ((minD a b pos).2 = true → (minD (a.map (wdS w)) b pos).1.isW = false → (minD (a.map (wdS w)) b pos).1.lo ≤ (minD a b pos).1.lo ∧ (minD a b pos).1.hi ≤ (minD (a.map (wdS w)) b pos).1.hi) := by
  have hp := fun p => prod_wid ha hb pa pb na nb w1 w2 p
  rw [minD_of (wd_up w1 w2 ha) hb (wd_pos w1 w2 pa) pb, minD_of ha hb pa pb]
  have he : ((prod (a.map (wdS w)) b).map (dist pos)).isEmpty = ((prod a b).map (dist pos)).isEmpty := by
    cases h1 : prod a b with
    | nil => cases h2 : prod (a.map (wdS w)) b with
      | nil => rfl
      | cons p l => obtain ⟨q, hq, _⟩ := (hp p).1 (by rw [h2]; simp); rw [h1] at hq; simp at hq
    | cons q l => cases h2 : prod (a.map (wdS w)) b with
      | nil => have := (hp (wdS w q.1, q.2)).2 ⟨q, by rw [h1]; simp, rfl⟩; rw [h2] at this; simp at this
      | cons p l => rfl
  unfold minOf
  rw [he]
  cases hc : ((prod a b).map (dist pos)).isEmpty with
  | true => exact ⟨rfl, fun h => by cases h⟩
  | false =>
    refine ⟨rfl, fun _ hw => ?_⟩
    simp only [cond_false] at hw ⊢
    obtain ⟨e, n1, n2⟩ := new_notW hw
    obtain ⟨q, hq⟩ : ∃ q, q ∈ prod a b := by
      cases h1 : prod a b with
      | nil => rw [h1] at hc; cases hc
      | cons q l => exact ⟨q, by simp⟩
    have low : ∀ q ∈ prod a b, lowD (dist pos (wdS w q.1, q.2)) ≤ lowD (dist pos q) ∧ highD (dist pos q) ≤ highD (dist pos (wdS w q.1, q.2)) ∧ 0 ≤ lowD (dist pos q) ∧ lowD (dist pos q) < 2147483648 := fun q hq => by
      obtain ⟨m1, m2, _⟩ := prod_mem hq
      have hx := na _ m1
      have hr := nb _ m2
      have e : dist pos q = dist pos (q.1, q.2) := rfl
      rw [e]
      unfold lowD highD
      cases h1 : (dist pos (wdS w q.1, q.2)).isW with
      | true =>
        cases h2 : (dist pos (q.1, q.2)).isW with
        | true => simp only [if_true]; omega
        | false => have := dist_nn w1 w2 hx hr pos h2; simp only [if_true, Bool.false_eq_true, if_false]; omega
      | false =>
        obtain ⟨k1, k2⟩ := dist_wid w1 w2 hx hr pos h1
        have := dist_nn w1 w2 hx hr pos k2
        rw [k2]
        unfold Wi at k1
        simp only [Bool.false_eq_true, if_false]
        omega
    have l1 : minF (((prod (a.map (wdS w)) b).map (dist pos)).map lowD) 2147483648 ≤ minF (((prod a b).map (dist pos)).map lowD) 2147483648 := by
      obtain ⟨c1, c2, c3⟩ := minF_spec (((prod a b).map (dist pos)).map lowD) 2147483648
      obtain ⟨d1, d2, _⟩ := minF_spec (((prod (a.map (wdS w)) b).map (dist pos)).map lowD) 2147483648
      rcases c3 with c3 | c3
      · omega
      · simp only [List.mem_map] at c3
        obtain ⟨v, ⟨q, hq, rfl⟩, ev⟩ := c3
        have k1 := d2 (lowD (dist pos (wdS w q.1, q.2))) (List.mem_map.2 ⟨_, List.mem_map.2 ⟨_, (hp _).2 ⟨q, hq, rfl⟩, rfl⟩, rfl⟩)
        have := low q hq
        omega
    have l2 : minF (((prod a b).map (dist pos)).map highD) 2147483648 ≤ minF (((prod (a.map (wdS w)) b).map (dist pos)).map highD) 2147483648 := by
      obtain ⟨c1, c2, _⟩ := minF_spec (((prod a b).map (dist pos)).map highD) 2147483648
      obtain ⟨d1, d2, d3⟩ := minF_spec (((prod (a.map (wdS w)) b).map (dist pos)).map highD) 2147483648
      rcases d3 with d3 | d3
      · omega
      · simp only [List.mem_map] at d3
        obtain ⟨v, ⟨p, hp', rfl⟩, ev⟩ := d3
        obtain ⟨q, hq, rfl⟩ := (hp p).1 hp'
        have k1 := c2 (highD (dist pos q)) (List.mem_map.2 ⟨_, List.mem_map.2 ⟨_, hq, rfl⟩, rfl⟩)
        have := low q hq
        omega
    have l3 : minF (((prod a b).map (dist pos)).map lowD) 2147483648 < 2147483648 := by
      have k1 := (minF_spec (((prod a b).map (dist pos)).map lowD) 2147483648).2.1 (lowD (dist pos q)) (List.mem_map.2 ⟨_, List.mem_map.2 ⟨_, hq, rfl⟩, rfl⟩)
      have := low q hq
      omega
    have l4 : -2147483648 < minF (((prod a b).map (dist pos)).map highD) 2147483648 ∨ minF (((prod a b).map (dist pos)).map highD) 2147483648 ≤ -2147483648 := by omega
    rw [e]
    by_cases hk : number (minF (((prod a b).map (dist pos)).map lowD) 2147483648) ∧ number (minF (((prod a b).map (dist pos)).map highD) 2147483648)
    · rw [new_num hk.1 hk.2]
      exact ⟨l1, l2⟩
    · exfalso
      apply hk
      unfold number at n1 n2 ⊢
      have hh : 0 ≤ minF (((prod a b).map (dist pos)).map highD) 2147483648 := by
        rcases (minF_spec (((prod a b).map (dist pos)).map highD) 2147483648).2.2 with c | c
        · omega
        · simp only [List.mem_map] at c
          obtain ⟨v, ⟨q, hq, rfl⟩, ev⟩ := c
          obtain ⟨m1, m2, _⟩ := prod_mem hq
          have e0 : dist pos q = dist pos (q.1, q.2) := rfl
          rw [← ev, e0]
          unfold highD
          cases h2 : (dist pos (q.1, q.2)).isW with
          | true => simp only [if_true]; omega
          | false =>
            simp only [Bool.false_eq_true, if_false]
            have zz := dist_nn w1 w2 (na _ m1) (nb _ m2) pos h2
            omega
      omega
theorem close_wid (pos : Nat) (d : Int) : inOne (closeP a b pos d) (closeP (a.map (wdS w)) b pos d) ∧ ((pairsOf a b).any (nears pos d) = true → (pairsOf (a.map (wdS w)) b).any (nears pos d) = true) := by
  have hp := fun p => prod_wid ha hb pa pb na nb w1 w2 p
  obtain ⟨_, k2, k3⟩ := close_spec ha hb pa pb pos d
  obtain ⟨m1, m2, m3⟩ := close_spec (wd_up w1 w2 ha) hb (wd_pos w1 w2 pa) pb pos d
  refine ⟨in_one k2 m1 m2 fun x hx => ?_, fun h => ?_⟩
  · obtain ⟨q, hq, hn, h1, h2⟩ := (k3 x).1 hx
    obtain ⟨n1, n2, _⟩ := prod_mem hq
    exact (m3 x).2 ⟨_, (hp _).2 ⟨q, hq, rfl⟩, near_wid w1 w2 (na _ n1) (nb _ n2) pos d hn, h1, h2⟩
  · obtain ⟨q, hq, hn⟩ := (near_any ha hb pa pb pos d).1 h
    obtain ⟨n1, n2, _⟩ := prod_mem hq
    exact (near_any (wd_up w1 w2 ha) hb (wd_pos w1 w2 pa) pb pos d).2 ⟨_, (hp _).2 ⟨q, hq, rfl⟩, near_wid w1 w2 (na _ n1) (nb _ n2) pos d hn⟩
end
theorem near_less {x r : Seg} (pos : Nat) {d e : Int} (h0 : 0 ≤ e) (h1 : e ≤ d) (h : nears pos e (x, r) = true) : nears pos d (x, r) = true := by
  cases hn : nears pos d (x, r) with
  | true => rfl
  | false =>
    exfalso
    unfold nears at h hn
    simp only [Bool.not_eq_false', Bool.not_eq_true'] at h hn
    unfold sepd at h hn
    rw [Bool.or_eq_false_iff] at h
    rw [Bool.or_eq_true] at hn
    rcases hn with hn | hn
    · rw [List.any_eq_true] at hn
      obtain ⟨p, hp, hg⟩ := hn
      have k := h.1
      rw [List.any_eq_false] at k
      refine k p hp ?_
      unfold gap at hg ⊢
      simp only [Bool.and_eq_true, Bool.or_eq_true, decide_eq_true_eq] at hg ⊢
      exact ⟨hg.1, hg.2.1, by omega⟩
    · have k := h.2
      unfold sep at hn k
      simp only [Bool.and_eq_true, decide_eq_true_eq] at hn
      rw [hn.1] at k
      simp only [Bool.true_and, decide_eq_false_iff_not] at k
      have : e * e ≤ d * d := Int.mul_le_mul h1 h1 h0 (by omega)
      have := ce_mono this
      omega
section
variable {a b : List Seg} (ha : upT a) (hb : upT b) (pa : posH a) (pb : posH b)
include ha hb pa pb
theorem close_less (pos : Nat) {d e : Int} (h0 : 0 ≤ e) (h1 : e ≤ d) : inOne (closeP a b pos e) (closeP a b pos d) ∧ ((pairsOf a b).any (nears pos e) = true → (pairsOf a b).any (nears pos d) = true) := by
  obtain ⟨_, k2, k3⟩ := close_spec ha hb pa pb pos e
  obtain ⟨m1, m2, m3⟩ := close_spec ha hb pa pb pos d
  refine ⟨in_one k2 m1 m2 fun x hx => ?_, fun h => ?_⟩
  · obtain ⟨q, hq, hn, h1', h2⟩ := (k3 x).1 hx
    exact (m3 x).2 ⟨q, hq, near_less (x := q.1) (r := q.2) pos h0 h1 hn, h1', h2⟩
  · obtain ⟨q, hq, hn⟩ := (near_any ha hb pa pb pos e).1 h
    exact (near_any ha hb pa pb pos d).2 ⟨q, hq, near_less (x := q.1) (r := q.2) pos h0 h1 hn⟩
end
theorem class_cases (a b : List Seg) (pos : Nat) (d : Int) : (classP a b pos d = 1 ↔ (pairsOf a b).any (nears pos d) = false) ∧ (classP a b pos d = -1 ↔ (pairsOf a b).any (nears pos d) = true ∧ (minD a b pos).1.isW = false ∧ (minD a b pos).1.hi < fl (d * d)) := by
  unfold classP verd
  cases (pairsOf a b).any (nears pos d) with
  | false => simp
  | true =>
    simp only [cond_true, Bool.true_eq_false, iff_false, true_and]
    by_cases h : (minD a b pos).1.isW = false ∧ (minD a b pos).1.hi < fl (d * d)
    · rw [if_pos h]; exact ⟨by decide, ⟨fun _ => h, fun _ => rfl⟩⟩
    · rw [if_neg h]; exact ⟨by decide, ⟨fun k => absurd k (by decide), fun k => absurd k h⟩⟩
end Go.Ab
