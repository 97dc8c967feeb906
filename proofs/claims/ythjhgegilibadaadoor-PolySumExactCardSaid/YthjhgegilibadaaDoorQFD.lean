/- The statement on exact sums answers true; conditions: bytes; lengths of slices. -/
import Derived.Test.YthjhgegilibadaaDoorQED
import Derived.Test.YthjhgegilibadaaDoorER2D
namespace Go.Ab
set_option linter.unusedVariables false
set_option linter.unusedSimpArgs false
set_option linter.unusedSimpArgs false
set_option linter.unusedVariables false
theorem valT_add (z : Pt) (c d : Int) (x : E6) : valT z ⟨c + d, x⟩ = valT z ⟨c, x⟩ + valT z ⟨d, x⟩ := by
  unfold valT prodT
  simp only [Int.add_mul]
theorem valT_zero (z : Pt) {t : Tm} (h : t.c = 0) : valT z t = 0 := by
  unfold valT prodT
  simp only [h, Int.zero_mul]
theorem valP_cons (t : Tm) (p : List Tm) (z : Pt) : valP (t :: p) z = valT z t + valP p z := rfl
theorem val_merge (z : Pt) : ∀ (n : Nat) (a b : List Tm), a.length + b.length ≤ n → oks a → oks b → valP (merge a b) z = valP a z + valP b z := by
  intro n
  induction n with
  | zero =>
    intro a b h _ _
    rw [List.length_eq_zero_iff.1 (show a.length = 0 by omega), List.length_eq_zero_iff.1 (show b.length = 0 by omega), merge_nil]; rfl
  | succ n ih =>
    intro a b h ha hb
    cases a with
    | nil => rw [merge_nil]; show _ = (0 : Int) + _; rw [Int.zero_add]
    | cons x a =>
      cases b with
      | nil => rw [merge_nil']; show _ = _ + (0 : Int); rw [Int.add_zero]
      | cons y b =>
        have ha' : oks a := fun t ht => ha t (by simp [ht])
        have hb' : oks b := fun t ht => hb t (by simp [ht])
        have hx := ha x (by simp)
        have hy := hb y (by simp)
        simp only [List.length_cons] at h
        rw [merge_cons]
        split
        · rw [valP_cons, ih a (y :: b) (by simp only [List.length_cons]; omega) ha' hb, valP_cons x a, Int.add_assoc]
        · split
          · rw [valP_cons, ih (x :: a) b (by simp only [List.length_cons]; omega) ha hb', valP_cons y b]; omega
          · have he : x.e = y.e := E6.key_inj hx hy (by omega)
            rw [valP_cons, ih a b (by omega) ha' hb', valP_cons, valP_cons]
            have : valT z ⟨x.c + y.c, x.e⟩ = valT z x + valT z y := by
              rw [valT_add]
              have e2 : valT z ⟨y.c, x.e⟩ = valT z y := by rw [he]
              rw [e2]
            rw [this]; omega
theorem val_in {z : Pt} (hz : z.ok) {t : Tm} (hk : t.e.ok) (hd : t.e.deg ≤ 6) (hn : number t.c) : inB 562949953421312 (valT z t) :=
  (val_round [t] 0 (by simp) z 0 hz hk hd hn (by unfold inB; omega) (by omega)).2
def degs6 (p : List Tm) : Prop := ∀ t ∈ p, t.e.deg ≤ 6
theorem filter_dp6 {p : List Tm} (h : degs6 p) : p.filter (dp 6) = [] := by
  rw [List.filter_eq_nil_iff]
  intro t ht
  have := h t ht
  simp only [dp, decide_eq_true_eq, not_and, Classical.not_not]
  intro _; omega
theorem val_filter (z : Pt) : ∀ p : List Tm, degs6 p → valP (p.filter (kp 6)) z = valP p z
  | [], _ => rfl
  | t :: p, h => by
    have ih := val_filter z p fun u hu => h u (by simp [hu])
    have hd := h t (by simp)
    by_cases h0 : t.c = 0
    · rw [List.filter_cons, (dp_zero (most := 6) h0).2]
      simp only [Bool.false_eq_true, if_false]
      rw [ih, valP_cons, valT_zero z h0, Int.zero_add]
    · have hk : kp 6 t = true := by simp only [kp, decide_eq_true_eq]; exact ⟨h0, by omega⟩
      rw [List.filter_cons, hk]
      simp only [if_true]
      rw [valP_cons, valP_cons, ih]
theorem merge_mem : ∀ (n : Nat) (a b : List Tm), a.length + b.length ≤ n → ∀ t ∈ merge a b, ∃ u, (u ∈ a ∨ u ∈ b) ∧ u.e = t.e := by
  intro n
  induction n with
  | zero =>
    intro a b h t ht
    rw [List.length_eq_zero_iff.1 (show a.length = 0 by omega), List.length_eq_zero_iff.1 (show b.length = 0 by omega), merge_nil] at ht
    cases ht
  | succ n ih =>
    intro a b h t ht
    cases a with
    | nil => rw [merge_nil] at ht; exact ⟨t, .inr ht, rfl⟩
    | cons x a =>
      cases b with
      | nil => rw [merge_nil'] at ht; exact ⟨t, .inl ht, rfl⟩
      | cons y b =>
        simp only [List.length_cons] at h
        rw [merge_cons] at ht
        split at ht
        · rcases List.mem_cons.1 ht with rfl | ht
          · exact ⟨t, .inl (by simp), rfl⟩
          · obtain ⟨u, hu, he⟩ := ih a (y :: b) (by simp only [List.length_cons]; omega) t ht
            refine ⟨u, ?_, he⟩
            rcases hu with hu | hu
            · exact .inl (by simp [hu])
            · exact .inr hu
        · split at ht
          · rcases List.mem_cons.1 ht with rfl | ht
            · exact ⟨t, .inr (by simp), rfl⟩
            · obtain ⟨u, hu, he⟩ := ih (x :: a) b (by simp only [List.length_cons]; omega) t ht
              refine ⟨u, ?_, he⟩
              rcases hu with hu | hu
              · exact .inl hu
              · exact .inr (by simp [hu])
          · rcases List.mem_cons.1 ht with rfl | ht
            · exact ⟨x, .inl (by simp), rfl⟩
            · obtain ⟨u, hu, he⟩ := ih a b (by omega) t ht
              refine ⟨u, ?_, he⟩
              rcases hu with hu | hu
              · exact .inl (by simp [hu])
              · exact .inr (by simp [hu])
theorem merge_sorted : ∀ (n : Nat) (a b : List Tm), a.length + b.length ≤ n → sortedP a → sortedP b → sortedP (merge a b) := by
  intro n
  induction n with
  | zero =>
    intro a b h _ hb
    rw [List.length_eq_zero_iff.1 (show a.length = 0 by omega), merge_nil]; exact hb
  | succ n ih =>
    intro a b h ha hb
    cases a with
    | nil => rw [merge_nil]; exact hb
    | cons x a =>
      cases b with
      | nil => rw [merge_nil']; exact ha
      | cons y b =>
        obtain ⟨a1, a2⟩ := List.pairwise_cons.1 ha
        obtain ⟨b1, b2⟩ := List.pairwise_cons.1 hb
        simp only [List.length_cons] at h
        rw [merge_cons]
        split
        · rename_i hxy
          refine List.pairwise_cons.2 ⟨fun t ht => ?_, ih a (y :: b) (by simp only [List.length_cons]; omega) a2 hb⟩
          obtain ⟨u, hu, he⟩ := merge_mem _ a (y :: b) (Nat.le_refl _) t ht
          unfold keyLt
          rw [← he]
          rcases hu with hu | hu
          · exact a1 u hu
          · rcases List.mem_cons.1 hu with rfl | hu
            · exact hxy
            · exact Nat.lt_trans hxy (b1 u hu)
        · split
          · rename_i hyx
            refine List.pairwise_cons.2 ⟨fun t ht => ?_, ih (x :: a) b (by simp only [List.length_cons]; omega) ha b2⟩
            obtain ⟨u, hu, he⟩ := merge_mem _ (x :: a) b (Nat.le_refl _) t ht
            unfold keyLt
            rw [← he]
            rcases hu with hu | hu
            · rcases List.mem_cons.1 hu with rfl | hu
              · exact hyx
              · exact Nat.lt_trans hyx (a1 u hu)
            · exact b1 u hu
          · rename_i h1 h2
            refine List.pairwise_cons.2 ⟨fun t ht => ?_, ih a b (by omega) a2 b2⟩
            obtain ⟨u, hu, he⟩ := merge_mem _ a b (Nat.le_refl _) t ht
            have hk : x.e.key = y.e.key := by omega
            unfold keyLt
            rw [← he]
            rcases hu with hu | hu
            · exact a1 u hu
            · simp only; rw [hk]; exact b1 u hu
theorem degs_merge {a b : List Tm} (ha : degs6 a) (hb : degs6 b) : degs6 (merge a b) := fun t ht => by
  obtain ⟨u, hu, he⟩ := merge_mem _ a b (Nat.le_refl _) t ht
  rw [← he]
  rcases hu with hu | hu
  · exact ha u hu
  · exact hb u hu
/-- What a sum is, unless it fails. -/
theorem add_nW {a b : List Tm} (oa : oks a) (ob : oks b) (sa : sortedP a) (sb : sortedP b) (da : degs6 a) (db : degs6 b) (h : (addP a b).2.isW = false) :
    (addP a b).2 = ⟨0, 0⟩ ∧ validP (addP a b).1 ∧ ∀ z, valP (addP a b).1 z = valP a z + valP b z := by
  have hd := degs_merge da db
  obtain ⟨n1, l1, _, _, e⟩ := finish_nW h
  unfold addP
  rw [e, filter_dp6 hd]
  refine ⟨rfl, ⟨fun t ht => ?_, ?_, l1⟩, fun z => ?_⟩
  · obtain ⟨h1, h2⟩ := List.mem_filter.1 ht
    simp only [kp, decide_eq_true_eq] at h2
    exact ⟨n1 t h1, h2.1, hd t h1⟩
  · exact List.Pairwise.sublist List.filter_sublist (merge_sorted _ a b (Nat.le_refl _) sa sb)
  · rw [val_filter z _ hd, val_merge z _ a b (Nat.le_refl _) oa ob]
theorem add_W {a b : List Tm} (h : (addP a b).2.isW = true) : (addP a b).1 = [] := by
  unfold addP finish at h ⊢
  split
  · rename_i hc
    rw [if_pos hc] at h
    rw [hc.2.2] at h; cases h
  · rfl
def ngT (t : Tm) : Tm := ⟨-t.c, t.e⟩
theorem merge_neg : ∀ a : List Tm, merge a (a.map ngT) = a.map fun t => ⟨t.c + -t.c, t.e⟩
  | [] => by rw [List.map_nil, merge_nil]; rfl
  | t :: a => by
    have e : (ngT t).e = t.e := rfl
    rw [List.map_cons, merge_cons, e, if_neg (by omega), if_neg (by omega), merge_neg a]; rfl
theorem add_neg (a : List Tm) : addP a (a.map ngT) = ([], ⟨0, 0⟩) := by
  unfold addP
  rw [merge_neg]
  have hz : ∀ t ∈ (a.map fun t => (⟨t.c + -t.c, t.e⟩ : Tm)), t.c = 0 := fun t ht => by
    obtain ⟨u, _, rfl⟩ := List.mem_map.1 ht
    simp only; omega
  generalize (a.map fun t => (⟨t.c + -t.c, t.e⟩ : Tm)) = q at *
  have h1 : q.filter (kp 6) = [] := by
    rw [List.filter_eq_nil_iff]
    intro t ht; rw [(dp_zero (most := 6) (hz t ht)).2]; simp
  have h2 : q.filter (dp 6) = [] := by
    rw [List.filter_eq_nil_iff]
    intro t ht; rw [(dp_zero (most := 6) (hz t ht)).1]; simp
  have := finish_mk (p := q) (most := 6) (lo := 0) (hi := 0) (fun t ht => by rw [hz t ht]; exact ⟨by decide, by decide⟩) (by rw [h1]; exact Nat.zero_le _) (by rw [h2]; exact ⟨by decide, by decide⟩) (by rw [h2]; exact ⟨by decide, by decide⟩)
  rw [this, h1, h2]; rfl
def ngS (A B q : List Tm) (z : Pt) (r : Iv) (i : Nat) : St := S4_9 true (A.map Tm.cs) (B.map Tm.cs) z.a z.b z.c z.d z.e z.f (q.map Tm.cs) r.lo r.hi (((A.take i).map ngT).map Tm.cs).length ((i : Nat) : Int) (((A.take i).map ngT).map Tm.cs)
theorem ng_step (A B q : List Tm) (z : Pt) (r : Iv) (hf : A.length ≤ 100) (hn : nums A) (i : Nat) (hi : i < A.length) : roundK GD LD (CW GD LD) 4 none 9 (ngS A B q z r i) = some (.normal, ngS A B q z r (i + 1)) := by
  have hg := getT A i hi
  have hc := hn _ (List.getElem_mem hi)
  unfold number at hc
  have hr : decide (((((A.take i).map ngT).map Tm.cs).length + 1) * 16 ≤ room) = true := by
    simp only [List.length_map, List.length_take, decide_eq_true_eq]; unfold room; omega
  have e1 : decide (((i : Nat) : Int) < (((A.map Tm.cs).length : Nat) : Int)) = true := by rw [List.length_map]; exact lt_dec hi
  have ws := wsucc i (by omega)
  have wn : IntKind.wrap .i64 (0 - A[i].c) = -A[i].c := by rw [w64 (by omega) (by omega)]; omega
  have ap : List.append (((A.take i).map ngT).map Tm.cs) [[.int .i64 (-A[i].c), .int .u8 ((A[i].e.a : Nat) : Int), .int .u8 ((A[i].e.b : Nat) : Int), .int .u8 ((A[i].e.c : Nat) : Int), .int .u8 ((A[i].e.d : Nat) : Int), .int .u8 ((A[i].e.e : Nat) : Int), .int .u8 ((A[i].e.f : Nat) : Int)]] = ((A.take i ++ [A[i]]).map ngT).map Tm.cs := by rw [List.map_append, List.map_append]; rfl
  have aq : (((A.take i).map ngT).map Tm.cs).length + 1 = (((A.take i ++ [A[i]]).map ngT).map Tm.cs).length := by rw [List.map_append, List.map_append, List.length_append]; rfl
  unfold ngS
  rw [e4_9, e1, hg, take_snoc hi]
  simp only [uncons_t, uncons_e, uncons_i, asInt_i, asInt_u, isNil_i, Option.bind_some, cond_true, decide_true]
  rw [hr, wn, ap, aq, ws]
  rfl
set_option maxRecDepth 100000 in
theorem p4 (a b : List Tm) (hal : a.length < 9223372036854775808) (hbl : b.length < 9223372036854775808) (c n l1 l2 l3 l4 l5 l6 : Int) :
    (CW GD LD).p (.func 4) [.agg [.slice .any (a.map Tm.cs), .slice .any (b.map Tm.cs), .int .i64 c, .int .i8 n], .agg [.int .i8 l1, .int .i8 l2, .int .i8 l3, .int .i8 l4, .int .i8 l5, .int .i8 l6]] = some (.bool true) := by
  have hvalid := p11 a b hal hbl c n
  have PA := pol_made a 9 2147483648
  have PB := pol_made b 9 2147483648
  generalize madeP a 9 2147483648 = A at *
  generalize madeP b 9 2147483648 = B at *
  obtain ⟨oA, nA, sA, fA, lA⟩ := PA
  obtain ⟨oB, nB, sB, fB, lB⟩ := PB
  have dA : degs6 A := fun t ht => (fA t ht).2.2
  have dB : degs6 B := fun t ht => (fB t ht).2.2
  have hh := p33 l1 l2 l3 l4 l5 l6
  obtain ⟨z, hz, hzo⟩ : ∃ z : Pt, z = ⟨(IntKind.wrap .i64 l1).tmod 3, (IntKind.wrap .i64 l2).tmod 3, (IntKind.wrap .i64 l3).tmod 3, (IntKind.wrap .i64 l4).tmod 3, (IntKind.wrap .i64 l5).tmod 3, (IntKind.wrap .i64 l6).tmod 3⟩ ∧ z.ok :=
    ⟨_, rfl, half_b _, half_b _, half_b _, half_b _, half_b _, half_b _⟩
  have hh2 : (CW GD LD).p (.func 33) [.agg [.int .i8 l1, .int .i8 l2, .int .i8 l3, .int .i8 l4, .int .i8 l5, .int .i8 l6]] = some (.agg [.int .i64 z.a, .int .i64 z.b, .int .i64 z.c, .int .i64 z.d, .int .i64 z.e, .int .i64 z.f]) := by rw [hh, hz]
  have oN : oks (A.map ngT) := fun t ht => by obtain ⟨u, hu, rfl⟩ := List.mem_map.1 ht; exact oA u hu
  have nN : nums (A.map ngT) := fun t ht => by
    obtain ⟨u, hu, rfl⟩ := List.mem_map.1 ht
    have := nA u hu
    unfold number at this ⊢
    simp only [ngT]; omega
  have ad1 := p13 A B oA oB nA nB (by omega) (by omega)
  have ad2 := p13 A (A.map ngT) oA oN nA nN (by omega) (by rw [List.length_map]; omega)
  rw [add_neg] at ad2
  cases w : (addP A B).2.isW
  · obtain ⟨r0, hv, hval⟩ := add_nW oA oB sA sB dA dB w
    have oq : oks (addP A B).1 := add_oks oA oB
    have lq := add_len A B
    have vq := p36 (addP A B).1 z hzo oq (fun t ht => (hv.1 t ht).2.2) (fun t ht => (hv.1 t ht).1) (by omega)
    have vA := p36 A z hzo oA dA nA (by omega)
    have vB := p36 B z hzo oB dB nB (by omega)
    have vld := p9 (addP A B).1 oq (by unfold few; omega)
    rw [show decide (validP (addP A B).1) = true from decide_eq_true hv] at vld
    have bA := valP_b A z fun t ht => val_in hzo (oA t ht) (dA t ht) (nA t ht)
    have bB := valP_b B z fun t ht => val_in hzo (oB t ht) (dB t ht) (nB t ht)
    unfold inB at bA bB
    have ww : IntKind.wrap .i64 (valP A z + valP B z) = valP A z + valP B z := w64 (by omega) (by omega)
    have hsum : (valP (addP A B).1 z == IntKind.wrap .i64 (valP A z + valP B z)) = true := by rw [ww, hval z]; simp
    have hl := iterW_all (round := roundK GD LD (CW GD LD) 4 none 9) (fun i => ngS A B (addP A B).1 z (addP A B).2 i) A.length (id := 0) (fun i hi => ng_step A B (addP A B).1 z (addP A B).2 lA nA i hi) (by unfold ngS; rw [e4_9, List.length_map, lt_decn]; rfl)
    unfold ngS at hl
    rw [List.take_length] at hl
    have hl' : iterW (roundK GD LD (CW GD LD) 4 none 9) (S4_9 true (A.map Tm.cs) (B.map Tm.cs) z.a z.b z.c z.d z.e z.f ((addP A B).1.map Tm.cs) (addP A B).2.lo (addP A B).2.hi 0 0 []) = _ := hl
    have eq1 : (CW GD LD).p (.func 35) [.agg [.int .i64 (addP A B).2.lo, .int .i64 (addP A B).2.hi], .int .i64 0, .int .i64 0] = some (.bool true) := by rw [r0, p35]; rfl
    have eq2 : (CW GD LD).p (.func 35) [.agg [.int .i64 0, .int .i64 0], .int .i64 0, .int .i64 0] = some (.bool true) := by rw [p35]; rfl
    clear hl r0 hv hval
    generalize (addP A B).1 = q at *
    generalize (addP A B).2 = r at *
    refine CW_val (h := [.arr false 7 ((A.map ngT).map Tm.cs)]) ?_ rfl
    rw [e4]
    refine (eBool p8 _).trans ?_
    refine (eTwo hvalid _).trans ?_
    refine (eSix hh2 _).trans ?_
    refine (eP ad1 _).trans ?_
    refine (eBool (p34 _ _) _).trans ?_
    refine (cF w _ _).trans ?_
    rw [CW_w]
    refine (bind_via hl' _).trans ?_
    have g : ∀ t, t = S4_9 true (A.map Tm.cs) (B.map Tm.cs) z.a z.b z.c z.d z.e z.f (q.map Tm.cs) r.lo r.hi ((A.map ngT).map Tm.cs).length ((A.length : Nat) : Int) ((A.map ngT).map Tm.cs) →
        nth t.t 5 = .bool true ∧ nth t.t 6 = .slice .any (A.map Tm.cs) ∧ nth t.t 7 = .slice .any (B.map Tm.cs) ∧ nth t.t 8 = .box [.int .i64 z.a, .int .i64 z.b, .int .i64 z.c, .int .i64 z.d, .int .i64 z.e, .int .i64 z.f] ∧ nth t.t 9 = .slice .any (q.map Tm.cs) ∧ nth t.t 10 = .box [.int .i64 r.lo, .int .i64 r.hi] ∧ nth t.t 11 = .arr 0 ((A.map ngT).map Tm.cs).length 7 ∧ nth t.t 12 = .int .i64 ((A.length : Nat) : Int) ∧ t.h = [.arr true 7 ((A.map ngT).map Tm.cs)] := by
      intro t ht; subst ht
      exact ⟨rfl, rfl, rfl, rfl, rfl, rfl, rfl, rfl, rfl⟩
    obtain ⟨g1, g2, g3, g4, g5, g6, g7, g8, g9⟩ := g _ rfl
    have har : arrRows [.arr true 7 ((A.map ngT).map Tm.cs)] 0 ((A.map ngT).map Tm.cs).length = some ((A.map ngT).map Tm.cs) := by simp [arrRows, hget]
    rw [Option.bind_some]
    dsimp only
    rw [g1, g2, g3, g4, g5, g6, g7, g8, g9]
    simp only [Nat.beq_refl, asBool_i, asRows_i, asBox_i, uncons_i, asInt_i, isNil_i, Option.bind_some, cond_true, unconsO_i, asObArr_t, asArr_i]
    rw [har, Option.bind_some]
    refine (eP ad2 _).trans ?_
    refine (eBool eq1 _).trans ?_
    refine (cT rfl _ _).trans ?_
    refine (eInt vq _).trans ?_
    refine (eInt vA _).trans ?_
    refine (eInt vB _).trans ?_
    refine (cT hsum _ _).trans ?_
    refine (cT rfl _ _).trans ?_
    refine (eBool eq2 _).trans ?_
    refine (cT rfl _ _).trans ?_
    refine (eBool vld _).trans ?_
    exact cT rfl _ _
  · have e0 := add_W w
    refine CW_val (h := []) ?_ rfl
    rw [e4]
    refine (eBool p8 _).trans ?_
    refine (eTwo hvalid _).trans ?_
    refine (eSix hh2 _).trans ?_
    refine (eP ad1 _).trans ?_
    refine (eBool (p34 _ _) _).trans ?_
    refine (cT w _ _).trans ?_
    refine (cT (by rw [e0]; rfl) _ _).trans ?_
    rfl
end Go.Ab
