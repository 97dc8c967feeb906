/- Monotonic: the call answers true, whatever the query, the widening and the smaller distance; conditions: none. -/
import Derived.Test.YtbfecmgiffkooaaZQ
import Derived.Test.YtbfecmgiffkooaaZR
import Derived.Test.YtbfecmgiffkooaaE7
namespace Go.Ab
set_option linter.unusedVariables false
set_option linter.unusedSimpArgs false
set_option linter.unusedSimpArgs false
set_option linter.unusedVariables false
theorem p60 (l : List Iv) (hl : l.length ≤ 100) (hv : valids l) (w : Int) (h1 : 0 ≤ w) (h2 : w ≤ 65535) : (CW G20 L20).p (.func 60) [.slice .any (l.map Iv.c), .int .i64 w] = some (.slice .any ((l.map (wid w)).map Iv.c)) := by
  have hloop := (iterW_foldlN (round := roundK G20 L20 (CW G20 L20) 60 none 3)
    (S := fun i (out : List Iv) => ⟨(sp 0 36 [(0, .slice .any (l.map Iv.c)), (1, .int .i64 w), (5, .arr 0 (out.map Iv.c).length 2), (6, .int .i64 ((i : Nat) : Int))]), [.arr true 2 (out.map Iv.c)]⟩)
    (fun out a => out ++ [wid w a]) (fun i out => out.length = i) l (id := 0) (fun i hi out ho => by
      have hr : (out.length + 1) * 16 ≤ room := room16 (by omega)
      have hva := hv _ (List.getElem_mem hi)
      have hap := appI out (wid w l[i])
      refine ⟨?_, by simp [ho]⟩
      rw [e60_3, List.length_map, lt_dec hi, getI l i hi, wsucc i (by omega)]
      generalize l[i] = a at *
      obtain ⟨v1, v2, v3, _⟩ := hva
      have w1 : IntKind.wrap .i64 (a.lo - w) = a.lo - w := w64 (by omega) (by omega)
      have w2 : IntKind.wrap .i64 (a.hi + w) = a.hi + w := w64 (by omega) (by omega)
      unfold wid at hap ⊢
      cases hw : a.isW with
      | true =>
        rw [hw] at hap
        simp only [if_true] at hap
        simp only [asInt_i, asBool_i, asRows_i, asCells_i, asTuple_i, asBox_i, asObCells_i, asLoop_i, uncons_i, unconsO_i, isNil_i, asPtr_i, asFn_f, asFn_y, asArr_i, asObArr_t, asObArr_f, isReady_i, isBusy_i, uncons_c, uncons_sc, arrRows_i, Option.bind_some, Option.bind_none, cond_true, cond_false, cond_dec, cond_not, p26, Iv.eta, hw, List.length_map, hr, if_true, hap, List.length_append, List.length_cons, List.length_nil, Nat.zero_add]
      | false =>
        rw [hw] at hap
        simp only [Bool.false_eq_true, if_false] at hap
        simp only [asInt_i, asBool_i, asRows_i, asCells_i, asTuple_i, asBox_i, asObCells_i, asLoop_i, uncons_i, unconsO_i, isNil_i, asPtr_i, asFn_f, asFn_y, asArr_i, asObArr_t, asObArr_f, isReady_i, isBusy_i, uncons_c, uncons_sc, arrRows_i, Option.bind_some, Option.bind_none, cond_true, cond_false, cond_dec, cond_not, p26, Iv.eta, hw, w1, w2, p43, Bool.false_eq_true, if_false, List.length_map, hr, if_true, hap, List.length_append, List.length_cons, List.length_nil, Nat.zero_add])
    (fun out _ => by rw [e60_3, List.length_map, lt_decn]; rfl) [] rfl).1
  rw [fold_app, List.nil_append] at hloop
  generalize l.map (wid w) = R at hloop ⊢
  refine CW_valH (u := .slice .any (R.map Iv.c)) (h := [.arr false 2 (R.map Iv.c)]) ?_ rfl
  rw [e60, CW_w]
  refine (bind_via hloop _).trans ?_
  have n0 : nth (sp 0 36 [(0, .slice .any (l.map Iv.c)), (1, .int .i64 w), (5, .arr 0 (R.map Iv.c).length 2), (6, .int .i64 ((l.length : Nat) : Int))]) 0 = .slice .any (l.map Iv.c) := rfl
  have n1 : nth (sp 0 36 [(0, .slice .any (l.map Iv.c)), (1, .int .i64 w), (5, .arr 0 (R.map Iv.c).length 2), (6, .int .i64 ((l.length : Nat) : Int))]) 1 = .int .i64 w := rfl
  have n5 : nth (sp 0 36 [(0, .slice .any (l.map Iv.c)), (1, .int .i64 w), (5, .arr 0 (R.map Iv.c).length 2), (6, .int .i64 ((l.length : Nat) : Int))]) 5 = .arr 0 (R.map Iv.c).length 2 := rfl
  have n6 : nth (sp 0 36 [(0, .slice .any (l.map Iv.c)), (1, .int .i64 w), (5, .arr 0 (R.map Iv.c).length 2), (6, .int .i64 ((l.length : Nat) : Int))]) 6 = .int .i64 ((l.length : Nat) : Int) := rfl
  simp only [asInt_i, asRows_i, unconsO_i, asArr_i, asObArr_t, Option.bind_some, cond_true, n0, n1, n5, n6, Nat.beq_refl, arrRows_i]
set_option maxRecDepth 100000 in
theorem p29 (l : List Seg) (hl : l.length ≤ 100) (hf : ∀ s ∈ l, Full s) (w : Int) (h1 : 0 ≤ w) (h2 : w ≤ 65535) : (CW G20 L20).p (.func 29) [.slice .any (l.map Seg.c), .int .i64 w] = some (.slice .any ((l.map (wdS w)).map Seg.c)) := by
  have hloop := (iterW_foldlN (round := roundK G20 L20 (CW G20 L20) 29 none 3)
    (S := fun i (out : List Seg) => ⟨(sp 0 29 [(0, .slice .any (l.map Seg.c)), (1, .int .i64 w), (5, .arr 0 (out.map Seg.c).length 6), (6, .int .i64 ((i : Nat) : Int))]), [.arr true 6 (out.map Seg.c)]⟩)
    (fun out a => out ++ [wdS w a]) (fun i out => out.length = i) l (id := 0) (fun i hi out ho => by
      have hr : (out.length + 1) * 112 ≤ room := room112 (by omega)
      have hfa := hf _ (List.getElem_mem hi)
      have hap := appS out (wdS w l[i])
      refine ⟨?_, by simp [ho]⟩
      rw [e29_3, List.length_map, lt_dec hi, getS l i hi, wsucc i (by omega)]
      generalize l[i] = a at *
      simp only [wdS] at hap
      simp only [asInt_i, asBool_i, asRows_i, asCells_i, asTuple_i, asBox_i, asObCells_i, asLoop_i, uncons_i, unconsO_i, isNil_i, asPtr_i, asFn_f, asFn_y, asArr_i, asObArr_t, asObArr_f, isReady_i, isBusy_i, uncons_c, uncons_sc, arrRows_i, Option.bind_some, Option.bind_none, cond_true, cond_false, cond_dec, cond_not, p60 a.tube hfa.t.2 hfa.t.1 w h1 h2, List.length_map, hr, if_true, hap, List.length_append, List.length_cons, List.length_nil, Nat.zero_add, wdS])
    (fun out _ => by rw [e29_3, List.length_map, lt_decn]; rfl) [] rfl).1
  rw [fold_app, List.nil_append] at hloop
  generalize l.map (wdS w) = R at hloop ⊢
  refine CW_valH (u := .slice .any (R.map Seg.c)) (h := [.arr false 6 (R.map Seg.c)]) ?_ rfl
  rw [e29, CW_w]
  refine (bind_via hloop _).trans ?_
  have n0 : nth (sp 0 29 [(0, .slice .any (l.map Seg.c)), (1, .int .i64 w), (5, .arr 0 (R.map Seg.c).length 6), (6, .int .i64 ((l.length : Nat) : Int))]) 0 = .slice .any (l.map Seg.c) := rfl
  have n1 : nth (sp 0 29 [(0, .slice .any (l.map Seg.c)), (1, .int .i64 w), (5, .arr 0 (R.map Seg.c).length 6), (6, .int .i64 ((l.length : Nat) : Int))]) 1 = .int .i64 w := rfl
  have n5 : nth (sp 0 29 [(0, .slice .any (l.map Seg.c)), (1, .int .i64 w), (5, .arr 0 (R.map Seg.c).length 6), (6, .int .i64 ((l.length : Nat) : Int))]) 5 = .arr 0 (R.map Seg.c).length 6 := rfl
  have n6 : nth (sp 0 29 [(0, .slice .any (l.map Seg.c)), (1, .int .i64 w), (5, .arr 0 (R.map Seg.c).length 6), (6, .int .i64 ((l.length : Nat) : Int))]) 6 = .int .i64 ((l.length : Nat) : Int) := rfl
  simp only [asInt_i, asRows_i, unconsO_i, asArr_i, asObArr_t, Option.bind_some, cond_true, n0, n1, n5, n6, Nat.beq_refl, arrRows_i]
def subI (z y : Iv) : Bool := decide (y.lo ≤ z.lo) && decide (z.hi ≤ y.hi)
theorem fold_any (z : Iv) : ∀ (m : List Iv) (f : Bool), m.foldl (fun f y => f || subI z y) f = (f || m.any (subI z))
  | [], f => by simp
  | y :: m, f => by rw [List.foldl_cons, fold_any z m, List.any_cons, Bool.or_assoc]
set_option maxRecDepth 100000 in
theorem h31_6 (l m : List Iv) (hl : l.length ≤ 1000) (hm : m.length ≤ 1000) (i : Nat) (hi : i < l.length) (b : Bool) : iterW (roundK G20 L20 (CW G20 L20) 31 none 6) ⟨(sp 0 34 [(0, .slice .any (l.map Iv.c)), (1, .slice .any (m.map Iv.c)), (4, .bool b), (5, .int .i64 ((i : Nat) : Int)), (6, .bool false), (7, .int .i64 ((0 : Nat) : Int))]), []⟩ =
    some (.exit 2, ⟨(sp 0 34 [(0, .slice .any (l.map Iv.c)), (1, .slice .any (m.map Iv.c)), (4, .bool b), (5, .int .i64 ((i : Nat) : Int)), (6, .bool (m.any (subI l[i]))), (7, .int .i64 ((m.length : Nat) : Int))]), []⟩) := by
  have := (iterW_foldlN (round := roundK G20 L20 (CW G20 L20) 31 none 6)
    (S := fun k (f : Bool) => ⟨(sp 0 34 [(0, .slice .any (l.map Iv.c)), (1, .slice .any (m.map Iv.c)), (4, .bool b), (5, .int .i64 ((i : Nat) : Int)), (6, .bool f), (7, .int .i64 ((k : Nat) : Int))]), []⟩)
    (fun f y => f || subI l[i] y) (fun _ _ => True) m (id := 2) (fun k hk f _ => ⟨?_, trivial⟩) (fun f _ => ?_) false trivial).1
  · rw [fold_any, Bool.false_or] at this
    exact this
  · rw [e31_6, List.length_map, lt_dec hk, cond_true, wsucc k (by omega), getI l i hi, getI m k hk]
    cases f with
    | true => rfl
    | false => simp only [asInt_i, asBool_i, asRows_i, asCells_i, asTuple_i, asBox_i, asObCells_i, asLoop_i, uncons_i, unconsO_i, isNil_i, asPtr_i, asFn_f, asFn_y, asArr_i, asObArr_t, asObArr_f, isReady_i, isBusy_i, uncons_c, uncons_sc, arrRows_i, Option.bind_some, Option.bind_none, cond_true, cond_false, cond_dec, cond_not, p30, subI, Bool.false_or]
  · rw [e31_6, List.length_map, lt_decn]
    rfl
set_option maxRecDepth 100000 in
theorem p31 (l m : List Iv) (hl : l.length ≤ 1000) (hm : m.length ≤ 1000) (h : inOne l m) : (CW G20 L20).p (.func 31) [.slice .any (l.map Iv.c), .slice .any (m.map Iv.c)] = some (.bool true) := by
  have hloop := (iterW_foldlN (round := roundK G20 L20 (CW G20 L20) 31 none 2)
    (S := fun i (_ : Unit) => ⟨(sp 0 34 [(0, .slice .any (l.map Iv.c)), (1, .slice .any (m.map Iv.c)), (4, .bool false), (5, .int .i64 ((i : Nat) : Int))]), []⟩)
    (fun _ _ => ()) (fun _ _ => True) l (id := 0) (fun i hi _ _ => by
      refine ⟨?_, trivial⟩
      have hin := h31_6 l m hl hm i hi false
      have ha : m.any (subI l[i]) = true := by
        obtain ⟨y, hy, k1, k2⟩ := h _ (List.getElem_mem hi)
        rw [List.any_eq_true]
        refine ⟨y, hy, ?_⟩
        unfold subI
        simp [k1, k2]
      rw [ha, show ((0 : Nat) : Int) = 0 from rfl] at hin
      rw [e31_2, List.length_map, lt_dec hi, cond_true, CW_w]
      refine (bind_via hin _).trans ?_
      rw [← wsucc i (by omega)]
      change _ = _
      kernel_rfl)
    (fun _ _ => by rw [e31_2, List.length_map, lt_decn]; rfl) () trivial).1
  rw [show ((0 : Nat) : Int) = 0 from rfl] at hloop
  refine CW_val (h := []) ?_ rfl
  rw [e31, CW_w]
  refine (bind_via hloop _).trans ?_
  change _ = _
  kernel_rfl
theorem wid_good {l : List Seg} (h : Good l) (hn : NarS l) {w : Int} (w1 : 0 ≤ w) (w2 : w ≤ 65535) : Good (l.map (wdS w)) := by
  refine ⟨fun s hs => ?_, fun s hs => ?_, wd_up w1 w2 h.up, wd_pos w1 w2 h.pos, fun s hs => ?_, by rw [List.length_map]; exact h.len⟩
  · obtain ⟨y, hy, rfl⟩ := List.mem_map.1 hs
    obtain ⟨k1, k2, k3, k4, k5, k6⟩ := h.ok y hy
    refine ⟨k1, k2, k3, k4, by simp only [wdS, List.length_map]; exact k5, fun a ha => ?_⟩
    simp only [wdS, List.mem_map] at ha
    obtain ⟨b, hb, rfl⟩ := ha
    have hb' := hn y hy b hb
    have nb := hb'
    rw [wid_eq hb' w1 w2]
    obtain ⟨b1, b2, b3⟩ := nb
    refine ⟨by simp only; omega, by simp only; omega, by simp only; omega, .inr ⟨?_, ?_⟩⟩ <;> simp only [number] <;> omega
  · obtain ⟨y, hy, rfl⟩ := List.mem_map.1 hs
    exact h.num y hy
  · obtain ⟨y, hy, rfl⟩ := List.mem_map.1 hs
    have := h.long y hy
    simpa [wdS] using this
theorem tail8 (big little cw : Int) (f1 : big = 1 → little = 1) (f2 : little = -1 → big = -1) (f3 : cw = 1 → big = 1) :
    (cond (big != 1) (cond (little != -1) (cond (cw != 1) (some (V.bool true, ([] : List Ob))) (cond (big == 1) (some (.bool true, [])) (some (.bool false, [])))) (cond (big == -1) (cond (cw != 1) (some (.bool true, [])) (cond (big == 1) (some (.bool true, [])) (some (.bool false, [])))) (some (.bool false, []))))
      (cond (little == 1) (cond (little != -1) (cond (cw != 1) (some (.bool true, [])) (cond (big == 1) (some (.bool true, [])) (some (.bool false, [])))) (cond (big == -1) (cond (cw != 1) (some (.bool true, [])) (cond (big == 1) (some (.bool true, [])) (some (.bool false, [])))) (some (.bool false, [])))) (some (.bool false, [])))) = some (.bool true, []) := by
  by_cases h1 : big = 1
  · have h2 := f1 h1
    subst h1 h2
    by_cases h3 : cw = 1
    · subst h3; rfl
    · have e : (cw != 1) = true := by simpa using h3
      rw [e]; rfl
  · have e1 : (big != 1) = true := by simpa using h1
    have e3 : (cw != 1) = true := by
      have : ¬ cw = 1 := fun h => h1 (f3 h)
      simpa using this
    rw [e1, e3]
    by_cases h2 : little = -1
    · have := f2 h2
      subst h2 this
      rfl
    · have e2 : (little != -1) = true := by simpa using h2
      rw [e2]; rfl
set_option maxRecDepth 100000 in
theorem p8 (a b : List Seg) (n d z1 z2 : Int) (hn : 0 ≤ n) (y1 : 0 ≤ z1 ∧ z1 ≤ 65535) (y2 : 0 ≤ z2 ∧ z2 < 4294967296) :
    (CW G20 L20).p (.func 8) [.agg [.slice .any (a.map Seg.c), .slice .any (b.map Seg.c), .int .u8 n, .int .i64 d], .int .u16 z1, .int .u32 z2] = some (.bool true) := by
  refine CW_val (h := []) ?_ rfl
  have hA := made_good a
  have hB := made_good b
  have nA : NarS (Made a) := fun s hs x hx => by have := (made_nar a s hs).2 x hx; exact ⟨this.1, this.2.2.1, this.2.2.2⟩
  have nB : NarS (Made b) := fun s hs x hx => by have := (made_nar b s hs).2 x hx; exact ⟨this.1, this.2.2.1, this.2.2.2⟩
  have fA := made_full a
  have hp := posOf_b n hn
  have h0 := (dOf_b d).1
  have h1 := (dOf_b d).2
  have w1 : IntKind.wrap .i64 z1 = z1 := w64 (by omega) (by omega)
  have w2 : IntKind.wrap .i64 z2 = z2 := w64 (by omega) (by omega)
  rw [e8, p12 a b n d hn, w1, w2]
  simp only [p11, asInt_i, asBool_i, asRows_i, asCells_i, asTuple_i, asBox_i, asObCells_i, asLoop_i, uncons_i, unconsO_i, isNil_i, asPtr_i, asFn_f, asFn_y, asArr_i, asObArr_t, asObArr_f, isReady_i, isBusy_i, uncons_c, uncons_sc, arrRows_i, Option.bind_some, Option.bind_none, cond_true, cond_false, cond_dec, cond_not]
  generalize Made a = A at *
  generalize Made b = B at *
  generalize dOf d = D at *
  generalize posOf n = N at *
  have hp3 := hp.2.1
  have w3 : IntKind.wrap .i64 (D + 1) = D + 1 := w64 (by omega) (by omega)
  have b1 := tmod_b z2 (D + 1) (by omega)
  have b2 := tmod_nn z2 (D + 1) y2.1
  have w4 : IntKind.wrap .i64 (D - z2.tmod (D + 1)) = D - z2.tmod (D + 1) := w64 (by omega) (by omega)
  have hz : ((D + 1) == 0) = false := by rw [beq_eq_false_iff_ne]; omega
  rw [w3, hz, w4]
  generalize hE : D - z2.tmod (D + 1) = E at *
  have e0 : 0 ≤ E := by omega
  have e1 : E ≤ D := by omega
  have q29 := p29 A (by have := hA.len; omega) fA z1 y1.1 y1.2
  have hC := wid_good hA nA y1.1 y1.2
  have mw := min_wid hA.up hB.up hA.pos hB.pos nA nB y1.1 y1.2 N
  have cw := close_wid hA.up hB.up hA.pos hB.pos nA nB y1.1 y1.2 N D
  have cl := close_less hA.up hB.up hA.pos hB.pos N e0 e1
  rw [q29]
  generalize A.map (wdS z1) = C at *
  have lens : ∀ (X : List Seg) (d : Int), Good X → (closeP X B N d).length ≤ 1000 := fun X d hX => by
    have h := times_len hX.up hB.up hX.pos hB.pos N d
    have h2 := mul36 hX.len hB.len
    have h3 := merges_len (timesOf X B N d) []
    unfold closeP
    simp only [List.length_nil] at h3
    omega
  have q31a := p31 _ _ (lens A D hA) (lens C D hC) cw.1
  have q31b := p31 _ _ (lens A E hA) (lens A D hA) cl.1
  have cA := class_cases A B N D
  have cE := class_cases A B N E
  have cC := class_cases C B N D
  have f1 : classP A B N D = 1 → classP A B N E = 1 := fun h => by
    have := cA.1.1 h
    rw [cE.1]
    cases k : (pairsOf A B).any (nears N E) with
    | false => rfl
    | true => rw [cl.2 k] at this; cases this
  have f2 : classP A B N E = -1 → classP A B N D = -1 := fun h => by
    obtain ⟨k1, k2, k3⟩ := cE.2.1 h
    refine cA.2.2 ⟨cl.2 k1, k2, ?_⟩
    have : E * E ≤ D * D := Int.mul_le_mul e1 e1 e0 (by omega)
    have := fl_mono this
    omega
  have f3 : classP C B N D = 1 → classP A B N D = 1 := fun h => by
    have := cC.1.1 h
    rw [cA.1]
    cases k : (pairsOf A B).any (nears N D) with
    | false => rfl
    | true => rw [cw.2 k] at this; cases this
  have ht := tail8 _ _ _ f1 f2 f3
  simp only [g15 hA hB hp3, g15 hC hB hp3, g21 hA hB hp3 h0 h1, g21 hA hB hp3 e0 (show E < 4194304 by omega), g21 hC hB hp3 h0 h1, q31a, q31b, g18 hA hB hp3 h0 h1, g18 hA hB hp3 e0 (show E < 4194304 by omega), g18 hC hB hp3 h0 h1, asInt_i, asBool_i, asRows_i, asCells_i, asTuple_i, asBox_i, asObCells_i, asLoop_i, uncons_i, unconsO_i, isNil_i, asPtr_i, asFn_f, asFn_y, asArr_i, asObArr_t, asObArr_f, isReady_i, isBusy_i, uncons_c, uncons_sc, arrRows_i, Option.bind_some, Option.bind_none, cond_true, cond_false, cond_dec, cond_not, mw.1, beq_self_eq_true, p26, p30, Iv.eta]
  cases hany : (minD A B N).2 with
  | false => exact ht
  | true =>
    cases hW : (minD C B N).1.isW with
    | true => exact ht
    | false =>
      obtain ⟨k1, k2⟩ := mw.2 hany hW
      rw [decide_eq_true k1, decide_eq_true k2]
      exact ht
end Go.Ab
