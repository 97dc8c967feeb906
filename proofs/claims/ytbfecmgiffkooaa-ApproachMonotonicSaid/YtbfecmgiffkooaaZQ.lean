/- Shift: the call answers true, whatever the query and the shifts; conditions: none. -/
import Derived.Test.YtbfecmgiffkooaaZP
namespace Go.Ab
set_option linter.unusedVariables false
set_option linter.unusedSimpArgs false
set_option linter.unusedSimpArgs false
set_option linter.unusedVariables false
def shI (t : Int) (z : Iv) : Iv := ⟨z.lo + t, z.hi + t⟩
theorem bne_self (x : Int) : (x != x) = false := by simp
set_option maxRecDepth 100000 in
theorem h7 (A B C E : List Seg) (t : Int) (l : List Iv) (hl : l.length ≤ 1000) (hw : ∀ z ∈ l, IntKind.wrap .i64 (z.lo + t) = z.lo + t ∧ IntKind.wrap .i64 (z.hi + t) = z.hi + t) : iterW (roundK G20 L20 (CW G20 L20) 7 none 11) ⟨(sp 0 172 [(6, .bool false), (7, .bool true), (8, .slice .any (A.map Seg.c)), (9, .slice .any (B.map Seg.c)), (11, .int .i64 t), (13, .slice .any (C.map Seg.c)), (14, .slice .any (E.map Seg.c)), (19, .slice .any (l.map Iv.c)), (20, .slice .any ((l.map (shI t)).map Iv.c)), (21, .int .i64 ((0 : Nat) : Int))]), []⟩ =
    some (.exit 0, ⟨(sp 0 172 [(6, .bool false), (7, .bool true), (8, .slice .any (A.map Seg.c)), (9, .slice .any (B.map Seg.c)), (11, .int .i64 t), (13, .slice .any (C.map Seg.c)), (14, .slice .any (E.map Seg.c)), (19, .slice .any (l.map Iv.c)), (20, .slice .any ((l.map (shI t)).map Iv.c)), (21, .int .i64 ((l.length : Nat) : Int))]), []⟩) := by
  refine (iterW_foldlN (round := roundK G20 L20 (CW G20 L20) 7 none 11)
    (S := fun i (_ : Unit) => ⟨(sp 0 172 [(6, .bool false), (7, .bool true), (8, .slice .any (A.map Seg.c)), (9, .slice .any (B.map Seg.c)), (11, .int .i64 t), (13, .slice .any (C.map Seg.c)), (14, .slice .any (E.map Seg.c)), (19, .slice .any (l.map Iv.c)), (20, .slice .any ((l.map (shI t)).map Iv.c)), (21, .int .i64 ((i : Nat) : Int))]), []⟩)
    (fun _ _ => ()) (fun _ _ => True) l (id := 0) (fun i hi _ _ => ⟨?_, trivial⟩) (fun _ _ => ?_) () trivial).1
  · obtain ⟨w1, w2⟩ := hw _ (List.getElem_mem hi)
    have hi2 : i < (l.map (shI t)).length := by simpa using hi
    have g2 := getI (l.map (shI t)) i hi2
    rw [List.getElem_map] at g2
    rw [e7_11, List.length_map, lt_dec hi, cond_true, getI l i hi, g2, wsucc i (by omega)]
    simp only [shI, asInt_i, asBool_i, asRows_i, asCells_i, asTuple_i, asBox_i, asObCells_i, asLoop_i, uncons_i, unconsO_i, isNil_i, asPtr_i, asFn_f, asFn_y, asArr_i, asObArr_t, asObArr_f, isReady_i, isBusy_i, uncons_c, uncons_sc, arrRows_i, Option.bind_some, Option.bind_none, cond_true, cond_false, cond_dec, cond_not, w1, w2, bne_self]
  · rw [e7_11, List.length_map, lt_decn]
    rfl
set_option maxRecDepth 100000 in
theorem p7 (a b : List Seg) (n d z1 z2 : Int) (hn : 0 ≤ n) (y1 : -2147483648 ≤ z1 ∧ z1 ≤ 2147483647) (y2 : -2147483648 ≤ z2 ∧ z2 ≤ 2147483647) :
    (CW G20 L20).p (.func 7) [.agg [.slice .any (a.map Seg.c), .slice .any (b.map Seg.c), .int .u8 n, .int .i64 d], .int .i32 z1, .int .i32 z2] = some (.bool true) := by
  refine CW_val (h := []) ?_ rfl
  have hA := made_good a
  have hB := made_good b
  have nA : NarS (Made a) := fun s hs x hx => by have := (made_nar a s hs).2 x hx; exact ⟨this.1, this.2.2.1, this.2.2.2⟩
  have nB : NarS (Made b) := fun s hs x hx => by have := (made_nar b s hs).2 x hx; exact ⟨this.1, this.2.2.1, this.2.2.2⟩
  have tA := made_time a
  have tB := made_time b
  have fA := made_full a
  have fB := made_full b
  have hp := posOf_b n hn
  have h0 := (dOf_b d).1
  have h1 := (dOf_b d).2
  have w1 : IntKind.wrap .i64 z1 = z1 := w64 (by omega) (by omega)
  have w2 : IntKind.wrap .i64 z2 = z2 := w64 (by omega) (by omega)
  have bt := tmod_b z1 4194304 (by decide)
  have bv := tmod_b z2 4194304 (by decide)
  rw [e7, p12 a b n d hn, w1, w2]
  simp only [p11, asInt_i, asBool_i, asRows_i, asCells_i, asTuple_i, asBox_i, asObCells_i, asLoop_i, uncons_i, unconsO_i, isNil_i, asPtr_i, asFn_f, asFn_y, asArr_i, asObArr_t, asObArr_f, isReady_i, isBusy_i, uncons_c, uncons_sc, arrRows_i, Option.bind_some, Option.bind_none, cond_true, cond_false, cond_dec, cond_not]
  generalize Made a = A at *
  generalize Made b = B at *
  generalize dOf d = D at *
  generalize posOf n = N at *
  generalize z1.tmod 4194304 = t at *
  generalize z2.tmod 4194304 = v at *
  have hp3 := hp.2.1
  have wt : ∀ l : List Seg, (∀ s ∈ l, -1048576 ≤ s.t ∧ s.fin ≤ 1500000) → posH l → ∀ s ∈ l, IntKind.wrap .i64 (s.t + t) = s.t + t := fun l h hpz s hs => by
    have k := h s hs
    have k2 := hpz s hs
    unfold Seg.fin at k
    exact w64 (by omega) (by omega)
  have q28a := p28 A (by have := hA.len; omega) fA t v (wt A tA hA.pos)
  have q28b := p28 B (by have := hB.len; omega) fB t v (wt B tB hB.pos)
  have hC := shift_good hA nA tA (t := t) (v := v) (by omega) (by omega) (by omega) (by omega)
  have hE := shift_good hB nB tB (t := t) (v := v) (by omega) (by omega) (by omega) (by omega)
  obtain ⟨s1, s2, s3⟩ := shift_all (t := t) (v := v) (by omega) (by omega) hA.up hB.up hA.pos hB.pos nA nB N D
  obtain ⟨c1, c2⟩ := shift_common A B t v
  have q15 := g15 hC hE hp3
  have q18 := g18 hC hE hp3 h0 h1
  have q21 := g21 hC hE hp3 h0 h1
  have q13 := g13 hC hE
  rw [s1] at q15
  rw [s2] at q18
  rw [s3, show (fun z : Iv => (⟨z.lo + t, z.hi + t⟩ : Iv)) = shI t from rfl] at q21
  have hnum := close_num hA hB N D
  have hlen : (closeP A B N D).length ≤ 1000 := by
    have h := times_len hA.up hB.up hA.pos hB.pos N D
    have h2 := mul36 hA.len hB.len
    have h3 := merges_len (timesOf A B N D) []
    unfold closeP
    simp only [List.length_nil] at h3
    omega
  have hloop := h7 A B (A.map (shS t v)) (B.map (shS t v)) t (closeP A B N D) hlen (fun z hz => by
    have := hnum z hz
    unfold number at this
    exact ⟨w64 (by omega) (by omega), w64 (by omega) (by omega)⟩)
  rw [show ((0 : Nat) : Int) = 0 from rfl] at hloop
  have hcl : (((closeP A B N D).map (shI t)).map Iv.c).length = ((closeP A B N D).map Iv.c).length := by simp
  rw [q28a, q28b]
  simp only [g15 hA hB hp3, q15, g21 hA hB hp3 h0 h1, q21, p17s, g18 hA hB hp3 h0 h1, q18, beq_self_eq_true, bne_self, hcl, asInt_i, asBool_i, asRows_i, asCells_i, asTuple_i, asBox_i, asObCells_i, asLoop_i, uncons_i, unconsO_i, isNil_i, asPtr_i, asFn_f, asFn_y, asArr_i, asObArr_t, asObArr_f, isReady_i, isBusy_i, uncons_c, uncons_sc, arrRows_i, Option.bind_some, Option.bind_none, cond_true, cond_false, cond_dec, cond_not, CW_w]
  refine (bind_via hloop _).trans ?_
  generalize A.map (shS t v) = C at *
  generalize B.map (shS t v) = E at *
  refine Eq.trans (b := ((CW G20 L20).p (.func 13) [.slice .any (A.map Seg.c), .slice .any (B.map Seg.c)]).bind fun x67 =>
         (asTuple (x67)).bind fun x68 =>
         (uncons x68).bind fun x69 =>
         (asCells (x69.1)).bind fun x70 =>
         (uncons x70).bind fun x71 =>
         (asInt .i64 (x71.1)).bind fun x72 =>
         (uncons x71.2).bind fun x73 =>
         (asInt .i64 (x73.1)).bind fun x74 =>
         (isNil x73.2).bind fun x75 =>
         (uncons x69.2).bind fun x76 =>
         (asBool (x76.1)).bind fun x77 =>
         (isNil x76.2).bind fun x78 =>
         ((CW G20 L20).p (.func 13) [.slice .any (C.map Seg.c), .slice .any (E.map Seg.c)]).bind fun x79 =>
         (asTuple (x79)).bind fun x80 =>
         (uncons x80).bind fun x81 =>
         (asCells (x81.1)).bind fun x82 =>
         (uncons x82).bind fun x83 =>
         (asInt .i64 (x83.1)).bind fun x84 =>
         (uncons x83.2).bind fun x85 =>
         (asInt .i64 (x85.1)).bind fun x86 =>
         (isNil x85.2).bind fun x87 =>
         (uncons x81.2).bind fun x88 =>
         (asBool (x88.1)).bind fun x89 =>
         (isNil x88.2).bind fun x90 =>
         cond (x77 == x89) (
          cond x77 (
           cond (x84 == (Go.IntKind.wrap .i64 (x72 + t))) (
            cond (x86 == (Go.IntKind.wrap .i64 (x74 + t))) (
             some (.bool true, [])) (
             some (.bool false, []))) (
            some (.bool false, []))) (
           some (.bool true, []))) (
          some (.bool false, ([] : List Ob)))) (by kernel_rfl) ?_
  rw [g13 hA hB]
  simp only [q13, c1, asInt_i, asBool_i, asRows_i, asCells_i, asTuple_i, asBox_i, asObCells_i, asLoop_i, uncons_i, unconsO_i, isNil_i, asPtr_i, asFn_f, asFn_y, asArr_i, asObArr_t, asObArr_f, isReady_i, isBusy_i, uncons_c, uncons_sc, arrRows_i, Option.bind_some, Option.bind_none, cond_true, cond_false, cond_dec, cond_not, beq_self_eq_true]
  cases hcm : (commonT A B).2 with
  | false => rfl
  | true =>
    have e := c2 hcm
    have hb : number (commonT A B).1.lo ∧ number (commonT A B).1.hi := by
      unfold commonT at hcm ⊢
      cases ha : A.head? with
      | none => rw [ha] at hcm; cases hcm
      | some x => cases ha' : A.getLast? with
        | none => rw [ha, ha'] at hcm; cases hcm
        | some x' => cases hb : B.head? with
          | none => rw [ha, ha', hb] at hcm; cases hcm
          | some y => cases hb' : B.getLast? with
            | none => rw [ha, ha', hb, hb'] at hcm; cases hcm
            | some y' =>
              rw [ha, ha', hb, hb'] at hcm
              simp only at hcm ⊢
              have k1 := hA.num x (List.mem_of_head? ha)
              have k2 := hA.num x' (List.mem_of_getLast? ha')
              have k3 := hB.num y (List.mem_of_head? hb)
              have k4 := hB.num y' (List.mem_of_getLast? hb')
              unfold inter
              rw [hcm]
              simp only [cond_true]
              refine ⟨?_, ?_⟩ <;> split <;> first | exact k1.1 | exact k2.2 | exact k3.1 | exact k4.2
    unfold number at hb
    rw [e, w64 (x := (commonT A B).1.lo + t) (by omega) (by omega), w64 (x := (commonT A B).1.hi + t) (by omega) (by omega)]
    simp only [beq_self_eq_true, cond_true]
end Go.Ab
