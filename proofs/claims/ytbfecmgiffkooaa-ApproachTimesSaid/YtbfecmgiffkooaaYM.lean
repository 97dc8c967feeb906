/- The flows that the statements make out of raw ones, typed; conditions: none. -/
import Derived.Test.YtbfecmgiffkooaaYL
namespace Go.Ab
set_option linter.unusedSimpArgs false
set_option linter.unusedVariables false
def i64r (x : Int) : Prop := -9223372036854775808 ≤ x ∧ x ≤ 9223372036854775807
def Iv.raw (a : Iv) : Prop := i64r a.lo ∧ i64r a.hi
def Iv.z : Iv := ⟨0, 0⟩
def nearI (a : Iv) : Iv := ⟨a.lo.tmod 1048576, a.lo.tmod 1048576 + (a.hi.tmod 200000 + 200000).tmod 200000⟩
theorem tmod_b (x : Int) (m : Int) (hm : 0 < m) : -m < x.tmod m ∧ x.tmod m < m := ⟨by have := Int.lt_tmod_of_pos x hm; omega, Int.tmod_lt_of_pos x hm⟩
theorem tmod_nn (x : Int) (m : Int) (hx : 0 ≤ x) : 0 ≤ x.tmod m := Int.tmod_nonneg m hx
theorem wrapmod (x : Int) (m : Int) (hm : 0 < m) (h : m ≤ 1000000000) : IntKind.wrap .i64 (x.tmod m + m) = x.tmod m + m := by
  have := tmod_b x m hm
  exact w64 (by omega) (by omega)
theorem nearI_b (a : Iv) : -1048576 < (nearI a).lo ∧ (nearI a).lo < 1048576 ∧ (nearI a).lo ≤ (nearI a).hi ∧ (nearI a).hi < 1248576 := by
  have h1 := tmod_b a.lo 1048576 (by decide)
  have h2 := tmod_b a.hi 200000 (by decide)
  have h3 := tmod_b (a.hi.tmod 200000 + 200000) 200000 (by decide)
  have h4 := tmod_nn (a.hi.tmod 200000 + 200000) 200000 (by omega)
  simp only [nearI]; omega
theorem nearI_valid (a : Iv) : (nearI a).valid := by
  obtain ⟨h1, h2, h3, h4⟩ := nearI_b a
  refine ⟨h3, by omega, by omega, .inr ?_⟩
  simp only [number]; omega
theorem p85 (a : Iv) : (CW G20 L20).p (.func 85) [.agg [.int .i64 a.lo, .int .i64 a.hi], .int .i64 200000] = some (.agg (nearI a).c) := by
  refine CW_val (h := []) ?_ rfl
  have e0 : ((200000 : Int) == 0) = false := rfl
  have h := nearI_b a
  simp only [nearI] at h
  rw [e85, e0, wrapmod a.hi 200000 (by decide) (by decide), w64 (by omega) (by omega)]
  rfl
def boxOf (raw : List Iv) : List Iv := (List.range 3).map fun i => nearI (raw.getD i Iv.z)
theorem getD_lt {α : Type} (l : List α) (i : Nat) (d : α) (h : i < l.length) : l.getD i d = l[i] := by simp [h]
theorem getD_ge {α : Type} (l : List α) (i : Nat) (d : α) (h : ¬ i < l.length) : l.getD i d = d := by rw [List.getD_eq_getElem?_getD, List.getElem?_eq_none (by omega)]; rfl
set_option maxRecDepth 100000 in
theorem p61 (raw : List Iv) : (CW G20 L20).p (.func 61) [.slice .any (raw.map Iv.c), .int .i64 3] = some (.slice .any ((boxOf raw).map Iv.c)) := by
  have hloop := (iterW_foldlN (round := roundK G20 L20 (CW G20 L20) 61 none 3)
    (S := fun i (out : List Iv) => ⟨(sp 0 29 [(0, .slice .any (raw.map Iv.c)), (1, .int .i64 3), (5, .arr 0 (out.map Iv.c).length 2), (6, .int .i64 ((i : Nat) : Int))]), [.arr true 2 (out.map Iv.c)]⟩)
    (fun out (k : Nat) => out ++ [nearI (raw.getD k Iv.z)]) (fun i out => out.length = i) (List.range 3) (id := 0) (fun i hi out ho => by
      have hi3 : i < 3 := by simpa using hi
      have hk : (List.range 3)[i]'hi = i := List.getElem_range hi
      have h1 : (out.length + 1) * 16 ≤ room := by rw [ho]; exact Nat.le_trans (Nat.mul_le_mul_right 16 (show i + 1 ≤ 4 by omega)) (by unfold room; decide)
      have hc : decide ((i : Int) < 3) = true := by simp; omega
      refine ⟨?_, by simp [ho]⟩
      rw [e61_3, hc]
      simp only [List.length_map, wsucc i (by omega), hk]
      by_cases hr : i < raw.length
      · rw [lt_dec hr, getI raw i hr, getD_lt raw i _ hr]
        simp only [asInt_i, asBool_i, asRows_i, asCells_i, asTuple_i, asBox_i, asObCells_i, asLoop_i, uncons_i, unconsO_i, isNil_i, asPtr_i, asFn_f, asFn_y, asArr_i, asObArr_t, asObArr_f, isReady_i, isBusy_i, uncons_c, uncons_sc, arrRows_i, Option.bind_some, Option.bind_none, cond_true, cond_false, cond_dec, cond_not, p85, appI, List.length_map, List.length_append, List.length_cons, List.length_nil, Nat.zero_add, h1, if_true]
      · have hd : decide ((i : Int) < ((raw.length : Nat) : Int)) = false := by simp; omega
        have hz := p85 Iv.z
        simp only [Iv.z] at hz
        rw [hd, getD_ge raw i _ hr]
        simp only [asInt_i, asBool_i, asRows_i, asCells_i, asTuple_i, asBox_i, asObCells_i, asLoop_i, uncons_i, unconsO_i, isNil_i, asPtr_i, asFn_f, asFn_y, asArr_i, asObArr_t, asObArr_f, isReady_i, isBusy_i, uncons_c, uncons_sc, arrRows_i, Option.bind_some, Option.bind_none, cond_true, cond_false, cond_dec, cond_not, hz, appI, List.length_map, List.length_append, List.length_cons, List.length_nil, Nat.zero_add, h1, if_true]
        rfl)
    (fun out _ => by
      have hc : decide ((((List.range 3).length : Nat) : Int) < 3) = false := by simp
      rw [e61_3, hc]; rfl) [] rfl).1
  have hb : (List.range 3).foldl (fun out (k : Nat) => out ++ [nearI (raw.getD k Iv.z)]) [] = boxOf raw := rfl
  rw [hb] at hloop
  generalize boxOf raw = R at hloop ⊢
  refine CW_valH (u := .slice .any (R.map Iv.c)) (h := [.arr false 2 (R.map Iv.c)]) ?_ rfl
  rw [e61, CW_w]
  refine (bind_via hloop _).trans ?_
  have n0 : nth (sp 0 29 [(0, .slice .any (raw.map Iv.c)), (1, .int .i64 3), (5, .arr 0 (R.map Iv.c).length 2), (6, .int .i64 (((List.range 3).length : Nat) : Int))]) 0 = .slice .any (raw.map Iv.c) := rfl
  have n1 : nth (sp 0 29 [(0, .slice .any (raw.map Iv.c)), (1, .int .i64 3), (5, .arr 0 (R.map Iv.c).length 2), (6, .int .i64 (((List.range 3).length : Nat) : Int))]) 1 = .int .i64 3 := rfl
  have n5 : nth (sp 0 29 [(0, .slice .any (raw.map Iv.c)), (1, .int .i64 3), (5, .arr 0 (R.map Iv.c).length 2), (6, .int .i64 (((List.range 3).length : Nat) : Int))]) 5 = .arr 0 (R.map Iv.c).length 2 := rfl
  have n6 : nth (sp 0 29 [(0, .slice .any (raw.map Iv.c)), (1, .int .i64 3), (5, .arr 0 (R.map Iv.c).length 2), (6, .int .i64 (((List.range 3).length : Nat) : Int))]) 6 = .int .i64 (((List.range 3).length : Nat) : Int) := rfl
  simp only [asInt_i, asRows_i, unconsO_i, asArr_i, asObArr_t, Option.bind_some, cond_true, n0, n1, n5, n6, Nat.beq_refl, arrRows_i]
/-- A number picked out of an interval. -/
def pickI (a : Iv) (x : Int) : Int := a.lo + x.tmod (a.hi - a.lo + 1)
def u32 (x : Int) : Int := IntKind.wrap .u32 x
theorem u32_b (x : Int) : 0 ≤ u32 x ∧ u32 x < 4294967296 := by
  have e : u32 x = x % 4294967296 := by simp [u32, IntKind.wrap, IntKind.bits, IntKind.signed]
  rw [e]; omega
theorem p55 (a : Iv) (h : -1048576 < a.lo ∧ a.lo < 1048576 ∧ a.lo ≤ a.hi ∧ a.hi < 1248576) (x : Int) (hx : 0 ≤ x ∧ x < 4294967296) : (CW G20 L20).p (.func 55) [.agg [.int .i64 a.lo, .int .i64 a.hi], .int .u32 x] = some (.int .i64 (pickI a x)) := by
  refine CW_val (h := []) ?_ rfl
  have e1 : IntKind.wrap .i64 (a.hi - a.lo) = a.hi - a.lo := w64 (by omega) (by omega)
  have e2 : IntKind.wrap .i64 (a.hi - a.lo + 1) = a.hi - a.lo + 1 := w64 (by omega) (by omega)
  have e3 : IntKind.wrap .i64 x = x := w64 (by omega) (by omega)
  have e4 : (a.hi - a.lo + 1 == 0) = false := by simp; omega
  have h3 := tmod_b x (a.hi - a.lo + 1) (by omega)
  rw [e55, e1, e2, e3, e4, w64 (by omega) (by omega)]
  rfl
def partAt (b raw : List Iv) (i : Nat) : Iv :=
  let x := raw.getD i Iv.z
  let p := pickI (b.getD i Iv.z) (u32 x.lo)
  let q := pickI (b.getD i Iv.z) (u32 x.hi)
  ⟨if q < p then q else p, if q > p then q else p⟩
def partI (b raw : List Iv) : List Iv := (List.range b.length).map (partAt b raw)
set_option maxRecDepth 100000 in
theorem p62 (b raw : List Iv) (hb3 : b.length = 3) (hb : ∀ a ∈ b, -1048576 < a.lo ∧ a.lo < 1048576 ∧ a.lo ≤ a.hi ∧ a.hi < 1248576) : (CW G20 L20).p (.func 62) [.slice .any (b.map Iv.c), .slice .any (raw.map Iv.c)] = some (.slice .any ((partI b raw).map Iv.c)) := by
  have hloop := (iterW_foldlN (round := roundK G20 L20 (CW G20 L20) 62 none 3)
    (S := fun i (out : List Iv) => ⟨(sp 0 53 [(0, .slice .any (b.map Iv.c)), (1, .slice .any (raw.map Iv.c)), (5, .arr 0 (out.map Iv.c).length 2), (6, .int .i64 ((i : Nat) : Int))]), [.arr true 2 (out.map Iv.c)]⟩)
    (fun out (k : Nat) => out ++ [partAt b raw k]) (fun i out => out.length = i) (List.range b.length) (id := 0) (fun i hi out ho => by
      have hi3 : i < b.length := by simpa using hi
      have hk : (List.range b.length)[i]'hi = i := List.getElem_range hi
      have h1 : (out.length + 1) * 16 ≤ room := by rw [ho]; exact Nat.le_trans (Nat.mul_le_mul_right 16 (show i + 1 ≤ 4 by omega)) (by unfold room; decide)
      have hba := hb _ (List.getElem_mem hi3)
      have ha : ∀ x : Iv, List.append (out.map Iv.c) [[.int .i64 x.lo, .int .i64 x.hi]] = (out ++ [x]).map Iv.c := fun x => appI out x
      refine ⟨?_, by simp [ho]⟩
      have hpa : partAt b raw i = ⟨if pickI b[i] (u32 (raw.getD i Iv.z).hi) < pickI b[i] (u32 (raw.getD i Iv.z).lo) then pickI b[i] (u32 (raw.getD i Iv.z).hi) else pickI b[i] (u32 (raw.getD i Iv.z).lo), if pickI b[i] (u32 (raw.getD i Iv.z).hi) > pickI b[i] (u32 (raw.getD i Iv.z).lo) then pickI b[i] (u32 (raw.getD i Iv.z).hi) else pickI b[i] (u32 (raw.getD i Iv.z).lo)⟩ := by
        unfold partAt; rw [getD_lt b i _ hi3]
      rw [e62_3, List.length_map, List.length_map, List.length_map, lt_dec hi3, wsucc i (by omega), hk]
      have ha1 := ha (partAt b raw i)
      rw [hpa] at ha1 ⊢
      simp only at ha1
      by_cases hr : i < raw.length
      · rw [lt_dec hr, getI raw i hr, getI b i hi3]
        rw [getD_lt raw i _ hr] at ha1 ⊢
        generalize raw[i] = x at *
        have q1 := p55 b[i] hba (u32 x.lo) (u32_b _)
        have q2 := p55 b[i] hba (u32 x.hi) (u32_b _)
        simp only [u32] at q1 q2 ha1 ⊢
        simp only [asInt_i, asBool_i, asRows_i, asCells_i, asTuple_i, asBox_i, asObCells_i, asLoop_i, uncons_i, unconsO_i, isNil_i, asPtr_i, asFn_f, asFn_y, asArr_i, asObArr_t, asObArr_f, isReady_i, isBusy_i, uncons_c, uncons_sc, arrRows_i, Option.bind_some, Option.bind_none, cond_true, cond_false, cond_dec, cond_not, q1, q2, List.length_map, List.length_append, List.length_cons, List.length_nil, Nat.zero_add, h1, if_true]
        rw [List.map_append]
        rfl
      · have hd : decide ((i : Int) < ((raw.length : Nat) : Int)) = false := by simp; omega
        rw [hd, getI b i hi3]
        rw [getD_ge raw i _ hr] at ha1 ⊢
        have hz : u32 Iv.z.lo = 0 := by decide
        have hz2 : u32 Iv.z.hi = 0 := by decide
        have q1 := p55 b[i] hba 0 (by decide)
        rw [hz, hz2] at ha1 ⊢
        simp only [asInt_i, asBool_i, asRows_i, asCells_i, asTuple_i, asBox_i, asObCells_i, asLoop_i, uncons_i, unconsO_i, isNil_i, asPtr_i, asFn_f, asFn_y, asArr_i, asObArr_t, asObArr_f, isReady_i, isBusy_i, uncons_c, uncons_sc, arrRows_i, Option.bind_some, Option.bind_none, cond_true, cond_false, cond_dec, cond_not, q1, ha1, List.length_map, List.length_append, List.length_cons, List.length_nil, Nat.zero_add, h1, if_true])
    (fun out _ => by
      have hc : decide ((((List.range b.length).length : Nat) : Int) < ((b.length : Nat) : Int)) = false := by simp
      rw [e62_3, List.length_map, hc]; rfl) [] rfl).1
  have hfold : ∀ (l : List Nat) (o : List Iv), l.foldl (fun out (k : Nat) => out ++ [partAt b raw k]) o = o ++ l.map (partAt b raw) := by
    intro l
    induction l with
    | nil => intro o; simp
    | cons k l ih => intro o; simp [ih]
  rw [hfold, List.nil_append, show (List.range b.length).map (partAt b raw) = partI b raw from rfl] at hloop
  generalize partI b raw = R at hloop ⊢
  refine CW_valH (u := .slice .any (R.map Iv.c)) (h := [.arr false 2 (R.map Iv.c)]) ?_ rfl
  rw [e62, CW_w]
  refine (bind_via hloop _).trans ?_
  have n0 : nth (sp 0 53 [(0, .slice .any (b.map Iv.c)), (1, .slice .any (raw.map Iv.c)), (5, .arr 0 (R.map Iv.c).length 2), (6, .int .i64 (((List.range b.length).length : Nat) : Int))]) 0 = .slice .any (b.map Iv.c) := rfl
  have n1 : nth (sp 0 53 [(0, .slice .any (b.map Iv.c)), (1, .slice .any (raw.map Iv.c)), (5, .arr 0 (R.map Iv.c).length 2), (6, .int .i64 (((List.range b.length).length : Nat) : Int))]) 1 = .slice .any (raw.map Iv.c) := rfl
  have n5 : nth (sp 0 53 [(0, .slice .any (b.map Iv.c)), (1, .slice .any (raw.map Iv.c)), (5, .arr 0 (R.map Iv.c).length 2), (6, .int .i64 (((List.range b.length).length : Nat) : Int))]) 5 = .arr 0 (R.map Iv.c).length 2 := rfl
  have n6 : nth (sp 0 53 [(0, .slice .any (b.map Iv.c)), (1, .slice .any (raw.map Iv.c)), (5, .arr 0 (R.map Iv.c).length 2), (6, .int .i64 (((List.range b.length).length : Nat) : Int))]) 6 = .int .i64 (((List.range b.length).length : Nat) : Int) := rfl
  simp only [asInt_i, asRows_i, unconsO_i, asArr_i, asObArr_t, Option.bind_some, cond_true, n0, n1, n5, n6, Nat.beq_refl, arrRows_i]
end Go.Ab
