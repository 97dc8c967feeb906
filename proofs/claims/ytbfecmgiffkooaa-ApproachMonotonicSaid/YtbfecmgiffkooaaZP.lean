/- Shift: the call answers true, whatever the query and the shifts; conditions: none. -/
import Derived.Test.YtbfecmgiffkooaaZK
import Derived.Test.YtbfecmgiffkooaaZO
import Derived.Test.YtbfecmgiffkooaaE7
namespace Go.Ab
set_option linter.unusedVariables false
set_option linter.unusedSimpArgs false
set_option linter.unusedSimpArgs false
set_option linter.unusedVariables false
theorem fold_app {α β : Type} (f : α → β) : ∀ (l : List α) (o : List β), l.foldl (fun o a => o ++ [f a]) o = o ++ l.map f
  | [], o => by simp
  | a :: l, o => by rw [List.foldl_cons, fold_app f l]; simp
theorem room16 {k : Nat} (h : k ≤ 1000) : k * 16 ≤ room := Nat.le_trans (Nat.mul_le_mul_right 16 h) (by unfold room; decide)
theorem room112 {k : Nat} (h : k ≤ 1000) : k * 112 ≤ room := Nat.le_trans (Nat.mul_le_mul_right 112 h) (by unfold room; decide)
theorem p84 (v : Int) : (CW G20 L20).p (.func 84) [.int .i64 v] = some (.agg (Iv.new v v).c) := by
  refine CW_val (h := []) ?_ rfl
  rw [e84, p43]; rfl
theorem pt_valid (v : Int) : (Iv.new v v).valid := new_valid (Int.le_refl _)
theorem p59 (l : List Iv) (hl : l.length ≤ 100) (hv : valids l) (v : Int) : (CW G20 L20).p (.func 59) [.slice .any (l.map Iv.c), .int .i64 v] = some (.slice .any ((l.map (mv v)).map Iv.c)) := by
  have hloop := (iterW_foldlN (round := roundK G20 L20 (CW G20 L20) 59 none 3)
    (S := fun i (out : List Iv) => ⟨(sp 0 25 [(0, .slice .any (l.map Iv.c)), (1, .int .i64 v), (5, .arr 0 (out.map Iv.c).length 2), (6, .int .i64 ((i : Nat) : Int))]), [.arr true 2 (out.map Iv.c)]⟩)
    (fun out a => out ++ [mv v a]) (fun i out => out.length = i) l (id := 0) (fun i hi out ho => by
      have h1 : (out.length + 1) * 16 ≤ room := room16 (by omega)
      have hva := hv _ (List.getElem_mem hi)
      have hap := appI out (mv v l[i])
      refine ⟨?_, by simp [ho]⟩
      rw [e59_3, List.length_map, lt_dec hi, getI l i hi, wsucc i (by omega)]
      generalize l[i] = a at *
      have q := p56 a (Iv.new v v) hva (pt_valid v)
      rw [show a.add (Iv.new v v) = mv v a from rfl] at q
      simp only [asInt_i, asBool_i, asRows_i, asCells_i, asTuple_i, asBox_i, asObCells_i, asLoop_i, uncons_i, unconsO_i, isNil_i, asPtr_i, asFn_f, asFn_y, asArr_i, asObArr_t, asObArr_f, isReady_i, isBusy_i, uncons_c, uncons_sc, arrRows_i, Option.bind_some, Option.bind_none, cond_true, cond_false, cond_dec, cond_not, p84, q, List.length_map, h1, if_true, hap, List.length_append, List.length_cons, List.length_nil, Nat.zero_add])
    (fun out _ => by rw [e59_3, List.length_map, lt_decn]; rfl) [] rfl).1
  rw [fold_app, List.nil_append] at hloop
  generalize l.map (mv v) = R at hloop ⊢
  refine CW_valH (u := .slice .any (R.map Iv.c)) (h := [.arr false 2 (R.map Iv.c)]) ?_ rfl
  rw [e59, CW_w]
  refine (bind_via hloop _).trans ?_
  have n0 : nth (sp 0 25 [(0, .slice .any (l.map Iv.c)), (1, .int .i64 v), (5, .arr 0 (R.map Iv.c).length 2), (6, .int .i64 ((l.length : Nat) : Int))]) 0 = .slice .any (l.map Iv.c) := rfl
  have n1 : nth (sp 0 25 [(0, .slice .any (l.map Iv.c)), (1, .int .i64 v), (5, .arr 0 (R.map Iv.c).length 2), (6, .int .i64 ((l.length : Nat) : Int))]) 1 = .int .i64 v := rfl
  have n5 : nth (sp 0 25 [(0, .slice .any (l.map Iv.c)), (1, .int .i64 v), (5, .arr 0 (R.map Iv.c).length 2), (6, .int .i64 ((l.length : Nat) : Int))]) 5 = .arr 0 (R.map Iv.c).length 2 := rfl
  have n6 : nth (sp 0 25 [(0, .slice .any (l.map Iv.c)), (1, .int .i64 v), (5, .arr 0 (R.map Iv.c).length 2), (6, .int .i64 ((l.length : Nat) : Int))]) 6 = .int .i64 ((l.length : Nat) : Int) := rfl
  simp only [asInt_i, asRows_i, unconsO_i, asArr_i, asObArr_t, Option.bind_some, cond_true, n0, n1, n5, n6, Nat.beq_refl, arrRows_i]
/-- All four boxes are valid and short. -/
structure Full (s : Seg) : Prop where
  f : valids s.frm ∧ s.frm.length ≤ 100
  p : valids s.pre ∧ s.pre.length ≤ 100
  t : valids s.tube ∧ s.tube.length ≤ 100
  o : valids s.to ∧ s.to.length ≤ 100
set_option maxRecDepth 100000 in
theorem p28 (l : List Seg) (hl : l.length ≤ 100) (hf : ∀ s ∈ l, Full s) (t v : Int) (ht : ∀ s ∈ l, IntKind.wrap .i64 (s.t + t) = s.t + t) : (CW G20 L20).p (.func 28) [.slice .any (l.map Seg.c), .int .i64 t, .int .i64 v] = some (.slice .any ((l.map (shS t v)).map Seg.c)) := by
  have hloop := (iterW_foldlN (round := roundK G20 L20 (CW G20 L20) 28 none 3)
    (S := fun i (out : List Seg) => ⟨(sp 0 48 [(0, .slice .any (l.map Seg.c)), (1, .int .i64 t), (2, .int .i64 v), (7, .arr 0 (out.map Seg.c).length 6), (8, .int .i64 ((i : Nat) : Int))]), [.arr true 6 (out.map Seg.c)]⟩)
    (fun out a => out ++ [shS t v a]) (fun i out => out.length = i) l (id := 0) (fun i hi out ho => by
      have h1 : (out.length + 1) * 112 ≤ room := room112 (by omega)
      have hfa := hf _ (List.getElem_mem hi)
      have hta := ht _ (List.getElem_mem hi)
      have hap := appS out (shS t v l[i])
      refine ⟨?_, by simp [ho]⟩
      rw [e28_3, List.length_map, lt_dec hi, getS l i hi, wsucc i (by omega)]
      generalize l[i] = a at *
      simp only [shS] at hap
      simp only [asInt_i, asBool_i, asRows_i, asCells_i, asTuple_i, asBox_i, asObCells_i, asLoop_i, uncons_i, unconsO_i, isNil_i, asPtr_i, asFn_f, asFn_y, asArr_i, asObArr_t, asObArr_f, isReady_i, isBusy_i, uncons_c, uncons_sc, arrRows_i, Option.bind_some, Option.bind_none, cond_true, cond_false, cond_dec, cond_not, p59 a.frm hfa.f.2 hfa.f.1, p59 a.pre hfa.p.2 hfa.p.1, p59 a.tube hfa.t.2 hfa.t.1, p59 a.to hfa.o.2 hfa.o.1, hta, List.length_map, h1, if_true, hap, List.length_append, List.length_cons, List.length_nil, Nat.zero_add, shS])
    (fun out _ => by rw [e28_3, List.length_map, lt_decn]; rfl) [] rfl).1
  rw [fold_app, List.nil_append] at hloop
  generalize l.map (shS t v) = R at hloop ⊢
  refine CW_valH (u := .slice .any (R.map Seg.c)) (h := [.arr false 6 (R.map Seg.c)]) ?_ rfl
  rw [e28, CW_w]
  refine (bind_via hloop _).trans ?_
  have n0 : nth (sp 0 48 [(0, .slice .any (l.map Seg.c)), (1, .int .i64 t), (2, .int .i64 v), (7, .arr 0 (R.map Seg.c).length 6), (8, .int .i64 ((l.length : Nat) : Int))]) 0 = .slice .any (l.map Seg.c) := rfl
  have n1 : nth (sp 0 48 [(0, .slice .any (l.map Seg.c)), (1, .int .i64 t), (2, .int .i64 v), (7, .arr 0 (R.map Seg.c).length 6), (8, .int .i64 ((l.length : Nat) : Int))]) 1 = .int .i64 t := rfl
  have n2 : nth (sp 0 48 [(0, .slice .any (l.map Seg.c)), (1, .int .i64 t), (2, .int .i64 v), (7, .arr 0 (R.map Seg.c).length 6), (8, .int .i64 ((l.length : Nat) : Int))]) 2 = .int .i64 v := rfl
  have n7 : nth (sp 0 48 [(0, .slice .any (l.map Seg.c)), (1, .int .i64 t), (2, .int .i64 v), (7, .arr 0 (R.map Seg.c).length 6), (8, .int .i64 ((l.length : Nat) : Int))]) 7 = .arr 0 (R.map Seg.c).length 6 := rfl
  have n8 : nth (sp 0 48 [(0, .slice .any (l.map Seg.c)), (1, .int .i64 t), (2, .int .i64 v), (7, .arr 0 (R.map Seg.c).length 6), (8, .int .i64 ((l.length : Nat) : Int))]) 8 = .int .i64 ((l.length : Nat) : Int) := rfl
  simp only [asInt_i, asRows_i, unconsO_i, asArr_i, asObArr_t, Option.bind_some, cond_true, n0, n1, n2, n7, n8, Nat.beq_refl, arrRows_i]
/-! Made flows, closer. -/
theorem getD_mem {l : List Iv} {i : Nat} (h : i < l.length) (d : Iv) : l.getD i d ∈ l := by rw [getD_lt l i d h]; exact List.getElem_mem h
theorem partI_valid (b raw : List Iv) (hb : ∀ a ∈ b, -1048576 < a.lo ∧ a.lo < 1048576 ∧ a.lo ≤ a.hi ∧ a.hi < 1248576) : valids (partI b raw) := fun a ha => by
  unfold partI at ha
  obtain ⟨i, hi, rfl⟩ := List.mem_map.1 ha
  rw [List.mem_range] at hi
  have h := hb _ (getD_mem hi Iv.z)
  have k1 := pickI_b h (u32_b (raw.getD i Iv.z).lo).1
  have k2 := pickI_b h (u32_b (raw.getD i Iv.z).hi).1
  unfold partAt
  simp only
  refine ⟨?_, ?_, ?_, .inr ⟨?_, ?_⟩⟩ <;> simp only [number] <;> (try constructor) <;> (split <;> (try split) <;> omega)
theorem partI_len (b raw : List Iv) : (partI b raw).length = b.length := by unfold partI; simp
theorem made_full (raw : List Seg) : ∀ s ∈ Made raw, Full s := by
  rw [Made_eq]
  have : ∀ (l : List Seg) (t : Int), ∀ s ∈ madeL t l, Full s := by
    intro l
    induction l with
    | nil => intro t s hs; simp [madeL] at hs
    | cons x l ih =>
      intro t s hs
      simp only [madeL, List.mem_cons] at hs
      rcases hs with rfl | hs
      · refine ⟨⟨partI_valid _ _ (boxOf_b _), ?_⟩, ⟨boxOf_valid _, ?_⟩, ⟨boxOf_valid _, ?_⟩, ⟨partI_valid _ _ (boxOf_b _), ?_⟩⟩ <;> simp only [made1, partI_len, boxOf_len] <;> omega
      · exact ih _ s hs
  exact this _ _
theorem made_time (raw : List Seg) : ∀ s ∈ Made raw, -1048576 ≤ s.t ∧ s.fin ≤ 1500000 := by
  rw [Made_eq]
  have : ∀ (l : List Seg) (t : Int), ∀ s ∈ madeL t l, t ≤ s.t ∧ s.fin ≤ t + 65536 * (l.length : Int) := by
    intro l
    induction l with
    | nil => intro t s hs; simp [madeL] at hs
    | cons x l ih =>
      intro t s hs
      have hb := hOf_b x.h
      simp only [madeL, List.mem_cons] at hs
      simp only [List.length_cons]
      rcases hs with rfl | hs
      · simp only [made1, Seg.fin]; omega
      · have := ih _ s hs; omega
  intro s hs
  have h := this _ _ s hs
  have h1 := start_b raw
  have h2 := src_len6 raw
  omega
theorem shift_good {l : List Seg} (h : Good l) (hn : NarS l) (hti : ∀ s ∈ l, -1048576 ≤ s.t ∧ s.fin ≤ 1500000) {t v : Int} (t1 : -4194304 < t) (t2 : t < 4194304) (v1 : -4194304 < v) (v2 : v < 4194304) : Good (l.map (shS t v)) := by
  refine ⟨fun s hs => ?_, fun s hs => ?_, sh_up v1 v2 h.up, sh_pos v1 v2 h.pos, fun s hs => ?_, by rw [List.length_map]; exact h.len⟩
  · obtain ⟨y, hy, rfl⟩ := List.mem_map.1 hs
    have ho := h.ok y hy
    have ht := hti y hy
    have hp := h.pos y hy
    obtain ⟨k1, k2, k3, k4, k5, k6⟩ := ho
    refine ⟨by simp only [shS]; omega, ?_, k3, k4, by simp only [shS, List.length_map]; exact k5, fun a ha => ?_⟩
    · simp only [shS, Seg.fin] at *; omega
    · simp only [shS, List.mem_map] at ha
      obtain ⟨b, hb, rfl⟩ := ha
      have hb' := hn y hy b hb
      have nb := hb'
      rw [mv_eq hb' v1 v2]
      obtain ⟨b1, b2, b3⟩ := nb
      refine ⟨by simp only; omega, by simp only; omega, by simp only; omega, .inr ⟨?_, ?_⟩⟩ <;> simp only [number] <;> omega
  · obtain ⟨y, hy, rfl⟩ := List.mem_map.1 hs
    have ht := hti y hy
    have hp := h.pos y hy
    simp only [shS, Seg.fin, number] at *
    omega
  · obtain ⟨y, hy, rfl⟩ := List.mem_map.1 hs
    have := h.long y hy
    simpa [shS] using this
end Go.Ab
