/- A statement's row from what its call comes to; conditions: none. -/
import Derived.Test.YtbfecmgiffkooaaAb18
import Derived.Carry
import Derived.OpenShut
import Derived.ChangeSame
import Derived.ReadAgain
namespace Go.Ab
set_option linter.unusedVariables false
set_option linter.unusedSimpArgs false
open Go.RowKit Go.ChangeShapes Go.WideShapes
variable {H : Type} {enc : TypeId × Value → H} {P : Program} {W : World}

/-- An argument's form. -/
def ArgShp (P : Program) (t : TypeId) (v : V) : Prop :=
  match P.underlying t with
  | some (.struct _) | some (.array _ _) => ∃ n vs, v = .agg vs ∧ Shp P n t vs
  | some .bool | some (.int _) | some .string | some (.slice _) => ∃ n, Shp P n t [v]
  | _ => True
def ArgsShp (P : Program) : List TypeId → List V → Prop
  | [], vs => vs = []
  | t :: ts, vs => ∃ v l, vs = v :: l ∧ ArgShp P t v ∧ ArgsShp P ts l

theorem arg_shp (K : Kids P (· < P.types.size)) (hz : ∀ t e, t < P.types.size → P.underlying t = some (.slice e) → 0 < P.cellsOf e) {base : Nat} {sp : Nat → Bool} {hd : Bool} {t : TypeId} {c : Value} {d : DataW H} {p : List MemPlace}
    (ht : t < P.types.size) (hok : Value.okWide P W .any base t c) (T : DataW.Trod enc P W 0 sp hd t c d p) : ∃ v, VR v (memOf W g0) c ∧ ArgShp P t v := by
  obtain ⟨n, h⟩ := T
  obtain ⟨vs, h1, h2, h3⟩ := trod_shp K hz n t _ _ ht h
  have single : (∀ cs, c ≠ .agg cs) → ∃ v, vs = [v] ∧ VR v (memOf W g0) c := by
    intro hne
    have hc : c.cells = #[c] := by
      cases c <;> first | rfl | exact absurd rfl (hne _)
    rw [hc] at h1 h2
    match vs, h2 with
    | [v], _ =>
      simp only [VRl] at h1
      obtain ⟨c', cs', e, h4, _⟩ := h1
      cases e
      exact ⟨v, rfl, h4.1⟩
  unfold Value.okWide at hok
  unfold ArgShp
  split at hok
  all_goals first
    | (rename_i hu
       obtain ⟨cs, rfl, _⟩ := hok
       simp only [hu]
       refine ⟨.agg vs, ?_, n, vs, rfl, h3⟩
       simp only [VR]
       exact ⟨cs.toList, rfl, h1⟩)
    | skip
  split
  · rename_i h _ _ _ hu; exact absurd hu (by intro e; exact h _ e)
  · rename_i h _ _ _ hu; exact absurd hu (by intro e; simp_all)
  all_goals first
    | (rename_i hu
       obtain ⟨v, rfl, hv⟩ := single (by
         rintro cs rfl
         simp [Cell.okWide, Cell.ok, hu] at hok)
       exact ⟨v, hv, n, h3⟩)
    | exact ⟨.undef, by simp only [VR], trivial⟩

theorem args_shp (K : Kids P (· < P.types.size)) (hz : ∀ t e, t < P.types.size → P.underlying t = some (.slice e) → 0 < P.cellsOf e) {base : Nat} {sp : Nat → Bool} {hd : Bool} : ∀ {ts : List TypeId} {cs : List Value} {ds : List (DataW H)} {p : List MemPlace},
    (∀ t ∈ ts, t < P.types.size) → (∀ (j : Nat) t v, ts[j]? = some t → cs[j]? = some v → Value.okWide P W .any base t v) → DataW.TrodAll enc P W 0 sp hd ts cs ds p → ∃ vs, VRs vs (memOf W g0) cs ∧ ArgsShp P ts vs
  | [], _, _, _, _, _, h => by
    obtain ⟨rfl, rfl, rfl⟩ := trodAll_nil h
    exact ⟨[], by simp only [VRs], rfl⟩
  | t :: ts, _, _, _, ht, hv, h => by
    obtain ⟨v, vs, d, ds, p, q, rfl, rfl, rfl, h1, h2⟩ := trodAll_cons h
    obtain ⟨u, u1, u2⟩ := arg_shp K hz (ht t (by simp)) (hv 0 t v rfl rfl) h1
    obtain ⟨us, w1, w2⟩ := args_shp K hz (fun t' h' => ht t' (by simp [h'])) (fun j t' v' a b => hv (j + 1) t' v' (by simpa using a) (by simpa using b)) h2
    exact ⟨u :: us, by simp only [VRs]; exact ⟨v, vs, rfl, u1, w1⟩, u, us, rfl, u2, w2⟩

theorem all_stays (hl : laidOutB P = true) {W' : World} {sp : Nat → Bool} : ∀ {ts : List TypeId} {cs : List Value} {ds : List (DataW H)} {p : List MemPlace}, (∀ t ∈ ts, P.readableRec t = true ∧ t < P.types.size) →
    DataW.TrodAll enc P W 0 (fun _ => true) true ts cs ds p → (∀ x ∈ p, W.sameAt W' x) → (∀ x ∈ p, sp x.block = true) → DataW.TrodAll enc P W' 0 sp true ts cs ds p
  | [], _, _, _, _, h, _, _ => by
    obtain ⟨rfl, rfl, rfl⟩ := trodAll_nil h
    exact trodAll_mk0
  | t :: ts, _, _, _, ht, h, hs, hp => by
    obtain ⟨v, vs, d, ds, p, q, rfl, rfl, rfl, h1, h2⟩ := trodAll_cons h
    exact ⟨p, q, WideElems.Trod_stays hl (ht t (by simp)).1 (ht t (by simp)).2 h1 (fun x hx => hs x (by simp [hx])) (fun x hx => hp x (by simp [hx])),
      all_stays hl (fun t' h' => ht t' (by simp [h'])) h2 (fun x hx => hs x (by simp [hx])) (fun x hx => hp x (by simp [hx])), rfl⟩

/-- A call that comes to true, and that by value: the row's step. -/
theorem law_contract {fn : Func} {f : FuncId} {s : ChangeSpec} {tb : TypeId} {apart fresh handsOn again : Bool}
    (hl : laidOutB P = true) (hm : mapsRowed P = true) (hz : ∀ t e, t < P.types.size → P.underlying t = some (.slice e) → 0 < P.cellsOf e)
    (hts : ∀ t ∈ fn.params.toList, P.readableRec t = true ∧ t < P.types.size)
    (hv : s.vars = []) (hs : ∀ ds : List (DataW H), ds.length = fn.params.size → s.fn H ds = { results := [.lit (.bool true)], args := ds })
    (hr : fn.resultTypes = #[tb]) (hb : P.underlying tb = some .bool)
    (law : ∀ vs, ArgsShp P fn.params.toList vs → PureR P (.func f) vs (.bool true))
    (W : World) (base : Nat) (args : Array Value) (ds gs : List (DataW H)) (before : List MemPlace)
    (hval : ∀ (j : Nat) t v, fn.params[j]? = some t → args[j]? = some v → Value.okWide P W .any base t v)
    (hW : DataW.Whole enc P fn.params.toList s.vars apart W args.toList ds gs before) :
    Calls P f args W fun e W' => ∃ v, e = .returned v ∧ s.post enc P fn apart fresh handsOn again W args v W' := by
  have hW' := hW
  obtain ⟨p, q, hA, hV, rfl, hfz, hnd⟩ := hW
  rw [hv] at hV
  obtain ⟨rfl, rfl⟩ := trodVars_none hV
  obtain ⟨vs, a1, a2⟩ := args_shp (base := base) (kids_rows hl hm) hz (fun t ht => (hts t ht).2) (fun j t v a b => hval j t v (by simpa using a) (by simpa using b)) hA
  obtain ⟨f', hf', _, hc⟩ := law vs a2
  cases hf'
  have hlen : ds.length = fn.params.size := by
    have : ∀ {ts : List TypeId} {cs : List Value} {ds : List (DataW H)} {p : List MemPlace}, DataW.TrodAll enc P W 0 (fun _ => true) true ts cs ds p → ds.length = ts.length := by
      intro ts
      induction ts with
      | nil => intro _ _ _ h; obtain ⟨rfl, rfl, rfl⟩ := trodAll_nil h; rfl
      | cons t ts ih =>
        intro _ _ _ h
        obtain ⟨v, vs, d, ds, p, q, rfl, rfl, rfl, h1, h2⟩ := trodAll_cons h
        simp [ih h2]
    simpa using this hA
  refine (hc W g0 args.toList (wf0 W) a1).mono fun e W' ⟨c, g', he, wf', _, hx, hvr⟩ => ?_
  subst he
  simp only [VR] at hvr
  subst hvr
  have hbl : Below W.heap.size W W' := ⟨hx.os, hx.tape, hx.output, hx.size, fun k hk => (hx.keep k hk (fun p hp => by simp [g0] at hp)).1⟩
  have hlt : ∀ x ∈ p, x.block < W.heap.size := fun x hx => hW'.lt x (by simpa using hx)
  have efn : s.fn H (ds ++ []) = { results := [.lit (.bool true)], args := ds } := by rw [List.append_nil]; exact hs ds hlen
  have hone : ∀ (b : Nat) (sp : Nat → Bool) (hd : Bool), DataW.Trod enc P W' b sp hd tb (.bool true) (.lit (.bool true)) [] := fun b sp hd => shut_bool hb true
  have hres : ∀ (b : Nat) (sp : Nat → Bool) (hd : Bool), DataW.TrodAll enc P W' b sp hd fn.resultTypes.toList ((Value.bool true).resultList fn.resultTypes.size) (s.fn H (ds ++ [])).results [] := fun b sp hd => by
    rw [efn, hr]
    exact trodAll_cons_mk (hone b sp hd) trodAll_mk0
  have hargs : ∀ sp : Nat → Bool, (∀ x ∈ p, sp x.block = true) → DataW.TrodAll enc P W' 0 sp true fn.params.toList args.toList (s.fn H (ds ++ [])).args p := fun sp hsp => by
    rw [efn]
    exact all_stays hl hts hA (fun x hx => hbl.same (hlt x hx)) hsp
  have hvars : ∀ sp : Nat → Bool, DataW.TrodVars enc P W' sp s.vars (s.fn H (ds ++ [])).vars [] := fun sp => by
    rw [efn, hv]; rfl
  have hz' : W'.noneFrozen (p ++ []) := fun b o hb => by
    rw [hbl.frozen (hlt _ (by simpa using hb))]
    exact hfz b o hb
  refine ⟨_, rfl, ds, [], p ++ [], [], p, [], hW', hres _ _ _, hargs _ (fun x hx => by simpa using hlt x hx), hvars _, hbl.frame _, fun _ => ⟨ok_one hr rfl (okWide_bool_mk hb true), _, _, ([] ++ p) ++ [], ⟨[] ++ p, [], trodAll_append (hargs _ fun _ _ => rfl) (hres _ _ _), hvars _, rfl, ?_, fun ha => ?_⟩, fun x hx _ => by simpa using hx⟩⟩
  · simpa using hz'
  · simpa using hnd ha
end Go.Ab
