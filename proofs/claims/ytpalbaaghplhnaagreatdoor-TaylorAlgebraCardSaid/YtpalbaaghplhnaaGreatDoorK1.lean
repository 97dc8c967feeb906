/- The keys of a map of byte rows come out of the iterator of maps.Keys each once, in some order; conditions: the entries are stamped in their order. -/
import Derived.Shelf.SlIter.Sorted
import Derived.Shelf.SlSortCmp.NoneTotal
import Derived.KernelRfl
import Derived.Test.YtpalbaaghplhnaaGreatDoorT
set_option linter.unusedVariables false
set_option linter.unusedSimpArgs false
namespace Go.Ab
open Go.Proofs Go.RowKit Go.Maps Go.Sort Go.Shelf Go.ChangeMaps
def kv (x : List Int) : List Value := x.map (.int .u8)
def ze2 (ks : List (List Int)) (es : Array MapEntry) : Prop := es.size = ks.length ∧ ∀ (i : Nat) (e : MapEntry), es[i]? = some e → e.born = i ∧ ∃ x, ks[i]? = some x ∧ e.key = .agg (kv x).toArray
def ze3 (ks : List (List Int)) (seen : List Nat) : List (List Int) := seen.map fun i => (ks[i]?).getD []
structure Seen (ks : List (List Int)) (seen : Array Nat) : Prop where
 nd : seen.toList.Nodup
 lt : ∀ i ∈ seen.toList, i < ks.length
theorem Seen.len {ks : List (List Int)} {seen : Array Nat} (h : Seen ks seen) : seen.size ≤ ks.length := by
 have : seen.toList.length ≤ (List.range ks.length).length := h.nd.length_le_of_subset fun i hi => List.mem_range.2 (h.lt i hi)
 simpa using this
theorem Seen.all {ks : List (List Int)} {seen : Array Nat} (h : Seen ks seen) (ha : ∀ i, i < ks.length → i ∈ seen.toList) : (ze3 ks seen.toList).Perm ks := by
 have hp : seen.toList.Perm (List.range ks.length) := (List.perm_ext_iff_of_nodup h.nd List.nodup_range).2 fun i => ⟨fun hi => List.mem_range.2 (h.lt i hi), fun hi => ha i (List.mem_range.1 hi)⟩
 have hm := hp.map fun i => (ks[i]?).getD []
 have e : (List.range ks.length).map (fun i => (ks[i]?).getD []) = ks := by
  apply List.ext_getElem
  ·simp
  ·intro i h1 h2
   simp [List.getElem?_eq_getElem h2]
 rw [e] at hm
 exact hm
theorem ze2.born {ks : List (List Int)} {es : Array MapEntry} (h : ze2 ks es) {e : MapEntry} (he : e ∈ es.toList) : e.born < ks.length ∧ e.key = .agg (kv ((ks[e.born]?).getD [])).toArray := by
 obtain ⟨i, hi, rfl⟩ := List.mem_iff_getElem.1 he
 have hi' : i < es.size := by simpa using hi
 obtain ⟨h1, x, h2, h3⟩ := h.2 i es[i] (Array.getElem?_eq_getElem hi')
 have he : es.toList[i] = es[i] := by simp
 rw [he, h1, h2]
 exact ⟨(List.getElem?_eq_some_iff.1 h2).1, h3⟩
theorem ze2.nodup {ks : List (List Int)} {es : Array MapEntry} (h : ze2 ks es) : (es.toList.map (·.born)).Nodup := by
 have : es.toList.map (·.born) = List.range es.size := by
  apply List.ext_getElem
  ·simp
  ·intro i h1 h2
   have hi' : i < es.size := by simpa using h1
   have := (h.2 i es[i] (Array.getElem?_eq_getElem hi')).1
   simpa using this
 rw [this]; exact List.nodup_range
theorem ze2.at {ks : List (List Int)} {es : Array MapEntry} (h : ze2 ks es) {i : Nat} (hi : i < ks.length) : ∃ e ∈ es.toList, e.born = i := by
 have hi' : i < es.size := by rw [h.1]; exact hi
 exact ⟨es[i], by simp, (h.2 i es[i] (Array.getElem?_eq_getElem hi')).1⟩
section
variable {F : Fence} {n : Nat} {P : Program} (w : World) {ops : Array Oper} {rest : List Oper} {o : Oper} {a : Act} {Q : Exit → Act → World → Prop}
theorem zoj (hg : o.guard = none) (m : Operand) (t : TypeId) (hop : o.op = Op.range t m) (k e : TypeId) (ht : P.underlying t = some (.map k e)) (b : Nat) (es : Array MapEntry) (clock : Nat)
  (hm : a.eval m = .map (some b)) (hb : w.heap[b]? = some (.map es clock))
  (hK : wpListIn F n P ops Q rest (a.put o.dst (.pointer (some ⟨w.heap.size, 0, none⟩))) (w.alloc (.mapIter (some b) clock #[] clock))) :
  wpListIn F n P ops Q (o :: rest) a w := by
 refine wpListIn_plain hg fun K' hK' => ?_
 unfold Oper.wpIn
 refine ⟨by simp [Oper.about, hop], ?_⟩
 rw [Oper.semAt_plain F _ _ (by rw [hop]; intro c hc'; cases hc')]
 simp [execOp, hop, hm, run_range_map w t k e b es clock ht hb, Result.andThen]
 exact hK' _ _ hK
theorem zpg (hg : o.guard = none) (it : Operand) (hop : o.op = Op.next it false) (r b since c0 : Nat) (seen : Array Nat) (es : Array MapEntry) (clock : Nat)
  (hit : a.eval it = .pointer (some ⟨r, 0, none⟩)) (hr : w.heap[r]? = some (.mapIter (some b) since seen c0)) (hb : w.heap[b]? = some (.map es clock)) (hold : ∀ x ∈ es.toList, x.born < since) (hsc : since ≤ c0)
  (hDone : (leftOf es seen).size = 0 → wpListIn F n P ops Q rest (a.put o.dst (.tuple #[.bool false])) w)
  (hMore : ∀ (e : MapEntry) (w1 : World), e ∈ (leftOf es seen).toList → (w1 = w ∨ w1 = w.drew) → wpListIn F n P ops Q rest (a.put o.dst (.tuple #[.bool true, e.key, e.val])) (setBlock w1 r (.mapIter (some b) since (seen.push e.born) clock))) :
  wpListIn F n P ops Q (o :: rest) a w := by
 refine wpListIn_plain hg fun K' hK' => ?_
 unfold Oper.wpIn
 refine ⟨by simp [Oper.about, hop], ?_⟩
 rw [Oper.semAt_plain F _ _ (by rw [hop]; intro c hc'; cases hc')]
 rcases run_next_at (P := P) w o.type r b since c0 seen es clock hr hb hold hsc with ⟨h0, hrun⟩ | ⟨e, he, w1, hw1, hrun⟩
 ·simp [execOp, hop, hit, hrun, Result.andThen]
  exact hK' _ _ (hDone h0)
 ·simp [execOp, hop, hit, hrun, Result.andThen]
  exact hK' _ _ (hMore e w1 he hw1)
end
end Go.Ab
namespace Go.Ab
open Go.Proofs Go.RowKit Go.Maps Go.Sort Go.Shelf Go.ChangeMaps
def zpC {β : Type} (B : Nat) (J : β → World → Prop) : Prop :=
 ∀ s W W' row, J s W → W.grownBy W' row → W.drawn ≤ W'.drawn → (∀ r, row = some r → B ≤ r ∧ ∃ o : Obj, W.heap[r]? = some o ∧ o.isWalk = true) → J s W'
set_option maxRecDepth 100000 in
set_option maxHeartbeats 2000000 in
theorem keys1 (F : Fence) (n : Nat) (hF : ∀ f, F.fn f) (hro : F.round = none) (hn : 1 ≤ n) (l Bm b : Nat) (ks : List (List Int)) (es : Array MapEntry) (hks : ze2 ks es) (hk6 : ∀ x ∈ ks, x.length = 6)
  (J : List (List Int) → World → Prop) (W : World) (hJ : zpC W.heap.size J)
  (hY : ∀ pre x W, J pre W → x ∈ ks → pre.length < ks.length → YieldAt F (n - 1) Tryz.prog l #[.agg (kv x).toArray] W fun e W' => e = .returned (.bool true) ∧ J (pre ++ [x]) W' ∧ KeepsWalks W W')
  (hm : W.cell? ⟨Bm, 0, none⟩ = some (.map (some b))) (hb : W.heap[b]? = some (.map es es.size)) (h0 : J [] W) :
  CallsIn F n Tryz.prog 114 #[.func (.yield l) #[] #[], .pointer (some ⟨Bm, 0, none⟩)] W fun e W' => (∃ v, e = .returned v) ∧ ∃ ss : List (List Int), ss.Perm ks ∧ J ss W' := by
 have t0 := Tryz.underlying0; have a0 := Tryz.isAgg0; have z0 := Tryz.sizeOf0; have v0 := Tryz.zeroValue0
 have t4 := Tryz.underlying4; have a4 := Tryz.isAgg4; have z4 := Tryz.sizeOf4; have v4 := Tryz.zeroValue4
 have t52 := Tryz.underlying60; have a52 := Tryz.isAgg60; have z52 := Tryz.sizeOf60; have v52 := Tryz.zeroValue60
 have t75 := Tryz.underlying94; have a75 := Tryz.isAgg94; have z75 := Tryz.sizeOf94; have v75 := Tryz.zeroValue94
 have mixed : Tryz.prog.follows .mixedOrders = true := by kernel_rfl
 have h77 := hF 114
 have FG := Tryz.func114
 refine callsIn_of_wp FG rfl h77 ?_ hro
 simp only [Tryz.ntmps114, List.size_toArray, List.length_cons, List.length_nil, Nat.reduceAdd, Nat.reduceSub, Array.replicate_succ, Array.replicate_zero, List.push_toArray, List.append_toArray, List.nil_append, List.cons_append]
 gi_wp2_with (first
  | (gi_at_range; refine zoj _ rfl _ 94 rfl 60 2 t75 b es es.size rfl hb ?_)
  | gi_in)
 go_frame
 obtain ⟨W0, hW0⟩ : ∃ W0, W.alloc (.mapIter (some b) es.size #[] es.size) = W0 := ⟨_, rfl⟩
 rw [hW0]
 gi_loopw [3] (fun _ wr => ∃ seen : Array Nat, Seen ks seen ∧ J (ze3 ks seen.toList) wr ∧ wr.heap[W.heap.size]? = some (.mapIter (some b) es.size seen es.size) ∧ wr.heap[b]? = some (.map es es.size) ∧ W.heap.size < wr.heap.size)
  (fun _ wr => wr.rangeLeft b W.heap.size)
 case atStart =>
  have h1 := MapKept.heap_alloc W (.mapIter (some b) es.size #[] es.size)
  rw [hW0] at h1
  have hbl : b < W.heap.size := (Array.getElem?_eq_some_iff.1 hb).1
  exact ⟨#[], ⟨by simp, by simp⟩, hJ [] W W0 none h0 (by rw [← hW0]; exact World.grownBy_alloc W _ none) (by rw [← hW0]; exact Nat.le_refl _) (fun r e => by cases e), h1.1, (h1.2 b hbl).trans hb, by rw [← hW0]; simp⟩
 case round =>
  obtain ⟨seen, hs, hJs, hr, hb', hsz⟩ := hrel
  gi_wp2_with (first
   | (gi_at_next; refine zpg _ rfl _ rfl W.heap.size b es.size es.size seen es es.size rfl hr hb' (fun x hx => by rw [hks.1]; exact (hks.born hx).1) (Nat.le_refl _) ?_ ?_)
   | gi_in)
  ·intro hl0
   gi_wp2
   go_end0
   have hall := all_seen es seen (by rw [hl0]; rfl)
   refine ⟨⟨_, rfl⟩, _, hs.all (fun i hi => ?_), hJs⟩
   obtain ⟨x, hx, rfl⟩ := hks.at hi
   simpa using hall x hx
  ·intro e w1 hel hw1
   obtain ⟨W2, hW2⟩ : ∃ W2, setBlock w1 W.heap.size (.mapIter (some b) es.size (seen.push e.born) es.size) = W2 := ⟨_, rfl⟩
   rw [hW2]
   obtain ⟨hel1, hel2⟩ := mem_left (Array.mem_toList_iff.2 hel)
   have hshr := left_shrinks es seen e (Array.mem_toList_iff.2 hel)
   obtain ⟨hbl, hkey⟩ := hks.born hel1
   generalize hx : (ks[e.born]?).getD [] = x at hkey
   have hxm : x ∈ ks := by rw [← hx, List.getElem?_eq_getElem hbl]; exact List.getElem_mem hbl
   have hnb : e.born ∉ seen.toList := by simpa using hel2
   have hs2 : Seen ks (seen.push e.born) := ⟨by
    rw [Array.toList_push, List.nodup_append]
    refine ⟨hs.nd, by simp, ?_⟩
    intro a ha c hc
    simp only [List.mem_singleton] at hc
    subst hc
    exact fun e => hnb (e ▸ ha), by
    intro i hi
    rw [Array.toList_push, List.mem_append, List.mem_singleton] at hi
    rcases hi with hi | rfl
    ·exact hs.lt i hi
    ·exact hbl⟩
   have hlen : (ze3 ks seen.toList).length < ks.length := by
    have := hs2.len
    simp only [Array.size_push] at this
    simp only [ze3, List.length_map, Array.length_toList]
    omega
   have hks2 : ze3 ks (seen.push e.born).toList = ze3 ks seen.toList ++ [x] := by simp [ze3, hx]
   obtain ⟨x0, x1, x2, x3, x4, x5, rfl⟩ : ∃ x0 x1 x2 x3 x4 x5, x = [x0, x1, x2, x3, x4, x5] := by
    have := hk6 x hxm
    match x, this with
    | [x0, x1, x2, x3, x4, x5], _ => exact ⟨x0, x1, x2, x3, x4, x5, rfl⟩
   have hne : b ≠ W.heap.size := by have := (Array.getElem?_eq_some_iff.1 hb).1; omega
   have hr1 : w1.heap[W.heap.size]? = some (.mapIter (some b) es.size seen es.size) := by rcases hw1 with rfl | rfl <;> exact hr
   have hb1 : w1.heap[b]? = some (.map es es.size) := by rcases hw1 with rfl | rfl <;> exact hb'
   have zah := MapKept.heap_set (o' := .mapIter (some b) es.size (seen.push e.born) es.size) hr1
   have hr2 : W2.heap[W.heap.size]? = some (.mapIter (some b) es.size (seen.push e.born) es.size) := by rw [← hW2]; exact zah.1
   have hb2 : W2.heap[b]? = some (.map es es.size) := by rw [← hW2]; exact (zah.2 b hne).trans hb1
   have hg2 : wr.grownBy W2 (some W.heap.size) := by
    rw [← hW2]
    rcases hw1 with rfl | rfl <;> exact ⟨rfl, rfl, rfl, by simp [setBlock], fun i _ hi => zah.2 i (fun e1 => hi (by rw [e1]))⟩
   have hd2 : wr.drawn ≤ W2.drawn := by
    rw [← hW2]
    rcases hw1 with rfl | rfl
    ·exact Nat.le_refl _
    ·exact Nat.le_succ _
   have hsz2 : W2.heap.size = wr.heap.size := by
    rw [← hW2]
    rcases hw1 with rfl | rfl <;> simp [setBlock]
   have hen : Sem.run Tryz.prog (Instr.entry (.pointer (some ⟨W.heap.size, 0, none⟩))) W2 = .ok (.tuple #[.agg #[.int .u8 x0, .int .u8 x1, .int .u8 x2, .int .u8 x3, .int .u8 x4, .int .u8 x5], e.val]) W2 := by
    have := run_entry_at (P := Tryz.prog) W2 W.heap.size b es.size seen es es.size e hr2 hb2 hel1 hks.nodup
    rw [hkey] at this; exact this
   rw [show e.key = .agg #[.int .u8 x0, .int .u8 x1, .int .u8 x2, .int .u8 x3, .int .u8 x4, .int .u8 x5] from hkey]
   have hJ2 : J (ze3 ks seen.toList) W2 := hJ _ wr W2 (some W.heap.size) hJs hg2 hd2 (fun r e => by cases e; exact ⟨Nat.le_refl _, _, hr, rfl⟩)
   have hJ3 : J (ze3 ks seen.toList) (W2.alloc (.cells #[.int .u8 x0, .int .u8 x1, .int .u8 x2, .int .u8 x3, .int .u8 x4, .int .u8 x5] 60)) := hJ _ W2 _ none hJ2 (World.grownBy_alloc W2 _ none) (Nat.le_refl _) (fun r e => by cases e)
   have hk0 : KeepsWalks W2 (W2.alloc (.cells #[.int .u8 x0, .int .u8 x1, .int .u8 x2, .int .u8 x3, .int .u8 x4, .int .u8 x5] 60)) := KeepsWalks.alloc _ _
   obtain ⟨fn, tmps, assign, body, hy, hR⟩ := hY _ _ _ hJ3 hxm hlen
   have hszr : W.heap.size < W2.heap.size := by omega
   have hy2 : Sem.run Tryz.prog (Instr.yield l #[.agg #[.int .u8 x0, .int .u8 x1, .int .u8 x2, .int .u8 x3, .int .u8 x4, .int .u8 x5]]) (W2.alloc (.cells #[.int .u8 x0, .int .u8 x1, .int .u8 x2, .int .u8 x3, .int .u8 x4, .int .u8 x5] 60)) = .ok (.round l fn tmps assign body) (W2.alloc (.cells #[.int .u8 x0, .int .u8 x1, .int .u8 x2, .int .u8 x3, .int .u8 x4, .int .u8 x5] 60)) := hy
   clear hJ3 hkey hsz2 hy
   gi_wp2
   refine hR.mono ?_
   rintro e2 W4 ⟨rfl, hJ4, hk4⟩
   gi_wp2
   have hk := hk0.trans hk4
   have hr4 := hk.same _ _ hr2 rfl
   have hb4 := hk.same _ _ hb2 rfl
   go_roundw
   case rel => exact ⟨seen.push e.born, hs2, by rw [hks2]; exact hJ4, hr4, hb4, by have := hk.size; omega⟩
   case measure => simp only [World.rangeLeft, hr4, hb4, hr, hb']; exact hshr
section
variable {P : Program} (w : World)
theorem zok (base : Nat) (t ty e : TypeId) (i : TypeInfo) (z : Value) (size bytes : Nat) (ht : P.underlying t = some (.slice e)) (hi : P.info? e = some i) (hz : i.zero = some z) (hsize : i.size = size) (hby : i.bytes = bytes)
  (v : Value) (n : Nat) (xs : List Value) (hown : w.ownsRow base e size v n xs) (a : Addr) (m c : Nat) (news : List Value) (hl : news.length = m * size) (hnews : ∀ j u, news[j]? = some u → w.cell? (a.add j) = some u) (h1 : ∀ u ∈ news, u.oneCell' = true) (hm : 0 < m)
  (h63 : n + m ≤ maxLen) (hbytes : (n + m) * bytes ≤ 140737488355328) {v' : Value} {w' : World} (hrun : (Builtin.append_ #[t, t] ty #[v, .slice (some a) m c]).run P w = .ok v' w') : w.drawn ≤ w'.drawn := by
 subst hsize
 subst hby
 have hsmall : n + m ≤ 9223372036854775807 := by simp only [maxLen] at h63; omega
 rcases hown.2 with ⟨rfl, rfl⟩ | ⟨g, cap, cur, rfl, hbg, hg, hnc, hcm, hcs, htake⟩
 ·have hr := run_append_nil (P := P) w t ty e i z ht hi hz a m c news hl hnews (by omega) (by omega) (by have hb := hbytes; simp only [Nat.zero_add] at hb; omega)
  rw [hr] at hrun
  cases hrun
  exact Nat.le_succ _
 ·by_cases hroom : n + m ≤ cap
  ·have hfit : n * i.size + news.length ≤ cur.size := by rw [hl, hcs, ← Nat.add_mul]; exact Nat.mul_le_mul_right _ hroom
   have hr := run_append_room (P := P) w t ty e i ht hi g n cap cur hg a m c news hl hnews h1 hroom hfit
   rw [hr] at hrun
   cases hrun
   exact Nat.le_refl _
  ·have hr := run_append_grow (P := P) w t ty e i z ht hi hz ⟨g, 0, none⟩ n cap xs hown.1 (hown.cells (g := g) rfl) a m c news hl hnews (by omega) (by omega) (growslice_fits (by omega) hbytes)
   rw [hr] at hrun
   cases hrun
   exact Nat.le_succ _
theorem zna {F : Fence} {n : Nat} {ops : Array Oper} {rest : List Oper} {o : Oper} {a : Act} {Q : Exit → Act → World → Prop}
  (hg : o.guard = none) (s x : Operand) (t : TypeId) (hop : o.op = Op.call { callee := Callee.builtin Builtin.append, args := #[s, x], argTypes := #[t, t] })
  (base : Nat) (e : TypeId) (i : TypeInfo) (z : Value) (size bytes : Nat) (h1 : P.underlying t = some (.slice e)) (h2 : P.info? e = some i) (h3 : i.zero = some z) (h4 : i.size = size) (h5 : i.bytes = bytes) (h6 : z.cells.size = size) (h7 : 0 < size)
  (v : Value) (k : Nat) (xs : List Value) (hs : a.eval s = v) (hown : w.ownsRow base e size v k xs) (ad : Addr) (m c : Nat) (hm : 0 < m) (news : List Value) (hx : a.eval x = .slice (some ad) m c) (hn : news.length = m * size)
  (hc : ∀ j u, news[j]? = some u → w.cell? (ad.add j) = some u) (h1c : ∀ u ∈ news, u.oneCell' = true) (b1 : k + m ≤ maxLen) (b2 : (k + m) * bytes ≤ 140737488355328) (b3 : base ≤ w.heap.size)
  (hK : ∀ v' w', w'.ownsRow base e size v' (k + m) (xs ++ news) → w.grownBy w' v.ownBlock → w.drawn ≤ w'.drawn → wpListIn F n P ops Q rest (a.put o.dst v') w') :
  wpListIn F n P ops Q (o :: rest) a w := by
 refine wpListIn_plain hg fun K hK' => ?_
 obtain ⟨v', w', hrun, r1, r2, r3⟩ := run_append_own (P := P) w base t o.type e i z size bytes h1 h2 h3 h4 h5 h6 h7 v k xs hown ad m c news hn hc h1c b1 b2 b3
 have r4 := zok w base t o.type e i z size bytes h1 h2 h3 h4 h5 v k xs hown ad m c news hn hc h1c hm b1 b2 hrun
 unfold Oper.wpIn
 refine ⟨?_, ?_⟩
 ·simp [Oper.about, hop, resolve, Target.leads, Sem.run_pure]
 ·rw [Oper.semAt_plain F _ _ (by rw [hop]; intro c hc'; cases hc')]
  simp [execOp, hop, resolve, invoke, builtin, hs, hx, hrun, Result.andThen]
  exact hK' _ _ (hK v' w' r1 r2 r4)
end
def zkv : Code := .region 2 #[{ dst := some 5, op := .alloc 60, type := 0, pos := "iter.go:51", after := #[], guard := none }, { dst := none, op := .store 60 (.tmp 5) (.tmp 7), type := 0, pos := "iter.go:51", after := #[{ on := 0, ground := .data }, { on := 0, ground := .phase }], guard := none }] false
def zol : Code := .block 1 (.region 3 #[{ dst := some 8, op := .load 98 (.tmp 2), type := 98, pos := "iter.go:52", after := #[], guard := none }, { dst := some 9, op := .load 60 (.tmp 5), type := 60, pos := "iter.go:52", after := #[], guard := none }, { dst := some 10, op := .buildSlice 98 1 #[(0, .tmp 9)], type := 98, pos := "iter.go:52", after := #[{ on := 1, ground := .data }], guard := none }, { dst := some 11, op := .call { callee := .builtin .append, args := #[.tmp 8, .tmp 10], argTypes := #[98, 98] }, type := 98, pos := "iter.go:52", after := #[{ on := 0, ground := .data }, { on := 2, ground := .data }], guard := none }, { dst := none, op := .store 98 (.tmp 2) (.tmp 11), type := 0, pos := "iter.go:52", after := #[{ on := 3, ground := .data }, { on := 3, ground := .chain }, { on := 0, ground := .phase }, { on := 1, ground := .phase }, { on := 2, ground := .phase }, { on := 3, ground := .phase }], guard := none }] false)
def zeq (fn : FuncId) (sv : Value) (Bs D : Nat) (st : LoopState) (pend : Option Code) : Loop :=
 { state := st, pending := pend, fn, tmps := #[.slice none 0 0, sv, .pointer (some ⟨Bs, 0, none⟩), undef, .slice none 0 0, undef, sv, undef, undef, undef, undef, undef, undef], params := #[7], assign := zkv, body := zol, defers := D }
structure ApAt (w0 : World) (fn : FuncId) (sv : Value) (Bs l D : Nat) (ss : List (List Int)) (W : World) : Prop where
 box : ∃ v, W.heap[Bs]? = some (.cells #[v] 98 (0, 0)) ∧ W.ownsRow w0.heap.size 60 6 v ss.length (ss.flatMap kv)
 L : W.heap[l]? = some (.loop (zeq fn sv Bs D .ready none))
 K : W.heap[D]? = some (.deferred (some []))
 below : RowKit.Below w0.heap.size w0 W
 dr : w0.drawn ≤ W.drawn
theorem zr8 (w0 : World) (fn : FuncId) (sv : Value) (Bs l D B : Nat) (hB : w0.heap.size ≤ B) : zpC B (ApAt w0 fn sv Bs l D) := fun s W W' row h hg hd hrow => by
 have hrow' : ∀ r, row = some r → ∃ o : Obj, W.heap[r]? = some o ∧ o.isWalk = true := fun r e => (hrow r e).2
 obtain ⟨v, hv, hr⟩ := h.box
 exact ⟨⟨v, (grownBy_keeps hg hrow' hv rfl).trans hv, ownsRow_abides_a hr hg hrow'⟩, (grownBy_keeps hg hrow' h.L rfl).trans h.L, (grownBy_keeps hg hrow' h.K rfl).trans h.K,
  h.below.grown hg h.below.size (fun k e => Nat.le_trans hB (hrow k e).1), Nat.le_trans h.dr hd⟩
theorem zr9 (w : World) (xs : List Value) (t : TypeId) : ∀ j u, xs[j]? = some u → (w.alloc (.cells xs.toArray t)).cell? ((⟨w.heap.size, 0, none⟩ : Addr).add j) = some u := by
 intro j u hj
 have := World.alloc_heap_new w (.cells xs.toArray t)
 have e : ((⟨w.heap.size, 0, none⟩ : Addr).add j) = ⟨w.heap.size, j, none⟩ := by
  unfold Addr.add
  by_cases h : j = 0
  ·subst h; rfl
  ·simp [h]
 rw [e]
 unfold World.cell?
 rw [this]
 simp [hj]
set_option maxRecDepth 100000 in
set_option maxHeartbeats 2000000 in
theorem zup (F : Fence) (m : Nat) (w0 : World) (fn : FuncId) (hfn : F.fn fn) (sv : Value) (Bs l D : Nat) (hBl : Bs ≠ l) (hDl : D ≠ l) (hDB : D ≠ Bs) (h0B : w0.heap.size ≤ Bs) (h0l : w0.heap.size ≤ l)
    (ss : List (List Int)) (x : List Int) (hx6 : x.length = 6) (W : World) (h : ApAt w0 fn sv Bs l D ss W) (hlen : ss.length < 1000000) :
    YieldAt F m Tryz.prog l #[.agg (kv x).toArray] W fun e W' => e = .returned (.bool true) ∧ ApAt w0 fn sv Bs l D (ss ++ [x]) W' ∧ KeepsWalks W W' := by
  obtain ⟨x0, x1, x2, x3, x4, x5, rfl⟩ : ∃ x0 x1 x2 x3 x4 x5, x = [x0, x1, x2, x3, x4, x5] := by
    match x, hx6 with
    | [x0, x1, x2, x3, x4, x5], _ => exact ⟨x0, x1, x2, x3, x4, x5, rfl⟩
  have t0 := Tryz.underlying0; have a0 := Tryz.isAgg0; have z0 := Tryz.sizeOf0; have v0 := Tryz.zeroValue0
  have t52 := Tryz.underlying60; have a52 := Tryz.isAgg60; have z52 := Tryz.sizeOf60; have v52 := Tryz.zeroValue60
  have t79 := Tryz.underlying98; have a79 := Tryz.isAgg98; have z79 := Tryz.sizeOf98; have v79 := Tryz.zeroValue98
  have mixed : Tryz.prog.follows .mixedOrders = true := by kernel_rfl
  have i52 : (Tryz.prog.info? 60).map (fun i => (i.zero, i.size, i.bytes)) = some (some (.agg #[.int .u8 0, .int .u8 0, .int .u8 0, .int .u8 0, .int .u8 0, .int .u8 0]), 6, 6) := by kernel_rfl
  obtain ⟨i0, hi, hz0, hz1, hz2⟩ := info_parts i52
  have hne : (98 : Nat) ≠ 60 := by decide
  obtain ⟨v, hv, hrow⟩ := h.box
  refine ⟨fn, #[.slice none 0 0, sv, .pointer (some ⟨Bs, 0, none⟩), undef, .slice none 0 0, undef, sv, .agg #[.int .u8 x0, .int .u8 x1, .int .u8 x2, .int .u8 x3, .int .u8 x4, .int .u8 x5], undef, undef, undef, undef, undef], zkv, zol, by simpa [zeq, kv] using run_yield (P := Tryz.prog) (args := #[.agg #[.int .u8 x0, .int .u8 x1, .int .u8 x2, .int .u8 x3, .int .u8 x4, .int .u8 x5]]) h.L rfl, roundIn_of_wpIn hfn ?_⟩
  unfold zkv
  gi_wp2_with gi_round_op_a
  have hl : l < W.heap.size := (Array.getElem?_eq_some_iff.1 h.L).1
  obtain ⟨W1, hW1⟩ : ∃ W1, W.alloc (.cells #[.int .u8 x0, .int .u8 x1, .int .u8 x2, .int .u8 x3, .int .u8 x4, .int .u8 x5] 60) = W1 := ⟨_, rfl⟩
  rw [hW1]
  have hn1 : W1.heap[W.heap.size]? = some (.cells #[.int .u8 x0, .int .u8 x1, .int .u8 x2, .int .u8 x3, .int .u8 x4, .int .u8 x5] 60 (0, 0)) := by rw [← hW1]; exact World.alloc_heap_new W _
  have hg1 : W.grownBy W1 none := by rw [← hW1]; exact World.grownBy_alloc W _ none
  have hd1 : W.drawn ≤ W1.drawn := by rw [← hW1]; exact Nat.le_refl _
  have hk1 : KeepsWalks W W1 := by rw [← hW1]; exact KeepsWalks.alloc _ _
  have hs1 : W1.heap.size = W.heap.size + 1 := by rw [← hW1]; simp
  have hL1 : W1.heap[l]? = some (.loop (zeq fn sv Bs D .ready none)) := (hg1.block l hl (by simp)).trans h.L
  have hv1 : W1.heap[Bs]? = some (.cells #[v] 98 (0, 0)) := (hg1.block Bs (Array.getElem?_eq_some_iff.1 hv).1 (by simp)).trans hv
  have hK1 : W1.heap[D]? = some (.deferred (some [])) := (hg1.block D (Array.getElem?_eq_some_iff.1 h.K).1 (by simp)).trans h.K
  have hrow1 : W1.ownsRow w0.heap.size 60 6 v ss.length (ss.flatMap kv) := by rw [← hW1]; exact hrow.alloc _
  have hb1 : RowKit.Below w0.heap.size w0 W1 := by rw [← hW1]; exact h.below.alloc h.below.size _
  clear hW1
  have hbr := run_beginRound (P := Tryz.prog) hL1 rfl
  obtain ⟨W2, hW2⟩ : ∃ W2, W1.putObj l (.loop { zeq fn sv Bs D .ready none with state := .busy }) = W2 := ⟨_, rfl⟩
  rw [hW2] at hbr
  have hg2 : W1.grownBy W2 (some l) := by rw [← hW2]; exact grownBy_putObj_a _ _ _
  have hd2 : W1.drawn ≤ W2.drawn := by rw [← hW2]; exact Nat.le_refl _
  have hk2 : KeepsWalks W1 W2 := by rw [← hW2]; exact KeepsWalks.putObj _ hL1 rfl
  have hv2 : W2.heap[Bs]? = some (.cells #[v] 98 (0, 0)) := by rw [← hW2]; exact (World.putObj_heap_other hBl).trans hv1
  have hK2 : W2.heap[D]? = some (.deferred (some [])) := by rw [← hW2]; exact (World.putObj_heap_other hDl).trans hK1
  have hL2 : W2.heap[l]? = some (.loop { zeq fn sv Bs D .ready none with state := .busy }) := by rw [← hW2]; exact World.putObj_heap_same (by omega)
  have hn2 : W2.heap[W.heap.size]? = some (.cells #[.int .u8 x0, .int .u8 x1, .int .u8 x2, .int .u8 x3, .int .u8 x4, .int .u8 x5] 60 (0, 0)) := by rw [← hW2]; exact (World.putObj_heap_other (by omega)).trans hn1
  have hrow2 : W2.ownsRow w0.heap.size 60 6 v ss.length (ss.flatMap kv) := hrow1.kept hg2 (ownsRow_ne_a hrow1 hL1 (fun cur e => by cases e))
  have hb2 : RowKit.Below w0.heap.size w0 W2 := hb1.grown hg2 hb1.size (fun k e => by cases e; exact h0l)
  obtain ⟨hc2, hf2⟩ := cell_of_box_a hv2
  have hBlt : Bs < W2.heap.size := (Array.getElem?_eq_some_iff.1 hv2).1
  have hl2 : l < W2.heap.size := (Array.getElem?_eq_some_iff.1 hL2).1
  have hDlt : D < W2.heap.size := (Array.getElem?_eq_some_iff.1 hK2).1
  have hn20 : W2.cell? ⟨W.heap.size, 0, none⟩ = some (.int .u8 x0) := by simp [World.cell?, hn2]
  have hn21 : W2.cell? ⟨W.heap.size, 1, none⟩ = some (.int .u8 x1) := by simp [World.cell?, hn2]
  have hn22 : W2.cell? ⟨W.heap.size, 2, none⟩ = some (.int .u8 x2) := by simp [World.cell?, hn2]
  have hn23 : W2.cell? ⟨W.heap.size, 3, none⟩ = some (.int .u8 x3) := by simp [World.cell?, hn2]
  have hn24 : W2.cell? ⟨W.heap.size, 4, none⟩ = some (.int .u8 x4) := by simp [World.cell?, hn2]
  have hn25 : W2.cell? ⟨W.heap.size, 5, none⟩ = some (.int .u8 x5) := by simp [World.cell?, hn2]
  clear hW2
  have ne_of : ∀ {j : Nat} {o : Obj}, W2.heap[j]? = some o → (∀ cur, o ≠ .cells cur 60 (0, 0)) → some j ≠ v.ownBlock := fun hj hno => by
    rcases ownsRow_ne_a hrow2 hj hno with e | e
    · rw [e]; simp
    · exact fun e' => e e'.symm
  refine ⟨W2, hbr, ?_⟩
  clear hs1
  unfold zol
  gi_wp2_with (first
    | (gi_at_builtin; refine zna _ rfl _ _ 98 rfl w0.heap.size 60 i0 (.agg #[.int .u8 0, .int .u8 0, .int .u8 0, .int .u8 0, .int .u8 0, .int .u8 0]) 6 6 t79 hi hz0 hz1 hz2 rfl (by decide) _ _ _ rfl (hrow2.alloc _) ⟨W2.heap.size, 0, none⟩ 1 1 (by decide) [.int .u8 x0, .int .u8 x1, .int .u8 x2, .int .u8 x3, .int .u8 x4, .int .u8 x5] rfl rfl (zr9 _ _ _) (by simp [Value.oneCell']) (by simp only [maxLen]; omega) (by omega) (by have := hb2.size; simp; omega) ?_; intro v' w3 hown' hg3 hd3
       have hg3' : (W2.alloc (.cells #[.int .u8 x0, .int .u8 x1, .int .u8 x2, .int .u8 x3, .int .u8 x4, .int .u8 x5] 60)).grownBy w3 v.ownBlock := hg3
       have hv3 : w3.heap[Bs]? = some (.cells #[v] 98 (0, 0)) := (hg3'.block Bs (by simp; omega) (ne_of hv2 (fun cur e => hne (Obj.cells.inj e).2.1))).trans ((RowKit.Below.heap_alloc _ _ Bs hBlt).trans hv2)
       obtain ⟨hc3, hf3⟩ := cell_of_box_a hv3
       obtain ⟨g', cap', cur', rfl, hbase', hgb', hr1, hr2, hr3, hr4⟩ : ∃ g' cap' cur', v' = .slice (some ⟨g', 0, none⟩) (ss.length + 1) cap' ∧ w0.heap.size ≤ g' ∧ w3.heap[g']? = some (.cells cur' 60 (0, 0)) ∧ ss.length + 1 ≤ cap' ∧ cap' ≤ maxLen ∧ cur'.size = cap' * 6 ∧ cur'.toList.take ((ss.length + 1) * 6) = ss.flatMap kv ++ [.int .u8 x0, .int .u8 x1, .int .u8 x2, .int .u8 x3, .int .u8 x4, .int .u8 x5] := by
         rcases hown'.2 with ⟨_, h0⟩ | h'
         · exact absurd h0 (by omega)
         · exact h'
       go_frame)
    | gi_round_op_a)
  have hL3 : w3.heap[l]? = some (.loop { zeq fn sv Bs D .ready none with state := .busy }) := (hg3'.block l (by simp; omega) (ne_of hL2 (fun cur e => by cases e))).trans ((RowKit.Below.heap_alloc _ _ l hl2).trans hL2)
  have hK3 : w3.heap[D]? = some (.deferred (some [])) := (hg3'.block D (by simp; omega) (ne_of hK2 (fun cur e => by cases e))).trans ((RowKit.Below.heap_alloc _ _ D hDlt).trans hK2)
  obtain ⟨w4, hw4⟩ : ∃ w4, w3.setCell ⟨Bs, 0, none⟩ (.slice (some ⟨g', 0, none⟩) (ss.length + 1) cap') = w4 := ⟨_, rfl⟩
  rw [hw4]
  have hg4 : w3.grownBy w4 (some Bs) := by rw [← hw4]; exact grownBy_setCell0_a _ _ _
  have hd4 : w3.drawn ≤ w4.drawn := by rw [← hw4]; exact Nat.le_refl _
  have hv4 : w4.heap[Bs]? = some (.cells #[.slice (some ⟨g', 0, none⟩) (ss.length + 1) cap'] 98 (0, 0)) := by rw [← hw4]; exact heap_setCell_box_a _ hv3
  have hL4 : w4.heap[l]? = some (.loop { zeq fn sv Bs D .ready none with state := .busy }) := (hg4.block l (Array.getElem?_eq_some_iff.1 hL3).1 (fun e => hBl (by cases e; rfl))).trans hL3
  have hK4 : w4.heap[D]? = some (.deferred (some [])) := (hg4.block D (Array.getElem?_eq_some_iff.1 hK3).1 (fun e => hDB (by cases e; rfl))).trans hK3
  have hrow4 := hown'.kept hg4 (ownsRow_ne_a hown' hv3 (fun cur e => hne (Obj.cells.inj e).2.1))
  have hl4 : l < w4.heap.size := (Array.getElem?_eq_some_iff.1 hL4).1
  have hb3 : RowKit.Below w0.heap.size w0 w3 := (hb2.alloc hb2.size _).grown hg3' (by have := hb2.size; simp; omega) (fun k e => (hrow2.lt k e).1)
  have hb4 : RowKit.Below w0.heap.size w0 w4 := hb3.grown hg4 hb3.size (fun k e => by cases e; exact h0B)
  have hk4 : KeepsWalks W w4 := (((hk1.trans hk2).trans (KeepsWalks.alloc _ _)).trans (KeepsWalks.of_grownBy hg3' (ownsRow_not_walk_a (hrow2.alloc _)))).trans (by rw [← hw4]; exact KeepsWalks.setCell _ _ _)
  have hdd : w0.drawn ≤ w4.drawn := Nat.le_trans h.dr (Nat.le_trans hd1 (Nat.le_trans hd2 (Nat.le_trans hd3 hd4)))
  clear hw4
  refine ⟨_, _, run_endRound none hL4, rfl, ⟨⟨_, (World.putObj_heap_other hBl).trans hv4, ?_⟩, World.putObj_heap_same hl4, (World.putObj_heap_other hDl).trans hK4, hb4.grown (grownBy_putObj_a _ _ _) hb4.size (fun k e => by cases e; exact h0l), hdd⟩, hk4.trans (KeepsWalks.putObj _ hL4 rfl)⟩
  have := hrow4.kept (grownBy_putObj_a w4 l (.loop { { zeq fn sv Bs D .ready none with state := .busy } with state := if (none : Option Code).isNone then .ready else .done, pending := none })) (ownsRow_ne_a hrow4 hL4 (fun cur e => by cases e))
  simpa [kv] using this
set_option maxRecDepth 100000 in
set_option maxHeartbeats 2000000 in
theorem zsa (F : Fence) (n : Nat) (hF : ∀ f, F.fn f) (hro : F.round = none) (hn : 2 ≤ n) (Bm b : Nat) (ks : List (List Int)) (es : Array MapEntry) (hks : ze2 ks es) (hk6 : ∀ x ∈ ks, x.length = 6) (hlen : ks.length < 1000000) (w : World)
    (hm : w.cell? ⟨Bm, 0, none⟩ = some (.map (some b))) (hb : w.heap[b]? = some (.map es es.size)) :
    CallsIn F n Tryz.prog 123 #[.slice none 0 0, .func (.func 114) #[] #[.pointer (some ⟨Bm, 0, none⟩)]] w fun e w' => ∃ (v : Value) (ss : List (List Int)), e = .returned v ∧ ss.Perm ks ∧ w'.ownsRow w.heap.size 60 6 v ss.length (ss.flatMap kv) ∧ RowKit.Below w.heap.size w w' ∧ w.drawn ≤ w'.drawn := by
  have t0 := Tryz.underlying0; have a0 := Tryz.isAgg0; have z0 := Tryz.sizeOf0; have v0 := Tryz.zeroValue0
  have t52 := Tryz.underlying60; have a52 := Tryz.isAgg60; have z52 := Tryz.sizeOf60; have v52 := Tryz.zeroValue60
  have t79 := Tryz.underlying98; have a79 := Tryz.isAgg98; have z79 := Tryz.sizeOf98; have v79 := Tryz.zeroValue98
  have mixed : Tryz.prog.follows .mixedOrders = true := by kernel_rfl
  have hne : (98 : Nat) ≠ 60 := by decide
  have FG := Tryz.func123
  have eg : ∀ args w, (callFunc 114 args).run Tryz.prog w = .ok (.enter 114 args) w := enters_of Tryz.func114 (by kernel_rfl) rfl
  have hBm : Bm < w.heap.size := by
    unfold World.cell? at hm
    cases hh : w.heap[Bm]? with
    | none => simp [hh] at hm
    | some o => exact (Array.getElem?_eq_some_iff.1 hh).1
  have hbl : b < w.heap.size := (Array.getElem?_eq_some_iff.1 hb).1
  refine callsIn_of_wp_marks FG rfl (hF 123) ?_ hro
  simp only [Tryz.ntmps123, List.size_toArray, List.length_cons, List.length_nil, Nat.reduceAdd, Nat.reduceSub, Array.replicate_succ, Array.replicate_zero, List.push_toArray, List.append_toArray, List.nil_append, List.cons_append]
  gi_wp2
  refine wpIn_rangeFunc ?_
  intro fn hfn
  rw [hro]
  obtain ⟨W0, hW0⟩ : ∃ W0, w.alloc (.cells #[.slice none 0 0] 98) = W0 := ⟨_, rfl⟩
  have hs0 : W0.heap.size = w.heap.size + 1 := by rw [← hW0]; simp
  have hv0 : W0.heap[w.heap.size]? = some (.cells #[.slice none 0 0] 98 (0, 0)) := by rw [← hW0]; exact World.alloc_heap_new w _
  have hb0 : RowKit.Below w.heap.size w W0 := by rw [← hW0]; exact (RowKit.Below.refl _ w).alloc (Nat.le_refl _) _
  have hd0 : w.drawn ≤ W0.drawn := by rw [← hW0]; exact Nat.le_refl _
  rw [hW0]
  obtain ⟨W1, hW1⟩ : ∃ W1, (W0.alloc (.deferred (some []))).alloc (.loop (zeq fn (.func (.func 114) #[] #[.pointer (some ⟨Bm, 0, none⟩)]) w.heap.size W0.heap.size .ready none)) = W1 := ⟨_, rfl⟩
  have hold : ∀ k, k < W0.heap.size → W1.heap[k]? = W0.heap[k]? := fun k hk => by
    rw [← hW1]; exact (RowKit.Below.heap_alloc _ _ k (by simp; omega)).trans (RowKit.Below.heap_alloc _ _ k hk)
  have hb1 : RowKit.Below w.heap.size w W1 := by rw [← hW1]; exact (hb0.alloc hb0.size _).alloc (by have := hb0.size; simp; omega) _
  have hs1 : W1.heap.size = W0.heap.size + 2 := by rw [← hW1]; simp
  have hd1 : w.drawn ≤ W1.drawn := by rw [← hW1]; exact hd0
  have hM : ApAt w fn (.func (.func 114) #[] #[.pointer (some ⟨Bm, 0, none⟩)]) w.heap.size (W0.heap.size + 1) W0.heap.size [] W1 :=
    ⟨⟨_, (hold w.heap.size (by omega)).trans hv0, ⟨rfl, .inl ⟨rfl, rfl⟩⟩⟩,
     by rw [← hW1]; have := World.alloc_heap_new (W0.alloc (.deferred (some []))) (.loop (zeq fn (.func (.func 114) #[] #[.pointer (some ⟨Bm, 0, none⟩)]) w.heap.size W0.heap.size .ready none)); rwa [World.size_alloc] at this,
     by rw [← hW1]; exact (RowKit.Below.heap_alloc _ _ _ (by simp)).trans (World.alloc_heap_new W0 _), hb1, hd1⟩
  refine ⟨W0.heap.size + 1, [{ target := .collected W0.heap.size, args := #[] }], W1, { target := .fn (.func 114) #[.pointer (some ⟨Bm, 0, none⟩)], args := #[.func (.yield (W0.heap.size + 1)) #[] #[]] }, W1, 114,
    #[.func (.yield (W0.heap.size + 1)) #[] #[]] ++ #[.pointer (some ⟨Bm, 0, none⟩)], W1, ?_, ?_, ?_, ?_, fun _ => by omega, ?_⟩
  · rw [← hW1]; exact run_enterLoop_outer _ _ _ _ _
  · simp [resolve, go_sem]
  · intro f' hf'; simp [Target.leads] at hf'; subst hf'; exact hF 114
  · simp [invoke, go_sem, eg]
  · have hm1 : W1.cell? ⟨Bm, 0, none⟩ = some (.map (some b)) := by
      rw [← hm]; unfold World.cell?
      rw [hb1.block Bm hBm]
    refine (keys1 F (n - 1) hF hro (by omega) (W0.heap.size + 1) Bm b ks es hks hk6 (ApAt w fn (.func (.func 114) #[] #[.pointer (some ⟨Bm, 0, none⟩)]) w.heap.size (W0.heap.size + 1) W0.heap.size) W1 (zr8 _ _ _ _ _ _ _ hb1.size)
      (fun pre x W hJ hx hl => zup F (n - 1 - 1) w fn hfn _ w.heap.size (W0.heap.size + 1) W0.heap.size (by omega) (by omega) (by omega) (Nat.le_refl _) (by omega) pre x (hk6 x hx) W hJ (by omega)) hm1 ((hb1.block b hbl).trans hb) hM).mono ?_
    rintro e W2 ⟨⟨v0, rfl⟩, ss, hS, h2⟩
    obtain ⟨v, hv, hrow⟩ := h2.box
    have hend := run_endLoop (P := Tryz.prog) h2.L (by simp [zeq])
    obtain ⟨W3, hW3⟩ : ∃ W3, W2.putObj (W0.heap.size + 1) (.loop { zeq fn (.func (.func 114) #[] #[.pointer (some ⟨Bm, 0, none⟩)]) w.heap.size W0.heap.size .ready none with state := .exhausted }) = W3 := ⟨_, rfl⟩
    rw [hW3] at hend
    have hg3 : W2.grownBy W3 (some (W0.heap.size + 1)) := by rw [← hW3]; exact grownBy_putObj_a _ _ _
    have hd3 : w.drawn ≤ W3.drawn := by rw [← hW3]; exact h2.dr
    have hv3 : W3.heap[w.heap.size]? = some (.cells #[v] 98 (0, 0)) := by rw [← hW3]; exact (World.putObj_heap_other (by omega)).trans hv
    have hK3 : W3.heap[W0.heap.size]? = some (.deferred (some [])) := by rw [← hW3]; exact (World.putObj_heap_other (by omega)).trans h2.K
    have hrow3 := hrow.kept hg3 (ownsRow_ne_a hrow h2.L (fun cur e => by cases e))
    have hb3 : RowKit.Below w.heap.size w W3 := h2.below.grown hg3 h2.below.size (fun k e => by cases e; omega)
    obtain ⟨hc3, hf3⟩ := cell_of_box_a hv3
    clear hW3
    refine ⟨none, W3, hend, ?_⟩
    gi_wp2
    rw [← hs0]
    refine ⟨by simp, .inl ⟨_, _, rfl, run_takeDeferred hK3, ?_⟩⟩
    exact ⟨_, results_tmp rfl _ _ _, v, ss, rfl, hS, hrow3.kept (grownBy_putObj_a _ _ _) (ownsRow_ne_a hrow3 hK3 (fun cur e => by cases e)), hb3.grown (grownBy_putObj_a _ _ _) hb3.size (fun k e => by cases e; omega), hd3⟩
set_option maxHeartbeats 1000000 in
theorem zuq (F : Fence) (n : Nat) (hF : ∀ f, F.fn f) (hro : F.round = none) (hn : 3 ≤ n) (Bm b : Nat) (ks : List (List Int)) (es : Array MapEntry) (hks : ze2 ks es) (hk6 : ∀ x ∈ ks, x.length = 6) (hlen : ks.length < 1000000) (w : World)
  (hm : w.cell? ⟨Bm, 0, none⟩ = some (.map (some b))) (hb : w.heap[b]? = some (.map es es.size)) :
  CallsIn F n Tryz.prog 112 #[.func (.func 114) #[] #[.pointer (some ⟨Bm, 0, none⟩)]] w fun e w' => ∃ (v : Value) (ss : List (List Int)), e = .returned v ∧ ss.Perm ks ∧ w'.ownsRow w.heap.size 60 6 v ss.length (ss.flatMap kv) ∧ RowKit.Below w.heap.size w w' ∧ w.drawn ≤ w'.drawn := by
 have e88 : ∀ args w, (callFunc 123 args).run Tryz.prog w = .ok (.enter 123 args) w := enters_of Tryz.func123 (by kernel_rfl) rfl
 have t0 := Tryz.underlying0; have a0 := Tryz.isAgg0; have z0 := Tryz.sizeOf0; have v0 := Tryz.zeroValue0
 have t79 := Tryz.underlying98; have a79 := Tryz.isAgg98; have z79 := Tryz.sizeOf98; have v79 := Tryz.zeroValue98
 have mixed : Tryz.prog.follows .mixedOrders = true := by kernel_rfl
 have h75 := hF 112
 have h88 := hF 123
 have FG := Tryz.func112
 have hn1 : 1 ≤ n := by omega
 refine callsIn_of_wp FG rfl h75 ?_ hro
 simp only [Tryz.ntmps112, List.size_toArray, List.length_cons, List.length_nil, Nat.reduceAdd, Nat.reduceSub, Array.replicate_succ, Array.replicate_zero, List.push_toArray, List.append_toArray, List.nil_append, List.cons_append]
 gi_wp2_with (gi_at_call 123; refine (zsa F (n - 1) hF hro (by omega) Bm b ks es hks hk6 hlen _ hm hb).mono ?_; rintro e w' ⟨v, ss, rfl, hS, hrow, hb', hd⟩)
 go_ret
 exact ⟨v, ss, rfl, hS, hrow, hb', hd⟩
end Go.Ab
