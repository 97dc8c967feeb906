/- slices.Clone does what was told of it: rows of their own; conditions: rows of seven cells, fewer than a million. -/
import Derived.Test.YtpalbaaghplhnaaGreatDoorK2
set_option linter.unusedVariables false
set_option linter.unusedSimpArgs false
namespace Go.Ab
open Go.Proofs Go.RowKit Go.Lib
set_option maxHeartbeats 4000000
section
variable {P : Program} (w : World)
theorem zfV {ops : Array Oper} {rest : List Oper} {o : Oper} {a : Act} {Q : Exit → Act → World → Prop} (hgd : o.guard = none) (s x : Operand) (t : TypeId)
  (ho : o.op = .call { callee := .builtin .append, args := #[s, x], argTypes := #[t, t] }) {v' : Value} {w' : World}
  (hr : (Builtin.append_ #[t, t] o.type #[a.eval s, a.eval x]).run P w = .ok v' w') (h : wpList P ops Q rest (a.put o.dst v') w') : wpList P ops Q (o :: rest) a w := by
 refine wpList_plain hgd fun _ hK => ?_
 unfold Oper.wp execOp
 simp only [ho, resolve, invoke, builtin, Sem.run_bind, Sem.run_pure, Result.andThen_ok, List.map_toArray, List.map_cons, List.map_nil, hr]
 exact hK _ _ h
end
def zus (w : World) (news : List Value) (n : Nat) (e : Ending) (w' : World) : Prop :=
 ∃ cur : Array Value, ∃ cap, n ≤ cap ∧ cur.size = cap * 7 ∧ cur.toList.take (n * 7) = news ∧ e = .returned (.slice (some ⟨w.heap.size + 1, 0, none⟩) n cap) ∧ w' = ((w.alloc (.cells #[] 62)).alloc (.cells cur 62)).drew
set_option maxRecDepth 100000 in
theorem zqx (b off n c : Nat) (hn : 0 < n) (hn2 : n < 1000000) (news : List Value) (w : World) (hl : news.length = n * 7) (hc : ∀ j u, news[j]? = some u → w.cell? ⟨b, off + j, none⟩ = some u) :
  Calls Tryz.prog 59 #[.slice (some ⟨b, off, none⟩) n c] w (zus w news n) := by
 have t4 := Tryz.underlying4; have a4 := Tryz.isAgg4; have z4 := Tryz.sizeOf4; have v4 := Tryz.zeroValue4
 have t22 := Tryz.underlying22; have a22 := Tryz.isAgg22; have z22 := Tryz.sizeOf22; have v22 := Tryz.zeroValue22
 have z23 := Tryz.sizeOf62
 have mixed : Tryz.prog.follows .mixedOrders = true := by kernel_rfl
 have q22 : ∀ (w : World) (a : Option Addr) (n c n' c' : Nat), (binOp .eql 22 (.slice a n c) (.slice none n' c')).run Tryz.prog w = .ok (.bool a.isNone) w := fun w a n c n' c' => Lib.run_eql_slice_nil w _ _ a n c n' c' t22
 have u22 : ∀ w, Sem.run Tryz.prog (underlying 22) w = .ok (TypeDesc.slice 62) w := run_underlying t22
 obtain ⟨i0, hi, hz, hsz, hby⟩ : ∃ i0, Tryz.prog.info? 62 = some i0 ∧ i0.zero = some (.agg #[.int .i64 0, .int .u8 0, .int .u8 0, .int .u8 0, .int .u8 0, .int .u8 0, .int .u8 0]) ∧ i0.size = 7 ∧ i0.bytes ≤ 64 := by
  refine ⟨(Tryz.prog.info? 62).get (by kernel_rfl), by kernel_rfl, by kernel_rfl, by kernel_rfl, of_decide_eq_true (by kernel_rfl)⟩
 have A : Aside (∀ j u, news[j]? = some u → w.cell? ⟨b, off + j, none⟩ = some u) := hc
 clear hc
 go_enter Tryz.func59, Tryz.ntmps59
 go_wp2_with (at_builtin; refine zfV _ rfl _ _ 22 rfl (run_append_grow _ 22 _ 62 i0 (.agg #[.int .i64 0, .int .u8 0, .int .u8 0, .int .u8 0, .int .u8 0, .int .u8 0, .int .u8 0]) t22 hi hz ⟨w.heap.size, 0, none⟩ 0 0 [] ?qa ?qb ⟨b, off, none⟩ n c news ?qc ?qd ?qe ?qf ?qg) ?_)
 case qa => exact (Nat.zero_mul _).symm
 case qb => intro j u hj; simp at hj
 case qc => rw [hsz]; exact hl
 case qd =>
  intro j u hj
  rw [Addr.add_lit]
  exact Lib.cell?_alloc_some _ (A.out j u hj)
 case qe => omega
 case qf => omega
 case qg => exact growslice_fits (by omega) (by have : (0 + n) * i0.bytes ≤ (0 + n) * 64 := Nat.mul_le_mul_left _ hby; omega)
 go_wp2
 go_ret
 generalize hcap : grownCap (w.alloc (.cells #[] 62)) n 0 62 = cap
 have hge : n ≤ cap := by rw [← hcap]; exact grownCap_ge _ n 0 _
 refine ⟨news.toArray ++ Builtin.zeroCells #[.int .i64 0, .int .u8 0, .int .u8 0, .int .u8 0, .int .u8 0, .int .u8 0, .int .u8 0] (cap - n), cap, hge, ?_, ?_, rfl, rfl⟩
 ·rw [Array.size_append, size_zeroCells, List.size_toArray, hl]
  show n * 7 + (cap - n) * 7 = cap * 7
  omega
 ·rw [Array.toList_append, ← hl]
  exact List.take_left
set_option maxRecDepth 100000 in
theorem zsc (n c : Nat) (w : World) : Calls Tryz.prog 59 #[.slice none n c] w fun e w' => e = .returned (.slice none 0 0) ∧ w' = w := by
 have t4 := Tryz.underlying4; have a4 := Tryz.isAgg4; have z4 := Tryz.sizeOf4; have v4 := Tryz.zeroValue4
 have t22 := Tryz.underlying22; have a22 := Tryz.isAgg22; have z22 := Tryz.sizeOf22; have v22 := Tryz.zeroValue22
 have z23 := Tryz.sizeOf62
 have mixed : Tryz.prog.follows .mixedOrders = true := by kernel_rfl
 have q22 : ∀ (w : World) (a : Option Addr) (n c n' c' : Nat), (binOp .eql 22 (.slice a n c) (.slice none n' c')).run Tryz.prog w = .ok (.bool a.isNone) w := fun w a n c n' c' => Lib.run_eql_slice_nil w _ _ a n c n' c' t22
 have u22 : ∀ w, Sem.run Tryz.prog (underlying 22) w = .ok (TypeDesc.slice 62) w := run_underlying t22
 go_enter Tryz.func59, Tryz.ntmps59
 go_wp2
 go_ret
 exact ⟨rfl, rfl⟩
theorem zpi (w : World) (g : Nat) (cur : Array Value) (e : TypeId) (h : w.heap[g]? = some (.cells cur e (0, 0))) : w.setRow g cur = w := by
 have e : w.heap.modify g (fun | .cells _ elem frozen => .cells cur elem frozen | o => o) = w.heap := by
  apply Array.ext_getElem?
  intro k
  rw [Array.getElem?_modify]
  split
  ·rename_i hk
   subst hk
   rw [h]; rfl
  ·rfl
 exact congrArg (fun x => ({ w with heap := x } : World)) e
theorem zpF (w : World) (t : TypeId) : (w.alloc (.cells #[] t)).heap[w.heap.size]? = some (.cells #[] t (0, 0)) := by
 show (w.heap.push _)[w.heap.size]? = _
 exact Array.getElem?_push_size
set_option maxRecDepth 100000 in
theorem zqy (ad : Addr) (c : Nat) (w : World) : Calls Tryz.prog 59 #[.slice (some ad) 0 c] w fun e w' => e = .returned (.slice (some ⟨w.heap.size, 0, none⟩) 0 0) ∧ w' = w.alloc (.cells #[] 62) := by
 have t4 := Tryz.underlying4; have a4 := Tryz.isAgg4; have z4 := Tryz.sizeOf4; have v4 := Tryz.zeroValue4
 have t22 := Tryz.underlying22; have a22 := Tryz.isAgg22; have z22 := Tryz.sizeOf22; have v22 := Tryz.zeroValue22
 have z23 := Tryz.sizeOf62
 have mixed : Tryz.prog.follows .mixedOrders = true := by kernel_rfl
 have q22 : ∀ (w : World) (a : Option Addr) (n c n' c' : Nat), (binOp .eql 22 (.slice a n c) (.slice none n' c')).run Tryz.prog w = .ok (.bool a.isNone) w := fun w a n c n' c' => Lib.run_eql_slice_nil w _ _ a n c n' c' t22
 have u22 : ∀ w, Sem.run Tryz.prog (underlying 22) w = .ok (TypeDesc.slice 62) w := run_underlying t22
 obtain ⟨i0, hi, hz, hsz, hby⟩ : ∃ i0, Tryz.prog.info? 62 = some i0 ∧ i0.zero = some (.agg #[.int .i64 0, .int .u8 0, .int .u8 0, .int .u8 0, .int .u8 0, .int .u8 0, .int .u8 0]) ∧ i0.size = 7 ∧ i0.bytes ≤ 64 := by
  refine ⟨(Tryz.prog.info? 62).get (by kernel_rfl), by kernel_rfl, by kernel_rfl, by kernel_rfl, of_decide_eq_true (by kernel_rfl)⟩
 go_enter Tryz.func59, Tryz.ntmps59
 go_wp2_with (at_builtin; refine zfV _ rfl _ _ 22 rfl (run_append_room _ 22 _ 62 i0 t22 hi w.heap.size 0 0 #[] ?qa ad 0 c [] ?qb ?qc ?qd ?qe ?qf) ?_)
 case qa => exact zpF w _
 case qb => exact (Nat.zero_mul _).symm
 case qc => intro j u hj; simp at hj
 case qd => intro u hu; cases hu
 case qe => omega
 case qf => exact Nat.le_of_eq (by rw [Nat.zero_mul]; rfl)
 go_wp2
 go_ret
 exact ⟨rfl, zpi _ _ _ 62 (zpF w _)⟩
end Go.Ab
namespace Go.Ab
open Go.Proofs Go.RowKit
set_option maxHeartbeats 4000000
theorem zsd {w : World} {g : Gh} {b j : Nat} {c : Value} (h : (zn w g).alone.M b j = some c) : w.cell? ⟨b, j, none⟩ = some c := by
 simp only [Mem.alone, zn] at h
 split at h
 ·rw [zcX]; exact h
 ·cases h
theorem told59 {args : List V} {h : List Ob} {r : V × List Ob} (e : zhn args h = some r) : zf1 GZ (.func 59) args h r := by
 unfold zhn at e
 split at e
 ·rename_i fl rows
  split at e
  ·rename_i hcond
   cases e
   obtain ⟨hal, hlen⟩ := hcond
   refine ⟨⟨_, Tryz.func59, by kernel_rfl, by kernel_rfl⟩, fun hn w g cs hS hG hv => ?_⟩
   simp only [VRs, VR] at hv
   obtain ⟨c1, cs1, rfl, ⟨ad, cap, rfl, hle, _, hnn, hrows⟩, rfl⟩ := hv
   have jl := hS.jl
   simp only at jl
   have emp : ∀ {w1 : World} {a : Option Addr} (_ : rows = []) (_ : a = none ∨ True) (hbel : RowKit.Below w.heap.size w w1) (hdr : w.drawn ≤ w1.drawn), zk1 hn w g (.arr h.length rows.length 7, h ++ [.arr true 7 rows]) (.returned (.slice a 0 0)) w1 := by
    intro w1 a hr _ hbel hdr
    subst hr
    have hx : ∀ ok : Owner → Prop, Ext ok w g w1 g := fun ok => ⟨hbel.size, fun b hb _ => ⟨hbel.block b hb, rfl, rfl⟩, zh8 hbel, Nat.le_refl _, hbel.os, hbel.tape, hbel.output, hdr⟩
    have wf' : WF w1 g := ⟨fun b hb => hS.wf.new b (Nat.le_trans hbel.size hb), hS.wf.inj, hS.wf.nx⟩
    have h1 := hS.aside wf' rfl (hx _)
    obtain ⟨h2, x2⟩ := h1.pushAcc (sz := 7) (by decide) (zeQ hn)
    refine ⟨_, _, rfl, h2, (hx _).trans x2, ?_⟩
    simp only [VR]
    refine ⟨a, 0, 0, 0, ?_, rfl, Nat.le_refl _, Nat.le_refl _, fun _ => rfl, fun _ => rfl, fun hne => absurd rfl hne⟩
    show (g.J ++ [(0, some 0)])[h.length]? = _
    rw [List.getElem?_append_right (by omega), jl, Nat.sub_self]; rfl
   cases ad with
   | none =>
    have h0 : rows = [] := by
     by_cases hr : rows = []
     ·exact hr
     ·obtain ⟨b, o, sz, h1, _⟩ := hrows hr; cases h1
    refine (zsc rows.length cap w).mono ?_
    rintro e w' ⟨rfl, rfl⟩
    exact emp h0 (.inl rfl) (RowKit.Below.refl _ _) (Nat.le_refl _)
   | some ad =>
    by_cases hr : rows = []
    ·have h0 := hr
     rw [show rows.length = 0 by rw [hr]; rfl] at *
     refine (zqy ad cap w).mono ?_
     rintro e w' ⟨rfl, rfl⟩
     have := emp (a := some ⟨w.heap.size, 0, none⟩) (w1 := w.alloc (.cells #[] 62)) h0 (.inr trivial) ((RowKit.Below.refl _ w).alloc (Nat.le_refl _) _) (Nat.le_refl _)
     exact this
    ·obtain ⟨b, o, sz, had, hrr⟩ := hrows hr
     cases had
     have hl0 : 0 < rows.length := List.length_pos_iff.2 hr
     have hsz : sz = 7 := by
      have h1 := (VRr.get _ hrr 0 rows[0] (List.getElem?_eq_getElem hl0)).1
      have h2 := List.all_eq_true.1 hal _ (List.getElem_mem hl0)
      exact h1.symm.trans (Nat.eq_of_beq_eq_true h2)
     subst hsz
     obtain ⟨news, n1, n2, _, n4⟩ := hrr.cells (by decide)
     refine (zqx b o rows.length cap hl0 hlen news w n1 (fun j u hj => zsd (n2 j u hj))).mono ?_
     rintro e w' ⟨cur, cp, hc1, hc2, hc3, rfl, rfl⟩
     have hbel : RowKit.Below w.heap.size w (w.alloc (.cells #[] 62)) := (RowKit.Below.refl _ w).alloc (Nat.le_refl _) _
     have hsz1 : (w.alloc (.cells #[] 62)).heap.size = w.heap.size + 1 := Array.size_push _
     have hd1 : w.drawn ≤ (w.alloc (.cells #[] 62)).drawn := Nat.le_refl _
     generalize w.alloc (.cells #[] 62) = W1 at *
     have hx : ∀ ok : Owner → Prop, Ext ok w g W1 g := fun ok => ⟨hbel.size, fun b hb _ => ⟨hbel.block b hb, rfl, rfl⟩, zh8 hbel, Nat.le_refl _, hbel.os, hbel.tape, hbel.output, hd1⟩
     have wf' : WF W1 g := ⟨fun b hb => hS.wf.new b (Nat.le_trans hbel.size hb), hS.wf.inj, hS.wf.nx⟩
     have h1 := hS.aside wf' rfl (hx _)
     obtain ⟨h2, x2⟩ := h1.pushAcc (sz := 7) (by decide) (zeQ hn)
     have hj : zav (h ++ [Ob.arr true 7 []]) h.length = some (.arr true 7 []) := by rw [zaG, List.getElem?_append_right (Nat.le_refl _), Nat.sub_self]; rfl
     have ra : zaO (zn W1 { g with J := g.J ++ [(0, some 0)] }).alone ([] ++ rows) 7 cur.toList := by
      refine ((n4.mono (hx (zeQ hn)).le.alone).mono x2.le.alone).congr fun x hx => ?_
      rw [← hc3, List.getElem?_take, if_pos hx]
     obtain ⟨g3, hg3, h3, x3⟩ := h2.regrow (cells := cur) (e := 62) hj hr ra
     have hse : zah (h ++ [Ob.arr true 7 []]) h.length (.arr true 7 ([] ++ rows)) = h ++ [.arr true 7 rows] := by
      rw [zdZ, List.set_append_right _ _ (Nat.le_refl _), Nat.sub_self]; rfl
     rw [hse] at h3
     have x3' : Ext (zeQ hn) W1 { g with J := g.J ++ [(0, some 0)] } (W1.alloc (.cells cur 62)) g3 := ⟨x3.size, fun b hb hp => by
      subst hg3
      refine ⟨by rw [zao, if_neg (by omega)], ?_, ?_⟩
      ·simp only [Gh.grab]
       rw [if_neg (by omega), if_neg (fun e => hp _ e ⟨_, rfl⟩)]
      ·simp only [Gh.grab]
       rw [if_neg (by omega)], x3.le, x3.nx, x3.os, x3.tape, x3.output, x3.dr⟩
     refine ⟨_, g3, rfl, h3.drew, ((hx _).trans (x2.trans x3')).trans (Ext.drew _ _ _), ?_⟩
     simp only [VR]
     refine ⟨some ⟨w.heap.size + 1, 0, none⟩, cp, w.heap.size + 1, rows.length, ?_, rfl, hc1, Nat.le_refl _, fun k => (by cases k), fun k => (by omega), fun _ _ => ⟨rfl, cur.size, ?_, by omega⟩⟩
     ·subst hg3
      show ((g.J ++ [(0, some 0)]).set h.length (W1.heap.size, some (0 + rows.length)))[h.length]? = _
      rw [List.getElem?_set_self (by simp [jl]), hsz1, Nat.zero_add]
     ·show zds (W1.alloc (.cells cur 62)).heap[w.heap.size + 1]? = _
      rw [zao, if_pos hsz1.symm]; rfl
  ·cases e
 ·cases e
theorem told_T : Told GZ := by
 intro f S args h r hS e
 have : spT f = some S := hS
 unfold spT at this
 split at this
 ·cases this; exact told59 e
 ·cases this; exact told99 e
 ·cases this
end Go.Ab
