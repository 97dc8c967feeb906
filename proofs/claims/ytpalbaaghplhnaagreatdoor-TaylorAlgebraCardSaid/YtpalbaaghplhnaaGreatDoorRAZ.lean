/- What the listed variable holds; the arguments' forms; a statement's step; conditions: none. -/
import Derived.Test.YtpalbaaghplhnaaGreatDoorRows
import Derived.WalkKit
import Derived.ProofKit
import Derived.JoinedCond
import Derived.LaidMore
import Derived.Stop.Joined
import Derived.Test.YtpalbaaghplhnaaGreatDoorQ2
import Derived.Test.YtpalbaaghplhnaaGreatDoorG5
import Derived.Test.YtpalbaaghplhnaaGreatDoorK3
set_option linter.unusedVariables false
set_option linter.unusedSimpArgs false
namespace Go.Ab
open Go.RowKit Go.ChangeShapes Go.WideShapes Go.Proofs Go.ChangeAt
section
variable {P : Program}
theorem zlD {t e : TypeId} {α : Type} {F : α → List V} {Q : α → Prop} (hu : P.underlying t = some (.slice e)) {n : Nat} {vs : List V} (h : Shp P n t vs) (one : ∀ m r, Shp P m e r → ∃ a, r = F a ∧ Q a) : ∃ l : List α, vs = [.slice .any (l.map F)] ∧ l.length < 9223372036854775808 ∧ ∀ a ∈ l, Q a := by
 cases n with
 | zero => exact absurd h (by simp only [Shp]; exact id)
 | succ n =>
  simp only [Shp, hu] at h
  obtain ⟨rows, rfl, hlen, hr⟩ := h
  have : ∀ rows : List (List V), (∀ r ∈ rows, Shp P n e r) → ∃ l : List α, rows = l.map F ∧ ∀ a ∈ l, Q a := by
   intro rows
   induction rows with
   | nil => intro _; exact ⟨[], rfl, fun a ha => by cases ha⟩
   | cons r rows ih =>
    intro h
    obtain ⟨a, rfl, ha⟩ := one n r (h r (by simp))
    obtain ⟨l, rfl, hl⟩ := ih fun r hr => h r (by simp [hr])
    refine ⟨a :: l, rfl, fun b hb => ?_⟩
    rcases List.mem_cons.1 hb with rfl | hb
    ·exact ha
    ·exact hl b hb
  obtain ⟨l, rfl, hl⟩ := this rows hr
  refine ⟨l, rfl, ?_, hl⟩
  rw [List.length_map] at hlen
  unfold maxLen at hlen
  omega
theorem zcL {t : TypeId} {k : IntKind} (hu : P.underlying t = some (.int k)) {n : Nat} {vs : List V} (h : Shp P n t vs) : ∃ z, vs = [.int k z] ∧ k.min ≤ z ∧ z ≤ k.max := by
 cases n with
 | zero => exact absurd h (by simp only [Shp]; exact id)
 | succ n => simpa only [Shp, hu] using h
theorem zf9 {t : TypeId} {fs : Array Field} (hu : P.underlying t = some (.struct fs)) {n : Nat} {vs : List V} (h : Shp P n t vs) : ∃ m, vs.length = P.cellsOf t ∧ ∀ f ∈ fs.toList, Shp P m f.type ((vs.drop f.offset).take (P.cellsOf f.type)) := by
 cases n with
 | zero => exact absurd h (by simp only [Shp]; exact id)
 | succ n =>
  simp only [Shp, hu] at h
  exact ⟨n, h⟩
theorem zsF {t e : TypeId} {n : Nat} (hu : P.underlying t = some (.array n e)) {m : Nat} {vs : List V} (h : Shp P m t vs) : ∃ m, vs.length = P.cellsOf t ∧ ∀ i, i < n → Shp P m e ((vs.drop (i * P.cellsOf e)).take (P.cellsOf e)) := by
 cases m with
 | zero => exact absurd h (by simp only [Shp]; exact id)
 | succ m =>
  simp only [Shp, hu] at h
  exact ⟨m, h⟩
theorem zcF {m : Nat} {fs : Array Field} {vs : List V} (h : ∀ f ∈ fs.toList, Shp P m f.type ((vs.drop f.offset).take (P.cellsOf f.type))) (i : Nat) {f : Field} (hf : fs.toList[i]? = some f) {t : TypeId} (ht : f.type = t) {c : Nat} (hc : P.cellsOf t = c) {v : List V} (hv : (vs.drop f.offset).take c = v) : Shp P m t v := by
 have := h f (List.mem_of_getElem? hf)
 rwa [ht, hc, hv] at this
theorem len2 {l : List V} (h : l.length = 2) : ∃ a b, l = [a, b] := by
 match l, h with
 | [a, b], _ => exact ⟨a, b, rfl⟩
theorem len6 {l : List V} (h : l.length = 6) : ∃ a b c d e f, l = [a, b, c, d, e, f] := by
 match l, h with
 | [a, b, c, d, e, f], _ => exact ⟨a, b, c, d, e, f, rfl⟩
theorem len7 {l : List V} (h : l.length = 7) : ∃ a b c d e f g, l = [a, b, c, d, e, f, g] := by
 match l, h with
 | [a, b, c, d, e, f, g], _ => exact ⟨a, b, c, d, e, f, g, rfl⟩
theorem arg_of {t : TypeId} {d : TypeDesc} (hu : P.underlying t = some d) (hd : (∃ fs, d = .struct fs) ∨ ∃ n e, d = .array n e) {v : V} (h : zgz P t v) : ∃ n vs, v = .agg vs ∧ Shp P n t vs := by
 rcases hd with ⟨fs, rfl⟩ | ⟨n, e, rfl⟩ <;> simpa only [zgz, hu] using h
end
theorem zjD {z : Int} (h : IntKind.u8.min ≤ z ∧ z ≤ IntKind.u8.max) : ∃ n : Nat, z = ((n : Nat) : Int) ∧ n < 256 := by
 have e1 : IntKind.u8.min = 0 := rfl
 have e2 : IntKind.u8.max = 255 := rfl
 exact ⟨z.toNat, by omega, by omega⟩
theorem i8_of {z : Int} (h : IntKind.i8.min ≤ z ∧ z ≤ IntKind.i8.max) : -128 ≤ z ∧ z ≤ 127 := by
 have e1 : IntKind.i8.min = -128 := rfl
 have e2 : IntKind.i8.max = 127 := rfl
 omega
theorem zsG {z : Int} (h : IntKind.u16.min ≤ z ∧ z ≤ IntKind.u16.max) : 0 ≤ z ∧ z ≤ 65535 := by
 have e1 : IntKind.u16.min = 0 := rfl
 have e2 : IntKind.u16.max = 65535 := rfl
 omega
theorem cel2 : Tryz.prog.cellsOf 2 = 1 := by kernel_rfl
theorem cel5 : Tryz.prog.cellsOf 5 = 1 := by kernel_rfl
theorem celE : Tryz.prog.cellsOf 60 = 6 := by kernel_rfl
theorem celT : Tryz.prog.cellsOf 62 = 7 := by kernel_rfl
theorem celS : Tryz.prog.cellsOf 22 = 1 := by kernel_rfl
theorem celI : Tryz.prog.cellsOf 24 = 2 := by kernel_rfl
set_option maxRecDepth 100000 in
theorem shp_e6 (n : Nat) (r : List V) (h : Shp Tryz.prog n 60 r) : ∃ x : E6, r = x.cs ∧ x.ok := by
 obtain ⟨m, hl, hf⟩ := zsF Tryz.underlying60 h
 rw [celE] at hl
 rw [cel5] at hf
 obtain ⟨v0, v1, v2, v3, v4, v5, rfl⟩ := len6 hl
 obtain ⟨p0, e0, b0⟩ := zcL Tryz.underlying5 (hf 0 (by decide))
 obtain ⟨p1, e1, b1⟩ := zcL Tryz.underlying5 (hf 1 (by decide))
 obtain ⟨p2, e2, b2⟩ := zcL Tryz.underlying5 (hf 2 (by decide))
 obtain ⟨p3, e3, b3⟩ := zcL Tryz.underlying5 (hf 3 (by decide))
 obtain ⟨p4, e4, b4⟩ := zcL Tryz.underlying5 (hf 4 (by decide))
 obtain ⟨p5, e5, b5⟩ := zcL Tryz.underlying5 (hf 5 (by decide))
 cases e0; cases e1; cases e2; cases e3; cases e4; cases e5
 obtain ⟨a, rfl, ha⟩ := zjD b0
 obtain ⟨b, rfl, hb⟩ := zjD b1
 obtain ⟨c, rfl, hc⟩ := zjD b2
 obtain ⟨d, rfl, hd⟩ := zjD b3
 obtain ⟨e, rfl, he⟩ := zjD b4
 obtain ⟨f, rfl, hff⟩ := zjD b5
 exact ⟨⟨a, b, c, d, e, f⟩, rfl, ha, hb, hc, hd, he, hff⟩
set_option maxRecDepth 100000 in
theorem shp_tm (n : Nat) (r : List V) (h : Shp Tryz.prog n 62 r) : ∃ t : Tm, r = t.cs ∧ t.e.ok := by
 obtain ⟨m, hl, hf⟩ := zf9 Tryz.underlying62 h
 rw [celT] at hl
 obtain ⟨v0, v1, v2, v3, v4, v5, v6, rfl⟩ := len7 hl
 obtain ⟨z0, e0, _⟩ := zcL Tryz.underlying2 (zcF hf 0 rfl rfl cel2 (v := [v0]) rfl)
 obtain ⟨x, ex, hx⟩ := shp_e6 m _ (zcF hf 1 rfl rfl celE (v := [v1, v2, v3, v4, v5, v6]) rfl)
 cases e0
 exact ⟨⟨z0, x⟩, by rw [ex]; rfl, hx⟩
theorem shp_iv (n : Nat) (r : List V) (h : Shp Tryz.prog n 24 r) : ∃ a : Iv, r = a.c := by
 obtain ⟨m, hl, hf⟩ := zf9 Tryz.underlying24 h
 rw [celI] at hl
 obtain ⟨v0, v1, rfl⟩ := len2 hl
 obtain ⟨z0, e0, _⟩ := zcL Tryz.underlying2 (zcF hf 0 rfl rfl cel2 (v := [v0]) rfl)
 obtain ⟨z1, e1, _⟩ := zcL Tryz.underlying2 (zcF hf 1 rfl rfl cel2 (v := [v1]) rfl)
 cases e0; cases e1
 exact ⟨⟨z0, z1⟩, rfl⟩
theorem gProd : Tryz.prog.globalNamed "armillary/interval.products" = some 0 := by kernel_rfl
theorem tProd : (Tryz.prog.globals[0]?).map (·.type) = some 108 := by kernel_rfl
theorem celF : Tryz.prog.cellsOf 104 = 1 := by kernel_rfl
theorem celP : Tryz.prog.cellsOf 106 = 2 := by kernel_rfl
theorem celP3 : Tryz.prog.cellsOf 107 = 6 := by kernel_rfl
theorem celP9 : Tryz.prog.cellsOf 108 = 18 := by kernel_rfl
noncomputable abbrev rdF (W : World) (n : Nat) (t : TypeId) (cs : List Value) : Option (DataW (List UInt8) × List MemPlace) := DataW.trod (funcToken Tryz.prog) Tryz.prog W 0 (fun _ => true) true n t cs
set_option maxRecDepth 100000 in
theorem zd9 {W : World} {n : Nat} {cs : List Value} {d : DataW (List UInt8)} {p : List MemPlace} (h : rdF W n 106 cs = some (d, p)) :
  ∃ v0 v1 d0 d1 m p0 p1, cs = [v0, v1] ∧ d = .agg [d0, d1] ∧ rdF W m 104 [v0] = some (d0, p0) ∧ rdF W m 104 [v1] = some (d1, p1) := by
 obtain ⟨xs, m, rfl, hx, hl, hxl, hel⟩ := DataW.trod_struct Tryz.underlying106 h
 rw [celP] at hl
 have h0 : rdF W m 104 ((cs.drop 0).take (Tryz.prog.cellsOf 104)) = xs[0]? := hel 0 _ rfl
 have h1 : rdF W m 104 ((cs.drop 1).take (Tryz.prog.cellsOf 104)) = xs[1]? := hel 1 _ rfl
 rw [celF] at h0 h1
 match cs, hl, xs, hxl with
 | [v0, v1], _, [x0, x1], _ =>
  cases hx
  exact ⟨v0, v1, x0.1, x1.1, m, x0.2, x1.2, rfl, rfl, h0, h1⟩
set_option maxRecDepth 100000 in
theorem zoF {W : World} {n : Nat} {cs : List Value} {d : DataW (List UInt8)} {p : List MemPlace} (h : rdF W n 107 cs = some (d, p)) :
  ∃ d0 d1 d2 m p0 p1 p2, cs.length = 6 ∧ d = .agg [d0, d1, d2] ∧ rdF W m 106 ((cs.drop 0).take 2) = some (d0, p0) ∧ rdF W m 106 ((cs.drop 2).take 2) = some (d1, p1) ∧ rdF W m 106 ((cs.drop 4).take 2) = some (d2, p2) := by
 obtain ⟨xs, m, rfl, hx, hl, hxl, hel⟩ := DataW.trod_array Tryz.underlying107 h
 rw [celP3] at hl
 rw [celP] at hel
 match xs, hxl with
 | [x0, x1, x2], _ =>
  cases hx
  exact ⟨x0.1, x1.1, x2.1, m, x0.2, x1.2, x2.2, hl, rfl, hel 0 (by decide), hel 1 (by decide), hel 2 (by decide)⟩
set_option maxRecDepth 100000 in
theorem rd_tab {W : World} {n : Nat} {cs : List Value} {d : DataW (List UInt8)} {p : List MemPlace} (h : rdF W n 108 cs = some (d, p)) :
  ∃ d0 d1 d2 m p0 p1 p2, cs.length = 18 ∧ d = .agg [d0, d1, d2] ∧ rdF W m 107 ((cs.drop 0).take 6) = some (d0, p0) ∧ rdF W m 107 ((cs.drop 6).take 6) = some (d1, p1) ∧ rdF W m 107 ((cs.drop 12).take 6) = some (d2, p2) := by
 obtain ⟨xs, m, rfl, hx, hl, hxl, hel⟩ := DataW.trod_array Tryz.underlying108 h
 rw [celP9] at hl
 rw [celP3] at hel
 match xs, hxl with
 | [x0, x1, x2], _ =>
  cases hx
  exact ⟨x0.1, x1.1, x2.1, m, x0.2, x1.2, x2.2, hl, rfl, hel 0 (by decide), hel 1 (by decide), hel 2 (by decide)⟩
theorem zsH {W : World} {n : Nat} {v : Value} {p : List MemPlace} (h : rdF W n 104 [v] = some (.nil, p)) : v = .nilFunc := by
 cases n with
 | zero => simp [rdF, DataW.trod] at h
 | succ n => cases v <;> simp [rdF, DataW.trod, Tryz.underlying104] at h ⊢
theorem zc4 (f : FuncId) (m : Mem) : VR (.fn (.func f) [] []) m (.func (.func f) #[] #[]) ∧ one (.func (.func f) #[] #[]) = true := by
 refine ⟨?_, rfl⟩
 simp only [VR, VRs]
 exact ⟨.func f, [], [], rfl, rfl, rfl, rfl⟩
theorem zsI (m : Mem) : VR .nilfn m .nilFunc ∧ one .nilFunc = true := ⟨by simp only [VR], rfl⟩
theorem zsJ {m : Mem} {b : Nat} : ∀ (vs : List V) (cs : List Value) (o : Nat), vs.length = cs.length → (∀ (j : Nat) (c : Value), cs[j]? = some c → m.M b (o + j) = some c) → (∀ (j : Nat) (v : V) (c : Value), vs[j]? = some v → cs[j]? = some c → VR v m c ∧ one c = true) → VRc vs m b o
 | [], _, _, _, _, _ => by simp only [VRc]
 | v :: vs, [], _, hl, _, _ => by simp at hl
 | v :: vs, c :: cs, o, hl, hm, hv => by
  simp only [VRc]
  refine ⟨⟨c, by simpa using hm 0 c rfl, hv 0 v c rfl rfl⟩, zsJ vs cs (o + 1) (by simpa using hl) (fun j c' hj => ?_) fun j v' c' h1 h2 => hv (j + 1) v' c' (by simpa using h1) (by simpa using h2)⟩
  have := hm (j + 1) c' (by simpa using hj)
  rwa [show o + (j + 1) = o + 1 + j by omega] at this
theorem gl_0 : GZ.gl 0 = [.fn (.func 161) [] [], .fn (.func 162) [] [], .fn (.func 163) [] [], .fn (.func 162) [] [], .fn (.func 163) [] [], .fn (.func 164) [] [], .fn (.func 164) [] [], .fn (.func 162) [] [], .nilfn, .nilfn, .fn (.func 163) [] [], .fn (.func 161) [] [], .fn (.func 164) [] [], .fn (.func 163) [] [], .fn (.func 164) [] [], .fn (.func 161) [] [], .fn (.func 162) [] [], .fn (.func 161) [] []] := rfl
set_option maxRecDepth 100000 in
theorem zu0 {W : World} (h : laidMetH Tryz.prog [("armillary/interval.products", YtpalbaaghplhnaaGreatDoor.Rows.laid_armillary_interval_products)] W) : zcg GZ W g0 := by
  intro b
  match b with
  | b + 1 => exact (show VRc [] _ _ _ by simp only [VRc])
  | 0 =>
    obtain ⟨g, t, cs, n, p, hg, ht, hv, hd⟩ := h.funcs (List.mem_singleton.2 rfl)
    obtain rfl := Option.some.inj (gProd.symm.trans hg)
    obtain rfl := Option.some.inj (tProd.symm.trans ht)
    obtain ⟨d0, d1, d2, n1, p0, p1, p2, hl, hD, r0, r1, r2⟩ := rd_tab hd
    have hcell := World.var?_cell hg hv
    obtain ⟨cs⟩ := cs
    simp only at hl
    obtain ⟨c0, c1, c2, c3, c4, c5, c6, c7, c8, c9, c10, c11, c12, c13, c14, c15, c16, c17, rfl⟩ : ∃ c0 c1 c2 c3 c4 c5 c6 c7 c8 c9 c10 c11 c12 c13 c14 c15 c16 c17, cs = [c0, c1, c2, c3, c4, c5, c6, c7, c8, c9, c10, c11, c12, c13, c14, c15, c16, c17] := by
      match cs, hl with
      | [c0, c1, c2, c3, c4, c5, c6, c7, c8, c9, c10, c11, c12, c13, c14, c15, c16, c17], _ => exact ⟨c0, c1, c2, c3, c4, c5, c6, c7, c8, c9, c10, c11, c12, c13, c14, c15, c16, c17, rfl⟩
    injection hD with hD
    obtain ⟨e00, e01, e02, m0, q00, q01, q02, _, hD0, r00, r01, r02⟩ := zoF r0
    obtain ⟨e10, e11, e12, m1, q10, q11, q12, _, hD1, r10, r11, r12⟩ := zoF r1
    obtain ⟨e20, e21, e22, m2, q20, q21, q22, _, hD2, r20, r21, r22⟩ := zoF r2
    subst hD0 hD1 hD2
    obtain ⟨_, _, a0, a1, _, _, _, k0, s0, t0, t1⟩ := zd9 r00
    obtain ⟨_, _, a2, a3, _, _, _, k1, s1, t2, t3⟩ := zd9 r01
    obtain ⟨_, _, a4, a5, _, _, _, k2, s2, t4, t5⟩ := zd9 r02
    obtain ⟨_, _, a6, a7, _, _, _, k3, s3, t6, t7⟩ := zd9 r10
    obtain ⟨_, _, a8, a9, _, _, _, k4, s4, t8, t9⟩ := zd9 r11
    obtain ⟨_, _, a10, a11, _, _, _, k5, s5, t10, t11⟩ := zd9 r12
    obtain ⟨_, _, a12, a13, _, _, _, k6, s6, t12, t13⟩ := zd9 r20
    obtain ⟨_, _, a14, a15, _, _, _, k7, s7, t14, t15⟩ := zd9 r21
    obtain ⟨_, _, a16, a17, _, _, _, k8, s8, t16, t17⟩ := zd9 r22
    subst s0 s1 s2 s3 s4 s5 s6 s7 s8
    cases k0; cases k1; cases k2; cases k3; cases k4; cases k5; cases k6; cases k7; cases k8
    simp only [DataW.funcsOut, DataW.funcsOutAll, List.cons.injEq, DataW.agg.injEq, and_true] at hD
    obtain ⟨⟨⟨h0, h1⟩, ⟨h2, h3⟩, ⟨h4, h5⟩⟩, ⟨⟨h6, h7⟩, ⟨h8, h9⟩, ⟨h10, h11⟩⟩, ⟨⟨h12, h13⟩, ⟨h14, h15⟩, ⟨h16, h17⟩⟩⟩ := hD
    subst h0 h1 h2 h3 h4 h5 h6 h7 h8 h9 h10 h11 h12 h13 h14 h15 h16 h17
    obtain rfl := func_of_trod (f0 := 161) Tryz.underlying104 (by kernel_rfl) t0
    obtain rfl := func_of_trod (f0 := 162) Tryz.underlying104 (by kernel_rfl) t1
    obtain rfl := func_of_trod (f0 := 163) Tryz.underlying104 (by kernel_rfl) t2
    obtain rfl := func_of_trod (f0 := 162) Tryz.underlying104 (by kernel_rfl) t3
    obtain rfl := func_of_trod (f0 := 163) Tryz.underlying104 (by kernel_rfl) t4
    obtain rfl := func_of_trod (f0 := 164) Tryz.underlying104 (by kernel_rfl) t5
    obtain rfl := func_of_trod (f0 := 164) Tryz.underlying104 (by kernel_rfl) t6
    obtain rfl := func_of_trod (f0 := 162) Tryz.underlying104 (by kernel_rfl) t7
    obtain rfl := zsH t8
    obtain rfl := zsH t9
    obtain rfl := func_of_trod (f0 := 163) Tryz.underlying104 (by kernel_rfl) t10
    obtain rfl := func_of_trod (f0 := 161) Tryz.underlying104 (by kernel_rfl) t11
    obtain rfl := func_of_trod (f0 := 164) Tryz.underlying104 (by kernel_rfl) t12
    obtain rfl := func_of_trod (f0 := 163) Tryz.underlying104 (by kernel_rfl) t13
    obtain rfl := func_of_trod (f0 := 164) Tryz.underlying104 (by kernel_rfl) t14
    obtain rfl := func_of_trod (f0 := 161) Tryz.underlying104 (by kernel_rfl) t15
    obtain rfl := func_of_trod (f0 := 162) Tryz.underlying104 (by kernel_rfl) t16
    obtain rfl := func_of_trod (f0 := 161) Tryz.underlying104 (by kernel_rfl) t17
    rw [gl_0]
    refine zsJ _ [.func (.func 161) #[] #[], .func (.func 162) #[] #[], .func (.func 163) #[] #[], .func (.func 162) #[] #[], .func (.func 163) #[] #[], .func (.func 164) #[] #[], .func (.func 164) #[] #[], .func (.func 162) #[] #[], .nilFunc, .nilFunc, .func (.func 163) #[] #[], .func (.func 161) #[] #[], .func (.func 164) #[] #[], .func (.func 163) #[] #[], .func (.func 164) #[] #[], .func (.func 161) #[] #[], .func (.func 162) #[] #[], .func (.func 161) #[] #[]] 0 rfl (fun j c hj => ?_) (fun j v c h1 h2 => ?_)
    · rw [zn5, m0_M, Nat.zero_add, hcell j]
      rw [← hj, ← Array.getElem?_toList]
    · match j, h1, h2 with
      | 0, h1, h2 => cases h1; cases h2; exact zc4 _ _
      | 1, h1, h2 => cases h1; cases h2; exact zc4 _ _
      | 2, h1, h2 => cases h1; cases h2; exact zc4 _ _
      | 3, h1, h2 => cases h1; cases h2; exact zc4 _ _
      | 4, h1, h2 => cases h1; cases h2; exact zc4 _ _
      | 5, h1, h2 => cases h1; cases h2; exact zc4 _ _
      | 6, h1, h2 => cases h1; cases h2; exact zc4 _ _
      | 7, h1, h2 => cases h1; cases h2; exact zc4 _ _
      | 8, h1, h2 => cases h1; cases h2; exact zsI _
      | 9, h1, h2 => cases h1; cases h2; exact zsI _
      | 10, h1, h2 => cases h1; cases h2; exact zc4 _ _
      | 11, h1, h2 => cases h1; cases h2; exact zc4 _ _
      | 12, h1, h2 => cases h1; cases h2; exact zc4 _ _
      | 13, h1, h2 => cases h1; cases h2; exact zc4 _ _
      | 14, h1, h2 => cases h1; cases h2; exact zc4 _ _
      | 15, h1, h2 => cases h1; cases h2; exact zc4 _ _
      | 16, h1, h2 => cases h1; cases h2; exact zc4 _ _
      | 17, h1, h2 => cases h1; cases h2; exact zc4 _ _
      | j + 18, h1, _ => simp at h1
theorem laidD : laidOutB Tryz.prog = true := by kernel_rfl
theorem mapsD : mapsRowed Tryz.prog = true := by kernel_rfl
theorem fullD : ∀ t e, t < Tryz.prog.types.size → Tryz.prog.underlying t = some (.slice e) → 0 < Tryz.prog.cellsOf e := slices_full_of _ (by kernel_rfl)
theorem ownD : ownKnob Tryz.prog.godebug = none := by kernel_rfl
theorem lawD {f : FuncId} {vs : List V} {v : V} (h : (CW GZ LZ).p (.func f) vs = some v) : zk2 GZ (.func f) vs v := by
 obtain ⟨r, h1, h2⟩ := CW_p.1 h
 exact zlY (bs_ok zpD told_T h1) h2
theorem ztX (os : Os) (args : Array Value) : laidMetH Tryz.prog [("armillary/interval.products", YtpalbaaghplhnaaGreatDoor.Rows.laid_armillary_interval_products)] ((World.doorLaid Tryz.prog 26 os).forCall (fun _ _ => 0) ⟨#[], args, []⟩).memory :=
  laidMetH_of_parts3 (fuel := 8) (laidMet_of_run' 8 (by kernel_rfl) (by kernel_rfl)) (by kernel_rfl) (by kernel_rfl)
end Go.Ab
