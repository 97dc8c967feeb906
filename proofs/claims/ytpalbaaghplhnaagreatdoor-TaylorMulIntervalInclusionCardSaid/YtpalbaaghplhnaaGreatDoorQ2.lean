/- The sanity check answers true: its polynomials are given; conditions: none. -/
import Derived.KernelRfl
import Derived.Test.YtpalbaaghplhnaaGreatDoorQ1
import Derived.Test.YtpalbaaghplhnaaGreatDoorEC
import Derived.Test.YtpalbaaghplhnaaGreatDoorP0
set_option linter.unusedVariables false
set_option linter.unusedSimpArgs false
namespace Go.Ab
def T (c : Int) (x y : Nat) : Tm := ⟨c, ⟨x, y, 0, 0, 0, 0⟩⟩
theorem zob {p : List Tm} (h : (p.all fun t => decide (zbc t)) = true) : zaF p := fun t ht => of_decide_eq_true (List.all_eq_true.1 h t ht)
theorem zgp {p : List Tm} (h : (p.all fun t => decide t.e.ok) = true) : oks p := fun t ht => of_decide_eq_true (List.all_eq_true.1 h t ht)
theorem zgU {p : List Tm} (h : (p.all fun t => decide (zy t.c)) = true) : za6 p := fun t ht => of_decide_eq_true (List.all_eq_true.1 h t ht)
theorem qMul {a b q : List Tm} {most : Int} {r : Iv} (ha : (a.all fun t => decide (zbc t)) = true) (hb : (b.all fun t => decide (zbc t)) = true) (la : a.length ≤ 100) (lb : b.length ≤ 100) (h : zco a b most = (q, r)) :
  (CW GZ LZ).p (.func 63) [.slice .any (a.map Tm.cs), .slice .any (b.map Tm.cs), .int .i64 most] = some (.tuple [.slice .any (q.map Tm.cs), .agg [.int .i64 r.lo, .int .i64 r.hi]]) := by
 rw [p63 a b (zob ha) la (zob hb) lb most, h]; rfl
theorem zrX {a q : List Tm} {c : Int} {r : Iv} (ha : (a.all fun t => decide t.e.ok) = true) (hn : (a.all fun t => decide (zy t.c)) = true) (la : a.length ≤ 100) (hc : zy c) (h : zaM a c = (q, r)) :
  (CW GZ LZ).p (.func 79) [.slice .any (a.map Tm.cs), .int .i64 c] = some (.tuple [.slice .any (q.map Tm.cs), .agg [.int .i64 r.lo, .int .i64 r.hi]]) := by
 rw [p79 a c (zgp ha) (zgU hn) (by omega) hc, h]; rfl
theorem qAdd {a b q : List Tm} {r : Iv} (ha : (a.all fun t => decide t.e.ok) = true) (hb : (b.all fun t => decide t.e.ok) = true) (hn : (a.all fun t => decide (zy t.c)) = true) (hm : (b.all fun t => decide (zy t.c)) = true) (la : a.length ≤ 100) (lb : b.length ≤ 100) (h : zbv a b = (q, r)) :
  (CW GZ LZ).p (.func 54) [.slice .any (a.map Tm.cs), .slice .any (b.map Tm.cs)] = some (.tuple [.slice .any (q.map Tm.cs), .agg [.int .i64 r.lo, .int .i64 r.hi]]) := by
 rw [p54 a b (zgp ha) (zgp hb) (zgU hn) (zgU hm) (by omega) (by omega), h]; rfl
theorem qTrunc {a q : List Tm} {most : Int} {r : Iv} (ha : (a.all fun t => decide t.e.ok) = true) (la : a.length ≤ 100) (h : zcK a most = (q, r)) :
  (CW GZ LZ).p (.func 69) [.slice .any (a.map Tm.cs), .int .i64 most] = some (.tuple [.slice .any (q.map Tm.cs), .agg [.int .i64 r.lo, .int .i64 r.hi]]) := by
 rw [p69 a most (zgp ha) (by unfold few; omega), h]; rfl
def zld : List Tm := [T 65536 0 0, T 65536 1 0]
def ziF : List Tm := [T 65536 0 0, T (-65536) 1 0]
theorem s1 : (CW GZ LZ).p (.func 63) [.slice .any [[.int .i64 65536, .int .u8 0, .int .u8 0, .int .u8 0, .int .u8 0, .int .u8 0, .int .u8 0], [.int .i64 65536, .int .u8 1, .int .u8 0, .int .u8 0, .int .u8 0, .int .u8 0, .int .u8 0]], .slice .any [[.int .i64 65536, .int .u8 0, .int .u8 0, .int .u8 0, .int .u8 0, .int .u8 0, .int .u8 0], [.int .i64 (-65536), .int .u8 1, .int .u8 0, .int .u8 0, .int .u8 0, .int .u8 0, .int .u8 0]], .int .i64 6] =
  some (.tuple [.slice .any [[.int .i64 65536, .int .u8 0, .int .u8 0, .int .u8 0, .int .u8 0, .int .u8 0, .int .u8 0], [.int .i64 (-65536), .int .u8 2, .int .u8 0, .int .u8 0, .int .u8 0, .int .u8 0, .int .u8 0]], .agg [.int .i64 0, .int .i64 0]]) :=
 qMul (a := zld) (b := ziF) (q := [T 65536 0 0, T (-65536) 2 0]) (r := ⟨0, 0⟩) (by kernel_rfl) (by kernel_rfl) (by decide) (by decide) (by kernel_rfl)
theorem s2 : (CW GZ LZ).p (.func 63) [.slice .any [[.int .i64 65536, .int .u8 0, .int .u8 0, .int .u8 0, .int .u8 0, .int .u8 0, .int .u8 0], [.int .i64 65536, .int .u8 1, .int .u8 0, .int .u8 0, .int .u8 0, .int .u8 0, .int .u8 0]], .slice .any [[.int .i64 65536, .int .u8 0, .int .u8 0, .int .u8 0, .int .u8 0, .int .u8 0, .int .u8 0], [.int .i64 (-65536), .int .u8 1, .int .u8 0, .int .u8 0, .int .u8 0, .int .u8 0, .int .u8 0]], .int .i64 1] =
  some (.tuple [.slice .any [[.int .i64 65536, .int .u8 0, .int .u8 0, .int .u8 0, .int .u8 0, .int .u8 0, .int .u8 0]], .agg [.int .i64 (-65536), .int .i64 0]]) :=
 qMul (a := zld) (b := ziF) (q := [T 65536 0 0]) (r := ⟨-65536, 0⟩) (by kernel_rfl) (by kernel_rfl) (by decide) (by decide) (by kernel_rfl)
theorem s3 : (CW GZ LZ).p (.func 79) [.slice .any [[.int .i64 3, .int .u8 1, .int .u8 0, .int .u8 0, .int .u8 0, .int .u8 0, .int .u8 0]], .int .i64 32768] = some (.tuple [.slice .any [[.int .i64 1, .int .u8 1, .int .u8 0, .int .u8 0, .int .u8 0, .int .u8 0, .int .u8 0]], .agg [.int .i64 (-1), .int .i64 1]]) :=
 zrX (a := [T 3 1 0]) (q := [T 1 1 0]) (r := ⟨-1, 1⟩) (by kernel_rfl) (by kernel_rfl) (by decide) ⟨by decide, by decide⟩ (by kernel_rfl)
theorem s4 : (CW GZ LZ).p (.func 79) [.slice .any [[.int .i64 1, .int .u8 2, .int .u8 0, .int .u8 0, .int .u8 0, .int .u8 0, .int .u8 0]], .int .i64 1] = some (.tuple [.slice .any [], .agg [.int .i64 0, .int .i64 1]]) :=
 zrX (a := [T 1 2 0]) (q := []) (r := ⟨0, 1⟩) (by kernel_rfl) (by kernel_rfl) (by decide) ⟨by decide, by decide⟩ (by kernel_rfl)
theorem s5 : (CW GZ LZ).p (.func 54) [.slice .any [[.int .i64 65536, .int .u8 0, .int .u8 0, .int .u8 0, .int .u8 0, .int .u8 0, .int .u8 0], [.int .i64 65536, .int .u8 1, .int .u8 0, .int .u8 0, .int .u8 0, .int .u8 0, .int .u8 0]], .slice .any [[.int .i64 65536, .int .u8 0, .int .u8 0, .int .u8 0, .int .u8 0, .int .u8 0, .int .u8 0], [.int .i64 (-65536), .int .u8 1, .int .u8 0, .int .u8 0, .int .u8 0, .int .u8 0, .int .u8 0]]] =
  some (.tuple [.slice .any [[.int .i64 131072, .int .u8 0, .int .u8 0, .int .u8 0, .int .u8 0, .int .u8 0, .int .u8 0]], .agg [.int .i64 0, .int .i64 0]]) := by
 have h : zbv zld ziF = ([T 131072 0 0], ⟨0, 0⟩) := by
  unfold zbv zld ziF
  rw [zba, if_neg (by decide), if_neg (by decide), zba, if_neg (by decide), if_neg (by decide), zaW]
  kernel_rfl
 exact qAdd (a := zld) (b := ziF) (q := [T 131072 0 0]) (r := ⟨0, 0⟩) (by kernel_rfl) (by kernel_rfl) (by kernel_rfl) (by kernel_rfl) (by decide) (by decide) h
theorem s6 : (CW GZ LZ).p (.func 54) [.slice .any [[.int .i64 2147483647, .int .u8 0, .int .u8 1, .int .u8 0, .int .u8 0, .int .u8 0, .int .u8 0]], .slice .any [[.int .i64 1, .int .u8 0, .int .u8 1, .int .u8 0, .int .u8 0, .int .u8 0, .int .u8 0]]] =
  some (.tuple [.slice .any [], .agg [.int .i64 (-2147483648), .int .i64 2147483648]]) := by
 have h : zbv [T 2147483647 0 1] [T 1 0 1] = ([], Iv.whole) := by
  unfold zbv
  rw [zba, if_neg (by decide), if_neg (by decide), zaW]
  kernel_rfl
 exact qAdd (a := [T 2147483647 0 1]) (b := [T 1 0 1]) (q := []) (r := Iv.whole) (by kernel_rfl) (by kernel_rfl) (by kernel_rfl) (by kernel_rfl) (by decide) (by decide) h
theorem s7 : (CW GZ LZ).p (.func 69) [.slice .any [[.int .i64 5, .int .u8 0, .int .u8 0, .int .u8 0, .int .u8 0, .int .u8 0, .int .u8 0], [.int .i64 7, .int .u8 0, .int .u8 2, .int .u8 0, .int .u8 0, .int .u8 0, .int .u8 0], [.int .i64 (-9), .int .u8 2, .int .u8 0, .int .u8 0, .int .u8 0, .int .u8 0, .int .u8 0], [.int .i64 4, .int .u8 2, .int .u8 1, .int .u8 0, .int .u8 0, .int .u8 0, .int .u8 0]], .int .i64 1] =
  some (.tuple [.slice .any [[.int .i64 5, .int .u8 0, .int .u8 0, .int .u8 0, .int .u8 0, .int .u8 0, .int .u8 0]], .agg [.int .i64 (-13), .int .i64 11]]) :=
 qTrunc (a := [T 5 0 0, T 7 0 2, T (-9) 2 0, T 4 2 1]) (q := [T 5 0 0]) (r := ⟨-13, 11⟩) (by kernel_rfl) (by decide) (by kernel_rfl)
theorem ipow2 (a : Iv) : zaP a 2 = a.sq := by rw [zk8 a (by decide) (by decide), show 2 / 2 = 1 from rfl, zfA a (Nat.le_refl 1)]
theorem s8 : (CW GZ LZ).p (.func 83) [.slice .any [[.int .i64 65536, .int .u8 0, .int .u8 1, .int .u8 0, .int .u8 0, .int .u8 0, .int .u8 0], [.int .i64 65536, .int .u8 2, .int .u8 0, .int .u8 0, .int .u8 0, .int .u8 0, .int .u8 0]], .slice .any [[.int .i64 (-65536), .int .i64 131072], [.int .i64 3, .int .i64 4]]] = some (.agg [.int .i64 3, .int .i64 262148]) := by
 have h := p83 [T 65536 0 1, T 65536 2 0] (zgp (by kernel_rfl)) (by unfold few; decide) [⟨-65536, 131072⟩, ⟨3, 4⟩] (fun x hx => by
  simp only [List.mem_cons, List.not_mem_nil, or_false] at hx
  rcases hx with rfl | rfl <;> exact ⟨by decide, by decide, by decide, .inr ⟨⟨by decide, by decide⟩, by decide, by decide⟩⟩) (by decide)
 have e : zfp [⟨-65536, 131072⟩, ⟨3, 4⟩] [T 65536 0 1, T 65536 2 0] = ⟨3, 262148⟩ := by
  have h1 : evT [⟨-65536, 131072⟩, ⟨3, 4⟩] (T 65536 0 1) = (Iv.new 65536 65536).mul ⟨3, 4⟩ := by
   show evS _ 5 0 (evS _ 4 0 (evS _ 3 0 (evS _ 2 0 (evS _ 1 1 (evS _ 0 0 _))))) = _
   unfold evS
   rw [zfA _ (Nat.le_refl 1)]
   rfl
  have h2 : evT [⟨-65536, 131072⟩, ⟨3, 4⟩] (T 65536 2 0) = (Iv.new 65536 65536).mul (Iv.sq ⟨-65536, 131072⟩) := by
   show evS _ 5 0 (evS _ 4 0 (evS _ 3 0 (evS _ 2 0 (evS _ 1 0 (evS _ 0 2 _))))) = _
   unfold evS
   rw [ipow2]
   rfl
  unfold zfp zfo
  rw [h1]
  unfold zfo
  rw [h2]
  change _ = _
  kernel_rfl
 rw [e] at h
 exact h
end Go.Ab
namespace Go.Ab
structure Pol (p : List Tm) : Prop where
 ok : oks p
 nm : za6 p
 st : zap p
 fi : zaF p
 ln : p.length ≤ 100
theorem zrY {p : List Tm} (h : oks p) (hv : zbG p) : Pol p := ⟨h, fun t ht => (hv.1 t ht).1, hv.2.1, hv.1, hv.2.2⟩
theorem ztc (p : List Tm) (most size : Int) : Pol (zdV p most size) := zrY (zj8 p most size).1 (zj8 p most size).2.1
theorem zoc {b : List Tm} (hb : zaF b) : ∀ (a : List Tm) (s : MS), zaF a → oks s.m → oks (a.foldl (zb0 b) s).m
 | [], s, _, h => h
 | x :: a, s, ha, h => by
  have hx := ha x (by simp)
  refine zoc hb a _ (fun t ht => ha t (by simp [ht])) ?_
  have row : ∀ (b : List Tm) (s : MS), zaF b → oks s.m → oks (b.foldl (zbb x) s).m := by
   intro b
   induction b with
   | nil => intro s _ h; exact h
   | cons y b ih => intro s hb h; exact ih _ (fun t ht => hb t (by simp [ht])) (zer _ _ h (zeQ hx (hb y (by simp))))
  exact row b s hb h
theorem ztZ (i : Int) : (E6.unit i).ok := by
 simp only [E6.unit, E6.ok]
 refine ⟨?_, ?_, ?_, ?_, ?_, ?_⟩ <;> split <;> omega
end Go.Ab
namespace Go.Ab
theorem zle {l h : Int} (hw : (Iv.new l h).isW = false) : zy l ∧ zy h ∧ Iv.new l h = ⟨l, h⟩ := by
 unfold Iv.new at hw ⊢
 split at hw
 ·rename_i hn; exact ⟨hn.1, hn.2, by rw [if_pos hn]⟩
 ·cases hw
theorem zpn {l h : Int} (hl : zy l) : Iv.isW ⟨l, h⟩ = false := by
 have : ¬ l = -2147483648 := by have := hl.1; omega
 simp [Iv.isW, this]
theorem zmu {p : List Tm} {most lo hi : Int} (h : (zas p most lo hi).2.isW = false) : za6 p ∧ (p.filter (kp most)).length ≤ 100 ∧ zy (lo + los (p.filter (dp most))) ∧ zy (hi + his (p.filter (dp most))) ∧
  zas p most lo hi = (p.filter (kp most), ⟨lo + los (p.filter (dp most)), hi + his (p.filter (dp most))⟩) := by
 unfold zas at h ⊢
 split at h
 ·rename_i hc
  obtain ⟨h1, h2, h3⟩ := hc
  obtain ⟨n1, n2, e⟩ := zle h3
  refine ⟨zdD.1 h1, h2, n1, n2, ?_⟩
  rw [if_pos ⟨h1, h2, h3⟩, e]
 ·cases h
theorem kd {most : Int} {t : Tm} (h : t.c ≠ 0) : dp most t = !kp most t := by
 unfold kp dp
 by_cases hd : ((t.e.deg : Nat) : Int) ≤ min most 6 <;> simp [h, hd]
theorem zt0 {most : Int} {t : Tm} (h : t.c = 0) : dp most t = false ∧ kp most t = false := by simp [kp, dp, h]
theorem ztd (t : Tm) (p : List Tm) : los (t :: p) = (rng t).1 + los p := rfl
theorem zte (t : Tm) (p : List Tm) : his (t :: p) = (rng t).2 + his p := rfl
theorem zmv (x : Tm) : ∀ (b : List Tm) (s : MS), s.lo ≤ 0 → 0 ≤ s.hi → (b.foldl (zbb x) s).lo ≤ 0 ∧ 0 ≤ (b.foldl (zbb x) s).hi
 | [], s, h1, h2 => ⟨h1, h2⟩
 | y :: b, s, h1, h2 => by
  have l1 := zk5 (x.c * y.c) (x.e.add y.e)
  have l2 := zk6 (x.c * y.c)
  exact zmv x b _ (by simp only [zbb]; omega) (by simp only [zbb]; omega)
theorem zmw (b : List Tm) : ∀ (a : List Tm) (s : MS), s.lo ≤ 0 → 0 ≤ s.hi → (a.foldl (zb0 b) s).lo ≤ 0 ∧ 0 ≤ (a.foldl (zb0 b) s).hi
 | [], s, h1, h2 => ⟨h1, h2⟩
 | x :: a, s, h1, h2 => by
  have := zmv x b s h1 h2
  exact zmw b a _ this.1 this.2
theorem zgq {l h : Int} (h1 : zy l) (h2 : zy h) (h3 : l ≤ h) : Iv.valid ⟨l, h⟩ := by
 unfold zy at h1 h2
 exact ⟨h3, by simp only; omega, by simp only; omega, .inr ⟨h1, h2⟩⟩
end Go.Ab
namespace Go.Ab
def degs6 (p : List Tm) : Prop := ∀ t ∈ p, t.e.deg ≤ 6
theorem ziG : ∀ (n : Nat) (a b : List Tm), a.length + b.length ≤ n → ∀ t ∈ zbf a b, ∃ u, (u ∈ a ∨ u ∈ b) ∧ u.e = t.e := by
 intro n
 induction n with
 | zero =>
  intro a b h t ht
  rw [List.length_eq_zero_iff.1 (show a.length = 0 by omega), List.length_eq_zero_iff.1 (show b.length = 0 by omega), zaW] at ht
  cases ht
 | succ n ih =>
  intro a b h t ht
  cases a with
  | nil => rw [zaW] at ht; exact ⟨t, .inr ht, rfl⟩
  | cons x a =>
   cases b with
   | nil => rw [zcl] at ht; exact ⟨t, .inl ht, rfl⟩
   | cons y b =>
    simp only [List.length_cons] at h
    rw [zba] at ht
    split at ht
    ·rcases List.mem_cons.1 ht with rfl | ht
     ·exact ⟨t, .inl (by simp), rfl⟩
     ·obtain ⟨u, hu, he⟩ := ih a (y :: b) (by simp only [List.length_cons]; omega) t ht
      refine ⟨u, ?_, he⟩
      rcases hu with hu | hu
      ·exact .inl (by simp [hu])
      ·exact .inr hu
    ·split at ht
     ·rcases List.mem_cons.1 ht with rfl | ht
      ·exact ⟨t, .inr (by simp), rfl⟩
      ·obtain ⟨u, hu, he⟩ := ih (x :: a) b (by simp only [List.length_cons]; omega) t ht
       refine ⟨u, ?_, he⟩
       rcases hu with hu | hu
       ·exact .inl hu
       ·exact .inr (by simp [hu])
     ·rcases List.mem_cons.1 ht with rfl | ht
      ·exact ⟨x, .inl (by simp), rfl⟩
      ·obtain ⟨u, hu, he⟩ := ih a b (by omega) t ht
       refine ⟨u, ?_, he⟩
       rcases hu with hu | hu
       ·exact .inl (by simp [hu])
       ·exact .inr (by simp [hu])
theorem zod : ∀ (n : Nat) (a b : List Tm), a.length + b.length ≤ n → zap a → zap b → zap (zbf a b) := by
 intro n
 induction n with
 | zero =>
  intro a b h _ hb
  rw [List.length_eq_zero_iff.1 (show a.length = 0 by omega), zaW]; exact hb
 | succ n ih =>
  intro a b h ha hb
  cases a with
  | nil => rw [zaW]; exact hb
  | cons x a =>
   cases b with
   | nil => rw [zcl]; exact ha
   | cons y b =>
    obtain ⟨a1, a2⟩ := List.pairwise_cons.1 ha
    obtain ⟨b1, b2⟩ := List.pairwise_cons.1 hb
    simp only [List.length_cons] at h
    rw [zba]
    split
    ·rename_i hxy
     refine List.pairwise_cons.2 ⟨fun t ht => ?_, ih a (y :: b) (by simp only [List.length_cons]; omega) a2 hb⟩
     obtain ⟨u, hu, he⟩ := ziG _ a (y :: b) (Nat.le_refl _) t ht
     unfold zfn
     rw [← he]
     rcases hu with hu | hu
     ·exact a1 u hu
     ·rcases List.mem_cons.1 hu with rfl | hu
      ·exact hxy
      ·exact Nat.lt_trans hxy (b1 u hu)
    ·split
     ·rename_i hyx
      refine List.pairwise_cons.2 ⟨fun t ht => ?_, ih (x :: a) b (by simp only [List.length_cons]; omega) ha b2⟩
      obtain ⟨u, hu, he⟩ := ziG _ (x :: a) b (Nat.le_refl _) t ht
      unfold zfn
      rw [← he]
      rcases hu with hu | hu
      ·rcases List.mem_cons.1 hu with rfl | hu
       ·exact hyx
       ·exact Nat.lt_trans hyx (a1 u hu)
      ·exact b1 u hu
     ·rename_i h1 h2
      refine List.pairwise_cons.2 ⟨fun t ht => ?_, ih a b (by omega) a2 b2⟩
      obtain ⟨u, hu, he⟩ := ziG _ a b (Nat.le_refl _) t ht
      have hk : x.e.key = y.e.key := by omega
      unfold zfn
      rw [← he]
      rcases hu with hu | hu
      ·exact a1 u hu
      ·simp only; rw [hk]; exact b1 u hu
def ngT (t : Tm) : Tm := ⟨-t.c, t.e⟩
end Go.Ab
namespace Go.Ab
def Iv.sbs (a b : Iv) : Prop := b.lo ≤ a.lo ∧ a.hi ≤ b.hi
theorem isW_eq {a : Iv} (h : a.isW = true) : a = Iv.whole := by
 simp only [Iv.isW, Bool.and_eq_true, beq_iff_eq] at h
 obtain ⟨l, u⟩ := a
 simp only at h
 rw [h.1, h.2]; rfl
theorem bil {x l h y p q : Int} (h1 : l ≤ x) (h2 : x ≤ h) (h3 : p ≤ y) (h4 : y ≤ q) : zfH (l * p) (l * q) (h * p) (h * q) ≤ x * y ∧ x * y ≤ zfI (l * p) (l * q) (h * p) (h * q) := by
 have o1 := zg9 h1 y
 have o2 := zg9 h2 y
 have o3 := ze7 h3 l
 have o4 := ze7 h4 l
 have o5 := ze7 h3 h
 have o6 := ze7 h4 h
 unfold zfH zfI
 by_cases c1 : 0 ≤ y <;> by_cases c2 : 0 ≤ l <;> by_cases c3 : 0 ≤ h <;> omega
def unit2 : Iv := ⟨0, 65536⟩
end Go.Ab
namespace Go.Ab
def dst (c : Int) : Nat → Iv
 | 0 => ⟨c, c⟩
 | 1 => ⟨min c 0, max c 0⟩
 | _ => ⟨min c (-c), max c (-c)⟩
def dnx (s u : Nat) : Nat := if u = 0 then s else if u % 2 = 1 then 2 else max s 1
theorem zrZ (t : Tm) (hc : zy t.c) : zy (rng t).1 ∧ zy (rng t).2 ∧ (rng t).1 ≤ (rng t).2 := by
 have e := zk3 t (b := 2147483647) (by unfold zy at hc; omega) (by unfold zy at hc; omega)
 unfold zy; omega
theorem zlN : ∀ {p : List Tm}, za6 p → los p ≤ his p
 | [], _ => Int.le_refl _
 | t :: p, h => by
  have ih := zlN (p := p) fun u hu => h u (by simp [hu])
  have := (zrZ t (h t (by simp))).2.2
  have e1 : los (t :: p) = (rng t).1 + los p := by simp [los, zbn]
  have e2 : his (t :: p) = (rng t).2 + his p := by simp [his, zbn]
  omega
end Go.Ab
namespace Go.Ab
def has (s : Nat) (P : Int) (a : Iv) : Prop := a.isW = true ∨ (a.lo * 2 ^ s ≤ P ∧ P ≤ a.hi * 2 ^ s)
def boxH (b : List Iv) (z : Pt) : Prop := has 1 (65536 * z.a) (bx b 0) ∧ has 1 (65536 * z.b) (bx b 1) ∧ has 1 (65536 * z.c) (bx b 2) ∧ has 1 (65536 * z.d) (bx b 3) ∧ has 1 (65536 * z.e) (bx b 4) ∧ has 1 (65536 * z.f) (bx b 5)
end Go.Ab
