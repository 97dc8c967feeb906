/- The sanity check answers true: its polynomials are given; conditions: none. -/
import Derived.KernelRfl
import Derived.Test.YtpalbaaghplhnaaGreatDoorQ1
import Derived.Test.YtpalbaaghplhnaaGreatDoorEC
import Derived.Test.YtpalbaaghplhnaaGreatDoorP0
set_option linter.unusedVariables false
set_option linter.unusedSimpArgs false
namespace Go.Ab
def T (c : Int) (x y : Nat) : Tm := ⟨c, ⟨x, y, 0, 0, 0, 0⟩⟩
theorem zox {p : List Tm} (h : (p.all fun t => decide (zbs t)) = true) : zaD p := fun t ht => of_decide_eq_true (List.all_eq_true.1 h t ht)
theorem zgG {p : List Tm} (h : (p.all fun t => decide t.e.ok) = true) : oks p := fun t ht => of_decide_eq_true (List.all_eq_true.1 h t ht)
theorem zhc {p : List Tm} (h : (p.all fun t => decide (zz t.c)) = true) : zbf p := fun t ht => of_decide_eq_true (List.all_eq_true.1 h t ht)
theorem qMul {a b q : List Tm} {most : Int} {r : Iv} (ha : (a.all fun t => decide (zbs t)) = true) (hb : (b.all fun t => decide (zbs t)) = true) (la : a.length ≤ 100) (lb : b.length ≤ 100) (h : zcl a b most = (q, r)) :
  (CW GZ LZ).p (.func 63) [.slice .any (a.map Tm.cs), .slice .any (b.map Tm.cs), .int .i64 most] = some (.tuple [.slice .any (q.map Tm.cs), .agg [.int .i64 r.lo, .int .i64 r.hi]]) := by
 rw [p63 a b (zox ha) la (zox hb) lb most, h]; rfl
theorem zsl {a q : List Tm} {c : Int} {r : Iv} (ha : (a.all fun t => decide t.e.ok) = true) (hn : (a.all fun t => decide (zz t.c)) = true) (la : a.length ≤ 100) (hc : zz c) (h : zaR a c = (q, r)) :
  (CW GZ LZ).p (.func 79) [.slice .any (a.map Tm.cs), .int .i64 c] = some (.tuple [.slice .any (q.map Tm.cs), .agg [.int .i64 r.lo, .int .i64 r.hi]]) := by
 rw [p79 a c (zgG ha) (zhc hn) (by omega) hc, h]; rfl
theorem qAdd {a b q : List Tm} {r : Iv} (ha : (a.all fun t => decide t.e.ok) = true) (hb : (b.all fun t => decide t.e.ok) = true) (hn : (a.all fun t => decide (zz t.c)) = true) (hm : (b.all fun t => decide (zz t.c)) = true) (la : a.length ≤ 100) (lb : b.length ≤ 100) (h : zaQ a b = (q, r)) :
  (CW GZ LZ).p (.func 54) [.slice .any (a.map Tm.cs), .slice .any (b.map Tm.cs)] = some (.tuple [.slice .any (q.map Tm.cs), .agg [.int .i64 r.lo, .int .i64 r.hi]]) := by
 rw [p54 a b (zgG ha) (zgG hb) (zhc hn) (zhc hm) (by omega) (by omega), h]; rfl
theorem qTrunc {a q : List Tm} {most : Int} {r : Iv} (ha : (a.all fun t => decide t.e.ok) = true) (la : a.length ≤ 100) (h : zcR a most = (q, r)) :
  (CW GZ LZ).p (.func 69) [.slice .any (a.map Tm.cs), .int .i64 most] = some (.tuple [.slice .any (q.map Tm.cs), .agg [.int .i64 r.lo, .int .i64 r.hi]]) := by
 rw [p69 a most (zgG ha) (by unfold few; omega), h]; rfl
def zly : List Tm := [T 65536 0 0, T 65536 1 0]
def ziY : List Tm := [T 65536 0 0, T (-65536) 1 0]
theorem s1 : (CW GZ LZ).p (.func 63) [.slice .any [[.int .i64 65536, .int .u8 0, .int .u8 0, .int .u8 0, .int .u8 0, .int .u8 0, .int .u8 0], [.int .i64 65536, .int .u8 1, .int .u8 0, .int .u8 0, .int .u8 0, .int .u8 0, .int .u8 0]], .slice .any [[.int .i64 65536, .int .u8 0, .int .u8 0, .int .u8 0, .int .u8 0, .int .u8 0, .int .u8 0], [.int .i64 (-65536), .int .u8 1, .int .u8 0, .int .u8 0, .int .u8 0, .int .u8 0, .int .u8 0]], .int .i64 6] =
  some (.tuple [.slice .any [[.int .i64 65536, .int .u8 0, .int .u8 0, .int .u8 0, .int .u8 0, .int .u8 0, .int .u8 0], [.int .i64 (-65536), .int .u8 2, .int .u8 0, .int .u8 0, .int .u8 0, .int .u8 0, .int .u8 0]], .agg [.int .i64 0, .int .i64 0]]) :=
 qMul (a := zly) (b := ziY) (q := [T 65536 0 0, T (-65536) 2 0]) (r := ⟨0, 0⟩) (by kernel_rfl) (by kernel_rfl) (by decide) (by decide) (by kernel_rfl)
theorem s2 : (CW GZ LZ).p (.func 63) [.slice .any [[.int .i64 65536, .int .u8 0, .int .u8 0, .int .u8 0, .int .u8 0, .int .u8 0, .int .u8 0], [.int .i64 65536, .int .u8 1, .int .u8 0, .int .u8 0, .int .u8 0, .int .u8 0, .int .u8 0]], .slice .any [[.int .i64 65536, .int .u8 0, .int .u8 0, .int .u8 0, .int .u8 0, .int .u8 0, .int .u8 0], [.int .i64 (-65536), .int .u8 1, .int .u8 0, .int .u8 0, .int .u8 0, .int .u8 0, .int .u8 0]], .int .i64 1] =
  some (.tuple [.slice .any [[.int .i64 65536, .int .u8 0, .int .u8 0, .int .u8 0, .int .u8 0, .int .u8 0, .int .u8 0]], .agg [.int .i64 (-65536), .int .i64 0]]) :=
 qMul (a := zly) (b := ziY) (q := [T 65536 0 0]) (r := ⟨-65536, 0⟩) (by kernel_rfl) (by kernel_rfl) (by decide) (by decide) (by kernel_rfl)
theorem s3 : (CW GZ LZ).p (.func 79) [.slice .any [[.int .i64 3, .int .u8 1, .int .u8 0, .int .u8 0, .int .u8 0, .int .u8 0, .int .u8 0]], .int .i64 32768] = some (.tuple [.slice .any [[.int .i64 1, .int .u8 1, .int .u8 0, .int .u8 0, .int .u8 0, .int .u8 0, .int .u8 0]], .agg [.int .i64 (-1), .int .i64 1]]) :=
 zsl (a := [T 3 1 0]) (q := [T 1 1 0]) (r := ⟨-1, 1⟩) (by kernel_rfl) (by kernel_rfl) (by decide) ⟨by decide, by decide⟩ (by kernel_rfl)
theorem s4 : (CW GZ LZ).p (.func 79) [.slice .any [[.int .i64 1, .int .u8 2, .int .u8 0, .int .u8 0, .int .u8 0, .int .u8 0, .int .u8 0]], .int .i64 1] = some (.tuple [.slice .any [], .agg [.int .i64 0, .int .i64 1]]) :=
 zsl (a := [T 1 2 0]) (q := []) (r := ⟨0, 1⟩) (by kernel_rfl) (by kernel_rfl) (by decide) ⟨by decide, by decide⟩ (by kernel_rfl)
theorem s5 : (CW GZ LZ).p (.func 54) [.slice .any [[.int .i64 65536, .int .u8 0, .int .u8 0, .int .u8 0, .int .u8 0, .int .u8 0, .int .u8 0], [.int .i64 65536, .int .u8 1, .int .u8 0, .int .u8 0, .int .u8 0, .int .u8 0, .int .u8 0]], .slice .any [[.int .i64 65536, .int .u8 0, .int .u8 0, .int .u8 0, .int .u8 0, .int .u8 0, .int .u8 0], [.int .i64 (-65536), .int .u8 1, .int .u8 0, .int .u8 0, .int .u8 0, .int .u8 0, .int .u8 0]]] =
  some (.tuple [.slice .any [[.int .i64 131072, .int .u8 0, .int .u8 0, .int .u8 0, .int .u8 0, .int .u8 0, .int .u8 0]], .agg [.int .i64 0, .int .i64 0]]) := by
 have h : zaQ zly ziY = ([T 131072 0 0], ⟨0, 0⟩) := by
  unfold zaQ zly ziY
  rw [zaJ, if_neg (by decide), if_neg (by decide), zaJ, if_neg (by decide), if_neg (by decide), zaB]
  kernel_rfl
 exact qAdd (a := zly) (b := ziY) (q := [T 131072 0 0]) (r := ⟨0, 0⟩) (by kernel_rfl) (by kernel_rfl) (by kernel_rfl) (by kernel_rfl) (by decide) (by decide) h
theorem s6 : (CW GZ LZ).p (.func 54) [.slice .any [[.int .i64 2147483647, .int .u8 0, .int .u8 1, .int .u8 0, .int .u8 0, .int .u8 0, .int .u8 0]], .slice .any [[.int .i64 1, .int .u8 0, .int .u8 1, .int .u8 0, .int .u8 0, .int .u8 0, .int .u8 0]]] =
  some (.tuple [.slice .any [], .agg [.int .i64 (-2147483648), .int .i64 2147483648]]) := by
 have h : zaQ [T 2147483647 0 1] [T 1 0 1] = ([], Iv.whole) := by
  unfold zaQ
  rw [zaJ, if_neg (by decide), if_neg (by decide), zaB]
  kernel_rfl
 exact qAdd (a := [T 2147483647 0 1]) (b := [T 1 0 1]) (q := []) (r := Iv.whole) (by kernel_rfl) (by kernel_rfl) (by kernel_rfl) (by kernel_rfl) (by decide) (by decide) h
theorem s7 : (CW GZ LZ).p (.func 69) [.slice .any [[.int .i64 5, .int .u8 0, .int .u8 0, .int .u8 0, .int .u8 0, .int .u8 0, .int .u8 0], [.int .i64 7, .int .u8 0, .int .u8 2, .int .u8 0, .int .u8 0, .int .u8 0, .int .u8 0], [.int .i64 (-9), .int .u8 2, .int .u8 0, .int .u8 0, .int .u8 0, .int .u8 0, .int .u8 0], [.int .i64 4, .int .u8 2, .int .u8 1, .int .u8 0, .int .u8 0, .int .u8 0, .int .u8 0]], .int .i64 1] =
  some (.tuple [.slice .any [[.int .i64 5, .int .u8 0, .int .u8 0, .int .u8 0, .int .u8 0, .int .u8 0, .int .u8 0]], .agg [.int .i64 (-13), .int .i64 11]]) :=
 qTrunc (a := [T 5 0 0, T 7 0 2, T (-9) 2 0, T 4 2 1]) (q := [T 5 0 0]) (r := ⟨-13, 11⟩) (by kernel_rfl) (by decide) (by kernel_rfl)
theorem ipow2 (a : Iv) : zaT a 2 = a.sq := by rw [ziR a (by decide) (by decide), show 2 / 2 = 1 from rfl, zeZ a (Nat.le_refl 1)]
theorem s8 : (CW GZ LZ).p (.func 83) [.slice .any [[.int .i64 65536, .int .u8 0, .int .u8 1, .int .u8 0, .int .u8 0, .int .u8 0, .int .u8 0], [.int .i64 65536, .int .u8 2, .int .u8 0, .int .u8 0, .int .u8 0, .int .u8 0, .int .u8 0]], .slice .any [[.int .i64 (-65536), .int .i64 131072], [.int .i64 3, .int .i64 4]]] = some (.agg [.int .i64 3, .int .i64 262148]) := by
 have h := p83 [T 65536 0 1, T 65536 2 0] (zgG (by kernel_rfl)) (by unfold few; decide) [⟨-65536, 131072⟩, ⟨3, 4⟩] (fun x hx => by
  simp only [List.mem_cons, List.not_mem_nil, or_false] at hx
  rcases hx with rfl | rfl <;> exact ⟨by decide, by decide, by decide, .inr ⟨⟨by decide, by decide⟩, by decide, by decide⟩⟩) (by decide)
 have e : ze1 [⟨-65536, 131072⟩, ⟨3, 4⟩] [T 65536 0 1, T 65536 2 0] = ⟨3, 262148⟩ := by
  have h1 : evT [⟨-65536, 131072⟩, ⟨3, 4⟩] (T 65536 0 1) = (Iv.new 65536 65536).mul ⟨3, 4⟩ := by
   show evS _ 5 0 (evS _ 4 0 (evS _ 3 0 (evS _ 2 0 (evS _ 1 1 (evS _ 0 0 _))))) = _
   unfold evS
   rw [zeZ _ (Nat.le_refl 1)]
   rfl
  have h2 : evT [⟨-65536, 131072⟩, ⟨3, 4⟩] (T 65536 2 0) = (Iv.new 65536 65536).mul (Iv.sq ⟨-65536, 131072⟩) := by
   show evS _ 5 0 (evS _ 4 0 (evS _ 3 0 (evS _ 2 0 (evS _ 1 0 (evS _ 0 2 _))))) = _
   unfold evS
   rw [ipow2]
   rfl
  unfold ze1 ze0
  rw [h1]
  unfold ze0
  rw [h2]
  change _ = _
  kernel_rfl
 rw [e] at h
 exact h
end Go.Ab
namespace Go.Ab
structure Pol (p : List Tm) : Prop where
 ok : oks p
 nm : zbf p
 st : zas p
 fi : zaD p
 ln : p.length ≤ 100
theorem zsm {p : List Tm} (h : oks p) (hv : zbC p) : Pol p := ⟨h, fun t ht => (hv.1 t ht).1, hv.2.1, hv.1, hv.2.2⟩
theorem ztJ (p : List Tm) (most size : Int) : Pol (zd6 p most size) := zsm (zku p most size).1 (zku p most size).2.1
theorem zoy {b : List Tm} (hb : zaD b) : ∀ (a : List Tm) (s : MS), zaD a → oks s.m → oks (a.foldl (zbt b) s).m
 | [], s, _, h => h
 | x :: a, s, ha, h => by
  have hx := ha x (by simp)
  refine zoy hb a _ (fun t ht => ha t (by simp [ht])) ?_
  have row : ∀ (b : List Tm) (s : MS), zaD b → oks s.m → oks (b.foldl (zbw x) s).m := by
   intro b
   induction b with
   | nil => intro s _ h; exact h
   | cons y b ih => intro s hb h; exact ih _ (fun t ht => hb t (by simp [ht])) (zfn _ _ h (zfM hx (hb y (by simp))))
  exact row b s hb h
theorem zuy (i : Int) : (E6.unit i).ok := by
 simp only [E6.unit, E6.ok]
 refine ⟨?_, ?_, ?_, ?_, ?_, ?_⟩ <;> split <;> omega
end Go.Ab
namespace Go.Ab
theorem zoz {l h : Int} (hw : (Iv.new l h).isW = false) : zz l ∧ zz h ∧ Iv.new l h = ⟨l, h⟩ := by
 unfold Iv.new at hw ⊢
 split at hw
 ·rename_i hn; exact ⟨hn.1, hn.2, by rw [if_pos hn]⟩
 ·cases hw
theorem zuz {l h : Int} (hl : zz l) : Iv.isW ⟨l, h⟩ = false := by
 have : ¬ l = -2147483648 := by have := hl.1; omega
 simp [Iv.isW, this]
theorem ziZ {p : List Tm} {most lo hi : Int} (h : (zar p most lo hi).2.isW = false) : zbf p ∧ (p.filter (kp most)).length ≤ 100 ∧ zz (lo + los (p.filter (dp most))) ∧ zz (hi + his (p.filter (dp most))) ∧
  zar p most lo hi = (p.filter (kp most), ⟨lo + los (p.filter (dp most)), hi + his (p.filter (dp most))⟩) := by
 unfold zar at h ⊢
 split at h
 ·rename_i hc
  obtain ⟨h1, h2, h3⟩ := hc
  obtain ⟨n1, n2, e⟩ := zoz h3
  refine ⟨zdM.1 h1, h2, n1, n2, ?_⟩
  rw [if_pos ⟨h1, h2, h3⟩, e]
 ·cases h
theorem kd {most : Int} {t : Tm} (h : t.c ≠ 0) : dp most t = !kp most t := by
 unfold kp dp
 by_cases hd : ((t.e.deg : Nat) : Int) ≤ min most 6 <;> simp [h, hd]
theorem zuA {most : Int} {t : Tm} (h : t.c = 0) : dp most t = false ∧ kp most t = false := by simp [kp, dp, h]
theorem ztK (t : Tm) (p : List Tm) : los (t :: p) = (rng t).1 + los p := rfl
theorem ztL (t : Tm) (p : List Tm) : his (t :: p) = (rng t).2 + his p := rfl
theorem zmP (x : Tm) : ∀ (b : List Tm) (s : MS), s.lo ≤ 0 → 0 ≤ s.hi → (b.foldl (zbw x) s).lo ≤ 0 ∧ 0 ≤ (b.foldl (zbw x) s).hi
 | [], s, h1, h2 => ⟨h1, h2⟩
 | y :: b, s, h1, h2 => by
  have l1 := zlq (x.c * y.c) (x.e.add y.e)
  have l2 := zlr (x.c * y.c)
  exact zmP x b _ (by simp only [zbw]; omega) (by simp only [zbw]; omega)
theorem zmQ (b : List Tm) : ∀ (a : List Tm) (s : MS), s.lo ≤ 0 → 0 ≤ s.hi → (a.foldl (zbt b) s).lo ≤ 0 ∧ 0 ≤ (a.foldl (zbt b) s).hi
 | [], s, h1, h2 => ⟨h1, h2⟩
 | x :: a, s, h1, h2 => by
  have := zmP x b s h1 h2
  exact zmQ b a _ this.1 this.2
theorem zgH {l h : Int} (h1 : zz l) (h2 : zz h) (h3 : l ≤ h) : Iv.valid ⟨l, h⟩ := by
 unfold zz at h1 h2
 exact ⟨h3, by simp only; omega, by simp only; omega, .inr ⟨h1, h2⟩⟩
end Go.Ab
namespace Go.Ab
def degs6 (p : List Tm) : Prop := ∀ t ∈ p, t.e.deg ≤ 6
theorem zi0 : ∀ (n : Nat) (a b : List Tm), a.length + b.length ≤ n → ∀ t ∈ za4 a b, ∃ u, (u ∈ a ∨ u ∈ b) ∧ u.e = t.e := by
 intro n
 induction n with
 | zero =>
  intro a b h t ht
  rw [List.length_eq_zero_iff.1 (show a.length = 0 by omega), List.length_eq_zero_iff.1 (show b.length = 0 by omega), zaB] at ht
  cases ht
 | succ n ih =>
  intro a b h t ht
  cases a with
  | nil => rw [zaB] at ht; exact ⟨t, .inr ht, rfl⟩
  | cons x a =>
   cases b with
   | nil => rw [zbF] at ht; exact ⟨t, .inl ht, rfl⟩
   | cons y b =>
    simp only [List.length_cons] at h
    rw [zaJ] at ht
    split at ht
    ·rcases List.mem_cons.1 ht with rfl | ht
     ·exact ⟨t, .inl (by simp), rfl⟩
     ·obtain ⟨u, hu, he⟩ := ih a (y :: b) (by simp only [List.length_cons]; omega) t ht
      refine ⟨u, ?_, he⟩
      rcases hu with hu | hu
      ·exact .inl (by simp [hu])
      ·exact .inr hu
    ·split at ht
     ·rcases List.mem_cons.1 ht with rfl | ht
      ·exact ⟨t, .inr (by simp), rfl⟩
      ·obtain ⟨u, hu, he⟩ := ih (x :: a) b (by simp only [List.length_cons]; omega) t ht
       refine ⟨u, ?_, he⟩
       rcases hu with hu | hu
       ·exact .inl hu
       ·exact .inr (by simp [hu])
     ·rcases List.mem_cons.1 ht with rfl | ht
      ·exact ⟨x, .inl (by simp), rfl⟩
      ·obtain ⟨u, hu, he⟩ := ih a b (by omega) t ht
       refine ⟨u, ?_, he⟩
       rcases hu with hu | hu
       ·exact .inl (by simp [hu])
       ·exact .inr (by simp [hu])
theorem zoA : ∀ (n : Nat) (a b : List Tm), a.length + b.length ≤ n → zas a → zas b → zas (za4 a b) := by
 intro n
 induction n with
 | zero =>
  intro a b h _ hb
  rw [List.length_eq_zero_iff.1 (show a.length = 0 by omega), zaB]; exact hb
 | succ n ih =>
  intro a b h ha hb
  cases a with
  | nil => rw [zaB]; exact hb
  | cons x a =>
   cases b with
   | nil => rw [zbF]; exact ha
   | cons y b =>
    obtain ⟨a1, a2⟩ := List.pairwise_cons.1 ha
    obtain ⟨b1, b2⟩ := List.pairwise_cons.1 hb
    simp only [List.length_cons] at h
    rw [zaJ]
    split
    ·rename_i hxy
     refine List.pairwise_cons.2 ⟨fun t ht => ?_, ih a (y :: b) (by simp only [List.length_cons]; omega) a2 hb⟩
     obtain ⟨u, hu, he⟩ := zi0 _ a (y :: b) (Nat.le_refl _) t ht
     unfold zfy
     rw [← he]
     rcases hu with hu | hu
     ·exact a1 u hu
     ·rcases List.mem_cons.1 hu with rfl | hu
      ·exact hxy
      ·exact Nat.lt_trans hxy (b1 u hu)
    ·split
     ·rename_i hyx
      refine List.pairwise_cons.2 ⟨fun t ht => ?_, ih (x :: a) b (by simp only [List.length_cons]; omega) ha b2⟩
      obtain ⟨u, hu, he⟩ := zi0 _ (x :: a) b (Nat.le_refl _) t ht
      unfold zfy
      rw [← he]
      rcases hu with hu | hu
      ·rcases List.mem_cons.1 hu with rfl | hu
       ·exact hyx
       ·exact Nat.lt_trans hyx (a1 u hu)
      ·exact b1 u hu
     ·rename_i h1 h2
      refine List.pairwise_cons.2 ⟨fun t ht => ?_, ih a b (by omega) a2 b2⟩
      obtain ⟨u, hu, he⟩ := zi0 _ a b (Nat.le_refl _) t ht
      have hk : x.e.key = y.e.key := by omega
      unfold zfy
      rw [← he]
      rcases hu with hu | hu
      ·exact a1 u hu
      ·simp only; rw [hk]; exact b1 u hu
def ngT (t : Tm) : Tm := ⟨-t.c, t.e⟩
end Go.Ab
namespace Go.Ab
def Iv.sbs (a b : Iv) : Prop := b.lo ≤ a.lo ∧ a.hi ≤ b.hi
theorem isW_eq {a : Iv} (h : a.isW = true) : a = Iv.whole := by
 simp only [Iv.isW, Bool.and_eq_true, beq_iff_eq] at h
 obtain ⟨l, u⟩ := a
 simp only at h
 rw [h.1, h.2]; rfl
theorem bil {x l h y p q : Int} (h1 : l ≤ x) (h2 : x ≤ h) (h3 : p ≤ y) (h4 : y ≤ q) : zdK (l * p) (l * q) (h * p) (h * q) ≤ x * y ∧ x * y ≤ zdL (l * p) (l * q) (h * p) (h * q) := by
 have o1 := zhq h1 y
 have o2 := zhq h2 y
 have o3 := zfj h3 l
 have o4 := zfj h4 l
 have o5 := zfj h3 h
 have o6 := zfj h4 h
 unfold zdK zdL
 by_cases c1 : 0 ≤ y <;> by_cases c2 : 0 ≤ l <;> by_cases c3 : 0 ≤ h <;> omega
def unit2 : Iv := ⟨0, 65536⟩
end Go.Ab
namespace Go.Ab
def dst (c : Int) : Nat → Iv
 | 0 => ⟨c, c⟩
 | 1 => ⟨min c 0, max c 0⟩
 | _ => ⟨min c (-c), max c (-c)⟩
def dnx (s u : Nat) : Nat := if u = 0 then s else if u % 2 = 1 then 2 else max s 1
theorem zsn (t : Tm) (hc : zz t.c) : zz (rng t).1 ∧ zz (rng t).2 ∧ (rng t).1 ≤ (rng t).2 := by
 have e := zlo t (b := 2147483647) (by unfold zz at hc; omega) (by unfold zz at hc; omega)
 unfold zz; omega
theorem wadd (a : Iv) : Iv.whole.add a = Iv.whole := by unfold Iv.add; rw [show Iv.whole.isW = true from rfl, Bool.true_or, if_pos rfl]
theorem zl6 : ∀ {p : List Tm}, zbf p → los p ≤ his p
 | [], _ => Int.le_refl _
 | t :: p, h => by
  have ih := zl6 (p := p) fun u hu => h u (by simp [hu])
  have := (zsn t (h t (by simp))).2.2
  have e1 : los (t :: p) = (rng t).1 + los p := by simp [los, za0]
  have e2 : his (t :: p) = (rng t).2 + his p := by simp [his, za0]
  omega
end Go.Ab
namespace Go.Ab
def has (s : Nat) (P : Int) (a : Iv) : Prop := a.isW = true ∨ (a.lo * 2 ^ s ≤ P ∧ P ≤ a.hi * 2 ^ s)
theorem zi1 (s : Nat) : (0 : Int) < 2 ^ s := Int.pow_pos (by decide)
theorem zso (l h : Int) : Iv.new l h = Iv.whole ∨ Iv.new l h = ⟨l, h⟩ := by
 unfold Iv.new; split
 ·exact .inr rfl
 ·exact .inl rfl
theorem zge {s : Nat} {P l h : Int} (h1 : l * 2 ^ s ≤ P) (h2 : P ≤ h * 2 ^ s) : has s P (Iv.new l h) := by
 rcases zso l h with e | e <;> rw [e]
 ·exact .inl rfl
 ·exact .inr ⟨h1, h2⟩
theorem zeE (s : Nat) (P : Int) : has s P Iv.whole := .inl rfl
theorem zuB {s : Nat} {P Q : Int} {a b : Iv} (ha : has s P a) (hb : has s Q b) : has s (P + Q) (a.add b) := by
 unfold Iv.add
 rcases ha with ha | ha
 ·rw [ha, Bool.true_or, if_pos rfl]; exact zeE _ _
 ·rcases hb with hb | hb
  ·rw [hb, Bool.or_true, if_pos rfl]; exact zeE _ _
  ·split
   ·exact zeE _ _
   ·refine zge ?_ ?_
    ·rw [Int.add_mul]; omega
    ·rw [Int.add_mul]; omega
theorem zl7 {a b w : Int} (hw : 0 < w) : min a b * w = min (a * w) (b * w) := by
 by_cases h : a ≤ b
 ·rw [Int.min_eq_left h, Int.min_eq_left (Int.mul_le_mul_of_nonneg_right h (Int.le_of_lt hw))]
 ·rw [Int.min_eq_right (by omega), Int.min_eq_right (Int.mul_le_mul_of_nonneg_right (by omega) (Int.le_of_lt hw))]
theorem zl8 {a b w : Int} (hw : 0 < w) : max a b * w = max (a * w) (b * w) := by
 by_cases h : a ≤ b
 ·rw [Int.max_eq_right h, Int.max_eq_right (Int.mul_le_mul_of_nonneg_right h (Int.le_of_lt hw))]
 ·rw [Int.max_eq_left (by omega), Int.max_eq_left (Int.mul_le_mul_of_nonneg_right (by omega) (Int.le_of_lt hw))]
theorem fl_le (m : Int) : fl m * 65536 ≤ m := by unfold fl; omega
theorem le_ce (m : Int) : m ≤ ce m * 65536 := by unfold ce; omega
theorem down {x m w r : Int} (hw : 0 < w) (h1 : x * 65536 ≤ m) (h2 : m * w ≤ 65536 * r) : x * w ≤ r := by
 have h := Int.mul_le_mul_of_nonneg_right h1 (Int.le_of_lt hw)
 have e : x * 65536 * w = 65536 * (x * w) := by rw [Int.mul_comm x, Int.mul_assoc]
 omega
theorem up {x m w r : Int} (hw : 0 < w) (h1 : m ≤ x * 65536) (h2 : 65536 * r ≤ m * w) : r ≤ x * w := by
 have h := Int.mul_le_mul_of_nonneg_right h1 (Int.le_of_lt hw)
 have e : x * 65536 * w = 65536 * (x * w) := by rw [Int.mul_comm x, Int.mul_assoc]
 omega
theorem sc2 (a b u v : Int) : a * u * (b * v) = a * b * (u * v) := by
 rw [Int.mul_assoc, Int.mul_assoc, Int.mul_left_comm u b v]
theorem zpG {s t : Nat} {P Q : Int} {a b : Iv} (va : a.valid) (vb : b.valid) (ha : has s P a) (hb : has t (65536 * Q) b) : has (s + t) (P * Q) (a.mul b) := by
 unfold Iv.mul
 rcases ha with ha | ha
 ·rw [ha, Bool.true_or, if_pos rfl]; exact zeE _ _
 ·rcases hb with hb | hb
  ·rw [hb, Bool.or_true, if_pos rfl]; exact zeE _ _
  ·split
   ·exact zeE _ _
   ·have k := bil ha.1 ha.2 hb.1 hb.2
    rw [sc2 a.lo b.lo (2 ^ s) (2 ^ t), sc2 a.lo b.hi (2 ^ s) (2 ^ t), sc2 a.hi b.lo (2 ^ s) (2 ^ t), sc2 a.hi b.hi (2 ^ s) (2 ^ t), ← Int.pow_add] at k
    have w := zi1 (s + t)
    have e : P * (65536 * Q) = 65536 * (P * Q) := Int.mul_left_comm _ _ _
    rw [e] at k
    have k1 : zdK (a.lo * b.lo) (a.lo * b.hi) (a.hi * b.lo) (a.hi * b.hi) * 2 ^ (s + t) ≤ 65536 * (P * Q) := by
     unfold zdK at k ⊢
     rw [zl7 w, zl7 w, zl7 w]
     exact k.1
    have k2 : 65536 * (P * Q) ≤ zdL (a.lo * b.lo) (a.lo * b.hi) (a.hi * b.lo) (a.hi * b.hi) * 2 ^ (s + t) := by
     unfold zdL at k ⊢
     rw [zl8 w, zl8 w, zl8 w]
     exact k.2
    exact zge (down w (fl_le _) k1) (up w (le_ce _) k2)
theorem abs_sq {x y : Int} (h1 : -y ≤ x) (h2 : x ≤ y) : x * x ≤ y * y := by
 by_cases h : 0 ≤ x
 ·exact zd4 h h2
 ·have := zd4 (x := -x) (y := y) (by omega) (by omega)
  rwa [Int.neg_mul_neg] at this
theorem has_sq {t : Nat} {Q : Int} {a : Iv} (va : a.valid) (ha : has t (65536 * Q) a) : has (t + t) (65536 * (Q * Q)) a.sq := by
 unfold Iv.sq
 rcases ha with ha | ha
 ·rw [ha, if_pos rfl]; exact .inl ha
 ·split
  ·rename_i h; exact .inl h
  ·have w := zi1 t
   have w2 := zi1 (t + t)
   obtain ⟨n1, n2, n3, n4⟩ := zln va
   have l1 : a.lo ≤ a.far ∧ a.hi ≤ a.far ∧ -a.lo ≤ a.far ∧ -a.hi ≤ a.far := by have := va.1; unfold Iv.far; omega
   have f1 : 65536 * Q ≤ a.far * 2 ^ t := Int.le_trans ha.2 (Int.mul_le_mul_of_nonneg_right l1.2.1 (Int.le_of_lt w))
   have f2 : -(a.far * 2 ^ t) ≤ 65536 * Q := by
    have := Int.mul_le_mul_of_nonneg_right (show -a.far ≤ a.lo by omega) (Int.le_of_lt w)
    rw [Int.neg_mul] at this
    omega
   have f3 := abs_sq f2 f1
   have e0 : 65536 * Q * (65536 * Q) = 65536 * (65536 * (Q * Q)) := by rw [Int.mul_assoc, Int.mul_left_comm Q 65536 Q]
   have e1 : a.far * 2 ^ t * (a.far * 2 ^ t) = a.far * a.far * 2 ^ (t + t) := by rw [sc2, ← Int.pow_add]
   have e2 : a.near * 2 ^ t * (a.near * 2 ^ t) = a.near * a.near * 2 ^ (t + t) := by rw [sc2, ← Int.pow_add]
   have g : a.near * 2 ^ t * (a.near * 2 ^ t) ≤ 65536 * Q * (65536 * Q) := by
    have hn : a.near = 0 ∨ a.near = a.lo ∨ a.near = -a.hi := by unfold Iv.near; omega
    rcases hn with h | h | h
    ·rw [h, Int.zero_mul, Int.zero_mul]
     by_cases hq : 0 ≤ 65536 * Q
     ·exact Int.mul_nonneg hq hq
     ·exact Int.mul_nonneg_of_nonpos_of_nonpos (by omega) (by omega)
    ·rw [h]
     exact zd4 (Int.mul_nonneg (by omega) (Int.le_of_lt w)) ha.1
    ·have h5 : 0 ≤ a.near * 2 ^ t := Int.mul_nonneg n1 (Int.le_of_lt w)
     have h6 : a.near * 2 ^ t = -(a.hi * 2 ^ t) := by rw [h, Int.neg_mul]
     have := zd4 (x := a.near * 2 ^ t) (y := -(65536 * Q)) h5 (by omega)
     rwa [Int.neg_mul_neg] at this
   rw [e0, e1] at f3
   rw [e0, e2] at g
   exact zge (down w2 (fl_le _) g) (up w2 (le_ce _) f3)
theorem zuC {z : Int} {a : Iv} (va : a.valid) (ha : has 1 (65536 * z) a) : ∀ n : Nat, 1 ≤ n → has n (65536 * z ^ n) (zaT a n) := by
 intro n
 induction n using Nat.strongRecOn with
 | _ n ih =>
  intro h
  by_cases h1 : n ≤ 1
  ·have : n = 1 := by omega
   subst this
   rw [zeZ a (Nat.le_refl 1), Int.pow_succ, Int.pow_zero, Int.one_mul]; exact ha
  ·by_cases h2 : n % 2 = 0
   ·have := has_sq (zcd va _) (ih (n / 2) (by omega) (by omega))
    rw [ziR a (by omega) h2]
    rw [← Int.pow_add, show n / 2 + n / 2 = n by omega] at this
    exact this
   ·have := zpG (zcd va _) va (ih (n - 1) (by omega) (by omega)) ha
    rw [zlt a (by omega) h2]
    rw [Int.mul_assoc, ← Int.pow_succ, show (n - 1).succ = n by omega, show n - 1 + 1 = n by omega] at this
    exact this
theorem zgf {s : Nat} {P z : Int} {b : List Iv} (hb : za1 b) {v : Iv} (vv : v.valid) (hv : has s P v) (k u : Nat) (hk : has 1 (65536 * z) (bx b k)) : has (s + u) (P * z ^ u) (evS b k u v) := by
 unfold evS
 split
 ·exact zpG vv (zcd (zdN hb k) u) hv (zuC (zdN hb k) hk u (by omega))
 ·have : u = 0 := by omega
  subst this
  rw [Int.pow_zero, Int.mul_one]; exact hv
def boxH (b : List Iv) (z : Pt) : Prop := has 1 (65536 * z.a) (bx b 0) ∧ has 1 (65536 * z.b) (bx b 1) ∧ has 1 (65536 * z.c) (bx b 2) ∧ has 1 (65536 * z.d) (bx b 3) ∧ has 1 (65536 * z.e) (bx b 4) ∧ has 1 (65536 * z.f) (bx b 5)
theorem zuD {b : List Iv} (hb : za1 b) {z : Pt} (h : boxH b z) (t : Tm) : has t.e.deg (znh t z) (evT b t) := by
 obtain ⟨h1, h2, h3, h4, h5, h6⟩ := h
 have v0 := zcT t.c
 have v1 := zbc (b := b) (k := 0) (u := t.e.a) v0
 have v2 := zbc (b := b) (k := 1) (u := t.e.b) v1
 have v3 := zbc (b := b) (k := 2) (u := t.e.c) v2
 have v4 := zbc (b := b) (k := 3) (u := t.e.d) v3
 have v5 := zbc (b := b) (k := 4) (u := t.e.e) v4
 have s0 : has 0 t.c (Iv.new t.c t.c) := zge (by rw [Int.pow_zero, Int.mul_one]; exact Int.le_refl _) (by rw [Int.pow_zero, Int.mul_one]; exact Int.le_refl _)
 have r := zgf hb v5 (zgf hb v4 (zgf hb v3 (zgf hb v2 (zgf hb v1 (zgf hb v0 s0 0 t.e.a h1) 1 t.e.b h2) 2 t.e.c h3) 3 t.e.d h4) 4 t.e.e h5) 5 t.e.f h6
 rw [Nat.zero_add] at r
 exact r
theorem has_up {s : Nat} {P : Int} {a : Iv} (h : has s P a) (k : Nat) : has (s + k) (P * 2 ^ k) a := by
 rcases h with h | h
 ·exact .inl h
 ·refine .inr ⟨?_, ?_⟩
  ·rw [Int.pow_add, ← Int.mul_assoc]; exact Int.mul_le_mul_of_nonneg_right h.1 (Int.le_of_lt (zi1 k))
  ·rw [Int.pow_add, ← Int.mul_assoc]; exact Int.mul_le_mul_of_nonneg_right h.2 (Int.le_of_lt (zi1 k))
theorem zuE {b : List Iv} (hb : za1 b) {z : Pt} (h : boxH b z) {t : Tm} (hd : t.e.deg ≤ 6) : has 12 (valT z t) (evT b t) := by
 have := has_up (zuD hb h t) (12 - t.e.deg)
 rw [show t.e.deg + (12 - t.e.deg) = 12 by omega] at this
 exact this
theorem zsp (t : Tm) (p : List Tm) (z : Pt) : zl3 (t :: p) z = valT z t + zl3 p z := rfl
theorem zmR {b : List Iv} (hb : za1 b) {z : Pt} (h : boxH b z) : ∀ (p : List Tm) (o : Iv) (N : Int), deg6 p → has 12 N o → has 12 (N + zl3 p z) (ze0 b p o)
 | [], o, N, _, ho => by
  have e : zl3 [] z = 0 := rfl
  rw [e, Int.add_zero]; exact ho
 | t :: p, o, N, hd, ho => by
  rw [zsp, ← Int.add_assoc]
  exact zmR hb h p _ _ (fun u hu => hd u (by simp [hu])) (zuB ho (zuE hb h (hd t (by simp))))
theorem zsq {b : List Iv} (hb : za1 b) {z : Pt} (h : boxH b z) {p : List Tm} (hd : deg6 p) : has 12 (zl3 p z) (ze1 b p) := by
 have := zmR hb h p (Iv.new 0 0) 0 hd (zge (by rw [Int.zero_mul]; exact Int.le_refl _) (by rw [Int.zero_mul]; exact Int.le_refl _))
 rw [Int.zero_add] at this
 exact this
end Go.Ab
