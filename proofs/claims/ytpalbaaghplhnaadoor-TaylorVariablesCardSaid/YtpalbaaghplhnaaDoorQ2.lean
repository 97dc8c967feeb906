/- The sanity check answers true: its polynomials are given; conditions: none. -/
import Derived.KernelRfl
import Derived.Test.YtpalbaaghplhnaaDoorQ1
import Derived.Test.YtpalbaaghplhnaaDoorEC
import Derived.Test.YtpalbaaghplhnaaDoorP0
set_option linter.unusedVariables false
set_option linter.unusedSimpArgs false
namespace Go.Ab
def T (c : Int) (x y : Nat) : Tm := ⟨c, ⟨x, y, 0, 0, 0, 0⟩⟩
theorem zmP {p : List Tm} (h : (p.all fun t => decide (zbX t)) = true) : zce p := fun t ht => of_decide_eq_true (List.all_eq_true.1 h t ht)
theorem zfN {p : List Tm} (h : (p.all fun t => decide t.e.ok) = true) : oks p := fun t ht => of_decide_eq_true (List.all_eq_true.1 h t ht)
theorem zge {p : List Tm} (h : (p.all fun t => decide (zs t.c)) = true) : zbc p := fun t ht => of_decide_eq_true (List.all_eq_true.1 h t ht)
theorem qMul {a b q : List Tm} {most : Int} {r : Iv} (ha : (a.all fun t => decide (zbX t)) = true) (hb : (b.all fun t => decide (zbX t)) = true) (la : a.length ≤ 100) (lb : b.length ≤ 100) (h : zfM a b most = (q, r)) :
  (CW GU LU).p (.func 38) [.slice .any (a.map Tm.cs), .slice .any (b.map Tm.cs), .int .i64 most] = some (.tuple [.slice .any (q.map Tm.cs), .agg [.int .i64 r.lo, .int .i64 r.hi]]) := by
 rw [p38 a b (zmP ha) la (zmP hb) lb most, h]; rfl
theorem zp4 {a q : List Tm} {c : Int} {r : Iv} (ha : (a.all fun t => decide t.e.ok) = true) (hn : (a.all fun t => decide (zs t.c)) = true) (la : a.length ≤ 100) (hc : zs c) (h : zbI a c = (q, r)) :
  (CW GU LU).p (.func 30) [.slice .any (a.map Tm.cs), .int .i64 c] = some (.tuple [.slice .any (q.map Tm.cs), .agg [.int .i64 r.lo, .int .i64 r.hi]]) := by
 rw [p30 a c (zfN ha) (zge hn) (by omega) hc, h]; rfl
theorem qAdd {a b q : List Tm} {r : Iv} (ha : (a.all fun t => decide t.e.ok) = true) (hb : (b.all fun t => decide t.e.ok) = true) (hn : (a.all fun t => decide (zs t.c)) = true) (hm : (b.all fun t => decide (zs t.c)) = true) (la : a.length ≤ 100) (lb : b.length ≤ 100) (h : zbU a b = (q, r)) :
  (CW GU LU).p (.func 32) [.slice .any (a.map Tm.cs), .slice .any (b.map Tm.cs)] = some (.tuple [.slice .any (q.map Tm.cs), .agg [.int .i64 r.lo, .int .i64 r.hi]]) := by
 rw [p32 a b (zfN ha) (zfN hb) (zge hn) (zge hm) (by omega) (by omega), h]; rfl
theorem qTrunc {a q : List Tm} {most : Int} {r : Iv} (ha : (a.all fun t => decide t.e.ok) = true) (la : a.length ≤ 100) (h : zeI a most = (q, r)) :
  (CW GU LU).p (.func 49) [.slice .any (a.map Tm.cs), .int .i64 most] = some (.tuple [.slice .any (q.map Tm.cs), .agg [.int .i64 r.lo, .int .i64 r.hi]]) := by
 rw [p49 a most (zfN ha) (by unfold few; omega), h]; rfl
def zj8 : List Tm := [T 65536 0 0, T 65536 1 0]
def zhK : List Tm := [T 65536 0 0, T (-65536) 1 0]
theorem s1 : (CW GU LU).p (.func 38) [.slice .any [[.int .i64 65536, .int .u8 0, .int .u8 0, .int .u8 0, .int .u8 0, .int .u8 0, .int .u8 0], [.int .i64 65536, .int .u8 1, .int .u8 0, .int .u8 0, .int .u8 0, .int .u8 0, .int .u8 0]], .slice .any [[.int .i64 65536, .int .u8 0, .int .u8 0, .int .u8 0, .int .u8 0, .int .u8 0, .int .u8 0], [.int .i64 (-65536), .int .u8 1, .int .u8 0, .int .u8 0, .int .u8 0, .int .u8 0, .int .u8 0]], .int .i64 6] =
  some (.tuple [.slice .any [[.int .i64 65536, .int .u8 0, .int .u8 0, .int .u8 0, .int .u8 0, .int .u8 0, .int .u8 0], [.int .i64 (-65536), .int .u8 2, .int .u8 0, .int .u8 0, .int .u8 0, .int .u8 0, .int .u8 0]], .agg [.int .i64 0, .int .i64 0]]) :=
 qMul (a := zj8) (b := zhK) (q := [T 65536 0 0, T (-65536) 2 0]) (r := ⟨0, 0⟩) (by kernel_rfl) (by kernel_rfl) (by decide) (by decide) (by kernel_rfl)
theorem s2 : (CW GU LU).p (.func 38) [.slice .any [[.int .i64 65536, .int .u8 0, .int .u8 0, .int .u8 0, .int .u8 0, .int .u8 0, .int .u8 0], [.int .i64 65536, .int .u8 1, .int .u8 0, .int .u8 0, .int .u8 0, .int .u8 0, .int .u8 0]], .slice .any [[.int .i64 65536, .int .u8 0, .int .u8 0, .int .u8 0, .int .u8 0, .int .u8 0, .int .u8 0], [.int .i64 (-65536), .int .u8 1, .int .u8 0, .int .u8 0, .int .u8 0, .int .u8 0, .int .u8 0]], .int .i64 1] =
  some (.tuple [.slice .any [[.int .i64 65536, .int .u8 0, .int .u8 0, .int .u8 0, .int .u8 0, .int .u8 0, .int .u8 0]], .agg [.int .i64 (-65536), .int .i64 0]]) :=
 qMul (a := zj8) (b := zhK) (q := [T 65536 0 0]) (r := ⟨-65536, 0⟩) (by kernel_rfl) (by kernel_rfl) (by decide) (by decide) (by kernel_rfl)
theorem s3 : (CW GU LU).p (.func 30) [.slice .any [[.int .i64 3, .int .u8 1, .int .u8 0, .int .u8 0, .int .u8 0, .int .u8 0, .int .u8 0]], .int .i64 32768] = some (.tuple [.slice .any [[.int .i64 1, .int .u8 1, .int .u8 0, .int .u8 0, .int .u8 0, .int .u8 0, .int .u8 0]], .agg [.int .i64 (-1), .int .i64 1]]) :=
 zp4 (a := [T 3 1 0]) (q := [T 1 1 0]) (r := ⟨-1, 1⟩) (by kernel_rfl) (by kernel_rfl) (by decide) ⟨by decide, by decide⟩ (by kernel_rfl)
theorem s4 : (CW GU LU).p (.func 30) [.slice .any [[.int .i64 1, .int .u8 2, .int .u8 0, .int .u8 0, .int .u8 0, .int .u8 0, .int .u8 0]], .int .i64 1] = some (.tuple [.slice .any [], .agg [.int .i64 0, .int .i64 1]]) :=
 zp4 (a := [T 1 2 0]) (q := []) (r := ⟨0, 1⟩) (by kernel_rfl) (by kernel_rfl) (by decide) ⟨by decide, by decide⟩ (by kernel_rfl)
theorem s5 : (CW GU LU).p (.func 32) [.slice .any [[.int .i64 65536, .int .u8 0, .int .u8 0, .int .u8 0, .int .u8 0, .int .u8 0, .int .u8 0], [.int .i64 65536, .int .u8 1, .int .u8 0, .int .u8 0, .int .u8 0, .int .u8 0, .int .u8 0]], .slice .any [[.int .i64 65536, .int .u8 0, .int .u8 0, .int .u8 0, .int .u8 0, .int .u8 0, .int .u8 0], [.int .i64 (-65536), .int .u8 1, .int .u8 0, .int .u8 0, .int .u8 0, .int .u8 0, .int .u8 0]]] =
  some (.tuple [.slice .any [[.int .i64 131072, .int .u8 0, .int .u8 0, .int .u8 0, .int .u8 0, .int .u8 0, .int .u8 0]], .agg [.int .i64 0, .int .i64 0]]) := by
 have h : zbU zj8 zhK = ([T 131072 0 0], ⟨0, 0⟩) := by
  unfold zbU zj8 zhK
  rw [za0, if_neg (by decide), if_neg (by decide), za0, if_neg (by decide), if_neg (by decide), zaD]
  kernel_rfl
 exact qAdd (a := zj8) (b := zhK) (q := [T 131072 0 0]) (r := ⟨0, 0⟩) (by kernel_rfl) (by kernel_rfl) (by kernel_rfl) (by kernel_rfl) (by decide) (by decide) h
theorem s6 : (CW GU LU).p (.func 32) [.slice .any [[.int .i64 2147483647, .int .u8 0, .int .u8 1, .int .u8 0, .int .u8 0, .int .u8 0, .int .u8 0]], .slice .any [[.int .i64 1, .int .u8 0, .int .u8 1, .int .u8 0, .int .u8 0, .int .u8 0, .int .u8 0]]] =
  some (.tuple [.slice .any [], .agg [.int .i64 (-2147483648), .int .i64 2147483648]]) := by
 have h : zbU [T 2147483647 0 1] [T 1 0 1] = ([], Iv.whole) := by
  unfold zbU
  rw [za0, if_neg (by decide), if_neg (by decide), zaD]
  kernel_rfl
 exact qAdd (a := [T 2147483647 0 1]) (b := [T 1 0 1]) (q := []) (r := Iv.whole) (by kernel_rfl) (by kernel_rfl) (by kernel_rfl) (by kernel_rfl) (by decide) (by decide) h
theorem s7 : (CW GU LU).p (.func 49) [.slice .any [[.int .i64 5, .int .u8 0, .int .u8 0, .int .u8 0, .int .u8 0, .int .u8 0, .int .u8 0], [.int .i64 7, .int .u8 0, .int .u8 2, .int .u8 0, .int .u8 0, .int .u8 0, .int .u8 0], [.int .i64 (-9), .int .u8 2, .int .u8 0, .int .u8 0, .int .u8 0, .int .u8 0, .int .u8 0], [.int .i64 4, .int .u8 2, .int .u8 1, .int .u8 0, .int .u8 0, .int .u8 0, .int .u8 0]], .int .i64 1] =
  some (.tuple [.slice .any [[.int .i64 5, .int .u8 0, .int .u8 0, .int .u8 0, .int .u8 0, .int .u8 0, .int .u8 0]], .agg [.int .i64 (-13), .int .i64 11]]) :=
 qTrunc (a := [T 5 0 0, T 7 0 2, T (-9) 2 0, T 4 2 1]) (q := [T 5 0 0]) (r := ⟨-13, 11⟩) (by kernel_rfl) (by decide) (by kernel_rfl)
theorem ipow2 (a : Iv) : zaO a 2 = a.sq := by rw [zmC a (by decide) (by decide), show 2 / 2 = 1 from rfl, zfK a (Nat.le_refl 1)]
theorem s8 : (CW GU LU).p (.func 47) [.slice .any [[.int .i64 65536, .int .u8 0, .int .u8 1, .int .u8 0, .int .u8 0, .int .u8 0, .int .u8 0], [.int .i64 65536, .int .u8 2, .int .u8 0, .int .u8 0, .int .u8 0, .int .u8 0, .int .u8 0]], .slice .any [[.int .i64 (-65536), .int .i64 131072], [.int .i64 3, .int .i64 4]]] = some (.agg [.int .i64 3, .int .i64 262148]) := by
 have h := p47 [T 65536 0 1, T 65536 2 0] (zfN (by kernel_rfl)) (by unfold few; decide) [⟨-65536, 131072⟩, ⟨3, 4⟩] (fun x hx => by
  simp only [List.mem_cons, List.not_mem_nil, or_false] at hx
  rcases hx with rfl | rfl <;> exact ⟨by decide, by decide, by decide, .inr ⟨⟨by decide, by decide⟩, by decide, by decide⟩⟩) (by decide)
 have e : zf2 [⟨-65536, 131072⟩, ⟨3, 4⟩] [T 65536 0 1, T 65536 2 0] = ⟨3, 262148⟩ := by
  have h1 : evT [⟨-65536, 131072⟩, ⟨3, 4⟩] (T 65536 0 1) = (Iv.new 65536 65536).mul ⟨3, 4⟩ := by
   show evS _ 5 0 (evS _ 4 0 (evS _ 3 0 (evS _ 2 0 (evS _ 1 1 (evS _ 0 0 _))))) = _
   unfold evS
   rw [zfK _ (Nat.le_refl 1)]
   rfl
  have h2 : evT [⟨-65536, 131072⟩, ⟨3, 4⟩] (T 65536 2 0) = (Iv.new 65536 65536).mul (Iv.sq ⟨-65536, 131072⟩) := by
   show evS _ 5 0 (evS _ 4 0 (evS _ 3 0 (evS _ 2 0 (evS _ 1 0 (evS _ 0 2 _))))) = _
   unfold evS
   rw [ipow2]
   rfl
  unfold zf2 zff
  rw [h1]
  unfold zff
  rw [h2]
  change _ = _
  kernel_rfl
 rw [e] at h
 exact h
end Go.Ab
namespace Go.Ab
structure Pol (p : List Tm) : Prop where
 ok : oks p
 nm : zbc p
 st : za6 p
 fi : zce p
 ln : p.length ≤ 100
theorem pol_of {p : List Tm} (h : oks p) (hv : zei p) : Pol p := ⟨h, fun t ht => (hv.1 t ht).1, hv.2.1, hv.1, hv.2.2⟩
theorem znS (i : Int) : (E6.unit i).ok := by
 simp only [E6.unit, E6.ok]
 refine ⟨?_, ?_, ?_, ?_, ?_, ?_⟩ <;> split <;> omega
end Go.Ab
namespace Go.Ab
theorem new_ok {l h : Int} (hw : (Iv.new l h).isW = false) : zs l ∧ zs h ∧ Iv.new l h = ⟨l, h⟩ := by
 unfold Iv.new at hw ⊢
 split at hw
 ·rename_i hn; exact ⟨hn.1, hn.2, by rw [if_pos hn]⟩
 ·cases hw
theorem zkD {l h : Int} (hl : zs l) : Iv.isW ⟨l, h⟩ = false := by
 have : ¬ l = -2147483648 := by have := hl.1; omega
 simp [Iv.isW, this]
theorem zp5 {p : List Tm} {most lo hi : Int} (h : (zaJ p most lo hi).2.isW = false) : zbc p ∧ (p.filter (kp most)).length ≤ 100 ∧ zs (lo + los (p.filter (dp most))) ∧ zs (hi + his (p.filter (dp most))) ∧
  zaJ p most lo hi = (p.filter (kp most), ⟨lo + los (p.filter (dp most)), hi + his (p.filter (dp most))⟩) := by
 unfold zaJ at h ⊢
 split at h
 ·rename_i hc
  obtain ⟨h1, h2, h3⟩ := hc
  obtain ⟨n1, n2, e⟩ := new_ok h3
  refine ⟨zeV.1 h1, h2, n1, n2, ?_⟩
  rw [if_pos ⟨h1, h2, h3⟩, e]
 ·cases h
theorem zhL {p : List Tm} {most lo hi : Int} (hn : zbc p) (hl : (p.filter (kp most)).length ≤ 100) (h1 : zs (lo + los (p.filter (dp most)))) (h2 : zs (hi + his (p.filter (dp most)))) :
  zaJ p most lo hi = (p.filter (kp most), ⟨lo + los (p.filter (dp most)), hi + his (p.filter (dp most))⟩) := by
 have e : Iv.new (lo + los (p.filter (dp most))) (hi + his (p.filter (dp most))) = ⟨lo + los (p.filter (dp most)), hi + his (p.filter (dp most))⟩ := by unfold Iv.new; rw [if_pos ⟨h1, h2⟩]
 unfold zaJ
 rw [e, if_pos ⟨zeV.2 hn, hl, zkD h1⟩]
theorem kd {most : Int} {t : Tm} (h : t.c ≠ 0) : dp most t = !kp most t := by
 unfold kp dp
 by_cases hd : ((t.e.deg : Nat) : Int) ≤ min most 6 <;> simp [h, hd]
theorem zr3 {most : Int} {t : Tm} (h : t.c = 0) : dp most t = false ∧ kp most t = false := by simp [kp, dp, h]
theorem zlb (x : Tm) : ∀ (b : List Tm) (s : MS), s.lo ≤ 0 → 0 ≤ s.hi → (b.foldl (zfg x) s).lo ≤ 0 ∧ 0 ≤ (b.foldl (zfg x) s).hi
 | [], s, h1, h2 => ⟨h1, h2⟩
 | y :: b, s, h1, h2 => by
  have l1 := zlD (x.c * y.c) (x.e.add y.e)
  have l2 := zlE (x.c * y.c)
  exact zlb x b _ (by simp only [zfg]; omega) (by simp only [zfg]; omega)
theorem zlc (b : List Tm) : ∀ (a : List Tm) (s : MS), s.lo ≤ 0 → 0 ≤ s.hi → (a.foldl (rRow b) s).lo ≤ 0 ∧ 0 ≤ (a.foldl (rRow b) s).hi
 | [], s, h1, h2 => ⟨h1, h2⟩
 | x :: a, s, h1, h2 => by
  have := zlb x b s h1 h2
  exact zlc b a _ this.1 this.2
theorem zjd {l h : Int} (h1 : zs l) (h2 : zs h) (h3 : l ≤ h) : Iv.valid ⟨l, h⟩ := by
 unfold zs at h1 h2
 exact ⟨h3, by simp only; omega, by simp only; omega, .inr ⟨h1, h2⟩⟩
end Go.Ab
namespace Go.Ab
def degs6 (p : List Tm) : Prop := ∀ t ∈ p, t.e.deg ≤ 6
theorem zhM : ∀ (n : Nat) (a b : List Tm), a.length + b.length ≤ n → ∀ t ∈ zaQ a b, ∃ u, (u ∈ a ∨ u ∈ b) ∧ u.e = t.e := by
 intro n
 induction n with
 | zero =>
  intro a b h t ht
  rw [List.length_eq_zero_iff.1 (show a.length = 0 by omega), List.length_eq_zero_iff.1 (show b.length = 0 by omega), zaD] at ht
  cases ht
 | succ n ih =>
  intro a b h t ht
  cases a with
  | nil => rw [zaD] at ht; exact ⟨t, .inr ht, rfl⟩
  | cons x a =>
   cases b with
   | nil => rw [zcU] at ht; exact ⟨t, .inl ht, rfl⟩
   | cons y b =>
    simp only [List.length_cons] at h
    rw [za0] at ht
    split at ht
    ·rcases List.mem_cons.1 ht with rfl | ht
     ·exact ⟨t, .inl (by simp), rfl⟩
     ·obtain ⟨u, hu, he⟩ := ih a (y :: b) (by simp only [List.length_cons]; omega) t ht
      refine ⟨u, ?_, he⟩
      rcases hu with hu | hu
      ·exact .inl (by simp [hu])
      ·exact .inr hu
    ·split at ht
     ·rcases List.mem_cons.1 ht with rfl | ht
      ·exact ⟨t, .inr (by simp), rfl⟩
      ·obtain ⟨u, hu, he⟩ := ih (x :: a) b (by simp only [List.length_cons]; omega) t ht
       refine ⟨u, ?_, he⟩
       rcases hu with hu | hu
       ·exact .inl hu
       ·exact .inr (by simp [hu])
     ·rcases List.mem_cons.1 ht with rfl | ht
      ·exact ⟨x, .inl (by simp), rfl⟩
      ·obtain ⟨u, hu, he⟩ := ih a b (by omega) t ht
       refine ⟨u, ?_, he⟩
       rcases hu with hu | hu
       ·exact .inl (by simp [hu])
       ·exact .inr (by simp [hu])
theorem zmQ : ∀ (n : Nat) (a b : List Tm), a.length + b.length ≤ n → za6 a → za6 b → za6 (zaQ a b) := by
 intro n
 induction n with
 | zero =>
  intro a b h _ hb
  rw [List.length_eq_zero_iff.1 (show a.length = 0 by omega), zaD]; exact hb
 | succ n ih =>
  intro a b h ha hb
  cases a with
  | nil => rw [zaD]; exact hb
  | cons x a =>
   cases b with
   | nil => rw [zcU]; exact ha
   | cons y b =>
    obtain ⟨a1, a2⟩ := List.pairwise_cons.1 ha
    obtain ⟨b1, b2⟩ := List.pairwise_cons.1 hb
    simp only [List.length_cons] at h
    rw [za0]
    split
    ·rename_i hxy
     refine List.pairwise_cons.2 ⟨fun t ht => ?_, ih a (y :: b) (by simp only [List.length_cons]; omega) a2 hb⟩
     obtain ⟨u, hu, he⟩ := zhM _ a (y :: b) (Nat.le_refl _) t ht
     unfold zj2
     rw [← he]
     rcases hu with hu | hu
     ·exact a1 u hu
     ·rcases List.mem_cons.1 hu with rfl | hu
      ·exact hxy
      ·exact Nat.lt_trans hxy (b1 u hu)
    ·split
     ·rename_i hyx
      refine List.pairwise_cons.2 ⟨fun t ht => ?_, ih (x :: a) b (by simp only [List.length_cons]; omega) ha b2⟩
      obtain ⟨u, hu, he⟩ := zhM _ (x :: a) b (Nat.le_refl _) t ht
      unfold zj2
      rw [← he]
      rcases hu with hu | hu
      ·rcases List.mem_cons.1 hu with rfl | hu
       ·exact hyx
       ·exact Nat.lt_trans hyx (a1 u hu)
      ·exact b1 u hu
     ·rename_i h1 h2
      refine List.pairwise_cons.2 ⟨fun t ht => ?_, ih a b (by omega) a2 b2⟩
      obtain ⟨u, hu, he⟩ := zhM _ a b (Nat.le_refl _) t ht
      have hk : x.e.key = y.e.key := by omega
      unfold zj2
      rw [← he]
      rcases hu with hu | hu
      ·exact a1 u hu
      ·simp only; rw [hk]; exact b1 u hu
def ngT (t : Tm) : Tm := ⟨-t.c, t.e⟩
end Go.Ab
namespace Go.Ab
def Iv.sbs (a b : Iv) : Prop := b.lo ≤ a.lo ∧ a.hi ≤ b.hi
def unit2 : Iv := ⟨0, 65536⟩
end Go.Ab
namespace Go.Ab
def dst (c : Int) : Nat → Iv
 | 0 => ⟨c, c⟩
 | 1 => ⟨min c 0, max c 0⟩
 | _ => ⟨min c (-c), max c (-c)⟩
def dnx (s u : Nat) : Nat := if u = 0 then s else if u % 2 = 1 then 2 else max s 1
theorem zp6 (t : Tm) (hc : zs t.c) : zs (rng t).1 ∧ zs (rng t).2 ∧ (rng t).1 ≤ (rng t).2 := by
 have e := zoz t (b := 2147483647) (by unfold zs at hc; omega) (by unfold zs at hc; omega)
 unfold zs; omega
theorem zkE : ∀ {p : List Tm}, zbc p → los p ≤ his p
 | [], _ => Int.le_refl _
 | t :: p, h => by
  have ih := zkE (p := p) fun u hu => h u (by simp [hu])
  have := (zp6 t (h t (by simp))).2.2
  have e1 : los (t :: p) = (rng t).1 + los p := by simp [los, zbb]
  have e2 : his (t :: p) = (rng t).2 + his p := by simp [his, zbb]
  omega
end Go.Ab
namespace Go.Ab
def has (s : Nat) (P : Int) (a : Iv) : Prop := a.isW = true ∨ (a.lo * 2 ^ s ≤ P ∧ P ≤ a.hi * 2 ^ s)
def boxH (b : List Iv) (z : Pt) : Prop := has 1 (65536 * z.a) (bx b 0) ∧ has 1 (65536 * z.b) (bx b 1) ∧ has 1 (65536 * z.c) (bx b 2) ∧ has 1 (65536 * z.d) (bx b 3) ∧ has 1 (65536 * z.e) (bx b 4) ∧ has 1 (65536 * z.f) (bx b 5)
end Go.Ab
