/- Variables and constants as models: what they hold at corners; conditions: valid intervals. -/
import Derived.Test.YtpalbaaghplhnaaDoorM2
import Derived.Test.YtpalbaaghplhnaaDoorM1
set_option linter.unusedVariables false
set_option linter.unusedSimpArgs false
namespace Go.Ab
theorem zqg (c : Int) : zkA (65536 * c) = false := by
 unfold zkA fl ce
 have h1 : 65536 * c / 65536 = c := by omega
 have h2 : -(-(65536 * c) / 65536) = c := by omega
 rw [h1, h2]
 simp
theorem zqh {k : Int} (hk : 0 ≤ k ∧ k ≤ 5) {c : Int} (hc : zs c) : ∃ q : List Tm, zbI (zcK k) c = (q, ⟨0, 0⟩) ∧ ((c = 0 ∧ q = []) ∨ (c ≠ 0 ∧ q = [⟨c, E6.unit k⟩])) := by
 have hv : zcK k = [⟨65536, E6.unit k⟩] := by unfold zcK; rw [if_neg (by omega)]
 have hs : (zcK k).map (scT c) = [⟨c, E6.unit k⟩] := by
  rw [hv]
  show [scT c ⟨65536, E6.unit k⟩] = _
  unfold scT fl
  simp only
  rw [show 65536 * c / 65536 = c by omega]
 have hl : zc4 c (zcK k) = 0 := by
  rw [hv]
  show rlo (65536 * c) _ + 0 = 0
  unfold rlo
  rw [zqg, if_neg (by simp)]; rfl
 have hh : zdR c (zcK k) = 0 := by
  rw [hv]
  show rhi (65536 * c) + 0 = 0
  unfold rhi
  rw [zqg, if_neg (by simp)]; rfl
 have hd := zg4 hk
 have e2 : dp 6 ⟨c, E6.unit k⟩ = false := by
  unfold dp
  refine decide_eq_false fun h => h.2 ?_
  show ((E6.unit k).deg : Int) ≤ min 6 6
  rw [hd]; decide
 have f2 : [(⟨c, E6.unit k⟩ : Tm)].filter (dp 6) = [] := by rw [List.filter_cons_of_neg (by rw [e2]; decide)]; rfl
 unfold zbI
 rw [hs, hl, hh]
 by_cases h0 : c = 0
 ·have e1 : kp 6 ⟨c, E6.unit k⟩ = false := by
   unfold kp
   exact decide_eq_false fun h => h.1 h0
  have f1 : [(⟨c, E6.unit k⟩ : Tm)].filter (kp 6) = [] := by rw [List.filter_cons_of_neg (by rw [e1]; decide)]; rfl
  refine ⟨[], ?_, .inl ⟨h0, rfl⟩⟩
  rw [zhL (fun t ht => by rw [List.mem_singleton.1 ht]; exact hc) (by rw [f1]; decide) (by rw [f2]; decide) (by rw [f2]; decide), f1, f2]
  rfl
 ·have e1 : kp 6 ⟨c, E6.unit k⟩ = true := by
   unfold kp
   refine decide_eq_true ⟨h0, ?_⟩
   show ((E6.unit k).deg : Int) ≤ min 6 6
   rw [hd]; decide
  have f1 : [(⟨c, E6.unit k⟩ : Tm)].filter (kp 6) = [⟨c, E6.unit k⟩] := by rw [List.filter_cons_of_pos e1]; rfl
  refine ⟨[⟨c, E6.unit k⟩], ?_, .inr ⟨h0, rfl⟩⟩
  rw [zhL (fun t ht => by rw [List.mem_singleton.1 ht]; exact hc) (by rw [f1]; show 1 ≤ 100; decide) (by rw [f2]; decide) (by rw [f2]; decide), f1, f2]
  rfl
theorem zru (k : Int) (hk : 0 ≤ k ∧ k ≤ 5) : E6.zero.key < (E6.unit k).key := by
 have : k = 0 ∨ k = 1 ∨ k = 2 ∨ k = 3 ∨ k = 4 ∨ k = 5 := by omega
 rcases this with rfl | rfl | rfl | rfl | rfl | rfl <;> decide
theorem zkH {φ : E6 → Int} (h : Cor φ) {k : Int} (hk : 0 ≤ k ∧ k ≤ 5) {a : Iv} (va : a.valid) (w : a.isW = false) : (zdB k a).r = ⟨0, 0⟩ ∧ lin φ (zdB k a).p = mid a + (a.hi - mid a) * φ (E6.unit k) := by
 have n := zdX va w
 unfold zs at n
 have m := zg2 va.1
 have hb : ¬ (a.isW = true ∨ a.hi - mid a ≥ 2147483648) := by
  rw [w]
  unfold mid at *
  simp
  omega
 have hc : zs (a.hi - mid a) := by unfold mid at *; unfold zs; omega
 have hm : zs (mid a) := by unfold zs; omega
 obtain ⟨q, e1, e2⟩ := zqh hk hc
 have pc := zf4 hm
 have pq : oks q ∧ zbc q ∧ deg6 q ∧ lin φ q = (a.hi - mid a) * φ (E6.unit k) := by
  rcases e2 with ⟨h0, rfl⟩ | ⟨h0, rfl⟩
  ·rw [h0]
   exact ⟨(fun t ht => by cases ht), (fun t ht => by cases ht), (fun t ht => by cases ht), by rw [zgt, Int.zero_mul]⟩
  ·refine ⟨fun t ht => ?_, fun t ht => ?_, fun t ht => ?_, ?_⟩
   ·rw [List.mem_singleton.1 ht]; exact znS k
   ·rw [List.mem_singleton.1 ht]; exact hc
   ·rw [List.mem_singleton.1 ht]; show (E6.unit k).deg ≤ 6; rw [zg4 hk]; omega
   ·show (a.hi - mid a) * φ (E6.unit k) + 0 = _
    rw [Int.add_zero]
 obtain ⟨q1, q2, q3, q4⟩ := pq
 have hmg : ∀ t ∈ zaQ (zaK (mid a)) q, zs t.c ∧ t.e.deg ≤ 6 := by
  unfold zaK
  split
  ·rw [zaD]; exact fun t ht => ⟨q2 t ht, q3 t ht⟩
  ·rcases e2 with ⟨h0, rfl⟩ | ⟨h0, rfl⟩
   ·rw [zcU]
    intro t ht
    rw [List.mem_singleton.1 ht]
    exact ⟨hm, by show E6.zero.deg ≤ 6; decide⟩
   ·rw [za0, if_pos (zru k hk), zaD]
    intro t ht
    simp only [List.mem_cons, List.not_mem_nil, or_false] at ht
    rcases ht with rfl | rfl
    ·exact ⟨hm, by show E6.zero.deg ≤ 6; decide⟩
    ·exact ⟨hc, by show (E6.unit k).deg ≤ 6; rw [zg4 hk]; omega⟩
 have hln := zk2 _ (zaK (mid a)) q (Nat.le_refl _)
 have lc := pc.ln
 have lq : q.length ≤ 1 := by rcases e2 with ⟨_, rfl⟩ | ⟨_, rfl⟩ <;> simp
 have lc1 := zoG (mid a)
 have hdp : (zaQ (zaK (mid a)) q).filter (dp 6) = [] := List.filter_eq_nil_iff.2 fun t ht => by
  have := (hmg t ht).2
  unfold dp
  simp only [decide_eq_true_eq]
  rintro ⟨_, h2⟩
  omega
 have hadd : zbU (zaK (mid a)) q = ((zaQ (zaK (mid a)) q).filter (kp 6), ⟨0, 0⟩) := by
  unfold zbU
  rw [zhL (fun t ht => (hmg t ht).1) (Nat.le_trans (List.length_filter_le _ _) (by omega)) (by rw [hdp]; decide) (by rw [hdp]; decide), hdp]
  rfl
 have hlin : lin φ ((zaQ (zaK (mid a)) q).filter (kp 6)) = mid a + (a.hi - mid a) * φ (E6.unit k) := by
  have h1 := zld φ 6 (zaQ (zaK (mid a)) q)
  rw [hdp, zgt, Int.add_zero] at h1
  rw [← h1, zp7 φ _ _ _ (Nat.le_refl _) pc.ok q1, zle h, q4]
 have e : zdB k a = ⟨(zaQ (zaK (mid a)) q).filter (kp 6), ⟨0, 0⟩⟩ := by
  unfold zdB
  rw [if_neg hb, e1]
  simp only
  rw [hadd]
  simp only
  rw [show (⟨0, 0⟩ : Iv).add ⟨0, 0⟩ = ⟨0, 0⟩ from rfl]
  exact zj9 rfl
 rw [e]
 exact ⟨rfl, hlin⟩
theorem zqi {φ : E6 → Int} (h : Cor φ) {a : Iv} (va : a.valid) (hw : a.isW = false) : (zbA a).r.isW = false ∧ lin φ (zbA a).p + (zbA a).r.lo = a.lo ∧ lin φ (zbA a).p + (zbA a).r.hi = a.hi := by
 have m := zg2 va.1
 have n := zdX va hw
 unfold zs at n
 have e : Iv.new (a.lo - mid a) (a.hi - mid a) = ⟨a.lo - mid a, a.hi - mid a⟩ := by
  unfold Iv.new
  unfold mid at *
  rw [if_pos (by unfold zs; omega)]
 have w : Iv.isW ⟨a.lo - mid a, a.hi - mid a⟩ = false := zkD (by unfold mid at *; unfold zs; omega)
 unfold zbA
 rw [hw, e]
 simp only [Bool.false_eq_true, if_false]
 rw [zj9 w]
 simp only
 rw [zle h]
 exact ⟨w, by omega, by omega⟩
def zbF (k : Nat) (z : Int) : List Int := ([0, 0, 0, 0, 0, 0] : List Int).set k z
theorem zqj (k : Nat) (z : Int) (h : -128 ≤ z ∧ z ≤ 127) : i8s (zbF k z) := fun x hx => by
 unfold zbF at hx
 rcases List.mem_or_eq_of_mem_set hx with hx | rfl
 ·simp only [List.mem_cons, List.not_mem_nil, or_false, or_self] at hx
  rw [hx]; decide
 ·exact h
theorem znV (k : Nat) (z : Int) : (zbF k z).length = 6 := by unfold zbF; rw [List.length_set]; rfl
theorem zrv (k : Nat) (hk : k < 6) : mono (wpt (zbF k 1)) (E6.unit k) = 1 ∧ mono (wpt (zbF k (-1))) (E6.unit k) = -1 ∧ mono (wpt [0, 0, 0, 0, 0, 0]) (E6.unit k) = 0 := by
 have : k = 0 ∨ k = 1 ∨ k = 2 ∨ k = 3 ∨ k = 4 ∨ k = 5 := by omega
 rcases this with rfl | rfl | rfl | rfl | rfl | rfl <;> decide
theorem zrw (k : Nat) (hk : k < 6) : [[V.int .i8 0], [.int .i8 0], [.int .i8 0], [.int .i8 0], [.int .i8 0], [.int .i8 0]].set k (.int .i8 1 :: (zag 1 ([[V.int .i8 0], [.int .i8 0], [.int .i8 0], [.int .i8 0], [.int .i8 0], [.int .i8 0]].getD k []))) = (zbF k 1).map ic := by
 have : k = 0 ∨ k = 1 ∨ k = 2 ∨ k = 3 ∨ k = 4 ∨ k = 5 := by omega
 rcases this with rfl | rfl | rfl | rfl | rfl | rfl <;> rfl
theorem zqk (k : Nat) (hk : k < 6) : ((zbF k 1).map ic).set k (.int .i8 (-1) :: (zag 1 (((zbF k 1).map ic).getD k []))) = (zbF k (-1)).map ic := by
 have : k = 0 ∨ k = 1 ∨ k = 2 ∨ k = 3 ∨ k = 4 ∨ k = 5 := by omega
 rcases this with rfl | rfl | rfl | rfl | rfl | rfl <;> rfl
end Go.Ab
