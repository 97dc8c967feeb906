/- The statement that constants, variables and values on boxes agree with the reference's answers true; conditions: lengths of slices. -/
import Derived.Test.YtpalbaaghplhnaaGreatDoorTM1Z
import Derived.Test.YtpalbaaghplhnaaGreatDoorEM2Z
set_option linter.unusedVariables false
set_option linter.unusedSimpArgs false
namespace Go.Ab
def mcS (c : Int) (l : List Iv) (k : Iv) (a : TM) (b : List Iv) (n : Int) : St := zme c (l.map Iv.c) true k.lo k.hi (a.p.map Tm.cs) a.r.lo a.r.hi (b.map Iv.c).length n (b.map Iv.c)
theorem ztY (c : Int) (l : List Iv) (k : Iv) (a : TM) (b : List Iv) (n : Nat) (hn : n < 6) (hb : b.length = n) (vb : za1 b) : ∃ v : Iv, v.valid ∧
  zp GZ LZ (CW GZ LZ) 4 none 6 (mcS c l k a b ((n : Nat) : Int)) = some (.normal, mcS c l k a (b ++ [v]) ((n + 1 : Nat) : Int)) := by
 have ws := zaV n (by omega)
 have e1 : decide (((n : Nat) : Int) < 6) = true := by simp; omega
 have hlen : decide (((n : Nat) : Int) < (((l.map Iv.c).length : Nat) : Int)) = decide (n < l.length) := by rw [decide_eq_decide, List.length_map]; omega
 have eL : (b.map Iv.c).length = n := by rw [List.length_map, hb]
 have hroom : decide (((b.map Iv.c).length + 1) * 16 ≤ zag) = true := by rw [eL]; exact decide_eq_true (by unfold zag; omega)
 have eN : ∀ v : Iv, (b ++ [v]).map Iv.c = List.append (b.map Iv.c) [v.c] := fun v => by rw [List.map_append]; rfl
 have eM : ∀ v : Iv, ((b ++ [v]).map Iv.c).length = (b.map Iv.c).length + 1 := fun v => by rw [eN]; exact List.length_append
 by_cases hks : n < l.length
 ·obtain ⟨v, vv, hv⟩ := p31 l[n].lo l[n].hi
  refine ⟨v, vv, ?_⟩
  have hg := zdm Iv.c Iv.c_len l n hks
  unfold mcS
  rw [e4_6, e1, hlen, hroom]
  refine (cT rfl _ _).trans ?_
  refine (cT (decide_eq_true hks) _ _).trans ?_
  refine (zaC hg _).trans ?_
  iterate 5 refine (zaC rfl _).trans ?_
  refine (zaL hv _).trans ?_
  refine (cT (decide_eq_true rfl) _ _).trans ?_
  refine (cT rfl _ _).trans ?_
  rw [eM, eN, ws]
  rfl
 ·refine ⟨⟨0, 0⟩, zgH (by decide) (by decide) (by decide), ?_⟩
  unfold mcS
  rw [e4_6, e1, hlen, hroom]
  refine (cT rfl _ _).trans ?_
  refine (cF (decide_eq_false hks) _ _).trans ?_
  refine (cT (decide_eq_true rfl) _ _).trans ?_
  refine (cT rfl _ _).trans ?_
  rw [eM, eN, ws]
  rfl
theorem zpO (c : Int) (l : List Iv) (k : Iv) (a : TM) : ∀ (m n : Nat) (b : List Iv), n + m = 6 → b.length = n → za1 b → ∃ b' : List Iv, b'.length = 6 ∧ za1 b' ∧
  zal (zp GZ LZ (CW GZ LZ) 4 none 6) (mcS c l k a b ((n : Nat) : Int)) = some (.exit 0, mcS c l k a b' 6)
 | 0, n, b, h, hb, vb => by
  obtain rfl : n = 6 := by omega
  refine ⟨b, hb, vb, zbb ?_⟩
  unfold mcS
  rw [e4_6]
  rfl
 | m + 1, n, b, h, hb, vb => by
  obtain ⟨v, vv, hv⟩ := ztY c l k a b n (by omega) hb vb
  obtain ⟨b', h1, h2, h3⟩ := zpO c l k a m (n + 1) (b ++ [v]) (by omega) (by simp [hb]) (fun x hx => by
   rcases List.mem_append.1 hx with hx | hx
   ·exact vb x hx
   ·rw [List.mem_singleton.1 hx]; exact vv)
  exact ⟨b', h1, h2, by rw [zk hv, h3]⟩
set_option maxRecDepth 100000 in
theorem p4 (p : List Tm) (hp : p.length < 9223372036854775808) (lo hi c1 c2 i : Int) (l : List Iv) :
  (CW GZ LZ).p (.func 4) [.agg [.int .i64 c1, .int .i64 c2], .int .u8 i, .agg [.slice .any (p.map Tm.cs), .int .i64 lo, .int .i64 hi], .slice .any (l.map Iv.c)] = some (.bool true) := by
 obtain ⟨k, vk, hk⟩ := p12 c1 c2
 obtain ⟨a, ga, ha⟩ := p30 p hp lo hi
 obtain ⟨b, lb, vb, hb⟩ := zpO i l k a 6 0 [] rfl rfl (fun x hx => by cases hx)
 refine zE (h := [.arr false 2 (b.map Iv.c)]) ?_ rfl
 rw [e4, zaz]
 refine (zad p10 _).trans ?_
 refine (zaL hk _).trans ?_
 refine (eT ha _).trans ?_
 refine (zZ hb _).trans ?_
 rw [Option.bind_some]
 have g : ∀ t, t = mcS i l k a b 6 →
   nth t.t 1 = .int .u8 i ∧ nth t.t 3 = .slice .any (l.map Iv.c) ∧ nth t.t 9 = .bool true ∧ nth t.t 10 = .box [.int .i64 k.lo, .int .i64 k.hi] ∧ nth t.t 11 = .box [.slice .any (a.p.map Tm.cs), .int .i64 a.r.lo, .int .i64 a.r.hi] ∧ nth t.t 12 = .arr 0 (b.map Iv.c).length 2 ∧ nth t.t 13 = .int .i64 6 ∧ t.h = [.arr true 2 (b.map Iv.c)] := by
  intro t ht; subst ht
  exact ⟨rfl, rfl, rfl, rfl, rfl, rfl, rfl, rfl⟩
 obtain ⟨g1, g2, g3, g4, g5, g6, g7, g8⟩ := g _ rfl
 dsimp only
 rw [g1, g2, g3, g4, g5, g6, g7, g8]
 generalize IntKind.wrap .i64 (Int.tmod i 6) = D
 refine (cT rfl _ _).trans ?_
 iterate 17 refine (zaC rfl _).trans ?_
 refine (zaC (zY _ _ _) _).trans ?_
 iterate 2 refine (zaC rfl _).trans ?_
 refine (zaC (zH _ _) _).trans ?_
 refine (zaC (zL _ _ _ _) _).trans ?_
 refine (cT rfl _ _).trans ?_
 refine (eT (p32 k vk) _).trans ?_
 refine (eT (p33 k vk) _).trans ?_
 refine (zad (zfR (zf8 vk)) _).trans ?_
 refine (cT rfl _ _).trans ?_
 refine (eT (p34 _ k vk) _).trans ?_
 refine (eT (p35 _ k vk) _).trans ?_
 refine (zad (zfR (ztT _ vk)) _).trans ?_
 refine (cT rfl _ _).trans ?_
 refine (zaL (p36 a ga b vb (by omega)) _).trans ?_
 refine (zaL (p37 a ga b vb) _).trans ?_
 simp
end Go.Ab
