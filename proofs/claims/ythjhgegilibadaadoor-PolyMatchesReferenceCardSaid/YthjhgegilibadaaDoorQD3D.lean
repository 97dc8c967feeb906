/- The statement that all functions agree with the reference answers true; conditions: bytes; lengths of slices. -/
import Derived.Test.YthjhgegilibadaaDoorQDD
import Derived.Test.YthjhgegilibadaaDoorER1D
namespace Go.Ab
set_option linter.unusedVariables false
set_option linter.unusedSimpArgs false
set_option linter.unusedSimpArgs false
set_option linter.unusedVariables false
set_option maxRecDepth 100000 in
set_option maxHeartbeats 4000000 in
theorem p3 (a b : List Tm) (ha : oks a) (hal : a.length < 9223372036854775808) (hbl : b.length < 9223372036854775808) (c n i1 i2 i3 i4 i5 i6 : Int) :
    (CW GD LD).p (.func 3) [.agg [.slice .any (a.map Tm.cs), .slice .any (b.map Tm.cs), .int .i64 c, .int .i8 n], .agg [.int .i64 i1, .int .i64 i2, .int .i64 i3, .int .i64 i4, .int .i64 i5, .int .i64 i6]] = some (.bool true) := by
  have hvalid := p11 a b hal hbl c n
  obtain ⟨v1, hv1, q1⟩ := p12 i1 i2
  obtain ⟨v2, hv2, q2⟩ := p12 i3 i4
  obtain ⟨v3, hv3, q3⟩ := p12 i5 i6
  have PA := pol_made a 9 2147483648
  have PB := pol_made b 9 2147483648
  have hN := tmod_number c
  refine CW_val (h := []) ?_ rfl
  rw [e3, p8]
  generalize c.tmod 2147483648 = cc at *
  generalize hA : madeP a 9 2147483648 = A at *
  generalize hB : madeP b 9 2147483648 = B at *
  obtain ⟨oA, nA, sA, fA, lA⟩ := PA
  obtain ⟨oB, nB, sB, fB, lB⟩ := PB
  have fewA : few A := by unfold few; omega
  have hb3 : valids [v1, v2, v3] := by
    intro x hx
    simp only [List.mem_cons, List.not_mem_nil, or_false] at hx
    rcases hx with rfl | rfl | rfl
    · exact hv1
    · exact hv2
    · exact hv3
  have add1 := p13 A B oA oB nA nB (by omega) (by omega)
  have add2 := p14 A B oA oB nA nB (by omega) (by omega)
  rw [radd_eq oA oB sB] at add2
  have sc1 := p17 A cc oA nA (by omega) hN
  have sc2 := p18 A fA lA sA cc hN
  have mu1 := fun m => p15 A B fA lA fB lB m
  have mu2 := fun m => p16 A B fA lA fB lB m
  have tr1 := fun m => p19 A m oA fewA
  have tr2 := fun m => p20 A m oA fewA
  have ra1 := p23 A oA fewA nA
  have ra2 := p24 A oA fewA nA
  have ev1 := p25 A oA fewA [v1, v2, v3] hb3 (by simp)
  have ev2 := p26 A oA fewA [v1, v2, v3] hb3
  have de1 := p27 A oA fewA
  have de2 := p28 A oA fewA
  have sm1 := same_self (add_oks oA oB) (add_len A B)
  have sm2 := fun m => same_self (mul_oks fA fB m) (mul_len A B m)
  have sm3 := same_self (scale_oks oA cc) (scale_len A cc)
  have sm4 := fun m => same_self (trunc_oks oA m) (trunc_len A m)
  have sm5 := same_self (const_oks cc) (by have := constP_len cc; omega)
  have sm6 := fun i => same_self (var_oks i) (var_len i)
  simp only [List.map_cons, List.map_nil] at ev1 ev2
  refine (eBool rfl _).trans ?_
  have hlen : decide ((((a.map Tm.cs).length : Nat) : Int) ≤ 200) = decide (a.length ≤ 200) := by rw [decide_eq_decide, List.length_map]; omega
  cases h200 : decide (a.length ≤ 200)
  · refine (cF (hlen.trans h200) _ _).trans ?_
    refine (eTwo hvalid _).trans ?_
    refine (eIv q1 _).trans ?_
    refine (eIv q2 _).trans ?_
    refine (eIv q3 _).trans ?_
    refine (eP add1 _).trans ?_
    refine (eP add2 _).trans ?_
    refine (eP (mu1 _) _).trans ?_
    refine (eP (mu2 _) _).trans ?_
    refine (eP sc1 _).trans ?_
    refine (eP sc2 _).trans ?_
    refine (eP (tr1 _) _).trans ?_
    refine (eP (tr2 _) _).trans ?_
    refine (eBool sm1 _).trans ?_
    refine (cNT _ _).trans ?_
    refine (eBool (iv_self _) _).trans ?_
    refine (cNT _ _).trans ?_
    refine (eBool (sm2 _) _).trans ?_
    refine (cNT _ _).trans ?_
    refine (eBool (iv_self _) _).trans ?_
    refine (cNT _ _).trans ?_
    refine (eBool sm3 _).trans ?_
    refine (cNT _ _).trans ?_
    refine (eBool (iv_self _) _).trans ?_
    refine (cNT _ _).trans ?_
    refine (eBool (sm4 _) _).trans ?_
    refine (cNT _ _).trans ?_
    refine (eBool (iv_self _) _).trans ?_
    refine (cNT _ _).trans ?_
    refine (eIv ra1 _).trans ?_
    refine (eIv ra2 _).trans ?_
    refine (eBool (iv_self _) _).trans ?_
    refine (cT rfl _ _).trans ?_
    refine (eIv ev1 _).trans ?_
    refine (eIv ev2 _).trans ?_
    refine (eBool (iv_self _) _).trans ?_
    refine (cT rfl _ _).trans ?_
    refine (eInt de1 _).trans ?_
    refine (eInt de2 _).trans ?_
    refine (cT (beq_self_eq_true _) _ _).trans ?_
    refine (eRows (p29 _) _).trans ?_
    refine (eRows (p30 _) _).trans ?_
    refine (eBool sm5 _).trans ?_
    refine (cT rfl _ _).trans ?_
    refine (eRows (p31 _) _).trans ?_
    refine (eRows (p32 _) _).trans ?_
    refine (eBool (sm6 _) _).trans ?_
    exact cT rfl _ _
  · have hfew : few a := by have := of_decide_eq_true h200; unfold few; omega
    refine (cT (hlen.trans h200) _ _).trans ?_
    refine (eBool (p9 a ha hfew) _).trans ?_
    refine (eBool (p10 a ha hfew) _).trans ?_
    refine (cF (by rw [beq_self_eq_true]; rfl) _ _).trans ?_
    refine (eTwo hvalid _).trans ?_
    refine (eIv q1 _).trans ?_
    refine (eIv q2 _).trans ?_
    refine (eIv q3 _).trans ?_
    refine (eP add1 _).trans ?_
    refine (eP add2 _).trans ?_
    refine (eP (mu1 _) _).trans ?_
    refine (eP (mu2 _) _).trans ?_
    refine (eP sc1 _).trans ?_
    refine (eP sc2 _).trans ?_
    refine (eP (tr1 _) _).trans ?_
    refine (eP (tr2 _) _).trans ?_
    refine (eBool sm1 _).trans ?_
    refine (cNT _ _).trans ?_
    refine (eBool (iv_self _) _).trans ?_
    refine (cNT _ _).trans ?_
    refine (eBool (sm2 _) _).trans ?_
    refine (cNT _ _).trans ?_
    refine (eBool (iv_self _) _).trans ?_
    refine (cNT _ _).trans ?_
    refine (eBool sm3 _).trans ?_
    refine (cNT _ _).trans ?_
    refine (eBool (iv_self _) _).trans ?_
    refine (cNT _ _).trans ?_
    refine (eBool (sm4 _) _).trans ?_
    refine (cNT _ _).trans ?_
    refine (eBool (iv_self _) _).trans ?_
    refine (cNT _ _).trans ?_
    refine (eIv ra1 _).trans ?_
    refine (eIv ra2 _).trans ?_
    refine (eBool (iv_self _) _).trans ?_
    refine (cT rfl _ _).trans ?_
    refine (eIv ev1 _).trans ?_
    refine (eIv ev2 _).trans ?_
    refine (eBool (iv_self _) _).trans ?_
    refine (cT rfl _ _).trans ?_
    refine (eInt de1 _).trans ?_
    refine (eInt de2 _).trans ?_
    refine (cT (beq_self_eq_true _) _ _).trans ?_
    refine (eRows (p29 _) _).trans ?_
    refine (eRows (p30 _) _).trans ?_
    refine (eBool sm5 _).trans ?_
    refine (cT rfl _ _).trans ?_
    refine (eRows (p31 _) _).trans ?_
    refine (eRows (p32 _) _).trans ?_
    refine (eBool (sm6 _) _).trans ?_
    exact cT rfl _ _
end Go.Ab
