/- The plain law of a split segment: distances and close times stay; conditions: none. -/
import Derived.Test.YtbfecmgiffkooaaY3
namespace Go.Ab
set_option linter.unusedVariables false
set_option linter.unusedSimpArgs false
set_option linter.unusedVariables false
def cut1 (s : Seg) (m : Int) : Seg := { s with h := m }
def cut2 (s : Seg) (m : Int) : Seg := { s with t := s.t + m, h := s.h - m }
def splitAt' (l1 l2 : List Seg) (s : Seg) (m : Int) : List Seg := l1 ++ [cut1 s m, cut2 s m] ++ l2
theorem time_iff (x r : Seg) (u : Int) : (2 * (timeOf x r).lo ≤ u ∧ u ≤ 2 * (timeOf x r).hi) ↔ (2 * x.t ≤ u ∧ 2 * r.t ≤ u) ∧ u ≤ 2 * x.fin ∧ u ≤ 2 * r.fin := by
  unfold timeOf
  simp only
  constructor
  · rintro ⟨h1, h2⟩
    split at h1 <;> split at h2 <;> omega
  · intro h
    constructor <;> split <;> omega
section
variable {l1 l2 : List Seg} {s : Seg} {m : Int} (h0 : 1 ≤ m) (h1 : m < s.h)
include h0 h1
theorem split_up (h : upT (l1 ++ s :: l2)) : upT (splitAt' l1 l2 s m) := by
  unfold upT at *
  have ha := List.pairwise_append.1 h
  have hb := List.pairwise_cons.1 ha.2.1
  unfold splitAt'
  rw [List.append_assoc]
  refine List.pairwise_append.2 ⟨ha.1, ?_, fun x hx y hy => ?_⟩
  · refine List.pairwise_cons.2 ⟨fun y hy => ?_, List.pairwise_cons.2 ⟨fun y hy => ?_, hb.2⟩⟩
    · rcases List.mem_cons.1 hy with rfl | hy
      · simp only [cut1, cut2, Seg.fin]; omega
      · have := hb.1 y hy
        simp only [cut1, Seg.fin] at *; omega
    · have := hb.1 y hy
      simp only [cut2, Seg.fin] at *; omega
  · have hs := ha.2.2 x hx s (by simp)
    rcases List.mem_cons.1 hy with rfl | hy
    · simp only [cut1, Seg.fin] at *; omega
    · rcases List.mem_cons.1 hy with rfl | hy
      · simp only [cut2, Seg.fin] at *; omega
      · exact ha.2.2 x hx y (List.mem_cons_of_mem _ (by simpa using hy))
theorem split_pos (h : posH (l1 ++ s :: l2)) : posH (splitAt' l1 l2 s m) := fun x hx => by
  unfold splitAt' at hx
  simp only [List.mem_append, List.mem_cons, List.not_mem_nil, or_false] at hx
  rcases hx with (hx | rfl | rfl) | hx
  · exact h x (by simp [hx])
  · simp only [cut1]; omega
  · simp only [cut2]; omega
  · exact h x (by simp [hx])
theorem split_same {b : List Seg} (ha : upT (l1 ++ s :: l2)) (hb : upT b) (pa : posH (l1 ++ s :: l2)) (pb : posH b) (pos : Nat) (d : Int) :
    minD (l1 ++ s :: l2) b pos = minD (splitAt' l1 l2 s m) b pos ∧ classP (l1 ++ s :: l2) b pos d = classP (splitAt' l1 l2 s m) b pos d ∧ closeP (l1 ++ s :: l2) b pos d = closeP (splitAt' l1 l2 s m) b pos d := by
  have hc := split_up h0 h1 ha
  have pc := split_pos h0 h1 pa
  have mA : ∀ x, x ∈ l1 ++ s :: l2 ↔ (x ∈ l1 ∨ x ∈ l2) ∨ x = s := fun x => by simp only [List.mem_append, List.mem_cons]; exact ⟨fun h => h.elim (fun h => .inl (.inl h)) fun h => h.elim .inr fun h => .inl (.inr h), fun h => h.elim (fun h => h.elim .inl fun h => .inr (.inr h)) fun h => .inr (.inl h)⟩
  have mC : ∀ x, x ∈ splitAt' l1 l2 s m ↔ (x ∈ l1 ∨ x ∈ l2) ∨ x = cut1 s m ∨ x = cut2 s m := fun x => by
    unfold splitAt'
    simp only [List.mem_append, List.mem_cons, List.not_mem_nil, or_false]
    exact ⟨fun h => h.elim (fun h => h.elim (fun h => .inl (.inl h)) .inr) fun h => .inl (.inr h), fun h => h.elim (fun h => h.elim (fun h => .inl (.inl h)) .inr) fun h => .inl (.inr h)⟩
  have iA := fun p => prod_mem_iff (p := p) ha hb pa pb
  have iC := fun p => prod_mem_iff (p := p) hc hb pc pb
  have d1 : ∀ r, dist pos (cut1 s m, r) = dist pos (s, r) := fun r => rfl
  have d2 : ∀ r, dist pos (cut2 s m, r) = dist pos (s, r) := fun r => rfl
  have n1 : ∀ r, nears pos d (cut1 s m, r) = nears pos d (s, r) := fun r => rfl
  have n2 : ∀ r, nears pos d (cut2 s m, r) = nears pos d (s, r) := fun r => rfl
  refine same_flows ha hb pa pb hc hb pc pb pos d (fun v => ?_) fun x => ?_
  · constructor
    · rintro ⟨⟨x, r⟩, hp, rfl⟩
      obtain ⟨k1, k2, k3, k4⟩ := (iA _).1 hp
      simp only at k1 k2 k3 k4
      have hr := pb r k2
      rcases (mA x).1 k1 with k1 | rfl
      · exact ⟨(x, r), (iC _).2 ⟨(mC x).2 (.inl k1), k2, k3, k4⟩, rfl⟩
      · by_cases hm : r.t ≤ x.t + m
        · exact ⟨(cut1 x m, r), (iC _).2 ⟨(mC _).2 (.inr (.inl rfl)), k2, k3, hm⟩, d1 r⟩
        · refine ⟨(cut2 x m, r), (iC _).2 ⟨(mC _).2 (.inr (.inr rfl)), k2, ?_, ?_⟩, d2 r⟩ <;> simp only [cut2, Seg.fin] at * <;> omega
    · rintro ⟨⟨x, r⟩, hp, rfl⟩
      obtain ⟨k1, k2, k3, k4⟩ := (iC _).1 hp
      simp only at k1 k2 k3 k4
      rcases (mC x).1 k1 with k1 | rfl | rfl
      · exact ⟨(x, r), (iA _).2 ⟨(mA x).2 (.inl k1), k2, k3, k4⟩, rfl⟩
      · refine ⟨(s, r), (iA _).2 ⟨(mA _).2 (.inr rfl), k2, ?_, ?_⟩, (d1 r).symm⟩ <;> simp only [cut1, Seg.fin] at * <;> omega
      · refine ⟨(s, r), (iA _).2 ⟨(mA _).2 (.inr rfl), k2, ?_, ?_⟩, (d2 r).symm⟩ <;> simp only [cut2, Seg.fin] at * <;> omega
  · constructor
    · rintro ⟨⟨y, r⟩, hp, hn, ht⟩
      obtain ⟨k1, k2, k3, k4⟩ := (iA _).1 hp
      simp only at k1 k2 k3 k4
      have hr := pb r k2
      rcases (mA y).1 k1 with k1 | rfl
      · exact ⟨(y, r), (iC _).2 ⟨(mC y).2 (.inl k1), k2, k3, k4⟩, hn, ht⟩
      · obtain ⟨⟨t1, t2⟩, t3, t4⟩ := (time_iff _ _ _).1 ht
        by_cases hm : x ≤ 2 * (y.t + m)
        · refine ⟨(cut1 y m, r), (iC _).2 ⟨(mC _).2 (.inr (.inl rfl)), k2, ?_, ?_⟩, hn, (time_iff _ _ _).2 ⟨⟨?_, ?_⟩, ?_, ?_⟩⟩ <;> simp only [cut1, Seg.fin] at * <;> omega
        · refine ⟨(cut2 y m, r), (iC _).2 ⟨(mC _).2 (.inr (.inr rfl)), k2, ?_, ?_⟩, hn, (time_iff _ _ _).2 ⟨⟨?_, ?_⟩, ?_, ?_⟩⟩ <;> simp only [cut2, Seg.fin] at * <;> omega
    · rintro ⟨⟨y, r⟩, hp, hn, ht⟩
      obtain ⟨k1, k2, k3, k4⟩ := (iC _).1 hp
      simp only at k1 k2 k3 k4
      have hr := pb r k2
      rcases (mC y).1 k1 with k1 | rfl | rfl
      · exact ⟨(y, r), (iA _).2 ⟨(mA y).2 (.inl k1), k2, k3, k4⟩, hn, ht⟩
      · obtain ⟨⟨t1, t2⟩, t3, t4⟩ := (time_iff _ _ _).1 ht
        refine ⟨(s, r), (iA _).2 ⟨(mA _).2 (.inr rfl), k2, ?_, ?_⟩, hn, (time_iff _ _ _).2 ⟨⟨?_, ?_⟩, ?_, ?_⟩⟩ <;> simp only [cut1, Seg.fin] at * <;> omega
      · obtain ⟨⟨t1, t2⟩, t3, t4⟩ := (time_iff _ _ _).1 ht
        refine ⟨(s, r), (iA _).2 ⟨(mA _).2 (.inr rfl), k2, ?_, ?_⟩, hn, (time_iff _ _ _).2 ⟨⟨?_, ?_⟩, ?_, ?_⟩⟩ <;> simp only [cut2, Seg.fin] at * <;> omega
end
end Go.Ab
