/- What an abstract value stands for; conditions: none. -/
import Derived.Test.YtbfecmgiffkooaaAb2
import Derived.CallsIn
import Derived.Deep.AppendSrc
import Derived.Deep.Upon
import Derived.RangeFuncRecord
import Derived.Laws.Strings
namespace Go.Ab
set_option linter.unusedVariables false
set_option linter.unusedSimpArgs false

/-- Memory as the relation sees it: fixed cells; the sizes of rows of cells; the shared objects' blocks and lengths. -/
structure Mem where
  M : Nat → Nat → Option Value
  Z : Nat → Option Nat
  J : List (Nat × Option Nat)

def Mem.alone (m : Mem) : Mem := { m with J := [] }
/-- The first n shared objects alone. -/
def Mem.cut (m : Mem) (n : Nat) : Mem := { m with J := m.J.take n }

mutual
def VR : V → Mem → Value → Prop
  | .undef, _, _ => True
  | .skip, _, c => c = Go.undef
  | .bool b, _, c => c = .bool b
  | .int k n, _, c => c = .int k n
  | .str s, _, c => c = .string s
  | .nilp, _, c => c = .pointer none
  | .ptr id off, m, c => ∃ b, m.J[id]? = some (b, none) ∧ c = .pointer (some ⟨b, off, none⟩)
  | .rptr row off, m, c => ∃ b o, c = .pointer (some ⟨b, o + off, none⟩) ∧ VRc row m.alone b o
  | .eptr id len sz i off, m, c => ∃ b l ad, m.J[id]? = some (b, some l) ∧ c = .pointer (some ad) ∧ len ≤ l ∧ i < len ∧ (l = len → ad = ⟨b, i * sz + off, none⟩)
  | .adr _ _, _, _ => False
  | .box _, _, _ => False
  | .slice fl rows, m, c => ∃ a cap, c = .slice a rows.length cap ∧ rows.length ≤ cap ∧
      (match fl with
       | .nil => a = none ∧ cap = 0
       | .cap0 => cap = 0
       | .any => True) ∧
      (a = none → cap = 0) ∧ (rows ≠ [] → ∃ b o sz, a = some ⟨b, o, none⟩ ∧ VRr rows m.alone b o sz)
  | .arr id len sz, m, c => ∃ a cap b l, m.J[id]? = some (b, some l) ∧ c = .slice a len cap ∧ len ≤ cap ∧ len ≤ l ∧ (a = none → cap = 0) ∧
      (len = 0 → cap = 0) ∧ (len ≠ 0 → l = len → a = some ⟨b, 0, none⟩ ∧ ∃ n, m.Z b = some n ∧ cap * sz ≤ n)
  | .nilmap, _, c => c = .map none
  | .map id, m, c => ∃ b, m.J[id]? = some (b, none) ∧ c = .map (some b)
  | .fn f first cap, m, c => ∃ f' first' cap', c = .func f' ⟨first'⟩ ⟨cap'⟩ ∧ VRs first m first' ∧ VRs cap m cap' ∧
      (match f with
       | .yield id => ∃ b, m.J[id]? = some (b, none) ∧ f' = .yield b
       | f => f' = f)
  | .nilfn, _, c => c = .nilFunc
  | .iface t v, m, c => ∃ c', c = .iface t c' ∧ VR v m c'
  | .nili, _, c => c = .nilIface
  | .agg cells, m, c => ∃ cs, c = .agg ⟨cs⟩ ∧ VRl cells m cs
  | .tuple vs, m, c => ∃ cs, c = .tuple ⟨cs⟩ ∧ VRs vs m cs
/-- Cells in a row; values in a row. -/
def VRl : List V → Mem → List Value → Prop
  | [], _, cs => cs = []
  | v :: l, m, cs => ∃ c cs', cs = c :: cs' ∧ (VR v m c ∧ one c = true) ∧ VRl l m cs'
def VRs : List V → Mem → List Value → Prop
  | [], _, cs => cs = []
  | v :: l, m, cs => ∃ c cs', cs = c :: cs' ∧ VR v m c ∧ VRs l m cs'
/-- Fixed cells from block b, place o on. -/
def VRc : List V → Mem → Nat → Nat → Prop
  | [], _, _, _ => True
  | v :: l, m, b, o => (∃ c, m.M b o = some c ∧ VR v m c ∧ one c = true) ∧ VRc l m b (o + 1)
/-- Rows of sz fixed cells. -/
def VRr : List (List V) → Mem → Nat → Nat → Nat → Prop
  | [], _, _, _, _ => True
  | r :: l, m, b, o, sz => r.length = sz ∧ VRc r m b o ∧ VRr l m b (o + sz) sz
end


structure Mem.le (m m' : Mem) : Prop where
  M : ∀ b j c, m.M b j = some c → m'.M b j = some c
  Z : ∀ (b n : Nat), m.Z b = some n → m'.Z b = some n
  J : ∀ (id b : Nat), m.J[id]? = some (b, none) → m'.J[id]? = some (b, none)
  L : ∀ (id b l : Nat), m.J[id]? = some (b, some l) → ∃ b' l', m'.J[id]? = some (b', some l') ∧ l ≤ l' ∧ (l' = l → b' = b)

theorem Mem.le.refl (m : Mem) : m.le m := ⟨fun _ _ _ h => h, fun _ _ h => h, fun _ _ h => h, fun _ b l h => ⟨b, l, h, Nat.le_refl _, fun _ => rfl⟩⟩
theorem Mem.le.trans {a b c : Mem} (h : a.le b) (k : b.le c) : a.le c :=
  ⟨fun _ _ _ x => k.M _ _ _ (h.M _ _ _ x), fun _ _ x => k.Z _ _ (h.Z _ _ x), fun _ _ x => k.J _ _ (h.J _ _ x), fun id b l x => by
    obtain ⟨b1, l1, h1, h2, h3⟩ := h.L id b l x
    obtain ⟨b2, l2, k1, k2, k3⟩ := k.L id b1 l1 h1
    exact ⟨b2, l2, k1, Nat.le_trans h2 k2, fun e => by
      have e1 : l1 = l := by omega
      have e2 : l2 = l1 := by omega
      rw [k3 e2, h3 e1]⟩⟩
theorem Mem.le.alone {m m' : Mem} (h : m.le m') : m.alone.le m'.alone := ⟨h.M, h.Z, fun _ _ x => by simp [Mem.alone] at x, fun _ _ _ x => by simp [Mem.alone] at x⟩
theorem Mem.alone_alone (m : Mem) : m.alone.alone = m.alone := rfl

mutual
theorem VR.mono : ∀ (v : V) {m m' : Mem} {c : Value}, m.le m' → VR v m c → VR v m' c
  | .undef, _, _, _, _, h => by simp only [VR]
  | .skip, _, _, _, _, h => by simpa only [VR] using h
  | .bool _, _, _, _, _, h => by simpa only [VR] using h
  | .int _ _, _, _, _, _, h => by simpa only [VR] using h
  | .str _, _, _, _, _, h => by simpa only [VR] using h
  | .nilp, _, _, _, _, h => by simpa only [VR] using h
  | .ptr id off, m, m', c, hm, h => by
    simp only [VR] at h ⊢
    obtain ⟨b, h1, h2⟩ := h
    exact ⟨b, hm.J _ _ h1, h2⟩
  | .rptr row off, m, m', c, hm, h => by
    simp only [VR] at h ⊢
    obtain ⟨b, o, h1, h2⟩ := h
    exact ⟨b, o, h1, VRc.mono row hm.alone h2⟩
  | .eptr id len sz i off, m, m', c, hm, h => by
    simp only [VR] at h ⊢
    obtain ⟨b, l, ad, h1, h0, h2, h3, h4⟩ := h
    obtain ⟨b', l', k1, k2, k3⟩ := hm.L _ _ _ h1
    exact ⟨b', l', ad, k1, h0, by omega, h3, fun e => by
      have e1 : l = len := by omega
      rw [k3 (by omega)]; exact h4 e1⟩
  | .adr _ _, _, _, _, _, h => by simp only [VR] at h
  | .box _, _, _, _, _, h => by simp only [VR] at h
  | .slice fl rows, m, m', c, hm, h => by
    simp only [VR] at h ⊢
    obtain ⟨a, cap, h1, h2, h3, h4, h5⟩ := h
    refine ⟨a, cap, h1, h2, h3, h4, fun hr => ?_⟩
    obtain ⟨b, o, sz, k1, k2⟩ := h5 hr
    exact ⟨b, o, sz, k1, VRr.mono rows hm.alone k2⟩
  | .arr id len sz, m, m', c, hm, h => by
    simp only [VR] at h ⊢
    obtain ⟨a, cap, b, l, h1, h2, h3, h4, h5, h6, h7⟩ := h
    obtain ⟨b', l', k1, k2, k3⟩ := hm.L _ _ _ h1
    refine ⟨a, cap, b', l', k1, h2, h3, by omega, h5, h6, fun h0 e => ?_⟩
    have e1 : l = len := by omega
    obtain ⟨g1, n, g2, g3⟩ := h7 h0 e1
    rw [k3 (by omega)]
    exact ⟨g1, n, hm.Z _ _ g2, g3⟩
  | .nilmap, _, _, _, _, h => by simpa only [VR] using h
  | .map id, m, m', c, hm, h => by
    simp only [VR] at h ⊢
    obtain ⟨b, h1, h2⟩ := h
    exact ⟨b, hm.J _ _ h1, h2⟩
  | .fn f first cap, m, m', c, hm, h => by
    simp only [VR] at h ⊢
    obtain ⟨f', first', cap', h1, h2, h3, h4⟩ := h
    refine ⟨f', first', cap', h1, VRs.mono first hm h2, VRs.mono cap hm h3, ?_⟩
    cases f with
    | yield id => obtain ⟨b, g1, g2⟩ := h4; exact ⟨b, hm.J _ _ g1, g2⟩
    | _ => exact h4
  | .nilfn, _, _, _, _, h => by simpa only [VR] using h
  | .iface t v, m, m', c, hm, h => by
    simp only [VR] at h ⊢
    obtain ⟨c', h1, h2⟩ := h
    exact ⟨c', h1, VR.mono v hm h2⟩
  | .nili, _, _, _, _, h => by simpa only [VR] using h
  | .agg cells, m, m', c, hm, h => by
    simp only [VR] at h ⊢
    obtain ⟨cs, h1, h2⟩ := h
    exact ⟨cs, h1, VRl.mono cells hm h2⟩
  | .tuple vs, m, m', c, hm, h => by
    simp only [VR] at h ⊢
    obtain ⟨cs, h1, h2⟩ := h
    exact ⟨cs, h1, VRs.mono vs hm h2⟩
theorem VRs.mono : ∀ (l : List V) {m m' : Mem} {cs : List Value}, m.le m' → VRs l m cs → VRs l m' cs
  | [], _, _, _, _, h => by simpa only [VRs] using h
  | v :: l, m, m', cs, hm, h => by
    simp only [VRs] at h ⊢
    obtain ⟨c, cs', h1, h2, h3⟩ := h
    exact ⟨c, cs', h1, VR.mono v hm h2, VRs.mono l hm h3⟩
theorem VRl.mono : ∀ (l : List V) {m m' : Mem} {cs : List Value}, m.le m' → VRl l m cs → VRl l m' cs
  | [], _, _, _, _, h => by simpa only [VRl] using h
  | v :: l, m, m', cs, hm, h => by
    simp only [VRl] at h ⊢
    obtain ⟨c, cs', h1, ⟨h2, h4⟩, h3⟩ := h
    exact ⟨c, cs', h1, ⟨VR.mono v hm h2, h4⟩, VRl.mono l hm h3⟩
theorem VRc.mono : ∀ (l : List V) {m m' : Mem} {b o : Nat}, m.le m' → VRc l m b o → VRc l m' b o
  | [], _, _, _, _, _, _ => by simp only [VRc]
  | v :: l, m, m', b, o, hm, h => by
    simp only [VRc] at h ⊢
    obtain ⟨⟨c, h1, h2, h4⟩, h3⟩ := h
    exact ⟨⟨c, hm.M _ _ _ h1, VR.mono v hm h2, h4⟩, VRc.mono l hm h3⟩
theorem VRr.mono : ∀ (l : List (List V)) {m m' : Mem} {b o sz : Nat}, m.le m' → VRr l m b o sz → VRr l m' b o sz
  | [], _, _, _, _, _, _, _ => by simp only [VRr]
  | r :: l, m, m', b, o, sz, hm, h => by
    simp only [VRr] at h ⊢
    obtain ⟨h1, h2, h3⟩ := h
    exact ⟨h1, VRc.mono r hm h2, VRr.mono l hm h3⟩
end

theorem Mem.cut_le (m : Mem) (n : Nat) : (m.cut n).le m where
  M _ _ _ h := h
  Z _ _ h := h
  J id b h := by
    simp only [Mem.cut, List.getElem?_take] at h
    split at h
    · exact h
    · cases h
  L id b l h := by
    simp only [Mem.cut, List.getElem?_take] at h
    split at h
    · exact ⟨b, l, h, Nat.le_refl _, fun _ => rfl⟩
    · cases h
theorem Mem.le.cut {m m' : Mem} (h : m.le m') (n : Nat) : (m.cut n).le (m'.cut n) where
  M := h.M
  Z := h.Z
  J id b e := by
    simp only [Mem.cut, List.getElem?_take] at e ⊢
    split at e
    · rename_i hid; rw [if_pos hid]; exact h.J _ _ e
    · cases e
  L id b l e := by
    simp only [Mem.cut, List.getElem?_take] at e ⊢
    split at e
    · rename_i hid; rw [if_pos hid]; exact h.L _ _ _ e
    · cases e
theorem Mem.cut_cut (m : Mem) {n k : Nat} (h : k ≤ n) : (m.cut n).cut k = m.cut k := by
  simp only [Mem.cut, List.take_take, Nat.min_eq_left h]
theorem Mem.cut_all (m : Mem) {n : Nat} (h : m.J.length ≤ n) : m.cut n = m := by
  simp only [Mem.cut, List.take_of_length_le h]
theorem Mem.cut_get (m : Mem) {n id : Nat} (h : id < n) : (m.cut n).J[id]? = m.J[id]? := by
  simp only [Mem.cut, List.getElem?_take, if_pos h]

mutual
theorem VR.below {n : Nat} : ∀ (v : V) {m : Mem} {c : Value}, below n v = true → VR v m c → VR v (m.cut n) c
  | .undef, _, _, _, h => by simp only [VR]
  | .skip, _, _, _, h => by simpa only [VR] using h
  | .bool _, _, _, _, h => by simpa only [VR] using h
  | .int _ _, _, _, _, h => by simpa only [VR] using h
  | .str _, _, _, _, h => by simpa only [VR] using h
  | .nilp, _, _, _, h => by simpa only [VR] using h
  | .ptr id off, m, c, hb, h => by
    simp only [Ab.below] at hb
    simp only [VR] at h ⊢
    rw [Mem.cut_get _ (Nat.le_of_ble_eq_true hb)]; exact h
  | .rptr row off, m, c, _, h => by
    simp only [VR] at h ⊢
    exact h
  | .eptr id len sz i off, m, c, hb, h => by
    simp only [Ab.below] at hb
    simp only [VR] at h ⊢
    rw [Mem.cut_get _ (Nat.le_of_ble_eq_true hb)]; exact h
  | .adr _ _, _, _, _, h => by simp only [VR] at h
  | .box _, _, _, _, h => by simp only [VR] at h
  | .slice fl rows, m, c, _, h => by
    simp only [VR] at h ⊢
    exact h
  | .arr id len sz, m, c, hb, h => by
    simp only [Ab.below] at hb
    simp only [VR] at h ⊢
    rw [Mem.cut_get _ (Nat.le_of_ble_eq_true hb)]; exact h
  | .nilmap, _, _, _, h => by simpa only [VR] using h
  | .map id, m, c, hb, h => by
    simp only [Ab.below] at hb
    simp only [VR] at h ⊢
    rw [Mem.cut_get _ (Nat.le_of_ble_eq_true hb)]; exact h
  | .fn f first cap, m, c, hb, h => by
    simp only [Ab.below, Bool.and_eq_true] at hb
    simp only [VR] at h ⊢
    obtain ⟨f', first', cap', h1, h2, h3, h4⟩ := h
    refine ⟨f', first', cap', h1, VRs.below first hb.2.1 h2, VRs.below cap hb.2.2 h3, ?_⟩
    cases f with
    | yield id => simp only at hb h4 ⊢; rw [Mem.cut_get _ (Nat.le_of_ble_eq_true hb.1)]; exact h4
    | _ => exact h4
  | .nilfn, _, _, _, h => by simpa only [VR] using h
  | .iface t v, m, c, hb, h => by
    simp only [Ab.below] at hb
    simp only [VR] at h ⊢
    obtain ⟨c', h1, h2⟩ := h
    exact ⟨c', h1, VR.below v hb h2⟩
  | .nili, _, _, _, h => by simpa only [VR] using h
  | .agg cells, m, c, hb, h => by
    simp only [Ab.below] at hb
    simp only [VR] at h ⊢
    obtain ⟨cs, h1, h2⟩ := h
    exact ⟨cs, h1, VRl.below cells hb h2⟩
  | .tuple vs, m, c, hb, h => by
    simp only [Ab.below] at hb
    simp only [VR] at h ⊢
    obtain ⟨cs, h1, h2⟩ := h
    exact ⟨cs, h1, VRs.below vs hb h2⟩
theorem VRs.below {n : Nat} : ∀ (l : List V) {m : Mem} {cs : List Value}, belows n l = true → VRs l m cs → VRs l (m.cut n) cs
  | [], _, _, _, h => by simpa only [VRs] using h
  | v :: l, m, cs, hb, h => by
    simp only [belows, Bool.and_eq_true] at hb
    simp only [VRs] at h ⊢
    obtain ⟨c, cs', h1, h2, h3⟩ := h
    exact ⟨c, cs', h1, VR.below v hb.1 h2, VRs.below l hb.2 h3⟩
theorem VRl.below {n : Nat} : ∀ (l : List V) {m : Mem} {cs : List Value}, belows n l = true → VRl l m cs → VRl l (m.cut n) cs
  | [], _, _, _, h => by simpa only [VRl] using h
  | v :: l, m, cs, hb, h => by
    simp only [belows, Bool.and_eq_true] at hb
    simp only [VRl] at h ⊢
    obtain ⟨c, cs', h1, ⟨h2, h4⟩, h3⟩ := h
    exact ⟨c, cs', h1, ⟨VR.below v hb.1 h2, h4⟩, VRl.below l hb.2 h3⟩
end

mutual
theorem VR.isBelow : ∀ (v : V) {m : Mem} {c : Value}, VR v m c → below m.J.length v = true
  | .undef, _, _, _ => rfl
  | .skip, _, _, _ => rfl
  | .bool _, _, _, _ => rfl
  | .int _ _, _, _, _ => rfl
  | .str _, _, _, _ => rfl
  | .nilp, _, _, _ => rfl
  | .ptr id off, m, c, h => by
    simp only [VR] at h
    obtain ⟨b, h1, _⟩ := h
    exact Nat.ble_eq_true_of_le (List.getElem?_eq_some_iff.1 h1).1
  | .rptr _ _, _, _, _ => rfl
  | .eptr id len sz i off, m, c, h => by
    simp only [VR] at h
    obtain ⟨b, l, ad, h1, _⟩ := h
    exact Nat.ble_eq_true_of_le (List.getElem?_eq_some_iff.1 h1).1
  | .adr _ _, _, _, h => by simp only [VR] at h
  | .box _, _, _, h => by simp only [VR] at h
  | .slice _ _, _, _, _ => rfl
  | .arr id len sz, m, c, h => by
    simp only [VR] at h
    obtain ⟨a, cap, b, l, h1, _⟩ := h
    exact Nat.ble_eq_true_of_le (List.getElem?_eq_some_iff.1 h1).1
  | .nilmap, _, _, _ => rfl
  | .map id, m, c, h => by
    simp only [VR] at h
    obtain ⟨b, h1, _⟩ := h
    exact Nat.ble_eq_true_of_le (List.getElem?_eq_some_iff.1 h1).1
  | .fn f first cap, m, c, h => by
    simp only [VR] at h
    obtain ⟨f', first', cap', h1, h2, h3, h4⟩ := h
    simp only [below, VRs.isBelow first h2, VRs.isBelow cap h3, Bool.and_true]
    cases f with
    | yield id => obtain ⟨b, g1, _⟩ := h4; exact Nat.ble_eq_true_of_le (List.getElem?_eq_some_iff.1 g1).1
    | _ => rfl
  | .nilfn, _, _, _ => rfl
  | .iface t v, m, c, h => by
    simp only [VR] at h
    obtain ⟨c', _, h2⟩ := h
    simp only [below]; exact VR.isBelow v h2
  | .nili, _, _, _ => rfl
  | .agg cells, m, c, h => by
    simp only [VR] at h
    obtain ⟨cs, _, h2⟩ := h
    simp only [below]; exact VRl.isBelow cells h2
  | .tuple vs, m, c, h => by
    simp only [VR] at h
    obtain ⟨cs, _, h2⟩ := h
    simp only [below]; exact VRs.isBelow vs h2
theorem VRs.isBelow : ∀ (l : List V) {m : Mem} {cs : List Value}, VRs l m cs → belows m.J.length l = true
  | [], _, _, _ => rfl
  | v :: l, m, cs, h => by
    simp only [VRs] at h
    obtain ⟨c, cs', _, h2, h3⟩ := h
    simp only [belows, VR.isBelow v h2, VRs.isBelow l h3, Bool.and_true]
theorem VRl.isBelow : ∀ (l : List V) {m : Mem} {cs : List Value}, VRl l m cs → belows m.J.length l = true
  | [], _, _, _ => rfl
  | v :: l, m, cs, h => by
    simp only [VRl] at h
    obtain ⟨c, cs', _, ⟨h2, _⟩, h3⟩ := h
    simp only [belows, VR.isBelow v h2, VRl.isBelow l h3, Bool.and_true]
end

/-! Rows. -/
theorem VRl.length : ∀ (l : List V) {m : Mem} {cs : List Value}, VRl l m cs → l.length = cs.length
  | [], _, _, h => by simp only [VRl] at h; subst h; rfl
  | v :: l, m, cs, h => by
    simp only [VRl] at h
    obtain ⟨c, cs', rfl, _, h3⟩ := h
    simp [VRl.length l h3]
theorem VRl.get : ∀ (l : List V) {m : Mem} {cs : List Value}, VRl l m cs → ∀ (j : Nat) (v : V), l[j]? = some v → ∃ c, cs[j]? = some c ∧ VR v m c ∧ one c = true
  | [], _, _, _, j, v, hv => by simp at hv
  | u :: l, m, cs, h, j, v, hv => by
    simp only [VRl] at h
    obtain ⟨c, cs', rfl, h2, h3⟩ := h
    cases j with
    | zero => simp at hv; subst hv; exact ⟨c, rfl, h2⟩
    | succ j => simp at hv; obtain ⟨c', h4, h5⟩ := VRl.get l h3 j v hv; exact ⟨c', by simpa using h4, h5⟩
theorem VRl.of_get : ∀ (l : List V) {m : Mem} {cs : List Value}, l.length = cs.length → (∀ (j : Nat) (v : V) (c : Value), l[j]? = some v → cs[j]? = some c → VR v m c ∧ one c = true) → VRl l m cs
  | [], _, cs, hl, _ => by simp only [VRl]; cases cs with | nil => rfl | cons _ _ => simp at hl
  | u :: l, m, cs, hl, h => by
    cases cs with
    | nil => simp at hl
    | cons c cs =>
      simp only [VRl]
      exact ⟨c, cs, rfl, h 0 u c rfl rfl, VRl.of_get l (by simpa using hl) fun j v c hv hc => h (j + 1) v c (by simpa using hv) (by simpa using hc)⟩
theorem VRl.append {l l' : List V} {m : Mem} {cs cs' : List Value} (h : VRl l m cs) (h' : VRl l' m cs') : VRl (l ++ l') m (cs ++ cs') := by
  induction l generalizing cs with
  | nil => simp only [VRl] at h; subst h; simpa using h'
  | cons v l ih =>
    simp only [VRl] at h
    obtain ⟨c, cs1, rfl, h2, h3⟩ := h
    simp only [List.cons_append, VRl]
    exact ⟨c, cs1 ++ cs', rfl, h2, ih h3⟩
theorem VRs.length : ∀ (l : List V) {m : Mem} {cs : List Value}, VRs l m cs → l.length = cs.length
  | [], _, _, h => by simp only [VRs] at h; subst h; rfl
  | v :: l, m, cs, h => by
    simp only [VRs] at h
    obtain ⟨c, cs', rfl, _, h3⟩ := h
    simp [VRs.length l h3]
theorem VRs.get : ∀ (l : List V) {m : Mem} {cs : List Value}, VRs l m cs → ∀ (j : Nat) (v : V), l[j]? = some v → ∃ c, cs[j]? = some c ∧ VR v m c
  | [], _, _, _, j, v, hv => by simp at hv
  | u :: l, m, cs, h, j, v, hv => by
    simp only [VRs] at h
    obtain ⟨c, cs', rfl, h2, h3⟩ := h
    cases j with
    | zero => simp at hv; subst hv; exact ⟨c, rfl, h2⟩
    | succ j => simp at hv; obtain ⟨c', h4, h5⟩ := VRs.get l h3 j v hv; exact ⟨c', by simpa using h4, h5⟩
theorem VRs.append {l l' : List V} {m : Mem} {cs cs' : List Value} (h : VRs l m cs) (h' : VRs l' m cs') : VRs (l ++ l') m (cs ++ cs') := by
  induction l generalizing cs with
  | nil => simp only [VRs] at h; subst h; simpa using h'
  | cons v l ih =>
    simp only [VRs] at h
    obtain ⟨c, cs1, rfl, h2, h3⟩ := h
    simp only [List.cons_append, VRs]
    exact ⟨c, cs1 ++ cs', rfl, h2, ih h3⟩
theorem VRc.get : ∀ (l : List V) {m : Mem} {b o : Nat}, VRc l m b o → ∀ (j : Nat) (v : V), l[j]? = some v → ∃ c, m.M b (o + j) = some c ∧ VR v m c ∧ one c = true
  | [], _, _, _, _, j, v, hv => by simp at hv
  | u :: l, m, b, o, h, j, v, hv => by
    simp only [VRc] at h
    obtain ⟨⟨c, h1, h2⟩, h3⟩ := h
    cases j with
    | zero => simp at hv; subst hv; exact ⟨c, h1, h2⟩
    | succ j =>
      simp at hv
      obtain ⟨c', h4, h5⟩ := VRc.get l h3 j v hv
      exact ⟨c', by rw [show o + (j + 1) = o + 1 + j by omega]; exact h4, h5⟩
theorem VRc.of_get : ∀ (l : List V) {m : Mem} {b o : Nat}, (∀ (j : Nat) (v : V), l[j]? = some v → ∃ c, m.M b (o + j) = some c ∧ VR v m c ∧ one c = true) → VRc l m b o
  | [], _, _, _, _ => by simp only [VRc]
  | u :: l, m, b, o, h => by
    simp only [VRc]
    refine ⟨h 0 u rfl, VRc.of_get l fun j v hv => ?_⟩
    obtain ⟨c, h1, h2⟩ := h (j + 1) v (by simpa using hv)
    exact ⟨c, by rw [show o + 1 + j = o + (j + 1) by omega]; exact h1, h2⟩
theorem VRr.get : ∀ (l : List (List V)) {m : Mem} {b o sz : Nat}, VRr l m b o sz → ∀ (i : Nat) (r : List V), l[i]? = some r → r.length = sz ∧ VRc r m b (o + i * sz)
  | [], _, _, _, _, _, i, r, hr => by simp at hr
  | u :: l, m, b, o, sz, h, i, r, hr => by
    simp only [VRr] at h
    obtain ⟨h1, h2, h3⟩ := h
    cases i with
    | zero => simp at hr; subst hr; exact ⟨h1, by simpa using h2⟩
    | succ i =>
      simp at hr
      obtain ⟨g1, g2⟩ := VRr.get l h3 i r hr
      exact ⟨g1, by rw [show o + (i + 1) * sz = o + sz + i * sz by rw [Nat.add_mul]; omega]; exact g2⟩
theorem VRr.of_get : ∀ (l : List (List V)) {m : Mem} {b o sz : Nat}, (∀ (i : Nat) (r : List V), l[i]? = some r → r.length = sz ∧ VRc r m b (o + i * sz)) → VRr l m b o sz
  | [], _, _, _, _, _ => by simp only [VRr]
  | u :: l, m, b, o, sz, h => by
    simp only [VRr]
    refine ⟨(h 0 u rfl).1, by simpa using (h 0 u rfl).2, VRr.of_get l fun i r hr => ?_⟩
    obtain ⟨g1, g2⟩ := h (i + 1) r (by simpa using hr)
    exact ⟨g1, by rw [show o + sz + i * sz = o + (i + 1) * sz by rw [Nat.add_mul]; omega]; exact g2⟩

end Go.Ab
