/- Plain facts on sets as bits, and on the elimination of nodes from a set. Own work. -/
import Derived.Test.YtmfiplnojbjcbaaGreatC17
set_option linter.unusedVariables false
set_option linter.unusedSimpArgs false
namespace Go.TQ

/-! ### Sets by their nodes -/
/-- A set of nodes below 10. -/
def SetP (s : Int) : Prop := 0 ≤ s ∧ s < 1024
theorem validS_SetP {s : Int} : validS s = true ↔ SetP s := by simp [validS, SetP]
theorem SetP.zero : SetP 0 := by unfold SetP; omega
def andI (s t : Int) : Int := ((s.toNat &&& t.toNat : Nat) : Int)
def remI (s k : Int) : Int := ((s.toNat ^^^ (s.toNat &&& (((1 : Int).toNat <<< k.toNat : Nat) : Int).toNat) : Nat) : Int)
def difI (s t : Int) : Int := ((s.toNat ^^^ (s.toNat &&& t.toNat) : Nat) : Int)
theorem nat_lt_of_bits {n : Nat} (h : ∀ k, 10 ≤ k → n.testBit k = false) : n < 1024 := by
  exact Nat.lt_pow_two_of_testBit (n := 10) n h
theorem bit_hi {s : Int} (h : SetP s) {k : Nat} (hk : 10 ≤ k) : s.toNat.testBit k = false := by
  refine Nat.testBit_lt_two_pow ?_
  have h1 : 2 ^ 10 ≤ 2 ^ k := Nat.pow_le_pow_right (by omega) hk
  have := h.2
  omega
theorem set_ext {s t : Int} (hs : SetP s) (ht : SetP t) (h : ∀ k, 0 ≤ k → k < 10 → has s k = has t k) : s = t := by
  have : s.toNat = t.toNat := by
    apply Nat.eq_of_testBit_eq
    intro i
    by_cases hi : i < 10
    · have := h i (by omega) (by omega)
      rw [has_def hs.1 hs.2 (by omega) (by omega), has_def ht.1 ht.2 (by omega) (by omega)] at this
      simpa using this
    · rw [bit_hi hs (by omega), bit_hi ht (by omega)]
  have := hs.1; have := ht.1
  omega
theorem andI_set {s t : Int} (hs : SetP s) : SetP (andI s t) := by
  have h : s.toNat &&& t.toNat ≤ s.toNat := Nat.and_le_left
  have := hs.2; have := hs.1
  unfold SetP andI; omega
theorem difI_set {s t : Int} (hs : SetP s) : SetP (difI s t) := by
  have h : (s.toNat ^^^ (s.toNat &&& t.toNat)) < 1024 := nat_lt_of_bits fun k hk => by
    rw [Nat.testBit_xor, Nat.testBit_and, bit_hi hs hk]; rfl
  unfold SetP difI; omega
theorem orI_set {s t : Int} (hs : SetP s) (ht : SetP t) : SetP (orI s t) := by
  have h : (s.toNat ||| t.toNat) < 1024 := nat_lt_of_bits fun k hk => by
    rw [Nat.testBit_or, bit_hi hs hk, bit_hi ht hk]; rfl
  unfold SetP orI; omega
theorem orBit_set {s k : Int} (hs : SetP s) (hk : 0 ≤ k ∧ k < 10) : SetP (orBit s k) := ⟨orBit_nn s k, orBit_lt hs.2 hk.2⟩
theorem has_nat {s k : Int} (hs : SetP s) (hk : 0 ≤ k ∧ k < 10) : has s k = s.toNat.testBit k.toNat := has_def hs.1 hs.2 hk.1 hk.2
theorem has_andI {s t k : Int} (hs : SetP s) (ht : SetP t) (hk : 0 ≤ k ∧ k < 10) : has (andI s t) k = (has s k && has t k) := by
  rw [has_nat (andI_set hs) hk, has_nat hs hk, has_nat ht hk, andI, Int.toNat_natCast, Nat.testBit_and]
theorem has_dif {s t k : Int} (hs : SetP s) (ht : SetP t) (hk : 0 ≤ k ∧ k < 10) : has (difI s t) k = (has s k && !has t k) := by
  rw [has_nat (difI_set hs) hk, has_nat hs hk, has_nat ht hk, difI, Int.toNat_natCast, Nat.testBit_xor, Nat.testBit_and]
  cases s.toNat.testBit k.toNat <;> cases t.toNat.testBit k.toNat <;> rfl
theorem has_orI {s t k : Int} (hs : SetP s) (ht : SetP t) (hk : 0 ≤ k ∧ k < 10) : has (orI s t) k = (has s k || has t k) := by
  rw [has_nat (orI_set hs ht) hk, has_nat hs hk, has_nat ht hk, orI, Int.toNat_natCast, Nat.testBit_or]
theorem has_orB {s j k : Int} (hs : SetP s) (hj : 0 ≤ j ∧ j < 10) (hk : 0 ≤ k ∧ k < 10) : has (orBit s j) k = (has s k || decide (j = k)) := has_orBit hs.1 hs.2 hj.1 hj.2 hk.1 hk.2
theorem remI_dif (s k : Int) : remI s k = difI s (((1 : Int).toNat <<< k.toNat : Nat) : Int) := rfl
theorem one_set {k : Int} (hk : 0 ≤ k ∧ k < 10) : SetP (((1 : Int).toNat <<< k.toNat : Nat) : Int) := by
  have h : (1 : Int).toNat <<< k.toNat < 1024 := nat_lt_of_bits fun j hj => by
    show (1 <<< k.toNat).testBit j = false
    rw [testBit_one_shl]; exact decide_eq_false (by omega)
  exact ⟨Int.natCast_nonneg _, Int.ofNat_lt.2 h⟩
theorem has_one {k j : Int} (hk : 0 ≤ k ∧ k < 10) (hj : 0 ≤ j ∧ j < 10) : has (((1 : Int).toNat <<< k.toNat : Nat) : Int) j = decide (k = j) := by
  rw [has_nat (one_set hk) hj, Int.toNat_natCast]
  show (1 <<< k.toNat).testBit j.toNat = _
  rw [testBit_one_shl, decide_eq_decide]; omega
theorem remI_set {s k : Int} (hs : SetP s) : SetP (remI s k) := difI_set hs
theorem has_rem {s k j : Int} (hs : SetP s) (hk : 0 ≤ k ∧ k < 10) (hj : 0 ≤ j ∧ j < 10) : has (remI s k) j = (has s j && !decide (k = j)) := by
  rw [remI_dif, has_dif hs (one_set hk) hj, has_one hk hj]
theorem rem_add : ∀ s, s < 1024 → ∀ k, k < 10 → s.testBit k = true → (s ^^^ 1 <<< k) + 1 <<< k = s := by decide +kernel
/-- Taking a node away by a difference of numbers. -/
theorem rem_sub {s k : Int} (h : has s k = true) : s - (((1 : Int).toNat <<< k.toNat : Nat) : Int) = remI s k := by
  obtain ⟨h0, h1, h2, h3⟩ := has_range h
  have hs : SetP s := ⟨h0, h1⟩
  have hb : s.toNat.testBit k.toNat = true := by rw [← has_nat hs ⟨h2, h3⟩]; exact h
  have e : (s.toNat &&& 1 <<< k.toNat) = 1 <<< k.toNat := by
    apply Nat.eq_of_testBit_eq; intro i
    rw [Nat.testBit_and, testBit_one_shl]
    by_cases hi : k.toNat = i
    · subst hi; simp [hb]
    · simp [hi]
  have h4 : (s.toNat ^^^ 1 <<< k.toNat) + 1 <<< k.toNat = s.toNat := rem_add s.toNat (by omega) k.toNat (by omega) hb
  unfold remI
  rw [Int.toNat_natCast]
  show s - ((1 <<< k.toNat : Nat) : Int) = ((s.toNat ^^^ (s.toNat &&& 1 <<< k.toNat) : Nat) : Int)
  rw [e]
  omega
/-! ### How many -/
theorem popN_rem {s k : Int} (h : has s k = true) : popN (remI s k).toNat + 1 = popN s.toNat := by
  obtain ⟨h0, h1, h2, h3⟩ := has_range h
  have hs : SetP s := ⟨h0, h1⟩
  have key : ∀ l : List Nat, l.Nodup → (∀ i ∈ l, i < 10) → k.toNat ∈ l → (l.filter (remI s k).toNat.testBit).length + 1 = (l.filter s.toNat.testBit).length := by
    intro l
    induction l with
    | nil => intro _ _ h; cases h
    | cons a l ih =>
      intro hn hr hm
      have hb : ∀ i, i < 10 → (remI s k).toNat.testBit i = (s.toNat.testBit i && !decide (k.toNat = i)) := by
        intro i hi
        have := has_rem hs ⟨h2, h3⟩ (j := (i : Int)) ⟨by omega, by omega⟩
        rw [has_nat (remI_set hs) ⟨by omega, by omega⟩, has_nat hs ⟨by omega, by omega⟩] at this
        simp only [Int.toNat_natCast] at this
        rw [this]
        congr 2
        rw [decide_eq_decide]; omega
      by_cases ha : k.toNat = a
      · subst ha
        have hkb : s.toNat.testBit k.toNat = true := by rw [← has_nat hs ⟨h2, h3⟩]; exact h
        rw [List.filter_cons_of_neg (by rw [hb _ (by omega)]; simp), List.filter_cons_of_pos hkb]
        have hsame : l.filter (remI s k).toNat.testBit = l.filter s.toNat.testBit := by
          apply List.filter_congr
          intro i hi
          rw [hb i (hr i (by simp [hi]))]
          have : k.toNat ≠ i := fun e => (List.nodup_cons.1 hn).1 (e ▸ hi)
          simp [this]
        rw [hsame]; rfl
      · have hm' : k.toNat ∈ l := by rcases List.mem_cons.1 hm with h | h; exact absurd h ha; exact h
        have := ih (List.nodup_cons.1 hn).2 (fun i hi => hr i (by simp [hi])) hm'
        have hba : (remI s k).toNat.testBit a = s.toNat.testBit a := by rw [hb a (hr a (by simp))]; simp [ha]
        cases hsa : s.toNat.testBit a
        · rw [List.filter_cons_of_neg (by rw [hba, hsa]; simp), List.filter_cons_of_neg (by rw [hsa]; simp)]; exact this
        · rw [List.filter_cons_of_pos (by rw [hba]; exact hsa), List.filter_cons_of_pos hsa]; simp only [List.length_cons]; omega
  exact key (List.range 10) (List.nodup_range) (fun i hi => List.mem_range.1 hi) (List.mem_range.2 (by omega))
theorem popN_le (n : Nat) : popN n ≤ 10 := by
  unfold popN
  exact Nat.le_trans (List.length_filter_le _ _) (by simp)
theorem mem_nodesN {s k : Int} : k ∈ nodesN s ↔ has s k = true := by
  unfold nodesN nodesTo
  rw [List.mem_filter, List.mem_map]
  constructor
  · exact fun h => h.2
  · intro h
    obtain ⟨h0, h1, h2, h3⟩ := has_range h
    exact ⟨⟨k.toNat, List.mem_range.2 (by omega), by omega⟩, h⟩
/-! ### Elimination -/
def satAt (c : List Member) (s k : Int) : Bool := (c[k.toNat]!).trust.sat s
/-- The least node of a set whose trust is not satisfied by the set. -/
def unh (c : List Member) (s : Int) : Option Int := (nodesN s).find? fun k => !satAt c s k
def elimF (c : List Member) : Nat → Int → Int × List Int
  | 0, s => (s, [])
  | n + 1, s => match unh c s with
    | none => (s, [])
    | some k => ((elimF c n (remI s k)).1, k :: (elimF c n (remI s k)).2)
def elim (c : List Member) (s : Int) : Int × List Int := if validS s = true then elimF c 11 (andI s (Config.declared c)) else (0, [])
theorem unh_has {c : List Member} {s k : Int} (h : unh c s = some k) : has s k = true := mem_nodesN.1 (List.mem_of_find?_eq_some h)
theorem elimF_none {c : List Member} {n : Nat} {s : Int} (h : unh c s = none) : elimF c n s = (s, []) := by
  cases n with
  | zero => rfl
  | succ n => rw [elimF, h]
theorem elimF_some {c : List Member} {n : Nat} {s k : Int} (h : unh c s = some k) : elimF c (n + 1) s = ((elimF c n (remI s k)).1, k :: (elimF c n (remI s k)).2) := by rw [elimF, h]
theorem elimF_set {c : List Member} : ∀ (n : Nat) {s : Int}, SetP s → SetP (elimF c n s).1
  | 0, s, h => h
  | n + 1, s, h => by
    rw [elimF]
    split
    · exact h
    · exact elimF_set n (remI_set h)
theorem elim_set (c : List Member) (s : Int) : SetP (elim c s).1 := by
  unfold elim
  split
  · rename_i h; exact elimF_set _ (andI_set (validS_SetP.1 h))
  · exact SetP.zero
theorem declFrom_has : ∀ (c : List Member) (i : Nat) (s : Int), SetP s → SetP (declFrom c i s) ∧ ∀ k, 0 ≤ k ∧ k < 10 → (has (declFrom c i s) k = true ↔ (has s k = true ∨ ∃ j, j < c.length ∧ (i : Int) + j = k ∧ (c[j]!).declared = true)) := by
  intro c
  induction c with
  | nil =>
    intro i s hs
    refine ⟨by rw [declFrom]; exact hs, fun k hk => ?_⟩
    rw [declFrom]
    simp
  | cons m c ih =>
    intro i s hs
    rw [declFrom]
    have hs' : SetP (if (m.declared && decide ((i : Int) < 10)) = true then orBit s i else s) := by
      split
      · rename_i h
        have : (i : Int) < 10 := by simp only [Bool.and_eq_true, decide_eq_true_eq] at h; exact h.2
        exact orBit_set hs ⟨by omega, this⟩
      · exact hs
    obtain ⟨h1, h2⟩ := ih (i + 1) _ hs'
    refine ⟨h1, fun k hk => ?_⟩
    rw [h2 k hk]
    have e0 : has (if (m.declared && decide ((i : Int) < 10)) = true then orBit s i else s) k = true ↔ (has s k = true ∨ ((i : Int) = k ∧ m.declared = true)) := by
      split
      · rename_i h
        simp only [Bool.and_eq_true, decide_eq_true_eq] at h
        rw [has_orB hs ⟨by omega, h.2⟩ hk]
        simp [h.1]
      · rename_i h
        simp only [Bool.and_eq_true, decide_eq_true_eq, not_and] at h
        constructor
        · exact .inl
        · rintro (h3 | ⟨h3, h4⟩)
          · exact h3
          · exact absurd hk.2 (by have := h h4; omega)
    rw [e0]
    constructor
    · rintro ((h3 | ⟨h3, h4⟩) | ⟨j, h3, h4, h5⟩)
      · exact .inl h3
      · exact .inr ⟨0, by simp, by simpa using h3, by simpa using h4⟩
      · exact .inr ⟨j + 1, by simp; omega, by push_cast at h4 ⊢; omega, by simpa using h5⟩
    · rintro (h3 | ⟨j, h3, h4, h5⟩)
      · exact .inl (.inl h3)
      · cases j with
        | zero => exact .inl (.inr ⟨by simpa using h4, by simpa using h5⟩)
        | succ j => exact .inr ⟨j, by simp at h3; omega, by push_cast at h4 ⊢; omega, by simpa using h5⟩
theorem decl_set (c : List Member) : SetP (Config.declared c) := (declFrom_has c 0 0 SetP.zero).1
theorem decl_has {c : List Member} {k : Int} (hk : 0 ≤ k ∧ k < 10) : has (Config.declared c) k = true ↔ k < c.length ∧ (c[k.toNat]!).declared = true := by
  rw [Config.declared, (declFrom_has c 0 0 SetP.zero).2 k hk, has_zero]
  constructor
  · rintro (h | ⟨j, h1, h2, h3⟩)
    · cases h
    · have : k.toNat = j := by omega
      rw [this]; exact ⟨by omega, h3⟩
  · rintro ⟨h1, h2⟩
    exact .inr ⟨k.toNat, by omega, by omega, h2⟩
end Go.TQ
