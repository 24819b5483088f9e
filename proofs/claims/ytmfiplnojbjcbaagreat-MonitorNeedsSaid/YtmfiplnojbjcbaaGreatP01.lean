/- Plain facts: sets as bits, trusts of the tape are valid, the two orders of ballots and the two validities are one. Own work. -/
import Derived.Test.YtmfiplnojbjcbaaGreatC11
set_option linter.unusedVariables false
set_option linter.unusedSimpArgs false
namespace Go.TQ

/-! ### Sets -/
theorem orBit_nat (s k : Int) : (orBit s k).toNat = s.toNat ||| 1 <<< k.toNat := by
  unfold orBit
  rw [Int.toNat_natCast, Int.toNat_natCast]; rfl
theorem orBit_lt {s k : Int} (h1 : s < 1024) (h2 : k < 10) : orBit s k < 1024 := by
  have h : (orBit s k).toNat < 1024 := by
    rw [orBit_nat]
    refine Nat.or_lt_two_pow (n := 10) (by omega) ?_
    rw [Nat.one_shiftLeft]
    exact Nat.pow_lt_pow_right (by omega) (by omega)
  have := orBit_nn s k
  omega
theorem has_def {s k : Int} (h0 : 0 ≤ s) (h1 : s < 1024) (h2 : 0 ≤ k) (h3 : k < 10) : has s k = s.toNat.testBit k.toNat := by
  simp [has, h0, h1, h2, h3]
theorem testBit_one_shl (a b : Nat) : (1 <<< a).testBit b = decide (a = b) := by
  rw [Nat.one_shiftLeft]; exact Nat.testBit_two_pow
theorem has_orBit {s k j : Int} (h0 : 0 ≤ s) (h1 : s < 1024) (h2 : 0 ≤ k) (h3 : k < 10) (h4 : 0 ≤ j) (h5 : j < 10) : has (orBit s k) j = (has s j || decide (k = j)) := by
  rw [has_def (orBit_nn s k) (orBit_lt h1 h3) h4 h5, has_def h0 h1 h4 h5, orBit_nat, Nat.testBit_or, testBit_one_shl]
  congr 1
  rw [decide_eq_decide]
  omega
theorem has_zero (k : Int) : has 0 k = false := by simp [has]
theorem has_range {s k : Int} (h : has s k = true) : 0 ≤ s ∧ s < 1024 ∧ 0 ≤ k ∧ k < 10 := by
  simp only [has, Bool.and_eq_true, decide_eq_true_eq] at h
  omega
theorem ofN_fine : ∀ (l : List Int) (s : Int), 0 ≤ s → s < 1024 → (∀ k ∈ l, 0 ≤ k ∧ k < 10) → l.Nodup → (∀ k ∈ l, has s k = false) → (ofN l s).2 = 0
  | [], s, _, _, _, _, _ => rfl
  | k :: l, s, h0, h1, hr, hn, hs => by
    have hk := hr k (by simp)
    rw [ofN, if_neg (by simp; omega), if_neg (by rw [hs k (by simp)]; simp)]
    refine ofN_fine l _ (orBit_nn s k) (orBit_lt h1 hk.2) (fun x hx => hr x (by simp [hx])) (List.nodup_cons.1 hn).2 fun x hx => ?_
    have hx' := hr x (by simp [hx])
    rw [has_orBit h0 h1 hk.1 hk.2 hx'.1 hx'.2, hs x (by simp [hx])]
    have : k ≠ x := fun e => (List.nodup_cons.1 hn).1 (e ▸ hx)
    simp [this]
theorem badN_any {l : List Int} (h : ∀ k ∈ l, 0 ≤ k ∧ k < 10) : l.any badN = false := by
  rw [List.any_eq_false]
  intro x hx
  have := h x hx
  simp [badN]; omega
theorem len_le_of_nodup {l : List Int} {n : Nat} (hn : l.Nodup) (h : ∀ k ∈ l, 0 ≤ k ∧ k < n) : l.length ≤ n := by
  have h1 : (l.map Int.toNat).Nodup := by
    rw [List.nodup_iff_pairwise_ne, List.pairwise_map]
    rw [List.nodup_iff_pairwise_ne] at hn
    exact hn.imp_of_mem fun {a b} ha hb hab => by
      have := h a ha; have := h b hb; omega
  have h2 : (l.map Int.toNat).length ≤ (List.range n).length := by
    refine List.Nodup.length_le_of_subset h1 fun x hx => ?_
    obtain ⟨y, hy, rfl⟩ := List.mem_map.1 hx
    have := h y hy
    exact List.mem_range.2 (by omega)
  simpa using h2
theorem TrP.size {n : Nat} {t : Trust} (h : TrP n t) : 0 ≤ t.size ∧ t.size ≤ n + 2 := by
  have h0 := Trust.size_nn t
  have h1 := len_le_of_nodup h.nd h.lt
  refine ⟨h0, ?_⟩
  rw [Trust.size_def]
  rcases h.inn with hi | ⟨x, hx, hi⟩
  · rw [hi, sizes]; simp; omega
  · rw [hi, sizes, sizes, Trust.size]; simp only [sizes, List.length_cons, List.length_nil]; omega
theorem TrP.ok {n : Nat} {t : Trust} (h : TrP n t) (hn : n ≤ 1000) : t.ok := by
  have := h.size
  unfold Trust.ok
  omega
theorem TrP.fine {n : Nat} {t : Trust} (h : TrP n t) (hn : n ≤ 10) : t.valid = 0 := by
  have hs := h.size
  have hd : t.depth ≤ 2 := by
    rw [Trust.depth_def]
    rcases h.inn with hi | ⟨x, hx, hi⟩
    · rw [hi, depths]; omega
    · rw [hi, depths, depths, Trust.depth_def]; simp [Trust.inner, depths]; omega
  have hr : ∀ k ∈ t.nodes, 0 ≤ k ∧ k < 10 := fun k hk => by have := h.lt k hk; omega
  rw [Trust.valid, if_neg (by simp; omega), Trust.check_def, if_neg (by have := h.lo; have := h.hi; simp; omega), if_neg (by rw [badN_any hr]; simp)]
  rw [if_neg (by rw [ofN_fine t.nodes 0 (by omega) (by omega) hr h.nd (fun k _ => has_zero k)]; simp)]
  rcases h.inn with hi | ⟨x, hx, hi⟩
  · rw [hi, checks]
  · rw [hi, checks, checks]
    have : (Trust.mk 1 [x] []).check = 0 := by
      rw [Trust.check_def]
      have hx' : 0 ≤ x ∧ x < 10 := by omega
      rw [if_neg (by simp [Trust.thr, Trust.nodes, Trust.inner]), if_neg (by simp [Trust.nodes, badN]; omega), if_neg, Trust.inner, checks]
      rw [ofN_fine _ 0 (by omega) (by omega) (by simp [Trust.nodes]; omega) (by simp [Trust.nodes]) (fun k _ => has_zero k)]
      simp
    rw [this]; simp
/-! ### Orders -/
theorem cmpVal_lt (a b : ByteArray) : decide (cmpVal a b < 0) = lessVal a b := by
  unfold cmpVal lessVal cmpInt cmpStr
  by_cases h1 : len a < len b
  · simp [orInt, h1, show len a ≠ len b by omega]
  · by_cases h2 : len b < len a
    · simp [orInt, h1, h2, show len a ≠ len b by omega]
    · have h3 : len a = len b := by omega
      simp only [h3, Int.lt_irrefl, if_false, ne_eq, not_true_eq_false]
      by_cases h4 : bLess a b = true
      · simp [orInt, h4]
      · by_cases h5 : bGt a b = true
        · simp [orInt, h4, h5]
        · simp [orInt, h4, h5]
theorem Ballot.less_eq (a b : Ballot) : a.less b = a.lessR b := by
  unfold Ballot.less Ballot.lessR Ballot.cmp cmpInt
  by_cases h1 : a.c < b.c
  · simp [orInt, h1, show a.c ≠ b.c by omega]
  · by_cases h2 : b.c < a.c
    · simp [orInt, h1, h2, show a.c ≠ b.c by omega]
    · have h3 : a.c = b.c := by omega
      rw [if_neg h1, if_neg h2, if_neg (by omega), ← cmpVal_lt]
      simp only [orInt]
      by_cases h : cmpVal a.v b.v = 0 <;> simp [h]
theorem Ballot.aborts_eq (p b : Ballot) : p.aborts b = p.abortsR b := by unfold Ballot.aborts Ballot.abortsR; rw [Ballot.less_eq]
theorem Ballot.prepares_eq (p q b : Ballot) : p.prepares q b = p.preparesR q b := by unfold Ballot.prepares Ballot.preparesR; rw [Ballot.less_eq]
end Go.TQ
