/- Plain facts: what the program and the reference take for a valid envelope is one; so are votes. Own work. -/
import Derived.Test.YtmfiplnojbjcbaaGreatC19
set_option linter.unusedVariables false
set_option linter.unusedSimpArgs false
namespace Go.TQ
theorem validP_eq (e : Env) : e.validP = e.validR := by
  have h1 : (e.e1 || !e.b.valid) = e.c1 := by
    simp only [Env.e1, Env.c1]
    rw [show decide (10 ≤ e.node) = decide (9 < e.node) by rw [decide_eq_decide]; omega]
  unfold Env.validP Env.validR
  rw [← h1]
  by_cases hk1 : e.kind = 1
  · simp only [hk1, if_true]
    unfold Env.prepares Env.d1 Env.d2 Env.c3 Env.c4 Env.c5 Env.c6 Env.c7 Env.prime Ballot.finite Ballot.optional
    simp only [Ballot.less_eq, Ballot.prepares_eq, Ballot.aborts_eq]
    have hh : decide (e.high = 0) = !decide (0 < e.high) ∨ e.high < 0 := by
      by_cases h : e.high < 0
      · exact .inr h
      · left
        by_cases h2 : e.high = 0
        · simp [h2]
        · have : 0 < e.high := by omega
          simp [h2, this]
    have hb : decide (1000 < e.b.c) = !decide (e.b.c ≤ 1000) := by
      by_cases h : e.b.c ≤ 1000
      · simp [h]
      · simp [h]; omega
    rw [hb]
    cases e.e1 <;> cases e.b.valid <;> cases decide (e.b.c ≤ 1000) <;> simp only [Bool.or_true, Bool.or_false, Bool.false_or, Bool.true_or, Bool.not_true, Bool.not_false, if_true, Bool.and_true, Bool.and_false, Bool.true_and, Bool.false_and, Bool.false_eq_true, if_false]
    cases e.p.isZero <;> cases e.p.valid <;> cases e.q.isZero <;> cases e.q.valid <;> cases e.q.lessR e.p <;> cases e.q.compat e.p <;> simp only [Bool.or_true, Bool.or_false, Bool.false_or, Bool.true_or, Bool.not_true, Bool.not_false, if_true, Bool.and_true, Bool.and_false, Bool.true_and, Bool.false_and, Bool.false_eq_true, if_false]
    all_goals
      by_cases hl : e.low < 0
      · simp [hl]
      · by_cases hh2 : e.high < e.low
        · simp [hh2]
        · by_cases hc : e.b.c < e.high
          · simp [hc]
          · simp only [hl, hh2, hc, decide_false, Bool.or_false, Bool.false_eq_true, if_false]
            have hh3 : decide (e.high = 0) = !decide (0 < e.high) := hh.resolve_right (by omega)
            rw [hh3]
            cases decide (0 < e.high) <;> simp
            all_goals (cases e.p.preparesR e.q ⟨e.high, e.b.v⟩ <;> simp)
  · simp only [hk1, if_false]
    by_cases hk2 : e.kind = 2
    · simp only [hk2, if_true]
      unfold Env.e8 Env.c8 Ballot.finite Env.ranged
      cases e.e1 <;> cases e.b.valid <;> simp
      cases decide (e.b.c ≤ 1000) <;> cases e.p.valid <;> cases e.p.compat e.b <;> cases e.q.isZero <;> cases decide (1 ≤ e.low) <;> cases decide (e.low ≤ e.high) <;> cases decide (e.high ≤ 1000) <;> cases decide (e.high ≤ e.p.c) <;> rfl
    · simp only [hk2, if_false]
      by_cases hk3 : e.kind = 3
      · simp only [hk3, if_true]
        unfold Env.e9 Env.c9 Env.ranged
        cases e.e1 <;> cases e.b.valid <;> simp
        cases e.p.isZero <;> cases e.q.isZero <;> cases decide (1 ≤ e.low) <;> cases decide (e.low ≤ e.high) <;> cases decide (e.high ≤ 1000) <;> rfl
      · simp [hk3]
theorem votes_eq {e : Env} (b : Ballot) (h : e.validR = true) : e.votesR b = e.rVotes b := by
  unfold Env.votesR Env.rVotes
  rw [h]; simp
theorem c8_zero {e : Env} (h : e.validR = true) (hk : e.kind = 2) : e.q.isZero = true := by
  unfold Env.validR at h
  split at h
  · cases h
  · simp only [hk, show ¬ (2 : Int) = 1 by decide, if_false, if_true] at h
    unfold Env.c8 at h
    simp only [Bool.and_eq_true] at h
    exact h.1.1.1.1.2
theorem kind_of {e : Env} (h : e.validR = true) : e.kind = 1 ∨ e.kind = 2 ∨ e.kind = 3 := by
  unfold Env.validR at h
  split at h
  · cases h
  · split at h
    · left; assumption
    · split at h
      · right; left; assumption
      · split at h
        · right; right; assumption
        · cases h
theorem accepts_eq {e : Env} (b : Ballot) (h : e.validR = true) : e.acceptsR b = e.rAccepts b := by
  unfold Env.acceptsR Env.rAccepts
  rw [h]
  simp only [Bool.not_true, Bool.false_or]
  split
  · rfl
  · rcases kind_of h with hk | hk | hk
    · simp [hk, Ballot.prepares_eq]
    · have hz := c8_zero h hk
      simp only [hk, show ¬ (2 : Int) = 3 by decide, show ¬ (2 : Int) = 1 by decide, if_false, if_true]
      unfold Ballot.preparesR
      have : e.q.covers b = false := by unfold Ballot.covers; rw [hz]; rfl
      rw [this, hz]; simp
    · simp [hk]
theorem acceptsP_eq (e : Env) (b : Ballot) : e.acceptsP b = e.acceptsR b := by
  unfold Env.acceptsP
  rw [validP_eq]
  cases h : e.validR
  · unfold Env.acceptsR; rw [h]; rfl
  · rw [accepts_eq b h]; rfl
/-- What the validity of an envelope says of its numbers. -/
theorem valid_node {e : Env} (h : e.validR = true) : 0 ≤ e.node ∧ e.node ≤ 9 ∧ 1 ≤ e.slot ∧ e.slot ≤ 1000000 ∧ 1 ≤ e.seq ∧ e.seq ≤ 1000000 ∧ e.trust.valid = 0 ∧ e.b.valid = true := by
  unfold Env.validR at h
  split at h
  · cases h
  · rename_i h1
    simp only [Env.c1, Bool.or_eq_true, decide_eq_true_eq, Bool.not_eq_true', decide_eq_false_iff_not, not_or, Decidable.not_not, Bool.not_eq_false] at h1
    obtain ⟨⟨⟨⟨⟨⟨⟨a1, a2⟩, a3⟩, a4⟩, a5⟩, a6⟩, a7⟩, a8⟩ := h1
    exact ⟨by omega, by omega, by omega, by omega, by omega, by omega, a7, a8⟩
end Go.TQ
