/- Plain facts on sorting by insertion. Own work. -/
import Derived.Test.YtmfiplnojbjcbaaGreatC13
set_option linter.unusedVariables false
set_option linter.unusedSimpArgs false
namespace Go.TQ
section
variable {α : Type}
/-- A comparison that orders. -/
structure OrdC (c : α → α → Int) : Prop where
  asym : ∀ a b, c a b < 0 → ¬ c b a < 0
  trans : ∀ a b d, ¬ c b a < 0 → ¬ c d b < 0 → ¬ c d a < 0
def SortedC (c : α → α → Int) (l : List α) : Prop := l.Pairwise fun a b => ¬ c b a < 0
def OutI (c : α → α → Int) (l0 l : List α) (i : Nat) : Prop := SortedC c (l.take i) ∧ l.Perm l0
def InsI (c : α → α → Int) (l0 l : List α) (i j : Nat) : Prop :=
  ∃ (A : List α) (v : α) (B C : List α), l = A ++ v :: (B ++ C) ∧ j = A.length ∧ i = A.length + B.length ∧ SortedC c (A ++ B) ∧ (∀ b ∈ B, c v b < 0) ∧ l.Perm l0
theorem OutI.begin (c : α → α → Int) (l : List α) : OutI c l l 1 := by
  refine ⟨?_, List.Perm.refl _⟩
  cases l with
  | nil => exact List.Pairwise.nil
  | cons x l => exact List.pairwise_singleton _ _
theorem OutI.enter {c : α → α → Int} {l0 l : List α} {i : Nat} (h : OutI c l0 l i) (hi : i < l.length) : InsI c l0 l i i := by
  refine ⟨l.take i, l[i], [], l.drop (i + 1), ?_, by simp; omega, by simp; omega, by simpa using h.1, by simp, h.2⟩
  simp
theorem get_mid [Inhabited α] (A : List α) (v : α) (R : List α) : (A ++ v :: R)[A.length]! = v := by simp
theorem get_mid2 [Inhabited α] (A : List α) (w v : α) (R : List α) : ((A ++ [w]) ++ v :: R)[A.length]! = w := by simp
theorem swap_mid (A : List α) (w v : α) (R : List α) : ((((A ++ [w]) ++ v :: R).set (A.length + 1) w).set A.length v) = A ++ v :: w :: R := by
  simp [List.set_append]
theorem InsI.step [Inhabited α] {c : α → α → Int} (ho : OrdC c) {l0 l : List α} {i j : Nat} (h : InsI c l0 l i j) (hj : 0 < j) (hl : c l[j]! l[j - 1]! < 0) : InsI c l0 ((l.set j l[j - 1]!).set (j - 1) l[j]!) i (j - 1) := by
  obtain ⟨A, v, B, C, rfl, rfl, rfl, hs, hb, hp⟩ := h
  obtain ⟨A', w, rfl⟩ : ∃ A' w, A = A' ++ [w] := by
    rcases List.eq_nil_or_concat A with rfl | ⟨A', w, rfl⟩
    · simp at hj
    · exact ⟨A', w, by simp⟩
  have e1 : (A' ++ [w]).length = A'.length + 1 := by simp
  rw [get_mid, e1, Nat.add_sub_cancel, get_mid2] at hl ⊢
  rw [swap_mid]
  have hpm : (A' ++ v :: w :: (B ++ C)).Perm ((A' ++ [w]) ++ v :: (B ++ C)) := by
    rw [List.append_assoc]
    exact List.Perm.append_left A' (List.Perm.swap w v (B ++ C))
  refine ⟨A', v, w :: B, C, rfl, rfl, by simp; omega, ?_, ?_, hpm.trans hp⟩
  · simpa [List.append_assoc] using hs
  · intro b hb'
    rcases List.mem_cons.1 hb' with rfl | hb'
    · exact hl
    · exact hb b hb'
theorem InsI.leave [Inhabited α] {c : α → α → Int} (ho : OrdC c) {l0 l : List α} {i j : Nat} (h : InsI c l0 l i j) (hj : j = 0 ∨ ¬ c l[j]! l[j - 1]! < 0) : OutI c l0 l (i + 1) := by
  obtain ⟨A, v, B, C, rfl, rfl, rfl, hs, hb, hp⟩ := h
  refine ⟨?_, hp⟩
  have ht : (A ++ v :: (B ++ C)).take (A.length + B.length + 1) = A ++ v :: B := by
    rw [show A ++ v :: (B ++ C) = (A ++ v :: B) ++ C by simp, List.take_append, List.take_of_length_le (by simp; omega)]
    simp; omega
  rw [ht]
  unfold SortedC at hs ⊢
  rw [List.pairwise_append] at hs
  rw [List.pairwise_append, List.pairwise_cons]
  refine ⟨hs.1, ⟨fun b hb' => ho.asym _ _ (hb b hb'), hs.2.1⟩, ?_⟩
  intro a ha b hb'
  rcases List.mem_cons.1 hb' with rfl | hb'
  · rcases List.eq_nil_or_concat A with rfl | ⟨A', w, rfl⟩
    · simp at ha
    · rw [List.concat_eq_append] at *
      have e1 : (A' ++ [w]).length = A'.length + 1 := by simp
      rw [get_mid, e1, Nat.add_sub_cancel, get_mid2] at hj
      have hw : ¬ c b w < 0 := hj.resolve_left (by omega)
      rcases List.mem_append.1 ha with h1 | h1
      · have := (List.pairwise_append.1 hs.1).2.2 a h1 w (by simp)
        exact ho.trans a w b this hw
      · simp at h1; subst h1; exact hw
  · exact hs.2.2 a ha b hb'
theorem OutI.last {c : α → α → Int} {l0 l : List α} {i : Nat} (h : OutI c l0 l i) (hi : l.length ≤ i) : SortedC c l ∧ l.Perm l0 := by
  have := h.1
  rw [List.take_of_length_le hi] at this
  exact ⟨this, h.2⟩
end
end Go.TQ
