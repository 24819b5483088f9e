/- Plain facts on the files of the monitor: what lies under a node and a slot; the newest of them. Own work. -/
import Derived.Test.YtmfiplnojbjcbaaGreatC25
set_option linter.unusedVariables false
set_option linter.unusedSimpArgs false
namespace Go.TQ
theorem getK_putK (p k : Place) (e : Env) : ∀ m : Fil, getK p (putK k e m) = if k = p then getK p m ++ [e] else getK p m
  | [] => by
    rw [putK, getK, getK]
    split <;> simp [getK]
  | x :: m => by
    rw [putK]
    split
    · rename_i hx
      rw [getK, getK]
      by_cases hp : x.1 = p
      · rw [if_pos hp, if_pos (hx ▸ hp), if_pos hp]
      · rw [if_neg hp, if_neg (hx ▸ hp), if_neg hp]
    · rename_i hx
      rw [getK, getK, getK_putK p k e m]
      by_cases hp : x.1 = p
      · rw [if_pos hp, if_neg (fun h => hx (hp.trans h.symm)), if_pos hp]
      · rw [if_neg hp, if_neg hp]
/-- A sighting that counts, for a place. -/
def Sighting.at (p : Place) (x : Sighting) : Bool := !x.skip && decide (x.place = p)
theorem getK_fold (p : Place) : ∀ (L : List Sighting) (m : Fil), getK p (L.foldl (fun m x => putK x.place x.l.env m) m) = getK p m ++ (L.filter fun x => decide (x.place = p)).map fun x => x.l.env
  | [], m => by simp
  | x :: L, m => by
    rw [List.foldl_cons, getK_fold p L, getK_putK]
    by_cases h : x.place = p
    · rw [if_pos h, List.filter_cons_of_pos (by simpa using h)]; simp
    · rw [if_neg h, List.filter_cons_of_neg (by simpa using h)]
theorem getK_files (p : Place) (l : List Sighting) : getK p (filesL l) = (l.filter (Sighting.at p)).map fun x => x.l.env := by
  unfold filesL filesTo
  rw [getK_fold, List.take_length, List.filter_filter]
  simp only [getK, List.nil_append]
  congr 1
  apply List.filter_congr
  intro x _
  unfold Sighting.at
  rw [Bool.and_comm]
theorem skip_eq (x : Sighting) : x.skip = !x.countsR := by
  unfold Sighting.skip Sighting.countsR
  rw [validP_eq]
  cases decide (x.l.kind = 2) <;> cases x.l.env.validR <;> cases decide (x.fr = x.l.env.node) <;> rfl
theorem at_eq (p : Place) (x : Sighting) : x.at p = (x.countsR && decide (x.place = p)) := by unfold Sighting.at; rw [skip_eq, Bool.not_not]
theorem at_valid {p : Place} {x : Sighting} (h : x.at p = true) : x.l.env.validR = true ∧ x.fr = x.l.env.node ∧ x.l.env.node = p.node ∧ x.l.env.slot = p.slot := by
  rw [at_eq] at h
  simp only [Sighting.countsR, Bool.and_eq_true, decide_eq_true_eq] at h
  obtain ⟨⟨⟨_, h1⟩, h2⟩, h3⟩ := h
  exact ⟨h1, h2, by rw [← h3]; rfl, by rw [← h3]; rfl⟩
/-! ### The newest one -/
theorem better_seq (b e : Env) : b.seq ≤ (better b e).seq ∧ e.seq ≤ (better b e).seq := by
  unfold better; split <;> omega
theorem fold_better_max : ∀ (l : List Env) (b : Env), b.seq ≤ (l.foldl better b).seq ∧ ∀ e ∈ l, e.seq ≤ (l.foldl better b).seq
  | [], b => ⟨Int.le_refl _, by simp⟩
  | x :: l, b => by
    rw [List.foldl_cons]
    obtain ⟨h1, h2⟩ := fold_better_max l (better b x)
    have := better_seq b x
    refine ⟨by omega, fun e he => ?_⟩
    rcases List.mem_cons.1 he with rfl | he
    · omega
    · exact h2 e he
theorem newestL_max {l : List Env} : ∀ e ∈ l, e.seq ≤ (newestL l).1.seq := by
  cases l with
  | nil => simp
  | cons x l => exact (fold_better_max (x :: l) x).2
theorem newestL_mem {l : List Env} (h : l ≠ []) : (newestL l).2 = true ∧ (newestL l).1 ∈ l := by
  cases l with
  | nil => exact absurd rfl h
  | cons x l =>
    refine ⟨rfl, ?_⟩
    show (x :: l).foldl better x ∈ x :: l
    rcases fold_better_mem (x :: l) x with h1 | h1
    · rw [h1]; simp
    · exact h1
theorem newestL_snd (l : List Env) : (newestL l).2 = decide (0 < l.length) := by
  cases l with
  | nil => rfl
  | cons x l => simp [newestL]
theorem eqB_refl (a : Ballot) : a.eqB a = true := by simp [Ballot.eqB]
theorem sameR_refl (e : Env) : e.sameR e = true := by
  simp [Env.sameR, eqB_refl, (Trust.same_iff e.trust e.trust).2 rfl]
/-- The reference's newest one is the program's. -/
theorem newestR_fold (node slot : Int) : ∀ (l : List Sighting) (b : Env × Bool), l.foldl (stepR node slot) b = ((l.filter (Sighting.at ⟨node, slot⟩)).map fun x => x.l.env).foldl (fun b e => if (!b.2 || decide (b.1.seq < e.seq)) = true then (e, true) else b) b
  | [], b => rfl
  | x :: l, b => by
    rw [List.foldl_cons, newestR_fold node slot l]
    have hp : decide (x.place = ⟨node, slot⟩) = (decide (x.l.env.node = node) && decide (x.l.env.slot = slot)) := by
      rw [← Bool.decide_and, decide_eq_decide]
      unfold Sighting.place
      exact Place.mk.injEq _ _ _ _ ▸ Iff.rfl
    have ha := at_eq ⟨node, slot⟩ x
    rw [hp] at ha
    cases h : x.at ⟨node, slot⟩
    · rw [List.filter_cons_of_neg (by rw [h]; simp)]
      congr 1
      rw [h] at ha
      rw [stepR, Bool.and_assoc x.countsR, ← ha]; simp
    · rw [List.filter_cons_of_pos h, List.map_cons, List.foldl_cons]
      congr 1
      rw [h] at ha
      rw [stepR, Bool.and_assoc x.countsR, ← ha]; simp
theorem newestR_eq (l : List Sighting) (node slot : Int) : newestR l node slot = newestL (getK ⟨node, slot⟩ (filesL l)) := by
  rw [newestR, newestR_fold, getK_files]
  generalize ((l.filter (Sighting.at ⟨node, slot⟩)).map fun x => x.l.env) = L
  have key : ∀ (L : List Env) (b : Env), L.foldl (fun b e => if (!b.2 || decide (b.1.seq < e.seq)) = true then (e, true) else b) (b, true) = (L.foldl better b, true) := by
    intro L
    induction L with
    | nil => exact fun b => rfl
    | cons x L ih =>
      intro b
      rw [List.foldl_cons, List.foldl_cons, ← ih]
      congr 1
      unfold better
      by_cases h : b.seq < x.seq <;> simp [h]
  cases L with
  | nil => rfl
  | cons x L =>
    rw [List.foldl_cons, newestL]
    show List.foldl _ (x, true) L = _
    rw [key, List.foldl_cons]
    congr 2
    unfold better
    simp
end Go.TQ
