/- Plain facts on who is needed: the sets that are said to be needed are sufficient and minimal; few subsets come into question. Own work. -/
import Derived.Test.YtmfiplnojbjcbaaGreatP06
set_option linter.unusedVariables false
set_option linter.unusedSimpArgs false
namespace Go.TQ
/-! ### The newest envelopes fit -/
theorem mem_getK {p : Place} {e : Env} {l : List Sighting} (h : e ∈ getK p (filesL l)) : ∃ x ∈ l, x.l.env = e ∧ e.validR = true ∧ e.node = p.node ∧ e.slot = p.slot := by
  rw [getK_files] at h
  obtain ⟨x, hx, rfl⟩ := List.mem_map.1 h
  obtain ⟨h1, h2⟩ := List.mem_filter.1 hx
  obtain ⟨a, b, c, d⟩ := at_valid h2
  exact ⟨x, h1, rfl, a, c, d⟩
theorem newest_in {p : Place} {m : Fil} (h : (newestL (getK p m)).2 = true) : (newestL (getK p m)).1 ∈ getK p m := by
  refine (newestL_mem fun e => ?_).2
  rw [e] at h
  cases h
theorem newest_fit {l : List Sighting} (hf : ∀ x ∈ l, FitP x) {p : Place} (h : (newestL (getK p (filesL l))).2 = true) :
    (newestL (getK p (filesL l))).1.validR = true ∧ (newestL (getK p (filesL l))).1.node = p.node ∧ (0 ≤ p.node ∧ p.node < 4) ∧ (newestL (getK p (filesL l))).1.trust.uses < 16 := by
  obtain ⟨x, hx, he, hv, hn, _⟩ := mem_getK (newest_in h)
  have := hf x hx (by rw [he]; exact hv)
  rw [he] at this
  exact ⟨hv, hn, hn ▸ this.1, this.2⟩
theorem othTo_lt {t : Trust} {l : List Sighting} (hf : ∀ x ∈ l, FitP x) (ht : t.uses < 16) (slot : Int) : ∀ n, othTo t (filesL l) slot n < 16
  | 0 => ht
  | n + 1 => by
    rw [othTo]
    split
    · rename_i h
      exact orBit_lt4 (othTo_lt hf ht slot n) (newest_fit hf h).2.2.1.2
    · exact othTo_lt hf ht slot n

/-! ### Who helps -/
theorem whoL_snoc (p : Env → Bool) (l : List Env) (e : Env) : whoL p (l ++ [e]) = if p e = true then orBit (whoL p l) e.node else whoL p l := by
  unfold whoL
  rw [List.foldl_append]; rfl
/-- The nodes below k that help. -/
def votT (m : Fil) (slot : Int) (b : Ballot) (k : Nat) : Int := whoL (helpP b) ((seenTo m slot k).filter Env.validP)
theorem seen_yes {m : Fil} {slot : Int} {k : Nat} (h : (newestL (getK ⟨(k : Int), slot⟩ m)).2 = true) : seenTo m slot k ++ [(newestL (getK ⟨(k : Int), slot⟩ m)).1] = seenTo m slot (k + 1) := by rw [seenTo, if_pos h]
theorem seen_no {m : Fil} {slot : Int} {k : Nat} (h : (newestL (getK ⟨(k : Int), slot⟩ m)).2 = false) : seenTo m slot k = seenTo m slot (k + 1) := by rw [seenTo, if_neg (by rw [h]; simp)]
theorem help_eq {e : Env} {b : Ballot} (h : e.validR = true) : (e.votesR b || e.acceptsR b) = helpP b e := by rw [votes_eq b h, accepts_eq b h, helpP]
theorem vot_yes {l : List Sighting} {slot : Int} {b : Ballot} {k : Nat} (h : (newestL (getK ⟨(k : Int), slot⟩ (filesL l))).2 = true)
    (hp : ((newestL (getK ⟨(k : Int), slot⟩ (filesL l))).1.votesR b || (newestL (getK ⟨(k : Int), slot⟩ (filesL l))).1.acceptsR b) = true) : orBit (votT (filesL l) slot b k) (k : Int) = votT (filesL l) slot b (k + 1) := by
  obtain ⟨_, _, _, hv, hn, _⟩ := mem_getK (newest_in h)
  rw [help_eq hv] at hp
  unfold votT
  rw [← seen_yes h, List.filter_append, List.filter_cons_of_pos (by rw [validP_eq]; exact hv), List.filter_nil, whoL_snoc, if_pos hp, hn]
theorem vot_no {l : List Sighting} {slot : Int} {b : Ballot} {k : Nat} (h : (newestL (getK ⟨(k : Int), slot⟩ (filesL l))).2 = true)
    (hp : ((newestL (getK ⟨(k : Int), slot⟩ (filesL l))).1.votesR b || (newestL (getK ⟨(k : Int), slot⟩ (filesL l))).1.acceptsR b) = false) : votT (filesL l) slot b k = votT (filesL l) slot b (k + 1) := by
  obtain ⟨_, _, _, hv, hn, _⟩ := mem_getK (newest_in h)
  rw [help_eq hv] at hp
  unfold votT
  rw [← seen_yes h, List.filter_append, List.filter_cons_of_pos (by rw [validP_eq]; exact hv), List.filter_nil, whoL_snoc, if_neg (by rw [hp]; simp)]
theorem vot_none {m : Fil} {slot : Int} {b : Ballot} {k : Nat} (h : (newestL (getK ⟨(k : Int), slot⟩ m)).2 = false) : votT m slot b k = votT m slot b (k + 1) := by
  unfold votT
  rw [← seen_no h]
theorem votT_set (m : Fil) (slot : Int) (b : Ballot) (k : Nat) : SetP (votT m slot b k) := whoL_set heard_node
theorem helpL_vot (m : Fil) (p : Place) : helpL m p = votT m p.slot (ownL m p).1.b 10 := rfl
theorem has_who {p : Env → Bool} {k : Int} (hk : 0 ≤ k ∧ k < 10) : ∀ (l : List Env) (s : Int), SetP s → (∀ e ∈ l, 0 ≤ e.node ∧ e.node < 10) → has (l.foldl (fun s e => if p e = true then orBit s e.node else s) s) k = (has s k || l.any fun e => p e && decide (e.node = k))
  | [], s, _, _ => by simp
  | e :: l, s, hs, hl => by
    have he := hl e (by simp)
    rw [List.foldl_cons, has_who hk l _ (by split; exact orBit_set hs he; exact hs) (fun x hx => hl x (by simp [hx])), List.any_cons]
    cases hp : p e
    · simp
    · rw [if_pos rfl, has_orB hs he hk, Bool.true_and, Bool.or_assoc]
theorem seen_mem {m : Fil} {slot : Int} {n : Nat} (h : (newestL (getK ⟨(n : Int), slot⟩ m)).2 = true) : ∀ k, n < k → (newestL (getK ⟨(n : Int), slot⟩ m)).1 ∈ seenTo m slot k
  | 0, hk => by omega
  | k + 1, hk => by
    rcases Nat.lt_or_eq_of_le (Nat.le_of_lt_succ hk) with h1 | h1
    · rw [seenTo]
      split
      · exact List.mem_append_left _ (seen_mem h k h1)
      · exact seen_mem h k h1
    · subst h1
      rw [← seen_yes h]
      exact List.mem_append_right _ (by simp)
theorem covers_self {b : Ballot} (h : b.valid = true) : b.isZero = false ∧ b.covers b = true := by
  have hz : b.isZero = false := by
    simp only [Ballot.valid, Bool.and_eq_true, Bool.or_eq_true, decide_eq_true_eq] at h
    simp only [Ballot.isZero, Bool.and_true, Bool.and_eq_false_iff, decide_eq_false_iff_not]
    left
    omega
  refine ⟨hz, ?_⟩
  simp [Ballot.covers, hz, Ballot.compat]
theorem own_helps {l : List Sighting} (hf : ∀ x ∈ l, FitP x) {node : Int} (hs : stuckNo (filesL l) ⟨node, 1⟩ = false) : (0 ≤ node ∧ node < 4) ∧ has (helpL (filesL l) ⟨node, 1⟩) node = true := by
  simp only [stuckNo, Bool.or_eq_false_iff, Bool.not_eq_false', decide_eq_true_eq] at hs
  obtain ⟨⟨h1, h2⟩, _⟩ := hs
  unfold ownL at h1 h2
  obtain ⟨hv, hn, hr, _⟩ := newest_fit hf h1
  have hr : 0 ≤ node ∧ node < 4 := hr
  refine ⟨hr, ?_⟩
  obtain ⟨n, rfl⟩ : ∃ n : Nat, node = (n : Int) := ⟨node.toNat, by omega⟩
  have hm := seen_mem h1 10 (by omega)
  unfold helpL whoL
  rw [has_who ⟨by omega, by omega⟩ _ 0 SetP.zero heard_node, has_zero, Bool.false_or, List.any_eq_true]
  refine ⟨_, List.mem_filter.2 ⟨hm, by rw [validP_eq]; exact hv⟩, ?_⟩
  have hc := covers_self (valid_node hv).2.2.2.2.2.2.2
  rw [Bool.and_eq_true, decide_eq_true_eq]
  refine ⟨?_, hn⟩
  show helpP _ _ = true
  unfold helpP Env.rVotes ownL
  rw [hc.1, h2]
  simp [hc.2]

/-! ### Few subsets -/
theorem difI_lt4 {a b : Int} (ha : a < 16) : difI a b < 16 := by
  have h1 : a.toNat &&& b.toNat ≤ a.toNat := Nat.and_le_left
  have h : a.toNat ^^^ (a.toNat &&& b.toNat) < 16 := Nat.xor_lt_two_pow (n := 4) (by omega) (by omega)
  unfold difI; omega
theorem subs_table : ∀ o : Nat, o < 15 → (subsS (o : Int)).length ≤ 12 := by decide +kernel
theorem oth_small {l : List Sighting} (hf : ∀ x ∈ l, FitP x) {node : Int} (hs : stuckNo (filesL l) ⟨node, 1⟩ = false) : (subsS (othL (filesL l) ⟨node, 1⟩)).length ≤ 12 := by
  obtain ⟨hr, hh⟩ := own_helps hf hs
  have ho : (ownL (filesL l) ⟨node, 1⟩).2 = true := by
    simp only [stuckNo, Bool.or_eq_false_iff, Bool.not_eq_false'] at hs
    exact hs.1.1
  have hu := (newest_fit hf (p := ⟨node, 1⟩) ho).2.2.2
  have hlt := othTo_lt hf hu 1 10
  have hnn := othTo_nn (ownL (filesL l) ⟨node, 1⟩).1.trust (filesL l) 1 10
  have h16 : othL (filesL l) ⟨node, 1⟩ < 16 := difI_lt4 hlt
  have h0 : 0 ≤ othL (filesL l) ⟨node, 1⟩ := Int.natCast_nonneg _
  have hn : has (othL (filesL l) ⟨node, 1⟩) node = false := by
    refine (has_dif (k := node) ⟨hnn, Int.lt_trans hlt (by decide)⟩ (votT_set (filesL l) 1 (ownL (filesL l) ⟨node, 1⟩).1.b 10) ⟨hr.1, by omega⟩).trans ?_
    rw [show has (votT (filesL l) 1 (ownL (filesL l) ⟨node, 1⟩).1.b 10) node = true from hh]; simp
  have h15 : othL (filesL l) ⟨node, 1⟩ ≠ 15 := by
    intro e
    rw [e] at hn
    have : node = 0 ∨ node = 1 ∨ node = 2 ∨ node = 3 := by omega
    rcases this with rfl | rfl | rfl | rfl <;> revert hn <;> decide
  have := subs_table (othL (filesL l) ⟨node, 1⟩).toNat (by omega)
  rwa [Int.toNat_of_nonneg h0] at this

/-! ### Who is needed -/
theorem subS_iff (a b : Int) : subS a b = true ↔ ∀ i, a.toNat.testBit i = true → b.toNat.testBit i = true := by
  unfold subS
  rw [decide_eq_true_eq]
  constructor
  · intro h i hi
    have h0 : a.toNat ^^^ (a.toNat &&& b.toNat) = 0 := by omega
    have h1 : (a.toNat ^^^ (a.toNat &&& b.toNat)).testBit i = false := by rw [h0]; exact Nat.zero_testBit i
    rw [Nat.testBit_xor, Nat.testBit_and, hi] at h1
    simpa using h1
  · intro h
    have h0 : a.toNat ^^^ (a.toNat &&& b.toNat) = 0 := by
      apply Nat.eq_of_testBit_eq
      intro i
      rw [Nat.testBit_xor, Nat.testBit_and, Nat.zero_testBit]
      cases hi : a.toNat.testBit i
      · rfl
      · rw [h i hi]; rfl
    omega
theorem subS_refl (a : Int) : subS a a = true := (subS_iff a a).2 fun _ h => h
theorem subS_trans {a b c : Int} (h : subS a b = true) (k : subS b c = true) : subS a c = true := (subS_iff a c).2 fun i hi => (subS_iff b c).1 k i ((subS_iff a b).1 h i hi)
theorem mem_subsS {o n : Int} (ho : SetP o) : n ∈ subsS o ↔ SetP n ∧ subS n o = true := by
  unfold subsS
  rw [if_pos (validS_SetP.2 ho)]
  unfold subsTo
  rw [List.mem_filter, List.mem_map]
  constructor
  · rintro ⟨⟨k, hk, rfl⟩, h⟩
    have := List.mem_range.1 hk
    have := ho.1
    have := ho.2
    exact ⟨⟨Int.natCast_nonneg _, by omega⟩, h⟩
  · rintro ⟨hn, h⟩
    refine ⟨⟨n.toNat, List.mem_range.2 ?_, by have := hn.1; omega⟩, h⟩
    have h1 : n.toNat ≤ o.toNat := by
      have : n.toNat &&& o.toNat = n.toNat := by
        apply Nat.eq_of_testBit_eq
        intro i
        rw [Nat.testBit_and]
        cases hi : n.toNat.testBit i
        · rfl
        · rw [(subS_iff n o).1 h i hi]; rfl
      rw [← this]
      exact Nat.and_le_right
    omega
section
variable {c : List Member} {h node : Int}
theorem need_mem : ∀ (S : List Int) (out : List Int) (n : Int), n ∈ S.foldl (needStep c h node) out →
    n ∈ out ∨ ∃ A B, S = A ++ n :: B ∧ (!((A.foldl (needStep c h node) out).any fun o => subS o n) && has (elim c (orI h n)).1 node) = true
  | [], out, n, hn => .inl hn
  | x :: S, out, n, hn => by
    rw [List.foldl_cons] at hn
    rcases need_mem S _ n hn with h1 | ⟨A, B, rfl, h1⟩
    · unfold needStep at h1
      split at h1
      · rename_i hc
        rcases List.mem_append.1 h1 with h2 | h2
        · exact .inl h2
        · rw [List.mem_singleton] at h2
          subst h2
          exact .inr ⟨[], S, rfl, hc⟩
      · exact .inl h1
    · exact .inr ⟨x :: A, B, rfl, h1⟩
/-- Looked at: a part of it is in the list, or it would not do. -/
def CovN (c : List Member) (h node : Int) (out : List Int) (x : Int) : Prop := (out.any fun o => subS o x) = true ∨ has (elim c (orI h x)).1 node = false
theorem cov_step {out : List Int} {x y : Int} (k : CovN c h node out x) : CovN c h node (needStep c h node out y) x := by
  rcases k with k | k
  · left
    unfold needStep
    split
    · rw [List.any_append, k]; rfl
    · exact k
  · exact .inr k
theorem cov_fold {x : Int} : ∀ (A out : List Int), CovN c h node out x → CovN c h node (A.foldl (needStep c h node) out) x
  | [], _, k => k
  | y :: A, out, k => cov_fold A _ (cov_step k)
theorem cov_here {out : List Int} {x : Int} : CovN c h node (needStep c h node out x) x := by
  unfold needStep
  split
  · left
    rw [List.any_append]
    simp [subS_refl]
  · rename_i hc
    cases ha : out.any fun o => subS o x
    · right
      rw [ha] at hc
      simpa using hc
    · exact .inl ha
theorem cov_mem {x : Int} : ∀ (A out : List Int), x ∈ A → CovN c h node (A.foldl (needStep c h node) out) x
  | y :: A, out, k => by
    rw [List.foldl_cons]
    rcases List.mem_cons.1 k with rfl | k
    · exact cov_fold A _ cov_here
    · exact cov_mem A _ k
theorem sub_rem {n i : Int} (hn : SetP n) (hi : 0 ≤ i ∧ i < 10) : subS (remI n i) n = true := by
  rw [subS_iff]
  intro j hj
  rw [remI, Int.toNat_natCast, Nat.testBit_xor, Nat.testBit_and] at hj
  cases hb : n.toNat.testBit j
  · rw [hb] at hj; simp at hj
  · rfl
theorem cmp_rem {n i : Int} (hh : has n i = true) : cmpSet (remI n i) n < 0 := by
  obtain ⟨h0, h1, h2, h3⟩ := has_range hh
  have hn : SetP n := ⟨h0, h1⟩
  rw [cmpSet, or2_neg, cmpInt_neg]
  left
  rw [rankN, rankN, if_pos (validS_SetP.2 (remI_set hn)), if_pos (validS_SetP.2 hn)]
  have := popN_rem hh
  omega
/-- What is said of each set that is needed. -/
theorem need_law {o : Int} (ho : SetP o) (hh : SetP h) (hd : ∀ k, 0 ≤ k → k < 10 → has o k = true → has h k = false) {S : List Int} (hS : SortedC cmpSet S) (hp : S.Perm (subsS o)) {n : Int} (hn : n ∈ S.foldl (needStep c h node) []) :
    SetP n ∧ ((n.toNat &&& h.toNat : Nat) : Int) = 0 ∧ has (elim c (orI n h)).1 node = true ∧ ∀ i, has n i = true → has (elim c (orI (remI n i) h)).1 node = false := by
  have comm : ∀ a b, orI a b = orI b a := fun a b => by unfold orI; rw [Nat.or_comm]
  rcases need_mem S [] n hn with h1 | ⟨A, B, rfl, h1⟩
  · cases h1
  · rw [Bool.and_eq_true, Bool.not_eq_true'] at h1
    have hin : n ∈ subsS o := hp.subset (by simp)
    obtain ⟨hns, hno⟩ := (mem_subsS ho).1 hin
    refine ⟨hns, ?_, by rw [comm]; exact h1.2, fun i hi => ?_⟩
    · have : n.toNat &&& h.toNat = 0 := by
        apply Nat.eq_of_testBit_eq
        intro k
        rw [Nat.testBit_and, Nat.zero_testBit]
        cases hb : n.toNat.testBit k
        · rfl
        · have hob := (subS_iff n o).1 hno k hb
          by_cases hk : k < 10
          · have e1 := has_nat ho (k := (k : Int)) ⟨by omega, by omega⟩
            have e2 := has_nat hh (k := (k : Int)) ⟨by omega, by omega⟩
            rw [Int.toNat_natCast] at e1 e2
            have := hd k (by omega) (by omega) (e1.trans hob)
            rw [e2] at this
            rw [this]; rfl
          · rw [bit_hi hns (by omega)] at hb
            cases hb
      rw [this]; rfl
    · obtain ⟨_, _, hi0, hi1⟩ := has_range hi
      have hrs : remI n i ∈ subsS o := (mem_subsS ho).2 ⟨remI_set hns, subS_trans (sub_rem hns ⟨hi0, hi1⟩) hno⟩
      have hrS : remI n i ∈ A ++ n :: B := hp.symm.subset hrs
      have hlt := cmp_rem hi
      rw [comm]
      unfold SortedC at hS
      rw [List.pairwise_append, List.pairwise_cons] at hS
      rcases List.mem_append.1 hrS with hA | hB
      · rcases cov_mem (c := c) (h := h) (node := node) A [] hA with hc | hc
        · exfalso
          rw [List.any_eq_true] at hc
          obtain ⟨q, hq, hqs⟩ := hc
          have h2 := h1.1
          rw [List.any_eq_false] at h2
          exact h2 q hq (subS_trans hqs (sub_rem hns ⟨hi0, hi1⟩))
        · exact hc
      · exfalso
        rcases List.mem_cons.1 hB with e | hB
        · rw [e] at hlt
          have := cmpSet_ord.asym _ _ hlt
          exact this hlt
        · exact hS.2.1.1 _ hB hlt
end
theorem oth_help {l : List Sighting} (hf : ∀ x ∈ l, FitP x) {node : Int} (hs : stuckNo (filesL l) ⟨node, 1⟩ = false) :
    SetP (othL (filesL l) ⟨node, 1⟩) ∧ SetP (helpL (filesL l) ⟨node, 1⟩) ∧ ∀ k, 0 ≤ k → k < 10 → has (othL (filesL l) ⟨node, 1⟩) k = true → has (helpL (filesL l) ⟨node, 1⟩) k = false := by
  have ho : (ownL (filesL l) ⟨node, 1⟩).2 = true := by
    simp only [stuckNo, Bool.or_eq_false_iff, Bool.not_eq_false'] at hs
    exact hs.1.1
  have hu := (newest_fit hf (p := ⟨node, 1⟩) ho).2.2.2
  have hlt := othTo_lt hf hu 1 10
  have hnn := othTo_nn (ownL (filesL l) ⟨node, 1⟩).1.trust (filesL l) 1 10
  have hset : SetP (othTo (ownL (filesL l) ⟨node, 1⟩).1.trust (filesL l) 1 10) := ⟨hnn, Int.lt_trans hlt (by decide)⟩
  refine ⟨difI_set hset, votT_set _ _ _ _, fun k h0 h1 hk => ?_⟩
  have hk2 := (has_dif (k := k) hset (votT_set (filesL l) 1 (ownL (filesL l) ⟨node, 1⟩).1.b 10) ⟨h0, h1⟩).symm.trans hk
  rw [Bool.and_eq_true, Bool.not_eq_true'] at hk2
  exact hk2.2
end Go.TQ
