/- Plain facts on findings: two-faced nodes and decided nodes as functions of the sightings; what more traffic and another order change. Own work. -/
import Derived.Test.YtmfiplnojbjcbaaGreatP05
set_option linter.unusedVariables false
set_option linter.unusedSimpArgs false
namespace Go.TQ
open Go.Proofs
/-! ### The places in order -/
theorem cmpP_eq {a b : Place} (h1 : ¬ cmpP a b < 0) (h2 : ¬ cmpP b a < 0) : a = b := by
  rw [cmpP_neg] at h1 h2
  cases a; cases b
  simp only [Place.mk.injEq] at *
  omega
theorem sorted_unique : ∀ {l1 l2 : List Place}, SortedC cmpP l1 → SortedC cmpP l2 → l1.Perm l2 → l1 = l2
  | [], l2, _, _, h => h.nil_eq
  | a :: t1, [], _, _, h => by have := h.length_eq; simp at this
  | a :: t1, b :: t2, s1, s2, h => by
    unfold SortedC at s1 s2
    rw [List.pairwise_cons] at s1 s2
    have hab : a = b := by
      have ha : a ∈ b :: t2 := h.subset (by simp)
      have hb : b ∈ a :: t1 := h.symm.subset (by simp)
      rcases List.mem_cons.1 ha with e | ha
      · exact e
      · rcases List.mem_cons.1 hb with e | hb
        · exact e.symm
        · exact cmpP_eq (s2.1 a ha) (s1.1 b hb)
    subst hab
    rw [sorted_unique s1.2 s2.2 h.cons_inv]
def leP (a b : Place) : Bool := decide (¬ cmpP b a < 0)
def ordP (l : List Place) : List Place := l.mergeSort leP
theorem ordP_perm (l : List Place) : (ordP l).Perm l := List.mergeSort_perm l leP
theorem ordP_sorted (l : List Place) : SortedC cmpP (ordP l) := by
  have h := List.pairwise_mergeSort (le := leP) (fun a b c h1 h2 => by
    simp only [leP, decide_eq_true_eq] at *
    exact cmpP_ord.trans _ _ _ h1 h2) (fun a b => by
    simp only [leP, Bool.or_eq_true, decide_eq_true_eq]
    rcases Decidable.em (cmpP b a < 0) with h | h
    · exact .inr (cmpP_ord.asym _ _ h)
    · exact .inl h) l
  exact h.imp fun h => by simpa [leP] using h
theorem ordP_eq {pl ks : List Place} (h : SortedC cmpP pl) (hp : pl.Perm ks) : pl = ordP ks := sorted_unique h (ordP_sorted ks) (hp.trans (ordP_perm ks).symm)

/-! ### The keys -/
def keysL (l : List Sighting) : List Place := (filesL l).map (·.1)
theorem putK_nodup {k : Place} {e : Env} {m : Fil} (h : (m.map (·.1)).Nodup) : ((putK k e m).map (·.1)).Nodup := by
  cases hp : posK k m 0 with
  | none =>
    rw [(putK_fst m).1 hp]
    have hn := (posK_none hp).2
    rw [List.nodup_append]
    refine ⟨h, by simp, fun a ha b hb => ?_⟩
    obtain ⟨x, hx, rfl⟩ := List.mem_map.1 ha
    rw [List.mem_singleton] at hb
    subst hb
    exact hn x hx
  | some j => rw [(putK_fst m).2 j hp]; exact h
theorem fold_nodup : ∀ (L : List Sighting) (m : Fil), (m.map (·.1)).Nodup → ((L.foldl (fun m x => putK x.place x.l.env m) m).map (·.1)).Nodup
  | [], _, h => h
  | x :: L, m, h => fold_nodup L _ (putK_nodup h)
theorem keys_nodup (l : List Sighting) : (keysL l).Nodup := fold_nodup _ [] (by simp)
theorem fold_ne : ∀ (L : List Sighting) (m : Fil), (∀ x ∈ m, x.2 ≠ []) → ∀ x ∈ L.foldl (fun m x => putK x.place x.l.env m) m, x.2 ≠ []
  | [], _, h => h
  | x :: L, m, h => fold_ne L _ (putK_ne h)
theorem getK_ne {k : Place} : ∀ {m : Fil}, (∀ x ∈ m, x.2 ≠ []) → (k ∈ m.map (·.1) ↔ getK k m ≠ [])
  | [], _ => by simp [getK]
  | x :: m, h => by
    rw [getK]
    by_cases hx : x.1 = k
    · rw [if_pos hx]
      exact ⟨fun _ => h x (by simp), fun _ => by simp [hx]⟩
    · rw [if_neg hx, ← getK_ne fun y hy => h y (by simp [hy]), List.map_cons, List.mem_cons]
      exact ⟨fun h => h.resolve_left fun e => hx e.symm, .inr⟩
theorem mem_keys {k : Place} {l : List Sighting} : k ∈ keysL l ↔ getK k (filesL l) ≠ [] := getK_ne (fold_ne _ [] (by simp))
theorem perm_of_mem {l1 l2 : List Place} (h1 : l1.Nodup) (h2 : l2.Nodup) (h : ∀ p, p ∈ l1 ↔ p ∈ l2) : l1.Perm l2 := (List.perm_ext_iff_of_nodup h1 h2).2 h

/-! ### The findings as functions -/
def extQ (l : List Env) : Bool := decide (0 ≤ idxF extP l 0)
def twoF (l : List Sighting) : List Finding := eachL 3 noV twoQ (filesL l) (ordP (keysL l))
def extF (l : List Sighting) : List Finding := eachL 1 extV extQ (filesL l) (ordP (keysL l))
theorem twoF_eq {l : List Sighting} {pl : List Place} (h : SortedC cmpP pl ∧ pl.Perm ((filesL l).map (·.1))) : eachL 3 noV twoQ (filesL l) pl = twoF l := by
  rw [ordP_eq h.1 h.2]; rfl
theorem extF_eq {l : List Sighting} {pl : List Place} (h : SortedC cmpP pl ∧ pl.Perm ((filesL l).map (·.1))) : eachL 1 extV (fun l => decide (0 ≤ idxF extP l 0)) (filesL l) pl = extF l := by
  rw [ordP_eq h.1 h.2]; rfl
theorem c_TwoF (l : List Sighting) (hok : ∀ x ∈ l, x.l.env.trust.ok) (hlen : l.length ≤ 12) : ACalls Tryz.prog 21 [VR (l.map Sighting.d)] [] fun dd bb => dd = VR ((twoF l).map Finding.d) ∧ bb = [] :=
  (c_monitor_TwoFaced l hok hlen).mono fun d b ⟨pl, h1, h2, h3⟩ => ⟨by rw [h1, twoF_eq h3], h2⟩
theorem c_ExtF (l : List Sighting) (hok : ∀ x ∈ l, x.l.env.trust.ok) (hlen : l.length ≤ 12) : ACalls Tryz.prog 22 [VR (l.map Sighting.d)] [] fun dd bb => dd = VR ((extF l).map Finding.d) ∧ bb = [] :=
  (c_monitor_External l hok hlen).mono fun d b ⟨pl, h1, h2, h3⟩ => ⟨by rw [h1, extF_eq h3], h2⟩
theorem mem_eachL {kind : Int} {v : List Env → ByteArray} {q : List Env → Bool} {l : List Sighting} (h0 : q [] = false) {f : Finding} :
    f ∈ eachL kind v q (filesL l) (ordP (keysL l)) ↔ ∃ p, q (getK p (filesL l)) = true ∧ f = Finding.mk p.node p.slot kind (v (getK p (filesL l))) [] := by
  unfold eachL
  simp only [List.mem_map, List.mem_filter]
  constructor
  · rintro ⟨p, ⟨_, h2⟩, rfl⟩
    exact ⟨p, h2, rfl⟩
  · rintro ⟨p, h, rfl⟩
    refine ⟨p, ⟨(ordP_perm _).symm.subset (mem_keys.2 fun e => ?_), h⟩, rfl⟩
    rw [e, h0] at h
    cases h
theorem eachL_len (kind : Int) (v : List Env → ByteArray) (q : List Env → Bool) (m : Fil) (pl : List Place) : (eachL kind v q m pl).length ≤ pl.length := by
  unfold eachL
  rw [List.length_map]
  exact List.length_filter_le _ _
theorem ordK_len (l : List Sighting) : (ordP (keysL l)).length ≤ l.length := by
  rw [(ordP_perm _).length_eq, keysL, List.length_map]
  exact files_len l
theorem twoF_len (l : List Sighting) : (twoF l).length ≤ l.length := Nat.le_trans (eachL_len _ _ _ _ _) (ordK_len l)
theorem extF_len (l : List Sighting) : (extF l).length ≤ l.length := Nat.le_trans (eachL_len _ _ _ _ _) (ordK_len l)

/-! ### More traffic -/
theorem getK_more (p : Place) (l : List Sighting) (n : Nat) : ∃ r, getK p (filesL l) = getK p (filesL (l.take n)) ++ r := by
  rw [getK_files, getK_files]
  refine ⟨((l.drop n).filter (Sighting.at p)).map fun x => x.l.env, ?_⟩
  rw [← List.map_append, ← List.filter_append, List.take_append_drop]
theorem idxF_app {α : Type} {p : α → Bool} : ∀ (a r : List α) (k : Int), 0 ≤ k → 0 ≤ idxF p a k → idxF p (a ++ r) k = idxF p a k
  | [], r, k, hk, h => by simp [idxF] at h
  | x :: a, r, k, hk, h => by
    rw [List.cons_append, idxF, idxF]
    rw [idxF] at h
    split
    · rfl
    · rename_i hx
      rw [if_neg hx] at h
      exact idxF_app a r (k + 1) (by omega) h
theorem extQ_more {a r : List Env} (h : extQ a = true) : extQ (a ++ r) = true ∧ extV (a ++ r) = extV a := by
  have h0 : 0 ≤ idxF extP a 0 := of_decide_eq_true h
  have e := idxF_app a r 0 (by omega) h0
  refine ⟨by rw [extQ, e]; exact h, ?_⟩
  rw [extV, extV, e, if_neg (by omega), if_neg (by omega)]
  have hb := (idxF_lt (p := extP) a 0).resolve_left (by omega)
  have hl : (idxF extP a 0).toNat < a.length := by omega
  rw [getElem!_pos (a ++ r) _ (by rw [List.length_append]; omega), getElem!_pos a _ hl, List.getElem_append_left hl]
theorem twoQ_more {a r : List Env} (h : twoQ a = true) : twoQ (a ++ r) = true := by
  simp only [twoQ, List.any_eq_true] at *
  obtain ⟨x, hx, y, hy, h⟩ := h
  exact ⟨x, List.mem_append_left _ hx, y, List.mem_append_left _ hy, h⟩
theorem extF_more {l : List Sighting} {n : Nat} {f : Finding} (h : f ∈ extF (l.take n)) : f ∈ extF l := by
  unfold extF at *
  rw [mem_eachL (by rfl)] at *
  obtain ⟨p, h1, rfl⟩ := h
  obtain ⟨r, hr⟩ := getK_more p l n
  have := extQ_more (r := r) h1
  rw [← hr] at this
  exact ⟨p, this.1, by rw [this.2]⟩
theorem twoF_more {l : List Sighting} {n : Nat} {f : Finding} (h : f ∈ twoF (l.take n)) : f ∈ twoF l := by
  unfold twoF at *
  rw [mem_eachL (by rfl)] at *
  obtain ⟨p, h1, rfl⟩ := h
  obtain ⟨r, hr⟩ := getK_more p l n
  have := twoQ_more (r := r) h1
  rw [← hr] at this
  exact ⟨p, this, rfl⟩

/-! ### Another order -/
theorem getK_rev (p : Place) (l : List Sighting) : getK p (filesL l.reverse) = (getK p (filesL l)).reverse := by
  rw [getK_files, getK_files, List.filter_reverse, List.map_reverse]
theorem keys_rev (l : List Sighting) : ordP (keysL l.reverse) = ordP (keysL l) := by
  refine sorted_unique (ordP_sorted _) (ordP_sorted _) ((ordP_perm _).trans ((perm_of_mem (keys_nodup _) (keys_nodup _) fun p => ?_).trans (ordP_perm _).symm))
  rw [mem_keys, mem_keys, getK_rev, ne_eq, List.reverse_eq_nil_iff]
theorem twoQ_rev (l : List Env) : twoQ l.reverse = twoQ l := by
  rw [Bool.eq_iff_iff]
  simp only [twoQ, List.any_eq_true, List.mem_reverse]
theorem extQ_rev (l : List Env) : extQ l.reverse = extQ l := by
  rw [extQ, extQ, idxF_any _ _ (by omega), idxF_any _ _ (by omega), Bool.eq_iff_iff]
  simp only [List.any_eq_true, List.mem_reverse]
theorem twoF_rev (l : List Sighting) : twoF l.reverse = twoF l := by
  unfold twoF eachL
  rw [keys_rev]
  congr 1
  apply List.filter_congr
  intro p _
  rw [getK_rev, twoQ_rev]
theorem extF_rev (l : List Sighting) : (extF l.reverse).length = (extF l).length := by
  unfold extF eachL
  rw [keys_rev, List.length_map, List.length_map]
  congr 1
  apply List.filter_congr
  intro p _
  rw [getK_rev, extQ_rev]

/-! ### Two envelopes under one number -/
theorem eqB_iff (a b : Ballot) : a.eqB b = true ↔ a = b := by
  cases a; cases b
  simp [Ballot.eqB]
theorem sameR_iff (a b : Env) : a.sameR b = true ↔ a = b := by
  constructor
  · intro h
    simp only [Env.sameR, Bool.and_eq_true, decide_eq_true_eq, eqB_iff, Trust.same_iff] at h
    cases a; cases b
    simp_all
  · rintro rfl
    exact sameR_refl a
theorem sameP_R (a b : Env) : a.sameP b = a.sameR b := by
  unfold Env.sameP Env.sameR
  cases decide (a.node = b.node) <;> cases decide (a.slot = b.slot) <;> cases decide (a.seq = b.seq) <;> cases a.trust.same b.trust <;> rfl
theorem twoE_self (a : Env) : twoE a a = false := by rw [twoE, sameP_R, sameR_refl]; simp
theorem twoQ_one {e : Env} {l : List Env} (h : ∀ x ∈ l, x = e) : twoQ l = false := by
  rw [twoQ, List.any_eq_false]
  intro a ha
  rw [Bool.not_eq_true, List.any_eq_false]
  intro b hb
  rw [h a ha, h b hb, twoE_self]; simp
theorem twoF_none {l : List Sighting} {e : Env} (h : ∀ x ∈ l, x.l.env = e) : twoF l = [] := by
  rw [twoF, eachL, List.map_eq_nil_iff, List.filter_eq_nil_iff]
  intro p _
  rw [getK_files, twoQ_one (e := e)]
  · simp
  · intro x hx
    obtain ⟨y, hy, rfl⟩ := List.mem_map.1 hx
    exact h y (List.mem_filter.1 hy).1
def liarX (e : Env) : Sighting := Sighting.mk 0 2 (Letter.mk 2 1 Nom.zero e)
theorem twoQ_two {a b : Env} (h : a.seq = b.seq) : twoQ [a, b] = !a.sameR b := by
  have hs : b.sameR a = a.sameR b := by rw [Bool.eq_iff_iff, sameR_iff, sameR_iff]; exact eq_comm
  simp only [twoQ, List.any_cons, List.any_nil, twoE_self, Bool.false_or, Bool.or_false]
  simp only [twoE, sameP_R, hs, h, decide_true, Bool.true_and, Bool.or_self]
theorem twoF_two {a b : Env} (h : a.seq = b.seq) (ha : a.validR = true ∧ a.node = 2 ∧ a.slot = 1) (hb : b.validR = true ∧ b.node = 2 ∧ b.slot = 1) :
    twoF [liarX a, liarX b] = if a.sameR b = true then [] else [Finding.mk 2 1 3 ⟨#[]⟩ []] := by
  have s1 : ∀ e : Env, e.validR = true ∧ e.node = 2 ∧ e.slot = 1 → (liarX e).skip = false ∧ (liarX e).place = ⟨2, 1⟩ := by
    intro e ⟨h1, h2, h3⟩
    rw [skip_eq]
    simp [Sighting.countsR, liarX, h1, h2, h3, Sighting.place]
  have hf : filesL [liarX a, liarX b] = [(⟨2, 1⟩, [a, b])] := by
    unfold filesL filesTo
    rw [List.take_length, List.filter_cons_of_pos (by rw [(s1 a ha).1]; rfl), List.filter_cons_of_pos (by rw [(s1 b hb).1]; rfl), List.filter_nil, List.foldl_cons, List.foldl_cons, List.foldl_nil, (s1 a ha).2, (s1 b hb).2]
    rfl
  rw [twoF, keysL, hf]
  have ho : ordP [(⟨2, 1⟩ : Place)] = [⟨2, 1⟩] := by simp [ordP]
  have hg : getK ⟨2, 1⟩ [((⟨2, 1⟩ : Place), [a, b])] = [a, b] := by simp [getK]
  rw [List.map_cons, List.map_nil, ho, eachL]
  by_cases hab : a.sameR b = true
  · rw [if_pos hab, List.filter_cons_of_neg (by rw [hg, twoQ_two h, hab]; simp)]; rfl
  · rw [if_neg hab, List.filter_cons_of_pos (by rw [hg, twoQ_two h, show a.sameR b = false by simpa using hab]; rfl)]
    rfl
def Env.reseq (e : Env) (s : Int) : Env := Env.mk e.node e.slot s e.trust e.kind e.b e.p e.q e.low e.high
theorem valid_reseq {e : Env} {s : Int} (h : e.validR = true) (he : 1 ≤ e.seq ∧ e.seq ≤ 9) (hs : 1 ≤ s ∧ s ≤ 9) : (e.reseq s).validR = true := by
  have hc : (e.reseq s).c1 = e.c1 := by
    unfold Env.c1 Env.reseq
    have h1 : decide (e.seq < 1) = false := by rw [decide_eq_false_iff_not]; omega
    have h2 : decide (1000000 < e.seq) = false := by rw [decide_eq_false_iff_not]; omega
    have h3 : decide (s < 1) = false := by rw [decide_eq_false_iff_not]; omega
    have h4 : decide (1000000 < s) = false := by rw [decide_eq_false_iff_not]; omega
    simp only [h1, h2, h3, h4]
  rw [← h, Env.validR, Env.validR, hc]
  rfl
end Go.TQ
