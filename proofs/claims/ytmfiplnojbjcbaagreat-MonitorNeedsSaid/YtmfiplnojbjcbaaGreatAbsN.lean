/- An empty slice literal as an owned slice. Own work. -/
import Derived.Test.YtmfiplnojbjcbaaGreatAbsL
set_option linter.unusedVariables false
set_option linter.unusedSimpArgs false
namespace Go.TQ
section
variable {c : Ctx} {st : St} {K : St → Prop} {t ty : Nat} {pos : String} {af : Array Edge} {gd : Option (Nat × Bool)}
theorem op_buildSlice0 {tb e n : Nat} (hT : slE c.P tb = some (e, n)) (hn : 0 < n) (ht : Nat.blt t c.N = true)
    (hK : K ((((st.mapC (C.unq t)).setT t none).setT t (some (e, n))).put t (.one (.slt t [])))) : AOp c ⟨some t, .buildSlice tb 0 #[], ty, pos, af, gd⟩ st K :=
  aop_world (st1 := ((st.mapC (C.unq t)).setT t none).setT t (some (e, n))) rfl ht (fun Φ a w hr => by
    obtain ⟨hu', inf, hi, hsz⟩ := slE_ok hT
    have h1 := ((hr.dropTok t (.slice (some ⟨w.heap.size, 0, none⟩) 0 0)).newArr [] e).1
    have hlt : ∀ q x g, ((st.mapC (C.unq t)).setT t none).tk q = some x → (bif Nat.beq q t then (.slice (some ⟨w.heap.size, 0, none⟩) 0 0) else Φ.τ q).ownBlock = some g → g < w.heap.size := by
      intro q x g hq hg
      simp only [St.setT, St.mapC] at hq
      cases hb : Nat.beq q t with
      | true => rw [hb] at hq; cases hq
      | false =>
        rw [hb] at hq hg
        obtain ⟨n', xs, _, ho, _⟩ := hr.toks q x.1 x.2 hq
        exact (ho.lt g hg).2
    refine ⟨_, _, .slice (some ⟨w.heap.size, 0, none⟩) 0 0, ?_, ⟨h1.size, h1.defers, h1.slots, h1.boxes, h1.own, h1.inj, ?_, ?_, h1.arr, h1.ext, h1.oldA, h1.grow, h1.fr⟩, ?_⟩
    · have hfill : Instr.fill (fun i => some (i * n, n)) (Array.map (fun _ => (default : Value)) (Array.range 0)) [] = some #[] := by simp [Instr.fill]
      simp [execOp, Instr.buildSlice, run_underlying hu', sizeOf, typeInfo, hi, hsz, newRow, hfill, newObj]
      rfl
    · intro q e' k' hq
      cases hb : Nat.beq q t with
      | true =>
        simp only [St.setT, hb, cond_true, Option.some.injEq, Prod.mk.injEq] at hq
        obtain ⟨rfl, rfl⟩ := hq
        simp only [hb, cond_true]
        refine ⟨0, [], hn, ⟨by simp, .inr ⟨w.heap.size, 0, #[], rfl, hr.fr.size, ?_, Nat.le_refl _, Nat.zero_le _, by simp, by simp⟩⟩, fun g hg => ?_⟩
        · exact heap_alloc_new w _
        · simp [Value.ownBlock] at hg
          subst hg
          simp
      | false =>
        have hq' : ((st.mapC (C.unq t)).setT t none).tk q = some (e', k') := by
          simp only [St.setT, hb, cond_false] at hq ⊢
          exact hq
        exact h1.toks q e' k' hq'
    · intro q q' x x' g hq hq' hg hg'
      cases hb : Nat.beq q t with
      | true =>
        cases hb' : Nat.beq q' t with
        | true => rw [(nbeq_iff q t).1 hb, (nbeq_iff q' t).1 hb']
        | false =>
          have h2 : ((st.mapC (C.unq t)).setT t none).tk q' = some x' := by simp only [St.setT, hb', cond_false] at hq' ⊢; exact hq'
          have h3 := hlt q' x' g h2 hg'
          simp only [hb, cond_true] at hg
          simp [Value.ownBlock] at hg
          omega
      | false =>
        cases hb' : Nat.beq q' t with
        | true =>
          have h2 : ((st.mapC (C.unq t)).setT t none).tk q = some x := by simp only [St.setT, hb, cond_false] at hq ⊢; exact hq
          have h3 := hlt q x g h2 hg
          simp only [hb', cond_true] at hg'
          simp [Value.ownBlock] at hg'
          omega
        | false =>
          refine h1.tinj q q' x x' g ?_ ?_ hg hg'
          · simp only [St.setT, hb, cond_false] at hq ⊢; exact hq
          · simp only [St.setT, hb', cond_false] at hq' ⊢; exact hq'
    · rw [RV, RC]
      refine ⟨?_, by simp⟩
      rw [RD]
      exact ⟨_, 0, rfl, Nat.le_refl _, Nat.zero_le _, .inl rfl⟩) hK

/-- An owned slice in a box gets another name. -/
theorem le_retokB {q p off : Nat} {r : Ref} {x : TypeId × Nat} {cs : List C} {rows : List (List Dat)} (hq : st.tk q = some x) (hbr : st.bx r = some cs) (hu : cs[off]? = some (.slt q rows)) (hmb : mapBox cs = false) :
    Le c st ((((((st.mapC (C.unq q)).setT q none).mapC (C.unq p)).setT p none).setT p (some x)).setB r (((cs.map (C.unq q)).map (C.unq p)).set off (.slt p rows))) := fun Φ a w hr => by
  obtain ⟨o, hh, hbo⟩ := hr.boxes r cs hbr
  obtain ⟨vs, e0, rfl, h2⟩ := hbo.cells hmb
  obtain ⟨v0, hv0, h0⟩ := h2.get off _ hu
  rw [RC] at h0
  obtain ⟨n, xs, hk, hown, hA⟩ := hr.toks q x.1 x.2 hq
  have hfree : ∀ q' x' g, (((st.mapC (C.unq q)).setT q none).tk q') = some x' → (Φ.τ q').ownBlock = some g → (Φ.τ q).ownBlock ≠ some g := by
    intro q' x' g h1 h2 h3
    simp only [St.setT, St.mapC] at h1
    cases hb : Nat.beq q' q with
    | true => rw [hb] at h1; cases h1
    | false =>
      rw [hb] at h1
      have := hr.tinj q' q x' x g h1 hq h2 h3
      subst this
      rw [Nat.beq_refl] at hb
      cases hb
  have hd := (hr.dropTok q (Φ.τ q)).dropTok p (Φ.τ q)
  have hτq : ∀ r, (bif Nat.beq r q then Φ.τ q else Φ.τ r) = Φ.τ r := by
    intro r
    cases hb : Nat.beq r q with
    | true => rw [(nbeq_iff r q).1 hb]; rfl
    | false => rfl
  have hbd : ((((st.mapC (C.unq q)).setT q none).mapC (C.unq p)).setT p none).bx r = some ((cs.map (C.unq q)).map (C.unq p)) := by
    simp [St.setT, St.mapC, hbr]
  refine ⟨_, hd.size, hd.defers, hd.slots, ?_, ?_, ?_, ?_, ?_, hd.arr, hd.ext, hd.oldA, hd.grow, hd.fr⟩
  · intro s us hs
    by_cases hsr : s = r
    · subst hsr
      simp only [St.setB, Ref.beq_self, cond_true, Option.some.injEq] at hs
      subst hs
      have h3a : All2 (RC { Φ with τ := fun y => bif Nat.beq y q then Φ.τ q else Φ.τ y }) (cs.map (C.unq q)) vs.toList :=
        All2_mapC (Φ := Φ) (Φ' := { Φ with τ := fun y => bif Nat.beq y q then Φ.τ q else Φ.τ y }) (f := C.unq q) (fun x v hx => RC_unq hx) h2
      have h3 : All2 (RC { Φ with τ := fun y => bif Nat.beq y p then Φ.τ q else (bif Nat.beq y q then Φ.τ q else Φ.τ y) }) ((cs.map (C.unq q)).map (C.unq p)) vs.toList :=
        All2_mapC (Φ := { Φ with τ := fun y => bif Nat.beq y q then Φ.τ q else Φ.τ y }) (Φ' := { Φ with τ := fun y => bif Nat.beq y p then Φ.τ q else (bif Nat.beq y q then Φ.τ q else Φ.τ y) }) (f := C.unq p) (fun x v hx => RC_unq hx) h3a
      refine ⟨_, hh, .inl ⟨vs, e0, rfl, ?_⟩⟩
      refine All2.of_get (by rw [List.length_set]; exact h3.length) fun j y v hx hv => ?_
      by_cases hj : off = j
      · subst hj
        rw [List.getElem?_set_self (by rw [List.length_map, List.length_map]; exact (List.getElem?_eq_some_iff.1 hu).1)] at hx
        injection hx with hx
        subst hx
        rw [hv0] at hv
        injection hv with hv
        subst hv
        rw [RC]
        exact ⟨h0.1, by simp only [Nat.beq_refl, cond_true]; exact h0.2⟩
      · rw [List.getElem?_set_ne hj] at hx
        exact h3.get2 hx hv
    · simp only [St.setB, Ref.beq_false hsr, cond_false] at hs
      exact hd.boxes s us hs
  · intro s us hs
    by_cases hsr : s = r
    · subst hsr
      exact hd.own s _ hbd
    · simp only [St.setB, Ref.beq_false hsr, cond_false] at hs
      exact hd.own s us hs
  · have key : ∀ s us, ((((((st.mapC (C.unq q)).setT q none).mapC (C.unq p)).setT p none).setT p (some x)).setB r (((cs.map (C.unq q)).map (C.unq p)).set off (.slt p rows))).bx s = some us → ∃ us', ((((st.mapC (C.unq q)).setT q none).mapC (C.unq p)).setT p none).bx s = some us' := by
      intro s us hs
      by_cases hsr : s = r
      · exact ⟨_, hsr ▸ hbd⟩
      · simp only [St.setB, Ref.beq_false hsr, cond_false] at hs
        exact ⟨us, hs⟩
    intro s s' us us' hs hs' hm
    obtain ⟨x, hx⟩ := key s us hs
    obtain ⟨x', hx'⟩ := key s' us' hs'
    exact hd.inj s s' x x' hx hx' hm
  · intro r' e' k' hp
    simp only [St.setB, St.setT] at hp
    cases hb : Nat.beq r' p with
    | true =>
      rw [hb] at hp
      simp only [cond_true, Option.some.injEq] at hp
      subst hp
      simp only [hb, cond_true]
      exact ⟨n, xs, hk, hown, hA⟩
    | false =>
      rw [hb] at hp
      simp only [hb, cond_false]
      refine hd.toks r' e' k' ?_ |>.elim fun n' h => ⟨n', by simpa [hb] using h⟩
      simp only [St.setT, hb, cond_false]
      exact hp
  · intro r1 r2 y y' g hp hp' h1 h2
    simp only [St.setB, St.setT] at hp hp'
    cases hb : Nat.beq r1 p with
    | true =>
      cases hb' : Nat.beq r2 p with
      | true => rw [(nbeq_iff r1 p).1 hb, (nbeq_iff r2 p).1 hb']
      | false =>
        simp only [hb, hb', cond_true, cond_false, hτq] at h1 h2
        rw [hb'] at hp'
        exact absurd h1 (hfree r2 _ g hp' h2)
    | false =>
      cases hb' : Nat.beq r2 p with
      | true =>
        simp only [hb, hb', cond_true, cond_false, hτq] at h1 h2
        rw [hb] at hp
        exact absurd h2 (hfree r1 _ g hp h1)
      | false =>
        rw [hb] at hp
        rw [hb'] at hp'
        exact hd.tinj r1 r2 y y' g (by simpa [St.setT, hb] using hp) (by simpa [St.setT, hb'] using hp') h1 h2

theorem le_untok (q : Nat) : Le c st ((st.mapC (C.unq q)).setT q none) := fun Φ a w hr => ⟨_, hr.dropTok q (Φ.τ q)⟩
/-- Slices seen as data. -/
theorem le_norm : Le c st (st.mapC C.norm) := fun Φ a w hr => ⟨Φ, hr.mapC (f := C.norm) (fun x v hx => RC_norm hx) (keepM_same (Grows.refl _) rfl fun m => rfl)⟩
end
end Go.TQ
