/- What a new block, a store and an append do to the relation between an abstract state and the machine's memory. Own work. -/
import Derived.Test.YtmfiplnojbjcbaaGreatAbs
set_option linter.unusedVariables false
set_option linter.unusedSimpArgs false
namespace Go.TQ

section
variable {c : Ctx} {st : St} {Φ : Cx} {a : Act} {w : World}

theorem lt_of_heap {w : World} {k : Nat} {o : Obj} (h : w.heap[k]? = some o) : k < w.heap.size := (Array.getElem?_eq_some_iff.1 h).1

theorem V.mapC_id_aux : (∀ w : V, w.mapC (fun x => x) = w) ∧ (∀ ws : List V, V.mapCs (fun x => x) ws = ws) := by
  constructor
  · intro w
    exact V.rec (motive_1 := fun w => w.mapC (fun x => x) = w) (motive_2 := fun ws => V.mapCs (fun x => x) ws = ws)
      (fun c => by rw [V.mapC]) (fun cs => by rw [V.mapC, List.map_id']) (fun ds => by rw [V.mapC]) (fun vs ih => by rw [V.mapC, ih]) (fun p v ih => by rw [V.mapC, ih])
      (by rw [V.mapCs]) (fun v vs h1 h2 => by rw [V.mapCs, h1, h2]) w
  · intro ws
    exact V.rec_1 (motive_1 := fun w => w.mapC (fun x => x) = w) (motive_2 := fun ws => V.mapCs (fun x => x) ws = ws)
      (fun c => by rw [V.mapC]) (fun cs => by rw [V.mapC, List.map_id']) (fun ds => by rw [V.mapC]) (fun vs ih => by rw [V.mapC, ih]) (fun p v ih => by rw [V.mapC, ih])
      (by rw [V.mapCs]) (fun v vs h1 h2 => by rw [V.mapCs, h1, h2]) ws

theorem RV_trans {Φ Φ' : Cx} (g : Grows Φ.A Φ'.A) (hf : ∀ x v, RC Φ x v → RC Φ' x v) {u : V} {v : Value} (h : RV Φ u v) : RV Φ' u v := by
  have := RV_mapC (f := fun x => x) g hf u v h
  rwa [V.mapC_id_aux.1] at this

theorem frm_alloc {X : List Nat} {w0 : World} (h : Frm w0 X w) (o : Obj) : Frm w0 X (w.alloc o) :=
  ⟨h.os, h.tape, h.output, by rw [World.size_alloc]; have := h.size; omega, fun k hk hx => (heap_alloc_old w o k (by have := h.size; omega)).trans (h.block k hk hx)⟩

theorem arr_alloc {A : Arr} (h : ArrOK A w) (o : Obj) : ArrOK A (w.alloc o) := fun b vs hb => by
  obtain ⟨cur, e, fr, h1, h2⟩ := h b vs hb
  exact ⟨cur, e, fr, (heap_alloc_old w o b (lt_of_heap h1)).trans h1, h2⟩

theorem arr_none {A : Arr} (h : ArrOK A w) : A w.heap.size = none := by
  cases hA : A w.heap.size with
  | none => rfl
  | some vs =>
    obtain ⟨cur, e, fr, h1, _⟩ := h _ _ hA
    exact absurd (lt_of_heap h1) (Nat.lt_irrefl _)

/-- A new row of cells that nobody will write. -/
theorem Rel.newArr (h : Rel c st Φ a w) (vs : List Value) (e : TypeId) :
    Rel c st { Φ with A := fun b => if b = w.heap.size then some vs else Φ.A b } a (w.alloc (.cells vs.toArray e)) ∧ Grows Φ.A (fun b => if b = w.heap.size then some vs else Φ.A b) := by
  have hnone := arr_none h.arr
  have g : Grows Φ.A (fun b => if b = w.heap.size then some vs else Φ.A b) := fun b us hb => by
    refine ⟨[], ?_⟩
    have : b ≠ w.heap.size := fun e => by subst e; rw [hnone] at hb; cases hb
    simp [this, hb]
  have hf : ∀ x v, RC Φ x v → RC { Φ with A := fun b => if b = w.heap.size then some vs else Φ.A b } x v := by
    intro x v hx
    cases x with
    | dat d => exact RD_grows g d v hx
    | slt q rows => exact ⟨RD_grows g _ v hx.1, hx.2⟩
    | imm ds =>
      obtain ⟨b, o, us, hv, hA, hr⟩ := hx
      obtain ⟨ws, hw⟩ := g b us hA
      refine ⟨b, o, us ++ ws, hv, hw, ?_⟩
      have := RDs_grows g ds _ hr
      rw [RDs_iff] at this ⊢
      intro j d hd
      obtain ⟨v, hv, hr⟩ := this j d hd
      exact ⟨v, drop_append_some hv, hr⟩
    | nilsl => exact hx
    | ref r off => exact hx
    | nilp => exact hx
    | bs r k off len => exact hx
    | fn f caps => exact hx
    | map r => exact hx
    | mapc m => exact hx
    | any => exact hx
  refine ⟨⟨h.size, h.defers, fun t v ht => RV_trans g hf (h.slots t v ht), ?_, ?_, h.inj, ?_, h.tinj, ?_, h.ext, ?_, h.grow.trans g, frm_alloc h.fr _⟩, g⟩
  · intro r cs hr
    obtain ⟨o, h1, h2⟩ := h.boxes r cs hr
    exact ⟨o, (heap_alloc_old w _ _ (lt_of_heap h1)).trans h1, h2.mono hf g rfl⟩
  · intro r cs hr
    obtain ⟨o, h1, h2⟩ := h.boxes r cs hr
    obtain ⟨h3, h4⟩ := h.own r cs hr
    have := lt_of_heap h1
    exact ⟨by simp [h3]; omega, h4⟩
  · intro q e' k hq
    obtain ⟨n, xs, hk, ho, hg⟩ := h.toks q e' k hq
    refine ⟨n, xs, hk, ho.alloc _, fun g hg' => ?_⟩
    have := (ho.lt g hg').2
    have hne : g ≠ w.heap.size := by omega
    simp only [if_neg hne]
    exact hg g hg'
  · intro b us hb
    by_cases hbe : b = w.heap.size
    · subst hbe
      simp only [if_true] at hb
      injection hb with hb
      subst hb
      exact ⟨vs.toArray, e, (0, 0), heap_alloc_new w _, [], by simp⟩
    · simp only [if_neg hbe] at hb
      exact arr_alloc h.arr _ b us hb
  · intro k hk
    have := h.fr.size
    have hne : k ≠ w.heap.size := by omega
    simp only [if_neg hne]
    exact h.oldA k hk

def updR (μ : Ref → Nat) (r : Ref) (n : Nat) : Ref → Nat := fun s => bif Ref.beq s r then n else μ s
theorem updR_same {μ : Ref → Nat} {r : Ref} {n : Nat} : updR μ r n r = n := by simp [updR, Ref.beq_self]
theorem updR_ne {μ : Ref → Nat} {r s : Ref} {n : Nat} (h : s ≠ r) : updR μ r n s = μ s := by simp [updR, Ref.beq_false h]

theorem RC_scrub {Φ : Cx} {r : Ref} {n : Nat} {x : C} {v : Value} (h : RC Φ x v) : RC { Φ with μ := updR Φ.μ r n } (x.scrub r) v := by
  cases x with
  | ref s off =>
    by_cases hs : s = r
    · subst hs
      simp only [C.scrub, Ref.beq_self, cond_true]
      exact RC_one h
    · simp only [C.scrub, Ref.beq_false hs, cond_false]
      rw [RC] at h ⊢
      simp only [updR_ne hs]
      exact h
  | bs s k off len =>
    by_cases hs : s = r
    · subst hs
      simp only [C.scrub, Ref.beq_self, cond_true]
      exact RC_one h
    · simp only [C.scrub, Ref.beq_false hs, cond_false]
      rw [RC] at h ⊢
      simp only [updR_ne hs]
      exact h
  | mapc m => exact h.elim
  | map s =>
    by_cases hs : s = r
    · subst hs
      simp only [C.scrub, Ref.beq_self, cond_true]
      exact RC_one h
    · simp only [C.scrub, Ref.beq_false hs, cond_false]
      rw [RC] at h ⊢
      simp only [updR_ne hs]
      exact h
  | fn f caps =>
    cases hm : memR r caps with
    | true =>
      simp only [C.scrub, hm, cond_true]
      exact RC_one h
    | false =>
      simp only [C.scrub, hm, cond_false]
      rw [RC] at h ⊢
      rw [h]
      congr 2
      refine List.map_congr_left fun s hs => ?_
      have hne : s ≠ r := by
        rintro rfl
        rw [(memR_iff s caps).2 hs] at hm
        cases hm
      simp only [updR_ne hne]
  | dat d => exact h
  | nilsl => exact h
  | slt q rows => exact h
  | imm ds => exact h
  | nilp => exact h
  | any => exact h

/-- A new box under the name r. -/
theorem Rel.newBox (h : Rel c st Φ a w) {t : Nat} {cs : List C} {vs : Array Value} (e : TypeId) (hcs : All2 (RC Φ) cs vs.toList) :
    Rel c ((st.mapC (C.scrub (.o t))).setB (.o t) (cs.map (C.scrub (.o t)))) { Φ with μ := updR Φ.μ (.o t) w.heap.size } a (w.alloc (.cells vs e)) where
  size := h.size
  defers := h.defers
  slots := by
    intro s v hs
    simp only [St.setB, St.mapC, Option.map_eq_some_iff] at hs
    obtain ⟨u, hu, rfl⟩ := hs
    exact RV_mapC (Φ := Φ) (Φ' := { Φ with μ := updR Φ.μ (.o t) w.heap.size }) (f := C.scrub (.o t)) (Grows.refl Φ.A) (fun x v hx => RC_scrub hx) _ _ (h.slots s u hu)
  boxes := by
    intro r us hr
    by_cases hrt : r = .o t
    · subst hrt
      simp only [St.setB, Ref.beq_self, cond_true, Option.some.injEq] at hr
      subst hr
      exact ⟨_, by simp only [updR_same]; exact heap_alloc_new w _, .inl ⟨vs, e, rfl, All2_mapC (Φ := Φ) (Φ' := { Φ with μ := updR Φ.μ (.o t) w.heap.size }) (f := C.scrub (.o t)) (fun x v hx => RC_scrub hx) hcs⟩⟩
    · simp only [St.setB, Ref.beq_false hrt, cond_false, St.mapC, Option.map_eq_some_iff] at hr
      obtain ⟨ws, hw, rfl⟩ := hr
      obtain ⟨o, h1, h2⟩ := h.boxes r ws hw
      exact ⟨o, by simp only [updR_ne hrt]; rw [heap_alloc_old w _ _ (lt_of_heap h1)]; exact h1, h2.mapC (Φ := Φ) (Φ' := { Φ with μ := updR Φ.μ (.o t) w.heap.size }) (f := C.scrub (.o t)) (fun x v hx => RC_scrub hx) (keepM_same (Grows.refl _) rfl fun m => rfl)⟩
  own := by
    intro r us hr
    by_cases hrt : r = .o t
    · subst hrt
      simp only [updR_same]
      exact ⟨arr_none h.arr, .inl h.fr.size⟩
    · simp only [St.setB, Ref.beq_false hrt, cond_false, St.mapC, Option.map_eq_some_iff] at hr
      obtain ⟨ws, hw, rfl⟩ := hr
      simp only [updR_ne hrt]
      exact h.own r ws hw
  inj := by
    have old : ∀ r us, r ≠ .o t → ((st.mapC (C.scrub (.o t))).setB (.o t) (cs.map (C.scrub (.o t)))).bx r = some us → ∃ ws, st.bx r = some ws ∧ Φ.μ r < w.heap.size := by
      intro r us hrt hr
      simp only [St.setB, Ref.beq_false hrt, cond_false, St.mapC, Option.map_eq_some_iff] at hr
      obtain ⟨ws, hw, _⟩ := hr
      obtain ⟨o, h1, h2⟩ := h.boxes r ws hw
      exact ⟨ws, hw, lt_of_heap h1⟩
    intro r r' us us' hr hr' hm
    by_cases h1 : r = .o t <;> by_cases h2 : r' = .o t
    · rw [h1, h2]
    · subst h1
      obtain ⟨ws, _, hl⟩ := old r' us' h2 hr'
      simp only [updR_same, updR_ne h2] at hm
      omega
    · subst h2
      obtain ⟨ws, _, hl⟩ := old r us h1 hr
      simp only [updR_same, updR_ne h1] at hm
      omega
    · obtain ⟨ws, hw, _⟩ := old r us h1 hr
      obtain ⟨ws', hw', _⟩ := old r' us' h2 hr'
      simp only [updR_ne h1, updR_ne h2] at hm
      exact h.inj r r' ws ws' hw hw' hm
  toks := by
    intro q e' k hq
    obtain ⟨n, xs, hk, ho, hg⟩ := h.toks q e' k hq
    exact ⟨n, xs, hk, ho.alloc _, hg⟩
  tinj := h.tinj
  arr := arr_alloc h.arr _
  ext := by
    intro i hi
    simp only [updR_ne (show Ref.e i ≠ .o t from fun e => by cases e)]
    exact h.ext i hi
  oldA := h.oldA
  grow := h.grow
  fr := frm_alloc h.fr _

/-- A box is written. -/
theorem Rel.write (h : Rel c st Φ a w) {r : Ref} {cs cs' : List C} (hr : st.bx r = some cs) (hmb : mapBox cs = false) {vs' : Array Value} (h' : All2 (RC Φ) cs' vs'.toList) :
    Rel c (st.setB r cs') Φ a (w.setRow (Φ.μ r) vs') := by
  obtain ⟨o, hh, hbo⟩ := h.boxes r cs hr
  obtain ⟨vs, e, rfl, _⟩ := hbo.cells hmb
  obtain ⟨hA, hown⟩ := h.own r cs hr
  refine ⟨h.size, h.defers, h.slots, ?_, ?_, ?_, ?_, h.tinj, ?_, h.ext, h.oldA, h.grow, ?_⟩
  · intro s us hs
    by_cases hsr : s = r
    · subst hsr
      simp only [St.setB, Ref.beq_self, cond_true, Option.some.injEq] at hs
      subst hs
      exact ⟨_, setRow_heap w _ vs vs' e _ hh, .inl ⟨vs', e, rfl, h'⟩⟩
    · simp only [St.setB, Ref.beq_false hsr, cond_false] at hs
      obtain ⟨o, h1, h2⟩ := h.boxes s us hs
      refine ⟨o, ?_, h2⟩
      rw [setRow_other w _ _ _ (fun hm => hsr (h.inj s r us cs hs hr hm))]
      exact h1
  · intro s us hs
    by_cases hsr : s = r
    · subst hsr
      exact ⟨hA, hown⟩
    · simp only [St.setB, Ref.beq_false hsr, cond_false] at hs
      exact h.own s us hs
  · intro s s' us us' hs hs' hm
    have key : ∀ s us, (st.setB r cs').bx s = some us → ∃ ws, st.bx s = some ws := by
      intro s us hs
      by_cases hsr : s = r
      · subst hsr
        exact ⟨cs, hr⟩
      · simp only [St.setB, Ref.beq_false hsr, cond_false] at hs
        exact ⟨us, hs⟩
    obtain ⟨ws, hw⟩ := key s us hs
    obtain ⟨ws', hw'⟩ := key s' us' hs'
    exact h.inj s s' ws ws' hw hw' hm
  · intro q e' k hq
    obtain ⟨n, xs, hk, ho, hg⟩ := h.toks q e' k hq
    refine ⟨n, xs, hk, ho.kept (row := some (Φ.μ r)) ⟨rfl, rfl, rfl, by simp, fun j _ hj => setRow_other w _ j _ (fun e => hj (by rw [e]))⟩ ?_, hg⟩
    cases hb : (Φ.τ q).ownBlock with
    | none => exact .inl rfl
    | some g =>
      refine .inr fun he => ?_
      injection he with he
      have := hg g hb
      rw [he, hA] at this
      cases this
  · intro b us hb
    obtain ⟨cur, e', fr, h1, h2⟩ := h.arr b us hb
    refine ⟨cur, e', fr, ?_, h2⟩
    rw [setRow_other w _ b _ (fun he => by rw [he, hA] at hb; cases hb)]
    exact h1
  · refine ⟨h.fr.os, h.fr.tape, h.fr.output, by simpa using h.fr.size, fun k hk hx => ?_⟩
    rw [setRow_other w _ k _ (fun he => ?_)]
    · exact h.fr.block k hk hx
    · rcases hown with ho | ho
      · omega
      · exact hx (he ▸ ho.1)

theorem RC_unq {Φ : Cx} {q : Nat} {u : Value} {x : C} {v : Value} (h : RC Φ x v) : RC { Φ with τ := fun p => bif Nat.beq p q then u else Φ.τ p } (x.unq q) v := by
  cases x with
  | slt p rows =>
    cases hb : Nat.beq p q with
    | true =>
      simp only [C.unq, hb, cond_true]
      exact h.1
    | false =>
      simp only [C.unq, hb, cond_false]
      exact ⟨h.1, by simp only [hb, cond_false]; exact h.2⟩
  | ref s off => exact h
  | bs s k off len => exact h
  | map s => exact h
  | mapc m => exact h.elim
  | fn f caps => exact h
  | dat d => exact h
  | nilsl => exact h
  | imm ds => exact h
  | nilp => exact h
  | any => exact h
theorem All2.map2 {α γ β : Type} {R : α → β → Prop} {R' : γ → β → Prop} {f : α → γ} (hR : ∀ a b, R a b → R' (f a) b) : ∀ {as : List α} {bs : List β}, All2 R as bs → All2 R' (as.map f) bs
  | [], [], _ => trivial
  | a :: as, b :: bs, h => ⟨hR _ _ h.1, All2.map2 hR h.2⟩
  | [], b :: bs, h => h.elim
  | a :: as, [], h => h.elim
theorem keepM_unq {Φ : Cx} {q : Nat} {u : Value} : KeepM Φ { Φ with τ := fun p => bif Nat.beq p q then u else Φ.τ p } (C.unq q) := fun m => by
  refine ⟨m.map (ME.unq q), rfl, fun es clock h => ⟨?_, by rw [List.length_map]; exact h.clock, h.born⟩⟩
  refine All2.map2 (fun x e hx => ⟨hx.1, hx.2.1, fun p hp => ?_⟩) h.ents
  simp only [ME.unq] at hp
  cases ht : x.tok with
  | none => rw [ht] at hp; cases hp
  | some p' =>
    rw [ht] at hp
    simp only at hp
    cases hb : Nat.beq p' q with
    | true => rw [hb] at hp; cases hp
    | false =>
      rw [hb] at hp
      simp only [cond_false, Option.some.injEq] at hp
      subst hp
      simp only [hb, cond_false]
      exact hx.2.2 p' ht
end
end Go.TQ
