/- append onto a slice that the call owns: what was read of it before stays as it was. Own work over the kit's laws of append. -/
import Derived.Test.YtmfiplnojbjcbaaGreatAbsW
set_option linter.unusedVariables false
set_option linter.unusedSimpArgs false
namespace Go.TQ

section
variable {P : Program} (w : World)

theorem run_append_tok (base : Nat) (t ty e : TypeId) (i : TypeInfo) (z : Value) (k : Nat) (ht : P.underlying t = some (.slice e)) (hi : P.info? e = some i) (hz : i.zero = some z)
    (hsize : i.size = k) (hzs : z.cells.size = k) (hk : 0 < k)
    (v : Value) (n : Nat) (xs : List Value) (hown : w.ownsRow base e k v n xs)
    (src : Option Addr) (m c : Nat) (news : List Value) (hl : news.length = m * k) (hnil : src = none → m = 0)
    (hnews : ∀ a, src = some a → ∀ (j : Nat) (u : Value), news[j]? = some u → w.cell? (a.add j) = some u) (h1 : ∀ u ∈ news, u.oneCell' = true)
    (h63 : n + m ≤ maxLen) (hbytes : (n + m) * i.bytes ≤ 140737488355328) (hbase : base ≤ w.heap.size) :
    ∃ v' w', (Builtin.append_ #[t, t] ty #[v, .slice src m c]).run P w = .ok v' w' ∧ w'.ownsRow base e k v' (n + m) (xs ++ news) ∧
      ((w.grownBy w' v.ownBlock ∧ v'.ownBlock = v.ownBlock) ∨ (w.grownBy w' none ∧ v'.ownBlock = some w.heap.size)) := by
  subst hsize
  have hmax : maxLen = 9223372036854775807 := rfl
  cases src with
  | none =>
    obtain rfl := hnil rfl
    obtain rfl : news = [] := List.eq_nil_of_length_eq_zero (by simpa using hl)
    refine ⟨v, w, ?_, by simpa using hown, .inl ⟨⟨rfl, rfl, rfl, Nat.le_refl _, fun _ _ _ => rfl⟩, rfl⟩⟩
    rcases hown.2 with ⟨rfl, hn⟩ | ⟨g, cap, cur, rfl, _, _, hnc, _⟩
    · simp [Builtin.append_, run_underlying ht, sizeOf, typeInfo, hi, Builtin.lenOf, Builtin.firstCells]
    · simp [Builtin.append_, run_underlying ht, sizeOf, typeInfo, hi, Builtin.lenOf, Builtin.firstCells, hnc, storeCells]
  | some a =>
    have hnews := hnews a rfl
    rcases hown.2 with ⟨rfl, rfl⟩ | ⟨g, cap, cur, rfl, hbg, hg, hnc, hcm, hcs, htake⟩
    · obtain rfl : xs = [] := List.eq_nil_of_length_eq_zero (by simpa using hown.1)
      rcases Nat.eq_zero_or_pos m with rfl | hm
      · obtain rfl : news = [] := List.eq_nil_of_length_eq_zero (by simpa using hl)
        refine ⟨.slice none 0 0, w, ?_, World.ownsRow_nil w base e i.size, .inl ⟨⟨rfl, rfl, rfl, Nat.le_refl _, fun _ _ _ => rfl⟩, rfl⟩⟩
        simp [Builtin.append_, run_underlying ht, sizeOf, typeInfo, hi, Builtin.lenOf, Builtin.firstCells, loadCells, loadCellsFrom]
      · have hr := run_append_nil (P := P) w t ty e i z ht hi hz a m c news hl hnews hm (by omega) (by simp only [Nat.zero_add] at hbytes; omega)
        refine ⟨_, _, hr, ?_, .inr ⟨⟨rfl, rfl, rfl, by simp, fun j hj _ => heap_alloc_old w.drew _ j hj⟩, rfl⟩⟩
        refine ⟨by simp [hl], .inr ⟨w.heap.size, _, _, by rw [Nat.zero_add], hbase, heap_alloc_new w.drew _, ?_, grownCap_le_maxLen w m 0 e (by omega), ?_, ?_⟩⟩
        · rw [Nat.zero_add]; exact grownCap_ge w m 0 e
        · have := grownCap_ge w m 0 e
          simp only [Array.size_append, List.size_toArray, size_zeroCells, hzs, hl, ← Nat.add_mul]
          congr 1
          omega
        · simp only [Array.toList_append, List.nil_append, Nat.zero_add]
          rw [← hl]
          exact List.take_left
    · have hlen : (xs ++ news).length = (n + m) * i.size := by rw [List.length_append, hown.1, hl, Nat.add_mul]
      by_cases hroom : n + m ≤ cap
      · have hfit : n * i.size + news.length ≤ cur.size := by rw [hl, hcs, ← Nat.add_mul]; exact Nat.mul_le_mul_right _ hroom
        have hr := run_append_room (P := P) w t ty e i ht hi g n cap cur hg a m c news hl hnews h1 hroom hfit
        refine ⟨_, _, hr, ⟨hlen, .inr ⟨g, cap, _, rfl, hbg, setRow_heap w g cur _ e _ hg, hroom, hcm, ?_, ?_⟩⟩,
          .inl ⟨⟨rfl, rfl, rfl, by simp, fun j _ hj => setRow_other w g j _ (fun e => hj (by simp [Value.ownBlock, e]))⟩, rfl⟩⟩
        · simp only [List.size_toArray, List.length_append, List.length_take, List.length_drop, Array.length_toList]
          omega
        · rw [htake, ← hlen]
          exact List.take_left
      · have holds : ∀ (j : Nat) (u : Value), xs[j]? = some u → w.cell? ((⟨g, 0, none⟩ : Addr).add j) = some u := hown.cells (g := g) rfl
        have hr := run_append_grow (P := P) w t ty e i z ht hi hz ⟨g, 0, none⟩ n cap xs hown.1 holds a m c news hl hnews (by omega) (by omega) (growslice_fits (by omega) hbytes)
        have hge := grownCap_ge w (n + m) cap e
        refine ⟨_, _, hr, ?_, .inr ⟨⟨rfl, rfl, rfl, by simp, fun j hj _ => heap_alloc_old w.drew _ j hj⟩, rfl⟩⟩
        refine ⟨hlen, .inr ⟨w.heap.size, _, _, rfl, hbase, heap_alloc_new w.drew _, hge, grownCap_le_maxLen w (n + m) cap e h63, ?_, ?_⟩⟩
        · simp only [Array.size_append, List.size_toArray, size_zeroCells, hzs, hown.1, hl, ← Nat.add_mul]
          congr 1
          omega
        · simp only [Array.toList_append, List.append_assoc]
          rw [← List.append_assoc, ← hlen]
          exact List.take_left
end

section
variable {c : Ctx} {st : St} {Φ : Cx} {a : Act} {w : World}

/-- The name q of an owned slice is given up. -/
theorem Rel.dropTok (h : Rel c st Φ a w) (q : Nat) (u : Value) : Rel c ((st.mapC (C.unq q)).setT q none) { Φ with τ := fun p => bif Nat.beq p q then u else Φ.τ p } a w where
  size := h.size
  defers := h.defers
  slots := by
    intro s v hs
    simp only [St.setT, St.mapC, Option.map_eq_some_iff] at hs
    obtain ⟨x, hx, rfl⟩ := hs
    exact RV_mapC (Φ := Φ) (Φ' := { Φ with τ := fun p => bif Nat.beq p q then u else Φ.τ p }) (f := C.unq q) (Grows.refl Φ.A) (fun x v hx => RC_unq hx) _ _ (h.slots s x hx)
  boxes := by
    intro r cs hr
    simp only [St.setT, St.mapC, Option.map_eq_some_iff] at hr
    obtain ⟨us, hu, rfl⟩ := hr
    obtain ⟨o, h1, h2⟩ := h.boxes r us hu
    exact ⟨o, h1, h2.mapC (Φ := Φ) (Φ' := { Φ with τ := fun p => bif Nat.beq p q then u else Φ.τ p }) (f := C.unq q) (fun x v hx => RC_unq hx) keepM_unq⟩
  own := by
    intro r cs hr
    simp only [St.setT, St.mapC, Option.map_eq_some_iff] at hr
    obtain ⟨us, hu, rfl⟩ := hr
    exact h.own r us hu
  inj := by
    intro r r' cs cs' hr hr'
    simp only [St.setT, St.mapC, Option.map_eq_some_iff] at hr hr'
    obtain ⟨us, hu, rfl⟩ := hr
    obtain ⟨us', hu', rfl⟩ := hr'
    exact h.inj r r' us us' hu hu'
  toks := by
    intro p e k hp
    simp only [St.setT] at hp
    cases hb : Nat.beq p q with
    | true => rw [hb] at hp; cases hp
    | false =>
      rw [hb] at hp
      simp only [hb, cond_false]
      exact h.toks p e k hp
  tinj := by
    intro p p' x x' g hp hp'
    simp only [St.setT] at hp hp'
    cases hb : Nat.beq p q with
    | true => rw [hb] at hp; cases hp
    | false =>
      cases hb' : Nat.beq p' q with
      | true => rw [hb'] at hp'; cases hp'
      | false =>
        rw [hb] at hp
        rw [hb'] at hp'
        simp only [hb, hb', cond_false]
        exact h.tinj p p' x x' g hp hp'
  arr := h.arr
  ext := h.ext
  oldA := h.oldA
  grow := h.grow
  fr := h.fr

/-- A slice that the call owns has grown; its new name is t. -/
theorem Rel.appended (h : Rel c st Φ a w) {v v' : Value} {w' : World} {e k n m t : Nat} {xs news : List Value} (hk : 0 < k)
    (hown : w.ownsRow c.w0.heap.size e k v n xs) (hA : ∀ g, v.ownBlock = some g → Φ.A g = some xs)
    (hfree : ∀ q x g, st.tk q = some x → (Φ.τ q).ownBlock = some g → v.ownBlock ≠ some g)
    (hown' : w'.ownsRow c.w0.heap.size e k v' (n + m) (xs ++ news))
    (hg : (w.grownBy w' v.ownBlock ∧ v'.ownBlock = v.ownBlock) ∨ (w.grownBy w' none ∧ v'.ownBlock = some w.heap.size))
    (ht : st.tk t = none) (hτ : Φ.τ t = v') :
    Grows Φ.A (fun b => if v'.ownBlock = some b then some (xs ++ news) else Φ.A b) ∧
    Rel c (st.setT t (some (e, k))) { Φ with A := fun b => if v'.ownBlock = some b then some (xs ++ news) else Φ.A b } a w' := by
  have hnone := arr_none h.arr
  have hgrow : w.grownBy w' v.ownBlock := by
    rcases hg with ⟨h1, _⟩ | ⟨h1, _⟩
    · exact h1
    · exact ⟨h1.os, h1.tape, h1.output, h1.size, fun j hj _ => h1.block j hj (by simp)⟩
  have g : Grows Φ.A (fun b => if v'.ownBlock = some b then some (xs ++ news) else Φ.A b) := fun b us hb => by
    by_cases hv : v'.ownBlock = some b
    · simp only [if_pos hv]
      rcases hg with ⟨_, h2⟩ | ⟨_, h2⟩
      · rw [h2] at hv
        have := hA b hv
        rw [hb] at this
        injection this with this
        exact ⟨news, by rw [this]⟩
      · rw [h2] at hv
        injection hv with hv
        rw [← hv, hnone] at hb
        cases hb
    · simp only [if_neg hv]
      exact ⟨[], by simpa using hb⟩
  have hf : ∀ x u, RC Φ x u → RC { Φ with A := fun b => if v'.ownBlock = some b then some (xs ++ news) else Φ.A b } x u := by
    intro x u hx
    cases x with
    | dat d => exact RD_grows g d u hx
    | slt q rows => exact ⟨RD_grows g _ u hx.1, hx.2⟩
    | imm ds =>
      obtain ⟨b, o, us, hv, hA', hr⟩ := hx
      obtain ⟨ws, hw⟩ := g b us hA'
      refine ⟨b, o, us ++ ws, hv, hw, ?_⟩
      have := RDs_grows g ds _ hr
      rw [RDs_iff] at this ⊢
      intro j d hd
      obtain ⟨v, hv, hr⟩ := this j d hd
      exact ⟨v, drop_append_some hv, hr⟩
    | nilsl => exact hx
    | ref r off => exact hx
    | nilp => exact hx
    | bs r k off len => exact hx
    | fn f caps => exact hx
    | map r => exact hx
    | mapc m => exact hx
    | any => exact hx
  -- a block that is not the row's own and lay before stays as it was
  have hkeep : ∀ b, b < w.heap.size → v.ownBlock ≠ some b → w'.heap[b]? = w.heap[b]? := fun b hb hne => hgrow.block b hb (fun e => hne e.symm)
  have hboxne : ∀ r cs, st.bx r = some cs → v.ownBlock ≠ some (Φ.μ r) := fun r cs hr he => by
    have := hA _ he
    rw [(h.own r cs hr).1] at this
    cases this
  have hnew : ∀ b, b < w.heap.size → v.ownBlock ≠ some b → v'.ownBlock ≠ some b := fun b hb hne he => by
    rcases hg with ⟨_, h2⟩ | ⟨_, h2⟩
    · rw [h2] at he; exact hne he
    · rw [h2] at he; injection he with he; omega
  refine ⟨g, h.size, h.defers, fun s u hs => RV_trans g hf (h.slots s u hs), ?_, ?_, h.inj, ?_, ?_, ?_, h.ext, ?_, h.grow.trans g, ?_⟩
  · intro r cs hr
    obtain ⟨o, h1, h2⟩ := h.boxes r cs hr
    exact ⟨o, (hkeep _ (lt_of_heap h1) (hboxne r cs hr)).trans h1, h2.mono hf g rfl⟩
  · intro r cs hr
    obtain ⟨o, h1, h2⟩ := h.boxes r cs hr
    obtain ⟨h3, h4⟩ := h.own r cs hr
    refine ⟨?_, h4⟩
    simp only [if_neg (hnew _ (lt_of_heap h1) (hboxne r cs hr))]
    exact h3
  · intro q e' k' hq
    cases hb : Nat.beq q t with
    | true =>
      simp only [St.setT, hb, cond_true, Option.some.injEq, Prod.mk.injEq] at hq
      obtain ⟨rfl, rfl⟩ := hq
      obtain rfl := (nbeq_iff q t).1 hb
      refine ⟨n + m, xs ++ news, hk, by simp only [hτ]; exact hown', fun g hg' => ?_⟩
      simp only [hτ] at hg'
      simp only [if_pos hg']
    | false =>
      simp only [St.setT, hb, cond_false] at hq
      obtain ⟨n', xs', hk', ho, hg'⟩ := h.toks q e' k' hq
      have hne : (Φ.τ q).ownBlock = none ∨ (Φ.τ q).ownBlock ≠ v.ownBlock := by
        cases hb' : (Φ.τ q).ownBlock with
        | none => exact .inl rfl
        | some g => exact .inr (fun he => hfree q _ g hq hb' he.symm)
      refine ⟨n', xs', hk', ho.kept hgrow hne, fun g hgg => ?_⟩
      have hlt := (ho.lt g hgg).2
      simp only [if_neg (hnew g hlt (hfree q _ g hq hgg))]
      exact hg' g hgg
  · intro q q' x x' g hq hq' h1 h2
    have hlt : ∀ q x, st.tk q = some x → ∀ g, (Φ.τ q).ownBlock = some g → v'.ownBlock ≠ some g := by
      rintro q ⟨e', k'⟩ hq g hgg
      obtain ⟨n', xs', hk', ho, _⟩ := h.toks q e' k' hq
      exact hnew g (ho.lt g hgg).2 (hfree q _ g hq hgg)
    cases hb : Nat.beq q t <;> cases hb' : Nat.beq q' t
    · simp only [St.setT, hb, hb', cond_false] at hq hq'
      exact h.tinj q q' x x' g hq hq' h1 h2
    · obtain rfl := (nbeq_iff q' t).1 hb'
      simp only [St.setT, hb, cond_false] at hq
      simp only [hτ] at h2
      exact absurd h2 (hlt q x hq g h1)
    · obtain rfl := (nbeq_iff q t).1 hb
      simp only [St.setT, hb', cond_false] at hq'
      simp only [hτ] at h1
      exact absurd h1 (hlt q' x' hq' g h2)
    · rw [(nbeq_iff q t).1 hb, (nbeq_iff q' t).1 hb']
  · intro b us hb
    by_cases hv : v'.ownBlock = some b
    · simp only [if_pos hv] at hb
      injection hb with hb
      subst hb
      rcases hown'.2 with ⟨rfl, _⟩ | ⟨gg, cap, cur, rfl, _, hh, _, _, _, htake⟩
      · simp [Value.ownBlock] at hv
      · have : gg = b := by simpa [Value.ownBlock] using hv
        subst this
        exact ⟨cur, e, (0, 0), hh, cur.toList.drop ((n + m) * k), by rw [← htake, List.take_append_drop]⟩
    · simp only [if_neg hv] at hb
      obtain ⟨cur, e', fr, h1, us', h2⟩ := h.arr b us hb
      by_cases hvb : v.ownBlock = some b
      · rcases hg with ⟨_, h3⟩ | ⟨h3, _⟩
        · exact absurd (h3.trans hvb) hv
        · exact ⟨cur, e', fr, (h3.block b (lt_of_heap h1) (by simp)).trans h1, us', h2⟩
      · exact ⟨cur, e', fr, (hkeep b (lt_of_heap h1) hvb).trans h1, us', h2⟩
  · intro j hj
    have hs := h.fr.size
    have : v.ownBlock ≠ some j := fun he => by
      have := (hown.lt j he).1
      omega
    simp only [if_neg (hnew j (by omega) this)]
    exact h.oldA j hj
  · refine ⟨hgrow.os.trans h.fr.os, hgrow.tape.trans h.fr.tape, hgrow.output.trans h.fr.output, Nat.le_trans h.fr.size hgrow.size, fun j hj hx => ?_⟩
    have hs := h.fr.size
    rw [hkeep j (by omega) (fun he => by have := (hown.lt j he).1; omega)]
    exact h.fr.block j hj hx
end
end Go.TQ
