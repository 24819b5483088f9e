/- Maps whose values are owned slices: look up, append, names of the owned values. Own work. -/
import Derived.Test.YtmfiplnojbjcbaaGreatC16
set_option linter.unusedVariables false
set_option linter.unusedSimpArgs false
namespace Go.TQ
abbrev Fil := List (Place × List Env)
/-- The map, each value owned under a name of its own. -/
def mkM : Fil → Nat → List ME
  | [], _ => []
  | x :: l, i => ⟨.agg x.1.d, some (100 + i), .sl (x.2.map Env.d)⟩ :: mkM l (i + 1)
/-- The map, nothing owned. -/
def mkF (l : Fil) : List ME := l.map fun x => ⟨.agg x.1.d, none, .sl (x.2.map Env.d)⟩
def posK (k : Place) : Fil → Nat → Option Nat
  | [], _ => none
  | x :: l, i => if x.1 = k then some i else posK k l (i + 1)
def getK (k : Place) : Fil → List Env
  | [] => []
  | x :: l => if x.1 = k then x.2 else getK k l
def putK (k : Place) (e : Env) : Fil → Fil
  | [] => [(k, [e])]
  | x :: l => if x.1 = k then (x.1, x.2 ++ [e]) :: l else x :: putK k e l
theorem mkM_len : ∀ (l : Fil) (i : Nat), (mkM l i).length = l.length
  | [], _ => rfl
  | x :: l, i => by simp [mkM, mkM_len l]
theorem mkM_get : ∀ (l : Fil) (i j : Nat), (mkM l i)[j]? = (l[j]?).map fun x => ⟨.agg x.1.d, some (100 + (i + j)), .sl (x.2.map Env.d)⟩
  | [], i, j => by simp [mkM]
  | x :: l, i, 0 => by simp [mkM]
  | x :: l, i, j + 1 => by simp only [mkM, List.getElem?_cons_succ]; rw [mkM_get l (i + 1) j, show i + 1 + j = i + (j + 1) by omega]
theorem mkM_free : ∀ (l : Fil) (i : Nat), (mkM l i).map ME.free = mkF l
  | [], _ => rfl
  | x :: l, i => by simp [mkM, mkF, ME.free]; exact mkM_free l (i + 1)
theorem mkF_free (l : Fil) : (mkF l).map ME.free = mkF l := by simp [mkF, ME.free]
theorem mkF_unq (q : Nat) (l : Fil) : (mkF l).map (ME.unq q) = mkF l := by simp [mkF, ME.unq]
theorem eqDs_place (p q : Place) : eqDs [.i, .i] p.d q.d = some (decide (p = q)) := by
  simp only [Place.d, eqDs, decide_true, cond_true, Option.map_some, Option.some.injEq]
  cases p; cases q
  simp only [Place.mk.injEq, Bool.and_true, ← Bool.decide_and]
theorem findM_mkM (k : Place) : ∀ (l : Fil) (i m : Nat), findM [.i, .i] k.d (mkM l i) m = some (posK k l m)
  | [], _, _ => rfl
  | x :: l, i, m => by
    rw [mkM, findM, posK]
    simp only [eqDs_place]
    by_cases h : k = x.1
    · simp [h]
    · simp only [h, decide_false]; rw [findM_mkM k l (i + 1) (m + 1), if_neg (fun e => h e.symm)]
theorem findM_mkF (k : Place) : ∀ (l : Fil) (m : Nat), findM [.i, .i] k.d (mkF l) m = some (posK k l m)
  | [], _ => rfl
  | x :: l, m => by
    rw [mkF, List.map_cons, findM, posK]
    simp only [eqDs_place]
    by_cases h : k = x.1
    · simp [h]
    · simp only [h, decide_false]; rw [← mkF, findM_mkF k l (m + 1), if_neg (fun e => h e.symm)]
theorem posK_some {k : Place} : ∀ {l : Fil} {i j : Nat}, posK k l i = some j → i ≤ j ∧ ∃ x, l[j - i]? = some x ∧ x.1 = k ∧ getK k l = x.2
  | [], i, j, h => by cases h
  | x :: l, i, j, h => by
    rw [posK] at h
    split at h
    · rename_i hx
      injection h with h; subst h
      exact ⟨Nat.le_refl _, x, by simp, hx, by rw [getK, if_pos hx]⟩
    · rename_i hx
      obtain ⟨h1, y, h2, h3, h4⟩ := posK_some h
      refine ⟨by omega, y, ?_, h3, by rw [getK, if_neg hx]; exact h4⟩
      rw [show j - i = (j - (i + 1)) + 1 by omega, List.getElem?_cons_succ]; exact h2
theorem posK_none {k : Place} : ∀ {l : Fil} {i : Nat}, posK k l i = none → getK k l = [] ∧ ∀ x ∈ l, x.1 ≠ k
  | [], i, _ => ⟨rfl, by simp⟩
  | x :: l, i, h => by
    rw [posK] at h
    split at h
    · cases h
    · rename_i hx
      obtain ⟨h1, h2⟩ := posK_none h
      refine ⟨by rw [getK, if_neg hx]; exact h1, fun y hy => ?_⟩
      rcases List.mem_cons.1 hy with rfl | hy
      · exact hx
      · exact h2 y hy
theorem putK_none {k : Place} {e : Env} : ∀ {l : Fil} {i : Nat}, posK k l i = none → putK k e l = l ++ [(k, [e])]
  | [], i, _ => rfl
  | x :: l, i, h => by
    rw [posK] at h
    split at h
    · cases h
    · rename_i hx
      rw [putK, if_neg hx, putK_none h]; rfl
theorem putK_some {k : Place} {e : Env} : ∀ {l : Fil} {i j : Nat}, posK k l i = some j → putK k e l = l.modify (j - i) fun x => (x.1, x.2 ++ [e])
  | [], i, j, h => by cases h
  | x :: l, i, j, h => by
    rw [posK] at h
    split at h
    · rename_i hx
      injection h with h; subst h
      rw [putK, if_pos hx, Nat.sub_self]; simp
    · rename_i hx
      have h1 := (posK_some h).1
      rw [putK, if_neg hx, putK_some h, show j - i = (j - (i + 1)) + 1 by omega]; simp
theorem putK_len {k : Place} {e : Env} : ∀ (l : Fil), (putK k e l).length ≤ l.length + 1
  | [] => by simp [putK]
  | x :: l => by rw [putK]; split <;> simp; exact putK_len l
theorem unq_mkM {q : Nat} : ∀ {l : Fil} {i : Nat}, (∀ j, j < l.length → q ≠ 100 + (i + j)) → (mkM l i).map (ME.unq q) = mkM l i
  | [], _, _ => rfl
  | x :: l, i, h => by
    have h0 := h 0 (by simp)
    have hb : Nat.beq (100 + i) q = false := by
      cases hb : Nat.beq (100 + i) q with
      | true => exact absurd ((nbeq_iff _ _).1 hb).symm h0
      | false => rfl
    rw [mkM, List.map_cons, unq_mkM fun j hj => by have := h (j + 1) (by simp; omega); omega]
    simp [ME.unq, hb]

section
variable {c : Ctx} {st : St} {K : St → Prop} {t ty : Nat} {pos : String} {af : Array Edge} {gd : Option (Nat × Bool)}
theorem aop_weak {o : Oper} {K1 : St → Prop} (h : AOp c o st K1) (hw : ∀ s, K1 s → ∃ s', Le c s s' ∧ K s') : AOp c o st K := fun Φ a w hr K' Q hQ =>
  h Φ a w hr K' Q fun st' Φ' a' w' hr' hk => by
    obtain ⟨s', hle, hk'⟩ := hw st' hk
    obtain ⟨Φ2, hr2⟩ := hle Φ' a' w' hr'
    exact hQ s' Φ2 a' w' hr2 hk'
theorem put_put (v v' : V) : (st.put t v).put t v' = st.put t v' := by
  cases st with
  | mk sl bx tk =>
    simp only [St.put, St.mk.injEq, and_true]
    funext s
    cases Nat.beq s t <;> rfl
theorem le_put_norm (v : V) : Le c (st.put t v) (st.put t v.norm) := by
  have := le_normS (c := c) (st := st.put t v) (t := t) (v := v) (by simp [St.put])
  rwa [put_put] at this
theorem op_lookupM {x y : Operand} {tx kt e : TypeId} {r : Ref} {l : Fil} {k : Place} {v : V} {i : Nat} (hx : Has c st x (.one (.map r))) (hb : st.bx r = some [.mapc (mkM l i)]) (hy : Has c st y v) (hv : v.norm = .aggd k.d)
    (hT : keyT c.P tx = some (kt, e, [.i, .i])) (hz : zero1 c.P e = some .nilsl) (ht : Nat.blt t c.N = true)
    (hK : K (st.put t (.one (.dat (.sl ((getK k l).map Env.d)))))) : AOp c ⟨some t, .lookup tx x y false, ty, pos, af, gd⟩ st K := by
  cases hp : posK k l 0 with
  | none =>
    refine aop_weak (op_lookup (res := none) hx hb hy hv hT hz rfl ((findM_mkM k l i 0).trans (by rw [hp])) ht (K := fun s => s = st.put t _) rfl) ?_
    intro s hs
    refine ⟨_, ?_, hK⟩
    subst hs
    have := le_put_norm (c := c) (st := st) (t := t) (.one .nilsl)
    rw [(posK_none hp).1]; exact this
  | some j =>
    obtain ⟨_, x0, h1, _, h3⟩ := posK_some hp
    rw [Nat.sub_zero] at h1
    refine aop_weak (op_lookup (res := some j) hx hb hy hv hT hz rfl ((findM_mkM k l i 0).trans (by rw [hp])) ht (K := fun s => s = st.put t _) rfl) ?_
    intro s hs
    refine ⟨_, ?_, hK⟩
    subst hs
    have := le_put_norm (c := c) (st := st) (t := t) (.one (((mkM l i)[j]?.map ME.v).getD .any))
    rw [h3]
    simp only [mkM_get, h1, Option.map_some, Option.getD_some, ME.v] at this ⊢
    exact this
theorem op_lookupF {x y : Operand} {tx kt e : TypeId} {r : Ref} {l : Fil} {k : Place} {v : V} (hx : Has c st x (.one (.map r))) (hb : st.bx r = some [.mapc (mkF l)]) (hy : Has c st y v) (hv : v.norm = .aggd k.d)
    (hT : keyT c.P tx = some (kt, e, [.i, .i])) (hz : zero1 c.P e = some .nilsl) (ht : Nat.blt t c.N = true)
    (hK : K (st.put t (.one (.dat (.sl ((getK k l).map Env.d)))))) : AOp c ⟨some t, .lookup tx x y false, ty, pos, af, gd⟩ st K := by
  cases hp : posK k l 0 with
  | none =>
    refine aop_weak (op_lookup (res := none) hx hb hy hv hT hz rfl ((findM_mkF k l 0).trans (by rw [hp])) ht (K := fun s => s = st.put t _) rfl) ?_
    intro s hs
    refine ⟨_, ?_, hK⟩
    subst hs
    have := le_put_norm (c := c) (st := st) (t := t) (.one .nilsl)
    rw [(posK_none hp).1]; exact this
  | some j =>
    obtain ⟨_, x0, h1, _, h3⟩ := posK_some hp
    rw [Nat.sub_zero] at h1
    refine aop_weak (op_lookup (res := some j) hx hb hy hv hT hz rfl ((findM_mkF k l 0).trans (by rw [hp])) ht (K := fun s => s = st.put t _) rfl) ?_
    intro s hs
    refine ⟨_, ?_, hK⟩
    subst hs
    have := le_put_norm (c := c) (st := st) (t := t) (.one (((mkF l)[j]?.map ME.v).getD .any))
    rw [h3]
    simp only [mkF, List.getElem?_map, h1, Option.map_some, Option.getD_some, ME.v] at this ⊢
    exact this
theorem op_mapEntryN {x y : Operand} {tx kt e : TypeId} {r : Ref} {l : Fil} {k : Place} {v : V} (hx : Has c st x (.one (.map r))) (hb : st.bx r = some [.mapc (mkM l 0)]) (hy : Has c st y v) (hv : v.norm = .aggd k.d)
    (hT : keyT c.P tx = some (kt, e, [.i, .i])) (hz : zero1 c.P e = some .nilsl) (hp : posK k l 0 = none) (hm : l.length ≤ 1000000000) (ht : Nat.blt t c.N = true)
    (hK : K ((st.setB r [.mapc (mkM l 0 ++ [⟨.agg k.d, none, .sl []⟩])]).put t (.tup [.one .nilsl, .one (.dat (.int .i64 (l.length : Int)))]))) : AOp c ⟨some t, .mapEntry tx x y, ty, pos, af, gd⟩ st K :=
  op_mapEntry hx hb hy hv hT hz rfl rfl ((findM_mkM k l 0 0).trans (by rw [hp])) (by rw [mkM_len]; exact hm) ht (fun j h => by cases h) (fun _ => by rw [mkM_len]; exact hK)
theorem op_mapEntryS {x y : Operand} {tx kt e : TypeId} {r : Ref} {l : Fil} {k : Place} {v : V} {j : Nat} (hx : Has c st x (.one (.map r))) (hb : st.bx r = some [.mapc (mkM l 0)]) (hy : Has c st y v) (hv : v.norm = .aggd k.d)
    (hT : keyT c.P tx = some (kt, e, [.i, .i])) (hz : zero1 c.P e = some .nilsl) (hp : posK k l 0 = some j) (hm : l.length ≤ 1000000000) (ht : Nat.blt t c.N = true)
    (hK : K (st.put t (.tup [.one (.slt (100 + j) ((getK k l).map Env.d)), .one (.dat (.int .i64 (j : Int)))]))) : AOp c ⟨some t, .mapEntry tx x y, ty, pos, af, gd⟩ st K :=
  op_mapEntry hx hb hy hv hT hz rfl rfl ((findM_mkM k l 0 0).trans (by rw [hp])) (by rw [mkM_len]; exact hm) ht (fun j' h => by
    injection h with h; subst h
    obtain ⟨_, x0, h1, _, h3⟩ := posK_some hp
    rw [Nat.sub_zero] at h1
    rw [mkM_get, h1]
    simp only [Option.map_some, Option.getD_some, ME.v, Nat.zero_add]
    rw [← h3]; exact hK) (fun h => by cases h)

/-- An owned value of a map gets another name. -/
theorem le_retokM {q p j : Nat} {r : Ref} {x : TypeId × Nat} {m : List ME} {e : ME} (hq : st.tk q = some x) (hbr : st.bx r = some [.mapc m]) (hu : m[j]? = some e) (he : e.tok = some q) :
    Le c st ((((((st.mapC (C.unq q)).setT q none).mapC (C.unq p)).setT p none).setT p (some x)).setB r [.mapc (((m.map (ME.unq q)).map (ME.unq p)).modify j fun e => { e with tok := some p })]) := fun Φ a w hr => by
  obtain ⟨o, hh, hbo⟩ := hr.boxes r _ hbr
  obtain ⟨es, clock, rfl, hm⟩ := hbo.amap
  obtain ⟨e0, he0, hre⟩ := hm.ents.get j e hu
  have hval : e0.val = Φ.τ q := hre.2.2 q he
  obtain ⟨n, xs, hk, hown, hA⟩ := hr.toks q x.1 x.2 hq
  have hfree : ∀ q' x' g, (((st.mapC (C.unq q)).setT q none).tk q') = some x' → (Φ.τ q').ownBlock = some g → (Φ.τ q).ownBlock ≠ some g := by
    intro q' x' g h1 h2 h3
    simp only [St.setT, St.mapC] at h1
    cases hb : Nat.beq q' q with
    | true => rw [hb] at h1; cases h1
    | false =>
      rw [hb] at h1
      have := hr.tinj q' q x' x g h1 hq h2 h3
      subst this
      rw [Nat.beq_refl] at hb
      cases hb
  have hd := (hr.dropTok q (Φ.τ q)).dropTok p (Φ.τ q)
  have hτq : ∀ r, (bif Nat.beq r q then Φ.τ q else Φ.τ r) = Φ.τ r := by
    intro r
    cases hb : Nat.beq r q with
    | true => rw [(nbeq_iff r q).1 hb]; rfl
    | false => rfl
  have hbd : ((((st.mapC (C.unq q)).setT q none).mapC (C.unq p)).setT p none).bx r = some [.mapc ((m.map (ME.unq q)).map (ME.unq p))] := by
    simp [St.setT, St.mapC, hbr, C.unq]
  refine ⟨_, hd.size, hd.defers, hd.slots, ?_, ?_, ?_, ?_, ?_, hd.arr, hd.ext, hd.oldA, hd.grow, hd.fr⟩
  · intro s us hs
    by_cases hsr : s = r
    · subst hsr
      simp only [St.setB, Ref.beq_self, cond_true, Option.some.injEq] at hs
      subst hs
      obtain ⟨o2, hh2, hbo2⟩ := hd.boxes _ _ hbd
      rw [hh] at hh2
      injection hh2 with hh2
      subst hh2
      obtain ⟨es2, clock2, ho2, hm2⟩ := hbo2.amap
      injection ho2 with ho2 ho3
      subst ho2; subst ho3
      refine ⟨_, hh, .inr ⟨_, es, clock, rfl, rfl, ?_, by rw [List.length_modify]; exact hm2.clock, hm2.born⟩⟩
      refine All2.of_get (by rw [List.length_modify]; exact hm2.ents.length) fun i y v hx hv => ?_
      rw [List.getElem?_modify, Option.map_eq_map, Option.map_eq_some_iff] at hx
      obtain ⟨y0, hy0, rfl⟩ := hx
      have h3 := hm2.ents.get2 hy0 hv
      by_cases hj : j = i
      · subst hj
        simp only [if_true]
        refine ⟨h3.1, h3.2.1, fun q' hq' => ?_⟩
        injection hq' with hq'
        subst hq'
        rw [he0] at hv
        injection hv with hv
        subst hv
        simp only [Nat.beq_refl, cond_true]
        exact hval
      · simp only [hj, if_false]
        exact h3
    · simp only [St.setB, Ref.beq_false hsr, cond_false] at hs
      exact hd.boxes s us hs
  · intro s us hs
    by_cases hsr : s = r
    · subst hsr
      exact hd.own s _ hbd
    · simp only [St.setB, Ref.beq_false hsr, cond_false] at hs
      exact hd.own s us hs
  · have key : ∀ s us, ((((((st.mapC (C.unq q)).setT q none).mapC (C.unq p)).setT p none).setT p (some x)).setB r [.mapc (((m.map (ME.unq q)).map (ME.unq p)).modify j fun e => { e with tok := some p })]).bx s = some us → ∃ us', ((((st.mapC (C.unq q)).setT q none).mapC (C.unq p)).setT p none).bx s = some us' := by
      intro s us hs
      by_cases hsr : s = r
      · exact ⟨_, hsr ▸ hbd⟩
      · simp only [St.setB, Ref.beq_false hsr, cond_false] at hs
        exact ⟨us, hs⟩
    intro s s' us us' hs hs' hm
    obtain ⟨x, hx⟩ := key s us hs
    obtain ⟨x', hx'⟩ := key s' us' hs'
    exact hd.inj s s' x x' hx hx' hm
  · intro r' e' k' hp
    simp only [St.setB, St.setT] at hp
    cases hb : Nat.beq r' p with
    | true =>
      rw [hb] at hp
      simp only [cond_true, Option.some.injEq] at hp
      subst hp
      simp only [hb, cond_true]
      exact ⟨n, xs, hk, hown, hA⟩
    | false =>
      rw [hb] at hp
      simp only [hb, cond_false]
      refine hd.toks r' e' k' ?_ |>.elim fun n' h => ⟨n', by simpa [hb] using h⟩
      simp only [St.setT, hb, cond_false]
      exact hp
  · intro r1 r2 y y' g hp hp' h1 h2
    simp only [St.setB, St.setT] at hp hp'
    cases hb : Nat.beq r1 p with
    | true =>
      cases hb' : Nat.beq r2 p with
      | true => rw [(nbeq_iff r1 p).1 hb, (nbeq_iff r2 p).1 hb']
      | false =>
        simp only [hb, hb', cond_true, cond_false, hτq] at h1 h2
        rw [hb'] at hp'
        exact absurd h1 (hfree r2 _ g hp' h2)
    | false =>
      cases hb' : Nat.beq r2 p with
      | true =>
        simp only [hb, hb', cond_true, cond_false, hτq] at h1 h2
        rw [hb] at hp
        exact absurd h2 (hfree r1 _ g hp h1)
      | false =>
        rw [hb] at hp
        rw [hb'] at hp'
        exact hd.tinj r1 r2 y y' g (by simpa [St.setT, hb] using hp) (by simpa [St.setT, hb'] using hp') h1 h2
theorem mod_tok {l : List ME} {j : Nat} {t : Option Nat} {d : Dat} (hj : j < l.length) : ∃ e, (l.modify j fun e => { e with tok := t, val := d })[j]? = some e ∧ e.tok = t := by
  refine ⟨_, by rw [List.getElem?_modify, List.getElem?_eq_getElem hj]; simp; rfl, rfl⟩
theorem le_retokX {q p j : Nat} {r : Ref} {x : TypeId × Nat} {m : List ME} (hq : st.tk q = some x) (hbr : st.bx r = some [.mapc m]) (hu : ∃ e, m[j]? = some e ∧ e.tok = some q) :
    Le c st ((((((st.mapC (C.unq q)).setT q none).mapC (C.unq p)).setT p none).setT p (some x)).setB r [.mapc (((m.map (ME.unq q)).map (ME.unq p)).modify j fun e => { e with tok := some p })]) := by
  obtain ⟨e, h1, h2⟩ := hu
  exact le_retokM hq hbr h1 h2
theorem unq_ne {q : Nat} {x : ME} {i : Nat} (h : x.tok = some i) (hi : i ≠ q) : x.unq q = x := by
  obtain ⟨k, t, v⟩ := x
  simp only at h
  subst h
  have hb : Nat.beq i q = false := by
    cases hb : Nat.beq i q with
    | true => exact absurd ((nbeq_iff _ _).1 hb) hi
    | false => rfl
  simp [ME.unq, hb]
theorem unq_key (q : Nat) (x : ME) : (x.unq q).key = x.key ∧ (x.unq q).val = x.val := ⟨rfl, rfl⟩
/-- What appending to a value that is there makes of the map. -/
theorem endS {k : Place} {ev : Env} {m : Fil} {j Q : Nat} (hp : posK k m 0 = some j) (hQ : Q < 100) :
    [C.mapc (mkM (putK k ev m) 0)] = [C.mapc ((((((((mkM m 0).map (ME.unq (100 + j))).map (ME.unq Q)).modify j fun e => { e with tok := some Q, val := .sl ((getK k m).map Env.d ++ [ev.d]) }).map (ME.unq Q)).map (ME.unq (100 + j))).modify j fun e => { e with tok := some (100 + j) }))] := by
  obtain ⟨_, x0, h1, h2, h3⟩ := posK_some hp
  rw [Nat.sub_zero] at h1
  congr 2
  apply List.ext_getElem?
  intro i
  rw [mkM_get, putK_some hp, Nat.sub_zero, List.getElem?_modify, List.getElem?_modify, List.getElem?_map, List.getElem?_map, List.getElem?_modify, List.getElem?_map, List.getElem?_map, mkM_get]
  by_cases hi : j = i
  · subst hi
    rw [h1]
    simp only [Option.map_some, Option.map_eq_map, if_true, Nat.zero_add, Option.some.injEq]
    rw [h3]
    simp [ME.unq]
  · cases hm : m[i]? with
    | none => simp
    | some y =>
      simp only [Option.map_some, Option.map_eq_map, hi, if_false, Nat.zero_add, Option.some.injEq]
      have hu : ∀ q, 100 + i ≠ q → ME.unq q ⟨.agg y.1.d, some (100 + i), .sl (y.2.map Env.d)⟩ = ⟨.agg y.1.d, some (100 + i), .sl (y.2.map Env.d)⟩ := fun q hq => unq_ne rfl hq
      simp only [hu (100 + j) (by omega), hu Q (by omega)]
/-- What appending to a value that was not there makes of the map. -/
theorem endN {k : Place} {ev : Env} {m : Fil} {Q : Nat} (hp : posK k m 0 = none) (hQ : Q < 100) :
    [C.mapc (mkM (putK k ev m) 0)] = [C.mapc (((((((mkM m 0 ++ [(⟨.agg k.d, none, .sl []⟩ : ME)]).map (ME.unq Q)).modify m.length fun e => { e with tok := some Q, val := .sl [ev.d] }).map (ME.unq Q)).map (ME.unq (100 + m.length))).modify m.length fun e => { e with tok := some (100 + m.length) }))] := by
  congr 2
  apply List.ext_getElem?
  intro i
  rw [mkM_get, putK_none hp, List.getElem?_modify, List.getElem?_map, List.getElem?_map, List.getElem?_modify, List.getElem?_map]
  rcases Nat.lt_trichotomy i m.length with hi | hi | hi
  · rw [List.getElem?_append_left hi, List.getElem?_append_left (by rw [mkM_len]; exact hi), mkM_get]
    cases hm : m[i]? with
    | none => simp
    | some y =>
      simp only [Option.map_some, Option.map_eq_map, show m.length ≠ i by omega, if_false, Nat.zero_add, Option.some.injEq]
      have hu : ∀ q, 100 + i ≠ q → ME.unq q ⟨.agg y.1.d, some (100 + i), .sl (y.2.map Env.d)⟩ = ⟨.agg y.1.d, some (100 + i), .sl (y.2.map Env.d)⟩ := fun q hq => unq_ne rfl hq
      simp only [hu (100 + m.length) (by omega), hu Q (by omega)]
  · subst hi
    have e1 : (mkM m 0 ++ [(⟨.agg k.d, none, .sl []⟩ : ME)])[m.length]? = some ⟨.agg k.d, none, .sl []⟩ := by
      rw [List.getElem?_append_right (by rw [mkM_len]; exact Nat.le_refl _), mkM_len]; simp
    rw [e1]
    simp [ME.unq]
  · rw [List.getElem?_eq_none (by simp; omega), List.getElem?_eq_none (by simp [mkM_len]; omega)]
    simp
/-- The names of the values of a map. -/
def tkM (x : TypeId × Nat) (n : Nat) : List (Nat × (TypeId × Nat)) := (List.range n).map fun i => (100 + i, x)
theorem allK_map {l : List Nat} {x : TypeId × Nat} (h : ∀ i ∈ l, st.tk (100 + i) = some x) : AllK st (l.map fun i => (100 + i, x)) := by
  induction l with
  | nil => trivial
  | cons a l ih => exact ⟨h a (by simp), ih fun i hi => h i (by simp [hi])⟩
theorem allK_tkM {x : TypeId × Nat} {n : Nat} (h : ∀ i, i < n → st.tk (100 + i) = some x) : AllK st (tkM x n) := allK_map fun i hi => h i (List.mem_range.1 hi)
theorem lookK_map {x : TypeId × Nat} {i : Nat} : ∀ {l : List Nat}, i ∈ l → lookK (100 + i) (l.map fun i => (100 + i, x)) = some x
  | a :: l, h => by
    rw [List.map_cons, lookK]
    by_cases ha : a = i
    · subst ha; simp
    · have hb : Nat.beq (100 + i) (100 + a) = false := by
        cases hb : Nat.beq (100 + i) (100 + a) with
        | true => have := (nbeq_iff _ _).1 hb; omega
        | false => rfl
      rw [hb]
      simp only [cond_false]
      exact lookK_map (by rcases List.mem_cons.1 h with h | h; exact absurd h.symm ha; exact h)
theorem lookK_tkM {x : TypeId × Nat} {n i : Nat} (h : i < n) : lookK (100 + i) (tkM x n) = some x := lookK_map (List.mem_range.2 h)
theorem beq_ne {a b : Nat} (h : a ≠ b) : Nat.beq a b = false := by
  cases hb : Nat.beq a b with
  | true => exact absurd ((nbeq_iff _ _).1 hb) h
  | false => rfl
theorem tokN {x : TypeId × Nat} {n Q i : Nat} (hQ : Q < 100) (hi : i < n + 1) : (bif Nat.beq (100 + i) (100 + n) then some x else bif Nat.beq (100 + i) (100 + n) then none else bif Nat.beq (100 + i) Q then none else bif Nat.beq (100 + i) Q then some x else bif Nat.beq (100 + i) Q then none else lookK (100 + i) (tkM x n)) = some x := by
  by_cases h : i = n
  · subst h; simp
  · rw [beq_ne (show 100 + i ≠ 100 + n by omega), beq_ne (show 100 + i ≠ Q by omega)]
    exact lookK_tkM (by omega)
theorem tokS {x : TypeId × Nat} {n Q i j : Nat} (hQ : Q < 100) (hi : i < n) : (bif Nat.beq (100 + i) (100 + j) then some x else bif Nat.beq (100 + i) (100 + j) then none else bif Nat.beq (100 + i) Q then none else bif Nat.beq (100 + i) Q then some x else bif Nat.beq (100 + i) Q then none else bif Nat.beq (100 + i) (100 + j) then none else lookK (100 + i) (tkM x n)) = some x := by
  by_cases h : i = j
  · subst h; simp
  · rw [beq_ne (show 100 + i ≠ 100 + j by omega), beq_ne (show 100 + i ≠ Q by omega)]
    exact lookK_tkM (by omega)
theorem eqGuard_bool {P : Program} {op : BinOp} {tx : TypeId} {x y : Operand} {i j : Bool} {w : World} : (eqGuard op tx x y (.bool i) (.bool j)).run P w = .ok () w := by
  unfold eqGuard
  simp
theorem op_cmp_bool {op : BinOp} {tx ty' : TypeId} {x y : Operand} {i j : Bool} (hop : op = .eql ∨ op = .neq) (hx : Has c st x (.one (.dat (.bool i)))) (hy : Has c st y (.one (.dat (.bool j)))) (hT : c.P.underlying tx = some .bool) (ht : Nat.blt t c.N = true)
    (hK : K (st.put t (.one (.dat (.bool (if op = .eql then decide (i = j) else !decide (i = j))))))) : AOp c ⟨some t, .binOp op tx x y ty', ty, pos, af, gd⟩ st K :=
  aop_pure rfl ht (fun Φ a w hr => by
    have h1 := rv_bool (hx Φ a w hr)
    have h2 := rv_bool (hy Φ a w hr)
    refine ⟨.bool (if op = .eql then decide (i = j) else !decide (i = j)), ?_, rv_mk_bool⟩
    rcases hop with rfl | rfl
    · simp [execOp, h1, h2, eqGuard_bool, binOp, run_equal_bool w tx i j hT]
      cases i <;> cases j <;> rfl
    · simp [execOp, h1, h2, eqGuard_bool, binOp, run_equal_bool w tx i j hT]
      cases i <;> cases j <;> rfl) hK
theorem setB_id {r : Ref} {cs : List C} (h : st.bx r = some cs) : st.setB r cs = st := by
  cases st with
  | mk sl bx tk =>
    simp only [St.setB, St.mk.injEq, true_and, and_true]
    funext s
    cases hb : Ref.beq s r with
    | true => obtain rfl := (Ref.beq_iff s r).1 hb; exact h.symm
    | false => rfl
theorem setBs_id : ∀ {rs : List Ref} {bs : List (List C)}, BoxAll st rs bs → st.setBs rs bs = st
  | [], [], _ => rfl
  | [], b :: bs, h => h.elim
  | r :: rs, [], h => h.elim
  | r :: rs, b :: bs, h => by
    rw [St.setBs]
    first
      | rw [setB_id h.1, setBs_id h.2]
      | (rw [setBs_id h.2]; exact setB_id h.1)
end
end Go.TQ
