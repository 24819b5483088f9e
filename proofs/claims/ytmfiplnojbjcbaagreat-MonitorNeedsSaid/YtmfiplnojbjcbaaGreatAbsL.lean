/- Functions that hand back a box of their own making: a pointer to something new, a map. Own work. -/
import Derived.Test.YtmfiplnojbjcbaaGreatAbsK
set_option linter.unusedVariables false
set_option linter.unusedSimpArgs false
namespace Go.TQ

structure DoneN (Φ : Cx) (ρ : List Nat) (w : World) (Q : V → List (List C) → List C → Prop) (v : Value) (w' : World) (d : V) (bx' : List (List C)) (cs : List C) (Φ' : Cx) (o : Obj) : Prop where
  done : Done Φ ρ w (fun _ _ => True) v w' d bx' Φ'
  post : Q d bx' cs
  fresh : w.heap.size ≤ Φ'.μ (.e ρ.length)
  heap : w'.heap[Φ'.μ (.e ρ.length)]? = some o
  box : BoxOK Φ' cs o
  arr : Φ'.A (Φ'.μ (.e ρ.length)) = none
/-- Called so, the function returns; what it hands back may point to one new box, told as the next after those of others. -/
def ACallsN (P : Program) (f : FuncId) (args : List V) (bx : List (List C)) (Q : V → List (List C) → List C → Prop) : Prop :=
  ACallsG P f args bx fun Φ ρ w v w' => ∃ d bx' cs Φ' o, DoneN Φ ρ w Q v w' d bx' cs Φ' o

/-- The own box s, told as the box m of others. -/
def C.ren (s m : Nat) : C → C
  | .ref (.o x) off => bif Nat.beq x s then .ref (.e m) off else .ref (.o x) off
  | .ref (.e i) off => bif Nat.beq i m then .any else .ref (.e i) off
  | .map (.o x) => bif Nat.beq x s then .map (.e m) else .map (.o x)
  | .map (.e i) => bif Nat.beq i m then .any else .map (.e i)
  | .bs _ _ _ _ => .any
  | .fn f [] => .fn f []
  | .fn _ (_ :: _) => .any
  | .slt _ rows => .dat (.sl rows)
  | x => x
def renCx (Φ : Cx) (s m : Nat) : Cx where
  A := Φ.A
  τ := Φ.τ
  μ := fun
    | .e i => bif Nat.beq i m then Φ.μ (.o s) else Φ.μ (.e i)
    | .o x => Φ.μ (.o x)
theorem ren_ok {Φ : Cx} {s m : Nat} {x : C} {v : Value} (h : RC Φ x v) : RC (renCx Φ s m) (x.ren s m) v := by
  have h1 := RC_one h
  cases x with
  | ref r off =>
    cases r with
    | o x =>
      cases hb : Nat.beq x s with
      | true => simp only [C.ren, hb, cond_true]; rw [RC] at h ⊢; rw [(nbeq_iff x s).1 hb] at h; simpa [renCx] using h
      | false => simp only [C.ren, hb, cond_false]; exact h
    | e i =>
      cases hb : Nat.beq i m with
      | true => simp only [C.ren, hb, cond_true]; exact h1
      | false => simp only [C.ren, hb, cond_false]; rw [RC] at h ⊢; simpa [renCx, hb] using h
  | map r =>
    cases r with
    | o x =>
      cases hb : Nat.beq x s with
      | true => simp only [C.ren, hb, cond_true]; rw [RC] at h ⊢; rw [(nbeq_iff x s).1 hb] at h; simpa [renCx] using h
      | false => simp only [C.ren, hb, cond_false]; exact h
    | e i =>
      cases hb : Nat.beq i m with
      | true => simp only [C.ren, hb, cond_true]; exact h1
      | false => simp only [C.ren, hb, cond_false]; rw [RC] at h ⊢; simpa [renCx, hb] using h
  | bs r k len cap => exact h1
  | fn f caps =>
    cases caps with
    | nil => exact h
    | cons => exact h1
  | slt q rows => exact h.1
  | dat d => exact h
  | nilsl => exact h
  | imm ds => exact h
  | nilp => exact h
  | mapc m => exact h.elim
  | any => exact h

def PostN (P : Program) (rs : List ResultVar) (m : Nat) (Q : V → List (List C) → List C → Prop) : Exit → St → Prop
  | .ret, st | .normal, st => ∃ d bx' s cs, Res P st rs d ∧ bx'.length = m ∧ BoxL st 0 bx' ∧ st.bx (.o s) = some cs ∧ Q (d.norm.mapC (C.ren s m)) (bx'.map (List.map (C.ren s m))) (cs.map (C.ren s m))
  | _, _ => False

theorem acallsN_intro {P : Program} {f : FuncId} {fn : Func} {code : Code} {args : List V} {bx : List (List C)} {Q : V → List (List C) → List C → Prop} {N : Nat} {rs : List ResultVar}
    (hf : P.funcs[f]? = some fn) (hb : fn.body = some code) (hN : fn.ntmps = N) (hR : fn.results.toList = rs) (hname : (fn.name == "runtime.NumGoroutine") = false) (hn : Nat.ble args.length N = true)
    (h : ∀ w0 A0 X, AWP ⟨P, N, w0, A0, X⟩ code (St.init args bx) (PostN P rs bx.length Q)) : ACallsN P f args bx Q := by
  subst hN
  subst hR
  refine ⟨by simp [isFn, hf, hb, hname], fun Φ ρ w vargs hA hnd hlen hext hbox hargs => ?_⟩
  refine calls_of_wp hf hb ?_
  have hrel := init_rel (P := P) (n := fn.ntmps) hn hA hnd hlen hext hbox hargs
  refine wp_mono (h w Φ.A ρ Φ _ w hrel) ?_
  rintro e a' w' ⟨st', Φ', hr', hp⟩
  have fin : (∃ d bx' s cs, Res P st' fn.results.toList d ∧ bx'.length = bx.length ∧ BoxL st' 0 bx' ∧ st'.bx (.o s) = some cs ∧ Q (d.norm.mapC (C.ren s bx.length)) (bx'.map (List.map (C.ren s bx.length))) (cs.map (C.ren s bx.length))) →
      a'.defers = [] ∧ ∃ v, (results fn a'.tmps).run P w' = .ok v w' ∧ ∃ v', Ending.returned v = .returned v' ∧ ∃ d bx' cs Φ' o, DoneN Φ ρ w Q v' w' d bx' cs Φ' o := by
    rintro ⟨d, bx', s, cs, h1, h2, h3, h4, h5⟩
    obtain ⟨v, hv, hrv⟩ := res_ok hr' h1
    obtain ⟨o, ho, hbo⟩ := hr'.boxes _ cs h4
    obtain ⟨hAs, hown⟩ := hr'.own _ cs h4
    have hfr : w.heap.size ≤ Φ'.μ (.o s) := by
      rcases hown with h | ⟨_, j, h⟩
      · exact h
      · cases h
    have hμ : ∀ i, i ≠ bx.length → (renCx Φ' s bx.length).μ (.e i) = Φ'.μ (.e i) := by
      intro i hi
      have : Nat.beq i bx.length = false := by
        cases hb : Nat.beq i bx.length with
        | true => exact absurd ((nbeq_iff _ _).1 hb) hi
        | false => rfl
      simp [renCx, this]
    have hμm : (renCx Φ' s bx.length).μ (.e ρ.length) = Φ'.μ (.o s) := by
      rw [hlen]
      simp [renCx]
    have hkeep : KeepM Φ' (renCx Φ' s bx.length) (C.ren s bx.length) := keepM_same (Grows.refl _) rfl fun m => rfl
    refine ⟨hr'.defers, v, hv, v, rfl, d.norm.mapC (C.ren s bx.length), bx'.map (List.map (C.ren s bx.length)), cs.map (C.ren s bx.length), renCx Φ' s bx.length, o, ⟨trivial, by rw [List.length_map, h2, hlen], ?_, hr'.arr, ?_, ?_, hr'.grow, hr'.oldA, hr'.fr⟩, h5, by rw [hμm]; exact hfr, by rw [hμm]; exact ho, ?_, by rw [hμm]; exact hAs⟩
    · intro i hi
      rw [hμ i (by omega)]
      exact hr'.ext i hi
    · intro i cs' hi
      rw [List.getElem?_map, Option.map_eq_some_iff] at hi
      obtain ⟨us, hus, rfl⟩ := hi
      have hb := boxL_get h3 i us hus
      rw [Nat.zero_add] at hb
      obtain ⟨o', h6, h7⟩ := hr'.boxes _ us hb
      have hi' : i < ρ.length := by rw [hlen, ← h2]; exact (List.getElem?_eq_some_iff.1 hus).1
      exact ⟨_, o', hr'.ext i hi', h6, h7.mapC (Φ' := renCx Φ' s bx.length) (fun x u hx => ren_ok hx) hkeep, (hr'.own _ us hb).1⟩
    · exact RV_mapC (Φ := Φ') (Φ' := renCx Φ' s bx.length) (Grows.refl _) (fun x u hx => ren_ok hx) _ _ (RV_norm _ _ hrv)
    · exact hbo.mapC (Φ' := renCx Φ' s bx.length) (fun x u hx => ren_ok hx) hkeep
  cases e with
  | ret => exact fin hp
  | normal => exact fin hp
  | exit i => exact hp.elim
  | goto l => exact hp.elim
  | panic ch => exact hp.elim
  | outgrown => exact hp.elim
theorem postN_ret {P : Program} {rs : List ResultVar} {m : Nat} {Q : V → List (List C) → List C → Prop} {st : St} {d : V} {s : Nat} {cs : List C} (bx' : List (List C)) (h : Res P st rs d) (hl : bx'.length = m) (hb : BoxL st 0 bx') (hs : st.bx (.o s) = some cs)
    (hq : Q (d.norm.mapC (C.ren s m)) (bx'.map (List.map (C.ren s m))) (cs.map (C.ren s m))) : PostN P rs m Q .ret st := ⟨d, bx', s, cs, h, hl, hb, hs, hq⟩

section
variable {c : Ctx} {st : St} {K : St → Prop} {t ty : Nat} {pos : String} {af : Array Edge} {gd : Option (Nat × Bool)}
/-- A call that hands back a new box: it gets the name of the call's own slot. -/
theorem op_callN {fx : Operand} {f : FuncId} {caps : List Ref} {xs : List Operand} {vs : List V} {rs : List Ref} {bxs bx0 : List (List C)} {args' : List V} {Q : V → List (List C) → List C → Prop} {tys : Array TypeId}
    (hf : Has c st fx (.one (.fn f caps))) (hx : HasAll c st xs vs) (hnd : rs.Nodup) (hnt : Ref.o t ∉ rs) (hb : BoxAll st rs bxs)
    (hc : ACallsN c.P f args' bx0 Q) (hargs : argsOf rs vs caps = args') (hbx : bxs.map (List.map (C.callee rs)) = bx0) (ht : Nat.blt t c.N = true)
    (hK : ∀ d bx' cs, Q d bx' cs → bx'.length = rs.length → K ((((st.setBs rs (bx'.map (List.map (C.caller rs)))).mapC (C.scrub (.o t))).setB (.o t) ((cs.map (C.caller rs)).map (C.scrub (.o t)))).put t (d.mapC (C.caller (rs ++ [.o t]))))) : AOp c ⟨some t, .call ⟨.value fx, xs.toArray, tys⟩, ty, pos, af, gd⟩ st K := by
  intro Φ a w hr K' Qx hQ
  refine callG_core rfl hf hx hnd hb hc hargs hbx hr fun v w' ⟨d, bx', cs, Φ', o, hd⟩ => ?_
  obtain ⟨h1, _⟩ := hr.called hnd hb hd.done
  obtain ⟨hlenb, hbget⟩ := boxAll_get hb
  have hρ : (rs.map Φ.μ).length = rs.length := by simp
  have hμ : ∀ (i : Nat) (r : Ref), rs[i]? = some r → Φ'.μ (.e i) = Φ.μ r := by
    intro i r hi
    have h2 := hd.done.ext i (by rw [hρ]; exact (List.getElem?_eq_some_iff.1 hi).1)
    rw [List.getElem?_map, hi] at h2
    simpa using h2.symm
  have hfresh := hd.fresh
  have hbox' : BoxOK { A := Φ'.A, μ := Φ.μ, τ := Φ.τ } (cs.map (C.caller rs)) o := hd.box.mapC (Φ := Φ') (Φ' := { A := Φ'.A, μ := Φ.μ, τ := Φ.τ }) (fun x u hx => caller_ok hμ hx) (keepM_free (Grows.refl _) fun m => rfl)
  have hold : ∀ s us, st.bx s = some us → Φ.μ s < w.heap.size := fun s us hs => by
    obtain ⟨o', h3, _⟩ := hr.boxes s us hs
    exact lt_of_heap h3
  have h2 := h1.adopt (t := t) (b := Φ'.μ (.e (rs.map Φ.μ).length)) hd.heap hbox' hd.arr (by have := hr.fr.size; omega) (fun s us hs _ he => by
    have hlen' : rs.length = (bx'.map (List.map (C.caller rs))).length := by have := hd.done.len; simp at this ⊢; omega
    have : ∃ us', st.bx s = some us' := by
      rcases setBs_bx hs hlen' with ⟨i, h3, h4⟩ | ⟨h3, h4⟩
      · have hi := (List.getElem?_eq_some_iff.1 h3).1
        obtain ⟨r', h5, h6⟩ := hbget i (bxs[i]'(by omega)) (List.getElem?_eq_getElem (by omega))
        rw [h3] at h5
        injection h5 with h5
        subst h5
        exact ⟨_, h6⟩
      · exact ⟨us, h4⟩
    obtain ⟨us', h7⟩ := this
    have := hold s us' h7
    simp only at he
    omega)
  refine hQ _ _ _ w' (h2.put (v := d.mapC (C.caller (rs ++ [.o t]))) ?_ ht) (hK d bx' cs hd.post (by have := hd.done.len; simpa using this))
  refine RV_mapC (Φ := Φ') (Φ' := { A := Φ'.A, μ := updR Φ.μ (.o t) (Φ'.μ (.e (rs.map Φ.μ).length)), τ := Φ.τ }) (Grows.refl _) (fun x u hx => ?_) d v hd.done.val
  refine caller_ok (Φ := { A := Φ'.A, μ := updR Φ.μ (.o t) (Φ'.μ (.e (rs.map Φ.μ).length)), τ := Φ.τ }) (fun i r hi => ?_) hx
  rcases Nat.lt_trichotomy i rs.length with hlt | heq | hgt
  · rw [List.getElem?_append_left hlt] at hi
    have hne : r ≠ .o t := fun e => hnt (e ▸ List.mem_of_getElem? hi)
    simp only [updR_ne hne]
    exact hμ i r hi
  · subst heq
    rw [List.getElem?_append_right (Nat.le_refl _)] at hi
    simp at hi
    subst hi
    simp only [updR_same, hρ]
  · rw [List.getElem?_eq_none (by simp; omega)] at hi
    cases hi
end
end Go.TQ
