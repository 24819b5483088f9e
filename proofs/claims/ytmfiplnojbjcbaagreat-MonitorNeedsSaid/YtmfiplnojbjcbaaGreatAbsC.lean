/- Contracts of functions over abstract values; calls; a function's body. Own work. -/
import Derived.Test.YtmfiplnojbjcbaaGreatAbsB
set_option linter.unusedVariables false
set_option linter.unusedSimpArgs false
namespace Go.TQ

def isFn (P : Program) (f : FuncId) : Bool := match P.funcs[f]? with
  | some fn => fn.body.isSome && !(fn.name == "runtime.NumGoroutine")
  | none => false

def BoxesIn (Φ : Cx) (ρ : List Nat) (bx : List (List C)) (w : World) : Prop :=
  ∀ (i : Nat) (cs : List C), bx[i]? = some cs → ∃ b o, ρ[i]? = some b ∧ w.heap[b]? = some o ∧ BoxOK Φ cs o ∧ Φ.A b = none

structure Done (Φ : Cx) (ρ : List Nat) (w : World) (Q : V → List (List C) → Prop) (v : Value) (w' : World) (d : V) (bx' : List (List C)) (Φ' : Cx) : Prop where
  post : Q d bx'
  len : bx'.length = ρ.length
  ext : ∀ i, i < ρ.length → ρ[i]? = some (Φ'.μ (.e i))
  arr : ArrOK Φ'.A w'
  box : BoxesIn Φ' ρ bx' w'
  val : RV Φ' d v
  grow : Grows Φ.A Φ'.A
  old : ∀ k, k < w.heap.size → Φ'.A k = Φ.A k
  fr : Frm w ρ w'

/-- Called with these arguments, some of the boxes of others in view, the function returns. -/
def ACalls (P : Program) (f : FuncId) (args : List V) (bx : List (List C)) (Q : V → List (List C) → Prop) : Prop :=
  isFn P f = true ∧ ∀ (Φ : Cx) (ρ : List Nat) (w : World) (vargs : List Value),
    ArrOK Φ.A w → ρ.Nodup → ρ.length = bx.length → (∀ i, i < ρ.length → ρ[i]? = some (Φ.μ (.e i))) → BoxesIn Φ ρ bx w → All2 (RV Φ) args vargs →
    Calls P f vargs.toArray w fun e w' => ∃ d bx' Φ' v, e = .returned v ∧ Done Φ ρ w Q v w' d bx' Φ'

/-- The same with what holds at the end left open. -/
def ACallsG (P : Program) (f : FuncId) (args : List V) (bx : List (List C)) (R : Cx → List Nat → World → Value → World → Prop) : Prop :=
  isFn P f = true ∧ ∀ (Φ : Cx) (ρ : List Nat) (w : World) (vargs : List Value),
    ArrOK Φ.A w → ρ.Nodup → ρ.length = bx.length → (∀ i, i < ρ.length → ρ[i]? = some (Φ.μ (.e i))) → BoxesIn Φ ρ bx w → All2 (RV Φ) args vargs →
    Calls P f vargs.toArray w fun e w' => ∃ v, e = .returned v ∧ R Φ ρ w v w'
theorem ACalls.toG {P : Program} {f : FuncId} {args : List V} {bx : List (List C)} {Q : V → List (List C) → Prop} (h : ACalls P f args bx Q) : ACallsG P f args bx fun Φ ρ w v w' => ∃ d bx' Φ', Done Φ ρ w Q v w' d bx' Φ' :=
  ⟨h.1, fun Φ ρ w vargs h1 h2 h3 h4 h5 h6 => (h.2 Φ ρ w vargs h1 h2 h3 h4 h5 h6).mono fun e w' ⟨d, bx', Φ', v, he, k⟩ => ⟨v, he, d, bx', Φ', k⟩⟩
theorem ACalls.mono {P : Program} {f : FuncId} {args : List V} {bx : List (List C)} {Q Q' : V → List (List C) → Prop} (h : ACalls P f args bx Q) (hQ : ∀ d b, Q d b → Q' d b) : ACalls P f args bx Q' :=
  ⟨h.1, fun Φ ρ w vargs h1 h2 h3 h4 h5 h6 => (h.2 Φ ρ w vargs h1 h2 h3 h4 h5 h6).mono fun e w' ⟨d, bx', Φ', v, he, k⟩ => ⟨d, bx', Φ', v, he, hQ _ _ k.post, k.len, k.ext, k.arr, k.box, k.val, k.grow, k.old, k.fr⟩⟩

/-! ### A function's body -/
def St.init (args : List V) (bx : List (List C)) : St where
  sl := fun t => args[t]?
  bx := fun
    | .e i => bx[i]?
    | .o _ => none
  tk := fun _ => none

def ResIs (P : Program) (st : St) : ResultVar → V → Prop
  | .tmp t, v => st.sl t = some v
  | .cell t ty, v => ∃ r cs, st.sl t = some (.one (.ref r 0)) ∧ st.bx r = some cs ∧ mapBox cs = false ∧ ((shp P ty = some (some cs.length) ∧ v = .agg cs) ∨ (shp P ty = some none ∧ ∃ x, cs = [x] ∧ v = .one x))
def ResAll (P : Program) (st : St) : List ResultVar → List V → Prop
  | [], [] => True
  | r :: rs, v :: vs => ResIs P st r v ∧ ResAll P st rs vs
  | _, _ => False
def Res (P : Program) (st : St) : List ResultVar → V → Prop
  | [r], v => ResIs P st r v
  | rs, v => ∃ vs, ResAll P st rs vs ∧ v = .tup vs
def BoxL (st : St) : Nat → List (List C) → Prop
  | _, [] => True
  | i, cs :: rest => st.bx (.e i) = some cs ∧ BoxL st (i + 1) rest
theorem boxL_get {st : St} : ∀ {bx : List (List C)} {i : Nat}, BoxL st i bx → ∀ (j : Nat) (cs : List C), bx[j]? = some cs → st.bx (.e (i + j)) = some cs
  | [], _, _, j, cs, h => by simp at h
  | b :: bs, i, h, 0, cs, hj => by simp at hj; subst hj; exact h.1
  | b :: bs, i, h, j + 1, cs, hj => by
    have := boxL_get h.2 j cs (by simpa using hj)
    rwa [show i + 1 + j = i + (j + 1) by omega] at this

def Post (P : Program) (rs : List ResultVar) (m : Nat) (Q : V → List (List C) → Prop) : Exit → St → Prop
  | .ret, st | .normal, st => ∃ d bx', Res P st rs d ∧ bx'.length = m ∧ BoxL st 0 bx' ∧ Q d.norm bx'
  | _, _ => False

section
variable {c : Ctx} {st : St} {Φ : Cx} {a : Act} {w : World}
theorem resIs_ok (hr : Rel c st Φ a w) {r : ResultVar} {v : V} (h : ResIs c.P st r v) :
    ∃ x, (match r with | .tmp t => (pure (a.tmps.getD t undef) : Sem Value) | .cell b t => (do loadVar t (← asAddr (a.tmps.getD b undef)))).run c.P w = .ok x w ∧ RV Φ v x := by
  cases r with
  | tmp t => exact ⟨_, rfl, hr.slots t v h⟩
  | cell t ty =>
    obtain ⟨r, cs, h1, h2, hmb, h3⟩ := h
    have hx := rv_ref (hr.slots t _ h1)
    obtain ⟨o, hh, hbo⟩ := hr.boxes r cs h2
    obtain ⟨vs, e, rfl, hb⟩ := hbo.cells hmb
    rcases h3 with ⟨hT, rfl⟩ | ⟨hT, x, rfl, rfl⟩
    · have hs := shp_agg (w := w) hT
      refine ⟨.agg vs, ?_, by rw [RV]; exact ⟨vs.toList, by simp, hb⟩⟩
      have hload : (loadCells ⟨Φ.μ r, 0, none⟩ cs.length).run c.P w = .ok vs w := by
        have := run_loadCells_list (P := c.P) w ⟨Φ.μ r, 0, none⟩ vs.toList (fun j v hj => by rw [addr_add, cell_box hh, Nat.zero_add]; exact hj)
        rw [hb.length]
        simpa using this
      simp [hx, asAddr, loadVar, hs.1, hs.2, hload]
    · have hs := shp_one (w := w) hT
      obtain ⟨u, hu, hru⟩ := hb.get 0 x (by simp)
      refine ⟨u, ?_, by rw [RV]; exact hru⟩
      have hc : w.cell? ⟨Φ.μ r, 0, none⟩ = some u := by rw [cell_box hh]; exact hu
      simp [hx, asAddr, loadVar, hs.1, hc]
theorem resAll_ok (hr : Rel c st Φ a w) : ∀ {rs : List ResultVar} {vs : List V}, ResAll c.P st rs vs →
    ∃ xs : List Value, (rs.mapM (m := Sem) fun | .tmp t => pure (a.tmps.getD t undef) | .cell b t => do loadVar t (← asAddr (a.tmps.getD b undef))).run c.P w = .ok xs w ∧ All2 (RV Φ) vs xs
  | [], [], _ => ⟨[], by simp, trivial⟩
  | r :: rs, v :: vs, h => by
    obtain ⟨x, h1, h2⟩ := resIs_ok hr h.1
    obtain ⟨xs, h3, h4⟩ := resAll_ok hr h.2
    refine ⟨x :: xs, ?_, h2, h4⟩
    rw [List.mapM_cons, Sem.run_bind]
    rw [h1]
    simp only [Result.andThen_ok, Sem.run_bind, h3, Sem.run_pure]
  | [], _ :: _, h => h.elim
  | _ :: _, [], h => h.elim
theorem res_ok (hr : Rel c st Φ a w) {fn : Func} {v : V} (h : Res c.P st fn.results.toList v) : ∃ x, (results fn a.tmps).run c.P w = .ok x w ∧ RV Φ v x := by
  have key : ∀ {vs : List V}, ResAll c.P st fn.results.toList vs → ∃ xs : List Value, (fn.results.mapM (m := Sem) fun | .tmp t => pure (a.tmps.getD t undef) | .cell b t => do loadVar t (← asAddr (a.tmps.getD b undef))).run c.P w = .ok xs.toArray w ∧ All2 (RV Φ) vs xs := by
    intro vs hv
    obtain ⟨xs, h1, h2⟩ := resAll_ok hr hv
    refine ⟨xs, ?_, h2⟩
    rw [Array.mapM_eq_mapM_toList, Sem.run_map, h1]
    rfl
  generalize hl : fn.results.toList = rs at h
  match rs, h with
  | [r], h =>
    obtain ⟨xs, h1, h2⟩ := key (vs := [v]) (by rw [hl]; exact ⟨h, trivial⟩)
    match xs, h2 with
    | [x], h2 => exact ⟨x, by unfold results; rw [Sem.run_bind]; refine Eq.trans (congrArg (fun r => Result.andThen r _) h1) ?_; simp, h2.1⟩
    | [], h2 => exact h2.elim
    | _ :: _ :: _, h2 => exact h2.2.elim
  | [], h =>
    obtain ⟨vs, hv, rfl⟩ := h
    obtain ⟨xs, h1, h2⟩ := key (vs := vs) (by rw [hl]; exact hv)
    match vs, xs, hv, h2 with
    | [], [], _, _ => exact ⟨.tuple #[], by unfold results; rw [Sem.run_bind]; refine Eq.trans (congrArg (fun r => Result.andThen r _) h1) ?_; simp, by rw [RV]; exact ⟨[], by simp, by simp [RVs]⟩⟩
    | _ :: _, _, hv, _ => exact hv.elim
    | [], _ :: _, _, h2 => exact h2.elim
  | r1 :: r2 :: rs, h =>
    obtain ⟨vs, hv, rfl⟩ := h
    obtain ⟨xs, h1, h2⟩ := key (vs := vs) (by rw [hl]; exact hv)
    match vs, xs, hv, h2 with
    | v1 :: v2 :: vs, x1 :: x2 :: xs, hv, h2 =>
      exact ⟨.tuple (x1 :: x2 :: xs).toArray, by unfold results; rw [Sem.run_bind]; refine Eq.trans (congrArg (fun r => Result.andThen r _) h1) ?_; simp, by rw [RV]; exact ⟨_, rfl, (RVs_All2 _ _ _).2 h2⟩⟩
    | [], _, hv, _ => exact hv.elim
    | [_], _, hv, _ => exact hv.2.elim
    | _ :: _ :: _, [], _, h2 => exact h2.elim
    | _ :: _ :: _, [_], _, h2 => exact h2.2.elim
end

theorem init_rel {P : Program} {n : Nat} {args : List V} {bx : List (List C)} (hn : Nat.ble args.length n = true) {Φ : Cx} {ρ : List Nat} {w : World} {vargs : List Value}
    (hA : ArrOK Φ.A w) (hnd : ρ.Nodup) (hlen : ρ.length = bx.length) (hext : ∀ i, i < ρ.length → ρ[i]? = some (Φ.μ (.e i))) (hbox : BoxesIn Φ ρ bx w) (hargs : All2 (RV Φ) args vargs) :
    Rel ⟨P, n, w, Φ.A, ρ⟩ (St.init args bx) Φ { tmps := vargs.toArray ++ Array.replicate (n - vargs.toArray.size) undef, defers := [] } w := by
  have hal := hargs.length
  have hle : args.length ≤ n := Nat.le_of_ble_eq_true hn
  refine ⟨by simp; omega, rfl, ?_, ?_, ?_, ?_, ?_, ?_, hA, hext, fun _ _ => rfl, Grows.refl _, Frm.refl _ _⟩
  · intro t v ht
    obtain ⟨x, hx, hv⟩ := hargs.get t v ht
    have hlt := (List.getElem?_eq_some_iff.1 hx).1
    have : (vargs.toArray ++ Array.replicate (n - vargs.toArray.size) undef).getD t undef = x := by
      rw [Array.getD_eq_getD_getElem?, Array.getElem?_append_left (by simpa using hlt)]
      simp [hx]
    rw [this]
    exact hv
  · intro r cs hr
    cases r with
    | o t => simp [St.init] at hr
    | e i =>
      obtain ⟨b, o, h1, h2, h3, h4⟩ := hbox i cs hr
      have := hext i (by rw [hlen]; exact (List.getElem?_eq_some_iff.1 hr).1)
      rw [h1] at this
      injection this with this
      exact ⟨o, this ▸ h2, h3⟩
  · intro r cs hr
    cases r with
    | o t => simp [St.init] at hr
    | e i =>
      obtain ⟨b, o, h1, h2, h3, h4⟩ := hbox i cs hr
      have := hext i (by rw [hlen]; exact (List.getElem?_eq_some_iff.1 hr).1)
      rw [h1] at this
      injection this with this
      exact ⟨this ▸ h4, .inr ⟨this ▸ List.mem_of_getElem? h1, i, rfl⟩⟩
  · intro r r' cs cs' hr hr' hm
    cases r with
    | o t => simp [St.init] at hr
    | e i =>
      cases r' with
      | o t => simp [St.init] at hr'
      | e j =>
        have hi : i < ρ.length := by rw [hlen]; exact (List.getElem?_eq_some_iff.1 hr).1
        have hj : j < ρ.length := by rw [hlen]; exact (List.getElem?_eq_some_iff.1 hr').1
        have h1 := hext i hi
        have h2 := hext j hj
        rw [← hm] at h2
        rw [← h2] at h1
        rw [(List.getElem?_inj hi hnd).1 h1]
  · intro q e k hq
    simp [St.init] at hq
  · intro q q' x x' g hq
    simp [St.init] at hq

theorem acalls_of {P : Program} {f : FuncId} {fn : Func} {code : Code} {args : List V} {bx : List (List C)} {Q : V → List (List C) → Prop}
    (hf : P.funcs[f]? = some fn) (hb : fn.body = some code) (hname : (fn.name == "runtime.NumGoroutine") = false) (hn : Nat.ble args.length fn.ntmps = true)
    (h : ∀ w0 A0 X, AWP ⟨P, fn.ntmps, w0, A0, X⟩ code (St.init args bx) (Post P fn.results.toList bx.length Q)) : ACalls P f args bx Q := by
  refine ⟨by simp [isFn, hf, hb, hname], fun Φ ρ w vargs hA hnd hlen hext hbox hargs => ?_⟩
  have hal := hargs.length
  have hle : args.length ≤ fn.ntmps := Nat.le_of_ble_eq_true hn
  refine calls_of_wp hf hb ?_
  have hrel := init_rel (P := P) (n := fn.ntmps) hn hA hnd hlen hext hbox hargs
  refine wp_mono (h w Φ.A ρ Φ _ w hrel) ?_
  rintro e a' w' ⟨st', Φ', hr', hp⟩
  have fin : (∃ d bx', Res P st' fn.results.toList d ∧ bx'.length = bx.length ∧ BoxL st' 0 bx' ∧ Q d.norm bx') →
      a'.defers = [] ∧ ∃ v, (results fn a'.tmps).run P w' = .ok v w' ∧ ∃ d bx' Φ' v', Ending.returned v = .returned v' ∧ Done Φ ρ w Q v' w' d bx' Φ' := by
    rintro ⟨d, bx', h1, h2, h3, h4⟩
    obtain ⟨v, hv, hrv⟩ := res_ok hr' h1
    refine ⟨hr'.defers, v, hv, d.norm, bx', Φ', v, rfl, h4, by rw [h2, hlen], hr'.ext, hr'.arr, ?_, RV_norm _ _ hrv, hr'.grow, hr'.oldA, hr'.fr⟩
    intro i cs hi
    have hb := boxL_get h3 i cs hi
    rw [Nat.zero_add] at hb
    obtain ⟨o, h5, h6⟩ := hr'.boxes _ cs hb
    have hi' : i < ρ.length := by rw [hlen, ← h2]; exact (List.getElem?_eq_some_iff.1 hi).1
    exact ⟨_, o, hr'.ext i hi', h5, h6, (hr'.own _ cs hb).1⟩
  cases e with
  | ret => exact fin hp
  | normal => exact fin hp
  | exit i => exact hp.elim
  | goto l => exact hp.elim
  | panic ch => exact hp.elim
  | outgrown => exact hp.elim

/-! ### A call -/
def idxR (r : Ref) : List Ref → Option Nat
  | [] => none
  | x :: xs => bif Ref.beq x r then some 0 else (idxR r xs).map (· + 1)
theorem idxR_some {r : Ref} : ∀ {l : List Ref} {i : Nat}, idxR r l = some i → l[i]? = some r
  | [], i, h => by simp [idxR] at h
  | x :: xs, i, h => by
    unfold idxR at h
    cases hb : Ref.beq x r with
    | true =>
      rw [hb] at h
      simp only [cond_true, Option.some.injEq] at h
      subst h
      simp [(Ref.beq_iff x r).1 hb]
    | false =>
      rw [hb] at h
      simp only [cond_false, Option.map_eq_some_iff] at h
      obtain ⟨j, hj, rfl⟩ := h
      simpa using idxR_some hj
def idxRs (l : List Ref) : List Ref → Option (List Ref)
  | [] => some []
  | r :: rs => match idxR r l, idxRs l rs with
    | some i, some is => some (.e i :: is)
    | _, _ => none

def ME.free (x : ME) : ME := { x with tok := none }
theorem keepM_free {Φ Φ' : Cx} {f : C → C} (hA : Grows Φ.A Φ'.A) (hf : ∀ m, f (.mapc m) = .mapc (m.map ME.free)) : KeepM Φ Φ' f := fun m =>
  ⟨m.map ME.free, hf m, fun es clock h => ⟨All2.map2 (fun x e hx => ⟨RK_grows hA hx.1, RD_grows hA _ _ hx.2.1, fun q hq => by cases hq⟩) h.ents, by rw [List.length_map]; exact h.clock, h.born⟩⟩
/-- The caller's cell, told in the callee's names. -/
def C.callee (rs : List Ref) : C → C
  | .ref r off => match idxR r rs with
    | some i => .ref (.e i) off
    | none => .any
  | .bs r k off len => match idxR r rs with
    | some i => .bs (.e i) k off len
    | none => .any
  | .map r => match idxR r rs with
    | some i => .map (.e i)
    | none => .any
  | .mapc m => .mapc (m.map ME.free)
  | .fn f caps => match idxRs rs caps with
    | some is => .fn f is
    | none => .any
  | .nilsl => .dat (.sl [])
  | .slt _ rows => .dat (.sl rows)
  | x => x
/-- The callee's cell, told in the caller's names. -/
def C.caller (rs : List Ref) : C → C
  | .ref (.e i) off => match rs[i]? with
    | some r => .ref r off
    | none => .any
  | .bs (.e i) k off len => match rs[i]? with
    | some r => .bs r k off len
    | none => .any
  | .ref (.o _) _ => .any
  | .bs (.o _) _ _ _ => .any
  | .map (.e i) => match rs[i]? with
    | some r => .map r
    | none => .any
  | .map (.o _) => .any
  | .mapc m => .mapc (m.map ME.free)
  | .fn f [] => .fn f []
  | .fn _ (_ :: _) => .any
  | .slt _ rows => .dat (.sl rows)
  | x => x

def calleeCx (Φ : Cx) (rs : List Ref) : Cx where
  A := Φ.A
  τ := Φ.τ
  μ := fun
    | .e i => match rs[i]? with
      | some r => Φ.μ r
      | none => 0
    | .o _ => 0
theorem callee_ok {Φ : Cx} {rs : List Ref} {x : C} {v : Value} (h : RC Φ x v) : RC (calleeCx Φ rs) (x.callee rs) v := by
  cases x with
  | ref r off =>
    simp only [C.callee]
    cases hi : idxR r rs with
    | none => exact RC_one h
    | some i =>
      simp only
      rw [RC] at h ⊢
      simp only [calleeCx, idxR_some hi]
      exact h
  | bs r k off len =>
    simp only [C.callee]
    cases hi : idxR r rs with
    | none => exact RC_one h
    | some i =>
      simp only
      rw [RC] at h ⊢
      simp only [calleeCx, idxR_some hi]
      exact h
  | map r =>
    simp only [C.callee]
    cases hi : idxR r rs with
    | none => exact RC_one h
    | some i =>
      simp only
      rw [RC] at h ⊢
      simp only [calleeCx, idxR_some hi]
      exact h
  | mapc m => exact h.elim
  | fn f caps =>
    simp only [C.callee]
    cases hi : idxRs rs caps with
    | none => exact RC_one h
    | some is =>
      simp only
      rw [RC] at h ⊢
      rw [h]
      congr 2
      clear h
      induction caps generalizing is with
      | nil => simp [idxRs] at hi; subst hi; rfl
      | cons r caps ih =>
        simp only [idxRs] at hi
        split at hi
        · rename_i i is' h1 h2
          injection hi with hi
          subst hi
          simp only [List.map_cons, calleeCx, idxR_some h1]
          congr 1
          exact ih is' h2
        · cases hi
  | dat d => exact h
  | nilsl => exact RC_norm (c := .nilsl) h
  | slt q rows => exact h.1
  | imm ds => exact h
  | nilp => exact h
  | any => exact h
theorem caller_ok {Φ Φ' : Cx} {rs : List Ref} (hμ : ∀ (i : Nat) (r : Ref), rs[i]? = some r → Φ'.μ (.e i) = Φ.μ r) {x : C} {v : Value} (h : RC Φ' x v) : RC { A := Φ'.A, μ := Φ.μ, τ := Φ.τ } (x.caller rs) v := by
  cases x with
  | ref r off =>
    cases r with
    | o t => exact RC_one h
    | e i =>
      simp only [C.caller]
      cases hi : rs[i]? with
      | none => exact RC_one h
      | some r =>
        simp only
        rw [RC] at h ⊢
        rw [← hμ i r hi]
        exact h
  | bs r k off len =>
    cases r with
    | o t => exact RC_one h
    | e i =>
      simp only [C.caller]
      cases hi : rs[i]? with
      | none => exact RC_one h
      | some r =>
        simp only
        rw [RC] at h ⊢
        rw [← hμ i r hi]
        exact h
  | mapc m => exact h.elim
  | map r =>
    cases r with
    | o t => exact RC_one h
    | e i =>
      simp only [C.caller]
      cases hi : rs[i]? with
      | none => exact RC_one h
      | some r =>
        simp only
        rw [RC] at h ⊢
        rw [← hμ i r hi]
        exact h
  | fn f caps =>
    cases caps with
    | nil => exact h
    | cons r rs => exact RC_one h
  | dat d => exact h
  | nilsl => exact h
  | slt q rows => exact h.1
  | imm ds => exact h
  | nilp => exact h
  | any => exact h

def HasAll (c : Ctx) (st : St) : List Operand → List V → Prop
  | [], [] => True
  | x :: xs, v :: vs => Has c st x v ∧ HasAll c st xs vs
  | _, _ => False
theorem hasAll_ok {c : Ctx} {st : St} {Φ : Cx} {a : Act} {w : World} (hr : Rel c st Φ a w) : ∀ {xs : List Operand} {vs : List V}, HasAll c st xs vs → All2 (RV Φ) vs (xs.map a.eval)
  | [], [], _ => trivial
  | x :: xs, v :: vs, h => ⟨h.1 Φ a w hr, hasAll_ok hr h.2⟩
  | [], _ :: _, h => h.elim
  | _ :: _, [], h => h.elim
def BoxAll (st : St) : List Ref → List (List C) → Prop
  | [], [] => True
  | r :: rs, b :: bs => st.bx r = some b ∧ BoxAll st rs bs
  | _, _ => False
theorem boxAll_get {st : St} : ∀ {rs : List Ref} {bs : List (List C)}, BoxAll st rs bs → rs.length = bs.length ∧ ∀ (i : Nat) (b : List C), bs[i]? = some b → ∃ r, rs[i]? = some r ∧ st.bx r = some b
  | [], [], _ => ⟨rfl, fun i b h => by simp at h⟩
  | r :: rs, b :: bs, h => by
    obtain ⟨h1, h2⟩ := boxAll_get h.2
    refine ⟨by simp [h1], fun i x hi => ?_⟩
    cases i with
    | zero => simp at hi; subst hi; exact ⟨r, by simp, h.1⟩
    | succ i => simpa using h2 i x (by simpa using hi)
  | [], _ :: _, h => h.elim
  | _ :: _, [], h => h.elim
def St.setBs (st : St) : List Ref → List (List C) → St
  | r :: rs, b :: bs => (st.setBs rs bs).setB r b
  | _, _ => st
theorem setBs_sl (st : St) : ∀ (rs : List Ref) (bs : List (List C)), (st.setBs rs bs).sl = st.sl ∧ (st.setBs rs bs).tk = st.tk
  | [], bs => by cases bs <;> exact ⟨rfl, rfl⟩
  | r :: rs, [] => ⟨rfl, rfl⟩
  | r :: rs, b :: bs => by simpa [St.setBs, St.setB] using setBs_sl st rs bs
theorem setBs_bx {st : St} : ∀ {rs : List Ref} {bs : List (List C)} {s : Ref} {x : List C}, (st.setBs rs bs).bx s = some x → rs.length = bs.length → (∃ i : Nat, rs[i]? = some s ∧ bs[i]? = some x) ∨ (s ∉ rs ∧ st.bx s = some x)
  | [], [], s, x, h, _ => .inr ⟨by simp, h⟩
  | r :: rs, b :: bs, s, x, h, hl => by
    simp only [St.setBs, St.setB] at h
    cases hb : Ref.beq s r with
    | true =>
      rw [hb] at h
      simp only [cond_true, Option.some.injEq] at h
      subst h
      exact .inl ⟨0, by simp [(Ref.beq_iff s r).1 hb], by simp⟩
    | false =>
      rw [hb] at h
      have hne : s ≠ r := fun e => by subst e; rw [Ref.beq_self] at hb; cases hb
      rcases setBs_bx h (by simpa using hl) with ⟨i, h1, h2⟩ | ⟨h1, h2⟩
      · exact .inl ⟨i + 1, by simpa using h1, by simpa using h2⟩
      · exact .inr ⟨by simp [hne, h1], h2⟩
  | [], _ :: _, _, _, _, h => by simp at h
  | _ :: _, [], _, _, _, h => by simp at h

section
variable {c : Ctx} {st : St} {Φ : Cx} {a : Act} {w : World}

/-- Behind a call: what the caller knows. -/
theorem Rel.called (hr : Rel c st Φ a w) {rs : List Ref} {bxs bx' : List (List C)} (hnd : rs.Nodup) (hb : BoxAll st rs bxs) {Q : V → List (List C) → Prop} {v : Value} {w' : World} {d : V} {Φ' : Cx}
    (hd : Done (calleeCx Φ rs) (rs.map Φ.μ) w Q v w' d bx' Φ') :
    Rel c (st.setBs rs (bx'.map (List.map (C.caller rs)))) { A := Φ'.A, μ := Φ.μ, τ := Φ.τ } a w' ∧ RV { A := Φ'.A, μ := Φ.μ, τ := Φ.τ } (d.mapC (C.caller rs)) v := by
  obtain ⟨hlen, hbget⟩ := boxAll_get hb
  have hg : Grows Φ.A Φ'.A := hd.grow
  have hold : ∀ k, k < w.heap.size → Φ'.A k = Φ.A k := hd.old
  have hlen' : rs.length = (bx'.map (List.map (C.caller rs))).length := by have := hd.len; simp at this ⊢; omega
  have hμ : ∀ (i : Nat) (r : Ref), rs[i]? = some r → Φ'.μ (.e i) = Φ.μ r := by
    intro i r hi
    have h1 := hd.ext i (by rw [List.length_map]; exact (List.getElem?_eq_some_iff.1 hi).1)
    rw [List.getElem?_map, hi] at h1
    simpa using h1.symm
  have hrs : ∀ r ∈ rs, ∃ cs, st.bx r = some cs := by
    intro r hm
    obtain ⟨i, hi⟩ := List.getElem?_of_mem hm
    have hlt := (List.getElem?_eq_some_iff.1 hi).1
    obtain ⟨r', h1, h2⟩ := hbget i (bxs[i]'(by omega)) (List.getElem?_eq_getElem (by omega))
    rw [hi] at h1
    injection h1 with h1
    subst h1
    exact ⟨_, h2⟩
  have hnotin : ∀ b, (∀ r ∈ rs, Φ.μ r ≠ b) → b ∉ rs.map Φ.μ := fun b h hm => by
    obtain ⟨r, h1, h2⟩ := List.mem_map.1 hm
    exact h r h1 h2
  have hf : ∀ x u, RC Φ x u → RC { A := Φ'.A, μ := Φ.μ, τ := Φ.τ } x u := by
    intro x u hx
    cases x with
    | dat d => exact RD_grows hg d u hx
    | slt q rows => exact ⟨RD_grows hg _ u hx.1, hx.2⟩
    | imm ds =>
      obtain ⟨b, o, us, hv, hA', hrr⟩ := hx
      obtain ⟨ws, hw⟩ := hg b us hA'
      refine ⟨b, o, us ++ ws, hv, hw, ?_⟩
      have := RDs_grows hg ds _ hrr
      rw [RDs_iff] at this ⊢
      intro j d hd
      obtain ⟨v, hv, hr⟩ := this j d hd
      exact ⟨v, drop_append_some hv, hr⟩
    | nilsl => exact hx
    | ref r off => exact hx
    | nilp => exact hx
    | bs r k off len => exact hx
    | fn f caps => exact hx
    | map r => exact hx
    | mapc m => exact hx
    | any => exact hx
  have hsl := setBs_sl st rs (bx'.map (List.map (C.caller rs)))
  have hlive : ∀ s x, (st.setBs rs (bx'.map (List.map (C.caller rs)))).bx s = some x → ∃ cs, st.bx s = some cs := by
    intro s x hs
    rcases setBs_bx hs hlen' with ⟨i, h1, h2⟩ | ⟨h1, h2⟩
    · exact hrs s (List.mem_of_getElem? h1)
    · exact ⟨x, h2⟩
  refine ⟨⟨hr.size, hr.defers, ?_, ?_, ?_, ?_, ?_, ?_, hd.arr, hr.ext, ?_, hr.grow.trans hg, ?_⟩, RV_mapC (Φ := Φ') (Φ' := { A := Φ'.A, μ := Φ.μ, τ := Φ.τ }) (Grows.refl _) (fun x u hx => caller_ok hμ hx) d v hd.val⟩
  · intro t u ht
    rw [hsl.1] at ht
    exact RV_trans (Φ' := { A := Φ'.A, μ := Φ.μ, τ := Φ.τ }) hg hf (hr.slots t u ht)
  · intro s x hs
    rcases setBs_bx hs hlen' with ⟨i, h1, h2⟩ | ⟨h1, h2⟩
    · rw [List.getElem?_map, Option.map_eq_some_iff] at h2
      obtain ⟨cs, h3, rfl⟩ := h2
      obtain ⟨b, o, h4, h5, h6, h7⟩ := hd.box i cs h3
      rw [List.getElem?_map, h1] at h4
      simp only [Option.map_some, Option.some.injEq] at h4
      subst h4
      exact ⟨o, h5, h6.mapC (Φ := Φ') (Φ' := { A := Φ'.A, μ := Φ.μ, τ := Φ.τ }) (fun x u hx => caller_ok hμ hx) (keepM_free (Grows.refl _) fun m => rfl)⟩
    · obtain ⟨o, h3, h4⟩ := hr.boxes s x h2
      refine ⟨o, ?_, h4.mono hf hg rfl⟩
      rw [hd.fr.block _ (lt_of_heap h3) (hnotin _ fun r hm he => ?_)]
      · exact h3
      · obtain ⟨cs, hcs⟩ := hrs r hm
        exact h1 (hr.inj r s cs x hcs h2 he ▸ hm)
  · intro s x hs
    obtain ⟨cs, hcs⟩ := hlive s x hs
    obtain ⟨o, h3, h4⟩ := hr.boxes s cs hcs
    obtain ⟨h5, h6⟩ := hr.own s cs hcs
    exact ⟨by simp only []; rw [hold _ (lt_of_heap h3)]; exact h5, h6⟩
  · intro s s' x x' hs hs' hm
    obtain ⟨cs, hcs⟩ := hlive s x hs
    obtain ⟨cs', hcs'⟩ := hlive s' x' hs'
    exact hr.inj s s' cs cs' hcs hcs' hm
  · intro q e k hq
    rw [hsl.2] at hq
    obtain ⟨n, xs, hk, ho, hA⟩ := hr.toks q e k hq
    refine ⟨n, xs, hk, ?_, fun g hgg => ?_⟩
    · refine ⟨ho.1, ?_⟩
      rcases ho.2 with h1 | ⟨g, cap, cur, h1, h2, h3, h4⟩
      · exact .inl h1
      · refine .inr ⟨g, cap, cur, h1, h2, ?_, h4⟩
        rw [hd.fr.block g (lt_of_heap h3) (hnotin _ fun r hm he => ?_)]
        · exact h3
        · obtain ⟨cs, hcs⟩ := hrs r hm
          have h5 := (hr.own r cs hcs).1
          have h6 := hA g (by rw [h1]; rfl)
          rw [he] at h5
          rw [h5] at h6
          cases h6
    · simp only []
      rw [hold g (ho.lt g hgg).2]
      exact hA g hgg
  · intro q q' x x' g hq hq'
    rw [hsl.2] at hq hq'
    exact hr.tinj q q' x x' g hq hq'
  · intro k hk
    have := hr.fr.size
    simp only []
    rw [hold k (by omega)]
    exact hr.oldA k hk
  · have hs := hr.fr.size
    refine ⟨hd.fr.os.trans hr.fr.os, hd.fr.tape.trans hr.fr.tape, hd.fr.output.trans hr.fr.output, Nat.le_trans hs hd.fr.size, fun k hk hx => ?_⟩
    rw [hd.fr.block k (by omega) (hnotin _ fun r hm he => ?_)]
    · exact hr.fr.block k hk hx
    · obtain ⟨cs, hcs⟩ := hrs r hm
      rcases (hr.own r cs hcs).2 with h1 | h1
      · omega
      · exact hx (he ▸ h1.1)
end

section
variable {c : Ctx} {st : St} {K : St → Prop} {t ty : Nat} {pos : String} {af : Array Edge} {gd : Option (Nat × Bool)}

/-- The values that a call hands over. -/
def argsOf (rs : List Ref) (vs : List V) (caps : List Ref) : List V := (vs ++ caps.map fun r => V.one (.ref r 0)).map fun v => v.norm.mapC (C.callee rs)

theorem callG_core {fx : Operand} {f : FuncId} {caps : List Ref} {xs : List Operand} {vs : List V} {rs : List Ref} {bxs bx0 : List (List C)} {args' : List V} {R : Cx → List Nat → World → Value → World → Prop} {tys : Array TypeId} {o : Oper}
    (ho : o.op = .call ⟨.value fx, xs.toArray, tys⟩)
    (hf : Has c st fx (.one (.fn f caps))) (hx : HasAll c st xs vs) (hnd : rs.Nodup) (hb : BoxAll st rs bxs)
    (hc : ACallsG c.P f args' bx0 R) (hargs : argsOf rs vs caps = args') (hbx : bxs.map (List.map (C.callee rs)) = bx0)
    {Φ : Cx} {a : Act} {w : World} (hr : Rel c st Φ a w) {K' : Act → World → Prop} {Qx : Exit → Act → World → Prop}
    (h : ∀ v w', R (calleeCx Φ rs) (rs.map Φ.μ) w v w' → K' (a.put o.dst v) w') : o.wp c.P a w K' Qx := by
  obtain ⟨hfn, hcall⟩ := hc
  have hfx := hf Φ a w hr
  rw [RV, RC] at hfx
  obtain ⟨hlen, hbget⟩ := boxAll_get hb
  have hvs := hasAll_ok hr hx
  have hrun : (execOp a.eval o).run c.P w = .ok (.enter f ((xs.map a.eval).toArray ++ (caps.map fun r => Value.pointer (some ⟨Φ.μ r, 0, none⟩)).toArray)) w := by
    unfold isFn at hfn
    cases hp : c.P.funcs[f]? with
    | none => rw [hp] at hfn; cases hfn
    | some fn =>
      rw [hp] at hfn
      simp only [Bool.and_eq_true, Bool.not_eq_true'] at hfn
      have hb : fn.body.isNone = false := by cases hbo : fn.body <;> simp_all
      unfold execOp
      simp only [ho, resolve, hfx, Deferred.ofValue, Sem.run_bind, Sem.run_pure, Result.andThen_ok, invoke, callFunc, program, Sem.run]
      simp [hp, hfn.2, hb]
  unfold Oper.wp
  rw [hrun, Oper.upon_enter]
  have hdone := hcall (calleeCx Φ rs) (rs.map Φ.μ) w (xs.map a.eval ++ caps.map fun r => Value.pointer (some ⟨Φ.μ r, 0, none⟩)) hr.arr ?_ ?_ ?_ ?_ ?_
  · have he : (xs.map a.eval).toArray ++ (caps.map fun r => Value.pointer (some ⟨Φ.μ r, 0, none⟩)).toArray = (xs.map a.eval ++ caps.map fun r => Value.pointer (some ⟨Φ.μ r, 0, none⟩)).toArray := by simp
    rw [he]
    refine hdone.mono ?_
    rintro e w' ⟨v, rfl, hd⟩
    exact h v w' hd
  · -- no two of them are one block
    have key : ∀ r ∈ rs, ∃ cs, st.bx r = some cs := by
      intro r hm
      obtain ⟨i, hi⟩ := List.getElem?_of_mem hm
      have hlt := (List.getElem?_eq_some_iff.1 hi).1
      obtain ⟨r', h1, h2⟩ := hbget i (bxs[i]'(by omega)) (List.getElem?_eq_getElem (by omega))
      rw [hi] at h1
      injection h1 with h1
      subst h1
      exact ⟨_, h2⟩
    refine List.pairwise_map.2 (List.Pairwise.imp_of_mem (fun {r s} hr' hs' hne he => ?_) hnd)
    obtain ⟨cs, hcs⟩ := key r hr'
    obtain ⟨cs', hcs'⟩ := key s hs'
    exact hne (hr.inj r s cs cs' hcs hcs' he)
  · rw [← hbx]; simp [hlen]
  · intro i hi
    rw [List.length_map] at hi
    rw [List.getElem?_map, List.getElem?_eq_getElem hi]
    simp [calleeCx, hi]
  · intro i cs hi
    rw [← hbx, List.getElem?_map, Option.map_eq_some_iff] at hi
    obtain ⟨us, h1, rfl⟩ := hi
    obtain ⟨r, h2, h3⟩ := hbget i us h1
    obtain ⟨o, h4, h5⟩ := hr.boxes r us h3
    exact ⟨Φ.μ r, o, by rw [List.getElem?_map, h2]; rfl, h4, h5.mapC (Φ := Φ) (Φ' := calleeCx Φ rs) (fun x u hx => callee_ok hx) (keepM_free (Grows.refl _) fun m => rfl), (hr.own r us h3).1⟩
  · rw [← hargs]
    unfold argsOf
    refine (All2.map_left (R := RV (calleeCx Φ rs)) _).1 ?_
    have h1 : All2 (RV Φ) (vs ++ caps.map fun r => V.one (.ref r 0)) (xs.map a.eval ++ caps.map fun r => Value.pointer (some ⟨Φ.μ r, 0, none⟩)) := by
      refine hvs.append ?_
      clear hfx hrun hargs hf
      induction caps with
      | nil => trivial
      | cons r caps ih => exact ⟨by rw [RV, RC], ih⟩
    exact h1.mono fun u x hu => RV_mapC (Φ := Φ) (Φ' := calleeCx Φ rs) (Grows.refl _) (fun x u hx => callee_ok hx) _ _ (RV_norm _ _ hu)

theorem call_core {fx : Operand} {f : FuncId} {caps : List Ref} {xs : List Operand} {vs : List V} {rs : List Ref} {bxs bx0 : List (List C)} {args' : List V} {Q : V → List (List C) → Prop} {tys : Array TypeId} {o : Oper}
    (ho : o.op = .call ⟨.value fx, xs.toArray, tys⟩)
    (hf : Has c st fx (.one (.fn f caps))) (hx : HasAll c st xs vs) (hnd : rs.Nodup) (hb : BoxAll st rs bxs)
    (hc : ACalls c.P f args' bx0 Q) (hargs : argsOf rs vs caps = args') (hbx : bxs.map (List.map (C.callee rs)) = bx0)
    {Φ : Cx} {a : Act} {w : World} (hr : Rel c st Φ a w) {K' : Act → World → Prop} {Qx : Exit → Act → World → Prop}
    (h : ∀ v w' d bx' Φ', Done (calleeCx Φ rs) (rs.map Φ.μ) w Q v w' d bx' Φ' → K' (a.put o.dst v) w') : o.wp c.P a w K' Qx :=
  callG_core ho hf hx hnd hb hc.toG hargs hbx hr fun v w' ⟨d, bx', Φ', hd⟩ => h v w' d bx' Φ' hd

theorem zcl {fx : Operand} {f : FuncId} {caps : List Ref} {xs : List Operand} {vs : List V} {rs : List Ref} {bxs bx0 : List (List C)} {args' : List V} {Q : V → List (List C) → Prop} {tys : Array TypeId}
    (hf : Has c st fx (.one (.fn f caps))) (hx : HasAll c st xs vs) (hnd : rs.Nodup) (hb : BoxAll st rs bxs)
    (hc : ACalls c.P f args' bx0 Q) (hargs : argsOf rs vs caps = args') (hbx : bxs.map (List.map (C.callee rs)) = bx0) (ht : Nat.blt t c.N = true)
    (hK : ∀ d bx', Q d bx' → bx'.length = rs.length → K ((st.setBs rs (bx'.map (List.map (C.caller rs)))).put t (d.mapC (C.caller rs)))) : AOp c ⟨some t, .call ⟨.value fx, xs.toArray, tys⟩, ty, pos, af, gd⟩ st K := by
  intro Φ a w hr K' Qx hQ
  refine call_core rfl hf hx hnd hb hc hargs hbx hr fun v w' d bx' Φ' hd => ?_
  obtain ⟨h1, h2⟩ := hr.called hnd hb hd
  exact hQ _ _ _ w' (h1.put h2 ht) (hK d bx' hd.post (by have := hd.len; simpa using this))
/-- A call whose result is not kept. -/
theorem op_call0 {fx : Operand} {f : FuncId} {caps : List Ref} {xs : List Operand} {vs : List V} {rs : List Ref} {bxs bx0 : List (List C)} {args' : List V} {Q : V → List (List C) → Prop} {tys : Array TypeId}
    (hf : Has c st fx (.one (.fn f caps))) (hx : HasAll c st xs vs) (hnd : rs.Nodup) (hb : BoxAll st rs bxs)
    (hc : ACalls c.P f args' bx0 Q) (hargs : argsOf rs vs caps = args') (hbx : bxs.map (List.map (C.callee rs)) = bx0)
    (hK : ∀ d bx', Q d bx' → bx'.length = rs.length → K (st.setBs rs (bx'.map (List.map (C.caller rs))))) : AOp c ⟨none, .call ⟨.value fx, xs.toArray, tys⟩, ty, pos, af, gd⟩ st K := by
  intro Φ a w hr K' Qx hQ
  refine call_core rfl hf hx hnd hb hc hargs hbx hr fun v w' d bx' Φ' hd => ?_
  obtain ⟨h1, h2⟩ := hr.called hnd hb hd
  exact hQ _ _ _ w' h1 (hK d bx' hd.post (by have := hd.len; simpa using this))

theorem op_extract {x : Operand} {i : Nat} {vs : List V} {v : V} (hx : Has c st x (.tup vs)) (hv : vs[i]? = some v) (ht : Nat.blt t c.N = true) (hK : K (st.put t v)) : AOp c ⟨some t, .extract x i, ty, pos, af, gd⟩ st K :=
  aop_pure rfl ht (fun Φ a w hr => by
    have h := hx Φ a w hr
    rw [RV] at h
    obtain ⟨xs, he, h2⟩ := h
    rw [RVs_All2] at h2
    obtain ⟨y, hy, hrv⟩ := h2.get i v hv
    exact ⟨y, by simp [execOp, he, Instr.extract, hy], hrv⟩) hK
theorem op_makeFunc {f : FuncId} {caps : List Operand} {rs : List Ref} (hx : HasAll c st caps (rs.map fun r => V.one (.ref r 0))) (ht : Nat.blt t c.N = true) (hK : K (st.put t (.one (.fn f rs)))) :
    AOp c ⟨some t, .makeFunc (.func f) #[] caps.toArray, ty, pos, af, gd⟩ st K :=
  aop_pure rfl ht (fun Φ a w hr => by
    have h := hasAll_ok hr hx
    refine ⟨.func (.func f) #[] (caps.map a.eval).toArray, by simp [execOp, Instr.makeFunc], ?_⟩
    rw [RV, RC]
    congr 1
    have key : ∀ (rs : List Ref) (us : List Value), All2 (RV Φ) (rs.map fun r => V.one (.ref r 0)) us → us = rs.map fun r => Value.pointer (some ⟨Φ.μ r, 0, none⟩) := by
      intro rs
      induction rs with
      | nil => intro us hu; cases us with
        | nil => rfl
        | cons u us => exact hu.elim
      | cons r rs ih =>
        intro us hu
        cases us with
        | nil => exact hu.elim
        | cons u us =>
          have h1 := rv_ref hu.1
          rw [h1, ih us hu.2]
          rfl
    rw [key rs _ h]) hK

/-- A guarded operation that only puts a value. -/
theorem zg {ops : Array Oper} {o : Oper} {l : List Oper} {j tg : Nat} {want p : Bool} {v : V} (hg : o.guard = some (j, want)) (hj : (ops[j]?).bind (·.dst) = some tg) (hd : o.dst = some t) (ht : Nat.blt t c.N = true)
    (hp : ∀ Φ a w, Rel c st Φ a w → ((match a.tmps[tg]? with | some (.bool b) => some b | _ => none) == some want) = p)
    (h1 : p = true → AOp c o st fun s => s = st.put t v) (h2 : AOps c ops l (st.put t (.cond p v)) K) : AOps c ops (o :: l) st K := by
  intro Φ a w hr Q hQ
  refine wpList_step fun K' hK' => ?_
  have hw : Region.wanted o (yielded ops a.tmps) = p := by
    rw [← hp Φ a w hr]
    simp only [Region.wanted, hg, yielded, hj, Option.bind_some]
    congr 1
  rw [hw]
  cases p with
  | true =>
    rw [if_pos rfl]
    refine h1 rfl Φ a w hr K' Q ?_
    rintro st' Φ' a' w' hr' rfl
    refine hK' _ _ (h2 Φ' a' w' ?_ Q hQ)
    refine ⟨hr'.size, hr'.defers, fun s u hs => ?_, hr'.boxes, hr'.own, hr'.inj, hr'.toks, hr'.tinj, hr'.arr, hr'.ext, hr'.oldA, hr'.grow, hr'.fr⟩
    simp only [St.put] at hs
    cases hb : Nat.beq s t with
    | true =>
      rw [hb] at hs
      simp only [cond_true, Option.some.injEq] at hs
      subst hs
      rw [RV]
      exact ⟨fun _ => hr'.slots s v (by simp [St.put, hb]), fun e => by cases e⟩
    | false =>
      rw [hb] at hs
      exact hr'.slots s u (by simpa [St.put, hb] using hs)
  | false =>
    rw [if_neg (by simp), hd]
    exact hK' _ _ (h2 Φ _ w (hr.put (by rw [RV]; exact ⟨fun e => (by cases e), fun _ => rfl⟩) ht) Q hQ)
/-- What a guard asks, where it asks a bool. -/
theorem zgb {tg : Nat} {want b : Bool} (h : st.sl tg = some (.one (.dat (.bool b)))) : ∀ Φ a w, Rel c st Φ a w → ((match a.tmps[tg]? with | some (.bool b) => some b | _ => none) == some want) = (bif want then b else !b) := by
  intro Φ a w hr
  have hs := rv_bool (hr.slots tg _ h)
  have : a.tmps[tg]? = some (.bool b) := by
    rw [Array.getD_eq_getD_getElem?] at hs
    cases ha : a.tmps[tg]? with
    | none => rw [ha] at hs; cases hs
    | some x => rw [ha] at hs; simp at hs; rw [hs]
  rw [this]
  cases want <;> cases b <;> rfl
/-- .. and where it asks a bool that is itself under a condition. -/
theorem guard_cond {tg : Nat} {want b p : Bool} (h : st.sl tg = some (.cond p (.one (.dat (.bool b))))) : ∀ Φ a w, Rel c st Φ a w → ((match a.tmps[tg]? with | some (.bool b) => some b | _ => none) == some want) = (p && (bif want then b else !b)) := by
  intro Φ a w hr
  have hs := hr.slots tg _ h
  rw [RV] at hs
  cases p with
  | true =>
    have hs := rv_bool (hs.1 rfl)
    have : a.tmps[tg]? = some (.bool b) := by
      rw [Array.getD_eq_getD_getElem?] at hs
      cases ha : a.tmps[tg]? with
      | none => rw [ha] at hs; cases hs
      | some x => rw [ha] at hs; simp at hs; rw [hs]
    rw [this]
    cases want <;> cases b <;> rfl
  | false =>
    have hs := hs.2 rfl
    rw [Array.getD_eq_getD_getElem?] at hs
    cases ha : a.tmps[tg]? with
    | none => cases want <;> rfl
    | some x =>
      rw [ha] at hs
      simp at hs
      subst hs
      cases want <;> rfl
end
end Go.TQ
