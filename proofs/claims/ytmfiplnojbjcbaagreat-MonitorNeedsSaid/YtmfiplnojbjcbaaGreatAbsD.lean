/- A region whose order is drawn: every order that its edges allow comes to one abstract state, if what its operations read and write is apart wherever they are not ordered. Own work. -/
import Derived.Test.YtmfiplnojbjcbaaGreatAbsC
set_option linter.unusedVariables false
set_option linter.unusedSimpArgs false
namespace Go.TQ

/-! ### What an operation turns: constants alone -/
inductive Upd where
  | slot (t : Nat) (v : V)
  | box (r : Ref) (cs : List C)
  | tok (q : Nat) (x : Option (TypeId × Nat))

def Upd.app : Upd → St → St
  | .slot t v, st => st.put t v
  | .box r cs, st => st.setB r cs
  | .tok q x, st => st.setT q x
def Upd.apart : Upd → Upd → Bool
  | .slot t _, .slot s _ => !Nat.beq t s
  | .box r _, .box s _ => !Ref.beq r s
  | .tok q _, .tok p _ => !Nat.beq q p
  | _, _ => true
def apps : List Upd → St → St
  | [], st => st
  | u :: us, st => apps us (u.app st)

theorem nbeq_false {a b : Nat} (h : Nat.beq a b = false) : a ≠ b := fun e => by subst e; rw [Nat.beq_refl] at h; cases h
theorem Upd.comm {u v : Upd} (h : u.apart v = true) (st : St) : u.app (v.app st) = v.app (u.app st) := by
  cases u <;> cases v <;> simp only [Upd.app, St.put, St.setB, St.setT] <;> simp only [Upd.apart, Bool.not_eq_true'] at h
  · congr 1
    funext s
    rename_i t v t' v'
    cases h2 : Nat.beq s t <;> cases h3 : Nat.beq s t' <;> simp
    rw [← (nbeq_iff s t).1 h2, ← (nbeq_iff s t').1 h3, Nat.beq_refl] at h
    cases h
  · congr 1
    funext s
    rename_i r cs r' cs'
    cases h2 : Ref.beq s r <;> cases h3 : Ref.beq s r' <;> simp
    rw [← (Ref.beq_iff s r).1 h2, ← (Ref.beq_iff s r').1 h3, Ref.beq_self] at h
    cases h
  · congr 1
    funext s
    rename_i t v t' v'
    cases h2 : Nat.beq s t <;> cases h3 : Nat.beq s t' <;> simp
    rw [← (nbeq_iff s t).1 h2, ← (nbeq_iff s t').1 h3, Nat.beq_refl] at h
    cases h
def apartL (us vs : List Upd) : Bool := us.all fun u => vs.all fun v => u.apart v
theorem comm1 {u : Upd} : ∀ {vs : List Upd}, (vs.all fun v => u.apart v) = true → ∀ st, u.app (apps vs st) = apps vs (u.app st)
  | [], _, st => rfl
  | v :: vs, h, st => by
    simp only [List.all_cons, Bool.and_eq_true] at h
    simp only [apps]
    rw [comm1 h.2, Upd.comm h.1]
theorem commL {vs : List Upd} : ∀ {us : List Upd}, apartL us vs = true → ∀ st, apps us (apps vs st) = apps vs (apps us st)
  | [], _, st => rfl
  | u :: us, h, st => by
    simp only [apartL, List.all_cons, Bool.and_eq_true] at h
    simp only [apps]
    rw [comm1 h.1, commL (us := us) h.2]

/-! ### What an operation asks -/
structure TE where
  rs : List (Nat × V)
  rb : List (Ref × List C)
  rt : List (Nat × Option (TypeId × Nat))
  fr : List Ref
  ft : List Nat
  us : List Upd

def C.noR (r : Ref) : C → Bool
  | .ref s _ => !Ref.beq s r
  | .bs s _ _ _ => !Ref.beq s r
  | .map s => !Ref.beq s r
  | .fn _ caps => !memR r caps
  | _ => true
def ME.noQ (q : Nat) (x : ME) : Bool := match x.tok with
  | some p => !Nat.beq p q
  | none => true
def C.noQ (q : Nat) : C → Bool
  | .slt p _ => !Nat.beq p q
  | .mapc m => m.all (ME.noQ q)
  | _ => true
def C.alls (p : C → Bool) : List C → Bool
  | [] => true
  | c :: cs => p c && C.alls p cs
mutual
def V.all (p : C → Bool) : V → Bool
  | .one c => p c
  | .agg cs => C.alls p cs
  | .aggd _ => true
  | .tup vs => V.allL p vs
  | .cond _ v => V.all p v
def V.allL (p : C → Bool) : List V → Bool
  | [] => true
  | v :: vs => V.all p v && V.allL p vs
end
def NoC (p : C → Bool) (st : St) : Prop := (∀ t v, st.sl t = some v → v.all p = true) ∧ (∀ r cs, st.bx r = some cs → C.alls p cs = true)
def Upd.noC (p : C → Bool) : Upd → Bool
  | .slot _ v => v.all p
  | .box _ cs => C.alls p cs
  | .tok _ _ => true

theorem alls_map {f : C → C} {p : C → Bool} (h : ∀ c, p c = true → f c = c) : ∀ {cs : List C}, C.alls p cs = true → cs.map f = cs
  | [], _ => rfl
  | c :: cs, hc => by
    simp only [C.alls, Bool.and_eq_true] at hc
    rw [List.map_cons, h c hc.1, alls_map h hc.2]
mutual
theorem all_mapC {f : C → C} {p : C → Bool} (h : ∀ c, p c = true → f c = c) : ∀ (v : V), v.all p = true → v.mapC f = v
  | .one c, hv => by rw [V.all] at hv; rw [V.mapC, h c hv]
  | .agg cs, hv => by rw [V.all] at hv; rw [V.mapC, alls_map h hv]
  | .aggd _, _ => by rw [V.mapC]
  | .tup vs, hv => by rw [V.all] at hv; rw [V.mapC, allL_mapC h vs hv]
  | .cond _ v, hv => by rw [V.all] at hv; rw [V.mapC, all_mapC h v hv]
theorem allL_mapC {f : C → C} {p : C → Bool} (h : ∀ c, p c = true → f c = c) : ∀ (vs : List V), V.allL p vs = true → V.mapCs f vs = vs
  | [], _ => by rw [V.mapCs]
  | v :: vs, hv => by
    rw [V.allL, Bool.and_eq_true] at hv
    rw [V.mapCs, all_mapC h v hv.1, allL_mapC h vs hv.2]
end
theorem noC_mapC {f : C → C} {p : C → Bool} (h : ∀ c, p c = true → f c = c) {st : St} (hs : NoC p st) : st.mapC f = st := by
  cases st with
  | mk sl bx tk =>
    simp only [St.mapC]
    congr 1
    · funext t
      cases ht : sl t with
      | none => rfl
      | some v => simp only [Option.map_some]; rw [all_mapC h v (hs.1 t v ht)]
    · funext r
      cases hr : bx r with
      | none => rfl
      | some cs => simp only [Option.map_some]; rw [alls_map h (hs.2 r cs hr)]
theorem noR_scrub {r : Ref} (c : C) (h : c.noR r = true) : c.scrub r = c := by
  cases c <;> simp_all [C.noR, C.scrub]
theorem unq_same {q : Nat} {x : ME} (h : x.noQ q = true) : x.unq q = x := by
  obtain ⟨k, t, d⟩ := x
  cases t with
  | none => rfl
  | some p =>
    simp only [ME.noQ, Bool.not_eq_true'] at h
    simp [ME.unq, h]
theorem unqs_same {q : Nat} : ∀ {m : List ME}, m.all (ME.noQ q) = true → m.map (ME.unq q) = m
  | [], _ => rfl
  | x :: m, h => by
    simp only [List.all_cons, Bool.and_eq_true] at h
    simp [unq_same h.1, unqs_same h.2]
theorem noQ_unq {q : Nat} (c : C) (h : c.noQ q = true) : c.unq q = c := by
  cases c with
  | mapc m => rw [C.unq, unqs_same h]
  | _ => simp_all [C.noQ, C.unq]

theorem alls_of_map {f : C → C} {p : C → Bool} (h : ∀ c, p (f c) = true) : ∀ (cs : List C), C.alls p (cs.map f) = true
  | [] => rfl
  | c :: cs => by simp only [List.map_cons, C.alls, h, alls_of_map h cs, Bool.and_self]
mutual
theorem all_of_mapC {f : C → C} {p : C → Bool} (h : ∀ c, p (f c) = true) : ∀ (v : V), (v.mapC f).all p = true
  | .one c => by rw [V.mapC, V.all, h]
  | .agg cs => by rw [V.mapC, V.all, alls_of_map h]
  | .aggd _ => by rw [V.mapC, V.all]
  | .tup vs => by rw [V.mapC, V.all, allL_of_mapC h vs]
  | .cond _ v => by rw [V.mapC, V.all, all_of_mapC h v]
theorem allL_of_mapC {f : C → C} {p : C → Bool} (h : ∀ c, p (f c) = true) : ∀ (vs : List V), V.allL p (V.mapCs f vs) = true
  | [] => by rw [V.mapCs, V.allL]
  | v :: vs => by rw [V.mapCs, V.allL, all_of_mapC h v, allL_of_mapC h vs]; rfl
end
theorem noC_of_mapC {f : C → C} {p : C → Bool} (h : ∀ c, p (f c) = true) (st : St) : NoC p (st.mapC f) := by
  constructor
  · intro t v ht
    simp only [St.mapC, Option.map_eq_some_iff] at ht
    obtain ⟨u, _, rfl⟩ := ht
    exact all_of_mapC h u
  · intro r cs hr
    simp only [St.mapC, Option.map_eq_some_iff] at hr
    obtain ⟨us, _, rfl⟩ := hr
    exact alls_of_map h us
theorem scrub_noR (r : Ref) (c : C) : (c.scrub r).noR r = true := by
  cases c with
  | ref s o => cases hb : Ref.beq s r <;> simp [C.scrub, C.noR, hb]
  | bs s k o l => cases hb : Ref.beq s r <;> simp [C.scrub, C.noR, hb]
  | map s => cases hb : Ref.beq s r <;> simp [C.scrub, C.noR, hb]
  | fn f caps => cases hb : memR r caps <;> simp [C.scrub, C.noR, hb]
  | _ => rfl
theorem unq_noQ (q : Nat) (c : C) : (c.unq q).noQ q = true := by
  cases c with
  | slt p rows => cases hb : Nat.beq p q <;> simp [C.unq, C.noQ, hb]
  | mapc m =>
    simp only [C.unq, C.noQ, List.all_map, List.all_eq_true]
    intro x _
    simp only [Function.comp, ME.noQ, ME.unq]
    cases x.tok with
    | none => rfl
    | some p => cases hb : Nat.beq p q <;> simp [hb]
  | _ => rfl

def LookS (st : St) : List (Nat × V) → Prop
  | [] => True
  | (t, v) :: l => st.sl t = some v ∧ LookS st l
def LookB (st : St) : List (Ref × List C) → Prop
  | [] => True
  | (r, cs) :: l => st.bx r = some cs ∧ LookB st l
def LookT (st : St) : List (Nat × Option (TypeId × Nat)) → Prop
  | [] => True
  | (q, x) :: l => st.tk q = x ∧ LookT st l
def LookR (st : St) : List Ref → Prop
  | [] => True
  | r :: l => NoC (C.noR r) st ∧ LookR st l
def LookQ (st : St) : List Nat → Prop
  | [] => True
  | q :: l => NoC (C.noQ q) st ∧ LookQ st l
def PreL (te : TE) (st : St) : Prop := LookS st te.rs ∧ LookB st te.rb ∧ LookT st te.rt
def PreN (te : TE) (st : St) : Prop := LookR st te.fr ∧ LookQ st te.ft

/-- An update leaves what another operation asks as it is. -/
def Upd.leavesL (te : TE) : Upd → Bool
  | .slot t _ => te.rs.all (fun p => !Nat.beq p.1 t)
  | .box r _ => te.rb.all (fun p => !Ref.beq p.1 r)
  | .tok q _ => te.rt.all (fun p => !Nat.beq p.1 q)
def Upd.leavesN (te : TE) (u : Upd) : Bool := te.fr.all (fun r => u.noC (C.noR r)) && te.ft.all (fun q => u.noC (C.noQ q))

theorem lookS_iff {l : List (Nat × V)} {t : Nat} {v : V} (h : l.all (fun p => !Nat.beq p.1 t) = true) (st : St) : LookS (st.put t v) l ↔ LookS st l := by
  induction l with
  | nil => exact Iff.rfl
  | cons p l ih =>
    obtain ⟨s, u⟩ := p
    simp only [List.all_cons, Bool.and_eq_true, Bool.not_eq_true'] at h
    simp only [LookS]
    rw [ih h.2]
    simp [St.put, h.1]
theorem lookB_iff {l : List (Ref × List C)} {r : Ref} {cs : List C} (h : l.all (fun p => !Ref.beq p.1 r) = true) (st : St) : LookB (st.setB r cs) l ↔ LookB st l := by
  induction l with
  | nil => exact Iff.rfl
  | cons p l ih =>
    obtain ⟨s, u⟩ := p
    simp only [List.all_cons, Bool.and_eq_true, Bool.not_eq_true'] at h
    simp only [LookB]
    rw [ih h.2]
    simp [St.setB, h.1]
theorem lookT_iff {l : List (Nat × Option (TypeId × Nat))} {q : Nat} {x : Option (TypeId × Nat)} (h : l.all (fun p => !Nat.beq p.1 q) = true) (st : St) : LookT (st.setT q x) l ↔ LookT st l := by
  induction l with
  | nil => exact Iff.rfl
  | cons p l ih =>
    obtain ⟨s, u⟩ := p
    simp only [List.all_cons, Bool.and_eq_true, Bool.not_eq_true'] at h
    simp only [LookT]
    rw [ih h.2]
    simp [St.setT, h.1]
theorem lookS_other {st st' : St} (h : st.sl = st'.sl) : ∀ {l : List (Nat × V)}, LookS st l ↔ LookS st' l
  | [] => Iff.rfl
  | (t, v) :: l => by simp only [LookS, h, lookS_other h (l := l)]
theorem lookB_other {st st' : St} (h : st.bx = st'.bx) : ∀ {l : List (Ref × List C)}, LookB st l ↔ LookB st' l
  | [] => Iff.rfl
  | (t, v) :: l => by simp only [LookB, h, lookB_other h (l := l)]
theorem lookT_other {st st' : St} (h : st.tk = st'.tk) : ∀ {l : List (Nat × Option (TypeId × Nat))}, LookT st l ↔ LookT st' l
  | [] => Iff.rfl
  | (t, v) :: l => by simp only [LookT, h, lookT_other h (l := l)]
theorem preL_app {te : TE} {u : Upd} (h : u.leavesL te = true) (st : St) : PreL te (u.app st) ↔ PreL te st := by
  cases u with
  | slot t v => exact and_congr (lookS_iff h st) (and_congr (lookB_other (st := (Upd.slot t v).app st) (st' := st) rfl) (lookT_other (st := (Upd.slot t v).app st) (st' := st) rfl))
  | box r cs => exact and_congr (lookS_other (st := (Upd.box r cs).app st) (st' := st) rfl) (and_congr (lookB_iff h st) (lookT_other (st := (Upd.box r cs).app st) (st' := st) rfl))
  | tok q x => exact and_congr (lookS_other (st := (Upd.tok q x).app st) (st' := st) rfl) (and_congr (lookB_other (st := (Upd.tok q x).app st) (st' := st) rfl) (lookT_iff h st))
theorem preL_apps {te : TE} : ∀ {us : List Upd}, us.all (Upd.leavesL te) = true → ∀ st, PreL te (apps us st) ↔ PreL te st
  | [], _, st => Iff.rfl
  | u :: us, h, st => by
    simp only [List.all_cons, Bool.and_eq_true] at h
    simp only [apps]
    rw [preL_apps h.2, preL_app h.1]
theorem noC_app {p : C → Bool} {u : Upd} {st : St} (hu : u.noC p = true) (h : NoC p st) : NoC p (u.app st) := by
  cases u with
  | slot t v =>
    refine ⟨fun s x hs => ?_, h.2⟩
    simp only [Upd.app, St.put] at hs
    cases hb : Nat.beq s t with
    | true =>
      rw [hb] at hs
      simp only [cond_true, Option.some.injEq] at hs
      subst hs
      exact hu
    | false =>
      rw [hb] at hs
      exact h.1 s x hs
  | box r cs =>
    refine ⟨h.1, fun s x hs => ?_⟩
    simp only [Upd.app, St.setB] at hs
    cases hb : Ref.beq s r with
    | true =>
      rw [hb] at hs
      simp only [cond_true, Option.some.injEq] at hs
      subst hs
      exact hu
    | false =>
      rw [hb] at hs
      exact h.2 s x hs
  | tok q x => exact h
theorem preN_app {te : TE} {u : Upd} (h : u.leavesN te = true) {st : St} (hp : PreN te st) : PreN te (u.app st) := by
  simp only [Upd.leavesN, Bool.and_eq_true] at h
  obtain ⟨h1, h2⟩ := hp
  obtain ⟨h3, h4⟩ := h
  constructor
  · generalize te.fr = l at h1 h3
    induction l with
    | nil => trivial
    | cons r l ih =>
      simp only [List.all_cons, Bool.and_eq_true] at h3
      exact ⟨noC_app h3.1 h1.1, ih h1.2 h3.2⟩
  · generalize te.ft = l at h2 h4
    induction l with
    | nil => trivial
    | cons r l ih =>
      simp only [List.all_cons, Bool.and_eq_true] at h4
      exact ⟨noC_app h4.1 h2.1, ih h2.2 h4.2⟩
theorem preN_apps {te : TE} : ∀ {us : List Upd}, us.all (Upd.leavesN te) = true → ∀ {st}, PreN te st → PreN te (apps us st)
  | [], _, st, hp => hp
  | u :: us, h, st, hp => by
    simp only [List.all_cons, Bool.and_eq_true] at h
    exact preN_apps h.2 (preN_app h.1 hp)

/-! ### What was listed, in the text's order -/
def runS (S : Nat → Bool) : Nat → List TE → St → St
  | _, [], st => st
  | k, te :: l, st => runS S (k + 1) l (bif S k then apps te.us st else st)
def setS (S : Nat → Bool) (i : Nat) : Nat → Bool := fun j => Nat.beq j i || S j

theorem runS_comm {S : Nat → Bool} {us : List Upd} : ∀ {l : List TE} {k : Nat}, (∀ (j : Nat) (te : TE), l[j]? = some te → S (k + j) = true → apartL us te.us = true) → ∀ st, runS S k l (apps us st) = apps us (runS S k l st)
  | [], _, _, st => rfl
  | te :: l, k, h, st => by
    simp only [runS]
    have ih := runS_comm (S := S) (us := us) (l := l) (k := k + 1) (fun j te' hj hs => h (j + 1) te' (by simpa using hj) (by rwa [show k + (j + 1) = k + 1 + j by omega]))
    cases hk : S k with
    | true =>
      simp only [cond_true]
      have h0 := h 0 te (by simp) (by simpa using hk)
      rw [← commL h0, ih]
    | false =>
      simp only [cond_false]
      exact ih st
theorem runS_congr {S S' : Nat → Bool} : ∀ {l : List TE} {k : Nat}, (∀ j, k ≤ j → j < k + l.length → S j = S' j) → ∀ st, runS S k l st = runS S' k l st
  | [], _, _, _ => rfl
  | te :: l, k, h, st => by
    simp only [runS]
    rw [h k (Nat.le_refl _) (by simp), runS_congr fun j hj hj' => h j (by omega) (by simp; omega)]
theorem runS_none {S : Nat → Bool} : ∀ {l : List TE} {k : Nat}, (∀ j, S j = false) → ∀ st, runS S k l st = st
  | [], _, _, _ => rfl
  | te :: l, k, h, st => by
    simp only [runS, h k, cond_false]
    exact runS_none h st
theorem runS_add {S : Nat → Bool} {i : Nat} {te : TE} : ∀ {l : List TE} {k : Nat}, k ≤ i → l[i - k]? = some te → S i = false → (∀ (j : Nat) (te' : TE), l[j]? = some te' → i < k + j → S (k + j) = true → apartL te.us te'.us = true) →
    ∀ st, runS (setS S i) k l st = apps te.us (runS S k l st)
  | [], k, _, h, _, _, st => by simp at h
  | t0 :: l, k, hk, hi, hS, hap, st => by
    simp only [runS]
    rcases Nat.lt_or_ge k i with hlt | hge
    · have hne : Nat.beq k i = false := by
        cases hb : Nat.beq k i with
        | true => have := (nbeq_iff k i).1 hb; omega
        | false => rfl
      have hs : setS S i k = S k := by simp [setS, hne]
      rw [hs]
      exact runS_add (k := k + 1) (by omega) (by rw [show i - k = (i - (k + 1)) + 1 by omega] at hi; simpa using hi) hS
        (fun j te' hj hlt' hs' => hap (j + 1) te' (by simpa using hj) (by omega) (by rwa [show k + (j + 1) = k + 1 + j by omega])) _
    · obtain rfl : k = i := by omega
      rw [Nat.sub_self] at hi
      simp only [List.getElem?_cons_zero, Option.some.injEq] at hi
      subst hi
      have hs : setS S k k = true := by simp [setS, Nat.beq_refl]
      rw [hs, hS]
      simp only [cond_true, cond_false]
      rw [runS_congr (S := setS S k) (S' := S) (k := k + 1) (fun j hj _ => by
        have : Nat.beq j k = false := by
          cases hb : Nat.beq j k with
          | true => have := (nbeq_iff j k).1 hb; omega
          | false => rfl
        simp [setS, this])]
      exact runS_comm (fun j te' hj hs' => hap (j + 1) te' (by simpa using hj) (by omega) (by rwa [show k + (j + 1) = k + 1 + j by omega])) st

def appsL : List (List Upd) → St → St
  | [], st => st
  | us :: l, st => appsL l (apps us st)
theorem appsL_snoc : ∀ (l : List (List Upd)) (us : List Upd) (st : St), appsL (l ++ [us]) st = apps us (appsL l st)
  | [], _, _ => rfl
  | x :: l, us, st => appsL_snoc l us _
theorem appsL_comm {us : List Upd} : ∀ {l : List (List Upd)}, (∀ x ∈ l, apartL us x = true) → ∀ st, apps us (appsL l st) = appsL l (apps us st)
  | [], _, st => rfl
  | x :: l, h, st => by
    simp only [appsL]
    rw [appsL_comm (fun y hy => h y (by simp [hy])), commL (h x (by simp))]
/-- All of a prefix is what was listed of it, and then what was not. -/
theorem run_all {S : Nat → Bool} : ∀ (l : List TE) (k : Nat) (st : St) (ms : List (List Upd)) (s0 : St), st = appsL ms s0 →
    (∀ (j : Nat) (te : TE), l[j]? = some te → S (k + j) = true → ∀ x ∈ ms, apartL te.us x = true) →
    (∀ (i j : Nat) (te te' : TE), l[i]? = some te → l[j]? = some te' → i < j → S (k + i) = false → S (k + j) = true → apartL te'.us te.us = true) →
    ∃ ns : List (List Upd), runS (fun _ => true) k l st = appsL (ms ++ ns) (runS S k l s0) ∧ ∀ x ∈ ns, ∃ j te, l[j]? = some te ∧ S (k + j) = false ∧ x = te.us
  | [], k, st, ms, s0, h, _, _ => ⟨[], by simpa [runS] using h, by simp⟩
  | te :: l, k, st, ms, s0, h, h1, h2 => by
    simp only [runS, cond_true]
    cases hk : S k with
    | true =>
      simp only [cond_true]
      obtain ⟨ns, h3, h4⟩ := run_all l (k + 1) (apps te.us st) ms (apps te.us s0) (by
          rw [h, appsL_comm (h1 0 te (by simp) (by simpa using hk))])
        (fun j te' hj hs => h1 (j + 1) te' (by simpa using hj) (by rwa [show k + (j + 1) = k + 1 + j by omega]))
        (fun i j te1 te2 hi hj hij hsi hsj => h2 (i + 1) (j + 1) te1 te2 (by simpa using hi) (by simpa using hj) (by omega) (by rwa [show k + (i + 1) = k + 1 + i by omega]) (by rwa [show k + (j + 1) = k + 1 + j by omega]))
      refine ⟨ns, h3, fun x hx => ?_⟩
      obtain ⟨j, te', h5, h6, h7⟩ := h4 x hx
      exact ⟨j + 1, te', by simpa using h5, by rwa [show k + (j + 1) = k + 1 + j by omega], h7⟩
    | false =>
      simp only [cond_false]
      obtain ⟨ns, h3, h4⟩ := run_all l (k + 1) (apps te.us st) (ms ++ [te.us]) s0 (by rw [appsL_snoc, h])
        (fun j te' hj hs x hx => by
          rcases List.mem_append.1 hx with hx | hx
          · exact h1 (j + 1) te' (by simpa using hj) (by rwa [show k + (j + 1) = k + 1 + j by omega]) x hx
          · simp only [List.mem_singleton] at hx
            subst hx
            exact h2 0 (j + 1) te te' (by simp) (by simpa using hj) (by omega) (by simpa using hk) (by rwa [show k + (j + 1) = k + 1 + j by omega]))
        (fun i j te1 te2 hi hj hij hsi hsj => h2 (i + 1) (j + 1) te1 te2 (by simpa using hi) (by simpa using hj) (by omega) (by rwa [show k + (i + 1) = k + 1 + i by omega]) (by rwa [show k + (j + 1) = k + 1 + j by omega]))
      refine ⟨te.us :: ns, by rw [h3]; simp, fun x hx => ?_⟩
      rcases List.mem_cons.1 hx with rfl | hx
      · exact ⟨0, te, by simp, by simpa using hk, rfl⟩
      · obtain ⟨j, te', h5, h6, h7⟩ := h4 x hx
        exact ⟨j + 1, te', by simpa using h5, by rwa [show k + (j + 1) = k + 1 + j by omega], h7⟩
theorem preL_appsL {te : TE} : ∀ {l : List (List Upd)}, (∀ x ∈ l, x.all (Upd.leavesL te) = true) → ∀ st, PreL te (appsL l st) ↔ PreL te st
  | [], _, st => Iff.rfl
  | x :: l, h, st => by
    simp only [appsL]
    rw [preL_appsL (fun y hy => h y (by simp [hy])), preL_apps (h x (by simp))]
theorem preL_runS {te : TE} {S : Nat → Bool} : ∀ {l : List TE} {k : Nat}, (∀ (j : Nat) (te' : TE), l[j]? = some te' → S (k + j) = true → te'.us.all (Upd.leavesL te) = true) → ∀ st, PreL te (runS S k l st) ↔ PreL te st
  | [], _, _, st => Iff.rfl
  | t0 :: l, k, h, st => by
    simp only [runS]
    rw [preL_runS (fun j te' hj hs => h (j + 1) te' (by simpa using hj) (by rwa [show k + (j + 1) = k + 1 + j by omega]))]
    cases hk : S k with
    | true => simp only [cond_true]; exact preL_apps (h 0 t0 (by simp) (by simpa using hk)) st
    | false => exact Iff.rfl
theorem preN_runS {te : TE} {S : Nat → Bool} : ∀ {l : List TE} {k : Nat}, (∀ (j : Nat) (te' : TE), l[j]? = some te' → S (k + j) = true → te'.us.all (Upd.leavesN te) = true) → ∀ {st}, PreN te st → PreN te (runS S k l st)
  | [], _, _, st, hp => hp
  | t0 :: l, k, h, st, hp => by
    simp only [runS]
    refine preN_runS (fun j te' hj hs => h (j + 1) te' (by simpa using hj) (by rwa [show k + (j + 1) = k + 1 + j by omega])) ?_
    cases hk : S k with
    | true => exact preN_apps (h 0 t0 (by simp) (by simpa using hk)) hp
    | false => exact hp
theorem runS_take {S : Nat → Bool} : ∀ (l : List TE) (k m : Nat) (st : St), runS S k l st = runS S (k + m) (l.drop m) (runS S k (l.take m) st)
  | l, k, 0, st => by simp [runS]
  | [], k, m + 1, st => by simp [runS]
  | te :: l, k, m + 1, st => by
    simp only [List.take_succ_cons, List.drop_succ_cons, runS]
    rw [runS_take l (k + 1) m, show k + 1 + m = k + (m + 1) by omega]

/-! ### The theorem -/
/-- The operations that one waits for, as bits: told, and checked in one pass. -/
def upM (B : List Nat) (d : Nat) : List Edge → Nat
  | [] => 0
  | e :: r => (bif Region.binds .any e then (1 <<< e.on) ||| (bif Nat.blt e.on d then B.getD e.on 0 else 0) else 0) ||| upM B d r
def waitsB (ops : List Oper) (B : List Nat) : Nat → List Oper → Bool
  | _, [] => true
  | d, o :: l => (Nat.beq (B.getD d 0 ||| upM B d o.after.toList) (upM B d o.after.toList) && o.after.toList.all (fun e => !Region.binds .any e || Nat.blt e.on d)) && waitsB ops B (d + 1) l
def pairOK (B : List Nat) (i : Nat) (te : TE) (j : Nat) (te' : TE) : Bool :=   -- i before j in the text
  ((B.getD j 0).testBit i || (apartL te.us te'.us && apartL te'.us te.us && te.us.all (Upd.leavesL te') && te'.us.all (Upd.leavesL te) && te'.us.all (Upd.leavesN te))) && te.us.all (Upd.leavesN te')
def pairsR (B : List Nat) (i : Nat) (te : TE) : Nat → List TE → Bool
  | _, [] => true
  | j, te' :: l => pairOK B i te j te' && pairsR B i te (j + 1) l
def pairs (B : List Nat) : Nat → List TE → Bool
  | _, [] => true
  | i, te :: l => pairsR B i te (i + 1) l && pairs B (i + 1) l

theorem pairsR_get {B : List Nat} {i : Nat} {te : TE} : ∀ {l : List TE} {k : Nat}, pairsR B i te k l = true → ∀ (j : Nat) (te' : TE), l[j]? = some te' → pairOK B i te (k + j) te' = true
  | [], _, _, j, te', h => by simp at h
  | t0 :: l, k, h, j, te', hj => by
    simp only [pairsR, Bool.and_eq_true] at h
    cases j with
    | zero => simp at hj; subst hj; exact h.1
    | succ j =>
      have := pairsR_get h.2 j te' (by simpa using hj)
      rwa [show k + 1 + j = k + (j + 1) by omega] at this
theorem pairs_get {B : List Nat} : ∀ {l : List TE} {k : Nat}, pairs B k l = true → ∀ (i j : Nat) (te te' : TE), l[i]? = some te → l[j]? = some te' → i < j → pairOK B (k + i) te (k + j) te' = true
  | [], _, _, i, j, te, te', h, _, _ => by simp at h
  | t0 :: l, k, h, i, j, te, te', hi, hj, hij => by
    simp only [pairs, Bool.and_eq_true] at h
    cases i with
    | zero =>
      simp at hi
      subst hi
      obtain ⟨j, rfl⟩ : ∃ m, j = m + 1 := ⟨j - 1, by omega⟩
      have := pairsR_get h.1 j te' (by simpa using hj)
      rwa [show k + 1 + j = k + (j + 1) by omega] at this
    | succ i =>
      obtain ⟨j, rfl⟩ : ∃ m, j = m + 1 := ⟨j - 1, by omega⟩
      have := pairs_get h.2 i j te te' (by simpa using hi) (by simpa using hj) (by omega)
      rwa [show k + 1 + i = k + (i + 1) by omega, show k + 1 + j = k + (j + 1) by omega] at this

theorem upM_bit {B : List Nat} {d i : Nat} : ∀ {es : List Edge}, (upM B d es).testBit i = true → ∃ e ∈ es, Region.binds .any e = true ∧ (e.on = i ∨ (e.on < d ∧ (B.getD e.on 0).testBit i = true))
  | [], h => by simp [upM] at h
  | e :: r, h => by
    unfold upM at h
    rw [Nat.testBit_or, Bool.or_eq_true] at h
    rcases h with h | h
    · cases hb : Region.binds .any e with
      | false => rw [hb] at h; simp at h
      | true =>
        rw [hb] at h
        simp only [cond_true, Nat.testBit_or, Bool.or_eq_true] at h
        rcases h with h | h
        · rw [Nat.one_shiftLeft, Nat.testBit_two_pow] at h
          exact ⟨e, by simp, hb, .inl (by simpa using h)⟩
        · cases hl : Nat.blt e.on d with
          | false => rw [hl] at h; simp at h
          | true =>
            rw [hl] at h
            exact ⟨e, by simp, hb, .inr ⟨Nat.le_of_ble_eq_true hl, h⟩⟩
    · obtain ⟨e', h1, h2⟩ := upM_bit h
      exact ⟨e', by simp [h1], h2⟩
theorem waitsB_get {ops0 : List Oper} {B : List Nat} : ∀ {l : List Oper} {k : Nat}, waitsB ops0 B k l = true → ∀ (j : Nat) (o : Oper), l[j]? = some o → B.getD (k + j) 0 ||| upM B (k + j) o.after.toList = upM B (k + j) o.after.toList
  | [], _, _, j, o, h => by simp at h
  | o0 :: l, k, h, j, o, hj => by
    simp only [waitsB, Bool.and_eq_true] at h
    cases j with
    | zero => simp at hj; subst hj; exact (nbeq_iff _ _).1 h.1.1
    | succ j =>
      have := waitsB_get h.2 j o (by simpa using hj)
      rwa [show k + 1 + j = k + (j + 1) by omega] at this
theorem waitsB_back {ops0 : List Oper} {B : List Nat} : ∀ {l : List Oper} {k : Nat}, waitsB ops0 B k l = true → ∀ (j : Nat) (o : Oper), l[j]? = some o → ∀ e ∈ o.after.toList, Region.binds .any e = true → e.on < k + j
  | [], _, _, j, o, h => by simp at h
  | o0 :: l, k, h, j, o, hj => by
    simp only [waitsB, Bool.and_eq_true] at h
    cases j with
    | zero =>
      simp at hj
      subst hj
      intro e he hb
      have := List.all_eq_true.1 h.1.2 e he
      rw [hb, Bool.not_true, Bool.false_or] at this
      exact Nat.le_of_ble_eq_true this
    | succ j =>
      have := waitsB_back h.2 j o (by simpa using hj)
      rwa [show k + 1 + j = k + (j + 1) by omega] at this

section
variable {c : Ctx} {ops : List Oper} {B : List Nat} {tr : List TE} {S : Nat → Bool}

/-- What is listed is closed: whoever is listed has what it waits for listed. -/
theorem closed_bit (hB : waitsB ops B 0 ops = true) (hS : ∀ (j : Nat) (o : Oper), ops[j]? = some o → S j = true → ∀ e ∈ o.after.toList, Region.binds .any e = true → S e.on = true) :
    ∀ (j i : Nat), j < ops.length → S j = true → (B.getD j 0).testBit i = true → S i = true := by
  intro j
  induction j using Nat.strongRecOn with
  | _ j ih =>
    intro i hj hs hb
    have h1 := waitsB_get hB j ops[j] (List.getElem?_eq_getElem hj)
    rw [Nat.zero_add] at h1
    have h2 : (upM B j (ops[j]).after.toList).testBit i = true := by rw [← h1, Nat.testBit_or, hb, Bool.true_or]
    obtain ⟨e, he, hbd, h3⟩ := upM_bit h2
    have h4 := hS j _ (List.getElem?_eq_getElem hj) hs e he hbd
    rcases h3 with rfl | ⟨h5, h6⟩
    · exact h4
    · exact ih e.on h5 i (by omega) h4 h6
/-- What can come up next waits for nothing that is not listed. -/
theorem ready_bit (hB : waitsB ops B 0 ops = true) (hS : ∀ (j : Nat) (o : Oper), ops[j]? = some o → S j = true → ∀ e ∈ o.after.toList, Region.binds .any e = true → S e.on = true) {i : Nat} {oi : Oper} (hi : ops[i]? = some oi)
    (hr : ∀ e ∈ oi.after.toList, Region.binds .any e = true → S e.on = true) (j : Nat) (hb : (B.getD i 0).testBit j = true) : S j = true := by
  have h1 := waitsB_get hB i oi hi
  rw [Nat.zero_add] at h1
  have h2 : (upM B i oi.after.toList).testBit j = true := by rw [← h1, Nat.testBit_or, hb, Bool.true_or]
  obtain ⟨e, he, hbd, h3⟩ := upM_bit h2
  have h4 := hr e he hbd
  rcases h3 with rfl | ⟨h5, h6⟩
  · exact h4
  · exact closed_bit hB hS e.on j (by have := (List.getElem?_eq_some_iff.1 hi).1; omega) h4 h6

def PreAll : List TE → St → Prop
  | [], _ => True
  | te :: l, st => PreL te st ∧ PreAll l (apps te.us st)
theorem preAll_get : ∀ {l : List TE} {st : St} {k : Nat}, PreAll l st → ∀ (i : Nat) (te : TE), l[i]? = some te → PreL te (runS (fun _ => true) k (l.take i) st)
  | [], _, _, _, i, te, h => by simp at h
  | t0 :: l, st, k, h, i, te, hi => by
    cases i with
    | zero => simp at hi; subst hi; simpa [runS] using h.1
    | succ i => simpa [runS] using preAll_get (k := k + 1) h.2 i te (by simpa using hi)

/-- One operation out of the region, in a state in which all that it asks is given. -/
def GOp (c : Ctx) (ops : Array Oper) (i : Nat) (st st' : St) : Prop :=
  ∀ Φ a w, Rel c st Φ a w → ∀ (K' : Act → World → Prop) (Q : Exit → Act → World → Prop), (∀ Φ' a' w', Rel c st' Φ' a' w' → K' a' w') → wpOp c.P ops Q i K' a w

theorem zgp {opa : Array Oper} {i : Nat} {o : Oper} {st st' : St} (hi : opa[i]? = some o) (hg : o.guard = none) (h : AOp c o st fun s => s = st') : GOp c opa i st st' := by
  intro Φ a w hr K' Q hQ
  unfold wpOp
  rw [hi]
  simp only [Region.wanted, hg, if_true]
  exact .inl (h Φ a w hr K' Q fun s Φ' a' w' hr' hs => by subst hs; exact hQ Φ' a' w' hr')
theorem zgg {opa : Array Oper} {i t : Nat} {o : Oper} {st : St} {j tg : Nat} {want p : Bool} {v : V} (hi : opa[i]? = some o) (hg : o.guard = some (j, want)) (hj : (opa[j]?).bind (·.dst) = some tg) (hd : o.dst = some t) (ht : Nat.blt t c.N = true)
    (hp : ∀ Φ a w, Rel c st Φ a w → ((match a.tmps[tg]? with | some (.bool b) => some b | _ => none) == some want) = p)
    (h1 : p = true → AOp c o st fun s => s = st.put t v) : GOp c opa i st (st.put t (.cond p v)) := by
  intro Φ a w hr K' Q hQ
  unfold wpOp
  rw [hi]
  have hw : Region.wanted o (yielded opa a.tmps) = p := by
    rw [← hp Φ a w hr]
    simp only [Region.wanted, hg, yielded, hj, Option.bind_some]
    congr 1
  simp only [hw]
  cases p with
  | true =>
    rw [if_pos rfl]
    refine .inl (h1 rfl Φ a w hr K' Q ?_)
    rintro st' Φ' a' w' hr' rfl
    refine hQ Φ' a' w' ?_
    refine ⟨hr'.size, hr'.defers, fun s u hs => ?_, hr'.boxes, hr'.own, hr'.inj, hr'.toks, hr'.tinj, hr'.arr, hr'.ext, hr'.oldA, hr'.grow, hr'.fr⟩
    simp only [St.put] at hs
    cases hb : Nat.beq s t with
    | true =>
      rw [hb] at hs
      simp only [cond_true, Option.some.injEq] at hs
      subst hs
      rw [RV]
      exact ⟨fun _ => hr'.slots s v (by simp [St.put, hb]), fun e => by cases e⟩
    | false =>
      rw [hb] at hs
      exact hr'.slots s u (by simpa [St.put, hb] using hs)
  | false =>
    rw [if_neg (by simp), hd]
    exact hQ Φ _ w (hr.put (by rw [RV]; exact ⟨fun e => (by cases e), fun _ => rfl⟩) ht)

theorem getD_list (l : Array Bool) (j : Nat) (b : Bool) : l.getD j b = l.toList.getD j b := by simp [Array.getD_eq_getD_getElem?, List.getD_eq_getElem?_getD]

theorem any_runs {st0 : St} {Q : Exit → Act → World → Prop} (hB : waitsB ops B 0 ops = true) (hp : pairs B 0 tr = true) (hlen : tr.length = ops.length) (hpre : PreAll tr st0) (hN : ∀ te ∈ tr, PreN te st0)
    (hstep : ∀ (i : Nat) (te : TE), tr[i]? = some te → ∀ st, PreL te st → PreN te st → GOp c ops.toArray i st (apps te.us st))
    (hQ : ∀ Φ a w, Rel c (runS (fun _ => true) 0 tr st0) Φ a w → Q .normal a w) :
    ∀ (n : Nat) (listed : Array Bool), listed.size = ops.length →
      (∀ (j : Nat) (o : Oper), ops[j]? = some o → listed.getD j false = true → ∀ e ∈ o.after.toList, Region.binds .any e = true → listed.getD e.on false = true) →
      (listed.toList.filter (fun b => !b)).length = n →
      ∀ Φ a w, Rel c (runS (fun j => listed.getD j false) 0 tr st0) Φ a w → wpAny c.P .any ops.toArray Q n listed a w := by
  have hall : ∀ (listed : Array Bool), listed.size = ops.length → (∀ j, j < ops.length → listed.getD j false = true) → ∀ Φ a w, Rel c (runS (fun j => listed.getD j false) 0 tr st0) Φ a w → Q .normal a w := by
    intro listed hsz h Φ a w hr
    rw [runS_congr (S := fun j => listed.getD j false) (S' := fun _ => true) (fun j _ hj => h j (by omega))] at hr
    exact hQ Φ a w hr
  have hfull : ∀ (listed : Array Bool), listed.size = ops.length → Region.ready .any ops.toArray listed = [] → ∀ j, j < ops.length → listed.getD j false = true := by
    intro listed hsz hnil j
    induction j using Nat.strongRecOn with
    | _ j ih =>
      intro hj
      cases hl : listed.getD j false with
      | true => rfl
      | false =>
        exfalso
        have hmem : j ∈ Region.ready .any ops.toArray listed := by
          refine mem_ready.2 ⟨?_, ops[j], by simp [hj], fun e he hbe => ?_⟩
          · have : j < listed.size := by omega
            rw [Array.getD_eq_getD_getElem?, Array.getElem?_eq_getElem this] at hl ⊢
            simpa using hl
          · have := waitsB_back hB j ops[j] (List.getElem?_eq_getElem hj) e (by simpa using he) hbe
            exact ih e.on (by omega) (by omega)
        rw [hnil] at hmem
        cases hmem
  intro n
  induction n with
  | zero =>
    intro listed hsz hcl hn Φ a w hr
    have htrue : ∀ j, j < ops.length → listed.getD j false = true := by
      intro j hj
      have hj' : j < listed.size := by omega
      have := List.filter_eq_nil_iff.1 (List.eq_nil_of_length_eq_zero hn) listed[j] (by simp)
      rw [Array.getD_eq_getD_getElem?, Array.getElem?_eq_getElem hj']
      simpa using this
    refine ⟨?_, hall listed hsz htrue Φ a w hr⟩
    rw [List.eq_nil_iff_forall_not_mem]
    intro j hj
    obtain ⟨h1, o, ho, _⟩ := mem_ready.1 hj
    have hlt : j < ops.length := by simpa using (Array.getElem?_eq_some_iff.1 ho).1
    have h2 := htrue j hlt
    have hj' : j < listed.size := by omega
    rw [Array.getD_eq_getD_getElem?, Array.getElem?_eq_getElem hj'] at h1 h2
    simp at h1 h2
    rw [h1] at h2
    cases h2
  | succ n ih =>
    intro listed hsz hcl hn Φ a w hr
    refine ⟨fun hnil => hall listed hsz (hfull listed hsz hnil) Φ a w hr, fun i hi => ?_⟩
    obtain ⟨hi1, oi, hoi, hedge⟩ := mem_ready.1 hi
    have hlt : i < ops.length := by simpa using (Array.getElem?_eq_some_iff.1 hoi).1
    have hoi' : ops[i]? = some oi := by simpa using hoi
    have hi' : i < listed.size := by omega
    have hSi : listed.getD i false = false := by
      rw [Array.getD_eq_getD_getElem?, Array.getElem?_eq_getElem hi'] at hi1 ⊢
      simpa using hi1
    have hti : tr[i]? = some (tr[i]'(by omega)) := List.getElem?_eq_getElem (by omega)
    generalize tr[i]'(by omega) = te at hti
    -- what the table says of a pair
    have hbitl : ∀ j, listed.getD j false = true → j < ops.length → (B.getD j 0).testBit i = false := by
      intro j hj hjl
      cases hb : (B.getD j 0).testBit i with
      | false => rfl
      | true =>
        have := closed_bit (S := fun j => listed.getD j false) hB hcl j i hjl hj hb
        rw [this] at hSi
        cases hSi
    have hbitr : ∀ j, listed.getD j false = false → (B.getD i 0).testBit j = false := by
      intro j hj
      cases hb : (B.getD i 0).testBit j with
      | false => rfl
      | true =>
        have := ready_bit (S := fun j => listed.getD j false) hB hcl hoi' (fun e he hb => hedge e (by simpa using he) hb) j hb
        rw [this] at hj
        cases hj
    have hpair : ∀ (j k : Nat) (t1 t2 : TE), tr[j]? = some t1 → tr[k]? = some t2 → j < k → pairOK B j t1 k t2 = true := by
      intro j k t1 t2 h1 h2 h3
      have := pairs_get hp j k t1 t2 h1 h2 h3
      rwa [Nat.zero_add, Nat.zero_add] at this
    have hlow : ∀ (j : Nat) (t1 : TE), tr[j]? = some t1 → j < i → listed.getD j false = false → t1.us.all (Upd.leavesL te) = true := by
      intro j t1 h1 h2 h3
      have := hpair j i t1 te h1 hti h2
      simp only [pairOK, hbitr j h3, Bool.false_or, Bool.and_eq_true] at this
      exact this.1.1.1.2
    have hhigh : ∀ (j : Nat) (t1 : TE), tr[j]? = some t1 → i < j → listed.getD j false = true → apartL te.us t1.us = true ∧ t1.us.all (Upd.leavesL te) = true ∧ t1.us.all (Upd.leavesN te) = true := by
      intro j t1 h1 h2 h3
      have hjl : j < ops.length := by have := (List.getElem?_eq_some_iff.1 h1).1; omega
      have := hpair i j te t1 hti h1 h2
      simp only [pairOK, hbitl j h3 hjl, Bool.false_or, Bool.and_eq_true] at this
      exact ⟨this.1.1.1.1.1, this.1.1.2, this.1.2⟩
    have hL : PreL te (runS (fun j => listed.getD j false) 0 tr st0) := by
      have h0 := preAll_get (k := 0) hpre i te hti
      obtain ⟨ns, h1, h2⟩ := run_all (S := fun j => listed.getD j false) (tr.take i) 0 st0 [] st0 rfl (by simp) (by
        intro j k t1 t2 hj hk hjk hsj hsk
        rw [Nat.zero_add] at hsj hsk
        have hk' := (List.getElem?_eq_some_iff.1 hk).1
        rw [List.length_take] at hk'
        rw [List.getElem?_take_of_lt (by omega)] at hj hk
        have hbit : (B.getD k 0).testBit j = false := by
          cases hb : (B.getD k 0).testBit j with
          | false => rfl
          | true =>
            have := closed_bit (S := fun j => listed.getD j false) hB hcl k j (by omega) hsk hb
            rw [this] at hsj
            cases hsj
        have := hpair j k t1 t2 hj hk hjk
        simp only [pairOK, hbit, Bool.false_or, Bool.and_eq_true] at this
        exact this.1.1.1.1.2)
      rw [h1, List.nil_append] at h0
      rw [preL_appsL (fun x hx => by
        obtain ⟨j, t1, h3, h4, rfl⟩ := h2 x hx
        rw [Nat.zero_add] at h4
        have hj' := (List.getElem?_eq_some_iff.1 h3).1
        rw [List.length_take] at hj'
        rw [List.getElem?_take_of_lt (by omega)] at h3
        exact hlow j t1 h3 (by omega) h4)] at h0
      rw [runS_take tr 0 i, preL_runS (fun j t1 hj hs => by
        rw [List.getElem?_drop] at hj
        rw [Nat.zero_add] at hs
        rcases Nat.eq_zero_or_pos j with rfl | hp
        · rw [Nat.add_zero] at hs
          rw [hSi] at hs
          cases hs
        · exact (hhigh (i + j) t1 hj (by omega) hs).2.1)]
      exact h0
    have hNN : PreN te (runS (fun j => listed.getD j false) 0 tr st0) := by
      refine preN_runS (fun j t1 hj hs => ?_) (hN te (List.mem_of_getElem? hti))
      rw [Nat.zero_add] at hs
      rcases Nat.lt_trichotomy j i with h | rfl | h
      · have := hpair j i t1 te hj hti h
        simp only [pairOK, Bool.and_eq_true] at this
        exact this.2
      · rw [hSi] at hs
        cases hs
      · exact (hhigh j t1 hj h hs).2.2
    refine hstep i te hti _ hL hNN Φ a w hr _ Q fun Φ' a' w' hr' => ?_
    have hsz' : (listed.setIfInBounds i true).size = ops.length := by simpa using hsz
    have hget : ∀ j, (listed.setIfInBounds i true).getD j false = setS (fun j => listed.getD j false) i j := by
      intro j
      simp only [setS]
      cases hb : Nat.beq j i with
      | true =>
        rw [(nbeq_iff j i).1 hb]
        simp [Array.getD_eq_getD_getElem?, hi']
      | false =>
        have hne : i ≠ j := fun e => nbeq_false hb e.symm
        rw [Bool.false_or]
        exact getD_set_ne false hne
    refine ih (listed.setIfInBounds i true) hsz' ?_ ?_ Φ' a' w' ?_
    · intro j o ho hl e he hb
      rw [hget] at hl ⊢
      simp only [setS, Bool.or_eq_true] at hl ⊢
      rcases hl with hl | hl
      · obtain rfl := (nbeq_iff j i).1 hl
        rw [hoi'] at ho
        injection ho with ho
        subst ho
        exact .inr (hedge e (by simpa using he) hb)
      · exact .inr (hcl j o ho hl e he hb)
    · have hfil : ∀ (l : List Bool) (i : Nat) (h : i < l.length), l[i] = false → ((l.set i true).filter (fun b => !b)).length + 1 = (l.filter (fun b => !b)).length := by
        intro l
        induction l with
        | nil => intro i h; simp at h
        | cons b l ih =>
          intro i h he
          cases i with
          | zero => simp at he; subst he; simp
          | succ i =>
            have := ih i (by simpa using h) (by simpa using he)
            cases b <;> simp at this ⊢ <;> omega
      have hfalse : listed.toList[i]'(by simpa using hi') = false := by
        rw [Array.getD_eq_getD_getElem?, Array.getElem?_eq_getElem hi'] at hSi
        simpa using hSi
      have := hfil listed.toList i (by simpa using hi') hfalse
      rw [Array.toList_setIfInBounds]
      omega
    · have : (fun j => (listed.setIfInBounds i true).getD j false) = setS (fun j => listed.getD j false) i := funext hget
      rw [this, runS_add (Nat.zero_le _) (by rw [Nat.sub_zero]; exact hti) hSi (fun j t1 hj hlt' hs => by
        rw [Nat.zero_add] at hlt' hs
        exact (hhigh j t1 hj hlt' hs).1)]
      exact hr'

theorem awp_draw {st st0 : St} {id : Nat} {Q : Exit → St → Prop} (hm : c.P.follows .mixedOrders = true) (hle : Le c st st0) (B : List Nat) (tr : List TE) (hB : waitsB ops B 0 ops = true) (hp : pairs B 0 tr = true) (hlen : Nat.beq tr.length ops.length = true)
    (hpre : PreAll tr st0) (hN : ∀ te ∈ tr, PreN te st0)
    (hstep : ∀ (i : Nat) (te : TE), tr[i]? = some te → ∀ st, PreL te st → PreN te st → GOp c ops.toArray i st (apps te.us st))
    (hQ : Q .normal (runS (fun _ => true) 0 tr st0)) : AWP c (.region id ops.toArray true) st Q := by
  intro Φ a w hr
  obtain ⟨Φ0, hr0⟩ := hle Φ a w hr
  refine wp_region_any hm ?_
  have hlen' := (nbeq_iff _ _).1 hlen
  have hsz : ops.toArray.size = ops.length := by simp
  rw [hsz]
  refine any_runs hB hp hlen' hpre hN hstep (fun Φ' a' w' hr' => ⟨_, Φ', hr', hQ⟩) ops.length (Array.replicate ops.length false) (by simp) ?_ ?_ Φ0 a _ ?_
  · intro j o ho hl
    rw [Array.getD_eq_getD_getElem?, Array.getElem?_replicate] at hl
    split at hl <;> simp at hl
  · simp
  · rw [runS_none (fun j => by rw [Array.getD_eq_getD_getElem?, Array.getElem?_replicate]; split <;> rfl)]
    exact hr0.drew _
end
end Go.TQ
