/- Regions that draw their order, step by step; allocations and appends where the name is fresh. Own work. -/
import Derived.Test.YtmfiplnojbjcbaaGreatAbsI
set_option linter.unusedVariables false
set_option linter.unusedSimpArgs false
namespace Go.TQ

theorem lsz {st : St} : LookS st [] := trivial
theorem lsc {st : St} {t : Nat} {v : V} {l : List (Nat × V)} (h : st.sl t = some v) (k : LookS st l) : LookS st ((t, v) :: l) := ⟨h, k⟩
theorem lbz {st : St} : LookB st [] := trivial
theorem lbc {st : St} {t : Ref} {v : List C} {l : List (Ref × List C)} (h : st.bx t = some v) (k : LookB st l) : LookB st ((t, v) :: l) := ⟨h, k⟩
theorem ltz {st : St} : LookT st [] := trivial
theorem ltc {st : St} {t : Nat} {v : Option (TypeId × Nat)} {l : List (Nat × Option (TypeId × Nat))} (h : st.tk t = v) (k : LookT st l) : LookT st ((t, v) :: l) := ⟨h, k⟩
theorem prel {st : St} {rs : List (Nat × V)} {rb : List (Ref × List C)} {rt : List (Nat × Option (TypeId × Nat))} {fr : List Ref} {ft : List Nat} {us : List Upd} (h : LookS st rs) (k : LookB st rb) (l : LookT st rt) : PreL ⟨rs, rb, rt, fr, ft, us⟩ st := ⟨h, k, l⟩
inductive Trace (c : Ctx) (ops : Array Oper) : Nat → St → St → List TE → Prop
  | nil {i : Nat} {st : St} : Trace c ops i st st []
  | cons {i : Nat} {st s1 : St} {trs : List TE} (te : TE) (hpre : PreL te st) (hstep : ∀ s, PreL te s → PreN te s → GOp c ops i s (apps te.us s)) (rest : Trace c ops (i + 1) (apps te.us st) s1 trs) : Trace c ops i st s1 (te :: trs)

theorem Trace.preAll {c : Ctx} {ops : Array Oper} {i : Nat} {st s1 : St} {tr : List TE} (h : Trace c ops i st s1 tr) : PreAll tr st := by
  induction h with
  | nil => trivial
  | cons te hpre hstep rest ih => exact ⟨hpre, ih⟩
theorem Trace.steps {c : Ctx} {ops : Array Oper} {i : Nat} {st s1 : St} {tr : List TE} (h : Trace c ops i st s1 tr) : ∀ (j : Nat) (te : TE), tr[j]? = some te → ∀ s, PreL te s → PreN te s → GOp c ops (i + j) s (apps te.us s) := by
  induction h with
  | nil => intro j te hj; simp at hj
  | cons te hpre hstep rest ih =>
    intro j te' hj
    cases j with
    | zero => simp at hj; subst hj; exact hstep
    | succ j =>
      have := ih j te' (by simpa using hj)
      rename_i i0 _ _ _
      rwa [show i0 + 1 + j = i0 + (j + 1) by omega] at this
theorem Trace.last {c : Ctx} {ops : Array Oper} {i : Nat} {st s1 : St} {tr : List TE} (h : Trace c ops i st s1 tr) : ∀ k, runS (fun _ => true) k tr st = s1 := by
  induction h with
  | nil => intro k; rfl
  | cons te hpre hstep rest ih => intro k; simp only [runS, cond_true]; exact ih (k + 1)

/-- Names that are to be fresh are struck first. -/
def strikeQ : List Nat → St → St
  | [], st => st
  | q :: qs, st => ((strikeQ qs st).mapC (C.unq q)).setT q none
def strikeR : List Ref → St → St
  | [], st => st
  | r :: rs, st => (strikeR rs st).mapC (C.scrub r)
def strike (rs : List Ref) (qs : List Nat) (st : St) : St := strikeR rs (strikeQ qs st)
theorem le_strikeQ {c : Ctx} {st : St} : ∀ (qs : List Nat), Le c st (strikeQ qs st)
  | [] => Le.refl c st
  | q :: qs => (le_strikeQ qs).trans fun Φ a w hr => ⟨_, hr.dropTok q (Φ.τ q)⟩
theorem le_strikeR {c : Ctx} {st : St} : ∀ (rs : List Ref), Le c st (strikeR rs st)
  | [] => Le.refl c st
  | r :: rs => (le_strikeR rs).trans fun Φ a w hr => by
    have hf : ∀ x v, RC Φ x v → RC Φ (C.scrub r x) v := by
      intro x v hx
      have h1 := RC_one hx
      cases x with
      | ref s o => cases hb : Ref.beq s r <;> simp only [C.scrub, hb, cond_true, cond_false] <;> first | exact hx | exact h1
      | bs s k o l => cases hb : Ref.beq s r <;> simp only [C.scrub, hb, cond_true, cond_false] <;> first | exact hx | exact h1
      | map s => cases hb : Ref.beq s r <;> simp only [C.scrub, hb, cond_true, cond_false] <;> first | exact hx | exact h1
      | fn f caps => cases hb : memR r caps <;> simp only [C.scrub, hb, cond_true, cond_false] <;> first | exact hx | exact h1
      | _ => exact hx
    exact ⟨Φ, hr.mapC hf (keepM_same (Grows.refl _) rfl fun m => rfl)⟩
theorem le_strike {c : Ctx} {st : St} (rs : List Ref) (qs : List Nat) : Le c st (strike rs qs st) := (le_strikeQ qs).trans (le_strikeR rs)

theorem allmap {p : C → Bool} {f : C → C} (hf : ∀ c, p c = true → p (f c) = true) : ∀ {cs : List C}, C.alls p cs = true → C.alls p (cs.map f) = true
  | [], _ => rfl
  | c :: cs, h => by
    simp only [C.alls, Bool.and_eq_true] at h
    simp only [List.map_cons, C.alls, hf c h.1, allmap hf h.2, Bool.and_self]
mutual
theorem allmapV {p : C → Bool} {f : C → C} (hf : ∀ c, p c = true → p (f c) = true) : ∀ (v : V), v.all p = true → (v.mapC f).all p = true
  | .one c, h => by rw [V.all] at h; rw [V.mapC, V.all]; exact hf c h
  | .agg cs, h => by rw [V.all] at h; rw [V.mapC, V.all]; exact allmap hf h
  | .aggd _, _ => by rw [V.mapC, V.all]
  | .tup vs, h => by rw [V.all] at h; rw [V.mapC, V.all]; exact allmapVs hf vs h
  | .cond _ v, h => by rw [V.all] at h; rw [V.mapC, V.all]; exact allmapV hf v h
theorem allmapVs {p : C → Bool} {f : C → C} (hf : ∀ c, p c = true → p (f c) = true) : ∀ (vs : List V), V.allL p vs = true → V.allL p (V.mapCs f vs) = true
  | [], _ => by rw [V.mapCs, V.allL]
  | v :: vs, h => by rw [V.allL, Bool.and_eq_true] at h; rw [V.mapCs, V.allL, allmapV hf v h.1, allmapVs hf vs h.2]; rfl
end
theorem noC_keep {p : C → Bool} {f : C → C} (hf : ∀ c, p c = true → p (f c) = true) {st : St} (h : NoC p st) : NoC p (st.mapC f) := by
  constructor
  · intro t v ht
    simp only [St.mapC, Option.map_eq_some_iff] at ht
    obtain ⟨u, hu, rfl⟩ := ht
    exact allmapV hf u (h.1 t u hu)
  · intro r cs hr
    simp only [St.mapC, Option.map_eq_some_iff] at hr
    obtain ⟨us, hu, rfl⟩ := hr
    exact allmap hf (h.2 r us hu)
theorem scrub_keepR {r s : Ref} (c : C) (h : c.noR s = true) : (c.scrub r).noR s = true := by
  cases c with
  | ref x o => cases hb : Ref.beq x r <;> simp_all [C.scrub, C.noR]
  | bs x k o l => cases hb : Ref.beq x r <;> simp_all [C.scrub, C.noR]
  | map x => cases hb : Ref.beq x r <;> simp_all [C.scrub, C.noR]
  | fn f caps => cases hb : memR r caps <;> simp_all [C.scrub, C.noR]
  | _ => exact h
theorem scrub_keepQ {r : Ref} {q : Nat} (c : C) (h : c.noQ q = true) : (c.scrub r).noQ q = true := by
  cases c with
  | ref x o => cases hb : Ref.beq x r <;> simp [C.scrub, C.noQ, hb]
  | bs x k o l => cases hb : Ref.beq x r <;> simp [C.scrub, C.noQ, hb]
  | map x => cases hb : Ref.beq x r <;> simp [C.scrub, C.noQ, hb]
  | fn f caps => cases hb : memR r caps <;> simp [C.scrub, C.noQ, hb]
  | _ => exact h
theorem unq_keepQ {p q : Nat} (c : C) (h : c.noQ q = true) : (c.unq p).noQ q = true := by
  cases c with
  | slt x rows => cases hb : Nat.beq x p <;> simp_all [C.unq, C.noQ]
  | mapc m =>
    simp only [C.unq, C.noQ, List.all_map, List.all_eq_true] at h ⊢
    intro x hx
    have := h x hx
    simp only [Function.comp, ME.noQ, ME.unq] at this ⊢
    cases ht : x.tok with
    | none => rfl
    | some y =>
      rw [ht] at this
      cases hb : Nat.beq y p <;> simp_all
  | _ => exact h
theorem strikeQ_Q {q : Nat} {st : St} : ∀ (qs : List Nat), q ∈ qs → NoC (C.noQ q) (strikeQ qs st)
  | [], h => by simp at h
  | p :: qs, h => by
    rcases List.mem_cons.1 h with rfl | h
    · exact noC_of_mapC (unq_noQ q) (strikeQ qs st)
    · exact noC_keep (f := C.unq p) (fun c hc => unq_keepQ c hc) (strikeQ_Q qs h)
theorem strikeR_Q {q : Nat} {st : St} (h : NoC (C.noQ q) st) : ∀ (rs : List Ref), NoC (C.noQ q) (strikeR rs st)
  | [] => h
  | r :: rs => noC_keep (f := C.scrub r) (fun c hc => scrub_keepQ c hc) (strikeR_Q h rs)
theorem strikeR_R {r : Ref} {st : St} : ∀ (rs : List Ref), r ∈ rs → NoC (C.noR r) (strikeR rs st)
  | [], h => by simp at h
  | s :: rs, h => by
    rcases List.mem_cons.1 h with rfl | h
    · exact noC_of_mapC (scrub_noR r) (strikeR rs st)
    · exact noC_keep (f := C.scrub s) (fun c hc => scrub_keepR c hc) (strikeR_R rs h)
theorem strike_Q {q : Nat} {st : St} (rs : List Ref) (qs : List Nat) (h : q ∈ qs) : NoC (C.noQ q) (strike rs qs st) := strikeR_Q (strikeQ_Q qs h) rs
theorem strike_R {r : Ref} {st : St} (rs : List Ref) (qs : List Nat) (h : r ∈ rs) : NoC (C.noR r) (strike rs qs st) := strikeR_R rs h

def subR : List Ref → List Ref → Bool
  | [], _ => true
  | r :: rs, l => memR r l && subR rs l
def subQ : List Nat → List Nat → Bool
  | [], _ => true
  | q :: qs, l => l.any (fun p => Nat.beq p q) && subQ qs l
def freshes : List TE → List Ref → List Nat → Bool
  | [], _, _ => true
  | te :: l, rs, qs => (subR te.fr rs && subQ te.ft qs) && freshes l rs qs
theorem freshes_ok {st : St} {rs : List Ref} {qs : List Nat} : ∀ {tr : List TE}, freshes tr rs qs = true → ∀ te ∈ tr, PreN te (strike rs qs st)
  | [], _, te, h => by simp at h
  | t0 :: tr, hf, te, h => by
    simp only [freshes, Bool.and_eq_true] at hf
    rcases List.mem_cons.1 h with rfl | h
    · constructor
      · have h1 := hf.1.1
        generalize te.fr = l at h1
        induction l with
        | nil => trivial
        | cons r l ih =>
          simp only [subR, Bool.and_eq_true] at h1
          exact ⟨strike_R rs qs ((memR_iff r rs).1 h1.1), ih h1.2⟩
      · have h1 := hf.1.2
        generalize te.ft = l at h1
        induction l with
        | nil => trivial
        | cons q l ih =>
          simp only [subQ, Bool.and_eq_true] at h1
          refine ⟨strike_Q rs qs ?_, ih h1.2⟩
          obtain ⟨p, hp, he⟩ := List.any_eq_true.1 h1.1
          rw [← (nbeq_iff p q).1 he]
          exact hp
    · exact freshes_ok hf.2 te h

theorem awp_drawT {c : Ctx} {ops : List Oper} {st s1 : St} {id : Nat} {Q : Exit → St → Prop} {tr : List TE} (hm : c.P.follows .mixedOrders = true) (rs : List Ref) (qs : List Nat) (B : List Nat) (hB : waitsB ops B 0 ops = true)
    (ht : Trace c ops.toArray 0 (strike rs qs st) s1 tr) (hp : pairs B 0 tr = true) (hlen : Nat.beq tr.length ops.length = true) (hN : freshes tr rs qs = true)
    (hQ : Q .normal s1) : AWP c (.region id ops.toArray true) st Q :=
  awp_draw hm (le_strike rs qs) B tr hB hp hlen ht.preAll (freshes_ok hN) (fun i te hi s h1 h2 => by have := ht.steps i te hi s h1 h2; rwa [Nat.zero_add] at this) (by rw [ht.last]; exact hQ)
theorem awp_seq_drawT {c : Ctx} {ops : List Oper} {st s1 : St} {id : Nat} {y : Code} {Q : Exit → St → Prop} {tr : List TE} (hm : c.P.follows .mixedOrders = true) (rs : List Ref) (qs : List Nat) (B : List Nat) (hB : waitsB ops B 0 ops = true)
    (ht : Trace c ops.toArray 0 (strike rs qs st) s1 tr) (hp : pairs B 0 tr = true) (hlen : Nat.beq tr.length ops.length = true) (hN : freshes tr rs qs = true)
    (hQ : AWP c y s1 Q) : AWP c (.seq (.region id ops.toArray true) y) st Q := zw2 (awp_drawT hm rs qs B hB ht hp hlen hN hQ)

section
variable {c : Ctx} {st : St} {K : St → Prop} {t ty : Nat} {pos : String} {af : Array Edge} {gd : Option (Nat × Bool)}
theorem op_allocF {te : Nat} {cs : List C} (hT : zeroC c.P te = some cs) (ht : Nat.blt t c.N = true) (hN : NoC (C.noR (.o t)) st) (hcs : C.alls (C.noR (.o t)) cs = true)
    (hK : K ((st.setB (.o t) cs).put t (.one (.ref (.o t) 0)))) : AOp c ⟨some t, .alloc te, ty, pos, af, gd⟩ st K :=
  zal hT ht (by rw [noC_mapC noR_scrub hN, alls_map noR_scrub hcs]; exact hK)

theorem Rel.forgetTok {Φ : Cx} {a : Act} {w : World} (h : Rel c st Φ a w) (q : Nat) : Rel c (st.setT q none) Φ a w := by
  refine ⟨h.size, h.defers, h.slots, h.boxes, h.own, h.inj, ?_, ?_, h.arr, h.ext, h.oldA, h.grow, h.fr⟩
  · intro p e k hp
    simp only [St.setT] at hp
    cases hb : Nat.beq p q with
    | true => rw [hb] at hp; cases hp
    | false => rw [hb] at hp; exact h.toks p e k hp
  · intro p p' x x' g hp hp'
    simp only [St.setT] at hp hp'
    cases hb : Nat.beq p q with
    | true => rw [hb] at hp; cases hp
    | false =>
      cases hb' : Nat.beq p' q with
      | true => rw [hb'] at hp'; cases hp'
      | false =>
        rw [hb] at hp
        rw [hb'] at hp'
        exact h.tinj p p' x x' g hp hp'
theorem setT_twice (st : St) (t : Nat) (x y : Option (TypeId × Nat)) : (st.setT t x).setT t y = st.setT t y := by
  cases st
  simp only [St.setT]
  congr 1
  funext s
  cases Nat.beq s t <;> rfl
/-- append where the new name is fresh, and another one than the old. -/
theorem op_appendF {s x : Operand} {tx e k b q : Nat} {vx : V} {rows rows2 : List (List Dat)} (hs : Has c st s (.one (.slt q rows))) (hq : st.tk q = some (e, k)) (hx : Has c st x vx) (hvx : slD vx = some rows2) (hT : apT c.P tx = some (e, k, b))
    (huni : Uni k (rows ++ rows2)) (hb : (rows.length + rows2.length) * b ≤ 140737488355328) (h63 : rows.length + rows2.length ≤ 9223372036854775807) (ht : Nat.blt t c.N = true) (hN : NoC (C.noQ t) st)
    (hK : K (((st.setT q none).setT t (some (e, k))).put t (.one (.slt t (rows ++ rows2))))) :
    AOp c ⟨some t, .call ⟨.builtin .append, #[s, x], #[tx, tx]⟩, ty, pos, af, gd⟩ st K :=
  aop_world rfl ht (fun Φ a w hr => by
    have hs' := hs Φ a w hr
    rw [RV, RC] at hs'
    obtain ⟨hrd, hτ⟩ := hs'
    obtain ⟨n, xs, hk, hown, hA⟩ := hr.toks q e k hq
    rw [← hτ] at hown hA
    have hsl : RV Φ (.one (.dat (.sl rows))) (a.eval s) := by rw [RV, RC]; exact hrd
    obtain ⟨ad, cap, he, hcap, hm, hrr⟩ := rv_sl hsl
    have hnr : n = rows.length ∧ RDs Φ.A rows.flatten xs := by
      rcases hown.2 with ⟨h1, h2⟩ | ⟨gg, cap', cur, h1, hbg, hh, hnc, hcm, hcs, htake⟩
      · rw [he] at h1
        injection h1 with h1 h3 h4
        have : rows = [] := List.eq_nil_of_length_eq_zero h3
        subst this
        exact ⟨by simp [h2], by simp [RDs]⟩
      · rw [he] at h1
        injection h1 with h1 h3 h4
        refine ⟨h3.symm, ?_⟩
        rcases hrr with rfl | ⟨k', bb, o, vs, hk', hun, had, hAb, hss⟩
        · simp [RDs]
        · rw [h1] at had
          injection had with had
          injection had with hb1 hb2
          subst hb1
          subst hb2
          have := hA gg (by rw [he, h1]; rfl)
          rw [hAb] at this
          injection this with this
          subst this
          rw [RDss_flat, List.drop_zero] at hss
          exact hss
    obtain ⟨Φ', w', v', h1, h2, h3⟩ := append_core (ty' := ty) (rows := rows) (hr.forgetTok q) hT hown hA hnr.1 hnr.2 (by
        intro p y g hp hg hv
        simp only [St.setT] at hp
        cases hb : Nat.beq p q with
        | true => rw [hb] at hp; cases hp
        | false =>
          rw [hb] at hp
          have : p = q := hr.tinj p q y (e, k) g hp hq hg (by rw [← hτ]; exact hv)
          subst this
          rw [Nat.beq_refl] at hb
          cases hb) (slD_ok hvx (hx Φ a w hr)) huni hb h63 t
    have hN' : NoC (C.noQ t) (st.setT q none) := hN
    rw [noC_mapC noQ_unq hN', setT_twice] at h2
    exact ⟨Φ', w', v', by simp [execOp, resolve, invoke, builtin, h1], h2, h3⟩) hK
theorem op_append_nilF {s x : Operand} {tx e k b : Nat} {vx : V} {rows2 : List (List Dat)} (hs : Has c st s (.one .nilsl)) (hx : Has c st x vx) (hvx : slD vx = some rows2) (hT : apT c.P tx = some (e, k, b))
    (huni : Uni k rows2) (hb : rows2.length * b ≤ 140737488355328) (h63 : rows2.length ≤ 9223372036854775807) (ht : Nat.blt t c.N = true) (hN : NoC (C.noQ t) st)
    (hK : K ((st.setT t (some (e, k))).put t (.one (.slt t rows2)))) : AOp c ⟨some t, .call ⟨.builtin .append, #[s, x], #[tx, tx]⟩, ty, pos, af, gd⟩ st K :=
  op_append_nil hs hx hvx hT huni hb h63 ht (by rw [noC_mapC noQ_unq hN, setT_twice]; exact hK)
end
end Go.TQ
