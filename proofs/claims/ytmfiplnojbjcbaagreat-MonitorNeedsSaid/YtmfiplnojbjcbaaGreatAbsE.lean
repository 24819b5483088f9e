/- Rules in the shapes that the printing program uses. Own work. -/
import Derived.Test.YtmfiplnojbjcbaaGreatAbsD
set_option linter.unusedVariables false
set_option linter.unusedSimpArgs false
namespace Go.TQ
section
variable {c : Ctx} {st : St} {K : St → Prop} {Q : Exit → St → Prop} {x y : Code} {id : Nat}
theorem ztr (h : Q .ret st) : thn K Q .ret st := h
theorem ztn (h : K st) : thn K Q .normal st := h
theorem zte (h : Q (.exit id) st) : thn K Q (.exit id) st := h
theorem blk_ret (h : Q .ret st) : blk id Q .ret st := h
theorem zbn (h : Q .normal st) : blk id Q .normal st := h
theorem zbk (h : Q .normal st) : blk id Q (.exit id) st := by simp only [blk, if_true]; exact h
theorem blk_other {i : Nat} (hi : Nat.beq i id = false) (h : Q (.exit i) st) : blk id Q (.exit i) st := by
  simp only [blk]
  rw [if_neg (nbeq_false hi)]
  exact h
theorem zsr {l : List Oper} (h : AOps c l.toArray l st fun s => AWP c y s Q) : AWP c (.seq (.region id l.toArray false) y) st Q := zw2 (awp_region h)
theorem zre {l : List Oper} (h : AOps c l.toArray l st fun s => Q .normal s) : AWP c (.region id l.toArray false) st Q := awp_region h
end

theorem zai {P : Program} {f : FuncId} {fn : Func} {code : Code} {args : List V} {bx : List (List C)} {Q : V → List (List C) → Prop} {N : Nat} {rs : List ResultVar}
    (hf : P.funcs[f]? = some fn) (hb : fn.body = some code) (hN : fn.ntmps = N) (hR : fn.results.toList = rs) (hname : (fn.name == "runtime.NumGoroutine") = false) (hn : Nat.ble args.length N = true)
    (h : ∀ w0 A0 X, AWP ⟨P, N, w0, A0, X⟩ code (St.init args bx) (Post P rs bx.length Q)) : ACalls P f args bx Q := by
  subst hN
  subst hR
  exact acalls_of hf hb hname hn h
theorem zpr {P : Program} {rs : List ResultVar} {m : Nat} {Q : V → List (List C) → Prop} {st : St} {d : V} (bx' : List (List C)) (h : Res P st rs d) (hl : bx'.length = m) (hb : BoxL st 0 bx') (hq : Q d.norm bx') : Post P rs m Q .ret st := ⟨d, bx', h, hl, hb, hq⟩
theorem post_normal {P : Program} {rs : List ResultVar} {m : Nat} {Q : V → List (List C) → Prop} {st : St} {d : V} (bx' : List (List C)) (h : Res P st rs d) (hl : bx'.length = m) (hb : BoxL st 0 bx') (hq : Q d.norm bx') : Post P rs m Q .normal st := ⟨d, bx', h, hl, hb, hq⟩

section
variable {c : Ctx} {st : St}
theorem hz : HasAll c st [] [] := trivial
theorem hc {x : Operand} {v : V} {xs : List Operand} {vs : List V} (h : Has c st x v) (t : HasAll c st xs vs) : HasAll c st (x :: xs) (v :: vs) := ⟨h, t⟩
theorem bz : BoxAll st [] [] := trivial
theorem bc {r : Ref} {b : List C} {rs : List Ref} {bs : List (List C)} (h : st.bx r = some b) (t : BoxAll st rs bs) : BoxAll st (r :: rs) (b :: bs) := ⟨h, t⟩
theorem pz : Parts c st [] [] := trivial
theorem pc {i : Nat} {x : Operand} {v : V} {us : List C} {ps : List (Nat × Operand)} {qs : List (Nat × List C)} (h : Has c st x v) (hv : v.cells = some us) (t : Parts c st ps qs) : Parts c st ((i, x) :: ps) ((i, us) :: qs) := ⟨rfl, ⟨v, h, hv⟩, t⟩
theorem lz : BoxL st 0 [] := trivial
theorem l1 {b : List C} (h : st.bx (.e 0) = some b) : BoxL st 0 [b] := ⟨h, trivial⟩
theorem l2 {b d : List C} (h : st.bx (.e 0) = some b) (k : st.bx (.e 1) = some d) : BoxL st 0 [b, d] := ⟨h, k, trivial⟩
end
theorem zrt {P : Program} {st : St} {t : Nat} {v : V} (h : st.sl t = some v) : ResIs P st (.tmp t) v := h
theorem ri_agg {P : Program} {st : St} {t ty n : Nat} {r : Ref} {cs : List C} (h1 : st.sl t = some (.one (.ref r 0))) (h2 : st.bx r = some cs) (hT : shp P ty = some (some n)) (hn : cs.length = n) (hmb : mapBox cs = false := by rfl) : ResIs P st (.cell t ty) (.agg cs) := ⟨r, cs, h1, h2, hmb, .inl ⟨by rw [hn]; exact hT, rfl⟩⟩
theorem ri_one {P : Program} {st : St} {t ty : Nat} {r : Ref} {x : C} (h1 : st.sl t = some (.one (.ref r 0))) (h2 : st.bx r = some [x]) (hT : shp P ty = some none) (hmb : mapBox [x] = false := by rfl) : ResIs P st (.cell t ty) (.one x) := ⟨r, [x], h1, h2, hmb, .inr ⟨hT, x, rfl, rfl⟩⟩
theorem res0 {P : Program} {st : St} : Res P st [] (.tup []) := ⟨[], trivial, rfl⟩
theorem res1 {P : Program} {st : St} {r : ResultVar} {v : V} (h : ResIs P st r v) : Res P st [r] v := h
theorem res2 {P : Program} {st : St} {r s : ResultVar} {v u : V} (h : ResIs P st r v) (k : ResIs P st s u) : Res P st [r, s] (.tup [v, u]) := ⟨[v, u], ⟨h, k, trivial⟩, rfl⟩
theorem res3 {P : Program} {st : St} {r s t : ResultVar} {v u x : V} (h : ResIs P st r v) (k : ResIs P st s u) (l : ResIs P st t x) : Res P st [r, s, t] (.tup [v, u, x]) := ⟨[v, u, x], ⟨h, k, l, trivial⟩, rfl⟩
theorem ink64 {n : Int} (h1 : -9223372036854775808 ≤ n) (h2 : n ≤ 9223372036854775807) : InK .i64 n := by
  unfold InK
  have e1 : IntKind.min .i64 = -9223372036854775808 := by decide
  have e2 : IntKind.max .i64 = 9223372036854775807 := by decide
  rw [e1, e2]
  exact ⟨h1, h2⟩
theorem ink64_out {n : Int} (h : InK .i64 n) : -9223372036854775808 ≤ n ∧ n ≤ 9223372036854775807 := by
  unfold InK at h
  have e1 : IntKind.min .i64 = -9223372036854775808 := by decide
  have e2 : IntKind.max .i64 = 9223372036854775807 := by decide
  rwa [e1, e2] at h
instance {k : IntKind} {n : Int} : Decidable (InK k n) := inferInstanceAs (Decidable (_ ∧ _))
theorem fact_int {c : Ctx} {st : St} {t : Nat} {k : IntKind} {n : Int} (h : st.sl t = some (.one (.dat (.int k n)))) : ∀ Φ a w, Rel c st Φ a w → InK k n := fun Φ a w hr => (rv_int (hr.slots t _ h)).2

/-- A state told outright. -/
def look (t : Nat) : List (Nat × V) → Option V
  | [] => none
  | (s, v) :: l => bif Nat.beq t s then some v else look t l
def lookR (r : Ref) : List (Ref × List C) → Option (List C)
  | [] => none
  | (s, v) :: l => bif Ref.beq r s then some v else lookR r l
def lookK (q : Nat) : List (Nat × (TypeId × Nat)) → Option (TypeId × Nat)
  | [] => none
  | (s, v) :: l => bif Nat.beq q s then some v else lookK q l
def St.of (ls : List (Nat × V)) (bs : List (Ref × List C)) (ts : List (Nat × (TypeId × Nat))) : St := ⟨fun t => look t ls, fun r => lookR r bs, fun q => lookK q ts⟩
def AllS (st : St) : List (Nat × V) → Prop
  | [] => True
  | (t, v) :: l => st.sl t = some v ∧ AllS st l
def AllB (st : St) : List (Ref × List C) → Prop
  | [] => True
  | (r, v) :: l => st.bx r = some v ∧ AllB st l
def AllK (st : St) : List (Nat × (TypeId × Nat)) → Prop
  | [] => True
  | (q, v) :: l => st.tk q = some v ∧ AllK st l
theorem sz {st : St} : AllS st [] := trivial
theorem sc {st : St} {t : Nat} {v : V} {l : List (Nat × V)} (h : st.sl t = some v) (k : AllS st l) : AllS st ((t, v) :: l) := ⟨h, k⟩
theorem xz {st : St} : AllB st [] := trivial
theorem xc {st : St} {t : Ref} {v : List C} {l : List (Ref × List C)} (h : st.bx t = some v) (k : AllB st l) : AllB st ((t, v) :: l) := ⟨h, k⟩
theorem kz {st : St} : AllK st [] := trivial
theorem kc {st : St} {t : Nat} {v : TypeId × Nat} {l : List (Nat × (TypeId × Nat))} (h : st.tk t = some v) (k : AllK st l) : AllK st ((t, v) :: l) := ⟨h, k⟩
theorem allS_get {st : St} : ∀ {l : List (Nat × V)}, AllS st l → ∀ t v, look t l = some v → st.sl t = some v
  | [], _, t, v, h => by simp [look] at h
  | (s, u) :: l, h, t, v, hl => by
    simp only [look] at hl
    cases hb : Nat.beq t s with
    | true =>
      rw [hb] at hl
      simp only [cond_true, Option.some.injEq] at hl
      rw [← hl, (nbeq_iff t s).1 hb]
      exact h.1
    | false =>
      rw [hb] at hl
      exact allS_get h.2 t v hl
theorem allB_get {st : St} : ∀ {l : List (Ref × List C)}, AllB st l → ∀ t v, lookR t l = some v → st.bx t = some v
  | [], _, t, v, h => by simp [lookR] at h
  | (s, u) :: l, h, t, v, hl => by
    simp only [lookR] at hl
    cases hb : Ref.beq t s with
    | true =>
      rw [hb] at hl
      simp only [cond_true, Option.some.injEq] at hl
      rw [← hl, (Ref.beq_iff t s).1 hb]
      exact h.1
    | false =>
      rw [hb] at hl
      exact allB_get h.2 t v hl
theorem allK_get {st : St} : ∀ {l : List (Nat × (TypeId × Nat))}, AllK st l → ∀ t v, lookK t l = some v → st.tk t = some v
  | [], _, t, v, h => by simp [lookK] at h
  | (s, u) :: l, h, t, v, hl => by
    simp only [lookK] at hl
    cases hb : Nat.beq t s with
    | true =>
      rw [hb] at hl
      simp only [cond_true, Option.some.injEq] at hl
      rw [← hl, (nbeq_iff t s).1 hb]
      exact h.1
    | false =>
      rw [hb] at hl
      exact allK_get h.2 t v hl
theorem le_of {c : Ctx} {st : St} {ls : List (Nat × V)} {bs : List (Ref × List C)} {ts : List (Nat × (TypeId × Nat))} (h1 : AllS st ls) (h2 : AllB st bs) (h3 : AllK st ts) : Le c st (St.of ls bs ts) := fun Φ a w hr =>
  ⟨Φ, hr.size, hr.defers, fun t v ht => hr.slots t v (allS_get h1 t v ht), fun r cs hb => hr.boxes r cs (allB_get h2 r cs hb), fun r cs hb => hr.own r cs (allB_get h2 r cs hb),
    fun r r' cs cs' hb hb' => hr.inj r r' cs cs' (allB_get h2 r cs hb) (allB_get h2 r' cs' hb'), fun q e k hq => hr.toks q e k (allK_get h3 q _ hq), fun q q' x x' g hq hq' => hr.tinj q q' x x' g (allK_get h3 q _ hq) (allK_get h3 q' _ hq'),
    hr.arr, hr.ext, hr.oldA, hr.grow, hr.fr⟩

/-- A nil slice taken for an owned one of no element. -/
theorem le_adopt {c : Ctx} {st : St} {t q e k : Nat} (hk : 0 < k) (h : st.sl t = some (.one .nilsl)) : Le c st (((((st.mapC (C.unq q)).setT q none).setT q (some (e, k))).put t (.one (.slt q [])))) := fun Φ a w hr => by
  have hd := hr.dropTok q (.slice none 0 0)
  have hs := hr.slots t _ h
  rw [RV, RC] at hs
  refine ⟨_, hd.size, hd.defers, ?_, hd.boxes, hd.own, hd.inj, ?_, ?_, hd.arr, hd.ext, hd.oldA, hd.grow, hd.fr⟩
  · intro s v hv
    simp only [St.put] at hv
    cases hb : Nat.beq s t with
    | true =>
      rw [hb] at hv
      simp only [cond_true, Option.some.injEq] at hv
      subst hv
      rw [(nbeq_iff s t).1 hb, hs, RV, RC]
      refine ⟨?_, by simp⟩
      rw [RD]
      exact ⟨none, 0, rfl, Nat.le_refl _, Nat.zero_le _, .inl rfl⟩
    | false =>
      rw [hb] at hv
      exact hd.slots s v hv
  · intro p e' k' hp
    simp only [St.put, St.setT] at hp
    cases hb : Nat.beq p q with
    | true =>
      rw [hb] at hp
      simp only [cond_true, Option.some.injEq, Prod.mk.injEq] at hp
      obtain ⟨rfl, rfl⟩ := hp
      simp only [hb, cond_true]
      exact ⟨0, [], hk, World.ownsRow_nil _ _ _ _, fun g hg => by simp [Value.ownBlock] at hg⟩
    | false =>
      rw [hb] at hp
      exact hd.toks p e' k' (by simpa [St.setT, hb] using hp)
  · intro p p' x x' g hp hp' h1 h2
    simp only [St.put, St.setT] at hp hp'
    cases hb : Nat.beq p q with
    | true =>
      simp only [hb, cond_true] at h1
      simp [Value.ownBlock] at h1
    | false =>
      cases hb' : Nat.beq p' q with
      | true =>
        simp only [hb', cond_true] at h2
        simp [Value.ownBlock] at h2
      | false =>
        rw [hb] at hp
        rw [hb'] at hp'
        exact hd.tinj p p' x x' g (by simpa [St.setT, hb] using hp) (by simpa [St.setT, hb'] using hp') h1 h2
end Go.TQ
