/- One rule for each operation, over abstract states. Own work. -/
import Derived.Test.YtmfiplnojbjcbaaGreatAbsT
import Derived.Laws.StructEq
import Derived.Laws.MakeOwn
set_option linter.unusedVariables false
set_option linter.unusedSimpArgs false
namespace Go.TQ

/-! ### What is asked of the program's types -/
def shp (P : Program) (t : TypeId) : Option (Option Nat) :=
  match P.underlying t, P.info? t with
  | some (.struct _), some i => some (some i.size)
  | some (.array _ _), some i => some (some i.size)
  | some _, some i => if i.size = 1 then some none else none
  | _, _ => none
def slE (P : Program) (t : TypeId) : Option (TypeId × Nat) :=
  match P.underlying t with
  | some (.slice e) => (P.info? e).map fun i => (e, i.size)
  | _ => none
def fo (P : Program) (s f : Nat) : Option Nat :=
  match P.underlying s with
  | some (.struct fs) => match fs[f]? with
    | some fd => match P.info? fd.type with
      | some i => if i.size = 0 then none else some fd.offset
      | none => none
    | none => none
  | _ => none
def absZ : Value → Option C
  | .int k n => if k.min ≤ n ∧ n ≤ k.max then some (.dat (.int k n)) else none
  | .bool b => some (.dat (.bool b))
  | .string s => if s.size = 0 then some (.dat (.str s)) else none
  | .slice none 0 0 => some .nilsl
  | .pointer none => some .nilp
  | .nilFunc => some .any
  | .map none => some .any
  | _ => none
def absZs : List Value → Option (List C)
  | [] => some []
  | v :: vs => match absZ v, absZs vs with
    | some c, some cs => some (c :: cs)
    | _, _ => none
def zeroC (P : Program) (t : TypeId) : Option (List C) :=
  match P.info? t with
  | some i => match i.zero with
    | some z => absZs z.cells.toList
    | none => none
  | none => none

theorem absZ_ok {Φ : Cx} {v : Value} {x : C} (h : absZ v = some x) : RC Φ x v := by
  unfold absZ at h
  split at h <;> try (injection h with h; subst h)
  all_goals first
    | (split at h
       · injection h with h; subst h; rename_i hh; rw [RC, RD]; exact ⟨rfl, by first | exact hh | (rw [hh]; exact Nat.zero_le _)⟩
       · cases h)
    | (rw [RC, RD]; done)
    | (rw [RC]; done)
    | (rw [RC]; rfl)
    | (cases h)
theorem absZs_ok {Φ : Cx} : ∀ {vs : List Value} {cs : List C}, absZs vs = some cs → All2 (RC Φ) cs vs
  | [], cs, h => by simp [absZs] at h; subst h; trivial
  | v :: vs, cs, h => by
    unfold absZs at h
    split at h
    · rename_i x xs h1 h2
      injection h with h
      subst h
      exact ⟨absZ_ok h1, absZs_ok h2⟩
    · cases h

section
variable {P : Program} {w : World}
theorem shp_agg {t n : Nat} (h : shp P t = some (some n)) : (isAgg t).run P w = .ok true w ∧ (sizeOf t).run P w = .ok n w := by
  unfold shp at h
  split at h
  · rename_i i hu hi; injection h with h; injection h with h; subst h
    exact ⟨by simp [isAgg, run_underlying hu], by simp [sizeOf, typeInfo, hi]⟩
  · rename_i i hu hi; injection h with h; injection h with h; subst h
    exact ⟨by simp [isAgg, run_underlying hu], by simp [sizeOf, typeInfo, hi]⟩
  · split at h <;> cases h
  · cases h
theorem shp_one {t : Nat} (h : shp P t = some none) : (isAgg t).run P w = .ok false w ∧ (sizeOf t).run P w = .ok 1 w := by
  unfold shp at h
  split at h
  · cases h
  · cases h
  · rename_i d i h1 h2 hu hi
    split at h
    · rename_i hs
      refine ⟨?_, by simp [sizeOf, typeInfo, hi, hs]⟩
      cases d <;> first | (simp [isAgg, run_underlying hu]; done) | (exact absurd rfl (h1 _ _)) | (exact absurd rfl (h2 _ _ _)) | skip
      all_goals simp_all [isAgg, run_underlying hu]
    · cases h
  · cases h
theorem slE_ok {t e n : Nat} (h : slE P t = some (e, n)) : P.underlying t = some (.slice e) ∧ ∃ i, P.info? e = some i ∧ i.size = n := by
  unfold slE at h
  split at h
  · rename_i e' hu
    rw [Option.map_eq_some_iff] at h
    obtain ⟨i, hi, he⟩ := h
    simp only [Prod.mk.injEq] at he
    obtain ⟨rfl, rfl⟩ := he
    exact ⟨hu, i, hi, rfl⟩
  · cases h
theorem fo_ok {s f o : Nat} (h : fo P s f = some o) (a : Addr) : (Instr.fieldAt s (.pointer (some a)) f).run P w = .ok (.pointer (some (a.add o))) w := by
  unfold fo at h
  split at h
  · rename_i fs hu
    split at h
    · rename_i fd hf
      split at h
      · rename_i i hi
        split at h
        · cases h
        · rename_i hs
          injection h with h
          subst h
          simp [Instr.fieldAt, run_underlying hu, hf, Instr.sureAddr, fieldPlace, sizeOf, typeInfo, hi, hs]
      · cases h
    · cases h
  · cases h
theorem zeroC_ok {t : Nat} {cs : List C} (h : zeroC P t = some cs) : ∃ i z, P.info? t = some i ∧ i.zero = some z ∧ ∀ Φ, All2 (RC Φ) cs z.cells.toList := by
  unfold zeroC at h
  split at h
  · rename_i i hi
    split at h
    · rename_i z hz
      exact ⟨i, z, hi, hz, fun Φ => absZs_ok h⟩
    · cases h
  · cases h
end

/-! ### Readings of values -/
section
variable {Φ : Cx} {x : Value}
theorem rv_dat {d : Dat} (h : RV Φ (.one (.dat d)) x) : RD Φ.A d x := by rw [RV, RC] at h; exact h
theorem rv_int {k : IntKind} {n : Int} (h : RV Φ (.one (.dat (.int k n))) x) : x = .int k n ∧ InK k n := by rw [RV, RC, RD] at h; exact h
theorem rv_bool {b : Bool} (h : RV Φ (.one (.dat (.bool b))) x) : x = .bool b := by rw [RV, RC, RD] at h; exact h
theorem rv_str {s : ByteArray} (h : RV Φ (.one (.dat (.str s))) x) : x = .string s ∧ s.size ≤ maxLen := by rw [RV, RC, RD] at h; exact h
theorem rv_sl {rows : List (List Dat)} (h : RV Φ (.one (.dat (.sl rows))) x) : ∃ a cap, x = .slice a rows.length cap ∧ rows.length ≤ cap ∧ cap ≤ maxLen ∧
      (rows = [] ∨ ∃ k b o vs, 0 < k ∧ Uni k rows ∧ a = some ⟨b, o, none⟩ ∧ Φ.A b = some vs ∧ RDss Φ.A rows (vs.drop o)) := by rw [RV, RC, RD] at h; exact h
theorem rv_ref {r : Ref} {off : Nat} (h : RV Φ (.one (.ref r off)) x) : x = .pointer (some ⟨Φ.μ r, off, none⟩) := by rw [RV, RC] at h; exact h
theorem rv_imm {ds : List Dat} (h : RV Φ (.one (.imm ds)) x) : ∃ b o vs, x = .pointer (some ⟨b, o, none⟩) ∧ Φ.A b = some vs ∧ RDs Φ.A ds (vs.drop o) := by rw [RV, RC] at h; exact h
theorem rv_mk_int {k : IntKind} {n : Int} (h : InK k n) : RV Φ (.one (.dat (.int k n))) (.int k n) := by rw [RV, RC, RD]; exact ⟨rfl, h⟩
theorem rv_mk_bool {b : Bool} : RV Φ (.one (.dat (.bool b))) (.bool b) := by rw [RV, RC, RD]
end

section
variable {c : Ctx} {st : St} {K : St → Prop} {t ty : Nat} {pos : String} {af : Array Edge} {gd : Option (Nat × Bool)}

theorem aop_pure {o : Oper} {v : V} (hd : o.dst = some t) (ht : Nat.blt t c.N = true)
    (hx : ∀ Φ a w, Rel c st Φ a w → ∃ x, (execOp a.eval o).run c.P w = .ok (.value x) w ∧ RV Φ v x) (hK : K (st.put t v)) : AOp c o st K := by
  intro Φ a w hr K' Q hQ
  obtain ⟨x, h1, h2⟩ := hx Φ a w hr
  unfold Oper.wp
  rw [h1, Oper.upon_value, hd]
  exact hQ _ Φ _ w (hr.put h2 ht) hK
theorem aop_world {o : Oper} {st1 : St} {v : V} (hd : o.dst = some t) (ht : Nat.blt t c.N = true)
    (hx : ∀ Φ a w, Rel c st Φ a w → ∃ Φ' w' x, (execOp a.eval o).run c.P w = .ok (.value x) w' ∧ Rel c st1 Φ' a w' ∧ RV Φ' v x) (hK : K (st1.put t v)) : AOp c o st K := by
  intro Φ a w hr K' Q hQ
  obtain ⟨Φ', w', x, h1, h2, h3⟩ := hx Φ a w hr
  unfold Oper.wp
  rw [h1, Oper.upon_value, hd]
  exact hQ _ Φ' _ w' (h2.put h3 ht) hK
theorem aop_skip {o : Oper} {st1 : St} (hd : o.dst = none)
    (hx : ∀ Φ a w, Rel c st Φ a w → ∃ Φ' w', (execOp a.eval o).run c.P w = .ok .skip w' ∧ Rel c st1 Φ' a w') (hK : K st1) : AOp c o st K := by
  intro Φ a w hr K' Q hQ
  obtain ⟨Φ', w', h1, h2⟩ := hx Φ a w hr
  unfold Oper.wp
  rw [h1, Oper.upon_skip, hd]
  exact hQ _ Φ' _ w' h2 hK

theorem zmv {x : Operand} {v : V} (hx : Has c st x v) (ht : Nat.blt t c.N = true) (hK : K (st.put t v)) : AOp c ⟨some t, .move x, ty, pos, af, gd⟩ st K :=
  aop_pure rfl ht (fun Φ a w hr => ⟨a.eval x, by simp [execOp], hx Φ a w hr⟩) hK
theorem zas {x : Operand} {v : V} (hx : Has c st x v) (ht : Nat.blt t c.N = true) (hK : K (st.put t v)) : AOp c ⟨some t, .assign x, ty, pos, af, gd⟩ st K :=
  aop_pure rfl ht (fun Φ a w hr => ⟨a.eval x, by simp [execOp], hx Φ a w hr⟩) hK
theorem op_pick {x y z : Operand} {p : Bool} {v : V} (hx : Has c st x (.one (.dat (.bool p)))) (hy : p = true → Has c st y v) (hz : p = false → Has c st z v) (ht : Nat.blt t c.N = true) (hK : K (st.put t v)) :
    AOp c ⟨some t, .pick x y z, ty, pos, af, gd⟩ st K :=
  aop_pure rfl ht (fun Φ a w hr => by
    have h := rv_bool (hx Φ a w hr)
    cases p with
    | true => exact ⟨a.eval y, by simp [execOp, h, asBool], hy rfl Φ a w hr⟩
    | false => exact ⟨a.eval z, by simp [execOp, h, asBool], hz rfl Φ a w hr⟩) hK

/-- 'x && y', y evaluated only under x. -/
theorem has_and {y : Operand} {p b : Bool} (h : Has c st y (.cond p (.one (.dat (.bool b))))) (hp : p = true) : Has c st y (.one (.dat (.bool (p && b)))) := by
  subst hp
  simpa using zcd h rfl
theorem has_or {y : Operand} {p b : Bool} (h : Has c st y (.cond (!p) (.one (.dat (.bool b))))) (hp : p = false) : Has c st y (.one (.dat (.bool (p || b)))) := by
  subst hp
  simpa using zcd h rfl
theorem zan {x y z : Operand} {p b : Bool} (hx : Has c st x (.one (.dat (.bool p)))) (hy : Has c st y (.cond p (.one (.dat (.bool b))))) (hz : Has c st z (.one (.dat (.bool false))) ∨ Has c st z (.one (.dat (.bool p))))
    (ht : Nat.blt t c.N = true) (hK : K (st.put t (.one (.dat (.bool (p && b)))))) : AOp c ⟨some t, .pick x y z, ty, pos, af, gd⟩ st K :=
  op_pick hx (fun hp => has_and hy hp) (fun hp => by subst hp; exact hz.elim id id) ht hK
theorem zor {x y z : Operand} {p b : Bool} (hx : Has c st x (.one (.dat (.bool p)))) (hy : Has c st y (.one (.dat (.bool true))) ∨ Has c st y (.one (.dat (.bool p)))) (hz : Has c st z (.cond (!p) (.one (.dat (.bool b)))))
    (ht : Nat.blt t c.N = true) (hK : K (st.put t (.one (.dat (.bool (p || b)))))) : AOp c ⟨some t, .pick x y z, ty, pos, af, gd⟩ st K :=
  op_pick hx (fun hp => by subst hp; exact hy.elim id id) (fun hp => has_or hz hp) ht hK

theorem eqGuard_int {P : Program} {op : BinOp} {tx : TypeId} {x y : Operand} {k k' : IntKind} {i j : Int} {w : World} : (eqGuard op tx x y (.int k i) (.int k' j)).run P w = .ok () w := by
  unfold eqGuard
  split <;> simp
theorem eqGuard_str {P : Program} {op : BinOp} {tx : TypeId} {x y : Operand} {s u : ByteArray} {w : World} : (eqGuard op tx x y (.string s) (.string u)).run P w = .ok () w := by
  unfold eqGuard
  split <;> simp

def cmpI : BinOp → Int → Int → Option Bool
  | .eql, x, y => some (decide (x = y))
  | .neq, x, y => some (!decide (x = y))
  | .lss, x, y => some (decide (x < y))
  | .leq, x, y => some (decide (x ≤ y))
  | .gtr, x, y => some (decide (y < x))
  | .geq, x, y => some (decide (y ≤ x))
  | _, _, _ => none
theorem zcm {op : BinOp} {tx ty' : TypeId} {x y : Operand} {k : IntKind} {i j : Int} {b : Bool} (hx : Has c st x (.one (.dat (.int k i)))) (hy : Has c st y (.one (.dat (.int k j)))) (hb : cmpI op i j = some b)
    (ht : Nat.blt t c.N = true) (hK : K (st.put t (.one (.dat (.bool b))))) : AOp c ⟨some t, .binOp op tx x y ty', ty, pos, af, gd⟩ st K :=
  aop_pure rfl ht (fun Φ a w hr => by
    have h1 := (rv_int (hx Φ a w hr)).1
    have h2 := (rv_int (hy Φ a w hr)).1
    refine ⟨.bool b, ?_, rv_mk_bool⟩
    cases op <;> simp only [cmpI, Option.some.injEq] at hb <;> first | (cases hb; done) | skip
    all_goals (subst hb; simp [execOp, h1, h2, eqGuard_int, binOp, Op.intCmp])
    all_goals (first | rfl | (simp [bne]; done) | skip)) hK
def arI : BinOp → Int → Int → Option Int
  | .add, x, y => some (x + y)
  | .sub, x, y => some (x - y)
  | .mul, x, y => some (x * y)
  | _, _, _ => none
theorem wrap_in {k : IntKind} {n : Int} (h : InK k n) : k.wrap n = n := by
  obtain ⟨h1, h2⟩ := h
  cases k <;> simp [IntKind.min, IntKind.max, IntKind.signed, IntKind.bits] at h1 h2 <;> simp [IntKind.wrap, IntKind.signed, IntKind.bits] <;> omega
theorem zar {op : BinOp} {tx ty' : TypeId} {x y : Operand} {k : IntKind} {i j n : Int} (hx : Has c st x (.one (.dat (.int k i)))) (hy : Has c st y (.one (.dat (.int k j)))) (hn : arI op i j = some n) (hin : InK k n)
    (ht : Nat.blt t c.N = true) (hK : K (st.put t (.one (.dat (.int k n))))) : AOp c ⟨some t, .binOp op tx x y ty', ty, pos, af, gd⟩ st K :=
  aop_pure rfl ht (fun Φ a w hr => by
    have h1 := (rv_int (hx Φ a w hr)).1
    have h2 := (rv_int (hy Φ a w hr)).1
    refine ⟨.int k n, ?_, rv_mk_int hin⟩
    have hw := wrap_in hin
    cases op <;> simp only [arI, Option.some.injEq] at hn <;> first | (cases hn; done) | skip
    all_goals (subst hn; simp [execOp, h1, h2, eqGuard_int, binOp, Op.intArith, hw])) hK
theorem op_not {x : Operand} {b : Bool} {tx : TypeId} (hx : Has c st x (.one (.dat (.bool b)))) (ht : Nat.blt t c.N = true) (hK : K (st.put t (.one (.dat (.bool (!b)))))) :
    AOp c ⟨some t, .unOp .not tx x, ty, pos, af, gd⟩ st K :=
  aop_pure rfl ht (fun Φ a w hr => by
    have h1 := rv_bool (hx Φ a w hr)
    exact ⟨.bool (!b), by simp [execOp, h1, Op.unary], rv_mk_bool⟩) hK
end
end Go.TQ
