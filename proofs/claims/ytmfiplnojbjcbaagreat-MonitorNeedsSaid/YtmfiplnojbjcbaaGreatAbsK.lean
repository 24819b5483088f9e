/- Bits of unsigned numbers; maps. Own work. -/
import Derived.Test.YtmfiplnojbjcbaaGreatAbsJ
set_option linter.unusedVariables false
set_option linter.unusedSimpArgs false
namespace Go.TQ
section
variable {c : Ctx} {st : St} {K : St → Prop} {t ty : Nat} {pos : String} {af : Array Edge} {gd : Option (Nat × Bool)}

theorem inU_out {n : Int} (h : InK .u64 n) : 0 ≤ n ∧ n ≤ 18446744073709551615 := by
  simpa [InK, IntKind.min, IntKind.max, IntKind.signed, IntKind.bits] using h
theorem inU {n : Int} (h1 : 0 ≤ n) (h2 : n ≤ 18446744073709551615) : InK .u64 n := by
  simp [InK, IntKind.min, IntKind.max, IntKind.signed, IntKind.bits]; omega
theorem run_andU {P : Program} {w : World} {tx : TypeId} {x y : Nat} (hx : x < 18446744073709551616) (hy : y < 18446744073709551616) :
    (binOp .and tx (.int .u64 (x : Int)) (.int .u64 (y : Int))).run P w = .ok (.int .u64 ((x &&& y : Nat) : Int)) w := by
  have hx' : (BitVec.ofInt 64 (x : Int)) = BitVec.ofNat 64 x := by rw [BitVec.ofInt_natCast]
  have hy' : (BitVec.ofInt 64 (y : Int)) = BitVec.ofNat 64 y := by rw [BitVec.ofInt_natCast]
  have ex : (BitVec.ofNat 64 x).toNat = x := by rw [BitVec.toNat_ofNat]; exact Nat.mod_eq_of_lt (by omega)
  have ey : (BitVec.ofNat 64 y).toNat = y := by rw [BitVec.toNat_ofNat]; exact Nat.mod_eq_of_lt (by omega)
  have hle : x &&& y ≤ y := Nat.and_le_right
  have hw : IntKind.u64.wrap ((x &&& y : Nat) : Int) = ((x &&& y : Nat) : Int) := wrap_in (inU (by omega) (by omega))
  have e : (BitVec.ofNat 64 x &&& BitVec.ofNat 64 y).toNat = x &&& y := by rw [BitVec.toNat_and, ex, ey]
  simp only [binOp, Op.intBits, hx', hy', ne_eq, not_true_eq_false, if_false, Sem.run_pure]
  refine congrArg (fun m : Int => Result.ok (Value.int .u64 m) w) (Eq.trans (congrArg (fun m : Nat => IntKind.u64.wrap (m : Int)) ?_) hw)
  exact (by rw [← e]; rfl)
theorem op_andU {tx ty' : TypeId} {x y : Operand} {i j : Int} (hx : Has c st x (.one (.dat (.int .u64 i)))) (hy : Has c st y (.one (.dat (.int .u64 j)))) (h0 : 0 ≤ i) (h1 : 0 ≤ j)
    (ht : Nat.blt t c.N = true) (hK : K (st.put t (.one (.dat (.int .u64 ((i.toNat &&& j.toNat : Nat) : Int)))))) : AOp c ⟨some t, .binOp .and tx x y ty', ty, pos, af, gd⟩ st K := by
  intro Φ a w hr K' Q hQ
  have hi := inU_out (rv_int (hx Φ a w hr)).2
  have hj := inU_out (rv_int (hy Φ a w hr)).2
  refine aop_pure (v := .one (.dat (.int .u64 ((i.toNat &&& j.toNat : Nat) : Int)))) rfl ht (fun Φ a w hr => ?_) hK Φ a w hr K' Q hQ
  have e1 := (rv_int (hx Φ a w hr)).1
  have e2 := (rv_int (hy Φ a w hr)).1
  have hle : i.toNat &&& j.toNat ≤ j.toNat := Nat.and_le_right
  refine ⟨.int .u64 ((i.toNat &&& j.toNat : Nat) : Int), ?_, rv_mk_int (inU (by omega) (by omega))⟩
  have h3 := run_andU (P := c.P) (w := w) (tx := tx) (x := i.toNat) (y := j.toNat) (by omega) (by omega)
  rw [Int.toNat_of_nonneg h0, Int.toNat_of_nonneg h1] at h3
  simp only [execOp, e1, e2, Sem.run_bind, eqGuard_int, Result.andThen_ok, h3, Sem.run_pure]

/-! ### Maps -/
theorem op_makeMap {tx : TypeId} (ht : Nat.blt t c.N = true) (hK : K (((st.mapC (C.scrub (.o t))).setB (.o t) [.mapc []]).put t (.one (.map (.o t))))) : AOp c ⟨some t, .makeMap tx none, ty, pos, af, gd⟩ st K :=
  aop_world (st1 := (st.mapC (C.scrub (.o t))).setB (.o t) [.mapc []]) rfl ht (fun Φ a w hr => by
    have hr2 := (hr.allocd (.map #[] 0)).adopt (t := t) (b := w.heap.size) (cs := [.mapc []]) (heap_alloc_new _ _) (.inr ⟨[], #[], 0, rfl, rfl, ⟨trivial, rfl, fun i e h => by simp at h⟩⟩) (arr_none hr.arr) hr.fr.size (fun s us hs _ he => by
      obtain ⟨o, h1, _⟩ := hr.boxes s us hs
      have := lt_of_heap h1
      omega)
    refine ⟨_, _, .map (some w.heap.size), ?_, hr2, ?_⟩
    · simp [execOp, Instr.makeMap, newObj]
      rfl
    · rw [RV, RC]
      simp only [updR_same]) hK

/-- Where an entry stands: none where the keys are not told plainly; some none: nowhere. -/
def findM (ts : List TK) (ds : List Dat) : List ME → Nat → Option (Option Nat)
  | [], _ => some none
  | x :: m, i => match x.key with
    | .agg es => match eqDs ts ds es with
      | some true => some (some i)
      | some false => findM ts ds m (i + 1)
      | none => none
    | .one _ => none
def keyT (P : Program) (t : TypeId) : Option (TypeId × TypeId × List TK) :=
  match P.underlying t with
  | some (.map k e) => match flatS P k with
    | some ts => some (k, e, ts)
    | none => none
  | _ => none
theorem keyT_ok {P : Program} {t k e : TypeId} {ts : List TK} (h : keyT P t = some (k, e, ts)) : P.underlying t = some (.map k e) ∧ flatS P k = some ts := by
  unfold keyT at h
  split at h
  · rename_i k' e' hu
    split at h
    · rename_i ts' hf
      simp only [Option.some.injEq, Prod.mk.injEq] at h
      obtain ⟨rfl, rfl, rfl⟩ := h
      exact ⟨hu, hf⟩
    · cases h
  · cases h
theorem flatS_ok {P : Program} {k : TypeId} {ts : List TK} (h : flatS P k = some ts) : ∃ fs, P.underlying k = some (.struct fs) ∧ P.stoodInHeld k = false ∧ P.eqGuardType P.depth k = false ∧ flatT P 0 fs.toList = some ts := by
  unfold flatS at h
  split at h
  · rename_i fs hu
    split at h
    · rename_i hc
      exact ⟨fs, hu, hc.1, hc.2, h⟩
    · cases h
  · cases h
theorem eqDs_len {ts : List TK} : ∀ {ds es : List Dat} {b : Bool}, eqDs ts ds es = some b → ds.length = ts.length := by
  induction ts with
  | nil => intro ds es b h; cases ds <;> cases es <;> simp [eqDs] at h; rfl
  | cons x ts ih =>
    intro ds es b h
    cases ds with
    | nil => cases x <;> simp [eqDs] at h
    | cons d ds =>
      cases es with
      | nil => cases x <;> cases d <;> simp [eqDs] at h
      | cons e es =>
        cases x <;> cases d <;> cases e <;> simp only [eqDs] at h <;> try (cases h; done)
        · rename_i k n k' n'
          cases hk : decide (k = k') with
          | true =>
            rw [hk] at h
            simp only [cond_true, Option.map_eq_some_iff] at h
            obtain ⟨b', hb, _⟩ := h
            simp [ih hb]
          | false => rw [hk] at h; cases h
        all_goals
          simp only [Option.map_eq_some_iff] at h
          obtain ⟨b', hb, _⟩ := h
          simp [ih hb]
theorem flatT_len {P : Program} : ∀ {fs : List Field} {k : Nat} {ts : List TK}, flatT P k fs = some ts → fs.length = ts.length
  | [], k, ts, h => by simp [flatT] at h; subst h; rfl
  | f :: fs, k, ts, h => by
    simp only [flatT] at h
    split at h
    · split at h
      · rename_i x l hx hl
        injection h with h
        subst h
        simp [flatT_len hl]
      · cases h
    · cases h
theorem run_checkKey_flat {P : Program} {w : World} {k : TypeId} {ts : List TK} (hf : flatS P k = some ts) {xs : Array Value} (hx : xs.size = ts.length) (em : Bool) (n : Nat) : (Instr.checkKey em (n + 2) k (.agg xs)).run P w = .ok () w := by
  obtain ⟨fs, hu, _, _, hft⟩ := flatS_ok hf
  rw [Instr.checkKey]
  simp only [Sem.run_bind, run_underlying hu, Result.andThen_ok]
  rw [← Array.forIn_toList]
  have hl := flatT_len hft
  have each : ∀ f ∈ fs.toList, f.name ≠ "_" ∧ ∃ v, (part f.type xs f.offset).run P w = .ok v w ∧ (Instr.checkKey em (n + 1) f.type v).run P w = .ok () w := by
    have gen : ∀ (L : List Field) (j : Nat) (ts' : List TK), flatT P j L = some ts' → j + L.length ≤ xs.size → ∀ f ∈ L, f.name ≠ "_" ∧ ∃ v, (part f.type xs f.offset).run P w = .ok v w ∧ (Instr.checkKey em (n + 1) f.type v).run P w = .ok () w := by
      intro L
      induction L with
      | nil => intro j ts' _ _ f hf; simp at hf
      | cons g L ih =>
        intro j ts' h hle f hf
        simp only [flatT] at h
        split at h
        · rename_i hc
          split at h
          · rename_i x l hx' hl'
            rcases List.mem_cons.1 hf with rfl | hf
            · refine ⟨hc.2, ?_⟩
              simp only [List.length_cons] at hle
              have hlt : f.offset < xs.size := by have := hc.1; omega
              have hv : xs[f.offset]? = some xs[f.offset] := Array.getElem?_eq_getElem hlt
              refine ⟨xs[f.offset], ?_, ?_⟩
              · unfold tkOf at hx'
                cases hut : P.underlying f.type with
                | none => simp [hut] at hx'
                | some d => cases d <;> simp [hut] at hx' <;> simp [part, isAgg, run_underlying hut, hv]
              · unfold tkOf at hx'
                cases hut : P.underlying f.type with
                | none => simp [hut] at hx'
                | some d => cases d <;> simp [hut] at hx' <;> simp [Instr.checkKey, run_underlying hut]
            · exact ih (j + 1) l hl' (by simp only [List.length_cons] at hle; omega) f hf
          · cases h
        · cases h
    exact gen fs.toList 0 ts hft (by omega)
  generalize fs.toList = L at each
  induction L with
  | nil => simp
  | cons f L ih =>
    obtain ⟨hn, v, p1, p2⟩ := each f (by simp)
    simp only [List.forIn_cons, Sem.run_bind, hn, ne_eq, not_false_eq_true, if_true, Result.andThen_ok, p1, p2, Sem.run_pure]
    exact ih (fun y hy => each y (by simp [hy]))
theorem run_equal_flat {P : Program} {w : World} {A : Arr} {k : TypeId} {ts : List TK} (hf : flatS P k = some ts) {ds es : List Dat} {xs ys : List Value} {b : Bool} (he : eqDs ts ds es = some b) (h1 : All2 (RD A) ds xs) (h2 : All2 (RD A) es ys) :
    (Op.equal k (.agg xs.toArray) (.agg ys.toArray)).run P w = .ok b w := by
  obtain ⟨fs, hu, hc1, hc2, hft⟩ := flatS_ok hf
  have hfo : P.underlying k = some (.struct (P.fieldsOf k)) := by simp [Program.fieldsOf, hu]
  have hfo' : P.fieldsOf k = fs := by simp [Program.fieldsOf, hu]
  show (Op.equalIn 10000 k (.agg xs.toArray) (.agg ys.toArray)).run P w = .ok b w
  rw [run_equalIn_struct w 9999 k _ _ hfo hc1, hfo']
  exact eqFields_ok (A := A) (d := 9998) hft he (by simpa using h1) (by simpa using h2)
theorem run_findKey_flat {Φ : Cx} {P : Program} {w : World} {k : TypeId} {ts : List TK} (hf : flatS P k = some ts) {ds : List Dat} {xs : List Value} (hx : All2 (RD Φ.A) ds xs) : ∀ {m : List ME} {es : List MapEntry} {i : Nat} {r : Option Nat}, findM ts ds m i = some r → All2 (RE Φ) m es →
    (Instr.findAsking k (.agg xs.toArray) es i).run P w = .ok (r.bind fun j => (es[j - i]?).map fun e => (j, e.val)) w ∧ ∀ j, r = some j → i ≤ j ∧ j - i < m.length ∧ ∃ x es', m[j - i]? = some x ∧ x.key = .agg es' ∧ eqDs ts ds es' = some true
  | [], [], i, r, h, _ => by
    simp only [findM, Option.some.injEq] at h
    subst h
    exact ⟨by simp [Instr.findAsking], fun j hj => by cases hj⟩
  | x :: m, e :: es, i, r, h, he => by
    simp only [findM] at h
    split at h
    · rename_i es' hk
      have hrk := he.1.1
      rw [hk] at hrk
      obtain ⟨ys, hy, hys⟩ := hrk
      cases hq : eqDs ts ds es' with
      | none => rw [hq] at h; cases h
      | some b =>
        have heq := run_equal_flat (w := w) hf hq hx hys
        cases b with
        | true =>
          rw [hq] at h
          simp only [Option.some.injEq] at h
          subst h
          refine ⟨?_, fun j hj => by cases hj; exact ⟨Nat.le_refl _, by simp, x, es', by simp, hk, hq⟩⟩
          simp [Instr.findAsking, hy, heq]
        | false =>
          rw [hq] at h
          simp only at h
          obtain ⟨h1, h2⟩ := run_findKey_flat hf hx h he.2
          refine ⟨?_, fun j hj => ?_⟩
          · have : (Instr.findAsking k (.agg xs.toArray) (e :: es) i).run P w = (Instr.findAsking k (.agg xs.toArray) es (i + 1)).run P w := by
              simp [Instr.findAsking, hy, heq]
            rw [this, h1]
            cases r with
            | none => rfl
            | some j =>
              obtain ⟨hle, hlt, _⟩ := h2 j rfl
              simp only [Option.bind_some]
              have : j - i = (j - (i + 1)) + 1 := by omega
              rw [this, List.getElem?_cons_succ]
          · obtain ⟨hle, hlt, y, es'', hy1, hy2, hy3⟩ := h2 j hj
            have he' : j - i = (j - (i + 1)) + 1 := by omega
            exact ⟨by omega, by simp only [List.length_cons]; omega, y, es'', by rw [he', List.getElem?_cons_succ]; exact hy1, hy2, hy3⟩
    · cases h
  | [], _ :: _, _, _, _, he => he.elim
  | _ :: _, [], _, _, _, he => he.elim
theorem run_findKey_struct {P : Program} {w : World} {k : TypeId} {ts : List TK} (hf : flatS P k = some ts) (x : Value) (es : List MapEntry) : (Instr.findKey k x es).run P w = (Instr.findAsking k x es).run P w := by
  obtain ⟨fs, hu, _, _, _⟩ := flatS_ok hf
  cases es with
  | nil => simp [Instr.findKey, run_underlying hu, Instr.findNow, Instr.findAsking]
  | cons e es => simp [Instr.findKey, run_underlying hu, Instr.findNow, Instr.sameNow]

/-- What an entry holds, as a value. -/
def ME.v (x : ME) : C := match x.tok, x.val with
  | some q, .sl rows => .slt q rows
  | _, d => .dat d
theorem ME.v_ok {Φ : Cx} {x : ME} {e : MapEntry} (h : RE Φ x e) : RC Φ x.v e.val := by
  obtain ⟨k, tok, val⟩ := x
  cases tok with
  | none => exact h.2.1
  | some q =>
    cases val with
    | sl rows => exact ⟨h.2.1, h.2.2 q rfl⟩
    | int k n => exact h.2.1
    | bool b => exact h.2.1
    | str s => exact h.2.1

def zero1 (P : Program) (t : TypeId) : Option C := match P.info? t with
  | some i => match i.zero with
    | some v => absZ v
    | none => none
  | none => none
theorem zero1_ok {P : Program} {t : TypeId} {z : C} (h : zero1 P t = some z) : ∃ i v, P.info? t = some i ∧ i.zero = some v ∧ ∀ Φ, RC Φ z v := by
  unfold zero1 at h
  split at h
  · rename_i i hi
    split at h
    · rename_i v hv
      exact ⟨i, v, hi, hv, fun Φ => absZ_ok h⟩
    · cases h
  · cases h
/-- m[k], without ok. -/
theorem op_lookup {x y : Operand} {tx kt e : TypeId} {ts : List TK} {r : Ref} {m : List ME} {v : V} {ds : List Dat} {res : Option Nat} {z : C} (hx : Has c st x (.one (.map r))) (hb : st.bx r = some [.mapc m]) (hy : Has c st y v) (hv : v.norm = .aggd ds)
    (hT : keyT c.P tx = some (kt, e, ts)) (hz : zero1 c.P e = some z) (hl : ds.length = ts.length) (hf : findM ts ds m 0 = some res) (ht : Nat.blt t c.N = true)
    (hK : K (st.put t (.one (match res with
      | some j => (m[j]?.map ME.v).getD .any
      | none => z)))) : AOp c ⟨some t, .lookup tx x y false, ty, pos, af, gd⟩ st K :=
  aop_pure rfl ht (fun Φ a w hr => by
    obtain ⟨hu, hfl⟩ := keyT_ok hT
    have hx' := hx Φ a w hr
    rw [RV, RC] at hx'
    obtain ⟨o, hh, hbo⟩ := hr.boxes r _ hb
    obtain ⟨es, clock, rfl, hm⟩ := hbo.amap
    have hy' := has_norm hy Φ a w hr
    rw [hv, RV] at hy'
    obtain ⟨xs, hxe, hxs⟩ := hy'
    obtain ⟨h1, h2⟩ := run_findKey_flat (P := c.P) (w := w) hfl hxs hf hm.ents
    have hck := run_checkKey_flat (P := c.P) (w := w) hfl (xs := xs.toArray) (by rw [List.size_toArray, ← hxs.length, hl]) es.isEmpty 9998
    obtain ⟨i, zv, hi, hzv, hzall⟩ := zero1_ok hz
    cases res with
    | none =>
      refine ⟨zv, ?_, ?_⟩
      · simp [execOp, hx', hxe, Instr.lookup, run_underlying hu, MapKept.run_getObj_map hh, hck, run_findKey_struct hfl, h1, zeroValue, typeInfo, hi, hzv]
      · rw [RV]
        exact hzall Φ
    | some j =>
      obtain ⟨_, hlt, x0, es', hx0, _, _⟩ := h2 j rfl
      simp only [Nat.sub_zero] at hx0 hlt
      obtain ⟨e0, he0, hre⟩ := hm.ents.get j x0 hx0
      refine ⟨e0.val, ?_, ?_⟩
      · have he1 : es[j]? = some e0 := by simpa using he0
        simp [execOp, hx', hxe, Instr.lookup, run_underlying hu, MapKept.run_getObj_map hh, hck, run_findKey_struct hfl, h1, he1]
      · rw [RV]
        simp only [hx0, Option.map_some, Option.getD_some]
        exact ME.v_ok hre) hK
end
section
variable {c : Ctx} {st : St} {Φ : Cx} {a : Act} {w : World}
/-- What a box holds is replaced. -/
theorem Rel.writeObj (h : Rel c st Φ a w) {r : Ref} {cs cs' : List C} (hr : st.bx r = some cs) {o' : Obj} (h' : BoxOK Φ cs' o') :
    Rel c (st.setB r cs') Φ a { w with heap := w.heap.setIfInBounds (Φ.μ r) o' } := by
  obtain ⟨o, hh, hbo⟩ := h.boxes r cs hr
  obtain ⟨hA, hown⟩ := h.own r cs hr
  have hlt := lt_of_heap hh
  have same : (w.heap.setIfInBounds (Φ.μ r) o')[Φ.μ r]? = some o' := by simp [Array.getElem?_setIfInBounds, hlt]
  have other : ∀ k, k ≠ Φ.μ r → (w.heap.setIfInBounds (Φ.μ r) o')[k]? = w.heap[k]? := fun k hk => by rw [Array.getElem?_setIfInBounds, if_neg (Ne.symm hk)]
  refine ⟨h.size, h.defers, h.slots, ?_, ?_, ?_, ?_, h.tinj, ?_, h.ext, h.oldA, h.grow, ?_⟩
  · intro s us hs
    by_cases hsr : s = r
    · subst hsr
      simp only [St.setB, Ref.beq_self, cond_true, Option.some.injEq] at hs
      subst hs
      exact ⟨_, same, h'⟩
    · simp only [St.setB, Ref.beq_false hsr, cond_false] at hs
      obtain ⟨o, h1, h2⟩ := h.boxes s us hs
      refine ⟨o, ?_, h2⟩
      rw [show ({ w with heap := w.heap.setIfInBounds (Φ.μ r) o' } : World).heap = w.heap.setIfInBounds (Φ.μ r) o' from rfl, other _ (fun hm => hsr (h.inj s r us cs hs hr hm))]
      exact h1
  · intro s us hs
    by_cases hsr : s = r
    · subst hsr
      exact ⟨hA, hown⟩
    · simp only [St.setB, Ref.beq_false hsr, cond_false] at hs
      exact h.own s us hs
  · intro s s' us us' hs hs' hm
    have key : ∀ s us, (st.setB r cs').bx s = some us → ∃ ws, st.bx s = some ws := by
      intro s us hs
      by_cases hsr : s = r
      · subst hsr
        exact ⟨cs, hr⟩
      · simp only [St.setB, Ref.beq_false hsr, cond_false] at hs
        exact ⟨us, hs⟩
    obtain ⟨ws, hw⟩ := key s us hs
    obtain ⟨ws', hw'⟩ := key s' us' hs'
    exact h.inj s s' ws ws' hw hw' hm
  · intro q e' k hq
    obtain ⟨n, xs, hk, ho, hg⟩ := h.toks q e' k hq
    refine ⟨n, xs, hk, ho.kept (row := some (Φ.μ r)) ⟨rfl, rfl, rfl, by simp, fun j _ hj => other j (fun e => hj (by rw [e]))⟩ ?_, hg⟩
    cases hb : (Φ.τ q).ownBlock with
    | none => exact .inl rfl
    | some g =>
      refine .inr fun he => ?_
      injection he with he
      have := hg g hb
      rw [he, hA] at this
      cases this
  · intro b us hb
    obtain ⟨cur, e', fr, h1, h2⟩ := h.arr b us hb
    refine ⟨cur, e', fr, ?_, h2⟩
    rw [show ({ w with heap := w.heap.setIfInBounds (Φ.μ r) o' } : World).heap = w.heap.setIfInBounds (Φ.μ r) o' from rfl, other b (fun he => by rw [he, hA] at hb; cases hb)]
    exact h1
  · refine ⟨h.fr.os, h.fr.tape, h.fr.output, by simpa using h.fr.size, fun k hk hx => ?_⟩
    rw [show ({ w with heap := w.heap.setIfInBounds (Φ.μ r) o' } : World).heap = w.heap.setIfInBounds (Φ.μ r) o' from rfl, other k (fun he => ?_)]
    · exact h.fr.block k hk hx
    · rcases hown with ho | ho
      · omega
      · exact hx (he ▸ ho.1)
end
section
variable {c : Ctx} {st : St} {K : St → Prop} {t ty : Nat} {pos : String} {af : Array Edge} {gd : Option (Nat × Bool)}

theorem eqDs_eq {ts : List TK} : ∀ {ds es : List Dat}, eqDs ts ds es = some true → ds = es := by
  induction ts with
  | nil => intro ds es h; cases ds <;> cases es <;> simp [eqDs] at h; rfl
  | cons x ts ih =>
    intro ds es h
    cases ds with
    | nil => cases x <;> simp [eqDs] at h
    | cons d ds =>
      cases es with
      | nil => cases x <;> cases d <;> simp [eqDs] at h
      | cons e es =>
        cases x <;> cases d <;> cases e <;> simp only [eqDs] at h <;> try (cases h; done)
        · rename_i k n k' n'
          cases hk : decide (k = k') with
          | true =>
            rw [hk] at h
            simp only [cond_true, Option.map_eq_some_iff, Bool.and_eq_true, decide_eq_true_eq] at h
            obtain ⟨b', hb, hn, rfl⟩ := h
            rw [ih hb, hn, of_decide_eq_true hk]
          | false => rw [hk] at h; cases h
        all_goals
          simp only [Option.map_eq_some_iff, Bool.and_eq_true, decide_eq_true_eq] at h
          obtain ⟨b', hb, hn, rfl⟩ := h
          rw [ih hb, hn]
theorem bytes_beq_self (b : ByteArray) : (b == b) = true := by
  obtain ⟨d⟩ := b
  exact beq_self_eq_true d
theorem sameBits_flat {A : Arr} {n : Nat} : ∀ {ts : List TK} {ds es : List Dat} {xs ys : List Value}, eqDs ts ds es = some true → All2 (RD A) ds xs → All2 (RD A) es ys → xs = ys ∧ ((xs.zip xs).all fun p => Instr.sameBits (n + 1) p.1 p.2) = true := by
  intro ts
  induction ts with
  | nil =>
    intro ds es xs ys h h1 h2
    cases ds <;> cases es <;> simp [eqDs] at h
    cases xs <;> cases ys <;> first | exact h1.elim | exact h2.elim | simp
  | cons x ts ih =>
    intro ds es xs ys h h1 h2
    have he := eqDs_eq h
    subst he
    cases ds with
    | nil => cases x <;> simp [eqDs] at h
    | cons d ds =>
      cases xs with
      | nil => exact h1.elim
      | cons u xs =>
        cases ys with
        | nil => exact h2.elim
        | cons v ys =>
          have key : eqDs ts ds ds = some true ∧ u = v ∧ Instr.sameBits (n + 1) u u = true := by
            have r1 := h1.1
            have r2 := h2.1
            cases x <;> cases d <;> simp only [eqDs] at h <;> try (cases h; done)
            · rename_i k m
              simp only [decide_true, cond_true, Option.map_eq_some_iff, Bool.true_and] at h
              obtain ⟨b', hb, rfl⟩ := h
              rw [RD] at r1 r2
              exact ⟨hb, by rw [r1.1, r2.1], by rw [r1.1]; simp [Instr.sameBits]⟩
            · simp only [decide_true, Option.map_eq_some_iff, Bool.true_and] at h
              obtain ⟨b', hb, rfl⟩ := h
              rw [RD] at r1 r2
              refine ⟨hb, by rw [r1.1, r2.1], by rw [r1.1]; simp only [Instr.sameBits]; exact (bytes_beq_self _)⟩
            · simp only [decide_true, Option.map_eq_some_iff, Bool.true_and] at h
              obtain ⟨b', hb, rfl⟩ := h
              rw [RD] at r1 r2
              exact ⟨hb, by rw [r1, r2], by rw [r1]; simp [Instr.sameBits]⟩
          obtain ⟨h3, h4⟩ := ih key.1 h1.2 h2.2
          refine ⟨by rw [key.2.1, h3], ?_⟩
          simp only [List.zip_cons_cons, List.all_cons, key.2.2, Bool.true_and]
          exact h4
theorem run_keyStays {A : Arr} {P : Program} {w : World} {ts : List TK} {ds es : List Dat} {xs ys : List Value} (h : eqDs ts ds es = some true) (h1 : All2 (RD A) ds xs) (h2 : All2 (RD A) es ys) :
    (Instr.keyThatStays (.agg ys.toArray) (.agg xs.toArray)).run P w = .ok (.agg ys.toArray) w := by
  obtain ⟨he, hs⟩ := sameBits_flat (A := A) (n := 9998) h h1 h2
  subst he
  have : Instr.sameBits 10000 (.agg xs.toArray) (.agg xs.toArray) = true := by
    show (xs.toArray.size == xs.toArray.size && (xs.toArray.toList.zip xs.toArray.toList).all fun p => Instr.sameBits 9999 p.1 p.2) = true
    simpa using hs
  simp [Instr.keyThatStays, this]

/-- The entry of a key, which is laid if it is not there. -/
theorem op_mapEntry {x y : Operand} {tx kt e : TypeId} {ts : List TK} {r : Ref} {m : List ME} {v : V} {ds : List Dat} {res : Option Nat} {z : C} {zd : Dat} (hx : Has c st x (.one (.map r))) (hb : st.bx r = some [.mapc m]) (hy : Has c st y v) (hv : v.norm = .aggd ds)
    (hT : keyT c.P tx = some (kt, e, ts)) (hz : zero1 c.P e = some z) (hzd : z.norm = .dat zd) (hl : ds.length = ts.length) (hf : findM ts ds m 0 = some res) (hm63 : m.length ≤ 1000000000) (ht : Nat.blt t c.N = true)
    (hK1 : ∀ j, res = some j → K (st.put t (.tup [.one ((m[j]?.map ME.v).getD .any), .one (.dat (.int .i64 (j : Int)))])))
    (hK2 : res = none → K ((st.setB r [.mapc (m ++ [⟨.agg ds, none, zd⟩])]).put t (.tup [.one z, .one (.dat (.int .i64 (m.length : Int)))]))) : AOp c ⟨some t, .mapEntry tx x y, ty, pos, af, gd⟩ st K := by
  intro Φ a w hr K' Q hQ
  obtain ⟨hu, hfl⟩ := keyT_ok hT
  have hx' := hx Φ a w hr
  rw [RV, RC] at hx'
  obtain ⟨o, hh, hbo⟩ := hr.boxes r _ hb
  obtain ⟨es, clock, rfl, hm⟩ := hbo.amap
  have hy' := has_norm hy Φ a w hr
  rw [hv, RV] at hy'
  obtain ⟨xs, hxe, hxs⟩ := hy'
  obtain ⟨h1, h2⟩ := run_findKey_flat (P := c.P) (w := w) hfl hxs hf hm.ents
  have hck := run_checkKey_flat (P := c.P) (w := w) hfl (xs := xs.toArray) (by rw [List.size_toArray, ← hxs.length, hl]) false 9998
  obtain ⟨i, zv, hi, hzv, hzall⟩ := zero1_ok hz
  have hlen : m.length = es.size := by rw [hm.ents.length, Array.length_toList]
  unfold Oper.wp
  cases hres : res with
  | none =>
    subst hres
    have hrun : (execOp a.eval ⟨some t, .mapEntry tx x y, ty, pos, af, gd⟩).run c.P w = .ok (.value (.tuple #[zv, .int .i64 (clock : Int)])) { w with heap := w.heap.setIfInBounds (Φ.μ r) (.map (es.push ⟨.agg xs.toArray, zv, clock⟩) (clock + 1)) } := by
      simp [execOp, hx', hxe, Instr.mapEntry, run_underlying hu, MapKept.run_getObj_map hh, hck, run_findKey_struct hfl, h1, zeroValue, typeInfo, hi, hzv, MapKept.run_setObj_map _ hh, goInt]
    have hrz : RD Φ.A zd zv := by
      have := RC_norm (hzall Φ)
      rw [hzd] at this
      exact this
    have hrel := hr.writeObj hb (cs' := [.mapc (m ++ [⟨.agg ds, none, zd⟩])]) (o' := .map (es.push ⟨.agg xs.toArray, zv, clock⟩) (clock + 1)) (.inr ⟨_, _, _, rfl, rfl, by
      refine ⟨?_, by rw [List.length_append, hm.clock]; rfl, ?_⟩
      · rw [Array.toList_push]
        exact All2.append hm.ents ⟨⟨⟨xs, rfl, hxs⟩, hrz, fun q hq => by cases hq⟩, trivial⟩
      · intro j e0 he0
        rw [Array.getElem?_push] at he0
        split at he0
        · rename_i hj
          injection he0 with he0
          subst he0
          show clock = j
          rw [hm.clock, hlen, hj]
        · exact hm.born j e0 he0⟩)
    rw [hrun, Oper.upon_value]
    refine hQ _ _ _ _ (hrel.put (v := .tup [.one z, .one (.dat (.int .i64 (m.length : Int)))]) ?_ ht) (hK2 rfl)
    rw [RV]
    refine ⟨[zv, .int .i64 (clock : Int)], rfl, ?_⟩
    rw [RVs_All2]
    refine ⟨by rw [RV]; exact hzall Φ, ?_, trivial⟩
    rw [hm.clock]
    exact rv_mk_int (ink64 (by omega) (by omega))
  | some j =>
    subst hres
    obtain ⟨_, hlt, x0, es', hx0, hxk, heq⟩ := h2 j rfl
    simp only [Nat.sub_zero] at hx0 hlt
    obtain ⟨e0, he0, hre⟩ := hm.ents.get j x0 hx0
    have he1 : es[j]? = some e0 := by simpa using he0
    have hk0 := hre.1
    rw [hxk] at hk0
    obtain ⟨ys, hye, hys⟩ := hk0
    have hstay := run_keyStays (P := c.P) (w := w) heq hxs hys
    have hjlt : j < es.size := by omega
    have hsame : es.modify j (fun e => { e with key := e0.key }) = es := by
      apply Array.ext
      · simp
      · intro q h3 h4
        rw [Array.getElem_modify]
        split
        · rename_i hq
          subst hq
          have : es[j] = e0 := by
            have := Array.getElem?_eq_getElem hjlt
            rw [he1] at this
            injection this with this
            exact this.symm
          rw [this]
        · rfl
    have hheap : w.heap.setIfInBounds (Φ.μ r) (.map es clock) = w.heap := by
      apply Array.ext
      · simp
      · intro q h3 h4
        rw [Array.getElem_setIfInBounds]
        split
        · rename_i hq
          subst hq
          have := Array.getElem?_eq_getElem h4
          rw [hh] at this
          injection this
        · rfl
    have hrun : (execOp a.eval ⟨some t, .mapEntry tx x y, ty, pos, af, gd⟩).run c.P w = .ok (.value (.tuple #[e0.val, .int .i64 (e0.born : Int)])) w := by
      rw [hye] at hsame
      simp [execOp, hx', hxe, Instr.mapEntry, run_underlying hu, MapKept.run_getObj_map hh, hck, run_findKey_struct hfl, h1, he1, hye, hstay, MapKept.run_setObj_map _ hh, goInt, hsame, hheap]
    rw [hrun, Oper.upon_value]
    refine hQ _ _ _ _ (hr.put (v := .tup [.one ((m[j]?.map ME.v).getD .any), .one (.dat (.int .i64 (j : Int)))]) ?_ ht) (hK1 j rfl)
    rw [RV]
    refine ⟨[e0.val, .int .i64 (e0.born : Int)], rfl, ?_⟩
    rw [RVs_All2]
    refine ⟨?_, ?_, trivial⟩
    · rw [RV]
      simp only [hx0, Option.map_some, Option.getD_some]
      exact ME.v_ok hre
    · rw [hm.born j e0 he1]
      exact rv_mk_int (ink64 (by omega) (by omega))

def meOf : C → Option (Option Nat × Dat)
  | .dat d => some (none, d)
  | .slt q rows => some (some q, .sl rows)
  | .nilsl => some (none, .sl [])
  | _ => none
theorem meOf_ok {Φ : Cx} {x : C} {p : Option Nat × Dat} {v : Value} (h : meOf x = some p) (hx : RC Φ x v) : RD Φ.A p.2 v ∧ ∀ q, p.1 = some q → v = Φ.τ q := by
  cases x <;> simp only [meOf, Option.some.injEq] at h <;> try (cases h; done)
  · subst h; exact ⟨hx, fun q hq => by cases hq⟩
  · subst h
    exact ⟨RC_norm (c := .nilsl) hx, fun q hq => by cases hq⟩
  · subst h
    exact ⟨hx.1, fun q hq => by cases hq; exact hx.2⟩
/-- What an entry holds is replaced. -/
theorem op_entryStore {x s y : Operand} {tx : TypeId} {r : Ref} {m : List ME} {u : C} {p : Option Nat × Dat} {j : Nat} {k : IntKind} (hx : Has c st x (.one (.map r))) (hb : st.bx r = some [.mapc m]) (hs : Has c st s (.one (.dat (.int k (j : Int))))) (hj : j < m.length)
    (hy : Has c st y (.one u)) (hp : meOf u = some p) (hK : K (st.setB r [.mapc (m.modify j fun e => { e with tok := p.1, val := p.2 })])) : AOp c ⟨none, .entryStore tx x s y, ty, pos, af, gd⟩ st K :=
  aop_skip rfl (fun Φ a w hr => by
    have hx' := hx Φ a w hr
    rw [RV, RC] at hx'
    have hs' := (rv_int (hs Φ a w hr)).1
    have hy' := hy Φ a w hr
    rw [RV] at hy'
    obtain ⟨h1, h2⟩ := meOf_ok hp hy'
    obtain ⟨o, hh, hbo⟩ := hr.boxes r _ hb
    obtain ⟨es, clock, rfl, hm⟩ := hbo.amap
    have hlen : m.length = es.size := by rw [hm.ents.length, Array.length_toList]
    have hjl : j < es.size := by omega
    have hfind : es.findIdx? (fun e => (e.born : Int) == (j : Int)) = some j := by
      rw [Array.findIdx?_eq_some_iff_getElem]
      refine ⟨hjl, ?_, fun q hq => ?_⟩
      · have := hm.born j es[j] (Array.getElem?_eq_getElem hjl)
        simp [this]
      · have := hm.born q es[q] (Array.getElem?_eq_getElem (by omega))
        simp [this]
        omega
    refine ⟨Φ, _, ?_, hr.writeObj hb (cs' := [.mapc (m.modify j fun e => { e with tok := p.1, val := p.2 })]) (o' := .map (es.modify j fun e => { e with val := a.eval y }) clock) (.inr ⟨_, _, _, rfl, rfl, ?_⟩)⟩
    · simp [execOp, hx', hs', Instr.entryStore, MapKept.run_getObj_map hh, asInt, asIntOf, hfind, MapKept.run_setObj_map _ hh]
    · refine ⟨All2.of_get (by simp [hlen]) fun q e0 e1 he0 he1 => ?_, by rw [List.length_modify]; exact hm.clock, fun q e0 he0 => ?_⟩
      · rw [List.getElem?_modify] at he0
        rw [Array.toList_modify, List.getElem?_modify] at he1
        simp only [Option.map_eq_map, Option.map_eq_some_iff] at he0 he1
        obtain ⟨f0, hf0, rfl⟩ := he0
        obtain ⟨f1, hf1, rfl⟩ := he1
        have := hm.ents.get2 hf0 hf1
        by_cases hq : j = q
        · simp only [hq, if_true]
          exact ⟨this.1, h1, h2⟩
        · simp only [hq, if_false]
          exact this
      · rw [Array.getElem?_modify] at he0
        split at he0
        · rename_i hq
          subst hq
          simp only [Option.map_eq_some_iff] at he0
          obtain ⟨f0, hf0, rfl⟩ := he0
          exact hm.born j f0 hf0
        · exact hm.born q e0 he0) hK
end
end Go.TQ
