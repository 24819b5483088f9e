/- More operations: a slice against nil, a byte of a text, a part of a slice, slices that are adopted or made, joins. Own work. -/
import Derived.Test.YtmfiplnojbjcbaaGreatAbsF
import Derived.Laws.Cover3
set_option linter.unusedVariables false
set_option linter.unusedSimpArgs false
namespace Go.TQ
section
variable {c : Ctx} {st : St} {K : St → Prop} {t ty : Nat} {pos : String} {af : Array Edge} {gd : Option (Nat × Bool)}

/-- 's == nil': only where the slice has elements is the answer known. -/
theorem op_eql_nil {x y : Operand} {tx ty' e n : TypeId} {v : V} {rows : List (List Dat)} (hx : Has c st x v) (hv : slD v = some rows) (hy : Has c st y (.one .nilsl)) (hT : slE c.P tx = some (e, n)) (ht : Nat.blt t c.N = true)
    (hK : ∀ b : Bool, (b = true → rows = []) → K (st.put t (.one (.dat (.bool b))))) : AOp c ⟨some t, .binOp .eql tx x y ty', ty, pos, af, gd⟩ st K := by
  intro Φ a w hr K' Q hQ
  obtain ⟨ad, cap, hx', hl, hm, hrr⟩ := rv_sl (slD_ok hv (hx Φ a w hr))
  have hy' := hy Φ a w hr
  rw [RV, RC] at hy'
  unfold Oper.wp
  have hrun : (execOp a.eval ⟨some t, .binOp .eql tx x y ty', ty, pos, af, gd⟩).run c.P w = .ok (.value (.bool ad.isNone)) w := by
    have hg : (eqGuard .eql tx x y (.slice ad rows.length cap) (.slice none 0 0)).run c.P w = .ok () w := by unfold eqGuard; simp
    have hb : (binOp .eql tx (.slice ad rows.length cap) (.slice none 0 0)).run c.P w = .ok (.bool ad.isNone) w := by
      simp only [binOp]
      simp [run_equal_slice_nil w tx e ad rows.length cap (slE_ok hT).1]
    simp [execOp, hx', hy', hg, hb]
  rw [hrun, Oper.upon_value]
  refine hQ _ Φ _ w (hr.put (v := .one (.dat (.bool ad.isNone))) rv_mk_bool ht) (hK _ fun hb => ?_)
  rcases hrr with h | ⟨k, b, o, vs, _, _, rfl, _⟩
  · exact h
  · cases hb

/-- A byte of a text. -/
theorem op_indexStr {x y : Operand} {tx : TypeId} {s : ByteArray} {k : IntKind} {i : Int} (hx : Has c st x (.one (.dat (.str s)))) (hy : Has c st y (.one (.dat (.int k i)))) (hT : c.P.underlying tx = some .string)
    (h0 : 0 ≤ i) (h1 : i < (s.size : Int)) (ht : Nat.blt t c.N = true) (hK : ∀ b : UInt8, s[i.toNat]? = some b → K (st.put t (.one (.dat (.int .u8 (b.toNat : Int)))))) : AOp c ⟨some t, .index tx x y, ty, pos, af, gd⟩ st K := by
  have hlt : i.toNat < s.size := by omega
  have hb : s[i.toNat]? = some s[i.toNat] := by simp [hlt]
  refine aop_pure (v := .one (.dat (.int .u8 (s[i.toNat].toNat : Int)))) rfl ht (fun Φ a w hr => ?_) (hK _ hb)
  have e1 := (rv_str (hx Φ a w hr)).1
  have e2 := (rv_int (hy Φ a w hr)).1
  refine ⟨.int .u8 (s[i.toNat].toNat : Int), ?_, rv_mk_int ?_⟩
  · simp [execOp, e1, e2, Instr.index, asIntOf, run_underlying hT, h0, hb]
  · have := s[i.toNat].toNat_lt
    simp [InK, IntKind.min, IntKind.max, IntKind.signed, IntKind.bits]
    omega

/-- The first elements of a slice. -/
theorem op_slice_hi {x y : Operand} {tx e n : TypeId} {v : V} {rows : List (List Dat)} {k : IntKind} {i : Int} (hx : Has c st x v) (hv : slD v = some rows) (hy : Has c st y (.one (.dat (.int k i)))) (hT : slE c.P tx = some (e, n))
    (h0 : 0 ≤ i) (h1 : i ≤ (rows.length : Int)) (ht : Nat.blt t c.N = true) (hK : K (st.put t (.one (.dat (.sl (rows.take i.toNat)))))) : AOp c ⟨some t, .slice tx x none (some y) none, ty, pos, af, gd⟩ st K :=
  aop_pure rfl ht (fun Φ a w hr => by
    obtain ⟨ad, cap, hx', hl, hm, hrr⟩ := rv_sl (slD_ok hv (hx Φ a w hr))
    have hy' := (rv_int (hy Φ a w hr)).1
    obtain ⟨hu, inf, hi, hsz⟩ := slE_ok hT
    have hile : i.toNat ≤ rows.length := by omega
    have hic : i ≤ (cap : Int) := by omega
    refine ⟨.slice (if cap = 0 then ad else ad.map (·.add 0)) i.toNat cap, ?_, ?_⟩
    · simp [execOp, hx', hy', Instr.sliceAt, Instr.slice, Instr.sliceBounds, Instr.sliceBound, asIntOf, run_underlying hu, sizeOf, typeInfo, hi, h0, hic]
    · have hadd : (if cap = 0 then ad else ad.map (·.add 0)) = ad := by
        split
        · rfl
        · cases ad with
          | none => rfl
          | some q =>
            simp only [Option.map_some, Option.some.injEq]
            rcases hrr with h | ⟨k', bb, o, vs, _, _, he, _⟩
            · unfold Addr.add; split <;> simp_all
            · injection he with he
              subst he
              rw [addr_add]; rfl
      rw [hadd, RV, RC, RD]
      have hlen : (rows.take i.toNat).length = i.toNat := by simp; omega
      refine ⟨ad, cap, by rw [hlen], by rw [hlen]; omega, hm, ?_⟩
      rcases hrr with rfl | ⟨k', bb, o, vs, hk, hun, he, hA, hss⟩
      · left; simp
      · right
        refine ⟨k', bb, o, vs, hk, fun r hr' => hun r (List.mem_of_mem_take hr'), he, hA, ?_⟩
        rw [RDss_flat, RDs_iff] at hss ⊢
        intro j d hd
        refine hss j d ?_
        have : rows.flatten = (rows.take i.toNat).flatten ++ (rows.drop i.toNat).flatten := by rw [← List.flatten_append, List.take_append_drop]
        rw [this, List.getElem?_append_left (List.getElem?_eq_some_iff.1 hd).1]
        exact hd) hK

/-- Where two ways meet: the state that both come to. -/
theorem awp_join {ι : Type} (S : ι → St) (I : ι → Prop) {x y : Code} {Q : Exit → St → Prop} (h : AWP c x st (thn (fun s => ∃ i, I i ∧ Le c s (S i)) Q)) (k : ∀ i, I i → AWP c y (S i) Q) : AWP c (.seq x y) st Q := by
  refine zw2 (awp_mono h ?_)
  intro e s hs
  cases e with
  | normal => obtain ⟨i, hi, hle⟩ := hs; exact awp_le hle (k i hi)
  | _ => exact hs

/-- An owned slice gets another name. -/
theorem le_retok {q p s : Nat} {x : TypeId × Nat} {rows : List (List Dat)} (hq : st.tk q = some x) (hs : st.sl s = some (.one (.slt q rows))) :
    Le c st ((((((st.mapC (C.unq q)).setT q none).mapC (C.unq p)).setT p none).setT p (some x)).put s (.one (.slt p rows))) := fun Φ a w hr => by
  have h0 := hr.slots s _ hs
  rw [RV, RC] at h0
  obtain ⟨n, xs, hk, hown, hA⟩ := hr.toks q x.1 x.2 hq
  have hfree : ∀ q' x' g, (((st.mapC (C.unq q)).setT q none).tk q') = some x' → (Φ.τ q').ownBlock = some g → (Φ.τ q).ownBlock ≠ some g := by
    intro q' x' g h1 h2 h3
    simp only [St.setT, St.mapC] at h1
    cases hb : Nat.beq q' q with
    | true => rw [hb] at h1; cases h1
    | false =>
      rw [hb] at h1
      have := hr.tinj q' q x' x g h1 hq h2 h3
      subst this
      rw [Nat.beq_refl] at hb
      cases hb
  have hd := (hr.dropTok q (Φ.τ q)).dropTok p (Φ.τ q)
  have hτq : ∀ r, (bif Nat.beq r q then Φ.τ q else Φ.τ r) = Φ.τ r := by
    intro r
    cases hb : Nat.beq r q with
    | true => rw [(nbeq_iff r q).1 hb]; rfl
    | false => rfl
  refine ⟨_, hd.size, hd.defers, ?_, hd.boxes, hd.own, hd.inj, ?_, ?_, hd.arr, hd.ext, hd.oldA, hd.grow, hd.fr⟩
  · intro s' v hv
    simp only [St.put] at hv
    cases hb : Nat.beq s' s with
    | true =>
      rw [hb] at hv
      simp only [cond_true, Option.some.injEq] at hv
      subst hv
      rw [(nbeq_iff s' s).1 hb, RV, RC]
      exact ⟨h0.1, by simp only [Nat.beq_refl, cond_true]; exact h0.2⟩
    | false =>
      rw [hb] at hv
      exact hd.slots s' v hv
  · intro r e' k' hp
    simp only [St.put, St.setT] at hp
    cases hb : Nat.beq r p with
    | true =>
      rw [hb] at hp
      simp only [cond_true, Option.some.injEq] at hp
      subst hp
      simp only [hb, cond_true]
      exact ⟨n, xs, hk, hown, hA⟩
    | false =>
      rw [hb] at hp
      simp only [hb, cond_false]
      refine hd.toks r e' k' ?_ |>.elim fun n' h => ⟨n', by simpa [hb] using h⟩
      simp only [St.setT, hb, cond_false]
      exact hp
  · intro r r' y y' g hp hp' h1 h2
    simp only [St.put, St.setT] at hp hp'
    cases hb : Nat.beq r p with
    | true =>
      cases hb' : Nat.beq r' p with
      | true => rw [(nbeq_iff r p).1 hb, (nbeq_iff r' p).1 hb']
      | false =>
        simp only [hb, hb', cond_true, cond_false, hτq] at h1 h2
        rw [hb'] at hp'
        exact absurd h1 (hfree r' _ g hp' h2)
    | false =>
      cases hb' : Nat.beq r' p with
      | true =>
        simp only [hb, hb', cond_true, cond_false, hτq] at h1 h2
        rw [hb] at hp
        exact absurd h2 (hfree r _ g hp h1)
      | false =>
        rw [hb] at hp
        rw [hb'] at hp'
        exact hd.tinj r r' y y' g (by simpa [St.setT, hb] using hp) (by simpa [St.setT, hb'] using hp') h1 h2
end
end Go.TQ
