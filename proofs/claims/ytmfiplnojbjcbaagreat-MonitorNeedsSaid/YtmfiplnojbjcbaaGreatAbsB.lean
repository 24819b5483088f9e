/- Rules for build, buildSlice, append, extract, over abstract states. Own work. -/
import Derived.Test.YtmfiplnojbjcbaaGreatAbsM
import Derived.Laws.Tables
set_option linter.unusedVariables false
set_option linter.unusedSimpArgs false
namespace Go.TQ

def plC (P : Program) (t : TypeId) : Option (List (Nat × Nat)) :=
  match P.underlying t with
  | some (.struct fields) => fields.toList.mapM (fun f => (P.info? f.type).map fun i => (f.offset, i.size))
  | _ => none

def fillC (pl : Nat → Option (Nat × Nat)) : List C → List (Nat × List C) → Option (List C)
  | cs, [] => some cs
  | cs, (i, us) :: rest => match pl i with
    | some (off, n) => if us.length = n ∧ off + n ≤ cs.length then fillC pl (cs.take off ++ us ++ cs.drop (off + n)) rest else none
    | none => none

theorem foldl_set (vs : List Value) : ∀ (s off : Nat) (cells : Array Value), off + s + vs.length ≤ cells.size →
    ((vs.zipIdx s).foldl (fun (cs : Array Value) (p : Value × Nat) => cs.setIfInBounds (off + p.2) p.1) cells).toList = cells.toList.take (off + s) ++ vs ++ cells.toList.drop (off + s + vs.length) := by
  induction vs with
  | nil => intro s off cells _; simp
  | cons v vs ih =>
    intro s off cells h
    simp only [List.zipIdx_cons, List.foldl_cons]
    rw [ih (s + 1) off _ (by simp at h ⊢; omega)]
    simp only [Array.toList_setIfInBounds, List.length_cons]
    simp at h
    have h1 : (cells.toList.set (off + s) v).take (off + (s + 1)) = cells.toList.take (off + s) ++ [v] := by
      rw [show off + (s + 1) = off + s + 1 by omega, List.take_set, List.take_succ_eq_append_getElem (by simp; omega), List.set_append]
      have : (List.take (off + s) cells.toList).length = off + s := by simp; omega
      rw [if_neg (by omega), this, Nat.sub_self]
      rfl
    have h2 : (cells.toList.set (off + s) v).drop (off + (s + 1) + vs.length) = cells.toList.drop (off + s + (vs.length + 1)) := by
      rw [List.drop_set, if_pos (by omega)]
      congr 1
      omega
    rw [h1, h2]
    simp

section
variable {Φ : Cx}
theorem fill_ok {pl : Nat → Option (Nat × Nat)} : ∀ {qs : List (Nat × List C)} {ps : List (Nat × Value)} {cs cs' : List C} {zs : Array Value}, All2 (RC Φ) cs zs.toList →
    All2 (fun (q : Nat × List C) (p : Nat × Value) => p.1 = q.1 ∧ All2 (RC Φ) q.2 p.2.cells.toList) qs ps → fillC pl cs qs = some cs' →
    ∃ zs', Instr.fill pl zs ps = some zs' ∧ All2 (RC Φ) cs' zs'.toList
  | [], [], cs, cs', zs, hz, _, h => by
    simp only [fillC, Option.some.injEq] at h
    subst h
    exact ⟨zs, by simp [Instr.fill], hz⟩
  | (i, us) :: qs, (j, v) :: ps, cs, cs', zs, hz, ⟨⟨hij, hv⟩, hps⟩, h => by
    simp only at hij hv
    subst hij
    simp only [fillC] at h
    cases hp : pl j with
    | none => rw [hp] at h; simp at h
    | some on =>
      obtain ⟨off, n⟩ := on
      rw [hp] at h
      simp only at h
      split at h
      · rename_i hc
        obtain ⟨h1, h2⟩ := hc
        have hl := hv.length
        have hzl := hz.length
        have hsz : v.cells.size = n := by rw [← Array.length_toList, ← hl, h1]
        have hfit : off + n ≤ zs.size := by rw [hzl] at h2; simpa using h2
        have hfold : (v.cells.zipIdx.foldl (fun (cs : Array Value) (p : Value × Nat) => cs.setIfInBounds (off + p.2) p.1) zs).toList = zs.toList.take off ++ v.cells.toList ++ zs.toList.drop (off + n) := by
          have := foldl_set v.cells.toList 0 off zs (by simp [hsz]; omega)
          rw [← Array.foldl_toList]
          simp only [Array.toList_zipIdx]
          rw [this]
          simp [hsz]
        obtain ⟨zs', h3, h4⟩ := fill_ok (zs := (v.cells.zipIdx.foldl (fun (cs : Array Value) (p : Value × Nat) => cs.setIfInBounds (off + p.2) p.1) zs)) (by
          rw [hfold]
          exact ((hz.take off).append hv).append (hz.drop (off + n))) hps h
        refine ⟨zs', ?_, h4⟩
        rw [Instr.fill, hp]
        simp only
        rw [if_neg (by simp [hsz]; omega)]
        exact h3
      · cases h
  | [], _ :: _, _, _, _, _, h, _ => h.elim
  | _ :: _, [], _, _, _, _, h, _ => h.elim
end

def Parts (c : Ctx) (st : St) : List (Nat × Operand) → List (Nat × List C) → Prop
  | [], [] => True
  | (i, x) :: ps, (j, us) :: qs => i = j ∧ (∃ v, Has c st x v ∧ v.cells = some us) ∧ Parts c st ps qs
  | _, _ => False
theorem parts_ok {c : Ctx} {st : St} {Φ : Cx} {a : Act} {w : World} (hr : Rel c st Φ a w) : ∀ {ps : List (Nat × Operand)} {qs : List (Nat × List C)}, Parts c st ps qs →
    All2 (fun (q : Nat × List C) (p : Nat × Value) => p.1 = q.1 ∧ All2 (RC Φ) q.2 p.2.cells.toList) qs (ps.map fun (i, x) => (i, a.eval x))
  | [], [], _ => trivial
  | (i, x) :: ps, (j, us) :: qs, h => by
    obtain ⟨rfl, ⟨v, hv, hc⟩, h2⟩ := h
    exact ⟨⟨rfl, cells_ok hc (hv Φ a w hr)⟩, parts_ok hr h2⟩
  | [], _ :: _, h => h.elim
  | _ :: _, [], h => h.elim

section
variable {c : Ctx} {st : St} {K : St → Prop} {t ty : Nat} {pos : String} {af : Array Edge} {gd : Option (Nat × Bool)}

theorem zbd {tb : Nat} {ps : List (Nat × Operand)} {qs : List (Nat × List C)} {zs cs : List C} {pl : List (Nat × Nat)} (hp : Parts c st ps qs) (hz : zeroC c.P tb = some zs) (hpl : plC c.P tb = some pl)
    (hf : fillC (fun i => pl[i]?) zs qs = some cs) (ht : Nat.blt t c.N = true) (hK : K (st.put t (.agg cs))) : AOp c ⟨some t, .build tb ps.toArray, ty, pos, af, gd⟩ st K :=
  aop_pure rfl ht (fun Φ a w hr => by
    obtain ⟨i, z, hi, hz, hcs⟩ := zeroC_ok hz
    obtain ⟨zs', h1, h2⟩ := fill_ok (hcs Φ) (parts_ok hr hp) hf
    refine ⟨.agg zs', ?_, ?_⟩
    · have hb : c.P.built tb (ps.map fun (i, x) => (i, a.eval x)) = some zs' := by
        unfold plC at hpl
        split at hpl
        · rename_i fields hu
          simp [Program.built, hi, hu, hz, hpl, h1]
        · cases hpl
      have := run_build w tb (ps.map fun (i, x) => (i, a.eval x)).toArray zs' (by simpa using hb)
      simp [execOp, this]
    · rw [RV]
      exact ⟨zs'.toList, by simp, h2⟩) hK

theorem zbs {tb e n len : Nat} {ps : List (Nat × Operand)} {qs : List (Nat × List C)} {cs : List C} {rows : List (List Dat)} (hp : Parts c st ps qs) (hT : slE c.P tb = some (e, n)) (hn : 0 < n) (hz : ∃ zs, zeroC c.P e = some zs)
    (hf : fillC (fun i => some (i * n, n)) (List.replicate (len * n) .any) qs = some cs) (hd : C.dats cs = some rows.flatten) (hu : Uni n rows) (hl : rows.length = len) (hsm : len * n ≤ 16777216) (ht : Nat.blt t c.N = true)
    (hK : K (st.put t (.one (.dat (.sl rows))))) : AOp c ⟨some t, .buildSlice tb len ps.toArray, ty, pos, af, gd⟩ st K :=
  aop_world rfl ht (fun Φ a w hr => by
    obtain ⟨zs, hz⟩ := hz
    obtain ⟨i, z, hi, hz, hcs⟩ := zeroC_ok hz
    obtain ⟨hu', inf, hi', hsz⟩ := slE_ok hT
    obtain rfl : inf = i := by rw [hi] at hi'; injection hi' with hi'; exact hi'.symm
    have hone : ∀ (zz : Array Value), (∀ v ∈ zz.toList, v.oneCell' = true) → All2 (RC Φ) (List.replicate (len * n) .any) (((Array.range (len * n)).map fun x => zz[x % zz.size]!).toList) := by
      intro zz hzz
      have : ∀ k : Nat, (zz[k]!).oneCell' = true := by
        intro k
        by_cases hk : k < zz.size
        · rw [getElem!_pos zz k hk]
          exact hzz _ (by simp)
        · rw [getElem!_neg zz k hk]
          rfl
      have key : ∀ l : List Nat, All2 (RC Φ) (List.replicate l.length .any) (l.map fun x => zz[x % zz.size]!) := by
        intro l
        induction l with
        | nil => trivial
        | cons x l ih =>
          simp only [List.length_cons, List.replicate_succ, List.map_cons]
          exact ⟨by rw [RC]; exact this _, ih⟩
      have := key (List.range (len * n))
      simpa using this
    have hzc : ∀ v ∈ z.cells.toList, v.oneCell' = true := All2.right (R := RC Φ) (p := fun v => v.oneCell' = true) (fun x v hx => RC_one hx) (hcs Φ)
    by_cases h0 : len * n = 0
    · have hlen : len = 0 := by
        rcases Nat.mul_eq_zero.1 h0 with h | h
        · exact h
        · omega
      subst hlen
      obtain rfl : rows = [] := List.eq_nil_of_length_eq_zero hl
      obtain ⟨zs', h1, h2⟩ := fill_ok (hone #[] (by simp)) (parts_ok hr hp) hf
      refine ⟨_, _, .slice (some ⟨w.heap.size, 0, none⟩) 0 0, ?_, (hr.newArr zs'.toList e).1, ?_⟩
      · simp at h1
        simp [execOp, Instr.buildSlice, run_underlying hu', sizeOf, typeInfo, hi, hsz, h1, newRow]
      · rw [RV, RC, RD]
        exact ⟨_, _, rfl, Nat.le_refl _, Nat.zero_le _, .inl rfl⟩
    · obtain ⟨zs', h1, h2⟩ := fill_ok (hone z.cells hzc) (parts_ok hr hp) hf
      refine ⟨_, _, .slice (some ⟨w.heap.size, 0, none⟩) len len, ?_, (hr.newArr zs'.toList e).1, ?_⟩
      · have hbig : ¬ (16777216 < len * n) := by omega
        simp [execOp, Instr.buildSlice, run_underlying hu', sizeOf, typeInfo, zeroValue, hi, hz, hsz, h0, hbig, h1, newRow]
      · rw [RV, RC, RD]
        subst hl
        have hmax : maxLen = 9223372036854775807 := rfl
        have hle : rows.length ≤ rows.length * n := Nat.le_mul_of_pos_right _ hn
        refine ⟨_, _, rfl, Nat.le_refl _, by omega, .inr ⟨n, w.heap.size, 0, zs'.toList, hn, hu, rfl, by simp, ?_⟩⟩
        rw [RDss_flat, List.drop_zero]
        have h3 := RDs_of_All2 (C.dats_all hd h2)
        exact RDs_grows (hr.newArr zs'.toList e).2 _ _ h3) hK

theorem flatten_length_uni {k : Nat} : ∀ {rows : List (List Dat)}, Uni k rows → rows.flatten.length = rows.length * k
  | [], _ => by simp
  | r :: rs, h => by
    rw [List.flatten_cons, List.length_append, flatten_length_uni (fun x hx => h x (by simp [hx])), h r (by simp), List.length_cons, Nat.succ_mul]
    omega

def apT (P : Program) (t : TypeId) : Option (TypeId × Nat × Nat) :=
  match P.underlying t with
  | some (.slice e) => match P.info? e with
    | some i => match i.zero with
      | some z => if z.cells.size = i.size ∧ 0 < i.size then some (e, i.size, i.bytes) else none
      | none => none
    | none => none
  | _ => none
theorem apT_ok {P : Program} {t e n b : Nat} (h : apT P t = some (e, n, b)) : P.underlying t = some (.slice e) ∧ ∃ i z, P.info? e = some i ∧ i.zero = some z ∧ i.size = n ∧ i.bytes = b ∧ z.cells.size = n ∧ 0 < n := by
  unfold apT at h
  split at h
  · rename_i e' hu
    split at h
    · rename_i i hi
      split at h
      · rename_i z hz
        split at h
        · rename_i hc
          simp only [Option.some.injEq, Prod.mk.injEq] at h
          obtain ⟨rfl, rfl, rfl⟩ := h
          exact ⟨hu, i, z, hi, hz, rfl, rfl, hc.1, hc.2⟩
        · cases h
      · cases h
    · cases h
  · cases h

/-- The common part of append's two rules. -/
theorem append_core {Φ : Cx} {a : Act} {w : World} {st : St} (hr : Rel c st Φ a w) {tx ty' e k b : Nat} (hT : apT c.P tx = some (e, k, b)) {v x : Value} {rows rows2 : List (List Dat)} {n : Nat} {xs : List Value}
    (hown : w.ownsRow c.w0.heap.size e k v n xs) (hA : ∀ g, v.ownBlock = some g → Φ.A g = some xs) (hn : n = rows.length) (hrows : RDs Φ.A rows.flatten xs)
    (hfree : ∀ q x g, st.tk q = some x → (Φ.τ q).ownBlock = some g → v.ownBlock ≠ some g)
    (hx : RV Φ (.one (.dat (.sl rows2))) x) (huni : Uni k (rows ++ rows2)) (hb : (rows.length + rows2.length) * b ≤ 140737488355328) (h63 : rows.length + rows2.length ≤ 9223372036854775807) (t : Nat) :
    ∃ Φ' w' v', (Builtin.append_ #[tx, tx] ty' #[v, x]).run c.P w = .ok v' w' ∧ Rel c (((st.mapC (C.unq t)).setT t none).setT t (some (e, k))) Φ' a w' ∧ RV Φ' (.one (.slt t (rows ++ rows2))) v' := by
  obtain ⟨hu, i, z, hi, hz, hsz, hby, hzs, hk⟩ := apT_ok hT
  obtain ⟨src, cap, rfl, hcap, hm, hsrc⟩ := rv_sl hx
  have hmax : maxLen = 9223372036854775807 := rfl
  have hu1 : Uni k rows := fun r hr => huni r (by simp [hr])
  have hu2 : Uni k rows2 := fun r hr => huni r (by simp [hr])
  -- the cells of what is appended
  obtain ⟨news, hnl, hnil, hnews, hnd⟩ : ∃ news : List Value, news.length = rows2.length * k ∧ (src = none → rows2.length = 0) ∧
      (∀ ad, src = some ad → ∀ (j : Nat) (u : Value), news[j]? = some u → w.cell? (ad.add j) = some u) ∧ All2 (RD Φ.A) rows2.flatten news := by
    rcases hsrc with rfl | ⟨k', bb, o, vs, hk', hun, rfl, hAb, hss⟩
    · exact ⟨[], by simp, fun _ => rfl, fun ad _ j u hj => by simp at hj, trivial⟩
    · rw [RDss_flat] at hss
      have hl : rows2.flatten.length = rows2.length * k := flatten_length_uni hu2
      refine ⟨(vs.drop o).take rows2.flatten.length, ?_, (fun h => by cases h), ?_, All2_of_RDs hss⟩
      · have := RDs_length hss
        rw [List.length_take, ← hl]
        omega
      · rintro ad ⟨⟩ j u hj
        rw [addr_add]
        refine cell_arr hr.arr hAb ?_
        have hlt := (List.getElem?_eq_some_iff.1 hj).1
        rw [List.length_take] at hlt
        rw [List.getElem?_take_of_lt (by omega), List.getElem?_drop] at hj
        exact hj
  have hone : ∀ u ∈ news, u.oneCell' = true := All2.right (R := RD Φ.A) (p := fun v => v.oneCell' = true) (fun x v hx => RD_one hx) hnd
  subst hn
  obtain ⟨v', w', hrun, hown', hg⟩ := run_append_tok (P := c.P) w c.w0.heap.size tx ty' e i z k hu hi hz hsz hzs hk v rows.length xs hown src rows2.length cap news hnl hnil hnews hone (by omega) (by rw [hby]; exact hb) hr.fr.size
  have hdrop := hr.dropTok t v'
  obtain ⟨g, hrel⟩ := Rel.appended (t := t) hdrop hk hown hA (by
    intro q x g hq hg'
    simp only [St.setT, St.mapC] at hq
    cases hbq : Nat.beq q t with
    | true => rw [hbq] at hq; cases hq
    | false =>
      rw [hbq] at hq
      simp only [hbq, cond_false] at hg'
      exact hfree q x g hq hg') hown' hg (by simp [St.setT]) (by simp)
  refine ⟨_, w', v', hrun, hrel, ?_⟩
  rw [RV, RC]
  refine ⟨?_, by simp⟩
  rw [RD]
  rcases hown'.2 with ⟨rfl, h0⟩ | ⟨gg, cap', cur, rfl, hbg, hh, hnc, hcm, hcs, htake⟩
  · have h1 : rows ++ rows2 = [] := List.eq_nil_of_length_eq_zero (by rw [List.length_append]; exact h0)
    refine ⟨none, 0, ?_, by rw [h1]; exact Nat.le_refl _, Nat.zero_le _, .inl h1⟩
    rw [h1]
    rfl
  · refine ⟨_, cap', by rw [List.length_append], by rw [List.length_append]; exact hnc, hcm, .inr ⟨k, gg, 0, xs ++ news, hk, huni, rfl, by simp [Value.ownBlock], ?_⟩⟩
    rw [RDss_flat, List.drop_zero, List.flatten_append]
    have hx1 : xs.length = rows.flatten.length := by rw [hown.1, flatten_length_uni hu1]
    have h1 := All2_of_RDs hrows
    rw [← hx1, List.take_length] at h1
    have h2 := RDs_of_All2 (h1.append hnd)
    exact RDs_grows g _ _ h2

theorem op_append_nil {s x : Operand} {tx e k b : Nat} {vx : V} {rows2 : List (List Dat)} (hs : Has c st s (.one .nilsl)) (hx : Has c st x vx) (hvx : slD vx = some rows2) (hT : apT c.P tx = some (e, k, b))
    (huni : Uni k rows2) (hb : rows2.length * b ≤ 140737488355328) (h63 : rows2.length ≤ 9223372036854775807) (ht : Nat.blt t c.N = true)
    (hK : K ((((st.mapC (C.unq t)).setT t none).setT t (some (e, k))).put t (.one (.slt t rows2)))) : AOp c ⟨some t, .call ⟨.builtin .append, #[s, x], #[tx, tx]⟩, ty, pos, af, gd⟩ st K :=
  aop_world rfl ht (fun Φ a w hr => by
    have hs' := hs Φ a w hr
    rw [RV, RC] at hs'
    obtain ⟨Φ', w', v', h1, h2, h3⟩ := append_core (ty' := ty) (rows := []) (n := 0) (xs := []) hr hT (World.ownsRow_nil w c.w0.heap.size e k) (fun g hg => by simp [Value.ownBlock] at hg) rfl (by simp [RDs])
      (fun q x g hq hg => by simp [Value.ownBlock]) (slD_ok hvx (hx Φ a w hr)) (by simpa using huni) (by simpa using hb) (by simpa using h63) t
    exact ⟨Φ', w', v', by simp [execOp, resolve, invoke, builtin, hs', h1], h2, h3⟩) hK

theorem op_append {s x : Operand} {tx e k b q : Nat} {vx : V} {rows rows2 : List (List Dat)} (hs : Has c st s (.one (.slt q rows))) (hq : st.tk q = some (e, k)) (hx : Has c st x vx) (hvx : slD vx = some rows2) (hT : apT c.P tx = some (e, k, b))
    (huni : Uni k (rows ++ rows2)) (hb : (rows.length + rows2.length) * b ≤ 140737488355328) (h63 : rows.length + rows2.length ≤ 9223372036854775807) (ht : Nat.blt t c.N = true)
    (hK : K ((((((st.mapC (C.unq q)).setT q none).mapC (C.unq t)).setT t none).setT t (some (e, k))).put t (.one (.slt t (rows ++ rows2))))) :
    AOp c ⟨some t, .call ⟨.builtin .append, #[s, x], #[tx, tx]⟩, ty, pos, af, gd⟩ st K :=
  aop_world rfl ht (fun Φ a w hr => by
    have hs' := hs Φ a w hr
    rw [RV, RC] at hs'
    obtain ⟨hrd, hτ⟩ := hs'
    obtain ⟨n, xs, hk, hown, hA⟩ := hr.toks q e k hq
    rw [← hτ] at hown hA
    have hsl : RV Φ (.one (.dat (.sl rows))) (a.eval s) := by rw [RV, RC]; exact hrd
    obtain ⟨ad, cap, he, hcap, hm, hrr⟩ := rv_sl hsl
    have hnr : n = rows.length ∧ RDs Φ.A rows.flatten xs := by
      rcases hown.2 with ⟨h1, h2⟩ | ⟨gg, cap', cur, h1, hbg, hh, hnc, hcm, hcs, htake⟩
      · rw [he] at h1
        injection h1 with h1 h3 h4
        have : rows = [] := List.eq_nil_of_length_eq_zero h3
        subst this
        exact ⟨by simp [h2], by simp [RDs]⟩
      · rw [he] at h1
        injection h1 with h1 h3 h4
        refine ⟨h3.symm, ?_⟩
        rcases hrr with rfl | ⟨k', bb, o, vs, hk', hun, had, hAb, hss⟩
        · simp [RDs]
        · rw [h1] at had
          injection had with had
          injection had with hb1 hb2
          subst hb1
          subst hb2
          have := hA gg (by rw [he, h1]; rfl)
          rw [hAb] at this
          injection this with this
          subst this
          rw [RDss_flat, List.drop_zero] at hss
          exact hss
    have hdrop := hr.dropTok q (Φ.τ q)
    have hτeq : (fun p => bif Nat.beq p q then Φ.τ q else Φ.τ p) = Φ.τ := by
      funext p
      cases hb : Nat.beq p q with
      | true => rw [(nbeq_iff p q).1 hb]; rfl
      | false => rfl
    rw [hτeq] at hdrop
    obtain ⟨Φ', w', v', h1, h2, h3⟩ := append_core (ty' := ty) (rows := rows) hdrop hT hown hA hnr.1 hnr.2 (by
        intro p y g hp hg hv
        simp only [St.setT, St.mapC] at hp
        cases hb : Nat.beq p q with
        | true => rw [hb] at hp; cases hp
        | false =>
          rw [hb] at hp
          have : p = q := hr.tinj p q y (e, k) g hp hq hg (by rw [← hτ]; exact hv)
          subst this
          rw [Nat.beq_refl] at hb
          cases hb) (slD_ok hvx (hx Φ a w hr)) huni hb h63 t
    exact ⟨Φ', w', v', by simp [execOp, resolve, invoke, builtin, h1], h2, h3⟩) hK
end
end Go.TQ
