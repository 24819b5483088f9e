/- Rows of a slice in a box: read, written, made, given away as data; nil slices in boxes that are taken for owned ones. Own work. -/
import Derived.Test.YtmfiplnojbjcbaaGreatAbsH
import Derived.Laws.MakeOwn
set_option linter.unusedVariables false
set_option linter.unusedSimpArgs false
namespace Go.TQ

theorem All2.of_get {α β : Type} {R : α → β → Prop} : ∀ {as : List α} {bs : List β}, as.length = bs.length → (∀ (j : Nat) (a : α) (b : β), as[j]? = some a → bs[j]? = some b → R a b) → All2 R as bs
  | [], [], _, _ => trivial
  | a :: as, b :: bs, hl, h => ⟨h 0 a b (by simp) (by simp), All2.of_get (by simpa using hl) fun j x y hx hy => h (j + 1) x y (by simpa using hx) (by simpa using hy)⟩
  | [], _ :: _, hl, _ => by simp at hl
  | _ :: _, [], hl, _ => by simp at hl
theorem All2.get2 {α β : Type} {R : α → β → Prop} {as : List α} {bs : List β} (h : All2 R as bs) {j : Nat} {a : α} {b : β} (ha : as[j]? = some a) (hb : bs[j]? = some b) : R a b := by
  obtain ⟨b', h1, h2⟩ := h.get j a ha
  rw [hb] at h1
  injection h1 with h1
  subst h1
  exact h2
theorem flatten_get {k : Nat} : ∀ {rows : List (List Dat)}, Uni k rows → ∀ {i : Nat} {row : List Dat}, rows[i]? = some row → ∀ j, j < k → rows.flatten[i * k + j]? = row[j]?
  | [], _, i, row, h, j, hj => by simp at h
  | r :: rs, hu, 0, row, h, j, hj => by
    simp at h
    subst h
    have : r.length = k := hu r (by simp)
    rw [List.flatten_cons, Nat.zero_mul, Nat.zero_add, List.getElem?_append_left (by omega)]
  | r :: rs, hu, i + 1, row, h, j, hj => by
    have hl : r.length = k := hu r (by simp)
    have ih := flatten_get (rows := rs) (fun x hx => hu x (by simp [hx])) (i := i) (row := row) (by simpa using h) j hj
    rw [List.flatten_cons, List.getElem?_append_right (by rw [hl, Nat.add_mul]; omega), hl, show (i + 1) * k + j - k = i * k + j by rw [Nat.add_mul]; omega]
    exact ih
theorem flatten_row {k : Nat} {rows : List (List Dat)} (hu : Uni k rows) {i : Nat} {row : List Dat} (h : rows[i]? = some row) : (rows.flatten.drop (i * k)).take k = row := by
  have hl : row.length = k := hu row (List.mem_of_getElem? h)
  apply List.ext_getElem?
  intro j
  by_cases hj : j < k
  · rw [List.getElem?_take_of_lt hj, List.getElem?_drop, flatten_get hu h j hj]
  · rw [List.getElem?_eq_none (by rw [List.length_take]; omega), List.getElem?_eq_none (by omega)]
theorem flatten_le {k : Nat} {rows : List (List Dat)} (hu : Uni k rows) {i : Nat} {row : List Dat} (h : rows[i]? = some row) : i * k + k ≤ rows.flatten.length := by
  rw [flatten_length_uni hu]
  have := (List.getElem?_eq_some_iff.1 h).1
  calc i * k + k = (i + 1) * k := by rw [Nat.add_mul]; omega
    _ ≤ rows.length * k := Nat.mul_le_mul_right _ this
theorem uni_set {k : Nat} {rows : List (List Dat)} (hu : Uni k rows) {i : Nat} {row : List Dat} (hl : row.length = k) : Uni k (rows.set i row) := by
  intro r hr
  rcases List.mem_or_eq_of_mem_set hr with h | h
  · exact hu r h
  · rw [h, hl]
theorem flatten_set {k : Nat} {rows : List (List Dat)} (hu : Uni k rows) {i : Nat} {row row' : List Dat} (h : rows[i]? = some row) (hl : row'.length = k) :
    (rows.set i row').flatten = rows.flatten.take (i * k) ++ row' ++ rows.flatten.drop (i * k + k) := by
  have hi := (List.getElem?_eq_some_iff.1 h).1
  have e1 : rows = rows.take i ++ rows.drop i := (List.take_append_drop i rows).symm
  have e2 : rows.drop i = rows[i] :: rows.drop (i + 1) := List.drop_eq_getElem_cons hi
  have hti : (rows.take i).flatten.length = i * k := by
    rw [flatten_length_uni (k := k) (fun x hx => hu x (List.mem_of_mem_take hx)), List.length_take, Nat.min_eq_left (by omega)]
  have hlr : rows[i].length = k := hu _ (List.getElem_mem hi)
  have hf : rows.flatten = (rows.take i).flatten ++ (rows[i] ++ (rows.drop (i + 1)).flatten) := by
    calc rows.flatten = (rows.take i ++ rows.drop i).flatten := by rw [List.take_append_drop]
      _ = _ := by rw [List.flatten_append, e2, List.flatten_cons]
  rw [List.set_eq_take_append_cons_drop, if_pos hi, hf]
  rw [show i * k = (rows.take i).flatten.length from hti.symm, List.take_left]
  rw [show (rows.take i).flatten.length + k = (rows.take i).flatten.length + rows[i].length by rw [hlr], List.drop_append, ]
  simp

section
variable {c : Ctx} {st : St} {K : St → Prop} {t ty : Nat} {pos : String} {af : Array Edge} {gd : Option (Nat × Bool)}

theorem op_len_bs {x : Operand} {tx : TypeId} {r : Ref} {k len cap e n : Nat} (hx : Has c st x (.one (.bs r k len cap))) (hT : slE c.P tx = some (e, n)) (ht : Nat.blt t c.N = true)
    (hK : (len : Int) ≤ 9223372036854775807 → K (st.put t (.one (.dat (.int .i64 len))))) : AOp c ⟨some t, .call ⟨.builtin .len, #[x], #[tx]⟩, ty, pos, af, gd⟩ st K := by
  intro Φ a w hr K' Q hQ
  have h0 := hx Φ a w hr
  rw [RV, RC] at h0
  have hmax : maxLen = 9223372036854775807 := rfl
  have hle : (len : Int) ≤ 9223372036854775807 := by omega
  have hin : InK .i64 len := by simp [InK, IntKind.min, IntKind.max, IntKind.signed, IntKind.bits]; omega
  refine aop_pure (v := .one (.dat (.int .i64 len))) rfl ht (fun Φ a w hr => ?_) (hK hle) Φ a w hr K' Q hQ
  have h0 := hx Φ a w hr
  rw [RV, RC] at h0
  exact ⟨.int .i64 len, by simp [execOp, resolve, invoke, builtin, h0.1, Builtin.len_, run_underlying (slE_ok hT).1, goInt], rv_mk_int hin⟩

/-- A row is read. -/
theorem op_loadRow {x : Operand} {tl k i off p : Nat} {r : Ref} {rows : List (List Dat)} {row : List Dat} (hx : Has c st x (.one (.ref r off))) (hb : st.bx r = some (bsC rows.flatten p)) (hu : Uni k rows) (hoff : off = i * k) (hrow : rows[i]? = some row)
    (hT : shp c.P tl = some (some k)) (ht : Nat.blt t c.N = true) (hK : K (st.put t (.aggd row))) : AOp c ⟨some t, .load tl x, ty, pos, af, gd⟩ st K :=
  aop_pure rfl ht (fun Φ a w hr => by
    have hx' := rv_ref (hx Φ a w hr)
    obtain ⟨o, hh, hbo⟩ := hr.boxes r _ hb
    obtain ⟨vs, e, rfl, h2⟩ := hbo.cells (mapBox_bsC _ _)
    obtain ⟨h3, h4, _⟩ := bsC_vals h2
    have hle := flatten_le hu hrow
    have h5 : All2 (RD Φ.A) row ((vs.toList.drop off).take k) := by
      rw [← flatten_row hu hrow]
      have := (h3.drop (i * k)).take k
      rw [List.drop_take, List.take_take, Nat.min_eq_left (by omega)] at this
      rw [hoff]
      exact this
    have hl : row.length = k := hu row (List.mem_of_getElem? hrow)
    have h3l := h5.length
    refine ⟨.agg ((vs.toList.drop off).take k).toArray, ?_, by rw [RV]; exact ⟨_, rfl, h5⟩⟩
    have hload : (loadCells ⟨Φ.μ r, off, none⟩ k).run c.P w = .ok ((vs.toList.drop off).take k).toArray w := by
      have := run_loadCells_list (P := c.P) w ⟨Φ.μ r, off, none⟩ ((vs.toList.drop off).take k) (fun j v hj => by
        rw [addr_add, cell_box hh]
        rw [List.getElem?_take_of_lt (by have := (List.getElem?_eq_some_iff.1 hj).1; rw [List.length_take] at this; omega), List.getElem?_drop] at hj
        exact hj)
      rwa [← h3l, hl] at this
    have hs := shp_agg (w := w) hT
    simp [execOp, hx', Instr.loadAt, Instr.sureAddr, loadVar, hs.1, hs.2, hload]) hK
/-- A cell of a row is read. -/
theorem op_loadRowF {x : Operand} {tl k i j off p : Nat} {r : Ref} {rows : List (List Dat)} {row : List Dat} {d : Dat} (hx : Has c st x (.one (.ref r off))) (hb : st.bx r = some (bsC rows.flatten p)) (hu : Uni k rows) (hoff : off = i * k + j) (hrow : rows[i]? = some row)
    (hd : row[j]? = some d) (hT : shp c.P tl = some none) (ht : Nat.blt t c.N = true) (hK : K (st.put t (.one (.dat d)))) : AOp c ⟨some t, .load tl x, ty, pos, af, gd⟩ st K :=
  aop_pure rfl ht (fun Φ a w hr => by
    have hx' := rv_ref (hx Φ a w hr)
    obtain ⟨o, hh, hbo⟩ := hr.boxes r _ hb
    obtain ⟨vs, e, rfl, h2⟩ := hbo.cells (mapBox_bsC _ _)
    have hl : row.length = k := hu row (List.mem_of_getElem? hrow)
    have hj : j < k := by rw [← hl]; exact (List.getElem?_eq_some_iff.1 hd).1
    have hle := flatten_le hu hrow
    have hget : (bsC rows.flatten p)[off]? = some (.dat d) := by
      unfold bsC
      rw [List.getElem?_append_left (by rw [List.length_map]; omega), List.getElem?_map, hoff, flatten_get hu hrow j hj, hd]
      rfl
    obtain ⟨v, hv, hrv⟩ := h2.get off _ hget
    refine ⟨v, ?_, by rw [RV]; exact hrv⟩
    have hs := shp_one (w := w) hT
    have hc : w.cell? ⟨Φ.μ r, off, none⟩ = some v := by rw [cell_box hh]; exact hv
    simp [execOp, hx', Instr.loadAt, Instr.sureAddr, loadVar, hs.1, hc]) hK
/-- A row is written. -/
theorem op_storeRow {x y : Operand} {ts k i off p : Nat} {r : Ref} {rows : List (List Dat)} {row row' : List Dat} {us : List C} {v : V} (hx : Has c st x (.one (.ref r off))) (hb : st.bx r = some (bsC rows.flatten p)) (hu : Uni k rows) (hoff : off = i * k) (hrow : rows[i]? = some row)
    (hy : Has c st y v) (hv : v.cells = some us) (hd : C.dats us = some row') (hl : row'.length = k) (hT : shp c.P ts = some (some k) ∨ (shp c.P ts = some none ∧ k = 1))
    (hK : K (st.setB r (bsC (rows.set i row').flatten p))) : AOp c ⟨none, .store ts x y, ty, pos, af, gd⟩ st K :=
  aop_skip rfl (fun Φ a w hr => by
    have hx' := rv_ref (hx Φ a w hr)
    have h1 := cells_ok hv (hy Φ a w hr)
    have h1d := C.dats_all hd h1
    obtain ⟨o, hh, hbo⟩ := hr.boxes r _ hb
    obtain ⟨vs, e, rfl, h2⟩ := hbo.cells (mapBox_bsC _ _)
    obtain ⟨h3, h4, h5⟩ := bsC_vals h2
    have hle := flatten_le hu hrow
    have hl1 := h1d.length
    have hone : ∀ u ∈ (a.eval y).cells.toList, u.oneCell' = true := All2.right (R := RC Φ) (p := fun v => v.oneCell' = true) (fun x v hx => RC_one hx) h1
    have hst := run_storeCells_at c.P (Φ.μ r) off e (a.eval y).cells.toList 0 vs w hh (by rw [← hl1, hl]; rw [← Array.length_toList, h4]; omega) hone
    have hset := flatten_set hu hrow hl
    refine ⟨Φ, _, ?_, hr.write hb (mapBox_bsC _ _) (vs' := (vs.toList.take off ++ (a.eval y).cells.toList ++ vs.toList.drop (off + k)).toArray) ?_⟩
    · have hs : (sizeOf ts).run c.P w = .ok k w := by
        rcases hT with hT | ⟨hT, rfl⟩
        · exact (shp_agg hT).2
        · exact (shp_one hT).2
      have hsz : (a.eval y).cells.size = k := by rw [← Array.length_toList, ← hl1, hl]
      rw [show off + 0 = off from rfl, ← hl1, hl] at hst
      simp [execOp, hx', Instr.storeAt, Instr.sureAddr, storeVar, hs, hsz, hst]
    · simp only [List.toList_toArray]
      have hlen2 : (rows.set i row').flatten.length = rows.flatten.length := by rw [flatten_length_uni (uni_set hu hl), flatten_length_uni hu, List.length_set]
      refine bsC_all ?_ ?_ ?_
      · rw [hlen2, hset]
        have e1 : (vs.toList.take off ++ (a.eval y).cells.toList ++ vs.toList.drop (off + k)).take rows.flatten.length = (vs.toList.take rows.flatten.length).take off ++ (a.eval y).cells.toList ++ (vs.toList.take rows.flatten.length).drop (off + k) := by
          have hA : (vs.toList.take off ++ (a.eval y).cells.toList).length = off + k := by rw [List.length_append, List.length_take, ← hl1, hl, h4]; omega
          rw [List.take_append, hA, List.take_of_length_le (by rw [hA]; omega), List.take_take, Nat.min_eq_left (by omega), List.drop_take]
        rw [e1, ← hoff]
        exact ((h3.take off).append h1d).append (h3.drop (off + k))
      · simp only [List.length_append, List.length_take, List.length_drop, h4, hlen2, ← hl1, hl]
        omega
      · intro v hv
        simp only [List.mem_append] at hv
        rcases hv with (hv | hv) | hv
        · exact h5 v (List.mem_of_mem_take hv)
        · exact hone v hv
        · exact h5 v (List.mem_of_mem_drop hv)) hK

theorem replicate_get {α : Type} (l : List α) (hl : 0 < l.length) : ∀ (n j : Nat), j < n * l.length → (List.replicate n l).flatten[j]? = l[j % l.length]?
  | 0, j, h => by omega
  | n + 1, j, h => by
    rw [List.replicate_succ, List.flatten_cons]
    by_cases hj : j < l.length
    · rw [List.getElem?_append_left hj, Nat.mod_eq_of_lt hj]
    · rw [List.getElem?_append_right (by omega), replicate_get l hl n (j - l.length) (by rw [Nat.add_mul] at h; omega), ← Nat.mod_eq_sub_mod (by omega)]
/-- make of a slice, full length. -/
theorem op_makeSlice {x y : Operand} {tx e k b : Nat} {kx ky : IntKind} {n : Nat} {zs : List C} {zrow : List Dat} (hx : Has c st x (.one (.dat (.int kx (n : Int))))) (hy : Has c st y (.one (.dat (.int ky (n : Int))))) (hT : apT c.P tx = some (e, k, b)) (hzc : zeroC c.P e = some zs) (hzd : C.dats zs = some zrow)
    (hb : n * b ≤ 140737488355328) (hn : n ≤ 1000000000) (ht : Nat.blt t c.N = true)
    (hK : K (((st.mapC (C.scrub (.o t))).setB (.o t) (bsC (List.replicate n zrow).flatten 0)).put t (.one (.bs (.o t) k n n)))) : AOp c ⟨some t, .makeSlice tx x y, ty, pos, af, gd⟩ st K :=
  aop_world (st1 := (st.mapC (C.scrub (.o t))).setB (.o t) (bsC (List.replicate n zrow).flatten 0)) rfl ht (fun Φ a w hr => by
    obtain ⟨hu, i, z, hi, hz, hsz, hby, hzs, hk⟩ := apT_ok hT
    obtain ⟨i', z', hi', hz', hall⟩ := zeroC_ok hzc
    rw [hi] at hi'
    injection hi' with hi'
    subst hi'
    rw [hz] at hz'
    injection hz' with hz'
    subst hz'
    have e1 := (rv_int (hx Φ a w hr)).1
    have e2 := (rv_int (hy Φ a w hr)).1
    subst hsz
    have hby' : (i.bytes : Int) * (n : Int) ≤ 281474976710656 := by
      have : ((i.bytes * n : Nat) : Int) ≤ 281474976710656 := by rw [hby, Nat.mul_comm]; omega
      rwa [Int.natCast_mul] at this
    have hrun := run_make (P := c.P) w tx e i z hu hi hz kx ky n n (by omega) (Int.le_refl _) hby' (by omega)
    simp only [Int.toNat_natCast] at hrun
    have hzl : zrow.length = i.size := by rw [(C.dats_all (Φ := Φ) hzd (hall Φ)).length, Array.length_toList, hzs]
    have hzr := C.dats_all (Φ := Φ) hzd (hall Φ)
    have hone : ∀ v ∈ z.cells.toList, v.oneCell' = true := All2.right (R := RC Φ) (p := fun v => v.oneCell' = true) (fun x v hx => RC_one hx) (hall Φ)
    have hcells : All2 (RC Φ) (bsC (List.replicate n zrow).flatten 0) (madeCells z.cells (n * i.size)).toList := by
      have hl : (List.replicate n zrow).flatten.length = n * i.size := by
        rw [flatten_length_uni (k := i.size) (fun r hr => by rw [List.eq_of_mem_replicate hr, hzl]), List.length_replicate]
      have hml : (madeCells z.cells (n * i.size)).toList.length = n * i.size := by rw [Array.length_toList, size_madeCells]
      refine bsC_all ?_ (by rw [hml, hl]; rfl) ?_
      · rw [List.take_of_length_le (by rw [hml, hl]; omega)]
        refine All2.of_get (by rw [hl, hml]) fun j d v hd hv => ?_
        have hj : j < n * i.size := by rw [← hl]; exact (List.getElem?_eq_some_iff.1 hd).1
        rw [replicate_get zrow (by omega) n j (by rw [hzl]; exact hj), hzl] at hd
        have hjm : j % i.size < i.size := Nat.mod_lt _ hk
        have hv' : z.cells.toList[j % i.size]? = some v := by
          rw [← hv]
          simp only [madeCells, Array.toList_map, Array.toList_range, List.getElem?_map, List.getElem?_range hj, Option.map_some, hzs]
          rw [getElem!_pos z.cells _ (by omega)]
          simp [hzs, hjm]
        exact hzr.get2 hd hv'
      · intro v hv
        simp only [madeCells, Array.toList_map, List.mem_map] at hv
        obtain ⟨j, _, rfl⟩ := hv
        by_cases hkk : j % z.cells.size < z.cells.size
        · rw [getElem!_pos z.cells _ hkk]
          exact hone _ (by simp)
        · rw [getElem!_neg z.cells _ hkk]
          rfl
    have hbox := hr.newBox (t := t) (vs := madeCells z.cells (n * i.size)) e hcells
    rw [bsC_scrub] at hbox
    refine ⟨_, _, .slice (some ⟨w.heap.size, 0, none⟩) n n, ?_, hbox, ?_⟩
    · simp [execOp, e1, e2, hrun]
    · rw [RV, RC]
      exact ⟨by simp only [updR_same], Nat.le_refl _, by have hmax : maxLen = 9223372036854775807 := rfl; omega⟩) hK

/-! ### A box's row given away as data -/
def C.freeze (r : Ref) (rows : List (List Dat)) : C → C
  | .ref s off => bif Ref.beq s r then .any else .ref s off
  | .bs s k len cap => bif Ref.beq s r then (bif Nat.beq len rows.length then .dat (.sl rows) else .any) else .bs s k len cap
  | .map s => bif Ref.beq s r then .any else .map s
  | .fn f caps => bif memR r caps then .any else .fn f caps
  | c => c
theorem le_freeze {u k p : Nat} {rows : List (List Dat)} (hb : st.bx (.o u) = some (bsC rows.flatten p)) (hu : Uni k rows) (hk : 0 < k) : Le c st ((st.mapC (C.freeze (.o u) rows)).delB (.o u)) := fun Φ a w hr => by
  obtain ⟨o, hh, hbo⟩ := hr.boxes _ _ hb
  obtain ⟨cur, e, rfl, hcur⟩ := hbo.cells (mapBox_bsC _ _)
  obtain ⟨h3, h4, h5⟩ := bsC_vals hcur
  obtain ⟨hAn, hown⟩ := hr.own _ _ hb
  have hbase : c.w0.heap.size ≤ Φ.μ (.o u) := by
    rcases hown with h | ⟨_, j, h⟩
    · exact h
    · cases h
  have hg : Grows Φ.A (fun b => if b = Φ.μ (.o u) then some cur.toList else Φ.A b) := fun b us hbs => by
    refine ⟨[], ?_⟩
    have : b ≠ Φ.μ (.o u) := fun he => by rw [he, hAn] at hbs; cases hbs
    simp [this, hbs]
  have hrd : RDs (fun b => if b = Φ.μ (.o u) then some cur.toList else Φ.A b) rows.flatten cur.toList := by
    have h6 := RDs_of_All2 h3
    rw [RDs_iff] at h6 ⊢
    intro j d hd
    obtain ⟨v, hv, hrv⟩ := h6 j d hd
    rw [List.getElem?_take_of_lt (by have := (List.getElem?_eq_some_iff.1 hd).1; omega)] at hv
    exact ⟨v, hv, RD_grows hg d v hrv⟩
  have hf : ∀ x v, RC Φ x v → RC { Φ with A := fun b => if b = Φ.μ (.o u) then some cur.toList else Φ.A b } (C.freeze (.o u) rows x) v := by
    intro x v hx
    have h1 := RC_one hx
    cases x with
    | dat d => exact RD_grows hg d v hx
    | slt q rows => exact ⟨RD_grows hg _ v hx.1, hx.2⟩
    | imm ds =>
      obtain ⟨b, o, us, hv, hA', hrr⟩ := hx
      obtain ⟨ws, hw⟩ := hg b us hA'
      refine ⟨b, o, us ++ ws, hv, hw, ?_⟩
      have := RDs_grows hg ds _ hrr
      rw [RDs_iff] at this ⊢
      intro j d hd
      obtain ⟨v, hv, hr⟩ := this j d hd
      exact ⟨v, drop_append_some hv, hr⟩
    | nilsl => exact hx
    | ref s off => cases hb' : Ref.beq s (.o u) <;> simp only [C.freeze, hb', cond_true, cond_false] <;> first | exact hx | exact h1
    | nilp => exact hx
    | bs s k' len cap =>
      cases hb' : Ref.beq s (.o u) with
      | false => simp only [C.freeze, hb', cond_false]; exact hx
      | true =>
        simp only [C.freeze, hb', cond_true]
        cases hl : Nat.beq len rows.length with
        | false => exact h1
        | true =>
          simp only [cond_true]
          have hs := (Ref.beq_iff s (.o u)).1 hb'
          subst hs
          have hle := (nbeq_iff _ _).1 hl
          subst hle
          have hx' : v = .slice (some ⟨Φ.μ (.o u), 0, none⟩) rows.length cap ∧ rows.length ≤ cap ∧ cap ≤ maxLen := hx
          show RD _ (.sl rows) v
          rw [RD]
          refine ⟨_, cap, hx'.1, hx'.2.1, hx'.2.2, .inr ⟨k, _, 0, cur.toList, hk, hu, rfl, by simp, ?_⟩⟩
          rw [RDss_flat, List.drop_zero]
          exact hrd
    | fn f caps => cases hb' : memR (.o u) caps <;> simp only [C.freeze, hb', cond_true, cond_false] <;> first | exact hx | exact h1
    | map s => cases hb' : Ref.beq s (.o u) <;> simp only [C.freeze, hb', cond_true, cond_false] <;> first | exact hx | exact h1
    | mapc m => exact hx
    | any => exact hx
  have key : ∀ s us, ((st.mapC (C.freeze (.o u) rows)).delB (.o u)).bx s = some us → ∃ us', st.bx s = some us' ∧ us = us'.map (C.freeze (.o u) rows) ∧ Φ.μ s ≠ Φ.μ (.o u) := by
    intro s us hs
    simp only [St.delB] at hs
    cases hb' : Ref.beq s (.o u) with
    | true => rw [hb'] at hs; cases hs
    | false =>
      rw [hb'] at hs
      simp only [cond_false, St.mapC, Option.map_eq_some_iff] at hs
      obtain ⟨us', h1, rfl⟩ := hs
      refine ⟨us', h1, rfl, fun he => ?_⟩
      have := hr.inj s (.o u) us' _ h1 hb he
      rw [this, Ref.beq_self] at hb'
      cases hb'
  refine ⟨{ Φ with A := fun b => if b = Φ.μ (.o u) then some cur.toList else Φ.A b }, hr.size, hr.defers, ?_, ?_, ?_, ?_, ?_, hr.tinj, ?_, hr.ext, ?_, hr.grow.trans hg, hr.fr⟩
  · intro s v hs
    simp only [St.delB, St.mapC, Option.map_eq_some_iff] at hs
    obtain ⟨x, hx, rfl⟩ := hs
    exact RV_mapC (Φ := Φ) (Φ' := { Φ with A := fun b => if b = Φ.μ (.o u) then some cur.toList else Φ.A b }) hg hf _ _ (hr.slots s x hx)
  · intro s us hs
    obtain ⟨us', h1, rfl, hne⟩ := key s us hs
    obtain ⟨o', h6, h7⟩ := hr.boxes s us' h1
    exact ⟨o', h6, h7.mapC (Φ := Φ) (Φ' := { Φ with A := fun b => if b = Φ.μ (.o u) then some cur.toList else Φ.A b }) hf (keepM_same hg rfl fun m => rfl)⟩
  · intro s us hs
    obtain ⟨us', h1, rfl, hne⟩ := key s us hs
    have := hr.own s us' h1
    exact ⟨by simp only [if_neg hne]; exact this.1, this.2⟩
  · intro s s' us us' hs hs' hm
    obtain ⟨x, h1, _, _⟩ := key s us hs
    obtain ⟨x', h1', _, _⟩ := key s' us' hs'
    exact hr.inj s s' x x' h1 h1' hm
  · intro q e' k' hq
    obtain ⟨n, xs, hk', ho, hA⟩ := hr.toks q e' k' hq
    refine ⟨n, xs, hk', ho, fun g hgg => ?_⟩
    have h1 := hA g hgg
    have : g ≠ Φ.μ (.o u) := fun he => by rw [he, hAn] at h1; cases h1
    simp only [if_neg this]
    exact h1
  · intro b us hbs
    by_cases hbe : b = Φ.μ (.o u)
    · subst hbe
      simp only [if_true, Option.some.injEq] at hbs
      subst hbs
      exact ⟨cur, e, (0, 0), hh, [], by simp⟩
    · simp only [if_neg hbe] at hbs
      exact hr.arr b us hbs
  · intro b hlt
    have : b ≠ Φ.μ (.o u) := by omega
    simp only [if_neg this]
    exact hr.oldA b hlt

/-- A nil slice in a box taken for an owned one of no element. -/
theorem le_adoptB {r : Ref} {off q e k : Nat} {cs : List C} (hk : 0 < k) (hb : st.bx r = some cs) (hu : cs[off]? = some .nilsl) (hmb : mapBox cs = false) :
    Le c st ((((st.mapC (C.unq q)).setT q none).setT q (some (e, k))).setB r ((cs.map (C.unq q)).set off (.slt q []))) := fun Φ a w hr => by
  have hd := hr.dropTok q (.slice none 0 0)
  obtain ⟨o, hh, hbo⟩ := hr.boxes r cs hb
  obtain ⟨vs, e0, rfl, h2⟩ := hbo.cells hmb
  obtain ⟨v0, hv0, hr0⟩ := h2.get off _ hu
  rw [RC] at hr0
  refine ⟨_, hd.size, hd.defers, hd.slots, ?_, ?_, ?_, ?_, ?_, hd.arr, hd.ext, hd.oldA, hd.grow, hd.fr⟩
  · intro s us hs
    by_cases hsr : s = r
    · subst hsr
      simp only [St.setB, Ref.beq_self, cond_true, Option.some.injEq] at hs
      subst hs
      refine ⟨_, hh, .inl ⟨vs, e0, rfl, ?_⟩⟩
      have h3 : All2 (RC { Φ with τ := fun p => bif Nat.beq p q then (.slice none 0 0) else Φ.τ p }) (cs.map (C.unq q)) vs.toList :=
        All2_mapC (Φ := Φ) (Φ' := { Φ with τ := fun p => bif Nat.beq p q then (.slice none 0 0) else Φ.τ p }) (f := C.unq q) (fun x v hx => RC_unq hx) h2
      refine All2.of_get (by rw [List.length_set]; exact h3.length) fun j x v hx hv => ?_
      by_cases hj : off = j
      · subst hj
        rw [List.getElem?_set_self (by rw [List.length_map]; exact (List.getElem?_eq_some_iff.1 hu).1)] at hx
        injection hx with hx
        subst hx
        rw [hv0] at hv
        injection hv with hv
        subst hv
        rw [hr0, RC]
        refine ⟨?_, by simp⟩
        rw [RD]
        exact ⟨none, 0, rfl, Nat.le_refl _, Nat.zero_le _, .inl rfl⟩
      · rw [List.getElem?_set_ne hj] at hx
        exact h3.get2 hx hv
    · simp only [St.setB, Ref.beq_false hsr, cond_false] at hs
      exact hd.boxes s us hs
  · intro s us hs
    by_cases hsr : s = r
    · subst hsr
      exact hr.own s cs hb
    · simp only [St.setB, Ref.beq_false hsr, cond_false] at hs
      exact hd.own s us hs
  · have key : ∀ s us, ((((st.mapC (C.unq q)).setT q none).setT q (some (e, k))).setB r ((cs.map (C.unq q)).set off (.slt q []))).bx s = some us → ∃ us', st.bx s = some us' := by
      intro s us hs
      by_cases hsr : s = r
      · exact ⟨cs, hsr ▸ hb⟩
      · simp only [St.setB, Ref.beq_false hsr, cond_false, St.setT, St.mapC, Option.map_eq_some_iff] at hs
        obtain ⟨us', h1, _⟩ := hs
        exact ⟨us', h1⟩
    intro s s' us us' hs hs' hm
    obtain ⟨x, hx⟩ := key s us hs
    obtain ⟨x', hx'⟩ := key s' us' hs'
    exact hr.inj s s' x x' hx hx' hm
  · intro p e' k' hp
    simp only [St.setB, St.setT] at hp
    cases hb : Nat.beq p q with
    | true =>
      rw [hb] at hp
      simp only [cond_true, Option.some.injEq, Prod.mk.injEq] at hp
      obtain ⟨rfl, rfl⟩ := hp
      simp only [hb, cond_true]
      exact ⟨0, [], hk, World.ownsRow_nil _ _ _ _, fun g hg => by simp [Value.ownBlock] at hg⟩
    | false =>
      rw [hb] at hp
      exact hd.toks p e' k' (by simpa [St.setT, hb] using hp)
  · intro p p' x x' g hp hp' h1 h2
    simp only [St.setB, St.setT] at hp hp'
    cases hb : Nat.beq p q with
    | true =>
      simp only [hb, cond_true] at h1
      simp [Value.ownBlock] at h1
    | false =>
      cases hb' : Nat.beq p' q with
      | true =>
        simp only [hb', cond_true] at h2
        simp [Value.ownBlock] at h2
      | false =>
        rw [hb] at hp
        rw [hb'] at hp'
        exact hd.tinj p p' x x' g (by simpa [St.setT, hb] using hp) (by simpa [St.setT, hb'] using hp') h1 h2
end
end Go.TQ
