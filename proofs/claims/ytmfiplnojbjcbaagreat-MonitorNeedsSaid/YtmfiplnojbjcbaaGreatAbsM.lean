/- Rules for the operations on memory, over abstract states. Own work. -/
import Derived.Test.YtmfiplnojbjcbaaGreatAbsO
set_option linter.unusedVariables false
set_option linter.unusedSimpArgs false
namespace Go.TQ

section
variable {Φ : Cx} {c : Ctx} {st : St} {a : Act} {w : World}
theorem addr_add (b o j : Nat) : (⟨b, o, none⟩ : Addr).add j = ⟨b, o + j, none⟩ := by unfold Addr.add; split <;> simp_all
theorem cell_arr {A : Arr} (h : ArrOK A w) {b : Nat} {vs : List Value} (hb : A b = some vs) {j : Nat} {v : Value} (hj : vs[j]? = some v) : w.cell? ⟨b, j, none⟩ = some v := by
  obtain ⟨cur, e, fr, h1, us, h2⟩ := h b vs hb
  have : cur.toList[j]? = some v := by rw [h2, List.getElem?_append_left (List.getElem?_eq_some_iff.1 hj).1]; exact hj
  simp [World.cell?, h1]
  simpa using this
theorem cell_box {w : World} {b : Nat} {vs : Array Value} {e : TypeId} {fr : Nat × Nat} (h : w.heap[b]? = some (.cells vs e fr)) (j : Nat) : w.cell? ⟨b, j, none⟩ = vs.toList[j]? := by
  simp [World.cell?, h]

/-- Where a slice that is data has its cells. -/
theorem rows_at {rows : List (List Dat)} {b o k : Nat} {vs : List Value} {A : Arr} (hu : Uni k rows) (hA : A b = some vs) (hs : RDss A rows (vs.drop o)) {i : Nat} {row : List Dat} (hi : rows[i]? = some row) :
    RDs A row (vs.drop (o + i * k)) := by
  rw [RDss_flat, RDs_iff] at hs
  rw [RDs_iff]
  intro j d hj
  have hflat : rows.flatten[i * k + j]? = some d := by
    clear hs hA
    induction rows generalizing i with
    | nil => simp at hi
    | cons r rs ih =>
      have hr : r.length = k := hu r (by simp)
      cases i with
      | zero =>
        simp at hi
        subst hi
        rw [List.flatten_cons, Nat.zero_mul, Nat.zero_add, List.getElem?_append_left (List.getElem?_eq_some_iff.1 hj).1]
        exact hj
      | succ i =>
        have := ih (fun x hx => hu x (by simp [hx])) (by simpa using hi)
        rw [List.flatten_cons, List.getElem?_append_right (by rw [hr, Nat.succ_mul]; omega), hr, Nat.succ_mul]
        rwa [show i * k + k + j - k = i * k + j by omega]
  obtain ⟨v, hv, hd⟩ := hs _ d hflat
  refine ⟨v, ?_, hd⟩
  rw [List.getElem?_drop] at hv ⊢
  rwa [show o + i * k + j = o + (i * k + j) by omega]
end

section
variable {c : Ctx} {st : St} {K : St → Prop} {t ty : Nat} {pos : String} {af : Array Edge} {gd : Option (Nat × Bool)}

/-- A slice as data, in whatever form it stands. -/
def slD : V → Option (List (List Dat))
  | .one (.dat (.sl rows)) => some rows
  | .one .nilsl => some []
  | .one (.slt _ rows) => some rows
  | _ => none
theorem slD_ok {Φ : Cx} {v : V} {x : Value} {rows : List (List Dat)} (h : slD v = some rows) (hv : RV Φ v x) : RV Φ (.one (.dat (.sl rows))) x := by
  unfold slD at h
  split at h <;> try (cases h; done)
  · injection h with h; subst h; exact hv
  · injection h with h; subst h; exact RV_norm _ _ hv
  · injection h with h; subst h; exact RV_norm _ _ hv

theorem zln {x : Operand} {tx : TypeId} {v : V} {rows : List (List Dat)} {e n : Nat} (hx : Has c st x v) (hv : slD v = some rows) (hT : slE c.P tx = some (e, n)) (ht : Nat.blt t c.N = true)
    (hK : (rows.length : Int) ≤ 9223372036854775807 → K (st.put t (.one (.dat (.int .i64 rows.length))))) :
    AOp c ⟨some t, .call ⟨.builtin .len, #[x], #[tx]⟩, ty, pos, af, gd⟩ st K := by
  intro Φ a w hr K' Q hQ
  obtain ⟨b, cap, hx', hl, hm, _⟩ := rv_sl (slD_ok hv (hx Φ a w hr))
  have hmax : maxLen = 9223372036854775807 := rfl
  have hle : (rows.length : Int) ≤ 9223372036854775807 := by omega
  have hin : InK .i64 rows.length := by simp [InK, IntKind.min, IntKind.max, IntKind.signed, IntKind.bits]; omega
  refine aop_pure (v := .one (.dat (.int .i64 rows.length))) rfl ht (fun Φ a w hr => ?_) (hK hle) Φ a w hr K' Q hQ
  obtain ⟨b, cap, hx', _⟩ := rv_sl (slD_ok hv (hx Φ a w hr))
  exact ⟨.int .i64 rows.length, by simp [execOp, resolve, invoke, builtin, hx', Builtin.len_, run_underlying (slE_ok hT).1, goInt], rv_mk_int hin⟩
theorem op_len_str {x : Operand} {tx : TypeId} {s : ByteArray} (hx : Has c st x (.one (.dat (.str s)))) (hT : c.P.underlying tx = some .string) (ht : Nat.blt t c.N = true)
    (hK : (s.size : Int) ≤ 9223372036854775807 → K (st.put t (.one (.dat (.int .i64 s.size))))) :
    AOp c ⟨some t, .call ⟨.builtin .len, #[x], #[tx]⟩, ty, pos, af, gd⟩ st K := by
  intro Φ a w hr K' Q hQ
  obtain ⟨hx', hl⟩ := rv_str (hx Φ a w hr)
  have hmax : maxLen = 9223372036854775807 := rfl
  have hle : (s.size : Int) ≤ 9223372036854775807 := by omega
  have hin : InK .i64 s.size := by simp [InK, IntKind.min, IntKind.max, IntKind.signed, IntKind.bits]; omega
  refine aop_pure (v := .one (.dat (.int .i64 s.size))) rfl ht (fun Φ a w hr => ?_) (hK hle) Φ a w hr K' Q hQ
  have hx' := (rv_str (hx Φ a w hr)).1
  exact ⟨.int .i64 s.size, by simp [execOp, resolve, invoke, builtin, hx', Builtin.len_, run_underlying hT, goInt], rv_mk_int hin⟩

theorem op_indexAddr {x y : Operand} {tx : TypeId} {v : V} {rows : List (List Dat)} {row : List Dat} {k : IntKind} {i : Int} {e n : Nat} (hx : Has c st x v) (hv : slD v = some rows) (hy : Has c st y (.one (.dat (.int k i)))) (hT : slE c.P tx = some (e, n))
    (h0 : 0 ≤ i) (hrow : rows[i.toNat]? = some row) (hn : row.length = n) (ht : Nat.blt t c.N = true) (hK : K (st.put t (.one (.imm row)))) :
    AOp c ⟨some t, .indexAddr tx x y, ty, pos, af, gd⟩ st K :=
  aop_pure rfl ht (fun Φ a w hr => by
    obtain ⟨b, cap, hx', hl, hm, hrr⟩ := rv_sl (slD_ok hv (hx Φ a w hr))
    have hy' := (rv_int (hy Φ a w hr)).1
    obtain ⟨hu, inf, hi, hsz⟩ := slE_ok hT
    have hlt : i.toNat < rows.length := (List.getElem?_eq_some_iff.1 hrow).1
    rcases hrr with rfl | ⟨k', bb, o, vs, hk, hun, rfl, hA, hss⟩
    · simp at hrow
    · have hkn : k' = n := by rw [← hn]; exact (hun row (List.mem_of_getElem? hrow)).symm
      subst hkn
      refine ⟨.pointer (some ⟨bb, o + i.toNat * k', none⟩), ?_, ?_⟩
      · have h1 : 0 ≤ i ∧ i < (rows.length : Int) := ⟨h0, by omega⟩
        simp [execOp, hx', hy', Instr.indexAt, run_underlying hu, asIntOf, h1.1, h1.2, sizeOf, typeInfo, hi, hsz, addr_add]
      · rw [RV, RC]
        exact ⟨bb, _, vs, rfl, hA, rows_at hun hA hss hrow⟩) hK
theorem op_indexAddr_box {x y : Operand} {tx : TypeId} {r : Ref} {kk len cap : Nat} {k : IntKind} {i : Int} {e : Nat} (hx : Has c st x (.one (.bs r kk len cap))) (hy : Has c st y (.one (.dat (.int k i)))) (hT : slE c.P tx = some (e, kk))
    (h0 : 0 ≤ i) (h1 : i < (len : Int)) (ht : Nat.blt t c.N = true) (hK : K (st.put t (.one (.ref r (i.toNat * kk))))) :
    AOp c ⟨some t, .indexAddr tx x y, ty, pos, af, gd⟩ st K :=
  aop_pure rfl ht (fun Φ a w hr => by
    have hx' := hx Φ a w hr
    rw [RV, RC] at hx'
    obtain ⟨hx', _⟩ := hx'
    have hy' := (rv_int (hy Φ a w hr)).1
    obtain ⟨hu, inf, hi, hsz⟩ := slE_ok hT
    refine ⟨.pointer (some ⟨Φ.μ r, i.toNat * kk, none⟩), ?_, ?_⟩
    · simp [execOp, hx', hy', Instr.indexAt, run_underlying hu, asIntOf, h0, h1, sizeOf, typeInfo, hi, hsz, addr_add]
    · rw [RV, RC]) hK

theorem zfa {x : Operand} {s f o : Nat} {r : Ref} {off : Nat} (hx : Has c st x (.one (.ref r off))) (hT : fo c.P s f = some o) (ht : Nat.blt t c.N = true) (hK : K (st.put t (.one (.ref r (off + o))))) :
    AOp c ⟨some t, .fieldAddr s x f, ty, pos, af, gd⟩ st K :=
  aop_pure rfl ht (fun Φ a w hr => by
    have hx' := rv_ref (hx Φ a w hr)
    refine ⟨.pointer (some ⟨Φ.μ r, off + o, none⟩), ?_, by rw [RV, RC]⟩
    have := fo_ok (w := w) hT ⟨Φ.μ r, off, none⟩
    simp [execOp, hx', this, addr_add]) hK
theorem op_fieldAddr_imm {x : Operand} {s f o : Nat} {ds : List Dat} (hx : Has c st x (.one (.imm ds))) (hT : fo c.P s f = some o) (ht : Nat.blt t c.N = true) (hK : K (st.put t (.one (.imm (ds.drop o))))) :
    AOp c ⟨some t, .fieldAddr s x f, ty, pos, af, gd⟩ st K :=
  aop_pure rfl ht (fun Φ a w hr => by
    obtain ⟨b, oo, vs, hx', hA, hs⟩ := rv_imm (hx Φ a w hr)
    have := fo_ok (w := w) hT ⟨b, oo, none⟩
    refine ⟨.pointer (some ⟨b, oo + o, none⟩), by simp [execOp, hx', this, addr_add], ?_⟩
    rw [RV, RC]
    refine ⟨b, oo + o, vs, rfl, hA, ?_⟩
    rw [RDs_iff] at hs ⊢
    intro j d hj
    rw [List.getElem?_drop] at hj
    obtain ⟨v, hv, hd⟩ := hs _ d hj
    refine ⟨v, ?_, hd⟩
    rw [List.getElem?_drop] at hv ⊢
    rwa [show oo + o + j = oo + (o + j) by omega]) hK

/-! ### load -/
theorem zld {x : Operand} {tl n : Nat} {r : Ref} {off : Nat} {cs us : List C} (hx : Has c st x (.one (.ref r off))) (hT : shp c.P tl = some (some n)) (hb : st.bx r = some cs) (hus : (cs.drop off).take n = us) (hl : us.length = n)
    (ht : Nat.blt t c.N = true) (hK : K (st.put t (.agg us))) (hmb : mapBox cs = false := by rfl) : AOp c ⟨some t, .load tl x, ty, pos, af, gd⟩ st K :=
  aop_pure rfl ht (fun Φ a w hr => by
    have hx' := rv_ref (hx Φ a w hr)
    obtain ⟨o, hh, hbo⟩ := hr.boxes r cs hb
    obtain ⟨vs, e, rfl, h2⟩ := hbo.cells hmb
    have hlen := h2.length
    subst hus
    have h3 := (h2.drop off).take n
    have h3l := h3.length
    rw [hl] at h3l
    refine ⟨.agg ((vs.toList.drop off).take n).toArray, ?_, by rw [RV]; exact ⟨_, rfl, h3⟩⟩
    have hload : (loadCells ⟨Φ.μ r, off, none⟩ n).run c.P w = .ok ((vs.toList.drop off).take n).toArray w := by
      have := run_loadCells_list (P := c.P) w ⟨Φ.μ r, off, none⟩ ((vs.toList.drop off).take n) (fun j v hj => by
        rw [addr_add, cell_box hh]
        rw [List.getElem?_take_of_lt (by have := (List.getElem?_eq_some_iff.1 hj).1; rw [List.length_take] at this; omega), List.getElem?_drop] at hj
        exact hj)
      rwa [← h3l] at this
    have hs := shp_agg (w := w) hT
    simp [execOp, hx', Instr.loadAt, Instr.sureAddr, loadVar, hs.1, hs.2, hload]) hK
theorem zl1 {x : Operand} {tl : Nat} {r : Ref} {off : Nat} {cs : List C} {u : C} (hx : Has c st x (.one (.ref r off))) (hT : shp c.P tl = some none) (hb : st.bx r = some cs) (hu : cs[off]? = some u)
    (ht : Nat.blt t c.N = true) (hK : K (st.put t (.one u))) (hmb : mapBox cs = false := by rfl) : AOp c ⟨some t, .load tl x, ty, pos, af, gd⟩ st K :=
  aop_pure rfl ht (fun Φ a w hr => by
    have hx' := rv_ref (hx Φ a w hr)
    obtain ⟨o, hh, hbo⟩ := hr.boxes r cs hb
    obtain ⟨vs, e, rfl, h2⟩ := hbo.cells hmb
    obtain ⟨v, hv, hrv⟩ := h2.get off u hu
    refine ⟨v, ?_, by rw [RV]; exact hrv⟩
    have hs := shp_one (w := w) hT
    have hc : w.cell? ⟨Φ.μ r, off, none⟩ = some v := by rw [cell_box hh]; exact hv
    simp [execOp, hx', Instr.loadAt, Instr.sureAddr, loadVar, hs.1, hc]) hK
theorem op_load_imm {x : Operand} {tl n : Nat} {ds us : List Dat} (hx : Has c st x (.one (.imm ds))) (hT : shp c.P tl = some (some n)) (hus : ds.take n = us) (hl : us.length = n)
    (ht : Nat.blt t c.N = true) (hK : K (st.put t (.aggd us))) : AOp c ⟨some t, .load tl x, ty, pos, af, gd⟩ st K :=
  aop_pure rfl ht (fun Φ a w hr => by
    obtain ⟨b, o, vs, hx', hA, hs⟩ := rv_imm (hx Φ a w hr)
    subst hus
    have h3 := (All2_of_RDs hs).take n
    have h3l := h3.length
    rw [hl] at h3l
    refine ⟨.agg (((vs.drop o).take ds.length).take n).toArray, ?_, by rw [RV]; exact ⟨_, rfl, h3⟩⟩
    have hload : (loadCells ⟨b, o, none⟩ n).run c.P w = .ok (((vs.drop o).take ds.length).take n).toArray w := by
      have := run_loadCells_list (P := c.P) w ⟨b, o, none⟩ (((vs.drop o).take ds.length).take n) (fun j v hj => by
        rw [addr_add]
        refine cell_arr hr.arr hA ?_
        have hlt := (List.getElem?_eq_some_iff.1 hj).1
        rw [List.length_take, List.length_take] at hlt
        rw [List.getElem?_take_of_lt (by omega), List.getElem?_take_of_lt (by omega), List.getElem?_drop] at hj
        exact hj)
      rwa [← h3l] at this
    have hs := shp_agg (w := w) hT
    simp [execOp, hx', Instr.loadAt, Instr.sureAddr, loadVar, hs.1, hs.2, hload]) hK
theorem op_load_imm1 {x : Operand} {tl : Nat} {ds : List Dat} {d : Dat} (hx : Has c st x (.one (.imm ds))) (hT : shp c.P tl = some none) (hd : ds[0]? = some d)
    (ht : Nat.blt t c.N = true) (hK : K (st.put t (.one (.dat d)))) : AOp c ⟨some t, .load tl x, ty, pos, af, gd⟩ st K :=
  aop_pure rfl ht (fun Φ a w hr => by
    obtain ⟨b, o, vs, hx', hA, hs⟩ := rv_imm (hx Φ a w hr)
    rw [RDs_iff] at hs
    obtain ⟨v, hv, hrd⟩ := hs 0 d hd
    rw [List.getElem?_drop, Nat.add_zero] at hv
    refine ⟨v, ?_, by rw [RV, RC]; exact hrd⟩
    have hs := shp_one (w := w) hT
    have hc : w.cell? ⟨b, o, none⟩ = some v := cell_arr hr.arr hA hv
    simp [execOp, hx', Instr.loadAt, Instr.sureAddr, loadVar, hs.1, hc]) hK

/-! ### The cells of a value -/
def V.cells : V → Option (List C)
  | .one x => some [x]
  | .agg cs => some cs
  | .aggd ds => some (ds.map .dat)
  | _ => none
theorem cells_ok {Φ : Cx} {v : V} {x : Value} {cs : List C} (h : v.cells = some cs) (hv : RV Φ v x) : All2 (RC Φ) cs x.cells.toList := by
  cases v with
  | one y =>
    simp only [V.cells, Option.some.injEq] at h
    subst h
    rw [RV] at hv
    have h1 := RC_one hv
    have : x.cells = #[x] := by cases x <;> first | rfl | (simp [Value.oneCell'] at h1)
    rw [this]
    exact ⟨hv, trivial⟩
  | agg us =>
    simp only [V.cells, Option.some.injEq] at h
    subst h
    rw [RV] at hv
    obtain ⟨vs, rfl, h2⟩ := hv
    simpa [Value.cells] using h2
  | aggd ds =>
    simp only [V.cells, Option.some.injEq] at h
    subst h
    rw [RV] at hv
    obtain ⟨vs, rfl, h2⟩ := hv
    simpa [Value.cells] using (All2.map_left (R := RC Φ) C.dat).1 (h2.mono fun d v hd => by rw [RC]; exact hd)
  | tup vs => simp [V.cells] at h
  | cond p v => simp [V.cells] at h

/-! ### store, alloc, box -/
theorem zst {x y : Operand} {ts n : Nat} {r : Ref} {off : Nat} {cs us : List C} {v : V} (hx : Has c st x (.one (.ref r off))) (hy : Has c st y v) (hv : v.cells = some us) (hT : shp c.P ts = some (some n) ∨ (shp c.P ts = some none ∧ n = 1)) (hn : us.length = n)
    (hb : st.bx r = some cs) (hle : off + n ≤ cs.length) (hK : K (st.setB r (cs.take off ++ us ++ cs.drop (off + n)))) (hmb : mapBox cs = false := by rfl) : AOp c ⟨none, .store ts x y, ty, pos, af, gd⟩ st K :=
  aop_skip rfl (fun Φ a w hr => by
    have hx' := rv_ref (hx Φ a w hr)
    have h1 := cells_ok hv (hy Φ a w hr)
    obtain ⟨o, hh, hbo⟩ := hr.boxes r cs hb
    obtain ⟨vs, e, rfl, h2⟩ := hbo.cells hmb
    have hl1 := h1.length
    have hl2 := h2.length
    have hone : ∀ u ∈ (a.eval y).cells.toList, u.oneCell' = true := All2.right (R := RC Φ) (p := fun v => v.oneCell' = true) (fun x v hx => RC_one hx) h1
    have hst := run_storeCells_at c.P (Φ.μ r) off e (a.eval y).cells.toList 0 vs w hh (by rw [← hl1, hn]; simp at hl2; omega) hone
    refine ⟨Φ, _, ?_, hr.write hb hmb (vs' := (vs.toList.take off ++ (a.eval y).cells.toList ++ vs.toList.drop (off + n)).toArray) ?_⟩
    · have hs : (sizeOf ts).run c.P w = .ok n w := by
        rcases hT with hT | ⟨hT, rfl⟩
        · exact (shp_agg hT).2
        · exact (shp_one hT).2
      have hsz : (a.eval y).cells.size = n := by rw [← Array.length_toList, ← hl1, hn]
      rw [show off + 0 = off from rfl, ← hl1, hn] at hst
      simp [execOp, hx', Instr.storeAt, Instr.sureAddr, storeVar, hs, hsz, hst]
    · simp only [List.toList_toArray]
      exact ((h2.take off).append h1).append (h2.drop (off + n))) hK

theorem zal {te : Nat} {cs : List C} (hT : zeroC c.P te = some cs) (ht : Nat.blt t c.N = true)
    (hK : K (((st.mapC (C.scrub (.o t))).setB (.o t) (cs.map (C.scrub (.o t)))).put t (.one (.ref (.o t) 0)))) : AOp c ⟨some t, .alloc te, ty, pos, af, gd⟩ st K :=
  aop_world rfl ht (fun Φ a w hr => by
    obtain ⟨i, z, hi, hz, hcs⟩ := zeroC_ok hT
    refine ⟨_, _, .pointer (some ⟨w.heap.size, 0, none⟩), ?_, hr.newBox (vs := z.cells) te (hcs Φ), ?_⟩
    · simp [execOp, Instr.alloc, zeroValue, typeInfo, hi, hz, newVar, newRow]
    · rw [RV, RC]
      simp only [updR_same]) hK
theorem zbx {te : Nat} {y : Operand} {v : V} {cs : List C} (hy : Has c st y v) (hv : v.cells = some cs) (ht : Nat.blt t c.N = true)
    (hK : K (((st.mapC (C.scrub (.o t))).setB (.o t) (cs.map (C.scrub (.o t)))).put t (.one (.ref (.o t) 0)))) : AOp c ⟨some t, .box te y, ty, pos, af, gd⟩ st K :=
  aop_world rfl ht (fun Φ a w hr => by
    have h1 := cells_ok hv (hy Φ a w hr)
    refine ⟨_, _, .pointer (some ⟨w.heap.size, 0, none⟩), ?_, hr.newBox (vs := (a.eval y).cells) te h1, ?_⟩
    · simp [execOp, Instr.box, newVar, newRow]
    · rw [RV, RC]
      simp only [updR_same]) hK
end
end Go.TQ
