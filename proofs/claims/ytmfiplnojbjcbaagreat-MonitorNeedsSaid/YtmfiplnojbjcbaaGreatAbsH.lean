/- Slices whose cells lie in a box of their own: made, appended to, read and written row by row, and given away as data. Own work. -/
import Derived.Test.YtmfiplnojbjcbaaGreatAbsG
set_option linter.unusedVariables false
set_option linter.unusedSimpArgs false
namespace Go.TQ
section
variable {c : Ctx} {st : St} {Φ : Cx} {a : Act} {w : World}

/-- A new block changes nothing that is told. -/
theorem Rel.allocd (h : Rel c st Φ a w) (o : Obj) : Rel c st Φ a (w.alloc o) where
  size := h.size
  defers := h.defers
  slots := h.slots
  boxes := by
    intro r cs hr
    obtain ⟨o', h1, h2⟩ := h.boxes r cs hr
    exact ⟨o', (heap_alloc_old w _ _ (lt_of_heap h1)).trans h1, h2⟩
  own := h.own
  inj := h.inj
  toks := by
    intro q e' k hq
    obtain ⟨n, xs, hk, ho, hg⟩ := h.toks q e' k hq
    exact ⟨n, xs, hk, ho.alloc _, hg⟩
  tinj := h.tinj
  arr := arr_alloc h.arr _
  ext := h.ext
  oldA := h.oldA
  grow := h.grow
  fr := frm_alloc h.fr _

/-- A block that nobody else holds gets the name .o t. -/
theorem Rel.adopt (h : Rel c st Φ a w) {t b : Nat} {o : Obj} {cs : List C} (hh : w.heap[b]? = some o) (hcs : BoxOK Φ cs o) (hA : Φ.A b = none) (hb : c.w0.heap.size ≤ b)
    (hne : ∀ s us, st.bx s = some us → s ≠ .o t → Φ.μ s ≠ b) :
    Rel c ((st.mapC (C.scrub (.o t))).setB (.o t) (cs.map (C.scrub (.o t)))) { Φ with μ := updR Φ.μ (.o t) b } a w where
  size := h.size
  defers := h.defers
  slots := by
    intro s v hs
    simp only [St.setB, St.mapC, Option.map_eq_some_iff] at hs
    obtain ⟨u, hu, rfl⟩ := hs
    exact RV_mapC (Φ := Φ) (Φ' := { Φ with μ := updR Φ.μ (.o t) b }) (f := C.scrub (.o t)) (Grows.refl Φ.A) (fun x v hx => RC_scrub hx) _ _ (h.slots s u hu)
  boxes := by
    intro r us hr
    by_cases hrt : r = .o t
    · subst hrt
      simp only [St.setB, Ref.beq_self, cond_true, Option.some.injEq] at hr
      subst hr
      exact ⟨o, by simp only [updR_same]; exact hh, hcs.mapC (Φ := Φ) (Φ' := { Φ with μ := updR Φ.μ (.o t) b }) (f := C.scrub (.o t)) (fun x v hx => RC_scrub hx) (keepM_same (Grows.refl _) rfl fun m => rfl)⟩
    · simp only [St.setB, Ref.beq_false hrt, cond_false, St.mapC, Option.map_eq_some_iff] at hr
      obtain ⟨ws, hw, rfl⟩ := hr
      obtain ⟨o', h1, h2⟩ := h.boxes r ws hw
      exact ⟨o', by simp only [updR_ne hrt]; exact h1, h2.mapC (Φ := Φ) (Φ' := { Φ with μ := updR Φ.μ (.o t) b }) (f := C.scrub (.o t)) (fun x v hx => RC_scrub hx) (keepM_same (Grows.refl _) rfl fun m => rfl)⟩
  own := by
    intro r us hr
    by_cases hrt : r = .o t
    · subst hrt
      simp only [updR_same]
      exact ⟨hA, .inl hb⟩
    · simp only [St.setB, Ref.beq_false hrt, cond_false, St.mapC, Option.map_eq_some_iff] at hr
      obtain ⟨ws, hw, rfl⟩ := hr
      simp only [updR_ne hrt]
      exact h.own r ws hw
  inj := by
    have old : ∀ r us, r ≠ .o t → ((st.mapC (C.scrub (.o t))).setB (.o t) (cs.map (C.scrub (.o t)))).bx r = some us → ∃ ws, st.bx r = some ws ∧ Φ.μ r ≠ b := by
      intro r us hrt hr
      simp only [St.setB, Ref.beq_false hrt, cond_false, St.mapC, Option.map_eq_some_iff] at hr
      obtain ⟨ws, hw, _⟩ := hr
      exact ⟨ws, hw, hne r ws hw hrt⟩
    intro r r' us us' hr hr' hm
    by_cases h1 : r = .o t <;> by_cases h2 : r' = .o t
    · rw [h1, h2]
    · subst h1
      obtain ⟨ws, _, hl⟩ := old r' us' h2 hr'
      simp only [updR_same, updR_ne h2] at hm
      exact absurd hm.symm hl
    · subst h2
      obtain ⟨ws, _, hl⟩ := old r us h1 hr
      simp only [updR_same, updR_ne h1] at hm
      exact absurd hm hl
    · obtain ⟨ws, hw, _⟩ := old r us h1 hr
      obtain ⟨ws', hw', _⟩ := old r' us' h2 hr'
      simp only [updR_ne h1, updR_ne h2] at hm
      exact h.inj r r' ws ws' hw hw' hm
  toks := h.toks
  tinj := h.tinj
  arr := h.arr
  ext := by
    intro i hi
    simp only [updR_ne (show Ref.e i ≠ .o t from fun e => by cases e)]
    exact h.ext i hi
  oldA := h.oldA
  grow := h.grow
  fr := h.fr

theorem RC_scrub0 {r : Ref} {x : C} {v : Value} (hx : RC Φ x v) : RC Φ (x.scrub r) v := by
  have h1 := RC_one hx
  cases x with
  | ref s o => cases hb : Ref.beq s r <;> simp only [C.scrub, hb, cond_true, cond_false] <;> first | exact hx | exact h1
  | bs s k o l => cases hb : Ref.beq s r <;> simp only [C.scrub, hb, cond_true, cond_false] <;> first | exact hx | exact h1
  | map s => cases hb : Ref.beq s r <;> simp only [C.scrub, hb, cond_true, cond_false] <;> first | exact hx | exact h1
  | fn f caps => cases hb : memR r caps <;> simp only [C.scrub, hb, cond_true, cond_false] <;> first | exact hx | exact h1
  | _ => exact hx
/-- A box is forgotten. -/
theorem Rel.dropB (h : Rel c st Φ a w) (r : Ref) : Rel c ((st.mapC (C.scrub r)).delB r) Φ a w := by
  have h' := h.mapC (f := C.scrub r) (fun x v hx => RC_scrub0 hx) (keepM_same (Grows.refl _) rfl fun m => rfl)
  have key : ∀ s us, ((st.mapC (C.scrub r)).delB r).bx s = some us → (st.mapC (C.scrub r)).bx s = some us := by
    intro s us hs
    simp only [St.delB] at hs
    cases hb : Ref.beq s r with
    | true => rw [hb] at hs; cases hs
    | false => rw [hb] at hs; exact hs
  exact ⟨h'.size, h'.defers, h'.slots, fun s us hs => h'.boxes s us (key s us hs), fun s us hs => h'.own s us (key s us hs), fun s s' us us' hs hs' => h'.inj s s' us us' (key s us hs) (key s' us' hs'),
    h'.toks, h'.tinj, h'.arr, h'.ext, h'.oldA, h'.grow, h'.fr⟩

/-- What a box holds that is the row of a slice: data, and spare cells. -/
def bsC (ds : List Dat) (p : Nat) : List C := ds.map C.dat ++ List.replicate p C.any
theorem mapBox_bsC (ds : List Dat) (p : Nat) : mapBox (bsC ds p) = false := by
  unfold bsC
  cases ds with
  | cons d ds => cases ds <;> cases p <;> rfl
  | nil => cases p with
    | zero => rfl
    | succ p => cases p <;> rfl
theorem bsC_length (ds : List Dat) (p : Nat) : (bsC ds p).length = ds.length + p := by simp [bsC]
theorem bsC_map (f : C → C) (hd : ∀ d, f (.dat d) = .dat d) (ha : f .any = .any) (ds : List Dat) (p : Nat) : (bsC ds p).map f = bsC ds p := by
  simp [bsC, ha, hd]
theorem bsC_scrub (r : Ref) (ds : List Dat) (p : Nat) : (bsC ds p).map (C.scrub r) = bsC ds p := bsC_map _ (fun _ => rfl) rfl ds p
theorem bsC_unq (q : Nat) (ds : List Dat) (p : Nat) : (bsC ds p).map (C.unq q) = bsC ds p := bsC_map _ (fun _ => rfl) rfl ds p
theorem bsC_callee (rs : List Ref) (ds : List Dat) (p : Nat) : (bsC ds p).map (C.callee rs) = bsC ds p := bsC_map _ (fun _ => rfl) rfl ds p
theorem bsC_caller (rs : List Ref) (ds : List Dat) (p : Nat) : (bsC ds p).map (C.caller rs) = bsC ds p := bsC_map _ (fun _ => rfl) rfl ds p
theorem bsC_all {ds : List Dat} {p : Nat} {vs : List Value} (h1 : All2 (RD Φ.A) ds (vs.take ds.length)) (h2 : vs.length = ds.length + p) (h3 : ∀ v ∈ vs, v.oneCell' = true) : All2 (RC Φ) (bsC ds p) vs := by
  have e : vs = vs.take ds.length ++ vs.drop ds.length := (List.take_append_drop _ _).symm
  rw [e]
  unfold bsC
  refine All2.append ((All2.map_left (R := RC Φ) C.dat).1 h1) ?_
  have hl : (vs.drop ds.length).length = p := by simp; omega
  have h4 : ∀ v ∈ vs.drop ds.length, v.oneCell' = true := fun v hv => h3 v (List.mem_of_mem_drop hv)
  generalize vs.drop ds.length = us at hl h4
  clear e h2
  induction us generalizing p with
  | nil => simp at hl; subst hl; trivial
  | cons u us ih =>
    cases p with
    | zero => simp at hl
    | succ p => exact ⟨h4 u (by simp), ih (by simpa using hl) (fun v hv => h4 v (by simp [hv]))⟩
theorem bsC_vals {ds : List Dat} {p : Nat} {vs : List Value} (h : All2 (RC Φ) (bsC ds p) vs) : All2 (RD Φ.A) ds (vs.take ds.length) ∧ vs.length = ds.length + p ∧ ∀ v ∈ vs, v.oneCell' = true := by
  refine ⟨?_, by rw [← h.length, bsC_length], All2.right (R := RC Φ) (p := fun v => v.oneCell' = true) (fun x v hx => RC_one hx) h⟩
  have := h.take ds.length
  rw [bsC, show ds.length = (ds.map C.dat).length by simp, List.take_left] at this
  rw [List.length_map] at this
  exact (All2.map_left (R := RC Φ) C.dat).2 this
end

section
variable {P : Program} (w : World)
theorem run_append_room' (t ty e e' : TypeId) (i : TypeInfo) (ht : P.underlying t = some (.slice e)) (hi : P.info? e = some i)
    (g sLen sCap : Nat) (cur : Array Value) (hg : w.heap[g]? = some (.cells cur e' (0, 0)))
    (a : Addr) (m c : Nat) (news : List Value) (hl : news.length = m * i.size) (hnews : ∀ (j : Nat) (u : Value), news[j]? = some u → w.cell? (a.add j) = some u) (h1 : ∀ u ∈ news, u.oneCell' = true)
    (hroom : sLen + m ≤ sCap) (hfit : sLen * i.size + news.length ≤ cur.size) :
    (Builtin.append_ #[t, t] ty #[.slice (some ⟨g, 0, none⟩) sLen sCap, .slice (some a) m c]).run P w =
      .ok (.slice (some ⟨g, 0, none⟩) (sLen + m) sCap) (w.setRow g (cur.toList.take (sLen * i.size) ++ news ++ cur.toList.drop (sLen * i.size + news.length)).toArray) := by
  have hf := run_firstCells_some (P := P) w i.size m a m c news hl hnews
  have hst := run_storeCells_at P g (sLen * i.size) e' news 0 cur w hg (by simpa using hfit) h1
  simp only [Nat.add_zero] at hst
  simp [Builtin.append_, run_underlying ht, sizeOf, typeInfo, hi, Builtin.lenOf, hroom, hf, Addr.add_lit, hst]
end

section
variable {c : Ctx} {st : St} {K : St → Prop} {t ty : Nat} {pos : String} {af : Array Edge} {gd : Option (Nat × Bool)}

/-- The cells of data that is appended. -/
theorem news_of {Φ : Cx} {w : World} (harr : ArrOK Φ.A w) {x : Value} {rows2 : List (List Dat)} {k : Nat} (hx : RV Φ (.one (.dat (.sl rows2))) x) (hu2 : Uni k rows2) (hne : rows2 ≠ []) :
    ∃ ad cap news, x = .slice (some ad) rows2.length cap ∧ news.length = rows2.length * k ∧ (∀ (j : Nat) (u : Value), news[j]? = some u → w.cell? (ad.add j) = some u) ∧ All2 (RD Φ.A) rows2.flatten news ∧ ∀ u ∈ news, u.oneCell' = true := by
  obtain ⟨src, cap, rfl, hcap, hm, hsrc⟩ := rv_sl hx
  rcases hsrc with h | ⟨k', bb, o, vs, hk', hun, rfl, hAb, hss⟩
  · exact absurd h hne
  · rw [RDss_flat] at hss
    have hl : rows2.flatten.length = rows2.length * k := flatten_length_uni hu2
    have hall := All2_of_RDs hss
    refine ⟨_, cap, (vs.drop o).take rows2.flatten.length, rfl, ?_, ?_, hall, All2.right (R := RD Φ.A) (p := fun v => v.oneCell' = true) (fun x v hx => RD_one hx) hall⟩
    · have := RDs_length hss
      rw [List.length_take, ← hl]
      omega
    · intro j u hj
      rw [addr_add]
      refine cell_arr harr hAb ?_
      have hlt := (List.getElem?_eq_some_iff.1 hj).1
      rw [List.length_take] at hlt
      rw [List.getElem?_take_of_lt (by omega), List.getElem?_drop] at hj
      exact hj

theorem zeroCells_one {P : Program} {e : Nat} {i : TypeInfo} {z : Value} (hi : P.info? e = some i) (hz : i.zero = some z) {zs : List C} (hzc : zeroC P e = some zs) (n : Nat) : ∀ v ∈ (Builtin.zeroCells z.cells n).toList, v.oneCell' = true := by
  obtain ⟨i', z', hi', hz', hall⟩ := zeroC_ok hzc
  rw [hi] at hi'
  injection hi' with hi'
  subst hi'
  rw [hz] at hz'
  injection hz' with hz'
  subst hz'
  have h1 : ∀ v ∈ z.cells.toList, v.oneCell' = true := All2.right (R := RC ⟨fun _ => none, fun _ => 0, fun _ => default⟩) (p := fun v => v.oneCell' = true) (fun x v hx => RC_one hx) (hall _)
  intro v hv
  simp only [Builtin.zeroCells, Array.toList_map, List.mem_map] at hv
  obtain ⟨j, _, rfl⟩ := hv
  by_cases hk : j % z.cells.size < z.cells.size
  · rw [getElem!_pos z.cells _ hk]
    exact h1 _ (by simp)
  · rw [getElem!_neg z.cells _ hk]
    rfl
/-- append onto nil, the row in a box. -/
theorem op_append_nil_bs {s x : Operand} {tx e k b : Nat} {vx : V} {rows2 : List (List Dat)} (hs : Has c st s (.one .nilsl)) (hx : Has c st x vx) (hvx : slD vx = some rows2) (hT : apT c.P tx = some (e, k, b)) (hzs0 : ∃ zs, zeroC c.P e = some zs)
    (huni : Uni k rows2) (hb : rows2.length * b ≤ 140737488355328) (h63 : rows2.length ≤ 9223372036854775807) (hne : rows2 ≠ []) (ht : Nat.blt t c.N = true)
    (hK : ∀ p cap, rows2.length * k + p = cap * k → rows2.length ≤ cap → K (((st.mapC (C.scrub (.o t))).setB (.o t) (bsC rows2.flatten p)).put t (.one (.bs (.o t) k rows2.length cap)))) :
    AOp c ⟨some t, .call ⟨.builtin .append, #[s, x], #[tx, tx]⟩, ty, pos, af, gd⟩ st K := by
  intro Φ a w hr K' Q hQ
  obtain ⟨zs, hzc⟩ := hzs0
  obtain ⟨hu, i, z, hi, hz, hsz, hby, hzs, hk⟩ := apT_ok hT
  have hs' := hs Φ a w hr
  rw [RV, RC] at hs'
  obtain ⟨ad, cap, news, hxe, hnl, hnews, hall, hone⟩ := news_of hr.arr (slD_ok hvx (hx Φ a w hr)) huni hne
  have hm : 0 < rows2.length := List.length_pos_iff.2 hne
  subst hsz
  have hrun := run_append_nil (P := c.P) w tx ty e i z hu hi hz ad rows2.length cap news hnl hnews hm (by omega) (by rw [hby]; omega)
  have hge := grownCap_ge w rows2.length 0 e
  have hle := grownCap_le_maxLen w rows2.length 0 e (by have hmax : maxLen = 9223372036854775807 := rfl; omega)
  have hfl : rows2.flatten.length = rows2.length * i.size := flatten_length_uni huni
  generalize hC : grownCap w rows2.length 0 e = n at hrun hge hle
  have hr1 := (hr.drew (w.drawn + 1)).allocd (.cells (news.toArray ++ Builtin.zeroCells z.cells (n - rows2.length)) e)
  have hsize : (news.toArray ++ Builtin.zeroCells z.cells (n - rows2.length)).toList.length = rows2.flatten.length + (n - rows2.length) * i.size := by
    simp only [Array.toList_append, List.length_append, Array.length_toList, size_zeroCells, hzs, hnl, hfl]
  have hcells : BoxOK Φ (bsC rows2.flatten ((n - rows2.length) * i.size)) (.cells (news.toArray ++ Builtin.zeroCells z.cells (n - rows2.length)) e) := by
    refine .inl ⟨_, e, rfl, bsC_all ?_ hsize ?_⟩
    · simp only [Array.toList_append]
      rw [hfl, ← hnl, List.take_left]
      exact hall
    · intro v hv
      simp only [Array.toList_append, List.mem_append] at hv
      rcases hv with hv | hv
      · exact hone v hv
      · exact zeroCells_one hi hz hzc _ v hv
  have hr2 := hr1.adopt (t := t) (b := w.heap.size) (cs := bsC rows2.flatten ((n - rows2.length) * i.size)) (heap_alloc_new _ _) hcells (arr_none hr.arr) hr.fr.size (fun s us hs _ he => by
    obtain ⟨o, h1, _⟩ := hr.boxes s us hs
    have := lt_of_heap h1
    omega)
  rw [bsC_scrub] at hr2
  have hcap : rows2.length * i.size + (n - rows2.length) * i.size = n * i.size := by rw [← Nat.add_mul]; congr 1; omega
  unfold Oper.wp
  have hrun' : (execOp a.eval ⟨some t, .call ⟨.builtin .append, #[s, x], #[tx, tx]⟩, ty, pos, af, gd⟩).run c.P w = .ok (.value (.slice (some ⟨w.heap.size, 0, none⟩) rows2.length n)) (w.drew.alloc (.cells (news.toArray ++ Builtin.zeroCells z.cells (n - rows2.length)) e)) := by
    simp [execOp, resolve, invoke, builtin, hs', hxe, hrun]
  rw [hrun', Oper.upon_value]
  exact hQ _ _ _ _ (hr2.put (v := .one (.bs (.o t) i.size rows2.length n)) (by rw [RV, RC]; exact ⟨by simp only [updR_same], hge, hle⟩) ht) (hK _ _ hcap hge)

/-- append onto a slice whose row lies in a box. -/
theorem op_append_bs {s x : Operand} {tx e k b : Nat} {vx : V} {ds : List Dat} {p u len cap : Nat} {rows2 : List (List Dat)} (hs : Has c st s (.one (.bs (.o u) k len cap))) (hbx : st.bx (.o u) = some (bsC ds p)) (hds : ds.length = len * k) (hcap : len * k + p = cap * k)
    (hx : Has c st x vx) (hvx : slD vx = some rows2) (hT : apT c.P tx = some (e, k, b)) (hzs0 : ∃ zs, zeroC c.P e = some zs)
    (huni : Uni k rows2) (hb : (len + rows2.length) * b ≤ 140737488355328) (h63 : len + rows2.length ≤ 9223372036854775807) (hne : rows2 ≠ []) (ht : Nat.blt t c.N = true)
    (hK : ∀ p' cap', (len + rows2.length) * k + p' = cap' * k → len + rows2.length ≤ cap' → K ((((((st.mapC (C.scrub (.o u))).delB (.o u)).mapC (C.scrub (.o t))).setB (.o t) (bsC (ds ++ rows2.flatten) p'))).put t (.one (.bs (.o t) k (len + rows2.length) cap')))) :
    AOp c ⟨some t, .call ⟨.builtin .append, #[s, x], #[tx, tx]⟩, ty, pos, af, gd⟩ st K := by
  intro Φ a w hr K' Q hQ
  obtain ⟨zs, hzc⟩ := hzs0
  obtain ⟨hu, i, z, hi, hz, hsz, hby, hzs, hk⟩ := apT_ok hT
  have hs' := hs Φ a w hr
  rw [RV, RC] at hs'
  obtain ⟨hse, hlc, hcm⟩ := hs'
  obtain ⟨ad, cap2, news, hxe, hnl, hnews, hall, hone⟩ := news_of hr.arr (slD_ok hvx (hx Φ a w hr)) huni hne
  obtain ⟨o, hh, hbo⟩ := hr.boxes _ _ hbx
  obtain ⟨cur, e', rfl, hcur⟩ := hbo.cells (mapBox_bsC ds p)
  obtain ⟨hold, hlen, hone0⟩ := bsC_vals hcur
  subst hsz
  have hfl : rows2.flatten.length = rows2.length * i.size := flatten_length_uni huni
  have hcs : cur.size = cap * i.size := by rw [← Array.length_toList, hlen, hds, hcap]
  have hnodrop : ∀ s' us, ((st.mapC (C.scrub (.o u))).delB (.o u)).bx s' = some us → ∃ us', st.bx s' = some us' ∧ s' ≠ .o u := by
    intro s' us h
    simp only [St.delB] at h
    cases hb' : Ref.beq s' (.o u) with
    | true => rw [hb'] at h; cases h
    | false =>
      rw [hb'] at h
      simp only [cond_false, St.mapC, Option.map_eq_some_iff] at h
      obtain ⟨us', h1, _⟩ := h
      exact ⟨us', h1, fun e => by rw [e, Ref.beq_self] at hb'; cases hb'⟩
  unfold Oper.wp
  by_cases hroom : len + rows2.length ≤ cap
  · -- in place
    have hfit : len * i.size + news.length ≤ cur.size := by rw [hnl, hcs, ← Nat.add_mul]; exact Nat.mul_le_mul_right _ hroom
    have hrun := run_append_room' (P := c.P) w tx ty e e' i hu hi _ len cap cur hh ad rows2.length cap2 news hnl hnews hone hroom hfit
    have hnewcells : All2 (RC Φ) (bsC (ds ++ rows2.flatten) (p - rows2.length * i.size)) (cur.toList.take (len * i.size) ++ news ++ cur.toList.drop (len * i.size + news.length)) := by
      have hp : rows2.length * i.size ≤ p := by
        have : (len + rows2.length) * i.size ≤ cap * i.size := Nat.mul_le_mul_right _ hroom
        rw [Nat.add_mul] at this
        omega
      refine bsC_all ?_ ?_ ?_
      · rw [List.length_append, hds, hfl, ← hnl]
        rw [List.take_append_of_le_length (by simp; rw [hcs]; have : len * i.size ≤ cap * i.size := Nat.mul_le_mul_right _ (by omega); omega)]
        rw [List.take_of_length_le (by simp; omega)]
        exact All2.append (by rw [← hds]; exact hold) hall
      · simp only [List.length_append, List.length_take, List.length_drop, hds, hfl, hnl, hlen]
        omega
      · intro v hv
        simp only [List.mem_append] at hv
        rcases hv with (hv | hv) | hv
        · exact hone0 v (List.mem_of_mem_take hv)
        · exact hone v hv
        · exact hone0 v (List.mem_of_mem_drop hv)
    have hr1 := hr.write hbx (mapBox_bsC ds p) (vs' := (cur.toList.take (len * i.size) ++ news ++ cur.toList.drop (len * i.size + news.length)).toArray) (cs' := bsC (ds ++ rows2.flatten) (p - rows2.length * i.size)) (by simpa using hnewcells)
    have hr2 := hr1.dropB (.o u)
    have hst : ((st.setB (.o u) (bsC (ds ++ rows2.flatten) (p - rows2.length * i.size))).mapC (C.scrub (.o u))).delB (.o u) = (st.mapC (C.scrub (.o u))).delB (.o u) := by
      unfold St.delB St.mapC St.setB
      congr 1
      funext s'
      cases hb' : Ref.beq s' (.o u) <;> simp [hb']
    rw [hst] at hr2
    have hown := hr.own _ _ hbx
    have hbase : c.w0.heap.size ≤ Φ.μ (.o u) := by
      rcases hown.2 with h | ⟨_, j, h⟩
      · exact h
      · cases h
    have hr3 := hr2.adopt (t := t) (b := Φ.μ (.o u)) (cs := bsC (ds ++ rows2.flatten) (p - rows2.length * i.size)) (setRow_heap w _ _ _ _ _ hh) (.inl ⟨_, e', rfl, by simpa using hnewcells⟩) hown.1 hbase (fun s' us hs' _ he => by
      obtain ⟨us', h1, h2⟩ := hnodrop s' us hs'
      exact h2 (hr.inj s' (.o u) us' _ h1 hbx he))
    rw [bsC_scrub] at hr3
    have hrun' : (execOp a.eval ⟨some t, .call ⟨.builtin .append, #[s, x], #[tx, tx]⟩, ty, pos, af, gd⟩).run c.P w = .ok (.value (.slice (some ⟨Φ.μ (.o u), 0, none⟩) (len + rows2.length) cap)) (w.setRow (Φ.μ (.o u)) (cur.toList.take (len * i.size) ++ news ++ cur.toList.drop (len * i.size + news.length)).toArray) := by
      simp [execOp, resolve, invoke, builtin, hse, hxe, hrun]
    rw [hrun', Oper.upon_value]
    refine hQ _ _ _ _ (hr3.put (v := .one (.bs (.o t) i.size (len + rows2.length) cap)) (by rw [RV, RC]; exact ⟨by simp only [updR_same], hroom, hcm⟩) ht) (hK _ _ ?_ hroom)
    have : (len + rows2.length) * i.size ≤ cap * i.size := Nat.mul_le_mul_right _ hroom
    rw [Nat.add_mul] at this ⊢
    omega
  · -- another row
    have holds : ∀ (j : Nat) (v : Value), (cur.toList.take (len * i.size))[j]? = some v → w.cell? ((⟨Φ.μ (.o u), 0, none⟩ : Addr).add j) = some v := by
      intro j v hj
      rw [addr_add, cell_box hh, Nat.zero_add]
      rw [List.getElem?_take_of_lt (by have := (List.getElem?_eq_some_iff.1 hj).1; rw [List.length_take] at this; omega)] at hj
      exact hj
    have hlo : (cur.toList.take (len * i.size)).length = len * i.size := by
      rw [List.length_take, Array.length_toList, hcs]
      have : len * i.size ≤ cap * i.size := Nat.mul_le_mul_right _ hlc
      omega
    have hm : 0 < rows2.length := List.length_pos_iff.2 hne
    have hmax : maxLen = 9223372036854775807 := rfl
    have hrun := run_append_grow (P := c.P) w tx ty e i z hu hi hz ⟨Φ.μ (.o u), 0, none⟩ len cap _ hlo holds ad rows2.length cap2 news hnl hnews (by omega) (by omega) (growslice_fits (by omega) (by rw [hby]; exact hb))
    have hge := grownCap_ge w (len + rows2.length) cap e
    have hle := grownCap_le_maxLen w (len + rows2.length) cap e (by omega)
    generalize hC : grownCap w (len + rows2.length) cap e = n at hrun hge hle
    have hr1 := (((hr.drew (w.drawn + 1)).dropB (.o u)).allocd (.cells ((cur.toList.take (len * i.size)).toArray ++ news.toArray ++ Builtin.zeroCells z.cells (n - (len + rows2.length))) e))
    have hsize : ((cur.toList.take (len * i.size)).toArray ++ news.toArray ++ Builtin.zeroCells z.cells (n - (len + rows2.length))).toList.length = (ds ++ rows2.flatten).length + (n - (len + rows2.length)) * i.size := by
      simp only [Array.toList_append, List.length_append, Array.length_toList, size_zeroCells, hzs, hnl, hfl, hlo, hds]
    have hcells : BoxOK Φ (bsC (ds ++ rows2.flatten) ((n - (len + rows2.length)) * i.size)) (.cells ((cur.toList.take (len * i.size)).toArray ++ news.toArray ++ Builtin.zeroCells z.cells (n - (len + rows2.length))) e) := by
      refine .inl ⟨_, e, rfl, bsC_all ?_ hsize ?_⟩
      · simp only [Array.toList_append]
        rw [List.take_append_of_le_length (by simp only [List.length_append, hds, hfl, hnl, hlo]; omega)]
        rw [List.take_of_length_le (by simp only [List.length_append, hds, hfl, hnl, hlo]; omega)]
        exact All2.append (by rw [← hds]; exact hold) hall
      · intro v hv
        simp only [Array.toList_append, List.mem_append] at hv
        rcases hv with (hv | hv) | hv
        · exact hone0 v (List.mem_of_mem_take hv)
        · exact hone v hv
        · exact zeroCells_one hi hz hzc _ v hv
    have hr2 := hr1.adopt (t := t) (b := w.heap.size) (cs := bsC (ds ++ rows2.flatten) ((n - (len + rows2.length)) * i.size)) (heap_alloc_new _ _) hcells (arr_none hr.arr) hr.fr.size (fun s' us hs' _ he => by
      obtain ⟨us', h1, _⟩ := hnodrop s' us hs'
      obtain ⟨o, h2, _⟩ := hr.boxes s' us' h1
      have := lt_of_heap h2
      omega)
    rw [bsC_scrub] at hr2
    have hrun' : (execOp a.eval ⟨some t, .call ⟨.builtin .append, #[s, x], #[tx, tx]⟩, ty, pos, af, gd⟩).run c.P w = .ok (.value (.slice (some ⟨w.heap.size, 0, none⟩) (len + rows2.length) n)) (w.drew.alloc (.cells ((cur.toList.take (len * i.size)).toArray ++ news.toArray ++ Builtin.zeroCells z.cells (n - (len + rows2.length))) e)) := by
      simp [execOp, resolve, invoke, builtin, hse, hxe, hrun]
    rw [hrun', Oper.upon_value]
    refine hQ _ _ _ _ (hr2.put (v := .one (.bs (.o t) i.size (len + rows2.length) n)) (by rw [RV, RC]; exact ⟨by simp only [updR_same], hge, hle⟩) ht) (hK _ _ ?_ hge)
    rw [← Nat.add_mul]
    congr 1
    omega
end
end Go.TQ
