/- Contracts of functions of the program, each for every input that its hypotheses let in; printed by a program of our own (s28). -/
import Derived.Test.YtmfiplnojbjcbaaGreatP06
set_option linter.unusedVariables false
set_option linter.unusedSimpArgs false
set_option maxRecDepth 10000
set_option maxHeartbeats 4000000
namespace Go.TQ
open Go.Proofs


theorem back_step {l : List Sighting} {i : Int} (h0 : 0 ≤ i) (h1 : i < l.length) : (l.drop (i + 1).toNat).reverse ++ [l[i.toNat]!] = (l.drop (i - 1 + 1).toNat).reverse := by
  have hl : i.toNat < l.length := by omega
  rw [show (i - 1 + 1).toNat = i.toNat by omega, show (i + 1).toNat = i.toNat + 1 by omega, getElem!_pos l _ hl, List.drop_eq_getElem_cons hl, List.reverse_cons]
def likeE (f x : Finding) : Bool := (decide (x.node = f.node) && decide (x.slot = f.slot)) && decide (x.value = f.value)
def likeT (f x : Finding) : Bool := decide (x.node = f.node) && decide (x.slot = f.slot)
theorem any_take {q : Finding → Bool} {l : List Finding} {k : Nat} (h : k < l.length) : ((l.take k).any q || q l[k]!) = (l.take (k + 1)).any q := by
  rw [List.take_succ_eq_append_getElem h, List.any_append, getElem!_pos l k h]; simp
theorem foundE {l : List Sighting} {n k : Nat} (h : k < (extF (l.take n)).length) : (extF l).any (likeE (extF (l.take n))[k]!) = true := by
  rw [List.any_eq_true]
  refine ⟨_, extF_more (mem_at h), ?_⟩
  simp [likeE]
theorem foundT {l : List Sighting} {n k : Nat} (h : k < (twoF (l.take n)).length) : (twoF l).any (likeT (twoF (l.take n))[k]!) = true := by
  rw [List.any_eq_true]
  refine ⟨_, twoF_more (mem_at h), ?_⟩
  simp [likeT]

theorem law_Parts (t : List Int) : ACalls Tryz.prog 6 [VR (iRows t)] [] fun dd bb => dd = VB true ∧ bb = [] := by
  refine zai Tryz.func6 rfl Tryz.ntmps6 (by rw [Tryz.results6]) rfl rfl (fun w0 A0 X => ?_)
  refine zsr ?_
  refine zc rfl (zas zb0 rfl ?_)
  refine zn0 ?_
  refine zsr ?_
  refine zc rfl (zmv (zt rfl) rfl ?_)
  refine zc rfl (op_callN zhf (hc (zt rfl) hz) (rs := []) (bxs := []) zdc zdc bz (c_New t) rfl rfl rfl (fun d b cs hd hl => ?_))
  obtain ⟨rfl, rfl, rfl⟩ := hd
  refine zc rfl (zas (zt rfl) rfl ?_)
  refine zn0 ?_
  refine zsr ?_
  refine zc rfl (zmv (zt rfl) rfl ?_)
  refine zc rfl (zcl zhf (hc (zt rfl) hz) (rs := [.o 21]) (bxs := [_]) zdc (bc rfl bz) (c_sightings (Src.mk (t.take (min (t.length : Int) 800).toNat) 0) (new_at t)) rfl rfl rfl (fun d b hd hl => ?_))
  obtain ⟨l, s2, rfl, rfl, ⟨hl, hs⟩⟩ := hd
  have hsp := hl
  have hlm : (l.map Sighting.d).length = l.length := List.length_map _
  have hlen8 := hl.len
  have hle := extF_len l
  have hlt := twoF_len l
  refine zc rfl (zas (zt rfl) rfl ?_)
  refine zn0 ?_
  refine zsr ?_
  refine zc rfl (zmv (zt rfl) rfl ?_)
  refine zc rfl (zmv (zt rfl) rfl ?_)
  refine zc rfl (zmv (zt rfl) rfl ?_)
  refine zc rfl (zln (e := 57) (n := 26) (zt rfl) rfl zk rfl (fun hl27 => ?_))
  try simp only [List.length_map] at hl27
  refine zc rfl (zar (zt rfl) (zi zdc) rfl (ink64 zom zom) rfl ?_)
  refine zc rfl (zcl zhf (hc (zt rfl) (hc (zt rfl) hz)) (rs := [.o 21]) (bxs := [_]) zdc (bc rfl bz) (r_Src_N _ (((l.map Sighting.d).length : Int) + 1) hs (by omega)) rfl (by first | rfl | (simp only [List.map_cons, List.map_nil, bsC_callee]; done) | (simp only [List.map_cons, List.map_nil, bsC_callee]; rfl)) rfl (fun d b hd hl => ?_))
  obtain ⟨v, s3, rfl, rfl, ⟨hv, hs1⟩⟩ := hd
  have hpe := extF_len (l.take v.toNat)
  have hpt := twoF_len (l.take v.toNat)
  rw [List.length_take] at hpe hpt
  refine zc rfl (op_sliceM (e := 57) (n := 26) (l := l) (f := Sighting.d) (zt rfl) rfl (zt rfl) zk zom zom rfl ?_)
  refine zc rfl (zas (zt rfl) rfl ?_)
  refine zn0 ?_
  refine zsr ?_
  refine zc rfl (zas has_nil rfl ?_)
  refine zn0 ?_
  refine zw2 ?_
  refine zsr ?_
  refine zc rfl (zmv (zt rfl) rfl ?_)
  refine zc rfl (zln (e := 57) (n := 26) (zt rfl) rfl zk rfl (fun hl32 => ?_))
  try simp only [List.length_map] at hl32
  refine zc rfl (zar (zt rfl) (zi zdc) rfl (ink64 zom zom) rfl ?_)
  refine zc rfl (zas (zt rfl) rfl ?_)
  refine zn0 ?_
  refine zwb ?_
  refine awp_loop2 (fs := [(4, _), (5, _)]) (fb := []) (fun (back : List Sighting) (i : Int) => [(6, .one (.slt 1010 (back.map Sighting.d))), (7, VI i)]) (fun (back : List Sighting) (i : Int) => []) (fun (back : List Sighting) (i : Int) => [(1010, (57, 26))]) (fun (back : List Sighting) (i : Int) => (-1 ≤ i ∧ i < l.length) ∧ (back = (l.drop (i + 1).toNat).reverse)) (fun (back : List Sighting) (i : Int) => (i + 1).toNat) [] (((l.map Sighting.d).length : Int) - 1) ((le_adopt (q := 1010) (t := 6) (e := 57) (k := 26) zdc rfl).trans (le_of (sc rfl (sc rfl (sc rfl (sc rfl sz)))) xz (kc rfl kz))) ?_ ?_
  · refine ⟨?_, ?_⟩
    · simp only [List.length_map]; omega
    · simp
  · intro back i ⟨hi, hb⟩
    have hbl : back.length ≤ l.length := by rw [hb, List.length_reverse, List.length_drop]; omega
    refine zw2 ?_
    refine zsr ?_
    refine zc rfl (zmv (zt rfl) rfl ?_)
    refine zc rfl (zcm (zt rfl) (zi zdc) rfl rfl ?_)
    refine zn0 ?_
    refine awp_le (le_of (ls := [(4, VR (l.map Sighting.d)), (5, VR ((l.take v.toNat).map Sighting.d)), (6, .one (.slt 1010 (back.map Sighting.d))), (7, VI i), (35, VB (decide (0 ≤ i)))]) (bs := []) (ts := [(1010, (57, 26))]) (sc rfl (sc rfl (sc rfl (sc rfl (sc rfl sz))))) xz (kc rfl kz)) ?_
    refine zwc (zt rfl) (fun h1 => ?_) (fun h1 => ?_)
    · skip
      have g1 := h1
      try simp only [zbz, List.length_map] at g1
      refine zws ?_
      refine ztn ?_
      refine zw2 ?_
      refine zwb ?_
      refine zre ?_
      refine zc rfl (zmv (zt rfl) rfl ?_)
      refine zc rfl (zmv (zt rfl) rfl ?_)
      refine zc rfl (zmv (zt rfl) rfl ?_)
      refine zc rfl (op_indexAddr (e := 57) (n := 26) (zt rfl) rfl (zt rfl) zk zom (show (l.map Sighting.d)[i.toNat]? = some (l[i.toNat]!.d) from (map_getD zom)) rfl rfl ?_)
      refine zc rfl (op_load_imm (n := 26) (zt rfl) zk rfl rfl rfl ?_)
      refine zc rfl (zbs (e := 57) (ps := [(_, _)]) (qs := [(_, _)]) (n := 26) (rows := [[_, _, _, _, _, _, _, _, _, _, _, _, _, _, _, _, _, _, _, _, _, _, _, _, _, _]]) (pc (zt rfl) rfl pz) zk zdc ⟨[.dat (.int .i64 0), .dat (.int .i64 0), .dat (.int .i64 0), .dat (.int .i64 0), .dat (.int .i64 0), .dat (.int .i64 0), .dat (.int .i64 0), .nilsl, .nilsl, .nilsl, .nilsl, .dat (.int .i64 0), .dat (.int .i64 0), .dat (.int .i64 0), .dat (.int .i64 0), .nilsl, .nilsl, .dat (.int .i64 0), .dat (.int .i64 0), .dat (.str ⟨#[]⟩), .dat (.int .i64 0), .dat (.str ⟨#[]⟩), .dat (.int .i64 0), .dat (.str ⟨#[]⟩), .dat (.int .i64 0), .dat (.int .i64 0)], by kernel_rfl⟩ rfl rfl (by simp [Uni]) rfl zdc rfl ?_)
      refine zc rfl (op_append (e := 57) (k := 26) (b := 328) (zt rfl) rfl (zt rfl) rfl zk (by first | exact uni_snoc (uni_map (f := Sighting.d) (fun _ => rfl) _) rfl | (simp [Uni]; done)) (by first | (simp; done) | (simp; omega) | (simp at *; omega)) (by first | (simp; done) | (simp; omega) | (simp at *; omega)) rfl ?_)
      refine zc rfl (zas (zt rfl) rfl ?_)
      refine zn0 ?_
      refine zbn ?_
      refine ztn ?_
      refine zre ?_
      refine zc rfl (zmv (zt rfl) rfl ?_)
      refine zc rfl (zar (zt rfl) (zi zdc) rfl (ink64 zom zom) rfl ?_)
      refine zc rfl (zas (zt rfl) rfl ?_)
      refine zn0 ?_
      refine ztn ?_
      refine ⟨(back ++ [l[i.toNat]!]), (i - 1), ?_, ?_, ((le_retok (q := 44) (p := 1010) (s := 6) rfl rfl).trans (le_of (sc rfl (sc rfl (sc (slt_eq rfl (by first | rfl | exact List.map_append | (simp only [List.map_append, List.map_cons, List.map_nil]; rfl) | simp)) (sc rfl sz)))) xz (kc rfl kz)))⟩
      · refine ⟨?_, ?_⟩
        · omega
        · rw [hb]; exact back_step (by omega) (by omega)
      · first | omega | (simp at *; omega)
    · skip
      have g1 := h1
      try simp only [zbz, List.length_map] at g1
      obtain rfl : i = -1 := by omega
      have hb2 : back = l.reverse := hb
      refine zwe ?_
      refine zte ?_
      refine zte ?_
      refine zbk ?_
      refine ztn ?_
      refine zsr ?_
      refine zc rfl (zmv (zt rfl) rfl ?_)
      refine zc rfl (zcl zhf (hc (zt rfl) hz) (rs := []) (bxs := []) zdc bz (c_ExtF l hsp.ok (by omega)) rfl rfl rfl (fun d b hd hl => ?_))
      obtain ⟨rfl, rfl⟩ := hd
      refine zc rfl (zmv (zt rfl) rfl ?_)
      refine zc rfl (zcl zhf (hc (zt rfl) hz) (rs := []) (bxs := []) zdc bz (c_TwoF l hsp.ok (by omega)) rfl rfl rfl (fun d b hd hl => ?_))
      obtain ⟨rfl, rfl⟩ := hd
      refine zc rfl (zas (zt rfl) rfl ?_)
      refine zc rfl (zas (zt rfl) rfl ?_)
      refine zn0 ?_
      refine zw2 ?_
      refine zsr ?_
      refine zc rfl (zmv (zt rfl) rfl ?_)
      refine zc rfl (zcl zhf (hc (zt rfl) hz) (rs := []) (bxs := []) zdc bz (c_ExtF (l.take v.toNat) (fun x hx => hsp.ok x (List.mem_of_mem_take hx)) (by rw [List.length_take]; omega)) rfl rfl rfl (fun d b hd hl => ?_))
      obtain ⟨rfl, rfl⟩ := hd
      refine zc rfl (zln (e := 29) (n := 5) (zt rfl) rfl zk rfl (fun hl51 => ?_))
      try simp only [List.length_map] at hl51
      refine zc rfl (zmv (zi zdc) rfl ?_)
      refine zn0 ?_
      refine zwb ?_
      refine zlp (fs := [(5, _), (6, _), (8, _), (9, _), (50, _), (51, _)]) (fb := []) (fun (k : Nat) => [(52, VI ((k : Nat) : Int))]) (fun (k : Nat) => []) (fun (k : Nat) => [(1010, (57, 26))]) (fun (k : Nat) => (k ≤ (extF (l.take v.toNat)).length)) (fun (k : Nat) => (extF (l.take v.toNat)).length - k) 0 (le_of (sc rfl (sc rfl (sc rfl (sc rfl (sc rfl (sc rfl (sc rfl sz))))))) xz (kc rfl kz)) ?_ ?_
      · exact zen
      · intro k hk
        refine zsr ?_
        refine zc rfl (zcm (zt rfl) (zt rfl) rfl rfl ?_)
        refine zn0 ?_
        refine zw2 ?_
        refine zwc (zt rfl) (fun h2 => ?_) (fun h2 => ?_)
        · skip
          have g2 := h2
          try simp only [zbz, List.length_map] at g2
          have hk0 : k < (extF (l.take v.toNat)).length := by omega
          refine zws ?_
          refine ztn ?_
          refine zw2 ?_
          refine zwb ?_
          refine zsr ?_
          refine zc rfl (op_indexAddr (e := 29) (n := 5) (zt rfl) rfl (zt rfl) zk zom (show ((extF (l.take v.toNat)).map Finding.d)[k]? = some ((extF (l.take v.toNat))[k]!.d) from (map_getD zom)) rfl rfl ?_)
          refine zc rfl (op_load_imm (n := 5) (zt rfl) zk rfl rfl rfl ?_)
          refine zc rfl (zal (cs := [.dat (.int .i64 0), .dat (.int .i64 0), .dat (.int .i64 0), .dat (.str ⟨#[]⟩), .nilsl]) zk rfl ?_)
          refine zc rfl (zst (n := 5) (zt rfl) (zt rfl) rfl (.inl zk) rfl rfl (zbl rfl) ?_)
          refine zn0 ?_
          refine zsr ?_
          refine zc rfl (zas zb0 rfl ?_)
          refine zn0 ?_
          refine zw2 ?_
          refine zsr ?_
          refine zc rfl (zmv (zt rfl) rfl ?_)
          refine zc rfl (zln (e := 29) (n := 5) (zt rfl) rfl zk rfl (fun hl57 => ?_))
          try simp only [List.length_map] at hl57
          refine zc rfl (zmv (zi zdc) rfl ?_)
          refine zn0 ?_
          refine zwb ?_
          refine awp_loop2 (fs := [(5, _), (6, _), (8, _), (9, _), (11, _), (50, _), (51, _), (52, _), (56, _), (57, _)]) (fb := [(.o 11, _)]) (fun (found : Bool) (k1 : Nat) => [(12, VB found), (58, VI ((k1 : Nat) : Int))]) (fun (found : Bool) (k1 : Nat) => []) (fun (found : Bool) (k1 : Nat) => [(1010, (57, 26))]) (fun (found : Bool) (k1 : Nat) => (k1 ≤ (extF l).length) ∧ (found = ((extF l).take k1).any (likeE (extF (l.take v.toNat))[k]!))) (fun (found : Bool) (k1 : Nat) => (extF l).length - k1) false 0 (le_of (sc rfl (sc rfl (sc rfl (sc rfl (sc rfl (sc rfl (sc rfl (sc rfl (sc rfl (sc rfl (sc rfl (sc rfl sz)))))))))))) (xc rfl xz) (kc rfl kz)) ?_ ?_
          · refine ⟨?_, ?_⟩
            · exact zen
            · rfl
          · intro found k1 ⟨hk, hf⟩
            refine zsr ?_
            refine zc rfl (zcm (zt rfl) (zt rfl) rfl rfl ?_)
            refine zn0 ?_
            refine zw2 ?_
            refine zwc (zt rfl) (fun h3 => ?_) (fun h3 => ?_)
            · skip
              have g3 := h3
              try simp only [zbz, List.length_map] at g3
              have hkl : k1 < (extF l).length := by omega
              refine zws ?_
              refine ztn ?_
              refine zw2 ?_
              refine zwb ?_
              refine zsr ?_
              refine zc rfl (op_indexAddr (e := 29) (n := 5) (zt rfl) rfl (zt rfl) zk zom (show ((extF l).map Finding.d)[k1]? = some ((extF l)[k1]!.d) from (map_getD zom)) rfl rfl ?_)
              refine zc rfl (op_load_imm (n := 5) (zt rfl) zk rfl rfl rfl ?_)
              refine zc rfl (zal (cs := [.dat (.int .i64 0), .dat (.int .i64 0), .dat (.int .i64 0), .dat (.str ⟨#[]⟩), .nilsl]) zk rfl ?_)
              refine zc rfl (zst (n := 5) (zt rfl) (zt rfl) rfl (.inl zk) rfl rfl (zbl rfl) ?_)
              refine zn0 ?_
              refine awp_le (le_of (ls := [(5, VR ((l.take v.toNat).map Sighting.d)), (6, .one (.slt 1010 (back.map Sighting.d))), (8, VR ((extF l).map Finding.d)), (9, VR ((twoF l).map Finding.d)), (11, .one (.ref (.o 11) 0)), (12, VB found), (14, .one (.ref (.o 14) 0)), (50, VR ((extF (l.take v.toNat)).map Finding.d)), (51, VI (((extF (l.take v.toNat)).map Finding.d).length : Int)), (52, VI ((k : Nat) : Int)), (56, VR ((extF l).map Finding.d)), (57, VI (((extF l).map Finding.d).length : Int)), (58, VI ((k1 : Nat) : Int))]) (bs := [(.o 11, [.dat (.int .i64 (extF (l.take v.toNat))[k]!.node), .dat (.int .i64 (extF (l.take v.toNat))[k]!.slot), .dat (.int .i64 (extF (l.take v.toNat))[k]!.kind), .dat (.str (extF (l.take v.toNat))[k]!.value), .dat (.sl (iRows (extF (l.take v.toNat))[k]!.needs))]), (.o 14, [.dat (.int .i64 (extF l)[k1]!.node), .dat (.int .i64 (extF l)[k1]!.slot), .dat (.int .i64 (extF l)[k1]!.kind), .dat (.str (extF l)[k1]!.value), .dat (.sl (iRows (extF l)[k1]!.needs))])]) (ts := [(1010, (57, 26))]) (sc rfl (sc rfl (sc rfl (sc rfl (sc rfl (sc rfl (sc rfl (sc rfl (sc rfl (sc rfl (sc rfl (sc rfl (sc rfl sz))))))))))))) (xc rfl (xc rfl xz)) (kc rfl kz)) ?_
              refine zre ?_
              refine zc rfl (zmv (zt rfl) rfl ?_)
              refine zc rfl (zmv (zt rfl) rfl ?_)
              refine zg rfl rfl rfl rfl (zgb rfl) (fun hg => zfa (o := 0) (zt rfl) zk rfl rfl) ?_
              refine zg rfl rfl rfl rfl (zgb rfl) (fun hg => zl1 (zcd (zt rfl) hg) zk rfl rfl rfl rfl) ?_
              refine zg rfl rfl rfl rfl (zgb rfl) (fun hg => zfa (o := 0) (zt rfl) zk rfl rfl) ?_
              refine zg rfl rfl rfl rfl (zgb rfl) (fun hg => zl1 (zcd (zt rfl) hg) zk rfl rfl rfl rfl) ?_
              refine zg rfl rfl rfl rfl (zgb rfl) (fun hg => zcm (zcd (zt rfl) hg) (zcd (zt rfl) hg) rfl rfl rfl) ?_
              refine zg rfl rfl rfl rfl (zgb rfl) (fun hg => zmv (zcd (zt rfl) hg) rfl rfl) ?_
              refine zg rfl rfl rfl rfl (guard_cond rfl) (fun hg => zfa (o := 1) (zt rfl) zk rfl rfl) ?_
              refine zg rfl rfl rfl rfl (guard_cond rfl) (fun hg => zl1 (zcd (zt rfl) hg) zk rfl rfl rfl rfl) ?_
              refine zg rfl rfl rfl rfl (guard_cond rfl) (fun hg => zfa (o := 1) (zt rfl) zk rfl rfl) ?_
              refine zg rfl rfl rfl rfl (guard_cond rfl) (fun hg => zl1 (zcd (zt rfl) hg) zk rfl rfl rfl rfl) ?_
              refine zg rfl rfl rfl rfl (guard_cond rfl) (fun hg => zcm (zcd (zt rfl) hg) (zcd (zt rfl) hg) rfl rfl rfl) ?_
              refine zg rfl rfl rfl rfl (zgb rfl) (fun hg => zan (zcd (zt rfl) hg) (has_cond_and (zt rfl) hg) (.inl zb0) rfl rfl) ?_
              refine zg rfl rfl rfl rfl (zgb rfl) (fun hg => zmv (zcd (zt rfl) hg) rfl rfl) ?_
              refine zg rfl rfl rfl rfl (guard_cond rfl) (fun hg => zfa (o := 3) (zt rfl) zk rfl rfl) ?_
              refine zg rfl rfl rfl rfl (guard_cond rfl) (fun hg => zl1 (zcd (zt rfl) hg) zk rfl rfl rfl rfl) ?_
              refine zg rfl rfl rfl rfl (guard_cond rfl) (fun hg => zfa (o := 3) (zt rfl) zk rfl rfl) ?_
              refine zg rfl rfl rfl rfl (guard_cond rfl) (fun hg => zl1 (zcd (zt rfl) hg) zk rfl rfl rfl rfl) ?_
              refine zg rfl rfl rfl rfl (guard_cond rfl) (fun hg => op_cmp_str (zcd (zt rfl) hg) (zcd (zt rfl) hg) rfl rfl rfl) ?_
              refine zg rfl rfl rfl rfl (zgb rfl) (fun hg => zan (zcd (zt rfl) hg) (has_cond_and (zt rfl) hg) (.inl zb0) rfl rfl) ?_
              refine zc rfl (zor (zt rfl) (.inl zb0) (zt rfl) rfl ?_)
              refine zc rfl (zas (zt rfl) rfl ?_)
              refine zn0 ?_
              refine zbn ?_
              refine ztn ?_
              refine zre ?_
              refine zc rfl (zar (zt rfl) (zi zdc) rfl (ink64 zom zom) rfl ?_)
              refine zc rfl (zmv (zt rfl) rfl ?_)
              refine zn0 ?_
              refine ztn ?_
              refine ⟨(found || ((decide ((extF l)[k1]!.node = (extF (l.take v.toNat))[k]!.node) && decide ((extF l)[k1]!.slot = (extF (l.take v.toNat))[k]!.slot)) && decide ((extF l)[k1]!.value = (extF (l.take v.toNat))[k]!.value))), k1 + 1, ?_, ?_, (le_of (sc rfl (sc rfl (sc rfl (sc rfl (sc rfl (sc rfl (sc rfl (sc rfl (sc rfl (sc rfl (sc rfl (sc rfl sz)))))))))))) (xc rfl xz) (kc rfl kz))⟩
              · refine ⟨?_, ?_⟩
                · exact zen
                · rw [hf]; exact any_take (q := likeE (extF (l.take v.toNat))[k]!) hkl
              · first | omega | (simp at *; omega)
            · skip
              have g3 := h3
              try simp only [zbz, List.length_map] at g3
              have hk1 : (extF l).length = k1 := by omega
              rw [← hk1, List.take_length, foundE hk0] at hf
              refine zwe ?_
              refine zte ?_
              refine zte ?_
              refine zbk ?_
              refine ztn ?_
              refine zsr ?_
              refine zc rfl (zmv (zt rfl) rfl ?_)
              refine zc rfl (op_not (zt rfl) rfl ?_)
              refine zn0 ?_
              refine zwc (zt rfl) (fun h4 => ?_) (fun h4 => ?_)
              · skip
                rw [hf] at h4
                cases h4
              · skip
                refine zws ?_
                refine zbn ?_
                refine ztn ?_
                refine zre ?_
                refine zc rfl (zar (zt rfl) (zi zdc) rfl (ink64 zom zom) rfl ?_)
                refine zc rfl (zmv (zt rfl) rfl ?_)
                refine zn0 ?_
                refine ztn ?_
                refine ⟨k + 1, ?_, ?_, (le_of (sc rfl (sc rfl (sc rfl (sc rfl (sc rfl (sc rfl (sc rfl sz))))))) xz (kc rfl kz))⟩
                · exact zen
                · first | omega | (simp at *; omega)
        · skip
          have g2 := h2
          try simp only [zbz, List.length_map] at g2
          refine zwe ?_
          refine zte ?_
          refine zte ?_
          refine zbk ?_
          refine ztn ?_
          refine zw2 ?_
          refine zsr ?_
          refine zc rfl (zmv (zt rfl) rfl ?_)
          refine zc rfl (zcl zhf (hc (zt rfl) hz) (rs := []) (bxs := []) zdc bz (c_TwoF (l.take v.toNat) (fun x hx => hsp.ok x (List.mem_of_mem_take hx)) (by rw [List.length_take]; omega)) rfl rfl rfl (fun d b hd hl => ?_))
          obtain ⟨rfl, rfl⟩ := hd
          refine zc rfl (zln (e := 29) (n := 5) (zt rfl) rfl zk rfl (fun hl90 => ?_))
          try simp only [List.length_map] at hl90
          refine zc rfl (zmv (zi zdc) rfl ?_)
          refine zn0 ?_
          refine zwb ?_
          refine zlp (fs := [(6, _), (8, _), (9, _), (89, _), (90, _)]) (fb := []) (fun (k1 : Nat) => [(91, VI ((k1 : Nat) : Int))]) (fun (k1 : Nat) => []) (fun (k1 : Nat) => [(1010, (57, 26))]) (fun (k1 : Nat) => (k1 ≤ (twoF (l.take v.toNat)).length)) (fun (k1 : Nat) => (twoF (l.take v.toNat)).length - k1) 0 (le_of (sc rfl (sc rfl (sc rfl (sc rfl (sc rfl (sc rfl sz)))))) xz (kc rfl kz)) ?_ ?_
          · exact zen
          · intro k1 hk
            refine zsr ?_
            refine zc rfl (zcm (zt rfl) (zt rfl) rfl rfl ?_)
            refine zn0 ?_
            refine zw2 ?_
            refine zwc (zt rfl) (fun h5 => ?_) (fun h5 => ?_)
            · skip
              have g5 := h5
              try simp only [zbz, List.length_map] at g5
              have hk0 : k1 < (twoF (l.take v.toNat)).length := by omega
              refine zws ?_
              refine ztn ?_
              refine zw2 ?_
              refine zwb ?_
              refine zsr ?_
              refine zc rfl (op_indexAddr (e := 29) (n := 5) (zt rfl) rfl (zt rfl) zk zom (show ((twoF (l.take v.toNat)).map Finding.d)[k1]? = some ((twoF (l.take v.toNat))[k1]!.d) from (map_getD zom)) rfl rfl ?_)
              refine zc rfl (op_load_imm (n := 5) (zt rfl) zk rfl rfl rfl ?_)
              refine zc rfl (zal (cs := [.dat (.int .i64 0), .dat (.int .i64 0), .dat (.int .i64 0), .dat (.str ⟨#[]⟩), .nilsl]) zk rfl ?_)
              refine zc rfl (zst (n := 5) (zt rfl) (zt rfl) rfl (.inl zk) rfl rfl (zbl rfl) ?_)
              refine zn0 ?_
              refine zsr ?_
              refine zc rfl (zas zb0 rfl ?_)
              refine zn0 ?_
              refine zw2 ?_
              refine zsr ?_
              refine zc rfl (zmv (zt rfl) rfl ?_)
              refine zc rfl (zln (e := 29) (n := 5) (zt rfl) rfl zk rfl (fun hl96 => ?_))
              try simp only [List.length_map] at hl96
              refine zc rfl (zmv (zi zdc) rfl ?_)
              refine zn0 ?_
              refine zwb ?_
              refine awp_loop2 (fs := [(6, _), (8, _), (9, _), (16, _), (89, _), (90, _), (91, _), (95, _), (96, _)]) (fb := [(.o 16, _)]) (fun (found : Bool) (k2 : Nat) => [(17, VB found), (97, VI ((k2 : Nat) : Int))]) (fun (found : Bool) (k2 : Nat) => []) (fun (found : Bool) (k2 : Nat) => [(1010, (57, 26))]) (fun (found : Bool) (k2 : Nat) => (k2 ≤ (twoF l).length) ∧ (found = ((twoF l).take k2).any (likeT (twoF (l.take v.toNat))[k1]!))) (fun (found : Bool) (k2 : Nat) => (twoF l).length - k2) false 0 (le_of (sc rfl (sc rfl (sc rfl (sc rfl (sc rfl (sc rfl (sc rfl (sc rfl (sc rfl (sc rfl (sc rfl sz))))))))))) (xc rfl xz) (kc rfl kz)) ?_ ?_
              · refine ⟨?_, ?_⟩
                · exact zen
                · rfl
              · intro found k2 ⟨hk, hf⟩
                refine zsr ?_
                refine zc rfl (zcm (zt rfl) (zt rfl) rfl rfl ?_)
                refine zn0 ?_
                refine zw2 ?_
                refine zwc (zt rfl) (fun h6 => ?_) (fun h6 => ?_)
                · skip
                  have g6 := h6
                  try simp only [zbz, List.length_map] at g6
                  have hkl : k2 < (twoF l).length := by omega
                  refine zws ?_
                  refine ztn ?_
                  refine zw2 ?_
                  refine zwb ?_
                  refine zsr ?_
                  refine zc rfl (op_indexAddr (e := 29) (n := 5) (zt rfl) rfl (zt rfl) zk zom (show ((twoF l).map Finding.d)[k2]? = some ((twoF l)[k2]!.d) from (map_getD zom)) rfl rfl ?_)
                  refine zc rfl (op_load_imm (n := 5) (zt rfl) zk rfl rfl rfl ?_)
                  refine zc rfl (zal (cs := [.dat (.int .i64 0), .dat (.int .i64 0), .dat (.int .i64 0), .dat (.str ⟨#[]⟩), .nilsl]) zk rfl ?_)
                  refine zc rfl (zst (n := 5) (zt rfl) (zt rfl) rfl (.inl zk) rfl rfl (zbl rfl) ?_)
                  refine zn0 ?_
                  refine zre ?_
                  refine zc rfl (zmv (zt rfl) rfl ?_)
                  refine zc rfl (zmv (zt rfl) rfl ?_)
                  refine zg rfl rfl rfl rfl (zgb rfl) (fun hg => zfa (o := 0) (zt rfl) zk rfl rfl) ?_
                  refine zg rfl rfl rfl rfl (zgb rfl) (fun hg => zl1 (zcd (zt rfl) hg) zk rfl rfl rfl rfl) ?_
                  refine zg rfl rfl rfl rfl (zgb rfl) (fun hg => zfa (o := 0) (zt rfl) zk rfl rfl) ?_
                  refine zg rfl rfl rfl rfl (zgb rfl) (fun hg => zl1 (zcd (zt rfl) hg) zk rfl rfl rfl rfl) ?_
                  refine zg rfl rfl rfl rfl (zgb rfl) (fun hg => zcm (zcd (zt rfl) hg) (zcd (zt rfl) hg) rfl rfl rfl) ?_
                  refine zg rfl rfl rfl rfl (zgb rfl) (fun hg => zmv (zcd (zt rfl) hg) rfl rfl) ?_
                  refine zg rfl rfl rfl rfl (guard_cond rfl) (fun hg => zfa (o := 1) (zt rfl) zk rfl rfl) ?_
                  refine zg rfl rfl rfl rfl (guard_cond rfl) (fun hg => zl1 (zcd (zt rfl) hg) zk rfl rfl rfl rfl) ?_
                  refine zg rfl rfl rfl rfl (guard_cond rfl) (fun hg => zfa (o := 1) (zt rfl) zk rfl rfl) ?_
                  refine zg rfl rfl rfl rfl (guard_cond rfl) (fun hg => zl1 (zcd (zt rfl) hg) zk rfl rfl rfl rfl) ?_
                  refine zg rfl rfl rfl rfl (guard_cond rfl) (fun hg => zcm (zcd (zt rfl) hg) (zcd (zt rfl) hg) rfl rfl rfl) ?_
                  refine zg rfl rfl rfl rfl (zgb rfl) (fun hg => zan (zcd (zt rfl) hg) (has_cond_and (zt rfl) hg) (.inl zb0) rfl rfl) ?_
                  refine zc rfl (zor (zt rfl) (.inl zb0) (zt rfl) rfl ?_)
                  refine zc rfl (zas (zt rfl) rfl ?_)
                  refine zn0 ?_
                  refine zbn ?_
                  refine ztn ?_
                  refine zre ?_
                  refine zc rfl (zar (zt rfl) (zi zdc) rfl (ink64 zom zom) rfl ?_)
                  refine zc rfl (zmv (zt rfl) rfl ?_)
                  refine zn0 ?_
                  refine ztn ?_
                  refine ⟨(found || (decide ((twoF l)[k2]!.node = (twoF (l.take v.toNat))[k1]!.node) && decide ((twoF l)[k2]!.slot = (twoF (l.take v.toNat))[k1]!.slot))), k2 + 1, ?_, ?_, (le_of (sc rfl (sc rfl (sc rfl (sc rfl (sc rfl (sc rfl (sc rfl (sc rfl (sc rfl (sc rfl (sc rfl sz))))))))))) (xc rfl xz) (kc rfl kz))⟩
                  · refine ⟨?_, ?_⟩
                    · exact zen
                    · rw [hf]; exact any_take (q := likeT (twoF (l.take v.toNat))[k1]!) hkl
                  · first | omega | (simp at *; omega)
                · skip
                  have g6 := h6
                  try simp only [zbz, List.length_map] at g6
                  have hk1 : (twoF l).length = k2 := by omega
                  rw [← hk1, List.take_length, foundT hk0] at hf
                  refine zwe ?_
                  refine zte ?_
                  refine zte ?_
                  refine zbk ?_
                  refine ztn ?_
                  refine zsr ?_
                  refine zc rfl (zmv (zt rfl) rfl ?_)
                  refine zc rfl (op_not (zt rfl) rfl ?_)
                  refine zn0 ?_
                  refine awp_le (le_of (ls := [(6, .one (.slt 1010 (back.map Sighting.d))), (8, VR ((extF l).map Finding.d)), (9, VR ((twoF l).map Finding.d)), (89, VR ((twoF (l.take v.toNat)).map Finding.d)), (90, VI (((twoF (l.take v.toNat)).map Finding.d).length : Int)), (91, VI ((k1 : Nat) : Int)), (118, VB (!found))]) (bs := []) (ts := [(1010, (57, 26))]) (sc rfl (sc rfl (sc rfl (sc rfl (sc rfl (sc rfl (sc rfl sz))))))) xz (kc rfl kz)) ?_
                  refine zwc (zt rfl) (fun h7 => ?_) (fun h7 => ?_)
                  · skip
                    rw [hf] at h7
                    cases h7
                  · skip
                    refine zws ?_
                    refine zbn ?_
                    refine ztn ?_
                    refine zre ?_
                    refine zc rfl (zar (zt rfl) (zi zdc) rfl (ink64 zom zom) rfl ?_)
                    refine zc rfl (zmv (zt rfl) rfl ?_)
                    refine zn0 ?_
                    refine ztn ?_
                    refine ⟨k1 + 1, ?_, ?_, (le_of (sc rfl (sc rfl (sc rfl (sc rfl (sc rfl (sc rfl sz)))))) xz (kc rfl kz))⟩
                    · exact zen
                    · first | omega | (simp at *; omega)
            · skip
              have g5 := h5
              try simp only [zbz, List.length_map] at g5
              refine zwe ?_
              refine zte ?_
              refine zte ?_
              refine zbk ?_
              refine ztn ?_
              refine zsr ?_
              refine zc rfl (zmv (zt rfl) rfl ?_)
              refine zc rfl (zcl zhf (hc (zt rfl) hz) (rs := []) (bxs := []) zdc bz (c_TwoF back (fun x hx => hsp.ok x (List.mem_reverse.1 (hb2 ▸ hx))) (by omega)) rfl rfl rfl (fun d b hd hl => ?_))
              obtain ⟨rfl, rfl⟩ := hd
              refine zc rfl (zmv (zt rfl) rfl ?_)
              refine zc rfl (zcl zhf (hc (zt rfl) (hc (zt rfl) hz)) (rs := []) (bxs := []) zdc bz (c_trustquorumref44_Findings (twoF back) (twoF l) (by have := twoF_len back; omega) (by omega)) rfl rfl rfl (fun d b hd hl => ?_))
              obtain ⟨rfl, rfl⟩ := hd
              refine zc rfl (zmv (zt rfl) rfl ?_)
              refine zg rfl rfl rfl rfl (zgb rfl) (fun hg => zmv (zt rfl) rfl rfl) ?_
              refine zg rfl rfl rfl rfl (zgb rfl) (fun hg => zcl zhf (hc (zcd (zt rfl) hg) hz) (rs := []) (bxs := []) zdc bz (c_ExtF back (fun x hx => hsp.ok x (List.mem_reverse.1 (hb2 ▸ hx))) (by omega)) rfl rfl rfl (fun d b hd hl => by obtain ⟨rfl, rfl⟩ := hd; rfl)) ?_
              refine zg rfl rfl rfl rfl (zgb rfl) (fun hg => zln (e := 29) (n := 5) (zcd (zt rfl) hg) rfl zk rfl (fun hl => rfl)) ?_
              refine zg rfl rfl rfl rfl (zgb rfl) (fun hg => zmv (zt rfl) rfl rfl) ?_
              refine zg rfl rfl rfl rfl (zgb rfl) (fun hg => zln (e := 29) (n := 5) (zcd (zt rfl) hg) rfl zk rfl (fun hl => rfl)) ?_
              refine zg rfl rfl rfl rfl (zgb rfl) (fun hg => zcm (zcd (zt rfl) hg) (zcd (zt rfl) hg) rfl rfl rfl) ?_
              refine zc rfl (zan (zt rfl) (zt rfl) (.inl zb0) rfl ?_)
              refine zc rfl (zmv (zt rfl) rfl ?_)
              refine zg rfl rfl rfl rfl (zgb rfl) (fun hg => zcl zhf hz (rs := []) (bxs := []) zdc bz (c_sane) rfl rfl rfl (fun d b hd hl => by obtain ⟨rfl, rfl⟩ := hd; rfl)) ?_
              refine zc rfl (zan (zt rfl) (zt rfl) (.inl zb0) rfl ?_)
              refine zc rfl (zas (zt rfl) rfl ?_)
              refine zn0 ?_
              refine zwr ?_
              refine zpr [] (res1 (zrt rfl)) rfl lz ?_
              rw [hb2]
              simp [twoF_rev, extF_rev, V.norm]
              rfl

end Go.TQ
