/- s26.py -/
import Derived.Test.YtmfiplnojbjcbaaGreatP05
set_option linter.unusedVariables false
set_option linter.unusedSimpArgs false
set_option maxRecDepth 10000
set_option maxHeartbeats 4000000
namespace Go.TQ
open Go.Proofs


def Sighting.cntN (node : Int) (x : Sighting) : Bool := !(((((!decide (x.l.kind = 2) || !x.l.env.validR) || !decide (x.fr = x.l.env.node)) || !decide (x.l.env.node = node)) || !decide (x.l.env.slot = 1)))
theorem cntN_at (node : Int) (x : Sighting) : x.cntN node = x.at ⟨node, 1⟩ := by
  rw [at_eq]
  unfold Sighting.cntN Sighting.countsR
  have hp : decide (x.place = ⟨node, 1⟩) = (decide (x.l.env.node = node) && decide (x.l.env.slot = 1)) := by
    rw [← Bool.decide_and, decide_eq_decide]
    unfold Sighting.place
    exact Place.mk.injEq _ _ _ _ ▸ Iff.rfl
  rw [hp]
  cases decide (x.l.kind = 2) <;> cases x.l.env.validR <;> cases decide (x.fr = x.l.env.node) <;> cases decide (x.l.env.node = node) <;> cases decide (x.l.env.slot = 1) <;> rfl
theorem cntN_fun (node : Int) : Sighting.cntN node = Sighting.at ⟨node, 1⟩ := funext (cntN_at node)
theorem any_step {p q : Sighting → Bool} {l : List Sighting} {k : Nat} (h : k < l.length) (hp : p l[k]! = true) : (((l.take k).filter p).any q || q l[k]!) = ((l.take (k + 1)).filter p).any q := by
  rw [← filt_yes h hp, List.any_append]; simp
theorem any_skip {p q : Sighting → Bool} {l : List Sighting} {k : Nat} (h : k < l.length) (hp : p l[k]! = false) : ((l.take k).filter p).any q = ((l.take (k + 1)).filter p).any q := by
  rw [← filt_no h hp]
/-- The envelopes under a node and the slot 1. -/
def envs (l : List Sighting) (node : Int) : List Env := getK ⟨node, 1⟩ (filesL l)
theorem envs_eq (l : List Sighting) (node : Int) : envs l node = (l.filter (Sighting.cntN node)).map fun x => x.l.env := by rw [envs, getK_files, cntN_fun]
theorem envs_own (l : List Sighting) (node : Int) : envs (l.filter (Sighting.cntN node)) node = envs l node := by
  rw [envs_eq, envs_eq, List.filter_filter]
  simp
theorem seq_le {l : List Sighting} {node : Int} {k : Nat} (h : k < l.length) (hc : l[k]!.cntN node = true) : l[k]!.l.env.seq ≤ (newestL (envs l node)).1.seq := by
  apply newestL_max
  rw [envs_eq]
  exact List.mem_map.2 ⟨l[k]!, List.mem_filter.2 ⟨mem_at h, hc⟩, rfl⟩
theorem fin5 {a d s a2 sm : Bool} (h : (((!decide (a = d) || (a && !s)) || !decide (a2 = a)) || !sm) = true) (ha : a = d) (hs : a = true → s = true) (h2 : a2 = a) (hsm : sm = true) : False := by
  subst ha; subst h2; subst hsm
  cases a2 <;> simp_all
theorem newest_fine {l own : List Sighting} {node : Int} {seen : Bool} (ho : own = l.filter (Sighting.cntN node)) (hs : seen = own.any fun x => (newestL (envs l node)).1.sameR x.l.env) :
    (newestL (envs l node)).2 = decide (0 < own.length) ∧ ((newestL (envs l node)).2 = true → seen = true) ∧ newestL (envs own node) = newestL (envs l node) := by
  subst ho
  refine ⟨by rw [newestL_snd, envs_eq, List.length_map], fun h => ?_, by rw [envs_own]⟩
  have hne : envs l node ≠ [] := by intro h0; rw [h0] at h; cases h
  have hm := (newestL_mem hne).2
  rw [hs, List.any_eq_true]
  rw [envs_eq] at hm
  obtain ⟨x, hx, he⟩ := List.mem_map.1 hm
  refine ⟨x, hx, ?_⟩
  rw [envs_eq, he]
  exact sameR_refl _

theorem law_Newest (t : List Int) : ACalls Tryz.prog 4 [VR (iRows t)] [] fun dd bb => dd = VB true ∧ bb = [] := by
  refine zai Tryz.func4 rfl Tryz.ntmps4 (by rw [Tryz.results4]) rfl rfl (fun w0 A0 X => ?_)
  refine zsr ?_
  refine zc rfl (zas zb0 rfl ?_)
  refine zn0 ?_
  refine zsr ?_
  refine zc rfl (zmv (zt rfl) rfl ?_)
  refine zc rfl (op_callN zhf (hc (zt rfl) hz) (rs := []) (bxs := []) zdc zdc bz (c_New t) rfl rfl rfl (fun d b cs hd hl => ?_))
  obtain ⟨rfl, rfl, rfl⟩ := hd
  refine zc rfl (zas (zt rfl) rfl ?_)
  refine zn0 ?_
  refine zsr ?_
  refine zc rfl (zmv (zt rfl) rfl ?_)
  refine zc rfl (zcl zhf (hc (zt rfl) hz) (rs := [.o 16]) (bxs := [_]) zdc (bc rfl bz) (c_sightings (Src.mk (t.take (min (t.length : Int) 800).toNat) 0) (new_at t)) rfl rfl rfl (fun d b hd hl => ?_))
  obtain ⟨l, s2, rfl, rfl, ⟨hl, hs⟩⟩ := hd
  have hlen8 := hl.len
  have hsp := hl
  refine zc rfl (zas (zt rfl) rfl ?_)
  refine zn0 ?_
  refine zw2 ?_
  refine zsr ?_
  refine zc rfl (zas (zi zdc) rfl ?_)
  refine zn0 ?_
  refine zwb ?_
  refine zlp (fs := [(4, _)]) (fb := []) (fun (node : Nat) => [(5, VI ((node : Nat) : Int))]) (fun (node : Nat) => []) (fun (node : Nat) => []) (fun (node : Nat) => (node ≤ 4)) (fun (node : Nat) => 4 - node) 0 (le_of (sc rfl (sc rfl sz)) xz kz) ?_ ?_
  · exact zen
  · intro node hk
    refine zw2 ?_
    refine zsr ?_
    refine zc rfl (zmv (zt rfl) rfl ?_)
    refine zc rfl (zcm (zt rfl) (zi zdc) rfl rfl ?_)
    refine zn0 ?_
    refine zwc (zt rfl) (fun h1 => ?_) (fun h1 => ?_)
    · skip
      have g1 := h1
      try simp only [zbz, List.length_map] at g1
      refine zws ?_
      refine ztn ?_
      refine zw2 ?_
      refine zwb ?_
      refine zsr ?_
      refine zc rfl (zmv (zt rfl) rfl ?_)
      refine zc rfl (zmv (zt rfl) rfl ?_)
      refine zc rfl (zcl zhf (hc (zt rfl) (hc (zt rfl) (hc (zi zdc) hz))) (rs := []) (bxs := []) zdc bz (c_monitor_Newest l ((node : Nat) : Int) 1 hsp.ok (Nat.le_trans hsp.len (by omega))) rfl rfl rfl (fun d b hd hl => ?_))
      obtain ⟨rfl, rfl⟩ := hd
      refine zc rfl (zmv (zt rfl) rfl ?_)
      refine zc rfl (op_extract (zt rfl) rfl rfl ?_)
      refine zc rfl (op_extract (zt rfl) rfl rfl ?_)
      refine zc rfl (zal (cs := [.dat (.int .i64 0), .dat (.int .i64 0), .dat (.int .i64 0), .dat (.int .i64 0), .nilsl, .nilsl, .dat (.int .i64 0), .dat (.int .i64 0), .dat (.str ⟨#[]⟩), .dat (.int .i64 0), .dat (.str ⟨#[]⟩), .dat (.int .i64 0), .dat (.str ⟨#[]⟩), .dat (.int .i64 0), .dat (.int .i64 0)]) zk rfl ?_)
      refine zc rfl (zst (n := 15) (zt rfl) (zt rfl) rfl (.inl zk) rfl rfl (zbl rfl) ?_)
      refine zc rfl (zas (zt rfl) rfl ?_)
      refine zn0 ?_
      refine zsr ?_
      refine zc rfl (zas zb0 rfl ?_)
      refine zn0 ?_
      refine zsr ?_
      refine zc rfl (zas has_nil rfl ?_)
      refine zn0 ?_
      refine zw2 ?_
      refine zsr ?_
      refine zc rfl (zmv (zt rfl) rfl ?_)
      refine zc rfl (zln (e := 57) (n := 26) (zt rfl) rfl zk rfl (fun hl30 => ?_))
      try simp only [List.length_map] at hl30
      refine zc rfl (zmv (zi zdc) rfl ?_)
      refine zn0 ?_
      refine zwb ?_
      refine awp_loop3 (fs := [(4, _), (5, _), (6, _), (7, _), (29, _), (30, _)]) (fb := [(.o 6, _)]) (fun (seen : Bool) (own : List Sighting) (k : Nat) => [(8, VB seen), (9, .one (.slt 1021 (own.map Sighting.d))), (31, VI ((k : Nat) : Int))]) (fun (seen : Bool) (own : List Sighting) (k : Nat) => []) (fun (seen : Bool) (own : List Sighting) (k : Nat) => [(1021, (57, 26))]) (fun (seen : Bool) (own : List Sighting) (k : Nat) => (k ≤ l.length) ∧ (own = (l.take k).filter (Sighting.cntN node)) ∧ (seen = ((l.take k).filter (Sighting.cntN node)).any fun x => (newestL (envs l (node : Int))).1.sameR x.l.env) ∧ (own.length ≤ k)) (fun (seen : Bool) (own : List Sighting) (k : Nat) => l.length - k) false [] 0 ((le_adopt (q := 1021) (t := 9) (e := 57) (k := 26) zdc rfl).trans (le_of (sc rfl (sc rfl (sc rfl (sc rfl (sc rfl (sc rfl (sc rfl (sc rfl (sc rfl sz))))))))) (xc rfl xz) (kc rfl kz))) ?_ ?_
      · refine ⟨?_, ?_, ?_, ?_⟩
        · exact zen
        · rfl
        · rfl
        · exact zen
      · intro seen own k ⟨hk, ho, hse, hol⟩
        refine zsr ?_
        refine zc rfl (zcm (zt rfl) (zt rfl) rfl rfl ?_)
        refine zn0 ?_
        refine zw2 ?_
        refine zwc (zt rfl) (fun h2 => ?_) (fun h2 => ?_)
        · skip
          have g2 := h2
          try simp only [zbz, List.length_map] at g2
          have hkl : k < l.length := by omega
          refine zws ?_
          refine ztn ?_
          refine zw2 ?_
          refine zwb ?_
          refine zsr ?_
          refine zc rfl (op_indexAddr (e := 57) (n := 26) (zt rfl) rfl (zt rfl) zk zom (show (l.map Sighting.d)[k]? = some (l[k]!.d) from (map_getD zom)) rfl rfl ?_)
          refine zc rfl (op_load_imm (n := 26) (zt rfl) zk rfl rfl rfl ?_)
          refine zc rfl (zal (cs := [.dat (.int .i64 0), .dat (.int .i64 0), .dat (.int .i64 0), .dat (.int .i64 0), .dat (.int .i64 0), .dat (.int .i64 0), .dat (.int .i64 0), .nilsl, .nilsl, .nilsl, .nilsl, .dat (.int .i64 0), .dat (.int .i64 0), .dat (.int .i64 0), .dat (.int .i64 0), .nilsl, .nilsl, .dat (.int .i64 0), .dat (.int .i64 0), .dat (.str ⟨#[]⟩), .dat (.int .i64 0), .dat (.str ⟨#[]⟩), .dat (.int .i64 0), .dat (.str ⟨#[]⟩), .dat (.int .i64 0), .dat (.int .i64 0)]) zk rfl ?_)
          refine zc rfl (zst (n := 26) (zt rfl) (zt rfl) rfl (.inl zk) rfl rfl (zbl rfl) ?_)
          refine zn0 ?_
          refine zsr ?_
          refine zc rfl (zfa (o := 2) (zt rfl) zk rfl ?_)
          refine zc rfl (zfa (o := 9) (zt rfl) zk rfl ?_)
          refine zc rfl (zld (n := 15) (zt rfl) zk rfl rfl rfl rfl ?_)
          refine zc rfl (zal (cs := [.dat (.int .i64 0), .dat (.int .i64 0), .dat (.int .i64 0), .dat (.int .i64 0), .nilsl, .nilsl, .dat (.int .i64 0), .dat (.int .i64 0), .dat (.str ⟨#[]⟩), .dat (.int .i64 0), .dat (.str ⟨#[]⟩), .dat (.int .i64 0), .dat (.str ⟨#[]⟩), .dat (.int .i64 0), .dat (.int .i64 0)]) zk rfl ?_)
          refine zc rfl (zst (n := 15) (zt rfl) (zt rfl) rfl (.inl zk) rfl rfl (zbl rfl) ?_)
          refine zn0 ?_
          refine zw2 ?_
          refine zsr ?_
          refine zc rfl (zfa (o := 2) (zt rfl) zk rfl ?_)
          refine zc rfl (zfa (o := 0) (zt rfl) zk rfl ?_)
          refine zc rfl (zl1 (zt rfl) zk rfl rfl rfl ?_)
          refine zc rfl (zcm (zt rfl) (zi zdc) rfl rfl ?_)
          refine zc rfl (zmv (zt rfl) rfl ?_)
          refine zg rfl rfl rfl rfl (zgb rfl) (fun hg => zld (n := 15) (zt rfl) zk rfl rfl rfl rfl rfl) ?_
          refine zg rfl rfl rfl rfl (zgb rfl) (fun hg => zcl zhf (hc (zcd (zt rfl) hg) hz) (rs := []) (bxs := []) zdc bz (c_trustquorumref24_Valid l[k]!.l.env (hsp.ok _ (mem_at hkl))) rfl rfl rfl (fun d b hd hl => by obtain ⟨rfl, rfl⟩ := hd; rfl)) ?_
          refine zg rfl rfl rfl rfl (zgb rfl) (fun hg => op_not (zcd (zt rfl) hg) rfl rfl) ?_
          refine zc rfl (zor (zt rfl) (.inl zb0) (zt rfl) rfl ?_)
          refine zc rfl (zmv (zt rfl) rfl ?_)
          refine zg rfl rfl rfl rfl (zgb rfl) (fun hg => zfa (o := 1) (zt rfl) zk rfl rfl) ?_
          refine zg rfl rfl rfl rfl (zgb rfl) (fun hg => zl1 (zcd (zt rfl) hg) zk rfl rfl rfl rfl) ?_
          refine zg rfl rfl rfl rfl (zgb rfl) (fun hg => zfa (o := 0) (zt rfl) zk rfl rfl) ?_
          refine zg rfl rfl rfl rfl (zgb rfl) (fun hg => zl1 (zcd (zt rfl) hg) zk rfl rfl rfl rfl) ?_
          refine zg rfl rfl rfl rfl (zgb rfl) (fun hg => zcm (zcd (zt rfl) hg) (zcd (zt rfl) hg) rfl rfl rfl) ?_
          refine zc rfl (zor (zt rfl) (.inl zb0) (zt rfl) rfl ?_)
          refine zc rfl (zmv (zt rfl) rfl ?_)
          refine zg rfl rfl rfl rfl (zgb rfl) (fun hg => zfa (o := 0) (zt rfl) zk rfl rfl) ?_
          refine zg rfl rfl rfl rfl (zgb rfl) (fun hg => zl1 (zcd (zt rfl) hg) zk rfl rfl rfl rfl) ?_
          refine zg rfl rfl rfl rfl (zgb rfl) (fun hg => zmv (zt rfl) rfl rfl) ?_
          refine zg rfl rfl rfl rfl (zgb rfl) (fun hg => zcm (zcd (zt rfl) hg) (zcd (zt rfl) hg) rfl rfl rfl) ?_
          refine zc rfl (zor (zt rfl) (.inl zb0) (zt rfl) rfl ?_)
          refine zc rfl (zmv (zt rfl) rfl ?_)
          refine zg rfl rfl rfl rfl (zgb rfl) (fun hg => zfa (o := 1) (zt rfl) zk rfl rfl) ?_
          refine zg rfl rfl rfl rfl (zgb rfl) (fun hg => zl1 (zcd (zt rfl) hg) zk rfl rfl rfl rfl) ?_
          refine zg rfl rfl rfl rfl (zgb rfl) (fun hg => zcm (zcd (zt rfl) hg) (zi zdc) rfl rfl rfl) ?_
          refine zc rfl (zor (zt rfl) (.inl zb0) (zt rfl) rfl ?_)
          refine zn0 ?_
          refine awp_le (le_of (ls := [(4, VR (l.map Sighting.d)), (5, VI ((node : Nat) : Int)), (6, .one (.ref (.o 6) 0)), (7, VB (newestL (getK ⟨((node : Nat) : Int), 1⟩ (filesL l))).2), (8, VB seen), (9, .one (.slt 1021 (own.map Sighting.d))), (11, .one (.ref (.o 11) 0)), (12, .one (.ref (.o 12) 0)), (29, VR (l.map Sighting.d)), (30, VI ((l.map Sighting.d).length : Int)), (31, VI ((k : Nat) : Int)), (64, VB (((((!decide (l[k]!.l.kind = 2)) || (!l[k]!.l.env.validR)) || (!decide (l[k]!.fr = l[k]!.l.env.node))) || (!decide (l[k]!.l.env.node = ((node : Nat) : Int)))) || (!decide (l[k]!.l.env.slot = 1))))]) (bs := [(.o 6, [.dat (.int .i64 (newestL (getK ⟨((node : Nat) : Int), 1⟩ (filesL l))).1.node), .dat (.int .i64 (newestL (getK ⟨((node : Nat) : Int), 1⟩ (filesL l))).1.slot), .dat (.int .i64 (newestL (getK ⟨((node : Nat) : Int), 1⟩ (filesL l))).1.seq), .dat (.int .i64 (newestL (getK ⟨((node : Nat) : Int), 1⟩ (filesL l))).1.trust.thr), .dat (.sl (iRows (newestL (getK ⟨((node : Nat) : Int), 1⟩ (filesL l))).1.trust.nodes)), .dat (.sl ((newestL (getK ⟨((node : Nat) : Int), 1⟩ (filesL l))).1.trust.inner.map Trust.enc)), .dat (.int .i64 (newestL (getK ⟨((node : Nat) : Int), 1⟩ (filesL l))).1.kind), .dat (.int .i64 (newestL (getK ⟨((node : Nat) : Int), 1⟩ (filesL l))).1.b.c), .dat (.str (newestL (getK ⟨((node : Nat) : Int), 1⟩ (filesL l))).1.b.v), .dat (.int .i64 (newestL (getK ⟨((node : Nat) : Int), 1⟩ (filesL l))).1.p.c), .dat (.str (newestL (getK ⟨((node : Nat) : Int), 1⟩ (filesL l))).1.p.v), .dat (.int .i64 (newestL (getK ⟨((node : Nat) : Int), 1⟩ (filesL l))).1.q.c), .dat (.str (newestL (getK ⟨((node : Nat) : Int), 1⟩ (filesL l))).1.q.v), .dat (.int .i64 (newestL (getK ⟨((node : Nat) : Int), 1⟩ (filesL l))).1.low), .dat (.int .i64 (newestL (getK ⟨((node : Nat) : Int), 1⟩ (filesL l))).1.high)]), (.o 11, [.dat (.int .i64 l[k]!.time), .dat (.int .i64 l[k]!.fr), .dat (.int .i64 l[k]!.l.kind), .dat (.int .i64 l[k]!.l.slot), .dat (.int .i64 l[k]!.l.nom.node), .dat (.int .i64 l[k]!.l.nom.seq), .dat (.int .i64 l[k]!.l.nom.trust.thr), .dat (.sl (iRows l[k]!.l.nom.trust.nodes)), .dat (.sl (l[k]!.l.nom.trust.inner.map Trust.enc)), .dat (.sl (l[k]!.l.nom.votes.map sRow)), .dat (.sl (l[k]!.l.nom.accepts.map sRow)), .dat (.int .i64 l[k]!.l.env.node), .dat (.int .i64 l[k]!.l.env.slot), .dat (.int .i64 l[k]!.l.env.seq), .dat (.int .i64 l[k]!.l.env.trust.thr), .dat (.sl (iRows l[k]!.l.env.trust.nodes)), .dat (.sl (l[k]!.l.env.trust.inner.map Trust.enc)), .dat (.int .i64 l[k]!.l.env.kind), .dat (.int .i64 l[k]!.l.env.b.c), .dat (.str l[k]!.l.env.b.v), .dat (.int .i64 l[k]!.l.env.p.c), .dat (.str l[k]!.l.env.p.v), .dat (.int .i64 l[k]!.l.env.q.c), .dat (.str l[k]!.l.env.q.v), .dat (.int .i64 l[k]!.l.env.low), .dat (.int .i64 l[k]!.l.env.high)]), (.o 12, [.dat (.int .i64 l[k]!.l.env.node), .dat (.int .i64 l[k]!.l.env.slot), .dat (.int .i64 l[k]!.l.env.seq), .dat (.int .i64 l[k]!.l.env.trust.thr), .dat (.sl (iRows l[k]!.l.env.trust.nodes)), .dat (.sl (l[k]!.l.env.trust.inner.map Trust.enc)), .dat (.int .i64 l[k]!.l.env.kind), .dat (.int .i64 l[k]!.l.env.b.c), .dat (.str l[k]!.l.env.b.v), .dat (.int .i64 l[k]!.l.env.p.c), .dat (.str l[k]!.l.env.p.v), .dat (.int .i64 l[k]!.l.env.q.c), .dat (.str l[k]!.l.env.q.v), .dat (.int .i64 l[k]!.l.env.low), .dat (.int .i64 l[k]!.l.env.high)])]) (ts := [(1021, (57, 26))]) (sc rfl (sc rfl (sc rfl (sc rfl (sc rfl (sc rfl (sc rfl (sc rfl (sc rfl (sc rfl (sc rfl (sc rfl sz)))))))))))) (xc rfl (xc rfl (xc rfl xz))) (kc rfl kz)) ?_
          refine zwc (zt rfl) (fun h3 => ?_) (fun h3 => ?_)
          · skip
            have hcn : l[k]!.cntN node = false := by rw [Sighting.cntN]; rw [show _ = true from h3]; rfl
            refine zwe ?_
            refine zte ?_
            refine zbk ?_
            refine ztn ?_
            refine zre ?_
            refine zc rfl (zar (zt rfl) (zi zdc) rfl (ink64 zom zom) rfl ?_)
            refine zc rfl (zmv (zt rfl) rfl ?_)
            refine zn0 ?_
            refine ztn ?_
            refine ⟨seen, own, k + 1, ?_, ?_, (le_of (sc rfl (sc rfl (sc rfl (sc rfl (sc rfl (sc rfl (sc rfl (sc (slt_eq rfl (by first | rfl | exact List.map_append | (simp only [List.map_append, List.map_cons, List.map_nil]; rfl) | simp)) (sc rfl sz))))))))) (xc rfl xz) (kc rfl kz))⟩
            · refine ⟨?_, ?_, ?_, ?_⟩
              · exact zen
              · first | exact ho.trans (filt_no hkl hcn) | exact ho ▸ filt_yes hkl hcn
              · first | exact hse.trans (any_skip hkl hcn) | (rw [hse]; exact any_step (q := fun x => (newestL (envs l (node : Int))).1.sameR x.l.env) hkl hcn)
              · first | omega | (simp only [List.length_append, List.length_cons, List.length_nil]; omega)
            · first | omega | (simp at *; omega)
          · skip
            have hcn : l[k]!.cntN node = true := by rw [Sighting.cntN]; rw [show _ = false from h3]; rfl
            refine zws ?_
            refine ztn ?_
            refine zsr ?_
            refine zc rfl (zmv (zt rfl) rfl ?_)
            refine zc rfl (zld (n := 26) (zt rfl) zk rfl rfl rfl rfl ?_)
            refine zc rfl (zbs (e := 57) (ps := [(_, _)]) (qs := [(_, _)]) (n := 26) (rows := [[_, _, _, _, _, _, _, _, _, _, _, _, _, _, _, _, _, _, _, _, _, _, _, _, _, _]]) (pc (zt rfl) rfl pz) zk zdc ⟨[.dat (.int .i64 0), .dat (.int .i64 0), .dat (.int .i64 0), .dat (.int .i64 0), .dat (.int .i64 0), .dat (.int .i64 0), .dat (.int .i64 0), .nilsl, .nilsl, .nilsl, .nilsl, .dat (.int .i64 0), .dat (.int .i64 0), .dat (.int .i64 0), .dat (.int .i64 0), .nilsl, .nilsl, .dat (.int .i64 0), .dat (.int .i64 0), .dat (.str ⟨#[]⟩), .dat (.int .i64 0), .dat (.str ⟨#[]⟩), .dat (.int .i64 0), .dat (.str ⟨#[]⟩), .dat (.int .i64 0), .dat (.int .i64 0)], by kernel_rfl⟩ rfl rfl (by simp [Uni]) rfl zdc rfl ?_)
            refine zc rfl (op_append (e := 57) (k := 26) (b := 328) (zt rfl) rfl (zt rfl) rfl zk (by first | exact uni_snoc (uni_map (f := Sighting.d) (fun _ => rfl) _) rfl | (simp [Uni]; done)) (by first | (simp; done) | (simp; omega) | (simp at *; omega)) (by first | (simp; done) | (simp; omega) | (simp at *; omega)) rfl ?_)
            refine zc rfl (zas (zt rfl) rfl ?_)
            refine zn0 ?_
            refine zsr ?_
            refine zc rfl (zmv (zt rfl) rfl ?_)
            refine zc rfl (zmv (zt rfl) rfl ?_)
            refine zg rfl rfl rfl rfl (zgb rfl) (fun hg => zld (n := 15) (zt rfl) zk rfl rfl rfl rfl rfl) ?_
            refine zg rfl rfl rfl rfl (zgb rfl) (fun hg => zld (n := 15) (zt rfl) zk rfl rfl rfl rfl rfl) ?_
            refine zg rfl rfl rfl rfl (zgb rfl) (fun hg => zcl zhf (hc (zcd (zt rfl) hg) (hc (zcd (zt rfl) hg) hz)) (rs := []) (bxs := []) zdc bz (c_trustquorumref24_Same (newestL (getK ⟨((node : Nat) : Int), 1⟩ (filesL l))).1 l[k]!.l.env) rfl rfl rfl (fun d b hd hl => by obtain ⟨rfl, rfl⟩ := hd; rfl)) ?_
            refine zc rfl (zor (zt rfl) (.inl zb0) (zt rfl) rfl ?_)
            refine zc rfl (zas (zt rfl) rfl ?_)
            refine zn0 ?_
            refine zsr ?_
            refine zc rfl (zfa (o := 2) (zt rfl) zk rfl ?_)
            refine zc rfl (zl1 (zt rfl) zk rfl rfl rfl ?_)
            refine zc rfl (zfa (o := 2) (zt rfl) zk rfl ?_)
            refine zc rfl (zl1 (zt rfl) zk rfl rfl rfl ?_)
            refine zc rfl (zcm (zt rfl) (zt rfl) rfl rfl ?_)
            refine zn0 ?_
            refine zwc (zt rfl) (fun h4 => ?_) (fun h4 => ?_)
            · skip
              exfalso
              have h5 := seq_le hkl hcn
              have h6 := of_decide_eq_true h4
              exact absurd h5 (Int.not_le.2 h6)
            · skip
              refine zws ?_
              refine zbn ?_
              refine ztn ?_
              refine zre ?_
              refine zc rfl (zar (zt rfl) (zi zdc) rfl (ink64 zom zom) rfl ?_)
              refine zc rfl (zmv (zt rfl) rfl ?_)
              refine zn0 ?_
              refine ztn ?_
              refine ⟨(seen || ((newestL (getK ⟨((node : Nat) : Int), 1⟩ (filesL l))).1.sameR l[k]!.l.env)), (own ++ [l[k]!]), k + 1, ?_, ?_, ((le_retok (q := 68) (p := 1021) (s := 9) rfl rfl).trans (le_of (sc rfl (sc rfl (sc rfl (sc rfl (sc rfl (sc rfl (sc rfl (sc (slt_eq rfl (by first | rfl | exact List.map_append | (simp only [List.map_append, List.map_cons, List.map_nil]; rfl) | simp)) (sc rfl sz))))))))) (xc rfl xz) (kc rfl kz)))⟩
              · refine ⟨?_, ?_, ?_, ?_⟩
                · exact zen
                · first | exact ho.trans (filt_no hkl hcn) | exact ho ▸ filt_yes hkl hcn
                · first | exact hse.trans (any_skip hkl hcn) | (rw [hse]; exact any_step (q := fun x => (newestL (envs l (node : Int))).1.sameR x.l.env) hkl hcn)
                · first | omega | (simp only [List.length_append, List.length_cons, List.length_nil]; omega)
              · first | omega | (simp at *; omega)
        · skip
          have g2 := h2
          try simp only [zbz, List.length_map] at g2
          obtain rfl : k = l.length := by omega
          rw [List.take_length] at ho hse
          obtain ⟨n1, n2, n3⟩ := newest_fine ho (ho ▸ hse)
          refine zwe ?_
          refine zte ?_
          refine zte ?_
          refine zbk ?_
          refine ztn ?_
          refine zsr ?_
          refine zc rfl (zmv (zt rfl) rfl ?_)
          refine zc rfl (zmv (zt rfl) rfl ?_)
          refine zc rfl (zcl zhf (hc (zt rfl) (hc (zt rfl) (hc (zi zdc) hz))) (rs := []) (bxs := []) zdc bz (c_monitor_Newest own ((node : Nat) : Int) 1 (fun x hx => hsp.ok x (List.mem_filter.1 (ho ▸ hx)).1) (by omega)) rfl rfl rfl (fun d b hd hl => ?_))
          obtain ⟨rfl, rfl⟩ := hd
          refine zc rfl (zmv (zt rfl) rfl ?_)
          refine zc rfl (op_extract (zt rfl) rfl rfl ?_)
          refine zc rfl (op_extract (zt rfl) rfl rfl ?_)
          refine zc rfl (zal (cs := [.dat (.int .i64 0), .dat (.int .i64 0), .dat (.int .i64 0), .dat (.int .i64 0), .nilsl, .nilsl, .dat (.int .i64 0), .dat (.int .i64 0), .dat (.str ⟨#[]⟩), .dat (.int .i64 0), .dat (.str ⟨#[]⟩), .dat (.int .i64 0), .dat (.str ⟨#[]⟩), .dat (.int .i64 0), .dat (.int .i64 0)]) zk rfl ?_)
          refine zc rfl (zst (n := 15) (zt rfl) (zt rfl) rfl (.inl zk) rfl rfl (zbl rfl) ?_)
          refine zc rfl (zas (zt rfl) rfl ?_)
          refine zn0 ?_
          refine zsr ?_
          refine zc rfl (zmv (zt rfl) rfl ?_)
          refine zc rfl (zmv (zt rfl) rfl ?_)
          refine zc rfl (zln (e := 57) (n := 26) (zt rfl) rfl zk rfl (fun hl89 => ?_))
          try simp only [List.length_map] at hl89
          refine zc rfl (zcm (zt rfl) (zi zdc) rfl rfl ?_)
          refine zc rfl (op_cmp_bool (.inr rfl) (zt rfl) (zt rfl) zk rfl ?_)
          refine zc rfl (zmv (zt rfl) rfl ?_)
          refine zg rfl rfl rfl rfl (zgb rfl) (fun hg => zmv (zt rfl) rfl rfl) ?_
          refine zg rfl rfl rfl rfl (zgb rfl) (fun hg => zmv (zcd (zt rfl) hg) rfl rfl) ?_
          refine zg rfl rfl rfl rfl (guard_cond rfl) (fun hg => zmv (zt rfl) rfl rfl) ?_
          refine zg rfl rfl rfl rfl (guard_cond rfl) (fun hg => op_not (zcd (zt rfl) hg) rfl rfl) ?_
          refine zg rfl rfl rfl rfl (zgb rfl) (fun hg => zan (zcd (zt rfl) hg) (has_cond_and (zt rfl) hg) (.inl zb0) rfl rfl) ?_
          refine zc rfl (zor (zt rfl) (.inl zb0) (zt rfl) rfl ?_)
          refine zc rfl (zmv (zt rfl) rfl ?_)
          refine zg rfl rfl rfl rfl (zgb rfl) (fun hg => zmv (zt rfl) rfl rfl) ?_
          refine zg rfl rfl rfl rfl (zgb rfl) (fun hg => zmv (zt rfl) rfl rfl) ?_
          refine zg rfl rfl rfl rfl (zgb rfl) (fun hg => op_cmp_bool (.inr rfl) (zcd (zt rfl) hg) (zcd (zt rfl) hg) zk rfl rfl) ?_
          refine zc rfl (zor (zt rfl) (.inl zb0) (zt rfl) rfl ?_)
          refine zc rfl (zmv (zt rfl) rfl ?_)
          refine zg rfl rfl rfl rfl (zgb rfl) (fun hg => zld (n := 15) (zt rfl) zk rfl rfl rfl rfl rfl) ?_
          refine zg rfl rfl rfl rfl (zgb rfl) (fun hg => zld (n := 15) (zt rfl) zk rfl rfl rfl rfl rfl) ?_
          refine zg rfl rfl rfl rfl (zgb rfl) (fun hg => zcl zhf (hc (zcd (zt rfl) hg) (hc (zcd (zt rfl) hg) hz)) (rs := []) (bxs := []) zdc bz (c_trustquorumref24_Same (newestL (getK ⟨((node : Nat) : Int), 1⟩ (filesL l))).1 (newestL (getK ⟨((node : Nat) : Int), 1⟩ (filesL own))).1) rfl rfl rfl (fun d b hd hl => by obtain ⟨rfl, rfl⟩ := hd; rfl)) ?_
          refine zg rfl rfl rfl rfl (zgb rfl) (fun hg => op_not (zcd (zt rfl) hg) rfl rfl) ?_
          refine zc rfl (zor (zt rfl) (.inl zb0) (zt rfl) rfl ?_)
          refine zn0 ?_
          refine awp_le (le_of (ls := [(4, VR (l.map Sighting.d)), (5, VI ((node : Nat) : Int)), (109, VB ((((!decide ((newestL (getK ⟨((node : Nat) : Int), 1⟩ (filesL l))).2 = decide (0 < ((own.map Sighting.d).length : Int)))) || ((newestL (getK ⟨((node : Nat) : Int), 1⟩ (filesL l))).2 && (!seen))) || (!decide ((newestL (getK ⟨((node : Nat) : Int), 1⟩ (filesL own))).2 = (newestL (getK ⟨((node : Nat) : Int), 1⟩ (filesL l))).2))) || (!((newestL (getK ⟨((node : Nat) : Int), 1⟩ (filesL l))).1.sameR (newestL (getK ⟨((node : Nat) : Int), 1⟩ (filesL own))).1))))]) (bs := []) (ts := []) (sc rfl (sc rfl (sc rfl sz))) xz kz) ?_
          refine zwc (zt rfl) (fun h5 => ?_) (fun h5 => ?_)
          · skip
            have hlen : decide ((0 : Int) < ((own.map Sighting.d).length : Int)) = decide (0 < own.length) := by rw [decide_eq_decide, List.length_map]; omega
            exact (fin5 h5 (n1.trans hlen.symm) n2 (congrArg Prod.snd n3) (by have e3 := congrArg Prod.fst n3; exact (congrArg (Env.sameR _) e3).trans (sameR_refl _))).elim
          · skip
            refine zws ?_
            refine zbn ?_
            refine ztn ?_
            refine zre ?_
            refine zc rfl (zmv (zt rfl) rfl ?_)
            refine zc rfl (zar (zt rfl) (zi zdc) rfl (ink64 zom zom) rfl ?_)
            refine zc rfl (zas (zt rfl) rfl ?_)
            refine zn0 ?_
            refine ztn ?_
            refine ⟨node + 1, ?_, ?_, (le_of (sc rfl (sc rfl sz)) xz kz)⟩
            · exact zen
            · first | omega | (simp at *; omega)
    · skip
      have g1 := h1
      try simp only [zbz, List.length_map] at g1
      refine zwe ?_
      refine zte ?_
      refine zte ?_
      refine zbk ?_
      refine ztn ?_
      refine zsr ?_
      refine zc rfl (zcl zhf hz (rs := []) (bxs := []) zdc bz (c_sane) rfl rfl rfl (fun d b hd hl => ?_))
      obtain ⟨rfl, rfl⟩ := hd
      refine zc rfl (zas (zt rfl) rfl ?_)
      refine zn0 ?_
      refine zwr ?_
      refine zpr [] (res1 (zrt rfl)) rfl lz ?_
      exact ⟨rfl, rfl⟩

end Go.TQ
