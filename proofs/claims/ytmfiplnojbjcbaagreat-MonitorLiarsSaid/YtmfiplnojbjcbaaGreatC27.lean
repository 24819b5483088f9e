/- Contracts of functions of the program, each for every input that its hypotheses let in; printed by a program of our own (s27). -/
import Derived.Test.YtmfiplnojbjcbaaGreatP06
set_option linter.unusedVariables false
set_option linter.unusedSimpArgs false
set_option maxRecDepth 10000
set_option maxHeartbeats 4000000
namespace Go.TQ
open Go.Proofs


theorem liar_ok {l : List Sighting} {a b : Env} (h : ∀ x ∈ l, x = liarX a ∨ x = liarX b) (ha : a.trust.ok) (hb : b.trust.ok) : ∀ x ∈ l, x.l.env.trust.ok := by
  intro x hx
  rcases h x hx with rfl | rfl
  · exact ha
  · exact hb
theorem liar_law {a b : Env} {n m : Nat} (ha : EnvP 2 1 n a) (hb : EnvP 2 1 m b) : twoF [liarX a, liarX a] = [] ∧ twoF [liarX (b.reseq a.seq)] = [] ∧
    twoF [liarX a, liarX (b.reseq a.seq)] = if a.sameR (b.reseq a.seq) = true then [] else [Finding.mk 2 1 3 ⟨#[]⟩ []] := by
  refine ⟨twoF_none (e := a) (by intro x hx; simp at hx; rw [hx]; rfl), twoF_none (e := b.reseq a.seq) (by intro x hx; simp at hx; rw [hx]; rfl), ?_⟩
  exact twoF_two rfl ⟨ha.valid, ha.node, ha.slot⟩ ⟨valid_reseq hb.valid hb.seq ha.seq, hb.node, hb.slot⟩

theorem law_Liars (t : List Int) : ACalls Tryz.prog 5 [VR (iRows t)] [] fun dd bb => dd = VB true ∧ bb = [] := by
  refine zai Tryz.func5 rfl Tryz.ntmps5 (by rw [Tryz.results5]) rfl rfl (fun w0 A0 X => ?_)
  refine zsr ?_
  refine zc rfl (zas zb0 rfl ?_)
  refine zn0 ?_
  refine zsr ?_
  refine zc rfl (zmv (zt rfl) rfl ?_)
  refine zc rfl (op_callN zhf (hc (zt rfl) hz) (rs := []) (bxs := []) zdc zdc bz (c_New t) rfl rfl rfl (fun d b cs hd hl => ?_))
  obtain ⟨rfl, rfl, rfl⟩ := hd
  refine zc rfl (zas (zt rfl) rfl ?_)
  refine zn0 ?_
  refine zsr ?_
  refine zc rfl (zmv (zt rfl) rfl ?_)
  refine zc rfl (zcl zhf (hc (zt rfl) (hc (zi zdc) (hc (zi zdc) (hc (zi zdc) hz)))) (rs := [.o 10]) (bxs := [_]) zdc (bc rfl bz) (c_Src_Envelope (Src.mk (t.take (min (t.length : Int) 800).toNat) 0) (new_at t) 2 1 4 (by omega) (by omega) (by omega)) rfl rfl rfl (fun d b hd hl => ?_))
  obtain ⟨e, s2, rfl, rfl, ⟨he, hs⟩⟩ := hd
  refine zc rfl (zal (cs := [.dat (.int .i64 0), .dat (.int .i64 0), .dat (.int .i64 0), .dat (.int .i64 0), .nilsl, .nilsl, .dat (.int .i64 0), .dat (.int .i64 0), .dat (.str ⟨#[]⟩), .dat (.int .i64 0), .dat (.str ⟨#[]⟩), .dat (.int .i64 0), .dat (.str ⟨#[]⟩), .dat (.int .i64 0), .dat (.int .i64 0)]) zk rfl ?_)
  refine zc rfl (zst (n := 15) (zt rfl) (zt rfl) rfl (.inl zk) rfl rfl (zbl rfl) ?_)
  refine zn0 ?_
  refine zsr ?_
  refine zc rfl (zmv (zt rfl) rfl ?_)
  refine zc rfl (zcl zhf (hc (zt rfl) (hc (zi zdc) (hc (zi zdc) (hc (zi zdc) hz)))) (rs := [.o 10]) (bxs := [_]) zdc (bc rfl bz) (c_Src_Envelope _ (by first | assumption | omega | trivial | (simp; done) | (constructor <;> omega)) 2 1 4 (by omega) (by omega) (by omega)) rfl (by first | rfl | (simp only [List.map_cons, List.map_nil, bsC_callee]; done) | (simp only [List.map_cons, List.map_nil, bsC_callee]; rfl)) rfl (fun d b hd hl => ?_))
  obtain ⟨e1, s3, rfl, rfl, ⟨he1, hs1⟩⟩ := hd
  obtain ⟨l1, l2, l3⟩ := liar_law he he1
  refine zc rfl (zal (cs := [.dat (.int .i64 0), .dat (.int .i64 0), .dat (.int .i64 0), .dat (.int .i64 0), .nilsl, .nilsl, .dat (.int .i64 0), .dat (.int .i64 0), .dat (.str ⟨#[]⟩), .dat (.int .i64 0), .dat (.str ⟨#[]⟩), .dat (.int .i64 0), .dat (.str ⟨#[]⟩), .dat (.int .i64 0), .dat (.int .i64 0)]) zk rfl ?_)
  refine zc rfl (zst (n := 15) (zt rfl) (zt rfl) rfl (.inl zk) rfl rfl (zbl rfl) ?_)
  refine zn0 ?_
  refine zsr ?_
  refine zc rfl (zfa (o := 2) (zt rfl) zk rfl ?_)
  refine zc rfl (zl1 (zt rfl) zk rfl rfl rfl ?_)
  refine zc rfl (zfa (o := 2) (zt rfl) zk rfl ?_)
  refine zc rfl (zst (n := 1) (zt rfl) (zt rfl) rfl (.inr ⟨by kernel_rfl, rfl⟩) rfl rfl (zbl rfl) ?_)
  refine zn0 ?_
  refine zsr ?_
  refine zc rfl (zld (n := 15) (zt rfl) zk rfl rfl rfl rfl ?_)
  refine zc rfl (zbd (ps := [(_, _), (_, _), (_, _)]) (qs := [(_, _), (_, _), (_, _)]) (zs := [.dat (.int .i64 0), .dat (.int .i64 0), .dat (.int .i64 0), .dat (.int .i64 0), .dat (.int .i64 0), .nilsl, .nilsl, .nilsl, .nilsl, .dat (.int .i64 0), .dat (.int .i64 0), .dat (.int .i64 0), .dat (.int .i64 0), .nilsl, .nilsl, .dat (.int .i64 0), .dat (.int .i64 0), .dat (.str ⟨#[]⟩), .dat (.int .i64 0), .dat (.str ⟨#[]⟩), .dat (.int .i64 0), .dat (.str ⟨#[]⟩), .dat (.int .i64 0), .dat (.int .i64 0)]) (pl := [(0, 1), (1, 1), (2, 7), (9, 15)]) (pc (zi zdc) rfl (pc (zi zdc) rfl (pc (zt rfl) rfl pz))) zk zk rfl rfl ?_)
  refine zc rfl (zbd (ps := [(_, _), (_, _)]) (qs := [(_, _), (_, _)]) (zs := [.dat (.int .i64 0), .dat (.int .i64 0), .dat (.int .i64 0), .dat (.int .i64 0), .dat (.int .i64 0), .dat (.int .i64 0), .dat (.int .i64 0), .nilsl, .nilsl, .nilsl, .nilsl, .dat (.int .i64 0), .dat (.int .i64 0), .dat (.int .i64 0), .dat (.int .i64 0), .nilsl, .nilsl, .dat (.int .i64 0), .dat (.int .i64 0), .dat (.str ⟨#[]⟩), .dat (.int .i64 0), .dat (.str ⟨#[]⟩), .dat (.int .i64 0), .dat (.str ⟨#[]⟩), .dat (.int .i64 0), .dat (.int .i64 0)]) (pl := [(0, 1), (1, 1), (2, 24)]) (pc (zi zdc) rfl (pc (zt rfl) rfl pz)) zk zk rfl rfl ?_)
  refine zc rfl (zal (cs := [.dat (.int .i64 0), .dat (.int .i64 0), .dat (.int .i64 0), .dat (.int .i64 0), .dat (.int .i64 0), .dat (.int .i64 0), .dat (.int .i64 0), .nilsl, .nilsl, .nilsl, .nilsl, .dat (.int .i64 0), .dat (.int .i64 0), .dat (.int .i64 0), .dat (.int .i64 0), .nilsl, .nilsl, .dat (.int .i64 0), .dat (.int .i64 0), .dat (.str ⟨#[]⟩), .dat (.int .i64 0), .dat (.str ⟨#[]⟩), .dat (.int .i64 0), .dat (.str ⟨#[]⟩), .dat (.int .i64 0), .dat (.int .i64 0)]) zk rfl ?_)
  refine zc rfl (zst (n := 26) (zt rfl) (zt rfl) rfl (.inl zk) rfl rfl (zbl rfl) ?_)
  refine zn0 ?_
  refine zsr ?_
  refine zc rfl (zld (n := 15) (zt rfl) zk rfl rfl rfl rfl ?_)
  refine zc rfl (zbd (ps := [(_, _), (_, _), (_, _)]) (qs := [(_, _), (_, _), (_, _)]) (zs := [.dat (.int .i64 0), .dat (.int .i64 0), .dat (.int .i64 0), .dat (.int .i64 0), .dat (.int .i64 0), .nilsl, .nilsl, .nilsl, .nilsl, .dat (.int .i64 0), .dat (.int .i64 0), .dat (.int .i64 0), .dat (.int .i64 0), .nilsl, .nilsl, .dat (.int .i64 0), .dat (.int .i64 0), .dat (.str ⟨#[]⟩), .dat (.int .i64 0), .dat (.str ⟨#[]⟩), .dat (.int .i64 0), .dat (.str ⟨#[]⟩), .dat (.int .i64 0), .dat (.int .i64 0)]) (pl := [(0, 1), (1, 1), (2, 7), (9, 15)]) (pc (zi zdc) rfl (pc (zi zdc) rfl (pc (zt rfl) rfl pz))) zk zk rfl rfl ?_)
  refine zc rfl (zbd (ps := [(_, _), (_, _)]) (qs := [(_, _), (_, _)]) (zs := [.dat (.int .i64 0), .dat (.int .i64 0), .dat (.int .i64 0), .dat (.int .i64 0), .dat (.int .i64 0), .dat (.int .i64 0), .dat (.int .i64 0), .nilsl, .nilsl, .nilsl, .nilsl, .dat (.int .i64 0), .dat (.int .i64 0), .dat (.int .i64 0), .dat (.int .i64 0), .nilsl, .nilsl, .dat (.int .i64 0), .dat (.int .i64 0), .dat (.str ⟨#[]⟩), .dat (.int .i64 0), .dat (.str ⟨#[]⟩), .dat (.int .i64 0), .dat (.str ⟨#[]⟩), .dat (.int .i64 0), .dat (.int .i64 0)]) (pl := [(0, 1), (1, 1), (2, 24)]) (pc (zi zdc) rfl (pc (zt rfl) rfl pz)) zk zk rfl rfl ?_)
  refine zc rfl (zal (cs := [.dat (.int .i64 0), .dat (.int .i64 0), .dat (.int .i64 0), .dat (.int .i64 0), .dat (.int .i64 0), .dat (.int .i64 0), .dat (.int .i64 0), .nilsl, .nilsl, .nilsl, .nilsl, .dat (.int .i64 0), .dat (.int .i64 0), .dat (.int .i64 0), .dat (.int .i64 0), .nilsl, .nilsl, .dat (.int .i64 0), .dat (.int .i64 0), .dat (.str ⟨#[]⟩), .dat (.int .i64 0), .dat (.str ⟨#[]⟩), .dat (.int .i64 0), .dat (.str ⟨#[]⟩), .dat (.int .i64 0), .dat (.int .i64 0)]) zk rfl ?_)
  refine zc rfl (zst (n := 26) (zt rfl) (zt rfl) rfl (.inl zk) rfl rfl (zbl rfl) ?_)
  refine zn0 ?_
  refine awp_le (le_of (ls := [(4, .one (.ref (.o 4) 0)), (5, .one (.ref (.o 5) 0)), (6, .one (.ref (.o 6) 0)), (7, .one (.ref (.o 7) 0))]) (bs := [(.o 4, [.dat (.int .i64 e.node), .dat (.int .i64 e.slot), .dat (.int .i64 e.seq), .dat (.int .i64 e.trust.thr), .dat (.sl (iRows e.trust.nodes)), .dat (.sl (e.trust.inner.map Trust.enc)), .dat (.int .i64 e.kind), .dat (.int .i64 e.b.c), .dat (.str e.b.v), .dat (.int .i64 e.p.c), .dat (.str e.p.v), .dat (.int .i64 e.q.c), .dat (.str e.q.v), .dat (.int .i64 e.low), .dat (.int .i64 e.high)]), (.o 5, [.dat (.int .i64 e1.node), .dat (.int .i64 e1.slot), .dat (.int .i64 e.seq), .dat (.int .i64 e1.trust.thr), .dat (.sl (iRows e1.trust.nodes)), .dat (.sl (e1.trust.inner.map Trust.enc)), .dat (.int .i64 e1.kind), .dat (.int .i64 e1.b.c), .dat (.str e1.b.v), .dat (.int .i64 e1.p.c), .dat (.str e1.p.v), .dat (.int .i64 e1.q.c), .dat (.str e1.q.v), .dat (.int .i64 e1.low), .dat (.int .i64 e1.high)]), (.o 6, [.dat (.int .i64 0), .dat (.int .i64 2), .dat (.int .i64 2), .dat (.int .i64 1), .dat (.int .i64 0), .dat (.int .i64 0), .dat (.int .i64 0), .nilsl, .nilsl, .nilsl, .nilsl, .dat (.int .i64 e.node), .dat (.int .i64 e.slot), .dat (.int .i64 e.seq), .dat (.int .i64 e.trust.thr), .dat (.sl (iRows e.trust.nodes)), .dat (.sl (e.trust.inner.map Trust.enc)), .dat (.int .i64 e.kind), .dat (.int .i64 e.b.c), .dat (.str e.b.v), .dat (.int .i64 e.p.c), .dat (.str e.p.v), .dat (.int .i64 e.q.c), .dat (.str e.q.v), .dat (.int .i64 e.low), .dat (.int .i64 e.high)]), (.o 7, [.dat (.int .i64 0), .dat (.int .i64 2), .dat (.int .i64 2), .dat (.int .i64 1), .dat (.int .i64 0), .dat (.int .i64 0), .dat (.int .i64 0), .nilsl, .nilsl, .nilsl, .nilsl, .dat (.int .i64 e1.node), .dat (.int .i64 e1.slot), .dat (.int .i64 e.seq), .dat (.int .i64 e1.trust.thr), .dat (.sl (iRows e1.trust.nodes)), .dat (.sl (e1.trust.inner.map Trust.enc)), .dat (.int .i64 e1.kind), .dat (.int .i64 e1.b.c), .dat (.str e1.b.v), .dat (.int .i64 e1.p.c), .dat (.str e1.p.v), .dat (.int .i64 e1.q.c), .dat (.str e1.q.v), .dat (.int .i64 e1.low), .dat (.int .i64 e1.high)])]) (ts := []) (sc rfl (sc rfl (sc rfl (sc rfl sz)))) (xc rfl (xc rfl (xc rfl (xc rfl xz)))) kz) ?_
  refine zw2 ?_
  refine zsr ?_
  refine zc rfl (zld (n := 26) (zt rfl) zk rfl rfl rfl rfl ?_)
  refine zc rfl (zld (n := 26) (zt rfl) zk rfl rfl rfl rfl ?_)
  refine zc rfl (zbs (e := 57) (ps := [(_, _), (_, _)]) (qs := [(_, _), (_, _)]) (n := 26) (rows := [[_, _, _, _, _, _, _, _, _, _, _, _, _, _, _, _, _, _, _, _, _, _, _, _, _, _], [_, _, _, _, _, _, _, _, _, _, _, _, _, _, _, _, _, _, _, _, _, _, _, _, _, _]]) (pc (zt rfl) rfl (pc (zt rfl) rfl pz)) zk zdc ⟨[.dat (.int .i64 0), .dat (.int .i64 0), .dat (.int .i64 0), .dat (.int .i64 0), .dat (.int .i64 0), .dat (.int .i64 0), .dat (.int .i64 0), .nilsl, .nilsl, .nilsl, .nilsl, .dat (.int .i64 0), .dat (.int .i64 0), .dat (.int .i64 0), .dat (.int .i64 0), .nilsl, .nilsl, .dat (.int .i64 0), .dat (.int .i64 0), .dat (.str ⟨#[]⟩), .dat (.int .i64 0), .dat (.str ⟨#[]⟩), .dat (.int .i64 0), .dat (.str ⟨#[]⟩), .dat (.int .i64 0), .dat (.int .i64 0)], by kernel_rfl⟩ rfl rfl (by simp [Uni]) rfl zdc rfl ?_)
  refine zc rfl (zcl zhf (hc (zt rfl) hz) (rs := []) (bxs := []) zdc bz (c_TwoF [liarX e, liarX e] (liar_ok (a := e) (b := e1.reseq e.seq) (by simp) (TrP.ok he.tr (by omega)) (TrP.ok he1.tr (by omega))) (by simp)) rfl rfl rfl (fun d b hd hl => ?_))
  obtain ⟨rfl, rfl⟩ := hd
  refine zc rfl (zln (e := 29) (n := 5) (zt rfl) rfl zk rfl (fun hl28 => ?_))
  try simp only [List.length_map] at hl28
  refine zc rfl (zcm (zt rfl) (zi zdc) rfl rfl ?_)
  refine zc rfl (zmv (zt rfl) rfl ?_)
  refine zg rfl rfl rfl rfl (zgb rfl) (fun hg => zld (n := 26) (zt rfl) zk rfl rfl rfl rfl rfl) ?_
  refine zg rfl rfl rfl rfl (zgb rfl) (fun hg => zbs (e := 57) (ps := [(_, _)]) (qs := [(_, _)]) (n := 26) (rows := [[_, _, _, _, _, _, _, _, _, _, _, _, _, _, _, _, _, _, _, _, _, _, _, _, _, _]]) (pc (zcd (zt rfl) hg) rfl pz) zk zdc ⟨[.dat (.int .i64 0), .dat (.int .i64 0), .dat (.int .i64 0), .dat (.int .i64 0), .dat (.int .i64 0), .dat (.int .i64 0), .dat (.int .i64 0), .nilsl, .nilsl, .nilsl, .nilsl, .dat (.int .i64 0), .dat (.int .i64 0), .dat (.int .i64 0), .dat (.int .i64 0), .nilsl, .nilsl, .dat (.int .i64 0), .dat (.int .i64 0), .dat (.str ⟨#[]⟩), .dat (.int .i64 0), .dat (.str ⟨#[]⟩), .dat (.int .i64 0), .dat (.str ⟨#[]⟩), .dat (.int .i64 0), .dat (.int .i64 0)], by kernel_rfl⟩ rfl rfl (by simp [Uni]) rfl zdc rfl rfl) ?_
  refine zg rfl rfl rfl rfl (zgb rfl) (fun hg => zcl zhf (hc (zcd (zt rfl) hg) hz) (rs := []) (bxs := []) zdc bz (c_TwoF [liarX (e1.reseq e.seq)] (liar_ok (a := e) (b := e1.reseq e.seq) (by simp) (TrP.ok he.tr (by omega)) (TrP.ok he1.tr (by omega))) (by simp)) rfl rfl rfl (fun d b hd hl => by obtain ⟨rfl, rfl⟩ := hd; rfl)) ?_
  refine zg rfl rfl rfl rfl (zgb rfl) (fun hg => zln (e := 29) (n := 5) (zcd (zt rfl) hg) rfl zk rfl (fun hl => rfl)) ?_
  refine zg rfl rfl rfl rfl (zgb rfl) (fun hg => zcm (zcd (zt rfl) hg) (zi zdc) rfl rfl rfl) ?_
  refine zc rfl (zor (zt rfl) (.inl zb0) (zt rfl) rfl ?_)
  refine zn0 ?_
  refine zwc (zt rfl) (fun h1 => ?_) (fun h1 => ?_)
  · skip
    rw [l1, l2] at h1
    simp at h1
  · skip
    refine zws ?_
    refine ztn ?_
    refine zsr ?_
    refine zc rfl (zld (n := 26) (zt rfl) zk rfl rfl rfl rfl ?_)
    refine zc rfl (zld (n := 26) (zt rfl) zk rfl rfl rfl rfl ?_)
    refine zc rfl (zbs (e := 57) (ps := [(_, _), (_, _)]) (qs := [(_, _), (_, _)]) (n := 26) (rows := [[_, _, _, _, _, _, _, _, _, _, _, _, _, _, _, _, _, _, _, _, _, _, _, _, _, _], [_, _, _, _, _, _, _, _, _, _, _, _, _, _, _, _, _, _, _, _, _, _, _, _, _, _]]) (pc (zt rfl) rfl (pc (zt rfl) rfl pz)) zk zdc ⟨[.dat (.int .i64 0), .dat (.int .i64 0), .dat (.int .i64 0), .dat (.int .i64 0), .dat (.int .i64 0), .dat (.int .i64 0), .dat (.int .i64 0), .nilsl, .nilsl, .nilsl, .nilsl, .dat (.int .i64 0), .dat (.int .i64 0), .dat (.int .i64 0), .dat (.int .i64 0), .nilsl, .nilsl, .dat (.int .i64 0), .dat (.int .i64 0), .dat (.str ⟨#[]⟩), .dat (.int .i64 0), .dat (.str ⟨#[]⟩), .dat (.int .i64 0), .dat (.str ⟨#[]⟩), .dat (.int .i64 0), .dat (.int .i64 0)], by kernel_rfl⟩ rfl rfl (by simp [Uni]) rfl zdc rfl ?_)
    refine zc rfl (zcl zhf (hc (zt rfl) hz) (rs := []) (bxs := []) zdc bz (c_TwoF [liarX e, liarX (e1.reseq e.seq)] (liar_ok (a := e) (b := e1.reseq e.seq) (by simp) (TrP.ok he.tr (by omega)) (TrP.ok he1.tr (by omega))) (by simp)) rfl rfl rfl (fun d b hd hl => ?_))
    obtain ⟨rfl, rfl⟩ := hd
    refine zc rfl (zas (zt rfl) rfl ?_)
    refine zn0 ?_
    refine zw2 ?_
    refine zsr ?_
    refine zc rfl (zld (n := 15) (zt rfl) zk rfl rfl rfl rfl ?_)
    refine zc rfl (zld (n := 15) (zt rfl) zk rfl rfl rfl rfl ?_)
    refine zc rfl (zcl zhf (hc (zt rfl) (hc (zt rfl) hz)) (rs := []) (bxs := []) zdc bz (c_trustquorumref24_Same e (Env.mk e1.node e1.slot e.seq e1.trust e1.kind e1.b e1.p e1.q e1.low e1.high)) rfl rfl rfl (fun d b hd hl => ?_))
    obtain ⟨rfl, rfl⟩ := hd
    refine zn0 ?_
    refine zwc (zt rfl) (fun h2 => ?_) (fun h2 => ?_)
    · skip
      have h2 : e.sameR (e1.reseq e.seq) = true := h2
      rw [if_pos h2] at l3
      refine zsr ?_
      refine zc rfl (zmv (zt rfl) rfl ?_)
      refine zc rfl (zln (e := 29) (n := 5) (zt rfl) rfl zk rfl (fun hl45 => ?_))
      try simp only [List.length_map] at hl45
      refine zc rfl (zcm (zt rfl) (zi zdc) rfl rfl ?_)
      refine zc rfl (zmv (zt rfl) rfl ?_)
      refine zg rfl rfl rfl rfl (zgb rfl) (fun hg => zcl zhf hz (rs := []) (bxs := []) zdc bz (c_sane) rfl rfl rfl (fun d b hd hl => by obtain ⟨rfl, rfl⟩ := hd; rfl)) ?_
      refine zc rfl (zan (zt rfl) (zt rfl) (.inl zb0) rfl ?_)
      refine zc rfl (zas (zt rfl) rfl ?_)
      refine zn0 ?_
      refine zwr ?_
      refine ztr ?_
      refine zpr [] (res1 (zrt rfl)) rfl lz ?_
      rw [l3]
      exact ⟨rfl, rfl⟩
    · skip
      have h2 : e.sameR (e1.reseq e.seq) = false := h2
      rw [if_neg (by rw [h2]; simp)] at l3
      refine zws ?_
      refine ztn ?_
      refine zsr ?_
      refine zc rfl (zmv (zt rfl) rfl ?_)
      refine zc rfl (zln (e := 29) (n := 5) (zt rfl) rfl zk rfl (fun hl51 => ?_))
      try simp only [List.length_map] at hl51
      refine zc rfl (zcm (zt rfl) (zi zdc) rfl rfl ?_)
      refine zc rfl (zmv (zt rfl) rfl ?_)
      refine zg rfl rfl rfl rfl (zgb rfl) (fun hg => zmv (zt rfl) rfl rfl) ?_
      refine zg rfl rfl rfl rfl (zgb rfl) (fun hg => op_indexAddr (e := 29) (n := 5) (zcd (zt rfl) hg) rfl (zi zdc) zk (by first | omega | (simp only [zbz, List.length_map, cond_true, cond_false] at hg; omega) | exact Int.natCast_nonneg _ | (simp only [List.length_map] at *; omega) | (simp only [List.length_map]; omega)) (show ((twoF [liarX e, liarX (e1.reseq e.seq)]).map Finding.d)[0]? = some ((twoF [liarX e, liarX (e1.reseq e.seq)])[0]!.d) from (map_getD (by first | omega | (simp only [zbz, List.length_map, cond_true, cond_false] at hg; omega) | exact Int.natCast_nonneg _ | (simp only [List.length_map] at *; omega) | (simp only [List.length_map]; omega)))) rfl rfl rfl) ?_
      refine zg rfl rfl rfl rfl (zgb rfl) (fun hg => op_fieldAddr_imm (o := 0) (zcd (zt rfl) hg) zk rfl rfl) ?_
      refine zg rfl rfl rfl rfl (zgb rfl) (fun hg => op_load_imm1 (zcd (zt rfl) hg) zk rfl rfl rfl) ?_
      refine zg rfl rfl rfl rfl (zgb rfl) (fun hg => zcm (zcd (zt rfl) hg) (zi zdc) rfl rfl rfl) ?_
      refine zc rfl (zan (zt rfl) (zt rfl) (.inl zb0) rfl ?_)
      refine zc rfl (zmv (zt rfl) rfl ?_)
      refine zg rfl rfl rfl rfl (zgb rfl) (fun hg => zmv (zt rfl) rfl rfl) ?_
      refine zg rfl rfl rfl rfl (zgb rfl) (fun hg => op_indexAddr (e := 29) (n := 5) (zcd (zt rfl) hg) rfl (zi zdc) zk (by first | omega | (simp only [zbz, List.length_map, cond_true, cond_false] at hg; omega) | exact Int.natCast_nonneg _ | (simp only [List.length_map] at *; omega) | (simp only [List.length_map]; omega)) (show ((twoF [liarX e, liarX (e1.reseq e.seq)]).map Finding.d)[0]? = some ((twoF [liarX e, liarX (e1.reseq e.seq)])[0]!.d) from (map_getD (by first | omega | (simp only [zbz, List.length_map, cond_true, cond_false] at hg; omega) | exact Int.natCast_nonneg _ | (simp only [List.length_map] at *; omega) | (simp only [List.length_map]; omega)))) rfl rfl rfl) ?_
      refine zg rfl rfl rfl rfl (zgb rfl) (fun hg => op_fieldAddr_imm (o := 1) (zcd (zt rfl) hg) zk rfl rfl) ?_
      refine zg rfl rfl rfl rfl (zgb rfl) (fun hg => op_load_imm1 (zcd (zt rfl) hg) zk rfl rfl rfl) ?_
      refine zg rfl rfl rfl rfl (zgb rfl) (fun hg => zcm (zcd (zt rfl) hg) (zi zdc) rfl rfl rfl) ?_
      refine zc rfl (zan (zt rfl) (zt rfl) (.inl zb0) rfl ?_)
      refine zc rfl (zmv (zt rfl) rfl ?_)
      refine zg rfl rfl rfl rfl (zgb rfl) (fun hg => zmv (zt rfl) rfl rfl) ?_
      refine zg rfl rfl rfl rfl (zgb rfl) (fun hg => op_indexAddr (e := 29) (n := 5) (zcd (zt rfl) hg) rfl (zi zdc) zk (by first | omega | (simp only [zbz, List.length_map, cond_true, cond_false] at hg; omega) | exact Int.natCast_nonneg _ | (simp only [List.length_map] at *; omega) | (simp only [List.length_map]; omega)) (show ((twoF [liarX e, liarX (e1.reseq e.seq)]).map Finding.d)[0]? = some ((twoF [liarX e, liarX (e1.reseq e.seq)])[0]!.d) from (map_getD (by first | omega | (simp only [zbz, List.length_map, cond_true, cond_false] at hg; omega) | exact Int.natCast_nonneg _ | (simp only [List.length_map] at *; omega) | (simp only [List.length_map]; omega)))) rfl rfl rfl) ?_
      refine zg rfl rfl rfl rfl (zgb rfl) (fun hg => op_fieldAddr_imm (o := 2) (zcd (zt rfl) hg) zk rfl rfl) ?_
      refine zg rfl rfl rfl rfl (zgb rfl) (fun hg => op_load_imm1 (zcd (zt rfl) hg) zk rfl rfl rfl) ?_
      refine zg rfl rfl rfl rfl (zgb rfl) (fun hg => zcm (zcd (zt rfl) hg) (zi zdc) rfl rfl rfl) ?_
      refine zc rfl (zan (zt rfl) (zt rfl) (.inl zb0) rfl ?_)
      refine zc rfl (zmv (zt rfl) rfl ?_)
      refine zg rfl rfl rfl rfl (zgb rfl) (fun hg => zcl zhf hz (rs := []) (bxs := []) zdc bz (c_sane) rfl rfl rfl (fun d b hd hl => by obtain ⟨rfl, rfl⟩ := hd; rfl)) ?_
      refine zc rfl (zan (zt rfl) (zt rfl) (.inl zb0) rfl ?_)
      refine zc rfl (zas (zt rfl) rfl ?_)
      refine zn0 ?_
      refine awp_le (le_of (ls := [(2, VB ((((decide ((((twoF [liarX e, liarX (e1.reseq e.seq)]).map Finding.d).length : Int) = 1) && decide ((twoF [liarX e, liarX (e1.reseq e.seq)])[0]!.node = 2)) && decide ((twoF [liarX e, liarX (e1.reseq e.seq)])[0]!.slot = 1)) && decide ((twoF [liarX e, liarX (e1.reseq e.seq)])[0]!.kind = 3)) && true))]) (bs := []) (ts := []) (sc rfl sz) xz kz) ?_
      refine zwr ?_
      refine zpr [] (res1 (zrt rfl)) rfl lz ?_
      rw [l3]
      exact ⟨rfl, rfl⟩

end Go.TQ
