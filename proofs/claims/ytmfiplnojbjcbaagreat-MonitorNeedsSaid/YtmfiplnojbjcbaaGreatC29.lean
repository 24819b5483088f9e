/- Contracts of functions of the program, each for every input that its hypotheses let in; printed by a program of our own (s29). -/
import Derived.Test.YtmfiplnojbjcbaaGreatP07
set_option linter.unusedVariables false
set_option linter.unusedSimpArgs false
set_option maxRecDepth 10000
set_option maxHeartbeats 4000000
namespace Go.TQ
open Go.Proofs


theorem c_NewestR (l : List Sighting) (node slot : Int) (hok : ∀ x ∈ l, x.l.env.trust.ok) : ACalls Tryz.prog 11 [VR (l.map Sighting.d), VI node, VI slot] [] fun dd bb => dd = .tup [.aggd (newestL (getK ⟨node, slot⟩ (filesL l))).1.d, VB (newestL (getK ⟨node, slot⟩ (filesL l))).2] ∧ bb = [] := by
  rw [← newestR_eq]
  exact c_trustquorumref44_Newest l node slot hok
theorem bit_val {s k : Int} (hs : SetP s) (hk : 0 ≤ k ∧ k < 10) : ((((s.toNat >>> k.toNat : Nat) : Int).toNat &&& (1 : Int).toNat : Nat) : Int) = if has s k = true then 1 else 0 := by
  have h := has_r s k
  rw [validS_SetP.2 hs, decide_eq_true hk.1, decide_eq_true hk.2, Bool.true_and, Bool.true_and, Bool.true_and] at h
  rw [Int.toNat_natCast]
  have hb : s.toNat >>> k.toNat &&& (1 : Int).toNat ≤ 1 := Nat.and_le_right
  generalize s.toNat >>> k.toNat &&& (1 : Int).toNat = x at h hb ⊢
  cases hh : has s k
  · rw [hh, decide_eq_false_iff_not] at h
    rw [if_neg (by simp)]; omega
  · rw [hh, decide_eq_true_eq] at h
    rw [if_pos rfl]; omega
theorem stop7 {a b : Int} (h : (!decide (a = 0) || decide (b = 0)) = true) (ha : a = 0) (hb : b = 1) : False := by
  subst ha; subst hb; cases h
theorem stop9 {a b : Int} {p q : Bool} (h : (decide (a = 1) && decide (b = 1)) = true) (ha : a = if p = true then 1 else 0) (hb : b = if q = true then 1 else 0) (hpq : p = true → q = false) : False := by
  subst ha; subst hb
  cases p
  · cases h
  · rw [hpq rfl] at h; cases h
theorem stuck_yes {m : Fil} {p : Place} {f : Finding} {b : Bool} (h : StuckP m p f b) (hb : b = true) : stuckNo m p = false := by
  cases hs : stuckNo m p
  · rfl
  · have := h.no hs
    rw [hb] at this
    cases this

theorem law_Needs (t : List Int) : ACalls Tryz.prog 3 [VR (iRows t)] [] fun dd bb => dd = VB true ∧ bb = [] := by
  refine zai Tryz.func3 rfl Tryz.ntmps3 (by rw [Tryz.results3]) rfl rfl (fun w0 A0 X => ?_)
  refine zsr ?_
  refine zc rfl (zas zb0 rfl ?_)
  refine zn0 ?_
  refine zsr ?_
  refine zc rfl (zmv (zt rfl) rfl ?_)
  refine zc rfl (op_callN zhf (hc (zt rfl) hz) (rs := []) (bxs := []) zdc zdc bz (c_New t) rfl rfl rfl (fun d b cs hd hl => ?_))
  obtain ⟨rfl, rfl, rfl⟩ := hd
  refine zc rfl (zas (zt rfl) rfl ?_)
  refine zn0 ?_
  refine zsr ?_
  refine zc rfl (zmv (zt rfl) rfl ?_)
  refine zc rfl (zcl zhf (hc (zt rfl) hz) (rs := [.o 21]) (bxs := [_]) zdc (bc rfl bz) (c_sightings (Src.mk (t.take (min (t.length : Int) 800).toNat) 0) (new_at t)) rfl rfl rfl (fun d b hd hl => ?_))
  obtain ⟨l, s2, rfl, rfl, ⟨hl, hs⟩⟩ := hd
  have hsp := hl
  have hlm : (l.map Sighting.d).length = l.length := List.length_map _
  have hlen8 := hl.len
  refine zc rfl (zas (zt rfl) rfl ?_)
  refine zn0 ?_
  refine zsr ?_
  refine zc rfl (zmv (zt rfl) rfl ?_)
  refine zc rfl (zcl zhf (hc (zt rfl) (hc (zi zdc) hz)) (rs := [.o 21]) (bxs := [_]) zdc (bc rfl bz) (r_Src_N _ 4 hs (by omega)) rfl (by first | rfl | (simp only [List.map_cons, List.map_nil, bsC_callee]; done) | (simp only [List.map_cons, List.map_nil, bsC_callee]; rfl)) rfl (fun d b hd hl => ?_))
  obtain ⟨v, s3, rfl, rfl, ⟨hv, hs1⟩⟩ := hd
  refine zc rfl (zas (zt rfl) rfl ?_)
  refine zc rfl (zas (zi zdc) rfl ?_)
  refine zn0 ?_
  refine zsr ?_
  refine zc rfl (zmv (zt rfl) rfl ?_)
  refine zc rfl (zmv (zt rfl) rfl ?_)
  refine zc rfl (zmv (zt rfl) rfl ?_)
  refine zc rfl (zcl zhf (hc (zt rfl) (hc (zt rfl) (hc (zt rfl) hz))) (rs := []) (bxs := []) zdc bz (c_monitor_Stuck l v 1 hsp.ok (by omega) (fun h => oth_small hsp.fit h)) rfl rfl rfl (fun d b hd hl => ?_))
  obtain ⟨f, b, rfl, rfl, hf⟩ := hd
  refine zc rfl (zmv (zt rfl) rfl ?_)
  refine zc rfl (op_extract (zt rfl) rfl rfl ?_)
  refine zc rfl (op_extract (zt rfl) rfl rfl ?_)
  refine zc rfl (zal (cs := [.dat (.int .i64 0), .dat (.int .i64 0), .dat (.int .i64 0), .dat (.str ⟨#[]⟩), .nilsl]) zk rfl ?_)
  refine zc rfl (zst (n := 5) (zt rfl) (zt rfl) rfl (.inl zk) rfl rfl (zbl rfl) ?_)
  refine zc rfl (zas (zt rfl) rfl ?_)
  refine zn0 ?_
  refine zsr ?_
  refine zc rfl (zmv (zt rfl) rfl ?_)
  refine zc rfl (zmv (zt rfl) rfl ?_)
  refine zc rfl (zmv (zt rfl) rfl ?_)
  refine zc rfl (zcl zhf (hc (zt rfl) (hc (zt rfl) (hc (zt rfl) hz))) (rs := []) (bxs := []) zdc bz (c_NewestR l v 1 hsp.ok) rfl rfl rfl (fun d b hd hl => ?_))
  obtain ⟨rfl, rfl⟩ := hd
  refine zc rfl (zmv (zt rfl) rfl ?_)
  refine zc rfl (op_extract (zt rfl) rfl rfl ?_)
  refine zc rfl (op_extract (zt rfl) rfl rfl ?_)
  refine zc rfl (zal (cs := [.dat (.int .i64 0), .dat (.int .i64 0), .dat (.int .i64 0), .dat (.int .i64 0), .nilsl, .nilsl, .dat (.int .i64 0), .dat (.int .i64 0), .dat (.str ⟨#[]⟩), .dat (.int .i64 0), .dat (.str ⟨#[]⟩), .dat (.int .i64 0), .dat (.str ⟨#[]⟩), .dat (.int .i64 0), .dat (.int .i64 0)]) zk rfl ?_)
  refine zc rfl (zst (n := 15) (zt rfl) (zt rfl) rfl (.inl zk) rfl rfl (zbl rfl) ?_)
  refine zc rfl (zas (zt rfl) rfl ?_)
  refine zn0 ?_
  refine zw2 ?_
  refine zsr ?_
  refine zc rfl (zmv (zt rfl) rfl ?_)
  refine zc rfl (op_not (zt rfl) rfl ?_)
  refine zn0 ?_
  refine awp_le (le_of (ls := [(4, VR (l.map Sighting.d)), (5, VI v), (6, VI 1), (7, .one (.ref (.o 7) 0)), (9, .one (.ref (.o 9) 0)), (10, VB (newestL (getK ⟨v, 1⟩ (filesL l))).2), (41, VB (!b))]) (bs := [(.o 7, [.dat (.int .i64 f.node), .dat (.int .i64 f.slot), .dat (.int .i64 f.kind), .dat (.str f.value), .dat (.sl (iRows f.needs))]), (.o 9, [.dat (.int .i64 (newestL (getK ⟨v, 1⟩ (filesL l))).1.node), .dat (.int .i64 (newestL (getK ⟨v, 1⟩ (filesL l))).1.slot), .dat (.int .i64 (newestL (getK ⟨v, 1⟩ (filesL l))).1.seq), .dat (.int .i64 (newestL (getK ⟨v, 1⟩ (filesL l))).1.trust.thr), .dat (.sl (iRows (newestL (getK ⟨v, 1⟩ (filesL l))).1.trust.nodes)), .dat (.sl ((newestL (getK ⟨v, 1⟩ (filesL l))).1.trust.inner.map Trust.enc)), .dat (.int .i64 (newestL (getK ⟨v, 1⟩ (filesL l))).1.kind), .dat (.int .i64 (newestL (getK ⟨v, 1⟩ (filesL l))).1.b.c), .dat (.str (newestL (getK ⟨v, 1⟩ (filesL l))).1.b.v), .dat (.int .i64 (newestL (getK ⟨v, 1⟩ (filesL l))).1.p.c), .dat (.str (newestL (getK ⟨v, 1⟩ (filesL l))).1.p.v), .dat (.int .i64 (newestL (getK ⟨v, 1⟩ (filesL l))).1.q.c), .dat (.str (newestL (getK ⟨v, 1⟩ (filesL l))).1.q.v), .dat (.int .i64 (newestL (getK ⟨v, 1⟩ (filesL l))).1.low), .dat (.int .i64 (newestL (getK ⟨v, 1⟩ (filesL l))).1.high)])]) (ts := []) (sc rfl (sc rfl (sc rfl (sc rfl (sc rfl (sc rfl (sc rfl sz))))))) (xc rfl (xc rfl xz)) kz) ?_
  refine zwc (zt rfl) (fun h1 => ?_) (fun h1 => ?_)
  · skip
    refine zsr ?_
    refine zc rfl (zcl zhf hz (rs := []) (bxs := []) zdc bz (c_sane) rfl rfl rfl (fun d b hd hl => ?_))
    obtain ⟨rfl, rfl⟩ := hd
    refine zc rfl (zas (zt rfl) rfl ?_)
    refine zn0 ?_
    refine zwr ?_
    refine ztr ?_
    refine zpr [] (res1 (zrt rfl)) rfl lz ?_
    exact ⟨rfl, rfl⟩
  · skip
    have hno := stuck_yes hf (by simpa using h1)
    obtain ⟨f0, f1, f2, f3, f4, S, hS, hp⟩ := hf.yes hno
    obtain ⟨o1, o2, o3⟩ := oth_help hsp.fit hno
    have how : (newestL (getK ⟨v, 1⟩ (filesL l))).2 = true := by
      have h := hno
      simp only [stuckNo, Bool.or_eq_false_iff, Bool.not_eq_false'] at h
      exact h.1.1
    refine zws ?_
    refine ztn ?_
    refine zw2 ?_
    refine zsr ?_
    refine zc rfl (zmv (zt rfl) rfl ?_)
    refine zc rfl (op_not (zt rfl) rfl ?_)
    refine zc rfl (zmv (zt rfl) rfl ?_)
    refine zg rfl rfl rfl rfl (zgb rfl) (fun hg => zfa (o := 0) (zt rfl) zk rfl rfl) ?_
    refine zg rfl rfl rfl rfl (zgb rfl) (fun hg => zl1 (zcd (zt rfl) hg) zk rfl rfl rfl rfl) ?_
    refine zg rfl rfl rfl rfl (zgb rfl) (fun hg => zmv (zt rfl) rfl rfl) ?_
    refine zg rfl rfl rfl rfl (zgb rfl) (fun hg => zcm (zcd (zt rfl) hg) (zcd (zt rfl) hg) rfl rfl rfl) ?_
    refine zc rfl (zor (zt rfl) (.inl zb0) (zt rfl) rfl ?_)
    refine zc rfl (zmv (zt rfl) rfl ?_)
    refine zg rfl rfl rfl rfl (zgb rfl) (fun hg => zfa (o := 1) (zt rfl) zk rfl rfl) ?_
    refine zg rfl rfl rfl rfl (zgb rfl) (fun hg => zl1 (zcd (zt rfl) hg) zk rfl rfl rfl rfl) ?_
    refine zg rfl rfl rfl rfl (zgb rfl) (fun hg => zmv (zt rfl) rfl rfl) ?_
    refine zg rfl rfl rfl rfl (zgb rfl) (fun hg => zcm (zcd (zt rfl) hg) (zcd (zt rfl) hg) rfl rfl rfl) ?_
    refine zc rfl (zor (zt rfl) (.inl zb0) (zt rfl) rfl ?_)
    refine zc rfl (zmv (zt rfl) rfl ?_)
    refine zg rfl rfl rfl rfl (zgb rfl) (fun hg => zfa (o := 3) (zt rfl) zk rfl rfl) ?_
    refine zg rfl rfl rfl rfl (zgb rfl) (fun hg => zl1 (zcd (zt rfl) hg) zk rfl rfl rfl rfl) ?_
    refine zg rfl rfl rfl rfl (zgb rfl) (fun hg => zfa (o := 7) (zt rfl) zk rfl rfl) ?_
    refine zg rfl rfl rfl rfl (zgb rfl) (fun hg => zfa (o := 1) (zcd (zt rfl) hg) zk rfl rfl) ?_
    refine zg rfl rfl rfl rfl (zgb rfl) (fun hg => zl1 (zcd (zt rfl) hg) zk rfl rfl rfl rfl) ?_
    refine zg rfl rfl rfl rfl (zgb rfl) (fun hg => op_cmp_str (zcd (zt rfl) hg) (zcd (zt rfl) hg) rfl rfl rfl) ?_
    refine zc rfl (zor (zt rfl) (.inl zb0) (zt rfl) rfl ?_)
    refine zn0 ?_
    refine zwc (zt rfl) (fun h2 => ?_) (fun h2 => ?_)
    · skip
      exfalso
      have f4 : f.value = (newestL (getK ⟨v, 1⟩ (filesL l))).1.b.v := f4
      have f1 : f.node = v := f1
      have f2 : f.slot = 1 := f2
      rw [how, f1, f2, f4] at h2
      simp at h2
    · skip
      refine zws ?_
      refine ztn ?_
      refine zsr ?_
      refine zc rfl (zas has_nil rfl ?_)
      refine zn0 ?_
      refine zsr ?_
      refine zc rfl (zas (zi zdc) rfl ?_)
      refine zn0 ?_
      refine zw2 ?_
      refine zsr ?_
      refine zc rfl (zas (zi zdc) rfl ?_)
      refine zn0 ?_
      refine zwb ?_
      refine awp_loop3 (fs := [(4, _), (5, _), (6, _), (7, _), (9, _)]) (fb := [(.o 7, _), (.o 9, _)]) (fun (seen : List Env) (voted : Int) (i : Nat) => [(11, .one (.slt 1010 (seen.map Env.d))), (12, VI voted), (13, VI ((i : Nat) : Int))]) (fun (seen : List Env) (voted : Int) (i : Nat) => []) (fun (seen : List Env) (voted : Int) (i : Nat) => [(1010, (38, 15))]) (fun (seen : List Env) (voted : Int) (i : Nat) => (i ≤ 10) ∧ (seen = seenTo (filesL l) 1 i) ∧ (voted = votT (filesL l) 1 (newestL (getK ⟨v, 1⟩ (filesL l))).1.b i)) (fun (seen : List Env) (voted : Int) (i : Nat) => 10 - i) [] 0 0 ((le_adopt (q := 1010) (t := 11) (e := 38) (k := 15) zdc rfl).trans (le_of (sc rfl (sc rfl (sc rfl (sc rfl (sc rfl (sc rfl (sc rfl (sc rfl sz)))))))) (xc rfl (xc rfl xz)) (kc rfl kz))) ?_ ?_
      · refine ⟨?_, ?_, ?_⟩
        · exact zen
        · rfl
        · rfl
      · intro seen voted i ⟨hk, hse, hvo⟩
        have hsl := seenTo_len (filesL l) 1 i
        rw [← hse] at hsl
        have hvn : 0 ≤ voted := hvo ▸ (votT_set _ _ _ _).1
        refine zw2 ?_
        refine zsr ?_
        refine zc rfl (zmv (zt rfl) rfl ?_)
        refine zc rfl (zcm (zt rfl) (zi zdc) rfl rfl ?_)
        refine zn0 ?_
        refine zwc (zt rfl) (fun h3 => ?_) (fun h3 => ?_)
        · skip
          have g3 := h3
          try simp only [zbz, List.length_map] at g3
          refine zws ?_
          refine ztn ?_
          refine zw2 ?_
          refine zwb ?_
          refine zsr ?_
          refine zc rfl (zmv (zt rfl) rfl ?_)
          refine zc rfl (zmv (zt rfl) rfl ?_)
          refine zc rfl (zmv (zt rfl) rfl ?_)
          refine zc rfl (zcl zhf (hc (zt rfl) (hc (zt rfl) (hc (zt rfl) hz))) (rs := []) (bxs := []) zdc bz (c_NewestR l (i : Int) 1 hsp.ok) rfl rfl rfl (fun d b hd hl => ?_))
          obtain ⟨rfl, rfl⟩ := hd
          refine zc rfl (zmv (zt rfl) rfl ?_)
          refine zc rfl (op_extract (zt rfl) rfl rfl ?_)
          refine zc rfl (op_extract (zt rfl) rfl rfl ?_)
          refine zc rfl (zal (cs := [.dat (.int .i64 0), .dat (.int .i64 0), .dat (.int .i64 0), .dat (.int .i64 0), .nilsl, .nilsl, .dat (.int .i64 0), .dat (.int .i64 0), .dat (.str ⟨#[]⟩), .dat (.int .i64 0), .dat (.str ⟨#[]⟩), .dat (.int .i64 0), .dat (.str ⟨#[]⟩), .dat (.int .i64 0), .dat (.int .i64 0)]) zk rfl ?_)
          refine zc rfl (zst (n := 15) (zt rfl) (zt rfl) rfl (.inl zk) rfl rfl (zbl rfl) ?_)
          refine zc rfl (zas (zt rfl) rfl ?_)
          refine zn0 ?_
          refine awp_le (le_of (ls := [(4, VR (l.map Sighting.d)), (5, VI v), (6, VI 1), (7, .one (.ref (.o 7) 0)), (9, .one (.ref (.o 9) 0)), (11, .one (.slt 1010 (seen.map Env.d))), (12, VI voted), (13, VI ((i : Nat) : Int)), (14, .one (.ref (.o 14) 0)), (15, VB (newestL (getK ⟨(i : Int), 1⟩ (filesL l))).2)]) (bs := [(.o 7, [.dat (.int .i64 f.node), .dat (.int .i64 f.slot), .dat (.int .i64 f.kind), .dat (.str f.value), .dat (.sl (iRows f.needs))]), (.o 9, [.dat (.int .i64 (newestL (getK ⟨v, 1⟩ (filesL l))).1.node), .dat (.int .i64 (newestL (getK ⟨v, 1⟩ (filesL l))).1.slot), .dat (.int .i64 (newestL (getK ⟨v, 1⟩ (filesL l))).1.seq), .dat (.int .i64 (newestL (getK ⟨v, 1⟩ (filesL l))).1.trust.thr), .dat (.sl (iRows (newestL (getK ⟨v, 1⟩ (filesL l))).1.trust.nodes)), .dat (.sl ((newestL (getK ⟨v, 1⟩ (filesL l))).1.trust.inner.map Trust.enc)), .dat (.int .i64 (newestL (getK ⟨v, 1⟩ (filesL l))).1.kind), .dat (.int .i64 (newestL (getK ⟨v, 1⟩ (filesL l))).1.b.c), .dat (.str (newestL (getK ⟨v, 1⟩ (filesL l))).1.b.v), .dat (.int .i64 (newestL (getK ⟨v, 1⟩ (filesL l))).1.p.c), .dat (.str (newestL (getK ⟨v, 1⟩ (filesL l))).1.p.v), .dat (.int .i64 (newestL (getK ⟨v, 1⟩ (filesL l))).1.q.c), .dat (.str (newestL (getK ⟨v, 1⟩ (filesL l))).1.q.v), .dat (.int .i64 (newestL (getK ⟨v, 1⟩ (filesL l))).1.low), .dat (.int .i64 (newestL (getK ⟨v, 1⟩ (filesL l))).1.high)]), (.o 14, [.dat (.int .i64 (newestL (getK ⟨(i : Int), 1⟩ (filesL l))).1.node), .dat (.int .i64 (newestL (getK ⟨(i : Int), 1⟩ (filesL l))).1.slot), .dat (.int .i64 (newestL (getK ⟨(i : Int), 1⟩ (filesL l))).1.seq), .dat (.int .i64 (newestL (getK ⟨(i : Int), 1⟩ (filesL l))).1.trust.thr), .dat (.sl (iRows (newestL (getK ⟨(i : Int), 1⟩ (filesL l))).1.trust.nodes)), .dat (.sl ((newestL (getK ⟨(i : Int), 1⟩ (filesL l))).1.trust.inner.map Trust.enc)), .dat (.int .i64 (newestL (getK ⟨(i : Int), 1⟩ (filesL l))).1.kind), .dat (.int .i64 (newestL (getK ⟨(i : Int), 1⟩ (filesL l))).1.b.c), .dat (.str (newestL (getK ⟨(i : Int), 1⟩ (filesL l))).1.b.v), .dat (.int .i64 (newestL (getK ⟨(i : Int), 1⟩ (filesL l))).1.p.c), .dat (.str (newestL (getK ⟨(i : Int), 1⟩ (filesL l))).1.p.v), .dat (.int .i64 (newestL (getK ⟨(i : Int), 1⟩ (filesL l))).1.q.c), .dat (.str (newestL (getK ⟨(i : Int), 1⟩ (filesL l))).1.q.v), .dat (.int .i64 (newestL (getK ⟨(i : Int), 1⟩ (filesL l))).1.low), .dat (.int .i64 (newestL (getK ⟨(i : Int), 1⟩ (filesL l))).1.high)])]) (ts := [(1010, (38, 15))]) (sc rfl (sc rfl (sc rfl (sc rfl (sc rfl (sc rfl (sc rfl (sc rfl (sc rfl (sc rfl sz)))))))))) (xc rfl (xc rfl (xc rfl xz))) (kc rfl kz)) ?_
          refine zsr ?_
          refine zc rfl (zmv (zt rfl) rfl ?_)
          refine zn0 ?_
          refine zwc (zt rfl) (fun h4 => ?_) (fun h4 => ?_)
          · skip
            refine zsr ?_
            refine zc rfl (zmv (zt rfl) rfl ?_)
            refine zc rfl (zld (n := 15) (zt rfl) zk rfl rfl rfl rfl ?_)
            refine zc rfl (zbs (e := 38) (ps := [(_, _)]) (qs := [(_, _)]) (n := 15) (rows := [[_, _, _, _, _, _, _, _, _, _, _, _, _, _, _]]) (pc (zt rfl) rfl pz) zk zdc ⟨[.dat (.int .i64 0), .dat (.int .i64 0), .dat (.int .i64 0), .dat (.int .i64 0), .nilsl, .nilsl, .dat (.int .i64 0), .dat (.int .i64 0), .dat (.str ⟨#[]⟩), .dat (.int .i64 0), .dat (.str ⟨#[]⟩), .dat (.int .i64 0), .dat (.str ⟨#[]⟩), .dat (.int .i64 0), .dat (.int .i64 0)], by kernel_rfl⟩ rfl rfl (by simp [Uni]) rfl zdc rfl ?_)
            refine zc rfl (op_append (e := 38) (k := 15) (b := 176) (zt rfl) rfl (zt rfl) rfl zk (by first | exact uni_snoc (uni_map (f := Env.d) (fun _ => rfl) _) rfl | (simp [Uni]; done)) (by first | (simp; done) | (simp; omega) | (simp at *; omega)) (by first | (simp; done) | (simp; omega) | (simp at *; omega)) rfl ?_)
            refine zc rfl (zas (zt rfl) rfl ?_)
            refine zn0 ?_
            refine zsr ?_
            refine zc rfl (zld (n := 15) (zt rfl) zk rfl rfl rfl rfl ?_)
            refine zc rfl (zfa (o := 7) (zt rfl) zk rfl ?_)
            refine zc rfl (zld (n := 2) (zt rfl) zk rfl rfl rfl rfl ?_)
            refine zc rfl (zcl zhf (hc (zt rfl) (hc (zt rfl) hz)) (rs := []) (bxs := []) zdc bz (c_trustquorumref24_VotesPrepare (newestL (getK ⟨(i : Int), 1⟩ (filesL l))).1 (newestL (getK ⟨v, 1⟩ (filesL l))).1.b (own_ok (files_all (P := fun e => e.trust.ok) hsp.ok))) rfl rfl rfl (fun d b hd hl => ?_))
            obtain ⟨rfl, rfl⟩ := hd
            refine zc rfl (zmv (zt rfl) rfl ?_)
            refine zg rfl rfl rfl rfl (zgb rfl) (fun hg => zld (n := 15) (zt rfl) zk rfl rfl rfl rfl rfl) ?_
            refine zg rfl rfl rfl rfl (zgb rfl) (fun hg => zfa (o := 7) (zt rfl) zk rfl rfl) ?_
            refine zg rfl rfl rfl rfl (zgb rfl) (fun hg => zld (n := 2) (zcd (zt rfl) hg) zk rfl rfl rfl rfl rfl) ?_
            refine zg rfl rfl rfl rfl (zgb rfl) (fun hg => zcl zhf (hc (zcd (zt rfl) hg) (hc (zcd (zt rfl) hg) hz)) (rs := []) (bxs := []) zdc bz (c_trustquorumref24_AcceptsPrepare (newestL (getK ⟨(i : Int), 1⟩ (filesL l))).1 (newestL (getK ⟨v, 1⟩ (filesL l))).1.b (own_ok (files_all (P := fun e => e.trust.ok) hsp.ok))) rfl rfl rfl (fun d b hd hl => by obtain ⟨rfl, rfl⟩ := hd; rfl)) ?_
            refine zc rfl (zor (zt rfl) (.inl zb0) (zt rfl) rfl ?_)
            refine zn0 ?_
            refine zwc (zt rfl) (fun h5 => ?_) (fun h5 => ?_)
            · skip
              refine zre ?_
              refine zc rfl (zmv (zt rfl) rfl ?_)
              refine zc rfl (zmv (zt rfl) rfl ?_)
              refine zc rfl (op_convert (k1 := .i64) (k' := .u64) (zt rfl) zk zk (inU zom zom) rfl ?_)
              refine zc rfl (op_shl (zi zdc) (zt rfl) zom zom (by show _ ≤ 64; omega) (ink_shl1 zom) rfl ?_)
              refine zc rfl (op_bit (zt rfl) (zt rfl) (by first | exact Int.natCast_nonneg _ | omega) (by first | exact Int.natCast_nonneg _ | omega) rfl rfl ?_)
              refine zc rfl (zas (zt rfl) rfl ?_)
              refine zn0 ?_
              refine zbn ?_
              refine ztn ?_
              refine zre ?_
              refine zc rfl (zmv (zt rfl) rfl ?_)
              refine zc rfl (zar (zt rfl) (zi zdc) rfl (ink64 zom zom) rfl ?_)
              refine zc rfl (zas (zt rfl) rfl ?_)
              refine zn0 ?_
              refine ztn ?_
              refine ⟨(seen ++ [(newestL (getK ⟨(i : Int), 1⟩ (filesL l))).1]), ((voted.toNat ||| (((1 : Int).toNat <<< ((i : Nat) : Int).toNat : Nat) : Int).toNat : Nat) : Int), i + 1, ?_, ?_, ((le_retok (q := 80) (p := 1010) (s := 11) rfl rfl).trans (le_of (sc rfl (sc rfl (sc rfl (sc rfl (sc rfl (sc (slt_eq rfl (by first | rfl | exact List.map_append | (simp only [List.map_append, List.map_cons, List.map_nil]; rfl) | simp)) (sc rfl (sc rfl sz)))))))) (xc rfl (xc rfl xz)) (kc rfl kz)))⟩
              · refine ⟨?_, ?_, ?_⟩
                · exact zen
                · first | exact hse ▸ seen_yes h4 | (rw [hse]; exact seen_no h4)
                · first | (rw [hvo]; exact vot_yes h4 h5) | (rw [hvo]; exact vot_no h4 h5) | (rw [hvo]; exact vot_none h4)
              · first | omega | (simp at *; omega)
            · skip
              refine zws ?_
              refine zbn ?_
              refine ztn ?_
              refine zre ?_
              refine zc rfl (zmv (zt rfl) rfl ?_)
              refine zc rfl (zar (zt rfl) (zi zdc) rfl (ink64 zom zom) rfl ?_)
              refine zc rfl (zas (zt rfl) rfl ?_)
              refine zn0 ?_
              refine ztn ?_
              refine ⟨(seen ++ [(newestL (getK ⟨(i : Int), 1⟩ (filesL l))).1]), voted, i + 1, ?_, ?_, ((le_retok (q := 80) (p := 1010) (s := 11) rfl rfl).trans (le_of (sc rfl (sc rfl (sc rfl (sc rfl (sc rfl (sc (slt_eq rfl (by first | rfl | exact List.map_append | (simp only [List.map_append, List.map_cons, List.map_nil]; rfl) | simp)) (sc rfl (sc rfl sz)))))))) (xc rfl (xc rfl xz)) (kc rfl kz)))⟩
              · refine ⟨?_, ?_, ?_⟩
                · exact zen
                · first | exact hse ▸ seen_yes h4 | (rw [hse]; exact seen_no h4)
                · first | (rw [hvo]; exact vot_yes h4 h5) | (rw [hvo]; exact vot_no h4 h5) | (rw [hvo]; exact vot_none h4)
              · first | omega | (simp at *; omega)
          · skip
            refine zws ?_
            refine zbn ?_
            refine ztn ?_
            refine zre ?_
            refine zc rfl (zmv (zt rfl) rfl ?_)
            refine zc rfl (zar (zt rfl) (zi zdc) rfl (ink64 zom zom) rfl ?_)
            refine zc rfl (zas (zt rfl) rfl ?_)
            refine zn0 ?_
            refine ztn ?_
            refine ⟨seen, voted, i + 1, ?_, ?_, (le_of (sc rfl (sc rfl (sc rfl (sc rfl (sc rfl (sc (slt_eq rfl (by first | rfl | exact List.map_append | (simp only [List.map_append, List.map_cons, List.map_nil]; rfl) | simp)) (sc rfl (sc rfl sz)))))))) (xc rfl (xc rfl xz)) (kc rfl kz))⟩
            · refine ⟨?_, ?_, ?_⟩
              · exact zen
              · first | exact hse ▸ seen_yes h4 | (rw [hse]; exact seen_no h4)
              · first | (rw [hvo]; exact vot_yes h4 h5) | (rw [hvo]; exact vot_no h4 h5) | (rw [hvo]; exact vot_none h4)
            · first | omega | (simp at *; omega)
        · skip
          have g3 := h3
          try simp only [zbz, List.length_map] at g3
          obtain rfl : i = 10 := by omega
          subst hse
          subst hvo
          have hvk := viewC_ok (node := v) (own_ok (p := ⟨v, 1⟩) (files_all (P := fun e => e.trust.ok) hsp.ok)) (seenTo_all (P := fun e => e.trust.ok) (slot := 1) (files_all (P := fun e => e.trust.ok) hsp.ok) 10)
          have hvs := votT_set (filesL l) 1 (newestL (getK ⟨v, 1⟩ (filesL l))).1.b 10
          have hvs0 := hvs.1
          have hvr := (own_helps hsp.fit hno).1
          refine zwe ?_
          refine zte ?_
          refine zte ?_
          refine zbk ?_
          refine ztn ?_
          refine zsr ?_
          refine zc rfl (zmv (zt rfl) rfl ?_)
          refine zc rfl (zfa (o := 3) (zt rfl) zk rfl ?_)
          refine zc rfl (zld (n := 3) (zt rfl) zk rfl rfl rfl rfl ?_)
          refine zc rfl (zmv (zt rfl) rfl ?_)
          refine zc rfl (zcl zhf (hc (zt rfl) (hc (zt rfl) (hc (zt rfl) hz))) (rs := []) (bxs := []) zdc bz (c_trustquorumref25_View v (newestL (getK ⟨v, 1⟩ (filesL l))).1.trust (seenTo (filesL l) 1 10) (seenTo_all (P := fun e => e.trust.ok) (files_all (P := fun e => e.trust.ok) hsp.ok) 10) (own_ok (files_all (P := fun e => e.trust.ok) hsp.ok))) rfl rfl rfl (fun d b hd hl => ?_))
          obtain ⟨rfl, rfl⟩ := hd
          refine zc rfl (zal (cs := [.nilsl]) zk rfl ?_)
          refine zc rfl (zst (n := 1) (zt rfl) (zt rfl) rfl (.inl zk) rfl rfl (zbl rfl) ?_)
          refine zn0 ?_
          refine awp_le (le_of (ls := [(5, VI v), (7, .one (.ref (.o 7) 0)), (12, VI (votT (filesL l) 1 (newestL (getK ⟨v, 1⟩ (filesL l))).1.b 10)), (16, .one (.ref (.o 16) 0))]) (bs := [(.o 7, [.dat (.int .i64 f.node), .dat (.int .i64 f.slot), .dat (.int .i64 f.kind), .dat (.str f.value), .dat (.sl (iRows f.needs))]), (.o 16, [.dat (.sl ((viewC v (newestL (getK ⟨v, 1⟩ (filesL l))).1.trust (seenTo (filesL l) 1 10)).map Member.d))])]) (ts := []) (sc rfl (sc rfl (sc rfl (sc rfl sz)))) (xc rfl (xc rfl xz)) kz) ?_
          refine zw2 ?_
          refine zsr ?_
          refine zc rfl (zfa (o := 4) (zt rfl) zk rfl ?_)
          refine zc rfl (zl1 (zt rfl) zk rfl rfl rfl ?_)
          refine zc rfl (zln (e := 3) (n := 1) (zt rfl) rfl zk rfl (fun hl103 => ?_))
          try simp only [List.length_map] at hl103
          refine zc rfl (zmv (zi zdc) rfl ?_)
          refine zn0 ?_
          refine zwb ?_
          refine zlp (fs := [(5, _), (12, _), (16, _), (102, _), (103, _)]) (fb := [(.o 16, _)]) (fun (k : Nat) => [(104, VI ((k : Nat) : Int))]) (fun (k : Nat) => []) (fun (k : Nat) => []) (fun (k : Nat) => (k ≤ f.needs.length)) (fun (k : Nat) => f.needs.length - k) 0 (le_of (sc rfl (sc rfl (sc rfl (sc rfl (sc rfl (sc rfl sz)))))) (xc rfl xz) kz) ?_ ?_
          · exact zen
          · intro k hk
            refine zsr ?_
            refine zc rfl (zcm (zt rfl) (zt rfl) rfl rfl ?_)
            refine zn0 ?_
            refine zw2 ?_
            refine zwc (zt rfl) (fun h6 => ?_) (fun h6 => ?_)
            · skip
              have g6 := h6
              try simp only [zbz, List.length_map] at g6
              have hkl : k < f.needs.length := by omega
              obtain ⟨n0, n1, n2, n3⟩ := need_law o1 o2 o3 hS.1 hS.2 (hp.subset (mem_at hkl))
              have n00 := n0.1
              refine zws ?_
              refine ztn ?_
              refine zw2 ?_
              refine zwb ?_
              refine zsr ?_
              refine zc rfl (op_indexAddr (e := 3) (n := 1) (zt rfl) rfl (zt rfl) zk zom (show (iRows f.needs)[k]? = some (iRow f.needs[k]!) from (map_getD zom)) rfl rfl ?_)
              refine zc rfl (op_load_imm1 (zt rfl) zk rfl rfl ?_)
              refine zc rfl (zas (zt rfl) rfl ?_)
              refine zn0 ?_
              refine zw2 ?_
              refine zsr ?_
              refine zc rfl (zmv (zt rfl) rfl ?_)
              refine zc rfl (zmv (zt rfl) rfl ?_)
              refine zc rfl (op_bit (zt rfl) (zt rfl) (by first | exact Int.natCast_nonneg _ | omega) (by first | exact Int.natCast_nonneg _ | omega) rfl rfl ?_)
              refine zc rfl (zcm (zt rfl) (zi zdc) rfl rfl ?_)
              refine zc rfl (zmv (zt rfl) rfl ?_)
              refine zg rfl rfl rfl rfl (zgb rfl) (fun hg => zld (n := 1) (zt rfl) zk rfl rfl rfl rfl rfl) ?_
              refine zg rfl rfl rfl rfl (zgb rfl) (fun hg => zmv (zt rfl) rfl rfl) ?_
              refine zg rfl rfl rfl rfl (zgb rfl) (fun hg => zmv (zt rfl) rfl rfl) ?_
              refine zg rfl rfl rfl rfl (zgb rfl) (fun hg => op_bit (zcd (zt rfl) hg) (zcd (zt rfl) hg) (by first | exact Int.natCast_nonneg _ | omega | (simp only [zbz, List.length_map, cond_true, cond_false] at hg; omega)) (by first | exact Int.natCast_nonneg _ | omega | (simp only [zbz, List.length_map, cond_true, cond_false] at hg; omega)) rfl rfl rfl) ?_
              refine zg rfl rfl rfl rfl (zgb rfl) (fun hg => zcl zhf (hc (zcd (zt rfl) hg) (hc (zcd (zt rfl) hg) hz)) (rs := []) (bxs := []) zdc bz (c_trustquorumref09_Greatest (viewC v (newestL (getK ⟨v, 1⟩ (filesL l))).1.trust (seenTo (filesL l) 1 10)) ((f.needs[k]!.toNat ||| (votT (filesL l) 1 (newestL (getK ⟨v, 1⟩ (filesL l))).1.b 10).toNat : Nat) : Int) hvk) rfl rfl rfl (fun d b hd hl => by obtain ⟨rfl, rfl⟩ := hd; rfl)) ?_
              refine zg rfl rfl rfl rfl (zgb rfl) (fun hg => zmv (zt rfl) rfl rfl) ?_
              refine zg rfl rfl rfl rfl (zgb rfl) (fun hg => op_convert (k1 := .i64) (k' := .u64) (zcd (zt rfl) hg) zk zk (inU (by first | omega | (simp only [zbz, List.length_map, cond_true, cond_false] at hg; omega) | exact Int.natCast_nonneg _ | (simp only [List.length_map] at *; omega) | (simp only [List.length_map]; omega)) (by first | omega | (simp only [zbz, List.length_map, cond_true, cond_false] at hg; omega) | exact Int.natCast_nonneg _ | (simp only [List.length_map] at *; omega) | (simp only [List.length_map]; omega))) rfl rfl) ?_
              have hen := (elim_set (viewC v (newestL (getK ⟨v, 1⟩ (filesL l))).1.trust (seenTo (filesL l) 1 10)) ((f.needs[k]!.toNat ||| (votT (filesL l) 1 (newestL (getK ⟨v, 1⟩ (filesL l))).1.b 10).toNat : Nat) : Int)).1
              refine zg rfl rfl rfl rfl (zgb rfl) (fun hg => op_shr (zcd (zt rfl) hg) (zcd (zt rfl) hg) (by first | omega | (simp only [zbz, List.length_map, cond_true, cond_false] at hg; omega) | exact Int.natCast_nonneg _ | (simp only [List.length_map] at *; omega) | (simp only [List.length_map]; omega)) (by first | omega | (simp only [zbz, List.length_map, cond_true, cond_false] at hg; omega) | exact Int.natCast_nonneg _ | (simp only [List.length_map] at *; omega) | (simp only [List.length_map]; omega)) (by first | (show _ ≤ 64; omega) | (simp only [zbz, List.length_map, cond_true, cond_false] at hg; show _ ≤ 64; omega)) rfl rfl) ?_
              refine zg rfl rfl rfl rfl (zgb rfl) (fun hg => op_bit (zcd (zt rfl) hg) (zi zdc) (by first | exact Int.natCast_nonneg _ | omega | (simp only [zbz, List.length_map, cond_true, cond_false] at hg; omega)) (by first | exact Int.natCast_nonneg _ | omega | (simp only [zbz, List.length_map, cond_true, cond_false] at hg; omega)) rfl rfl rfl) ?_
              refine zg rfl rfl rfl rfl (zgb rfl) (fun hg => zcm (zcd (zt rfl) hg) (zi zdc) rfl rfl rfl) ?_
              refine zc rfl (zor (zt rfl) (.inl zb0) (zt rfl) rfl ?_)
              refine zn0 ?_
              refine zwc (zt rfl) (fun h7 => ?_) (fun h7 => ?_)
              · skip
                exfalso
                have n1 : (((f.needs[k]!).toNat &&& (votT (filesL l) 1 (newestL (getK ⟨v, 1⟩ (filesL l))).1.b 10).toNat : Nat) : Int) = 0 := n1
                have n2 : has (elim (viewC v (newestL (getK ⟨v, 1⟩ (filesL l))).1.trust (seenTo (filesL l) 1 10)) (orI f.needs[k]! (votT (filesL l) 1 (newestL (getK ⟨v, 1⟩ (filesL l))).1.b 10))).1 v = true := n2
                have bv := bit_val (elim_set (viewC v (newestL (getK ⟨v, 1⟩ (filesL l))).1.trust (seenTo (filesL l) 1 10)) (orI f.needs[k]! (votT (filesL l) 1 (newestL (getK ⟨v, 1⟩ (filesL l))).1.b 10))) (k := v) ⟨hvr.1, by omega⟩
                rw [if_pos n2] at bv
                exact stop7 h7 n1 bv
              · skip
                refine zws ?_
                refine ztn ?_
                refine zsr ?_
                refine zc rfl (zas (zi zdc) rfl ?_)
                refine zn0 ?_
                refine zwb ?_
                refine zlp (fs := [(5, _), (12, _), (16, _), (18, _), (102, _), (103, _), (104, _)]) (fb := [(.o 16, _)]) (fun (i1 : Nat) => [(19, VI ((i1 : Nat) : Int))]) (fun (i1 : Nat) => []) (fun (i1 : Nat) => []) (fun (i1 : Nat) => (i1 ≤ 10)) (fun (i1 : Nat) => 10 - i1) 0 (le_of (sc rfl (sc rfl (sc rfl (sc rfl (sc rfl (sc rfl (sc rfl (sc rfl sz)))))))) (xc rfl xz) kz) ?_ ?_
                · exact zen
                · intro i1 hk
                  refine zw2 ?_
                  refine zsr ?_
                  refine zc rfl (zmv (zt rfl) rfl ?_)
                  refine zc rfl (zcm (zt rfl) (zi zdc) rfl rfl ?_)
                  refine zn0 ?_
                  refine zwc (zt rfl) (fun h8 => ?_) (fun h8 => ?_)
                  · skip
                    have g8 := h8
                    try simp only [zbz, List.length_map] at g8
                    refine zws ?_
                    refine ztn ?_
                    refine zw2 ?_
                    refine zwb ?_
                    refine zsr ?_
                    refine zc rfl (zmv (zt rfl) rfl ?_)
                    refine zc rfl (zmv (zt rfl) rfl ?_)
                    refine zc rfl (op_convert (k1 := .i64) (k' := .u64) (zt rfl) zk zk (inU zom zom) rfl ?_)
                    refine zc rfl (op_shr (zt rfl) (zt rfl) zom zom (by show _ ≤ 64; omega) rfl ?_)
                    refine zc rfl (op_bit (zt rfl) (zi zdc) (by first | exact Int.natCast_nonneg _ | omega) (by first | exact Int.natCast_nonneg _ | omega) rfl rfl ?_)
                    refine zc rfl (zcm (zt rfl) (zi zdc) rfl rfl ?_)
                    refine zc rfl (zmv (zt rfl) rfl ?_)
                    refine zg rfl rfl rfl rfl (zgb rfl) (fun hg => zld (n := 1) (zt rfl) zk rfl rfl rfl rfl rfl) ?_
                    refine zg rfl rfl rfl rfl (zgb rfl) (fun hg => zmv (zt rfl) rfl rfl) ?_
                    refine zg rfl rfl rfl rfl (zgb rfl) (fun hg => zmv (zt rfl) rfl rfl) ?_
                    refine zg rfl rfl rfl rfl (zgb rfl) (fun hg => op_convert (k1 := .i64) (k' := .u64) (zcd (zt rfl) hg) zk zk (inU (by first | omega | (simp only [zbz, List.length_map, cond_true, cond_false] at hg; omega) | exact Int.natCast_nonneg _ | (simp only [List.length_map] at *; omega) | (simp only [List.length_map]; omega)) (by first | omega | (simp only [zbz, List.length_map, cond_true, cond_false] at hg; omega) | exact Int.natCast_nonneg _ | (simp only [List.length_map] at *; omega) | (simp only [List.length_map]; omega))) rfl rfl) ?_
                    refine zg rfl rfl rfl rfl (zgb rfl) (fun hg => op_shl (zi zdc) (zcd (zt rfl) hg) (by first | omega | (simp only [zbz, List.length_map, cond_true, cond_false] at hg; omega) | exact Int.natCast_nonneg _ | (simp only [List.length_map] at *; omega) | (simp only [List.length_map]; omega)) (by first | omega | (simp only [zbz, List.length_map, cond_true, cond_false] at hg; omega) | exact Int.natCast_nonneg _ | (simp only [List.length_map] at *; omega) | (simp only [List.length_map]; omega)) (by first | (show _ ≤ 64; omega) | (simp only [zbz, List.length_map, cond_true, cond_false] at hg; show _ ≤ 64; omega)) (ink_shl1 (by first | omega | (simp only [zbz, List.length_map, cond_true, cond_false] at hg; omega) | exact Int.natCast_nonneg _ | (simp only [List.length_map] at *; omega) | (simp only [List.length_map]; omega))) rfl rfl) ?_
                    refine zg rfl rfl rfl rfl (zgb rfl) (fun hg => op_bit (zcd (zt rfl) hg) (zcd (zt rfl) hg) (by first | exact Int.natCast_nonneg _ | omega | (simp only [zbz, List.length_map, cond_true, cond_false] at hg; omega)) (by first | exact Int.natCast_nonneg _ | omega | (simp only [zbz, List.length_map, cond_true, cond_false] at hg; omega)) rfl rfl rfl) ?_
                    refine zg rfl rfl rfl rfl (zgb rfl) (fun hg => zmv (zt rfl) rfl rfl) ?_
                    refine zg rfl rfl rfl rfl (zgb rfl) (fun hg => op_bit (zcd (zt rfl) hg) (zcd (zt rfl) hg) (by first | exact Int.natCast_nonneg _ | omega | (simp only [zbz, List.length_map, cond_true, cond_false] at hg; omega)) (by first | exact Int.natCast_nonneg _ | omega | (simp only [zbz, List.length_map, cond_true, cond_false] at hg; omega)) rfl rfl rfl) ?_
                    refine zg rfl rfl rfl rfl (zgb rfl) (fun hg => zcl zhf (hc (zcd (zt rfl) hg) (hc (zcd (zt rfl) hg) hz)) (rs := []) (bxs := []) zdc bz (c_trustquorumref09_Greatest (viewC v (newestL (getK ⟨v, 1⟩ (filesL l))).1.trust (seenTo (filesL l) 1 10)) ((((f.needs[k]!.toNat ^^^ (f.needs[k]!.toNat &&& (((1 : Int).toNat <<< ((i1 : Nat) : Int).toNat : Nat) : Int).toNat) : Nat) : Int).toNat ||| (votT (filesL l) 1 (newestL (getK ⟨v, 1⟩ (filesL l))).1.b 10).toNat : Nat) : Int) hvk) rfl rfl rfl (fun d b hd hl => by obtain ⟨rfl, rfl⟩ := hd; rfl)) ?_
                    refine zg rfl rfl rfl rfl (zgb rfl) (fun hg => zmv (zt rfl) rfl rfl) ?_
                    refine zg rfl rfl rfl rfl (zgb rfl) (fun hg => op_convert (k1 := .i64) (k' := .u64) (zcd (zt rfl) hg) zk zk (inU (by first | omega | (simp only [zbz, List.length_map, cond_true, cond_false] at hg; omega) | exact Int.natCast_nonneg _ | (simp only [List.length_map] at *; omega) | (simp only [List.length_map]; omega)) (by first | omega | (simp only [zbz, List.length_map, cond_true, cond_false] at hg; omega) | exact Int.natCast_nonneg _ | (simp only [List.length_map] at *; omega) | (simp only [List.length_map]; omega))) rfl rfl) ?_
                    have hen2 := (elim_set (viewC v (newestL (getK ⟨v, 1⟩ (filesL l))).1.trust (seenTo (filesL l) 1 10)) ((((f.needs[k]!.toNat ^^^ (f.needs[k]!.toNat &&& (((1 : Int).toNat <<< ((i1 : Nat) : Int).toNat : Nat) : Int).toNat) : Nat) : Int).toNat ||| (votT (filesL l) 1 (newestL (getK ⟨v, 1⟩ (filesL l))).1.b 10).toNat : Nat) : Int)).1
                    refine zg rfl rfl rfl rfl (zgb rfl) (fun hg => op_shr (zcd (zt rfl) hg) (zcd (zt rfl) hg) (by first | omega | (simp only [zbz, List.length_map, cond_true, cond_false] at hg; omega) | exact Int.natCast_nonneg _ | (simp only [List.length_map] at *; omega) | (simp only [List.length_map]; omega)) (by first | omega | (simp only [zbz, List.length_map, cond_true, cond_false] at hg; omega) | exact Int.natCast_nonneg _ | (simp only [List.length_map] at *; omega) | (simp only [List.length_map]; omega)) (by first | (show _ ≤ 64; omega) | (simp only [zbz, List.length_map, cond_true, cond_false] at hg; show _ ≤ 64; omega)) rfl rfl) ?_
                    refine zg rfl rfl rfl rfl (zgb rfl) (fun hg => op_bit (zcd (zt rfl) hg) (zi zdc) (by first | exact Int.natCast_nonneg _ | omega | (simp only [zbz, List.length_map, cond_true, cond_false] at hg; omega)) (by first | exact Int.natCast_nonneg _ | omega | (simp only [zbz, List.length_map, cond_true, cond_false] at hg; omega)) rfl rfl rfl) ?_
                    refine zg rfl rfl rfl rfl (zgb rfl) (fun hg => zcm (zcd (zt rfl) hg) (zi zdc) rfl rfl rfl) ?_
                    refine zc rfl (zan (zt rfl) (zt rfl) (.inl zb0) rfl ?_)
                    refine zn0 ?_
                    refine awp_le (le_of (ls := [(5, VI v), (12, VI (votT (filesL l) 1 (newestL (getK ⟨v, 1⟩ (filesL l))).1.b 10)), (16, .one (.ref (.o 16) 0)), (18, VI f.needs[k]!), (19, VI ((i1 : Nat) : Int)), (102, VR (iRows f.needs)), (103, VI ((iRows f.needs).length : Int)), (104, VI ((k : Nat) : Int)), (149, VB (decide (((((f.needs[k]!.toNat >>> ((i1 : Nat) : Int).toNat : Nat) : Int).toNat &&& (1 : Int).toNat : Nat) : Int) = 1) && decide ((((((elim (viewC v (newestL (getK ⟨v, 1⟩ (filesL l))).1.trust (seenTo (filesL l) 1 10)) ((((f.needs[k]!.toNat ^^^ (f.needs[k]!.toNat &&& (((1 : Int).toNat <<< ((i1 : Nat) : Int).toNat : Nat) : Int).toNat) : Nat) : Int).toNat ||| (votT (filesL l) 1 (newestL (getK ⟨v, 1⟩ (filesL l))).1.b 10).toNat : Nat) : Int)).1.toNat >>> v.toNat : Nat) : Int).toNat &&& (1 : Int).toNat : Nat) : Int) = 1)))]) (bs := [(.o 16, [.dat (.sl ((viewC v (newestL (getK ⟨v, 1⟩ (filesL l))).1.trust (seenTo (filesL l) 1 10)).map Member.d))])]) (ts := []) (sc rfl (sc rfl (sc rfl (sc rfl (sc rfl (sc rfl (sc rfl (sc rfl (sc rfl sz))))))))) (xc rfl xz) kz) ?_
                    refine zwc (zt rfl) (fun h9 => ?_) (fun h9 => ?_)
                    · skip
                      exfalso
                      have bv := bit_val (elim_set (viewC v (newestL (getK ⟨v, 1⟩ (filesL l))).1.trust (seenTo (filesL l) 1 10)) (orI (remI f.needs[k]! (i1 : Int)) (votT (filesL l) 1 (newestL (getK ⟨v, 1⟩ (filesL l))).1.b 10))) (k := v) ⟨hvr.1, by omega⟩
                      have bn := bit_val n0 (k := (i1 : Int)) ⟨by omega, by omega⟩
                      exact stop9 h9 bn bv (n3 (i1 : Int))
                    · skip
                      refine zws ?_
                      refine zbn ?_
                      refine ztn ?_
                      refine zre ?_
                      refine zc rfl (zmv (zt rfl) rfl ?_)
                      refine zc rfl (zar (zt rfl) (zi zdc) rfl (ink64 zom zom) rfl ?_)
                      refine zc rfl (zas (zt rfl) rfl ?_)
                      refine zn0 ?_
                      refine ztn ?_
                      refine ⟨i1 + 1, ?_, ?_, (le_of (sc rfl (sc rfl (sc rfl (sc rfl (sc rfl (sc rfl (sc rfl (sc rfl sz)))))))) (xc rfl xz) kz)⟩
                      · exact zen
                      · first | omega | (simp at *; omega)
                  · skip
                    have g8 := h8
                    try simp only [zbz, List.length_map] at g8
                    refine zwe ?_
                    refine zte ?_
                    refine zte ?_
                    refine zbk ?_
                    refine zbn ?_
                    refine ztn ?_
                    refine zre ?_
                    refine zc rfl (zar (zt rfl) (zi zdc) rfl (ink64 zom zom) rfl ?_)
                    refine zc rfl (zmv (zt rfl) rfl ?_)
                    refine zn0 ?_
                    refine ztn ?_
                    refine ⟨k + 1, ?_, ?_, (le_of (sc rfl (sc rfl (sc rfl (sc rfl (sc rfl (sc rfl sz)))))) (xc rfl xz) kz)⟩
                    · exact zen
                    · first | omega | (simp at *; omega)
            · skip
              have g6 := h6
              try simp only [zbz, List.length_map] at g6
              refine zwe ?_
              refine zte ?_
              refine zte ?_
              refine zbk ?_
              refine ztn ?_
              refine zsr ?_
              refine zc rfl (zcl zhf hz (rs := []) (bxs := []) zdc bz (c_sane) rfl rfl rfl (fun d b hd hl => ?_))
              obtain ⟨rfl, rfl⟩ := hd
              refine zc rfl (zas (zt rfl) rfl ?_)
              refine zn0 ?_
              refine zwr ?_
              refine zpr [] (res1 (zrt rfl)) rfl lz ?_
              exact ⟨rfl, rfl⟩

end Go.TQ
