/- s12.py -/
import Derived.Test.YtmfiplnojbjcbaaGreatP01
set_option linter.unusedVariables false
set_option linter.unusedSimpArgs false
set_option maxRecDepth 10000
set_option maxHeartbeats 4000000
namespace Go.TQ
open Go.Proofs


theorem ok_of {b : Bool} (h : (!b) = false) : b = true := by cases b <;> simp_all
theorem ValP.len {v : ByteArray} (h : ValP v) : 1 ≤ len v ∧ len v ≤ 2 := by
  unfold ValP vals4 at h
  simp only [List.mem_cons, List.not_mem_nil, or_false] at h
  rcases h with rfl | rfl | rfl | rfl <;> decide
theorem bvalid_of {c : Int} {v : ByteArray} (h1 : 1 ≤ c) (h2 : c ≤ 1000) (hv : ValP v) : (Ballot.mk c v).valid = true := by
  have := hv.len
  simp only [Ballot.valid, Bool.and_eq_true, Bool.or_eq_true, decide_eq_true_eq]
  exact ⟨⟨.inl ⟨h1, h2⟩, by omega⟩, by omega⟩
theorem bzero_no {c : Int} {v : ByteArray} (h1 : 1 ≤ c) : (Ballot.mk c v).isZero = false := by
  simp [Ballot.isZero]; omega
theorem c1_of {e : Env} (h1 : 0 ≤ e.node ∧ e.node ≤ 9) (h2 : 1 ≤ e.slot ∧ e.slot ≤ 1000000) (h3 : 1 ≤ e.seq ∧ e.seq ≤ 1000000) (h4 : e.trust.valid = 0) (h5 : e.b.valid = true) : e.c1 = false := by
  simp only [Env.c1, h4, h5, Bool.or_eq_false_iff, decide_eq_false_iff_not, Bool.not_eq_false', decide_true, Bool.not_true]
  exact ⟨⟨⟨⟨⟨⟨⟨by omega, by omega⟩, by omega⟩, by omega⟩, by omega⟩, by omega⟩, trivial⟩, trivial⟩
theorem fine_commit {node slot seq bc lo hi pc : Int} {v : ByteArray} {t : Trust} (h1 : 0 ≤ node ∧ node ≤ 9) (h2 : 1 ≤ slot ∧ slot ≤ 1000000) (h3 : 1 ≤ seq ∧ seq ≤ 1000000) (h4 : t.valid = 0) (hb : 1 ≤ bc ∧ bc ≤ 1000) (hv : ValP v)
    (hl : 1 ≤ lo ∧ lo ≤ hi) (hp : hi ≤ pc ∧ pc ≤ 1000) : (Env.mk node slot seq t 2 ⟨bc, v⟩ ⟨pc, v⟩ ⟨0, ⟨#[]⟩⟩ lo hi).validR = true := by
  rw [Env.validR, if_neg (by rw [c1_of h1 h2 h3 h4 (bvalid_of hb.1 hb.2 hv)]; simp), if_neg (by simp), if_pos rfl]
  simp only [Env.c8, Ballot.compat, bvalid_of (show 1 ≤ pc by omega) hp.2 hv, Bool.and_eq_true, decide_eq_true_eq]
  exact ⟨⟨⟨⟨⟨⟨⟨by omega, trivial⟩, trivial⟩, by decide⟩, by omega⟩, by omega⟩, by omega⟩, by omega⟩
theorem fine_external {node slot seq bc lo hi : Int} {v : ByteArray} {t : Trust} (h1 : 0 ≤ node ∧ node ≤ 9) (h2 : 1 ≤ slot ∧ slot ≤ 1000000) (h3 : 1 ≤ seq ∧ seq ≤ 1000000) (h4 : t.valid = 0) (hb : 1 ≤ bc ∧ bc ≤ 1000) (hv : ValP v)
    (hl : 1 ≤ lo ∧ lo ≤ hi) (hp : hi ≤ 1000) : (Env.mk node slot seq t 3 ⟨bc, v⟩ ⟨0, ⟨#[]⟩⟩ ⟨0, ⟨#[]⟩⟩ lo hi).validR = true := by
  rw [Env.validR, if_neg (by rw [c1_of h1 h2 h3 h4 (bvalid_of hb.1 hb.2 hv)]; simp), if_neg (by simp), if_neg (by simp), if_pos rfl]
  simp only [Env.c9, Bool.and_eq_true, decide_eq_true_eq]
  exact ⟨⟨⟨⟨by decide, by decide⟩, by omega⟩, by omega⟩, by omega⟩
theorem fine_prepare {node slot seq bc : Int} {v : ByteArray} {t : Trust} {p : Ballot} (h1 : 0 ≤ node ∧ node ≤ 9) (h2 : 1 ≤ slot ∧ slot ≤ 1000000) (h3 : 1 ≤ seq ∧ seq ≤ 1000000) (h4 : t.valid = 0) (hb : 1 ≤ bc ∧ bc ≤ 1000) (hv : ValP v)
    (hp : p = ⟨0, ⟨#[]⟩⟩ ∨ LowP p) : (Env.mk node slot seq t 1 ⟨bc, v⟩ p ⟨0, ⟨#[]⟩⟩ 0 0).validR = true := by
  have hz : (Ballot.mk 0 ⟨#[]⟩).isZero = true := by decide
  have hpv : (!p.isZero && !p.valid) = false := by
    rcases hp with rfl | hp
    · rw [hz]; rfl
    · have : p.valid = true := bvalid_of (c := p.c) (v := p.v) hp.lo (by have := hp.hi; omega) hp.val
      rw [this]; simp
  rw [Env.validR, if_neg (by rw [c1_of h1 h2 h3 h4 (bvalid_of hb.1 hb.2 hv)]; simp), if_pos rfl]
  rw [if_neg (by simp only [Env.c3, hpv]; simp; omega), if_neg (by simp only [Env.c4, hz]; simp), if_neg (by simp [Env.c5]; omega), if_neg (by simp [Env.c6])]
  simp [Env.c7]
/-- What the tape's envelopes are like. -/
structure EnvP (node slot : Int) (n : Nat) (e : Env) : Prop where
  node : e.node = node
  slot : e.slot = slot
  seq : 1 ≤ e.seq ∧ e.seq ≤ 9
  tr : TrP n e.trust
  valid : e.validR = true

theorem c_Src_Envelope {L : List Int} (s : Src) (hs : s.at L) (node slot : Int) (n : Nat) (hnode : 0 ≤ node ∧ node ≤ 9) (hslot : 1 ≤ slot ∧ slot ≤ 1000000) (hn : 1 ≤ n ∧ n ≤ 10) : ACalls Tryz.prog 20 [.one (.ref (.e 0) 0), VI node, VI slot, VI (n : Int)] [s.c] fun dd bb => ∃ (e : Env) (s2 : Src), dd = .aggd e.d ∧ bb = [s2.c] ∧ (EnvP node slot n e ∧ s2.at L) := by
  refine zai Tryz.func20 rfl Tryz.ntmps20 (by rw [Tryz.results20]) rfl rfl (fun w0 A0 X => ?_)
  refine zsr ?_
  refine zc rfl (zal (cs := [.dat (.int .i64 0), .dat (.int .i64 0), .dat (.int .i64 0), .dat (.int .i64 0), .nilsl, .nilsl, .dat (.int .i64 0), .dat (.int .i64 0), .dat (.str ⟨#[]⟩), .dat (.int .i64 0), .dat (.str ⟨#[]⟩), .dat (.int .i64 0), .dat (.str ⟨#[]⟩), .dat (.int .i64 0), .dat (.int .i64 0)]) zk rfl ?_)
  refine zn0 ?_
  refine zsr ?_
  refine zc rfl (zmv (zt rfl) rfl ?_)
  refine zc rfl (zmv (zt rfl) rfl ?_)
  refine zc rfl (zmv (zt rfl) rfl ?_)
  refine zc rfl (zcl zhf (hc (zt rfl) (hc (zi zdc) (hc (zi zdc) hz))) (rs := [.e 0]) (bxs := [_]) zdc (bc rfl bz) (r_Src_Range s 1 9 (by first | assumption | omega | trivial | (simp; done) | (constructor <;> omega)) (by first | assumption | omega | trivial | (simp; done) | (constructor <;> omega))) rfl rfl rfl (fun d b hd hl => ?_))
  obtain ⟨v, s2, rfl, rfl, ⟨hv, hs1⟩⟩ := hd
  refine zc rfl (zmv (zt rfl) rfl ?_)
  refine zc rfl (zmv (zt rfl) rfl ?_)
  refine zc rfl (zcl zhf (hc (zt rfl) (hc (zt rfl) hz)) (rs := [.e 0]) (bxs := [_]) zdc (bc rfl bz) (r_Src_Trust s2 (by first | assumption | omega | trivial | (simp; done) | (constructor <;> omega)) (n : Int).toNat (by first | assumption | omega | trivial | (simp; done) | (constructor <;> omega))) rfl rfl rfl (fun d b hd hl => ?_))
  obtain ⟨t, s3, rfl, rfl, ⟨hv1, hs2⟩⟩ := hd
  refine zc rfl (zbd (ps := [(_, _), (_, _), (_, _), (_, _)]) (qs := [(_, _), (_, _), (_, _), (_, _)]) (zs := [.dat (.int .i64 0), .dat (.int .i64 0), .dat (.int .i64 0), .dat (.int .i64 0), .nilsl, .nilsl, .dat (.int .i64 0), .dat (.int .i64 0), .dat (.str ⟨#[]⟩), .dat (.int .i64 0), .dat (.str ⟨#[]⟩), .dat (.int .i64 0), .dat (.str ⟨#[]⟩), .dat (.int .i64 0), .dat (.int .i64 0)]) (pl := [(0, 1), (1, 1), (2, 1), (3, 3), (6, 1), (7, 2), (9, 2), (11, 2), (13, 1), (14, 1)]) (pc (zt rfl) rfl (pc (zt rfl) rfl (pc (zt rfl) rfl (pc (zt rfl) rfl pz)))) zk zk rfl rfl ?_)
  refine zc rfl (zal (cs := [.dat (.int .i64 0), .dat (.int .i64 0), .dat (.int .i64 0), .dat (.int .i64 0), .nilsl, .nilsl, .dat (.int .i64 0), .dat (.int .i64 0), .dat (.str ⟨#[]⟩), .dat (.int .i64 0), .dat (.str ⟨#[]⟩), .dat (.int .i64 0), .dat (.str ⟨#[]⟩), .dat (.int .i64 0), .dat (.int .i64 0)]) zk rfl ?_)
  refine zc rfl (zst (n := 15) (zt rfl) (zt rfl) rfl (.inl zk) rfl rfl (zbl rfl) ?_)
  refine zn0 ?_
  refine zsr ?_
  refine zc rfl (zmv (zt rfl) rfl ?_)
  refine zc rfl (zcl zhf (hc (zt rfl) hz) (rs := [.e 0]) (bxs := [_]) zdc (bc rfl bz) (r_Src_Value s3 (by first | assumption | omega | trivial | (simp; done) | (constructor <;> omega))) rfl rfl rfl (fun d b hd hl => ?_))
  obtain ⟨v1, s4, rfl, rfl, ⟨hv2, hs3⟩⟩ := hd
  refine zc rfl (zas (zt rfl) rfl ?_)
  refine zn0 ?_
  refine zw2 ?_
  refine zsr ?_
  refine zc rfl (zmv (zt rfl) rfl ?_)
  refine zc rfl (zcl zhf (hc (zt rfl) (hc (zi zdc) hz)) (rs := [.e 0]) (bxs := [_]) zdc (bc rfl bz) (r_Src_N s4 4 (by first | assumption | omega | trivial | (simp; done) | (constructor <;> omega)) (by first | assumption | omega | trivial | (simp; done) | (constructor <;> omega))) rfl rfl rfl (fun d b hd hl => ?_))
  obtain ⟨v2, s5, rfl, rfl, ⟨hv3, hs4⟩⟩ := hd
  refine zn0 ?_
  refine zwb ?_
  refine awp_join1 (fs := [(0, .one (.ref (.e 0) 0)), (8, .one (.ref (.o 8) 0)), (9, .one (.ref (.o 9) 0)), (10, VS v1)]) (fb := [(.o 8, [.dat (.int .i64 0), .dat (.int .i64 0), .dat (.int .i64 0), .dat (.int .i64 0), .nilsl, .nilsl, .dat (.int .i64 0), .dat (.int .i64 0), .dat (.str ⟨#[]⟩), .dat (.int .i64 0), .dat (.str ⟨#[]⟩), .dat (.int .i64 0), .dat (.str ⟨#[]⟩), .dat (.int .i64 0), .dat (.int .i64 0)]), (.o 9, [.dat (.int .i64 node), .dat (.int .i64 slot), .dat (.int .i64 v), .dat (.int .i64 t.thr), .dat (.sl (iRows t.nodes)), .dat (.sl (t.inner.map Trust.enc)), .dat (.int .i64 0), .dat (.int .i64 0), .dat (.str ⟨#[]⟩), .dat (.int .i64 0), .dat (.str ⟨#[]⟩), .dat (.int .i64 0), .dat (.str ⟨#[]⟩), .dat (.int .i64 0), .dat (.int .i64 0)])]) (fun (s1 : Src) => []) (fun (s1 : Src) => [(.e 0, [.dat (.sl (iRows s1.l)), .dat (.int .i64 s1.a)])]) (fun (s1 : Src) => []) (fun (s1 : Src) => (s1.at L)) ?_ ?_
  · skip
    refine zwb ?_
    refine zw2 ?_
    refine zwb ?_
    refine zw2 ?_
    refine zwb ?_
    refine zw2 ?_
    refine zw2 ?_
    refine zsr ?_
    refine zc rfl (zcm (zt rfl) (zi zdc) rfl rfl ?_)
    refine zc rfl (zas (zt rfl) rfl ?_)
    refine zn0 ?_
    refine zwc (zt rfl) (fun h1 => ?_) (fun h1 => ?_)
    · skip
      have g1 := h1
      try simp only [zbz, List.length_map] at g1
      refine zwe ?_
      refine zte ?_
      refine zte ?_
      refine zbk ?_
      refine ztn ?_
      refine zw2 ?_
      refine zsr ?_
      refine zc rfl (zmv (zt rfl) rfl ?_)
      refine zc rfl (zcl zhf (hc (zt rfl) (hc (zi zdc) (hc (zi zdc) hz))) (rs := [.e 0]) (bxs := [_]) zdc (bc rfl bz) (r_Src_Range s5 1 7 (by first | assumption | omega | trivial | (simp; done) | (constructor <;> omega)) (by first | assumption | omega | trivial | (simp; done) | (constructor <;> omega))) rfl rfl rfl (fun d b hd hl => ?_))
      obtain ⟨v3, s6, rfl, rfl, ⟨hv4, hs5⟩⟩ := hd
      refine zc rfl (zmv (zt rfl) rfl ?_)
      refine zc rfl (zbd (ps := [(_, _), (_, _)]) (qs := [(_, _), (_, _)]) (zs := [.dat (.int .i64 0), .dat (.str ⟨#[]⟩)]) (pl := [(0, 1), (1, 1)]) (pc (zt rfl) rfl (pc (zt rfl) rfl pz)) zk zk rfl rfl ?_)
      refine zc rfl (zfa (o := 6) (zt rfl) zk rfl ?_)
      refine zc rfl (zst (n := 1) (zt rfl) (zi zdc) rfl (.inr ⟨by kernel_rfl, rfl⟩) rfl rfl (zbl rfl) ?_)
      refine zc rfl (zfa (o := 7) (zt rfl) zk rfl ?_)
      refine zc rfl (zst (n := 2) (zt rfl) (zt rfl) rfl (.inl zk) rfl rfl (zbl rfl) ?_)
      refine zn0 ?_
      refine awp_le (le_of (ls := [(0, .one (.ref (.e 0) 0)), (8, .one (.ref (.o 8) 0)), (9, .one (.ref (.o 9) 0)), (10, VS v1)]) (bs := [(.e 0, [.dat (.sl (iRows s6.l)), .dat (.int .i64 s6.a)]), (.o 8, [.dat (.int .i64 0), .dat (.int .i64 0), .dat (.int .i64 0), .dat (.int .i64 0), .nilsl, .nilsl, .dat (.int .i64 0), .dat (.int .i64 0), .dat (.str ⟨#[]⟩), .dat (.int .i64 0), .dat (.str ⟨#[]⟩), .dat (.int .i64 0), .dat (.str ⟨#[]⟩), .dat (.int .i64 0), .dat (.int .i64 0)]), (.o 9, [.dat (.int .i64 node), .dat (.int .i64 slot), .dat (.int .i64 v), .dat (.int .i64 t.thr), .dat (.sl (iRows t.nodes)), .dat (.sl (t.inner.map Trust.enc)), .dat (.int .i64 2), .dat (.int .i64 v3), .dat (.str v1), .dat (.int .i64 0), .dat (.str ⟨#[]⟩), .dat (.int .i64 0), .dat (.str ⟨#[]⟩), .dat (.int .i64 0), .dat (.int .i64 0)])]) (ts := []) (sc rfl (sc rfl (sc rfl (sc rfl sz)))) (xc rfl (xc rfl (xc rfl xz))) kz) ?_
      refine zsr ?_
      refine zc rfl (zmv (zt rfl) rfl ?_)
      refine zc rfl (zcl zhf (hc (zt rfl) (hc (zi zdc) (hc (zi zdc) hz))) (rs := [.e 0]) (bxs := [_]) zdc (bc rfl bz) (r_Src_Range s6 1 4 (by first | assumption | omega | trivial | (simp; done) | (constructor <;> omega)) (by first | assumption | omega | trivial | (simp; done) | (constructor <;> omega))) rfl rfl rfl (fun d b hd hl => ?_))
      obtain ⟨v4, s7, rfl, rfl, ⟨hv5, hs6⟩⟩ := hd
      refine zc rfl (zfa (o := 13) (zt rfl) zk rfl ?_)
      refine zc rfl (zst (n := 1) (zt rfl) (zt rfl) rfl (.inr ⟨by kernel_rfl, rfl⟩) rfl rfl (zbl rfl) ?_)
      refine zn0 ?_
      have f := Src.n_lt s7 3
      have f1 := Src.at.nx (show (s7).at _ by assumption) 3
      refine awp_seq_drawT zk [] [] [0, 1, 0, 4, 15, 31, 63] rfl
        (Trace.cons ⟨[(9, _)], [], [], [], [], [.slot 36 _]⟩ (prel (lsc rfl lsz) lbz ltz) (fun zs zp zn => (zgp rfl rfl (zfa (o := 13) (zt zp.1.1) zk rfl rfl))) <|
        Trace.cons ⟨[(36, _)], [(.o 9, _)], [], [], [], [.slot 37 _]⟩ (prel (lsc rfl lsz) (lbc rfl lbz) ltz) (fun zs zp zn => (zgp rfl rfl (zl1 (zt zp.1.1) zk zp.2.1.1 rfl rfl rfl))) <|
        Trace.cons ⟨[(0, _)], [], [], [], [], [.slot 38 _]⟩ (prel (lsc rfl lsz) lbz ltz) (fun zs zp zn => (zgp rfl rfl (zmv (zt zp.1.1) rfl rfl))) <|
        Trace.cons ⟨[(38, _)], [(.e 0, _)], [], [], [], [.box (.e 0) _, .slot 39 _]⟩ (prel (lsc rfl lsz) (lbc rfl lbz) ltz) (fun zs zp zn => (zgp rfl rfl (zcl zhf (hc (zt zp.1.1) (hc (zi zdc) hz)) (rs := [.e 0]) (bxs := [_]) zdc (bc zp.2.1.1 bz) (q_Src_N s7 3 (by first | assumption | omega | trivial | (simp; done) | (constructor <;> omega)) (by first | assumption | omega | trivial | (simp; done) | (constructor <;> omega))) rfl rfl rfl (fun d b hd hl => by obtain ⟨rfl, rfl⟩ := hd; rfl)))) <|
        Trace.cons ⟨[(37, _), (39, _)], [], [], [], [], [.slot 40 _]⟩ (prel (lsc rfl (lsc rfl lsz)) lbz ltz) (fun zs zp zn => (zgp rfl rfl (zar (zt zp.1.1) (zt zp.1.2.1) rfl (ink64 zom zom) rfl rfl))) <|
        Trace.cons ⟨[(9, _)], [], [], [], [], [.slot 41 _]⟩ (prel (lsc rfl lsz) lbz ltz) (fun zs zp zn => (zgp rfl rfl (zfa (o := 14) (zt zp.1.1) zk rfl rfl))) <|
        Trace.cons ⟨[(41, _), (40, _)], [(.o 9, _)], [], [], [], [.box (.o 9) _]⟩ (prel (lsc rfl (lsc rfl lsz)) (lbc rfl lbz) ltz) (fun zs zp zn => (zgp rfl rfl (zst (n := 1) (zt zp.1.1) (zt zp.1.2.1) rfl (.inr ⟨by kernel_rfl, rfl⟩) rfl zp.2.1.1 (zbl rfl) rfl))) <|
        Trace.nil) rfl rfl rfl ?_
      refine awp_le (le_of (ls := [(0, .one (.ref (.e 0) 0)), (8, .one (.ref (.o 8) 0)), (9, .one (.ref (.o 9) 0)), (10, VS v1)]) (bs := [(.e 0, [.dat (.sl (iRows (s7.nx 3).l)), .dat (.int .i64 (s7.nx 3).a)]), (.o 8, [.dat (.int .i64 0), .dat (.int .i64 0), .dat (.int .i64 0), .dat (.int .i64 0), .nilsl, .nilsl, .dat (.int .i64 0), .dat (.int .i64 0), .dat (.str ⟨#[]⟩), .dat (.int .i64 0), .dat (.str ⟨#[]⟩), .dat (.int .i64 0), .dat (.str ⟨#[]⟩), .dat (.int .i64 0), .dat (.int .i64 0)]), (.o 9, [.dat (.int .i64 node), .dat (.int .i64 slot), .dat (.int .i64 v), .dat (.int .i64 t.thr), .dat (.sl (iRows t.nodes)), .dat (.sl (t.inner.map Trust.enc)), .dat (.int .i64 2), .dat (.int .i64 v3), .dat (.str v1), .dat (.int .i64 0), .dat (.str ⟨#[]⟩), .dat (.int .i64 0), .dat (.str ⟨#[]⟩), .dat (.int .i64 v4), .dat (.int .i64 (v4 + (s7.n 3)))])]) (ts := []) (sc rfl (sc rfl (sc rfl (sc rfl sz)))) (xc rfl (xc rfl (xc rfl xz))) kz) ?_
      have f2 := Src.n_lt (s7.nx 3) 3
      have f3 := Src.at.nx (show ((s7.nx 3)).at _ by assumption) 3
      refine awp_drawT zk [] [] [0, 1, 0, 4, 15, 0, 63, 127, 255] rfl
        (Trace.cons ⟨[(9, _)], [], [], [], [], [.slot 42 _]⟩ (prel (lsc rfl lsz) lbz ltz) (fun zs zp zn => (zgp rfl rfl (zfa (o := 14) (zt zp.1.1) zk rfl rfl))) <|
        Trace.cons ⟨[(42, _)], [(.o 9, _)], [], [], [], [.slot 43 _]⟩ (prel (lsc rfl lsz) (lbc rfl lbz) ltz) (fun zs zp zn => (zgp rfl rfl (zl1 (zt zp.1.1) zk zp.2.1.1 rfl rfl rfl))) <|
        Trace.cons ⟨[(0, _)], [], [], [], [], [.slot 44 _]⟩ (prel (lsc rfl lsz) lbz ltz) (fun zs zp zn => (zgp rfl rfl (zmv (zt zp.1.1) rfl rfl))) <|
        Trace.cons ⟨[(44, _)], [(.e 0, _)], [], [], [], [.box (.e 0) _, .slot 45 _]⟩ (prel (lsc rfl lsz) (lbc rfl lbz) ltz) (fun zs zp zn => (zgp rfl rfl (zcl zhf (hc (zt zp.1.1) (hc (zi zdc) hz)) (rs := [.e 0]) (bxs := [_]) zdc (bc zp.2.1.1 bz) (q_Src_N (s7.nx 3) 3 (by first | assumption | omega | trivial | (simp; done) | (constructor <;> omega)) (by first | assumption | omega | trivial | (simp; done) | (constructor <;> omega))) rfl rfl rfl (fun d b hd hl => by obtain ⟨rfl, rfl⟩ := hd; rfl)))) <|
        Trace.cons ⟨[(43, _), (45, _)], [], [], [], [], [.slot 46 _]⟩ (prel (lsc rfl (lsc rfl lsz)) lbz ltz) (fun zs zp zn => (zgp rfl rfl (zar (zt zp.1.1) (zt zp.1.2.1) rfl (ink64 zom zom) rfl rfl))) <|
        Trace.cons ⟨[(10, _)], [], [], [], [], [.slot 47 _]⟩ (prel (lsc rfl lsz) lbz ltz) (fun zs zp zn => (zgp rfl rfl (zmv (zt zp.1.1) rfl rfl))) <|
        Trace.cons ⟨[(46, _), (47, _)], [], [], [], [], [.slot 48 _]⟩ (prel (lsc rfl (lsc rfl lsz)) lbz ltz) (fun zs zp zn => (zgp rfl rfl (zbd (ps := [(_, _), (_, _)]) (qs := [(_, _), (_, _)]) (zs := [.dat (.int .i64 0), .dat (.str ⟨#[]⟩)]) (pl := [(0, 1), (1, 1)]) (pc (zt zp.1.1) rfl (pc (zt zp.1.2.1) rfl pz)) zk zk rfl rfl rfl))) <|
        Trace.cons ⟨[(9, _)], [], [], [], [], [.slot 49 _]⟩ (prel (lsc rfl lsz) lbz ltz) (fun zs zp zn => (zgp rfl rfl (zfa (o := 9) (zt zp.1.1) zk rfl rfl))) <|
        Trace.cons ⟨[(49, _), (48, _)], [(.o 9, _)], [], [], [], [.box (.o 9) _]⟩ (prel (lsc rfl (lsc rfl lsz)) (lbc rfl lbz) ltz) (fun zs zp zn => (zgp rfl rfl (zst (n := 2) (zt zp.1.1) (zt zp.1.2.1) rfl (.inl zk) rfl zp.2.1.1 (zbl rfl) rfl))) <|
        Trace.nil) rfl rfl rfl ?_
      refine ztn ?_
      refine zwe ?_
      refine blk_other rfl ?_
      refine zte ?_
      refine blk_other rfl ?_
      refine zte ?_
      refine zbk ?_
      refine ztn ?_
      refine zsr ?_
      refine zc rfl (zld (n := 15) (zt rfl) zk rfl rfl rfl rfl ?_)
      refine zc rfl (zst (n := 15) (zt rfl) (zt rfl) rfl (.inl zk) rfl rfl (zbl rfl) ?_)
      refine zn0 ?_
      refine awp_le (le_of (ls := [(8, .one (.ref (.o 8) 0))]) (bs := [(.e 0, [.dat (.sl (iRows ((s7.nx 3).nx 3).l)), .dat (.int .i64 ((s7.nx 3).nx 3).a)]), (.o 8, [.dat (.int .i64 node), .dat (.int .i64 slot), .dat (.int .i64 v), .dat (.int .i64 t.thr), .dat (.sl (iRows t.nodes)), .dat (.sl (t.inner.map Trust.enc)), .dat (.int .i64 2), .dat (.int .i64 v3), .dat (.str v1), .dat (.int .i64 ((v4 + (s7.n 3)) + ((s7.nx 3).n 3))), .dat (.str v1), .dat (.int .i64 0), .dat (.str ⟨#[]⟩), .dat (.int .i64 v4), .dat (.int .i64 (v4 + (s7.n 3)))])]) (ts := []) (sc rfl sz) (xc rfl (xc rfl xz)) kz) ?_
      refine zwr ?_
      refine zpr [_] (res1 (ri_agg (n := 15) rfl rfl zk rfl)) (show _ = 1 from rfl) (l1 rfl) ?_
      refine ⟨(Env.mk node slot v t 2 (Ballot.mk v3 v1) (Ballot.mk ((v4 + (s7.n 3)) + ((s7.nx 3).n 3)) v1) (Ballot.mk 0 ⟨#[]⟩) v4 (v4 + (s7.n 3))), ((s7.nx 3).nx 3), rfl, rfl, ?_⟩
      exact ⟨⟨rfl, rfl, ⟨by dsimp only; omega, by dsimp only; omega⟩, by assumption, fine_commit hnode hslot ⟨by omega, by omega⟩ (TrP.fine (by assumption) hn.2) ⟨by omega, by omega⟩ (by assumption) ⟨by omega, by omega⟩ ⟨by omega, by omega⟩⟩, by assumption⟩
    · skip
      have g1 := h1
      try simp only [zbz, List.length_map] at g1
      refine zws ?_
      refine ztn ?_
      refine zsr ?_
      refine zc rfl (zcm (zt rfl) (zi zdc) rfl rfl ?_)
      refine zc rfl (zas (zt rfl) rfl ?_)
      refine zn0 ?_
      refine zwc (zt rfl) (fun h2 => ?_) (fun h2 => ?_)
      · skip
        have g2 := h2
        try simp only [zbz, List.length_map] at g2
        refine zwe ?_
        refine zte ?_
        refine blk_other rfl ?_
        refine zte ?_
        refine zbk ?_
        refine ztn ?_
        refine zsr ?_
        refine zc rfl (zmv (zt rfl) rfl ?_)
        refine zc rfl (zcl zhf (hc (zt rfl) (hc (zi zdc) hz)) (rs := [.e 0]) (bxs := [_]) zdc (bc rfl bz) (r_Src_N s5 3 (by first | assumption | omega | trivial | (simp; done) | (constructor <;> omega)) (by first | assumption | omega | trivial | (simp; done) | (constructor <;> omega))) rfl rfl rfl (fun d b hd hl => ?_))
        obtain ⟨v3, s6, rfl, rfl, ⟨hv4, hs5⟩⟩ := hd
        refine zc rfl (zcm (zt rfl) (zi zdc) rfl rfl ?_)
        refine zn0 ?_
        refine zwc (zt rfl) (fun h3 => ?_) (fun h3 => ?_)
        · skip
          have g3 := h3
          try simp only [zbz, List.length_map] at g3
          refine zsr ?_
          refine zc rfl (zmv (zt rfl) rfl ?_)
          refine zc rfl (zcl zhf (hc (zt rfl) (hc (zi zdc) (hc (zi zdc) hz))) (rs := [.e 0]) (bxs := [_]) zdc (bc rfl bz) (r_Src_Range s6 1 7 (by first | assumption | omega | trivial | (simp; done) | (constructor <;> omega)) (by first | assumption | omega | trivial | (simp; done) | (constructor <;> omega))) rfl rfl rfl (fun d b hd hl => ?_))
          obtain ⟨v4, s7, rfl, rfl, ⟨hv5, hs6⟩⟩ := hd
          refine zc rfl (zmv (zt rfl) rfl ?_)
          refine zc rfl (zbd (ps := [(_, _), (_, _)]) (qs := [(_, _), (_, _)]) (zs := [.dat (.int .i64 0), .dat (.str ⟨#[]⟩)]) (pl := [(0, 1), (1, 1)]) (pc (zt rfl) rfl (pc (zt rfl) rfl pz)) zk zk rfl rfl ?_)
          refine zc rfl (zfa (o := 6) (zt rfl) zk rfl ?_)
          refine zc rfl (zst (n := 1) (zt rfl) (zi zdc) rfl (.inr ⟨by kernel_rfl, rfl⟩) rfl rfl (zbl rfl) ?_)
          refine zc rfl (zfa (o := 7) (zt rfl) zk rfl ?_)
          refine zc rfl (zst (n := 2) (zt rfl) (zt rfl) rfl (.inl zk) rfl rfl (zbl rfl) ?_)
          refine zn0 ?_
          refine zsr ?_
          refine zc rfl (zmv (zt rfl) rfl ?_)
          refine zc rfl (zcl zhf (hc (zt rfl) (hc (zi zdc) (hc (zi zdc) hz))) (rs := [.e 0]) (bxs := [_]) zdc (bc rfl bz) (r_Src_Range s7 1 4 (by first | assumption | omega | trivial | (simp; done) | (constructor <;> omega)) (by first | assumption | omega | trivial | (simp; done) | (constructor <;> omega))) rfl rfl rfl (fun d b hd hl => ?_))
          obtain ⟨v5, s8, rfl, rfl, ⟨hv6, hs7⟩⟩ := hd
          refine zc rfl (zfa (o := 13) (zt rfl) zk rfl ?_)
          refine zc rfl (zst (n := 1) (zt rfl) (zt rfl) rfl (.inr ⟨by kernel_rfl, rfl⟩) rfl rfl (zbl rfl) ?_)
          refine zn0 ?_
          refine awp_le (le_of (ls := [(0, .one (.ref (.e 0) 0)), (8, .one (.ref (.o 8) 0)), (9, .one (.ref (.o 9) 0))]) (bs := [(.e 0, [.dat (.sl (iRows s8.l)), .dat (.int .i64 s8.a)]), (.o 8, [.dat (.int .i64 0), .dat (.int .i64 0), .dat (.int .i64 0), .dat (.int .i64 0), .nilsl, .nilsl, .dat (.int .i64 0), .dat (.int .i64 0), .dat (.str ⟨#[]⟩), .dat (.int .i64 0), .dat (.str ⟨#[]⟩), .dat (.int .i64 0), .dat (.str ⟨#[]⟩), .dat (.int .i64 0), .dat (.int .i64 0)]), (.o 9, [.dat (.int .i64 node), .dat (.int .i64 slot), .dat (.int .i64 v), .dat (.int .i64 t.thr), .dat (.sl (iRows t.nodes)), .dat (.sl (t.inner.map Trust.enc)), .dat (.int .i64 3), .dat (.int .i64 v4), .dat (.str v1), .dat (.int .i64 0), .dat (.str ⟨#[]⟩), .dat (.int .i64 0), .dat (.str ⟨#[]⟩), .dat (.int .i64 v5), .dat (.int .i64 0)])]) (ts := []) (sc rfl (sc rfl (sc rfl sz))) (xc rfl (xc rfl (xc rfl xz))) kz) ?_
          have f := Src.n_lt s8 3
          have f1 := Src.at.nx (show (s8).at _ by assumption) 3
          refine awp_seq_drawT zk [] [] [0, 1, 0, 4, 15, 31, 63] rfl
            (Trace.cons ⟨[(9, _)], [], [], [], [], [.slot 62 _]⟩ (prel (lsc rfl lsz) lbz ltz) (fun zs zp zn => (zgp rfl rfl (zfa (o := 13) (zt zp.1.1) zk rfl rfl))) <|
            Trace.cons ⟨[(62, _)], [(.o 9, _)], [], [], [], [.slot 63 _]⟩ (prel (lsc rfl lsz) (lbc rfl lbz) ltz) (fun zs zp zn => (zgp rfl rfl (zl1 (zt zp.1.1) zk zp.2.1.1 rfl rfl rfl))) <|
            Trace.cons ⟨[(0, _)], [], [], [], [], [.slot 64 _]⟩ (prel (lsc rfl lsz) lbz ltz) (fun zs zp zn => (zgp rfl rfl (zmv (zt zp.1.1) rfl rfl))) <|
            Trace.cons ⟨[(64, _)], [(.e 0, _)], [], [], [], [.box (.e 0) _, .slot 65 _]⟩ (prel (lsc rfl lsz) (lbc rfl lbz) ltz) (fun zs zp zn => (zgp rfl rfl (zcl zhf (hc (zt zp.1.1) (hc (zi zdc) hz)) (rs := [.e 0]) (bxs := [_]) zdc (bc zp.2.1.1 bz) (q_Src_N s8 3 (by first | assumption | omega | trivial | (simp; done) | (constructor <;> omega)) (by first | assumption | omega | trivial | (simp; done) | (constructor <;> omega))) rfl rfl rfl (fun d b hd hl => by obtain ⟨rfl, rfl⟩ := hd; rfl)))) <|
            Trace.cons ⟨[(63, _), (65, _)], [], [], [], [], [.slot 66 _]⟩ (prel (lsc rfl (lsc rfl lsz)) lbz ltz) (fun zs zp zn => (zgp rfl rfl (zar (zt zp.1.1) (zt zp.1.2.1) rfl (ink64 zom zom) rfl rfl))) <|
            Trace.cons ⟨[(9, _)], [], [], [], [], [.slot 67 _]⟩ (prel (lsc rfl lsz) lbz ltz) (fun zs zp zn => (zgp rfl rfl (zfa (o := 14) (zt zp.1.1) zk rfl rfl))) <|
            Trace.cons ⟨[(67, _), (66, _)], [(.o 9, _)], [], [], [], [.box (.o 9) _]⟩ (prel (lsc rfl (lsc rfl lsz)) (lbc rfl lbz) ltz) (fun zs zp zn => (zgp rfl rfl (zst (n := 1) (zt zp.1.1) (zt zp.1.2.1) rfl (.inr ⟨by kernel_rfl, rfl⟩) rfl zp.2.1.1 (zbl rfl) rfl))) <|
            Trace.nil) rfl rfl rfl ?_
          refine awp_le (le_of (ls := [(8, .one (.ref (.o 8) 0)), (9, .one (.ref (.o 9) 0))]) (bs := [(.e 0, [.dat (.sl (iRows (s8.nx 3).l)), .dat (.int .i64 (s8.nx 3).a)]), (.o 8, [.dat (.int .i64 0), .dat (.int .i64 0), .dat (.int .i64 0), .dat (.int .i64 0), .nilsl, .nilsl, .dat (.int .i64 0), .dat (.int .i64 0), .dat (.str ⟨#[]⟩), .dat (.int .i64 0), .dat (.str ⟨#[]⟩), .dat (.int .i64 0), .dat (.str ⟨#[]⟩), .dat (.int .i64 0), .dat (.int .i64 0)]), (.o 9, [.dat (.int .i64 node), .dat (.int .i64 slot), .dat (.int .i64 v), .dat (.int .i64 t.thr), .dat (.sl (iRows t.nodes)), .dat (.sl (t.inner.map Trust.enc)), .dat (.int .i64 3), .dat (.int .i64 v4), .dat (.str v1), .dat (.int .i64 0), .dat (.str ⟨#[]⟩), .dat (.int .i64 0), .dat (.str ⟨#[]⟩), .dat (.int .i64 v5), .dat (.int .i64 (v5 + (s8.n 3)))])]) (ts := []) (sc rfl (sc rfl sz)) (xc rfl (xc rfl (xc rfl xz))) kz) ?_
          refine zwe ?_
          refine blk_other rfl ?_
          refine zte ?_
          refine zbk ?_
          refine ztn ?_
          refine zsr ?_
          refine zc rfl (zld (n := 15) (zt rfl) zk rfl rfl rfl rfl ?_)
          refine zc rfl (zst (n := 15) (zt rfl) (zt rfl) rfl (.inl zk) rfl rfl (zbl rfl) ?_)
          refine zn0 ?_
          refine zwr ?_
          refine zpr [_] (res1 (ri_agg (n := 15) rfl rfl zk rfl)) (show _ = 1 from rfl) (l1 rfl) ?_
          refine ⟨(Env.mk node slot v t 3 (Ballot.mk v4 v1) (Ballot.mk 0 ⟨#[]⟩) (Ballot.mk 0 ⟨#[]⟩) v5 (v5 + (s8.n 3))), (s8.nx 3), rfl, rfl, ?_⟩
          exact ⟨⟨rfl, rfl, ⟨by dsimp only; omega, by dsimp only; omega⟩, by assumption, fine_external hnode hslot ⟨by omega, by omega⟩ (TrP.fine (by assumption) hn.2) ⟨by omega, by omega⟩ (by assumption) ⟨by omega, by omega⟩ (by omega)⟩, by assumption⟩
        · skip
          have g3 := h3
          try simp only [zbz, List.length_map] at g3
          refine zws ?_
          refine zbn ?_
          refine ztn ?_
          refine ⟨s6, ?_, (le_of (sc rfl (sc rfl (sc rfl (sc rfl sz)))) (xc rfl (xc rfl (xc rfl xz))) kz)⟩
          · exact zen
      · skip
        have g2 := h2
        try simp only [zbz, List.length_map] at g2
        refine zws ?_
        refine ztn ?_
        refine zwe ?_
        refine blk_other rfl ?_
        refine zte ?_
        refine blk_other rfl ?_
        refine zte ?_
        refine zbk ?_
        refine ztn ?_
        refine ⟨s5, ?_, (le_of (sc rfl (sc rfl (sc rfl (sc rfl sz)))) (xc rfl (xc rfl (xc rfl xz))) kz)⟩
        · exact zen
  · intro s1 hs
    refine zw2 ?_
    refine zsr ?_
    refine zc rfl (zmv (zt rfl) rfl ?_)
    refine zc rfl (zcl zhf (hc (zt rfl) (hc (zi zdc) (hc (zi zdc) hz))) (rs := [.e 0]) (bxs := [_]) zdc (bc rfl bz) (r_Src_Range s1 1 7 (by first | assumption | omega | trivial | (simp; done) | (constructor <;> omega)) (by first | assumption | omega | trivial | (simp; done) | (constructor <;> omega))) rfl rfl rfl (fun d b hd hl => ?_))
    obtain ⟨v3, s6, rfl, rfl, ⟨hv4, hs5⟩⟩ := hd
    refine zc rfl (zmv (zt rfl) rfl ?_)
    refine zc rfl (zbd (ps := [(_, _), (_, _)]) (qs := [(_, _), (_, _)]) (zs := [.dat (.int .i64 0), .dat (.str ⟨#[]⟩)]) (pl := [(0, 1), (1, 1)]) (pc (zt rfl) rfl (pc (zt rfl) rfl pz)) zk zk rfl rfl ?_)
    refine zc rfl (zfa (o := 6) (zt rfl) zk rfl ?_)
    refine zc rfl (zst (n := 1) (zt rfl) (zi zdc) rfl (.inr ⟨by kernel_rfl, rfl⟩) rfl rfl (zbl rfl) ?_)
    refine zc rfl (zfa (o := 7) (zt rfl) zk rfl ?_)
    refine zc rfl (zst (n := 2) (zt rfl) (zt rfl) rfl (.inl zk) rfl rfl (zbl rfl) ?_)
    refine zn0 ?_
    refine awp_join5 (fs := [(0, .one (.ref (.e 0) 0)), (8, .one (.ref (.o 8) 0)), (9, .one (.ref (.o 9) 0))]) (fb := [(.o 8, [.dat (.int .i64 0), .dat (.int .i64 0), .dat (.int .i64 0), .dat (.int .i64 0), .nilsl, .nilsl, .dat (.int .i64 0), .dat (.int .i64 0), .dat (.str ⟨#[]⟩), .dat (.int .i64 0), .dat (.str ⟨#[]⟩), .dat (.int .i64 0), .dat (.str ⟨#[]⟩), .dat (.int .i64 0), .dat (.int .i64 0)])]) (fun (s7 : Src) (pc : Int) (pv : ByteArray) (qc : Int) (qv : ByteArray) => []) (fun (s7 : Src) (pc : Int) (pv : ByteArray) (qc : Int) (qv : ByteArray) => [(.e 0, [.dat (.sl (iRows s7.l)), .dat (.int .i64 s7.a)]), (.o 9, [.dat (.int .i64 node), .dat (.int .i64 slot), .dat (.int .i64 v), .dat (.int .i64 t.thr), .dat (.sl (iRows t.nodes)), .dat (.sl (t.inner.map Trust.enc)), .dat (.int .i64 1), .dat (.int .i64 v3), .dat (.str v1), .dat (.int .i64 pc), .dat (.str pv), .dat (.int .i64 qc), .dat (.str qv), .dat (.int .i64 0), .dat (.int .i64 0)])]) (fun (s7 : Src) (pc : Int) (pv : ByteArray) (qc : Int) (qv : ByteArray) => []) (fun (s7 : Src) (pc : Int) (pv : ByteArray) (qc : Int) (qv : ByteArray) => (s7.at L) ∧ ((Ballot.mk pc pv = ⟨0, ⟨#[]⟩⟩ ∨ LowP ⟨pc, pv⟩))) ?_ ?_
    · skip
      refine zsr ?_
      refine zc rfl (zmv (zt rfl) rfl ?_)
      refine zc rfl (zcl zhf (hc (zt rfl) (hc (zi zdc) hz)) (rs := [.e 0]) (bxs := [_]) zdc (bc rfl bz) (r_Src_N s6 3 (by first | assumption | omega | trivial | (simp; done) | (constructor <;> omega)) (by first | assumption | omega | trivial | (simp; done) | (constructor <;> omega))) rfl rfl rfl (fun d b hd hl => ?_))
      obtain ⟨v4, s7, rfl, rfl, ⟨hv5, hs6⟩⟩ := hd
      refine zc rfl (zcm (zt rfl) (zi zdc) rfl rfl ?_)
      refine zn0 ?_
      refine zwc (zt rfl) (fun h4 => ?_) (fun h4 => ?_)
      · skip
        have g4 := h4
        try simp only [zbz, List.length_map] at g4
        refine zsr ?_
        refine zc rfl (zmv (zt rfl) rfl ?_)
        refine zc rfl (zcl zhf (hc (zt rfl) hz) (rs := [.e 0]) (bxs := [_]) zdc (bc rfl bz) (r_Src_Low s7 (by first | assumption | omega | trivial | (simp; done) | (constructor <;> omega))) rfl rfl rfl (fun d b hd hl => ?_))
        obtain ⟨b, s8, rfl, rfl, ⟨hv6, hs7⟩⟩ := hd
        refine zc rfl (zfa (o := 9) (zt rfl) zk rfl ?_)
        refine zc rfl (zst (n := 2) (zt rfl) (zt rfl) rfl (.inl zk) rfl rfl (zbl rfl) ?_)
        refine zn0 ?_
        refine awp_le (le_of (ls := [(0, .one (.ref (.e 0) 0)), (8, .one (.ref (.o 8) 0)), (9, .one (.ref (.o 9) 0))]) (bs := [(.e 0, [.dat (.sl (iRows s8.l)), .dat (.int .i64 s8.a)]), (.o 8, [.dat (.int .i64 0), .dat (.int .i64 0), .dat (.int .i64 0), .dat (.int .i64 0), .nilsl, .nilsl, .dat (.int .i64 0), .dat (.int .i64 0), .dat (.str ⟨#[]⟩), .dat (.int .i64 0), .dat (.str ⟨#[]⟩), .dat (.int .i64 0), .dat (.str ⟨#[]⟩), .dat (.int .i64 0), .dat (.int .i64 0)]), (.o 9, [.dat (.int .i64 node), .dat (.int .i64 slot), .dat (.int .i64 v), .dat (.int .i64 t.thr), .dat (.sl (iRows t.nodes)), .dat (.sl (t.inner.map Trust.enc)), .dat (.int .i64 1), .dat (.int .i64 v3), .dat (.str v1), .dat (.int .i64 b.c), .dat (.str b.v), .dat (.int .i64 0), .dat (.str ⟨#[]⟩), .dat (.int .i64 0), .dat (.int .i64 0)])]) (ts := []) (sc rfl (sc rfl (sc rfl sz))) (xc rfl (xc rfl (xc rfl xz))) kz) ?_
        refine zsr ?_
        refine zc rfl (zmv (zt rfl) rfl ?_)
        refine zc rfl (zcl zhf (hc (zt rfl) (hc (zi zdc) hz)) (rs := [.e 0]) (bxs := [_]) zdc (bc rfl bz) (r_Src_N s8 2 (by first | assumption | omega | trivial | (simp; done) | (constructor <;> omega)) (by first | assumption | omega | trivial | (simp; done) | (constructor <;> omega))) rfl rfl rfl (fun d b hd hl => ?_))
        obtain ⟨v5, s9, rfl, rfl, ⟨hv7, hs8⟩⟩ := hd
        refine zc rfl (zcm (zt rfl) (zi zdc) rfl rfl ?_)
        refine zn0 ?_
        refine zwc (zt rfl) (fun h5 => ?_) (fun h5 => ?_)
        · skip
          have g5 := h5
          try simp only [zbz, List.length_map] at g5
          refine zre ?_
          refine zc rfl (zmv (zt rfl) rfl ?_)
          refine zc rfl (zcl zhf (hc (zt rfl) hz) (rs := [.e 0]) (bxs := [_]) zdc (bc rfl bz) (r_Src_Low s9 (by first | assumption | omega | trivial | (simp; done) | (constructor <;> omega))) rfl rfl rfl (fun d b hd hl => ?_))
          obtain ⟨b1, s10, rfl, rfl, ⟨hv8, hs9⟩⟩ := hd
          refine zc rfl (zfa (o := 11) (zt rfl) zk rfl ?_)
          refine zc rfl (zst (n := 2) (zt rfl) (zt rfl) rfl (.inl zk) rfl rfl (zbl rfl) ?_)
          refine zn0 ?_
          refine ztn ?_
          refine ⟨s10, b.c, b.v, b1.c, b1.v, ?_, (le_of (sc rfl (sc rfl (sc rfl sz))) (xc rfl (xc rfl (xc rfl xz))) kz)⟩
          · refine ⟨?_, ?_⟩
            · exact zen
            · first | exact .inl rfl | exact .inr (by assumption)
        · skip
          have g5 := h5
          try simp only [zbz, List.length_map] at g5
          refine zws ?_
          refine ztn ?_
          refine ⟨s9, b.c, b.v, 0, ⟨#[]⟩, ?_, (le_of (sc rfl (sc rfl (sc rfl sz))) (xc rfl (xc rfl (xc rfl xz))) kz)⟩
          · refine ⟨?_, ?_⟩
            · exact zen
            · first | exact .inl rfl | exact .inr (by assumption)
      · skip
        have g4 := h4
        try simp only [zbz, List.length_map] at g4
        refine zws ?_
        refine ztn ?_
        refine ⟨s7, 0, ⟨#[]⟩, 0, ⟨#[]⟩, ?_, (le_of (sc rfl (sc rfl (sc rfl sz))) (xc rfl (xc rfl (xc rfl xz))) kz)⟩
        · refine ⟨?_, ?_⟩
          · exact zen
          · first | exact .inl rfl | exact .inr (by assumption)
    · intro s7 pc pv qc qv ⟨hs, hp⟩
      refine zsr ?_
      refine zc rfl (zmv (zt rfl) rfl ?_)
      refine zc rfl (zfa (o := 7) (zt rfl) zk rfl ?_)
      refine zc rfl (zfa (o := 0) (zt rfl) zk rfl ?_)
      refine zc rfl (zl1 (zt rfl) zk rfl rfl rfl ?_)
      refine zc rfl (zar (zt rfl) (zi zdc) rfl (ink64 zom zom) rfl ?_)
      refine zc rfl (zcl zhf (hc (zt rfl) (hc (zt rfl) hz)) (rs := [.e 0]) (bxs := [_]) zdc (bc rfl bz) (r_Src_N s7 (v3 + 1) (by first | assumption | omega | trivial | (simp; done) | (constructor <;> omega)) (by first | assumption | omega | trivial | (simp; done) | (constructor <;> omega))) rfl rfl rfl (fun d b hd hl => ?_))
      obtain ⟨v4, s8, rfl, rfl, ⟨hv5, hs6⟩⟩ := hd
      refine zc rfl (zfa (o := 14) (zt rfl) zk rfl ?_)
      refine zc rfl (zst (n := 1) (zt rfl) (zt rfl) rfl (.inr ⟨by kernel_rfl, rfl⟩) rfl rfl (zbl rfl) ?_)
      refine zn0 ?_
      refine zsr ?_
      refine zc rfl (zmv (zt rfl) rfl ?_)
      refine zc rfl (zfa (o := 14) (zt rfl) zk rfl ?_)
      refine zc rfl (zl1 (zt rfl) zk rfl rfl rfl ?_)
      refine zc rfl (zar (zt rfl) (zi zdc) rfl (ink64 zom zom) rfl ?_)
      refine zc rfl (zcl zhf (hc (zt rfl) (hc (zt rfl) hz)) (rs := [.e 0]) (bxs := [_]) zdc (bc rfl bz) (r_Src_N s8 (v4 + 1) (by first | assumption | omega | trivial | (simp; done) | (constructor <;> omega)) (by first | assumption | omega | trivial | (simp; done) | (constructor <;> omega))) rfl rfl rfl (fun d b hd hl => ?_))
      obtain ⟨v5, s9, rfl, rfl, ⟨hv6, hs7⟩⟩ := hd
      refine zc rfl (zfa (o := 13) (zt rfl) zk rfl ?_)
      refine zc rfl (zst (n := 1) (zt rfl) (zt rfl) rfl (.inr ⟨by kernel_rfl, rfl⟩) rfl rfl (zbl rfl) ?_)
      refine zn0 ?_
      refine awp_le (le_of (ls := [(8, .one (.ref (.o 8) 0)), (9, .one (.ref (.o 9) 0))]) (bs := [(.e 0, [.dat (.sl (iRows s9.l)), .dat (.int .i64 s9.a)]), (.o 8, [.dat (.int .i64 0), .dat (.int .i64 0), .dat (.int .i64 0), .dat (.int .i64 0), .nilsl, .nilsl, .dat (.int .i64 0), .dat (.int .i64 0), .dat (.str ⟨#[]⟩), .dat (.int .i64 0), .dat (.str ⟨#[]⟩), .dat (.int .i64 0), .dat (.str ⟨#[]⟩), .dat (.int .i64 0), .dat (.int .i64 0)]), (.o 9, [.dat (.int .i64 node), .dat (.int .i64 slot), .dat (.int .i64 v), .dat (.int .i64 t.thr), .dat (.sl (iRows t.nodes)), .dat (.sl (t.inner.map Trust.enc)), .dat (.int .i64 1), .dat (.int .i64 v3), .dat (.str v1), .dat (.int .i64 pc), .dat (.str pv), .dat (.int .i64 qc), .dat (.str qv), .dat (.int .i64 v5), .dat (.int .i64 v4)])]) (ts := []) (sc rfl (sc rfl sz)) (xc rfl (xc rfl (xc rfl xz))) kz) ?_
      refine zw2 ?_
      refine zsr ?_
      refine zc rfl (zld (n := 15) (zt rfl) zk rfl rfl rfl rfl ?_)
      refine zc rfl (zcl zhf (hc (zt rfl) hz) (rs := []) (bxs := []) zdc bz (c_trustquorumref24_Valid (Env.mk node slot v t 1 (Ballot.mk v3 v1) (Ballot.mk pc pv) (Ballot.mk qc qv) v5 v4) (TrP.ok (by assumption) (by omega))) rfl rfl rfl (fun d b hd hl => ?_))
      obtain ⟨rfl, rfl⟩ := hd
      refine zc rfl (op_not (zt rfl) rfl ?_)
      refine zn0 ?_
      refine zwc (zt rfl) (fun h6 => ?_) (fun h6 => ?_)
      · skip
        have g6 := h6
        try simp only [zbz, List.length_map] at g6
        refine zre ?_
        refine zc rfl (zfa (o := 13) (zt rfl) zk rfl ?_)
        refine zc rfl (zst (n := 1) (zt rfl) (zi zdc) rfl (.inr ⟨by kernel_rfl, rfl⟩) rfl rfl (zbl rfl) ?_)
        refine zn0 ?_
        refine ztn ?_
        refine zw2 ?_
        refine zsr ?_
        refine zc rfl (zld (n := 15) (zt rfl) zk rfl rfl rfl rfl ?_)
        refine zc rfl (zcl zhf (hc (zt rfl) hz) (rs := []) (bxs := []) zdc bz (c_trustquorumref24_Valid (Env.mk node slot v t 1 (Ballot.mk v3 v1) (Ballot.mk pc pv) (Ballot.mk qc qv) 0 v4) (TrP.ok (by assumption) (by omega))) rfl rfl rfl (fun d b hd hl => ?_))
        obtain ⟨rfl, rfl⟩ := hd
        refine zc rfl (op_not (zt rfl) rfl ?_)
        refine zn0 ?_
        refine zwc (zt rfl) (fun h7 => ?_) (fun h7 => ?_)
        · skip
          have g7 := h7
          try simp only [zbz, List.length_map] at g7
          refine zre ?_
          refine zc rfl (zfa (o := 14) (zt rfl) zk rfl ?_)
          refine zc rfl (zst (n := 1) (zt rfl) (zi zdc) rfl (.inr ⟨by kernel_rfl, rfl⟩) rfl rfl (zbl rfl) ?_)
          refine zn0 ?_
          refine ztn ?_
          refine zsr ?_
          refine zc rfl (zld (n := 15) (zt rfl) zk rfl rfl rfl rfl ?_)
          refine zc rfl (zcl zhf (hc (zt rfl) hz) (rs := []) (bxs := []) zdc bz (c_trustquorumref24_Valid (Env.mk node slot v t 1 (Ballot.mk v3 v1) (Ballot.mk pc pv) (Ballot.mk qc qv) 0 0) (TrP.ok (by assumption) (by omega))) rfl rfl rfl (fun d b hd hl => ?_))
          obtain ⟨rfl, rfl⟩ := hd
          refine zc rfl (op_not (zt rfl) rfl ?_)
          refine zn0 ?_
          refine zwc (zt rfl) (fun h8 => ?_) (fun h8 => ?_)
          · skip
            have g8 := h8
            try simp only [zbz, List.length_map] at g8
            refine zre ?_
            refine zc rfl (zbd (ps := []) (qs := []) (zs := [.dat (.int .i64 0), .dat (.str ⟨#[]⟩)]) (pl := [(0, 1), (1, 1)]) pz zk zk rfl rfl ?_)
            refine zc rfl (zfa (o := 11) (zt rfl) zk rfl ?_)
            refine zc rfl (zst (n := 2) (zt rfl) (zt rfl) rfl (.inl zk) rfl rfl (zbl rfl) ?_)
            refine zn0 ?_
            refine ztn ?_
            refine zwe ?_
            refine zbk ?_
            refine ztn ?_
            refine zsr ?_
            refine zc rfl (zld (n := 15) (zt rfl) zk rfl rfl rfl rfl ?_)
            refine zc rfl (zst (n := 15) (zt rfl) (zt rfl) rfl (.inl zk) rfl rfl (zbl rfl) ?_)
            refine zn0 ?_
            refine awp_le (le_of (ls := [(8, .one (.ref (.o 8) 0))]) (bs := [(.e 0, [.dat (.sl (iRows s9.l)), .dat (.int .i64 s9.a)]), (.o 8, [.dat (.int .i64 node), .dat (.int .i64 slot), .dat (.int .i64 v), .dat (.int .i64 t.thr), .dat (.sl (iRows t.nodes)), .dat (.sl (t.inner.map Trust.enc)), .dat (.int .i64 1), .dat (.int .i64 v3), .dat (.str v1), .dat (.int .i64 pc), .dat (.str pv), .dat (.int .i64 0), .dat (.str ⟨#[]⟩), .dat (.int .i64 0), .dat (.int .i64 0)])]) (ts := []) (sc rfl sz) (xc rfl (xc rfl xz)) kz) ?_
            refine zwr ?_
            refine zpr [_] (res1 (ri_agg (n := 15) rfl rfl zk rfl)) (show _ = 1 from rfl) (l1 rfl) ?_
            refine ⟨(Env.mk node slot v t 1 (Ballot.mk v3 v1) (Ballot.mk pc pv) (Ballot.mk 0 ⟨#[]⟩) 0 0), s9, rfl, rfl, ?_⟩
            first
              | (have h := h7.symm.trans h6; cases h; done)
              | (have h := h8.symm.trans h7; cases h; done)
              | (have h := ok_of h8; exact ⟨⟨rfl, rfl, ⟨by dsimp only; omega, by dsimp only; omega⟩, by assumption, h⟩, by assumption⟩)
              | exact ⟨⟨rfl, rfl, ⟨by dsimp only; omega, by dsimp only; omega⟩, by assumption, fine_prepare hnode hslot ⟨by omega, by omega⟩ (TrP.fine (by assumption) hn.2) ⟨by omega, by omega⟩ (by assumption) hp⟩, by assumption⟩
          · skip
            have g8 := h8
            try simp only [zbz, List.length_map] at g8
            refine zws ?_
            refine ztn ?_
            refine zwe ?_
            refine zbk ?_
            refine ztn ?_
            refine zsr ?_
            refine zc rfl (zld (n := 15) (zt rfl) zk rfl rfl rfl rfl ?_)
            refine zc rfl (zst (n := 15) (zt rfl) (zt rfl) rfl (.inl zk) rfl rfl (zbl rfl) ?_)
            refine zn0 ?_
            refine zwr ?_
            refine zpr [_] (res1 (ri_agg (n := 15) rfl rfl zk rfl)) (show _ = 1 from rfl) (l1 rfl) ?_
            refine ⟨(Env.mk node slot v t 1 (Ballot.mk v3 v1) (Ballot.mk pc pv) (Ballot.mk qc qv) 0 0), s9, rfl, rfl, ?_⟩
            first
              | (have h := h7.symm.trans h6; cases h; done)
              | (have h := h8.symm.trans h7; cases h; done)
              | (have h := ok_of h8; exact ⟨⟨rfl, rfl, ⟨by dsimp only; omega, by dsimp only; omega⟩, by assumption, h⟩, by assumption⟩)
              | exact ⟨⟨rfl, rfl, ⟨by dsimp only; omega, by dsimp only; omega⟩, by assumption, fine_prepare hnode hslot ⟨by omega, by omega⟩ (TrP.fine (by assumption) hn.2) ⟨by omega, by omega⟩ (by assumption) hp⟩, by assumption⟩
        · skip
          have g7 := h7
          try simp only [zbz, List.length_map] at g7
          refine zws ?_
          refine ztn ?_
          refine zsr ?_
          refine zc rfl (zld (n := 15) (zt rfl) zk rfl rfl rfl rfl ?_)
          refine zc rfl (zcl zhf (hc (zt rfl) hz) (rs := []) (bxs := []) zdc bz (c_trustquorumref24_Valid (Env.mk node slot v t 1 (Ballot.mk v3 v1) (Ballot.mk pc pv) (Ballot.mk qc qv) 0 v4) (TrP.ok (by assumption) (by omega))) rfl rfl rfl (fun d b hd hl => ?_))
          obtain ⟨rfl, rfl⟩ := hd
          refine zc rfl (op_not (zt rfl) rfl ?_)
          refine zn0 ?_
          refine zwc (zt rfl) (fun h8 => ?_) (fun h8 => ?_)
          · skip
            have g8 := h8
            try simp only [zbz, List.length_map] at g8
            refine zre ?_
            refine zc rfl (zbd (ps := []) (qs := []) (zs := [.dat (.int .i64 0), .dat (.str ⟨#[]⟩)]) (pl := [(0, 1), (1, 1)]) pz zk zk rfl rfl ?_)
            refine zc rfl (zfa (o := 11) (zt rfl) zk rfl ?_)
            refine zc rfl (zst (n := 2) (zt rfl) (zt rfl) rfl (.inl zk) rfl rfl (zbl rfl) ?_)
            refine zn0 ?_
            refine ztn ?_
            refine zwe ?_
            refine zbk ?_
            refine ztn ?_
            refine zsr ?_
            refine zc rfl (zld (n := 15) (zt rfl) zk rfl rfl rfl rfl ?_)
            refine zc rfl (zst (n := 15) (zt rfl) (zt rfl) rfl (.inl zk) rfl rfl (zbl rfl) ?_)
            refine zn0 ?_
            refine zwr ?_
            refine zpr [_] (res1 (ri_agg (n := 15) rfl rfl zk rfl)) (show _ = 1 from rfl) (l1 rfl) ?_
            refine ⟨(Env.mk node slot v t 1 (Ballot.mk v3 v1) (Ballot.mk pc pv) (Ballot.mk 0 ⟨#[]⟩) 0 v4), s9, rfl, rfl, ?_⟩
            first
              | (have h := h7.symm.trans h6; cases h; done)
              | (have h := h8.symm.trans h7; cases h; done)
              | (have h := ok_of h8; exact ⟨⟨rfl, rfl, ⟨by dsimp only; omega, by dsimp only; omega⟩, by assumption, h⟩, by assumption⟩)
              | exact ⟨⟨rfl, rfl, ⟨by dsimp only; omega, by dsimp only; omega⟩, by assumption, fine_prepare hnode hslot ⟨by omega, by omega⟩ (TrP.fine (by assumption) hn.2) ⟨by omega, by omega⟩ (by assumption) hp⟩, by assumption⟩
          · skip
            have g8 := h8
            try simp only [zbz, List.length_map] at g8
            refine zws ?_
            refine ztn ?_
            refine zwe ?_
            refine zbk ?_
            refine ztn ?_
            refine zsr ?_
            refine zc rfl (zld (n := 15) (zt rfl) zk rfl rfl rfl rfl ?_)
            refine zc rfl (zst (n := 15) (zt rfl) (zt rfl) rfl (.inl zk) rfl rfl (zbl rfl) ?_)
            refine zn0 ?_
            refine awp_le (le_of (ls := [(8, .one (.ref (.o 8) 0))]) (bs := [(.e 0, [.dat (.sl (iRows s9.l)), .dat (.int .i64 s9.a)]), (.o 8, [.dat (.int .i64 node), .dat (.int .i64 slot), .dat (.int .i64 v), .dat (.int .i64 t.thr), .dat (.sl (iRows t.nodes)), .dat (.sl (t.inner.map Trust.enc)), .dat (.int .i64 1), .dat (.int .i64 v3), .dat (.str v1), .dat (.int .i64 pc), .dat (.str pv), .dat (.int .i64 qc), .dat (.str qv), .dat (.int .i64 0), .dat (.int .i64 v4)])]) (ts := []) (sc rfl sz) (xc rfl (xc rfl xz)) kz) ?_
            refine zwr ?_
            refine zpr [_] (res1 (ri_agg (n := 15) rfl rfl zk rfl)) (show _ = 1 from rfl) (l1 rfl) ?_
            refine ⟨(Env.mk node slot v t 1 (Ballot.mk v3 v1) (Ballot.mk pc pv) (Ballot.mk qc qv) 0 v4), s9, rfl, rfl, ?_⟩
            first
              | (have h := h7.symm.trans h6; cases h; done)
              | (have h := h8.symm.trans h7; cases h; done)
              | (have h := ok_of h8; exact ⟨⟨rfl, rfl, ⟨by dsimp only; omega, by dsimp only; omega⟩, by assumption, h⟩, by assumption⟩)
              | exact ⟨⟨rfl, rfl, ⟨by dsimp only; omega, by dsimp only; omega⟩, by assumption, fine_prepare hnode hslot ⟨by omega, by omega⟩ (TrP.fine (by assumption) hn.2) ⟨by omega, by omega⟩ (by assumption) hp⟩, by assumption⟩
      · skip
        have g6 := h6
        try simp only [zbz, List.length_map] at g6
        refine zws ?_
        refine ztn ?_
        refine zw2 ?_
        refine zsr ?_
        refine zc rfl (zld (n := 15) (zt rfl) zk rfl rfl rfl rfl ?_)
        refine zc rfl (zcl zhf (hc (zt rfl) hz) (rs := []) (bxs := []) zdc bz (c_trustquorumref24_Valid (Env.mk node slot v t 1 (Ballot.mk v3 v1) (Ballot.mk pc pv) (Ballot.mk qc qv) v5 v4) (TrP.ok (by assumption) (by omega))) rfl rfl rfl (fun d b hd hl => ?_))
        obtain ⟨rfl, rfl⟩ := hd
        refine zc rfl (op_not (zt rfl) rfl ?_)
        refine zn0 ?_
        refine zwc (zt rfl) (fun h7 => ?_) (fun h7 => ?_)
        · skip
          have g7 := h7
          try simp only [zbz, List.length_map] at g7
          refine zre ?_
          refine zc rfl (zfa (o := 14) (zt rfl) zk rfl ?_)
          refine zc rfl (zst (n := 1) (zt rfl) (zi zdc) rfl (.inr ⟨by kernel_rfl, rfl⟩) rfl rfl (zbl rfl) ?_)
          refine zn0 ?_
          refine ztn ?_
          refine zsr ?_
          refine zc rfl (zld (n := 15) (zt rfl) zk rfl rfl rfl rfl ?_)
          refine zc rfl (zcl zhf (hc (zt rfl) hz) (rs := []) (bxs := []) zdc bz (c_trustquorumref24_Valid (Env.mk node slot v t 1 (Ballot.mk v3 v1) (Ballot.mk pc pv) (Ballot.mk qc qv) v5 0) (TrP.ok (by assumption) (by omega))) rfl rfl rfl (fun d b hd hl => ?_))
          obtain ⟨rfl, rfl⟩ := hd
          refine zc rfl (op_not (zt rfl) rfl ?_)
          refine zn0 ?_
          refine zwc (zt rfl) (fun h8 => ?_) (fun h8 => ?_)
          · skip
            have g8 := h8
            try simp only [zbz, List.length_map] at g8
            refine zre ?_
            refine zc rfl (zbd (ps := []) (qs := []) (zs := [.dat (.int .i64 0), .dat (.str ⟨#[]⟩)]) (pl := [(0, 1), (1, 1)]) pz zk zk rfl rfl ?_)
            refine zc rfl (zfa (o := 11) (zt rfl) zk rfl ?_)
            refine zc rfl (zst (n := 2) (zt rfl) (zt rfl) rfl (.inl zk) rfl rfl (zbl rfl) ?_)
            refine zn0 ?_
            refine ztn ?_
            refine zwe ?_
            refine zbk ?_
            refine ztn ?_
            refine zsr ?_
            refine zc rfl (zld (n := 15) (zt rfl) zk rfl rfl rfl rfl ?_)
            refine zc rfl (zst (n := 15) (zt rfl) (zt rfl) rfl (.inl zk) rfl rfl (zbl rfl) ?_)
            refine zn0 ?_
            refine awp_le (le_of (ls := [(8, .one (.ref (.o 8) 0))]) (bs := [(.e 0, [.dat (.sl (iRows s9.l)), .dat (.int .i64 s9.a)]), (.o 8, [.dat (.int .i64 node), .dat (.int .i64 slot), .dat (.int .i64 v), .dat (.int .i64 t.thr), .dat (.sl (iRows t.nodes)), .dat (.sl (t.inner.map Trust.enc)), .dat (.int .i64 1), .dat (.int .i64 v3), .dat (.str v1), .dat (.int .i64 pc), .dat (.str pv), .dat (.int .i64 0), .dat (.str ⟨#[]⟩), .dat (.int .i64 v5), .dat (.int .i64 0)])]) (ts := []) (sc rfl sz) (xc rfl (xc rfl xz)) kz) ?_
            refine zwr ?_
            refine zpr [_] (res1 (ri_agg (n := 15) rfl rfl zk rfl)) (show _ = 1 from rfl) (l1 rfl) ?_
            refine ⟨(Env.mk node slot v t 1 (Ballot.mk v3 v1) (Ballot.mk pc pv) (Ballot.mk 0 ⟨#[]⟩) v5 0), s9, rfl, rfl, ?_⟩
            first
              | (have h := h7.symm.trans h6; cases h; done)
              | (have h := h8.symm.trans h7; cases h; done)
              | (have h := ok_of h8; exact ⟨⟨rfl, rfl, ⟨by dsimp only; omega, by dsimp only; omega⟩, by assumption, h⟩, by assumption⟩)
              | exact ⟨⟨rfl, rfl, ⟨by dsimp only; omega, by dsimp only; omega⟩, by assumption, fine_prepare hnode hslot ⟨by omega, by omega⟩ (TrP.fine (by assumption) hn.2) ⟨by omega, by omega⟩ (by assumption) hp⟩, by assumption⟩
          · skip
            have g8 := h8
            try simp only [zbz, List.length_map] at g8
            refine zws ?_
            refine ztn ?_
            refine zwe ?_
            refine zbk ?_
            refine ztn ?_
            refine zsr ?_
            refine zc rfl (zld (n := 15) (zt rfl) zk rfl rfl rfl rfl ?_)
            refine zc rfl (zst (n := 15) (zt rfl) (zt rfl) rfl (.inl zk) rfl rfl (zbl rfl) ?_)
            refine zn0 ?_
            refine zwr ?_
            refine zpr [_] (res1 (ri_agg (n := 15) rfl rfl zk rfl)) (show _ = 1 from rfl) (l1 rfl) ?_
            refine ⟨(Env.mk node slot v t 1 (Ballot.mk v3 v1) (Ballot.mk pc pv) (Ballot.mk qc qv) v5 0), s9, rfl, rfl, ?_⟩
            first
              | (have h := h7.symm.trans h6; cases h; done)
              | (have h := h8.symm.trans h7; cases h; done)
              | (have h := ok_of h8; exact ⟨⟨rfl, rfl, ⟨by dsimp only; omega, by dsimp only; omega⟩, by assumption, h⟩, by assumption⟩)
              | exact ⟨⟨rfl, rfl, ⟨by dsimp only; omega, by dsimp only; omega⟩, by assumption, fine_prepare hnode hslot ⟨by omega, by omega⟩ (TrP.fine (by assumption) hn.2) ⟨by omega, by omega⟩ (by assumption) hp⟩, by assumption⟩
        · skip
          have g7 := h7
          try simp only [zbz, List.length_map] at g7
          refine zws ?_
          refine ztn ?_
          refine zsr ?_
          refine zc rfl (zld (n := 15) (zt rfl) zk rfl rfl rfl rfl ?_)
          refine zc rfl (zcl zhf (hc (zt rfl) hz) (rs := []) (bxs := []) zdc bz (c_trustquorumref24_Valid (Env.mk node slot v t 1 (Ballot.mk v3 v1) (Ballot.mk pc pv) (Ballot.mk qc qv) v5 v4) (TrP.ok (by assumption) (by omega))) rfl rfl rfl (fun d b hd hl => ?_))
          obtain ⟨rfl, rfl⟩ := hd
          refine zc rfl (op_not (zt rfl) rfl ?_)
          refine zn0 ?_
          refine zwc (zt rfl) (fun h8 => ?_) (fun h8 => ?_)
          · skip
            have g8 := h8
            try simp only [zbz, List.length_map] at g8
            refine zre ?_
            refine zc rfl (zbd (ps := []) (qs := []) (zs := [.dat (.int .i64 0), .dat (.str ⟨#[]⟩)]) (pl := [(0, 1), (1, 1)]) pz zk zk rfl rfl ?_)
            refine zc rfl (zfa (o := 11) (zt rfl) zk rfl ?_)
            refine zc rfl (zst (n := 2) (zt rfl) (zt rfl) rfl (.inl zk) rfl rfl (zbl rfl) ?_)
            refine zn0 ?_
            refine ztn ?_
            refine zwe ?_
            refine zbk ?_
            refine ztn ?_
            refine zsr ?_
            refine zc rfl (zld (n := 15) (zt rfl) zk rfl rfl rfl rfl ?_)
            refine zc rfl (zst (n := 15) (zt rfl) (zt rfl) rfl (.inl zk) rfl rfl (zbl rfl) ?_)
            refine zn0 ?_
            refine zwr ?_
            refine zpr [_] (res1 (ri_agg (n := 15) rfl rfl zk rfl)) (show _ = 1 from rfl) (l1 rfl) ?_
            refine ⟨(Env.mk node slot v t 1 (Ballot.mk v3 v1) (Ballot.mk pc pv) (Ballot.mk 0 ⟨#[]⟩) v5 v4), s9, rfl, rfl, ?_⟩
            first
              | (have h := h7.symm.trans h6; cases h; done)
              | (have h := h8.symm.trans h7; cases h; done)
              | (have h := ok_of h8; exact ⟨⟨rfl, rfl, ⟨by dsimp only; omega, by dsimp only; omega⟩, by assumption, h⟩, by assumption⟩)
              | exact ⟨⟨rfl, rfl, ⟨by dsimp only; omega, by dsimp only; omega⟩, by assumption, fine_prepare hnode hslot ⟨by omega, by omega⟩ (TrP.fine (by assumption) hn.2) ⟨by omega, by omega⟩ (by assumption) hp⟩, by assumption⟩
          · skip
            have g8 := h8
            try simp only [zbz, List.length_map] at g8
            refine zws ?_
            refine ztn ?_
            refine zwe ?_
            refine zbk ?_
            refine ztn ?_
            refine zsr ?_
            refine zc rfl (zld (n := 15) (zt rfl) zk rfl rfl rfl rfl ?_)
            refine zc rfl (zst (n := 15) (zt rfl) (zt rfl) rfl (.inl zk) rfl rfl (zbl rfl) ?_)
            refine zn0 ?_
            refine awp_le (le_of (ls := [(8, .one (.ref (.o 8) 0))]) (bs := [(.e 0, [.dat (.sl (iRows s9.l)), .dat (.int .i64 s9.a)]), (.o 8, [.dat (.int .i64 node), .dat (.int .i64 slot), .dat (.int .i64 v), .dat (.int .i64 t.thr), .dat (.sl (iRows t.nodes)), .dat (.sl (t.inner.map Trust.enc)), .dat (.int .i64 1), .dat (.int .i64 v3), .dat (.str v1), .dat (.int .i64 pc), .dat (.str pv), .dat (.int .i64 qc), .dat (.str qv), .dat (.int .i64 v5), .dat (.int .i64 v4)])]) (ts := []) (sc rfl sz) (xc rfl (xc rfl xz)) kz) ?_
            refine zwr ?_
            refine zpr [_] (res1 (ri_agg (n := 15) rfl rfl zk rfl)) (show _ = 1 from rfl) (l1 rfl) ?_
            refine ⟨(Env.mk node slot v t 1 (Ballot.mk v3 v1) (Ballot.mk pc pv) (Ballot.mk qc qv) v5 v4), s9, rfl, rfl, ?_⟩
            first
              | (have h := h7.symm.trans h6; cases h; done)
              | (have h := h8.symm.trans h7; cases h; done)
              | (have h := ok_of h8; exact ⟨⟨rfl, rfl, ⟨by dsimp only; omega, by dsimp only; omega⟩, by assumption, h⟩, by assumption⟩)
              | exact ⟨⟨rfl, rfl, ⟨by dsimp only; omega, by dsimp only; omega⟩, by assumption, fine_prepare hnode hslot ⟨by omega, by omega⟩ (TrP.fine (by assumption) hn.2) ⟨by omega, by omega⟩ (by assumption) hp⟩, by assumption⟩

end Go.TQ
