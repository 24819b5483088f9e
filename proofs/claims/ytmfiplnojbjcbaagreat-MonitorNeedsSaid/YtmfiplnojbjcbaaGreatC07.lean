/- s07.py -/
import Derived.Test.YtmfiplnojbjcbaaGreatC06
set_option linter.unusedVariables false
set_option linter.unusedSimpArgs false
set_option maxRecDepth 10000
namespace Go.TQ
open Go.Proofs


def Env.c1 (e : Env) : Bool := (((((((decide (e.node < 0) || decide (9 < e.node)) || decide (e.slot < 1)) || decide (1000000 < e.slot)) || decide (e.seq < 1)) || decide (1000000 < e.seq)) || !decide (e.trust.valid = 0)) || !e.b.valid)
def Env.c3 (e : Env) : Bool := decide (1000 < e.b.c) || (!e.p.isZero && !e.p.valid)
def Env.c4 (e : Env) : Bool := !e.q.isZero && (((e.p.isZero || !e.q.valid) || !e.q.lessR e.p) || e.q.compat e.p)
def Env.c5 (e : Env) : Bool := (decide (e.low < 0) || decide (e.high < e.low)) || decide (e.b.c < e.high)
def Env.c6 (e : Env) : Bool := decide (0 < e.high) && !e.p.preparesR e.q ⟨e.high, e.b.v⟩
def Env.c7 (e : Env) : Bool := decide (e.low = 0) || (!e.p.abortsR ⟨e.low, e.b.v⟩ && !e.q.abortsR ⟨e.low, e.b.v⟩)
def Env.c8 (e : Env) : Bool := ((((((decide (e.b.c ≤ 1000) && e.p.valid) && e.p.compat e.b) && e.q.isZero) && decide (1 ≤ e.low)) && decide (e.low ≤ e.high)) && decide (e.high ≤ e.p.c)) && decide (e.high ≤ 1000)
def Env.c9 (e : Env) : Bool := (((e.p.isZero && e.q.isZero) && decide (1 ≤ e.low)) && decide (e.low ≤ e.high)) && decide (e.high ≤ 1000)
def Env.validR (e : Env) : Bool :=
  if e.c1 = true then false
  else if e.kind = 1 then (if e.c3 = true then false else if e.c4 = true then false else if e.c5 = true then false else if e.c6 = true then false else e.c7)
  else if e.kind = 2 then e.c8 else if e.kind = 3 then e.c9 else false

theorem c_trustquorumref24_Valid (e : Env) (hok : e.trust.ok) : ACalls Tryz.prog 18 [.aggd e.d] [] fun dd bb => dd = VB (e.validR) ∧ bb = [] := by
  refine zai Tryz.func18 rfl Tryz.ntmps18 (by rw [Tryz.results18]) rfl rfl (fun w0 A0 X => ?_)
  refine zsr ?_
  refine zc rfl (zbx (zt rfl) rfl rfl ?_)
  refine zc rfl (zas zb0 rfl ?_)
  refine zn0 ?_
  refine zw2 ?_
  refine zsr ?_
  refine zc rfl (zfa (o := 0) (zt rfl) zk rfl ?_)
  refine zc rfl (zl1 (zt rfl) zk rfl rfl rfl ?_)
  refine zc rfl (zcm (zt rfl) (zi zdc) rfl rfl ?_)
  refine zc rfl (zmv (zt rfl) rfl ?_)
  refine zg rfl rfl rfl rfl (zgb rfl) (fun hg => zfa (o := 0) (zt rfl) zk rfl rfl) ?_
  refine zg rfl rfl rfl rfl (zgb rfl) (fun hg => zl1 (zcd (zt rfl) hg) zk rfl rfl rfl rfl) ?_
  refine zg rfl rfl rfl rfl (zgb rfl) (fun hg => zcm (zcd (zt rfl) hg) (zi zdc) rfl rfl rfl) ?_
  refine zc rfl (zor (zt rfl) (.inl zb0) (zt rfl) rfl ?_)
  refine zc rfl (zmv (zt rfl) rfl ?_)
  refine zg rfl rfl rfl rfl (zgb rfl) (fun hg => zfa (o := 1) (zt rfl) zk rfl rfl) ?_
  refine zg rfl rfl rfl rfl (zgb rfl) (fun hg => zl1 (zcd (zt rfl) hg) zk rfl rfl rfl rfl) ?_
  refine zg rfl rfl rfl rfl (zgb rfl) (fun hg => zcm (zcd (zt rfl) hg) (zi zdc) rfl rfl rfl) ?_
  refine zc rfl (zor (zt rfl) (.inl zb0) (zt rfl) rfl ?_)
  refine zc rfl (zmv (zt rfl) rfl ?_)
  refine zg rfl rfl rfl rfl (zgb rfl) (fun hg => zfa (o := 1) (zt rfl) zk rfl rfl) ?_
  refine zg rfl rfl rfl rfl (zgb rfl) (fun hg => zl1 (zcd (zt rfl) hg) zk rfl rfl rfl rfl) ?_
  refine zg rfl rfl rfl rfl (zgb rfl) (fun hg => zcm (zcd (zt rfl) hg) (zi zdc) rfl rfl rfl) ?_
  refine zc rfl (zor (zt rfl) (.inl zb0) (zt rfl) rfl ?_)
  refine zc rfl (zmv (zt rfl) rfl ?_)
  refine zg rfl rfl rfl rfl (zgb rfl) (fun hg => zfa (o := 2) (zt rfl) zk rfl rfl) ?_
  refine zg rfl rfl rfl rfl (zgb rfl) (fun hg => zl1 (zcd (zt rfl) hg) zk rfl rfl rfl rfl) ?_
  refine zg rfl rfl rfl rfl (zgb rfl) (fun hg => zcm (zcd (zt rfl) hg) (zi zdc) rfl rfl rfl) ?_
  refine zc rfl (zor (zt rfl) (.inl zb0) (zt rfl) rfl ?_)
  refine zc rfl (zmv (zt rfl) rfl ?_)
  refine zg rfl rfl rfl rfl (zgb rfl) (fun hg => zfa (o := 2) (zt rfl) zk rfl rfl) ?_
  refine zg rfl rfl rfl rfl (zgb rfl) (fun hg => zl1 (zcd (zt rfl) hg) zk rfl rfl rfl rfl) ?_
  refine zg rfl rfl rfl rfl (zgb rfl) (fun hg => zcm (zcd (zt rfl) hg) (zi zdc) rfl rfl rfl) ?_
  refine zc rfl (zor (zt rfl) (.inl zb0) (zt rfl) rfl ?_)
  refine zc rfl (zmv (zt rfl) rfl ?_)
  refine zg rfl rfl rfl rfl (zgb rfl) (fun hg => zfa (o := 3) (zt rfl) zk rfl rfl) ?_
  refine zg rfl rfl rfl rfl (zgb rfl) (fun hg => zld (n := 3) (zcd (zt rfl) hg) zk rfl rfl rfl rfl rfl) ?_
  refine zg rfl rfl rfl rfl (zgb rfl) (fun hg => zcl zhf (hc (zcd (zt rfl) hg) hz) (rs := []) (bxs := []) zdc bz (c_trustquorumref02_Valid e.trust hok) rfl rfl rfl (fun d b hd hl => by obtain ⟨rfl, rfl⟩ := hd; rfl)) ?_
  refine zg rfl rfl rfl rfl (zgb rfl) (fun hg => zcm (zcd (zt rfl) hg) (zi zdc) rfl rfl rfl) ?_
  refine zc rfl (zor (zt rfl) (.inl zb0) (zt rfl) rfl ?_)
  refine zc rfl (zmv (zt rfl) rfl ?_)
  refine zg rfl rfl rfl rfl (zgb rfl) (fun hg => zfa (o := 7) (zt rfl) zk rfl rfl) ?_
  refine zg rfl rfl rfl rfl (zgb rfl) (fun hg => zld (n := 2) (zcd (zt rfl) hg) zk rfl rfl rfl rfl rfl) ?_
  refine zg rfl rfl rfl rfl (zgb rfl) (fun hg => zcl zhf (hc (zcd (zt rfl) hg) hz) (rs := []) (bxs := []) zdc bz (c_trustquorumref23_Valid e.b) rfl rfl rfl (fun d b hd hl => by obtain ⟨rfl, rfl⟩ := hd; rfl)) ?_
  refine zg rfl rfl rfl rfl (zgb rfl) (fun hg => op_not (zcd (zt rfl) hg) rfl rfl) ?_
  refine zc rfl (zor (zt rfl) (.inl zb0) (zt rfl) rfl ?_)
  refine zn0 ?_
  refine zwc (zt rfl) (fun h1 => ?_) (fun h1 => ?_)
  · skip
    refine zsr ?_
    refine zc rfl (zas zb0 rfl ?_)
    refine zn0 ?_
    refine zwr ?_
    refine ztr ?_
    refine zpr [] (res1 (zrt rfl)) rfl lz ?_
    have he : e.validR = false := by rw [Env.validR, if_pos (show e.c1 = true from h1)]
    rw [he]
    exact ⟨rfl, rfl⟩
  · skip
    have h1b : ¬ e.c1 = true := by rw [show e.c1 = false from h1]; simp
    refine zws ?_
    refine ztn ?_
    refine zsr ?_
    refine zc rfl (zfa (o := 9) (zt rfl) zk rfl ?_)
    refine zc rfl (zld (n := 2) (zt rfl) zk rfl rfl rfl rfl ?_)
    refine zc rfl (zcl zhf (hc (zt rfl) hz) (rs := []) (bxs := []) zdc bz (c_trustquorumref23_Zero e.p) rfl rfl rfl (fun d b hd hl => ?_))
    obtain ⟨rfl, rfl⟩ := hd
    refine zc rfl (zas (zt rfl) rfl ?_)
    refine zn0 ?_
    refine awp_seq_drawT zk [.o 4, .o 5] [] [0, 1, 0, 4, 12, 31, 0, 64, 0, 256, 768, 1984, 0, 0, 12351, 32767] rfl
      (Trace.cons ⟨[(1, _)], [], [], [], [], [.slot 49 _]⟩ (prel (lsc rfl lsz) lbz ltz) (fun zs zp zn => (zgp rfl rfl (zfa (o := 13) (zt zp.1.1) zk rfl rfl))) <|
      Trace.cons ⟨[(49, _)], [(.o 1, _)], [], [], [], [.slot 50 _]⟩ (prel (lsc rfl lsz) (lbc rfl lbz) ltz) (fun zs zp zn => (zgp rfl rfl (zl1 (zt zp.1.1) zk zp.2.1.1 rfl rfl rfl))) <|
      Trace.cons ⟨[(1, _)], [], [], [], [], [.slot 51 _]⟩ (prel (lsc rfl lsz) lbz ltz) (fun zs zp zn => (zgp rfl rfl (zfa (o := 7) (zt zp.1.1) zk rfl rfl))) <|
      Trace.cons ⟨[(51, _)], [], [], [], [], [.slot 52 _]⟩ (prel (lsc rfl lsz) lbz ltz) (fun zs zp zn => (zgp rfl rfl (zfa (o := 1) (zt zp.1.1) zk rfl rfl))) <|
      Trace.cons ⟨[(52, _)], [(.o 1, _)], [], [], [], [.slot 53 _]⟩ (prel (lsc rfl lsz) (lbc rfl lbz) ltz) (fun zs zp zn => (zgp rfl rfl (zl1 (zt zp.1.1) zk zp.2.1.1 rfl rfl rfl))) <|
      Trace.cons ⟨[(50, _), (53, _)], [], [], [], [], [.slot 54 _]⟩ (prel (lsc rfl (lsc rfl lsz)) lbz ltz) (fun zs zp zn => (zgp rfl rfl (zbd (ps := [(_, _), (_, _)]) (qs := [(_, _), (_, _)]) (zs := [.dat (.int .i64 0), .dat (.str ⟨#[]⟩)]) (pl := [(0, 1), (1, 1)]) (pc (zt zp.1.1) rfl (pc (zt zp.1.2.1) rfl pz)) zk zk rfl rfl rfl))) <|
      Trace.cons ⟨[(1, _)], [], [], [], [], [.slot 55 _]⟩ (prel (lsc rfl lsz) lbz ltz) (fun zs zp zn => (zgp rfl rfl (zfa (o := 14) (zt zp.1.1) zk rfl rfl))) <|
      Trace.cons ⟨[(55, _)], [(.o 1, _)], [], [], [], [.slot 56 _]⟩ (prel (lsc rfl lsz) (lbc rfl lbz) ltz) (fun zs zp zn => (zgp rfl rfl (zl1 (zt zp.1.1) zk zp.2.1.1 rfl rfl rfl))) <|
      Trace.cons ⟨[(1, _)], [], [], [], [], [.slot 57 _]⟩ (prel (lsc rfl lsz) lbz ltz) (fun zs zp zn => (zgp rfl rfl (zfa (o := 7) (zt zp.1.1) zk rfl rfl))) <|
      Trace.cons ⟨[(57, _)], [], [], [], [], [.slot 58 _]⟩ (prel (lsc rfl lsz) lbz ltz) (fun zs zp zn => (zgp rfl rfl (zfa (o := 1) (zt zp.1.1) zk rfl rfl))) <|
      Trace.cons ⟨[(58, _)], [(.o 1, _)], [], [], [], [.slot 59 _]⟩ (prel (lsc rfl lsz) (lbc rfl lbz) ltz) (fun zs zp zn => (zgp rfl rfl (zl1 (zt zp.1.1) zk zp.2.1.1 rfl rfl rfl))) <|
      Trace.cons ⟨[(56, _), (59, _)], [], [], [], [], [.slot 60 _]⟩ (prel (lsc rfl (lsc rfl lsz)) lbz ltz) (fun zs zp zn => (zgp rfl rfl (zbd (ps := [(_, _), (_, _)]) (qs := [(_, _), (_, _)]) (zs := [.dat (.int .i64 0), .dat (.str ⟨#[]⟩)]) (pl := [(0, 1), (1, 1)]) (pc (zt zp.1.1) rfl (pc (zt zp.1.2.1) rfl pz)) zk zk rfl rfl rfl))) <|
      Trace.cons ⟨[], [], [], [.o 4], [], [.box (.o 4) _, .slot 4 _]⟩ (prel lsz lbz ltz) (fun zs zp zn => (zgp rfl rfl (op_allocF (cs := [.dat (.int .i64 0), .dat (.str ⟨#[]⟩)]) zk rfl zn.1.1 rfl rfl))) <|
      Trace.cons ⟨[], [], [], [.o 5], [], [.box (.o 5) _, .slot 5 _]⟩ (prel lsz lbz ltz) (fun zs zp zn => (zgp rfl rfl (op_allocF (cs := [.dat (.int .i64 0), .dat (.str ⟨#[]⟩)]) zk rfl zn.1.1 rfl rfl))) <|
      Trace.cons ⟨[(4, _), (54, _)], [(.o 4, _)], [], [], [], [.box (.o 4) _]⟩ (prel (lsc rfl (lsc rfl lsz)) (lbc rfl lbz) ltz) (fun zs zp zn => (zgp rfl rfl (zst (n := 2) (zt zp.1.1) (zt zp.1.2.1) rfl (.inl zk) rfl zp.2.1.1 (zbl rfl) rfl))) <|
      Trace.cons ⟨[(5, _), (60, _)], [(.o 5, _)], [], [], [], [.box (.o 5) _]⟩ (prel (lsc rfl (lsc rfl lsz)) (lbc rfl lbz) ltz) (fun zs zp zn => (zgp rfl rfl (zst (n := 2) (zt zp.1.1) (zt zp.1.2.1) rfl (.inl zk) rfl zp.2.1.1 (zbl rfl) rfl))) <|
      Trace.nil) rfl rfl rfl ?_
    refine zw2 ?_
    refine zsr ?_
    refine zc rfl (zfa (o := 6) (zt rfl) zk rfl ?_)
    refine zc rfl (zl1 (zt rfl) zk rfl rfl rfl ?_)
    refine zn0 ?_
    refine zwb ?_
    refine zsr ?_
    refine zc rfl (zcm (zt rfl) (zi zdc) rfl rfl ?_)
    refine zc rfl (zas (zt rfl) rfl ?_)
    refine zn0 ?_
    refine zwc (zt rfl) (fun h2 => ?_) (fun h2 => ?_)
    · skip
      have k1 : e.kind = 1 := by simpa using h2
      refine zw2 ?_
      refine zsr ?_
      refine zc rfl (zfa (o := 7) (zt rfl) zk rfl ?_)
      refine zc rfl (zfa (o := 0) (zt rfl) zk rfl ?_)
      refine zc rfl (zl1 (zt rfl) zk rfl rfl rfl ?_)
      refine zc rfl (zcm (zt rfl) (zi zdc) rfl rfl ?_)
      refine zc rfl (zmv (zt rfl) rfl ?_)
      refine zg rfl rfl rfl rfl (zgb rfl) (fun hg => zmv (zt rfl) rfl rfl) ?_
      refine zg rfl rfl rfl rfl (zgb rfl) (fun hg => op_not (zcd (zt rfl) hg) rfl rfl) ?_
      refine zg rfl rfl rfl rfl (zgb rfl) (fun hg => zmv (zcd (zt rfl) hg) rfl rfl) ?_
      refine zg rfl rfl rfl rfl (guard_cond rfl) (fun hg => zfa (o := 9) (zt rfl) zk rfl rfl) ?_
      refine zg rfl rfl rfl rfl (guard_cond rfl) (fun hg => zld (n := 2) (zcd (zt rfl) hg) zk rfl rfl rfl rfl rfl) ?_
      refine zg rfl rfl rfl rfl (guard_cond rfl) (fun hg => zcl zhf (hc (zcd (zt rfl) hg) hz) (rs := []) (bxs := []) zdc bz (c_trustquorumref23_Valid e.p) rfl rfl rfl (fun d b hd hl => by obtain ⟨rfl, rfl⟩ := hd; rfl)) ?_
      refine zg rfl rfl rfl rfl (guard_cond rfl) (fun hg => op_not (zcd (zt rfl) hg) rfl rfl) ?_
      refine zg rfl rfl rfl rfl (zgb rfl) (fun hg => zan (zcd (zt rfl) hg) (has_cond_and (zt rfl) hg) (.inl zb0) rfl rfl) ?_
      refine zc rfl (zor (zt rfl) (.inl zb0) (zt rfl) rfl ?_)
      refine zn0 ?_
      refine zwc (zt rfl) (fun h3 => ?_) (fun h3 => ?_)
      · skip
        refine zsr ?_
        refine zc rfl (zas zb0 rfl ?_)
        refine zn0 ?_
        refine zwr ?_
        refine ztr ?_
        refine blk_ret ?_
        refine ztr ?_
        refine zpr [] (res1 (zrt rfl)) rfl lz ?_
        have he : e.validR = false := by rw [Env.validR, if_neg h1b, if_pos k1, if_pos (show e.c3 = true from h3)]
        rw [he]
        exact ⟨rfl, rfl⟩
      · skip
        have h3b : ¬ e.c3 = true := by rw [show e.c3 = false from h3]; simp
        refine zws ?_
        refine ztn ?_
        refine zw2 ?_
        refine zsr ?_
        refine zc rfl (zfa (o := 11) (zt rfl) zk rfl ?_)
        refine zc rfl (zld (n := 2) (zt rfl) zk rfl rfl rfl rfl ?_)
        refine zc rfl (zcl zhf (hc (zt rfl) hz) (rs := []) (bxs := []) zdc bz (c_trustquorumref23_Zero e.q) rfl rfl rfl (fun d b hd hl => ?_))
        obtain ⟨rfl, rfl⟩ := hd
        refine zc rfl (op_not (zt rfl) rfl ?_)
        refine zc rfl (zmv (zt rfl) rfl ?_)
        refine zg rfl rfl rfl rfl (zgb rfl) (fun hg => zmv (zt rfl) rfl rfl) ?_
        refine zg rfl rfl rfl rfl (zgb rfl) (fun hg => zmv (zcd (zt rfl) hg) rfl rfl) ?_
        refine zg rfl rfl rfl rfl (guard_cond rfl) (fun hg => zfa (o := 11) (zt rfl) zk rfl rfl) ?_
        refine zg rfl rfl rfl rfl (guard_cond rfl) (fun hg => zld (n := 2) (zcd (zt rfl) hg) zk rfl rfl rfl rfl rfl) ?_
        refine zg rfl rfl rfl rfl (guard_cond rfl) (fun hg => zcl zhf (hc (zcd (zt rfl) hg) hz) (rs := []) (bxs := []) zdc bz (c_trustquorumref23_Valid e.q) rfl rfl rfl (fun d b hd hl => by obtain ⟨rfl, rfl⟩ := hd; rfl)) ?_
        refine zg rfl rfl rfl rfl (guard_cond rfl) (fun hg => op_not (zcd (zt rfl) hg) rfl rfl) ?_
        refine zg rfl rfl rfl rfl (zgb rfl) (fun hg => zor (zcd (zt rfl) hg) (.inl zb0) (has_cond_and (zt rfl) hg) rfl rfl) ?_
        refine zg rfl rfl rfl rfl (zgb rfl) (fun hg => zmv (zcd (zt rfl) hg) rfl rfl) ?_
        refine zg rfl rfl rfl rfl (guard_cond rfl) (fun hg => zfa (o := 11) (zt rfl) zk rfl rfl) ?_
        refine zg rfl rfl rfl rfl (guard_cond rfl) (fun hg => zld (n := 2) (zcd (zt rfl) hg) zk rfl rfl rfl rfl rfl) ?_
        refine zg rfl rfl rfl rfl (guard_cond rfl) (fun hg => zfa (o := 9) (zt rfl) zk rfl rfl) ?_
        refine zg rfl rfl rfl rfl (guard_cond rfl) (fun hg => zld (n := 2) (zcd (zt rfl) hg) zk rfl rfl rfl rfl rfl) ?_
        refine zg rfl rfl rfl rfl (guard_cond rfl) (fun hg => zcl zhf (hc (zcd (zt rfl) hg) (hc (zcd (zt rfl) hg) hz)) (rs := []) (bxs := []) zdc bz (c_trustquorumref23_Less e.q e.p) rfl rfl rfl (fun d b hd hl => by obtain ⟨rfl, rfl⟩ := hd; rfl)) ?_
        refine zg rfl rfl rfl rfl (guard_cond rfl) (fun hg => op_not (zcd (zt rfl) hg) rfl rfl) ?_
        refine zg rfl rfl rfl rfl (zgb rfl) (fun hg => zor (zcd (zt rfl) hg) (.inl zb0) (has_cond_and (zt rfl) hg) rfl rfl) ?_
        refine zg rfl rfl rfl rfl (zgb rfl) (fun hg => zmv (zcd (zt rfl) hg) rfl rfl) ?_
        refine zg rfl rfl rfl rfl (guard_cond rfl) (fun hg => zfa (o := 11) (zt rfl) zk rfl rfl) ?_
        refine zg rfl rfl rfl rfl (guard_cond rfl) (fun hg => zld (n := 2) (zcd (zt rfl) hg) zk rfl rfl rfl rfl rfl) ?_
        refine zg rfl rfl rfl rfl (guard_cond rfl) (fun hg => zfa (o := 9) (zt rfl) zk rfl rfl) ?_
        refine zg rfl rfl rfl rfl (guard_cond rfl) (fun hg => zld (n := 2) (zcd (zt rfl) hg) zk rfl rfl rfl rfl rfl) ?_
        refine zg rfl rfl rfl rfl (guard_cond rfl) (fun hg => zcl zhf (hc (zcd (zt rfl) hg) (hc (zcd (zt rfl) hg) hz)) (rs := []) (bxs := []) zdc bz (c_trustquorumref23_Compatible e.q e.p) rfl rfl rfl (fun d b hd hl => by obtain ⟨rfl, rfl⟩ := hd; rfl)) ?_
        refine zg rfl rfl rfl rfl (zgb rfl) (fun hg => zor (zcd (zt rfl) hg) (.inl zb0) (has_cond_and (zt rfl) hg) rfl rfl) ?_
        refine zc rfl (zan (zt rfl) (zt rfl) (.inl zb0) rfl ?_)
        refine zn0 ?_
        refine zwc (zt rfl) (fun h4 => ?_) (fun h4 => ?_)
        · skip
          refine zsr ?_
          refine zc rfl (zas zb0 rfl ?_)
          refine zn0 ?_
          refine zwr ?_
          refine ztr ?_
          refine blk_ret ?_
          refine ztr ?_
          refine zpr [] (res1 (zrt rfl)) rfl lz ?_
          have he : e.validR = false := by rw [Env.validR, if_neg h1b, if_pos k1, if_neg h3b, if_pos (show e.c4 = true from h4)]
          rw [he]
          exact ⟨rfl, rfl⟩
        · skip
          have h4b : ¬ e.c4 = true := by rw [show e.c4 = false from h4]; simp
          refine zws ?_
          refine ztn ?_
          refine zw2 ?_
          refine zsr ?_
          refine zc rfl (zfa (o := 13) (zt rfl) zk rfl ?_)
          refine zc rfl (zl1 (zt rfl) zk rfl rfl rfl ?_)
          refine zc rfl (zcm (zt rfl) (zi zdc) rfl rfl ?_)
          refine zc rfl (zmv (zt rfl) rfl ?_)
          refine zg rfl rfl rfl rfl (zgb rfl) (fun hg => zfa (o := 13) (zt rfl) zk rfl rfl) ?_
          refine zg rfl rfl rfl rfl (zgb rfl) (fun hg => zl1 (zcd (zt rfl) hg) zk rfl rfl rfl rfl) ?_
          refine zg rfl rfl rfl rfl (zgb rfl) (fun hg => zfa (o := 14) (zt rfl) zk rfl rfl) ?_
          refine zg rfl rfl rfl rfl (zgb rfl) (fun hg => zl1 (zcd (zt rfl) hg) zk rfl rfl rfl rfl) ?_
          refine zg rfl rfl rfl rfl (zgb rfl) (fun hg => zcm (zcd (zt rfl) hg) (zcd (zt rfl) hg) rfl rfl rfl) ?_
          refine zc rfl (zor (zt rfl) (.inl zb0) (zt rfl) rfl ?_)
          refine zc rfl (zmv (zt rfl) rfl ?_)
          refine zg rfl rfl rfl rfl (zgb rfl) (fun hg => zfa (o := 14) (zt rfl) zk rfl rfl) ?_
          refine zg rfl rfl rfl rfl (zgb rfl) (fun hg => zl1 (zcd (zt rfl) hg) zk rfl rfl rfl rfl) ?_
          refine zg rfl rfl rfl rfl (zgb rfl) (fun hg => zfa (o := 7) (zt rfl) zk rfl rfl) ?_
          refine zg rfl rfl rfl rfl (zgb rfl) (fun hg => zfa (o := 0) (zcd (zt rfl) hg) zk rfl rfl) ?_
          refine zg rfl rfl rfl rfl (zgb rfl) (fun hg => zl1 (zcd (zt rfl) hg) zk rfl rfl rfl rfl) ?_
          refine zg rfl rfl rfl rfl (zgb rfl) (fun hg => zcm (zcd (zt rfl) hg) (zcd (zt rfl) hg) rfl rfl rfl) ?_
          refine zc rfl (zor (zt rfl) (.inl zb0) (zt rfl) rfl ?_)
          refine zn0 ?_
          refine zwc (zt rfl) (fun h5 => ?_) (fun h5 => ?_)
          · skip
            refine zsr ?_
            refine zc rfl (zas zb0 rfl ?_)
            refine zn0 ?_
            refine zwr ?_
            refine ztr ?_
            refine blk_ret ?_
            refine ztr ?_
            refine zpr [] (res1 (zrt rfl)) rfl lz ?_
            have he : e.validR = false := by rw [Env.validR, if_neg h1b, if_pos k1, if_neg h3b, if_neg h4b, if_pos (show e.c5 = true from h5)]
            rw [he]
            exact ⟨rfl, rfl⟩
          · skip
            have h5b : ¬ e.c5 = true := by rw [show e.c5 = false from h5]; simp
            refine zws ?_
            refine ztn ?_
            refine zw2 ?_
            refine zsr ?_
            refine zc rfl (zfa (o := 14) (zt rfl) zk rfl ?_)
            refine zc rfl (zl1 (zt rfl) zk rfl rfl rfl ?_)
            refine zc rfl (zcm (zt rfl) (zi zdc) rfl rfl ?_)
            refine zc rfl (zmv (zt rfl) rfl ?_)
            refine zg rfl rfl rfl rfl (zgb rfl) (fun hg => zfa (o := 9) (zt rfl) zk rfl rfl) ?_
            refine zg rfl rfl rfl rfl (zgb rfl) (fun hg => zld (n := 2) (zcd (zt rfl) hg) zk rfl rfl rfl rfl rfl) ?_
            refine zg rfl rfl rfl rfl (zgb rfl) (fun hg => zfa (o := 11) (zt rfl) zk rfl rfl) ?_
            refine zg rfl rfl rfl rfl (zgb rfl) (fun hg => zld (n := 2) (zcd (zt rfl) hg) zk rfl rfl rfl rfl rfl) ?_
            refine zg rfl rfl rfl rfl (zgb rfl) (fun hg => zld (n := 2) (zt rfl) zk rfl rfl rfl rfl rfl) ?_
            refine zg rfl rfl rfl rfl (zgb rfl) (fun hg => zcl zhf (hc (zcd (zt rfl) hg) (hc (zcd (zt rfl) hg) (hc (zcd (zt rfl) hg) hz))) (rs := []) (bxs := []) zdc bz (c_trustquorumref23_Prepares e.p e.q ⟨e.high, e.b.v⟩) rfl rfl rfl (fun d b hd hl => by obtain ⟨rfl, rfl⟩ := hd; rfl)) ?_
            refine zg rfl rfl rfl rfl (zgb rfl) (fun hg => op_not (zcd (zt rfl) hg) rfl rfl) ?_
            refine zc rfl (zan (zt rfl) (zt rfl) (.inl zb0) rfl ?_)
            refine zn0 ?_
            refine zwc (zt rfl) (fun h6 => ?_) (fun h6 => ?_)
            · skip
              refine zsr ?_
              refine zc rfl (zas zb0 rfl ?_)
              refine zn0 ?_
              refine zwr ?_
              refine ztr ?_
              refine blk_ret ?_
              refine ztr ?_
              refine zpr [] (res1 (zrt rfl)) rfl lz ?_
              have he : e.validR = false := by rw [Env.validR, if_neg h1b, if_pos k1, if_neg h3b, if_neg h4b, if_neg h5b, if_pos (show e.c6 = true from h6)]
              rw [he]
              exact ⟨rfl, rfl⟩
            · skip
              have h6b : ¬ e.c6 = true := by rw [show e.c6 = false from h6]; simp
              refine zws ?_
              refine ztn ?_
              refine zsr ?_
              refine zc rfl (zfa (o := 13) (zt rfl) zk rfl ?_)
              refine zc rfl (zl1 (zt rfl) zk rfl rfl rfl ?_)
              refine zc rfl (zcm (zt rfl) (zi zdc) rfl rfl ?_)
              refine zc rfl (zmv (zt rfl) rfl ?_)
              refine zg rfl rfl rfl rfl (zgb rfl) (fun hg => zfa (o := 9) (zt rfl) zk rfl rfl) ?_
              refine zg rfl rfl rfl rfl (zgb rfl) (fun hg => zld (n := 2) (zcd (zt rfl) hg) zk rfl rfl rfl rfl rfl) ?_
              refine zg rfl rfl rfl rfl (zgb rfl) (fun hg => zld (n := 2) (zt rfl) zk rfl rfl rfl rfl rfl) ?_
              refine zg rfl rfl rfl rfl (zgb rfl) (fun hg => zcl zhf (hc (zcd (zt rfl) hg) (hc (zcd (zt rfl) hg) hz)) (rs := []) (bxs := []) zdc bz (c_trustquorumref23_Aborts e.p ⟨e.low, e.b.v⟩) rfl rfl rfl (fun d b hd hl => by obtain ⟨rfl, rfl⟩ := hd; rfl)) ?_
              refine zg rfl rfl rfl rfl (zgb rfl) (fun hg => op_not (zcd (zt rfl) hg) rfl rfl) ?_
              refine zg rfl rfl rfl rfl (zgb rfl) (fun hg => zmv (zcd (zt rfl) hg) rfl rfl) ?_
              refine zg rfl rfl rfl rfl (guard_cond rfl) (fun hg => zfa (o := 11) (zt rfl) zk rfl rfl) ?_
              refine zg rfl rfl rfl rfl (guard_cond rfl) (fun hg => zld (n := 2) (zcd (zt rfl) hg) zk rfl rfl rfl rfl rfl) ?_
              refine zg rfl rfl rfl rfl (guard_cond rfl) (fun hg => zld (n := 2) (zt rfl) zk rfl rfl rfl rfl rfl) ?_
              refine zg rfl rfl rfl rfl (guard_cond rfl) (fun hg => zcl zhf (hc (zcd (zt rfl) hg) (hc (zcd (zt rfl) hg) hz)) (rs := []) (bxs := []) zdc bz (c_trustquorumref23_Aborts e.q ⟨e.low, e.b.v⟩) rfl rfl rfl (fun d b hd hl => by obtain ⟨rfl, rfl⟩ := hd; rfl)) ?_
              refine zg rfl rfl rfl rfl (guard_cond rfl) (fun hg => op_not (zcd (zt rfl) hg) rfl rfl) ?_
              refine zg rfl rfl rfl rfl (zgb rfl) (fun hg => zan (zcd (zt rfl) hg) (has_cond_and (zt rfl) hg) (.inl zb0) rfl rfl) ?_
              refine zc rfl (zor (zt rfl) (.inl zb0) (zt rfl) rfl ?_)
              refine zc rfl (zas (zt rfl) rfl ?_)
              refine zn0 ?_
              refine zwr ?_
              refine blk_ret ?_
              refine ztr ?_
              refine zpr [] (res1 (zrt rfl)) rfl lz ?_
              have he : e.validR = e.c7 := by rw [Env.validR, if_neg h1b, if_pos k1, if_neg h3b, if_neg h4b, if_neg h5b, if_neg h6b]
              rw [he]
              exact ⟨rfl, rfl⟩
    · skip
      have n1 : ¬ e.kind = 1 := by simpa using h2
      refine zsr ?_
      refine zc rfl (zcm (zt rfl) (zi zdc) rfl rfl ?_)
      refine zc rfl (zas (zt rfl) rfl ?_)
      refine zn0 ?_
      refine zwc (zt rfl) (fun h7 => ?_) (fun h7 => ?_)
      · skip
        have k2 : e.kind = 2 := by simpa using h7
        refine zsr ?_
        refine zc rfl (zfa (o := 7) (zt rfl) zk rfl ?_)
        refine zc rfl (zfa (o := 0) (zt rfl) zk rfl ?_)
        refine zc rfl (zl1 (zt rfl) zk rfl rfl rfl ?_)
        refine zc rfl (zcm (zt rfl) (zi zdc) rfl rfl ?_)
        refine zc rfl (zmv (zt rfl) rfl ?_)
        refine zg rfl rfl rfl rfl (zgb rfl) (fun hg => zfa (o := 9) (zt rfl) zk rfl rfl) ?_
        refine zg rfl rfl rfl rfl (zgb rfl) (fun hg => zld (n := 2) (zcd (zt rfl) hg) zk rfl rfl rfl rfl rfl) ?_
        refine zg rfl rfl rfl rfl (zgb rfl) (fun hg => zcl zhf (hc (zcd (zt rfl) hg) hz) (rs := []) (bxs := []) zdc bz (c_trustquorumref23_Valid e.p) rfl rfl rfl (fun d b hd hl => by obtain ⟨rfl, rfl⟩ := hd; rfl)) ?_
        refine zc rfl (zan (zt rfl) (zt rfl) (.inl zb0) rfl ?_)
        refine zc rfl (zmv (zt rfl) rfl ?_)
        refine zg rfl rfl rfl rfl (zgb rfl) (fun hg => zfa (o := 9) (zt rfl) zk rfl rfl) ?_
        refine zg rfl rfl rfl rfl (zgb rfl) (fun hg => zld (n := 2) (zcd (zt rfl) hg) zk rfl rfl rfl rfl rfl) ?_
        refine zg rfl rfl rfl rfl (zgb rfl) (fun hg => zfa (o := 7) (zt rfl) zk rfl rfl) ?_
        refine zg rfl rfl rfl rfl (zgb rfl) (fun hg => zld (n := 2) (zcd (zt rfl) hg) zk rfl rfl rfl rfl rfl) ?_
        refine zg rfl rfl rfl rfl (zgb rfl) (fun hg => zcl zhf (hc (zcd (zt rfl) hg) (hc (zcd (zt rfl) hg) hz)) (rs := []) (bxs := []) zdc bz (c_trustquorumref23_Compatible e.p e.b) rfl rfl rfl (fun d b hd hl => by obtain ⟨rfl, rfl⟩ := hd; rfl)) ?_
        refine zc rfl (zan (zt rfl) (zt rfl) (.inl zb0) rfl ?_)
        refine zc rfl (zmv (zt rfl) rfl ?_)
        refine zg rfl rfl rfl rfl (zgb rfl) (fun hg => zfa (o := 11) (zt rfl) zk rfl rfl) ?_
        refine zg rfl rfl rfl rfl (zgb rfl) (fun hg => zld (n := 2) (zcd (zt rfl) hg) zk rfl rfl rfl rfl rfl) ?_
        refine zg rfl rfl rfl rfl (zgb rfl) (fun hg => zcl zhf (hc (zcd (zt rfl) hg) hz) (rs := []) (bxs := []) zdc bz (c_trustquorumref23_Zero e.q) rfl rfl rfl (fun d b hd hl => by obtain ⟨rfl, rfl⟩ := hd; rfl)) ?_
        refine zc rfl (zan (zt rfl) (zt rfl) (.inl zb0) rfl ?_)
        refine zc rfl (zmv (zt rfl) rfl ?_)
        refine zg rfl rfl rfl rfl (zgb rfl) (fun hg => zfa (o := 13) (zt rfl) zk rfl rfl) ?_
        refine zg rfl rfl rfl rfl (zgb rfl) (fun hg => zl1 (zcd (zt rfl) hg) zk rfl rfl rfl rfl) ?_
        refine zg rfl rfl rfl rfl (zgb rfl) (fun hg => zcm (zcd (zt rfl) hg) (zi zdc) rfl rfl rfl) ?_
        refine zc rfl (zan (zt rfl) (zt rfl) (.inl zb0) rfl ?_)
        refine zc rfl (zmv (zt rfl) rfl ?_)
        refine zg rfl rfl rfl rfl (zgb rfl) (fun hg => zfa (o := 13) (zt rfl) zk rfl rfl) ?_
        refine zg rfl rfl rfl rfl (zgb rfl) (fun hg => zl1 (zcd (zt rfl) hg) zk rfl rfl rfl rfl) ?_
        refine zg rfl rfl rfl rfl (zgb rfl) (fun hg => zfa (o := 14) (zt rfl) zk rfl rfl) ?_
        refine zg rfl rfl rfl rfl (zgb rfl) (fun hg => zl1 (zcd (zt rfl) hg) zk rfl rfl rfl rfl) ?_
        refine zg rfl rfl rfl rfl (zgb rfl) (fun hg => zcm (zcd (zt rfl) hg) (zcd (zt rfl) hg) rfl rfl rfl) ?_
        refine zc rfl (zan (zt rfl) (zt rfl) (.inl zb0) rfl ?_)
        refine zc rfl (zmv (zt rfl) rfl ?_)
        refine zg rfl rfl rfl rfl (zgb rfl) (fun hg => zfa (o := 14) (zt rfl) zk rfl rfl) ?_
        refine zg rfl rfl rfl rfl (zgb rfl) (fun hg => zl1 (zcd (zt rfl) hg) zk rfl rfl rfl rfl) ?_
        refine zg rfl rfl rfl rfl (zgb rfl) (fun hg => zfa (o := 9) (zt rfl) zk rfl rfl) ?_
        refine zg rfl rfl rfl rfl (zgb rfl) (fun hg => zfa (o := 0) (zcd (zt rfl) hg) zk rfl rfl) ?_
        refine zg rfl rfl rfl rfl (zgb rfl) (fun hg => zl1 (zcd (zt rfl) hg) zk rfl rfl rfl rfl) ?_
        refine zg rfl rfl rfl rfl (zgb rfl) (fun hg => zcm (zcd (zt rfl) hg) (zcd (zt rfl) hg) rfl rfl rfl) ?_
        refine zc rfl (zan (zt rfl) (zt rfl) (.inl zb0) rfl ?_)
        refine zc rfl (zmv (zt rfl) rfl ?_)
        refine zg rfl rfl rfl rfl (zgb rfl) (fun hg => zfa (o := 14) (zt rfl) zk rfl rfl) ?_
        refine zg rfl rfl rfl rfl (zgb rfl) (fun hg => zl1 (zcd (zt rfl) hg) zk rfl rfl rfl rfl) ?_
        refine zg rfl rfl rfl rfl (zgb rfl) (fun hg => zcm (zcd (zt rfl) hg) (zi zdc) rfl rfl rfl) ?_
        refine zc rfl (zan (zt rfl) (zt rfl) (.inl zb0) rfl ?_)
        refine zc rfl (zas (zt rfl) rfl ?_)
        refine zn0 ?_
        refine zwr ?_
        refine blk_ret ?_
        refine ztr ?_
        refine zpr [] (res1 (zrt rfl)) rfl lz ?_
        have he : e.validR = e.c8 := by rw [Env.validR, if_neg h1b, if_neg n1, if_pos k2]
        rw [he]
        exact ⟨rfl, rfl⟩
      · skip
        have n2 : ¬ e.kind = 2 := by simpa using h7
        refine zsr ?_
        refine zc rfl (zcm (zt rfl) (zi zdc) rfl rfl ?_)
        refine zc rfl (zas (zt rfl) rfl ?_)
        refine zn0 ?_
        refine zwc (zt rfl) (fun h8 => ?_) (fun h8 => ?_)
        · skip
          have k3 : e.kind = 3 := by simpa using h8
          refine zsr ?_
          refine zc rfl (zmv (zt rfl) rfl ?_)
          refine zc rfl (zmv (zt rfl) rfl ?_)
          refine zg rfl rfl rfl rfl (zgb rfl) (fun hg => zfa (o := 11) (zt rfl) zk rfl rfl) ?_
          refine zg rfl rfl rfl rfl (zgb rfl) (fun hg => zld (n := 2) (zcd (zt rfl) hg) zk rfl rfl rfl rfl rfl) ?_
          refine zg rfl rfl rfl rfl (zgb rfl) (fun hg => zcl zhf (hc (zcd (zt rfl) hg) hz) (rs := []) (bxs := []) zdc bz (c_trustquorumref23_Zero e.q) rfl rfl rfl (fun d b hd hl => by obtain ⟨rfl, rfl⟩ := hd; rfl)) ?_
          refine zc rfl (zan (zt rfl) (zt rfl) (.inl zb0) rfl ?_)
          refine zc rfl (zmv (zt rfl) rfl ?_)
          refine zg rfl rfl rfl rfl (zgb rfl) (fun hg => zfa (o := 13) (zt rfl) zk rfl rfl) ?_
          refine zg rfl rfl rfl rfl (zgb rfl) (fun hg => zl1 (zcd (zt rfl) hg) zk rfl rfl rfl rfl) ?_
          refine zg rfl rfl rfl rfl (zgb rfl) (fun hg => zcm (zcd (zt rfl) hg) (zi zdc) rfl rfl rfl) ?_
          refine zc rfl (zan (zt rfl) (zt rfl) (.inl zb0) rfl ?_)
          refine zc rfl (zmv (zt rfl) rfl ?_)
          refine zg rfl rfl rfl rfl (zgb rfl) (fun hg => zfa (o := 13) (zt rfl) zk rfl rfl) ?_
          refine zg rfl rfl rfl rfl (zgb rfl) (fun hg => zl1 (zcd (zt rfl) hg) zk rfl rfl rfl rfl) ?_
          refine zg rfl rfl rfl rfl (zgb rfl) (fun hg => zfa (o := 14) (zt rfl) zk rfl rfl) ?_
          refine zg rfl rfl rfl rfl (zgb rfl) (fun hg => zl1 (zcd (zt rfl) hg) zk rfl rfl rfl rfl) ?_
          refine zg rfl rfl rfl rfl (zgb rfl) (fun hg => zcm (zcd (zt rfl) hg) (zcd (zt rfl) hg) rfl rfl rfl) ?_
          refine zc rfl (zan (zt rfl) (zt rfl) (.inl zb0) rfl ?_)
          refine zc rfl (zmv (zt rfl) rfl ?_)
          refine zg rfl rfl rfl rfl (zgb rfl) (fun hg => zfa (o := 14) (zt rfl) zk rfl rfl) ?_
          refine zg rfl rfl rfl rfl (zgb rfl) (fun hg => zl1 (zcd (zt rfl) hg) zk rfl rfl rfl rfl) ?_
          refine zg rfl rfl rfl rfl (zgb rfl) (fun hg => zcm (zcd (zt rfl) hg) (zi zdc) rfl rfl rfl) ?_
          refine zc rfl (zan (zt rfl) (zt rfl) (.inl zb0) rfl ?_)
          refine zc rfl (zas (zt rfl) rfl ?_)
          refine zn0 ?_
          refine zwr ?_
          refine blk_ret ?_
          refine ztr ?_
          refine zpr [] (res1 (zrt rfl)) rfl lz ?_
          have he : e.validR = e.c9 := by rw [Env.validR, if_neg h1b, if_neg n1, if_neg n2, if_pos k3]
          rw [he]
          exact ⟨rfl, rfl⟩
        · skip
          have n3 : ¬ e.kind = 3 := by simpa using h8
          refine zws ?_
          refine zbn ?_
          refine ztn ?_
          refine zsr ?_
          refine zc rfl (zas zb0 rfl ?_)
          refine zn0 ?_
          refine zwr ?_
          refine zpr [] (res1 (zrt rfl)) rfl lz ?_
          have he : e.validR = false := by rw [Env.validR, if_neg h1b, if_neg n1, if_neg n2, if_neg n3]
          rw [he]
          exact ⟨rfl, rfl⟩


def Ballot.finite (b : Ballot) : Bool := b.valid && decide (b.c ≤ 1000)
def Ballot.optional (b : Ballot) : Bool := b.isZero || b.valid
def Env.prime (e : Env) : Bool := e.q.isZero || ((!e.p.isZero && e.q.less e.p) && !e.q.compat e.p)
def Env.d1 (e : Env) : Bool := ((((((!e.b.finite || !e.p.optional) || !e.q.optional) || !e.prime) || decide (e.low < 0)) || decide (e.high < e.low)) || decide (e.b.c < e.high))
def Env.d2 (e : Env) : Bool := (decide (e.high = 0) || e.p.prepares e.q ⟨e.high, e.b.v⟩) && (decide (e.low = 0) || (!e.p.aborts ⟨e.low, e.b.v⟩ && !e.q.aborts ⟨e.low, e.b.v⟩))
def Env.prepares (e : Env) : Bool := if e.d1 = true then false else e.d2
def Env.e1 (e : Env) : Bool := ((((((decide (e.node < 0) || decide (10 ≤ e.node)) || decide (e.slot < 1)) || decide (1000000 < e.slot)) || decide (e.seq < 1)) || decide (1000000 < e.seq)) || !decide (e.trust.valid = 0))
def Env.ranged (e : Env) : Bool := (decide (1 ≤ e.low) && decide (e.low ≤ e.high)) && decide (e.high ≤ 1000)
def Env.e8 (e : Env) : Bool := ((((e.b.finite && e.p.valid) && e.p.compat e.b) && e.q.isZero) && e.ranged) && decide (e.high ≤ e.p.c)
def Env.e9 (e : Env) : Bool := ((e.b.valid && e.p.isZero) && e.q.isZero) && e.ranged
def Env.validP (e : Env) : Bool := if e.e1 = true then false else if e.kind = 1 then e.prepares else if e.kind = 2 then e.e8 else if e.kind = 3 then e.e9 else false

theorem c_envelopes_finite (b : Ballot) : ACalls Tryz.prog 82 [.aggd (b).d] [] fun dd bb => dd = VB (b.finite) ∧ bb = [] := by
  refine zai Tryz.func82 rfl Tryz.ntmps82 (by rw [Tryz.results82]) rfl rfl (fun w0 A0 X => ?_)
  refine zsr ?_
  refine zc rfl (zbx (zt rfl) rfl rfl ?_)
  refine zc rfl (zas zb0 rfl ?_)
  refine zn0 ?_
  refine zsr ?_
  refine zc rfl (zld (n := 2) (zt rfl) zk rfl rfl rfl rfl ?_)
  refine zc rfl (zcl zhf (hc (zt rfl) hz) (rs := []) (bxs := []) zdc bz (c_ballots_Valid b) rfl rfl rfl (fun d b hd hl => ?_))
  obtain ⟨rfl, rfl⟩ := hd
  refine zc rfl (zmv (zt rfl) rfl ?_)
  refine zg rfl rfl rfl rfl (zgb rfl) (fun hg => zfa (o := 0) (zt rfl) zk rfl rfl) ?_
  refine zg rfl rfl rfl rfl (zgb rfl) (fun hg => zl1 (zcd (zt rfl) hg) zk rfl rfl rfl rfl) ?_
  refine zg rfl rfl rfl rfl (zgb rfl) (fun hg => zcm (zcd (zt rfl) hg) (zi zdc) rfl rfl rfl) ?_
  refine zc rfl (zan (zt rfl) (zt rfl) (.inl zb0) rfl ?_)
  refine zc rfl (zas (zt rfl) rfl ?_)
  refine zn0 ?_
  refine zwr ?_
  refine zpr [] (res1 (zrt rfl)) rfl lz ?_
  exact ⟨rfl, rfl⟩

theorem c_envelopes_optional (b : Ballot) : ACalls Tryz.prog 111 [.aggd (b).d] [] fun dd bb => dd = VB (b.optional) ∧ bb = [] := by
  refine zai Tryz.func111 rfl Tryz.ntmps111 (by rw [Tryz.results111]) rfl rfl (fun w0 A0 X => ?_)
  refine zsr ?_
  refine zc rfl (zbx (zt rfl) rfl rfl ?_)
  refine zc rfl (zas zb0 rfl ?_)
  refine zn0 ?_
  refine zsr ?_
  refine zc rfl (zld (n := 2) (zt rfl) zk rfl rfl rfl rfl ?_)
  refine zc rfl (zcl zhf (hc (zt rfl) hz) (rs := []) (bxs := []) zdc bz (c_ballots_Zero b) rfl rfl rfl (fun d b hd hl => ?_))
  obtain ⟨rfl, rfl⟩ := hd
  refine zc rfl (zmv (zt rfl) rfl ?_)
  refine zg rfl rfl rfl rfl (zgb rfl) (fun hg => zld (n := 2) (zt rfl) zk rfl rfl rfl rfl rfl) ?_
  refine zg rfl rfl rfl rfl (zgb rfl) (fun hg => zcl zhf (hc (zcd (zt rfl) hg) hz) (rs := []) (bxs := []) zdc bz (c_ballots_Valid b) rfl rfl rfl (fun d b hd hl => by obtain ⟨rfl, rfl⟩ := hd; rfl)) ?_
  refine zc rfl (zor (zt rfl) (.inl zb0) (zt rfl) rfl ?_)
  refine zc rfl (zas (zt rfl) rfl ?_)
  refine zn0 ?_
  refine zwr ?_
  refine zpr [] (res1 (zrt rfl)) rfl lz ?_
  exact ⟨rfl, rfl⟩

theorem c_envelopes_at (e : Env) (n : Int) : ACalls Tryz.prog 112 [.aggd e.d, VI n] [] fun dd bb => dd = .aggd (Ballot.mk n e.b.v).d ∧ bb = [] := by
  refine zai Tryz.func112 rfl Tryz.ntmps112 (by rw [Tryz.results112]) rfl rfl (fun w0 A0 X => ?_)
  refine zsr ?_
  refine zc rfl (zbx (zt rfl) rfl rfl ?_)
  refine zc rfl (zal (cs := [.dat (.int .i64 0), .dat (.str ⟨#[]⟩)]) zk rfl ?_)
  refine zn0 ?_
  refine zsr ?_
  refine zc rfl (zmv (zt rfl) rfl ?_)
  refine zc rfl (zfa (o := 7) (zt rfl) zk rfl ?_)
  refine zc rfl (zfa (o := 1) (zt rfl) zk rfl ?_)
  refine zc rfl (zl1 (zt rfl) zk rfl rfl rfl ?_)
  refine zc rfl (zbd (ps := [(_, _), (_, _)]) (qs := [(_, _), (_, _)]) (zs := [.dat (.int .i64 0), .dat (.str ⟨#[]⟩)]) (pl := [(0, 1), (1, 1)]) (pc (zt rfl) rfl (pc (zt rfl) rfl pz)) zk zk rfl rfl ?_)
  refine zc rfl (zst (n := 2) (zt rfl) (zt rfl) rfl (.inl zk) rfl rfl (zbl rfl) ?_)
  refine zn0 ?_
  refine zwr ?_
  refine zpr [] (res1 (ri_agg (n := 2) rfl rfl zk rfl)) rfl lz ?_
  exact ⟨rfl, rfl⟩

theorem c_envelopes_prepares (e : Env) : ACalls Tryz.prog 81 [.aggd e.d] [] fun dd bb => dd = VB (e.prepares) ∧ bb = [] := by
  refine zai Tryz.func81 rfl Tryz.ntmps81 (by rw [Tryz.results81]) rfl rfl (fun w0 A0 X => ?_)
  refine zsr ?_
  refine zc rfl (zbx (zt rfl) rfl rfl ?_)
  refine zc rfl (zas zb0 rfl ?_)
  refine zn0 ?_
  refine zsr ?_
  refine zc rfl (zfa (o := 11) (zt rfl) zk rfl ?_)
  refine zc rfl (zld (n := 2) (zt rfl) zk rfl rfl rfl rfl ?_)
  refine zc rfl (zcl zhf (hc (zt rfl) hz) (rs := []) (bxs := []) zdc bz (c_ballots_Zero e.q) rfl rfl rfl (fun d b hd hl => ?_))
  obtain ⟨rfl, rfl⟩ := hd
  refine zc rfl (zmv (zt rfl) rfl ?_)
  refine zg rfl rfl rfl rfl (zgb rfl) (fun hg => zfa (o := 9) (zt rfl) zk rfl rfl) ?_
  refine zg rfl rfl rfl rfl (zgb rfl) (fun hg => zld (n := 2) (zcd (zt rfl) hg) zk rfl rfl rfl rfl rfl) ?_
  refine zg rfl rfl rfl rfl (zgb rfl) (fun hg => zcl zhf (hc (zcd (zt rfl) hg) hz) (rs := []) (bxs := []) zdc bz (c_ballots_Zero e.p) rfl rfl rfl (fun d b hd hl => by obtain ⟨rfl, rfl⟩ := hd; rfl)) ?_
  refine zg rfl rfl rfl rfl (zgb rfl) (fun hg => op_not (zcd (zt rfl) hg) rfl rfl) ?_
  refine zg rfl rfl rfl rfl (zgb rfl) (fun hg => zmv (zcd (zt rfl) hg) rfl rfl) ?_
  refine zg rfl rfl rfl rfl (guard_cond rfl) (fun hg => zfa (o := 11) (zt rfl) zk rfl rfl) ?_
  refine zg rfl rfl rfl rfl (guard_cond rfl) (fun hg => zld (n := 2) (zcd (zt rfl) hg) zk rfl rfl rfl rfl rfl) ?_
  refine zg rfl rfl rfl rfl (guard_cond rfl) (fun hg => zfa (o := 9) (zt rfl) zk rfl rfl) ?_
  refine zg rfl rfl rfl rfl (guard_cond rfl) (fun hg => zld (n := 2) (zcd (zt rfl) hg) zk rfl rfl rfl rfl rfl) ?_
  refine zg rfl rfl rfl rfl (guard_cond rfl) (fun hg => zcl zhf (hc (zcd (zt rfl) hg) (hc (zcd (zt rfl) hg) hz)) (rs := []) (bxs := []) zdc bz (c_ballots_Less e.q e.p) rfl rfl rfl (fun d b hd hl => by obtain ⟨rfl, rfl⟩ := hd; rfl)) ?_
  refine zg rfl rfl rfl rfl (zgb rfl) (fun hg => zan (zcd (zt rfl) hg) (has_cond_and (zt rfl) hg) (.inl zb0) rfl rfl) ?_
  refine zg rfl rfl rfl rfl (zgb rfl) (fun hg => zmv (zcd (zt rfl) hg) rfl rfl) ?_
  refine zg rfl rfl rfl rfl (guard_cond rfl) (fun hg => zfa (o := 11) (zt rfl) zk rfl rfl) ?_
  refine zg rfl rfl rfl rfl (guard_cond rfl) (fun hg => zld (n := 2) (zcd (zt rfl) hg) zk rfl rfl rfl rfl rfl) ?_
  refine zg rfl rfl rfl rfl (guard_cond rfl) (fun hg => zfa (o := 9) (zt rfl) zk rfl rfl) ?_
  refine zg rfl rfl rfl rfl (guard_cond rfl) (fun hg => zld (n := 2) (zcd (zt rfl) hg) zk rfl rfl rfl rfl rfl) ?_
  refine zg rfl rfl rfl rfl (guard_cond rfl) (fun hg => zcl zhf (hc (zcd (zt rfl) hg) (hc (zcd (zt rfl) hg) hz)) (rs := []) (bxs := []) zdc bz (c_ballots_Compatible e.q e.p) rfl rfl rfl (fun d b hd hl => by obtain ⟨rfl, rfl⟩ := hd; rfl)) ?_
  refine zg rfl rfl rfl rfl (guard_cond rfl) (fun hg => op_not (zcd (zt rfl) hg) rfl rfl) ?_
  refine zg rfl rfl rfl rfl (zgb rfl) (fun hg => zan (zcd (zt rfl) hg) (has_cond_and (zt rfl) hg) (.inl zb0) rfl rfl) ?_
  refine zc rfl (zor (zt rfl) (.inl zb0) (zt rfl) rfl ?_)
  refine zc rfl (zas (zt rfl) rfl ?_)
  refine zn0 ?_
  refine zw2 ?_
  refine zsr ?_
  refine zc rfl (zfa (o := 7) (zt rfl) zk rfl ?_)
  refine zc rfl (zld (n := 2) (zt rfl) zk rfl rfl rfl rfl ?_)
  refine zc rfl (zcl zhf (hc (zt rfl) hz) (rs := []) (bxs := []) zdc bz (c_envelopes_finite e.b) rfl rfl rfl (fun d b hd hl => ?_))
  obtain ⟨rfl, rfl⟩ := hd
  refine zc rfl (op_not (zt rfl) rfl ?_)
  refine zc rfl (zmv (zt rfl) rfl ?_)
  refine zg rfl rfl rfl rfl (zgb rfl) (fun hg => zfa (o := 9) (zt rfl) zk rfl rfl) ?_
  refine zg rfl rfl rfl rfl (zgb rfl) (fun hg => zld (n := 2) (zcd (zt rfl) hg) zk rfl rfl rfl rfl rfl) ?_
  refine zg rfl rfl rfl rfl (zgb rfl) (fun hg => zcl zhf (hc (zcd (zt rfl) hg) hz) (rs := []) (bxs := []) zdc bz (c_envelopes_optional e.p) rfl rfl rfl (fun d b hd hl => by obtain ⟨rfl, rfl⟩ := hd; rfl)) ?_
  refine zg rfl rfl rfl rfl (zgb rfl) (fun hg => op_not (zcd (zt rfl) hg) rfl rfl) ?_
  refine zc rfl (zor (zt rfl) (.inl zb0) (zt rfl) rfl ?_)
  refine zc rfl (zmv (zt rfl) rfl ?_)
  refine zg rfl rfl rfl rfl (zgb rfl) (fun hg => zfa (o := 11) (zt rfl) zk rfl rfl) ?_
  refine zg rfl rfl rfl rfl (zgb rfl) (fun hg => zld (n := 2) (zcd (zt rfl) hg) zk rfl rfl rfl rfl rfl) ?_
  refine zg rfl rfl rfl rfl (zgb rfl) (fun hg => zcl zhf (hc (zcd (zt rfl) hg) hz) (rs := []) (bxs := []) zdc bz (c_envelopes_optional e.q) rfl rfl rfl (fun d b hd hl => by obtain ⟨rfl, rfl⟩ := hd; rfl)) ?_
  refine zg rfl rfl rfl rfl (zgb rfl) (fun hg => op_not (zcd (zt rfl) hg) rfl rfl) ?_
  refine zc rfl (zor (zt rfl) (.inl zb0) (zt rfl) rfl ?_)
  refine zc rfl (zmv (zt rfl) rfl ?_)
  refine zg rfl rfl rfl rfl (zgb rfl) (fun hg => zmv (zt rfl) rfl rfl) ?_
  refine zg rfl rfl rfl rfl (zgb rfl) (fun hg => op_not (zcd (zt rfl) hg) rfl rfl) ?_
  refine zc rfl (zor (zt rfl) (.inl zb0) (zt rfl) rfl ?_)
  refine zc rfl (zmv (zt rfl) rfl ?_)
  refine zg rfl rfl rfl rfl (zgb rfl) (fun hg => zfa (o := 13) (zt rfl) zk rfl rfl) ?_
  refine zg rfl rfl rfl rfl (zgb rfl) (fun hg => zl1 (zcd (zt rfl) hg) zk rfl rfl rfl rfl) ?_
  refine zg rfl rfl rfl rfl (zgb rfl) (fun hg => zcm (zcd (zt rfl) hg) (zi zdc) rfl rfl rfl) ?_
  refine zc rfl (zor (zt rfl) (.inl zb0) (zt rfl) rfl ?_)
  refine zc rfl (zmv (zt rfl) rfl ?_)
  refine zg rfl rfl rfl rfl (zgb rfl) (fun hg => zfa (o := 14) (zt rfl) zk rfl rfl) ?_
  refine zg rfl rfl rfl rfl (zgb rfl) (fun hg => zl1 (zcd (zt rfl) hg) zk rfl rfl rfl rfl) ?_
  refine zg rfl rfl rfl rfl (zgb rfl) (fun hg => zfa (o := 13) (zt rfl) zk rfl rfl) ?_
  refine zg rfl rfl rfl rfl (zgb rfl) (fun hg => zl1 (zcd (zt rfl) hg) zk rfl rfl rfl rfl) ?_
  refine zg rfl rfl rfl rfl (zgb rfl) (fun hg => zcm (zcd (zt rfl) hg) (zcd (zt rfl) hg) rfl rfl rfl) ?_
  refine zc rfl (zor (zt rfl) (.inl zb0) (zt rfl) rfl ?_)
  refine zc rfl (zmv (zt rfl) rfl ?_)
  refine zg rfl rfl rfl rfl (zgb rfl) (fun hg => zfa (o := 14) (zt rfl) zk rfl rfl) ?_
  refine zg rfl rfl rfl rfl (zgb rfl) (fun hg => zl1 (zcd (zt rfl) hg) zk rfl rfl rfl rfl) ?_
  refine zg rfl rfl rfl rfl (zgb rfl) (fun hg => zfa (o := 7) (zt rfl) zk rfl rfl) ?_
  refine zg rfl rfl rfl rfl (zgb rfl) (fun hg => zfa (o := 0) (zcd (zt rfl) hg) zk rfl rfl) ?_
  refine zg rfl rfl rfl rfl (zgb rfl) (fun hg => zl1 (zcd (zt rfl) hg) zk rfl rfl rfl rfl) ?_
  refine zg rfl rfl rfl rfl (zgb rfl) (fun hg => zcm (zcd (zt rfl) hg) (zcd (zt rfl) hg) rfl rfl rfl) ?_
  refine zc rfl (zor (zt rfl) (.inl zb0) (zt rfl) rfl ?_)
  refine zn0 ?_
  refine zwc (zt rfl) (fun h1 => ?_) (fun h1 => ?_)
  · skip
    refine zsr ?_
    refine zc rfl (zas zb0 rfl ?_)
    refine zn0 ?_
    refine zwr ?_
    refine ztr ?_
    refine zpr [] (res1 (zrt rfl)) rfl lz ?_
    have he : e.prepares = false := by rw [Env.prepares, if_pos (show e.d1 = true from h1)]
    rw [he]
    exact ⟨rfl, rfl⟩
  · skip
    have h1b : ¬ e.d1 = true := by rw [show e.d1 = false from h1]; simp
    refine zws ?_
    refine ztn ?_
    refine zsr ?_
    refine zc rfl (zld (n := 15) (zt rfl) zk rfl rfl rfl rfl ?_)
    refine zc rfl (zfa (o := 13) (zt rfl) zk rfl ?_)
    refine zc rfl (zl1 (zt rfl) zk rfl rfl rfl ?_)
    refine zc rfl (zcl zhf (hc (zt rfl) (hc (zt rfl) hz)) (rs := []) (bxs := []) zdc bz (c_envelopes_at e e.low) rfl rfl rfl (fun d b hd hl => ?_))
    obtain ⟨rfl, rfl⟩ := hd
    refine zc rfl (zal (cs := [.dat (.int .i64 0), .dat (.str ⟨#[]⟩)]) zk rfl ?_)
    refine zc rfl (zst (n := 2) (zt rfl) (zt rfl) rfl (.inl zk) rfl rfl (zbl rfl) ?_)
    refine zn0 ?_
    refine awp_seq_drawT zk [] [] [0, 1, 3, 7, 15, 31, 15, 79, 15, 15, 527, 1807, 4095, 8191, 16383, 32767, 65535, 131071, 262143, 524287, 1048575, 524287, 4194303, 8388607, 16777215, 33554431, 67108863, 33554431, 268435455, 536870911, 1073741823, 2147483647, 4294967295, 8589934591] rfl
      (Trace.cons ⟨[(1, _)], [], [], [], [], [.slot 73 _]⟩ (prel (lsc rfl lsz) lbz ltz) (fun zs zp zn => (zgp rfl rfl (zfa (o := 14) (zt zp.1.1) zk rfl rfl))) <|
      Trace.cons ⟨[(73, _)], [(.o 1, _)], [], [], [], [.slot 74 _]⟩ (prel (lsc rfl lsz) (lbc rfl lbz) ltz) (fun zs zp zn => (zgp rfl rfl (zl1 (zt zp.1.1) zk zp.2.1.1 rfl rfl rfl))) <|
      Trace.cons ⟨[(74, _)], [], [], [], [], [.slot 75 _]⟩ (prel (lsc rfl lsz) lbz ltz) (fun zs zp zn => (zgp rfl rfl (zcm (zt zp.1.1) (zi zdc) rfl rfl rfl))) <|
      Trace.cons ⟨[(75, _)], [], [], [], [], [.slot 76 _]⟩ (prel (lsc rfl lsz) lbz ltz) (fun zs zp zn => (zgp rfl rfl (zmv (zt zp.1.1) rfl rfl))) <|
      Trace.cons ⟨[(76, _), (1, _)], [], [], [], [], [.slot 77 _]⟩ (prel (lsc rfl (lsc rfl lsz)) lbz ltz) (fun zs zp zn => (zgg rfl rfl rfl rfl rfl (zgb zp.1.1) (fun hg => zfa (o := 9) (zt zp.1.2.1) zk rfl rfl))) <|
      Trace.cons ⟨[(76, _), (77, _)], [(.o 1, _)], [], [], [], [.slot 78 _]⟩ (prel (lsc rfl (lsc rfl lsz)) (lbc rfl lbz) ltz) (fun zs zp zn => (zgg rfl rfl rfl rfl rfl (zgb zp.1.1) (fun hg => zld (n := 2) (zcd (zt zp.1.2.1) hg) zk zp.2.1.1 rfl rfl rfl rfl))) <|
      Trace.cons ⟨[(76, _), (1, _)], [], [], [], [], [.slot 79 _]⟩ (prel (lsc rfl (lsc rfl lsz)) lbz ltz) (fun zs zp zn => (zgg rfl rfl rfl rfl rfl (zgb zp.1.1) (fun hg => zfa (o := 11) (zt zp.1.2.1) zk rfl rfl))) <|
      Trace.cons ⟨[(76, _), (79, _)], [(.o 1, _)], [], [], [], [.slot 80 _]⟩ (prel (lsc rfl (lsc rfl lsz)) (lbc rfl lbz) ltz) (fun zs zp zn => (zgg rfl rfl rfl rfl rfl (zgb zp.1.1) (fun hg => zld (n := 2) (zcd (zt zp.1.2.1) hg) zk zp.2.1.1 rfl rfl rfl rfl))) <|
      Trace.cons ⟨[(76, _), (1, _)], [(.o 1, _)], [], [], [], [.slot 81 _]⟩ (prel (lsc rfl (lsc rfl lsz)) (lbc rfl lbz) ltz) (fun zs zp zn => (zgg rfl rfl rfl rfl rfl (zgb zp.1.1) (fun hg => zld (n := 15) (zt zp.1.2.1) zk zp.2.1.1 rfl rfl rfl rfl))) <|
      Trace.cons ⟨[(76, _), (1, _)], [], [], [], [], [.slot 82 _]⟩ (prel (lsc rfl (lsc rfl lsz)) lbz ltz) (fun zs zp zn => (zgg rfl rfl rfl rfl rfl (zgb zp.1.1) (fun hg => zfa (o := 14) (zt zp.1.2.1) zk rfl rfl))) <|
      Trace.cons ⟨[(76, _), (82, _)], [(.o 1, _)], [], [], [], [.slot 83 _]⟩ (prel (lsc rfl (lsc rfl lsz)) (lbc rfl lbz) ltz) (fun zs zp zn => (zgg rfl rfl rfl rfl rfl (zgb zp.1.1) (fun hg => zl1 (zcd (zt zp.1.2.1) hg) zk zp.2.1.1 rfl rfl rfl))) <|
      Trace.cons ⟨[(76, _), (81, _), (83, _)], [], [], [], [], [.slot 84 _]⟩ (prel (lsc rfl (lsc rfl (lsc rfl lsz))) lbz ltz) (fun zs zp zn => (zgg rfl rfl rfl rfl rfl (zgb zp.1.1) (fun hg => zcl zhf (hc (zcd (zt zp.1.2.1) hg) (hc (zcd (zt zp.1.2.2.1) hg) hz)) (rs := []) (bxs := []) zdc bz (c_envelopes_at e e.high) rfl rfl rfl (fun d b hd hl => by obtain ⟨rfl, rfl⟩ := hd; rfl)))) <|
      Trace.cons ⟨[(76, _), (78, _), (80, _), (84, _)], [], [], [], [], [.slot 85 _]⟩ (prel (lsc rfl (lsc rfl (lsc rfl (lsc rfl lsz)))) lbz ltz) (fun zs zp zn => (zgg rfl rfl rfl rfl rfl (zgb zp.1.1) (fun hg => zcl zhf (hc (zcd (zt zp.1.2.1) hg) (hc (zcd (zt zp.1.2.2.1) hg) (hc (zcd (zt zp.1.2.2.2.1) hg) hz))) (rs := []) (bxs := []) zdc bz (c_ballots_Prepares e.p e.q ⟨e.high, e.b.v⟩) rfl rfl rfl (fun d b hd hl => by obtain ⟨rfl, rfl⟩ := hd; rfl)))) <|
      Trace.cons ⟨[(76, _), (85, _)], [], [], [], [], [.slot 86 _]⟩ (prel (lsc rfl (lsc rfl lsz)) lbz ltz) (fun zs zp zn => (zgp rfl rfl (zor (zt zp.1.1) (.inl zb0) (zt zp.1.2.1) rfl rfl))) <|
      Trace.cons ⟨[(86, _)], [], [], [], [], [.slot 87 _]⟩ (prel (lsc rfl lsz) lbz ltz) (fun zs zp zn => (zgp rfl rfl (zmv (zt zp.1.1) rfl rfl))) <|
      Trace.cons ⟨[(87, _), (1, _)], [], [], [], [], [.slot 88 _]⟩ (prel (lsc rfl (lsc rfl lsz)) lbz ltz) (fun zs zp zn => (zgg rfl rfl rfl rfl rfl (zgb zp.1.1) (fun hg => zfa (o := 13) (zt zp.1.2.1) zk rfl rfl))) <|
      Trace.cons ⟨[(87, _), (88, _)], [(.o 1, _)], [], [], [], [.slot 89 _]⟩ (prel (lsc rfl (lsc rfl lsz)) (lbc rfl lbz) ltz) (fun zs zp zn => (zgg rfl rfl rfl rfl rfl (zgb zp.1.1) (fun hg => zl1 (zcd (zt zp.1.2.1) hg) zk zp.2.1.1 rfl rfl rfl))) <|
      Trace.cons ⟨[(87, _), (89, _)], [], [], [], [], [.slot 90 _]⟩ (prel (lsc rfl (lsc rfl lsz)) lbz ltz) (fun zs zp zn => (zgg rfl rfl rfl rfl rfl (zgb zp.1.1) (fun hg => zcm (zcd (zt zp.1.2.1) hg) (zi zdc) rfl rfl rfl))) <|
      Trace.cons ⟨[(87, _), (90, _)], [], [], [], [], [.slot 91 _]⟩ (prel (lsc rfl (lsc rfl lsz)) lbz ltz) (fun zs zp zn => (zgg rfl rfl rfl rfl rfl (zgb zp.1.1) (fun hg => zmv (zcd (zt zp.1.2.1) hg) rfl rfl))) <|
      Trace.cons ⟨[(91, _), (1, _)], [], [], [], [], [.slot 92 _]⟩ (prel (lsc rfl (lsc rfl lsz)) lbz ltz) (fun zs zp zn => (zgg rfl rfl rfl rfl rfl (guard_cond zp.1.1) (fun hg => zfa (o := 9) (zt zp.1.2.1) zk rfl rfl))) <|
      Trace.cons ⟨[(91, _), (92, _)], [(.o 1, _)], [], [], [], [.slot 93 _]⟩ (prel (lsc rfl (lsc rfl lsz)) (lbc rfl lbz) ltz) (fun zs zp zn => (zgg rfl rfl rfl rfl rfl (guard_cond zp.1.1) (fun hg => zld (n := 2) (zcd (zt zp.1.2.1) hg) zk zp.2.1.1 rfl rfl rfl rfl))) <|
      Trace.cons ⟨[(91, _), (4, _)], [(.o 4, _)], [], [], [], [.slot 94 _]⟩ (prel (lsc rfl (lsc rfl lsz)) (lbc rfl lbz) ltz) (fun zs zp zn => (zgg rfl rfl rfl rfl rfl (guard_cond zp.1.1) (fun hg => zld (n := 2) (zt zp.1.2.1) zk zp.2.1.1 rfl rfl rfl rfl))) <|
      Trace.cons ⟨[(91, _), (93, _), (94, _)], [], [], [], [], [.slot 95 _]⟩ (prel (lsc rfl (lsc rfl (lsc rfl lsz))) lbz ltz) (fun zs zp zn => (zgg rfl rfl rfl rfl rfl (guard_cond zp.1.1) (fun hg => zcl zhf (hc (zcd (zt zp.1.2.1) hg) (hc (zcd (zt zp.1.2.2.1) hg) hz)) (rs := []) (bxs := []) zdc bz (c_ballots_Aborts e.p ⟨e.low, e.b.v⟩) rfl rfl rfl (fun d b hd hl => by obtain ⟨rfl, rfl⟩ := hd; rfl)))) <|
      Trace.cons ⟨[(91, _), (95, _)], [], [], [], [], [.slot 96 _]⟩ (prel (lsc rfl (lsc rfl lsz)) lbz ltz) (fun zs zp zn => (zgg rfl rfl rfl rfl rfl (guard_cond zp.1.1) (fun hg => op_not (zcd (zt zp.1.2.1) hg) rfl rfl))) <|
      Trace.cons ⟨[(91, _), (96, _)], [], [], [], [], [.slot 97 _]⟩ (prel (lsc rfl (lsc rfl lsz)) lbz ltz) (fun zs zp zn => (zgg rfl rfl rfl rfl rfl (guard_cond zp.1.1) (fun hg => zmv (zcd (zt zp.1.2.1) hg) rfl rfl))) <|
      Trace.cons ⟨[(97, _), (1, _)], [], [], [], [], [.slot 98 _]⟩ (prel (lsc rfl (lsc rfl lsz)) lbz ltz) (fun zs zp zn => (zgg rfl rfl rfl rfl rfl (guard_cond zp.1.1) (fun hg => zfa (o := 11) (zt zp.1.2.1) zk rfl rfl))) <|
      Trace.cons ⟨[(97, _), (98, _)], [(.o 1, _)], [], [], [], [.slot 99 _]⟩ (prel (lsc rfl (lsc rfl lsz)) (lbc rfl lbz) ltz) (fun zs zp zn => (zgg rfl rfl rfl rfl rfl (guard_cond zp.1.1) (fun hg => zld (n := 2) (zcd (zt zp.1.2.1) hg) zk zp.2.1.1 rfl rfl rfl rfl))) <|
      Trace.cons ⟨[(97, _), (4, _)], [(.o 4, _)], [], [], [], [.slot 100 _]⟩ (prel (lsc rfl (lsc rfl lsz)) (lbc rfl lbz) ltz) (fun zs zp zn => (zgg rfl rfl rfl rfl rfl (guard_cond zp.1.1) (fun hg => zld (n := 2) (zt zp.1.2.1) zk zp.2.1.1 rfl rfl rfl rfl))) <|
      Trace.cons ⟨[(97, _), (99, _), (100, _)], [], [], [], [], [.slot 101 _]⟩ (prel (lsc rfl (lsc rfl (lsc rfl lsz))) lbz ltz) (fun zs zp zn => (zgg rfl rfl rfl rfl rfl (guard_cond zp.1.1) (fun hg => zcl zhf (hc (zcd (zt zp.1.2.1) hg) (hc (zcd (zt zp.1.2.2.1) hg) hz)) (rs := []) (bxs := []) zdc bz (c_ballots_Aborts e.q ⟨e.low, e.b.v⟩) rfl rfl rfl (fun d b hd hl => by obtain ⟨rfl, rfl⟩ := hd; rfl)))) <|
      Trace.cons ⟨[(97, _), (101, _)], [], [], [], [], [.slot 102 _]⟩ (prel (lsc rfl (lsc rfl lsz)) lbz ltz) (fun zs zp zn => (zgg rfl rfl rfl rfl rfl (guard_cond zp.1.1) (fun hg => op_not (zcd (zt zp.1.2.1) hg) rfl rfl))) <|
      Trace.cons ⟨[(91, _), (97, _), (102, _)], [], [], [], [], [.slot 103 _]⟩ (prel (lsc rfl (lsc rfl (lsc rfl lsz))) lbz ltz) (fun zs zp zn => (zgg rfl rfl rfl rfl rfl (guard_cond zp.1.1) (fun hg => zan (zcd (zt zp.1.2.1) hg) (has_cond_and (zt zp.1.2.2.1) hg) (.inl zb0) rfl rfl))) <|
      Trace.cons ⟨[(87, _), (91, _), (103, _)], [], [], [], [], [.slot 104 _]⟩ (prel (lsc rfl (lsc rfl (lsc rfl lsz))) lbz ltz) (fun zs zp zn => (zgg rfl rfl rfl rfl rfl (zgb zp.1.1) (fun hg => zor (zcd (zt zp.1.2.1) hg) (.inl zb0) (has_cond_and (zt zp.1.2.2.1) hg) rfl rfl))) <|
      Trace.cons ⟨[(87, _), (104, _)], [], [], [], [], [.slot 105 _]⟩ (prel (lsc rfl (lsc rfl lsz)) lbz ltz) (fun zs zp zn => (zgp rfl rfl (zan (zt zp.1.1) (zt zp.1.2.1) (.inl zb0) rfl rfl))) <|
      Trace.cons ⟨[(105, _)], [], [], [], [], [.slot 2 _]⟩ (prel (lsc rfl lsz) lbz ltz) (fun zs zp zn => (zgp rfl rfl (zas (zt zp.1.1) rfl rfl))) <|
      Trace.nil) rfl rfl rfl ?_
    refine zwr ?_
    refine zpr [] (res1 (zrt rfl)) rfl lz ?_
    have he : e.prepares = e.d2 := by rw [Env.prepares, if_neg h1b]
    rw [he]
    exact ⟨rfl, rfl⟩

theorem c_envelopes_Valid (e : Env) (hok : e.trust.ok) : ACalls Tryz.prog 60 [.aggd e.d] [] fun dd bb => dd = VB (e.validP) ∧ bb = [] := by
  refine zai Tryz.func60 rfl Tryz.ntmps60 (by rw [Tryz.results60]) rfl rfl (fun w0 A0 X => ?_)
  refine zsr ?_
  refine zc rfl (zbx (zt rfl) rfl rfl ?_)
  refine zc rfl (zas zb0 rfl ?_)
  refine zn0 ?_
  refine zw2 ?_
  refine zsr ?_
  refine zc rfl (zfa (o := 0) (zt rfl) zk rfl ?_)
  refine zc rfl (zl1 (zt rfl) zk rfl rfl rfl ?_)
  refine zc rfl (zcm (zt rfl) (zi zdc) rfl rfl ?_)
  refine zc rfl (zmv (zt rfl) rfl ?_)
  refine zg rfl rfl rfl rfl (zgb rfl) (fun hg => zfa (o := 0) (zt rfl) zk rfl rfl) ?_
  refine zg rfl rfl rfl rfl (zgb rfl) (fun hg => zl1 (zcd (zt rfl) hg) zk rfl rfl rfl rfl) ?_
  refine zg rfl rfl rfl rfl (zgb rfl) (fun hg => zcm (zcd (zt rfl) hg) (zi zdc) rfl rfl rfl) ?_
  refine zc rfl (zor (zt rfl) (.inl zb0) (zt rfl) rfl ?_)
  refine zc rfl (zmv (zt rfl) rfl ?_)
  refine zg rfl rfl rfl rfl (zgb rfl) (fun hg => zfa (o := 1) (zt rfl) zk rfl rfl) ?_
  refine zg rfl rfl rfl rfl (zgb rfl) (fun hg => zl1 (zcd (zt rfl) hg) zk rfl rfl rfl rfl) ?_
  refine zg rfl rfl rfl rfl (zgb rfl) (fun hg => zcm (zcd (zt rfl) hg) (zi zdc) rfl rfl rfl) ?_
  refine zc rfl (zor (zt rfl) (.inl zb0) (zt rfl) rfl ?_)
  refine zc rfl (zmv (zt rfl) rfl ?_)
  refine zg rfl rfl rfl rfl (zgb rfl) (fun hg => zfa (o := 1) (zt rfl) zk rfl rfl) ?_
  refine zg rfl rfl rfl rfl (zgb rfl) (fun hg => zl1 (zcd (zt rfl) hg) zk rfl rfl rfl rfl) ?_
  refine zg rfl rfl rfl rfl (zgb rfl) (fun hg => zcm (zcd (zt rfl) hg) (zi zdc) rfl rfl rfl) ?_
  refine zc rfl (zor (zt rfl) (.inl zb0) (zt rfl) rfl ?_)
  refine zc rfl (zmv (zt rfl) rfl ?_)
  refine zg rfl rfl rfl rfl (zgb rfl) (fun hg => zfa (o := 2) (zt rfl) zk rfl rfl) ?_
  refine zg rfl rfl rfl rfl (zgb rfl) (fun hg => zl1 (zcd (zt rfl) hg) zk rfl rfl rfl rfl) ?_
  refine zg rfl rfl rfl rfl (zgb rfl) (fun hg => zcm (zcd (zt rfl) hg) (zi zdc) rfl rfl rfl) ?_
  refine zc rfl (zor (zt rfl) (.inl zb0) (zt rfl) rfl ?_)
  refine zc rfl (zmv (zt rfl) rfl ?_)
  refine zg rfl rfl rfl rfl (zgb rfl) (fun hg => zfa (o := 2) (zt rfl) zk rfl rfl) ?_
  refine zg rfl rfl rfl rfl (zgb rfl) (fun hg => zl1 (zcd (zt rfl) hg) zk rfl rfl rfl rfl) ?_
  refine zg rfl rfl rfl rfl (zgb rfl) (fun hg => zcm (zcd (zt rfl) hg) (zi zdc) rfl rfl rfl) ?_
  refine zc rfl (zor (zt rfl) (.inl zb0) (zt rfl) rfl ?_)
  refine zc rfl (zmv (zt rfl) rfl ?_)
  refine zg rfl rfl rfl rfl (zgb rfl) (fun hg => zfa (o := 3) (zt rfl) zk rfl rfl) ?_
  refine zg rfl rfl rfl rfl (zgb rfl) (fun hg => zld (n := 3) (zcd (zt rfl) hg) zk rfl rfl rfl rfl rfl) ?_
  refine zg rfl rfl rfl rfl (zgb rfl) (fun hg => zcl zhf (hc (zcd (zt rfl) hg) hz) (rs := []) (bxs := []) zdc bz (c_threshold_Valid e.trust hok) rfl rfl rfl (fun d b hd hl => by obtain ⟨rfl, rfl⟩ := hd; rfl)) ?_
  refine zg rfl rfl rfl rfl (zgb rfl) (fun hg => zcm (zcd (zt rfl) hg) (zi zdc) rfl rfl rfl) ?_
  refine zc rfl (zor (zt rfl) (.inl zb0) (zt rfl) rfl ?_)
  refine zn0 ?_
  refine zwc (zt rfl) (fun h1 => ?_) (fun h1 => ?_)
  · skip
    refine zsr ?_
    refine zc rfl (zas zb0 rfl ?_)
    refine zn0 ?_
    refine zwr ?_
    refine ztr ?_
    refine zpr [] (res1 (zrt rfl)) rfl lz ?_
    have he : e.validP = false := by rw [Env.validP, if_pos (show e.e1 = true from h1)]
    rw [he]
    exact ⟨rfl, rfl⟩
  · skip
    have h1b : ¬ e.e1 = true := by rw [show e.e1 = false from h1]; simp
    refine zws ?_
    refine ztn ?_
    refine zsr ?_
    refine zc rfl (zfa (o := 13) (zt rfl) zk rfl ?_)
    refine zc rfl (zl1 (zt rfl) zk rfl rfl rfl ?_)
    refine zc rfl (zcm (zt rfl) (zi zdc) rfl rfl ?_)
    refine zc rfl (zmv (zt rfl) rfl ?_)
    refine zg rfl rfl rfl rfl (zgb rfl) (fun hg => zfa (o := 14) (zt rfl) zk rfl rfl) ?_
    refine zg rfl rfl rfl rfl (zgb rfl) (fun hg => zl1 (zcd (zt rfl) hg) zk rfl rfl rfl rfl) ?_
    refine zg rfl rfl rfl rfl (zgb rfl) (fun hg => zfa (o := 13) (zt rfl) zk rfl rfl) ?_
    refine zg rfl rfl rfl rfl (zgb rfl) (fun hg => zl1 (zcd (zt rfl) hg) zk rfl rfl rfl rfl) ?_
    refine zg rfl rfl rfl rfl (zgb rfl) (fun hg => zcm (zcd (zt rfl) hg) (zcd (zt rfl) hg) rfl rfl rfl) ?_
    refine zc rfl (zan (zt rfl) (zt rfl) (.inl zb0) rfl ?_)
    refine zc rfl (zmv (zt rfl) rfl ?_)
    refine zg rfl rfl rfl rfl (zgb rfl) (fun hg => zfa (o := 14) (zt rfl) zk rfl rfl) ?_
    refine zg rfl rfl rfl rfl (zgb rfl) (fun hg => zl1 (zcd (zt rfl) hg) zk rfl rfl rfl rfl) ?_
    refine zg rfl rfl rfl rfl (zgb rfl) (fun hg => zcm (zcd (zt rfl) hg) (zi zdc) rfl rfl rfl) ?_
    refine zc rfl (zan (zt rfl) (zt rfl) (.inl zb0) rfl ?_)
    refine zc rfl (zas (zt rfl) rfl ?_)
    refine zn0 ?_
    refine zw2 ?_
    refine zsr ?_
    refine zc rfl (zfa (o := 6) (zt rfl) zk rfl ?_)
    refine zc rfl (zl1 (zt rfl) zk rfl rfl rfl ?_)
    refine zn0 ?_
    refine zwb ?_
    refine zsr ?_
    refine zc rfl (zcm (zt rfl) (zi zdc) rfl rfl ?_)
    refine zc rfl (zas (zt rfl) rfl ?_)
    refine zn0 ?_
    refine zwc (zt rfl) (fun h2 => ?_) (fun h2 => ?_)
    · skip
      have k1 : e.kind = 1 := by simpa using h2
      refine zsr ?_
      refine zc rfl (zld (n := 15) (zt rfl) zk rfl rfl rfl rfl ?_)
      refine zc rfl (zcl zhf (hc (zt rfl) hz) (rs := []) (bxs := []) zdc bz (c_envelopes_prepares e) rfl rfl rfl (fun d b hd hl => ?_))
      obtain ⟨rfl, rfl⟩ := hd
      refine zc rfl (zas (zt rfl) rfl ?_)
      refine zn0 ?_
      refine zwr ?_
      refine blk_ret ?_
      refine ztr ?_
      refine zpr [] (res1 (zrt rfl)) rfl lz ?_
      have he : e.validP = e.prepares := by rw [Env.validP, if_neg h1b, if_pos k1]
      rw [he]
      exact ⟨rfl, rfl⟩
    · skip
      have n1 : ¬ e.kind = 1 := by simpa using h2
      refine zsr ?_
      refine zc rfl (zcm (zt rfl) (zi zdc) rfl rfl ?_)
      refine zc rfl (zas (zt rfl) rfl ?_)
      refine zn0 ?_
      refine zwc (zt rfl) (fun h3 => ?_) (fun h3 => ?_)
      · skip
        have k2 : e.kind = 2 := by simpa using h3
        refine zsr ?_
        refine zc rfl (zfa (o := 7) (zt rfl) zk rfl ?_)
        refine zc rfl (zld (n := 2) (zt rfl) zk rfl rfl rfl rfl ?_)
        refine zc rfl (zcl zhf (hc (zt rfl) hz) (rs := []) (bxs := []) zdc bz (c_envelopes_finite e.b) rfl rfl rfl (fun d b hd hl => ?_))
        obtain ⟨rfl, rfl⟩ := hd
        refine zc rfl (zmv (zt rfl) rfl ?_)
        refine zg rfl rfl rfl rfl (zgb rfl) (fun hg => zfa (o := 9) (zt rfl) zk rfl rfl) ?_
        refine zg rfl rfl rfl rfl (zgb rfl) (fun hg => zld (n := 2) (zcd (zt rfl) hg) zk rfl rfl rfl rfl rfl) ?_
        refine zg rfl rfl rfl rfl (zgb rfl) (fun hg => zcl zhf (hc (zcd (zt rfl) hg) hz) (rs := []) (bxs := []) zdc bz (c_ballots_Valid e.p) rfl rfl rfl (fun d b hd hl => by obtain ⟨rfl, rfl⟩ := hd; rfl)) ?_
        refine zc rfl (zan (zt rfl) (zt rfl) (.inl zb0) rfl ?_)
        refine zc rfl (zmv (zt rfl) rfl ?_)
        refine zg rfl rfl rfl rfl (zgb rfl) (fun hg => zfa (o := 9) (zt rfl) zk rfl rfl) ?_
        refine zg rfl rfl rfl rfl (zgb rfl) (fun hg => zld (n := 2) (zcd (zt rfl) hg) zk rfl rfl rfl rfl rfl) ?_
        refine zg rfl rfl rfl rfl (zgb rfl) (fun hg => zfa (o := 7) (zt rfl) zk rfl rfl) ?_
        refine zg rfl rfl rfl rfl (zgb rfl) (fun hg => zld (n := 2) (zcd (zt rfl) hg) zk rfl rfl rfl rfl rfl) ?_
        refine zg rfl rfl rfl rfl (zgb rfl) (fun hg => zcl zhf (hc (zcd (zt rfl) hg) (hc (zcd (zt rfl) hg) hz)) (rs := []) (bxs := []) zdc bz (c_ballots_Compatible e.p e.b) rfl rfl rfl (fun d b hd hl => by obtain ⟨rfl, rfl⟩ := hd; rfl)) ?_
        refine zc rfl (zan (zt rfl) (zt rfl) (.inl zb0) rfl ?_)
        refine zc rfl (zmv (zt rfl) rfl ?_)
        refine zg rfl rfl rfl rfl (zgb rfl) (fun hg => zfa (o := 11) (zt rfl) zk rfl rfl) ?_
        refine zg rfl rfl rfl rfl (zgb rfl) (fun hg => zld (n := 2) (zcd (zt rfl) hg) zk rfl rfl rfl rfl rfl) ?_
        refine zg rfl rfl rfl rfl (zgb rfl) (fun hg => zcl zhf (hc (zcd (zt rfl) hg) hz) (rs := []) (bxs := []) zdc bz (c_ballots_Zero e.q) rfl rfl rfl (fun d b hd hl => by obtain ⟨rfl, rfl⟩ := hd; rfl)) ?_
        refine zc rfl (zan (zt rfl) (zt rfl) (.inl zb0) rfl ?_)
        refine zc rfl (zmv (zt rfl) rfl ?_)
        refine zg rfl rfl rfl rfl (zgb rfl) (fun hg => zmv (zt rfl) rfl rfl) ?_
        refine zc rfl (zan (zt rfl) (zt rfl) (.inl zb0) rfl ?_)
        refine zc rfl (zmv (zt rfl) rfl ?_)
        refine zg rfl rfl rfl rfl (zgb rfl) (fun hg => zfa (o := 14) (zt rfl) zk rfl rfl) ?_
        refine zg rfl rfl rfl rfl (zgb rfl) (fun hg => zl1 (zcd (zt rfl) hg) zk rfl rfl rfl rfl) ?_
        refine zg rfl rfl rfl rfl (zgb rfl) (fun hg => zfa (o := 9) (zt rfl) zk rfl rfl) ?_
        refine zg rfl rfl rfl rfl (zgb rfl) (fun hg => zfa (o := 0) (zcd (zt rfl) hg) zk rfl rfl) ?_
        refine zg rfl rfl rfl rfl (zgb rfl) (fun hg => zl1 (zcd (zt rfl) hg) zk rfl rfl rfl rfl) ?_
        refine zg rfl rfl rfl rfl (zgb rfl) (fun hg => zcm (zcd (zt rfl) hg) (zcd (zt rfl) hg) rfl rfl rfl) ?_
        refine zc rfl (zan (zt rfl) (zt rfl) (.inl zb0) rfl ?_)
        refine zc rfl (zas (zt rfl) rfl ?_)
        refine zn0 ?_
        refine zwr ?_
        refine blk_ret ?_
        refine ztr ?_
        refine zpr [] (res1 (zrt rfl)) rfl lz ?_
        have he : e.validP = e.e8 := by rw [Env.validP, if_neg h1b, if_neg n1, if_pos k2]
        rw [he]
        exact ⟨rfl, rfl⟩
      · skip
        have n2 : ¬ e.kind = 2 := by simpa using h3
        refine zsr ?_
        refine zc rfl (zcm (zt rfl) (zi zdc) rfl rfl ?_)
        refine zc rfl (zas (zt rfl) rfl ?_)
        refine zn0 ?_
        refine zwc (zt rfl) (fun h4 => ?_) (fun h4 => ?_)
        · skip
          have k3 : e.kind = 3 := by simpa using h4
          refine zsr ?_
          refine zc rfl (zfa (o := 7) (zt rfl) zk rfl ?_)
          refine zc rfl (zld (n := 2) (zt rfl) zk rfl rfl rfl rfl ?_)
          refine zc rfl (zcl zhf (hc (zt rfl) hz) (rs := []) (bxs := []) zdc bz (c_ballots_Valid e.b) rfl rfl rfl (fun d b hd hl => ?_))
          obtain ⟨rfl, rfl⟩ := hd
          refine zc rfl (zmv (zt rfl) rfl ?_)
          refine zg rfl rfl rfl rfl (zgb rfl) (fun hg => zfa (o := 9) (zt rfl) zk rfl rfl) ?_
          refine zg rfl rfl rfl rfl (zgb rfl) (fun hg => zld (n := 2) (zcd (zt rfl) hg) zk rfl rfl rfl rfl rfl) ?_
          refine zg rfl rfl rfl rfl (zgb rfl) (fun hg => zcl zhf (hc (zcd (zt rfl) hg) hz) (rs := []) (bxs := []) zdc bz (c_ballots_Zero e.p) rfl rfl rfl (fun d b hd hl => by obtain ⟨rfl, rfl⟩ := hd; rfl)) ?_
          refine zc rfl (zan (zt rfl) (zt rfl) (.inl zb0) rfl ?_)
          refine zc rfl (zmv (zt rfl) rfl ?_)
          refine zg rfl rfl rfl rfl (zgb rfl) (fun hg => zfa (o := 11) (zt rfl) zk rfl rfl) ?_
          refine zg rfl rfl rfl rfl (zgb rfl) (fun hg => zld (n := 2) (zcd (zt rfl) hg) zk rfl rfl rfl rfl rfl) ?_
          refine zg rfl rfl rfl rfl (zgb rfl) (fun hg => zcl zhf (hc (zcd (zt rfl) hg) hz) (rs := []) (bxs := []) zdc bz (c_ballots_Zero e.q) rfl rfl rfl (fun d b hd hl => by obtain ⟨rfl, rfl⟩ := hd; rfl)) ?_
          refine zc rfl (zan (zt rfl) (zt rfl) (.inl zb0) rfl ?_)
          refine zc rfl (zmv (zt rfl) rfl ?_)
          refine zg rfl rfl rfl rfl (zgb rfl) (fun hg => zmv (zt rfl) rfl rfl) ?_
          refine zc rfl (zan (zt rfl) (zt rfl) (.inl zb0) rfl ?_)
          refine zc rfl (zas (zt rfl) rfl ?_)
          refine zn0 ?_
          refine zwr ?_
          refine blk_ret ?_
          refine ztr ?_
          refine zpr [] (res1 (zrt rfl)) rfl lz ?_
          have he : e.validP = e.e9 := by rw [Env.validP, if_neg h1b, if_neg n1, if_neg n2, if_pos k3]
          rw [he]
          exact ⟨rfl, rfl⟩
        · skip
          have n3 : ¬ e.kind = 3 := by simpa using h4
          refine zws ?_
          refine zbn ?_
          refine ztn ?_
          refine zsr ?_
          refine zc rfl (zas zb0 rfl ?_)
          refine zn0 ?_
          refine zwr ?_
          refine zpr [] (res1 (zrt rfl)) rfl lz ?_
          have he : e.validP = false := by rw [Env.validP, if_neg h1b, if_neg n1, if_neg n2, if_neg n3]
          rw [he]
          exact ⟨rfl, rfl⟩

end Go.TQ
