/- s08.py -/
import Derived.Test.YtmfiplnojbjcbaaGreatC07
set_option linter.unusedVariables false
set_option linter.unusedSimpArgs false
set_option maxRecDepth 10000
namespace Go.TQ
open Go.Proofs


def Ballot.eqB (a b : Ballot) : Bool := decide (a.c = b.c) && (decide (a.v = b.v) && true)
def Env.sameR (a b : Env) : Bool := ((((((((decide (a.node = b.node) && decide (a.slot = b.slot)) && decide (a.seq = b.seq)) && a.trust.same b.trust) && decide (a.kind = b.kind)) && a.b.eqB b.b) && a.p.eqB b.p) && a.q.eqB b.q) && decide (a.low = b.low)) && decide (a.high = b.high)
def Env.sameP (a b : Env) : Bool := ((((((((a.trust.same b.trust && decide (a.node = b.node)) && decide (a.slot = b.slot)) && decide (a.seq = b.seq)) && decide (a.kind = b.kind)) && a.b.eqB b.b) && a.p.eqB b.p) && a.q.eqB b.q) && decide (a.low = b.low)) && decide (a.high = b.high)
def Sighting.countsR (x : Sighting) : Bool := (decide (x.l.kind = 2) && x.l.env.validR) && decide (x.fr = x.l.env.node)
def Env.votesR (e : Env) (b : Ballot) : Bool := if (!e.validR || b.isZero) = true then false else if e.kind = 1 then e.b.covers b else e.b.compat b
def Env.acceptsR (e : Env) (b : Ballot) : Bool := if (!e.validR || b.isZero) = true then false else if e.kind = 3 then e.b.compat b else e.p.preparesR e.q b
def Env.rVotes (e : Env) (b : Ballot) : Bool := if b.isZero = true then false else if e.kind = 1 then e.b.covers b else e.b.compat b
def Env.rAccepts (e : Env) (b : Ballot) : Bool := if b.isZero = true then false else if e.kind = 1 then e.p.prepares e.q b else if e.kind = 2 then e.p.covers b else e.b.compat b
def Env.acceptsP (e : Env) (b : Ballot) : Bool := e.validP && e.rAccepts b

theorem c_trustquorumref24_Same (a b : Env) : ACalls Tryz.prog 19 [.aggd a.d, .aggd b.d] [] fun dd bb => dd = VB (a.sameR b) ∧ bb = [] := by
  refine zai Tryz.func19 rfl Tryz.ntmps19 (by rw [Tryz.results19]) rfl rfl (fun w0 A0 X => ?_)
  refine zsr ?_
  refine zc rfl (zbx (zt rfl) rfl rfl ?_)
  refine zc rfl (zbx (zt rfl) rfl rfl ?_)
  refine zc rfl (zas zb0 rfl ?_)
  refine zn0 ?_
  refine zsr ?_
  refine zc rfl (zfa (o := 0) (zt rfl) zk rfl ?_)
  refine zc rfl (zl1 (zt rfl) zk rfl rfl rfl ?_)
  refine zc rfl (zfa (o := 0) (zt rfl) zk rfl ?_)
  refine zc rfl (zl1 (zt rfl) zk rfl rfl rfl ?_)
  refine zc rfl (zcm (zt rfl) (zt rfl) rfl rfl ?_)
  refine zc rfl (zmv (zt rfl) rfl ?_)
  refine zg rfl rfl rfl rfl (zgb rfl) (fun hg => zfa (o := 1) (zt rfl) zk rfl rfl) ?_
  refine zg rfl rfl rfl rfl (zgb rfl) (fun hg => zl1 (zcd (zt rfl) hg) zk rfl rfl rfl rfl) ?_
  refine zg rfl rfl rfl rfl (zgb rfl) (fun hg => zfa (o := 1) (zt rfl) zk rfl rfl) ?_
  refine zg rfl rfl rfl rfl (zgb rfl) (fun hg => zl1 (zcd (zt rfl) hg) zk rfl rfl rfl rfl) ?_
  refine zg rfl rfl rfl rfl (zgb rfl) (fun hg => zcm (zcd (zt rfl) hg) (zcd (zt rfl) hg) rfl rfl rfl) ?_
  refine zc rfl (zan (zt rfl) (zt rfl) (.inl zb0) rfl ?_)
  refine zc rfl (zmv (zt rfl) rfl ?_)
  refine zg rfl rfl rfl rfl (zgb rfl) (fun hg => zfa (o := 2) (zt rfl) zk rfl rfl) ?_
  refine zg rfl rfl rfl rfl (zgb rfl) (fun hg => zl1 (zcd (zt rfl) hg) zk rfl rfl rfl rfl) ?_
  refine zg rfl rfl rfl rfl (zgb rfl) (fun hg => zfa (o := 2) (zt rfl) zk rfl rfl) ?_
  refine zg rfl rfl rfl rfl (zgb rfl) (fun hg => zl1 (zcd (zt rfl) hg) zk rfl rfl rfl rfl) ?_
  refine zg rfl rfl rfl rfl (zgb rfl) (fun hg => zcm (zcd (zt rfl) hg) (zcd (zt rfl) hg) rfl rfl rfl) ?_
  refine zc rfl (zan (zt rfl) (zt rfl) (.inl zb0) rfl ?_)
  refine zc rfl (zmv (zt rfl) rfl ?_)
  refine zg rfl rfl rfl rfl (zgb rfl) (fun hg => zfa (o := 3) (zt rfl) zk rfl rfl) ?_
  refine zg rfl rfl rfl rfl (zgb rfl) (fun hg => zld (n := 3) (zcd (zt rfl) hg) zk rfl rfl rfl rfl rfl) ?_
  refine zg rfl rfl rfl rfl (zgb rfl) (fun hg => zfa (o := 3) (zt rfl) zk rfl rfl) ?_
  refine zg rfl rfl rfl rfl (zgb rfl) (fun hg => zld (n := 3) (zcd (zt rfl) hg) zk rfl rfl rfl rfl rfl) ?_
  refine zg rfl rfl rfl rfl (zgb rfl) (fun hg => zcl zhf (hc (zcd (zt rfl) hg) (hc (zcd (zt rfl) hg) hz)) (rs := []) (bxs := []) zdc bz (c_trustquorumref02_Same a.trust b.trust) rfl rfl rfl (fun d b hd hl => by obtain ⟨rfl, rfl⟩ := hd; rfl)) ?_
  refine zc rfl (zan (zt rfl) (zt rfl) (.inl zb0) rfl ?_)
  refine zc rfl (zmv (zt rfl) rfl ?_)
  refine zg rfl rfl rfl rfl (zgb rfl) (fun hg => zfa (o := 6) (zt rfl) zk rfl rfl) ?_
  refine zg rfl rfl rfl rfl (zgb rfl) (fun hg => zl1 (zcd (zt rfl) hg) zk rfl rfl rfl rfl) ?_
  refine zg rfl rfl rfl rfl (zgb rfl) (fun hg => zfa (o := 6) (zt rfl) zk rfl rfl) ?_
  refine zg rfl rfl rfl rfl (zgb rfl) (fun hg => zl1 (zcd (zt rfl) hg) zk rfl rfl rfl rfl) ?_
  refine zg rfl rfl rfl rfl (zgb rfl) (fun hg => zcm (zcd (zt rfl) hg) (zcd (zt rfl) hg) rfl rfl rfl) ?_
  refine zc rfl (zan (zt rfl) (zt rfl) (.inl zb0) rfl ?_)
  refine zc rfl (zmv (zt rfl) rfl ?_)
  refine zg rfl rfl rfl rfl (zgb rfl) (fun hg => zfa (o := 7) (zt rfl) zk rfl rfl) ?_
  refine zg rfl rfl rfl rfl (zgb rfl) (fun hg => zld (n := 2) (zcd (zt rfl) hg) zk rfl rfl rfl rfl rfl) ?_
  refine zg rfl rfl rfl rfl (zgb rfl) (fun hg => zfa (o := 7) (zt rfl) zk rfl rfl) ?_
  refine zg rfl rfl rfl rfl (zgb rfl) (fun hg => zld (n := 2) (zcd (zt rfl) hg) zk rfl rfl rfl rfl rfl) ?_
  refine zg rfl rfl rfl rfl (zgb rfl) (fun hg => op_eql_struct (ts := [.i, .s]) (.inl rfl) (zcd (zt rfl) hg) (zcd (zt rfl) hg) rfl rfl zk rfl rfl rfl) ?_
  refine zc rfl (zan (zt rfl) (zt rfl) (.inl zb0) rfl ?_)
  refine zc rfl (zmv (zt rfl) rfl ?_)
  refine zg rfl rfl rfl rfl (zgb rfl) (fun hg => zfa (o := 9) (zt rfl) zk rfl rfl) ?_
  refine zg rfl rfl rfl rfl (zgb rfl) (fun hg => zld (n := 2) (zcd (zt rfl) hg) zk rfl rfl rfl rfl rfl) ?_
  refine zg rfl rfl rfl rfl (zgb rfl) (fun hg => zfa (o := 9) (zt rfl) zk rfl rfl) ?_
  refine zg rfl rfl rfl rfl (zgb rfl) (fun hg => zld (n := 2) (zcd (zt rfl) hg) zk rfl rfl rfl rfl rfl) ?_
  refine zg rfl rfl rfl rfl (zgb rfl) (fun hg => op_eql_struct (ts := [.i, .s]) (.inl rfl) (zcd (zt rfl) hg) (zcd (zt rfl) hg) rfl rfl zk rfl rfl rfl) ?_
  refine zc rfl (zan (zt rfl) (zt rfl) (.inl zb0) rfl ?_)
  refine zc rfl (zmv (zt rfl) rfl ?_)
  refine zg rfl rfl rfl rfl (zgb rfl) (fun hg => zfa (o := 11) (zt rfl) zk rfl rfl) ?_
  refine zg rfl rfl rfl rfl (zgb rfl) (fun hg => zld (n := 2) (zcd (zt rfl) hg) zk rfl rfl rfl rfl rfl) ?_
  refine zg rfl rfl rfl rfl (zgb rfl) (fun hg => zfa (o := 11) (zt rfl) zk rfl rfl) ?_
  refine zg rfl rfl rfl rfl (zgb rfl) (fun hg => zld (n := 2) (zcd (zt rfl) hg) zk rfl rfl rfl rfl rfl) ?_
  refine zg rfl rfl rfl rfl (zgb rfl) (fun hg => op_eql_struct (ts := [.i, .s]) (.inl rfl) (zcd (zt rfl) hg) (zcd (zt rfl) hg) rfl rfl zk rfl rfl rfl) ?_
  refine zc rfl (zan (zt rfl) (zt rfl) (.inl zb0) rfl ?_)
  refine zc rfl (zmv (zt rfl) rfl ?_)
  refine zg rfl rfl rfl rfl (zgb rfl) (fun hg => zfa (o := 13) (zt rfl) zk rfl rfl) ?_
  refine zg rfl rfl rfl rfl (zgb rfl) (fun hg => zl1 (zcd (zt rfl) hg) zk rfl rfl rfl rfl) ?_
  refine zg rfl rfl rfl rfl (zgb rfl) (fun hg => zfa (o := 13) (zt rfl) zk rfl rfl) ?_
  refine zg rfl rfl rfl rfl (zgb rfl) (fun hg => zl1 (zcd (zt rfl) hg) zk rfl rfl rfl rfl) ?_
  refine zg rfl rfl rfl rfl (zgb rfl) (fun hg => zcm (zcd (zt rfl) hg) (zcd (zt rfl) hg) rfl rfl rfl) ?_
  refine zc rfl (zan (zt rfl) (zt rfl) (.inl zb0) rfl ?_)
  refine zc rfl (zmv (zt rfl) rfl ?_)
  refine zg rfl rfl rfl rfl (zgb rfl) (fun hg => zfa (o := 14) (zt rfl) zk rfl rfl) ?_
  refine zg rfl rfl rfl rfl (zgb rfl) (fun hg => zl1 (zcd (zt rfl) hg) zk rfl rfl rfl rfl) ?_
  refine zg rfl rfl rfl rfl (zgb rfl) (fun hg => zfa (o := 14) (zt rfl) zk rfl rfl) ?_
  refine zg rfl rfl rfl rfl (zgb rfl) (fun hg => zl1 (zcd (zt rfl) hg) zk rfl rfl rfl rfl) ?_
  refine zg rfl rfl rfl rfl (zgb rfl) (fun hg => zcm (zcd (zt rfl) hg) (zcd (zt rfl) hg) rfl rfl rfl) ?_
  refine zc rfl (zan (zt rfl) (zt rfl) (.inl zb0) rfl ?_)
  refine zc rfl (zas (zt rfl) rfl ?_)
  refine zn0 ?_
  refine zwr ?_
  refine zpr [] (res1 (zrt rfl)) rfl lz ?_
  exact ⟨rfl, rfl⟩

theorem c_monitor_equal (a b : Env) : ACalls Tryz.prog 50 [.aggd a.d, .aggd b.d] [] fun dd bb => dd = VB (a.sameP b) ∧ bb = [] := by
  refine zai Tryz.func50 rfl Tryz.ntmps50 (by rw [Tryz.results50]) rfl rfl (fun w0 A0 X => ?_)
  refine zsr ?_
  refine zc rfl (zbx (zt rfl) rfl rfl ?_)
  refine zc rfl (zbx (zt rfl) rfl rfl ?_)
  refine zc rfl (zas zb0 rfl ?_)
  refine zn0 ?_
  refine zsr ?_
  refine zc rfl (zfa (o := 3) (zt rfl) zk rfl ?_)
  refine zc rfl (zld (n := 3) (zt rfl) zk rfl rfl rfl rfl ?_)
  refine zc rfl (zfa (o := 3) (zt rfl) zk rfl ?_)
  refine zc rfl (zld (n := 3) (zt rfl) zk rfl rfl rfl rfl ?_)
  refine zc rfl (zcl zhf (hc (zt rfl) (hc (zt rfl) hz)) (rs := []) (bxs := []) zdc bz (c_threshold_Same a.trust b.trust) rfl rfl rfl (fun d b hd hl => ?_))
  obtain ⟨rfl, rfl⟩ := hd
  refine zc rfl (zmv (zt rfl) rfl ?_)
  refine zg rfl rfl rfl rfl (zgb rfl) (fun hg => zfa (o := 0) (zt rfl) zk rfl rfl) ?_
  refine zg rfl rfl rfl rfl (zgb rfl) (fun hg => zl1 (zcd (zt rfl) hg) zk rfl rfl rfl rfl) ?_
  refine zg rfl rfl rfl rfl (zgb rfl) (fun hg => zfa (o := 0) (zt rfl) zk rfl rfl) ?_
  refine zg rfl rfl rfl rfl (zgb rfl) (fun hg => zl1 (zcd (zt rfl) hg) zk rfl rfl rfl rfl) ?_
  refine zg rfl rfl rfl rfl (zgb rfl) (fun hg => zcm (zcd (zt rfl) hg) (zcd (zt rfl) hg) rfl rfl rfl) ?_
  refine zc rfl (zan (zt rfl) (zt rfl) (.inl zb0) rfl ?_)
  refine zc rfl (zmv (zt rfl) rfl ?_)
  refine zg rfl rfl rfl rfl (zgb rfl) (fun hg => zfa (o := 1) (zt rfl) zk rfl rfl) ?_
  refine zg rfl rfl rfl rfl (zgb rfl) (fun hg => zl1 (zcd (zt rfl) hg) zk rfl rfl rfl rfl) ?_
  refine zg rfl rfl rfl rfl (zgb rfl) (fun hg => zfa (o := 1) (zt rfl) zk rfl rfl) ?_
  refine zg rfl rfl rfl rfl (zgb rfl) (fun hg => zl1 (zcd (zt rfl) hg) zk rfl rfl rfl rfl) ?_
  refine zg rfl rfl rfl rfl (zgb rfl) (fun hg => zcm (zcd (zt rfl) hg) (zcd (zt rfl) hg) rfl rfl rfl) ?_
  refine zc rfl (zan (zt rfl) (zt rfl) (.inl zb0) rfl ?_)
  refine zc rfl (zmv (zt rfl) rfl ?_)
  refine zg rfl rfl rfl rfl (zgb rfl) (fun hg => zfa (o := 2) (zt rfl) zk rfl rfl) ?_
  refine zg rfl rfl rfl rfl (zgb rfl) (fun hg => zl1 (zcd (zt rfl) hg) zk rfl rfl rfl rfl) ?_
  refine zg rfl rfl rfl rfl (zgb rfl) (fun hg => zfa (o := 2) (zt rfl) zk rfl rfl) ?_
  refine zg rfl rfl rfl rfl (zgb rfl) (fun hg => zl1 (zcd (zt rfl) hg) zk rfl rfl rfl rfl) ?_
  refine zg rfl rfl rfl rfl (zgb rfl) (fun hg => zcm (zcd (zt rfl) hg) (zcd (zt rfl) hg) rfl rfl rfl) ?_
  refine zc rfl (zan (zt rfl) (zt rfl) (.inl zb0) rfl ?_)
  refine zc rfl (zmv (zt rfl) rfl ?_)
  refine zg rfl rfl rfl rfl (zgb rfl) (fun hg => zfa (o := 6) (zt rfl) zk rfl rfl) ?_
  refine zg rfl rfl rfl rfl (zgb rfl) (fun hg => zl1 (zcd (zt rfl) hg) zk rfl rfl rfl rfl) ?_
  refine zg rfl rfl rfl rfl (zgb rfl) (fun hg => zfa (o := 6) (zt rfl) zk rfl rfl) ?_
  refine zg rfl rfl rfl rfl (zgb rfl) (fun hg => zl1 (zcd (zt rfl) hg) zk rfl rfl rfl rfl) ?_
  refine zg rfl rfl rfl rfl (zgb rfl) (fun hg => zcm (zcd (zt rfl) hg) (zcd (zt rfl) hg) rfl rfl rfl) ?_
  refine zc rfl (zan (zt rfl) (zt rfl) (.inl zb0) rfl ?_)
  refine zc rfl (zmv (zt rfl) rfl ?_)
  refine zg rfl rfl rfl rfl (zgb rfl) (fun hg => zfa (o := 7) (zt rfl) zk rfl rfl) ?_
  refine zg rfl rfl rfl rfl (zgb rfl) (fun hg => zld (n := 2) (zcd (zt rfl) hg) zk rfl rfl rfl rfl rfl) ?_
  refine zg rfl rfl rfl rfl (zgb rfl) (fun hg => zfa (o := 7) (zt rfl) zk rfl rfl) ?_
  refine zg rfl rfl rfl rfl (zgb rfl) (fun hg => zld (n := 2) (zcd (zt rfl) hg) zk rfl rfl rfl rfl rfl) ?_
  refine zg rfl rfl rfl rfl (zgb rfl) (fun hg => op_eql_struct (ts := [.i, .s]) (.inl rfl) (zcd (zt rfl) hg) (zcd (zt rfl) hg) rfl rfl zk rfl rfl rfl) ?_
  refine zc rfl (zan (zt rfl) (zt rfl) (.inl zb0) rfl ?_)
  refine zc rfl (zmv (zt rfl) rfl ?_)
  refine zg rfl rfl rfl rfl (zgb rfl) (fun hg => zfa (o := 9) (zt rfl) zk rfl rfl) ?_
  refine zg rfl rfl rfl rfl (zgb rfl) (fun hg => zld (n := 2) (zcd (zt rfl) hg) zk rfl rfl rfl rfl rfl) ?_
  refine zg rfl rfl rfl rfl (zgb rfl) (fun hg => zfa (o := 9) (zt rfl) zk rfl rfl) ?_
  refine zg rfl rfl rfl rfl (zgb rfl) (fun hg => zld (n := 2) (zcd (zt rfl) hg) zk rfl rfl rfl rfl rfl) ?_
  refine zg rfl rfl rfl rfl (zgb rfl) (fun hg => op_eql_struct (ts := [.i, .s]) (.inl rfl) (zcd (zt rfl) hg) (zcd (zt rfl) hg) rfl rfl zk rfl rfl rfl) ?_
  refine zc rfl (zan (zt rfl) (zt rfl) (.inl zb0) rfl ?_)
  refine zc rfl (zmv (zt rfl) rfl ?_)
  refine zg rfl rfl rfl rfl (zgb rfl) (fun hg => zfa (o := 11) (zt rfl) zk rfl rfl) ?_
  refine zg rfl rfl rfl rfl (zgb rfl) (fun hg => zld (n := 2) (zcd (zt rfl) hg) zk rfl rfl rfl rfl rfl) ?_
  refine zg rfl rfl rfl rfl (zgb rfl) (fun hg => zfa (o := 11) (zt rfl) zk rfl rfl) ?_
  refine zg rfl rfl rfl rfl (zgb rfl) (fun hg => zld (n := 2) (zcd (zt rfl) hg) zk rfl rfl rfl rfl rfl) ?_
  refine zg rfl rfl rfl rfl (zgb rfl) (fun hg => op_eql_struct (ts := [.i, .s]) (.inl rfl) (zcd (zt rfl) hg) (zcd (zt rfl) hg) rfl rfl zk rfl rfl rfl) ?_
  refine zc rfl (zan (zt rfl) (zt rfl) (.inl zb0) rfl ?_)
  refine zc rfl (zmv (zt rfl) rfl ?_)
  refine zg rfl rfl rfl rfl (zgb rfl) (fun hg => zfa (o := 13) (zt rfl) zk rfl rfl) ?_
  refine zg rfl rfl rfl rfl (zgb rfl) (fun hg => zl1 (zcd (zt rfl) hg) zk rfl rfl rfl rfl) ?_
  refine zg rfl rfl rfl rfl (zgb rfl) (fun hg => zfa (o := 13) (zt rfl) zk rfl rfl) ?_
  refine zg rfl rfl rfl rfl (zgb rfl) (fun hg => zl1 (zcd (zt rfl) hg) zk rfl rfl rfl rfl) ?_
  refine zg rfl rfl rfl rfl (zgb rfl) (fun hg => zcm (zcd (zt rfl) hg) (zcd (zt rfl) hg) rfl rfl rfl) ?_
  refine zc rfl (zan (zt rfl) (zt rfl) (.inl zb0) rfl ?_)
  refine zc rfl (zmv (zt rfl) rfl ?_)
  refine zg rfl rfl rfl rfl (zgb rfl) (fun hg => zfa (o := 14) (zt rfl) zk rfl rfl) ?_
  refine zg rfl rfl rfl rfl (zgb rfl) (fun hg => zl1 (zcd (zt rfl) hg) zk rfl rfl rfl rfl) ?_
  refine zg rfl rfl rfl rfl (zgb rfl) (fun hg => zfa (o := 14) (zt rfl) zk rfl rfl) ?_
  refine zg rfl rfl rfl rfl (zgb rfl) (fun hg => zl1 (zcd (zt rfl) hg) zk rfl rfl rfl rfl) ?_
  refine zg rfl rfl rfl rfl (zgb rfl) (fun hg => zcm (zcd (zt rfl) hg) (zcd (zt rfl) hg) rfl rfl rfl) ?_
  refine zc rfl (zan (zt rfl) (zt rfl) (.inl zb0) rfl ?_)
  refine zc rfl (zas (zt rfl) rfl ?_)
  refine zn0 ?_
  refine zwr ?_
  refine zpr [] (res1 (zrt rfl)) rfl lz ?_
  exact ⟨rfl, rfl⟩

theorem c_trustquorumref44_counts (x : Sighting) (hok : x.l.env.trust.ok) : ACalls Tryz.prog 28 [.aggd x.d] [] fun dd bb => dd = VB (x.countsR) ∧ bb = [] := by
  refine zai Tryz.func28 rfl Tryz.ntmps28 (by rw [Tryz.results28]) rfl rfl (fun w0 A0 X => ?_)
  refine zsr ?_
  refine zc rfl (zbx (zt rfl) rfl rfl ?_)
  refine zc rfl (zas zb0 rfl ?_)
  refine zn0 ?_
  refine zsr ?_
  refine zc rfl (zfa (o := 2) (zt rfl) zk rfl ?_)
  refine zc rfl (zfa (o := 0) (zt rfl) zk rfl ?_)
  refine zc rfl (zl1 (zt rfl) zk rfl rfl rfl ?_)
  refine zc rfl (zcm (zt rfl) (zi zdc) rfl rfl ?_)
  refine zc rfl (zmv (zt rfl) rfl ?_)
  refine zg rfl rfl rfl rfl (zgb rfl) (fun hg => zfa (o := 2) (zt rfl) zk rfl rfl) ?_
  refine zg rfl rfl rfl rfl (zgb rfl) (fun hg => zfa (o := 9) (zcd (zt rfl) hg) zk rfl rfl) ?_
  refine zg rfl rfl rfl rfl (zgb rfl) (fun hg => zld (n := 15) (zcd (zt rfl) hg) zk rfl rfl rfl rfl rfl) ?_
  refine zg rfl rfl rfl rfl (zgb rfl) (fun hg => zcl zhf (hc (zcd (zt rfl) hg) hz) (rs := []) (bxs := []) zdc bz (c_trustquorumref24_Valid x.l.env hok) rfl rfl rfl (fun d b hd hl => by obtain ⟨rfl, rfl⟩ := hd; rfl)) ?_
  refine zc rfl (zan (zt rfl) (zt rfl) (.inl zb0) rfl ?_)
  refine zc rfl (zmv (zt rfl) rfl ?_)
  refine zg rfl rfl rfl rfl (zgb rfl) (fun hg => zfa (o := 1) (zt rfl) zk rfl rfl) ?_
  refine zg rfl rfl rfl rfl (zgb rfl) (fun hg => zl1 (zcd (zt rfl) hg) zk rfl rfl rfl rfl) ?_
  refine zg rfl rfl rfl rfl (zgb rfl) (fun hg => zfa (o := 2) (zt rfl) zk rfl rfl) ?_
  refine zg rfl rfl rfl rfl (zgb rfl) (fun hg => zfa (o := 9) (zcd (zt rfl) hg) zk rfl rfl) ?_
  refine zg rfl rfl rfl rfl (zgb rfl) (fun hg => zfa (o := 0) (zcd (zt rfl) hg) zk rfl rfl) ?_
  refine zg rfl rfl rfl rfl (zgb rfl) (fun hg => zl1 (zcd (zt rfl) hg) zk rfl rfl rfl rfl) ?_
  refine zg rfl rfl rfl rfl (zgb rfl) (fun hg => zcm (zcd (zt rfl) hg) (zcd (zt rfl) hg) rfl rfl rfl) ?_
  refine zc rfl (zan (zt rfl) (zt rfl) (.inl zb0) rfl ?_)
  refine zc rfl (zas (zt rfl) rfl ?_)
  refine zn0 ?_
  refine zwr ?_
  refine zpr [] (res1 (zrt rfl)) rfl lz ?_
  exact ⟨rfl, rfl⟩

theorem c_trustquorumref24_VotesPrepare (e : Env) (b : Ballot) (hok : e.trust.ok) : ACalls Tryz.prog 13 [.aggd e.d, .aggd b.d] [] fun dd bb => dd = VB (e.votesR b) ∧ bb = [] := by
  refine zai Tryz.func13 rfl Tryz.ntmps13 (by rw [Tryz.results13]) rfl rfl (fun w0 A0 X => ?_)
  refine zsr ?_
  refine zc rfl (zbx (zt rfl) rfl rfl ?_)
  refine zc rfl (zbx (zt rfl) rfl rfl ?_)
  refine zc rfl (zas zb0 rfl ?_)
  refine zn0 ?_
  refine zw2 ?_
  refine zsr ?_
  refine zc rfl (zld (n := 15) (zt rfl) zk rfl rfl rfl rfl ?_)
  refine zc rfl (zcl zhf (hc (zt rfl) hz) (rs := []) (bxs := []) zdc bz (c_trustquorumref24_Valid e hok) rfl rfl rfl (fun d b hd hl => ?_))
  obtain ⟨rfl, rfl⟩ := hd
  refine zc rfl (op_not (zt rfl) rfl ?_)
  refine zc rfl (zmv (zt rfl) rfl ?_)
  refine zg rfl rfl rfl rfl (zgb rfl) (fun hg => zld (n := 2) (zt rfl) zk rfl rfl rfl rfl rfl) ?_
  refine zg rfl rfl rfl rfl (zgb rfl) (fun hg => zcl zhf (hc (zcd (zt rfl) hg) hz) (rs := []) (bxs := []) zdc bz (c_trustquorumref23_Zero b) rfl rfl rfl (fun d b hd hl => by obtain ⟨rfl, rfl⟩ := hd; rfl)) ?_
  refine zc rfl (zor (zt rfl) (.inl zb0) (zt rfl) rfl ?_)
  refine zn0 ?_
  refine zwc (zt rfl) (fun h1 => ?_) (fun h1 => ?_)
  · skip
    refine zsr ?_
    refine zc rfl (zas zb0 rfl ?_)
    refine zn0 ?_
    refine zwr ?_
    refine ztr ?_
    refine zpr [] (res1 (zrt rfl)) rfl lz ?_
    have he : e.votesR b = false := by rw [Env.votesR, if_pos (show (!e.validR || b.isZero) = true from h1)]
    rw [he]
    exact ⟨rfl, rfl⟩
  · skip
    have h1b : ¬ (!e.validR || b.isZero) = true := by rw [show (!e.validR || b.isZero) = false from h1]; simp
    refine zws ?_
    refine ztn ?_
    refine zw2 ?_
    refine zsr ?_
    refine zc rfl (zfa (o := 6) (zt rfl) zk rfl ?_)
    refine zc rfl (zl1 (zt rfl) zk rfl rfl rfl ?_)
    refine zc rfl (zcm (zt rfl) (zi zdc) rfl rfl ?_)
    refine zn0 ?_
    refine zwc (zt rfl) (fun h2 => ?_) (fun h2 => ?_)
    · skip
      have k1 : e.kind = 1 := by simpa using h2
      refine zsr ?_
      refine zc rfl (zfa (o := 7) (zt rfl) zk rfl ?_)
      refine zc rfl (zld (n := 2) (zt rfl) zk rfl rfl rfl rfl ?_)
      refine zc rfl (zld (n := 2) (zt rfl) zk rfl rfl rfl rfl ?_)
      refine zc rfl (zcl zhf (hc (zt rfl) (hc (zt rfl) hz)) (rs := []) (bxs := []) zdc bz (c_trustquorumref23_Covers e.b b) rfl rfl rfl (fun d b hd hl => ?_))
      obtain ⟨rfl, rfl⟩ := hd
      refine zc rfl (zas (zt rfl) rfl ?_)
      refine zn0 ?_
      refine zwr ?_
      refine ztr ?_
      refine zpr [] (res1 (zrt rfl)) rfl lz ?_
      have he : e.votesR b = e.b.covers b := by rw [Env.votesR, if_neg h1b, if_pos k1]
      rw [he]
      exact ⟨rfl, rfl⟩
    · skip
      have n1 : ¬ e.kind = 1 := by simpa using h2
      refine zws ?_
      refine ztn ?_
      refine zsr ?_
      refine zc rfl (zfa (o := 7) (zt rfl) zk rfl ?_)
      refine zc rfl (zld (n := 2) (zt rfl) zk rfl rfl rfl rfl ?_)
      refine zc rfl (zld (n := 2) (zt rfl) zk rfl rfl rfl rfl ?_)
      refine zc rfl (zcl zhf (hc (zt rfl) (hc (zt rfl) hz)) (rs := []) (bxs := []) zdc bz (c_trustquorumref23_Compatible e.b b) rfl rfl rfl (fun d b hd hl => ?_))
      obtain ⟨rfl, rfl⟩ := hd
      refine zc rfl (zas (zt rfl) rfl ?_)
      refine zn0 ?_
      refine zwr ?_
      refine zpr [] (res1 (zrt rfl)) rfl lz ?_
      have he : e.votesR b = e.b.compat b := by rw [Env.votesR, if_neg h1b, if_neg n1]
      rw [he]
      exact ⟨rfl, rfl⟩

theorem c_trustquorumref24_AcceptsPrepare (e : Env) (b : Ballot) (hok : e.trust.ok) : ACalls Tryz.prog 14 [.aggd e.d, .aggd b.d] [] fun dd bb => dd = VB (e.acceptsR b) ∧ bb = [] := by
  refine zai Tryz.func14 rfl Tryz.ntmps14 (by rw [Tryz.results14]) rfl rfl (fun w0 A0 X => ?_)
  refine zsr ?_
  refine zc rfl (zbx (zt rfl) rfl rfl ?_)
  refine zc rfl (zbx (zt rfl) rfl rfl ?_)
  refine zc rfl (zas zb0 rfl ?_)
  refine zn0 ?_
  refine zw2 ?_
  refine zsr ?_
  refine zc rfl (zld (n := 15) (zt rfl) zk rfl rfl rfl rfl ?_)
  refine zc rfl (zcl zhf (hc (zt rfl) hz) (rs := []) (bxs := []) zdc bz (c_trustquorumref24_Valid e hok) rfl rfl rfl (fun d b hd hl => ?_))
  obtain ⟨rfl, rfl⟩ := hd
  refine zc rfl (op_not (zt rfl) rfl ?_)
  refine zc rfl (zmv (zt rfl) rfl ?_)
  refine zg rfl rfl rfl rfl (zgb rfl) (fun hg => zld (n := 2) (zt rfl) zk rfl rfl rfl rfl rfl) ?_
  refine zg rfl rfl rfl rfl (zgb rfl) (fun hg => zcl zhf (hc (zcd (zt rfl) hg) hz) (rs := []) (bxs := []) zdc bz (c_trustquorumref23_Zero b) rfl rfl rfl (fun d b hd hl => by obtain ⟨rfl, rfl⟩ := hd; rfl)) ?_
  refine zc rfl (zor (zt rfl) (.inl zb0) (zt rfl) rfl ?_)
  refine zn0 ?_
  refine zwc (zt rfl) (fun h1 => ?_) (fun h1 => ?_)
  · skip
    refine zsr ?_
    refine zc rfl (zas zb0 rfl ?_)
    refine zn0 ?_
    refine zwr ?_
    refine ztr ?_
    refine zpr [] (res1 (zrt rfl)) rfl lz ?_
    have he : e.acceptsR b = false := by rw [Env.acceptsR, if_pos (show (!e.validR || b.isZero) = true from h1)]
    rw [he]
    exact ⟨rfl, rfl⟩
  · skip
    have h1b : ¬ (!e.validR || b.isZero) = true := by rw [show (!e.validR || b.isZero) = false from h1]; simp
    refine zws ?_
    refine ztn ?_
    refine zw2 ?_
    refine zsr ?_
    refine zc rfl (zfa (o := 6) (zt rfl) zk rfl ?_)
    refine zc rfl (zl1 (zt rfl) zk rfl rfl rfl ?_)
    refine zc rfl (zcm (zt rfl) (zi zdc) rfl rfl ?_)
    refine zn0 ?_
    refine zwc (zt rfl) (fun h2 => ?_) (fun h2 => ?_)
    · skip
      have k3 : e.kind = 3 := by simpa using h2
      refine zsr ?_
      refine zc rfl (zfa (o := 7) (zt rfl) zk rfl ?_)
      refine zc rfl (zld (n := 2) (zt rfl) zk rfl rfl rfl rfl ?_)
      refine zc rfl (zld (n := 2) (zt rfl) zk rfl rfl rfl rfl ?_)
      refine zc rfl (zcl zhf (hc (zt rfl) (hc (zt rfl) hz)) (rs := []) (bxs := []) zdc bz (c_trustquorumref23_Compatible e.b b) rfl rfl rfl (fun d b hd hl => ?_))
      obtain ⟨rfl, rfl⟩ := hd
      refine zc rfl (zas (zt rfl) rfl ?_)
      refine zn0 ?_
      refine zwr ?_
      refine ztr ?_
      refine zpr [] (res1 (zrt rfl)) rfl lz ?_
      have he : e.acceptsR b = e.b.compat b := by rw [Env.acceptsR, if_neg h1b, if_pos k3]
      rw [he]
      exact ⟨rfl, rfl⟩
    · skip
      have n3 : ¬ e.kind = 3 := by simpa using h2
      refine zws ?_
      refine ztn ?_
      refine zsr ?_
      refine zc rfl (zfa (o := 9) (zt rfl) zk rfl ?_)
      refine zc rfl (zld (n := 2) (zt rfl) zk rfl rfl rfl rfl ?_)
      refine zc rfl (zfa (o := 11) (zt rfl) zk rfl ?_)
      refine zc rfl (zld (n := 2) (zt rfl) zk rfl rfl rfl rfl ?_)
      refine zc rfl (zld (n := 2) (zt rfl) zk rfl rfl rfl rfl ?_)
      refine zc rfl (zcl zhf (hc (zt rfl) (hc (zt rfl) (hc (zt rfl) hz))) (rs := []) (bxs := []) zdc bz (c_trustquorumref23_Prepares e.p e.q b) rfl rfl rfl (fun d b hd hl => ?_))
      obtain ⟨rfl, rfl⟩ := hd
      refine zc rfl (zas (zt rfl) rfl ?_)
      refine zn0 ?_
      refine zwr ?_
      refine zpr [] (res1 (zrt rfl)) rfl lz ?_
      have he : e.acceptsR b = e.p.preparesR e.q b := by rw [Env.acceptsR, if_neg h1b, if_neg n3]
      rw [he]
      exact ⟨rfl, rfl⟩

theorem c_Right_VotesPrepare (e : Env) (b : Ballot) : ACalls Tryz.prog 68 [.aggd e.d, .aggd b.d] [] fun dd bb => dd = VB (e.rVotes b) ∧ bb = [] := by
  refine zai Tryz.func68 rfl Tryz.ntmps68 (by rw [Tryz.results68]) rfl rfl (fun w0 A0 X => ?_)
  refine zsr ?_
  refine zc rfl (zbx (zt rfl) rfl rfl ?_)
  refine zc rfl (zbx (zt rfl) rfl rfl ?_)
  refine zc rfl (zas zb0 rfl ?_)
  refine zn0 ?_
  refine zw2 ?_
  refine zwb ?_
  refine zsr ?_
  refine zc rfl (zld (n := 2) (zt rfl) zk rfl rfl rfl rfl ?_)
  refine zc rfl (zcl zhf (hc (zt rfl) hz) (rs := []) (bxs := []) zdc bz (c_ballots_Zero b) rfl rfl rfl (fun d b hd hl => ?_))
  obtain ⟨rfl, rfl⟩ := hd
  refine zc rfl (zas (zt rfl) rfl ?_)
  refine zn0 ?_
  refine zwc (zt rfl) (fun h1 => ?_) (fun h1 => ?_)
  · skip
    refine zsr ?_
    refine zc rfl (zas zb0 rfl ?_)
    refine zn0 ?_
    refine zwr ?_
    refine blk_ret ?_
    refine ztr ?_
    refine zpr [] (res1 (zrt rfl)) rfl lz ?_
    have he : e.rVotes b = false := by rw [Env.rVotes, if_pos h1]
    rw [he]
    exact ⟨rfl, rfl⟩
  · skip
    have h1b : ¬ b.isZero = true := by rw [show b.isZero = false from h1]; simp
    refine zsr ?_
    refine zc rfl (zfa (o := 0) (zt rfl) zk rfl ?_)
    refine zc rfl (zfa (o := 6) (zt rfl) zk rfl ?_)
    refine zc rfl (zl1 (zt rfl) zk rfl rfl rfl ?_)
    refine zc rfl (zcm (zt rfl) (zi zdc) rfl rfl ?_)
    refine zc rfl (zas (zt rfl) rfl ?_)
    refine zn0 ?_
    refine zwc (zt rfl) (fun h2 => ?_) (fun h2 => ?_)
    · skip
      have k1 : e.kind = 1 := by simpa using h2
      refine zsr ?_
      refine zc rfl (zfa (o := 0) (zt rfl) zk rfl ?_)
      refine zc rfl (zfa (o := 7) (zt rfl) zk rfl ?_)
      refine zc rfl (zld (n := 2) (zt rfl) zk rfl rfl rfl rfl ?_)
      refine zc rfl (zld (n := 2) (zt rfl) zk rfl rfl rfl rfl ?_)
      refine zc rfl (zcl zhf (hc (zt rfl) (hc (zt rfl) hz)) (rs := []) (bxs := []) zdc bz (c_ballots_Covers e.b b) rfl rfl rfl (fun d b hd hl => ?_))
      obtain ⟨rfl, rfl⟩ := hd
      refine zc rfl (zas (zt rfl) rfl ?_)
      refine zn0 ?_
      refine zwr ?_
      refine blk_ret ?_
      refine ztr ?_
      refine zpr [] (res1 (zrt rfl)) rfl lz ?_
      have he : e.rVotes b = e.b.covers b := by rw [Env.rVotes, if_neg h1b, if_pos k1]
      rw [he]
      exact ⟨rfl, rfl⟩
    · skip
      have n1 : ¬ e.kind = 1 := by simpa using h2
      refine zws ?_
      refine zbn ?_
      refine ztn ?_
      refine zsr ?_
      refine zc rfl (zfa (o := 0) (zt rfl) zk rfl ?_)
      refine zc rfl (zfa (o := 7) (zt rfl) zk rfl ?_)
      refine zc rfl (zld (n := 2) (zt rfl) zk rfl rfl rfl rfl ?_)
      refine zc rfl (zld (n := 2) (zt rfl) zk rfl rfl rfl rfl ?_)
      refine zc rfl (zcl zhf (hc (zt rfl) (hc (zt rfl) hz)) (rs := []) (bxs := []) zdc bz (c_ballots_Compatible e.b b) rfl rfl rfl (fun d b hd hl => ?_))
      obtain ⟨rfl, rfl⟩ := hd
      refine zc rfl (zas (zt rfl) rfl ?_)
      refine zn0 ?_
      refine zwr ?_
      refine zpr [] (res1 (zrt rfl)) rfl lz ?_
      have he : e.rVotes b = e.b.compat b := by rw [Env.rVotes, if_neg h1b, if_neg n1]
      rw [he]
      exact ⟨rfl, rfl⟩

theorem c_Right_AcceptsPrepare (e : Env) (b : Ballot) : ACalls Tryz.prog 69 [.aggd e.d, .aggd b.d] [] fun dd bb => dd = VB (e.rAccepts b) ∧ bb = [] := by
  refine zai Tryz.func69 rfl Tryz.ntmps69 (by rw [Tryz.results69]) rfl rfl (fun w0 A0 X => ?_)
  refine zsr ?_
  refine zc rfl (zbx (zt rfl) rfl rfl ?_)
  refine zc rfl (zbx (zt rfl) rfl rfl ?_)
  refine zc rfl (zas zb0 rfl ?_)
  refine zn0 ?_
  refine zw2 ?_
  refine zwb ?_
  refine zsr ?_
  refine zc rfl (zld (n := 2) (zt rfl) zk rfl rfl rfl rfl ?_)
  refine zc rfl (zcl zhf (hc (zt rfl) hz) (rs := []) (bxs := []) zdc bz (c_ballots_Zero b) rfl rfl rfl (fun d b hd hl => ?_))
  obtain ⟨rfl, rfl⟩ := hd
  refine zc rfl (zas (zt rfl) rfl ?_)
  refine zn0 ?_
  refine zwc (zt rfl) (fun h1 => ?_) (fun h1 => ?_)
  · skip
    refine zsr ?_
    refine zc rfl (zas zb0 rfl ?_)
    refine zn0 ?_
    refine zwr ?_
    refine blk_ret ?_
    refine ztr ?_
    refine zpr [] (res1 (zrt rfl)) rfl lz ?_
    have he : e.rAccepts b = false := by rw [Env.rAccepts, if_pos h1]
    rw [he]
    exact ⟨rfl, rfl⟩
  · skip
    have h1b : ¬ b.isZero = true := by rw [show b.isZero = false from h1]; simp
    refine zsr ?_
    refine zc rfl (zfa (o := 0) (zt rfl) zk rfl ?_)
    refine zc rfl (zfa (o := 6) (zt rfl) zk rfl ?_)
    refine zc rfl (zl1 (zt rfl) zk rfl rfl rfl ?_)
    refine zc rfl (zcm (zt rfl) (zi zdc) rfl rfl ?_)
    refine zc rfl (zas (zt rfl) rfl ?_)
    refine zn0 ?_
    refine zwc (zt rfl) (fun h2 => ?_) (fun h2 => ?_)
    · skip
      have k1 : e.kind = 1 := by simpa using h2
      refine zsr ?_
      refine zc rfl (zfa (o := 0) (zt rfl) zk rfl ?_)
      refine zc rfl (zfa (o := 9) (zt rfl) zk rfl ?_)
      refine zc rfl (zld (n := 2) (zt rfl) zk rfl rfl rfl rfl ?_)
      refine zc rfl (zfa (o := 0) (zt rfl) zk rfl ?_)
      refine zc rfl (zfa (o := 11) (zt rfl) zk rfl ?_)
      refine zc rfl (zld (n := 2) (zt rfl) zk rfl rfl rfl rfl ?_)
      refine zc rfl (zld (n := 2) (zt rfl) zk rfl rfl rfl rfl ?_)
      refine zc rfl (zcl zhf (hc (zt rfl) (hc (zt rfl) (hc (zt rfl) hz))) (rs := []) (bxs := []) zdc bz (c_ballots_Prepares e.p e.q b) rfl rfl rfl (fun d b hd hl => ?_))
      obtain ⟨rfl, rfl⟩ := hd
      refine zc rfl (zas (zt rfl) rfl ?_)
      refine zn0 ?_
      refine zwr ?_
      refine blk_ret ?_
      refine ztr ?_
      refine zpr [] (res1 (zrt rfl)) rfl lz ?_
      have he : e.rAccepts b = e.p.prepares e.q b := by rw [Env.rAccepts, if_neg h1b, if_pos k1]
      rw [he]
      exact ⟨rfl, rfl⟩
    · skip
      have n1 : ¬ e.kind = 1 := by simpa using h2
      refine zsr ?_
      refine zc rfl (zfa (o := 0) (zt rfl) zk rfl ?_)
      refine zc rfl (zfa (o := 6) (zt rfl) zk rfl ?_)
      refine zc rfl (zl1 (zt rfl) zk rfl rfl rfl ?_)
      refine zc rfl (zcm (zt rfl) (zi zdc) rfl rfl ?_)
      refine zc rfl (zas (zt rfl) rfl ?_)
      refine zn0 ?_
      refine zwc (zt rfl) (fun h3 => ?_) (fun h3 => ?_)
      · skip
        have k2 : e.kind = 2 := by simpa using h3
        refine zsr ?_
        refine zc rfl (zfa (o := 0) (zt rfl) zk rfl ?_)
        refine zc rfl (zfa (o := 9) (zt rfl) zk rfl ?_)
        refine zc rfl (zld (n := 2) (zt rfl) zk rfl rfl rfl rfl ?_)
        refine zc rfl (zld (n := 2) (zt rfl) zk rfl rfl rfl rfl ?_)
        refine zc rfl (zcl zhf (hc (zt rfl) (hc (zt rfl) hz)) (rs := []) (bxs := []) zdc bz (c_ballots_Covers e.p b) rfl rfl rfl (fun d b hd hl => ?_))
        obtain ⟨rfl, rfl⟩ := hd
        refine zc rfl (zas (zt rfl) rfl ?_)
        refine zn0 ?_
        refine zwr ?_
        refine blk_ret ?_
        refine ztr ?_
        refine zpr [] (res1 (zrt rfl)) rfl lz ?_
        have he : e.rAccepts b = e.p.covers b := by rw [Env.rAccepts, if_neg h1b, if_neg n1, if_pos k2]
        rw [he]
        exact ⟨rfl, rfl⟩
      · skip
        have n2 : ¬ e.kind = 2 := by simpa using h3
        refine zws ?_
        refine zbn ?_
        refine ztn ?_
        refine zsr ?_
        refine zc rfl (zfa (o := 0) (zt rfl) zk rfl ?_)
        refine zc rfl (zfa (o := 7) (zt rfl) zk rfl ?_)
        refine zc rfl (zld (n := 2) (zt rfl) zk rfl rfl rfl rfl ?_)
        refine zc rfl (zld (n := 2) (zt rfl) zk rfl rfl rfl rfl ?_)
        refine zc rfl (zcl zhf (hc (zt rfl) (hc (zt rfl) hz)) (rs := []) (bxs := []) zdc bz (c_ballots_Compatible e.b b) rfl rfl rfl (fun d b hd hl => ?_))
        obtain ⟨rfl, rfl⟩ := hd
        refine zc rfl (zas (zt rfl) rfl ?_)
        refine zn0 ?_
        refine zwr ?_
        refine zpr [] (res1 (zrt rfl)) rfl lz ?_
        have he : e.rAccepts b = e.b.compat b := by rw [Env.rAccepts, if_neg h1b, if_neg n1, if_neg n2]
        rw [he]
        exact ⟨rfl, rfl⟩

theorem c_envelopes_AcceptsPrepare (e : Env) (b : Ballot) (hok : e.trust.ok) : ACalls Tryz.prog 63 [.aggd e.d, .aggd b.d] [] fun dd bb => dd = VB (e.acceptsP b) ∧ bb = [] := by
  refine zai Tryz.func63 rfl Tryz.ntmps63 (by rw [Tryz.results63]) rfl rfl (fun w0 A0 X => ?_)
  refine zsr ?_
  refine zc rfl (zbx (zt rfl) rfl rfl ?_)
  refine zc rfl (zbx (zt rfl) rfl rfl ?_)
  refine zc rfl (zas zb0 rfl ?_)
  refine zn0 ?_
  refine zsr ?_
  refine zc rfl (zld (n := 15) (zt rfl) zk rfl rfl rfl rfl ?_)
  refine zc rfl (zcl zhf (hc (zt rfl) hz) (rs := []) (bxs := []) zdc bz (c_envelopes_Valid e hok) rfl rfl rfl (fun d b hd hl => ?_))
  obtain ⟨rfl, rfl⟩ := hd
  refine zc rfl (zmv (zt rfl) rfl ?_)
  refine zg rfl rfl rfl rfl (zgb rfl) (fun hg => zld (n := 15) (zt rfl) zk rfl rfl rfl rfl rfl) ?_
  refine zg rfl rfl rfl rfl (zgb rfl) (fun hg => zbd (ps := [(_, _)]) (qs := [(_, _)]) (zs := [.dat (.int .i64 0), .dat (.int .i64 0), .dat (.int .i64 0), .dat (.int .i64 0), .nilsl, .nilsl, .dat (.int .i64 0), .dat (.int .i64 0), .dat (.str ⟨#[]⟩), .dat (.int .i64 0), .dat (.str ⟨#[]⟩), .dat (.int .i64 0), .dat (.str ⟨#[]⟩), .dat (.int .i64 0), .dat (.int .i64 0)]) (pl := [(0, 15)]) (pc (zcd (zt rfl) hg) rfl pz) zk zk rfl rfl rfl) ?_
  refine zg rfl rfl rfl rfl (zgb rfl) (fun hg => zld (n := 2) (zt rfl) zk rfl rfl rfl rfl rfl) ?_
  refine zg rfl rfl rfl rfl (zgb rfl) (fun hg => zcl zhf (hc (zcd (zt rfl) hg) (hc (zcd (zt rfl) hg) hz)) (rs := []) (bxs := []) zdc bz (c_Right_AcceptsPrepare e b) rfl rfl rfl (fun d b hd hl => by obtain ⟨rfl, rfl⟩ := hd; rfl)) ?_
  refine zc rfl (zan (zt rfl) (zt rfl) (.inl zb0) rfl ?_)
  refine zc rfl (zas (zt rfl) rfl ?_)
  refine zn0 ?_
  refine zwr ?_
  refine zpr [] (res1 (zrt rfl)) rfl lz ?_
  exact ⟨rfl, rfl⟩


def filtTo {α : Type} (p : α → Bool) (l : List α) (k : Nat) : List α := (l.take k).filter p
theorem filtTo_yes {α : Type} [Inhabited α] {p : α → Bool} {l : List α} {k : Nat} (f : α → List Dat) (h : k < l.length) (hp : p l[k]! = true) : (filtTo p l (k + 1)).map f = (filtTo p l k).map f ++ [f l[k]!] := by
  rw [getElem!_pos l k h] at hp ⊢
  rw [filtTo, List.take_succ_eq_append_getElem h, List.filter_append, List.map_append, List.filter_cons_of_pos hp]
  rfl
theorem filtTo_no {α : Type} [Inhabited α] {p : α → Bool} {l : List α} {k : Nat} (f : α → List Dat) (h : k < l.length) (hp : p l[k]! = false) : (filtTo p l (k + 1)).map f = (filtTo p l k).map f := by
  rw [getElem!_pos l k h] at hp
  rw [filtTo, List.take_succ_eq_append_getElem h, List.filter_append, List.map_append, List.filter_cons_of_neg (by simp [hp])]
  simp [filtTo]
theorem filtTo_len {α : Type} (p : α → Bool) (l : List α) (k : Nat) : (filtTo p l k).length ≤ k := by
  have := List.length_filter_le p (l.take k)
  rw [List.length_take] at this
  unfold filtTo
  omega
theorem filtTo_end {α : Type} (p : α → Bool) (l : List α) : filtTo p l l.length = l.filter p := by simp [filtTo]
theorem mem_at {α : Type} [Inhabited α] {l : List α} {k : Nat} (h : k < l.length) : l[k]! ∈ l := by simp [h]

theorem c_envelopes_Rights (l : List Env) (hok : ∀ e ∈ l, e.trust.ok) (hlen : l.length ≤ 1000000) : ACalls Tryz.prog 92 [VR (l.map Env.d)] [] fun dd bb => dd = VR ((l.filter Env.validP).map Env.d) ∧ bb = [] := by
  refine zai Tryz.func92 rfl Tryz.ntmps92 (by rw [Tryz.results92]) rfl rfl (fun w0 A0 X => ?_)
  refine zsr ?_
  refine zc rfl (zas has_nil rfl ?_)
  refine zn0 ?_
  refine zsr ?_
  refine zc rfl (zas has_nil rfl ?_)
  refine zn0 ?_
  refine zw2 ?_
  refine zsr ?_
  refine zc rfl (zmv (zt rfl) rfl ?_)
  refine zc rfl (zln (e := 38) (n := 15) (zt rfl) rfl zk rfl (fun hl => ?_))
  refine zc rfl (zmv (zi zdc) rfl ?_)
  refine zn0 ?_
  refine zwb ?_
  refine awp_loop (ι := Nat) (fun k => St.of [(6, VR (l.map Env.d)), (7, VI ((l.map Env.d).length : Int)), (8, VI ((k : Nat) : Int)), (3, .one (.slt 18 ((filtTo Env.validP l k).map Env.d)))] [] [(18, (111, 15))]) (fun k => k ≤ (l.map Env.d).length ∧ (True)) (fun k => (l.map Env.d).length - k) 0 ?_ ?_ ?_
  · exact (le_adopt (q := 18) (t := 3) (e := 111) (k := 15) zdc rfl).trans (le_of (sc rfl (sc rfl (sc rfl (sc rfl sz)))) xz (kc rfl kz))
  · exact ⟨Nat.zero_le _, trivial⟩
  intro k ⟨hk, hI⟩
  refine zsr ?_
  refine zc rfl (zcm (zt rfl) (zt rfl) rfl rfl ?_)
  refine zn0 ?_
  refine zw2 ?_
  refine zwc (zt rfl) (fun h1 => ?_) (fun h1 => ?_)
  · skip
    have hlt : k < (l.map Env.d).length := by have := of_decide_eq_true h1; omega
    have hl2 : k < l.length := by simpa using hlt
    have hfl := filtTo_len Env.validP l k
    refine zws ?_
    refine ztn ?_
    refine zw2 ?_
    refine zwb ?_
    refine zsr ?_
    refine zc rfl (op_indexAddr (e := 38) (n := 15) (zt rfl) rfl (zt rfl) zk (by omega) (show (l.map Env.d)[k]? = some _ from map_getD hl2) rfl rfl ?_)
    refine zc rfl (op_load_imm (n := 15) (zt rfl) zk rfl rfl rfl ?_)
    refine zc rfl (zal (cs := [.dat (.int .i64 0), .dat (.int .i64 0), .dat (.int .i64 0), .dat (.int .i64 0), .nilsl, .nilsl, .dat (.int .i64 0), .dat (.int .i64 0), .dat (.str ⟨#[]⟩), .dat (.int .i64 0), .dat (.str ⟨#[]⟩), .dat (.int .i64 0), .dat (.str ⟨#[]⟩), .dat (.int .i64 0), .dat (.int .i64 0)]) zk rfl ?_)
    refine zc rfl (zst (n := 15) (zt rfl) (zt rfl) rfl (.inl zk) rfl rfl (zbl rfl) ?_)
    refine zn0 ?_
    refine zsr ?_
    refine zc rfl (zld (n := 15) (zt rfl) zk rfl rfl rfl rfl ?_)
    refine zc rfl (zcl zhf (hc (zt rfl) hz) (rs := []) (bxs := []) zdc bz (c_envelopes_Valid l[k]! (hok _ (mem_at hl2))) rfl rfl rfl (fun d b hd hl => ?_))
    obtain ⟨rfl, rfl⟩ := hd
    refine zn0 ?_
    refine zwc (zt rfl) (fun h2 => ?_) (fun h2 => ?_)
    · skip
      have he := filtTo_yes Env.d hl2 h2
      refine zre ?_
      refine zc rfl (zmv (zt rfl) rfl ?_)
      refine zc rfl (zld (n := 15) (zt rfl) zk rfl rfl rfl rfl ?_)
      refine zc rfl (zbd (ps := [(_, _)]) (qs := [(_, _)]) (zs := [.dat (.int .i64 0), .dat (.int .i64 0), .dat (.int .i64 0), .dat (.int .i64 0), .nilsl, .nilsl, .dat (.int .i64 0), .dat (.int .i64 0), .dat (.str ⟨#[]⟩), .dat (.int .i64 0), .dat (.str ⟨#[]⟩), .dat (.int .i64 0), .dat (.str ⟨#[]⟩), .dat (.int .i64 0), .dat (.int .i64 0)]) (pl := [(0, 15)]) (pc (zt rfl) rfl pz) zk zk rfl rfl ?_)
      refine zc rfl (zbs (e := 111) (ps := [(_, _)]) (qs := [(_, _)]) (n := 15) (rows := [[_, _, _, _, _, _, _, _, _, _, _, _, _, _, _]]) (pc (zt rfl) rfl pz) zk zdc ⟨[.dat (.int .i64 0), .dat (.int .i64 0), .dat (.int .i64 0), .dat (.int .i64 0), .nilsl, .nilsl, .dat (.int .i64 0), .dat (.int .i64 0), .dat (.str ⟨#[]⟩), .dat (.int .i64 0), .dat (.str ⟨#[]⟩), .dat (.int .i64 0), .dat (.str ⟨#[]⟩), .dat (.int .i64 0), .dat (.int .i64 0)], by kernel_rfl⟩ rfl rfl (by simp [Uni]) rfl zdc rfl ?_)
      refine zc rfl (op_append (e := 111) (k := 15) (b := 176) (zt rfl) rfl (zt rfl) rfl zk (uni_snoc (uni_map (f := Env.d) (fun _ => rfl) _) rfl) (by simp; omega) (by simp; omega) rfl ?_)
      refine zc rfl (zas (zt rfl) rfl ?_)
      refine zn0 ?_
      refine zbn ?_
      refine ztn ?_
      refine zre ?_
      refine zc rfl (zar (zt rfl) (zi zdc) rfl (ink64 (by omega) (by omega)) rfl ?_)
      refine zc rfl (zmv (zt rfl) rfl ?_)
      refine zn0 ?_
      refine ztn ?_
      exact ⟨k + 1, ⟨by first | omega | (dsimp only; omega), trivial⟩, by first | omega | (dsimp only; omega), (le_of (sc rfl (sc rfl (sc rfl (sc (slt_eq rfl he) sz)))) xz (kc rfl kz))⟩
    · skip
      have he := filtTo_no Env.d hl2 h2
      refine zws ?_
      refine zbn ?_
      refine ztn ?_
      refine zre ?_
      refine zc rfl (zar (zt rfl) (zi zdc) rfl (ink64 (by omega) (by omega)) rfl ?_)
      refine zc rfl (zmv (zt rfl) rfl ?_)
      refine zn0 ?_
      refine ztn ?_
      exact ⟨k + 1, ⟨by first | omega | (dsimp only; omega), trivial⟩, by first | omega | (dsimp only; omega), (le_of (sc rfl (sc rfl (sc rfl (sc (slt_eq rfl he) sz)))) xz (kc rfl kz))⟩
  · skip
    have hge : k = (l.map Env.d).length := by have := of_decide_eq_false h1; omega
    refine zwe ?_
    refine zte ?_
    refine zte ?_
    refine zbk ?_
    refine ztn ?_
    refine zsr ?_
    refine zc rfl (zmv (zt rfl) rfl ?_)
    refine zc rfl (zas (zt rfl) rfl ?_)
    refine zn0 ?_
    refine zwr ?_
    refine zpr [] (res1 (zrt rfl)) rfl lz ?_
    have hkl : k = l.length := by simpa using hge
    rw [hkl, filtTo_end]
    exact ⟨rfl, rfl⟩

theorem c_Clone_int (l : List Int) (hlen : l.length ≤ 1000000000) : ACalls Tryz.prog 131 [VR (iRows l)] [] fun dd bb => dd = VR (iRows l) ∧ bb = [] := by
  refine zai Tryz.func131 rfl Tryz.ntmps131 (by rw [Tryz.results131]) rfl rfl (fun w0 A0 X => ?_)
  refine zsr ?_
  refine zc rfl (zas has_nil rfl ?_)
  refine zn0 ?_
  refine zw2 ?_
  refine zsr ?_
  refine zc rfl (zmv (zt rfl) rfl ?_)
  refine zc rfl (op_eql_nil (e := 3) (n := 1) (zt rfl) rfl has_nil zk rfl (fun b0 hb0 => ?_))
  refine zn0 ?_
  refine zwc (zt rfl) (fun h1 => ?_) (fun h1 => ?_)
  · skip
    have hl0 := hb0 h1
    refine zsr ?_
    refine zc rfl (zas has_nil rfl ?_)
    refine zn0 ?_
    refine zwr ?_
    refine ztr ?_
    refine zpr [] (res1 (zrt rfl)) rfl lz ?_
    rw [hl0]
    exact ⟨rfl, rfl⟩
  · skip
    refine zws ?_
    refine ztn ?_
    refine zsr ?_
    refine zc rfl (op_buildSlice0 (e := 3) (n := 1) zk zdc rfl ?_)
    refine zc rfl (zmv (zt rfl) rfl ?_)
    refine zc rfl (op_append (e := 3) (k := 1) (b := 8) (zt rfl) rfl (zt rfl) rfl zk (uni_map (f := iRow) (fun _ => rfl) _) (by simp; omega) (by simp; omega) rfl ?_)
    refine zc rfl (zas (zt rfl) rfl ?_)
    refine zn0 ?_
    refine zwr ?_
    refine zpr [] (res1 (zrt rfl)) rfl lz ?_
    exact ⟨rfl, rfl⟩


theorem encs_take {l : List Trust} {k : Nat} (h : k < l.length) : (l.take (k + 1)).map Trust.enc = (l.take k).map Trust.enc ++ [l[k]!.d] := by
  rw [List.take_succ_eq_append_getElem h, List.map_append, getElem!_pos l k h]
  simp [Trust.enc_d]
theorem encs_len (l : List Trust) (k : Nat) : ((l.take k).map Trust.enc).length ≤ k := by simp; omega
theorem uni_encs (l : List Trust) : Uni 3 (l.map Trust.enc) := uni_map (f := Trust.enc) (fun t => by rw [Trust.enc_d]; rfl) l

theorem c_copies_Trust_aux (N : Nat) : ∀ (t : Trust) (hok : t.ok), SizeOf.sizeOf t ≤ N → ACalls Tryz.prog 103 [.aggd t.d] [] fun dd bb => dd = .aggd t.d ∧ bb = [] := by
  induction N with
  | zero => intro t hok hN; exact absurd hN (szPos t)
  | succ N ih =>
  intro t hok hN
  have hlen : (t.nodes.length : Int) + (t.inner.length : Int) ≤ 1000000000 := Trust.ok_len hok
  refine zai Tryz.func103 rfl Tryz.ntmps103 (by rw [Tryz.results103]) rfl rfl (fun w0 A0 X => ?_)
  refine zsr ?_
  refine zc rfl (zbx (zt rfl) rfl rfl ?_)
  refine zc rfl (zal (cs := [.dat (.int .i64 0), .nilsl, .nilsl]) zk rfl ?_)
  refine zn0 ?_
  refine awp_seq_drawT zk [.o 3] [] [0, 1, 0, 4, 12, 31, 0, 127] rfl
    (Trace.cons ⟨[(1, _)], [], [], [], [], [.slot 6 _]⟩ (prel (lsc rfl lsz) lbz ltz) (fun zs zp zn => (zgp rfl rfl (zfa (o := 0) (zt zp.1.1) zk rfl rfl))) <|
    Trace.cons ⟨[(6, _)], [(.o 1, _)], [], [], [], [.slot 7 _]⟩ (prel (lsc rfl lsz) (lbc rfl lbz) ltz) (fun zs zp zn => (zgp rfl rfl (zl1 (zt zp.1.1) zk zp.2.1.1 rfl rfl rfl))) <|
    Trace.cons ⟨[(1, _)], [], [], [], [], [.slot 8 _]⟩ (prel (lsc rfl lsz) lbz ltz) (fun zs zp zn => (zgp rfl rfl (zfa (o := 1) (zt zp.1.1) zk rfl rfl))) <|
    Trace.cons ⟨[(8, _)], [(.o 1, _)], [], [], [], [.slot 9 _]⟩ (prel (lsc rfl lsz) (lbc rfl lbz) ltz) (fun zs zp zn => (zgp rfl rfl (zl1 (zt zp.1.1) zk zp.2.1.1 rfl rfl rfl))) <|
    Trace.cons ⟨[(9, _)], [], [], [], [], [.slot 10 _]⟩ (prel (lsc rfl lsz) lbz ltz) (fun zs zp zn => (zgp rfl rfl (zcl zhf (hc (zt zp.1.1) hz) (rs := []) (bxs := []) zdc bz (c_Clone_int t.nodes (by omega)) rfl rfl rfl (fun d b hd hl => by obtain ⟨rfl, rfl⟩ := hd; rfl)))) <|
    Trace.cons ⟨[(7, _), (10, _)], [], [], [], [], [.slot 11 _]⟩ (prel (lsc rfl (lsc rfl lsz)) lbz ltz) (fun zs zp zn => (zgp rfl rfl (zbd (ps := [(_, _), (_, _)]) (qs := [(_, _), (_, _)]) (zs := [.dat (.int .i64 0), .nilsl, .nilsl]) (pl := [(0, 1), (1, 1), (2, 1)]) (pc (zt zp.1.1) rfl (pc (zt zp.1.2.1) rfl pz)) zk zk rfl rfl rfl))) <|
    Trace.cons ⟨[], [], [], [.o 3], [], [.box (.o 3) _, .slot 3 _]⟩ (prel lsz lbz ltz) (fun zs zp zn => (zgp rfl rfl (op_allocF (cs := [.dat (.int .i64 0), .nilsl, .nilsl]) zk rfl zn.1.1 rfl rfl))) <|
    Trace.cons ⟨[(3, _), (11, _)], [(.o 3, _)], [], [], [], [.box (.o 3) _]⟩ (prel (lsc rfl (lsc rfl lsz)) (lbc rfl lbz) ltz) (fun zs zp zn => (zgp rfl rfl (zst (n := 3) (zt zp.1.1) (zt zp.1.2.1) rfl (.inl zk) rfl zp.2.1.1 (zbl rfl) rfl))) <|
    Trace.nil) rfl rfl rfl ?_
  refine zw2 ?_
  refine zsr ?_
  refine zc rfl (zfa (o := 2) (zt rfl) zk rfl ?_)
  refine zc rfl (zl1 (zt rfl) zk rfl rfl rfl ?_)
  refine zc rfl (zln (e := 34) (n := 3) (zt rfl) rfl zk rfl (fun hl => ?_))
  refine zc rfl (zmv (zi zdc) rfl ?_)
  refine zn0 ?_
  refine zwb ?_
  refine awp_loop (ι := Nat) (fun k => St.of [(13, VR (t.inner.map Trust.enc)), (14, VI ((t.inner.map Trust.enc).length : Int)), (15, VI ((k : Nat) : Int)), (2, .one (.ref (.o 2) 0)), (3, .one (.ref (.o 3) 0))] [(.o 2, [.dat (.int .i64 0), .nilsl, .nilsl]), (.o 3, [.dat (.int .i64 t.thr), .dat (.sl (iRows t.nodes)), .slt 100 ((t.inner.take k).map Trust.enc)])] [(100, (34, 3))]) (fun k => k ≤ (t.inner.map Trust.enc).length ∧ (True)) (fun k => (t.inner.map Trust.enc).length - k) 0 ?_ ?_ ?_
  · exact (le_adoptB (r := .o 3) (off := 2) (q := 100) (e := 34) (k := 3) zdc rfl rfl rfl).trans (le_of (sc rfl (sc rfl (sc rfl (sc rfl (sc rfl sz))))) (xc rfl (xc rfl xz)) (kc rfl kz))
  · exact ⟨Nat.zero_le _, trivial⟩
  intro k ⟨hk, hI⟩
  refine zsr ?_
  refine zc rfl (zcm (zt rfl) (zt rfl) rfl rfl ?_)
  refine zn0 ?_
  refine zw2 ?_
  refine zwc (zt rfl) (fun h1 => ?_) (fun h1 => ?_)
  · skip
    have hlt : k < (t.inner.map Trust.enc).length := by have := of_decide_eq_true h1; omega
    have hl2 : k < t.inner.length := by simpa using hlt
    have hel := encs_len t.inner k
    refine zws ?_
    refine ztn ?_
    refine zw2 ?_
    refine zwb ?_
    refine zsr ?_
    refine zc rfl (op_indexAddr (e := 34) (n := 3) (zt rfl) rfl (zt rfl) zk (by omega) (show (t.inner.map Trust.enc)[k]? = some _ from tget hl2) rfl rfl ?_)
    refine zc rfl (op_load_imm (n := 3) (zt rfl) zk rfl rfl rfl ?_)
    refine zc rfl (zal (cs := [.dat (.int .i64 0), .nilsl, .nilsl]) zk rfl ?_)
    refine zc rfl (zst (n := 3) (zt rfl) (zt rfl) rfl (.inl zk) rfl rfl (zbl rfl) ?_)
    refine zn0 ?_
    refine awp_drawT zk [] [24] [0, 1, 0, 4, 12, 31, 63, 127] rfl
      (Trace.cons ⟨[(3, _)], [], [], [], [], [.slot 19 _]⟩ (prel (lsc rfl lsz) lbz ltz) (fun zs zp zn => (zgp rfl rfl (zfa (o := 2) (zt zp.1.1) zk rfl rfl))) <|
      Trace.cons ⟨[(19, _)], [(.o 3, _)], [], [], [], [.slot 20 _]⟩ (prel (lsc rfl lsz) (lbc rfl lbz) ltz) (fun zs zp zn => (zgp rfl rfl (zl1 (zt zp.1.1) zk zp.2.1.1 rfl rfl rfl))) <|
      Trace.cons ⟨[(5, _)], [(.o 5, _)], [], [], [], [.slot 21 _]⟩ (prel (lsc rfl lsz) (lbc rfl lbz) ltz) (fun zs zp zn => (zgp rfl rfl (zld (n := 3) (zt zp.1.1) zk zp.2.1.1 rfl rfl rfl rfl))) <|
      Trace.cons ⟨[(21, _)], [], [], [], [], [.slot 22 _]⟩ (prel (lsc rfl lsz) lbz ltz) (fun zs zp zn => (zgp rfl rfl (zcl zhf (hc (zt zp.1.1) hz) (rs := []) (bxs := []) zdc bz (ih t.inner[k]! (Trust.ok_inner hok hl2) (by have := sz_inner hl2; omega)) rfl rfl rfl (fun d b hd hl => by obtain ⟨rfl, rfl⟩ := hd; rfl)))) <|
      Trace.cons ⟨[(22, _)], [], [], [], [], [.slot 23 _]⟩ (prel (lsc rfl lsz) lbz ltz) (fun zs zp zn => (zgp rfl rfl (zbs (e := 34) (ps := [(_, _)]) (qs := [(_, _)]) (n := 3) (rows := [[_, _, _]]) (pc (zt zp.1.1) rfl pz) zk zdc ⟨[.dat (.int .i64 0), .nilsl, .nilsl], by kernel_rfl⟩ rfl rfl (by simp [Uni]) rfl zdc rfl rfl))) <|
      Trace.cons ⟨[(20, _), (23, _)], [], [(100, _)], [], [24], [.tok 100 none, .tok 24 _, .slot 24 _]⟩ (prel (lsc rfl (lsc rfl lsz)) lbz (ltc rfl ltz)) (fun zs zp zn => (zgp rfl rfl (op_appendF (e := 34) (k := 3) (b := 56) (zt zp.1.1) zp.2.2.1 (zt zp.1.2.1) rfl zk (uni_snoc (uni_encs _) rfl) (by simp; omega) (by simp; omega) rfl zn.2.1 rfl))) <|
      Trace.cons ⟨[(3, _)], [], [], [], [], [.slot 25 _]⟩ (prel (lsc rfl lsz) lbz ltz) (fun zs zp zn => (zgp rfl rfl (zfa (o := 2) (zt zp.1.1) zk rfl rfl))) <|
      Trace.cons ⟨[(25, _), (24, _)], [(.o 3, _)], [], [], [], [.box (.o 3) _]⟩ (prel (lsc rfl (lsc rfl lsz)) (lbc rfl lbz) ltz) (fun zs zp zn => (zgp rfl rfl (zst (n := 1) (zt zp.1.1) (zt zp.1.2.1) rfl (.inr ⟨by kernel_rfl, rfl⟩) rfl zp.2.1.1 (zbl rfl) rfl))) <|
      Trace.nil) rfl rfl rfl ?_
    refine zbn ?_
    refine ztn ?_
    refine zre ?_
    refine zc rfl (zar (zt rfl) (zi zdc) rfl (ink64 (by omega) (by omega)) rfl ?_)
    refine zc rfl (zmv (zt rfl) rfl ?_)
    refine zn0 ?_
    refine ztn ?_
    have he : [C.dat (.int .i64 t.thr), .dat (.sl (iRows t.nodes)), .slt 100 ((t.inner.take (k + 1)).map Trust.enc)] = [C.dat (.int .i64 t.thr), .dat (.sl (iRows t.nodes)), .slt 100 ((t.inner.take k).map Trust.enc ++ [t.inner[k]!.d])] := by rw [encs_take hl2]
    refine ⟨k + 1, ⟨by show _ ≤ _; omega, trivial⟩, by show _ < _; omega, ?_⟩
    refine (le_retokB (q := 24) (p := 100) (r := .o 3) (off := 2) rfl rfl rfl rfl).trans ?_
    exact le_of (sc rfl (sc rfl (sc rfl (sc rfl (sc rfl sz))))) (xc rfl (xc (bx_eq rfl he) xz)) (kc rfl kz)
  · skip
    have hge : k = (t.inner.map Trust.enc).length := by have := of_decide_eq_false h1; omega
    refine zwe ?_
    refine zte ?_
    refine zte ?_
    refine zbk ?_
    refine ztn ?_
    refine zsr ?_
    refine zc rfl (zld (n := 3) (zt rfl) zk rfl rfl rfl rfl ?_)
    refine zc rfl (zst (n := 3) (zt rfl) (zt rfl) rfl (.inl zk) rfl rfl (zbl rfl) ?_)
    refine zn0 ?_
    refine zwr ?_
    refine zpr [] (res1 (ri_agg (n := 3) rfl rfl zk rfl)) rfl lz ?_
    have hkl : k = t.inner.length := by simpa using hge
    rw [hkl, List.take_length]
    exact ⟨rfl, rfl⟩
theorem c_copies_Trust (t : Trust) (hok : t.ok) : ACalls Tryz.prog 103 [.aggd t.d] [] fun dd bb => dd = .aggd t.d ∧ bb = [] := c_copies_Trust_aux _ t hok (Nat.le_refl _)

theorem c_copies_Envelope (e : Env) (hok : e.trust.ok) : ACalls Tryz.prog 73 [.aggd e.d] [] fun dd bb => dd = .aggd e.d ∧ bb = [] := by
  refine zai Tryz.func73 rfl Tryz.ntmps73 (by rw [Tryz.results73]) rfl rfl (fun w0 A0 X => ?_)
  refine zsr ?_
  refine zc rfl (zbx (zt rfl) rfl rfl ?_)
  refine zc rfl (zal (cs := [.dat (.int .i64 0), .dat (.int .i64 0), .dat (.int .i64 0), .dat (.int .i64 0), .nilsl, .nilsl, .dat (.int .i64 0), .dat (.int .i64 0), .dat (.str ⟨#[]⟩), .dat (.int .i64 0), .dat (.str ⟨#[]⟩), .dat (.int .i64 0), .dat (.str ⟨#[]⟩), .dat (.int .i64 0), .dat (.int .i64 0)]) zk rfl ?_)
  refine zn0 ?_
  refine zsr ?_
  refine zc rfl (zfa (o := 3) (zt rfl) zk rfl ?_)
  refine zc rfl (zld (n := 3) (zt rfl) zk rfl rfl rfl rfl ?_)
  refine zc rfl (zcl zhf (hc (zt rfl) hz) (rs := []) (bxs := []) zdc bz (c_copies_Trust e.trust hok) rfl rfl rfl (fun d b hd hl => ?_))
  obtain ⟨rfl, rfl⟩ := hd
  refine zc rfl (zfa (o := 3) (zt rfl) zk rfl ?_)
  refine zc rfl (zst (n := 3) (zt rfl) (zt rfl) rfl (.inl zk) rfl rfl (zbl rfl) ?_)
  refine zn0 ?_
  refine zsr ?_
  refine zc rfl (zld (n := 15) (zt rfl) zk rfl rfl rfl rfl ?_)
  refine zc rfl (zst (n := 15) (zt rfl) (zt rfl) rfl (.inl zk) rfl rfl (zbl rfl) ?_)
  refine zn0 ?_
  refine zwr ?_
  refine zpr [] (res1 (ri_agg (n := 15) rfl rfl zk rfl)) rfl lz ?_
  exact ⟨rfl, rfl⟩

end Go.TQ
