/- s03.py -/
import Derived.Test.YtmfiplnojbjcbaaGreatC02
set_option linter.unusedVariables false
set_option linter.unusedSimpArgs false
set_option maxRecDepth 10000
namespace Go.TQ
open Go.Proofs

theorem c_ballots_Zero (b : Ballot) : ACalls Tryz.prog 85 [.aggd (b).d] [] fun dd bb => dd = VB (b.isZero) ∧ bb = [] := by
  refine zai Tryz.func85 rfl Tryz.ntmps85 (by rw [Tryz.results85]) rfl rfl (fun w0 A0 X => ?_)
  refine zsr ?_
  refine zc rfl (zbx (zt rfl) rfl rfl ?_)
  refine zc rfl (zas zb0 rfl ?_)
  refine zn0 ?_
  refine zsr ?_
  refine zc rfl (zld (n := 2) (zt rfl) zk rfl rfl rfl rfl ?_)
  refine zc rfl (zbd (ps := []) (qs := []) (zs := [.dat (.int .i64 0), .dat (.str ⟨#[]⟩)]) (pl := [(0, 1), (1, 1)]) pz zk zk rfl rfl ?_)
  refine zc rfl (op_eql_struct (ts := [.i, .s]) (.inl rfl) (zt rfl) (zt rfl) rfl rfl zk rfl rfl ?_)
  refine zc rfl (zas (zt rfl) rfl ?_)
  refine zn0 ?_
  refine zwr ?_
  refine zpr [] (res1 (zrt rfl)) rfl lz ?_
  exact ⟨rfl, rfl⟩

theorem c_ballots_Valid (b : Ballot) : ACalls Tryz.prog 83 [.aggd (b).d] [] fun dd bb => dd = VB (b.valid) ∧ bb = [] := by
  refine zai Tryz.func83 rfl Tryz.ntmps83 (by rw [Tryz.results83]) rfl rfl (fun w0 A0 X => ?_)
  refine zsr ?_
  refine zc rfl (zbx (zt rfl) rfl rfl ?_)
  refine zc rfl (zas zb0 rfl ?_)
  refine zn0 ?_
  refine zsr ?_
  refine zc rfl (zfa (o := 0) (zt rfl) zk rfl ?_)
  refine zc rfl (zl1 (zt rfl) zk rfl rfl rfl ?_)
  refine zc rfl (zcm (zt rfl) (zi zdc) rfl rfl ?_)
  refine zc rfl (zmv (zt rfl) rfl ?_)
  refine zg rfl rfl rfl rfl (zgb rfl) (fun hg => zfa (o := 0) (zt rfl) zk rfl rfl) ?_
  refine zg rfl rfl rfl rfl (zgb rfl) (fun hg => zl1 (zcd (zt rfl) hg) zk rfl rfl rfl rfl) ?_
  refine zg rfl rfl rfl rfl (zgb rfl) (fun hg => zcm (zcd (zt rfl) hg) (zi zdc) rfl rfl rfl) ?_
  refine zc rfl (zan (zt rfl) (zt rfl) (.inl zb0) rfl ?_)
  refine zc rfl (zmv (zt rfl) rfl ?_)
  refine zg rfl rfl rfl rfl (zgb rfl) (fun hg => zfa (o := 0) (zt rfl) zk rfl rfl) ?_
  refine zg rfl rfl rfl rfl (zgb rfl) (fun hg => zl1 (zcd (zt rfl) hg) zk rfl rfl rfl rfl) ?_
  refine zg rfl rfl rfl rfl (zgb rfl) (fun hg => zcm (zcd (zt rfl) hg) (zi zdc) rfl rfl rfl) ?_
  refine zc rfl (zor (zt rfl) (.inl zb0) (zt rfl) rfl ?_)
  refine zc rfl (zas (zt rfl) rfl ?_)
  refine zn0 ?_
  refine zsr ?_
  refine zc rfl (zmv (zt rfl) rfl ?_)
  refine zc rfl (zmv (zt rfl) rfl ?_)
  refine zg rfl rfl rfl rfl (zgb rfl) (fun hg => zfa (o := 1) (zt rfl) zk rfl rfl) ?_
  refine zg rfl rfl rfl rfl (zgb rfl) (fun hg => zl1 (zcd (zt rfl) hg) zk rfl rfl rfl rfl) ?_
  refine zg rfl rfl rfl rfl (zgb rfl) (fun hg => op_len_str (zcd (zt rfl) hg) zk rfl (fun hl => rfl)) ?_
  refine zg rfl rfl rfl rfl (zgb rfl) (fun hg => zcm (zcd (zt rfl) hg) (zi zdc) rfl rfl rfl) ?_
  refine zc rfl (zan (zt rfl) (zt rfl) (.inl zb0) rfl ?_)
  refine zc rfl (zmv (zt rfl) rfl ?_)
  refine zg rfl rfl rfl rfl (zgb rfl) (fun hg => zfa (o := 1) (zt rfl) zk rfl rfl) ?_
  refine zg rfl rfl rfl rfl (zgb rfl) (fun hg => zl1 (zcd (zt rfl) hg) zk rfl rfl rfl rfl) ?_
  refine zg rfl rfl rfl rfl (zgb rfl) (fun hg => op_len_str (zcd (zt rfl) hg) zk rfl (fun hl => rfl)) ?_
  refine zg rfl rfl rfl rfl (zgb rfl) (fun hg => zcm (zcd (zt rfl) hg) (zi zdc) rfl rfl rfl) ?_
  refine zc rfl (zan (zt rfl) (zt rfl) (.inl zb0) rfl ?_)
  refine zc rfl (zas (zt rfl) rfl ?_)
  refine zn0 ?_
  refine zwr ?_
  refine zpr [] (res1 (zrt rfl)) rfl lz ?_
  exact ⟨rfl, rfl⟩

theorem c_ballots_Compatible (a b : Ballot) : ACalls Tryz.prog 84 [.aggd (a).d, .aggd (b).d] [] fun dd bb => dd = VB (a.compat b) ∧ bb = [] := by
  refine zai Tryz.func84 rfl Tryz.ntmps84 (by rw [Tryz.results84]) rfl rfl (fun w0 A0 X => ?_)
  refine zsr ?_
  refine zc rfl (zbx (zt rfl) rfl rfl ?_)
  refine zc rfl (zbx (zt rfl) rfl rfl ?_)
  refine zc rfl (zas zb0 rfl ?_)
  refine zn0 ?_
  refine zsr ?_
  refine zc rfl (zfa (o := 1) (zt rfl) zk rfl ?_)
  refine zc rfl (zl1 (zt rfl) zk rfl rfl rfl ?_)
  refine zc rfl (zfa (o := 1) (zt rfl) zk rfl ?_)
  refine zc rfl (zl1 (zt rfl) zk rfl rfl rfl ?_)
  refine zc rfl (op_cmp_str (zt rfl) (zt rfl) rfl rfl ?_)
  refine zc rfl (zas (zt rfl) rfl ?_)
  refine zn0 ?_
  refine zwr ?_
  refine zpr [] (res1 (zrt rfl)) rfl lz ?_
  exact ⟨rfl, rfl⟩

theorem c_ballots_Covers (p b : Ballot) : ACalls Tryz.prog 93 [.aggd (p).d, .aggd (b).d] [] fun dd bb => dd = VB (p.covers b) ∧ bb = [] := by
  refine zai Tryz.func93 rfl Tryz.ntmps93 (by rw [Tryz.results93]) rfl rfl (fun w0 A0 X => ?_)
  refine zsr ?_
  refine zc rfl (zbx (zt rfl) rfl rfl ?_)
  refine zc rfl (zbx (zt rfl) rfl rfl ?_)
  refine zc rfl (zas zb0 rfl ?_)
  refine zn0 ?_
  refine zsr ?_
  refine zc rfl (zld (n := 2) (zt rfl) zk rfl rfl rfl rfl ?_)
  refine zc rfl (zcl zhf (hc (zt rfl) hz) (rs := []) (bxs := []) zdc bz (c_ballots_Zero p) rfl rfl rfl (fun d b hd hl => ?_))
  obtain ⟨rfl, rfl⟩ := hd
  refine zc rfl (op_not (zt rfl) rfl ?_)
  refine zc rfl (zmv (zt rfl) rfl ?_)
  refine zg rfl rfl rfl rfl (zgb rfl) (fun hg => zld (n := 2) (zt rfl) zk rfl rfl rfl rfl rfl) ?_
  refine zg rfl rfl rfl rfl (zgb rfl) (fun hg => zld (n := 2) (zt rfl) zk rfl rfl rfl rfl rfl) ?_
  refine zg rfl rfl rfl rfl (zgb rfl) (fun hg => zcl zhf (hc (zcd (zt rfl) hg) (hc (zcd (zt rfl) hg) hz)) (rs := []) (bxs := []) zdc bz (c_ballots_Compatible p b) rfl rfl rfl (fun d b hd hl => by obtain ⟨rfl, rfl⟩ := hd; rfl)) ?_
  refine zc rfl (zan (zt rfl) (zt rfl) (.inl zb0) rfl ?_)
  refine zc rfl (zmv (zt rfl) rfl ?_)
  refine zg rfl rfl rfl rfl (zgb rfl) (fun hg => zfa (o := 0) (zt rfl) zk rfl rfl) ?_
  refine zg rfl rfl rfl rfl (zgb rfl) (fun hg => zl1 (zcd (zt rfl) hg) zk rfl rfl rfl rfl) ?_
  refine zg rfl rfl rfl rfl (zgb rfl) (fun hg => zfa (o := 0) (zt rfl) zk rfl rfl) ?_
  refine zg rfl rfl rfl rfl (zgb rfl) (fun hg => zl1 (zcd (zt rfl) hg) zk rfl rfl rfl rfl) ?_
  refine zg rfl rfl rfl rfl (zgb rfl) (fun hg => zcm (zcd (zt rfl) hg) (zcd (zt rfl) hg) rfl rfl rfl) ?_
  refine zc rfl (zan (zt rfl) (zt rfl) (.inl zb0) rfl ?_)
  refine zc rfl (zas (zt rfl) rfl ?_)
  refine zn0 ?_
  refine zwr ?_
  refine zpr [] (res1 (zrt rfl)) rfl lz ?_
  exact ⟨rfl, rfl⟩

theorem c_ballots_Compare (a b : Ballot) : ACalls Tryz.prog 134 [.aggd (a).d, .aggd (b).d] [] fun dd bb => dd = VI (a.cmp b) ∧ bb = [] := by
  refine zai Tryz.func134 rfl Tryz.ntmps134 (by rw [Tryz.results134]) rfl rfl (fun w0 A0 X => ?_)
  refine zsr ?_
  refine zc rfl (zbx (zt rfl) rfl rfl ?_)
  refine zc rfl (zbx (zt rfl) rfl rfl ?_)
  refine zc rfl (zas (zi zdc) rfl ?_)
  refine zn0 ?_
  refine awp_seq_drawT zk [] [] [0, 1, 0, 4, 15, 0, 32, 0, 128, 511, 1023, 2047, 4095] rfl
    (Trace.cons ⟨[(2, _)], [], [], [], [], [.slot 5 _]⟩ (prel (lsc rfl lsz) lbz ltz) (fun zs zp zn => (zgp rfl rfl (zfa (o := 0) (zt zp.1.1) zk rfl rfl))) <|
    Trace.cons ⟨[(5, _)], [(.o 2, _)], [], [], [], [.slot 6 _]⟩ (prel (lsc rfl lsz) (lbc rfl lbz) ltz) (fun zs zp zn => (zgp rfl rfl (zl1 (zt zp.1.1) zk zp.2.1.1 rfl rfl rfl))) <|
    Trace.cons ⟨[(3, _)], [], [], [], [], [.slot 7 _]⟩ (prel (lsc rfl lsz) lbz ltz) (fun zs zp zn => (zgp rfl rfl (zfa (o := 0) (zt zp.1.1) zk rfl rfl))) <|
    Trace.cons ⟨[(7, _)], [(.o 3, _)], [], [], [], [.slot 8 _]⟩ (prel (lsc rfl lsz) (lbc rfl lbz) ltz) (fun zs zp zn => (zgp rfl rfl (zl1 (zt zp.1.1) zk zp.2.1.1 rfl rfl rfl))) <|
    Trace.cons ⟨[(6, _), (8, _)], [], [], [], [], [.slot 9 _]⟩ (prel (lsc rfl (lsc rfl lsz)) lbz ltz) (fun zs zp zn => (zgp rfl rfl (zcl zhf (hc (zt zp.1.1) (hc (zt zp.1.2.1) hz)) (rs := []) (bxs := []) zdc bz (c_cmp_Compare_int _ _) rfl rfl rfl (fun d b hd hl => by obtain ⟨rfl, rfl⟩ := hd; rfl)))) <|
    Trace.cons ⟨[(2, _)], [], [], [], [], [.slot 10 _]⟩ (prel (lsc rfl lsz) lbz ltz) (fun zs zp zn => (zgp rfl rfl (zfa (o := 1) (zt zp.1.1) zk rfl rfl))) <|
    Trace.cons ⟨[(10, _)], [(.o 2, _)], [], [], [], [.slot 11 _]⟩ (prel (lsc rfl lsz) (lbc rfl lbz) ltz) (fun zs zp zn => (zgp rfl rfl (zl1 (zt zp.1.1) zk zp.2.1.1 rfl rfl rfl))) <|
    Trace.cons ⟨[(3, _)], [], [], [], [], [.slot 12 _]⟩ (prel (lsc rfl lsz) lbz ltz) (fun zs zp zn => (zgp rfl rfl (zfa (o := 1) (zt zp.1.1) zk rfl rfl))) <|
    Trace.cons ⟨[(12, _)], [(.o 3, _)], [], [], [], [.slot 13 _]⟩ (prel (lsc rfl lsz) (lbc rfl lbz) ltz) (fun zs zp zn => (zgp rfl rfl (zl1 (zt zp.1.1) zk zp.2.1.1 rfl rfl rfl))) <|
    Trace.cons ⟨[(11, _), (13, _)], [], [], [], [], [.slot 14 _]⟩ (prel (lsc rfl (lsc rfl lsz)) lbz ltz) (fun zs zp zn => (zgp rfl rfl (zcl zhf (hc (zt zp.1.1) (hc (zt zp.1.2.1) hz)) (rs := []) (bxs := []) zdc bz (c_ballots_CompareValues a.v b.v) rfl rfl rfl (fun d b hd hl => by obtain ⟨rfl, rfl⟩ := hd; rfl)))) <|
    Trace.cons ⟨[(9, _), (14, _)], [], [], [], [], [.slot 15 _]⟩ (prel (lsc rfl (lsc rfl lsz)) lbz ltz) (fun zs zp zn => (zgp rfl rfl (zbs (e := 3) (ps := [(_, _), (_, _)]) (qs := [(_, _), (_, _)]) (n := 1) (rows := [[_], [_]]) (pc (zt zp.1.1) rfl (pc (zt zp.1.2.1) rfl pz)) zk zdc ⟨[.dat (.int .i64 0)], by kernel_rfl⟩ rfl rfl (by simp [Uni]) rfl zdc rfl rfl))) <|
    Trace.cons ⟨[(15, _)], [], [], [], [], [.slot 16 _]⟩ (prel (lsc rfl lsz) lbz ltz) (fun zs zp zn => (zgp rfl rfl (zcl zhf (hc (zt zp.1.1) hz) (rs := []) (bxs := []) zdc bz (c_cmp_Or_int [cmpInt a.c b.c, cmpVal a.v b.v]) rfl rfl rfl (fun d b hd hl => by obtain ⟨rfl, rfl⟩ := hd; rfl)))) <|
    Trace.cons ⟨[(16, _)], [], [], [], [], [.slot 4 _]⟩ (prel (lsc rfl lsz) lbz ltz) (fun zs zp zn => (zgp rfl rfl (zas (zt zp.1.1) rfl rfl))) <|
    Trace.nil) rfl rfl rfl ?_
  refine zwr ?_
  refine zpr [] (res1 (zrt rfl)) rfl lz ?_
  exact ⟨rfl, rfl⟩

theorem c_ballots_Less (a b : Ballot) : ACalls Tryz.prog 110 [.aggd (a).d, .aggd (b).d] [] fun dd bb => dd = VB (a.less b) ∧ bb = [] := by
  refine zai Tryz.func110 rfl Tryz.ntmps110 (by rw [Tryz.results110]) rfl rfl (fun w0 A0 X => ?_)
  refine zsr ?_
  refine zc rfl (zbx (zt rfl) rfl rfl ?_)
  refine zc rfl (zbx (zt rfl) rfl rfl ?_)
  refine zc rfl (zas zb0 rfl ?_)
  refine zn0 ?_
  refine zsr ?_
  refine zc rfl (zld (n := 2) (zt rfl) zk rfl rfl rfl rfl ?_)
  refine zc rfl (zld (n := 2) (zt rfl) zk rfl rfl rfl rfl ?_)
  refine zc rfl (zcl zhf (hc (zt rfl) (hc (zt rfl) hz)) (rs := []) (bxs := []) zdc bz (c_ballots_Compare a b) rfl rfl rfl (fun d b hd hl => ?_))
  obtain ⟨rfl, rfl⟩ := hd
  refine zc rfl (zcm (zt rfl) (zi zdc) rfl rfl ?_)
  refine zc rfl (zas (zt rfl) rfl ?_)
  refine zn0 ?_
  refine zwr ?_
  refine zpr [] (res1 (zrt rfl)) rfl lz ?_
  exact ⟨rfl, rfl⟩

theorem c_ballots_Aborts (p b : Ballot) : ACalls Tryz.prog 113 [.aggd (p).d, .aggd (b).d] [] fun dd bb => dd = VB (p.aborts b) ∧ bb = [] := by
  refine zai Tryz.func113 rfl Tryz.ntmps113 (by rw [Tryz.results113]) rfl rfl (fun w0 A0 X => ?_)
  refine zsr ?_
  refine zc rfl (zbx (zt rfl) rfl rfl ?_)
  refine zc rfl (zbx (zt rfl) rfl rfl ?_)
  refine zc rfl (zas zb0 rfl ?_)
  refine zn0 ?_
  refine zsr ?_
  refine zc rfl (zld (n := 2) (zt rfl) zk rfl rfl rfl rfl ?_)
  refine zc rfl (zcl zhf (hc (zt rfl) hz) (rs := []) (bxs := []) zdc bz (c_ballots_Zero p) rfl rfl rfl (fun d b hd hl => ?_))
  obtain ⟨rfl, rfl⟩ := hd
  refine zc rfl (op_not (zt rfl) rfl ?_)
  refine zc rfl (zmv (zt rfl) rfl ?_)
  refine zg rfl rfl rfl rfl (zgb rfl) (fun hg => zld (n := 2) (zt rfl) zk rfl rfl rfl rfl rfl) ?_
  refine zg rfl rfl rfl rfl (zgb rfl) (fun hg => zld (n := 2) (zt rfl) zk rfl rfl rfl rfl rfl) ?_
  refine zg rfl rfl rfl rfl (zgb rfl) (fun hg => zcl zhf (hc (zcd (zt rfl) hg) (hc (zcd (zt rfl) hg) hz)) (rs := []) (bxs := []) zdc bz (c_ballots_Compatible p b) rfl rfl rfl (fun d b hd hl => by obtain ⟨rfl, rfl⟩ := hd; rfl)) ?_
  refine zg rfl rfl rfl rfl (zgb rfl) (fun hg => op_not (zcd (zt rfl) hg) rfl rfl) ?_
  refine zc rfl (zan (zt rfl) (zt rfl) (.inl zb0) rfl ?_)
  refine zc rfl (zmv (zt rfl) rfl ?_)
  refine zg rfl rfl rfl rfl (zgb rfl) (fun hg => zld (n := 2) (zt rfl) zk rfl rfl rfl rfl rfl) ?_
  refine zg rfl rfl rfl rfl (zgb rfl) (fun hg => zld (n := 2) (zt rfl) zk rfl rfl rfl rfl rfl) ?_
  refine zg rfl rfl rfl rfl (zgb rfl) (fun hg => zcl zhf (hc (zcd (zt rfl) hg) (hc (zcd (zt rfl) hg) hz)) (rs := []) (bxs := []) zdc bz (c_ballots_Less b p) rfl rfl rfl (fun d b hd hl => by obtain ⟨rfl, rfl⟩ := hd; rfl)) ?_
  refine zc rfl (zan (zt rfl) (zt rfl) (.inl zb0) rfl ?_)
  refine zc rfl (zas (zt rfl) rfl ?_)
  refine zn0 ?_
  refine zwr ?_
  refine zpr [] (res1 (zrt rfl)) rfl lz ?_
  exact ⟨rfl, rfl⟩

theorem c_ballots_Prepares (p q b : Ballot) : ACalls Tryz.prog 94 [.aggd (p).d, .aggd (q).d, .aggd (b).d] [] fun dd bb => dd = VB (p.prepares q b) ∧ bb = [] := by
  refine zai Tryz.func94 rfl Tryz.ntmps94 (by rw [Tryz.results94]) rfl rfl (fun w0 A0 X => ?_)
  refine zsr ?_
  refine zc rfl (zbx (zt rfl) rfl rfl ?_)
  refine zc rfl (zbx (zt rfl) rfl rfl ?_)
  refine zc rfl (zbx (zt rfl) rfl rfl ?_)
  refine zc rfl (zas zb0 rfl ?_)
  refine zn0 ?_
  refine zsr ?_
  refine zc rfl (zld (n := 2) (zt rfl) zk rfl rfl rfl rfl ?_)
  refine zc rfl (zld (n := 2) (zt rfl) zk rfl rfl rfl rfl ?_)
  refine zc rfl (zcl zhf (hc (zt rfl) (hc (zt rfl) hz)) (rs := []) (bxs := []) zdc bz (c_ballots_Covers p b) rfl rfl rfl (fun d b hd hl => ?_))
  obtain ⟨rfl, rfl⟩ := hd
  refine zc rfl (zmv (zt rfl) rfl ?_)
  refine zg rfl rfl rfl rfl (zgb rfl) (fun hg => zld (n := 2) (zt rfl) zk rfl rfl rfl rfl rfl) ?_
  refine zg rfl rfl rfl rfl (zgb rfl) (fun hg => zld (n := 2) (zt rfl) zk rfl rfl rfl rfl rfl) ?_
  refine zg rfl rfl rfl rfl (zgb rfl) (fun hg => zcl zhf (hc (zcd (zt rfl) hg) (hc (zcd (zt rfl) hg) hz)) (rs := []) (bxs := []) zdc bz (c_ballots_Covers q b) rfl rfl rfl (fun d b hd hl => by obtain ⟨rfl, rfl⟩ := hd; rfl)) ?_
  refine zc rfl (zor (zt rfl) (.inl zb0) (zt rfl) rfl ?_)
  refine zc rfl (zmv (zt rfl) rfl ?_)
  refine zg rfl rfl rfl rfl (zgb rfl) (fun hg => zld (n := 2) (zt rfl) zk rfl rfl rfl rfl rfl) ?_
  refine zg rfl rfl rfl rfl (zgb rfl) (fun hg => zcl zhf (hc (zcd (zt rfl) hg) hz) (rs := []) (bxs := []) zdc bz (c_ballots_Zero q) rfl rfl rfl (fun d b hd hl => by obtain ⟨rfl, rfl⟩ := hd; rfl)) ?_
  refine zg rfl rfl rfl rfl (zgb rfl) (fun hg => op_not (zcd (zt rfl) hg) rfl rfl) ?_
  refine zg rfl rfl rfl rfl (zgb rfl) (fun hg => zmv (zcd (zt rfl) hg) rfl rfl) ?_
  refine zg rfl rfl rfl rfl (guard_cond rfl) (fun hg => zld (n := 2) (zt rfl) zk rfl rfl rfl rfl rfl) ?_
  refine zg rfl rfl rfl rfl (guard_cond rfl) (fun hg => zld (n := 2) (zt rfl) zk rfl rfl rfl rfl rfl) ?_
  refine zg rfl rfl rfl rfl (guard_cond rfl) (fun hg => zcl zhf (hc (zcd (zt rfl) hg) (hc (zcd (zt rfl) hg) hz)) (rs := []) (bxs := []) zdc bz (c_ballots_Less b q) rfl rfl rfl (fun d b hd hl => by obtain ⟨rfl, rfl⟩ := hd; rfl)) ?_
  refine zg rfl rfl rfl rfl (zgb rfl) (fun hg => zan (zcd (zt rfl) hg) (has_cond_and (zt rfl) hg) (.inl zb0) rfl rfl) ?_
  refine zc rfl (zor (zt rfl) (.inl zb0) (zt rfl) rfl ?_)
  refine zc rfl (zas (zt rfl) rfl ?_)
  refine zn0 ?_
  refine zwr ?_
  refine zpr [] (res1 (zrt rfl)) rfl lz ?_
  exact ⟨rfl, rfl⟩

def lessVal (a b : ByteArray) : Bool := if len a ≠ len b then decide (len a < len b) else bLess a b
def Ballot.lessR (a b : Ballot) : Bool := if a.c ≠ b.c then decide (a.c < b.c) else lessVal a.v b.v
def Ballot.abortsR (p b : Ballot) : Bool := ((!p.isZero && !p.compat b) && b.lessR p)
def Ballot.preparesR (p q b : Ballot) : Bool := ((p.covers b || q.covers b) || (!q.isZero && b.lessR q))

theorem c_trustquorumref23_Zero (b : Ballot) : ACalls Tryz.prog 30 [.aggd (b).d] [] fun dd bb => dd = VB (b.isZero) ∧ bb = [] := by
  refine zai Tryz.func30 rfl Tryz.ntmps30 (by rw [Tryz.results30]) rfl rfl (fun w0 A0 X => ?_)
  refine zsr ?_
  refine zc rfl (zbx (zt rfl) rfl rfl ?_)
  refine zc rfl (zas zb0 rfl ?_)
  refine zn0 ?_
  refine zsr ?_
  refine zc rfl (zld (n := 2) (zt rfl) zk rfl rfl rfl rfl ?_)
  refine zc rfl (zbd (ps := []) (qs := []) (zs := [.dat (.int .i64 0), .dat (.str ⟨#[]⟩)]) (pl := [(0, 1), (1, 1)]) pz zk zk rfl rfl ?_)
  refine zc rfl (op_eql_struct (ts := [.i, .s]) (.inl rfl) (zt rfl) (zt rfl) rfl rfl zk rfl rfl ?_)
  refine zc rfl (zas (zt rfl) rfl ?_)
  refine zn0 ?_
  refine zwr ?_
  refine zpr [] (res1 (zrt rfl)) rfl lz ?_
  exact ⟨rfl, rfl⟩

theorem c_trustquorumref23_Valid (b : Ballot) : ACalls Tryz.prog 39 [.aggd (b).d] [] fun dd bb => dd = VB (b.valid) ∧ bb = [] := by
  refine zai Tryz.func39 rfl Tryz.ntmps39 (by rw [Tryz.results39]) rfl rfl (fun w0 A0 X => ?_)
  refine zsr ?_
  refine zc rfl (zbx (zt rfl) rfl rfl ?_)
  refine zc rfl (zas zb0 rfl ?_)
  refine zn0 ?_
  refine zsr ?_
  refine zc rfl (zfa (o := 0) (zt rfl) zk rfl ?_)
  refine zc rfl (zl1 (zt rfl) zk rfl rfl rfl ?_)
  refine zc rfl (zcm (zt rfl) (zi zdc) rfl rfl ?_)
  refine zc rfl (zmv (zt rfl) rfl ?_)
  refine zg rfl rfl rfl rfl (zgb rfl) (fun hg => zfa (o := 0) (zt rfl) zk rfl rfl) ?_
  refine zg rfl rfl rfl rfl (zgb rfl) (fun hg => zl1 (zcd (zt rfl) hg) zk rfl rfl rfl rfl) ?_
  refine zg rfl rfl rfl rfl (zgb rfl) (fun hg => zcm (zcd (zt rfl) hg) (zi zdc) rfl rfl rfl) ?_
  refine zc rfl (zan (zt rfl) (zt rfl) (.inl zb0) rfl ?_)
  refine zc rfl (zmv (zt rfl) rfl ?_)
  refine zg rfl rfl rfl rfl (zgb rfl) (fun hg => zfa (o := 0) (zt rfl) zk rfl rfl) ?_
  refine zg rfl rfl rfl rfl (zgb rfl) (fun hg => zl1 (zcd (zt rfl) hg) zk rfl rfl rfl rfl) ?_
  refine zg rfl rfl rfl rfl (zgb rfl) (fun hg => zcm (zcd (zt rfl) hg) (zi zdc) rfl rfl rfl) ?_
  refine zc rfl (zor (zt rfl) (.inl zb0) (zt rfl) rfl ?_)
  refine zc rfl (zmv (zt rfl) rfl ?_)
  refine zg rfl rfl rfl rfl (zgb rfl) (fun hg => zfa (o := 1) (zt rfl) zk rfl rfl) ?_
  refine zg rfl rfl rfl rfl (zgb rfl) (fun hg => zl1 (zcd (zt rfl) hg) zk rfl rfl rfl rfl) ?_
  refine zg rfl rfl rfl rfl (zgb rfl) (fun hg => op_len_str (zcd (zt rfl) hg) zk rfl (fun hl => rfl)) ?_
  refine zg rfl rfl rfl rfl (zgb rfl) (fun hg => zcm (zcd (zt rfl) hg) (zi zdc) rfl rfl rfl) ?_
  refine zc rfl (zan (zt rfl) (zt rfl) (.inl zb0) rfl ?_)
  refine zc rfl (zmv (zt rfl) rfl ?_)
  refine zg rfl rfl rfl rfl (zgb rfl) (fun hg => zfa (o := 1) (zt rfl) zk rfl rfl) ?_
  refine zg rfl rfl rfl rfl (zgb rfl) (fun hg => zl1 (zcd (zt rfl) hg) zk rfl rfl rfl rfl) ?_
  refine zg rfl rfl rfl rfl (zgb rfl) (fun hg => op_len_str (zcd (zt rfl) hg) zk rfl (fun hl => rfl)) ?_
  refine zg rfl rfl rfl rfl (zgb rfl) (fun hg => zcm (zcd (zt rfl) hg) (zi zdc) rfl rfl rfl) ?_
  refine zc rfl (zan (zt rfl) (zt rfl) (.inl zb0) rfl ?_)
  refine zc rfl (zas (zt rfl) rfl ?_)
  refine zn0 ?_
  refine zwr ?_
  refine zpr [] (res1 (zrt rfl)) rfl lz ?_
  exact ⟨rfl, rfl⟩

theorem c_trustquorumref23_Compatible (a b : Ballot) : ACalls Tryz.prog 32 [.aggd (a).d, .aggd (b).d] [] fun dd bb => dd = VB (a.compat b) ∧ bb = [] := by
  refine zai Tryz.func32 rfl Tryz.ntmps32 (by rw [Tryz.results32]) rfl rfl (fun w0 A0 X => ?_)
  refine zsr ?_
  refine zc rfl (zbx (zt rfl) rfl rfl ?_)
  refine zc rfl (zbx (zt rfl) rfl rfl ?_)
  refine zc rfl (zas zb0 rfl ?_)
  refine zn0 ?_
  refine zsr ?_
  refine zc rfl (zfa (o := 1) (zt rfl) zk rfl ?_)
  refine zc rfl (zl1 (zt rfl) zk rfl rfl rfl ?_)
  refine zc rfl (zfa (o := 1) (zt rfl) zk rfl ?_)
  refine zc rfl (zl1 (zt rfl) zk rfl rfl rfl ?_)
  refine zc rfl (op_cmp_str (zt rfl) (zt rfl) rfl rfl ?_)
  refine zc rfl (zas (zt rfl) rfl ?_)
  refine zn0 ?_
  refine zwr ?_
  refine zpr [] (res1 (zrt rfl)) rfl lz ?_
  exact ⟨rfl, rfl⟩

theorem c_trustquorumref23_Covers (p b : Ballot) : ACalls Tryz.prog 31 [.aggd (p).d, .aggd (b).d] [] fun dd bb => dd = VB (p.covers b) ∧ bb = [] := by
  refine zai Tryz.func31 rfl Tryz.ntmps31 (by rw [Tryz.results31]) rfl rfl (fun w0 A0 X => ?_)
  refine zsr ?_
  refine zc rfl (zbx (zt rfl) rfl rfl ?_)
  refine zc rfl (zbx (zt rfl) rfl rfl ?_)
  refine zc rfl (zas zb0 rfl ?_)
  refine zn0 ?_
  refine zsr ?_
  refine zc rfl (zld (n := 2) (zt rfl) zk rfl rfl rfl rfl ?_)
  refine zc rfl (zcl zhf (hc (zt rfl) hz) (rs := []) (bxs := []) zdc bz (c_trustquorumref23_Zero p) rfl rfl rfl (fun d b hd hl => ?_))
  obtain ⟨rfl, rfl⟩ := hd
  refine zc rfl (op_not (zt rfl) rfl ?_)
  refine zc rfl (zmv (zt rfl) rfl ?_)
  refine zg rfl rfl rfl rfl (zgb rfl) (fun hg => zld (n := 2) (zt rfl) zk rfl rfl rfl rfl rfl) ?_
  refine zg rfl rfl rfl rfl (zgb rfl) (fun hg => zld (n := 2) (zt rfl) zk rfl rfl rfl rfl rfl) ?_
  refine zg rfl rfl rfl rfl (zgb rfl) (fun hg => zcl zhf (hc (zcd (zt rfl) hg) (hc (zcd (zt rfl) hg) hz)) (rs := []) (bxs := []) zdc bz (c_trustquorumref23_Compatible p b) rfl rfl rfl (fun d b hd hl => by obtain ⟨rfl, rfl⟩ := hd; rfl)) ?_
  refine zc rfl (zan (zt rfl) (zt rfl) (.inl zb0) rfl ?_)
  refine zc rfl (zmv (zt rfl) rfl ?_)
  refine zg rfl rfl rfl rfl (zgb rfl) (fun hg => zfa (o := 0) (zt rfl) zk rfl rfl) ?_
  refine zg rfl rfl rfl rfl (zgb rfl) (fun hg => zl1 (zcd (zt rfl) hg) zk rfl rfl rfl rfl) ?_
  refine zg rfl rfl rfl rfl (zgb rfl) (fun hg => zfa (o := 0) (zt rfl) zk rfl rfl) ?_
  refine zg rfl rfl rfl rfl (zgb rfl) (fun hg => zl1 (zcd (zt rfl) hg) zk rfl rfl rfl rfl) ?_
  refine zg rfl rfl rfl rfl (zgb rfl) (fun hg => zcm (zcd (zt rfl) hg) (zcd (zt rfl) hg) rfl rfl rfl) ?_
  refine zc rfl (zan (zt rfl) (zt rfl) (.inl zb0) rfl ?_)
  refine zc rfl (zas (zt rfl) rfl ?_)
  refine zn0 ?_
  refine zwr ?_
  refine zpr [] (res1 (zrt rfl)) rfl lz ?_
  exact ⟨rfl, rfl⟩

theorem c_trustquorumref23_LessValue (a b : ByteArray) : ACalls Tryz.prog 77 [VS a, VS b] [] fun dd bb => dd = VB (lessVal a b) ∧ bb = [] := by
  refine zai Tryz.func77 rfl Tryz.ntmps77 (by rw [Tryz.results77]) rfl rfl (fun w0 A0 X => ?_)
  refine zsr ?_
  refine zc rfl (zas zb0 rfl ?_)
  refine zn0 ?_
  refine zw2 ?_
  refine zsr ?_
  refine zc rfl (zmv (zt rfl) rfl ?_)
  refine zc rfl (op_len_str (zt rfl) zk rfl (fun hl => ?_))
  refine zc rfl (zmv (zt rfl) rfl ?_)
  refine zc rfl (op_len_str (zt rfl) zk rfl (fun hl => ?_))
  refine zc rfl (zcm (zt rfl) (zt rfl) rfl rfl ?_)
  refine zn0 ?_
  refine zwc (zt rfl) (fun h1 => ?_) (fun h1 => ?_)
  · skip
    have g1 := h1
    try simp only [zbz] at g1
    refine zsr ?_
    refine zc rfl (zmv (zt rfl) rfl ?_)
    refine zc rfl (op_len_str (zt rfl) zk rfl (fun hl => ?_))
    refine zc rfl (zmv (zt rfl) rfl ?_)
    refine zc rfl (op_len_str (zt rfl) zk rfl (fun hl => ?_))
    refine zc rfl (zcm (zt rfl) (zt rfl) rfl rfl ?_)
    refine zc rfl (zas (zt rfl) rfl ?_)
    refine zn0 ?_
    refine zwr ?_
    refine ztr ?_
    refine zpr [] (res1 (zrt rfl)) rfl lz ?_
    exact ⟨by simp_all [lessVal, V.norm, C.norm, len, bLess], rfl⟩
  · skip
    have g1 := h1
    try simp only [zbz] at g1
    refine zws ?_
    refine ztn ?_
    refine zsr ?_
    refine zc rfl (zmv (zt rfl) rfl ?_)
    refine zc rfl (zmv (zt rfl) rfl ?_)
    refine zc rfl (op_cmp_str (zt rfl) (zt rfl) rfl rfl ?_)
    refine zc rfl (zas (zt rfl) rfl ?_)
    refine zn0 ?_
    refine zwr ?_
    refine zpr [] (res1 (zrt rfl)) rfl lz ?_
    exact ⟨by simp_all [lessVal, V.norm, C.norm, len, bLess], rfl⟩

theorem c_trustquorumref23_Less (a b : Ballot) : ACalls Tryz.prog 40 [.aggd (a).d, .aggd (b).d] [] fun dd bb => dd = VB (a.lessR b) ∧ bb = [] := by
  refine zai Tryz.func40 rfl Tryz.ntmps40 (by rw [Tryz.results40]) rfl rfl (fun w0 A0 X => ?_)
  refine zsr ?_
  refine zc rfl (zbx (zt rfl) rfl rfl ?_)
  refine zc rfl (zbx (zt rfl) rfl rfl ?_)
  refine zc rfl (zas zb0 rfl ?_)
  refine zn0 ?_
  refine zw2 ?_
  refine zsr ?_
  refine zc rfl (zfa (o := 0) (zt rfl) zk rfl ?_)
  refine zc rfl (zl1 (zt rfl) zk rfl rfl rfl ?_)
  refine zc rfl (zfa (o := 0) (zt rfl) zk rfl ?_)
  refine zc rfl (zl1 (zt rfl) zk rfl rfl rfl ?_)
  refine zc rfl (zcm (zt rfl) (zt rfl) rfl rfl ?_)
  refine zn0 ?_
  refine zwc (zt rfl) (fun h1 => ?_) (fun h1 => ?_)
  · skip
    have g1 := h1
    try simp only [zbz] at g1
    refine zsr ?_
    refine zc rfl (zfa (o := 0) (zt rfl) zk rfl ?_)
    refine zc rfl (zl1 (zt rfl) zk rfl rfl rfl ?_)
    refine zc rfl (zfa (o := 0) (zt rfl) zk rfl ?_)
    refine zc rfl (zl1 (zt rfl) zk rfl rfl rfl ?_)
    refine zc rfl (zcm (zt rfl) (zt rfl) rfl rfl ?_)
    refine zc rfl (zas (zt rfl) rfl ?_)
    refine zn0 ?_
    refine zwr ?_
    refine ztr ?_
    refine zpr [] (res1 (zrt rfl)) rfl lz ?_
    exact ⟨by simp_all [Ballot.lessR, V.norm, C.norm, V.mapC, C.caller], rfl⟩
  · skip
    have g1 := h1
    try simp only [zbz] at g1
    refine zws ?_
    refine ztn ?_
    refine zsr ?_
    refine zc rfl (zfa (o := 1) (zt rfl) zk rfl ?_)
    refine zc rfl (zl1 (zt rfl) zk rfl rfl rfl ?_)
    refine zc rfl (zfa (o := 1) (zt rfl) zk rfl ?_)
    refine zc rfl (zl1 (zt rfl) zk rfl rfl rfl ?_)
    refine zc rfl (zcl zhf (hc (zt rfl) (hc (zt rfl) hz)) (rs := []) (bxs := []) zdc bz (c_trustquorumref23_LessValue a.v b.v) rfl rfl rfl (fun d b hd hl => ?_))
    obtain ⟨rfl, rfl⟩ := hd
    refine zc rfl (zas (zt rfl) rfl ?_)
    refine zn0 ?_
    refine zwr ?_
    refine zpr [] (res1 (zrt rfl)) rfl lz ?_
    exact ⟨by simp_all [Ballot.lessR, V.norm, C.norm, V.mapC, C.caller], rfl⟩

theorem c_trustquorumref23_Aborts (p b : Ballot) : ACalls Tryz.prog 41 [.aggd (p).d, .aggd (b).d] [] fun dd bb => dd = VB (p.abortsR b) ∧ bb = [] := by
  refine zai Tryz.func41 rfl Tryz.ntmps41 (by rw [Tryz.results41]) rfl rfl (fun w0 A0 X => ?_)
  refine zsr ?_
  refine zc rfl (zbx (zt rfl) rfl rfl ?_)
  refine zc rfl (zbx (zt rfl) rfl rfl ?_)
  refine zc rfl (zas zb0 rfl ?_)
  refine zn0 ?_
  refine zsr ?_
  refine zc rfl (zld (n := 2) (zt rfl) zk rfl rfl rfl rfl ?_)
  refine zc rfl (zcl zhf (hc (zt rfl) hz) (rs := []) (bxs := []) zdc bz (c_trustquorumref23_Zero p) rfl rfl rfl (fun d b hd hl => ?_))
  obtain ⟨rfl, rfl⟩ := hd
  refine zc rfl (op_not (zt rfl) rfl ?_)
  refine zc rfl (zmv (zt rfl) rfl ?_)
  refine zg rfl rfl rfl rfl (zgb rfl) (fun hg => zld (n := 2) (zt rfl) zk rfl rfl rfl rfl rfl) ?_
  refine zg rfl rfl rfl rfl (zgb rfl) (fun hg => zld (n := 2) (zt rfl) zk rfl rfl rfl rfl rfl) ?_
  refine zg rfl rfl rfl rfl (zgb rfl) (fun hg => zcl zhf (hc (zcd (zt rfl) hg) (hc (zcd (zt rfl) hg) hz)) (rs := []) (bxs := []) zdc bz (c_trustquorumref23_Compatible p b) rfl rfl rfl (fun d b hd hl => by obtain ⟨rfl, rfl⟩ := hd; rfl)) ?_
  refine zg rfl rfl rfl rfl (zgb rfl) (fun hg => op_not (zcd (zt rfl) hg) rfl rfl) ?_
  refine zc rfl (zan (zt rfl) (zt rfl) (.inl zb0) rfl ?_)
  refine zc rfl (zmv (zt rfl) rfl ?_)
  refine zg rfl rfl rfl rfl (zgb rfl) (fun hg => zld (n := 2) (zt rfl) zk rfl rfl rfl rfl rfl) ?_
  refine zg rfl rfl rfl rfl (zgb rfl) (fun hg => zld (n := 2) (zt rfl) zk rfl rfl rfl rfl rfl) ?_
  refine zg rfl rfl rfl rfl (zgb rfl) (fun hg => zcl zhf (hc (zcd (zt rfl) hg) (hc (zcd (zt rfl) hg) hz)) (rs := []) (bxs := []) zdc bz (c_trustquorumref23_Less b p) rfl rfl rfl (fun d b hd hl => by obtain ⟨rfl, rfl⟩ := hd; rfl)) ?_
  refine zc rfl (zan (zt rfl) (zt rfl) (.inl zb0) rfl ?_)
  refine zc rfl (zas (zt rfl) rfl ?_)
  refine zn0 ?_
  refine zwr ?_
  refine zpr [] (res1 (zrt rfl)) rfl lz ?_
  exact ⟨rfl, rfl⟩

theorem c_trustquorumref23_Prepares (p q b : Ballot) : ACalls Tryz.prog 33 [.aggd (p).d, .aggd (q).d, .aggd (b).d] [] fun dd bb => dd = VB (p.preparesR q b) ∧ bb = [] := by
  refine zai Tryz.func33 rfl Tryz.ntmps33 (by rw [Tryz.results33]) rfl rfl (fun w0 A0 X => ?_)
  refine zsr ?_
  refine zc rfl (zbx (zt rfl) rfl rfl ?_)
  refine zc rfl (zbx (zt rfl) rfl rfl ?_)
  refine zc rfl (zbx (zt rfl) rfl rfl ?_)
  refine zc rfl (zas zb0 rfl ?_)
  refine zn0 ?_
  refine zsr ?_
  refine zc rfl (zld (n := 2) (zt rfl) zk rfl rfl rfl rfl ?_)
  refine zc rfl (zld (n := 2) (zt rfl) zk rfl rfl rfl rfl ?_)
  refine zc rfl (zcl zhf (hc (zt rfl) (hc (zt rfl) hz)) (rs := []) (bxs := []) zdc bz (c_trustquorumref23_Covers p b) rfl rfl rfl (fun d b hd hl => ?_))
  obtain ⟨rfl, rfl⟩ := hd
  refine zc rfl (zmv (zt rfl) rfl ?_)
  refine zg rfl rfl rfl rfl (zgb rfl) (fun hg => zld (n := 2) (zt rfl) zk rfl rfl rfl rfl rfl) ?_
  refine zg rfl rfl rfl rfl (zgb rfl) (fun hg => zld (n := 2) (zt rfl) zk rfl rfl rfl rfl rfl) ?_
  refine zg rfl rfl rfl rfl (zgb rfl) (fun hg => zcl zhf (hc (zcd (zt rfl) hg) (hc (zcd (zt rfl) hg) hz)) (rs := []) (bxs := []) zdc bz (c_trustquorumref23_Covers q b) rfl rfl rfl (fun d b hd hl => by obtain ⟨rfl, rfl⟩ := hd; rfl)) ?_
  refine zc rfl (zor (zt rfl) (.inl zb0) (zt rfl) rfl ?_)
  refine zc rfl (zmv (zt rfl) rfl ?_)
  refine zg rfl rfl rfl rfl (zgb rfl) (fun hg => zld (n := 2) (zt rfl) zk rfl rfl rfl rfl rfl) ?_
  refine zg rfl rfl rfl rfl (zgb rfl) (fun hg => zcl zhf (hc (zcd (zt rfl) hg) hz) (rs := []) (bxs := []) zdc bz (c_trustquorumref23_Zero q) rfl rfl rfl (fun d b hd hl => by obtain ⟨rfl, rfl⟩ := hd; rfl)) ?_
  refine zg rfl rfl rfl rfl (zgb rfl) (fun hg => op_not (zcd (zt rfl) hg) rfl rfl) ?_
  refine zg rfl rfl rfl rfl (zgb rfl) (fun hg => zmv (zcd (zt rfl) hg) rfl rfl) ?_
  refine zg rfl rfl rfl rfl (guard_cond rfl) (fun hg => zld (n := 2) (zt rfl) zk rfl rfl rfl rfl rfl) ?_
  refine zg rfl rfl rfl rfl (guard_cond rfl) (fun hg => zld (n := 2) (zt rfl) zk rfl rfl rfl rfl rfl) ?_
  refine zg rfl rfl rfl rfl (guard_cond rfl) (fun hg => zcl zhf (hc (zcd (zt rfl) hg) (hc (zcd (zt rfl) hg) hz)) (rs := []) (bxs := []) zdc bz (c_trustquorumref23_Less b q) rfl rfl rfl (fun d b hd hl => by obtain ⟨rfl, rfl⟩ := hd; rfl)) ?_
  refine zg rfl rfl rfl rfl (zgb rfl) (fun hg => zan (zcd (zt rfl) hg) (has_cond_and (zt rfl) hg) (.inl zb0) rfl rfl) ?_
  refine zc rfl (zor (zt rfl) (.inl zb0) (zt rfl) rfl ?_)
  refine zc rfl (zas (zt rfl) rfl ?_)
  refine zn0 ?_
  refine zwr ?_
  refine zpr [] (res1 (zrt rfl)) rfl lz ?_
  exact ⟨rfl, rfl⟩

end Go.TQ
