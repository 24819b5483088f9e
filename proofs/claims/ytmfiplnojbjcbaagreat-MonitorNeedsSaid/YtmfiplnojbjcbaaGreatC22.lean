/- Contracts of functions of the program, each for every input that its hypotheses let in; printed by a program of our own (s22). -/
import Derived.Test.YtmfiplnojbjcbaaGreatC21
set_option linter.unusedVariables false
set_option linter.unusedSimpArgs false
set_option maxRecDepth 10000
set_option maxHeartbeats 4000000
namespace Go.TQ
open Go.Proofs


def needStep (c : List Member) (h node : Int) (out : List Int) (n : Int) : List Int := if (!(out.any fun o => subS o n) && has (elim c (orI h n)).1 node) = true then out ++ [n] else out
theorem idxB_no {p : Int → Bool} {l : List Int} {k : Nat} (h : k < l.length) (hp : p l[k]! = false) : idxF p (l.drop (k + 1)) ((k + 1 : Nat) : Int) = idxF p (l.drop k) k := idxF_no h hp
theorem subs_nn {o : Int} {S : List Int} (h : S.Perm (subsS o)) : ∀ x ∈ S, 0 ≤ x := fun x hx => by
  have := h.mem_iff.1 hx
  unfold subsS at this
  split at this
  · unfold subsTo at this
    obtain ⟨n, _, rfl⟩ := List.mem_map.1 (List.mem_filter.1 this).1
    exact Int.natCast_nonneg _
  · cases this

theorem c_IndexFunc_bs (f : FuncId) (p : Int → Bool) (l : List Int) (p0 cap : Nat) (c0 : Int) (hlen : l.length ≤ 1000000) (hf : ∀ x ∈ l, ACalls Tryz.prog f [VI x, .one (.ref (.e 0) 0)] [[.dat (.int .i64 c0)]] fun dd bb => dd = VB (p x) ∧ bb = [[.dat (.int .i64 c0)]]) : ACalls Tryz.prog 129 [.one (.bs (.e 0) 1 l.length cap), .one (.fn f [.e 1])] [bsC (iRows l).flatten p0, [.dat (.int .i64 c0)]] fun dd bb => dd = VI (idxF p l 0) ∧ bb = [bsC (iRows l).flatten p0, [.dat (.int .i64 c0)]] := by
  refine zai Tryz.func129 rfl Tryz.ntmps129 (by rw [Tryz.results129]) rfl rfl (fun w0 A0 X => ?_)
  refine zsr ?_
  refine zc rfl (zas (zi zdc) rfl ?_)
  refine zn0 ?_
  refine zw2 ?_
  refine zsr ?_
  refine zc rfl (zmv (zt rfl) rfl ?_)
  refine zc rfl (op_len_bs (e := 3) (n := 1) (zt rfl) zk rfl (fun hl7 => ?_))
  try simp only [List.length_map] at hl7
  refine zc rfl (zmv (zi zdc) rfl ?_)
  refine zn0 ?_
  refine zwb ?_
  refine zlp (fs := [(0, _), (1, _), (7, _)]) (fb := [(.e 0, bsC (iRows l).flatten p0), (.e 1, _)]) (fun (k : Nat) => [(8, VI ((k : Nat) : Int))]) (fun (k : Nat) => []) (fun (k : Nat) => []) (fun (k : Nat) => (k ≤ l.length) ∧ (idxF p (l.drop k) k = idxF p l 0)) (fun (k : Nat) => l.length - k) 0 (le_of (sc rfl (sc rfl (sc rfl (sc rfl sz)))) (xc (bx_eq rfl (by first | rfl | simp only [bsC_scrub, bsC_unq])) (xc rfl xz)) kz) ?_ ?_
  · refine ⟨?_, ?_⟩
    · exact zen
    · rfl
  · intro k ⟨hk, hI⟩
    refine zsr ?_
    refine zc rfl (zcm (zt rfl) (zt rfl) rfl rfl ?_)
    refine zn0 ?_
    refine zw2 ?_
    refine zwc (zt rfl) (fun h1 => ?_) (fun h1 => ?_)
    · skip
      have g1 := h1
      try simp only [zbz, List.length_map] at g1
      have hkl : k < l.length := by omega
      refine zws ?_
      refine ztn ?_
      refine zw2 ?_
      refine zwb ?_
      refine zsr ?_
      refine zc rfl (zmv (zt rfl) rfl ?_)
      refine zc rfl (zas (zt rfl) rfl ?_)
      refine zn0 ?_
      refine zsr ?_
      refine zc rfl (zmv (zt rfl) rfl ?_)
      refine zc rfl (zmv (zt rfl) rfl ?_)
      refine zc rfl (zmv (zt rfl) rfl ?_)
      refine zc rfl (op_indexAddr_box (e := 3) (kk := 1) (zt rfl) (zt rfl) zk zom zom rfl ?_)
      refine zc rfl (op_loadRowF (k := 1) (i := k) (j := 0) (zt rfl) rfl (uni_map (f := iRow) (n := 1) (fun _ => rfl) _) zom (show (iRows l)[k]? = some (iRow l[k]!) from map_getD zom) rfl zk rfl ?_)
      refine zc rfl (zcl (zt rfl) (hc (zt rfl) hz) (rs := [.e 1]) (bxs := [_]) zdc (bc rfl bz) (hf l[k]! (mem_at hkl)) rfl rfl rfl (fun d b hd hl => ?_))
      obtain ⟨rfl, rfl⟩ := hd
      refine zn0 ?_
      refine zwc (zt rfl) (fun h2 => ?_) (fun h2 => ?_)
      · skip
        refine zsr ?_
        refine zc rfl (zmv (zt rfl) rfl ?_)
        refine zc rfl (zas (zt rfl) rfl ?_)
        refine zn0 ?_
        refine zwr ?_
        refine blk_ret ?_
        refine ztr ?_
        refine ztr ?_
        refine blk_ret ?_
        refine ztr ?_
        refine zpr [_, _] (res1 (zrt rfl)) (show _ = 2 from rfl) (l2 rfl rfl) ?_
        have he : idxF p l 0 = k := by rw [← hI]; exact idxF_yes hkl h2
        rw [he]
        exact ⟨rfl, rfl⟩
      · skip
        refine zws ?_
        refine zbn ?_
        refine ztn ?_
        refine zre ?_
        refine zc rfl (zar (zt rfl) (zi zdc) rfl (ink64 zom zom) rfl ?_)
        refine zc rfl (zmv (zt rfl) rfl ?_)
        refine zn0 ?_
        refine ztn ?_
        refine ⟨k + 1, ?_, ?_, (le_of (sc rfl (sc rfl (sc rfl (sc rfl sz)))) (xc (bx_eq rfl (by first | rfl | simp only [bsC_scrub, bsC_unq])) (xc rfl xz)) kz)⟩
        · refine ⟨?_, ?_⟩
          · exact zen
          · exact (idxF_no hkl h2).trans hI
        · first | omega | (simp at *; omega)
    · skip
      have g1 := h1
      try simp only [zbz, List.length_map] at g1
      refine zwe ?_
      refine zte ?_
      refine zte ?_
      refine zbk ?_
      refine ztn ?_
      refine zsr ?_
      refine zc rfl (zas (zi zdc) rfl ?_)
      refine zn0 ?_
      refine zwr ?_
      refine zpr [_, _] (res1 (zrt rfl)) (show _ = 2 from rfl) (l2 rfl rfl) ?_
      have he : idxF p l 0 = -1 := by rw [← hI, List.drop_of_length_le (by omega)]; rfl
      rw [he]
      exact ⟨rfl, rfl⟩

theorem c_ContainsFunc_bs (f : FuncId) (p : Int → Bool) (l : List Int) (p0 cap : Nat) (c0 : Int) (hlen : l.length ≤ 1000000) (hf : ∀ x ∈ l, ACalls Tryz.prog f [VI x, .one (.ref (.e 0) 0)] [[.dat (.int .i64 c0)]] fun dd bb => dd = VB (p x) ∧ bb = [[.dat (.int .i64 c0)]]) : ACalls Tryz.prog 100 [.one (.bs (.e 0) 1 l.length cap), .one (.fn f [.e 1])] [bsC (iRows l).flatten p0, [.dat (.int .i64 c0)]] fun dd bb => dd = VB (l.any p) ∧ bb = [bsC (iRows l).flatten p0, [.dat (.int .i64 c0)]] := by
  refine zai Tryz.func100 rfl Tryz.ntmps100 (by rw [Tryz.results100]) rfl rfl (fun w0 A0 X => ?_)
  refine zsr ?_
  refine zc rfl (zas zb0 rfl ?_)
  refine zn0 ?_
  refine zsr ?_
  refine zc rfl (zmv (zt rfl) rfl ?_)
  refine zc rfl (zmv (zt rfl) rfl ?_)
  refine zc rfl (zcl zhf (hc (zt rfl) (hc (zt rfl) hz)) (rs := [.e 0, .e 1]) (bxs := [_, _]) zdc (bc rfl (bc rfl bz)) (c_IndexFunc_bs f p l p0 cap c0 (by first | assumption | omega | trivial | (simp; done) | (constructor <;> omega)) hf) rfl (by first | rfl | (simp only [List.map_cons, List.map_nil, bsC_callee]; done) | (simp only [List.map_cons, List.map_nil, bsC_callee]; rfl)) rfl (fun d b hd hl => ?_))
  obtain ⟨rfl, rfl⟩ := hd
  refine aops_le (le_bxeq (r := .e 0) (cs' := bsC (iRows l).flatten p0) rfl (bsC_caller _ _ _).symm) ?_
  refine zc rfl (zcm (zt rfl) (zi zdc) rfl rfl ?_)
  refine zc rfl (zas (zt rfl) rfl ?_)
  refine zn0 ?_
  refine zwr ?_
  refine zpr [_, _] (res1 (zrt rfl)) (show _ = 2 from rfl) (l2 rfl rfl) ?_
  rw [← idxF_any l 0 (Int.le_refl 0)]
  exact ⟨rfl, rfl⟩

theorem c_IndexFunc_n0 (f : FuncId) (c0 : Int) : ACalls Tryz.prog 129 [VR [], .one (.fn f [.e 0])] [[.dat (.int .i64 c0)]] fun dd bb => dd = VI (-1) ∧ bb = [[.dat (.int .i64 c0)]] := by
  refine zai Tryz.func129 rfl Tryz.ntmps129 (by rw [Tryz.results129]) rfl rfl (fun w0 A0 X => ?_)
  refine zsr ?_
  refine zc rfl (zas (zi zdc) rfl ?_)
  refine zn0 ?_
  refine zw2 ?_
  refine zsr ?_
  refine zc rfl (zmv (zt rfl) rfl ?_)
  refine zc rfl (zln (e := 3) (n := 1) (zt rfl) rfl zk rfl (fun hl7 => ?_))
  try simp only [List.length_map] at hl7
  refine zc rfl (zmv (zi zdc) rfl ?_)
  refine zn0 ?_
  refine zwb ?_
  refine zlp (fs := [(0, _), (1, _), (7, _), (8, _)]) (fb := [(.e 0, _)]) (fun (u0 : Unit) => []) (fun (u0 : Unit) => []) (fun (u0 : Unit) => []) (fun (u0 : Unit) => True) (fun (u0 : Unit) => 0) () (le_of (sc rfl (sc rfl (sc rfl (sc rfl sz)))) (xc rfl xz) kz) ?_ ?_
  · exact trivial
  · intro u0 _
    refine zsr ?_
    refine zc rfl (zcm (zt rfl) (zt rfl) rfl rfl ?_)
    refine zn0 ?_
    refine zw2 ?_
    refine zwc (zt rfl) (fun h1 => ?_) (fun h1 => ?_)
    · skip
      cases h1
    · skip
      refine zwe ?_
      refine zte ?_
      refine zte ?_
      refine zbk ?_
      refine ztn ?_
      refine zsr ?_
      refine zc rfl (zas (zi zdc) rfl ?_)
      refine zn0 ?_
      refine zwr ?_
      refine zpr [_] (res1 (zrt rfl)) (show _ = 1 from rfl) (l1 rfl) ?_
      exact ⟨rfl, rfl⟩

theorem c_ContainsFunc_n0 (f : FuncId) (c0 : Int) : ACalls Tryz.prog 100 [VR [], .one (.fn f [.e 0])] [[.dat (.int .i64 c0)]] fun dd bb => dd = VB false ∧ bb = [[.dat (.int .i64 c0)]] := by
  refine zai Tryz.func100 rfl Tryz.ntmps100 (by rw [Tryz.results100]) rfl rfl (fun w0 A0 X => ?_)
  refine zsr ?_
  refine zc rfl (zas zb0 rfl ?_)
  refine zn0 ?_
  refine zsr ?_
  refine zc rfl (zmv (zt rfl) rfl ?_)
  refine zc rfl (zmv (zt rfl) rfl ?_)
  refine zc rfl (zcl zhf (hc (zt rfl) (hc (zt rfl) hz)) (rs := [.e 0]) (bxs := [_]) zdc (bc rfl bz) (c_IndexFunc_n0 f c0) rfl rfl rfl (fun d b hd hl => ?_))
  obtain ⟨rfl, rfl⟩ := hd
  refine zc rfl (zcm (zt rfl) (zi zdc) rfl rfl ?_)
  refine zc rfl (zas (zt rfl) rfl ?_)
  refine zn0 ?_
  refine zwr ?_
  refine zpr [_] (res1 (zrt rfl)) (show _ = 1 from rfl) (l1 rfl) ?_
  exact ⟨rfl, rfl⟩

theorem c_needs_1 (c : List Member) (h node n : Int) (hok : ∀ m ∈ c, m.trust.ok) (hh : 0 ≤ h) (hn : 0 ≤ n) : ACalls Tryz.prog 95 [VI n, .one (.ref (.e 0) 0), .one (.ref (.e 1) 0), .one (.ref (.e 2) 0)] [[.dat (.sl (c.map Member.d))], [.dat (.int .i64 h)], [.dat (.int .i64 node)]] fun dd bb => dd = VB (has (elim c (orI h n)).1 node) ∧ bb = [[.dat (.sl (c.map Member.d))], [.dat (.int .i64 h)], [.dat (.int .i64 node)]] := by
  refine zai Tryz.func95 rfl Tryz.ntmps95 (by rw [Tryz.results95]) rfl rfl (fun w0 A0 X => ?_)
  refine zsr ?_
  refine zc rfl (zas zb0 rfl ?_)
  refine zn0 ?_
  refine awp_seq_drawT zk [] [] [0, 0, 0, 6, 15, 0, 63, 127] rfl
    (Trace.cons ⟨[(1, _)], [(.e 0, _)], [], [], [], [.slot 6 _]⟩ (prel (lsc rfl lsz) (lbc rfl lbz) ltz) (fun zs zp zn => (zgp rfl rfl (zld (n := 1) (zt zp.1.1) zk zp.2.1.1 rfl rfl rfl rfl))) <|
    Trace.cons ⟨[(2, _)], [(.e 1, _)], [], [], [], [.slot 7 _]⟩ (prel (lsc rfl lsz) (lbc rfl lbz) ltz) (fun zs zp zn => (zgp rfl rfl (zl1 (zt zp.1.1) zk zp.2.1.1 rfl rfl rfl))) <|
    Trace.cons ⟨[(0, _)], [], [], [], [], [.slot 8 _]⟩ (prel (lsc rfl lsz) lbz ltz) (fun zs zp zn => (zgp rfl rfl (zmv (zt zp.1.1) rfl rfl))) <|
    Trace.cons ⟨[(7, _), (8, _)], [], [], [], [], [.slot 9 _]⟩ (prel (lsc rfl (lsc rfl lsz)) lbz ltz) (fun zs zp zn => (zgp rfl rfl (op_bit (zt zp.1.1) (zt zp.1.2.1) (by first | exact Int.natCast_nonneg _ | omega) (by first | exact Int.natCast_nonneg _ | omega) rfl rfl rfl))) <|
    Trace.cons ⟨[(6, _), (9, _)], [], [], [], [], [.slot 10 _]⟩ (prel (lsc rfl (lsc rfl lsz)) lbz ltz) (fun zs zp zn => (zgp rfl rfl (zcl zhf (hc (zt zp.1.1) (hc (zt zp.1.2.1) hz)) (rs := []) (bxs := []) zdc bz (c_closure_Greatest c ((h.toNat ||| n.toNat : Nat) : Int) (by first | assumption | omega | trivial | (simp; done) | (constructor <;> omega))) rfl rfl rfl (fun d b hd hl => by obtain ⟨rfl, rfl⟩ := hd; rfl)))) <|
    Trace.cons ⟨[(3, _)], [(.e 2, _)], [], [], [], [.slot 11 _]⟩ (prel (lsc rfl lsz) (lbc rfl lbz) ltz) (fun zs zp zn => (zgp rfl rfl (zl1 (zt zp.1.1) zk zp.2.1.1 rfl rfl rfl))) <|
    Trace.cons ⟨[(10, _), (11, _)], [], [], [], [], [.slot 12 _]⟩ (prel (lsc rfl (lsc rfl lsz)) lbz ltz) (fun zs zp zn => (zgp rfl rfl (zcl zhf (hc (zt zp.1.1) (hc (zt zp.1.2.1) hz)) (rs := []) (bxs := []) zdc bz (c_nodeset_Has (elim c ((h.toNat ||| n.toNat : Nat) : Int)).1 node) rfl rfl rfl (fun d b hd hl => by obtain ⟨rfl, rfl⟩ := hd; rfl)))) <|
    Trace.cons ⟨[(12, _)], [], [], [], [], [.slot 5 _]⟩ (prel (lsc rfl lsz) lbz ltz) (fun zs zp zn => (zgp rfl rfl (zas (zt zp.1.1) rfl rfl))) <|
    Trace.nil) rfl rfl rfl ?_
  refine awp_le (le_of (ls := [(5, VB (has (elim c ((h.toNat ||| n.toNat : Nat) : Int)).1 node))]) (bs := [(.e 0, [.dat (.sl (c.map Member.d))]), (.e 1, [.dat (.int .i64 h)]), (.e 2, [.dat (.int .i64 node)])]) (ts := []) (sc rfl sz) (xc rfl (xc rfl (xc rfl xz))) kz) ?_
  refine zwr ?_
  refine zpr [_, _, _] (res1 (zrt rfl)) (show _ = 3 from rfl) (l3 rfl rfl rfl) ?_
  exact ⟨rfl, rfl⟩

theorem c_needs_2 (o n : Int) (hn : 0 ≤ n) (ho : 0 ≤ o) : ACalls Tryz.prog 99 [VI o, .one (.ref (.e 0) 0)] [[.dat (.int .i64 n)]] fun dd bb => dd = VB (subS o n) ∧ bb = [[.dat (.int .i64 n)]] := by
  refine zai Tryz.func99 rfl Tryz.ntmps99 (by rw [Tryz.results99]) rfl rfl (fun w0 A0 X => ?_)
  refine zsr ?_
  refine zc rfl (zas zb0 rfl ?_)
  refine zn0 ?_
  refine zsr ?_
  refine zc rfl (zmv (zt rfl) rfl ?_)
  refine zc rfl (zl1 (zt rfl) zk rfl rfl rfl ?_)
  refine zc rfl (op_bit (zt rfl) (zt rfl) (by first | exact Int.natCast_nonneg _ | omega) (by first | exact Int.natCast_nonneg _ | omega) rfl rfl ?_)
  refine zc rfl (zcm (zt rfl) (zi zdc) rfl rfl ?_)
  refine zc rfl (zas (zt rfl) rfl ?_)
  refine zn0 ?_
  refine zwr ?_
  refine zpr [_] (res1 (zrt rfl)) (show _ = 1 from rfl) (l1 rfl) ?_
  exact ⟨rfl, rfl⟩

theorem c_monitor_needs (c : List Member) (node h o : Int) (hok : ∀ m ∈ c, m.trust.ok) (hh : SetP h) (ho : (subsS o).length ≤ 12) : ACalls Tryz.prog 70 [.aggd (Config.d c), VI node, VI h, VI o] [] fun dd bb => ∃ (l S : List Int), dd = VR (iRows l) ∧ bb = [] ∧ ((SortedC cmpSet S ∧ S.Perm (subsS o)) ∧ l.Perm (S.foldl (needStep c h node) [])) := by
  have hh0 := hh.1
  refine zai Tryz.func70 rfl Tryz.ntmps70 (by rw [Tryz.results70]) rfl rfl (fun w0 A0 X => ?_)
  refine zsr ?_
  refine zc rfl (zbx (zt rfl) rfl rfl ?_)
  refine zc rfl (zbx (zt rfl) rfl rfl ?_)
  refine zc rfl (zbx (zt rfl) rfl rfl ?_)
  refine zc rfl (zas has_nil rfl ?_)
  refine zn0 ?_
  refine zsr ?_
  refine zc rfl (zas has_nil rfl ?_)
  refine zn0 ?_
  refine zsr ?_
  refine zc rfl (op_makeFunc (rs := [.o 4, .o 6, .o 5]) (hc (zt rfl) (hc (zt rfl) (hc (zt rfl) hz))) rfl ?_)
  refine zc rfl (zas (zt rfl) rfl ?_)
  refine zn0 ?_
  refine zw2 ?_
  refine zsr ?_
  refine zc rfl (zmv (zt rfl) rfl ?_)
  refine zc rfl (zcl zhf (hc (zt rfl) hz) (rs := []) (bxs := []) zdc bz (c_nodeset_Subsets o (by first | assumption | omega | trivial | (simp; done) | (constructor <;> omega))) rfl rfl rfl (fun d b hd hl => ?_))
  obtain ⟨l, rfl, rfl, ⟨hs, hp⟩⟩ := hd
  refine zc rfl (zln (e := 3) (n := 1) (zt rfl) rfl zk rfl (fun hl17 => ?_))
  try simp only [List.length_map] at hl17
  refine zc rfl (zmv (zi zdc) rfl ?_)
  refine zn0 ?_
  refine zwb ?_
  have hln := subs_nn hp
  have hll := hp.length_eq
  refine awp_loop5 (fs := [(10, _), (16, _), (17, _)]) (fb := [(.o 4, _), (.o 5, _), (.o 6, _)]) (fun (bb : Bool) (out : List Int) (p : Nat) (cap : Nat) (k : Nat) => [(9, .one (bif bb then .bs (.o 35) 1 out.length cap else .nilsl)), (18, VI ((k : Nat) : Int))]) (fun (bb : Bool) (out : List Int) (p : Nat) (cap : Nat) (k : Nat) => [] ++ (bif bb then [(.o 35, bsC (iRows out).flatten p)] else [])) (fun (bb : Bool) (out : List Int) (p : Nat) (cap : Nat) (k : Nat) => []) (fun (bb : Bool) (out : List Int) (p : Nat) (cap : Nat) (k : Nat) => (bb = false → out = []) ∧ (out.length * 1 + p = cap * 1) ∧ (out.length ≤ cap) ∧ (k ≤ l.length) ∧ (out = (l.take k).foldl (needStep c h node) []) ∧ (∀ x ∈ out, 0 ≤ x) ∧ (out.length ≤ k)) (fun (bb : Bool) (out : List Int) (p : Nat) (cap : Nat) (k : Nat) => l.length - k) false [] 0 0 0 (le_of (sc rfl (sc rfl (sc rfl (sc rfl (sc rfl sz))))) (xc rfl (xc rfl (xc rfl xz))) kz) ?_ ?_
  · refine ⟨?_, ?_, ?_, ?_, ?_, ?_, ?_⟩
    · first | (intro h; cases h; done) | (intro _; rfl)
    · first | omega | (simp; done) | (simp only [List.length_append, List.length_cons, List.length_nil] at *; omega)
    · first | omega | (simp; done) | (simp only [List.length_append, List.length_cons, List.length_nil] at *; omega)
    · exact zen
    · rfl
    · intro x hx; cases hx
    · exact zen
  · intro bb out p cap k ⟨hbs, hpc, hlc, hk, hout, hnn, hol⟩
    cases bb
    · have hl0 := hbs rfl
      subst hl0
      refine zsr ?_
      refine zc rfl (zcm (zt rfl) (zt rfl) rfl rfl ?_)
      refine zn0 ?_
      refine zw2 ?_
      refine zwc (zt rfl) (fun h1 => ?_) (fun h1 => ?_)
      · skip
        have g1 := h1
        try simp only [zbz, List.length_map] at g1
        have hkl : k < l.length := by omega
        have hkn := hln _ (mem_at hkl)
        refine zws ?_
        refine ztn ?_
        refine zw2 ?_
        refine zwb ?_
        refine zsr ?_
        refine zc rfl (op_indexAddr (e := 3) (n := 1) (zt rfl) rfl (zt rfl) zk zom (show (iRows l)[k]? = some (iRow l[k]!) from (map_getD zom)) rfl rfl ?_)
        refine zc rfl (op_load_imm1 (zt rfl) zk rfl rfl ?_)
        refine zc rfl (zal (cs := [.dat (.int .i64 0)]) zk rfl ?_)
        refine zc rfl (zst (n := 1) (zt rfl) (zt rfl) rfl (.inr ⟨by kernel_rfl, rfl⟩) rfl rfl (zbl rfl) ?_)
        refine zn0 ?_
        refine zsr ?_
        refine zc rfl (op_makeFunc (rs := [.o 12]) (hc (zt rfl) hz) rfl ?_)
        refine zc rfl (zas (zt rfl) rfl ?_)
        refine zn0 ?_
        refine awp_le (le_of (ls := [(9, .one (.nilsl)), (10, .one (.fn 95 [.o 4, .o 6, .o 5])), (12, .one (.ref (.o 12) 0)), (13, .one (.fn 99 [.o 12])), (16, VR (iRows l)), (17, VI ((iRows l).length : Int)), (18, VI ((k : Nat) : Int))]) (bs := [(.o 4, [.dat (.sl (c.map Member.d))]), (.o 5, [.dat (.int .i64 node)]), (.o 6, [.dat (.int .i64 h)]), (.o 12, [.dat (.int .i64 l[k]!)])]) (ts := []) (sc rfl (sc rfl (sc rfl (sc rfl (sc rfl (sc rfl (sc rfl sz))))))) (xc rfl (xc rfl (xc rfl (xc rfl xz)))) kz) ?_
        refine zsr ?_
        refine zc rfl (zmv (zt rfl) rfl ?_)
        refine zc rfl (zmv (zt rfl) rfl ?_)
        refine zc rfl (zcl zhf (hc (zt rfl) (hc (zt rfl) hz)) (rs := [.o 12]) (bxs := [_]) zdc (bc rfl bz) (c_ContainsFunc_n0 (99) l[k]!) rfl rfl rfl (fun d b hd hl => ?_))
        obtain ⟨rfl, rfl⟩ := hd
        refine zc rfl (op_not (zt rfl) rfl ?_)
        refine zc rfl (zmv (zt rfl) rfl ?_)
        refine zg rfl rfl rfl rfl (zgb rfl) (fun hg => zmv (zt rfl) rfl rfl) ?_
        refine zg rfl rfl rfl rfl (zgb rfl) (fun hg => zl1 (zt rfl) zk rfl rfl rfl rfl) ?_
        refine zg rfl rfl rfl rfl (zgb rfl) (fun hg => zcl (zcd (zt rfl) hg) (hc (zcd (zt rfl) hg) hz) (rs := [.o 4, .o 6, .o 5]) (bxs := [_, _, _]) zdc (bc rfl (bc rfl (bc rfl bz))) (c_needs_1 c h node l[k]! (by first | assumption | omega | trivial | (simp; done) | (constructor <;> omega)) (by first | assumption | omega | trivial | (simp; done) | (constructor <;> omega)) (by first | assumption | omega | trivial | (simp; done) | (constructor <;> omega))) rfl rfl rfl (fun d b hd hl => by obtain ⟨rfl, rfl⟩ := hd; first | rfl | exact congrArg (fun s => St.put s _ _) (setBs_id (bc rfl (bc rfl (bc rfl bz)))))) ?_
        refine zc rfl (zan (zt rfl) (zt rfl) (.inl zb0) rfl ?_)
        refine zn0 ?_
        refine zwc (zt rfl) (fun h2 => ?_) (fun h2 => ?_)
        · skip
          have h2x : ((!([].any fun o => subS o l[k]!)) && has (elim c (orI h l[k]!)).1 node) = true := h2
          refine zre ?_
          refine zc rfl (zmv (zt rfl) rfl ?_)
          refine zc rfl (zl1 (zt rfl) zk rfl rfl rfl ?_)
          refine zc rfl (zbs (e := 3) (ps := [(_, _)]) (qs := [(_, _)]) (n := 1) (rows := [[_]]) (pc (zt rfl) rfl pz) zk zdc ⟨[.dat (.int .i64 0)], by kernel_rfl⟩ rfl rfl (by simp [Uni]) rfl zdc rfl ?_)
          refine zc rfl (op_append_nil_bs (e := 3) (k := 1) (b := 8) (zt rfl) (zt rfl) rfl zk ⟨[.dat (.int .i64 0)], by kernel_rfl⟩ (by first | exact uni_map (f := iRow) (fun _ => rfl) _ | (simp [Uni]; done)) (by first | (simp; done) | (simp; omega) | (simp at *; omega)) (by first | (simp; done) | (simp; omega) | (simp at *; omega)) (by simp) rfl (fun p1 cap1 hp1 hc => ?_))
          try simp only [List.length_cons, List.length_nil, List.length_map] at hp1 hc
          refine zc rfl (zas (zt rfl) rfl ?_)
          refine zn0 ?_
          refine zbn ?_
          refine ztn ?_
          refine zre ?_
          refine zc rfl (zar (zt rfl) (zi zdc) rfl (ink64 zom zom) rfl ?_)
          refine zc rfl (zmv (zt rfl) rfl ?_)
          refine zn0 ?_
          refine ztn ?_
          refine ⟨true, [l[k]!], p1, cap1, k + 1, ?_, ?_, (le_of (sc rfl (sc rfl (sc rfl (sc (sl_eq rfl (by first | rfl | (simp only [List.length_append, List.length_cons, List.length_nil]; rfl) | (simp; done) | (simp [V.mapC, C.unq]; done))) (sc rfl sz))))) (xc rfl (xc rfl (xc rfl (xc (bx_eq rfl (by first | rfl | (simp only [bsC_unq, bsC_scrub, List.map_append, List.flatten_append, List.map_cons, List.map_nil]; done) | (simp only [bsC_unq, bsC_scrub, List.map_append, List.flatten_append, List.map_cons, List.map_nil]; rfl) | (simp; done))) xz)))) kz)⟩
          · refine ⟨?_, ?_, ?_, ?_, ?_, ?_, ?_⟩
            · first | (intro h; cases h; done) | (intro _; rfl)
            · first | omega | (simp; done) | (simp only [List.length_append, List.length_cons, List.length_nil] at *; omega)
            · first | omega | (simp; done) | (simp only [List.length_append, List.length_cons, List.length_nil] at *; omega)
            · exact zen
            · first | (rw [fold_take _ _ hkl, ← hout, needStep, if_pos h2x]; rfl) | (rw [fold_take _ _ hkl, ← hout, needStep, if_pos h2x]; done) | (rw [fold_take _ _ hkl, ← hout, needStep, if_neg (nt h2x)]; done)
            · first | exact hnn | exact (fun x hx => (List.mem_append.1 hx).elim (hnn x) fun h => List.mem_singleton.1 h ▸ hkn) | exact (fun x hx => List.mem_singleton.1 hx ▸ hkn)
            · first | omega | (simp only [List.length_append, List.length_cons, List.length_nil]; omega)
          · first | omega | (simp at *; omega)
        · skip
          have h2x : ((!([].any fun o => subS o l[k]!)) && has (elim c (orI h l[k]!)).1 node) = false := h2
          refine zws ?_
          refine zbn ?_
          refine ztn ?_
          refine zre ?_
          refine zc rfl (zar (zt rfl) (zi zdc) rfl (ink64 zom zom) rfl ?_)
          refine zc rfl (zmv (zt rfl) rfl ?_)
          refine zn0 ?_
          refine ztn ?_
          refine ⟨false, [], 0, 0, k + 1, ?_, ?_, (le_of (sc rfl (sc rfl (sc rfl (sc rfl (sc rfl sz))))) (xc rfl (xc rfl (xc rfl xz))) kz)⟩
          · refine ⟨?_, ?_, ?_, ?_, ?_, ?_, ?_⟩
            · first | (intro h; cases h; done) | (intro _; rfl)
            · first | omega | (simp; done) | (simp only [List.length_append, List.length_cons, List.length_nil] at *; omega)
            · first | omega | (simp; done) | (simp only [List.length_append, List.length_cons, List.length_nil] at *; omega)
            · exact zen
            · first | (rw [fold_take _ _ hkl, ← hout, needStep, if_pos h2x]; rfl) | (rw [fold_take _ _ hkl, ← hout, needStep, if_pos h2x]; done) | (rw [fold_take _ _ hkl, ← hout, needStep, if_neg (nt h2x)]; done)
            · first | exact hnn | exact (fun x hx => (List.mem_append.1 hx).elim (hnn x) fun h => List.mem_singleton.1 h ▸ hkn) | exact (fun x hx => List.mem_singleton.1 hx ▸ hkn)
            · first | omega | (simp only [List.length_append, List.length_cons, List.length_nil]; omega)
          · first | omega | (simp at *; omega)
      · skip
        have g1 := h1
        try simp only [zbz, List.length_map] at g1
        obtain rfl : k = l.length := by omega
        rw [List.take_length] at hout
        refine zwe ?_
        refine zte ?_
        refine zte ?_
        refine zbk ?_
        refine ztn ?_
        refine zsr ?_
        refine zc rfl (zmv (zt rfl) rfl ?_)
        refine zc rfl (zcl zhf (hc (zt rfl) hz) (rs := []) (bxs := []) zdc bz (c_Sort0) rfl rfl rfl (fun d b hd hl => ?_))
        obtain ⟨rfl, rfl⟩ := hd
        try have hlq := hp1.length_eq
        refine zn0 ?_
        refine zsr ?_
        refine zc rfl (zmv (zt rfl) rfl ?_)
        refine zc rfl (zas (zt rfl) rfl ?_)
        refine zn0 ?_
        refine zwr ?_
        refine zpr [] (res1 (zrt rfl)) rfl lz ?_
        refine ⟨[], l, rfl, rfl, ?_⟩
        first | (refine ⟨⟨by assumption, by assumption⟩, ?_⟩; rw [← hout]; assumption) | (refine ⟨⟨by assumption, by assumption⟩, ?_⟩; rw [← hout])
    · skip
      refine zsr ?_
      refine zc rfl (zcm (zt rfl) (zt rfl) rfl rfl ?_)
      refine zn0 ?_
      refine zw2 ?_
      refine zwc (zt rfl) (fun h1 => ?_) (fun h1 => ?_)
      · skip
        have g1 := h1
        try simp only [zbz, List.length_map] at g1
        have hkl : k < l.length := by omega
        have hkn := hln _ (mem_at hkl)
        refine zws ?_
        refine ztn ?_
        refine zw2 ?_
        refine zwb ?_
        refine zsr ?_
        refine zc rfl (op_indexAddr (e := 3) (n := 1) (zt rfl) rfl (zt rfl) zk zom (show (iRows l)[k]? = some (iRow l[k]!) from (map_getD zom)) rfl rfl ?_)
        refine zc rfl (op_load_imm1 (zt rfl) zk rfl rfl ?_)
        refine zc rfl (zal (cs := [.dat (.int .i64 0)]) zk rfl ?_)
        refine zc rfl (zst (n := 1) (zt rfl) (zt rfl) rfl (.inr ⟨by kernel_rfl, rfl⟩) rfl rfl (zbl rfl) ?_)
        refine zn0 ?_
        refine awp_le (le_of (ls := [(9, .one (.bs (.o 35) 1 out.length cap)), (10, .one (.fn 95 [.o 4, .o 6, .o 5])), (12, .one (.ref (.o 12) 0)), (16, VR (iRows l)), (17, VI ((iRows l).length : Int)), (18, VI ((k : Nat) : Int))]) (bs := [(.o 4, [.dat (.sl (c.map Member.d))]), (.o 5, [.dat (.int .i64 node)]), (.o 6, [.dat (.int .i64 h)]), (.o 35, bsC (iRows out).flatten p), (.o 12, [.dat (.int .i64 l[k]!)])]) (ts := []) (sc rfl (sc rfl (sc rfl (sc rfl (sc rfl (sc rfl sz)))))) (xc rfl (xc rfl (xc rfl (xc (bx_eq rfl (by simp only [bsC_scrub, bsC_unq])) (xc rfl xz))))) kz) ?_
        refine zsr ?_
        refine zc rfl (op_makeFunc (rs := [.o 12]) (hc (zt rfl) hz) rfl ?_)
        refine zc rfl (zas (zt rfl) rfl ?_)
        refine zn0 ?_
        refine zsr ?_
        refine zc rfl (zmv (zt rfl) rfl ?_)
        refine zc rfl (zmv (zt rfl) rfl ?_)
        refine zc rfl (zcl zhf (hc (zt rfl) (hc (zt rfl) hz)) (rs := [.o 35, .o 12]) (bxs := [_, _]) zdc (bc rfl (bc rfl bz)) (c_ContainsFunc_bs (99) (fun o => subS o l[k]!) out p cap l[k]! (by first | assumption | omega | trivial | (simp; done) | (constructor <;> omega)) (fun x hx => c_needs_2 x l[k]! hkn (hnn x hx))) rfl (by first | rfl | (simp only [List.map_cons, List.map_nil, bsC_callee]; done) | (simp only [List.map_cons, List.map_nil, bsC_callee]; rfl)) rfl (fun d b hd hl => ?_))
        obtain ⟨rfl, rfl⟩ := hd
        refine aops_le (le_bxeq (r := .o 35) (cs' := bsC (iRows out).flatten p) rfl (bsC_caller _ _ _).symm) ?_
        refine zc rfl (op_not (zt rfl) rfl ?_)
        refine zc rfl (zmv (zt rfl) rfl ?_)
        refine zg rfl rfl rfl rfl (zgb rfl) (fun hg => zmv (zt rfl) rfl rfl) ?_
        refine zg rfl rfl rfl rfl (zgb rfl) (fun hg => zl1 (zt rfl) zk rfl rfl rfl rfl) ?_
        refine zg rfl rfl rfl rfl (zgb rfl) (fun hg => zcl (zcd (zt rfl) hg) (hc (zcd (zt rfl) hg) hz) (rs := [.o 4, .o 6, .o 5]) (bxs := [_, _, _]) zdc (bc rfl (bc rfl (bc rfl bz))) (c_needs_1 c h node l[k]! (by first | assumption | omega | trivial | (simp; done) | (constructor <;> omega)) (by first | assumption | omega | trivial | (simp; done) | (constructor <;> omega)) (by first | assumption | omega | trivial | (simp; done) | (constructor <;> omega))) rfl rfl rfl (fun d b hd hl => by obtain ⟨rfl, rfl⟩ := hd; first | rfl | exact congrArg (fun s => St.put s _ _) (setBs_id (bc rfl (bc rfl (bc rfl bz)))))) ?_
        refine zc rfl (zan (zt rfl) (zt rfl) (.inl zb0) rfl ?_)
        refine zn0 ?_
        refine zwc (zt rfl) (fun h2 => ?_) (fun h2 => ?_)
        · skip
          have h2x : ((!(out.any fun o => subS o l[k]!)) && has (elim c (orI h l[k]!)).1 node) = true := h2
          refine zre ?_
          refine zc rfl (zmv (zt rfl) rfl ?_)
          refine zc rfl (zl1 (zt rfl) zk rfl rfl rfl ?_)
          refine zc rfl (zbs (e := 3) (ps := [(_, _)]) (qs := [(_, _)]) (n := 1) (rows := [[_]]) (pc (zt rfl) rfl pz) zk zdc ⟨[.dat (.int .i64 0)], by kernel_rfl⟩ rfl rfl (by simp [Uni]) rfl zdc rfl ?_)
          refine zc rfl (op_append_bs (e := 3) (k := 1) (b := 8) (ds := (iRows out).flatten) (zt rfl) rfl (by rw [flatten_length_uni (uni_map (f := iRow) (n := 1) (fun _ => rfl) _), List.length_map]) zom (zt rfl) rfl zk ⟨[.dat (.int .i64 0)], by kernel_rfl⟩ (uni_map (f := iRow) (n := 1) (fun _ => rfl) [l[k]!]) (by first | (simp; done) | (simp; omega) | (simp at *; omega)) (by first | (simp; done) | (simp; omega) | (simp at *; omega)) (by simp) rfl (fun p1 cap1 hp1 hc => ?_))
          try simp only [List.length_cons, List.length_nil, List.length_map] at hp1 hc
          refine zc rfl (zas (zt rfl) rfl ?_)
          refine zn0 ?_
          refine zbn ?_
          refine ztn ?_
          refine zre ?_
          refine zc rfl (zar (zt rfl) (zi zdc) rfl (ink64 zom zom) rfl ?_)
          refine zc rfl (zmv (zt rfl) rfl ?_)
          refine zn0 ?_
          refine ztn ?_
          refine ⟨true, (out ++ [l[k]!]), p1, cap1, k + 1, ?_, ?_, (le_of (sc rfl (sc rfl (sc rfl (sc (sl_eq rfl (by first | rfl | (simp only [List.length_append, List.length_cons, List.length_nil]; rfl) | (simp; done) | (simp [V.mapC, C.unq]; done))) (sc rfl sz))))) (xc rfl (xc rfl (xc rfl (xc (bx_eq rfl (by first | rfl | (simp only [bsC_unq, bsC_scrub, List.map_append, List.flatten_append, List.map_cons, List.map_nil]; done) | (simp only [bsC_unq, bsC_scrub, List.map_append, List.flatten_append, List.map_cons, List.map_nil]; rfl) | (simp; done))) xz)))) kz)⟩
          · refine ⟨?_, ?_, ?_, ?_, ?_, ?_, ?_⟩
            · first | (intro h; cases h; done) | (intro _; rfl)
            · first | omega | (simp; done) | (simp only [List.length_append, List.length_cons, List.length_nil] at *; omega)
            · first | omega | (simp; done) | (simp only [List.length_append, List.length_cons, List.length_nil] at *; omega)
            · exact zen
            · first | (rw [fold_take _ _ hkl, ← hout, needStep, if_pos h2x]; rfl) | (rw [fold_take _ _ hkl, ← hout, needStep, if_pos h2x]; done) | (rw [fold_take _ _ hkl, ← hout, needStep, if_neg (nt h2x)]; done)
            · first | exact hnn | exact (fun x hx => (List.mem_append.1 hx).elim (hnn x) fun h => List.mem_singleton.1 h ▸ hkn) | exact (fun x hx => List.mem_singleton.1 hx ▸ hkn)
            · first | omega | (simp only [List.length_append, List.length_cons, List.length_nil]; omega)
          · first | omega | (simp at *; omega)
        · skip
          have h2x : ((!(out.any fun o => subS o l[k]!)) && has (elim c (orI h l[k]!)).1 node) = false := h2
          refine zws ?_
          refine zbn ?_
          refine ztn ?_
          refine zre ?_
          refine zc rfl (zar (zt rfl) (zi zdc) rfl (ink64 zom zom) rfl ?_)
          refine zc rfl (zmv (zt rfl) rfl ?_)
          refine zn0 ?_
          refine ztn ?_
          refine ⟨true, out, p, cap, k + 1, ?_, ?_, (le_of (sc rfl (sc rfl (sc rfl (sc (sl_eq rfl (by first | rfl | (simp only [List.length_append, List.length_cons, List.length_nil]; rfl) | (simp; done) | (simp [V.mapC, C.unq]; done))) (sc rfl sz))))) (xc rfl (xc rfl (xc rfl (xc (bx_eq rfl (by first | rfl | (simp only [bsC_unq, bsC_scrub, List.map_append, List.flatten_append, List.map_cons, List.map_nil]; done) | (simp only [bsC_unq, bsC_scrub, List.map_append, List.flatten_append, List.map_cons, List.map_nil]; rfl) | (simp; done))) xz)))) kz)⟩
          · refine ⟨?_, ?_, ?_, ?_, ?_, ?_, ?_⟩
            · first | (intro h; cases h; done) | (intro _; rfl)
            · first | omega | (simp; done) | (simp only [List.length_append, List.length_cons, List.length_nil] at *; omega)
            · first | omega | (simp; done) | (simp only [List.length_append, List.length_cons, List.length_nil] at *; omega)
            · exact zen
            · first | (rw [fold_take _ _ hkl, ← hout, needStep, if_pos h2x]; rfl) | (rw [fold_take _ _ hkl, ← hout, needStep, if_pos h2x]; done) | (rw [fold_take _ _ hkl, ← hout, needStep, if_neg (nt h2x)]; done)
            · first | exact hnn | exact (fun x hx => (List.mem_append.1 hx).elim (hnn x) fun h => List.mem_singleton.1 h ▸ hkn) | exact (fun x hx => List.mem_singleton.1 hx ▸ hkn)
            · first | omega | (simp only [List.length_append, List.length_cons, List.length_nil]; omega)
          · first | omega | (simp at *; omega)
      · skip
        have g1 := h1
        try simp only [zbz, List.length_map] at g1
        obtain rfl : k = l.length := by omega
        rw [List.take_length] at hout
        refine zwe ?_
        refine zte ?_
        refine zte ?_
        refine zbk ?_
        refine ztn ?_
        refine zsr ?_
        refine zc rfl (zmv (zt rfl) rfl ?_)
        refine zc rfl (zcl zhf (hc (zt rfl) hz) (rs := [.o 35]) (bxs := [_]) zdc (bc rfl bz) (c_Sort out p cap (by first | assumption | omega | trivial | (simp; done) | (constructor <;> omega))) rfl (by first | rfl | (simp only [List.map_cons, List.map_nil, bsC_callee]; done) | (simp only [List.map_cons, List.map_nil, bsC_callee]; rfl)) rfl (fun d b hd hl => ?_))
        obtain ⟨l2, rfl, rfl, ⟨hs1, hp1⟩⟩ := hd
        refine aops_le (le_bxeq (r := .o 35) (cs' := bsC (iRows l2).flatten p) rfl (bsC_caller _ _ _).symm) ?_
        try have hlq := hp1.length_eq
        refine zn0 ?_
        refine zsr ?_
        refine zc rfl (zmv (zt rfl) rfl ?_)
        refine zc rfl (zas (zt rfl) rfl ?_)
        refine zn0 ?_
        refine awp_le (le_of (ls := [(8, .one (.bs (.o 35) 1 out.length cap))]) (bs := [(.o 35, bsC (iRows l2).flatten p)]) (ts := []) (sc rfl sz) (xc rfl xz) kz) ?_
        refine awp_le (le_freezeS (t := 8) (l := l2) (f := iRow) rfl rfl (by first | omega | (simp only [List.length_set]; omega) | (simp; omega)) (uni_map (f := iRow) (n := 1) (fun _ => rfl) _) zdc) ?_
        refine zwr ?_
        refine zpr [] (res1 (zrt rfl)) rfl lz ?_
        refine ⟨l2, l, rfl, rfl, ?_⟩
        first | (refine ⟨⟨by assumption, by assumption⟩, ?_⟩; rw [← hout]; assumption) | (refine ⟨⟨by assumption, by assumption⟩, ?_⟩; rw [← hout])

end Go.TQ
