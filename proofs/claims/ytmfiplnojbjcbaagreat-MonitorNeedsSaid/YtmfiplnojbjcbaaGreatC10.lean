/- s10.py -/
import Derived.Test.YtmfiplnojbjcbaaGreatC09
set_option linter.unusedVariables false
set_option linter.unusedSimpArgs false
set_option maxRecDepth 10000
namespace Go.TQ
open Go.Proofs


/-- What the tape's trusts are like. -/
structure TrP (n : Nat) (t : Trust) : Prop where
  ne : t.nodes ≠ []
  nd : t.nodes.Nodup
  lt : ∀ k ∈ t.nodes, 0 ≤ k ∧ k < n
  inn : t.inner = [] ∨ ∃ x : Int, (0 ≤ x ∧ x < n) ∧ t.inner = [Trust.mk 1 [x] []]
  lo : 1 ≤ t.thr
  hi : t.thr ≤ t.nodes.length + t.inner.length
structure NodesP (n : Nat) (l : List Int) : Prop where
  nd : l.Nodup
  lt : ∀ k ∈ l, 0 ≤ k ∧ k < n
  len : l.length ≤ n
theorem NodesP.nil : NodesP 0 [] := ⟨List.nodup_nil, fun k h => by simp at h, Nat.le_refl 0⟩
theorem NodesP.snoc {i : Nat} {l : List Int} (h : NodesP i l) : NodesP (i + 1) (l ++ [(i : Int)]) where
  nd := by
    rw [List.nodup_append]
    refine ⟨h.nd, by simp, fun a ha b hb => ?_⟩
    simp at hb
    have := h.lt a ha
    omega
  lt := fun k hk => by
    rcases List.mem_append.1 hk with h1 | h1
    · have := h.lt k h1; omega
    · simp at h1; omega
  len := by simp; exact h.len
theorem NodesP.skip {i : Nat} {l : List Int} (h : NodesP i l) : NodesP (i + 1) l := ⟨h.nd, fun k hk => by have := h.lt k hk; omega, by have := h.len; omega⟩
theorem iRows_snoc (l : List Int) (x : Int) : iRows (l ++ [x]) = iRows l ++ [iRow x] := by simp
structure TG2 where
  s : Src
  inn : List Trust
structure TG where
  i : Nat
  s : Src
  ns : List Int

theorem c_Src_Trust (s : Src) (hs : s.ok) (n : Nat) (hn : 1 ≤ n ∧ n ≤ 10) : ACalls Tryz.prog 43 [.one (.ref (.e 0) 0), VI (n : Int)] [s.c] fun dd bb => ∃ t s2, dd = .aggd (Trust.d t) ∧ bb = [Src.c s2] ∧ s2.ok ∧ s2.l = s.l ∧ TrP n t := by
  refine zai Tryz.func43 rfl Tryz.ntmps43 (by rw [Tryz.results43]) rfl rfl (fun w0 A0 X => ?_)
  refine zsr ?_
  refine zc rfl (zal (cs := [.dat (.int .i64 0), .nilsl, .nilsl]) zk rfl ?_)
  refine zn0 ?_
  refine zsr ?_
  refine zc rfl (zal (cs := [.dat (.int .i64 0), .nilsl, .nilsl]) zk rfl ?_)
  refine zn0 ?_
  refine zw2 ?_
  refine zsr ?_
  refine zc rfl (zas (zi zdc) rfl ?_)
  refine zn0 ?_
  refine zwb ?_
  refine awp_loop (ι := TG) (fun x => St.of [(0, .one (.ref (.e 0) 0)), (1, VI ((n : Int))), (4, .one (.ref (.o 4) 0)), (5, .one (.ref (.o 5) 0)), (6, VI ((x.i : Int)))] [(.e 0, x.s.c), (.o 4, [.dat (.int .i64 0), .nilsl, .nilsl]), (.o 5, [.dat (.int .i64 0), .slt 20 (iRows x.ns), .nilsl])] [(20, (3, 1))]) (fun x => x.i ≤ n ∧ (x.s.ok ∧ x.s.l = s.l ∧ NodesP x.i x.ns)) (fun x => n - x.i) ⟨0, s, []⟩ ?_ ?_ ?_
  · exact (le_adoptB (r := .o 5) (off := 1) (q := 20) (e := 3) (k := 1) zdc rfl rfl rfl).trans (le_of (sc rfl (sc rfl (sc rfl (sc rfl (sc rfl sz))))) (xc rfl (xc rfl (xc rfl xz))) (kc rfl kz))
  · exact ⟨Nat.zero_le _, ⟨hs, rfl, NodesP.nil⟩⟩
  intro x ⟨hk, hI⟩
  have hl := hI.2.2.len
  refine zw2 ?_
  refine zsr ?_
  refine zc rfl (zmv (zt rfl) rfl ?_)
  refine zc rfl (zmv (zt rfl) rfl ?_)
  refine zc rfl (zcm (zt rfl) (zt rfl) rfl rfl ?_)
  refine zn0 ?_
  refine zwc (zt rfl) (fun h1 => ?_) (fun h1 => ?_)
  · skip
    have hlt : x.i < n := by have := of_decide_eq_true h1; omega
    refine zws ?_
    refine ztn ?_
    refine zw2 ?_
    refine zwb ?_
    refine zsr ?_
    refine zc rfl (zmv (zt rfl) rfl ?_)
    refine zc rfl (zcl zhf (hc (zt rfl) (hc (zi zdc) hz)) (rs := [.e 0]) (bxs := [_]) zdc (bc rfl bz) (c_Src_N x.s 5 hI.1 (by omega)) rfl rfl rfl (fun d b hd hl => ?_))
    obtain ⟨rfl, rfl⟩ := hd
    have f1 := Src.n_lt x.s (5)
    refine zc rfl (zcm (zt rfl) (zi zdc) rfl rfl ?_)
    refine zn0 ?_
    refine zwc (zt rfl) (fun h2 => ?_) (fun h2 => ?_)
    · skip
      obtain ⟨nv, hne⟩ : ∃ v : List Int, v = x.ns ++ [(x.i : Int)] := ⟨_, rfl⟩
      have hnv : NodesP (x.i + 1) nv := by rw [hne]; exact hI.2.2.snoc
      have he : [C.dat (.int .i64 0), .slt 20 (iRows nv), .nilsl] = [C.dat (.int .i64 0), .slt 20 (iRows x.ns ++ [iRow (x.i : Int)]), .nilsl] := by rw [hne, iRows_snoc]
      refine zre ?_
      refine zc rfl (zfa (o := 1) (zt rfl) zk rfl ?_)
      refine zc rfl (zl1 (zt rfl) zk rfl rfl rfl ?_)
      refine zc rfl (zmv (zt rfl) rfl ?_)
      refine zc rfl (zbs (e := 3) (ps := [(_, _)]) (qs := [(_, _)]) (n := 1) (rows := [[_]]) (pc (zt rfl) rfl pz) zk zdc ⟨[.dat (.int .i64 0)], by kernel_rfl⟩ rfl rfl (by simp [Uni]) rfl zdc rfl ?_)
      refine zc rfl (op_append (e := 3) (k := 1) (b := 8) (zt rfl) rfl (zt rfl) rfl zk (uni_snoc (uni_map (f := iRow) (fun _ => rfl) _) rfl) (by first | (simp; done) | (simp; omega)) (by first | (simp; done) | (simp; omega)) rfl ?_)
      refine zc rfl (zfa (o := 1) (zt rfl) zk rfl ?_)
      refine zc rfl (zst (n := 1) (zt rfl) (zt rfl) rfl (.inr ⟨by kernel_rfl, rfl⟩) rfl rfl (zbl rfl) ?_)
      refine zn0 ?_
      refine zbn ?_
      refine ztn ?_
      refine zre ?_
      refine zc rfl (zmv (zt rfl) rfl ?_)
      refine zc rfl (zar (zt rfl) (zi zdc) rfl (ink64 (by omega) (by omega)) rfl ?_)
      refine zc rfl (zas (zt rfl) rfl ?_)
      refine zn0 ?_
      refine ztn ?_
      exact ⟨⟨x.i + 1, x.s.nx 5, nv⟩, ⟨by first | omega | (dsimp only; omega), ⟨Src.nx_ok' hI.1 5, (Src.nx_ok hI.1 5).2.trans hI.2.1, hnv⟩⟩, by first | omega | (dsimp only; omega), (le_of (sc rfl (sc rfl (sc rfl (sc rfl (sc rfl sz))))) (xc rfl (xc rfl (xc (bx_eq rfl he) xz))) (kc rfl kz))⟩
    · skip
      obtain ⟨nv, hne⟩ : ∃ v : List Int, v = x.ns := ⟨_, rfl⟩
      have hnv : NodesP (x.i + 1) nv := by rw [hne]; exact hI.2.2.skip
      have he : [C.dat (.int .i64 0), .slt 20 (iRows nv), .nilsl] = [C.dat (.int .i64 0), .slt 20 (iRows x.ns), .nilsl] := by rw [hne]
      refine zws ?_
      refine zbn ?_
      refine ztn ?_
      refine zre ?_
      refine zc rfl (zmv (zt rfl) rfl ?_)
      refine zc rfl (zar (zt rfl) (zi zdc) rfl (ink64 (by omega) (by omega)) rfl ?_)
      refine zc rfl (zas (zt rfl) rfl ?_)
      refine zn0 ?_
      refine ztn ?_
      exact ⟨⟨x.i + 1, x.s.nx 5, nv⟩, ⟨by first | omega | (dsimp only; omega), ⟨Src.nx_ok' hI.1 5, (Src.nx_ok hI.1 5).2.trans hI.2.1, hnv⟩⟩, by first | omega | (dsimp only; omega), (le_of (sc rfl (sc rfl (sc rfl (sc rfl (sc rfl sz))))) (xc rfl (xc rfl (xc (bx_eq rfl he) xz))) (kc rfl kz))⟩
  · skip
    have hge : x.i = n := by have := of_decide_eq_false h1; omega
    refine zwe ?_
    refine zte ?_
    refine zte ?_
    refine zbk ?_
    refine ztn ?_
    refine awp_join (ι := TG) (fun y => St.of [(0, .one (.ref (.e 0) 0)), (1, VI ((n : Int))), (4, .one (.ref (.o 4) 0)), (5, .one (.ref (.o 5) 0))] [(.e 0, y.s.c), (.o 4, [.dat (.int .i64 0), .nilsl, .nilsl]), (.o 5, [.dat (.int .i64 0), .dat (.sl (iRows y.ns)), .nilsl])] []) (fun y => y.s.ok ∧ y.s.l = s.l ∧ NodesP n y.ns ∧ y.ns ≠ []) ?_ ?_
    · skip
      refine zsr ?_
      refine zc rfl (zfa (o := 1) (zt rfl) zk rfl ?_)
      refine zc rfl (zl1 (zt rfl) zk rfl rfl rfl ?_)
      refine zc rfl (zln (e := 3) (n := 1) (zt rfl) rfl zk rfl (fun hl => ?_))
      refine zc rfl (zcm (zt rfl) (zi zdc) rfl rfl ?_)
      refine zn0 ?_
      refine zwc (zt rfl) (fun h3 => ?_) (fun h3 => ?_)
      · skip
        have hnil : x.ns = [] := by have := of_decide_eq_true h3; simpa using this
        refine zre ?_
        refine zc rfl (zmv (zt rfl) rfl ?_)
        refine zc rfl (zmv (zt rfl) rfl ?_)
        refine zc rfl (zcl zhf (hc (zt rfl) (hc (zt rfl) hz)) (rs := [.e 0]) (bxs := [_]) zdc (bc rfl bz) (c_Src_N x.s (n : Int) hI.1 (by omega)) rfl rfl rfl (fun d b hd hl => ?_))
        obtain ⟨rfl, rfl⟩ := hd
        have f1 := Src.n_lt x.s ((n : Int))
        let w3 : TG := ⟨0, x.s.nx (n : Int), [x.s.n (n : Int)]⟩
        have hw3 : w3.s.ok ∧ w3.s.l = s.l ∧ NodesP n w3.ns ∧ w3.ns ≠ [] := ⟨Src.nx_ok' hI.1 _, (Src.nx_ok hI.1 _).2.trans hI.2.1, ⟨by simp [w3], fun k hk => by simp [w3] at hk; subst hk; omega, by simp [w3]; omega⟩, by simp [w3]⟩
        refine zc rfl (zbs (e := 3) (ps := [(_, _)]) (qs := [(_, _)]) (n := 1) (rows := [[_]]) (pc (zt rfl) rfl pz) zk zdc ⟨[.dat (.int .i64 0)], by kernel_rfl⟩ rfl rfl (by simp [Uni]) rfl zdc rfl ?_)
        refine zc rfl (zfa (o := 1) (zt rfl) zk rfl ?_)
        refine zc rfl (zst (n := 1) (zt rfl) (zt rfl) rfl (.inr ⟨by kernel_rfl, rfl⟩) rfl rfl (zbl rfl) ?_)
        refine zn0 ?_
        refine ztn ?_
        exact ⟨w3, hw3, (le_untok 20).trans (le_of (sc rfl (sc rfl (sc rfl (sc rfl sz)))) (xc rfl (xc rfl (xc rfl xz))) kz)⟩
      · skip
        have hnn : x.ns ≠ [] := by have := of_decide_eq_false h3; simpa using this
        let w3 : TG := ⟨0, x.s, x.ns⟩
        have hw3 : w3.s.ok ∧ w3.s.l = s.l ∧ NodesP n w3.ns ∧ w3.ns ≠ [] := ⟨hI.1, hI.2.1, hge ▸ hI.2.2, hnn⟩
        refine zws ?_
        refine ztn ?_
        exact ⟨w3, hw3, (le_untok 20).trans (le_of (sc rfl (sc rfl (sc rfl (sc rfl sz)))) (xc rfl (xc rfl (xc rfl xz))) kz)⟩
    · intro y hy
      have hyl := hy.2.2.1.len
      clear hI hl
      refine awp_join (ι := TG2) (fun z => St.of [(0, .one (.ref (.e 0) 0)), (1, VI ((n : Int))), (4, .one (.ref (.o 4) 0)), (5, .one (.ref (.o 5) 0))] [(.e 0, z.s.c), (.o 4, [.dat (.int .i64 0), .dat (.sl []), .dat (.sl [])]), (.o 5, [.dat (.int .i64 0), .dat (.sl (iRows y.ns)), .dat (.sl (z.inn.map Trust.enc))])] []) (fun z => z.s.ok ∧ z.s.l = s.l ∧ (z.inn = [] ∨ ∃ x : Int, (0 ≤ x ∧ x < n) ∧ z.inn = [Trust.mk 1 [x] []])) ?_ ?_
      · skip
        refine zsr ?_
        refine zc rfl (zmv (zt rfl) rfl ?_)
        refine zc rfl (zcl zhf (hc (zt rfl) (hc (zi zdc) hz)) (rs := [.e 0]) (bxs := [_]) zdc (bc rfl bz) (c_Src_N y.s 4 hy.1 (by omega)) rfl rfl rfl (fun d b hd hl => ?_))
        obtain ⟨rfl, rfl⟩ := hd
        have f1 := Src.n_lt y.s (4)
        refine zc rfl (zcm (zt rfl) (zi zdc) rfl rfl ?_)
        refine zn0 ?_
        refine zwc (zt rfl) (fun h4 => ?_) (fun h4 => ?_)
        · skip
          have f2 := Src.n_lt (y.s.nx 4) (n : Int)
          let w4 : TG2 := ⟨(y.s.nx 4).nx (n : Int), [Trust.mk 1 [(y.s.nx 4).n (n : Int)] []]⟩
          have hw4 : w4.s.ok ∧ w4.s.l = s.l ∧ (w4.inn = [] ∨ ∃ x : Int, (0 ≤ x ∧ x < n) ∧ w4.inn = [Trust.mk 1 [x] []]) := ⟨Src.nx_ok' (Src.nx_ok' hy.1 4) _, (Src.nx_ok (Src.nx_ok' hy.1 4) _).2.trans ((Src.nx_ok hy.1 4).2.trans hy.2.1), .inr ⟨_, by omega, rfl⟩⟩
          refine awp_drawT zk [] [42] [0, 1, 0, 0, 12, 28, 60, 124, 255, 511, 1023] rfl
            (Trace.cons ⟨[(5, _)], [], [], [], [], [.slot 34 _]⟩ (prel (lsc rfl lsz) lbz ltz) (fun zs zp zn => (zgp rfl rfl (zfa (o := 2) (zt zp.1.1) zk rfl rfl))) <|
            Trace.cons ⟨[(34, _)], [(.o 5, _)], [], [], [], [.slot 35 _]⟩ (prel (lsc rfl lsz) (lbc rfl lbz) ltz) (fun zs zp zn => (zgp rfl rfl (zl1 (zt zp.1.1) zk zp.2.1.1 rfl rfl rfl))) <|
            Trace.cons ⟨[(0, _)], [], [], [], [], [.slot 36 _]⟩ (prel (lsc rfl lsz) lbz ltz) (fun zs zp zn => (zgp rfl rfl (zmv (zt zp.1.1) rfl rfl))) <|
            Trace.cons ⟨[(1, _)], [], [], [], [], [.slot 37 _]⟩ (prel (lsc rfl lsz) lbz ltz) (fun zs zp zn => (zgp rfl rfl (zmv (zt zp.1.1) rfl rfl))) <|
            Trace.cons ⟨[(36, _), (37, _)], [(.e 0, _)], [], [], [], [.box (.e 0) _, .slot 38 _]⟩ (prel (lsc rfl (lsc rfl lsz)) (lbc rfl lbz) ltz) (fun zs zp zn => (zgp rfl rfl (zcl zhf (hc (zt zp.1.1) (hc (zt zp.1.2.1) hz)) (rs := [.e 0]) (bxs := [_]) zdc (bc zp.2.1.1 bz) (c_Src_N (y.s.nx 4) (n : Int) (Src.nx_ok' hy.1 4) (by omega)) rfl rfl rfl (fun d b hd hl => by obtain ⟨rfl, rfl⟩ := hd; rfl)))) <|
            Trace.cons ⟨[(38, _)], [], [], [], [], [.slot 39 _]⟩ (prel (lsc rfl lsz) lbz ltz) (fun zs zp zn => (zgp rfl rfl (zbs (e := 3) (ps := [(_, _)]) (qs := [(_, _)]) (n := 1) (rows := [[_]]) (pc (zt zp.1.1) rfl pz) zk zdc ⟨[.dat (.int .i64 0)], by kernel_rfl⟩ rfl rfl (by simp [Uni]) rfl zdc rfl rfl))) <|
            Trace.cons ⟨[(39, _)], [], [], [], [], [.slot 40 _]⟩ (prel (lsc rfl lsz) lbz ltz) (fun zs zp zn => (zgp rfl rfl (zbd (ps := [(_, _), (_, _)]) (qs := [(_, _), (_, _)]) (zs := [.dat (.int .i64 0), .nilsl, .nilsl]) (pl := [(0, 1), (1, 1), (2, 1)]) (pc (zi zdc) rfl (pc (zt zp.1.1) rfl pz)) zk zk rfl rfl rfl))) <|
            Trace.cons ⟨[(40, _)], [], [], [], [], [.slot 41 _]⟩ (prel (lsc rfl lsz) lbz ltz) (fun zs zp zn => (zgp rfl rfl (zbs (e := 34) (ps := [(_, _)]) (qs := [(_, _)]) (n := 3) (rows := [[_, _, _]]) (pc (zt zp.1.1) rfl pz) zk zdc ⟨[.dat (.int .i64 0), .nilsl, .nilsl], by kernel_rfl⟩ rfl rfl (by simp [Uni]) rfl zdc rfl rfl))) <|
            Trace.cons ⟨[(35, _), (41, _)], [], [], [], [42], [.tok 42 _, .slot 42 _]⟩ (prel (lsc rfl (lsc rfl lsz)) lbz ltz) (fun zs zp zn => (zgp rfl rfl (op_append_nilF (e := 34) (k := 3) (b := 56) (zt zp.1.1) (zt zp.1.2.1) rfl zk (by simp [Uni]) (by first | (simp; done) | (simp; omega)) (by first | (simp; done) | (simp; omega)) rfl zn.2.1 rfl))) <|
            Trace.cons ⟨[(5, _)], [], [], [], [], [.slot 43 _]⟩ (prel (lsc rfl lsz) lbz ltz) (fun zs zp zn => (zgp rfl rfl (zfa (o := 2) (zt zp.1.1) zk rfl rfl))) <|
            Trace.cons ⟨[(43, _), (42, _)], [(.o 5, _)], [], [], [], [.box (.o 5) _]⟩ (prel (lsc rfl (lsc rfl lsz)) (lbc rfl lbz) ltz) (fun zs zp zn => (zgp rfl rfl (zst (n := 1) (zt zp.1.1) (zt zp.1.2.1) rfl (.inr ⟨by kernel_rfl, rfl⟩) rfl zp.2.1.1 (zbl rfl) rfl))) <|
            Trace.nil) rfl rfl rfl ?_
          refine ztn ?_
          exact ⟨w4, hw4, le_norm.trans (le_of (sc rfl (sc rfl (sc rfl (sc rfl sz)))) (xc rfl (xc rfl (xc rfl xz))) kz)⟩
        · skip
          let w4 : TG2 := ⟨y.s.nx 4, []⟩
          have hw4 : w4.s.ok ∧ w4.s.l = s.l ∧ (w4.inn = [] ∨ ∃ x : Int, (0 ≤ x ∧ x < n) ∧ w4.inn = [Trust.mk 1 [x] []]) := ⟨Src.nx_ok' hy.1 4, (Src.nx_ok hy.1 4).2.trans hy.2.1, .inl rfl⟩
          refine zws ?_
          refine ztn ?_
          exact ⟨w4, hw4, le_norm.trans (le_of (sc rfl (sc rfl (sc rfl (sc rfl sz)))) (xc rfl (xc rfl (xc rfl xz))) kz)⟩
      · intro z hz1
        have hk1 : (iRows y.ns).length = y.ns.length := by simp
        have hk2 : (z.inn.map Trust.enc).length = z.inn.length := by simp
        have hk3 : z.inn.length ≤ 1 := by rcases hz1.2.2 with h | ⟨x, _, h⟩ <;> simp [h]
        have hk4 : 1 ≤ y.ns.length := List.length_pos_iff.2 hy.2.2.2
        have hq := Int.tdiv_eq_ediv_of_nonneg (a := ((iRows y.ns).length : Int) + ((z.inn.map Trust.enc).length : Int) + 1) (b := 2) (by omega)
        refine zsr ?_
        refine zc rfl (zfa (o := 1) (zt rfl) zk rfl ?_)
        refine zc rfl (zl1 (zt rfl) zk rfl rfl rfl ?_)
        refine zc rfl (zln (e := 3) (n := 1) (zt rfl) rfl zk rfl (fun hl => ?_))
        refine zc rfl (zfa (o := 2) (zt rfl) zk rfl ?_)
        refine zc rfl (zl1 (zt rfl) zk rfl rfl rfl ?_)
        refine zc rfl (zln (e := 34) (n := 3) (zt rfl) rfl zk rfl (fun hl => ?_))
        refine zc rfl (zar (zt rfl) (zt rfl) rfl (ink64 (by omega) (by omega)) rfl ?_)
        refine zc rfl (zas (zt rfl) rfl ?_)
        refine zn0 ?_
        refine zsr ?_
        refine zc rfl (zmv (zt rfl) rfl ?_)
        refine zc rfl (zmv (zt rfl) rfl ?_)
        refine zc rfl (zar (zt rfl) (zi zdc) rfl (ink64 (by omega) (by omega)) rfl ?_)
        refine zc rfl (op_quo (zt rfl) (zi zdc) (by omega) (ink64 (by omega) (by omega)) rfl ?_)
        refine zc rfl (zmv (zt rfl) rfl ?_)
        refine zc rfl (zcl zhf (hc (zt rfl) (hc (zt rfl) (hc (zt rfl) hz))) (rs := [.e 0]) (bxs := [_]) zdc (bc rfl bz) (c_Src_Range z.s hz1.1 _ _ (by omega)) rfl rfl rfl (fun d b hd hl => ?_))
        obtain ⟨rfl, rfl⟩ := hd
        have f1 := Src.n_lt z.s (((iRows y.ns).length + (z.inn.map Trust.enc).length : Int) - ((iRows y.ns).length + (z.inn.map Trust.enc).length + 1 : Int).tdiv 2 + 1)
        refine zc rfl (zfa (o := 0) (zt rfl) zk rfl ?_)
        refine zc rfl (zst (n := 1) (zt rfl) (zt rfl) rfl (.inr ⟨by kernel_rfl, rfl⟩) rfl rfl (zbl rfl) ?_)
        refine zn0 ?_
        refine zw2 ?_
        refine zsr ?_
        refine zc rfl (zmv (zt rfl) rfl ?_)
        refine zc rfl (zcl zhf (hc (zt rfl) (hc (zi zdc) hz)) (rs := [.e 0]) (bxs := [_]) zdc (bc rfl bz) (c_Src_N _ 6 (Src.nx_ok' hz1.1 _) (by omega)) rfl rfl rfl (fun d b hd hl => ?_))
        obtain ⟨rfl, rfl⟩ := hd
        refine zc rfl (zcm (zt rfl) (zi zdc) rfl rfl ?_)
        refine zn0 ?_
        refine zwc (zt rfl) (fun h5 => ?_) (fun h5 => ?_)
        · skip
          refine zre ?_
          refine zc rfl (zfa (o := 0) (zt rfl) zk rfl ?_)
          refine zc rfl (zst (n := 1) (zt rfl) (zi zdc) rfl (.inr ⟨by kernel_rfl, rfl⟩) rfl rfl (zbl rfl) ?_)
          refine zn0 ?_
          refine ztn ?_
          refine zsr ?_
          refine zc rfl (zld (n := 3) (zt rfl) zk rfl rfl rfl rfl ?_)
          refine zc rfl (zst (n := 3) (zt rfl) (zt rfl) rfl (.inl zk) rfl rfl (zbl rfl) ?_)
          refine zn0 ?_
          refine zwr ?_
          refine zpr [_] (res1 (ri_agg (n := 3) rfl rfl zk rfl)) (show _ = 1 from rfl) (l1 rfl) ?_
          have fin : TrP n (Trust.mk 1 y.ns z.inn) := ⟨hy.2.2.2, hy.2.2.1.nd, hy.2.2.1.lt, hz1.2.2, Int.le_refl 1, by show (1 : Int) ≤ (y.ns.length : Int) + (z.inn.length : Int); omega⟩
          exact ⟨_, _, (rfl : _ = V.aggd (Trust.d (Trust.mk 1 y.ns z.inn))), rfl, Src.nx_ok' (Src.nx_ok' hz1.1 _) _, ((Src.nx_ok (Src.nx_ok' hz1.1 _) _).2.trans (Src.nx_ok hz1.1 _).2).trans hz1.2.1, fin⟩
        · skip
          refine zws ?_
          refine ztn ?_
          refine zsr ?_
          refine zc rfl (zld (n := 3) (zt rfl) zk rfl rfl rfl rfl ?_)
          refine zc rfl (zst (n := 3) (zt rfl) (zt rfl) rfl (.inl zk) rfl rfl (zbl rfl) ?_)
          refine zn0 ?_
          refine zwr ?_
          refine zpr [_] (res1 (ri_agg (n := 3) rfl rfl zk rfl)) (show _ = 1 from rfl) (l1 rfl) ?_
          have fin : TrP n (Trust.mk (((iRows y.ns).length + (z.inn.map Trust.enc).length + 1 : Int).tdiv 2 + z.s.n (((iRows y.ns).length + (z.inn.map Trust.enc).length : Int) - ((iRows y.ns).length + (z.inn.map Trust.enc).length + 1 : Int).tdiv 2 + 1)) y.ns z.inn) := ⟨hy.2.2.2, hy.2.2.1.nd, hy.2.2.1.lt, hz1.2.2, by show 1 ≤ Int.tdiv _ _ + _; omega, by show Int.tdiv _ _ + _ ≤ (y.ns.length : Int) + (z.inn.length : Int); omega⟩
          exact ⟨_, _, (rfl : _ = V.aggd (Trust.d (Trust.mk _ y.ns z.inn))), rfl, Src.nx_ok' (Src.nx_ok' hz1.1 _) _, ((Src.nx_ok (Src.nx_ok' hz1.1 _) _).2.trans (Src.nx_ok hz1.1 _).2).trans hz1.2.1, fin⟩

end Go.TQ
