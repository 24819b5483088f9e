/- Contracts of functions of the program, each for every input that its hypotheses let in; printed by a program of our own (s25). -/
import Derived.Test.YtmfiplnojbjcbaaGreatC24
set_option linter.unusedVariables false
set_option linter.unusedSimpArgs false
set_option maxRecDepth 10000
set_option maxHeartbeats 4000000
namespace Go.TQ
open Go.Proofs


def saneX : Sighting := Sighting.mk 0 0 (Letter.mk 2 1 Nom.zero (Env.mk 0 1 1 (Trust.mk 2 (upTo 3) []) 1 ⟨1, ⟨#[97]⟩⟩ ⟨0, ⟨#[]⟩⟩ ⟨0, ⟨#[]⟩⟩ 0 0))
theorem sane_no : stuckNo (filesL [saneX]) ⟨0, 1⟩ = false := by decide +kernel
theorem sane_sub : (subsS (othL (filesL [saneX]) ⟨0, 1⟩)).length ≤ 12 := by decide +kernel
theorem sane_val : (ownL (filesL [saneX]) ⟨0, 1⟩).1.b.v = ⟨#[97]⟩ := by decide +kernel
theorem sane_decl : Config.declared (viewL (filesL [saneX]) ⟨0, 1⟩) = 1 := by decide +kernel
theorem sane_0 : (elimF (viewL (filesL [saneX]) ⟨0, 1⟩) 11 0).1 = 0 := by decide +kernel
theorem sane_1 : (elimF (viewL (filesL [saneX]) ⟨0, 1⟩) 11 1).1 = 0 := by decide +kernel
theorem sane_el (s : Int) : (elim (viewL (filesL [saneX]) ⟨0, 1⟩) s).1 = 0 := by
  unfold elim
  split
  · rw [sane_decl]
    have : andI s 1 = 0 ∨ andI s 1 = 1 := by
      unfold andI
      rw [show (1 : Int).toNat = 1 from rfl, Nat.and_one_is_mod]; omega
    rcases this with h | h
    · rw [h, sane_0]
    · rw [h, sane_1]
  · rfl
theorem sane_fold (h : Int) : ∀ S : List Int, S.foldl (needStep (viewL (filesL [saneX]) ⟨0, 1⟩) h 0) [] = [] := by
  intro S
  induction S with
  | nil => rfl
  | cons n S ih =>
    rw [List.foldl_cons]
    have : needStep (viewL (filesL [saneX]) ⟨0, 1⟩) h 0 [] n = [] := by
      rw [needStep, sane_el]; simp [has_zero]
    rw [this]; exact ih
theorem sane_ok : ∀ x ∈ [saneX], x.l.env.trust.ok := by
  intro x hx
  rw [List.mem_singleton] at hx
  subst hx
  show (Trust.mk 2 (upTo 3) []).size ≤ 1000000000
  decide +kernel
theorem sane_is {f : Finding} {b : Bool} (h : StuckP (filesL [saneX]) ⟨0, 1⟩ f b) : b = true ∧ f.kind = 2 ∧ f.value = ⟨#[97]⟩ ∧ f.needs = [] := by
  obtain ⟨h1, _, _, h2, h3, S, _, h4⟩ := h.yes sane_no
  refine ⟨h1, h2, h3.trans sane_val, ?_⟩
  rw [sane_fold] at h4
  exact List.Perm.eq_nil h4
def Finding.eqR (x y : Finding) : Bool := !((((!decide (x.node = y.node) || !decide (x.slot = y.slot)) || !decide (x.kind = y.kind)) || !decide (x.value = y.value)) || !decide (x.needs = y.needs))
theorem Finding.eqR_iff (x y : Finding) : x.eqR y = true ↔ x = y := by
  cases x; cases y
  simp [Finding.eqR, and_assoc]

theorem c_sane  : ACalls Tryz.prog 12 [] [] fun dd bb => dd = VB true ∧ bb = [] := by
  refine zai Tryz.func12 rfl Tryz.ntmps12 (by rw [Tryz.results12]) rfl rfl (fun w0 A0 X => ?_)
  refine zsr ?_
  refine zc rfl (zas zb0 rfl ?_)
  refine zn0 ?_
  refine zsr ?_
  refine zc rfl (zcl zhf (hc (zi zdc) (hc (zi zdc) hz)) (rs := []) (bxs := []) zdc bz (c_Flat 3 2 (by first | assumption | omega | trivial | (simp; done) | (constructor <;> omega))) rfl rfl rfl (fun d b hd hl => ?_))
  obtain ⟨rfl, rfl⟩ := hd
  refine zc rfl (zbd (ps := [(_, _), (_, _)]) (qs := [(_, _), (_, _)]) (zs := [.dat (.int .i64 0), .dat (.str ⟨#[]⟩)]) (pl := [(0, 1), (1, 1)]) (pc (zi zdc) rfl (pc (has_str zdc) rfl pz)) zk zk rfl rfl ?_)
  refine zc rfl (zbd (ps := [(_, _), (_, _), (_, _), (_, _), (_, _)]) (qs := [(_, _), (_, _), (_, _), (_, _), (_, _)]) (zs := [.dat (.int .i64 0), .dat (.int .i64 0), .dat (.int .i64 0), .dat (.int .i64 0), .nilsl, .nilsl, .dat (.int .i64 0), .dat (.int .i64 0), .dat (.str ⟨#[]⟩), .dat (.int .i64 0), .dat (.str ⟨#[]⟩), .dat (.int .i64 0), .dat (.str ⟨#[]⟩), .dat (.int .i64 0), .dat (.int .i64 0)]) (pl := [(0, 1), (1, 1), (2, 1), (3, 3), (6, 1), (7, 2), (9, 2), (11, 2), (13, 1), (14, 1)]) (pc (zi zdc) rfl (pc (zi zdc) rfl (pc (zt rfl) rfl (pc (zi zdc) rfl (pc (zt rfl) rfl pz))))) zk zk rfl rfl ?_)
  refine zc rfl (zal (cs := [.dat (.int .i64 0), .dat (.int .i64 0), .dat (.int .i64 0), .dat (.int .i64 0), .nilsl, .nilsl, .dat (.int .i64 0), .dat (.int .i64 0), .dat (.str ⟨#[]⟩), .dat (.int .i64 0), .dat (.str ⟨#[]⟩), .dat (.int .i64 0), .dat (.str ⟨#[]⟩), .dat (.int .i64 0), .dat (.int .i64 0)]) zk rfl ?_)
  refine zc rfl (zst (n := 15) (zt rfl) (zt rfl) rfl (.inl zk) rfl rfl (zbl rfl) ?_)
  refine zn0 ?_
  refine zsr ?_
  refine zc rfl (zld (n := 15) (zt rfl) zk rfl rfl rfl rfl ?_)
  refine zc rfl (zbd (ps := [(_, _), (_, _), (_, _)]) (qs := [(_, _), (_, _), (_, _)]) (zs := [.dat (.int .i64 0), .dat (.int .i64 0), .dat (.int .i64 0), .dat (.int .i64 0), .dat (.int .i64 0), .nilsl, .nilsl, .nilsl, .nilsl, .dat (.int .i64 0), .dat (.int .i64 0), .dat (.int .i64 0), .dat (.int .i64 0), .nilsl, .nilsl, .dat (.int .i64 0), .dat (.int .i64 0), .dat (.str ⟨#[]⟩), .dat (.int .i64 0), .dat (.str ⟨#[]⟩), .dat (.int .i64 0), .dat (.str ⟨#[]⟩), .dat (.int .i64 0), .dat (.int .i64 0)]) (pl := [(0, 1), (1, 1), (2, 7), (9, 15)]) (pc (zi zdc) rfl (pc (zi zdc) rfl (pc (zt rfl) rfl pz))) zk zk rfl rfl ?_)
  refine zc rfl (zbd (ps := [(_, _)]) (qs := [(_, _)]) (zs := [.dat (.int .i64 0), .dat (.int .i64 0), .dat (.int .i64 0), .dat (.int .i64 0), .dat (.int .i64 0), .dat (.int .i64 0), .dat (.int .i64 0), .nilsl, .nilsl, .nilsl, .nilsl, .dat (.int .i64 0), .dat (.int .i64 0), .dat (.int .i64 0), .dat (.int .i64 0), .nilsl, .nilsl, .dat (.int .i64 0), .dat (.int .i64 0), .dat (.str ⟨#[]⟩), .dat (.int .i64 0), .dat (.str ⟨#[]⟩), .dat (.int .i64 0), .dat (.str ⟨#[]⟩), .dat (.int .i64 0), .dat (.int .i64 0)]) (pl := [(0, 1), (1, 1), (2, 24)]) (pc (zt rfl) rfl pz) zk zk rfl rfl ?_)
  refine zc rfl (zbs (e := 57) (ps := [(_, _)]) (qs := [(_, _)]) (n := 26) (rows := [[_, _, _, _, _, _, _, _, _, _, _, _, _, _, _, _, _, _, _, _, _, _, _, _, _, _]]) (pc (zt rfl) rfl pz) zk zdc ⟨[.dat (.int .i64 0), .dat (.int .i64 0), .dat (.int .i64 0), .dat (.int .i64 0), .dat (.int .i64 0), .dat (.int .i64 0), .dat (.int .i64 0), .nilsl, .nilsl, .nilsl, .nilsl, .dat (.int .i64 0), .dat (.int .i64 0), .dat (.int .i64 0), .dat (.int .i64 0), .nilsl, .nilsl, .dat (.int .i64 0), .dat (.int .i64 0), .dat (.str ⟨#[]⟩), .dat (.int .i64 0), .dat (.str ⟨#[]⟩), .dat (.int .i64 0), .dat (.str ⟨#[]⟩), .dat (.int .i64 0), .dat (.int .i64 0)], by kernel_rfl⟩ rfl rfl (by simp [Uni]) rfl zdc rfl ?_)
  refine zc rfl (zcl zhf (hc (zt rfl) (hc (zi zdc) (hc (zi zdc) hz))) (rs := []) (bxs := []) zdc bz (c_monitor_Stuck [saneX] 0 1 sane_ok (by first | assumption | omega | trivial | (simp; done) | (constructor <;> omega)) (fun _ => sane_sub)) rfl rfl rfl (fun d b hd hl => ?_))
  obtain ⟨f, b, rfl, rfl, hf⟩ := hd
  obtain ⟨hb1, hb2, hb3, hb4⟩ := sane_is hf
  refine zc rfl (zmv (zt rfl) rfl ?_)
  refine zc rfl (op_extract (zt rfl) rfl rfl ?_)
  refine zc rfl (op_extract (zt rfl) rfl rfl ?_)
  refine zc rfl (zal (cs := [.dat (.int .i64 0), .dat (.int .i64 0), .dat (.int .i64 0), .dat (.str ⟨#[]⟩), .nilsl]) zk rfl ?_)
  refine zc rfl (zst (n := 5) (zt rfl) (zt rfl) rfl (.inl zk) rfl rfl (zbl rfl) ?_)
  refine zc rfl (zas (zt rfl) rfl ?_)
  refine zn0 ?_
  refine awp_le (le_of (ls := [(2, .one (.ref (.o 2) 0)), (3, VB b)]) (bs := [(.o 2, [.dat (.int .i64 f.node), .dat (.int .i64 f.slot), .dat (.int .i64 f.kind), .dat (.str f.value), .dat (.sl (iRows f.needs))])]) (ts := []) (sc rfl (sc rfl sz)) (xc rfl xz) kz) ?_
  refine zsr ?_
  refine zc rfl (zmv (zt rfl) rfl ?_)
  refine zc rfl (zmv (zt rfl) rfl ?_)
  refine zg rfl rfl rfl rfl (zgb rfl) (fun hg => zfa (o := 2) (zt rfl) zk rfl rfl) ?_
  refine zg rfl rfl rfl rfl (zgb rfl) (fun hg => zl1 (zcd (zt rfl) hg) zk rfl rfl rfl rfl) ?_
  refine zg rfl rfl rfl rfl (zgb rfl) (fun hg => zcm (zcd (zt rfl) hg) (zi zdc) rfl rfl rfl) ?_
  refine zc rfl (zan (zt rfl) (zt rfl) (.inl zb0) rfl ?_)
  refine zc rfl (zmv (zt rfl) rfl ?_)
  refine zg rfl rfl rfl rfl (zgb rfl) (fun hg => zfa (o := 3) (zt rfl) zk rfl rfl) ?_
  refine zg rfl rfl rfl rfl (zgb rfl) (fun hg => zl1 (zcd (zt rfl) hg) zk rfl rfl rfl rfl) ?_
  refine zg rfl rfl rfl rfl (zgb rfl) (fun hg => op_cmp_str (zcd (zt rfl) hg) (has_str zdc) rfl rfl rfl) ?_
  refine zc rfl (zan (zt rfl) (zt rfl) (.inl zb0) rfl ?_)
  refine zc rfl (zmv (zt rfl) rfl ?_)
  refine zg rfl rfl rfl rfl (zgb rfl) (fun hg => zfa (o := 4) (zt rfl) zk rfl rfl) ?_
  refine zg rfl rfl rfl rfl (zgb rfl) (fun hg => zl1 (zcd (zt rfl) hg) zk rfl rfl rfl rfl) ?_
  refine zg rfl rfl rfl rfl (zgb rfl) (fun hg => zln (e := 3) (n := 1) (zcd (zt rfl) hg) rfl zk rfl (fun hl => rfl)) ?_
  refine zg rfl rfl rfl rfl (zgb rfl) (fun hg => zcm (zcd (zt rfl) hg) (zi zdc) rfl rfl rfl) ?_
  refine zc rfl (zan (zt rfl) (zt rfl) (.inl zb0) rfl ?_)
  refine zc rfl (zas (zt rfl) rfl ?_)
  refine zn0 ?_
  refine zwr ?_
  refine zpr [] (res1 (zrt rfl)) rfl lz ?_
  refine ⟨?_, rfl⟩
  show VB _ = VB true
  congr 3
  rw [hb1, hb2, hb3, hb4]
  rfl

theorem c_trustquorumref44_Findings (a b : List Finding) (ha : a.length ≤ 1000) (hb : b.length ≤ 1000) : ACalls Tryz.prog 23 [VR (a.map Finding.d), VR (b.map Finding.d)] [] fun dd bb => dd = VB (decide (a = b)) ∧ bb = [] := by
  refine zai Tryz.func23 rfl Tryz.ntmps23 (by rw [Tryz.results23]) rfl rfl (fun w0 A0 X => ?_)
  refine zsr ?_
  refine zc rfl (zas zb0 rfl ?_)
  refine zn0 ?_
  refine zw2 ?_
  refine zsr ?_
  refine zc rfl (zmv (zt rfl) rfl ?_)
  refine zc rfl (zln (e := 29) (n := 5) (zt rfl) rfl zk rfl (fun hl9 => ?_))
  try simp only [List.length_map] at hl9
  refine zc rfl (zmv (zt rfl) rfl ?_)
  refine zc rfl (zln (e := 29) (n := 5) (zt rfl) rfl zk rfl (fun hl11 => ?_))
  try simp only [List.length_map] at hl11
  refine zc rfl (zcm (zt rfl) (zt rfl) rfl rfl ?_)
  refine zn0 ?_
  refine zwc (zt rfl) (fun h1 => ?_) (fun h1 => ?_)
  · skip
    have g1 := h1
    try simp only [zbz, List.length_map] at g1
    refine zsr ?_
    refine zc rfl (zas zb0 rfl ?_)
    refine zn0 ?_
    refine zwr ?_
    refine ztr ?_
    refine zpr [] (res1 (zrt rfl)) rfl lz ?_
    have he : decide (a = b) = false := by rw [decide_eq_false_iff_not]; intro h; exact g1 (by rw [h])
    rw [he]
    exact ⟨rfl, rfl⟩
  · skip
    have g1 := h1
    try simp only [zbz, List.length_map] at g1
    have hll : a.length = b.length := by omega
    refine zws ?_
    refine ztn ?_
    refine zw2 ?_
    refine zsr ?_
    refine zc rfl (zmv (zt rfl) rfl ?_)
    refine zc rfl (zln (e := 29) (n := 5) (zt rfl) rfl zk rfl (fun hl14 => ?_))
    try simp only [List.length_map] at hl14
    refine zc rfl (zmv (zi zdc) rfl ?_)
    refine zn0 ?_
    refine zwb ?_
    refine zlp (fs := [(0, _), (1, _), (14, _)]) (fb := []) (fun (k : Nat) => [(15, VI ((k : Nat) : Int))]) (fun (k : Nat) => []) (fun (k : Nat) => []) (fun (k : Nat) => (k ≤ a.length) ∧ (a.take k = b.take k)) (fun (k : Nat) => a.length - k) 0 (le_of (sc rfl (sc rfl (sc rfl (sc rfl sz)))) xz kz) ?_ ?_
    · refine ⟨?_, ?_⟩
      · exact zen
      · rfl
    · intro k ⟨hk, hI⟩
      refine zsr ?_
      refine zc rfl (zcm (zt rfl) (zt rfl) rfl rfl ?_)
      refine zn0 ?_
      refine zw2 ?_
      refine zwc (zt rfl) (fun h2 => ?_) (fun h2 => ?_)
      · skip
        have g2 := h2
        try simp only [zbz, List.length_map] at g2
        have hkl : k < a.length := by omega
        have hkb : k < b.length := by omega
        refine zws ?_
        refine ztn ?_
        refine zw2 ?_
        refine zwb ?_
        refine zsr ?_
        refine zc rfl (zmv (zt rfl) rfl ?_)
        refine zc rfl (zas (zt rfl) rfl ?_)
        refine zn0 ?_
        refine awp_seq_drawT zk [.o 6, .o 7] [] [0, 0, 3, 7, 0, 0, 48, 112, 0, 0, 783, 2047] rfl
          (Trace.cons ⟨[(0, _)], [], [], [], [], [.slot 18 _]⟩ (prel (lsc rfl lsz) lbz ltz) (fun zs zp zn => (zgp rfl rfl (zmv (zt zp.1.1) rfl rfl))) <|
          Trace.cons ⟨[(5, _)], [], [], [], [], [.slot 19 _]⟩ (prel (lsc rfl lsz) lbz ltz) (fun zs zp zn => (zgp rfl rfl (zmv (zt zp.1.1) rfl rfl))) <|
          Trace.cons ⟨[(18, _), (19, _)], [], [], [], [], [.slot 20 _]⟩ (prel (lsc rfl (lsc rfl lsz)) lbz ltz) (fun zs zp zn => (zgp rfl rfl (op_indexAddr (e := 29) (n := 5) (zt zp.1.1) rfl (zt zp.1.2.1) zk zom (show (a.map Finding.d)[k]? = some (a[k]!.d) from (map_getD zom)) rfl rfl rfl))) <|
          Trace.cons ⟨[(20, _)], [], [], [], [], [.slot 21 _]⟩ (prel (lsc rfl lsz) lbz ltz) (fun zs zp zn => (zgp rfl rfl (op_load_imm (n := 5) (zt zp.1.1) zk rfl rfl rfl rfl))) <|
          Trace.cons ⟨[(1, _)], [], [], [], [], [.slot 22 _]⟩ (prel (lsc rfl lsz) lbz ltz) (fun zs zp zn => (zgp rfl rfl (zmv (zt zp.1.1) rfl rfl))) <|
          Trace.cons ⟨[(5, _)], [], [], [], [], [.slot 23 _]⟩ (prel (lsc rfl lsz) lbz ltz) (fun zs zp zn => (zgp rfl rfl (zmv (zt zp.1.1) rfl rfl))) <|
          Trace.cons ⟨[(22, _), (23, _)], [], [], [], [], [.slot 24 _]⟩ (prel (lsc rfl (lsc rfl lsz)) lbz ltz) (fun zs zp zn => (zgp rfl rfl (op_indexAddr (e := 29) (n := 5) (zt zp.1.1) rfl (zt zp.1.2.1) zk zom (show (b.map Finding.d)[k]? = some (b[k]!.d) from (map_getD zom)) rfl rfl rfl))) <|
          Trace.cons ⟨[(24, _)], [], [], [], [], [.slot 25 _]⟩ (prel (lsc rfl lsz) lbz ltz) (fun zs zp zn => (zgp rfl rfl (op_load_imm (n := 5) (zt zp.1.1) zk rfl rfl rfl rfl))) <|
          Trace.cons ⟨[], [], [], [.o 6], [], [.box (.o 6) _, .slot 6 _]⟩ (prel lsz lbz ltz) (fun zs zp zn => (zgp rfl rfl (op_allocF (cs := [.dat (.int .i64 0), .dat (.int .i64 0), .dat (.int .i64 0), .dat (.str ⟨#[]⟩), .nilsl]) zk rfl zn.1.1 rfl rfl))) <|
          Trace.cons ⟨[], [], [], [.o 7], [], [.box (.o 7) _, .slot 7 _]⟩ (prel lsz lbz ltz) (fun zs zp zn => (zgp rfl rfl (op_allocF (cs := [.dat (.int .i64 0), .dat (.int .i64 0), .dat (.int .i64 0), .dat (.str ⟨#[]⟩), .nilsl]) zk rfl zn.1.1 rfl rfl))) <|
          Trace.cons ⟨[(6, _), (21, _)], [(.o 6, _)], [], [], [], [.box (.o 6) _]⟩ (prel (lsc rfl (lsc rfl lsz)) (lbc rfl lbz) ltz) (fun zs zp zn => (zgp rfl rfl (zst (n := 5) (zt zp.1.1) (zt zp.1.2.1) rfl (.inl zk) rfl zp.2.1.1 (zbl rfl) rfl))) <|
          Trace.cons ⟨[(7, _), (25, _)], [(.o 7, _)], [], [], [], [.box (.o 7) _]⟩ (prel (lsc rfl (lsc rfl lsz)) (lbc rfl lbz) ltz) (fun zs zp zn => (zgp rfl rfl (zst (n := 5) (zt zp.1.1) (zt zp.1.2.1) rfl (.inl zk) rfl zp.2.1.1 (zbl rfl) rfl))) <|
          Trace.nil) rfl rfl rfl ?_
        refine awp_le (le_of (ls := [(0, VR (a.map Finding.d)), (1, VR (b.map Finding.d)), (6, .one (.ref (.o 6) 0)), (7, .one (.ref (.o 7) 0)), (14, VI ((a.map Finding.d).length : Int)), (15, VI ((k : Nat) : Int))]) (bs := [(.o 6, [.dat (.int .i64 a[k]!.node), .dat (.int .i64 a[k]!.slot), .dat (.int .i64 a[k]!.kind), .dat (.str a[k]!.value), .dat (.sl (iRows a[k]!.needs))]), (.o 7, [.dat (.int .i64 b[k]!.node), .dat (.int .i64 b[k]!.slot), .dat (.int .i64 b[k]!.kind), .dat (.str b[k]!.value), .dat (.sl (iRows b[k]!.needs))])]) (ts := []) (sc rfl (sc rfl (sc rfl (sc rfl (sc rfl (sc rfl sz)))))) (xc rfl (xc rfl xz)) kz) ?_
        refine zsr ?_
        refine zc rfl (zfa (o := 0) (zt rfl) zk rfl ?_)
        refine zc rfl (zl1 (zt rfl) zk rfl rfl rfl ?_)
        refine zc rfl (zfa (o := 0) (zt rfl) zk rfl ?_)
        refine zc rfl (zl1 (zt rfl) zk rfl rfl rfl ?_)
        refine zc rfl (zcm (zt rfl) (zt rfl) rfl rfl ?_)
        refine zc rfl (zmv (zt rfl) rfl ?_)
        refine zg rfl rfl rfl rfl (zgb rfl) (fun hg => zfa (o := 1) (zt rfl) zk rfl rfl) ?_
        refine zg rfl rfl rfl rfl (zgb rfl) (fun hg => zl1 (zcd (zt rfl) hg) zk rfl rfl rfl rfl) ?_
        refine zg rfl rfl rfl rfl (zgb rfl) (fun hg => zfa (o := 1) (zt rfl) zk rfl rfl) ?_
        refine zg rfl rfl rfl rfl (zgb rfl) (fun hg => zl1 (zcd (zt rfl) hg) zk rfl rfl rfl rfl) ?_
        refine zg rfl rfl rfl rfl (zgb rfl) (fun hg => zcm (zcd (zt rfl) hg) (zcd (zt rfl) hg) rfl rfl rfl) ?_
        refine zc rfl (zor (zt rfl) (.inl zb0) (zt rfl) rfl ?_)
        refine zc rfl (zmv (zt rfl) rfl ?_)
        refine zg rfl rfl rfl rfl (zgb rfl) (fun hg => zfa (o := 2) (zt rfl) zk rfl rfl) ?_
        refine zg rfl rfl rfl rfl (zgb rfl) (fun hg => zl1 (zcd (zt rfl) hg) zk rfl rfl rfl rfl) ?_
        refine zg rfl rfl rfl rfl (zgb rfl) (fun hg => zfa (o := 2) (zt rfl) zk rfl rfl) ?_
        refine zg rfl rfl rfl rfl (zgb rfl) (fun hg => zl1 (zcd (zt rfl) hg) zk rfl rfl rfl rfl) ?_
        refine zg rfl rfl rfl rfl (zgb rfl) (fun hg => zcm (zcd (zt rfl) hg) (zcd (zt rfl) hg) rfl rfl rfl) ?_
        refine zc rfl (zor (zt rfl) (.inl zb0) (zt rfl) rfl ?_)
        refine zc rfl (zmv (zt rfl) rfl ?_)
        refine zg rfl rfl rfl rfl (zgb rfl) (fun hg => zfa (o := 3) (zt rfl) zk rfl rfl) ?_
        refine zg rfl rfl rfl rfl (zgb rfl) (fun hg => zl1 (zcd (zt rfl) hg) zk rfl rfl rfl rfl) ?_
        refine zg rfl rfl rfl rfl (zgb rfl) (fun hg => zfa (o := 3) (zt rfl) zk rfl rfl) ?_
        refine zg rfl rfl rfl rfl (zgb rfl) (fun hg => zl1 (zcd (zt rfl) hg) zk rfl rfl rfl rfl) ?_
        refine zg rfl rfl rfl rfl (zgb rfl) (fun hg => op_cmp_str (zcd (zt rfl) hg) (zcd (zt rfl) hg) rfl rfl rfl) ?_
        refine zc rfl (zor (zt rfl) (.inl zb0) (zt rfl) rfl ?_)
        refine zc rfl (zmv (zt rfl) rfl ?_)
        refine zg rfl rfl rfl rfl (zgb rfl) (fun hg => zfa (o := 4) (zt rfl) zk rfl rfl) ?_
        refine zg rfl rfl rfl rfl (zgb rfl) (fun hg => zl1 (zcd (zt rfl) hg) zk rfl rfl rfl rfl) ?_
        refine zg rfl rfl rfl rfl (zgb rfl) (fun hg => zfa (o := 4) (zt rfl) zk rfl rfl) ?_
        refine zg rfl rfl rfl rfl (zgb rfl) (fun hg => zl1 (zcd (zt rfl) hg) zk rfl rfl rfl rfl) ?_
        refine zg rfl rfl rfl rfl (zgb rfl) (fun hg => zcl zhf (hc (zcd (zt rfl) hg) (hc (zcd (zt rfl) hg) hz)) (rs := []) (bxs := []) zdc bz (c_trustquorumref31_Ints a[k]!.needs b[k]!.needs) rfl rfl rfl (fun d b hd hl => by obtain ⟨rfl, rfl⟩ := hd; rfl)) ?_
        refine zg rfl rfl rfl rfl (zgb rfl) (fun hg => op_not (zcd (zt rfl) hg) rfl rfl) ?_
        refine zc rfl (zor (zt rfl) (.inl zb0) (zt rfl) rfl ?_)
        refine zn0 ?_
        refine awp_le (le_of (ls := [(0, VR (a.map Finding.d)), (1, VR (b.map Finding.d)), (14, VI ((a.map Finding.d).length : Int)), (15, VI ((k : Nat) : Int)), (59, VB (((((!decide (a[k]!.node = b[k]!.node)) || (!decide (a[k]!.slot = b[k]!.slot))) || (!decide (a[k]!.kind = b[k]!.kind))) || (!decide (a[k]!.value = b[k]!.value))) || (!(decide (a[k]!.needs = b[k]!.needs)))))]) (bs := []) (ts := []) (sc rfl (sc rfl (sc rfl (sc rfl (sc rfl sz))))) xz kz) ?_
        refine zwc (zt rfl) (fun h3 => ?_) (fun h3 => ?_)
        · skip
          have hne : a[k]! ≠ b[k]! := fun h => by have h3 : (!(a[k]!.eqR b[k]!)) = true := (by rw [Finding.eqR, Bool.not_not]; exact h3); rw [(Finding.eqR_iff _ _).2 h] at h3; cases h3
          refine zsr ?_
          refine zc rfl (zas zb0 rfl ?_)
          refine zn0 ?_
          refine zwr ?_
          refine blk_ret ?_
          refine ztr ?_
          refine ztr ?_
          refine blk_ret ?_
          refine ztr ?_
          refine zpr [] (res1 (zrt rfl)) rfl lz ?_
          have he : decide (a = b) = false := by rw [decide_eq_false_iff_not]; intro h; exact hne (by rw [h])
          rw [he]
          exact ⟨rfl, rfl⟩
        · skip
          have heq : a[k]! = b[k]! := (Finding.eqR_iff _ _).1 (by have h3 : (!(a[k]!.eqR b[k]!)) = false := (by rw [Finding.eqR, Bool.not_not]; exact h3); simpa using h3)
          refine zws ?_
          refine zbn ?_
          refine ztn ?_
          refine zre ?_
          refine zc rfl (zar (zt rfl) (zi zdc) rfl (ink64 zom zom) rfl ?_)
          refine zc rfl (zmv (zt rfl) rfl ?_)
          refine zn0 ?_
          refine ztn ?_
          refine ⟨k + 1, ?_, ?_, (le_of (sc rfl (sc rfl (sc rfl (sc rfl sz)))) xz kz)⟩
          · refine ⟨?_, ?_⟩
            · exact zen
            · rw [List.take_succ_eq_append_getElem hkl, List.take_succ_eq_append_getElem hkb, hI]; congr 2; rw [← getElem!_pos a k hkl, ← getElem!_pos b k hkb]; exact heq
          · first | omega | (simp at *; omega)
      · skip
        have g2 := h2
        try simp only [zbz, List.length_map] at g2
        obtain rfl : k = a.length := by omega
        refine zwe ?_
        refine zte ?_
        refine zte ?_
        refine zbk ?_
        refine ztn ?_
        refine zsr ?_
        refine zc rfl (zas zb0 rfl ?_)
        refine zn0 ?_
        refine zwr ?_
        refine zpr [] (res1 (zrt rfl)) rfl lz ?_
        have he : decide (a = b) = true := by rw [decide_eq_true_eq]; rw [List.take_length, hll, List.take_length] at hI; exact hI
        rw [he]
        exact ⟨rfl, rfl⟩

end Go.TQ
