/- Contracts of functions of the program, each for every input that its hypotheses let in; printed by a program of our own (s20). -/
import Derived.Test.YtmfiplnojbjcbaaGreatP04
set_option linter.unusedVariables false
set_option linter.unusedSimpArgs false
set_option maxRecDepth 10000
set_option maxHeartbeats 4000000
namespace Go.TQ
open Go.Proofs


def Member.zero : Member := ⟨false, Trust.zero⟩
structure Seen where
  node : Int
  view : List Member
  heard : List Env
  deriving Inhabited
def Seen.d (s : Seen) : List Dat := [.int .i64 s.node, .sl (s.view.map Member.d), .sl (s.heard.map Env.d)]
def viewStep (c : List Member) (e : Env) : List Member := if (e.validR && !(c[e.node.toNat]!).declared) = true then c.set e.node.toNat ⟨true, e.trust⟩ else c
def viewB (node : Int) (t : Trust) : List Member := (List.replicate 10 Member.zero).set node.toNat ⟨true, t⟩
def viewC (node : Int) (t : Trust) (l : List Env) : List Member := if (decide (node < 0) || decide (10 ≤ node)) = true then List.replicate 10 Member.zero else l.foldl viewStep (viewB node t)
theorem viewStep_len (c : List Member) (e : Env) : (viewStep c e).length = c.length := by unfold viewStep; split <;> simp
theorem fold_take {α β : Type} [Inhabited α] (f : β → α → β) (b : β) {l : List α} {k : Nat} (h : k < l.length) : (l.take (k + 1)).foldl f b = f ((l.take k).foldl f b) l[k]! := by
  rw [List.take_succ_eq_append_getElem h, List.foldl_append, getElem!_pos l k h]; rfl
theorem view_len {node : Int} {t : Trust} : ∀ (l : List Env), (l.foldl viewStep (viewB node t)).length = 10 := by
  intro l
  have : ∀ (l : List Env) (c : List Member), c.length = 10 → (l.foldl viewStep c).length = 10 := by
    intro l; induction l with
    | nil => exact fun c h => h
    | cons e l ih => exact fun c h => ih _ ((viewStep_len c e).trans h)
  exact this l _ (by simp [viewB])

theorem c_prepare_View (node : Int) (trust : Trust) (l : List Env) (hok : ∀ e ∈ l, e.trust.ok) (ht : trust.ok) : ACalls Tryz.prog 91 [VI node, .aggd trust.d, VR (l.map Env.d)] [] fun dd bb => dd = .aggd (Config.d (viewC node trust l)) ∧ bb = [] := by
  refine zai Tryz.func91 rfl Tryz.ntmps91 (by rw [Tryz.results91]) rfl rfl (fun w0 A0 X => ?_)
  refine zsr ?_
  refine zc rfl (zbx (zt rfl) rfl rfl ?_)
  refine zc rfl (zal (cs := [.nilsl]) zk rfl ?_)
  refine zn0 ?_
  refine zsr ?_
  refine zc rfl (op_makeSlice (e := 81) (k := 4) (b := 64) (n := 10) (zs := [.dat (.bool false), .dat (.int .i64 0), .nilsl, .nilsl]) (zrow := [(.bool false), (.int .i64 0), (.sl (iRows [])), (.sl ([].map Trust.enc))]) (zi zdc) (zi zdc) zk zk rfl zom zom rfl ?_)
  refine aops_le (le_bxeq (r := .o 10) (cs' := bsC ((List.replicate 10 Member.zero).map Member.d).flatten 0) rfl rfl) ?_
  refine zc rfl (zbd (ps := [(_, _)]) (qs := [(_, _)]) (zs := [.nilsl]) (pl := [(0, 1)]) (pc (zt rfl) rfl pz) zk zk rfl rfl ?_)
  refine zc rfl (zal (cs := [.nilsl]) zk rfl ?_)
  refine zc rfl (zst (n := 1) (zt rfl) (zt rfl) rfl (.inl zk) rfl rfl (zbl rfl) ?_)
  refine zn0 ?_
  refine zw2 ?_
  refine zsr ?_
  refine zc rfl (zmv (zt rfl) rfl ?_)
  refine zc rfl (zcm (zt rfl) (zi zdc) rfl rfl ?_)
  refine zc rfl (zmv (zt rfl) rfl ?_)
  refine zg rfl rfl rfl rfl (zgb rfl) (fun hg => zmv (zt rfl) rfl rfl) ?_
  refine zg rfl rfl rfl rfl (zgb rfl) (fun hg => zcm (zcd (zt rfl) hg) (zi zdc) rfl rfl rfl) ?_
  refine zc rfl (zor (zt rfl) (.inl zb0) (zt rfl) rfl ?_)
  refine zn0 ?_
  refine zwc (zt rfl) (fun h1 => ?_) (fun h1 => ?_)
  · skip
    have g1 := h1
    try simp only [zbz, List.length_map] at g1
    have hn : ¬ (0 ≤ node ∧ node ≤ 9) := by omega
    have he : viewC node trust l = List.replicate 10 Member.zero := by rw [viewC, if_pos (by simp; omega)]
    refine zsr ?_
    refine zc rfl (zld (n := 1) (zt rfl) zk rfl rfl rfl rfl ?_)
    refine zc rfl (zst (n := 1) (zt rfl) (zt rfl) rfl (.inl zk) rfl rfl (zbl rfl) ?_)
    refine zn0 ?_
    refine awp_le (le_of (ls := [(6, .one (.ref (.o 6) 0))]) (bs := [(.o 6, [.bs (.o 10) 4 10 10]), (.o 10, bsC ((List.replicate 10 Member.zero).map Member.d).flatten 0)]) (ts := []) (sc rfl sz) (xc rfl (xc (bx_eq rfl (by simp only [bsC_scrub, bsC_unq])) xz)) kz) ?_
    refine awp_le (le_freeze (u := 10) (k := 4) (p := 0) (rows := (List.replicate 10 Member.zero).map Member.d) rfl (uni_map (f := Member.d) (n := 4) (fun _ => rfl) _) zdc) ?_
    refine awp_le (le_bxeq (r := .o 6) (cs' := [.dat (.sl ((List.replicate 10 Member.zero).map Member.d))]) rfl (by first | (simp [C.freeze, Ref.beq]; done) | simp [C.freeze, Ref.beq, hcl])) ?_
    refine zwr ?_
    refine ztr ?_
    refine zpr [] (res1 (ri_agg (n := 1) rfl rfl zk rfl)) rfl lz ?_
    rw [he]
    exact ⟨rfl, rfl⟩
  · skip
    have g1 := h1
    try simp only [zbz, List.length_map] at g1
    have hn : 0 ≤ node ∧ node ≤ 9 := by omega
    have he : viewC node trust l = l.foldl viewStep (viewB node trust) := by rw [viewC, if_neg (by simp; omega)]
    refine zws ?_
    refine ztn ?_
    refine awp_le (le_bxeq (r := .o 10) (cs' := bsC ((List.replicate 10 Member.zero).map Member.d).flatten 0) rfl (by simp only [bsC_scrub, bsC_unq])) ?_
    refine awp_seq_drawT zk [] [] [0, 1, 0, 0, 8, 24, 63, 127] rfl
      (Trace.cons ⟨[(7, _)], [], [], [], [], [.slot 19 _]⟩ (prel (lsc rfl lsz) lbz ltz) (fun zs zp zn => (zgp rfl rfl (zfa (o := 0) (zt zp.1.1) zk rfl rfl))) <|
      Trace.cons ⟨[(19, _)], [(.o 7, _)], [], [], [], [.slot 20 _]⟩ (prel (lsc rfl lsz) (lbc rfl lbz) ltz) (fun zs zp zn => (zgp rfl rfl (zl1 (zt zp.1.1) zk zp.2.1.1 rfl rfl rfl))) <|
      Trace.cons ⟨[(0, _)], [], [], [], [], [.slot 21 _]⟩ (prel (lsc rfl lsz) lbz ltz) (fun zs zp zn => (zgp rfl rfl (zmv (zt zp.1.1) rfl rfl))) <|
      Trace.cons ⟨[(4, _)], [(.o 4, _)], [], [], [], [.slot 22 _]⟩ (prel (lsc rfl lsz) (lbc rfl lbz) ltz) (fun zs zp zn => (zgp rfl rfl (zld (n := 3) (zt zp.1.1) zk zp.2.1.1 rfl rfl rfl rfl))) <|
      Trace.cons ⟨[(22, _)], [], [], [], [], [.slot 23 _]⟩ (prel (lsc rfl lsz) lbz ltz) (fun zs zp zn => (zgp rfl rfl (zcl zhf (hc (zt zp.1.1) hz) (rs := []) (bxs := []) zdc bz (c_copies_Trust trust ht) rfl rfl rfl (fun d b hd hl => by obtain ⟨rfl, rfl⟩ := hd; rfl)))) <|
      Trace.cons ⟨[(23, _)], [], [], [], [], [.slot 24 _]⟩ (prel (lsc rfl lsz) lbz ltz) (fun zs zp zn => (zgp rfl rfl (zbd (ps := [(_, _), (_, _)]) (qs := [(_, _), (_, _)]) (zs := [.dat (.bool false), .dat (.int .i64 0), .nilsl, .nilsl]) (pl := [(0, 1), (1, 3)]) (pc zb0 rfl (pc (zt zp.1.1) rfl pz)) zk zk rfl rfl rfl))) <|
      Trace.cons ⟨[(20, _), (21, _)], [], [], [], [], [.slot 25 _]⟩ (prel (lsc rfl (lsc rfl lsz)) lbz ltz) (fun zs zp zn => (zgp rfl rfl (op_indexAddr_box (e := 81) (kk := 4) (zt zp.1.1) (zt zp.1.2.1) zk zom zom rfl rfl))) <|
      Trace.cons ⟨[(25, _), (24, _)], [(.o 10, _)], [], [], [], [.box (.o 10) _]⟩ (prel (lsc rfl (lsc rfl lsz)) (lbc rfl lbz) ltz) (fun zs zp zn => (zgp rfl rfl (op_storeRowM (k := 4) (i := node.toNat) (z := (Member.mk true trust)) (l := (List.replicate 10 Member.zero)) (f := Member.d) (zt zp.1.1) zp.2.1.1 (uni_map (f := Member.d) (n := 4) (fun _ => rfl) _) zom (by first | omega | (simp only [List.length_set]; omega) | (simp; omega)) (zt zp.1.2.1) rfl rfl rfl (.inl zk) rfl))) <|
      Trace.nil) rfl rfl rfl ?_
    refine awp_le (le_of (ls := [(2, VR (l.map Env.d)), (6, .one (.ref (.o 6) 0)), (7, .one (.ref (.o 7) 0))]) (bs := [(.o 6, [.nilsl]), (.o 10, bsC (((List.replicate 10 Member.zero).set (node.toNat) (Member.mk true trust)).map Member.d).flatten 0), (.o 7, [.bs (.o 10) 4 10 10])]) (ts := []) (sc rfl (sc rfl (sc rfl sz))) (xc rfl (xc rfl (xc rfl xz))) kz) ?_
    refine zw2 ?_
    refine zsr ?_
    refine zc rfl (zmv (zt rfl) rfl ?_)
    refine zc rfl (zln (e := 38) (n := 15) (zt rfl) rfl zk rfl (fun hl27 => ?_))
    try simp only [List.length_map] at hl27
    refine zc rfl (zmv (zi zdc) rfl ?_)
    refine zn0 ?_
    refine zwb ?_
    refine awp_loop2 (fs := [(6, _), (7, _), (26, _), (27, _)]) (fb := [(.o 6, _), (.o 7, _)]) (fun (k : Nat) (c : List Member) => [(28, VI ((k : Nat) : Int))]) (fun (k : Nat) (c : List Member) => [(.o 10, bsC (c.map Member.d).flatten 0)]) (fun (k : Nat) (c : List Member) => []) (fun (k : Nat) (c : List Member) => (k ≤ l.length) ∧ (c = (l.take k).foldl viewStep (viewB node trust)) ∧ (c.length = 10)) (fun (k : Nat) (c : List Member) => l.length - k) 0 ((List.replicate 10 Member.zero).set (node.toNat) (Member.mk true trust)) (le_of (sc rfl (sc rfl (sc rfl (sc rfl (sc rfl sz))))) (xc rfl (xc rfl (xc rfl xz))) kz) ?_ ?_
    · refine ⟨?_, ?_, ?_⟩
      · exact zen
      · rfl
      · simp
    · intro k c ⟨hk, hcv, hcl⟩
      refine zsr ?_
      refine zc rfl (zcm (zt rfl) (zt rfl) rfl rfl ?_)
      refine zn0 ?_
      refine zw2 ?_
      refine zwc (zt rfl) (fun h2 => ?_) (fun h2 => ?_)
      · skip
        have g2 := h2
        try simp only [zbz, List.length_map] at g2
        have hkl : k < l.length := by omega
        have hvn := @valid_node l[k]!
        refine zws ?_
        refine ztn ?_
        refine zw2 ?_
        refine zwb ?_
        refine zsr ?_
        refine zc rfl (op_indexAddr (e := 38) (n := 15) (zt rfl) rfl (zt rfl) zk zom (show (l.map Env.d)[k]? = some (l[k]!.d) from (map_getD zom)) rfl rfl ?_)
        refine zc rfl (op_load_imm (n := 15) (zt rfl) zk rfl rfl rfl ?_)
        refine zc rfl (zal (cs := [.dat (.int .i64 0), .dat (.int .i64 0), .dat (.int .i64 0), .dat (.int .i64 0), .nilsl, .nilsl, .dat (.int .i64 0), .dat (.int .i64 0), .dat (.str ⟨#[]⟩), .dat (.int .i64 0), .dat (.str ⟨#[]⟩), .dat (.int .i64 0), .dat (.str ⟨#[]⟩), .dat (.int .i64 0), .dat (.int .i64 0)]) zk rfl ?_)
        refine zc rfl (zst (n := 15) (zt rfl) (zt rfl) rfl (.inl zk) rfl rfl (zbl rfl) ?_)
        refine zn0 ?_
        refine zsr ?_
        refine zc rfl (zld (n := 15) (zt rfl) zk rfl rfl rfl rfl ?_)
        refine zc rfl (zcl zhf (hc (zt rfl) hz) (rs := []) (bxs := []) zdc bz (c_envelopes_Valid l[k]! (hok _ (mem_at hkl))) rfl rfl rfl (fun d b hd hl => ?_))
        obtain ⟨rfl, rfl⟩ := hd
        have hvb := fun (h : l[k]!.validP = true) => hvn (by rw [← validP_eq]; exact h)
        refine zc rfl (zmv (zt rfl) rfl ?_)
        refine zg rfl rfl rfl rfl (zgb rfl) (fun hg => zfa (o := 0) (zt rfl) zk rfl rfl) ?_
        refine zg rfl rfl rfl rfl (zgb rfl) (fun hg => zl1 (zcd (zt rfl) hg) zk rfl rfl rfl rfl) ?_
        refine zg rfl rfl rfl rfl (zgb rfl) (fun hg => zfa (o := 0) (zt rfl) zk rfl rfl) ?_
        refine zg rfl rfl rfl rfl (zgb rfl) (fun hg => zl1 (zcd (zt rfl) hg) zk rfl rfl rfl rfl) ?_
        refine zg rfl rfl rfl rfl (zgb rfl) (fun hg => op_indexAddr_box (e := 81) (kk := 4) (zcd (zt rfl) hg) (zcd (zt rfl) hg) zk (by first | omega | (simp only [zbz, List.length_map, cond_true, cond_false] at hg; omega) | (have hgf := hvb (by simpa using hg); omega) | exact Int.natCast_nonneg _ | (simp only [List.length_map] at *; omega) | (simp only [List.length_map]; omega)) (by first | omega | (simp only [zbz, List.length_map, cond_true, cond_false] at hg; omega) | (have hgf := hvb (by simpa using hg); omega) | exact Int.natCast_nonneg _ | (simp only [List.length_map] at *; omega) | (simp only [List.length_map]; omega)) rfl rfl) ?_
        refine zg rfl rfl rfl rfl (zgb rfl) (fun hg => zfa (o := 0) (zcd (zt rfl) hg) zk rfl rfl) ?_
        refine aops_le (le_bxeq (r := .o 10) (cs' := bsC (c.map Member.d).flatten 0) rfl (by simp only [bsC_scrub, bsC_unq])) ?_
        refine zg rfl rfl rfl rfl (zgb rfl) (fun hg => op_loadRowF (k := 4) (i := l[k]!.node.toNat) (j := 0) (zcd (zt rfl) hg) rfl (uni_map (f := Member.d) (n := 4) (fun _ => rfl) _) (by first | omega | (simp only [zbz, List.length_map, cond_true, cond_false] at hg; omega) | (have hgf := hvb (by simpa using hg); omega) | exact Int.natCast_nonneg _ | (simp only [List.length_map] at *; omega) | (simp only [List.length_map]; omega)) (show (c.map Member.d)[l[k]!.node.toNat]? = some (c[l[k]!.node.toNat]!.d) from map_getD (by first | omega | (simp only [zbz, List.length_map, cond_true, cond_false] at hg; omega) | (have hgf := hvb (by simpa using hg); omega) | exact Int.natCast_nonneg _ | (simp only [List.length_map] at *; omega) | (simp only [List.length_map]; omega))) rfl zk rfl rfl) ?_
        refine zg rfl rfl rfl rfl (zgb rfl) (fun hg => op_not (zcd (zt rfl) hg) rfl rfl) ?_
        refine zc rfl (zan (zt rfl) (zt rfl) (.inl zb0) rfl ?_)
        refine zn0 ?_
        refine zwc (zt rfl) (fun h3 => ?_) (fun h3 => ?_)
        · skip
          have g4 : (l[k]!.validR && !(c[l[k]!.node.toNat]!).declared) = true := by rw [← validP_eq]; exact h3
          have hvn := hvn (by simp only [Bool.and_eq_true] at g4; exact g4.1)
          refine awp_drawT zk [] [] [0, 1, 0, 4, 0, 16, 48, 112, 255, 511] rfl
            (Trace.cons ⟨[(7, _)], [], [], [], [], [.slot 44 _]⟩ (prel (lsc rfl lsz) lbz ltz) (fun zs zp zn => (zgp rfl rfl (zfa (o := 0) (zt zp.1.1) zk rfl rfl))) <|
            Trace.cons ⟨[(44, _)], [(.o 7, _)], [], [], [], [.slot 45 _]⟩ (prel (lsc rfl lsz) (lbc rfl lbz) ltz) (fun zs zp zn => (zgp rfl rfl (zl1 (zt zp.1.1) zk zp.2.1.1 rfl rfl rfl))) <|
            Trace.cons ⟨[(9, _)], [], [], [], [], [.slot 46 _]⟩ (prel (lsc rfl lsz) lbz ltz) (fun zs zp zn => (zgp rfl rfl (zfa (o := 0) (zt zp.1.1) zk rfl rfl))) <|
            Trace.cons ⟨[(46, _)], [(.o 9, _)], [], [], [], [.slot 47 _]⟩ (prel (lsc rfl lsz) (lbc rfl lbz) ltz) (fun zs zp zn => (zgp rfl rfl (zl1 (zt zp.1.1) zk zp.2.1.1 rfl rfl rfl))) <|
            Trace.cons ⟨[(9, _)], [], [], [], [], [.slot 48 _]⟩ (prel (lsc rfl lsz) lbz ltz) (fun zs zp zn => (zgp rfl rfl (zfa (o := 3) (zt zp.1.1) zk rfl rfl))) <|
            Trace.cons ⟨[(48, _)], [(.o 9, _)], [], [], [], [.slot 49 _]⟩ (prel (lsc rfl lsz) (lbc rfl lbz) ltz) (fun zs zp zn => (zgp rfl rfl (zld (n := 3) (zt zp.1.1) zk zp.2.1.1 rfl rfl rfl rfl))) <|
            Trace.cons ⟨[(49, _)], [], [], [], [], [.slot 50 _]⟩ (prel (lsc rfl lsz) lbz ltz) (fun zs zp zn => (zgp rfl rfl (zcl zhf (hc (zt zp.1.1) hz) (rs := []) (bxs := []) zdc bz (c_copies_Trust l[k]!.trust (hok _ (mem_at hkl))) rfl rfl rfl (fun d b hd hl => by obtain ⟨rfl, rfl⟩ := hd; rfl)))) <|
            Trace.cons ⟨[(50, _)], [], [], [], [], [.slot 51 _]⟩ (prel (lsc rfl lsz) lbz ltz) (fun zs zp zn => (zgp rfl rfl (zbd (ps := [(_, _), (_, _)]) (qs := [(_, _), (_, _)]) (zs := [.dat (.bool false), .dat (.int .i64 0), .nilsl, .nilsl]) (pl := [(0, 1), (1, 3)]) (pc zb0 rfl (pc (zt zp.1.1) rfl pz)) zk zk rfl rfl rfl))) <|
            Trace.cons ⟨[(45, _), (47, _)], [], [], [], [], [.slot 52 _]⟩ (prel (lsc rfl (lsc rfl lsz)) lbz ltz) (fun zs zp zn => (zgp rfl rfl (op_indexAddr_box (e := 81) (kk := 4) (zt zp.1.1) (zt zp.1.2.1) zk zom zom rfl rfl))) <|
            Trace.cons ⟨[(52, _), (51, _)], [(.o 10, _)], [], [], [], [.box (.o 10) _]⟩ (prel (lsc rfl (lsc rfl lsz)) (lbc rfl lbz) ltz) (fun zs zp zn => (zgp rfl rfl (op_storeRowM (k := 4) (i := l[k]!.node.toNat) (z := (Member.mk true l[k]!.trust)) (l := c) (f := Member.d) (zt zp.1.1) zp.2.1.1 (uni_map (f := Member.d) (n := 4) (fun _ => rfl) _) zom (by first | omega | (simp only [List.length_set]; omega) | (simp; omega)) (zt zp.1.2.1) rfl rfl rfl (.inl zk) rfl))) <|
            Trace.nil) rfl rfl rfl ?_
          refine zbn ?_
          refine ztn ?_
          refine zre ?_
          refine zc rfl (zar (zt rfl) (zi zdc) rfl (ink64 zom zom) rfl ?_)
          refine zc rfl (zmv (zt rfl) rfl ?_)
          refine zn0 ?_
          refine ztn ?_
          refine ⟨k + 1, (c.set (l[k]!.node.toNat) (Member.mk true l[k]!.trust)), ?_, ?_, (le_of (sc rfl (sc rfl (sc rfl (sc rfl (sc rfl sz))))) (xc rfl (xc rfl (xc (bx_eq rfl (by first | rfl | (simp; done))) xz))) kz)⟩
          · refine ⟨?_, ?_, ?_⟩
            · exact zen
            · first | (rw [fold_take _ _ hkl, ← hcv, viewStep, if_pos g4]; done) | (rw [fold_take _ _ hkl, ← hcv, viewStep, if_neg g4]; done)
            · first | exact hcl | (rw [List.length_set]; exact hcl)
          · first | omega | (simp at *; omega)
        · skip
          have g4 : ¬ (l[k]!.validR && !(c[l[k]!.node.toNat]!).declared) = true := by rw [← validP_eq]; rw [show (l[k]!.validP && !(c[l[k]!.node.toNat]!).declared) = false from h3]; simp
          refine zws ?_
          refine zbn ?_
          refine ztn ?_
          refine zre ?_
          refine zc rfl (zar (zt rfl) (zi zdc) rfl (ink64 zom zom) rfl ?_)
          refine zc rfl (zmv (zt rfl) rfl ?_)
          refine zn0 ?_
          refine ztn ?_
          refine ⟨k + 1, c, ?_, ?_, (le_of (sc rfl (sc rfl (sc rfl (sc rfl (sc rfl sz))))) (xc rfl (xc rfl (xc (bx_eq rfl (by first | rfl | (simp; done))) xz))) kz)⟩
          · refine ⟨?_, ?_, ?_⟩
            · exact zen
            · first | (rw [fold_take _ _ hkl, ← hcv, viewStep, if_pos g4]; done) | (rw [fold_take _ _ hkl, ← hcv, viewStep, if_neg g4]; done)
            · first | exact hcl | (rw [List.length_set]; exact hcl)
          · first | omega | (simp at *; omega)
      · skip
        have g2 := h2
        try simp only [zbz, List.length_map] at g2
        obtain rfl : k = l.length := by omega
        rw [List.take_length] at hcv
        refine zwe ?_
        refine zte ?_
        refine zte ?_
        refine zbk ?_
        refine ztn ?_
        refine zsr ?_
        refine zc rfl (zld (n := 1) (zt rfl) zk rfl rfl rfl rfl ?_)
        refine zc rfl (zst (n := 1) (zt rfl) (zt rfl) rfl (.inl zk) rfl rfl (zbl rfl) ?_)
        refine zn0 ?_
        refine awp_le (le_of (ls := [(6, .one (.ref (.o 6) 0))]) (bs := [(.o 6, [.bs (.o 10) 4 10 10]), (.o 10, bsC (c.map Member.d).flatten 0)]) (ts := []) (sc rfl sz) (xc rfl (xc rfl xz)) kz) ?_
        refine awp_le (le_of (ls := [(6, .one (.ref (.o 6) 0))]) (bs := [(.o 6, [.bs (.o 10) 4 10 10]), (.o 10, bsC (c.map Member.d).flatten 0)]) (ts := []) (sc rfl sz) (xc rfl (xc rfl xz)) kz) ?_
        refine awp_le (le_freeze (u := 10) (k := 4) (p := 0) (rows := c.map Member.d) rfl (uni_map (f := Member.d) (n := 4) (fun _ => rfl) _) zdc) ?_
        refine awp_le (le_bxeq (r := .o 6) (cs' := [.dat (.sl (c.map Member.d))]) rfl (by first | (simp [C.freeze, Ref.beq]; done) | simp [C.freeze, Ref.beq, hcl])) ?_
        refine zwr ?_
        refine zpr [] (res1 (ri_agg (n := 1) rfl rfl zk rfl)) rfl lz ?_
        rw [he, ← hcv]
        exact ⟨rfl, rfl⟩

theorem c_trustquorumref25_View (node : Int) (trust : Trust) (l : List Env) (hok : ∀ e ∈ l, e.trust.ok) (ht : trust.ok) : ACalls Tryz.prog 15 [VI node, .aggd trust.d, VR (l.map Env.d)] [] fun dd bb => dd = .aggd (Config.d (viewC node trust l)) ∧ bb = [] := by
  refine zai Tryz.func15 rfl Tryz.ntmps15 (by rw [Tryz.results15]) rfl rfl (fun w0 A0 X => ?_)
  refine zsr ?_
  refine zc rfl (zbx (zt rfl) rfl rfl ?_)
  refine zc rfl (zal (cs := [.nilsl]) zk rfl ?_)
  refine zn0 ?_
  refine zsr ?_
  refine zc rfl (op_makeSlice (e := 81) (k := 4) (b := 64) (n := 10) (zs := [.dat (.bool false), .dat (.int .i64 0), .nilsl, .nilsl]) (zrow := [(.bool false), (.int .i64 0), (.sl (iRows [])), (.sl ([].map Trust.enc))]) (zi zdc) (zi zdc) zk zk rfl zom zom rfl ?_)
  refine aops_le (le_bxeq (r := .o 10) (cs' := bsC ((List.replicate 10 Member.zero).map Member.d).flatten 0) rfl rfl) ?_
  refine zc rfl (zbd (ps := [(_, _)]) (qs := [(_, _)]) (zs := [.nilsl]) (pl := [(0, 1)]) (pc (zt rfl) rfl pz) zk zk rfl rfl ?_)
  refine zc rfl (zal (cs := [.nilsl]) zk rfl ?_)
  refine zc rfl (zst (n := 1) (zt rfl) (zt rfl) rfl (.inl zk) rfl rfl (zbl rfl) ?_)
  refine zn0 ?_
  refine zw2 ?_
  refine zsr ?_
  refine zc rfl (zmv (zt rfl) rfl ?_)
  refine zc rfl (zcm (zt rfl) (zi zdc) rfl rfl ?_)
  refine zc rfl (zmv (zt rfl) rfl ?_)
  refine zg rfl rfl rfl rfl (zgb rfl) (fun hg => zmv (zt rfl) rfl rfl) ?_
  refine zg rfl rfl rfl rfl (zgb rfl) (fun hg => zcm (zcd (zt rfl) hg) (zi zdc) rfl rfl rfl) ?_
  refine zc rfl (zor (zt rfl) (.inl zb0) (zt rfl) rfl ?_)
  refine zn0 ?_
  refine zwc (zt rfl) (fun h1 => ?_) (fun h1 => ?_)
  · skip
    have g1 := h1
    try simp only [zbz, List.length_map] at g1
    have hn : ¬ (0 ≤ node ∧ node ≤ 9) := by omega
    have he : viewC node trust l = List.replicate 10 Member.zero := by rw [viewC, if_pos (by simp; omega)]
    refine zsr ?_
    refine zc rfl (zld (n := 1) (zt rfl) zk rfl rfl rfl rfl ?_)
    refine zc rfl (zst (n := 1) (zt rfl) (zt rfl) rfl (.inl zk) rfl rfl (zbl rfl) ?_)
    refine zn0 ?_
    refine awp_le (le_of (ls := [(6, .one (.ref (.o 6) 0))]) (bs := [(.o 6, [.bs (.o 10) 4 10 10]), (.o 10, bsC ((List.replicate 10 Member.zero).map Member.d).flatten 0)]) (ts := []) (sc rfl sz) (xc rfl (xc (bx_eq rfl (by simp only [bsC_scrub, bsC_unq])) xz)) kz) ?_
    refine awp_le (le_freeze (u := 10) (k := 4) (p := 0) (rows := (List.replicate 10 Member.zero).map Member.d) rfl (uni_map (f := Member.d) (n := 4) (fun _ => rfl) _) zdc) ?_
    refine awp_le (le_bxeq (r := .o 6) (cs' := [.dat (.sl ((List.replicate 10 Member.zero).map Member.d))]) rfl (by first | (simp [C.freeze, Ref.beq]; done) | simp [C.freeze, Ref.beq, hcl])) ?_
    refine zwr ?_
    refine ztr ?_
    refine zpr [] (res1 (ri_agg (n := 1) rfl rfl zk rfl)) rfl lz ?_
    rw [he]
    exact ⟨rfl, rfl⟩
  · skip
    have g1 := h1
    try simp only [zbz, List.length_map] at g1
    have hn : 0 ≤ node ∧ node ≤ 9 := by omega
    have he : viewC node trust l = l.foldl viewStep (viewB node trust) := by rw [viewC, if_neg (by simp; omega)]
    refine zws ?_
    refine ztn ?_
    refine zsr ?_
    refine zc rfl (zfa (o := 0) (zt rfl) zk rfl ?_)
    refine zc rfl (zl1 (zt rfl) zk rfl rfl rfl ?_)
    refine zc rfl (zmv (zt rfl) rfl ?_)
    refine zc rfl (zld (n := 3) (zt rfl) zk rfl rfl rfl rfl ?_)
    refine zc rfl (zbd (ps := [(_, _), (_, _)]) (qs := [(_, _), (_, _)]) (zs := [.dat (.bool false), .dat (.int .i64 0), .nilsl, .nilsl]) (pl := [(0, 1), (1, 3)]) (pc zb0 rfl (pc (zt rfl) rfl pz)) zk zk rfl rfl ?_)
    refine zc rfl (op_indexAddr_box (e := 81) (kk := 4) (zt rfl) (zt rfl) zk zom zom rfl ?_)
    refine aops_le (le_bxeq (r := .o 10) (cs' := bsC ((List.replicate 10 Member.zero).map Member.d).flatten 0) rfl (by simp only [bsC_scrub, bsC_unq])) ?_
    refine zc rfl (op_storeRowM (k := 4) (i := node.toNat) (z := (Member.mk true trust)) (l := (List.replicate 10 Member.zero)) (f := Member.d) (zt rfl) rfl (uni_map (f := Member.d) (n := 4) (fun _ => rfl) _) zom (by first | omega | (simp only [List.length_set]; omega) | (simp; omega)) (zt rfl) rfl rfl rfl (.inl zk) ?_)
    refine zn0 ?_
    refine zw2 ?_
    refine zsr ?_
    refine zc rfl (zmv (zt rfl) rfl ?_)
    refine zc rfl (zln (e := 38) (n := 15) (zt rfl) rfl zk rfl (fun hl26 => ?_))
    try simp only [List.length_map] at hl26
    refine zc rfl (zmv (zi zdc) rfl ?_)
    refine zn0 ?_
    refine zwb ?_
    refine awp_loop2 (fs := [(6, _), (7, _), (25, _), (26, _)]) (fb := [(.o 6, _), (.o 7, _)]) (fun (k : Nat) (c : List Member) => [(27, VI ((k : Nat) : Int))]) (fun (k : Nat) (c : List Member) => [(.o 10, bsC (c.map Member.d).flatten 0)]) (fun (k : Nat) (c : List Member) => []) (fun (k : Nat) (c : List Member) => (k ≤ l.length) ∧ (c = (l.take k).foldl viewStep (viewB node trust)) ∧ (c.length = 10)) (fun (k : Nat) (c : List Member) => l.length - k) 0 ((List.replicate 10 Member.zero).set (node.toNat) (Member.mk true trust)) (le_of (sc rfl (sc rfl (sc rfl (sc rfl (sc rfl sz))))) (xc rfl (xc rfl (xc rfl xz))) kz) ?_ ?_
    · refine ⟨?_, ?_, ?_⟩
      · exact zen
      · rfl
      · simp
    · intro k c ⟨hk, hcv, hcl⟩
      refine zsr ?_
      refine zc rfl (zcm (zt rfl) (zt rfl) rfl rfl ?_)
      refine zn0 ?_
      refine zw2 ?_
      refine zwc (zt rfl) (fun h2 => ?_) (fun h2 => ?_)
      · skip
        have g2 := h2
        try simp only [zbz, List.length_map] at g2
        have hkl : k < l.length := by omega
        have hvn := @valid_node l[k]!
        refine zws ?_
        refine ztn ?_
        refine zw2 ?_
        refine zwb ?_
        refine zsr ?_
        refine zc rfl (op_indexAddr (e := 38) (n := 15) (zt rfl) rfl (zt rfl) zk zom (show (l.map Env.d)[k]? = some (l[k]!.d) from (map_getD zom)) rfl rfl ?_)
        refine zc rfl (op_load_imm (n := 15) (zt rfl) zk rfl rfl rfl ?_)
        refine zc rfl (zal (cs := [.dat (.int .i64 0), .dat (.int .i64 0), .dat (.int .i64 0), .dat (.int .i64 0), .nilsl, .nilsl, .dat (.int .i64 0), .dat (.int .i64 0), .dat (.str ⟨#[]⟩), .dat (.int .i64 0), .dat (.str ⟨#[]⟩), .dat (.int .i64 0), .dat (.str ⟨#[]⟩), .dat (.int .i64 0), .dat (.int .i64 0)]) zk rfl ?_)
        refine zc rfl (zst (n := 15) (zt rfl) (zt rfl) rfl (.inl zk) rfl rfl (zbl rfl) ?_)
        refine zn0 ?_
        refine zsr ?_
        refine zc rfl (zld (n := 15) (zt rfl) zk rfl rfl rfl rfl ?_)
        refine zc rfl (zcl zhf (hc (zt rfl) hz) (rs := []) (bxs := []) zdc bz (c_trustquorumref24_Valid l[k]! (hok _ (mem_at hkl))) rfl rfl rfl (fun d b hd hl => ?_))
        obtain ⟨rfl, rfl⟩ := hd
        have hvb := fun (h : l[k]!.validR = true) => hvn (by exact h)
        refine zc rfl (zmv (zt rfl) rfl ?_)
        refine zg rfl rfl rfl rfl (zgb rfl) (fun hg => zfa (o := 0) (zt rfl) zk rfl rfl) ?_
        refine zg rfl rfl rfl rfl (zgb rfl) (fun hg => zl1 (zcd (zt rfl) hg) zk rfl rfl rfl rfl) ?_
        refine zg rfl rfl rfl rfl (zgb rfl) (fun hg => zfa (o := 0) (zt rfl) zk rfl rfl) ?_
        refine zg rfl rfl rfl rfl (zgb rfl) (fun hg => zl1 (zcd (zt rfl) hg) zk rfl rfl rfl rfl) ?_
        refine zg rfl rfl rfl rfl (zgb rfl) (fun hg => op_indexAddr_box (e := 81) (kk := 4) (zcd (zt rfl) hg) (zcd (zt rfl) hg) zk (by first | omega | (simp only [zbz, List.length_map, cond_true, cond_false] at hg; omega) | (have hgf := hvb (by simpa using hg); omega) | exact Int.natCast_nonneg _ | (simp only [List.length_map] at *; omega) | (simp only [List.length_map]; omega)) (by first | omega | (simp only [zbz, List.length_map, cond_true, cond_false] at hg; omega) | (have hgf := hvb (by simpa using hg); omega) | exact Int.natCast_nonneg _ | (simp only [List.length_map] at *; omega) | (simp only [List.length_map]; omega)) rfl rfl) ?_
        refine zg rfl rfl rfl rfl (zgb rfl) (fun hg => zfa (o := 0) (zcd (zt rfl) hg) zk rfl rfl) ?_
        refine aops_le (le_bxeq (r := .o 10) (cs' := bsC (c.map Member.d).flatten 0) rfl (by simp only [bsC_scrub, bsC_unq])) ?_
        refine zg rfl rfl rfl rfl (zgb rfl) (fun hg => op_loadRowF (k := 4) (i := l[k]!.node.toNat) (j := 0) (zcd (zt rfl) hg) rfl (uni_map (f := Member.d) (n := 4) (fun _ => rfl) _) (by first | omega | (simp only [zbz, List.length_map, cond_true, cond_false] at hg; omega) | (have hgf := hvb (by simpa using hg); omega) | exact Int.natCast_nonneg _ | (simp only [List.length_map] at *; omega) | (simp only [List.length_map]; omega)) (show (c.map Member.d)[l[k]!.node.toNat]? = some (c[l[k]!.node.toNat]!.d) from map_getD (by first | omega | (simp only [zbz, List.length_map, cond_true, cond_false] at hg; omega) | (have hgf := hvb (by simpa using hg); omega) | exact Int.natCast_nonneg _ | (simp only [List.length_map] at *; omega) | (simp only [List.length_map]; omega))) rfl zk rfl rfl) ?_
        refine zg rfl rfl rfl rfl (zgb rfl) (fun hg => op_not (zcd (zt rfl) hg) rfl rfl) ?_
        refine zc rfl (zan (zt rfl) (zt rfl) (.inl zb0) rfl ?_)
        refine zn0 ?_
        refine zwc (zt rfl) (fun h3 => ?_) (fun h3 => ?_)
        · skip
          have g4 : (l[k]!.validR && !(c[l[k]!.node.toNat]!).declared) = true := by exact h3
          have hvn := hvn (by simp only [Bool.and_eq_true] at g4; exact g4.1)
          refine zre ?_
          refine zc rfl (zfa (o := 0) (zt rfl) zk rfl ?_)
          refine zc rfl (zl1 (zt rfl) zk rfl rfl rfl ?_)
          refine zc rfl (zfa (o := 0) (zt rfl) zk rfl ?_)
          refine zc rfl (zl1 (zt rfl) zk rfl rfl rfl ?_)
          refine zc rfl (zfa (o := 3) (zt rfl) zk rfl ?_)
          refine zc rfl (zld (n := 3) (zt rfl) zk rfl rfl rfl rfl ?_)
          refine zc rfl (zbd (ps := [(_, _), (_, _)]) (qs := [(_, _), (_, _)]) (zs := [.dat (.bool false), .dat (.int .i64 0), .nilsl, .nilsl]) (pl := [(0, 1), (1, 3)]) (pc zb0 rfl (pc (zt rfl) rfl pz)) zk zk rfl rfl ?_)
          refine zc rfl (op_indexAddr_box (e := 81) (kk := 4) (zt rfl) (zt rfl) zk zom zom rfl ?_)
          refine zc rfl (op_storeRowM (k := 4) (i := l[k]!.node.toNat) (z := (Member.mk true l[k]!.trust)) (l := c) (f := Member.d) (zt rfl) rfl (uni_map (f := Member.d) (n := 4) (fun _ => rfl) _) zom (by first | omega | (simp only [List.length_set]; omega) | (simp; omega)) (zt rfl) rfl rfl rfl (.inl zk) ?_)
          refine zn0 ?_
          refine zbn ?_
          refine ztn ?_
          refine zre ?_
          refine zc rfl (zar (zt rfl) (zi zdc) rfl (ink64 zom zom) rfl ?_)
          refine zc rfl (zmv (zt rfl) rfl ?_)
          refine zn0 ?_
          refine ztn ?_
          refine ⟨k + 1, (c.set (l[k]!.node.toNat) (Member.mk true l[k]!.trust)), ?_, ?_, (le_of (sc rfl (sc rfl (sc rfl (sc rfl (sc rfl sz))))) (xc rfl (xc rfl (xc (bx_eq rfl (by first | rfl | (simp; done))) xz))) kz)⟩
          · refine ⟨?_, ?_, ?_⟩
            · exact zen
            · first | (rw [fold_take _ _ hkl, ← hcv, viewStep, if_pos g4]; done) | (rw [fold_take _ _ hkl, ← hcv, viewStep, if_neg g4]; done)
            · first | exact hcl | (rw [List.length_set]; exact hcl)
          · first | omega | (simp at *; omega)
        · skip
          have g4 : ¬ (l[k]!.validR && !(c[l[k]!.node.toNat]!).declared) = true := by rw [show (l[k]!.validR && !(c[l[k]!.node.toNat]!).declared) = false from h3]; simp
          refine zws ?_
          refine zbn ?_
          refine ztn ?_
          refine zre ?_
          refine zc rfl (zar (zt rfl) (zi zdc) rfl (ink64 zom zom) rfl ?_)
          refine zc rfl (zmv (zt rfl) rfl ?_)
          refine zn0 ?_
          refine ztn ?_
          refine ⟨k + 1, c, ?_, ?_, (le_of (sc rfl (sc rfl (sc rfl (sc rfl (sc rfl sz))))) (xc rfl (xc rfl (xc (bx_eq rfl (by first | rfl | (simp; done))) xz))) kz)⟩
          · refine ⟨?_, ?_, ?_⟩
            · exact zen
            · first | (rw [fold_take _ _ hkl, ← hcv, viewStep, if_pos g4]; done) | (rw [fold_take _ _ hkl, ← hcv, viewStep, if_neg g4]; done)
            · first | exact hcl | (rw [List.length_set]; exact hcl)
          · first | omega | (simp at *; omega)
      · skip
        have g2 := h2
        try simp only [zbz, List.length_map] at g2
        obtain rfl : k = l.length := by omega
        rw [List.take_length] at hcv
        refine zwe ?_
        refine zte ?_
        refine zte ?_
        refine zbk ?_
        refine ztn ?_
        refine zsr ?_
        refine zc rfl (zld (n := 1) (zt rfl) zk rfl rfl rfl rfl ?_)
        refine zc rfl (zst (n := 1) (zt rfl) (zt rfl) rfl (.inl zk) rfl rfl (zbl rfl) ?_)
        refine zn0 ?_
        refine awp_le (le_of (ls := [(6, .one (.ref (.o 6) 0))]) (bs := [(.o 6, [.bs (.o 10) 4 10 10]), (.o 10, bsC (c.map Member.d).flatten 0)]) (ts := []) (sc rfl sz) (xc rfl (xc rfl xz)) kz) ?_
        refine awp_le (le_of (ls := [(6, .one (.ref (.o 6) 0))]) (bs := [(.o 6, [.bs (.o 10) 4 10 10]), (.o 10, bsC (c.map Member.d).flatten 0)]) (ts := []) (sc rfl sz) (xc rfl (xc rfl xz)) kz) ?_
        refine awp_le (le_freeze (u := 10) (k := 4) (p := 0) (rows := c.map Member.d) rfl (uni_map (f := Member.d) (n := 4) (fun _ => rfl) _) zdc) ?_
        refine awp_le (le_bxeq (r := .o 6) (cs' := [.dat (.sl (c.map Member.d))]) rfl (by first | (simp [C.freeze, Ref.beq]; done) | simp [C.freeze, Ref.beq, hcl])) ?_
        refine zwr ?_
        refine zpr [] (res1 (ri_agg (n := 1) rfl rfl zk rfl)) rfl lz ?_
        rw [he, ← hcv]
        exact ⟨rfl, rfl⟩

end Go.TQ
