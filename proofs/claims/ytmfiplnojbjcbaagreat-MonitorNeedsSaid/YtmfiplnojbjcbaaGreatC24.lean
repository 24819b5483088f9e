/- Contracts of functions of the program, each for every input that its hypotheses let in; printed by a program of our own (s24). -/
import Derived.Test.YtmfiplnojbjcbaaGreatC23
set_option linter.unusedVariables false
set_option linter.unusedSimpArgs false
set_option maxRecDepth 10000
set_option maxHeartbeats 4000000
namespace Go.TQ
open Go.Proofs


def eachL (kind : Int) (v : List Env → ByteArray) (q : List Env → Bool) (m : Fil) (pl : List Place) : List Finding := (pl.filter fun p => q (getK p m)).map fun p => Finding.mk p.node p.slot kind (v (getK p m)) []
theorem each_yes {kind : Int} {v : List Env → ByteArray} {q : List Env → Bool} {m : Fil} {pl : List Place} {k : Nat} (h : k < pl.length) (hq : q (getK pl[k]! m) = true) : eachL kind v q m (pl.take k) ++ [Finding.mk pl[k]!.node pl[k]!.slot kind (v (getK pl[k]! m)) []] = eachL kind v q m (pl.take (k + 1)) := by
  unfold eachL
  rw [← filt_yes (p := fun p => q (getK p m)) h hq, List.map_append]; rfl
theorem each_no {kind : Int} {v : List Env → ByteArray} {q : List Env → Bool} {m : Fil} {pl : List Place} {k : Nat} (h : k < pl.length) (hq : q (getK pl[k]! m) = false) : eachL kind v q m (pl.take k) = eachL kind v q m (pl.take (k + 1)) := by
  unfold eachL
  rw [← filt_no (p := fun p => q (getK p m)) h hq]
theorem files_vl (l : List Sighting) : ∀ x ∈ filesL l, x.2.length ≤ l.length := by
  have : ∀ (L : List Sighting) (m : Fil) (n : Nat), (∀ x ∈ m, x.2.length ≤ n) → ∀ x ∈ L.foldl (fun m x => putK x.place x.l.env m) m, x.2.length ≤ n + L.length := by
    intro L
    induction L with
    | nil => exact fun m n h => h
    | cons y L ih =>
      intro m n h x hx
      have := ih _ (n + 1) (putK_vl h) x hx
      simp only [List.length_cons]; omega
  intro x hx
  have h1 := this _ [] 0 (fun x hx => by cases hx) x hx
  have h2 : ((l.take l.length).filter fun x => !x.skip).length ≤ l.length := Nat.le_trans (List.length_filter_le _ _) (by simp)
  omega
theorem getK_le (l : List Sighting) (k : Place) : (getK k (filesL l)).length ≤ l.length := by
  cases hp : posK k (filesL l) 0 with
  | none => rw [(posK_none hp).1]; simp
  | some j => exact getK_len (files_vl l) hp
theorem files_len (l : List Sighting) : (filesL l).length ≤ l.length := by
  have : ∀ (L : List Sighting) (m : Fil), (L.foldl (fun m x => putK x.place x.l.env m) m).length ≤ m.length + L.length := by
    intro L
    induction L with
    | nil => exact fun m => Nat.le_refl _
    | cons y L ih =>
      intro m
      have h1 := ih (putK y.place y.l.env m)
      have h2 := putK_len (k := y.place) (e := y.l.env) m
      simp only [List.foldl_cons, List.length_cons]; omega
  have h1 := this ((l.take l.length).filter fun x => !x.skip) []
  have h2 : ((l.take l.length).filter fun x => !x.skip).length ≤ l.length := Nat.le_trans (List.length_filter_le _ _) (by simp)
  have h3 : (filesL l).length ≤ ([] : Fil).length + ((l.take l.length).filter fun x => !x.skip).length := h1
  simp only [List.length_nil] at h3
  omega
theorem idxF_lt {α : Type} {p : α → Bool} : ∀ (l : List α) (k : Int), idxF p l k = -1 ∨ (k ≤ idxF p l k ∧ idxF p l k < k + l.length)
  | [], k => .inl rfl
  | x :: l, k => by
    rw [idxF]
    split
    · right; simp; omega
    · rcases idxF_lt l (k + 1) with h | h
      · exact .inl h
      · right; simp only [List.length_cons]; omega
def extP (e : Env) : Bool := decide (e.kind = 3)
def extV (l : List Env) : ByteArray := if idxF extP l 0 < 0 then ⟨#[]⟩ else (l[(idxF extP l 0).toNat]!).b.v
def noV (_ : List Env) : ByteArray := ⟨#[]⟩
def twoE (a b : Env) : Bool := decide (a.seq = b.seq) && !a.sameP b
def twoQ (l : List Env) : Bool := l.any fun a => l.any fun b => twoE a b

theorem c_each (kind : Int) (f : FuncId) (v : List Env → ByteArray) (q : List Env → Bool) (l : List Sighting) (hok : ∀ x ∈ l, x.l.env.trust.ok) (hlen : l.length ≤ 12) (hf : ∀ L : List Env, (∀ e ∈ L, e.trust.ok) → L.length ≤ 12 → ACalls Tryz.prog f [VR (L.map Env.d)] [] fun dd bb => dd = .tup [VS (v L), VB (q L)] ∧ bb = []) : ACalls Tryz.prog 51 [.agg [.dat (.int .i64 kind), .fn f []], VR (l.map Sighting.d)] [] fun dd bb => ∃ (pl : List Place), dd = VR ((eachL kind v q (filesL l) pl).map Finding.d) ∧ bb = [] ∧ (SortedC cmpP pl ∧ pl.Perm ((filesL l).map (·.1))) := by
  refine zai Tryz.func51 rfl Tryz.ntmps51 (by rw [Tryz.results51]) rfl rfl (fun w0 A0 X => ?_)
  refine zsr ?_
  refine zc rfl (zbx (zt rfl) rfl rfl ?_)
  refine zc rfl (zas has_nil rfl ?_)
  refine zn0 ?_
  refine zsr ?_
  refine zc rfl (zmv (zt rfl) rfl ?_)
  refine zc rfl (op_callN zhf (hc (zt rfl) hz) (rs := []) (bxs := []) zdc zdc bz (c_files l (by first | assumption | omega | trivial | (simp; done) | (constructor <;> omega)) (by first | assumption | omega | trivial | (simp; done) | (constructor <;> omega))) rfl rfl rfl (fun d b cs hd hl => ?_))
  obtain ⟨pl, rfl, rfl, rfl, ⟨hs, hp⟩⟩ := hd
  refine aops_le (le_bxeq (r := .o 14) (cs' := [.mapc (mkF (filesL l))]) rfl (congrArg (fun m => [C.mapc m]) (mkM_free _ 0).symm)) ?_
  refine zc rfl (zmv (zt rfl) rfl ?_)
  refine zc rfl (op_extract (zt rfl) rfl rfl ?_)
  refine zc rfl (op_extract (zt rfl) rfl rfl ?_)
  refine zc rfl (zas (zt rfl) rfl ?_)
  refine zc rfl (zas (zt rfl) rfl ?_)
  refine zn0 ?_
  refine zsr ?_
  refine zc rfl (zas has_nil rfl ?_)
  refine zn0 ?_
  refine zw2 ?_
  refine zsr ?_
  refine zc rfl (zmv (zt rfl) rfl ?_)
  refine zc rfl (zln (e := 74) (n := 2) (zt rfl) rfl zk rfl (fun hl18 => ?_))
  try simp only [List.length_map] at hl18
  refine zc rfl (zmv (zi zdc) rfl ?_)
  refine zn0 ?_
  refine zwb ?_
  have hpl := hp.length_eq
  rw [List.length_map] at hpl
  have hfl := files_len l
  refine awp_loop2 (fs := [(2, _), (5, _), (17, _), (18, _)]) (fb := [(.o 2, _), (.o 14, [.mapc (mkF (filesL l))])]) (fun (out : List Finding) (k : Nat) => [(7, .one (.slt 1010 (out.map Finding.d))), (19, VI ((k : Nat) : Int))]) (fun (out : List Finding) (k : Nat) => []) (fun (out : List Finding) (k : Nat) => [(1010, (29, 5))]) (fun (out : List Finding) (k : Nat) => (k ≤ pl.length) ∧ (out = eachL kind v q (filesL l) (pl.take k)) ∧ (out.length ≤ k)) (fun (out : List Finding) (k : Nat) => pl.length - k) [] 0 ((le_adopt (q := 1010) (t := 7) (e := 29) (k := 5) zdc rfl).trans (le_of (sc rfl (sc rfl (sc rfl (sc rfl (sc rfl (sc rfl sz)))))) (xc rfl (xc (bx_eq rfl (by first | rfl | simp only [List.map_cons, List.map_nil, C.unq, C.scrub, mkF_unq])) xz)) (kc rfl kz))) ?_ ?_
  · refine ⟨?_, ?_, ?_⟩
    · exact zen
    · rfl
    · exact zen
  · intro out k ⟨hk, ho, hol⟩
    refine zsr ?_
    refine zc rfl (zcm (zt rfl) (zt rfl) rfl rfl ?_)
    refine zn0 ?_
    refine zw2 ?_
    refine zwc (zt rfl) (fun h1 => ?_) (fun h1 => ?_)
    · skip
      have g1 := h1
      try simp only [zbz, List.length_map] at g1
      have hkl : k < pl.length := by omega
      refine zws ?_
      refine ztn ?_
      refine zw2 ?_
      refine zwb ?_
      refine zsr ?_
      refine zc rfl (op_indexAddr (e := 74) (n := 2) (zt rfl) rfl (zt rfl) zk zom (show (pl.map Place.d)[k]? = some (pl[k]!.d) from (map_getD zom)) rfl rfl ?_)
      refine zc rfl (op_load_imm (n := 2) (zt rfl) zk rfl rfl rfl ?_)
      refine zc rfl (zal (cs := [.dat (.int .i64 0), .dat (.int .i64 0)]) zk rfl ?_)
      refine zc rfl (zst (n := 2) (zt rfl) (zt rfl) rfl (.inl zk) rfl rfl (zbl rfl) ?_)
      refine zn0 ?_
      refine awp_le (le_of (ls := [(2, .one (.ref (.o 2) 0)), (5, .one (.map (.o 14))), (7, .one (.slt 1010 (out.map Finding.d))), (9, .one (.ref (.o 9) 0)), (17, VR (pl.map Place.d)), (18, VI ((pl.map Place.d).length : Int)), (19, VI ((k : Nat) : Int))]) (bs := [(.o 2, [.dat (.int .i64 kind), .fn f []]), (.o 14, [.mapc (mkF (filesL l))]), (.o 9, [.dat (.int .i64 pl[k]!.node), .dat (.int .i64 pl[k]!.slot)])]) (ts := [(1010, (29, 5))]) (sc rfl (sc rfl (sc rfl (sc rfl (sc rfl (sc rfl (sc rfl sz))))))) (xc rfl (xc (bx_eq rfl (by simp only [List.map_cons, List.map_nil, C.unq, C.scrub, mkF_unq])) (xc rfl xz))) (kc rfl kz)) ?_
      refine awp_seq_drawT zk [] [] [0, 1, 0, 0, 12, 31, 63, 127, 127, 255, 1023] rfl
        (Trace.cons ⟨[(2, _)], [], [], [], [], [.slot 24 _]⟩ (prel (lsc rfl lsz) lbz ltz) (fun zs zp zn => (zgp rfl rfl (zfa (o := 1) (zt zp.1.1) zk rfl rfl))) <|
        Trace.cons ⟨[(24, _)], [(.o 2, _)], [], [], [], [.slot 25 _]⟩ (prel (lsc rfl lsz) (lbc rfl lbz) ltz) (fun zs zp zn => (zgp rfl rfl (zl1 (zt zp.1.1) zk zp.2.1.1 rfl rfl rfl))) <|
        Trace.cons ⟨[(5, _)], [], [], [], [], [.slot 26 _]⟩ (prel (lsc rfl lsz) lbz ltz) (fun zs zp zn => (zgp rfl rfl (zmv (zt zp.1.1) rfl rfl))) <|
        Trace.cons ⟨[(9, _)], [(.o 9, _)], [], [], [], [.slot 27 _]⟩ (prel (lsc rfl lsz) (lbc rfl lbz) ltz) (fun zs zp zn => (zgp rfl rfl (zld (n := 2) (zt zp.1.1) zk zp.2.1.1 rfl rfl rfl rfl))) <|
        Trace.cons ⟨[(26, _), (27, _)], [(.o 14, _)], [], [], [], [.slot 28 _]⟩ (prel (lsc rfl (lsc rfl lsz)) (lbc rfl lbz) ltz) (fun zs zp zn => (zgp rfl rfl (op_lookupF (k := pl[k]!) (kt := 74) (e := 42) (zt zp.1.1) zp.2.1.1 (zt zp.1.2.1) rfl zk zk rfl rfl))) <|
        Trace.cons ⟨[(25, _), (28, _)], [], [], [], [], [.slot 29 _]⟩ (prel (lsc rfl (lsc rfl lsz)) lbz ltz) (fun zs zp zn => (zgp rfl rfl (zcl (zt zp.1.1) (hc (zt zp.1.2.1) hz) (rs := []) (bxs := []) zdc bz (hf (getK pl[k]! (filesL l)) (getK_all (P := fun e => e.trust.ok) hok _) (Nat.le_trans (getK_le l _) hlen)) rfl rfl rfl (fun d b hd hl => by obtain ⟨rfl, rfl⟩ := hd; rfl)))) <|
        Trace.cons ⟨[(29, _)], [], [], [], [], [.slot 23 _]⟩ (prel (lsc rfl lsz) lbz ltz) (fun zs zp zn => (zgp rfl rfl (zmv (zt zp.1.1) rfl rfl))) <|
        Trace.cons ⟨[(23, _)], [], [], [], [], [.slot 30 _]⟩ (prel (lsc rfl lsz) lbz ltz) (fun zs zp zn => (zgp rfl rfl (op_extract (zt zp.1.1) rfl rfl rfl))) <|
        Trace.cons ⟨[(23, _)], [], [], [], [], [.slot 31 _]⟩ (prel (lsc rfl lsz) lbz ltz) (fun zs zp zn => (zgp rfl rfl (op_extract (zt zp.1.1) rfl rfl rfl))) <|
        Trace.cons ⟨[(30, _)], [], [], [], [], [.slot 10 _]⟩ (prel (lsc rfl lsz) lbz ltz) (fun zs zp zn => (zgp rfl rfl (zas (zt zp.1.1) rfl rfl))) <|
        Trace.cons ⟨[(31, _)], [], [], [], [], [.slot 11 _]⟩ (prel (lsc rfl lsz) lbz ltz) (fun zs zp zn => (zgp rfl rfl (zas (zt zp.1.1) rfl rfl))) <|
        Trace.nil) rfl rfl rfl ?_
      refine awp_le (le_of (ls := [(2, .one (.ref (.o 2) 0)), (5, .one (.map (.o 14))), (7, .one (.slt 1010 (out.map Finding.d))), (9, .one (.ref (.o 9) 0)), (10, VS (v (getK pl[k]! (filesL l)))), (11, VB (q (getK pl[k]! (filesL l)))), (17, VR (pl.map Place.d)), (18, VI ((pl.map Place.d).length : Int)), (19, VI ((k : Nat) : Int))]) (bs := [(.o 2, [.dat (.int .i64 kind), .fn f []]), (.o 14, [.mapc (mkF (filesL l))]), (.o 9, [.dat (.int .i64 pl[k]!.node), .dat (.int .i64 pl[k]!.slot)])]) (ts := [(1010, (29, 5))]) (sc rfl (sc rfl (sc rfl (sc rfl (sc rfl (sc rfl (sc rfl (sc rfl (sc rfl sz))))))))) (xc rfl (xc rfl (xc rfl xz))) (kc rfl kz)) ?_
      refine zsr ?_
      refine zc rfl (zmv (zt rfl) rfl ?_)
      refine zn0 ?_
      refine zwc (zt rfl) (fun h2 => ?_) (fun h2 => ?_)
      · skip
        refine zre ?_
        refine zc rfl (zmv (zt rfl) rfl ?_)
        refine zc rfl (zfa (o := 0) (zt rfl) zk rfl ?_)
        refine zc rfl (zl1 (zt rfl) zk rfl rfl rfl ?_)
        refine zc rfl (zfa (o := 1) (zt rfl) zk rfl ?_)
        refine zc rfl (zl1 (zt rfl) zk rfl rfl rfl ?_)
        refine zc rfl (zfa (o := 0) (zt rfl) zk rfl ?_)
        refine zc rfl (zl1 (zt rfl) zk rfl rfl rfl ?_)
        refine zc rfl (zmv (zt rfl) rfl ?_)
        refine zc rfl (zbd (ps := [(_, _), (_, _), (_, _), (_, _)]) (qs := [(_, _), (_, _), (_, _), (_, _)]) (zs := [.dat (.int .i64 0), .dat (.int .i64 0), .dat (.int .i64 0), .dat (.str ⟨#[]⟩), .nilsl]) (pl := [(0, 1), (1, 1), (2, 1), (3, 1), (4, 1)]) (pc (zt rfl) rfl (pc (zt rfl) rfl (pc (zt rfl) rfl (pc (zt rfl) rfl pz)))) zk zk rfl rfl ?_)
        refine zc rfl (zbs (e := 29) (ps := [(_, _)]) (qs := [(_, _)]) (n := 5) (rows := [[_, _, _, _, _]]) (pc (zt rfl) rfl pz) zk zdc ⟨[.dat (.int .i64 0), .dat (.int .i64 0), .dat (.int .i64 0), .dat (.str ⟨#[]⟩), .nilsl], by kernel_rfl⟩ rfl rfl (by simp [Uni]) rfl zdc rfl ?_)
        refine zc rfl (op_append (e := 29) (k := 5) (b := 64) (zt rfl) rfl (zt rfl) rfl zk (by first | exact uni_snoc (uni_map (f := Finding.d) (fun _ => rfl) _) rfl | (simp [Uni]; done)) (by first | (simp; done) | (simp; omega) | (simp at *; omega)) (by first | (simp; done) | (simp; omega) | (simp at *; omega)) rfl ?_)
        refine zc rfl (zas (zt rfl) rfl ?_)
        refine zn0 ?_
        refine zbn ?_
        refine ztn ?_
        refine zre ?_
        refine zc rfl (zar (zt rfl) (zi zdc) rfl (ink64 zom zom) rfl ?_)
        refine zc rfl (zmv (zt rfl) rfl ?_)
        refine zn0 ?_
        refine ztn ?_
        refine ⟨(out ++ [(Finding.mk pl[k]!.node pl[k]!.slot kind (v (getK pl[k]! (filesL l))) [])]), k + 1, ?_, ?_, ((le_retok (q := 43) (p := 1010) (s := 7) rfl rfl).trans (le_of (sc rfl (sc rfl (sc rfl (sc rfl (sc (slt_eq rfl (by first | rfl | exact List.map_append | (simp only [List.map_append, List.map_cons, List.map_nil]; rfl) | simp)) (sc rfl sz)))))) (xc rfl (xc (bx_eq rfl (by first | rfl | simp only [List.map_cons, List.map_nil, C.unq, C.scrub, mkF_unq])) xz)) (kc rfl kz)))⟩
        · refine ⟨?_, ?_, ?_⟩
          · exact zen
          · first | exact ho ▸ each_yes hkl h2 | exact ho.trans (each_no hkl h2)
          · first | omega | (simp only [List.length_append, List.length_cons, List.length_nil]; omega)
        · first | omega | (simp at *; omega)
      · skip
        refine zws ?_
        refine zbn ?_
        refine ztn ?_
        refine zre ?_
        refine zc rfl (zar (zt rfl) (zi zdc) rfl (ink64 zom zom) rfl ?_)
        refine zc rfl (zmv (zt rfl) rfl ?_)
        refine zn0 ?_
        refine ztn ?_
        refine ⟨out, k + 1, ?_, ?_, (le_of (sc rfl (sc rfl (sc rfl (sc rfl (sc (slt_eq rfl (by first | rfl | exact List.map_append | (simp only [List.map_append, List.map_cons, List.map_nil]; rfl) | simp)) (sc rfl sz)))))) (xc rfl (xc (bx_eq rfl (by first | rfl | simp only [List.map_cons, List.map_nil, C.unq, C.scrub, mkF_unq])) xz)) (kc rfl kz))⟩
        · refine ⟨?_, ?_, ?_⟩
          · exact zen
          · first | exact ho ▸ each_yes hkl h2 | exact ho.trans (each_no hkl h2)
          · first | omega | (simp only [List.length_append, List.length_cons, List.length_nil]; omega)
        · first | omega | (simp at *; omega)
    · skip
      have g1 := h1
      try simp only [zbz, List.length_map] at g1
      obtain rfl : k = pl.length := by omega
      rw [List.take_length] at ho
      refine zwe ?_
      refine zte ?_
      refine zte ?_
      refine zbk ?_
      refine ztn ?_
      refine zsr ?_
      refine zc rfl (zmv (zt rfl) rfl ?_)
      refine zc rfl (zas (zt rfl) rfl ?_)
      refine zn0 ?_
      refine zwr ?_
      refine zpr [] (res1 (zrt rfl)) rfl lz ?_
      subst ho
      refine ⟨pl, rfl, rfl, ?_⟩
      exact ⟨hs, hp⟩

theorem c_ext_1_1 (e : Env) : ACalls Tryz.prog 54 [.aggd e.d] [] fun dd bb => dd = VB (extP e) ∧ bb = [] := by
  refine zai Tryz.func54 rfl Tryz.ntmps54 (by rw [Tryz.results54]) rfl rfl (fun w0 A0 X => ?_)
  refine zsr ?_
  refine zc rfl (zbx (zt rfl) rfl rfl ?_)
  refine zc rfl (zas zb0 rfl ?_)
  refine zn0 ?_
  refine zsr ?_
  refine zc rfl (zfa (o := 6) (zt rfl) zk rfl ?_)
  refine zc rfl (zl1 (zt rfl) zk rfl rfl rfl ?_)
  refine zc rfl (zcm (zt rfl) (zi zdc) rfl rfl ?_)
  refine zc rfl (zas (zt rfl) rfl ?_)
  refine zn0 ?_
  refine zwr ?_
  refine zpr [] (res1 (zrt rfl)) rfl lz ?_
  exact ⟨rfl, rfl⟩

theorem c_ext_1 (l : List Env) : ACalls Tryz.prog 52 [VR (l.map Env.d)] [] fun dd bb => dd = .tup [VS (extV l), VB (decide (0 ≤ idxF extP l 0))] ∧ bb = [] := by
  refine zai Tryz.func52 rfl Tryz.ntmps52 (by rw [Tryz.results52]) rfl rfl (fun w0 A0 X => ?_)
  refine zsr ?_
  refine zc rfl (zas (has_str zdc) rfl ?_)
  refine zc rfl (zas zb0 rfl ?_)
  refine zn0 ?_
  refine zsr ?_
  refine zc rfl (zmv (zt rfl) rfl ?_)
  refine zc rfl (zcl zhf (hc (zt rfl) (hc zhf hz)) (rs := []) (bxs := []) zdc bz (c_IndexFunc_env_0 _ extP l (fun x _ => c_ext_1_1 x)) rfl rfl rfl (fun d b hd hl => ?_))
  obtain ⟨rfl, rfl⟩ := hd
  refine zc rfl (zas (zt rfl) rfl ?_)
  refine zn0 ?_
  refine zw2 ?_
  refine zsr ?_
  refine zc rfl (zmv (zt rfl) rfl ?_)
  refine zc rfl (zcm (zt rfl) (zi zdc) rfl rfl ?_)
  refine zn0 ?_
  refine zwc (zt rfl) (fun h1 => ?_) (fun h1 => ?_)
  · skip
    have g1 := h1
    try simp only [zbz, List.length_map] at g1
    refine zsr ?_
    refine zc rfl (zas (has_str zdc) rfl ?_)
    refine zc rfl (zas zb0 rfl ?_)
    refine zn0 ?_
    refine zwr ?_
    refine ztr ?_
    refine zpr [] (res2 (zrt rfl) (zrt rfl)) rfl lz ?_
    rw [extV, if_pos g1, show decide (0 ≤ idxF extP l 0) = false by rw [decide_eq_false_iff_not]; omega]
    exact ⟨rfl, rfl⟩
  · skip
    have g1 := h1
    try simp only [zbz, List.length_map] at g1
    refine zws ?_
    refine ztn ?_
    refine zsr ?_
    have hb := (idxF_lt (p := extP) l 0).resolve_left (by omega)
    refine zc rfl (zmv (zt rfl) rfl ?_)
    refine zc rfl (zmv (zt rfl) rfl ?_)
    refine zc rfl (op_indexAddr (e := 38) (n := 15) (zt rfl) rfl (zt rfl) zk zom (show (l.map Env.d)[(idxF extP l 0).toNat]? = some (l[(idxF extP l 0).toNat]!.d) from (map_getD zom)) rfl rfl ?_)
    refine zc rfl (op_fieldAddr_imm (o := 7) (zt rfl) zk rfl ?_)
    refine zc rfl (op_fieldAddr_imm (o := 1) (zt rfl) zk rfl ?_)
    refine zc rfl (op_load_imm1 (zt rfl) zk rfl rfl ?_)
    refine zc rfl (zas (zt rfl) rfl ?_)
    refine zc rfl (zas zb0 rfl ?_)
    refine zn0 ?_
    refine zwr ?_
    refine zpr [] (res2 (zrt rfl) (zrt rfl)) rfl lz ?_
    rw [extV, if_neg (by omega), show decide (0 ≤ idxF extP l 0) = true by rw [decide_eq_true_eq]; omega]
    exact ⟨rfl, rfl⟩

theorem c_two_1_1_1 (b a : Env) : ACalls Tryz.prog 49 [.aggd b.d, .one (.ref (.e 0) 0)] [a.d.map C.dat] fun dd bb => dd = VB (twoE a b) ∧ bb = [a.d.map C.dat] := by
  refine zai Tryz.func49 rfl Tryz.ntmps49 (by rw [Tryz.results49]) rfl rfl (fun w0 A0 X => ?_)
  refine zsr ?_
  refine zc rfl (zbx (zt rfl) rfl rfl ?_)
  refine zc rfl (zas zb0 rfl ?_)
  refine zn0 ?_
  refine zsr ?_
  refine zc rfl (zfa (o := 2) (zt rfl) zk rfl ?_)
  refine zc rfl (zl1 (zt rfl) zk rfl rfl rfl ?_)
  refine zc rfl (zfa (o := 2) (zt rfl) zk rfl ?_)
  refine zc rfl (zl1 (zt rfl) zk rfl rfl rfl ?_)
  refine zc rfl (zcm (zt rfl) (zt rfl) rfl rfl ?_)
  refine zc rfl (zmv (zt rfl) rfl ?_)
  refine zg rfl rfl rfl rfl (zgb rfl) (fun hg => zld (n := 15) (zt rfl) zk rfl rfl rfl rfl rfl) ?_
  refine zg rfl rfl rfl rfl (zgb rfl) (fun hg => zld (n := 15) (zt rfl) zk rfl rfl rfl rfl rfl) ?_
  refine zg rfl rfl rfl rfl (zgb rfl) (fun hg => zcl zhf (hc (zcd (zt rfl) hg) (hc (zcd (zt rfl) hg) hz)) (rs := []) (bxs := []) zdc bz (c_monitor_equal a b) rfl rfl rfl (fun d b hd hl => by obtain ⟨rfl, rfl⟩ := hd; rfl)) ?_
  refine zg rfl rfl rfl rfl (zgb rfl) (fun hg => op_not (zcd (zt rfl) hg) rfl rfl) ?_
  refine zc rfl (zan (zt rfl) (zt rfl) (.inl zb0) rfl ?_)
  refine zc rfl (zas (zt rfl) rfl ?_)
  refine zn0 ?_
  refine zwr ?_
  refine zpr [_] (res1 (zrt rfl)) (show _ = 1 from rfl) (l1 rfl) ?_
  exact ⟨rfl, rfl⟩

theorem c_two_1_1 (a : Env) (c0 : List Env) : ACalls Tryz.prog 48 [.aggd a.d, .one (.ref (.e 0) 0)] [[.dat (.sl (c0.map Env.d))]] fun dd bb => dd = VB (c0.any fun b => twoE a b) ∧ bb = [[.dat (.sl (c0.map Env.d))]] := by
  refine zai Tryz.func48 rfl Tryz.ntmps48 (by rw [Tryz.results48]) rfl rfl (fun w0 A0 X => ?_)
  refine zsr ?_
  refine zc rfl (zbx (zt rfl) rfl rfl ?_)
  refine zc rfl (zas zb0 rfl ?_)
  refine zn0 ?_
  refine zsr ?_
  refine zc rfl (zl1 (zt rfl) zk rfl rfl rfl ?_)
  refine zc rfl (op_makeFunc (rs := [.o 2]) (hc (zt rfl) hz) rfl ?_)
  refine zc rfl (zcl zhf (hc (zt rfl) (hc (zt rfl) hz)) (rs := [.o 2]) (bxs := [_]) zdc (bc rfl bz) (c_ContainsFunc_env_e _ (twoE a) c0 a (fun x _ => c_two_1_1_1 x a)) rfl rfl rfl (fun d b hd hl => ?_))
  obtain ⟨rfl, rfl⟩ := hd
  refine zc rfl (zas (zt rfl) rfl ?_)
  refine zn0 ?_
  refine zwr ?_
  refine zpr [_] (res1 (zrt rfl)) (show _ = 1 from rfl) (l1 rfl) ?_
  exact ⟨rfl, rfl⟩

theorem c_two_1 (l : List Env) : ACalls Tryz.prog 46 [VR (l.map Env.d)] [] fun dd bb => dd = .tup [VS (noV l), VB (twoQ l)] ∧ bb = [] := by
  refine zai Tryz.func46 rfl Tryz.ntmps46 (by rw [Tryz.results46]) rfl rfl (fun w0 A0 X => ?_)
  refine zsr ?_
  refine zc rfl (zbx (zt rfl) rfl rfl ?_)
  refine zc rfl (zas (has_str zdc) rfl ?_)
  refine zc rfl (zas zb0 rfl ?_)
  refine zn0 ?_
  refine zsr ?_
  refine zc rfl (zl1 (zt rfl) zk rfl rfl rfl ?_)
  refine zc rfl (op_makeFunc (rs := [.o 1]) (hc (zt rfl) hz) rfl ?_)
  refine zc rfl (zcl zhf (hc (zt rfl) (hc (zt rfl) hz)) (rs := [.o 1]) (bxs := [_]) zdc (bc rfl bz) (c_ContainsFunc_env_l _ (fun a => l.any fun b => twoE a b) l l (fun x _ => c_two_1_1 x l)) rfl rfl rfl (fun d b hd hl => ?_))
  obtain ⟨rfl, rfl⟩ := hd
  refine zc rfl (zas (has_str zdc) rfl ?_)
  refine zc rfl (zas (zt rfl) rfl ?_)
  refine zn0 ?_
  refine zwr ?_
  refine zpr [] (res2 (zrt rfl) (zrt rfl)) rfl lz ?_
  exact ⟨rfl, rfl⟩

theorem c_monitor_External (l : List Sighting) (hok : ∀ x ∈ l, x.l.env.trust.ok) (hlen : l.length ≤ 12) : ACalls Tryz.prog 22 [VR (l.map Sighting.d)] [] fun dd bb => ∃ (pl : List Place), dd = VR ((eachL 1 extV (fun l => decide (0 ≤ idxF extP l 0)) (filesL l) pl).map Finding.d) ∧ bb = [] ∧ (SortedC cmpP pl ∧ pl.Perm ((filesL l).map (·.1))) := by
  refine zai Tryz.func22 rfl Tryz.ntmps22 (by rw [Tryz.results22]) rfl rfl (fun w0 A0 X => ?_)
  refine zsr ?_
  refine zc rfl (zas has_nil rfl ?_)
  refine zn0 ?_
  refine zsr ?_
  refine zc rfl (zas zhf rfl ?_)
  refine zn0 ?_
  refine zsr ?_
  refine zc rfl (zmv (zt rfl) rfl ?_)
  refine zc rfl (zbd (ps := [(_, _), (_, _)]) (qs := [(_, _), (_, _)]) (zs := [.dat (.int .i64 0), .any]) (pl := [(0, 1), (1, 1)]) (pc (zi zdc) rfl (pc (zt rfl) rfl pz)) zk zk rfl rfl ?_)
  refine zc rfl (zmv (zt rfl) rfl ?_)
  refine zc rfl (zcl zhf (hc (zt rfl) (hc (zt rfl) hz)) (rs := []) (bxs := []) zdc bz (c_each 1 (52) extV (fun l => decide (0 ≤ idxF extP l 0)) l (by first | assumption | omega | trivial | (simp; done) | (constructor <;> omega)) (by first | assumption | omega | trivial | (simp; done) | (constructor <;> omega)) (fun L _ _ => c_ext_1 L)) rfl rfl rfl (fun d b hd hl => ?_))
  obtain ⟨pl, rfl, rfl, ⟨hs, hp⟩⟩ := hd
  refine zc rfl (zas (zt rfl) rfl ?_)
  refine zn0 ?_
  refine zwr ?_
  refine zpr [] (res1 (zrt rfl)) rfl lz ?_
  refine ⟨pl, rfl, rfl, ?_⟩
  exact ⟨hs, hp⟩

theorem c_monitor_TwoFaced (l : List Sighting) (hok : ∀ x ∈ l, x.l.env.trust.ok) (hlen : l.length ≤ 12) : ACalls Tryz.prog 21 [VR (l.map Sighting.d)] [] fun dd bb => ∃ (pl : List Place), dd = VR ((eachL 3 noV twoQ (filesL l) pl).map Finding.d) ∧ bb = [] ∧ (SortedC cmpP pl ∧ pl.Perm ((filesL l).map (·.1))) := by
  refine zai Tryz.func21 rfl Tryz.ntmps21 (by rw [Tryz.results21]) rfl rfl (fun w0 A0 X => ?_)
  refine zsr ?_
  refine zc rfl (zas has_nil rfl ?_)
  refine zn0 ?_
  refine zsr ?_
  refine zc rfl (zas zhf rfl ?_)
  refine zn0 ?_
  refine zsr ?_
  refine zc rfl (zmv (zt rfl) rfl ?_)
  refine zc rfl (zbd (ps := [(_, _), (_, _)]) (qs := [(_, _), (_, _)]) (zs := [.dat (.int .i64 0), .any]) (pl := [(0, 1), (1, 1)]) (pc (zi zdc) rfl (pc (zt rfl) rfl pz)) zk zk rfl rfl ?_)
  refine zc rfl (zmv (zt rfl) rfl ?_)
  refine zc rfl (zcl zhf (hc (zt rfl) (hc (zt rfl) hz)) (rs := []) (bxs := []) zdc bz (c_each 3 (46) noV twoQ l (by first | assumption | omega | trivial | (simp; done) | (constructor <;> omega)) (by first | assumption | omega | trivial | (simp; done) | (constructor <;> omega)) (fun L _ _ => c_two_1 L)) rfl rfl rfl (fun d b hd hl => ?_))
  obtain ⟨pl, rfl, rfl, ⟨hs, hp⟩⟩ := hd
  refine zc rfl (zas (zt rfl) rfl ?_)
  refine zn0 ?_
  refine zwr ?_
  refine zpr [] (res1 (zrt rfl)) rfl lz ?_
  refine ⟨pl, rfl, rfl, ?_⟩
  exact ⟨hs, hp⟩

end Go.TQ
