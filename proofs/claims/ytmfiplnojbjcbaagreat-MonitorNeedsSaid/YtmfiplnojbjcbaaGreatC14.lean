/- Contracts of functions of the program, each for every input that its hypotheses let in; printed by a program of our own (s14). -/
import Derived.Test.YtmfiplnojbjcbaaGreatP02
set_option linter.unusedVariables false
set_option linter.unusedSimpArgs false
set_option maxRecDepth 10000
set_option maxHeartbeats 4000000
namespace Go.TQ
open Go.Proofs


structure Place where
  node : Int
  slot : Int
  deriving DecidableEq, Inhabited
def Place.d (p : Place) : List Dat := [.int .i64 p.node, .int .i64 p.slot]

theorem c_bits_Len64 (x : Int) (hx : 0 ≤ x ∧ x ≤ 60000) : ACalls Tryz.prog 123 [.one (.dat (.int .u64 x))] [] fun dd bb => ∃ (v : Int), dd = VI v ∧ bb = [] ∧ (0 ≤ v ∧ v ≤ 1000) := by
  refine zai Tryz.func123 rfl Tryz.ntmps123 (by rw [Tryz.results123]) rfl rfl (fun w0 A0 X => ?_)
  refine zsr ?_
  refine zc rfl (zas (zi zdc) rfl ?_)
  refine zn0 ?_
  refine zw2 ?_
  refine zsr ?_
  refine zc rfl (zmv (zt rfl) rfl ?_)
  refine zc rfl (zcm (zt rfl) (zi zdc) rfl rfl ?_)
  refine zn0 ?_
  refine zwc (zt rfl) (fun h1 => ?_) (fun h1 => ?_)
  · skip
    exfalso
    simp only [decide_eq_true_eq] at h1
    omega
  · skip
    have g1 := h1
    try simp only [zbz, List.length_map] at g1
    refine zws ?_
    refine ztn ?_
    refine zw2 ?_
    refine zsr ?_
    refine zc rfl (zmv (zt rfl) rfl ?_)
    refine zc rfl (zcm (zt rfl) (zi zdc) rfl rfl ?_)
    refine zn0 ?_
    refine zwc (zt rfl) (fun h2 => ?_) (fun h2 => ?_)
    · skip
      exfalso
      simp only [decide_eq_true_eq] at h2
      omega
    · skip
      have g2 := h2
      try simp only [zbz, List.length_map] at g2
      refine zws ?_
      refine ztn ?_
      refine zw2 ?_
      refine zsr ?_
      refine zc rfl (zmv (zt rfl) rfl ?_)
      refine zc rfl (zcm (zt rfl) (zi zdc) rfl rfl ?_)
      refine zn0 ?_
      refine zwc (zt rfl) (fun h3 => ?_) (fun h3 => ?_)
      · skip
        have g3 := h3
        try simp only [zbz, List.length_map] at g3
        have hsh : ((x.toNat >>> (8 : Int).toNat : Nat) : Int) < 256 := by show ((x.toNat >>> 8 : Nat) : Int) < 256; rw [Nat.shiftRight_eq_div_pow]; omega
        refine zsr ?_
        refine zc rfl (zmv (zt rfl) rfl ?_)
        refine zc rfl (op_shr (zt rfl) (zi zdc) zom zom (by show _ ≤ 64; omega) rfl ?_)
        refine zc rfl (zas (zt rfl) rfl ?_)
        refine zn0 ?_
        refine zre ?_
        refine zc rfl (zmv (zt rfl) rfl ?_)
        refine zc rfl (zar (zt rfl) (zi zdc) rfl (ink64 zom zom) rfl ?_)
        refine zc rfl (zas (zt rfl) rfl ?_)
        refine zn0 ?_
        refine ztn ?_
        refine zsr ?_
        refine zc rfl (zmv (zt rfl) rfl ?_)
        refine zc rfl (zmv (zt rfl) rfl ?_)
        refine zc rfl (op_convert (k1 := .u64) (k' := .u8) (zt rfl) zk zk (show InK .u8 _ from ⟨by show (0 : Int) ≤ _; first | omega | exact Int.natCast_nonneg _, by show _ ≤ (255 : Int); omega⟩) rfl ?_)
        refine zc rfl (op_indexStr (has_str zdc) (zt rfl) zk zom (by first | (show _ < (256 : Int); omega) | omega) rfl (fun b hb => ?_))
        have hbl := UInt8.toNat_lt b
        refine zc rfl (op_convert (k1 := .u8) (k' := .i64) (zt rfl) zk zk (ink64 zom zom) rfl ?_)
        refine zc rfl (zar (zt rfl) (zt rfl) rfl (ink64 zom zom) rfl ?_)
        refine zc rfl (zas (zt rfl) rfl ?_)
        refine zn0 ?_
        refine zwr ?_
        refine zpr [] (res1 (zrt rfl)) rfl lz ?_
        refine ⟨((0 + 8) + (b.toNat : Int)), rfl, rfl, ?_⟩
        have := b.toNat_lt
        omega
      · skip
        have g3 := h3
        try simp only [zbz, List.length_map] at g3
        refine zws ?_
        refine ztn ?_
        refine zsr ?_
        refine zc rfl (zmv (zt rfl) rfl ?_)
        refine zc rfl (zmv (zt rfl) rfl ?_)
        refine zc rfl (op_convert (k1 := .u64) (k' := .u8) (zt rfl) zk zk (show InK .u8 _ from ⟨by show (0 : Int) ≤ _; first | omega | exact Int.natCast_nonneg _, by show _ ≤ (255 : Int); omega⟩) rfl ?_)
        refine zc rfl (op_indexStr (has_str zdc) (zt rfl) zk zom (by first | (show _ < (256 : Int); omega) | omega) rfl (fun b hb => ?_))
        have hbl := UInt8.toNat_lt b
        refine zc rfl (op_convert (k1 := .u8) (k' := .i64) (zt rfl) zk zk (ink64 zom zom) rfl ?_)
        refine zc rfl (zar (zt rfl) (zt rfl) rfl (ink64 zom zom) rfl ?_)
        refine zc rfl (zas (zt rfl) rfl ?_)
        refine zn0 ?_
        refine awp_le (le_of (ls := [(2, VI (0 + (b.toNat : Int)))]) (bs := []) (ts := []) (sc rfl sz) xz kz) ?_
        refine zwr ?_
        refine zpr [] (res1 (zrt rfl)) rfl lz ?_
        refine ⟨(0 + (b.toNat : Int)), rfl, rfl, ?_⟩
        have := b.toNat_lt
        omega

theorem c_bits_Len (x : Int) (hx : 0 ≤ x ∧ x ≤ 60000) : ACalls Tryz.prog 87 [.one (.dat (.int .u64 x))] [] fun dd bb => ∃ (v : Int), dd = VI v ∧ bb = [] ∧ (0 ≤ v ∧ v ≤ 1000) := by
  refine zai Tryz.func87 rfl Tryz.ntmps87 (by rw [Tryz.results87]) rfl rfl (fun w0 A0 X => ?_)
  refine zsr ?_
  refine zc rfl (zas (zi zdc) rfl ?_)
  refine zn0 ?_
  refine zw2 ?_
  refine zwc zb0 (fun h1 => ?_) (fun h1 => ?_)
  · skip
    cases h1
  · skip
    refine zws ?_
    refine ztn ?_
    refine zsr ?_
    refine zc rfl (zmv (zt rfl) rfl ?_)
    refine zc rfl (zcl zhf (hc (zt rfl) hz) (rs := []) (bxs := []) zdc bz (c_bits_Len64 x (by first | assumption | omega | trivial | (simp; done) | (constructor <;> omega))) rfl rfl rfl (fun d b hd hl => ?_))
    obtain ⟨v, rfl, rfl, hv⟩ := hd
    refine zc rfl (zas (zt rfl) rfl ?_)
    refine zn0 ?_
    refine zwr ?_
    refine zpr [] (res1 (zrt rfl)) rfl lz ?_
    refine ⟨v, rfl, rfl, ?_⟩
    exact hv

theorem c_insCmp_int (c : Int → Int → Int) (ho : OrdC c) (f : FuncId) (l : List Int) (p cap : Nat) (hl : l.length ≤ 12) (hf : ∀ x y : Int, ACalls Tryz.prog f [VI x, VI y] [] fun dd bb => dd = VI (c x y) ∧ bb = []) : ACalls Tryz.prog 158 [.one (.bs (.e 0) 1 l.length cap), VI 0, VI (l.length : Int), .one (.fn f [])] [bsC (iRows l).flatten p] fun dd bb => ∃ (l2 : List Int), dd = .tup [] ∧ bb = [bsC (iRows l2).flatten p] ∧ (SortedC c l2 ∧ l2.Perm l) := by
  refine zai Tryz.func158 rfl Tryz.ntmps158 (by rw [Tryz.results158]) rfl rfl (fun w0 A0 X => ?_)
  refine zsr ?_
  refine zc rfl (zmv (zt rfl) rfl ?_)
  refine zc rfl (zar (zt rfl) (zi zdc) rfl (ink64 zom zom) rfl ?_)
  refine zc rfl (zas (zt rfl) rfl ?_)
  refine zn0 ?_
  refine zwb ?_
  refine awp_loop2 (fs := [(0, _), (1, _), (2, _), (3, _)]) (fb := []) (fun (i : Nat) (data : List Int) => [(8, VI ((i : Nat) : Int))]) (fun (i : Nat) (data : List Int) => [(.e 0, bsC (iRows data).flatten p)]) (fun (i : Nat) (data : List Int) => []) (fun (i : Nat) (data : List Int) => (1 ≤ i ∧ i ≤ max 1 l.length) ∧ (OutI c l data i)) (fun (i : Nat) (data : List Int) => l.length - i) (0 + 1) l (le_of (sc rfl (sc rfl (sc rfl (sc rfl (sc rfl sz))))) (xc rfl xz) kz) ?_ ?_
  · refine ⟨?_, ?_⟩
    · omega
    · exact OutI.begin c l
  · intro i data ⟨hi, hO⟩
    have hdl : data.length = l.length := hO.2.length_eq
    refine zw2 ?_
    refine zsr ?_
    refine zc rfl (zmv (zt rfl) rfl ?_)
    refine zc rfl (zmv (zt rfl) rfl ?_)
    refine zc rfl (zcm (zt rfl) (zt rfl) rfl rfl ?_)
    refine zn0 ?_
    refine awp_le (le_of (ls := [(0, .one (.bs (.e 0) 1 l.length cap)), (1, VI 0), (2, VI (l.length : Int)), (3, .one (.fn f [])), (8, VI ((i : Nat) : Int)), (14, VB (decide (((i : Nat) : Int) < (l.length : Int))))]) (bs := [(.e 0, bsC (iRows data).flatten p)]) (ts := []) (sc rfl (sc rfl (sc rfl (sc rfl (sc rfl (sc rfl sz)))))) (xc rfl xz) kz) ?_
    refine zwc (zt rfl) (fun h1 => ?_) (fun h1 => ?_)
    · skip
      have g1 := h1
      try simp only [zbz, List.length_map] at g1
      refine zws ?_
      refine ztn ?_
      refine zw2 ?_
      refine zwb ?_
      refine zsr ?_
      refine zc rfl (zmv (zt rfl) rfl ?_)
      refine zc rfl (zas (zt rfl) rfl ?_)
      refine zn0 ?_
      refine zwb ?_
      refine awp_loop2 (fs := [(0, _), (1, _), (2, _), (3, _), (8, _)]) (fb := []) (fun (j : Nat) (data1 : List Int) => [(9, VI ((j : Nat) : Int))]) (fun (j : Nat) (data1 : List Int) => [(.e 0, bsC (iRows data1).flatten p)]) (fun (j : Nat) (data1 : List Int) => []) (fun (j : Nat) (data1 : List Int) => (j ≤ i) ∧ (InsI c l data1 i j)) (fun (j : Nat) (data1 : List Int) => j) i data (le_of (sc rfl (sc rfl (sc rfl (sc rfl (sc rfl (sc rfl sz)))))) (xc rfl xz) kz) ?_ ?_
      · refine ⟨?_, ?_⟩
        · omega
        · exact hO.enter (by omega)
      · intro j data1 ⟨hj, hI⟩
        have hdl1 : data1.length = l.length := by obtain ⟨_, _, _, _, _, _, _, _, _, h⟩ := hI; exact h.length_eq
        refine zw2 ?_
        refine awp_seq_drawT zk [] [] [0, 0, 3, 7, 15, 15, 15, 111, 239, 15, 15, 1039, 3599, 7695, 16383, 32767, 65535] rfl
          (Trace.cons ⟨[(9, _)], [], [], [], [], [.slot 18 _]⟩ (prel (lsc rfl lsz) lbz ltz) (fun zs zp zn => (zgp rfl rfl (zmv (zt zp.1.1) rfl rfl))) <|
          Trace.cons ⟨[(1, _)], [], [], [], [], [.slot 19 _]⟩ (prel (lsc rfl lsz) lbz ltz) (fun zs zp zn => (zgp rfl rfl (zmv (zt zp.1.1) rfl rfl))) <|
          Trace.cons ⟨[(18, _), (19, _)], [], [], [], [], [.slot 20 _]⟩ (prel (lsc rfl (lsc rfl lsz)) lbz ltz) (fun zs zp zn => (zgp rfl rfl (zcm (zt zp.1.1) (zt zp.1.2.1) rfl rfl rfl))) <|
          Trace.cons ⟨[(20, _)], [], [], [], [], [.slot 21 _]⟩ (prel (lsc rfl lsz) lbz ltz) (fun zs zp zn => (zgp rfl rfl (zmv (zt zp.1.1) rfl rfl))) <|
          Trace.cons ⟨[(21, _), (3, _)], [], [], [], [], [.slot 22 _]⟩ (prel (lsc rfl (lsc rfl lsz)) lbz ltz) (fun zs zp zn => (zgg rfl rfl rfl rfl rfl (zgb zp.1.1) (fun hg => zmv (zt zp.1.2.1) rfl rfl))) <|
          Trace.cons ⟨[(21, _), (0, _)], [], [], [], [], [.slot 23 _]⟩ (prel (lsc rfl (lsc rfl lsz)) lbz ltz) (fun zs zp zn => (zgg rfl rfl rfl rfl rfl (zgb zp.1.1) (fun hg => zmv (zt zp.1.2.1) rfl rfl))) <|
          Trace.cons ⟨[(21, _), (9, _)], [], [], [], [], [.slot 24 _]⟩ (prel (lsc rfl (lsc rfl lsz)) lbz ltz) (fun zs zp zn => (zgg rfl rfl rfl rfl rfl (zgb zp.1.1) (fun hg => zmv (zt zp.1.2.1) rfl rfl))) <|
          Trace.cons ⟨[(21, _), (23, _), (24, _)], [], [], [], [], [.slot 25 _]⟩ (prel (lsc rfl (lsc rfl (lsc rfl lsz))) lbz ltz) (fun zs zp zn => (zgg rfl rfl rfl rfl rfl (zgb zp.1.1) (fun hg => op_indexAddr_box (e := 3) (kk := 1) (zcd (zt zp.1.2.1) hg) (zcd (zt zp.1.2.2.1) hg) zk (by first | omega | (simp only [zbz, List.length_map, cond_true, cond_false] at hg; omega) | exact Int.natCast_nonneg _ | (simp only [List.length_map] at *; omega) | (simp only [List.length_map]; omega)) (by first | omega | (simp only [zbz, List.length_map, cond_true, cond_false] at hg; omega) | exact Int.natCast_nonneg _ | (simp only [List.length_map] at *; omega) | (simp only [List.length_map]; omega)) rfl rfl))) <|
          Trace.cons ⟨[(21, _), (25, _)], [(.e 0, _)], [], [], [], [.slot 26 _]⟩ (prel (lsc rfl (lsc rfl lsz)) (lbc rfl lbz) ltz) (fun zs zp zn => (zgg rfl rfl rfl rfl rfl (zgb zp.1.1) (fun hg => op_loadRowF (k := 1) (i := j) (j := 0) (zcd (zt zp.1.2.1) hg) zp.2.1.1 (uni_map (f := iRow) (fun _ => rfl) _) (by first | omega | (simp only [zbz, List.length_map, cond_true, cond_false] at hg; omega) | exact Int.natCast_nonneg _ | (simp only [List.length_map] at *; omega) | (simp only [List.length_map]; omega)) (show (iRows data1)[j]? = some (iRow data1[j]!) from map_getD (by first | omega | (simp only [zbz, List.length_map, cond_true, cond_false] at hg; omega) | exact Int.natCast_nonneg _ | (simp only [List.length_map] at *; omega) | (simp only [List.length_map]; omega))) rfl zk rfl rfl))) <|
          Trace.cons ⟨[(21, _), (0, _)], [], [], [], [], [.slot 27 _]⟩ (prel (lsc rfl (lsc rfl lsz)) lbz ltz) (fun zs zp zn => (zgg rfl rfl rfl rfl rfl (zgb zp.1.1) (fun hg => zmv (zt zp.1.2.1) rfl rfl))) <|
          Trace.cons ⟨[(21, _), (9, _)], [], [], [], [], [.slot 28 _]⟩ (prel (lsc rfl (lsc rfl lsz)) lbz ltz) (fun zs zp zn => (zgg rfl rfl rfl rfl rfl (zgb zp.1.1) (fun hg => zmv (zt zp.1.2.1) rfl rfl))) <|
          Trace.cons ⟨[(21, _), (28, _)], [], [], [], [], [.slot 29 _]⟩ (prel (lsc rfl (lsc rfl lsz)) lbz ltz) (fun zs zp zn => (zgg rfl rfl rfl rfl rfl (zgb zp.1.1) (fun hg => zar (zcd (zt zp.1.2.1) hg) (zi zdc) rfl (ink64 (by first | omega | (simp only [zbz, List.length_map, cond_true, cond_false] at hg; omega) | exact Int.natCast_nonneg _ | (simp only [List.length_map] at *; omega) | (simp only [List.length_map]; omega)) (by first | omega | (simp only [zbz, List.length_map, cond_true, cond_false] at hg; omega) | exact Int.natCast_nonneg _ | (simp only [List.length_map] at *; omega) | (simp only [List.length_map]; omega))) rfl rfl))) <|
          Trace.cons ⟨[(21, _), (27, _), (29, _)], [], [], [], [], [.slot 30 _]⟩ (prel (lsc rfl (lsc rfl (lsc rfl lsz))) lbz ltz) (fun zs zp zn => (zgg rfl rfl rfl rfl rfl (zgb zp.1.1) (fun hg => op_indexAddr_box (e := 3) (kk := 1) (zcd (zt zp.1.2.1) hg) (zcd (zt zp.1.2.2.1) hg) zk (by first | omega | (simp only [zbz, List.length_map, cond_true, cond_false] at hg; omega) | exact Int.natCast_nonneg _ | (simp only [List.length_map] at *; omega) | (simp only [List.length_map]; omega)) (by first | omega | (simp only [zbz, List.length_map, cond_true, cond_false] at hg; omega) | exact Int.natCast_nonneg _ | (simp only [List.length_map] at *; omega) | (simp only [List.length_map]; omega)) rfl rfl))) <|
          Trace.cons ⟨[(21, _), (30, _)], [(.e 0, _)], [], [], [], [.slot 31 _]⟩ (prel (lsc rfl (lsc rfl lsz)) (lbc rfl lbz) ltz) (fun zs zp zn => (zgg rfl rfl rfl rfl rfl (zgb zp.1.1) (fun hg => op_loadRowF (k := 1) (i := j - 1) (j := 0) (zcd (zt zp.1.2.1) hg) zp.2.1.1 (uni_map (f := iRow) (fun _ => rfl) _) (by first | omega | (simp only [zbz, List.length_map, cond_true, cond_false] at hg; omega) | exact Int.natCast_nonneg _ | (simp only [List.length_map] at *; omega) | (simp only [List.length_map]; omega)) (show (iRows data1)[j - 1]? = some (iRow data1[j - 1]!) from map_getD (by first | omega | (simp only [zbz, List.length_map, cond_true, cond_false] at hg; omega) | exact Int.natCast_nonneg _ | (simp only [List.length_map] at *; omega) | (simp only [List.length_map]; omega))) rfl zk rfl rfl))) <|
          Trace.cons ⟨[(21, _), (22, _), (26, _), (31, _)], [], [], [], [], [.slot 32 _]⟩ (prel (lsc rfl (lsc rfl (lsc rfl (lsc rfl lsz)))) lbz ltz) (fun zs zp zn => (zgg rfl rfl rfl rfl rfl (zgb zp.1.1) (fun hg => zcl (zcd (zt zp.1.2.1) hg) (hc (zcd (zt zp.1.2.2.1) hg) (hc (zcd (zt zp.1.2.2.2.1) hg) hz)) (rs := []) (bxs := []) zdc bz (hf data1[j]! data1[j - 1]!) rfl rfl rfl (fun d b hd hl => by obtain ⟨rfl, rfl⟩ := hd; rfl)))) <|
          Trace.cons ⟨[(21, _), (32, _)], [], [], [], [], [.slot 33 _]⟩ (prel (lsc rfl (lsc rfl lsz)) lbz ltz) (fun zs zp zn => (zgg rfl rfl rfl rfl rfl (zgb zp.1.1) (fun hg => zcm (zcd (zt zp.1.2.1) hg) (zi zdc) rfl rfl rfl))) <|
          Trace.cons ⟨[(21, _), (33, _)], [], [], [], [], [.slot 34 _]⟩ (prel (lsc rfl (lsc rfl lsz)) lbz ltz) (fun zs zp zn => (zgp rfl rfl (zan (zt zp.1.1) (zt zp.1.2.1) (.inl zb0) rfl rfl))) <|
          Trace.nil) rfl rfl rfl ?_
        refine awp_le (le_of (ls := [(0, .one (.bs (.e 0) 1 l.length cap)), (1, VI 0), (2, VI (l.length : Int)), (3, .one (.fn f [])), (8, VI ((i : Nat) : Int)), (9, VI ((j : Nat) : Int)), (34, VB (decide (0 < ((j : Nat) : Int)) && decide ((c data1[j]! data1[j - 1]!) < 0)))]) (bs := [(.e 0, bsC (iRows data1).flatten p)]) (ts := []) (sc rfl (sc rfl (sc rfl (sc rfl (sc rfl (sc rfl (sc rfl sz))))))) (xc rfl xz) kz) ?_
        refine zwc (zt rfl) (fun h2 => ?_) (fun h2 => ?_)
        · skip
          have g2 := h2
          try simp only [zbz, List.length_map] at g2
          obtain ⟨g3, g4⟩ := g2
          refine zws ?_
          refine ztn ?_
          refine zw2 ?_
          refine zwb ?_
          refine awp_drawT zk [] [] [0, 0, 0, 0, 8, 0, 0, 64, 224, 480, 0, 0, 3072, 7168, 16355, 32739, 65535, 131071] rfl
            (Trace.cons ⟨[(0, _)], [], [], [], [], [.slot 37 _]⟩ (prel (lsc rfl lsz) lbz ltz) (fun zs zp zn => (zgp rfl rfl (zmv (zt zp.1.1) rfl rfl))) <|
            Trace.cons ⟨[(9, _)], [], [], [], [], [.slot 38 _]⟩ (prel (lsc rfl lsz) lbz ltz) (fun zs zp zn => (zgp rfl rfl (zmv (zt zp.1.1) rfl rfl))) <|
            Trace.cons ⟨[(0, _)], [], [], [], [], [.slot 39 _]⟩ (prel (lsc rfl lsz) lbz ltz) (fun zs zp zn => (zgp rfl rfl (zmv (zt zp.1.1) rfl rfl))) <|
            Trace.cons ⟨[(9, _)], [], [], [], [], [.slot 40 _]⟩ (prel (lsc rfl lsz) lbz ltz) (fun zs zp zn => (zgp rfl rfl (zmv (zt zp.1.1) rfl rfl))) <|
            Trace.cons ⟨[(40, _)], [], [], [], [], [.slot 41 _]⟩ (prel (lsc rfl lsz) lbz ltz) (fun zs zp zn => (zgp rfl rfl (zar (zt zp.1.1) (zi zdc) rfl (ink64 zom zom) rfl rfl))) <|
            Trace.cons ⟨[(0, _)], [], [], [], [], [.slot 42 _]⟩ (prel (lsc rfl lsz) lbz ltz) (fun zs zp zn => (zgp rfl rfl (zmv (zt zp.1.1) rfl rfl))) <|
            Trace.cons ⟨[(9, _)], [], [], [], [], [.slot 43 _]⟩ (prel (lsc rfl lsz) lbz ltz) (fun zs zp zn => (zgp rfl rfl (zmv (zt zp.1.1) rfl rfl))) <|
            Trace.cons ⟨[(43, _)], [], [], [], [], [.slot 44 _]⟩ (prel (lsc rfl lsz) lbz ltz) (fun zs zp zn => (zgp rfl rfl (zar (zt zp.1.1) (zi zdc) rfl (ink64 zom zom) rfl rfl))) <|
            Trace.cons ⟨[(42, _), (44, _)], [], [], [], [], [.slot 45 _]⟩ (prel (lsc rfl (lsc rfl lsz)) lbz ltz) (fun zs zp zn => (zgp rfl rfl (op_indexAddr_box (e := 3) (kk := 1) (zt zp.1.1) (zt zp.1.2.1) zk zom zom rfl rfl))) <|
            Trace.cons ⟨[(45, _)], [(.e 0, _)], [], [], [], [.slot 46 _]⟩ (prel (lsc rfl lsz) (lbc rfl lbz) ltz) (fun zs zp zn => (zgp rfl rfl (op_loadRowF (k := 1) (i := j - 1) (j := 0) (zt zp.1.1) zp.2.1.1 (uni_map (f := iRow) (fun _ => rfl) _) zom (show (iRows data1)[j - 1]? = some (iRow data1[j - 1]!) from map_getD zom) rfl zk rfl rfl))) <|
            Trace.cons ⟨[(0, _)], [], [], [], [], [.slot 47 _]⟩ (prel (lsc rfl lsz) lbz ltz) (fun zs zp zn => (zgp rfl rfl (zmv (zt zp.1.1) rfl rfl))) <|
            Trace.cons ⟨[(9, _)], [], [], [], [], [.slot 48 _]⟩ (prel (lsc rfl lsz) lbz ltz) (fun zs zp zn => (zgp rfl rfl (zmv (zt zp.1.1) rfl rfl))) <|
            Trace.cons ⟨[(47, _), (48, _)], [], [], [], [], [.slot 49 _]⟩ (prel (lsc rfl (lsc rfl lsz)) lbz ltz) (fun zs zp zn => (zgp rfl rfl (op_indexAddr_box (e := 3) (kk := 1) (zt zp.1.1) (zt zp.1.2.1) zk zom zom rfl rfl))) <|
            Trace.cons ⟨[(49, _)], [(.e 0, _)], [], [], [], [.slot 50 _]⟩ (prel (lsc rfl lsz) (lbc rfl lbz) ltz) (fun zs zp zn => (zgp rfl rfl (op_loadRowF (k := 1) (i := j) (j := 0) (zt zp.1.1) zp.2.1.1 (uni_map (f := iRow) (fun _ => rfl) _) zom (show (iRows data1)[j]? = some (iRow data1[j]!) from map_getD zom) rfl zk rfl rfl))) <|
            Trace.cons ⟨[(37, _), (38, _)], [], [], [], [], [.slot 51 _]⟩ (prel (lsc rfl (lsc rfl lsz)) lbz ltz) (fun zs zp zn => (zgp rfl rfl (op_indexAddr_box (e := 3) (kk := 1) (zt zp.1.1) (zt zp.1.2.1) zk zom zom rfl rfl))) <|
            Trace.cons ⟨[(51, _), (46, _)], [(.e 0, _)], [], [], [], [.box (.e 0) _]⟩ (prel (lsc rfl (lsc rfl lsz)) (lbc rfl lbz) ltz) (fun zs zp zn => (zgp rfl rfl (op_storeRowM (k := 1) (i := j) (z := data1[j - 1]!) (l := data1) (f := iRow) (zt zp.1.1) zp.2.1.1 (uni_map (f := iRow) (fun _ => rfl) _) zom (by first | omega | (simp only [List.length_set]; omega) | (simp; omega)) (zt zp.1.2.1) rfl rfl rfl (.inr ⟨by kernel_rfl, rfl⟩) rfl))) <|
            Trace.cons ⟨[(39, _), (41, _)], [], [], [], [], [.slot 52 _]⟩ (prel (lsc rfl (lsc rfl lsz)) lbz ltz) (fun zs zp zn => (zgp rfl rfl (op_indexAddr_box (e := 3) (kk := 1) (zt zp.1.1) (zt zp.1.2.1) zk zom zom rfl rfl))) <|
            Trace.cons ⟨[(52, _), (50, _)], [(.e 0, _)], [], [], [], [.box (.e 0) _]⟩ (prel (lsc rfl (lsc rfl lsz)) (lbc rfl lbz) ltz) (fun zs zp zn => (zgp rfl rfl (op_storeRowM (k := 1) (i := (j - 1)) (z := data1[j]!) (l := (data1.set (j) data1[j - 1]!)) (f := iRow) (zt zp.1.1) zp.2.1.1 (uni_map (f := iRow) (fun _ => rfl) _) zom (by first | omega | (simp only [List.length_set]; omega) | (simp; omega)) (zt zp.1.2.1) rfl rfl rfl (.inr ⟨by kernel_rfl, rfl⟩) rfl))) <|
            Trace.nil) rfl rfl rfl ?_
          refine zbn ?_
          refine ztn ?_
          refine zre ?_
          refine zc rfl (zmv (zt rfl) rfl ?_)
          refine zc rfl (zar (zt rfl) (zi zdc) rfl (ink64 zom zom) rfl ?_)
          refine zc rfl (zas (zt rfl) rfl ?_)
          refine zn0 ?_
          refine ztn ?_
          refine ⟨j - 1, ((data1.set (j) data1[j - 1]!).set (j - 1) data1[j]!), ?_, ?_, (le_of (sc rfl (sc rfl (sc rfl (sc rfl (sc rfl (sc (vi_eq rfl zom) sz)))))) (xc (bx_eq rfl (by first | rfl | (simp; done))) xz) kz)⟩
          · refine ⟨?_, ?_⟩
            · omega
            · exact InsI.step ho hI (by omega) g4
          · first | omega | (simp at *; omega)
        · skip
          have g2 := h2
          try simp only [zbz, List.length_map] at g2
          have g3 : j = 0 ∨ ¬ c data1[j]! data1[j - 1]! < 0 := by omega
          refine zwe ?_
          refine zte ?_
          refine zte ?_
          refine zbk ?_
          refine zbn ?_
          refine ztn ?_
          refine zre ?_
          refine zc rfl (zmv (zt rfl) rfl ?_)
          refine zc rfl (zar (zt rfl) (zi zdc) rfl (ink64 zom zom) rfl ?_)
          refine zc rfl (zas (zt rfl) rfl ?_)
          refine zn0 ?_
          refine ztn ?_
          refine ⟨i + 1, data1, ?_, ?_, (le_of (sc rfl (sc rfl (sc rfl (sc rfl (sc rfl sz))))) (xc (bx_eq rfl (by first | rfl | (simp; done))) xz) kz)⟩
          · refine ⟨?_, ?_⟩
            · omega
            · exact InsI.leave ho hI g3
          · first | omega | (simp at *; omega)
    · skip
      have g1 := h1
      try simp only [zbz, List.length_map] at g1
      refine zwe ?_
      refine zte ?_
      refine zte ?_
      refine zbk ?_
      refine post_normal [_] (res0) (show _ = 1 from rfl) (l1 rfl) ?_
      refine ⟨data, rfl, rfl, ?_⟩
      exact hO.last (by omega)

theorem c_pdqCmp_int (c : Int → Int → Int) (ho : OrdC c) (f : FuncId) (l : List Int) (p cap : Nat) (lim : Int) (hl : l.length ≤ 12) (hf : ∀ x y : Int, ACalls Tryz.prog f [VI x, VI y] [] fun dd bb => dd = VI (c x y) ∧ bb = []) : ACalls Tryz.prog 143 [.one (.bs (.e 0) 1 l.length cap), VI 0, VI (l.length : Int), VI lim, .one (.fn f [])] [bsC (iRows l).flatten p] fun dd bb => ∃ (l2 : List Int), dd = .tup [] ∧ bb = [bsC (iRows l2).flatten p] ∧ (SortedC c l2 ∧ l2.Perm l) := by
  refine zai Tryz.func143 rfl Tryz.ntmps143 (by rw [Tryz.results143]) rfl rfl (fun w0 A0 X => ?_)
  refine zsr ?_
  refine zc rfl (zas zb0 rfl ?_)
  refine zn0 ?_
  refine zsr ?_
  refine zc rfl (zas zb0 rfl ?_)
  refine zn0 ?_
  refine zwb ?_
  refine zlp (fs := [(0, _), (1, _), (2, _), (3, _), (4, _), (10, _), (11, _)]) (fb := [(.e 0, _)]) (fun (u0 : Unit) => []) (fun (u0 : Unit) => []) (fun (u0 : Unit) => []) (fun (u0 : Unit) => True) (fun (u0 : Unit) => 0) () (le_of (sc rfl (sc rfl (sc rfl (sc rfl (sc rfl (sc rfl (sc rfl sz))))))) (xc rfl xz) kz) ?_ ?_
  · exact trivial
  · intro u0 _
    refine zwb ?_
    refine zsr ?_
    refine zc rfl (zmv (zt rfl) rfl ?_)
    refine zc rfl (zmv (zt rfl) rfl ?_)
    refine zc rfl (zar (zt rfl) (zt rfl) rfl (ink64 zom zom) rfl ?_)
    refine zc rfl (zas (zt rfl) rfl ?_)
    refine zn0 ?_
    refine zw2 ?_
    refine zsr ?_
    refine zc rfl (zmv (zt rfl) rfl ?_)
    refine zc rfl (zcm (zt rfl) (zi zdc) rfl rfl ?_)
    refine zn0 ?_
    refine zwc (zt rfl) (fun h1 => ?_) (fun h1 => ?_)
    · skip
      have g1 := h1
      try simp only [zbz, List.length_map] at g1
      refine zsr ?_
      refine zc rfl (zmv (zt rfl) rfl ?_)
      refine zc rfl (zmv (zt rfl) rfl ?_)
      refine zc rfl (zmv (zt rfl) rfl ?_)
      refine zc rfl (zmv (zt rfl) rfl ?_)
      refine zc rfl (zcl zhf (hc (zt rfl) (hc (zt rfl) (hc (zt rfl) (hc (zt rfl) hz)))) (rs := [.e 0]) (bxs := [_]) zdc (bc rfl bz) (c_insCmp_int c ho f l p cap (by first | assumption | omega | trivial | (simp; done) | (constructor <;> omega)) hf) rfl (by first | rfl | (simp only [List.map_cons, List.map_nil, bsC_callee]; done) | (simp only [List.map_cons, List.map_nil, bsC_callee]; rfl)) rfl (fun d b hd hl => ?_))
      obtain ⟨l2, rfl, rfl, ⟨hs, hp⟩⟩ := hd
      refine aops_le (le_bxeq (r := .e 0) (cs' := bsC (iRows l2).flatten p) rfl (bsC_caller _ _ _).symm) ?_
      refine zn0 ?_
      refine awp_le (le_of (ls := []) (bs := [(.e 0, bsC (iRows l2).flatten p)]) (ts := []) sz (xc rfl xz) kz) ?_
      refine zwr ?_
      refine ztr ?_
      refine blk_ret ?_
      refine ztr ?_
      refine blk_ret ?_
      refine zpr [_] (res0) (show _ = 1 from rfl) (l1 rfl) ?_
      refine ⟨l2, rfl, rfl, ?_⟩
      exact ⟨by assumption, by assumption⟩
    · skip
      exfalso
      simp only [decide_eq_false_iff_not] at h1
      omega

theorem c_SortFunc_int (c : Int → Int → Int) (ho : OrdC c) (f : FuncId) (l : List Int) (p cap : Nat) (hl : l.length ≤ 12) (hf : ∀ x y : Int, ACalls Tryz.prog f [VI x, VI y] [] fun dd bb => dd = VI (c x y) ∧ bb = []) : ACalls Tryz.prog 127 [.one (.bs (.e 0) 1 l.length cap), .one (.fn f [])] [bsC (iRows l).flatten p] fun dd bb => ∃ (l2 : List Int), dd = .tup [] ∧ bb = [bsC (iRows l2).flatten p] ∧ (SortedC c l2 ∧ l2.Perm l) := by
  refine zai Tryz.func127 rfl Tryz.ntmps127 (by rw [Tryz.results127]) rfl rfl (fun w0 A0 X => ?_)
  refine zsr ?_
  refine zc rfl (zmv (zt rfl) rfl ?_)
  refine zc rfl (op_len_bs (e := 3) (n := 1) (zt rfl) zk rfl (fun hl6 => ?_))
  try simp only [List.length_map] at hl6
  refine zc rfl (zas (zt rfl) rfl ?_)
  refine zn0 ?_
  refine zre ?_
  refine zc rfl (zmv (zt rfl) rfl ?_)
  refine zc rfl (zmv (zt rfl) rfl ?_)
  refine zc rfl (zmv (zt rfl) rfl ?_)
  refine zc rfl (op_convert (k1 := .i64) (k' := .u64) (zt rfl) zk zk (inU zom zom) rfl ?_)
  refine zc rfl (zcl zhf (hc (zt rfl) hz) (rs := []) (bxs := []) zdc bz (c_bits_Len (l.length : Int) (by first | assumption | omega | trivial | (simp; done) | (constructor <;> omega))) rfl rfl rfl (fun d b hd hl => ?_))
  obtain ⟨v, rfl, rfl, hv⟩ := hd
  refine zc rfl (zmv (zt rfl) rfl ?_)
  refine zc rfl (zcl zhf (hc (zt rfl) (hc (zi zdc) (hc (zt rfl) (hc (zt rfl) (hc (zt rfl) hz))))) (rs := [.e 0]) (bxs := [_]) zdc (bc rfl bz) (c_pdqCmp_int c ho f l p cap v (by first | assumption | omega | trivial | (simp; done) | (constructor <;> omega)) hf) rfl (by first | rfl | (simp only [List.map_cons, List.map_nil, bsC_callee]; done) | (simp only [List.map_cons, List.map_nil, bsC_callee]; rfl)) rfl (fun d b hd hl => ?_))
  obtain ⟨l2, rfl, rfl, ⟨hs, hp⟩⟩ := hd
  refine aops_le (le_bxeq (r := .e 0) (cs' := bsC (iRows l2).flatten p) rfl (bsC_caller _ _ _).symm) ?_
  refine zn0 ?_
  refine post_normal [_] (res0) (show _ = 1 from rfl) (l1 rfl) ?_
  refine ⟨l2, rfl, rfl, ?_⟩
  exact ⟨by assumption, by assumption⟩

theorem c_insCmp0_int (f : FuncId) : ACalls Tryz.prog 158 [VR [], VI 0, VI 0, .one (.fn f [])] [] fun dd bb => dd = .tup [] ∧ bb = [] := by
  refine zai Tryz.func158 rfl Tryz.ntmps158 (by rw [Tryz.results158]) rfl rfl (fun w0 A0 X => ?_)
  refine zsr ?_
  refine zc rfl (zmv (zt rfl) rfl ?_)
  refine zc rfl (zar (zt rfl) (zi zdc) rfl (ink64 zom zom) rfl ?_)
  refine zc rfl (zas (zt rfl) rfl ?_)
  refine zn0 ?_
  refine zwb ?_
  refine zlp (fs := [(0, _), (1, _), (2, _), (3, _), (8, _)]) (fb := []) (fun (u0 : Unit) => []) (fun (u0 : Unit) => []) (fun (u0 : Unit) => []) (fun (u0 : Unit) => True) (fun (u0 : Unit) => 0) () (le_of (sc rfl (sc rfl (sc rfl (sc rfl (sc rfl sz))))) xz kz) ?_ ?_
  · exact trivial
  · intro u0 _
    refine zw2 ?_
    refine zsr ?_
    refine zc rfl (zmv (zt rfl) rfl ?_)
    refine zc rfl (zmv (zt rfl) rfl ?_)
    refine zc rfl (zcm (zt rfl) (zt rfl) rfl rfl ?_)
    refine zn0 ?_
    refine zwc (zt rfl) (fun h1 => ?_) (fun h1 => ?_)
    · skip
      cases h1
    · skip
      refine zwe ?_
      refine zte ?_
      refine zte ?_
      refine zbk ?_
      refine post_normal [] (res0) rfl lz ?_
      exact ⟨rfl, rfl⟩

theorem c_pdqCmp0_int (f : FuncId) (lim : Int) : ACalls Tryz.prog 143 [VR [], VI 0, VI 0, VI lim, .one (.fn f [])] [] fun dd bb => dd = .tup [] ∧ bb = [] := by
  refine zai Tryz.func143 rfl Tryz.ntmps143 (by rw [Tryz.results143]) rfl rfl (fun w0 A0 X => ?_)
  refine zsr ?_
  refine zc rfl (zas zb0 rfl ?_)
  refine zn0 ?_
  refine zsr ?_
  refine zc rfl (zas zb0 rfl ?_)
  refine zn0 ?_
  refine zwb ?_
  refine zlp (fs := [(0, _), (1, _), (2, _), (3, _), (4, _), (10, _), (11, _)]) (fb := []) (fun (u0 : Unit) => []) (fun (u0 : Unit) => []) (fun (u0 : Unit) => []) (fun (u0 : Unit) => True) (fun (u0 : Unit) => 0) () (le_of (sc rfl (sc rfl (sc rfl (sc rfl (sc rfl (sc rfl (sc rfl sz))))))) xz kz) ?_ ?_
  · exact trivial
  · intro u0 _
    refine zwb ?_
    refine zsr ?_
    refine zc rfl (zmv (zt rfl) rfl ?_)
    refine zc rfl (zmv (zt rfl) rfl ?_)
    refine zc rfl (zar (zt rfl) (zt rfl) rfl (ink64 zom zom) rfl ?_)
    refine zc rfl (zas (zt rfl) rfl ?_)
    refine zn0 ?_
    refine zw2 ?_
    refine zsr ?_
    refine zc rfl (zmv (zt rfl) rfl ?_)
    refine zc rfl (zcm (zt rfl) (zi zdc) rfl rfl ?_)
    refine zn0 ?_
    refine zwc (zt rfl) (fun h1 => ?_) (fun h1 => ?_)
    · skip
      have g1 := h1
      try simp only [zbz, List.length_map] at g1
      refine zsr ?_
      refine zc rfl (zmv (zt rfl) rfl ?_)
      refine zc rfl (zmv (zt rfl) rfl ?_)
      refine zc rfl (zmv (zt rfl) rfl ?_)
      refine zc rfl (zmv (zt rfl) rfl ?_)
      refine zc rfl (zcl zhf (hc (zt rfl) (hc (zt rfl) (hc (zt rfl) (hc (zt rfl) hz)))) (rs := []) (bxs := []) zdc bz (c_insCmp0_int f) rfl rfl rfl (fun d b hd hl => ?_))
      obtain ⟨rfl, rfl⟩ := hd
      refine zn0 ?_
      refine awp_le (le_of (ls := []) (bs := []) (ts := []) sz xz kz) ?_
      refine zwr ?_
      refine ztr ?_
      refine blk_ret ?_
      refine ztr ?_
      refine blk_ret ?_
      refine zpr [] (res0) rfl lz ?_
      exact ⟨rfl, rfl⟩
    · skip
      cases h1

theorem c_SortFunc0_int (f : FuncId) : ACalls Tryz.prog 127 [VR [], .one (.fn f [])] [] fun dd bb => dd = .tup [] ∧ bb = [] := by
  refine zai Tryz.func127 rfl Tryz.ntmps127 (by rw [Tryz.results127]) rfl rfl (fun w0 A0 X => ?_)
  refine zsr ?_
  refine zc rfl (zmv (zt rfl) rfl ?_)
  refine zc rfl (zln (e := 3) (n := 1) (zt rfl) rfl zk rfl (fun hl6 => ?_))
  try simp only [List.length_map] at hl6
  refine zc rfl (zas (zt rfl) rfl ?_)
  refine zn0 ?_
  refine zre ?_
  refine zc rfl (zmv (zt rfl) rfl ?_)
  refine zc rfl (zmv (zt rfl) rfl ?_)
  refine zc rfl (zmv (zt rfl) rfl ?_)
  refine zc rfl (op_convert (k1 := .i64) (k' := .u64) (zt rfl) zk zk (inU zom zom) rfl ?_)
  refine zc rfl (zcl zhf (hc (zt rfl) hz) (rs := []) (bxs := []) zdc bz (c_bits_Len ((iRows []).length : Int) (by first | assumption | omega | trivial | (simp; done) | (constructor <;> omega))) rfl rfl rfl (fun d b hd hl => ?_))
  obtain ⟨v, rfl, rfl, hv⟩ := hd
  refine zc rfl (zmv (zt rfl) rfl ?_)
  refine zc rfl (zcl zhf (hc (zt rfl) (hc (zi zdc) (hc (zt rfl) (hc (zt rfl) (hc (zt rfl) hz))))) (rs := []) (bxs := []) zdc bz (c_pdqCmp0_int f _) rfl rfl rfl (fun d b hd hl => ?_))
  obtain ⟨rfl, rfl⟩ := hd
  refine zn0 ?_
  refine post_normal [] (res0) rfl lz ?_
  exact ⟨rfl, rfl⟩

theorem c_insCmp_place (c : Place → Place → Int) (ho : OrdC c) (f : FuncId) (l : List Place) (p cap : Nat) (hl : l.length ≤ 12) (hf : ∀ x y : Place, ACalls Tryz.prog f [.aggd (x).d, .aggd (y).d] [] fun dd bb => dd = VI (c x y) ∧ bb = []) : ACalls Tryz.prog 114 [.one (.bs (.e 0) 2 l.length cap), VI 0, VI (l.length : Int), .one (.fn f [])] [bsC (l.map Place.d).flatten p] fun dd bb => ∃ (l2 : List Place), dd = .tup [] ∧ bb = [bsC (l2.map Place.d).flatten p] ∧ (SortedC c l2 ∧ l2.Perm l) := by
  refine zai Tryz.func114 rfl Tryz.ntmps114 (by rw [Tryz.results114]) rfl rfl (fun w0 A0 X => ?_)
  refine zsr ?_
  refine zc rfl (zmv (zt rfl) rfl ?_)
  refine zc rfl (zar (zt rfl) (zi zdc) rfl (ink64 zom zom) rfl ?_)
  refine zc rfl (zas (zt rfl) rfl ?_)
  refine zn0 ?_
  refine zwb ?_
  refine awp_loop2 (fs := [(0, _), (1, _), (2, _), (3, _)]) (fb := []) (fun (i : Nat) (data : List Place) => [(8, VI ((i : Nat) : Int))]) (fun (i : Nat) (data : List Place) => [(.e 0, bsC (data.map Place.d).flatten p)]) (fun (i : Nat) (data : List Place) => []) (fun (i : Nat) (data : List Place) => (1 ≤ i ∧ i ≤ max 1 l.length) ∧ (OutI c l data i)) (fun (i : Nat) (data : List Place) => l.length - i) (0 + 1) l (le_of (sc rfl (sc rfl (sc rfl (sc rfl (sc rfl sz))))) (xc rfl xz) kz) ?_ ?_
  · refine ⟨?_, ?_⟩
    · omega
    · exact OutI.begin c l
  · intro i data ⟨hi, hO⟩
    have hdl : data.length = l.length := hO.2.length_eq
    refine zw2 ?_
    refine zsr ?_
    refine zc rfl (zmv (zt rfl) rfl ?_)
    refine zc rfl (zmv (zt rfl) rfl ?_)
    refine zc rfl (zcm (zt rfl) (zt rfl) rfl rfl ?_)
    refine zn0 ?_
    refine awp_le (le_of (ls := [(0, .one (.bs (.e 0) 2 l.length cap)), (1, VI 0), (2, VI (l.length : Int)), (3, .one (.fn f [])), (8, VI ((i : Nat) : Int)), (14, VB (decide (((i : Nat) : Int) < (l.length : Int))))]) (bs := [(.e 0, bsC (data.map Place.d).flatten p)]) (ts := []) (sc rfl (sc rfl (sc rfl (sc rfl (sc rfl (sc rfl sz)))))) (xc rfl xz) kz) ?_
    refine zwc (zt rfl) (fun h1 => ?_) (fun h1 => ?_)
    · skip
      have g1 := h1
      try simp only [zbz, List.length_map] at g1
      refine zws ?_
      refine ztn ?_
      refine zw2 ?_
      refine zwb ?_
      refine zsr ?_
      refine zc rfl (zmv (zt rfl) rfl ?_)
      refine zc rfl (zas (zt rfl) rfl ?_)
      refine zn0 ?_
      refine zwb ?_
      refine awp_loop2 (fs := [(0, _), (1, _), (2, _), (3, _), (8, _)]) (fb := []) (fun (j : Nat) (data1 : List Place) => [(9, VI ((j : Nat) : Int))]) (fun (j : Nat) (data1 : List Place) => [(.e 0, bsC (data1.map Place.d).flatten p)]) (fun (j : Nat) (data1 : List Place) => []) (fun (j : Nat) (data1 : List Place) => (j ≤ i) ∧ (InsI c l data1 i j)) (fun (j : Nat) (data1 : List Place) => j) i data (le_of (sc rfl (sc rfl (sc rfl (sc rfl (sc rfl (sc rfl sz)))))) (xc rfl xz) kz) ?_ ?_
      · refine ⟨?_, ?_⟩
        · omega
        · exact hO.enter (by omega)
      · intro j data1 ⟨hj, hI⟩
        have hdl1 : data1.length = l.length := by obtain ⟨_, _, _, _, _, _, _, _, _, h⟩ := hI; exact h.length_eq
        refine zw2 ?_
        refine awp_seq_drawT zk [] [] [0, 0, 3, 7, 15, 15, 15, 111, 239, 15, 15, 1039, 3599, 7695, 16383, 32767, 65535] rfl
          (Trace.cons ⟨[(9, _)], [], [], [], [], [.slot 18 _]⟩ (prel (lsc rfl lsz) lbz ltz) (fun zs zp zn => (zgp rfl rfl (zmv (zt zp.1.1) rfl rfl))) <|
          Trace.cons ⟨[(1, _)], [], [], [], [], [.slot 19 _]⟩ (prel (lsc rfl lsz) lbz ltz) (fun zs zp zn => (zgp rfl rfl (zmv (zt zp.1.1) rfl rfl))) <|
          Trace.cons ⟨[(18, _), (19, _)], [], [], [], [], [.slot 20 _]⟩ (prel (lsc rfl (lsc rfl lsz)) lbz ltz) (fun zs zp zn => (zgp rfl rfl (zcm (zt zp.1.1) (zt zp.1.2.1) rfl rfl rfl))) <|
          Trace.cons ⟨[(20, _)], [], [], [], [], [.slot 21 _]⟩ (prel (lsc rfl lsz) lbz ltz) (fun zs zp zn => (zgp rfl rfl (zmv (zt zp.1.1) rfl rfl))) <|
          Trace.cons ⟨[(21, _), (3, _)], [], [], [], [], [.slot 22 _]⟩ (prel (lsc rfl (lsc rfl lsz)) lbz ltz) (fun zs zp zn => (zgg rfl rfl rfl rfl rfl (zgb zp.1.1) (fun hg => zmv (zt zp.1.2.1) rfl rfl))) <|
          Trace.cons ⟨[(21, _), (0, _)], [], [], [], [], [.slot 23 _]⟩ (prel (lsc rfl (lsc rfl lsz)) lbz ltz) (fun zs zp zn => (zgg rfl rfl rfl rfl rfl (zgb zp.1.1) (fun hg => zmv (zt zp.1.2.1) rfl rfl))) <|
          Trace.cons ⟨[(21, _), (9, _)], [], [], [], [], [.slot 24 _]⟩ (prel (lsc rfl (lsc rfl lsz)) lbz ltz) (fun zs zp zn => (zgg rfl rfl rfl rfl rfl (zgb zp.1.1) (fun hg => zmv (zt zp.1.2.1) rfl rfl))) <|
          Trace.cons ⟨[(21, _), (23, _), (24, _)], [], [], [], [], [.slot 25 _]⟩ (prel (lsc rfl (lsc rfl (lsc rfl lsz))) lbz ltz) (fun zs zp zn => (zgg rfl rfl rfl rfl rfl (zgb zp.1.1) (fun hg => op_indexAddr_box (e := 74) (kk := 2) (zcd (zt zp.1.2.1) hg) (zcd (zt zp.1.2.2.1) hg) zk (by first | omega | (simp only [zbz, List.length_map, cond_true, cond_false] at hg; omega) | exact Int.natCast_nonneg _ | (simp only [List.length_map] at *; omega) | (simp only [List.length_map]; omega)) (by first | omega | (simp only [zbz, List.length_map, cond_true, cond_false] at hg; omega) | exact Int.natCast_nonneg _ | (simp only [List.length_map] at *; omega) | (simp only [List.length_map]; omega)) rfl rfl))) <|
          Trace.cons ⟨[(21, _), (25, _)], [(.e 0, _)], [], [], [], [.slot 26 _]⟩ (prel (lsc rfl (lsc rfl lsz)) (lbc rfl lbz) ltz) (fun zs zp zn => (zgg rfl rfl rfl rfl rfl (zgb zp.1.1) (fun hg => op_loadRow (k := 2) (i := j) (zcd (zt zp.1.2.1) hg) zp.2.1.1 (uni_map (f := Place.d) (fun _ => rfl) _) (by first | omega | (simp only [zbz, List.length_map, cond_true, cond_false] at hg; omega) | exact Int.natCast_nonneg _ | (simp only [List.length_map] at *; omega) | (simp only [List.length_map]; omega)) (show (data1.map Place.d)[j]? = some (data1[j]!.d) from map_getD (by first | omega | (simp only [zbz, List.length_map, cond_true, cond_false] at hg; omega) | exact Int.natCast_nonneg _ | (simp only [List.length_map] at *; omega) | (simp only [List.length_map]; omega))) zk rfl rfl))) <|
          Trace.cons ⟨[(21, _), (0, _)], [], [], [], [], [.slot 27 _]⟩ (prel (lsc rfl (lsc rfl lsz)) lbz ltz) (fun zs zp zn => (zgg rfl rfl rfl rfl rfl (zgb zp.1.1) (fun hg => zmv (zt zp.1.2.1) rfl rfl))) <|
          Trace.cons ⟨[(21, _), (9, _)], [], [], [], [], [.slot 28 _]⟩ (prel (lsc rfl (lsc rfl lsz)) lbz ltz) (fun zs zp zn => (zgg rfl rfl rfl rfl rfl (zgb zp.1.1) (fun hg => zmv (zt zp.1.2.1) rfl rfl))) <|
          Trace.cons ⟨[(21, _), (28, _)], [], [], [], [], [.slot 29 _]⟩ (prel (lsc rfl (lsc rfl lsz)) lbz ltz) (fun zs zp zn => (zgg rfl rfl rfl rfl rfl (zgb zp.1.1) (fun hg => zar (zcd (zt zp.1.2.1) hg) (zi zdc) rfl (ink64 (by first | omega | (simp only [zbz, List.length_map, cond_true, cond_false] at hg; omega) | exact Int.natCast_nonneg _ | (simp only [List.length_map] at *; omega) | (simp only [List.length_map]; omega)) (by first | omega | (simp only [zbz, List.length_map, cond_true, cond_false] at hg; omega) | exact Int.natCast_nonneg _ | (simp only [List.length_map] at *; omega) | (simp only [List.length_map]; omega))) rfl rfl))) <|
          Trace.cons ⟨[(21, _), (27, _), (29, _)], [], [], [], [], [.slot 30 _]⟩ (prel (lsc rfl (lsc rfl (lsc rfl lsz))) lbz ltz) (fun zs zp zn => (zgg rfl rfl rfl rfl rfl (zgb zp.1.1) (fun hg => op_indexAddr_box (e := 74) (kk := 2) (zcd (zt zp.1.2.1) hg) (zcd (zt zp.1.2.2.1) hg) zk (by first | omega | (simp only [zbz, List.length_map, cond_true, cond_false] at hg; omega) | exact Int.natCast_nonneg _ | (simp only [List.length_map] at *; omega) | (simp only [List.length_map]; omega)) (by first | omega | (simp only [zbz, List.length_map, cond_true, cond_false] at hg; omega) | exact Int.natCast_nonneg _ | (simp only [List.length_map] at *; omega) | (simp only [List.length_map]; omega)) rfl rfl))) <|
          Trace.cons ⟨[(21, _), (30, _)], [(.e 0, _)], [], [], [], [.slot 31 _]⟩ (prel (lsc rfl (lsc rfl lsz)) (lbc rfl lbz) ltz) (fun zs zp zn => (zgg rfl rfl rfl rfl rfl (zgb zp.1.1) (fun hg => op_loadRow (k := 2) (i := j - 1) (zcd (zt zp.1.2.1) hg) zp.2.1.1 (uni_map (f := Place.d) (fun _ => rfl) _) (by first | omega | (simp only [zbz, List.length_map, cond_true, cond_false] at hg; omega) | exact Int.natCast_nonneg _ | (simp only [List.length_map] at *; omega) | (simp only [List.length_map]; omega)) (show (data1.map Place.d)[j - 1]? = some (data1[j - 1]!.d) from map_getD (by first | omega | (simp only [zbz, List.length_map, cond_true, cond_false] at hg; omega) | exact Int.natCast_nonneg _ | (simp only [List.length_map] at *; omega) | (simp only [List.length_map]; omega))) zk rfl rfl))) <|
          Trace.cons ⟨[(21, _), (22, _), (26, _), (31, _)], [], [], [], [], [.slot 32 _]⟩ (prel (lsc rfl (lsc rfl (lsc rfl (lsc rfl lsz)))) lbz ltz) (fun zs zp zn => (zgg rfl rfl rfl rfl rfl (zgb zp.1.1) (fun hg => zcl (zcd (zt zp.1.2.1) hg) (hc (zcd (zt zp.1.2.2.1) hg) (hc (zcd (zt zp.1.2.2.2.1) hg) hz)) (rs := []) (bxs := []) zdc bz (hf data1[j]! data1[j - 1]!) rfl rfl rfl (fun d b hd hl => by obtain ⟨rfl, rfl⟩ := hd; rfl)))) <|
          Trace.cons ⟨[(21, _), (32, _)], [], [], [], [], [.slot 33 _]⟩ (prel (lsc rfl (lsc rfl lsz)) lbz ltz) (fun zs zp zn => (zgg rfl rfl rfl rfl rfl (zgb zp.1.1) (fun hg => zcm (zcd (zt zp.1.2.1) hg) (zi zdc) rfl rfl rfl))) <|
          Trace.cons ⟨[(21, _), (33, _)], [], [], [], [], [.slot 34 _]⟩ (prel (lsc rfl (lsc rfl lsz)) lbz ltz) (fun zs zp zn => (zgp rfl rfl (zan (zt zp.1.1) (zt zp.1.2.1) (.inl zb0) rfl rfl))) <|
          Trace.nil) rfl rfl rfl ?_
        refine awp_le (le_of (ls := [(0, .one (.bs (.e 0) 2 l.length cap)), (1, VI 0), (2, VI (l.length : Int)), (3, .one (.fn f [])), (8, VI ((i : Nat) : Int)), (9, VI ((j : Nat) : Int)), (34, VB (decide (0 < ((j : Nat) : Int)) && decide ((c data1[j]! data1[j - 1]!) < 0)))]) (bs := [(.e 0, bsC (data1.map Place.d).flatten p)]) (ts := []) (sc rfl (sc rfl (sc rfl (sc rfl (sc rfl (sc rfl (sc rfl sz))))))) (xc rfl xz) kz) ?_
        refine zwc (zt rfl) (fun h2 => ?_) (fun h2 => ?_)
        · skip
          have g2 := h2
          try simp only [zbz, List.length_map] at g2
          obtain ⟨g3, g4⟩ := g2
          refine zws ?_
          refine ztn ?_
          refine zw2 ?_
          refine zwb ?_
          refine awp_drawT zk [] [] [0, 0, 0, 0, 8, 0, 0, 64, 224, 480, 0, 0, 3072, 7168, 16355, 32739, 65535, 131071] rfl
            (Trace.cons ⟨[(0, _)], [], [], [], [], [.slot 37 _]⟩ (prel (lsc rfl lsz) lbz ltz) (fun zs zp zn => (zgp rfl rfl (zmv (zt zp.1.1) rfl rfl))) <|
            Trace.cons ⟨[(9, _)], [], [], [], [], [.slot 38 _]⟩ (prel (lsc rfl lsz) lbz ltz) (fun zs zp zn => (zgp rfl rfl (zmv (zt zp.1.1) rfl rfl))) <|
            Trace.cons ⟨[(0, _)], [], [], [], [], [.slot 39 _]⟩ (prel (lsc rfl lsz) lbz ltz) (fun zs zp zn => (zgp rfl rfl (zmv (zt zp.1.1) rfl rfl))) <|
            Trace.cons ⟨[(9, _)], [], [], [], [], [.slot 40 _]⟩ (prel (lsc rfl lsz) lbz ltz) (fun zs zp zn => (zgp rfl rfl (zmv (zt zp.1.1) rfl rfl))) <|
            Trace.cons ⟨[(40, _)], [], [], [], [], [.slot 41 _]⟩ (prel (lsc rfl lsz) lbz ltz) (fun zs zp zn => (zgp rfl rfl (zar (zt zp.1.1) (zi zdc) rfl (ink64 zom zom) rfl rfl))) <|
            Trace.cons ⟨[(0, _)], [], [], [], [], [.slot 42 _]⟩ (prel (lsc rfl lsz) lbz ltz) (fun zs zp zn => (zgp rfl rfl (zmv (zt zp.1.1) rfl rfl))) <|
            Trace.cons ⟨[(9, _)], [], [], [], [], [.slot 43 _]⟩ (prel (lsc rfl lsz) lbz ltz) (fun zs zp zn => (zgp rfl rfl (zmv (zt zp.1.1) rfl rfl))) <|
            Trace.cons ⟨[(43, _)], [], [], [], [], [.slot 44 _]⟩ (prel (lsc rfl lsz) lbz ltz) (fun zs zp zn => (zgp rfl rfl (zar (zt zp.1.1) (zi zdc) rfl (ink64 zom zom) rfl rfl))) <|
            Trace.cons ⟨[(42, _), (44, _)], [], [], [], [], [.slot 45 _]⟩ (prel (lsc rfl (lsc rfl lsz)) lbz ltz) (fun zs zp zn => (zgp rfl rfl (op_indexAddr_box (e := 74) (kk := 2) (zt zp.1.1) (zt zp.1.2.1) zk zom zom rfl rfl))) <|
            Trace.cons ⟨[(45, _)], [(.e 0, _)], [], [], [], [.slot 46 _]⟩ (prel (lsc rfl lsz) (lbc rfl lbz) ltz) (fun zs zp zn => (zgp rfl rfl (op_loadRow (k := 2) (i := j - 1) (zt zp.1.1) zp.2.1.1 (uni_map (f := Place.d) (fun _ => rfl) _) zom (show (data1.map Place.d)[j - 1]? = some (data1[j - 1]!.d) from map_getD zom) zk rfl rfl))) <|
            Trace.cons ⟨[(0, _)], [], [], [], [], [.slot 47 _]⟩ (prel (lsc rfl lsz) lbz ltz) (fun zs zp zn => (zgp rfl rfl (zmv (zt zp.1.1) rfl rfl))) <|
            Trace.cons ⟨[(9, _)], [], [], [], [], [.slot 48 _]⟩ (prel (lsc rfl lsz) lbz ltz) (fun zs zp zn => (zgp rfl rfl (zmv (zt zp.1.1) rfl rfl))) <|
            Trace.cons ⟨[(47, _), (48, _)], [], [], [], [], [.slot 49 _]⟩ (prel (lsc rfl (lsc rfl lsz)) lbz ltz) (fun zs zp zn => (zgp rfl rfl (op_indexAddr_box (e := 74) (kk := 2) (zt zp.1.1) (zt zp.1.2.1) zk zom zom rfl rfl))) <|
            Trace.cons ⟨[(49, _)], [(.e 0, _)], [], [], [], [.slot 50 _]⟩ (prel (lsc rfl lsz) (lbc rfl lbz) ltz) (fun zs zp zn => (zgp rfl rfl (op_loadRow (k := 2) (i := j) (zt zp.1.1) zp.2.1.1 (uni_map (f := Place.d) (fun _ => rfl) _) zom (show (data1.map Place.d)[j]? = some (data1[j]!.d) from map_getD zom) zk rfl rfl))) <|
            Trace.cons ⟨[(37, _), (38, _)], [], [], [], [], [.slot 51 _]⟩ (prel (lsc rfl (lsc rfl lsz)) lbz ltz) (fun zs zp zn => (zgp rfl rfl (op_indexAddr_box (e := 74) (kk := 2) (zt zp.1.1) (zt zp.1.2.1) zk zom zom rfl rfl))) <|
            Trace.cons ⟨[(51, _), (46, _)], [(.e 0, _)], [], [], [], [.box (.e 0) _]⟩ (prel (lsc rfl (lsc rfl lsz)) (lbc rfl lbz) ltz) (fun zs zp zn => (zgp rfl rfl (op_storeRowM (k := 2) (i := j) (z := data1[j - 1]!) (l := data1) (f := Place.d) (zt zp.1.1) zp.2.1.1 (uni_map (f := Place.d) (fun _ => rfl) _) zom (by first | omega | (simp only [List.length_set]; omega) | (simp; omega)) (zt zp.1.2.1) rfl rfl rfl (.inl zk) rfl))) <|
            Trace.cons ⟨[(39, _), (41, _)], [], [], [], [], [.slot 52 _]⟩ (prel (lsc rfl (lsc rfl lsz)) lbz ltz) (fun zs zp zn => (zgp rfl rfl (op_indexAddr_box (e := 74) (kk := 2) (zt zp.1.1) (zt zp.1.2.1) zk zom zom rfl rfl))) <|
            Trace.cons ⟨[(52, _), (50, _)], [(.e 0, _)], [], [], [], [.box (.e 0) _]⟩ (prel (lsc rfl (lsc rfl lsz)) (lbc rfl lbz) ltz) (fun zs zp zn => (zgp rfl rfl (op_storeRowM (k := 2) (i := (j - 1)) (z := data1[j]!) (l := (data1.set (j) data1[j - 1]!)) (f := Place.d) (zt zp.1.1) zp.2.1.1 (uni_map (f := Place.d) (fun _ => rfl) _) zom (by first | omega | (simp only [List.length_set]; omega) | (simp; omega)) (zt zp.1.2.1) rfl rfl rfl (.inl zk) rfl))) <|
            Trace.nil) rfl rfl rfl ?_
          refine zbn ?_
          refine ztn ?_
          refine zre ?_
          refine zc rfl (zmv (zt rfl) rfl ?_)
          refine zc rfl (zar (zt rfl) (zi zdc) rfl (ink64 zom zom) rfl ?_)
          refine zc rfl (zas (zt rfl) rfl ?_)
          refine zn0 ?_
          refine ztn ?_
          refine ⟨j - 1, ((data1.set (j) data1[j - 1]!).set (j - 1) data1[j]!), ?_, ?_, (le_of (sc rfl (sc rfl (sc rfl (sc rfl (sc rfl (sc (vi_eq rfl zom) sz)))))) (xc (bx_eq rfl (by first | rfl | (simp; done))) xz) kz)⟩
          · refine ⟨?_, ?_⟩
            · omega
            · exact InsI.step ho hI (by omega) g4
          · first | omega | (simp at *; omega)
        · skip
          have g2 := h2
          try simp only [zbz, List.length_map] at g2
          have g3 : j = 0 ∨ ¬ c data1[j]! data1[j - 1]! < 0 := by omega
          refine zwe ?_
          refine zte ?_
          refine zte ?_
          refine zbk ?_
          refine zbn ?_
          refine ztn ?_
          refine zre ?_
          refine zc rfl (zmv (zt rfl) rfl ?_)
          refine zc rfl (zar (zt rfl) (zi zdc) rfl (ink64 zom zom) rfl ?_)
          refine zc rfl (zas (zt rfl) rfl ?_)
          refine zn0 ?_
          refine ztn ?_
          refine ⟨i + 1, data1, ?_, ?_, (le_of (sc rfl (sc rfl (sc rfl (sc rfl (sc rfl sz))))) (xc (bx_eq rfl (by first | rfl | (simp; done))) xz) kz)⟩
          · refine ⟨?_, ?_⟩
            · omega
            · exact InsI.leave ho hI g3
          · first | omega | (simp at *; omega)
    · skip
      have g1 := h1
      try simp only [zbz, List.length_map] at g1
      refine zwe ?_
      refine zte ?_
      refine zte ?_
      refine zbk ?_
      refine post_normal [_] (res0) (show _ = 1 from rfl) (l1 rfl) ?_
      refine ⟨data, rfl, rfl, ?_⟩
      exact hO.last (by omega)

theorem c_pdqCmp_place (c : Place → Place → Int) (ho : OrdC c) (f : FuncId) (l : List Place) (p cap : Nat) (lim : Int) (hl : l.length ≤ 12) (hf : ∀ x y : Place, ACalls Tryz.prog f [.aggd (x).d, .aggd (y).d] [] fun dd bb => dd = VI (c x y) ∧ bb = []) : ACalls Tryz.prog 86 [.one (.bs (.e 0) 2 l.length cap), VI 0, VI (l.length : Int), VI lim, .one (.fn f [])] [bsC (l.map Place.d).flatten p] fun dd bb => ∃ (l2 : List Place), dd = .tup [] ∧ bb = [bsC (l2.map Place.d).flatten p] ∧ (SortedC c l2 ∧ l2.Perm l) := by
  refine zai Tryz.func86 rfl Tryz.ntmps86 (by rw [Tryz.results86]) rfl rfl (fun w0 A0 X => ?_)
  refine zsr ?_
  refine zc rfl (zas zb0 rfl ?_)
  refine zn0 ?_
  refine zsr ?_
  refine zc rfl (zas zb0 rfl ?_)
  refine zn0 ?_
  refine zwb ?_
  refine zlp (fs := [(0, _), (1, _), (2, _), (3, _), (4, _), (10, _), (11, _)]) (fb := [(.e 0, _)]) (fun (u0 : Unit) => []) (fun (u0 : Unit) => []) (fun (u0 : Unit) => []) (fun (u0 : Unit) => True) (fun (u0 : Unit) => 0) () (le_of (sc rfl (sc rfl (sc rfl (sc rfl (sc rfl (sc rfl (sc rfl sz))))))) (xc rfl xz) kz) ?_ ?_
  · exact trivial
  · intro u0 _
    refine zwb ?_
    refine zsr ?_
    refine zc rfl (zmv (zt rfl) rfl ?_)
    refine zc rfl (zmv (zt rfl) rfl ?_)
    refine zc rfl (zar (zt rfl) (zt rfl) rfl (ink64 zom zom) rfl ?_)
    refine zc rfl (zas (zt rfl) rfl ?_)
    refine zn0 ?_
    refine zw2 ?_
    refine zsr ?_
    refine zc rfl (zmv (zt rfl) rfl ?_)
    refine zc rfl (zcm (zt rfl) (zi zdc) rfl rfl ?_)
    refine zn0 ?_
    refine zwc (zt rfl) (fun h1 => ?_) (fun h1 => ?_)
    · skip
      have g1 := h1
      try simp only [zbz, List.length_map] at g1
      refine zsr ?_
      refine zc rfl (zmv (zt rfl) rfl ?_)
      refine zc rfl (zmv (zt rfl) rfl ?_)
      refine zc rfl (zmv (zt rfl) rfl ?_)
      refine zc rfl (zmv (zt rfl) rfl ?_)
      refine zc rfl (zcl zhf (hc (zt rfl) (hc (zt rfl) (hc (zt rfl) (hc (zt rfl) hz)))) (rs := [.e 0]) (bxs := [_]) zdc (bc rfl bz) (c_insCmp_place c ho f l p cap (by first | assumption | omega | trivial | (simp; done) | (constructor <;> omega)) hf) rfl (by first | rfl | (simp only [List.map_cons, List.map_nil, bsC_callee]; done) | (simp only [List.map_cons, List.map_nil, bsC_callee]; rfl)) rfl (fun d b hd hl => ?_))
      obtain ⟨l2, rfl, rfl, ⟨hs, hp⟩⟩ := hd
      refine aops_le (le_bxeq (r := .e 0) (cs' := bsC (l2.map Place.d).flatten p) rfl (bsC_caller _ _ _).symm) ?_
      refine zn0 ?_
      refine awp_le (le_of (ls := []) (bs := [(.e 0, bsC (l2.map Place.d).flatten p)]) (ts := []) sz (xc rfl xz) kz) ?_
      refine zwr ?_
      refine ztr ?_
      refine blk_ret ?_
      refine ztr ?_
      refine blk_ret ?_
      refine zpr [_] (res0) (show _ = 1 from rfl) (l1 rfl) ?_
      refine ⟨l2, rfl, rfl, ?_⟩
      exact ⟨by assumption, by assumption⟩
    · skip
      exfalso
      simp only [decide_eq_false_iff_not] at h1
      omega

theorem c_SortFunc_place (c : Place → Place → Int) (ho : OrdC c) (f : FuncId) (l : List Place) (p cap : Nat) (hl : l.length ≤ 12) (hf : ∀ x y : Place, ACalls Tryz.prog f [.aggd (x).d, .aggd (y).d] [] fun dd bb => dd = VI (c x y) ∧ bb = []) : ACalls Tryz.prog 61 [.one (.bs (.e 0) 2 l.length cap), .one (.fn f [])] [bsC (l.map Place.d).flatten p] fun dd bb => ∃ (l2 : List Place), dd = .tup [] ∧ bb = [bsC (l2.map Place.d).flatten p] ∧ (SortedC c l2 ∧ l2.Perm l) := by
  refine zai Tryz.func61 rfl Tryz.ntmps61 (by rw [Tryz.results61]) rfl rfl (fun w0 A0 X => ?_)
  refine zsr ?_
  refine zc rfl (zmv (zt rfl) rfl ?_)
  refine zc rfl (op_len_bs (e := 74) (n := 2) (zt rfl) zk rfl (fun hl6 => ?_))
  try simp only [List.length_map] at hl6
  refine zc rfl (zas (zt rfl) rfl ?_)
  refine zn0 ?_
  refine zre ?_
  refine zc rfl (zmv (zt rfl) rfl ?_)
  refine zc rfl (zmv (zt rfl) rfl ?_)
  refine zc rfl (zmv (zt rfl) rfl ?_)
  refine zc rfl (op_convert (k1 := .i64) (k' := .u64) (zt rfl) zk zk (inU zom zom) rfl ?_)
  refine zc rfl (zcl zhf (hc (zt rfl) hz) (rs := []) (bxs := []) zdc bz (c_bits_Len (l.length : Int) (by first | assumption | omega | trivial | (simp; done) | (constructor <;> omega))) rfl rfl rfl (fun d b hd hl => ?_))
  obtain ⟨v, rfl, rfl, hv⟩ := hd
  refine zc rfl (zmv (zt rfl) rfl ?_)
  refine zc rfl (zcl zhf (hc (zt rfl) (hc (zi zdc) (hc (zt rfl) (hc (zt rfl) (hc (zt rfl) hz))))) (rs := [.e 0]) (bxs := [_]) zdc (bc rfl bz) (c_pdqCmp_place c ho f l p cap v (by first | assumption | omega | trivial | (simp; done) | (constructor <;> omega)) hf) rfl (by first | rfl | (simp only [List.map_cons, List.map_nil, bsC_callee]; done) | (simp only [List.map_cons, List.map_nil, bsC_callee]; rfl)) rfl (fun d b hd hl => ?_))
  obtain ⟨l2, rfl, rfl, ⟨hs, hp⟩⟩ := hd
  refine aops_le (le_bxeq (r := .e 0) (cs' := bsC (l2.map Place.d).flatten p) rfl (bsC_caller _ _ _).symm) ?_
  refine zn0 ?_
  refine post_normal [_] (res0) (show _ = 1 from rfl) (l1 rfl) ?_
  refine ⟨l2, rfl, rfl, ?_⟩
  exact ⟨by assumption, by assumption⟩

theorem c_insCmp0_place (f : FuncId) : ACalls Tryz.prog 114 [VR [], VI 0, VI 0, .one (.fn f [])] [] fun dd bb => dd = .tup [] ∧ bb = [] := by
  refine zai Tryz.func114 rfl Tryz.ntmps114 (by rw [Tryz.results114]) rfl rfl (fun w0 A0 X => ?_)
  refine zsr ?_
  refine zc rfl (zmv (zt rfl) rfl ?_)
  refine zc rfl (zar (zt rfl) (zi zdc) rfl (ink64 zom zom) rfl ?_)
  refine zc rfl (zas (zt rfl) rfl ?_)
  refine zn0 ?_
  refine zwb ?_
  refine zlp (fs := [(0, _), (1, _), (2, _), (3, _), (8, _)]) (fb := []) (fun (u0 : Unit) => []) (fun (u0 : Unit) => []) (fun (u0 : Unit) => []) (fun (u0 : Unit) => True) (fun (u0 : Unit) => 0) () (le_of (sc rfl (sc rfl (sc rfl (sc rfl (sc rfl sz))))) xz kz) ?_ ?_
  · exact trivial
  · intro u0 _
    refine zw2 ?_
    refine zsr ?_
    refine zc rfl (zmv (zt rfl) rfl ?_)
    refine zc rfl (zmv (zt rfl) rfl ?_)
    refine zc rfl (zcm (zt rfl) (zt rfl) rfl rfl ?_)
    refine zn0 ?_
    refine zwc (zt rfl) (fun h1 => ?_) (fun h1 => ?_)
    · skip
      cases h1
    · skip
      refine zwe ?_
      refine zte ?_
      refine zte ?_
      refine zbk ?_
      refine post_normal [] (res0) rfl lz ?_
      exact ⟨rfl, rfl⟩

theorem c_pdqCmp0_place (f : FuncId) (lim : Int) : ACalls Tryz.prog 86 [VR [], VI 0, VI 0, VI lim, .one (.fn f [])] [] fun dd bb => dd = .tup [] ∧ bb = [] := by
  refine zai Tryz.func86 rfl Tryz.ntmps86 (by rw [Tryz.results86]) rfl rfl (fun w0 A0 X => ?_)
  refine zsr ?_
  refine zc rfl (zas zb0 rfl ?_)
  refine zn0 ?_
  refine zsr ?_
  refine zc rfl (zas zb0 rfl ?_)
  refine zn0 ?_
  refine zwb ?_
  refine zlp (fs := [(0, _), (1, _), (2, _), (3, _), (4, _), (10, _), (11, _)]) (fb := []) (fun (u0 : Unit) => []) (fun (u0 : Unit) => []) (fun (u0 : Unit) => []) (fun (u0 : Unit) => True) (fun (u0 : Unit) => 0) () (le_of (sc rfl (sc rfl (sc rfl (sc rfl (sc rfl (sc rfl (sc rfl sz))))))) xz kz) ?_ ?_
  · exact trivial
  · intro u0 _
    refine zwb ?_
    refine zsr ?_
    refine zc rfl (zmv (zt rfl) rfl ?_)
    refine zc rfl (zmv (zt rfl) rfl ?_)
    refine zc rfl (zar (zt rfl) (zt rfl) rfl (ink64 zom zom) rfl ?_)
    refine zc rfl (zas (zt rfl) rfl ?_)
    refine zn0 ?_
    refine zw2 ?_
    refine zsr ?_
    refine zc rfl (zmv (zt rfl) rfl ?_)
    refine zc rfl (zcm (zt rfl) (zi zdc) rfl rfl ?_)
    refine zn0 ?_
    refine zwc (zt rfl) (fun h1 => ?_) (fun h1 => ?_)
    · skip
      have g1 := h1
      try simp only [zbz, List.length_map] at g1
      refine zsr ?_
      refine zc rfl (zmv (zt rfl) rfl ?_)
      refine zc rfl (zmv (zt rfl) rfl ?_)
      refine zc rfl (zmv (zt rfl) rfl ?_)
      refine zc rfl (zmv (zt rfl) rfl ?_)
      refine zc rfl (zcl zhf (hc (zt rfl) (hc (zt rfl) (hc (zt rfl) (hc (zt rfl) hz)))) (rs := []) (bxs := []) zdc bz (c_insCmp0_place f) rfl rfl rfl (fun d b hd hl => ?_))
      obtain ⟨rfl, rfl⟩ := hd
      refine zn0 ?_
      refine awp_le (le_of (ls := []) (bs := []) (ts := []) sz xz kz) ?_
      refine zwr ?_
      refine ztr ?_
      refine blk_ret ?_
      refine ztr ?_
      refine blk_ret ?_
      refine zpr [] (res0) rfl lz ?_
      exact ⟨rfl, rfl⟩
    · skip
      cases h1

theorem c_SortFunc0_place (f : FuncId) : ACalls Tryz.prog 61 [VR [], .one (.fn f [])] [] fun dd bb => dd = .tup [] ∧ bb = [] := by
  refine zai Tryz.func61 rfl Tryz.ntmps61 (by rw [Tryz.results61]) rfl rfl (fun w0 A0 X => ?_)
  refine zsr ?_
  refine zc rfl (zmv (zt rfl) rfl ?_)
  refine zc rfl (zln (e := 74) (n := 2) (zt rfl) rfl zk rfl (fun hl6 => ?_))
  try simp only [List.length_map] at hl6
  refine zc rfl (zas (zt rfl) rfl ?_)
  refine zn0 ?_
  refine zre ?_
  refine zc rfl (zmv (zt rfl) rfl ?_)
  refine zc rfl (zmv (zt rfl) rfl ?_)
  refine zc rfl (zmv (zt rfl) rfl ?_)
  refine zc rfl (op_convert (k1 := .i64) (k' := .u64) (zt rfl) zk zk (inU zom zom) rfl ?_)
  refine zc rfl (zcl zhf (hc (zt rfl) hz) (rs := []) (bxs := []) zdc bz (c_bits_Len (([].map Place.d).length : Int) (by first | assumption | omega | trivial | (simp; done) | (constructor <;> omega))) rfl rfl rfl (fun d b hd hl => ?_))
  obtain ⟨v, rfl, rfl, hv⟩ := hd
  refine zc rfl (zmv (zt rfl) rfl ?_)
  refine zc rfl (zcl zhf (hc (zt rfl) (hc (zi zdc) (hc (zt rfl) (hc (zt rfl) (hc (zt rfl) hz))))) (rs := []) (bxs := []) zdc bz (c_pdqCmp0_place f _) rfl rfl rfl (fun d b hd hl => ?_))
  obtain ⟨rfl, rfl⟩ := hd
  refine zn0 ?_
  refine post_normal [] (res0) rfl lz ?_
  exact ⟨rfl, rfl⟩


def subC (x y : Int) : Int := x - y
theorem subC_ord : OrdC subC := ⟨fun a b h => by unfold subC at *; omega, fun a b d h1 h2 => by unfold subC at *; omega⟩

theorem c_insOrd (l : List Int) (p cap : Nat) (hl : l.length ≤ 12) : ACalls Tryz.prog 145 [.one (.bs (.e 0) 1 l.length cap), VI 0, VI (l.length : Int)] [bsC (iRows l).flatten p] fun dd bb => ∃ (l2 : List Int), dd = .tup [] ∧ bb = [bsC (iRows l2).flatten p] ∧ (SortedC subC l2 ∧ l2.Perm l) := by
  refine zai Tryz.func145 rfl Tryz.ntmps145 (by rw [Tryz.results145]) rfl rfl (fun w0 A0 X => ?_)
  refine zsr ?_
  refine zc rfl (zmv (zt rfl) rfl ?_)
  refine zc rfl (zar (zt rfl) (zi zdc) rfl (ink64 zom zom) rfl ?_)
  refine zc rfl (zas (zt rfl) rfl ?_)
  refine zn0 ?_
  refine zwb ?_
  refine awp_loop2 (fs := [(0, _), (1, _), (2, _)]) (fb := []) (fun (i : Nat) (data : List Int) => [(6, VI ((i : Nat) : Int))]) (fun (i : Nat) (data : List Int) => [(.e 0, bsC (iRows data).flatten p)]) (fun (i : Nat) (data : List Int) => []) (fun (i : Nat) (data : List Int) => (1 ≤ i ∧ i ≤ max 1 l.length) ∧ (OutI subC l data i)) (fun (i : Nat) (data : List Int) => l.length - i) (0 + 1) l (le_of (sc rfl (sc rfl (sc rfl (sc rfl sz)))) (xc rfl xz) kz) ?_ ?_
  · refine ⟨?_, ?_⟩
    · omega
    · exact OutI.begin subC l
  · intro i data ⟨hi, hO⟩
    have hdl : data.length = l.length := hO.2.length_eq
    refine zw2 ?_
    refine zsr ?_
    refine zc rfl (zmv (zt rfl) rfl ?_)
    refine zc rfl (zmv (zt rfl) rfl ?_)
    refine zc rfl (zcm (zt rfl) (zt rfl) rfl rfl ?_)
    refine zn0 ?_
    refine awp_le (le_of (ls := [(0, .one (.bs (.e 0) 1 l.length cap)), (1, VI 0), (2, VI (l.length : Int)), (6, VI ((i : Nat) : Int)), (12, VB (decide (((i : Nat) : Int) < (l.length : Int))))]) (bs := [(.e 0, bsC (iRows data).flatten p)]) (ts := []) (sc rfl (sc rfl (sc rfl (sc rfl (sc rfl sz))))) (xc rfl xz) kz) ?_
    refine zwc (zt rfl) (fun h1 => ?_) (fun h1 => ?_)
    · skip
      have g1 := h1
      try simp only [zbz, List.length_map] at g1
      refine zws ?_
      refine ztn ?_
      refine zw2 ?_
      refine zwb ?_
      refine zsr ?_
      refine zc rfl (zmv (zt rfl) rfl ?_)
      refine zc rfl (zas (zt rfl) rfl ?_)
      refine zn0 ?_
      refine zwb ?_
      refine awp_loop2 (fs := [(0, _), (1, _), (2, _), (6, _)]) (fb := []) (fun (j : Nat) (data1 : List Int) => [(7, VI ((j : Nat) : Int))]) (fun (j : Nat) (data1 : List Int) => [(.e 0, bsC (iRows data1).flatten p)]) (fun (j : Nat) (data1 : List Int) => []) (fun (j : Nat) (data1 : List Int) => (j ≤ i) ∧ (InsI subC l data1 i j)) (fun (j : Nat) (data1 : List Int) => j) i data (le_of (sc rfl (sc rfl (sc rfl (sc rfl (sc rfl sz))))) (xc rfl xz) kz) ?_ ?_
      · refine ⟨?_, ?_⟩
        · omega
        · exact hO.enter (by omega)
      · intro j data1 ⟨hj, hI⟩
        have hdl1 : data1.length = l.length := by obtain ⟨_, _, _, _, _, _, _, _, _, h⟩ := hI; exact h.length_eq
        refine zw2 ?_
        refine awp_seq_drawT zk [] [] [0, 0, 3, 7, 15, 15, 63, 127, 15, 15, 527, 1807, 3855, 8191, 16383] rfl
          (Trace.cons ⟨[(7, _)], [], [], [], [], [.slot 16 _]⟩ (prel (lsc rfl lsz) lbz ltz) (fun zs zp zn => (zgp rfl rfl (zmv (zt zp.1.1) rfl rfl))) <|
          Trace.cons ⟨[(1, _)], [], [], [], [], [.slot 17 _]⟩ (prel (lsc rfl lsz) lbz ltz) (fun zs zp zn => (zgp rfl rfl (zmv (zt zp.1.1) rfl rfl))) <|
          Trace.cons ⟨[(16, _), (17, _)], [], [], [], [], [.slot 18 _]⟩ (prel (lsc rfl (lsc rfl lsz)) lbz ltz) (fun zs zp zn => (zgp rfl rfl (zcm (zt zp.1.1) (zt zp.1.2.1) rfl rfl rfl))) <|
          Trace.cons ⟨[(18, _)], [], [], [], [], [.slot 19 _]⟩ (prel (lsc rfl lsz) lbz ltz) (fun zs zp zn => (zgp rfl rfl (zmv (zt zp.1.1) rfl rfl))) <|
          Trace.cons ⟨[(19, _), (0, _)], [], [], [], [], [.slot 20 _]⟩ (prel (lsc rfl (lsc rfl lsz)) lbz ltz) (fun zs zp zn => (zgg rfl rfl rfl rfl rfl (zgb zp.1.1) (fun hg => zmv (zt zp.1.2.1) rfl rfl))) <|
          Trace.cons ⟨[(19, _), (7, _)], [], [], [], [], [.slot 21 _]⟩ (prel (lsc rfl (lsc rfl lsz)) lbz ltz) (fun zs zp zn => (zgg rfl rfl rfl rfl rfl (zgb zp.1.1) (fun hg => zmv (zt zp.1.2.1) rfl rfl))) <|
          Trace.cons ⟨[(19, _), (20, _), (21, _)], [], [], [], [], [.slot 22 _]⟩ (prel (lsc rfl (lsc rfl (lsc rfl lsz))) lbz ltz) (fun zs zp zn => (zgg rfl rfl rfl rfl rfl (zgb zp.1.1) (fun hg => op_indexAddr_box (e := 3) (kk := 1) (zcd (zt zp.1.2.1) hg) (zcd (zt zp.1.2.2.1) hg) zk (by first | omega | (simp only [zbz, List.length_map, cond_true, cond_false] at hg; omega) | exact Int.natCast_nonneg _ | (simp only [List.length_map] at *; omega) | (simp only [List.length_map]; omega)) (by first | omega | (simp only [zbz, List.length_map, cond_true, cond_false] at hg; omega) | exact Int.natCast_nonneg _ | (simp only [List.length_map] at *; omega) | (simp only [List.length_map]; omega)) rfl rfl))) <|
          Trace.cons ⟨[(19, _), (22, _)], [(.e 0, _)], [], [], [], [.slot 23 _]⟩ (prel (lsc rfl (lsc rfl lsz)) (lbc rfl lbz) ltz) (fun zs zp zn => (zgg rfl rfl rfl rfl rfl (zgb zp.1.1) (fun hg => op_loadRowF (k := 1) (i := j) (j := 0) (zcd (zt zp.1.2.1) hg) zp.2.1.1 (uni_map (f := iRow) (fun _ => rfl) _) (by first | omega | (simp only [zbz, List.length_map, cond_true, cond_false] at hg; omega) | exact Int.natCast_nonneg _ | (simp only [List.length_map] at *; omega) | (simp only [List.length_map]; omega)) (show (iRows data1)[j]? = some (iRow data1[j]!) from map_getD (by first | omega | (simp only [zbz, List.length_map, cond_true, cond_false] at hg; omega) | exact Int.natCast_nonneg _ | (simp only [List.length_map] at *; omega) | (simp only [List.length_map]; omega))) rfl zk rfl rfl))) <|
          Trace.cons ⟨[(19, _), (0, _)], [], [], [], [], [.slot 24 _]⟩ (prel (lsc rfl (lsc rfl lsz)) lbz ltz) (fun zs zp zn => (zgg rfl rfl rfl rfl rfl (zgb zp.1.1) (fun hg => zmv (zt zp.1.2.1) rfl rfl))) <|
          Trace.cons ⟨[(19, _), (7, _)], [], [], [], [], [.slot 25 _]⟩ (prel (lsc rfl (lsc rfl lsz)) lbz ltz) (fun zs zp zn => (zgg rfl rfl rfl rfl rfl (zgb zp.1.1) (fun hg => zmv (zt zp.1.2.1) rfl rfl))) <|
          Trace.cons ⟨[(19, _), (25, _)], [], [], [], [], [.slot 26 _]⟩ (prel (lsc rfl (lsc rfl lsz)) lbz ltz) (fun zs zp zn => (zgg rfl rfl rfl rfl rfl (zgb zp.1.1) (fun hg => zar (zcd (zt zp.1.2.1) hg) (zi zdc) rfl (ink64 (by first | omega | (simp only [zbz, List.length_map, cond_true, cond_false] at hg; omega) | exact Int.natCast_nonneg _ | (simp only [List.length_map] at *; omega) | (simp only [List.length_map]; omega)) (by first | omega | (simp only [zbz, List.length_map, cond_true, cond_false] at hg; omega) | exact Int.natCast_nonneg _ | (simp only [List.length_map] at *; omega) | (simp only [List.length_map]; omega))) rfl rfl))) <|
          Trace.cons ⟨[(19, _), (24, _), (26, _)], [], [], [], [], [.slot 27 _]⟩ (prel (lsc rfl (lsc rfl (lsc rfl lsz))) lbz ltz) (fun zs zp zn => (zgg rfl rfl rfl rfl rfl (zgb zp.1.1) (fun hg => op_indexAddr_box (e := 3) (kk := 1) (zcd (zt zp.1.2.1) hg) (zcd (zt zp.1.2.2.1) hg) zk (by first | omega | (simp only [zbz, List.length_map, cond_true, cond_false] at hg; omega) | exact Int.natCast_nonneg _ | (simp only [List.length_map] at *; omega) | (simp only [List.length_map]; omega)) (by first | omega | (simp only [zbz, List.length_map, cond_true, cond_false] at hg; omega) | exact Int.natCast_nonneg _ | (simp only [List.length_map] at *; omega) | (simp only [List.length_map]; omega)) rfl rfl))) <|
          Trace.cons ⟨[(19, _), (27, _)], [(.e 0, _)], [], [], [], [.slot 28 _]⟩ (prel (lsc rfl (lsc rfl lsz)) (lbc rfl lbz) ltz) (fun zs zp zn => (zgg rfl rfl rfl rfl rfl (zgb zp.1.1) (fun hg => op_loadRowF (k := 1) (i := j - 1) (j := 0) (zcd (zt zp.1.2.1) hg) zp.2.1.1 (uni_map (f := iRow) (fun _ => rfl) _) (by first | omega | (simp only [zbz, List.length_map, cond_true, cond_false] at hg; omega) | exact Int.natCast_nonneg _ | (simp only [List.length_map] at *; omega) | (simp only [List.length_map]; omega)) (show (iRows data1)[j - 1]? = some (iRow data1[j - 1]!) from map_getD (by first | omega | (simp only [zbz, List.length_map, cond_true, cond_false] at hg; omega) | exact Int.natCast_nonneg _ | (simp only [List.length_map] at *; omega) | (simp only [List.length_map]; omega))) rfl zk rfl rfl))) <|
          Trace.cons ⟨[(19, _), (23, _), (28, _)], [], [], [], [], [.slot 29 _]⟩ (prel (lsc rfl (lsc rfl (lsc rfl lsz))) lbz ltz) (fun zs zp zn => (zgg rfl rfl rfl rfl rfl (zgb zp.1.1) (fun hg => zcl zhf (hc (zcd (zt zp.1.2.1) hg) (hc (zcd (zt zp.1.2.2.1) hg) hz)) (rs := []) (bxs := []) zdc bz (c_cmp_Less_int data1[j]! data1[j - 1]!) rfl rfl rfl (fun d b hd hl => by obtain ⟨rfl, rfl⟩ := hd; rfl)))) <|
          Trace.cons ⟨[(19, _), (29, _)], [], [], [], [], [.slot 30 _]⟩ (prel (lsc rfl (lsc rfl lsz)) lbz ltz) (fun zs zp zn => (zgp rfl rfl (zan (zt zp.1.1) (zt zp.1.2.1) (.inl zb0) rfl rfl))) <|
          Trace.nil) rfl rfl rfl ?_
        refine awp_le (le_of (ls := [(0, .one (.bs (.e 0) 1 l.length cap)), (1, VI 0), (2, VI (l.length : Int)), (6, VI ((i : Nat) : Int)), (7, VI ((j : Nat) : Int)), (30, VB (decide (0 < ((j : Nat) : Int)) && (decide (data1[j]! < data1[j - 1]!))))]) (bs := [(.e 0, bsC (iRows data1).flatten p)]) (ts := []) (sc rfl (sc rfl (sc rfl (sc rfl (sc rfl (sc rfl sz)))))) (xc rfl xz) kz) ?_
        refine zwc (zt rfl) (fun h2 => ?_) (fun h2 => ?_)
        · skip
          have g2 := h2
          try simp only [zbz, List.length_map] at g2
          obtain ⟨g3, g5⟩ := g2
          have g4 : subC data1[j]! data1[j - 1]! < 0 := by unfold subC; omega
          refine zws ?_
          refine ztn ?_
          refine zw2 ?_
          refine zwb ?_
          refine awp_drawT zk [] [] [0, 0, 0, 0, 8, 0, 0, 64, 224, 480, 0, 0, 3072, 7168, 16355, 32739, 65535, 131071] rfl
            (Trace.cons ⟨[(0, _)], [], [], [], [], [.slot 33 _]⟩ (prel (lsc rfl lsz) lbz ltz) (fun zs zp zn => (zgp rfl rfl (zmv (zt zp.1.1) rfl rfl))) <|
            Trace.cons ⟨[(7, _)], [], [], [], [], [.slot 34 _]⟩ (prel (lsc rfl lsz) lbz ltz) (fun zs zp zn => (zgp rfl rfl (zmv (zt zp.1.1) rfl rfl))) <|
            Trace.cons ⟨[(0, _)], [], [], [], [], [.slot 35 _]⟩ (prel (lsc rfl lsz) lbz ltz) (fun zs zp zn => (zgp rfl rfl (zmv (zt zp.1.1) rfl rfl))) <|
            Trace.cons ⟨[(7, _)], [], [], [], [], [.slot 36 _]⟩ (prel (lsc rfl lsz) lbz ltz) (fun zs zp zn => (zgp rfl rfl (zmv (zt zp.1.1) rfl rfl))) <|
            Trace.cons ⟨[(36, _)], [], [], [], [], [.slot 37 _]⟩ (prel (lsc rfl lsz) lbz ltz) (fun zs zp zn => (zgp rfl rfl (zar (zt zp.1.1) (zi zdc) rfl (ink64 zom zom) rfl rfl))) <|
            Trace.cons ⟨[(0, _)], [], [], [], [], [.slot 38 _]⟩ (prel (lsc rfl lsz) lbz ltz) (fun zs zp zn => (zgp rfl rfl (zmv (zt zp.1.1) rfl rfl))) <|
            Trace.cons ⟨[(7, _)], [], [], [], [], [.slot 39 _]⟩ (prel (lsc rfl lsz) lbz ltz) (fun zs zp zn => (zgp rfl rfl (zmv (zt zp.1.1) rfl rfl))) <|
            Trace.cons ⟨[(39, _)], [], [], [], [], [.slot 40 _]⟩ (prel (lsc rfl lsz) lbz ltz) (fun zs zp zn => (zgp rfl rfl (zar (zt zp.1.1) (zi zdc) rfl (ink64 zom zom) rfl rfl))) <|
            Trace.cons ⟨[(38, _), (40, _)], [], [], [], [], [.slot 41 _]⟩ (prel (lsc rfl (lsc rfl lsz)) lbz ltz) (fun zs zp zn => (zgp rfl rfl (op_indexAddr_box (e := 3) (kk := 1) (zt zp.1.1) (zt zp.1.2.1) zk zom zom rfl rfl))) <|
            Trace.cons ⟨[(41, _)], [(.e 0, _)], [], [], [], [.slot 42 _]⟩ (prel (lsc rfl lsz) (lbc rfl lbz) ltz) (fun zs zp zn => (zgp rfl rfl (op_loadRowF (k := 1) (i := j - 1) (j := 0) (zt zp.1.1) zp.2.1.1 (uni_map (f := iRow) (fun _ => rfl) _) zom (show (iRows data1)[j - 1]? = some (iRow data1[j - 1]!) from map_getD zom) rfl zk rfl rfl))) <|
            Trace.cons ⟨[(0, _)], [], [], [], [], [.slot 43 _]⟩ (prel (lsc rfl lsz) lbz ltz) (fun zs zp zn => (zgp rfl rfl (zmv (zt zp.1.1) rfl rfl))) <|
            Trace.cons ⟨[(7, _)], [], [], [], [], [.slot 44 _]⟩ (prel (lsc rfl lsz) lbz ltz) (fun zs zp zn => (zgp rfl rfl (zmv (zt zp.1.1) rfl rfl))) <|
            Trace.cons ⟨[(43, _), (44, _)], [], [], [], [], [.slot 45 _]⟩ (prel (lsc rfl (lsc rfl lsz)) lbz ltz) (fun zs zp zn => (zgp rfl rfl (op_indexAddr_box (e := 3) (kk := 1) (zt zp.1.1) (zt zp.1.2.1) zk zom zom rfl rfl))) <|
            Trace.cons ⟨[(45, _)], [(.e 0, _)], [], [], [], [.slot 46 _]⟩ (prel (lsc rfl lsz) (lbc rfl lbz) ltz) (fun zs zp zn => (zgp rfl rfl (op_loadRowF (k := 1) (i := j) (j := 0) (zt zp.1.1) zp.2.1.1 (uni_map (f := iRow) (fun _ => rfl) _) zom (show (iRows data1)[j]? = some (iRow data1[j]!) from map_getD zom) rfl zk rfl rfl))) <|
            Trace.cons ⟨[(33, _), (34, _)], [], [], [], [], [.slot 47 _]⟩ (prel (lsc rfl (lsc rfl lsz)) lbz ltz) (fun zs zp zn => (zgp rfl rfl (op_indexAddr_box (e := 3) (kk := 1) (zt zp.1.1) (zt zp.1.2.1) zk zom zom rfl rfl))) <|
            Trace.cons ⟨[(47, _), (42, _)], [(.e 0, _)], [], [], [], [.box (.e 0) _]⟩ (prel (lsc rfl (lsc rfl lsz)) (lbc rfl lbz) ltz) (fun zs zp zn => (zgp rfl rfl (op_storeRowM (k := 1) (i := j) (z := data1[j - 1]!) (l := data1) (f := iRow) (zt zp.1.1) zp.2.1.1 (uni_map (f := iRow) (fun _ => rfl) _) zom (by first | omega | (simp only [List.length_set]; omega) | (simp; omega)) (zt zp.1.2.1) rfl rfl rfl (.inr ⟨by kernel_rfl, rfl⟩) rfl))) <|
            Trace.cons ⟨[(35, _), (37, _)], [], [], [], [], [.slot 48 _]⟩ (prel (lsc rfl (lsc rfl lsz)) lbz ltz) (fun zs zp zn => (zgp rfl rfl (op_indexAddr_box (e := 3) (kk := 1) (zt zp.1.1) (zt zp.1.2.1) zk zom zom rfl rfl))) <|
            Trace.cons ⟨[(48, _), (46, _)], [(.e 0, _)], [], [], [], [.box (.e 0) _]⟩ (prel (lsc rfl (lsc rfl lsz)) (lbc rfl lbz) ltz) (fun zs zp zn => (zgp rfl rfl (op_storeRowM (k := 1) (i := (j - 1)) (z := data1[j]!) (l := (data1.set (j) data1[j - 1]!)) (f := iRow) (zt zp.1.1) zp.2.1.1 (uni_map (f := iRow) (fun _ => rfl) _) zom (by first | omega | (simp only [List.length_set]; omega) | (simp; omega)) (zt zp.1.2.1) rfl rfl rfl (.inr ⟨by kernel_rfl, rfl⟩) rfl))) <|
            Trace.nil) rfl rfl rfl ?_
          refine zbn ?_
          refine ztn ?_
          refine zre ?_
          refine zc rfl (zmv (zt rfl) rfl ?_)
          refine zc rfl (zar (zt rfl) (zi zdc) rfl (ink64 zom zom) rfl ?_)
          refine zc rfl (zas (zt rfl) rfl ?_)
          refine zn0 ?_
          refine ztn ?_
          refine ⟨j - 1, ((data1.set (j) data1[j - 1]!).set (j - 1) data1[j]!), ?_, ?_, (le_of (sc rfl (sc rfl (sc rfl (sc rfl (sc (vi_eq rfl zom) sz))))) (xc (bx_eq rfl (by first | rfl | (simp; done))) xz) kz)⟩
          · refine ⟨?_, ?_⟩
            · omega
            · exact InsI.step subC_ord hI (by omega) g4
          · first | omega | (simp at *; omega)
        · skip
          have g2 := h2
          try simp only [zbz, List.length_map] at g2
          have g3 : j = 0 ∨ ¬ subC data1[j]! data1[j - 1]! < 0 := by unfold subC; omega
          refine zwe ?_
          refine zte ?_
          refine zte ?_
          refine zbk ?_
          refine zbn ?_
          refine ztn ?_
          refine zre ?_
          refine zc rfl (zmv (zt rfl) rfl ?_)
          refine zc rfl (zar (zt rfl) (zi zdc) rfl (ink64 zom zom) rfl ?_)
          refine zc rfl (zas (zt rfl) rfl ?_)
          refine zn0 ?_
          refine ztn ?_
          refine ⟨i + 1, data1, ?_, ?_, (le_of (sc rfl (sc rfl (sc rfl (sc rfl sz)))) (xc (bx_eq rfl (by first | rfl | (simp; done))) xz) kz)⟩
          · refine ⟨?_, ?_⟩
            · omega
            · exact InsI.leave subC_ord hI g3
          · first | omega | (simp at *; omega)
    · skip
      have g1 := h1
      try simp only [zbz, List.length_map] at g1
      refine zwe ?_
      refine zte ?_
      refine zte ?_
      refine zbk ?_
      refine post_normal [_] (res0) (show _ = 1 from rfl) (l1 rfl) ?_
      refine ⟨data, rfl, rfl, ?_⟩
      exact hO.last (by omega)

theorem c_pdqOrd (l : List Int) (p cap : Nat) (hl : l.length ≤ 12) (lim : Int) : ACalls Tryz.prog 130 [.one (.bs (.e 0) 1 l.length cap), VI 0, VI (l.length : Int), VI lim] [bsC (iRows l).flatten p] fun dd bb => ∃ (l2 : List Int), dd = .tup [] ∧ bb = [bsC (iRows l2).flatten p] ∧ (SortedC subC l2 ∧ l2.Perm l) := by
  refine zai Tryz.func130 rfl Tryz.ntmps130 (by rw [Tryz.results130]) rfl rfl (fun w0 A0 X => ?_)
  refine zsr ?_
  refine zc rfl (zas zb0 rfl ?_)
  refine zn0 ?_
  refine zsr ?_
  refine zc rfl (zas zb0 rfl ?_)
  refine zn0 ?_
  refine zwb ?_
  refine zlp (fs := [(0, _), (1, _), (2, _), (3, _), (8, _), (9, _)]) (fb := [(.e 0, _)]) (fun (u0 : Unit) => []) (fun (u0 : Unit) => []) (fun (u0 : Unit) => []) (fun (u0 : Unit) => True) (fun (u0 : Unit) => 0) () (le_of (sc rfl (sc rfl (sc rfl (sc rfl (sc rfl (sc rfl sz)))))) (xc rfl xz) kz) ?_ ?_
  · exact trivial
  · intro u0 _
    refine zwb ?_
    refine zsr ?_
    refine zc rfl (zmv (zt rfl) rfl ?_)
    refine zc rfl (zmv (zt rfl) rfl ?_)
    refine zc rfl (zar (zt rfl) (zt rfl) rfl (ink64 zom zom) rfl ?_)
    refine zc rfl (zas (zt rfl) rfl ?_)
    refine zn0 ?_
    refine zw2 ?_
    refine zsr ?_
    refine zc rfl (zmv (zt rfl) rfl ?_)
    refine zc rfl (zcm (zt rfl) (zi zdc) rfl rfl ?_)
    refine zn0 ?_
    refine zwc (zt rfl) (fun h1 => ?_) (fun h1 => ?_)
    · skip
      have g1 := h1
      try simp only [zbz, List.length_map] at g1
      refine zsr ?_
      refine zc rfl (zmv (zt rfl) rfl ?_)
      refine zc rfl (zmv (zt rfl) rfl ?_)
      refine zc rfl (zmv (zt rfl) rfl ?_)
      refine zc rfl (zcl zhf (hc (zt rfl) (hc (zt rfl) (hc (zt rfl) hz))) (rs := [.e 0]) (bxs := [_]) zdc (bc rfl bz) (c_insOrd l p cap (by first | assumption | omega | trivial | (simp; done) | (constructor <;> omega))) rfl (by first | rfl | (simp only [List.map_cons, List.map_nil, bsC_callee]; done) | (simp only [List.map_cons, List.map_nil, bsC_callee]; rfl)) rfl (fun d b hd hl => ?_))
      obtain ⟨l2, rfl, rfl, ⟨hs, hp⟩⟩ := hd
      refine aops_le (le_bxeq (r := .e 0) (cs' := bsC (iRows l2).flatten p) rfl (bsC_caller _ _ _).symm) ?_
      refine zn0 ?_
      refine zwr ?_
      refine ztr ?_
      refine blk_ret ?_
      refine ztr ?_
      refine blk_ret ?_
      refine zpr [_] (res0) (show _ = 1 from rfl) (l1 rfl) ?_
      refine ⟨l2, rfl, rfl, ?_⟩
      exact ⟨by assumption, by assumption⟩
    · skip
      exfalso
      simp only [decide_eq_false_iff_not] at h1
      omega

theorem c_Sort (l : List Int) (p cap : Nat) (hl : l.length ≤ 12) : ACalls Tryz.prog 101 [.one (.bs (.e 0) 1 l.length cap)] [bsC (iRows l).flatten p] fun dd bb => ∃ (l2 : List Int), dd = .tup [] ∧ bb = [bsC (iRows l2).flatten p] ∧ (SortedC subC l2 ∧ l2.Perm l) := by
  refine zai Tryz.func101 rfl Tryz.ntmps101 (by rw [Tryz.results101]) rfl rfl (fun w0 A0 X => ?_)
  refine zsr ?_
  refine zc rfl (zmv (zt rfl) rfl ?_)
  refine zc rfl (op_len_bs (e := 3) (n := 1) (zt rfl) zk rfl (fun hl4 => ?_))
  try simp only [List.length_map] at hl4
  refine zc rfl (zas (zt rfl) rfl ?_)
  refine zn0 ?_
  refine zre ?_
  refine zc rfl (zmv (zt rfl) rfl ?_)
  refine zc rfl (zmv (zt rfl) rfl ?_)
  refine zc rfl (zmv (zt rfl) rfl ?_)
  refine zc rfl (op_convert (k1 := .i64) (k' := .u64) (zt rfl) zk zk (inU zom zom) rfl ?_)
  refine zc rfl (zcl zhf (hc (zt rfl) hz) (rs := []) (bxs := []) zdc bz (c_bits_Len (l.length : Int) (by first | assumption | omega | trivial | (simp; done) | (constructor <;> omega))) rfl rfl rfl (fun d b hd hl => ?_))
  obtain ⟨v, rfl, rfl, hv⟩ := hd
  refine zc rfl (zcl zhf (hc (zt rfl) (hc (zi zdc) (hc (zt rfl) (hc (zt rfl) hz)))) (rs := [.e 0]) (bxs := [_]) zdc (bc rfl bz) (c_pdqOrd l p cap (by first | assumption | omega | trivial | (simp; done) | (constructor <;> omega)) v) rfl (by first | rfl | (simp only [List.map_cons, List.map_nil, bsC_callee]; done) | (simp only [List.map_cons, List.map_nil, bsC_callee]; rfl)) rfl (fun d b hd hl => ?_))
  obtain ⟨l2, rfl, rfl, ⟨hs, hp⟩⟩ := hd
  refine aops_le (le_bxeq (r := .e 0) (cs' := bsC (iRows l2).flatten p) rfl (bsC_caller _ _ _).symm) ?_
  refine zn0 ?_
  refine post_normal [_] (res0) (show _ = 1 from rfl) (l1 rfl) ?_
  refine ⟨l2, rfl, rfl, ?_⟩
  exact ⟨by assumption, by assumption⟩

theorem c_insOrd0  : ACalls Tryz.prog 145 [VR [], VI 0, VI 0] [] fun dd bb => dd = .tup [] ∧ bb = [] := by
  refine zai Tryz.func145 rfl Tryz.ntmps145 (by rw [Tryz.results145]) rfl rfl (fun w0 A0 X => ?_)
  refine zsr ?_
  refine zc rfl (zmv (zt rfl) rfl ?_)
  refine zc rfl (zar (zt rfl) (zi zdc) rfl (ink64 zom zom) rfl ?_)
  refine zc rfl (zas (zt rfl) rfl ?_)
  refine zn0 ?_
  refine zwb ?_
  refine zlp (fs := [(0, _), (1, _), (2, _), (6, _)]) (fb := []) (fun (u0 : Unit) => []) (fun (u0 : Unit) => []) (fun (u0 : Unit) => []) (fun (u0 : Unit) => True) (fun (u0 : Unit) => 0) () (le_of (sc rfl (sc rfl (sc rfl (sc rfl sz)))) xz kz) ?_ ?_
  · exact trivial
  · intro u0 _
    refine zw2 ?_
    refine zsr ?_
    refine zc rfl (zmv (zt rfl) rfl ?_)
    refine zc rfl (zmv (zt rfl) rfl ?_)
    refine zc rfl (zcm (zt rfl) (zt rfl) rfl rfl ?_)
    refine zn0 ?_
    refine zwc (zt rfl) (fun h1 => ?_) (fun h1 => ?_)
    · skip
      cases h1
    · skip
      refine zwe ?_
      refine zte ?_
      refine zte ?_
      refine zbk ?_
      refine post_normal [] (res0) rfl lz ?_
      exact ⟨rfl, rfl⟩

theorem c_pdqOrd0 (lim : Int) : ACalls Tryz.prog 130 [VR [], VI 0, VI 0, VI lim] [] fun dd bb => dd = .tup [] ∧ bb = [] := by
  refine zai Tryz.func130 rfl Tryz.ntmps130 (by rw [Tryz.results130]) rfl rfl (fun w0 A0 X => ?_)
  refine zsr ?_
  refine zc rfl (zas zb0 rfl ?_)
  refine zn0 ?_
  refine zsr ?_
  refine zc rfl (zas zb0 rfl ?_)
  refine zn0 ?_
  refine zwb ?_
  refine zlp (fs := [(0, _), (1, _), (2, _), (3, _), (8, _), (9, _)]) (fb := []) (fun (u0 : Unit) => []) (fun (u0 : Unit) => []) (fun (u0 : Unit) => []) (fun (u0 : Unit) => True) (fun (u0 : Unit) => 0) () (le_of (sc rfl (sc rfl (sc rfl (sc rfl (sc rfl (sc rfl sz)))))) xz kz) ?_ ?_
  · exact trivial
  · intro u0 _
    refine zwb ?_
    refine zsr ?_
    refine zc rfl (zmv (zt rfl) rfl ?_)
    refine zc rfl (zmv (zt rfl) rfl ?_)
    refine zc rfl (zar (zt rfl) (zt rfl) rfl (ink64 zom zom) rfl ?_)
    refine zc rfl (zas (zt rfl) rfl ?_)
    refine zn0 ?_
    refine zw2 ?_
    refine zsr ?_
    refine zc rfl (zmv (zt rfl) rfl ?_)
    refine zc rfl (zcm (zt rfl) (zi zdc) rfl rfl ?_)
    refine zn0 ?_
    refine zwc (zt rfl) (fun h1 => ?_) (fun h1 => ?_)
    · skip
      have g1 := h1
      try simp only [zbz, List.length_map] at g1
      refine zsr ?_
      refine zc rfl (zmv (zt rfl) rfl ?_)
      refine zc rfl (zmv (zt rfl) rfl ?_)
      refine zc rfl (zmv (zt rfl) rfl ?_)
      refine zc rfl (zcl zhf (hc (zt rfl) (hc (zt rfl) (hc (zt rfl) hz))) (rs := []) (bxs := []) zdc bz (c_insOrd0) rfl rfl rfl (fun d b hd hl => ?_))
      obtain ⟨rfl, rfl⟩ := hd
      refine zn0 ?_
      refine zwr ?_
      refine ztr ?_
      refine blk_ret ?_
      refine ztr ?_
      refine blk_ret ?_
      refine zpr [] (res0) rfl lz ?_
      exact ⟨rfl, rfl⟩
    · skip
      cases h1

theorem c_Sort0  : ACalls Tryz.prog 101 [VR []] [] fun dd bb => dd = .tup [] ∧ bb = [] := by
  refine zai Tryz.func101 rfl Tryz.ntmps101 (by rw [Tryz.results101]) rfl rfl (fun w0 A0 X => ?_)
  refine zsr ?_
  refine zc rfl (zmv (zt rfl) rfl ?_)
  refine zc rfl (zln (e := 3) (n := 1) (zt rfl) rfl zk rfl (fun hl4 => ?_))
  try simp only [List.length_map] at hl4
  refine zc rfl (zas (zt rfl) rfl ?_)
  refine zn0 ?_
  refine zre ?_
  refine zc rfl (zmv (zt rfl) rfl ?_)
  refine zc rfl (zmv (zt rfl) rfl ?_)
  refine zc rfl (zmv (zt rfl) rfl ?_)
  refine zc rfl (op_convert (k1 := .i64) (k' := .u64) (zt rfl) zk zk (inU zom zom) rfl ?_)
  refine zc rfl (zcl zhf (hc (zt rfl) hz) (rs := []) (bxs := []) zdc bz (c_bits_Len ((iRows []).length : Int) (by first | assumption | omega | trivial | (simp; done) | (constructor <;> omega))) rfl rfl rfl (fun d b hd hl => ?_))
  obtain ⟨v, rfl, rfl, hv⟩ := hd
  refine zc rfl (zcl zhf (hc (zt rfl) (hc (zi zdc) (hc (zt rfl) (hc (zt rfl) hz)))) (rs := []) (bxs := []) zdc bz (c_pdqOrd0 _) rfl rfl rfl (fun d b hd hl => ?_))
  obtain ⟨rfl, rfl⟩ := hd
  refine zn0 ?_
  refine post_normal [] (res0) rfl lz ?_
  exact ⟨rfl, rfl⟩

end Go.TQ
