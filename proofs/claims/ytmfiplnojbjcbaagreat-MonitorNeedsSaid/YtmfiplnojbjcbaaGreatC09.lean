/- s09.py -/
import Derived.Test.YtmfiplnojbjcbaaGreatC08
set_option linter.unusedVariables false
set_option linter.unusedSimpArgs false
set_option maxRecDepth 10000
namespace Go.TQ
open Go.Proofs


structure Src where
  l : List Int
  a : Int
def Src.c (s : Src) : List C := [.dat (.sl (iRows s.l)), .dat (.int .i64 s.a)]
structure Src.ok (s : Src) : Prop where
  lo : 0 ≤ s.a
  hi : s.a ≤ s.l.length
  len : s.l.length ≤ 800
def Src.out (s : Src) (n : Int) : Bool := decide ((s.l.length : Int) ≤ s.a) || decide (n < 1)
def Src.n (s : Src) (n : Int) : Int := if s.out n = true then 0 else ((s.l[s.a.toNat]!).tmod n + n).tmod n
def Src.nx (s : Src) (n : Int) : Src := if s.out n = true then s else ⟨s.l, s.a + 1⟩
theorem Src.n_lt (s : Src) (n : Int) : 0 ≤ s.n n ∧ (s.n n < n ∨ s.n n = 0) := by
  unfold Src.n
  split
  · exact ⟨Int.le_refl 0, .inr rfl⟩
  · rename_i h
    have hn : 1 ≤ n := by
      simp [Src.out] at h
      omega
    have h1 := Int.lt_tmod_of_pos (s.l[s.a.toNat]!) (show 0 < n by omega)
    have h2 := Int.tmod_lt_of_pos ((s.l[s.a.toNat]!).tmod n + n) (show 0 < n by omega)
    have h3 := Int.tmod_nonneg n (show 0 ≤ (s.l[s.a.toNat]!).tmod n + n by omega)
    exact ⟨h3, .inl h2⟩
theorem Src.nx_ok {s : Src} (h : s.ok) (n : Int) : (s.nx n).ok ∧ (s.nx n).l = s.l := by
  unfold Src.nx
  split
  · exact ⟨h, rfl⟩
  · rename_i hh
    have h1 := h.lo
    have h2 := h.hi
    simp [Src.out] at hh
    exact ⟨⟨by show 0 ≤ s.a + 1; omega, by show s.a + 1 ≤ s.l.length; omega, h.len⟩, rfl⟩
theorem mod_bounds (x : Int) {n : Int} (h : 1 ≤ n) : -n < x.tmod n ∧ x.tmod n < n :=
  ⟨Int.lt_tmod_of_pos x (by omega), Int.tmod_lt_of_pos x (by omega)⟩

theorem c_Src_N (s : Src) (n : Int) (hs : s.ok) (hn : n ≤ 1000000000000) : ACalls Tryz.prog 9 [.one (.ref (.e 0) 0), VI n] [s.c] fun dd bb => dd = VI (s.n n) ∧ bb = [(s.nx n).c] := by
  refine zai Tryz.func9 rfl Tryz.ntmps9 (by rw [Tryz.results9]) rfl rfl (fun w0 A0 X => ?_)
  refine zsr ?_
  refine zc rfl (zas (zi zdc) rfl ?_)
  refine zn0 ?_
  refine zw2 ?_
  refine awp_seq_drawT zk [] [] [0, 1, 3, 7, 0, 16, 48, 112, 240, 511, 1023, 2047, 4095, 8191] rfl
    (Trace.cons ⟨[(0, _)], [], [], [], [], [.slot 5 _]⟩ (prel (lsc rfl lsz) lbz ltz) (fun zs zp zn => (zgp rfl rfl (zmv (zt zp.1.1) rfl rfl))) <|
    Trace.cons ⟨[(5, _)], [], [], [], [], [.slot 6 _]⟩ (prel (lsc rfl lsz) lbz ltz) (fun zs zp zn => (zgp rfl rfl (op_nilCheck (zt zp.1.1) rfl rfl))) <|
    Trace.cons ⟨[(6, _)], [], [], [], [], [.slot 7 _]⟩ (prel (lsc rfl lsz) lbz ltz) (fun zs zp zn => (zgp rfl rfl (zfa (o := 1) (zt zp.1.1) zk rfl rfl))) <|
    Trace.cons ⟨[(7, _)], [(.e 0, _)], [], [], [], [.slot 8 _]⟩ (prel (lsc rfl lsz) (lbc rfl lbz) ltz) (fun zs zp zn => (zgp rfl rfl (zl1 (zt zp.1.1) zk zp.2.1.1 rfl rfl rfl))) <|
    Trace.cons ⟨[(0, _)], [], [], [], [], [.slot 9 _]⟩ (prel (lsc rfl lsz) lbz ltz) (fun zs zp zn => (zgp rfl rfl (zmv (zt zp.1.1) rfl rfl))) <|
    Trace.cons ⟨[(9, _)], [], [], [], [], [.slot 10 _]⟩ (prel (lsc rfl lsz) lbz ltz) (fun zs zp zn => (zgp rfl rfl (op_nilCheck (zt zp.1.1) rfl rfl))) <|
    Trace.cons ⟨[(10, _)], [], [], [], [], [.slot 11 _]⟩ (prel (lsc rfl lsz) lbz ltz) (fun zs zp zn => (zgp rfl rfl (zfa (o := 0) (zt zp.1.1) zk rfl rfl))) <|
    Trace.cons ⟨[(11, _)], [(.e 0, _)], [], [], [], [.slot 12 _]⟩ (prel (lsc rfl lsz) (lbc rfl lbz) ltz) (fun zs zp zn => (zgp rfl rfl (zl1 (zt zp.1.1) zk zp.2.1.1 rfl rfl rfl))) <|
    Trace.cons ⟨[(12, _)], [], [], [], [], [.slot 13 _]⟩ (prel (lsc rfl lsz) lbz ltz) (fun zs zp zn => (zgp rfl rfl (zln (e := 3) (n := 1) (zt zp.1.1) rfl zk rfl (fun hl => rfl)))) <|
    Trace.cons ⟨[(8, _), (13, _)], [], [], [], [], [.slot 14 _]⟩ (prel (lsc rfl (lsc rfl lsz)) lbz ltz) (fun zs zp zn => (zgp rfl rfl (zcm (zt zp.1.1) (zt zp.1.2.1) rfl rfl rfl))) <|
    Trace.cons ⟨[(14, _)], [], [], [], [], [.slot 15 _]⟩ (prel (lsc rfl lsz) lbz ltz) (fun zs zp zn => (zgp rfl rfl (zmv (zt zp.1.1) rfl rfl))) <|
    Trace.cons ⟨[(15, _), (1, _)], [], [], [], [], [.slot 16 _]⟩ (prel (lsc rfl (lsc rfl lsz)) lbz ltz) (fun zs zp zn => (zgg rfl rfl rfl rfl rfl (zgb zp.1.1) (fun hg => zmv (zt zp.1.2.1) rfl rfl))) <|
    Trace.cons ⟨[(15, _), (16, _)], [], [], [], [], [.slot 17 _]⟩ (prel (lsc rfl (lsc rfl lsz)) lbz ltz) (fun zs zp zn => (zgg rfl rfl rfl rfl rfl (zgb zp.1.1) (fun hg => zcm (zcd (zt zp.1.2.1) hg) (zi zdc) rfl rfl rfl))) <|
    Trace.cons ⟨[(15, _), (17, _)], [], [], [], [], [.slot 18 _]⟩ (prel (lsc rfl (lsc rfl lsz)) lbz ltz) (fun zs zp zn => (zgp rfl rfl (zor (zt zp.1.1) (.inl zb0) (zt zp.1.2.1) rfl rfl))) <|
    Trace.nil) rfl rfl rfl ?_
  refine zwc (zt rfl) (fun h1 => ?_) (fun h1 => ?_)
  · skip
    refine zsr ?_
    refine zc rfl (zas (zi zdc) rfl ?_)
    refine zn0 ?_
    refine zwr ?_
    refine ztr ?_
    refine zpr [_] (res1 (zrt rfl)) (show _ = 1 from rfl) (l1 rfl) ?_
    have g1 : s.out n = true := by have := h1; simpa [Src.out] using this
    have he : s.n n = 0 := by rw [Src.n, if_pos g1]
    have he2 : s.nx n = s := by rw [Src.nx, if_pos g1]
    rw [he, he2]
    exact ⟨rfl, rfl⟩
  · skip
    have g1 : s.out n = false := by have := h1; simpa [Src.out] using this
    have g2 : s.a < s.l.length ∧ 1 ≤ n := by have := g1; simp [Src.out] at this; omega
    have hlo := hs.lo
    have hsl := hs.len
    have hb1 := mod_bounds (s.l[s.a.toNat]!) g2.2
    have hb2 := mod_bounds ((s.l[s.a.toNat]!).tmod n + n) g2.2
    refine zws ?_
    refine ztn ?_
    refine zsr ?_
    refine zc rfl (zmv (zt rfl) rfl ?_)
    refine zc rfl (op_nilCheck (zt rfl) rfl ?_)
    refine zc rfl (zfa (o := 1) (zt rfl) zk rfl ?_)
    refine zc rfl (zl1 (zt rfl) zk rfl rfl rfl ?_)
    refine zc rfl (zar (zt rfl) (zi zdc) rfl (ink64 (by omega) (by omega)) rfl ?_)
    refine zc rfl (op_nilCheck (zt rfl) rfl ?_)
    refine zc rfl (zfa (o := 1) (zt rfl) zk rfl ?_)
    refine zc rfl (zst (n := 1) (zt rfl) (zt rfl) rfl (.inr ⟨by kernel_rfl, rfl⟩) rfl rfl (zbl rfl) ?_)
    refine zn0 ?_
    refine awp_seq_drawT zk [] [] [0, 1, 3, 7, 0, 16, 48, 112, 240, 511, 1023, 0, 4095, 0, 16383, 0, 65535, 131071] rfl
      (Trace.cons ⟨[(0, _)], [], [], [], [], [.slot 26 _]⟩ (prel (lsc rfl lsz) lbz ltz) (fun zs zp zn => (zgp rfl rfl (zmv (zt zp.1.1) rfl rfl))) <|
      Trace.cons ⟨[(26, _)], [], [], [], [], [.slot 27 _]⟩ (prel (lsc rfl lsz) lbz ltz) (fun zs zp zn => (zgp rfl rfl (op_nilCheck (zt zp.1.1) rfl rfl))) <|
      Trace.cons ⟨[(27, _)], [], [], [], [], [.slot 28 _]⟩ (prel (lsc rfl lsz) lbz ltz) (fun zs zp zn => (zgp rfl rfl (zfa (o := 0) (zt zp.1.1) zk rfl rfl))) <|
      Trace.cons ⟨[(28, _)], [(.e 0, _)], [], [], [], [.slot 29 _]⟩ (prel (lsc rfl lsz) (lbc rfl lbz) ltz) (fun zs zp zn => (zgp rfl rfl (zl1 (zt zp.1.1) zk zp.2.1.1 rfl rfl rfl))) <|
      Trace.cons ⟨[(0, _)], [], [], [], [], [.slot 30 _]⟩ (prel (lsc rfl lsz) lbz ltz) (fun zs zp zn => (zgp rfl rfl (zmv (zt zp.1.1) rfl rfl))) <|
      Trace.cons ⟨[(30, _)], [], [], [], [], [.slot 31 _]⟩ (prel (lsc rfl lsz) lbz ltz) (fun zs zp zn => (zgp rfl rfl (op_nilCheck (zt zp.1.1) rfl rfl))) <|
      Trace.cons ⟨[(31, _)], [], [], [], [], [.slot 32 _]⟩ (prel (lsc rfl lsz) lbz ltz) (fun zs zp zn => (zgp rfl rfl (zfa (o := 1) (zt zp.1.1) zk rfl rfl))) <|
      Trace.cons ⟨[(32, _)], [(.e 0, _)], [], [], [], [.slot 33 _]⟩ (prel (lsc rfl lsz) (lbc rfl lbz) ltz) (fun zs zp zn => (zgp rfl rfl (zl1 (zt zp.1.1) zk zp.2.1.1 rfl rfl rfl))) <|
      Trace.cons ⟨[(33, _)], [], [], [], [], [.slot 34 _]⟩ (prel (lsc rfl lsz) lbz ltz) (fun zs zp zn => (zgp rfl rfl (zar (zt zp.1.1) (zi zdc) rfl (ink64 (by omega) (by omega)) rfl rfl))) <|
      Trace.cons ⟨[(29, _), (34, _)], [], [], [], [], [.slot 35 _]⟩ (prel (lsc rfl (lsc rfl lsz)) lbz ltz) (fun zs zp zn => (zgp rfl rfl (op_indexAddr (e := 3) (n := 1) (zt zp.1.1) rfl (zt zp.1.2.1) zk (by omega) (show (iRows s.l)[(s.a + 1 - 1).toNat]? = some (iRow s.l[s.a.toNat]!) by rw [Int.add_sub_cancel]; exact map_getD (by omega)) rfl rfl rfl))) <|
      Trace.cons ⟨[(35, _)], [], [], [], [], [.slot 36 _]⟩ (prel (lsc rfl lsz) lbz ltz) (fun zs zp zn => (zgp rfl rfl (op_load_imm1 (zt zp.1.1) zk rfl rfl rfl))) <|
      Trace.cons ⟨[(1, _)], [], [], [], [], [.slot 37 _]⟩ (prel (lsc rfl lsz) lbz ltz) (fun zs zp zn => (zgp rfl rfl (zmv (zt zp.1.1) rfl rfl))) <|
      Trace.cons ⟨[(36, _), (37, _)], [], [], [], [], [.slot 38 _]⟩ (prel (lsc rfl (lsc rfl lsz)) lbz ltz) (fun zs zp zn => (zgp rfl rfl (op_rem (zt zp.1.1) (zt zp.1.2.1) (by omega) (ink64 (by omega) (by omega)) rfl rfl))) <|
      Trace.cons ⟨[(1, _)], [], [], [], [], [.slot 39 _]⟩ (prel (lsc rfl lsz) lbz ltz) (fun zs zp zn => (zgp rfl rfl (zmv (zt zp.1.1) rfl rfl))) <|
      Trace.cons ⟨[(38, _), (39, _)], [], [], [], [], [.slot 40 _]⟩ (prel (lsc rfl (lsc rfl lsz)) lbz ltz) (fun zs zp zn => (zgp rfl rfl (zar (zt zp.1.1) (zt zp.1.2.1) rfl (ink64 (by omega) (by omega)) rfl rfl))) <|
      Trace.cons ⟨[(1, _)], [], [], [], [], [.slot 41 _]⟩ (prel (lsc rfl lsz) lbz ltz) (fun zs zp zn => (zgp rfl rfl (zmv (zt zp.1.1) rfl rfl))) <|
      Trace.cons ⟨[(40, _), (41, _)], [], [], [], [], [.slot 42 _]⟩ (prel (lsc rfl (lsc rfl lsz)) lbz ltz) (fun zs zp zn => (zgp rfl rfl (op_rem (zt zp.1.1) (zt zp.1.2.1) (by omega) (ink64 (by omega) (by omega)) rfl rfl))) <|
      Trace.cons ⟨[(42, _)], [], [], [], [], [.slot 4 _]⟩ (prel (lsc rfl lsz) lbz ltz) (fun zs zp zn => (zgp rfl rfl (zas (zt zp.1.1) rfl rfl))) <|
      Trace.nil) rfl rfl rfl ?_
    refine zwr ?_
    refine zpr [_] (res1 (zrt rfl)) (show _ = 1 from rfl) (l1 rfl) ?_
    have he : s.n n = ((s.l[s.a.toNat]!).tmod n + n).tmod n := by rw [Src.n, if_neg (by simp [g1])]
    have he2 : s.nx n = ⟨s.l, s.a + 1⟩ := by rw [Src.nx, if_neg (by simp [g1])]
    rw [he, he2]
    exact ⟨rfl, rfl⟩

theorem c_Src_Range (s : Src) (hs : s.ok) (lo hi : Int) (hb : -1000000000 ≤ lo ∧ lo ≤ hi ∧ hi ≤ 1000000000) : ACalls Tryz.prog 24 [.one (.ref (.e 0) 0), VI lo, VI hi] [s.c] fun dd bb => dd = VI (lo + s.n (hi - lo + 1)) ∧ bb = [(s.nx (hi - lo + 1)).c] := by
  refine zai Tryz.func24 rfl Tryz.ntmps24 (by rw [Tryz.results24]) rfl rfl (fun w0 A0 X => ?_)
  refine zsr ?_
  refine zc rfl (zas (zi zdc) rfl ?_)
  refine zn0 ?_
  refine zsr ?_
  refine zc rfl (zmv (zt rfl) rfl ?_)
  refine zc rfl (zmv (zt rfl) rfl ?_)
  refine zc rfl (zmv (zt rfl) rfl ?_)
  refine zc rfl (zmv (zt rfl) rfl ?_)
  refine zc rfl (zar (zt rfl) (zt rfl) rfl (ink64 (by omega) (by omega)) rfl ?_)
  refine zc rfl (zar (zt rfl) (zi zdc) rfl (ink64 (by omega) (by omega)) rfl ?_)
  refine zc rfl (zcl zhf (hc (zt rfl) (hc (zt rfl) hz)) (rs := [.e 0]) (bxs := [_]) zdc (bc rfl bz) (c_Src_N s _ hs (by omega)) rfl rfl rfl (fun d b hd hl => ?_))
  obtain ⟨rfl, rfl⟩ := hd
  have f1 := s.n_lt (hi - lo + 1)
  refine zc rfl (zar (zt rfl) (zt rfl) rfl (ink64 (by omega) (by omega)) rfl ?_)
  refine zc rfl (zas (zt rfl) rfl ?_)
  refine zn0 ?_
  refine zwr ?_
  refine zpr [_] (res1 (zrt rfl)) (show _ = 1 from rfl) (l1 rfl) ?_
  exact ⟨rfl, rfl⟩


def Src.pk (s : Src) (l2 : List Int) : Int := l2[(s.n (iRows l2).length).toNat]!
abbrev sRows (l : List ByteArray) : List (List Dat) := l.map sRow
def Src.tx (s : Src) (l2 : List ByteArray) : ByteArray := l2[(s.n (sRows l2).length).toNat]!
def strA : ByteArray := ⟨#[97]⟩
def strB : ByteArray := ⟨#[98]⟩
def strC : ByteArray := ⟨#[99]⟩
def strAA : ByteArray := ⟨#[97, 97]⟩
def vals4 : List ByteArray := [strA, strB, strC, strAA]
def oddL : List Int := [-1, 0, 1, 2, 9223372036854775807, -9223372036854775808, 1000000000000, 1000000000001, 1000000, 1000001, 1000000, 1000, 1001, 1000, 1001]
def Src.value (s : Src) : ByteArray := s.tx vals4
def Src.odd (s : Src) : Int := s.pk oddL

theorem c_Src_Pick (s : Src) (hs : s.ok) (l2 : List Int) (hb : 1 ≤ l2.length ∧ l2.length ≤ 1000) : ACalls Tryz.prog 56 [.one (.ref (.e 0) 0), VR (iRows l2)] [s.c] fun dd bb => dd = VI (s.pk l2) ∧ bb = [(s.nx (iRows l2).length).c] := by
  refine zai Tryz.func56 rfl Tryz.ntmps56 (by rw [Tryz.results56]) rfl rfl (fun w0 A0 X => ?_)
  refine zsr ?_
  refine zc rfl (zas (zi zdc) rfl ?_)
  refine zn0 ?_
  refine zsr ?_
  refine zc rfl (zmv (zt rfl) rfl ?_)
  refine zc rfl (zmv (zt rfl) rfl ?_)
  refine zc rfl (zmv (zt rfl) rfl ?_)
  refine zc rfl (zln (e := 3) (n := 1) (zt rfl) rfl zk rfl (fun hl => ?_))
  have hll : ((iRows l2).length : Int) = l2.length := by simp
  refine zc rfl (zcl zhf (hc (zt rfl) (hc (zt rfl) hz)) (rs := [.e 0]) (bxs := [_]) zdc (bc rfl bz) (c_Src_N s ((iRows l2).length : Int) hs (by omega)) rfl rfl rfl (fun d b hd hl => ?_))
  obtain ⟨rfl, rfl⟩ := hd
  have f1 := s.n_lt (((iRows l2).length : Int))
  refine zc rfl (op_indexAddr (e := 3) (n := 1) (zt rfl) rfl (zt rfl) zk (by omega) (show (iRows l2)[(s.n (iRows l2).length).toNat]? = some (iRow l2[(s.n (iRows l2).length).toNat]!) from map_getD (by omega)) rfl rfl ?_)
  refine zc rfl (op_load_imm1 (zt rfl) zk rfl rfl ?_)
  refine zc rfl (zas (zt rfl) rfl ?_)
  refine zn0 ?_
  refine zwr ?_
  refine zpr [_] (res1 (zrt rfl)) (show _ = 1 from rfl) (l1 rfl) ?_
  exact ⟨rfl, rfl⟩

theorem c_Src_Text (s : Src) (hs : s.ok) (l2 : List ByteArray) (hb : 1 ≤ l2.length ∧ l2.length ≤ 1000) : ACalls Tryz.prog 58 [.one (.ref (.e 0) 0), VR (sRows l2)] [s.c] fun dd bb => dd = VS (s.tx l2) ∧ bb = [(s.nx (sRows l2).length).c] := by
  refine zai Tryz.func58 rfl Tryz.ntmps58 (by rw [Tryz.results58]) rfl rfl (fun w0 A0 X => ?_)
  refine zsr ?_
  refine zc rfl (zas (has_str zdc) rfl ?_)
  refine zn0 ?_
  refine zsr ?_
  refine zc rfl (zmv (zt rfl) rfl ?_)
  refine zc rfl (zmv (zt rfl) rfl ?_)
  refine zc rfl (zmv (zt rfl) rfl ?_)
  refine zc rfl (zln (e := 9) (n := 1) (zt rfl) rfl zk rfl (fun hl => ?_))
  have hll : ((sRows l2).length : Int) = l2.length := by simp
  refine zc rfl (zcl zhf (hc (zt rfl) (hc (zt rfl) hz)) (rs := [.e 0]) (bxs := [_]) zdc (bc rfl bz) (c_Src_N s ((sRows l2).length : Int) hs (by omega)) rfl rfl rfl (fun d b hd hl => ?_))
  obtain ⟨rfl, rfl⟩ := hd
  have f1 := s.n_lt (((sRows l2).length : Int))
  refine zc rfl (op_indexAddr (e := 9) (n := 1) (zt rfl) rfl (zt rfl) zk (by omega) (show (sRows l2)[(s.n (sRows l2).length).toNat]? = some (sRow l2[(s.n (sRows l2).length).toNat]!) from map_getD (by omega)) rfl rfl ?_)
  refine zc rfl (op_load_imm1 (zt rfl) zk rfl rfl ?_)
  refine zc rfl (zas (zt rfl) rfl ?_)
  refine zn0 ?_
  refine zwr ?_
  refine zpr [_] (res1 (zrt rfl)) (show _ = 1 from rfl) (l1 rfl) ?_
  exact ⟨rfl, rfl⟩

theorem c_Src_Odd (s : Src) (hs : s.ok) : ACalls Tryz.prog 57 [.one (.ref (.e 0) 0)] [s.c] fun dd bb => dd = VI s.odd ∧ bb = [(s.nx 15).c] := by
  refine zai Tryz.func57 rfl Tryz.ntmps57 (by rw [Tryz.results57]) rfl rfl (fun w0 A0 X => ?_)
  refine zsr ?_
  refine zc rfl (zas (zi zdc) rfl ?_)
  refine zn0 ?_
  refine zsr ?_
  refine zc rfl (zmv (zt rfl) rfl ?_)
  refine zc rfl (zbs (e := 3) (ps := [(_, _), (_, _), (_, _), (_, _), (_, _), (_, _), (_, _), (_, _), (_, _), (_, _), (_, _), (_, _), (_, _), (_, _), (_, _)]) (qs := [(_, _), (_, _), (_, _), (_, _), (_, _), (_, _), (_, _), (_, _), (_, _), (_, _), (_, _), (_, _), (_, _), (_, _), (_, _)]) (n := 1) (rows := [[_], [_], [_], [_], [_], [_], [_], [_], [_], [_], [_], [_], [_], [_], [_]]) (pc (zi zdc) rfl (pc (zi zdc) rfl (pc (zi zdc) rfl (pc (zi zdc) rfl (pc (zi zdc) rfl (pc (zi zdc) rfl (pc (zi zdc) rfl (pc (zi zdc) rfl (pc (zi zdc) rfl (pc (zi zdc) rfl (pc (zi zdc) rfl (pc (zi zdc) rfl (pc (zi zdc) rfl (pc (zi zdc) rfl (pc (zi zdc) rfl pz))))))))))))))) zk zdc ⟨[.dat (.int .i64 0)], by kernel_rfl⟩ rfl rfl (by simp [Uni]) rfl zdc rfl ?_)
  refine zc rfl (zcl zhf (hc (zt rfl) (hc (zt rfl) hz)) (rs := [.e 0]) (bxs := [_]) zdc (bc rfl bz) (c_Src_Pick s hs oddL zdc) rfl rfl rfl (fun d b hd hl => ?_))
  obtain ⟨rfl, rfl⟩ := hd
  refine zc rfl (zas (zt rfl) rfl ?_)
  refine zn0 ?_
  refine zwr ?_
  refine zpr [_] (res1 (zrt rfl)) (show _ = 1 from rfl) (l1 rfl) ?_
  exact ⟨rfl, rfl⟩

theorem c_Src_Value (s : Src) (hs : s.ok) : ACalls Tryz.prog 44 [.one (.ref (.e 0) 0)] [s.c] fun dd bb => dd = VS s.value ∧ bb = [(s.nx 4).c] := by
  refine zai Tryz.func44 rfl Tryz.ntmps44 (by rw [Tryz.results44]) rfl rfl (fun w0 A0 X => ?_)
  refine zsr ?_
  refine zc rfl (zas (has_str zdc) rfl ?_)
  refine zn0 ?_
  refine zsr ?_
  refine zc rfl (zmv (zt rfl) rfl ?_)
  refine zc rfl (zbs (e := 9) (ps := [(_, _), (_, _), (_, _), (_, _)]) (qs := [(_, _), (_, _), (_, _), (_, _)]) (n := 1) (rows := [[_], [_], [_], [_]]) (pc (has_str zdc) rfl (pc (has_str zdc) rfl (pc (has_str zdc) rfl (pc (has_str zdc) rfl pz)))) zk zdc ⟨[.dat (.str ⟨#[]⟩)], by kernel_rfl⟩ rfl rfl (by simp [Uni]) rfl zdc rfl ?_)
  refine zc rfl (zcl zhf (hc (zt rfl) (hc (zt rfl) hz)) (rs := [.e 0]) (bxs := [_]) zdc (bc rfl bz) (c_Src_Text s hs vals4 zdc) rfl rfl rfl (fun d b hd hl => ?_))
  obtain ⟨rfl, rfl⟩ := hd
  refine zc rfl (zas (zt rfl) rfl ?_)
  refine zn0 ?_
  refine zwr ?_
  refine zpr [_] (res1 (zrt rfl)) (show _ = 1 from rfl) (l1 rfl) ?_
  exact ⟨rfl, rfl⟩

theorem c_Src_Ballot (s : Src) (hs : s.ok) : ACalls Tryz.prog 59 [.one (.ref (.e 0) 0)] [s.c] fun dd bb => dd = .aggd (Ballot.mk (s.pk [1, 2, 3, 4, 5, 1000, 1000000]) (s.nx 7).value).d ∧ bb = [((s.nx 7).nx 4).c] := by
  refine zai Tryz.func59 rfl Tryz.ntmps59 (by rw [Tryz.results59]) rfl rfl (fun w0 A0 X => ?_)
  refine zsr ?_
  refine zc rfl (zal (cs := [.dat (.int .i64 0), .dat (.str ⟨#[]⟩)]) zk rfl ?_)
  refine zn0 ?_
  refine zsr ?_
  refine zc rfl (zmv (zt rfl) rfl ?_)
  refine zc rfl (zbs (e := 3) (ps := [(_, _), (_, _), (_, _), (_, _), (_, _), (_, _), (_, _)]) (qs := [(_, _), (_, _), (_, _), (_, _), (_, _), (_, _), (_, _)]) (n := 1) (rows := [[_], [_], [_], [_], [_], [_], [_]]) (pc (zi zdc) rfl (pc (zi zdc) rfl (pc (zi zdc) rfl (pc (zi zdc) rfl (pc (zi zdc) rfl (pc (zi zdc) rfl (pc (zi zdc) rfl pz))))))) zk zdc ⟨[.dat (.int .i64 0)], by kernel_rfl⟩ rfl rfl (by simp [Uni]) rfl zdc rfl ?_)
  refine zc rfl (zcl zhf (hc (zt rfl) (hc (zt rfl) hz)) (rs := [.e 0]) (bxs := [_]) zdc (bc rfl bz) (c_Src_Pick s hs [1, 2, 3, 4, 5, 1000, 1000000] zdc) rfl rfl rfl (fun d b hd hl => ?_))
  obtain ⟨rfl, rfl⟩ := hd
  refine zc rfl (zmv (zt rfl) rfl ?_)
  refine zc rfl (zcl zhf (hc (zt rfl) hz) (rs := [.e 0]) (bxs := [_]) zdc (bc rfl bz) (c_Src_Value (s.nx 7) (s.nx_ok hs 7).1) rfl rfl rfl (fun d b hd hl => ?_))
  obtain ⟨rfl, rfl⟩ := hd
  refine zc rfl (zbd (ps := [(_, _), (_, _)]) (qs := [(_, _), (_, _)]) (zs := [.dat (.int .i64 0), .dat (.str ⟨#[]⟩)]) (pl := [(0, 1), (1, 1)]) (pc (zt rfl) rfl (pc (zt rfl) rfl pz)) zk zk rfl rfl ?_)
  refine zc rfl (zst (n := 2) (zt rfl) (zt rfl) rfl (.inl zk) rfl rfl (zbl rfl) ?_)
  refine zn0 ?_
  refine zwr ?_
  refine zpr [_] (res1 (ri_agg (n := 2) rfl rfl zk rfl)) (show _ = 1 from rfl) (l1 rfl) ?_
  exact ⟨rfl, rfl⟩

theorem c_Src_Low (s : Src) (hs : s.ok) : ACalls Tryz.prog 45 [.one (.ref (.e 0) 0)] [s.c] fun dd bb => dd = .aggd (Ballot.mk (1 + s.n (6 - 1 + 1)) (s.nx (6 - 1 + 1)).value).d ∧ bb = [((s.nx (6 - 1 + 1)).nx 4).c] := by
  refine zai Tryz.func45 rfl Tryz.ntmps45 (by rw [Tryz.results45]) rfl rfl (fun w0 A0 X => ?_)
  refine zsr ?_
  refine zc rfl (zal (cs := [.dat (.int .i64 0), .dat (.str ⟨#[]⟩)]) zk rfl ?_)
  refine zn0 ?_
  refine zsr ?_
  refine zc rfl (zmv (zt rfl) rfl ?_)
  refine zc rfl (zcl zhf (hc (zt rfl) (hc (zi zdc) (hc (zi zdc) hz))) (rs := [.e 0]) (bxs := [_]) zdc (bc rfl bz) (c_Src_Range s hs 1 6 (by omega)) rfl rfl rfl (fun d b hd hl => ?_))
  obtain ⟨rfl, rfl⟩ := hd
  refine zc rfl (zmv (zt rfl) rfl ?_)
  refine zc rfl (zcl zhf (hc (zt rfl) hz) (rs := [.e 0]) (bxs := [_]) zdc (bc rfl bz) (c_Src_Value (s.nx (6 - 1 + 1)) (s.nx_ok hs _).1) rfl rfl rfl (fun d b hd hl => ?_))
  obtain ⟨rfl, rfl⟩ := hd
  refine zc rfl (zbd (ps := [(_, _), (_, _)]) (qs := [(_, _), (_, _)]) (zs := [.dat (.int .i64 0), .dat (.str ⟨#[]⟩)]) (pl := [(0, 1), (1, 1)]) (pc (zt rfl) rfl (pc (zt rfl) rfl pz)) zk zk rfl rfl ?_)
  refine zc rfl (zst (n := 2) (zt rfl) (zt rfl) rfl (.inl zk) rfl rfl (zbl rfl) ?_)
  refine zn0 ?_
  refine zwr ?_
  refine zpr [_] (res1 (ri_agg (n := 2) rfl rfl zk rfl)) (show _ = 1 from rfl) (l1 rfl) ?_
  exact ⟨rfl, rfl⟩


theorem Src.nx_ok' {s : Src} (h : s.ok) (n : Int) : (s.nx n).ok := (s.nx_ok h n).1
def upTo (k : Nat) : List Int := (List.range k).map fun (i : Nat) => (i : Int)
theorem upTo_len (k : Nat) : (upTo k).length = k := by simp [upTo]
theorem upTo_succ (k : Nat) : iRows (upTo (k + 1)) = iRows (upTo k) ++ [iRow k] := by simp [upTo, List.range_succ]

theorem c_Flat (n : Nat) (k : Int) (hn : n ≤ 1000) : ACalls Tryz.prog 29 [VI (n : Int), VI k] [] fun dd bb => dd = .aggd (Trust.mk k (upTo n) []).d ∧ bb = [] := by
  refine zai Tryz.func29 rfl Tryz.ntmps29 (by rw [Tryz.results29]) rfl rfl (fun w0 A0 X => ?_)
  refine zsr ?_
  refine zc rfl (zal (cs := [.dat (.int .i64 0), .nilsl, .nilsl]) zk rfl ?_)
  refine zn0 ?_
  refine zsr ?_
  refine zc rfl (zmv (zt rfl) rfl ?_)
  refine zc rfl (zbd (ps := [(_, _)]) (qs := [(_, _)]) (zs := [.dat (.int .i64 0), .nilsl, .nilsl]) (pl := [(0, 1), (1, 1), (2, 1)]) (pc (zt rfl) rfl pz) zk zk rfl rfl ?_)
  refine zc rfl (zal (cs := [.dat (.int .i64 0), .nilsl, .nilsl]) zk rfl ?_)
  refine zc rfl (zst (n := 3) (zt rfl) (zt rfl) rfl (.inl zk) rfl rfl (zbl rfl) ?_)
  refine zn0 ?_
  refine zw2 ?_
  refine zsr ?_
  refine zc rfl (zas (zi zdc) rfl ?_)
  refine zn0 ?_
  refine zwb ?_
  refine awp_loop (ι := Nat) (fun i => St.of [(0, VI ((n : Int))), (4, .one (.ref (.o 4) 0)), (5, .one (.ref (.o 5) 0)), (6, VI ((i : Int)))] [(.o 4, [.dat (.int .i64 0), .nilsl, .nilsl]), (.o 5, [.dat (.int .i64 k), .slt 18 (iRows (upTo i)), .nilsl])] [(18, (3, 1))]) (fun i => i ≤ n ∧ (True)) (fun i => n - i) 0 ?_ ?_ ?_
  · exact (le_adoptB (r := .o 5) (off := 1) (q := 18) (e := 3) (k := 1) zdc rfl rfl rfl).trans (le_of (sc rfl (sc rfl (sc rfl (sc rfl sz)))) (xc rfl (xc rfl xz)) (kc rfl kz))
  · exact ⟨Nat.zero_le _, trivial⟩
  intro i ⟨hk, hI⟩
  have hul := upTo_len i
  refine zw2 ?_
  refine zsr ?_
  refine zc rfl (zmv (zt rfl) rfl ?_)
  refine zc rfl (zmv (zt rfl) rfl ?_)
  refine zc rfl (zcm (zt rfl) (zt rfl) rfl rfl ?_)
  refine zn0 ?_
  refine zwc (zt rfl) (fun h1 => ?_) (fun h1 => ?_)
  · skip
    have hlt : i < n := by have := of_decide_eq_true h1; omega
    have he : [C.dat (.int .i64 k), .slt 18 (iRows (upTo (i + 1))), .nilsl] = [C.dat (.int .i64 k), .slt 18 (iRows (upTo i) ++ [iRow i]), .nilsl] := by rw [upTo_succ]
    refine zws ?_
    refine ztn ?_
    refine zw2 ?_
    refine zwb ?_
    refine zre ?_
    refine zc rfl (zfa (o := 1) (zt rfl) zk rfl ?_)
    refine zc rfl (zl1 (zt rfl) zk rfl rfl rfl ?_)
    refine zc rfl (zmv (zt rfl) rfl ?_)
    refine zc rfl (zbs (e := 3) (ps := [(_, _)]) (qs := [(_, _)]) (n := 1) (rows := [[_]]) (pc (zt rfl) rfl pz) zk zdc ⟨[.dat (.int .i64 0)], by kernel_rfl⟩ rfl rfl (by simp [Uni]) rfl zdc rfl ?_)
    refine zc rfl (op_append (e := 3) (k := 1) (b := 8) (zt rfl) rfl (zt rfl) rfl zk (uni_snoc (uni_map (f := iRow) (fun _ => rfl) _) rfl) (by simp; omega) (by simp; omega) rfl ?_)
    refine zc rfl (zfa (o := 1) (zt rfl) zk rfl ?_)
    refine zc rfl (zst (n := 1) (zt rfl) (zt rfl) rfl (.inr ⟨by kernel_rfl, rfl⟩) rfl rfl (zbl rfl) ?_)
    refine zn0 ?_
    refine zbn ?_
    refine ztn ?_
    refine zre ?_
    refine zc rfl (zmv (zt rfl) rfl ?_)
    refine zc rfl (zar (zt rfl) (zi zdc) rfl (ink64 (by omega) (by omega)) rfl ?_)
    refine zc rfl (zas (zt rfl) rfl ?_)
    refine zn0 ?_
    refine ztn ?_
    exact ⟨i + 1, ⟨by first | omega | (dsimp only; omega), trivial⟩, by first | omega | (dsimp only; omega), (le_of (sc rfl (sc rfl (sc rfl (sc rfl sz)))) (xc rfl (xc (bx_eq rfl he) xz)) (kc rfl kz))⟩
  · skip
    have hge : i = n := by have := of_decide_eq_false h1; omega
    refine zwe ?_
    refine zte ?_
    refine zte ?_
    refine zbk ?_
    refine ztn ?_
    refine zsr ?_
    refine zc rfl (zld (n := 3) (zt rfl) zk rfl rfl rfl rfl ?_)
    refine zc rfl (zst (n := 3) (zt rfl) (zt rfl) rfl (.inl zk) rfl rfl (zbl rfl) ?_)
    refine zn0 ?_
    refine zwr ?_
    refine zpr [] (res1 (ri_agg (n := 3) rfl rfl zk rfl)) rfl lz ?_
    subst hge
    exact ⟨rfl, rfl⟩

end Go.TQ
