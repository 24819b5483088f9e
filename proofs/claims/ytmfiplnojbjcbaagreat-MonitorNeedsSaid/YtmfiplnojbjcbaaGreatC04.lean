/- s04.py -/
import Derived.Test.YtmfiplnojbjcbaaGreatC03
set_option linter.unusedVariables false
set_option linter.unusedSimpArgs false
set_option maxRecDepth 10000
namespace Go.TQ
open Go.Proofs


def has (s k : Int) : Bool := decide (0 ≤ s) && decide (s < 1024) && decide (0 ≤ k) && decide (k < 10) && s.toNat.testBit k.toNat
def validR (s : Int) : Bool := decide (0 ≤ s) && decide (s ≤ 1023)
theorem validR_eq (s : Int) : validR s = validS s := by unfold validR validS; congr 1; rw [decide_eq_decide]; omega
theorem has_r (s k : Int) : (((validS s && decide (0 ≤ k)) && decide (k < 10)) && decide (((s.toNat >>> k.toNat &&& (1 : Int).toNat : Nat) : Int) = 1)) = has s k := by
  unfold has validS
  congr 1
  rw [Nat.testBit, Nat.and_comm, show (1 : Int).toNat = 1 from rfl]
  rw [Bool.eq_iff_iff, decide_eq_true_eq, bne_iff_ne]
  have : 1 &&& s.toNat >>> k.toNat < 2 := Nat.lt_of_le_of_lt Nat.and_le_left zdc
  omega
theorem has_p (s k : Int) : (((validS s && decide (0 ≤ k)) && decide (k < 10)) && !decide (((s.toNat &&& ((((1 : Int).toNat <<< k.toNat : Nat) : Int)).toNat : Nat) : Int) = 0)) = has s k := by
  unfold has validS
  congr 1
  rw [show ((((1 : Int).toNat <<< k.toNat : Nat) : Int)).toNat = 2 ^ k.toNat by rw [Int.toNat_natCast, show (1 : Int).toNat = 1 from rfl, Nat.one_shiftLeft]]
  rw [Bool.eq_iff_iff, Bool.not_eq_true', decide_eq_false_iff_not]
  constructor
  · intro h
    cases ht : s.toNat.testBit k.toNat with
    | true => rfl
    | false =>
      exfalso
      apply h
      have : s.toNat &&& 2 ^ k.toNat = 0 := by
        apply Nat.eq_of_testBit_eq
        intro i
        rw [Nat.testBit_and, Nat.testBit_two_pow, Nat.zero_testBit]
        by_cases hi : k.toNat = i
        · subst hi; simp [ht]
        · simp [hi]
      omega
  · intro ht h
    have h0 : s.toNat &&& 2 ^ k.toNat = 0 := by omega
    have h1 : (s.toNat &&& 2 ^ k.toNat).testBit k.toNat = true := by rw [Nat.testBit_and, ht, Nat.testBit_two_pow_self]; rfl
    rw [h0, Nat.zero_testBit] at h1
    cases h1

theorem c_trustquorumref01_Valid (s : Int) : ACalls Tryz.prog 34 [VI s] [] fun dd bb => dd = VB (validS s) ∧ bb = [] := by
  refine zai Tryz.func34 rfl Tryz.ntmps34 (by rw [Tryz.results34]) rfl rfl (fun w0 A0 X => ?_)
  refine zsr ?_
  refine zc rfl (zas zb0 rfl ?_)
  refine zn0 ?_
  refine zsr ?_
  refine zc rfl (zmv (zt rfl) rfl ?_)
  refine zc rfl (zcm (zt rfl) (zi zdc) rfl rfl ?_)
  refine zc rfl (zmv (zt rfl) rfl ?_)
  refine zg rfl rfl rfl rfl (zgb rfl) (fun hg => zmv (zt rfl) rfl rfl) ?_
  refine zg rfl rfl rfl rfl (zgb rfl) (fun hg => zcm (zcd (zt rfl) hg) (zi zdc) rfl rfl rfl) ?_
  refine zc rfl (zan (zt rfl) (zt rfl) (.inl zb0) rfl ?_)
  refine zc rfl (zas (zt rfl) rfl ?_)
  refine zn0 ?_
  refine zwr ?_
  refine zpr [] (res1 (zrt rfl)) rfl lz ?_
  rw [← validR_eq]
  exact ⟨rfl, rfl⟩

theorem c_trustquorumref01_Has (s k : Int) : ACalls Tryz.prog 102 [VI s, VI k] [] fun dd bb => dd = VB (has s k) ∧ bb = [] := by
  refine zai Tryz.func102 rfl Tryz.ntmps102 (by rw [Tryz.results102]) rfl rfl (fun w0 A0 X => ?_)
  refine zsr ?_
  refine zc rfl (zas zb0 rfl ?_)
  refine zn0 ?_
  refine zsr ?_
  refine zc rfl (zmv (zt rfl) rfl ?_)
  refine zc rfl (zcl zhf (hc (zt rfl) hz) (rs := []) (bxs := []) zdc bz (c_trustquorumref01_Valid s) rfl rfl rfl (fun d b hd hl => ?_))
  obtain ⟨rfl, rfl⟩ := hd
  refine zc rfl (zmv (zt rfl) rfl ?_)
  refine zg rfl rfl rfl rfl (zgb rfl) (fun hg => zmv (zt rfl) rfl rfl) ?_
  refine zg rfl rfl rfl rfl (zgb rfl) (fun hg => zcm (zcd (zt rfl) hg) (zi zdc) rfl rfl rfl) ?_
  refine zc rfl (zan (zt rfl) (zt rfl) (.inl zb0) rfl ?_)
  refine zc rfl (zmv (zt rfl) rfl ?_)
  refine zg rfl rfl rfl rfl (zgb rfl) (fun hg => zmv (zt rfl) rfl rfl) ?_
  refine zg rfl rfl rfl rfl (zgb rfl) (fun hg => zcm (zcd (zt rfl) hg) (zi zdc) rfl rfl rfl) ?_
  refine zc rfl (zan (zt rfl) (zt rfl) (.inl zb0) rfl ?_)
  refine zc rfl (zmv (zt rfl) rfl ?_)
  refine zg rfl rfl rfl rfl (zgb rfl) (fun hg => zmv (zt rfl) rfl rfl) ?_
  refine zg rfl rfl rfl rfl (zgb rfl) (fun hg => zmv (zt rfl) rfl rfl) ?_
  refine zg rfl rfl rfl rfl (zgb rfl) (fun hg => op_shr (zcd (zt rfl) hg) (zcd (zt rfl) hg) (by simp only [zbz, cond_true, cond_false, validS] at hg; omega) (by simp only [zbz, cond_true, cond_false, validS] at hg; omega) (by simp only [zbz, cond_true, cond_false, validS] at hg; show _ ≤ 64; omega) rfl rfl) ?_
  refine zg rfl rfl rfl rfl (zgb rfl) (fun hg => op_bit (zcd (zt rfl) hg) (zi zdc) (by first | exact Int.natCast_nonneg _ | (simp only [zbz, cond_true, cond_false, validS] at hg; omega)) (by first | exact Int.natCast_nonneg _ | (simp only [zbz, cond_true, cond_false, validS] at hg; omega)) rfl rfl rfl) ?_
  refine zg rfl rfl rfl rfl (zgb rfl) (fun hg => zcm (zcd (zt rfl) hg) (zi zdc) rfl rfl rfl) ?_
  refine zc rfl (zan (zt rfl) (zt rfl) (.inl zb0) rfl ?_)
  refine zc rfl (zas (zt rfl) rfl ?_)
  refine zn0 ?_
  refine zwr ?_
  refine zpr [] (res1 (zrt rfl)) rfl lz ?_
  rw [← has_r]
  exact ⟨rfl, rfl⟩

theorem c_nodeset_Has (s k : Int) : ACalls Tryz.prog 96 [VI s, VI k] [] fun dd bb => dd = VB (has s k) ∧ bb = [] := by
  refine zai Tryz.func96 rfl Tryz.ntmps96 (by rw [Tryz.results96]) rfl rfl (fun w0 A0 X => ?_)
  refine zsr ?_
  refine zc rfl (zas zb0 rfl ?_)
  refine zn0 ?_
  refine zsr ?_
  refine zc rfl (zmv (zt rfl) rfl ?_)
  refine zc rfl (zcl zhf (hc (zt rfl) hz) (rs := []) (bxs := []) zdc bz (c_nodeset_Valid s) rfl rfl rfl (fun d b hd hl => ?_))
  obtain ⟨rfl, rfl⟩ := hd
  refine zc rfl (zmv (zt rfl) rfl ?_)
  refine zg rfl rfl rfl rfl (zgb rfl) (fun hg => zmv (zt rfl) rfl rfl) ?_
  refine zg rfl rfl rfl rfl (zgb rfl) (fun hg => zcm (zcd (zt rfl) hg) (zi zdc) rfl rfl rfl) ?_
  refine zc rfl (zan (zt rfl) (zt rfl) (.inl zb0) rfl ?_)
  refine zc rfl (zmv (zt rfl) rfl ?_)
  refine zg rfl rfl rfl rfl (zgb rfl) (fun hg => zmv (zt rfl) rfl rfl) ?_
  refine zg rfl rfl rfl rfl (zgb rfl) (fun hg => zcm (zcd (zt rfl) hg) (zi zdc) rfl rfl rfl) ?_
  refine zc rfl (zan (zt rfl) (zt rfl) (.inl zb0) rfl ?_)
  refine zc rfl (zmv (zt rfl) rfl ?_)
  refine zg rfl rfl rfl rfl (zgb rfl) (fun hg => zmv (zt rfl) rfl rfl) ?_
  refine zg rfl rfl rfl rfl (zgb rfl) (fun hg => zmv (zt rfl) rfl rfl) ?_
  refine zg rfl rfl rfl rfl (zgb rfl) (fun hg => op_shl (zi zdc) (zcd (zt rfl) hg) (by simp only [zbz, cond_true, cond_false, validS] at hg; omega) (by simp only [zbz, cond_true, cond_false, validS] at hg; omega) (by simp only [zbz, cond_true, cond_false, validS] at hg; show _ ≤ 64; omega) (ink_shl1 (by simp only [zbz, cond_true, cond_false, validS] at hg; omega)) rfl rfl) ?_
  refine zg rfl rfl rfl rfl (zgb rfl) (fun hg => op_bit (zcd (zt rfl) hg) (zcd (zt rfl) hg) (by first | exact Int.natCast_nonneg _ | (simp only [zbz, cond_true, cond_false, validS] at hg; omega)) (by first | exact Int.natCast_nonneg _ | (simp only [zbz, cond_true, cond_false, validS] at hg; omega)) rfl rfl rfl) ?_
  refine zg rfl rfl rfl rfl (zgb rfl) (fun hg => zcm (zcd (zt rfl) hg) (zi zdc) rfl rfl rfl) ?_
  refine zc rfl (zan (zt rfl) (zt rfl) (.inl zb0) rfl ?_)
  refine zc rfl (zas (zt rfl) rfl ?_)
  refine zn0 ?_
  refine zwr ?_
  refine zpr [] (res1 (zrt rfl)) rfl lz ?_
  rw [← has_p]
  exact ⟨rfl, rfl⟩


def orBit (s k : Int) : Int := ((s.toNat ||| (((1 : Int).toNat <<< k.toNat : Nat) : Int).toNat : Nat) : Int)
theorem orBit_nn (s k : Int) : 0 ≤ orBit s k := Int.natCast_nonneg _
def ofN : List Int → Int → Int × Int
  | [], s => (s, 0)
  | k :: l, s => if (decide (k < 0) || decide (10 ≤ k)) = true then (0, 5) else if has s k = true then (0, 6) else ofN l (orBit s k)
section
variable {l : List Int} {k : Nat} {s : Int}
theorem ofN_bad (h : k < l.length) (hb : (decide (l[k]! < 0) || decide (10 ≤ l[k]!)) = true) : ofN (l.drop k) s = (0, 5) := by
  rw [List.drop_eq_getElem_cons h, ofN, if_pos (by simpa [h] using hb)]
theorem ofN_dup (h : k < l.length) (hb : (decide (l[k]! < 0) || decide (10 ≤ l[k]!)) = false) (hh : has s l[k]! = true) : ofN (l.drop k) s = (0, 6) := by
  rw [List.drop_eq_getElem_cons h, ofN, if_neg (by simpa [h] using hb), if_pos (by simpa [h] using hh)]
theorem ofN_next (h : k < l.length) (hb : (decide (l[k]! < 0) || decide (10 ≤ l[k]!)) = false) (hh : has s l[k]! = false) : ofN (l.drop (k + 1)) (orBit s l[k]!) = ofN (l.drop k) s := by
  rw [List.drop_eq_getElem_cons h, ofN, if_neg (by simpa [h] using hb), if_neg (by simpa [h] using hh)]
  simp [h]
end
def nodesTo (s : Int) (k : Nat) : List Int := ((List.range k).map fun (n : Nat) => (n : Int)).filter (has s)
theorem nodesTo_len (s : Int) (k : Nat) : (nodesTo s k).length ≤ k := by
  have := List.length_filter_le (has s) ((List.range k).map fun (n : Nat) => (n : Int))
  simpa [nodesTo] using this
def nodesN (s : Int) : List Int := nodesTo s 10
theorem nodesTo_has {s : Int} {k : Nat} (h : has s k = true) : iRows (nodesTo s (k + 1)) = iRows (nodesTo s k) ++ [iRow k] := by
  simp [nodesTo, List.range_succ, h]
theorem nodesTo_not {s : Int} {k : Nat} (h : has s k = false) : iRows (nodesTo s (k + 1)) = iRows (nodesTo s k) := by
  simp [nodesTo, List.range_succ, h]

theorem c_trustquorumref01_Of (l : List Int) : ACalls Tryz.prog 104 [VR (iRows l)] [] fun dd bb => dd = .tup [VI (ofN l 0).1, VI (ofN l 0).2] ∧ bb = [] := by
  refine zai Tryz.func104 rfl Tryz.ntmps104 (by rw [Tryz.results104]) rfl rfl (fun w0 A0 X => ?_)
  refine zsr ?_
  refine zc rfl (zas (zi zdc) rfl ?_)
  refine zc rfl (zas (zi zdc) rfl ?_)
  refine zn0 ?_
  refine zsr ?_
  refine zc rfl (zas (zi zdc) rfl ?_)
  refine zn0 ?_
  refine zw2 ?_
  refine zsr ?_
  refine zc rfl (zmv (zt rfl) rfl ?_)
  refine zc rfl (zln (e := 3) (n := 1) (zt rfl) rfl zk rfl (fun hl => ?_))
  refine zc rfl (zmv (zi zdc) rfl ?_)
  refine zn0 ?_
  refine zwb ?_
  refine awp_loop (ι := Nat × Int) (fun x => St.of [(7, VR (iRows l)), (8, VI ((iRows l).length : Int)), (9, VI ((x.1 : Nat) : Int)), (4, VI (x.2))] [] []) (fun x => x.1 ≤ (iRows l).length ∧ (ofN (l.drop x.1) x.2 = ofN l 0 ∧ 0 ≤ x.2)) (fun x => (iRows l).length - x.1) (0, 0) ?_ ?_ ?_
  · exact (le_of (sc rfl (sc rfl (sc rfl (sc rfl sz)))) xz kz)
  · exact ⟨Nat.zero_le _, ⟨rfl, Int.le_refl 0⟩⟩
  intro x ⟨hk, ⟨hI, hs⟩⟩
  refine zsr ?_
  refine zc rfl (zcm (zt rfl) (zt rfl) rfl rfl ?_)
  refine zn0 ?_
  refine zw2 ?_
  refine zwc (zt rfl) (fun h1 => ?_) (fun h1 => ?_)
  · skip
    have hlt : x.1 < (iRows l).length := by have := of_decide_eq_true h1; omega
    have hl2 : x.1 < l.length := by simpa using hlt
    refine zws ?_
    refine ztn ?_
    refine zw2 ?_
    refine zwb ?_
    refine zsr ?_
    refine zc rfl (op_indexAddr (e := 3) (n := 1) (zt rfl) rfl (zt rfl) zk (by omega) (show (iRows l)[x.1]? = some _ from map_getD hl2) rfl rfl ?_)
    refine zc rfl (op_load_imm1 (zt rfl) zk rfl rfl ?_)
    refine zc rfl (zas (zt rfl) rfl ?_)
    refine zn0 ?_
    refine zw2 ?_
    refine zsr ?_
    refine zc rfl (zmv (zt rfl) rfl ?_)
    refine zc rfl (zcm (zt rfl) (zi zdc) rfl rfl ?_)
    refine zc rfl (zmv (zt rfl) rfl ?_)
    refine zg rfl rfl rfl rfl (zgb rfl) (fun hg => zmv (zt rfl) rfl rfl) ?_
    refine zg rfl rfl rfl rfl (zgb rfl) (fun hg => zcm (zcd (zt rfl) hg) (zi zdc) rfl rfl rfl) ?_
    refine zc rfl (zor (zt rfl) (.inl zb0) (zt rfl) rfl ?_)
    refine zn0 ?_
    refine zwc (zt rfl) (fun h2 => ?_) (fun h2 => ?_)
    · skip
      refine zsr ?_
      refine zc rfl (zas (zi zdc) rfl ?_)
      refine zc rfl (zas (zi zdc) rfl ?_)
      refine zn0 ?_
      refine zwr ?_
      refine ztr ?_
      refine blk_ret ?_
      refine ztr ?_
      refine ztr ?_
      refine blk_ret ?_
      refine ztr ?_
      refine zpr [] (res2 (zrt rfl) (zrt rfl)) rfl lz ?_
      have he : ofN l 0 = (0, 5) := by rw [← hI]; exact ofN_bad hl2 h2
      rw [he]
      exact ⟨rfl, rfl⟩
    · skip
      have g2 := h2
      try simp only [zbz] at g2
      refine zws ?_
      refine ztn ?_
      refine zw2 ?_
      refine zsr ?_
      refine zc rfl (zmv (zt rfl) rfl ?_)
      refine zc rfl (zmv (zt rfl) rfl ?_)
      refine zc rfl (zcl zhf (hc (zt rfl) (hc (zt rfl) hz)) (rs := []) (bxs := []) zdc bz (c_trustquorumref01_Has _ _) rfl rfl rfl (fun d b hd hl => ?_))
      obtain ⟨rfl, rfl⟩ := hd
      refine zn0 ?_
      refine zwc (zt rfl) (fun h3 => ?_) (fun h3 => ?_)
      · skip
        have g3 := h3
        try simp only [zbz] at g3
        refine zsr ?_
        refine zc rfl (zas (zi zdc) rfl ?_)
        refine zc rfl (zas (zi zdc) rfl ?_)
        refine zn0 ?_
        refine zwr ?_
        refine ztr ?_
        refine blk_ret ?_
        refine ztr ?_
        refine ztr ?_
        refine blk_ret ?_
        refine ztr ?_
        refine zpr [] (res2 (zrt rfl) (zrt rfl)) rfl lz ?_
        have he : ofN l 0 = (0, 6) := by rw [← hI]; exact ofN_dup hl2 h2 h3
        rw [he]
        exact ⟨rfl, rfl⟩
      · skip
        have g3 := h3
        try simp only [zbz] at g3
        refine zws ?_
        refine ztn ?_
        refine zre ?_
        refine zc rfl (zmv (zt rfl) rfl ?_)
        refine zc rfl (zmv (zt rfl) rfl ?_)
        refine zc rfl (op_shl (zi zdc) (zt rfl) (by omega) (by omega) (by show _ ≤ 64; omega) (ink_shl1 (by omega)) rfl ?_)
        refine zc rfl (op_bit (zt rfl) (zt rfl) (by first | exact Int.natCast_nonneg _ | omega) (by first | exact Int.natCast_nonneg _ | omega) rfl rfl ?_)
        refine zc rfl (zas (zt rfl) rfl ?_)
        refine zn0 ?_
        refine zbn ?_
        refine ztn ?_
        refine zre ?_
        refine zc rfl (zar (zt rfl) (zi zdc) rfl (ink64 (by omega) (by omega)) rfl ?_)
        refine zc rfl (zmv (zt rfl) rfl ?_)
        refine zn0 ?_
        refine ztn ?_
        exact ⟨(x.1 + 1, orBit x.2 l[x.1]!), ⟨by first | omega | (dsimp only; omega), ⟨(ofN_next hl2 h2 h3).trans hI, orBit_nn _ _⟩⟩, by first | omega | (dsimp only; omega), (le_of (sc rfl (sc rfl (sc rfl (sc rfl sz)))) xz kz)⟩
  · skip
    have hge : x.1 = (iRows l).length := by have := of_decide_eq_false h1; omega
    refine zwe ?_
    refine zte ?_
    refine zte ?_
    refine zbk ?_
    refine ztn ?_
    refine zsr ?_
    refine zc rfl (zmv (zt rfl) rfl ?_)
    refine zc rfl (zas (zt rfl) rfl ?_)
    refine zc rfl (zas (zi zdc) rfl ?_)
    refine zn0 ?_
    refine zwr ?_
    refine zpr [] (res2 (zrt rfl) (zrt rfl)) rfl lz ?_
    have hkl : x.1 = l.length := by simpa using hge
    have he : ofN l 0 = (x.2, 0) := by rw [← hI, hkl, List.drop_length]; rfl
    rw [he]
    exact ⟨rfl, rfl⟩

theorem c_nodeset_Of (l : List Int) : ACalls Tryz.prog 133 [VR (iRows l)] [] fun dd bb => dd = .tup [VI (ofN l 0).1, VI (ofN l 0).2] ∧ bb = [] := by
  refine zai Tryz.func133 rfl Tryz.ntmps133 (by rw [Tryz.results133]) rfl rfl (fun w0 A0 X => ?_)
  refine zsr ?_
  refine zc rfl (zas (zi zdc) rfl ?_)
  refine zc rfl (zas (zi zdc) rfl ?_)
  refine zn0 ?_
  refine zsr ?_
  refine zc rfl (zas (zi zdc) rfl ?_)
  refine zn0 ?_
  refine zw2 ?_
  refine zsr ?_
  refine zc rfl (zmv (zt rfl) rfl ?_)
  refine zc rfl (zln (e := 3) (n := 1) (zt rfl) rfl zk rfl (fun hl => ?_))
  refine zc rfl (zmv (zi zdc) rfl ?_)
  refine zn0 ?_
  refine zwb ?_
  refine awp_loop (ι := Nat × Int) (fun x => St.of [(7, VR (iRows l)), (8, VI ((iRows l).length : Int)), (9, VI ((x.1 : Nat) : Int)), (4, VI (x.2))] [] []) (fun x => x.1 ≤ (iRows l).length ∧ (ofN (l.drop x.1) x.2 = ofN l 0 ∧ 0 ≤ x.2)) (fun x => (iRows l).length - x.1) (0, 0) ?_ ?_ ?_
  · exact (le_of (sc rfl (sc rfl (sc rfl (sc rfl sz)))) xz kz)
  · exact ⟨Nat.zero_le _, ⟨rfl, Int.le_refl 0⟩⟩
  intro x ⟨hk, ⟨hI, hs⟩⟩
  refine zsr ?_
  refine zc rfl (zcm (zt rfl) (zt rfl) rfl rfl ?_)
  refine zn0 ?_
  refine zw2 ?_
  refine zwc (zt rfl) (fun h1 => ?_) (fun h1 => ?_)
  · skip
    have hlt : x.1 < (iRows l).length := by have := of_decide_eq_true h1; omega
    have hl2 : x.1 < l.length := by simpa using hlt
    refine zws ?_
    refine ztn ?_
    refine zw2 ?_
    refine zwb ?_
    refine zsr ?_
    refine zc rfl (op_indexAddr (e := 3) (n := 1) (zt rfl) rfl (zt rfl) zk (by omega) (show (iRows l)[x.1]? = some _ from map_getD hl2) rfl rfl ?_)
    refine zc rfl (op_load_imm1 (zt rfl) zk rfl rfl ?_)
    refine zc rfl (zas (zt rfl) rfl ?_)
    refine zn0 ?_
    refine zw2 ?_
    refine zsr ?_
    refine zc rfl (zmv (zt rfl) rfl ?_)
    refine zc rfl (zcm (zt rfl) (zi zdc) rfl rfl ?_)
    refine zc rfl (zmv (zt rfl) rfl ?_)
    refine zg rfl rfl rfl rfl (zgb rfl) (fun hg => zmv (zt rfl) rfl rfl) ?_
    refine zg rfl rfl rfl rfl (zgb rfl) (fun hg => zcm (zcd (zt rfl) hg) (zi zdc) rfl rfl rfl) ?_
    refine zc rfl (zor (zt rfl) (.inl zb0) (zt rfl) rfl ?_)
    refine zn0 ?_
    refine zwc (zt rfl) (fun h2 => ?_) (fun h2 => ?_)
    · skip
      refine zsr ?_
      refine zc rfl (zas (zi zdc) rfl ?_)
      refine zc rfl (zas (zi zdc) rfl ?_)
      refine zn0 ?_
      refine zwr ?_
      refine ztr ?_
      refine blk_ret ?_
      refine ztr ?_
      refine ztr ?_
      refine blk_ret ?_
      refine ztr ?_
      refine zpr [] (res2 (zrt rfl) (zrt rfl)) rfl lz ?_
      have he : ofN l 0 = (0, 5) := by rw [← hI]; exact ofN_bad hl2 h2
      rw [he]
      exact ⟨rfl, rfl⟩
    · skip
      have g2 := h2
      try simp only [zbz] at g2
      refine zws ?_
      refine ztn ?_
      refine zw2 ?_
      refine zsr ?_
      refine zc rfl (zmv (zt rfl) rfl ?_)
      refine zc rfl (zmv (zt rfl) rfl ?_)
      refine zc rfl (zcl zhf (hc (zt rfl) (hc (zt rfl) hz)) (rs := []) (bxs := []) zdc bz (c_nodeset_Has _ _) rfl rfl rfl (fun d b hd hl => ?_))
      obtain ⟨rfl, rfl⟩ := hd
      refine zn0 ?_
      refine zwc (zt rfl) (fun h3 => ?_) (fun h3 => ?_)
      · skip
        have g3 := h3
        try simp only [zbz] at g3
        refine zsr ?_
        refine zc rfl (zas (zi zdc) rfl ?_)
        refine zc rfl (zas (zi zdc) rfl ?_)
        refine zn0 ?_
        refine zwr ?_
        refine ztr ?_
        refine blk_ret ?_
        refine ztr ?_
        refine ztr ?_
        refine blk_ret ?_
        refine ztr ?_
        refine zpr [] (res2 (zrt rfl) (zrt rfl)) rfl lz ?_
        have he : ofN l 0 = (0, 6) := by rw [← hI]; exact ofN_dup hl2 h2 h3
        rw [he]
        exact ⟨rfl, rfl⟩
      · skip
        have g3 := h3
        try simp only [zbz] at g3
        refine zws ?_
        refine ztn ?_
        refine zre ?_
        refine zc rfl (zmv (zt rfl) rfl ?_)
        refine zc rfl (zmv (zt rfl) rfl ?_)
        refine zc rfl (op_shl (zi zdc) (zt rfl) (by omega) (by omega) (by show _ ≤ 64; omega) (ink_shl1 (by omega)) rfl ?_)
        refine zc rfl (op_bit (zt rfl) (zt rfl) (by first | exact Int.natCast_nonneg _ | omega) (by first | exact Int.natCast_nonneg _ | omega) rfl rfl ?_)
        refine zc rfl (zas (zt rfl) rfl ?_)
        refine zn0 ?_
        refine zbn ?_
        refine ztn ?_
        refine zre ?_
        refine zc rfl (zar (zt rfl) (zi zdc) rfl (ink64 (by omega) (by omega)) rfl ?_)
        refine zc rfl (zmv (zt rfl) rfl ?_)
        refine zn0 ?_
        refine ztn ?_
        exact ⟨(x.1 + 1, orBit x.2 l[x.1]!), ⟨by first | omega | (dsimp only; omega), ⟨(ofN_next hl2 h2 h3).trans hI, orBit_nn _ _⟩⟩, by first | omega | (dsimp only; omega), (le_of (sc rfl (sc rfl (sc rfl (sc rfl sz)))) xz kz)⟩
  · skip
    have hge : x.1 = (iRows l).length := by have := of_decide_eq_false h1; omega
    refine zwe ?_
    refine zte ?_
    refine zte ?_
    refine zbk ?_
    refine ztn ?_
    refine zsr ?_
    refine zc rfl (zmv (zt rfl) rfl ?_)
    refine zc rfl (zas (zt rfl) rfl ?_)
    refine zc rfl (zas (zi zdc) rfl ?_)
    refine zn0 ?_
    refine zwr ?_
    refine zpr [] (res2 (zrt rfl) (zrt rfl)) rfl lz ?_
    have hkl : x.1 = l.length := by simpa using hge
    have he : ofN l 0 = (x.2, 0) := by rw [← hI, hkl, List.drop_length]; rfl
    rw [he]
    exact ⟨rfl, rfl⟩

theorem c_trustquorumref01_Nodes (s : Int) : ACalls Tryz.prog 71 [VI s] [] fun dd bb => dd = VR (iRows (nodesN s)) ∧ bb = [] := by
  refine zai Tryz.func71 rfl Tryz.ntmps71 (by rw [Tryz.results71]) rfl rfl (fun w0 A0 X => ?_)
  refine zsr ?_
  refine zc rfl (zas has_nil rfl ?_)
  refine zn0 ?_
  refine zsr ?_
  refine zc rfl (zas has_nil rfl ?_)
  refine zn0 ?_
  refine zw2 ?_
  refine zsr ?_
  refine zc rfl (zas (zi zdc) rfl ?_)
  refine zn0 ?_
  refine zwb ?_
  refine awp_loop (ι := Nat) (fun k => St.of [(0, VI (s)), (3, .one (.slt 15 (iRows (nodesTo s k)))), (4, VI ((k : Int)))] [] [(15, (3, 1))]) (fun k => k ≤ 10 ∧ (True)) (fun k => 10 - k) 0 ?_ ?_ ?_
  · exact (le_adopt (q := 15) (t := 3) (e := 3) (k := 1) zdc rfl).trans (le_of (sc rfl (sc rfl (sc rfl sz))) xz (kc rfl kz))
  · exact ⟨Nat.zero_le _, trivial⟩
  intro k ⟨hk, hI⟩
  have hnl := nodesTo_len s k
  refine zw2 ?_
  refine zsr ?_
  refine zc rfl (zmv (zt rfl) rfl ?_)
  refine zc rfl (zcm (zt rfl) (zi zdc) rfl rfl ?_)
  refine zn0 ?_
  refine zwc (zt rfl) (fun h1 => ?_) (fun h1 => ?_)
  · skip
    have hlt : k < 10 := by have := of_decide_eq_true h1; omega
    refine zws ?_
    refine ztn ?_
    refine zw2 ?_
    refine zwb ?_
    refine zsr ?_
    refine zc rfl (zmv (zt rfl) rfl ?_)
    refine zc rfl (zmv (zt rfl) rfl ?_)
    refine zc rfl (zcl zhf (hc (zt rfl) (hc (zt rfl) hz)) (rs := []) (bxs := []) zdc bz (c_trustquorumref01_Has s _) rfl rfl rfl (fun d b hd hl => ?_))
    obtain ⟨rfl, rfl⟩ := hd
    refine zn0 ?_
    refine zwc (zt rfl) (fun h2 => ?_) (fun h2 => ?_)
    · skip
      have he := nodesTo_has h2
      refine zre ?_
      refine zc rfl (zmv (zt rfl) rfl ?_)
      refine zc rfl (zmv (zt rfl) rfl ?_)
      refine zc rfl (zbs (e := 3) (ps := [(_, _)]) (qs := [(_, _)]) (n := 1) (rows := [[_]]) (pc (zt rfl) rfl pz) zk zdc ⟨[.dat (.int .i64 0)], by kernel_rfl⟩ rfl rfl (by simp [Uni]) rfl zdc rfl ?_)
      refine zc rfl (op_append (e := 3) (k := 1) (b := 8) (zt rfl) rfl (zt rfl) rfl zk (uni_snoc (uni_map (f := iRow) (fun _ => rfl) _) rfl) (by simp; omega) (by simp; omega) rfl ?_)
      refine zc rfl (zas (zt rfl) rfl ?_)
      refine zn0 ?_
      refine zbn ?_
      refine ztn ?_
      refine zre ?_
      refine zc rfl (zmv (zt rfl) rfl ?_)
      refine zc rfl (zar (zt rfl) (zi zdc) rfl (ink64 (by omega) (by omega)) rfl ?_)
      refine zc rfl (zas (zt rfl) rfl ?_)
      refine zn0 ?_
      refine ztn ?_
      exact ⟨k + 1, ⟨by first | omega | (dsimp only; omega), trivial⟩, by first | omega | (dsimp only; omega), (le_of (sc rfl (sc (slt_eq rfl he) (sc rfl sz))) xz (kc rfl kz))⟩
    · skip
      have he := nodesTo_not h2
      refine zws ?_
      refine zbn ?_
      refine ztn ?_
      refine zre ?_
      refine zc rfl (zmv (zt rfl) rfl ?_)
      refine zc rfl (zar (zt rfl) (zi zdc) rfl (ink64 (by omega) (by omega)) rfl ?_)
      refine zc rfl (zas (zt rfl) rfl ?_)
      refine zn0 ?_
      refine ztn ?_
      exact ⟨k + 1, ⟨by first | omega | (dsimp only; omega), trivial⟩, by first | omega | (dsimp only; omega), (le_of (sc rfl (sc (slt_eq rfl he) (sc rfl sz))) xz (kc rfl kz))⟩
  · skip
    have hge : k = 10 := by have := of_decide_eq_false h1; omega
    refine zwe ?_
    refine zte ?_
    refine zte ?_
    refine zbk ?_
    refine ztn ?_
    refine zsr ?_
    refine zc rfl (zmv (zt rfl) rfl ?_)
    refine zc rfl (zas (zt rfl) rfl ?_)
    refine zn0 ?_
    refine zwr ?_
    refine zpr [] (res1 (zrt rfl)) rfl lz ?_
    rw [hge]
    exact ⟨rfl, rfl⟩

theorem c_nodeset_Nodes (s : Int) : ACalls Tryz.prog 156 [VI s] [] fun dd bb => dd = VR (iRows (nodesN s)) ∧ bb = [] := by
  refine zai Tryz.func156 rfl Tryz.ntmps156 (by rw [Tryz.results156]) rfl rfl (fun w0 A0 X => ?_)
  refine zsr ?_
  refine zc rfl (zas has_nil rfl ?_)
  refine zn0 ?_
  refine zsr ?_
  refine zc rfl (zas has_nil rfl ?_)
  refine zn0 ?_
  refine zw2 ?_
  refine zsr ?_
  refine zc rfl (zmv (zi zdc) rfl ?_)
  refine zn0 ?_
  refine zwb ?_
  refine awp_loop (ι := Nat) (fun k => St.of [(0, VI (s)), (3, .one (.slt 14 (iRows (nodesTo s k)))), (5, VI ((k : Int)))] [] [(14, (3, 1))]) (fun k => k ≤ 10 ∧ (True)) (fun k => 10 - k) 0 ?_ ?_ ?_
  · exact (le_adopt (q := 14) (t := 3) (e := 3) (k := 1) zdc rfl).trans (le_of (sc rfl (sc rfl (sc rfl sz))) xz (kc rfl kz))
  · exact ⟨Nat.zero_le _, trivial⟩
  intro k ⟨hk, hI⟩
  have hnl := nodesTo_len s k
  refine zsr ?_
  refine zc rfl (zcm (zt rfl) (zi zdc) rfl rfl ?_)
  refine zn0 ?_
  refine zw2 ?_
  refine zwc (zt rfl) (fun h1 => ?_) (fun h1 => ?_)
  · skip
    have hlt : k < 10 := by have := of_decide_eq_true h1; omega
    refine zws ?_
    refine ztn ?_
    refine zw2 ?_
    refine zwb ?_
    refine zsr ?_
    refine zc rfl (zmv (zt rfl) rfl ?_)
    refine zc rfl (zas (zt rfl) rfl ?_)
    refine zn0 ?_
    refine zsr ?_
    refine zc rfl (zmv (zt rfl) rfl ?_)
    refine zc rfl (zmv (zt rfl) rfl ?_)
    refine zc rfl (zcl zhf (hc (zt rfl) (hc (zt rfl) hz)) (rs := []) (bxs := []) zdc bz (c_nodeset_Has s _) rfl rfl rfl (fun d b hd hl => ?_))
    obtain ⟨rfl, rfl⟩ := hd
    refine zn0 ?_
    refine zwc (zt rfl) (fun h2 => ?_) (fun h2 => ?_)
    · skip
      have he := nodesTo_has h2
      refine zre ?_
      refine zc rfl (zmv (zt rfl) rfl ?_)
      refine zc rfl (zmv (zt rfl) rfl ?_)
      refine zc rfl (zbs (e := 3) (ps := [(_, _)]) (qs := [(_, _)]) (n := 1) (rows := [[_]]) (pc (zt rfl) rfl pz) zk zdc ⟨[.dat (.int .i64 0)], by kernel_rfl⟩ rfl rfl (by simp [Uni]) rfl zdc rfl ?_)
      refine zc rfl (op_append (e := 3) (k := 1) (b := 8) (zt rfl) rfl (zt rfl) rfl zk (uni_snoc (uni_map (f := iRow) (fun _ => rfl) _) rfl) (by simp; omega) (by simp; omega) rfl ?_)
      refine zc rfl (zas (zt rfl) rfl ?_)
      refine zn0 ?_
      refine zbn ?_
      refine ztn ?_
      refine zre ?_
      refine zc rfl (zar (zt rfl) (zi zdc) rfl (ink64 (by omega) (by omega)) rfl ?_)
      refine zc rfl (zmv (zt rfl) rfl ?_)
      refine zn0 ?_
      refine ztn ?_
      exact ⟨k + 1, ⟨by first | omega | (dsimp only; omega), trivial⟩, by first | omega | (dsimp only; omega), (le_of (sc rfl (sc (slt_eq rfl he) (sc rfl sz))) xz (kc rfl kz))⟩
    · skip
      have he := nodesTo_not h2
      refine zws ?_
      refine zbn ?_
      refine ztn ?_
      refine zre ?_
      refine zc rfl (zar (zt rfl) (zi zdc) rfl (ink64 (by omega) (by omega)) rfl ?_)
      refine zc rfl (zmv (zt rfl) rfl ?_)
      refine zn0 ?_
      refine ztn ?_
      exact ⟨k + 1, ⟨by first | omega | (dsimp only; omega), trivial⟩, by first | omega | (dsimp only; omega), (le_of (sc rfl (sc (slt_eq rfl he) (sc rfl sz))) xz (kc rfl kz))⟩
  · skip
    have hge : k = 10 := by have := of_decide_eq_false h1; omega
    refine zwe ?_
    refine zte ?_
    refine zte ?_
    refine zbk ?_
    refine ztn ?_
    refine zsr ?_
    refine zc rfl (zmv (zt rfl) rfl ?_)
    refine zc rfl (zas (zt rfl) rfl ?_)
    refine zn0 ?_
    refine zwr ?_
    refine zpr [] (res1 (zrt rfl)) rfl lz ?_
    rw [hge]
    exact ⟨rfl, rfl⟩


theorem same_step {a b : List Int} {k : Nat} (ha : k < a.length) (hb : k < b.length) (h : a.take k = b.take k) (he : a[k]! = b[k]!) : a.take (k + 1) = b.take (k + 1) := by
  rw [List.take_succ_eq_append_getElem ha, List.take_succ_eq_append_getElem hb, h]
  simp [ha, hb] at he
  rw [he]
theorem same_ne {a b : List Int} {k : Nat} (he : a[k]! ≠ b[k]!) : decide (a = b) = false := by
  simp; rintro rfl; exact he rfl
def declFrom : List Member → Nat → Int → Int
  | [], _, s => s
  | m :: l, k, s => declFrom l (k + 1) (if (m.declared && decide ((k : Int) < 10)) = true then orBit s k else s)
def Config.declared (c : List Member) : Int := declFrom c 0 0
theorem decl_yes {c : List Member} {k : Nat} {s : Int} (h : k < c.length) (hb : (c[k]!.declared && decide ((k : Int) < 10)) = true) : declFrom (c.drop (k + 1)) (k + 1) (orBit s k) = declFrom (c.drop k) k s := by
  rw [List.drop_eq_getElem_cons h, declFrom, if_pos (by simpa [h] using hb)]
theorem decl_no {c : List Member} {k : Nat} {s : Int} (h : k < c.length) (hb : (c[k]!.declared && decide ((k : Int) < 10)) = false) : declFrom (c.drop (k + 1)) (k + 1) s = declFrom (c.drop k) k s := by
  rw [List.drop_eq_getElem_cons h, declFrom, if_neg (by simpa [h] using hb)]

theorem c_trustquorumref01_Same (a b : List Int) : ACalls Tryz.prog 78 [VR (iRows a), VR (iRows b)] [] fun dd bb => dd = VB (decide (a = b)) ∧ bb = [] := by
  refine zai Tryz.func78 rfl Tryz.ntmps78 (by rw [Tryz.results78]) rfl rfl (fun w0 A0 X => ?_)
  refine zsr ?_
  refine zc rfl (zas zb0 rfl ?_)
  refine zn0 ?_
  refine zw2 ?_
  refine zsr ?_
  refine zc rfl (zmv (zt rfl) rfl ?_)
  refine zc rfl (zln (e := 3) (n := 1) (zt rfl) rfl zk rfl (fun hl => ?_))
  refine zc rfl (zmv (zt rfl) rfl ?_)
  refine zc rfl (zln (e := 3) (n := 1) (zt rfl) rfl zk rfl (fun hl => ?_))
  refine zc rfl (zcm (zt rfl) (zt rfl) rfl rfl ?_)
  refine zn0 ?_
  refine zwc (zt rfl) (fun h1 => ?_) (fun h1 => ?_)
  · skip
    refine zsr ?_
    refine zc rfl (zas zb0 rfl ?_)
    refine zn0 ?_
    refine zwr ?_
    refine ztr ?_
    refine zpr [] (res1 (zrt rfl)) rfl lz ?_
    have he : decide (a = b) = false := by simp; rintro rfl; simp at h1
    rw [he]
    exact ⟨rfl, rfl⟩
  · skip
    have hab : a.length = b.length := by have := h1; simp at this; omega
    refine zws ?_
    refine ztn ?_
    refine zw2 ?_
    refine zsr ?_
    refine zc rfl (zmv (zt rfl) rfl ?_)
    refine zc rfl (zln (e := 3) (n := 1) (zt rfl) rfl zk rfl (fun hl => ?_))
    refine zc rfl (zmv (zi zdc) rfl ?_)
    refine zn0 ?_
    refine zwb ?_
    refine awp_loop (ι := Nat) (fun k => St.of [(12, VI ((iRows a).length : Int)), (13, VI ((k : Nat) : Int)), (0, VR (iRows a)), (1, VR (iRows b))] [] []) (fun k => k ≤ (iRows a).length ∧ (a.take k = b.take k)) (fun k => (iRows a).length - k) 0 ?_ ?_ ?_
    · exact (le_of (sc rfl (sc rfl (sc rfl (sc rfl sz)))) xz kz)
    · exact ⟨Nat.zero_le _, rfl⟩
    intro k ⟨hk, hI⟩
    refine zsr ?_
    refine zc rfl (zcm (zt rfl) (zt rfl) rfl rfl ?_)
    refine zn0 ?_
    refine zw2 ?_
    refine zwc (zt rfl) (fun h2 => ?_) (fun h2 => ?_)
    · skip
      have hlt : k < (iRows a).length := by have := of_decide_eq_true h2; omega
      have ha : k < a.length := by simpa using hlt
      have hb : k < b.length := by omega
      refine zws ?_
      refine ztn ?_
      refine zw2 ?_
      refine zwb ?_
      refine zsr ?_
      refine zc rfl (zmv (zt rfl) rfl ?_)
      refine zc rfl (zas (zt rfl) rfl ?_)
      refine zn0 ?_
      refine awp_seq_drawT zk [] [] [0, 0, 3, 7, 0, 0, 48, 112, 255] rfl
        (Trace.cons ⟨[(0, _)], [], [], [], [], [.slot 16 _]⟩ (prel (lsc rfl lsz) lbz ltz) (fun zs zp zn => (zgp rfl rfl (zmv (zt zp.1.1) rfl rfl))) <|
        Trace.cons ⟨[(5, _)], [], [], [], [], [.slot 17 _]⟩ (prel (lsc rfl lsz) lbz ltz) (fun zs zp zn => (zgp rfl rfl (zmv (zt zp.1.1) rfl rfl))) <|
        Trace.cons ⟨[(16, _), (17, _)], [], [], [], [], [.slot 18 _]⟩ (prel (lsc rfl (lsc rfl lsz)) lbz ltz) (fun zs zp zn => (zgp rfl rfl (op_indexAddr (e := 3) (n := 1) (zt zp.1.1) rfl (zt zp.1.2.1) zk (by omega) (show (iRows a)[k]? = some _ from map_getD ha) rfl rfl rfl))) <|
        Trace.cons ⟨[(18, _)], [], [], [], [], [.slot 19 _]⟩ (prel (lsc rfl lsz) lbz ltz) (fun zs zp zn => (zgp rfl rfl (op_load_imm1 (zt zp.1.1) zk rfl rfl rfl))) <|
        Trace.cons ⟨[(1, _)], [], [], [], [], [.slot 20 _]⟩ (prel (lsc rfl lsz) lbz ltz) (fun zs zp zn => (zgp rfl rfl (zmv (zt zp.1.1) rfl rfl))) <|
        Trace.cons ⟨[(5, _)], [], [], [], [], [.slot 21 _]⟩ (prel (lsc rfl lsz) lbz ltz) (fun zs zp zn => (zgp rfl rfl (zmv (zt zp.1.1) rfl rfl))) <|
        Trace.cons ⟨[(20, _), (21, _)], [], [], [], [], [.slot 22 _]⟩ (prel (lsc rfl (lsc rfl lsz)) lbz ltz) (fun zs zp zn => (zgp rfl rfl (op_indexAddr (e := 3) (n := 1) (zt zp.1.1) rfl (zt zp.1.2.1) zk (by omega) (show (iRows b)[k]? = some _ from map_getD hb) rfl rfl rfl))) <|
        Trace.cons ⟨[(22, _)], [], [], [], [], [.slot 23 _]⟩ (prel (lsc rfl lsz) lbz ltz) (fun zs zp zn => (zgp rfl rfl (op_load_imm1 (zt zp.1.1) zk rfl rfl rfl))) <|
        Trace.cons ⟨[(19, _), (23, _)], [], [], [], [], [.slot 24 _]⟩ (prel (lsc rfl (lsc rfl lsz)) lbz ltz) (fun zs zp zn => (zgp rfl rfl (zcm (zt zp.1.1) (zt zp.1.2.1) rfl rfl rfl))) <|
        Trace.nil) rfl rfl rfl ?_
      refine zwc (zt rfl) (fun h3 => ?_) (fun h3 => ?_)
      · skip
        refine zsr ?_
        refine zc rfl (zas zb0 rfl ?_)
        refine zn0 ?_
        refine zwr ?_
        refine blk_ret ?_
        refine ztr ?_
        refine ztr ?_
        refine blk_ret ?_
        refine ztr ?_
        refine zpr [] (res1 (zrt rfl)) rfl lz ?_
        rw [same_ne (by simpa using h3)]
        exact ⟨rfl, rfl⟩
      · skip
        refine zws ?_
        refine zbn ?_
        refine ztn ?_
        refine zre ?_
        refine zc rfl (zar (zt rfl) (zi zdc) rfl (ink64 (by omega) (by omega)) rfl ?_)
        refine zc rfl (zmv (zt rfl) rfl ?_)
        refine zn0 ?_
        refine ztn ?_
        exact ⟨k + 1, ⟨by first | omega | (dsimp only; omega), same_step ha hb hI (by simpa using h3)⟩, by first | omega | (dsimp only; omega), (le_of (sc rfl (sc rfl (sc rfl (sc rfl sz)))) xz kz)⟩
    · skip
      have hge : k = (iRows a).length := by have := of_decide_eq_false h2; omega
      refine zwe ?_
      refine zte ?_
      refine zte ?_
      refine zbk ?_
      refine ztn ?_
      refine zsr ?_
      refine zc rfl (zas zb0 rfl ?_)
      refine zn0 ?_
      refine zwr ?_
      refine zpr [] (res1 (zrt rfl)) rfl lz ?_
      have hkl : k = a.length := by simpa using hge
      have he : decide (a = b) = true := by rw [hkl] at hI; rw [List.take_length, hab, List.take_length] at hI; simp [hI]
      rw [he]
      exact ⟨rfl, rfl⟩

theorem c_slices_Equal_int_int (a b : List Int) : ACalls Tryz.prog 105 [VR (iRows a), VR (iRows b)] [] fun dd bb => dd = VB (decide (a = b)) ∧ bb = [] := by
  refine zai Tryz.func105 rfl Tryz.ntmps105 (by rw [Tryz.results105]) rfl rfl (fun w0 A0 X => ?_)
  refine zsr ?_
  refine zc rfl (zas zb0 rfl ?_)
  refine zn0 ?_
  refine zw2 ?_
  refine zsr ?_
  refine zc rfl (zmv (zt rfl) rfl ?_)
  refine zc rfl (zln (e := 3) (n := 1) (zt rfl) rfl zk rfl (fun hl => ?_))
  refine zc rfl (zmv (zt rfl) rfl ?_)
  refine zc rfl (zln (e := 3) (n := 1) (zt rfl) rfl zk rfl (fun hl => ?_))
  refine zc rfl (zcm (zt rfl) (zt rfl) rfl rfl ?_)
  refine zn0 ?_
  refine zwc (zt rfl) (fun h1 => ?_) (fun h1 => ?_)
  · skip
    refine zsr ?_
    refine zc rfl (zas zb0 rfl ?_)
    refine zn0 ?_
    refine zwr ?_
    refine ztr ?_
    refine zpr [] (res1 (zrt rfl)) rfl lz ?_
    have he : decide (a = b) = false := by simp; rintro rfl; simp at h1
    rw [he]
    exact ⟨rfl, rfl⟩
  · skip
    have hab : a.length = b.length := by have := h1; simp at this; omega
    refine zws ?_
    refine ztn ?_
    refine zw2 ?_
    refine zsr ?_
    refine zc rfl (zmv (zt rfl) rfl ?_)
    refine zc rfl (zln (e := 3) (n := 1) (zt rfl) rfl zk rfl (fun hl => ?_))
    refine zc rfl (zmv (zi zdc) rfl ?_)
    refine zn0 ?_
    refine zwb ?_
    refine awp_loop (ι := Nat) (fun k => St.of [(12, VI ((iRows a).length : Int)), (13, VI ((k : Nat) : Int)), (0, VR (iRows a)), (1, VR (iRows b))] [] []) (fun k => k ≤ (iRows a).length ∧ (a.take k = b.take k)) (fun k => (iRows a).length - k) 0 ?_ ?_ ?_
    · exact (le_of (sc rfl (sc rfl (sc rfl (sc rfl sz)))) xz kz)
    · exact ⟨Nat.zero_le _, rfl⟩
    intro k ⟨hk, hI⟩
    refine zsr ?_
    refine zc rfl (zcm (zt rfl) (zt rfl) rfl rfl ?_)
    refine zn0 ?_
    refine zw2 ?_
    refine zwc (zt rfl) (fun h2 => ?_) (fun h2 => ?_)
    · skip
      have hlt : k < (iRows a).length := by have := of_decide_eq_true h2; omega
      have ha : k < a.length := by simpa using hlt
      have hb : k < b.length := by omega
      refine zws ?_
      refine ztn ?_
      refine zw2 ?_
      refine zwb ?_
      refine zsr ?_
      refine zc rfl (zmv (zt rfl) rfl ?_)
      refine zc rfl (zas (zt rfl) rfl ?_)
      refine zn0 ?_
      refine awp_seq_drawT zk [] [] [0, 0, 3, 7, 0, 0, 48, 112, 255] rfl
        (Trace.cons ⟨[(0, _)], [], [], [], [], [.slot 16 _]⟩ (prel (lsc rfl lsz) lbz ltz) (fun zs zp zn => (zgp rfl rfl (zmv (zt zp.1.1) rfl rfl))) <|
        Trace.cons ⟨[(5, _)], [], [], [], [], [.slot 17 _]⟩ (prel (lsc rfl lsz) lbz ltz) (fun zs zp zn => (zgp rfl rfl (zmv (zt zp.1.1) rfl rfl))) <|
        Trace.cons ⟨[(16, _), (17, _)], [], [], [], [], [.slot 18 _]⟩ (prel (lsc rfl (lsc rfl lsz)) lbz ltz) (fun zs zp zn => (zgp rfl rfl (op_indexAddr (e := 3) (n := 1) (zt zp.1.1) rfl (zt zp.1.2.1) zk (by omega) (show (iRows a)[k]? = some _ from map_getD ha) rfl rfl rfl))) <|
        Trace.cons ⟨[(18, _)], [], [], [], [], [.slot 19 _]⟩ (prel (lsc rfl lsz) lbz ltz) (fun zs zp zn => (zgp rfl rfl (op_load_imm1 (zt zp.1.1) zk rfl rfl rfl))) <|
        Trace.cons ⟨[(1, _)], [], [], [], [], [.slot 20 _]⟩ (prel (lsc rfl lsz) lbz ltz) (fun zs zp zn => (zgp rfl rfl (zmv (zt zp.1.1) rfl rfl))) <|
        Trace.cons ⟨[(5, _)], [], [], [], [], [.slot 21 _]⟩ (prel (lsc rfl lsz) lbz ltz) (fun zs zp zn => (zgp rfl rfl (zmv (zt zp.1.1) rfl rfl))) <|
        Trace.cons ⟨[(20, _), (21, _)], [], [], [], [], [.slot 22 _]⟩ (prel (lsc rfl (lsc rfl lsz)) lbz ltz) (fun zs zp zn => (zgp rfl rfl (op_indexAddr (e := 3) (n := 1) (zt zp.1.1) rfl (zt zp.1.2.1) zk (by omega) (show (iRows b)[k]? = some _ from map_getD hb) rfl rfl rfl))) <|
        Trace.cons ⟨[(22, _)], [], [], [], [], [.slot 23 _]⟩ (prel (lsc rfl lsz) lbz ltz) (fun zs zp zn => (zgp rfl rfl (op_load_imm1 (zt zp.1.1) zk rfl rfl rfl))) <|
        Trace.cons ⟨[(19, _), (23, _)], [], [], [], [], [.slot 24 _]⟩ (prel (lsc rfl (lsc rfl lsz)) lbz ltz) (fun zs zp zn => (zgp rfl rfl (zcm (zt zp.1.1) (zt zp.1.2.1) rfl rfl rfl))) <|
        Trace.nil) rfl rfl rfl ?_
      refine zwc (zt rfl) (fun h3 => ?_) (fun h3 => ?_)
      · skip
        refine zsr ?_
        refine zc rfl (zas zb0 rfl ?_)
        refine zn0 ?_
        refine zwr ?_
        refine blk_ret ?_
        refine ztr ?_
        refine ztr ?_
        refine blk_ret ?_
        refine ztr ?_
        refine zpr [] (res1 (zrt rfl)) rfl lz ?_
        rw [same_ne (by simpa using h3)]
        exact ⟨rfl, rfl⟩
      · skip
        refine zws ?_
        refine zbn ?_
        refine ztn ?_
        refine zre ?_
        refine zc rfl (zar (zt rfl) (zi zdc) rfl (ink64 (by omega) (by omega)) rfl ?_)
        refine zc rfl (zmv (zt rfl) rfl ?_)
        refine zn0 ?_
        refine ztn ?_
        exact ⟨k + 1, ⟨by first | omega | (dsimp only; omega), same_step ha hb hI (by simpa using h3)⟩, by first | omega | (dsimp only; omega), (le_of (sc rfl (sc rfl (sc rfl (sc rfl sz)))) xz kz)⟩
    · skip
      have hge : k = (iRows a).length := by have := of_decide_eq_false h2; omega
      refine zwe ?_
      refine zte ?_
      refine zte ?_
      refine zbk ?_
      refine ztn ?_
      refine zsr ?_
      refine zc rfl (zas zb0 rfl ?_)
      refine zn0 ?_
      refine zwr ?_
      refine zpr [] (res1 (zrt rfl)) rfl lz ?_
      have hkl : k = a.length := by simpa using hge
      have he : decide (a = b) = true := by rw [hkl] at hI; rw [List.take_length, hab, List.take_length] at hI; simp [hI]
      rw [he]
      exact ⟨rfl, rfl⟩

theorem c_trustquorumref31_Ints (a b : List Int) : ACalls Tryz.prog 55 [VR (iRows a), VR (iRows b)] [] fun dd bb => dd = VB (decide (a = b)) ∧ bb = [] := by
  refine zai Tryz.func55 rfl Tryz.ntmps55 (by rw [Tryz.results55]) rfl rfl (fun w0 A0 X => ?_)
  refine zsr ?_
  refine zc rfl (zas zb0 rfl ?_)
  refine zn0 ?_
  refine zw2 ?_
  refine zsr ?_
  refine zc rfl (zmv (zt rfl) rfl ?_)
  refine zc rfl (zln (e := 3) (n := 1) (zt rfl) rfl zk rfl (fun hl => ?_))
  refine zc rfl (zmv (zt rfl) rfl ?_)
  refine zc rfl (zln (e := 3) (n := 1) (zt rfl) rfl zk rfl (fun hl => ?_))
  refine zc rfl (zcm (zt rfl) (zt rfl) rfl rfl ?_)
  refine zn0 ?_
  refine zwc (zt rfl) (fun h1 => ?_) (fun h1 => ?_)
  · skip
    refine zsr ?_
    refine zc rfl (zas zb0 rfl ?_)
    refine zn0 ?_
    refine zwr ?_
    refine ztr ?_
    refine zpr [] (res1 (zrt rfl)) rfl lz ?_
    have he : decide (a = b) = false := by simp; rintro rfl; simp at h1
    rw [he]
    exact ⟨rfl, rfl⟩
  · skip
    have hab : a.length = b.length := by have := h1; simp at this; omega
    refine zws ?_
    refine ztn ?_
    refine zw2 ?_
    refine zsr ?_
    refine zc rfl (zmv (zt rfl) rfl ?_)
    refine zc rfl (zln (e := 3) (n := 1) (zt rfl) rfl zk rfl (fun hl => ?_))
    refine zc rfl (zmv (zi zdc) rfl ?_)
    refine zn0 ?_
    refine zwb ?_
    refine awp_loop (ι := Nat) (fun k => St.of [(12, VI ((iRows a).length : Int)), (13, VI ((k : Nat) : Int)), (0, VR (iRows a)), (1, VR (iRows b))] [] []) (fun k => k ≤ (iRows a).length ∧ (a.take k = b.take k)) (fun k => (iRows a).length - k) 0 ?_ ?_ ?_
    · exact (le_of (sc rfl (sc rfl (sc rfl (sc rfl sz)))) xz kz)
    · exact ⟨Nat.zero_le _, rfl⟩
    intro k ⟨hk, hI⟩
    refine zsr ?_
    refine zc rfl (zcm (zt rfl) (zt rfl) rfl rfl ?_)
    refine zn0 ?_
    refine zw2 ?_
    refine zwc (zt rfl) (fun h2 => ?_) (fun h2 => ?_)
    · skip
      have hlt : k < (iRows a).length := by have := of_decide_eq_true h2; omega
      have ha : k < a.length := by simpa using hlt
      have hb : k < b.length := by omega
      refine zws ?_
      refine ztn ?_
      refine zw2 ?_
      refine zwb ?_
      refine zsr ?_
      refine zc rfl (zmv (zt rfl) rfl ?_)
      refine zc rfl (zas (zt rfl) rfl ?_)
      refine zn0 ?_
      refine awp_seq_drawT zk [] [] [0, 0, 3, 7, 0, 0, 48, 112, 255] rfl
        (Trace.cons ⟨[(0, _)], [], [], [], [], [.slot 16 _]⟩ (prel (lsc rfl lsz) lbz ltz) (fun zs zp zn => (zgp rfl rfl (zmv (zt zp.1.1) rfl rfl))) <|
        Trace.cons ⟨[(5, _)], [], [], [], [], [.slot 17 _]⟩ (prel (lsc rfl lsz) lbz ltz) (fun zs zp zn => (zgp rfl rfl (zmv (zt zp.1.1) rfl rfl))) <|
        Trace.cons ⟨[(16, _), (17, _)], [], [], [], [], [.slot 18 _]⟩ (prel (lsc rfl (lsc rfl lsz)) lbz ltz) (fun zs zp zn => (zgp rfl rfl (op_indexAddr (e := 3) (n := 1) (zt zp.1.1) rfl (zt zp.1.2.1) zk (by omega) (show (iRows a)[k]? = some _ from map_getD ha) rfl rfl rfl))) <|
        Trace.cons ⟨[(18, _)], [], [], [], [], [.slot 19 _]⟩ (prel (lsc rfl lsz) lbz ltz) (fun zs zp zn => (zgp rfl rfl (op_load_imm1 (zt zp.1.1) zk rfl rfl rfl))) <|
        Trace.cons ⟨[(1, _)], [], [], [], [], [.slot 20 _]⟩ (prel (lsc rfl lsz) lbz ltz) (fun zs zp zn => (zgp rfl rfl (zmv (zt zp.1.1) rfl rfl))) <|
        Trace.cons ⟨[(5, _)], [], [], [], [], [.slot 21 _]⟩ (prel (lsc rfl lsz) lbz ltz) (fun zs zp zn => (zgp rfl rfl (zmv (zt zp.1.1) rfl rfl))) <|
        Trace.cons ⟨[(20, _), (21, _)], [], [], [], [], [.slot 22 _]⟩ (prel (lsc rfl (lsc rfl lsz)) lbz ltz) (fun zs zp zn => (zgp rfl rfl (op_indexAddr (e := 3) (n := 1) (zt zp.1.1) rfl (zt zp.1.2.1) zk (by omega) (show (iRows b)[k]? = some _ from map_getD hb) rfl rfl rfl))) <|
        Trace.cons ⟨[(22, _)], [], [], [], [], [.slot 23 _]⟩ (prel (lsc rfl lsz) lbz ltz) (fun zs zp zn => (zgp rfl rfl (op_load_imm1 (zt zp.1.1) zk rfl rfl rfl))) <|
        Trace.cons ⟨[(19, _), (23, _)], [], [], [], [], [.slot 24 _]⟩ (prel (lsc rfl (lsc rfl lsz)) lbz ltz) (fun zs zp zn => (zgp rfl rfl (zcm (zt zp.1.1) (zt zp.1.2.1) rfl rfl rfl))) <|
        Trace.nil) rfl rfl rfl ?_
      refine zwc (zt rfl) (fun h3 => ?_) (fun h3 => ?_)
      · skip
        refine zsr ?_
        refine zc rfl (zas zb0 rfl ?_)
        refine zn0 ?_
        refine zwr ?_
        refine blk_ret ?_
        refine ztr ?_
        refine ztr ?_
        refine blk_ret ?_
        refine ztr ?_
        refine zpr [] (res1 (zrt rfl)) rfl lz ?_
        rw [same_ne (by simpa using h3)]
        exact ⟨rfl, rfl⟩
      · skip
        refine zws ?_
        refine zbn ?_
        refine ztn ?_
        refine zre ?_
        refine zc rfl (zar (zt rfl) (zi zdc) rfl (ink64 (by omega) (by omega)) rfl ?_)
        refine zc rfl (zmv (zt rfl) rfl ?_)
        refine zn0 ?_
        refine ztn ?_
        exact ⟨k + 1, ⟨by first | omega | (dsimp only; omega), same_step ha hb hI (by simpa using h3)⟩, by first | omega | (dsimp only; omega), (le_of (sc rfl (sc rfl (sc rfl (sc rfl sz)))) xz kz)⟩
    · skip
      have hge : k = (iRows a).length := by have := of_decide_eq_false h2; omega
      refine zwe ?_
      refine zte ?_
      refine zte ?_
      refine zbk ?_
      refine ztn ?_
      refine zsr ?_
      refine zc rfl (zas zb0 rfl ?_)
      refine zn0 ?_
      refine zwr ?_
      refine zpr [] (res1 (zrt rfl)) rfl lz ?_
      have hkl : k = a.length := by simpa using hge
      have he : decide (a = b) = true := by rw [hkl] at hI; rw [List.take_length, hab, List.take_length] at hI; simp [hI]
      rw [he]
      exact ⟨rfl, rfl⟩

theorem c_threshold_node (k : Int) : ACalls Tryz.prog 90 [VI k] [] fun dd bb => dd = VB (decide (0 ≤ k) && decide (k < 10)) ∧ bb = [] := by
  refine zai Tryz.func90 rfl Tryz.ntmps90 (by rw [Tryz.results90]) rfl rfl (fun w0 A0 X => ?_)
  refine zsr ?_
  refine zc rfl (zas zb0 rfl ?_)
  refine zn0 ?_
  refine zsr ?_
  refine zc rfl (zmv (zt rfl) rfl ?_)
  refine zc rfl (zcm (zt rfl) (zi zdc) rfl rfl ?_)
  refine zc rfl (zmv (zt rfl) rfl ?_)
  refine zg rfl rfl rfl rfl (zgb rfl) (fun hg => zmv (zt rfl) rfl rfl) ?_
  refine zg rfl rfl rfl rfl (zgb rfl) (fun hg => zcm (zcd (zt rfl) hg) (zi zdc) rfl rfl rfl) ?_
  refine zc rfl (zan (zt rfl) (zt rfl) (.inl zb0) rfl ?_)
  refine zc rfl (zas (zt rfl) rfl ?_)
  refine zn0 ?_
  refine zwr ?_
  refine zpr [] (res1 (zrt rfl)) rfl lz ?_
  exact ⟨rfl, rfl⟩

theorem c_configuration_Declared (c : List Member) : ACalls Tryz.prog 141 [.aggd (Config.d c)] [] fun dd bb => dd = VI (Config.declared c) ∧ bb = [] := by
  refine zai Tryz.func141 rfl Tryz.ntmps141 (by rw [Tryz.results141]) rfl rfl (fun w0 A0 X => ?_)
  refine zsr ?_
  refine zc rfl (zbx (zt rfl) rfl rfl ?_)
  refine zc rfl (zas (zi zdc) rfl ?_)
  refine zn0 ?_
  refine zsr ?_
  refine zc rfl (zas (zi zdc) rfl ?_)
  refine zn0 ?_
  refine zw2 ?_
  refine zsr ?_
  refine zc rfl (zfa (o := 0) (zt rfl) zk rfl ?_)
  refine zc rfl (zl1 (zt rfl) zk rfl rfl rfl ?_)
  refine zc rfl (zln (e := 81) (n := 4) (zt rfl) rfl zk rfl (fun hl => ?_))
  refine zc rfl (zmv (zi zdc) rfl ?_)
  refine zn0 ?_
  refine zwb ?_
  refine awp_loop (ι := Nat × Int) (fun x => St.of [(7, VR (c.map Member.d)), (8, VI ((c.map Member.d).length : Int)), (9, VI ((x.1 : Nat) : Int)), (3, VI (x.2))] [] []) (fun x => x.1 ≤ (c.map Member.d).length ∧ (declFrom (c.drop x.1) x.1 x.2 = Config.declared c ∧ 0 ≤ x.2)) (fun x => (c.map Member.d).length - x.1) (0, 0) ?_ ?_ ?_
  · exact (le_of (sc rfl (sc rfl (sc rfl (sc rfl sz)))) xz kz)
  · exact ⟨Nat.zero_le _, ⟨rfl, Int.le_refl 0⟩⟩
  intro x ⟨hk, ⟨hI, hs⟩⟩
  refine zsr ?_
  refine zc rfl (zcm (zt rfl) (zt rfl) rfl rfl ?_)
  refine zn0 ?_
  refine zw2 ?_
  refine zwc (zt rfl) (fun h1 => ?_) (fun h1 => ?_)
  · skip
    have hlt : x.1 < (c.map Member.d).length := by have := of_decide_eq_true h1; omega
    have hl2 : x.1 < c.length := by simpa using hlt
    refine zws ?_
    refine ztn ?_
    refine zw2 ?_
    refine zwb ?_
    refine zsr ?_
    refine zc rfl (zmv (zt rfl) rfl ?_)
    refine zc rfl (op_indexAddr (e := 81) (n := 4) (zt rfl) rfl (zt rfl) zk (by omega) (show (c.map Member.d)[x.1]? = some _ from map_getD hl2) rfl rfl ?_)
    refine zc rfl (op_load_imm (n := 4) (zt rfl) zk rfl rfl rfl ?_)
    refine zc rfl (zal (cs := [.dat (.bool false), .dat (.int .i64 0), .nilsl, .nilsl]) zk rfl ?_)
    refine zc rfl (zas (zt rfl) rfl ?_)
    refine zc rfl (zst (n := 4) (zt rfl) (zt rfl) rfl (.inl zk) rfl rfl (zbl rfl) ?_)
    refine zn0 ?_
    refine zsr ?_
    refine zc rfl (zfa (o := 0) (zt rfl) zk rfl ?_)
    refine zc rfl (zl1 (zt rfl) zk rfl rfl rfl ?_)
    refine zc rfl (zmv (zt rfl) rfl ?_)
    refine zg rfl rfl rfl rfl (zgb rfl) (fun hg => zmv (zt rfl) rfl rfl) ?_
    refine zg rfl rfl rfl rfl (zgb rfl) (fun hg => zcm (zcd (zt rfl) hg) (zi zdc) rfl rfl rfl) ?_
    refine zc rfl (zan (zt rfl) (zt rfl) (.inl zb0) rfl ?_)
    refine zn0 ?_
    refine zwc (zt rfl) (fun h2 => ?_) (fun h2 => ?_)
    · skip
      have g2 := h2
      simp only [Bool.and_eq_true, decide_eq_true_eq] at g2
      have hn : declFrom (c.drop (x.1 + 1)) (x.1 + 1) (orBit x.2 x.1) = Config.declared c ∧ 0 ≤ orBit x.2 x.1 := ⟨(decl_yes hl2 h2).trans hI, orBit_nn _ _⟩
      refine zre ?_
      refine zc rfl (zmv (zt rfl) rfl ?_)
      refine zc rfl (zmv (zt rfl) rfl ?_)
      refine zc rfl (op_shl (zi zdc) (zt rfl) (by omega) (by omega) (by show _ ≤ 64; omega) (ink_shl1 (by omega)) rfl ?_)
      refine zc rfl (op_bit (zt rfl) (zt rfl) (by first | exact Int.natCast_nonneg _ | omega) (by first | exact Int.natCast_nonneg _ | omega) rfl rfl ?_)
      refine zc rfl (zas (zt rfl) rfl ?_)
      refine zn0 ?_
      refine zbn ?_
      refine ztn ?_
      refine zre ?_
      refine zc rfl (zar (zt rfl) (zi zdc) rfl (ink64 (by omega) (by omega)) rfl ?_)
      refine zc rfl (zmv (zt rfl) rfl ?_)
      refine zn0 ?_
      refine ztn ?_
      exact ⟨(x.1 + 1, _), ⟨by first | omega | (dsimp only; omega), hn⟩, by first | omega | (dsimp only; omega), (le_of (sc rfl (sc rfl (sc rfl (sc rfl sz)))) xz kz)⟩
    · skip
      have hn : declFrom (c.drop (x.1 + 1)) (x.1 + 1) x.2 = Config.declared c ∧ 0 ≤ x.2 := ⟨(decl_no hl2 h2).trans hI, hs⟩
      refine zws ?_
      refine zbn ?_
      refine ztn ?_
      refine zre ?_
      refine zc rfl (zar (zt rfl) (zi zdc) rfl (ink64 (by omega) (by omega)) rfl ?_)
      refine zc rfl (zmv (zt rfl) rfl ?_)
      refine zn0 ?_
      refine ztn ?_
      exact ⟨(x.1 + 1, _), ⟨by first | omega | (dsimp only; omega), hn⟩, by first | omega | (dsimp only; omega), (le_of (sc rfl (sc rfl (sc rfl (sc rfl sz)))) xz kz)⟩
  · skip
    have hge : x.1 = (c.map Member.d).length := by have := of_decide_eq_false h1; omega
    refine zwe ?_
    refine zte ?_
    refine zte ?_
    refine zbk ?_
    refine ztn ?_
    refine zsr ?_
    refine zc rfl (zmv (zt rfl) rfl ?_)
    refine zc rfl (zas (zt rfl) rfl ?_)
    refine zn0 ?_
    refine zwr ?_
    refine zpr [] (res1 (zrt rfl)) rfl lz ?_
    have hkl : x.1 = c.length := by simpa using hge
    have he : Config.declared c = x.2 := by rw [← hI, hkl, List.drop_length]; rfl
    rw [he]
    exact ⟨rfl, rfl⟩

theorem c_trustquorumref06_Declared (c : List Member) : ACalls Tryz.prog 35 [.aggd (Config.d c)] [] fun dd bb => dd = VI (Config.declared c) ∧ bb = [] := by
  refine zai Tryz.func35 rfl Tryz.ntmps35 (by rw [Tryz.results35]) rfl rfl (fun w0 A0 X => ?_)
  refine zsr ?_
  refine zc rfl (zbx (zt rfl) rfl rfl ?_)
  refine zc rfl (zas (zi zdc) rfl ?_)
  refine zn0 ?_
  refine zsr ?_
  refine zc rfl (zas (zi zdc) rfl ?_)
  refine zn0 ?_
  refine zw2 ?_
  refine zsr ?_
  refine zc rfl (zfa (o := 0) (zt rfl) zk rfl ?_)
  refine zc rfl (zl1 (zt rfl) zk rfl rfl rfl ?_)
  refine zc rfl (zln (e := 81) (n := 4) (zt rfl) rfl zk rfl (fun hl => ?_))
  refine zc rfl (zmv (zi zdc) rfl ?_)
  refine zn0 ?_
  refine zwb ?_
  refine awp_loop (ι := Nat × Int) (fun x => St.of [(7, VR (c.map Member.d)), (8, VI ((c.map Member.d).length : Int)), (9, VI ((x.1 : Nat) : Int)), (3, VI (x.2))] [] []) (fun x => x.1 ≤ (c.map Member.d).length ∧ (declFrom (c.drop x.1) x.1 x.2 = Config.declared c ∧ 0 ≤ x.2)) (fun x => (c.map Member.d).length - x.1) (0, 0) ?_ ?_ ?_
  · exact (le_of (sc rfl (sc rfl (sc rfl (sc rfl sz)))) xz kz)
  · exact ⟨Nat.zero_le _, ⟨rfl, Int.le_refl 0⟩⟩
  intro x ⟨hk, ⟨hI, hs⟩⟩
  refine zsr ?_
  refine zc rfl (zcm (zt rfl) (zt rfl) rfl rfl ?_)
  refine zn0 ?_
  refine zw2 ?_
  refine zwc (zt rfl) (fun h1 => ?_) (fun h1 => ?_)
  · skip
    have hlt : x.1 < (c.map Member.d).length := by have := of_decide_eq_true h1; omega
    have hl2 : x.1 < c.length := by simpa using hlt
    refine zws ?_
    refine ztn ?_
    refine zw2 ?_
    refine zwb ?_
    refine zsr ?_
    refine zc rfl (zmv (zt rfl) rfl ?_)
    refine zc rfl (op_indexAddr (e := 81) (n := 4) (zt rfl) rfl (zt rfl) zk (by omega) (show (c.map Member.d)[x.1]? = some _ from map_getD hl2) rfl rfl ?_)
    refine zc rfl (op_load_imm (n := 4) (zt rfl) zk rfl rfl rfl ?_)
    refine zc rfl (zal (cs := [.dat (.bool false), .dat (.int .i64 0), .nilsl, .nilsl]) zk rfl ?_)
    refine zc rfl (zas (zt rfl) rfl ?_)
    refine zc rfl (zst (n := 4) (zt rfl) (zt rfl) rfl (.inl zk) rfl rfl (zbl rfl) ?_)
    refine zn0 ?_
    refine zsr ?_
    refine zc rfl (zmv (zt rfl) rfl ?_)
    refine zc rfl (zcm (zt rfl) (zi zdc) rfl rfl ?_)
    refine zc rfl (zmv (zt rfl) rfl ?_)
    refine zg rfl rfl rfl rfl (zgb rfl) (fun hg => zfa (o := 0) (zt rfl) zk rfl rfl) ?_
    refine zg rfl rfl rfl rfl (zgb rfl) (fun hg => zl1 (zcd (zt rfl) hg) zk rfl rfl rfl rfl) ?_
    refine zc rfl (zan (zt rfl) (zt rfl) (.inl zb0) rfl ?_)
    refine zn0 ?_
    refine zwc (zt rfl) (fun h2 => ?_) (fun h2 => ?_)
    · skip
      have g2 := h2
      simp only [Bool.and_eq_true, decide_eq_true_eq] at g2
      have hn : declFrom (c.drop (x.1 + 1)) (x.1 + 1) (orBit x.2 x.1) = Config.declared c ∧ 0 ≤ orBit x.2 x.1 := ⟨(decl_yes hl2 (by rw [Bool.and_comm]; exact h2)).trans hI, orBit_nn _ _⟩
      refine zre ?_
      refine zc rfl (zmv (zt rfl) rfl ?_)
      refine zc rfl (zmv (zt rfl) rfl ?_)
      refine zc rfl (op_shl (zi zdc) (zt rfl) (by omega) (by omega) (by show _ ≤ 64; omega) (ink_shl1 (by omega)) rfl ?_)
      refine zc rfl (op_bit (zt rfl) (zt rfl) (by first | exact Int.natCast_nonneg _ | omega) (by first | exact Int.natCast_nonneg _ | omega) rfl rfl ?_)
      refine zc rfl (zas (zt rfl) rfl ?_)
      refine zn0 ?_
      refine zbn ?_
      refine ztn ?_
      refine zre ?_
      refine zc rfl (zar (zt rfl) (zi zdc) rfl (ink64 (by omega) (by omega)) rfl ?_)
      refine zc rfl (zmv (zt rfl) rfl ?_)
      refine zn0 ?_
      refine ztn ?_
      exact ⟨(x.1 + 1, _), ⟨by first | omega | (dsimp only; omega), hn⟩, by first | omega | (dsimp only; omega), (le_of (sc rfl (sc rfl (sc rfl (sc rfl sz)))) xz kz)⟩
    · skip
      have hn : declFrom (c.drop (x.1 + 1)) (x.1 + 1) x.2 = Config.declared c ∧ 0 ≤ x.2 := ⟨(decl_no hl2 (by rw [Bool.and_comm]; exact h2)).trans hI, hs⟩
      refine zws ?_
      refine zbn ?_
      refine ztn ?_
      refine zre ?_
      refine zc rfl (zar (zt rfl) (zi zdc) rfl (ink64 (by omega) (by omega)) rfl ?_)
      refine zc rfl (zmv (zt rfl) rfl ?_)
      refine zn0 ?_
      refine ztn ?_
      exact ⟨(x.1 + 1, _), ⟨by first | omega | (dsimp only; omega), hn⟩, by first | omega | (dsimp only; omega), (le_of (sc rfl (sc rfl (sc rfl (sc rfl sz)))) xz kz)⟩
  · skip
    have hge : x.1 = (c.map Member.d).length := by have := of_decide_eq_false h1; omega
    refine zwe ?_
    refine zte ?_
    refine zte ?_
    refine zbk ?_
    refine ztn ?_
    refine zsr ?_
    refine zc rfl (zmv (zt rfl) rfl ?_)
    refine zc rfl (zas (zt rfl) rfl ?_)
    refine zn0 ?_
    refine zwr ?_
    refine zpr [] (res1 (zrt rfl)) rfl lz ?_
    have hkl : x.1 = c.length := by simpa using hge
    have he : Config.declared c = x.2 := by rw [← hI, hkl, List.drop_length]; rfl
    rw [he]
    exact ⟨rfl, rfl⟩

end Go.TQ
