/- s02.py -/
import Derived.Test.YtmfiplnojbjcbaaGreatC01
import Derived.Test.YtmfiplnojbjcbaaGreatApi
set_option linter.unusedVariables false
set_option linter.unusedSimpArgs false
set_option maxRecDepth 10000
namespace Go.TQ
open Go.Proofs


def bLess (x y : ByteArray) : Bool := Op.bytesLess x.toList y.toList
def cmpInt (i j : Int) : Int := if i < j then -1 else if j < i then 1 else 0
def bGt (x y : ByteArray) : Bool := !(Op.bytesLess x.toList y.toList || decide (x = y))
def cmpStr (i j : ByteArray) : Int := if bLess i j = true then -1 else if bGt i j = true then 1 else 0
def orInt : List Int → Int
  | [] => 0
  | x :: l => if x ≠ 0 then x else orInt l
def len (s : ByteArray) : Int := (s.size : Int)
def cmpVal (a b : ByteArray) : Int := orInt [cmpInt (len a) (len b), cmpStr a b]
def Ballot.isZero (b : Ballot) : Bool := decide (b.c = 0) && (decide (b.v = ⟨#[]⟩) && true)
def Ballot.valid (b : Ballot) : Bool := ((((decide (1 ≤ b.c) && decide (b.c ≤ 1000)) || decide (b.c = 1000000)) && decide (1 ≤ len b.v)) && decide (len b.v ≤ 200))
def Ballot.compat (a b : Ballot) : Bool := decide (a.v = b.v)
def Ballot.covers (p b : Ballot) : Bool := ((!p.isZero && p.compat b) && decide (b.c ≤ p.c))
def Ballot.cmp (a b : Ballot) : Int := orInt [cmpInt a.c b.c, cmpVal a.v b.v]
def Ballot.less (a b : Ballot) : Bool := decide (a.cmp b < 0)
def Ballot.aborts (p b : Ballot) : Bool := ((!p.isZero && !p.compat b) && b.less p)
def Ballot.prepares (p q b : Ballot) : Bool := ((p.covers b || q.covers b) || (!q.isZero && b.less q))

theorem c_cmp_isNaN_int (i : Int) : ACalls Tryz.prog 124 [VI i] [] fun dd bb => dd = VB (false) ∧ bb = [] := by
  refine zai Tryz.func124 rfl Tryz.ntmps124 (by rw [Tryz.results124]) rfl rfl (fun w0 A0 X => ?_)
  refine zsr ?_
  refine zc rfl (zas zb0 rfl ?_)
  refine zn0 ?_
  refine zsr ?_
  refine zc rfl (zmv (zt rfl) rfl ?_)
  refine zc rfl (zmv (zt rfl) rfl ?_)
  refine zc rfl (zcm (zt rfl) (zt rfl) rfl rfl ?_)
  refine zc rfl (zas (zt rfl) rfl ?_)
  refine zn0 ?_
  refine zwr ?_
  refine zpr [] (res1 (zrt rfl)) rfl lz ?_
  exact ⟨by simp [V.norm, C.norm], rfl⟩

theorem c_cmp_Compare_int (i j : Int) : ACalls Tryz.prog 89 [VI i, VI j] [] fun dd bb => dd = VI (cmpInt i j) ∧ bb = [] := by
  refine zai Tryz.func89 rfl Tryz.ntmps89 (by rw [Tryz.results89]) rfl rfl (fun w0 A0 X => ?_)
  refine zsr ?_
  refine zc rfl (zas (zi zdc) rfl ?_)
  refine zn0 ?_
  refine zsr ?_
  refine zc rfl (zmv (zt rfl) rfl ?_)
  refine zc rfl (zcl zhf (hc (zt rfl) hz) (rs := []) (bxs := []) zdc bz (c_cmp_isNaN_int i) rfl rfl rfl (fun d b hd hl => ?_))
  obtain ⟨rfl, rfl⟩ := hd
  refine zc rfl (zas (zt rfl) rfl ?_)
  refine zn0 ?_
  refine zsr ?_
  refine zc rfl (zmv (zt rfl) rfl ?_)
  refine zc rfl (zcl zhf (hc (zt rfl) hz) (rs := []) (bxs := []) zdc bz (c_cmp_isNaN_int j) rfl rfl rfl (fun d b hd hl => ?_))
  obtain ⟨rfl, rfl⟩ := hd
  refine zc rfl (zas (zt rfl) rfl ?_)
  refine zn0 ?_
  refine zw2 ?_
  refine zsr ?_
  refine zc rfl (zmv (zt rfl) rfl ?_)
  refine zn0 ?_
  refine zwc (zt rfl) (fun h1 => ?_) (fun h1 => ?_)
  · skip
    cases h1
  · skip
    refine zws ?_
    refine ztn ?_
    refine zw2 ?_
    refine zsr ?_
    refine zc rfl (zmv (zt rfl) rfl ?_)
    refine zn0 ?_
    refine zwc (zt rfl) (fun h3 => ?_) (fun h3 => ?_)
    · skip
      cases h3
    · skip
      refine zws ?_
      refine ztn ?_
      refine zw2 ?_
      refine zsr ?_
      refine zc rfl (zmv (zt rfl) rfl ?_)
      refine zc rfl (zmv (zt rfl) rfl ?_)
      refine zc rfl (zcm (zt rfl) (zt rfl) rfl rfl ?_)
      refine zn0 ?_
      refine zwc (zt rfl) (fun h4 => ?_) (fun h4 => ?_)
      · skip
        have g4 := h4
        try simp only [zbz] at g4
        refine zsr ?_
        refine zc rfl (zas (zi zdc) rfl ?_)
        refine zn0 ?_
        refine zwr ?_
        refine ztr ?_
        refine zpr [] (res1 (zrt rfl)) rfl lz ?_
        exact ⟨by simp_all [cmpInt, V.norm, C.norm, bLess, bGt]; try omega, rfl⟩
      · skip
        have g4 := h4
        try simp only [zbz] at g4
        refine zws ?_
        refine ztn ?_
        refine zw2 ?_
        refine zsr ?_
        refine zc rfl (zmv (zt rfl) rfl ?_)
        refine zc rfl (zmv (zt rfl) rfl ?_)
        refine zc rfl (zcm (zt rfl) (zt rfl) rfl rfl ?_)
        refine zn0 ?_
        refine zwc (zt rfl) (fun h5 => ?_) (fun h5 => ?_)
        · skip
          have g5 := h5
          try simp only [zbz] at g5
          refine zsr ?_
          refine zc rfl (zas (zi zdc) rfl ?_)
          refine zn0 ?_
          refine zwr ?_
          refine ztr ?_
          refine zpr [] (res1 (zrt rfl)) rfl lz ?_
          exact ⟨by simp_all [cmpInt, V.norm, C.norm, bLess, bGt]; try omega, rfl⟩
        · skip
          have g5 := h5
          try simp only [zbz] at g5
          refine zws ?_
          refine ztn ?_
          refine zsr ?_
          refine zc rfl (zas (zi zdc) rfl ?_)
          refine zn0 ?_
          refine zwr ?_
          refine zpr [] (res1 (zrt rfl)) rfl lz ?_
          exact ⟨by simp_all [cmpInt, V.norm, C.norm, bLess, bGt]; try omega, rfl⟩

theorem c_cmp_isNaN_string (i : ByteArray) : ACalls Tryz.prog 177 [VS i] [] fun dd bb => dd = VB (false) ∧ bb = [] := by
  refine zai Tryz.func177 rfl Tryz.ntmps177 (by rw [Tryz.results177]) rfl rfl (fun w0 A0 X => ?_)
  refine zsr ?_
  refine zc rfl (zas zb0 rfl ?_)
  refine zn0 ?_
  refine zsr ?_
  refine zc rfl (zmv (zt rfl) rfl ?_)
  refine zc rfl (zmv (zt rfl) rfl ?_)
  refine zc rfl (op_cmp_str (zt rfl) (zt rfl) rfl rfl ?_)
  refine zc rfl (zas (zt rfl) rfl ?_)
  refine zn0 ?_
  refine zwr ?_
  refine zpr [] (res1 (zrt rfl)) rfl lz ?_
  exact ⟨by simp [V.norm, C.norm], rfl⟩

theorem c_cmp_Compare_string (i j : ByteArray) : ACalls Tryz.prog 170 [VS i, VS j] [] fun dd bb => dd = VI (cmpStr i j) ∧ bb = [] := by
  refine zai Tryz.func170 rfl Tryz.ntmps170 (by rw [Tryz.results170]) rfl rfl (fun w0 A0 X => ?_)
  refine zsr ?_
  refine zc rfl (zas (zi zdc) rfl ?_)
  refine zn0 ?_
  refine zsr ?_
  refine zc rfl (zmv (zt rfl) rfl ?_)
  refine zc rfl (zcl zhf (hc (zt rfl) hz) (rs := []) (bxs := []) zdc bz (c_cmp_isNaN_string i) rfl rfl rfl (fun d b hd hl => ?_))
  obtain ⟨rfl, rfl⟩ := hd
  refine zc rfl (zas (zt rfl) rfl ?_)
  refine zn0 ?_
  refine zsr ?_
  refine zc rfl (zmv (zt rfl) rfl ?_)
  refine zc rfl (zcl zhf (hc (zt rfl) hz) (rs := []) (bxs := []) zdc bz (c_cmp_isNaN_string j) rfl rfl rfl (fun d b hd hl => ?_))
  obtain ⟨rfl, rfl⟩ := hd
  refine zc rfl (zas (zt rfl) rfl ?_)
  refine zn0 ?_
  refine zw2 ?_
  refine zsr ?_
  refine zc rfl (zmv (zt rfl) rfl ?_)
  refine zn0 ?_
  refine zwc (zt rfl) (fun h1 => ?_) (fun h1 => ?_)
  · skip
    cases h1
  · skip
    refine zws ?_
    refine ztn ?_
    refine zw2 ?_
    refine zsr ?_
    refine zc rfl (zmv (zt rfl) rfl ?_)
    refine zn0 ?_
    refine zwc (zt rfl) (fun h3 => ?_) (fun h3 => ?_)
    · skip
      cases h3
    · skip
      refine zws ?_
      refine ztn ?_
      refine zw2 ?_
      refine zsr ?_
      refine zc rfl (zmv (zt rfl) rfl ?_)
      refine zc rfl (zmv (zt rfl) rfl ?_)
      refine zc rfl (op_cmp_str (zt rfl) (zt rfl) rfl rfl ?_)
      refine zn0 ?_
      refine zwc (zt rfl) (fun h4 => ?_) (fun h4 => ?_)
      · skip
        have g4 := h4
        try simp only [zbz] at g4
        refine zsr ?_
        refine zc rfl (zas (zi zdc) rfl ?_)
        refine zn0 ?_
        refine zwr ?_
        refine ztr ?_
        refine zpr [] (res1 (zrt rfl)) rfl lz ?_
        exact ⟨by simp_all [cmpStr, V.norm, C.norm, bLess, bGt]; try omega, rfl⟩
      · skip
        have g4 := h4
        try simp only [zbz] at g4
        refine zws ?_
        refine ztn ?_
        refine zw2 ?_
        refine zsr ?_
        refine zc rfl (zmv (zt rfl) rfl ?_)
        refine zc rfl (zmv (zt rfl) rfl ?_)
        refine zc rfl (op_cmp_str (zt rfl) (zt rfl) rfl rfl ?_)
        refine zn0 ?_
        refine zwc (zt rfl) (fun h5 => ?_) (fun h5 => ?_)
        · skip
          have g5 := h5
          try simp only [zbz] at g5
          refine zsr ?_
          refine zc rfl (zas (zi zdc) rfl ?_)
          refine zn0 ?_
          refine zwr ?_
          refine ztr ?_
          refine zpr [] (res1 (zrt rfl)) rfl lz ?_
          exact ⟨by simp_all [cmpStr, V.norm, C.norm, bLess, bGt]; try omega, rfl⟩
        · skip
          have g5 := h5
          try simp only [zbz] at g5
          refine zws ?_
          refine ztn ?_
          refine zsr ?_
          refine zc rfl (zas (zi zdc) rfl ?_)
          refine zn0 ?_
          refine zwr ?_
          refine zpr [] (res1 (zrt rfl)) rfl lz ?_
          exact ⟨by simp_all [cmpStr, V.norm, C.norm, bLess, bGt]; try omega, rfl⟩

theorem c_cmp_Less_int (i j : Int) : ACalls Tryz.prog 151 [VI i, VI j] [] fun dd bb => dd = VB (decide (i < j)) ∧ bb = [] := by
  refine zai Tryz.func151 rfl Tryz.ntmps151 (by rw [Tryz.results151]) rfl rfl (fun w0 A0 X => ?_)
  refine zsr ?_
  refine zc rfl (zas zb0 rfl ?_)
  refine zn0 ?_
  refine zsr ?_
  refine zc rfl (zmv (zt rfl) rfl ?_)
  refine zc rfl (zcl zhf (hc (zt rfl) hz) (rs := []) (bxs := []) zdc bz (c_cmp_isNaN_int i) rfl rfl rfl (fun d b hd hl => ?_))
  obtain ⟨rfl, rfl⟩ := hd
  refine zc rfl (zmv (zt rfl) rfl ?_)
  refine zg rfl rfl rfl rfl (zgb rfl) (fun hg => zmv (zt rfl) rfl rfl) ?_
  refine zg rfl rfl rfl rfl (zgb rfl) (fun hg => zcl zhf (hc (zcd (zt rfl) hg) hz) (rs := []) (bxs := []) zdc bz (c_cmp_isNaN_int j) rfl rfl rfl (fun d b hd hl => by obtain ⟨rfl, rfl⟩ := hd; rfl)) ?_
  refine zg rfl rfl rfl rfl (zgb rfl) (fun hg => op_not (zcd (zt rfl) hg) rfl rfl) ?_
  refine zc rfl (zan (zt rfl) (zt rfl) (.inl zb0) rfl ?_)
  refine zc rfl (zmv (zt rfl) rfl ?_)
  refine zg rfl rfl rfl rfl (zgb rfl) (fun hg => zmv (zt rfl) rfl rfl) ?_
  refine zg rfl rfl rfl rfl (zgb rfl) (fun hg => zmv (zt rfl) rfl rfl) ?_
  refine zg rfl rfl rfl rfl (zgb rfl) (fun hg => zcm (zcd (zt rfl) hg) (zcd (zt rfl) hg) rfl rfl rfl) ?_
  refine zc rfl (zor (zt rfl) (.inl zb0) (zt rfl) rfl ?_)
  refine zc rfl (zas (zt rfl) rfl ?_)
  refine zn0 ?_
  refine zwr ?_
  refine zpr [] (res1 (zrt rfl)) rfl lz ?_
  exact ⟨rfl, rfl⟩

theorem orInt_drop {l : List Int} {k : Nat} (h : k < l.length) (hz : l[k]! = 0) : orInt (l.drop (k + 1)) = orInt (l.drop k) := by
  rw [List.drop_eq_getElem_cons h, orInt]
  simp [h] at hz
  simp [hz]
theorem orInt_here {l : List Int} {k : Nat} (h : k < l.length) (hz : l[k]! ≠ 0) : l[k]! = orInt (l.drop k) := by
  rw [List.drop_eq_getElem_cons h, orInt]
  simp [h] at hz ⊢
  simp [hz]
theorem c_cmp_Or_int (l : List Int) : ACalls Tryz.prog 88 [VR (iRows l)] [] fun dd bb => dd = VI (orInt l) ∧ bb = [] := by
  refine zai Tryz.func88 rfl Tryz.ntmps88 (by rw [Tryz.results88]) rfl rfl (fun w0 A0 X => ?_)
  refine zsr ?_
  refine zc rfl (zas (zi zdc) rfl ?_)
  refine zn0 ?_
  refine zsr ?_
  refine zc rfl (zas (zi zdc) rfl ?_)
  refine zn0 ?_
  refine zw2 ?_
  refine zsr ?_
  refine zc rfl (zmv (zt rfl) rfl ?_)
  refine zc rfl (zln (e := 3) (n := 1) (zt rfl) rfl zk rfl (fun hl => ?_))
  refine zc rfl (zmv (zi zdc) rfl ?_)
  refine zn0 ?_
  refine zwb ?_
  refine awp_loop (ι := Nat) (fun k => St.of [(6, VR (iRows l)), (7, VI ((iRows l).length : Int)), (8, VI ((k : Nat) : Int)), (2, VI (0)), (3, VI (0))] [] []) (fun k => k ≤ (iRows l).length ∧ (orInt (l.drop k) = orInt l)) (fun k => (iRows l).length - k) 0 ?_ ?_ ?_
  · exact (le_of (sc rfl (sc rfl (sc rfl (sc rfl (sc rfl sz))))) xz kz)
  · exact ⟨Nat.zero_le _, rfl⟩
  intro k ⟨hk, hI⟩
  refine zsr ?_
  refine zc rfl (zcm (zt rfl) (zt rfl) rfl rfl ?_)
  refine zn0 ?_
  refine zw2 ?_
  refine zwc (zt rfl) (fun h1 => ?_) (fun h1 => ?_)
  · skip
    have hlt : k < (iRows l).length := by have := of_decide_eq_true h1; omega
    have hl2 : k < l.length := by simpa using hlt
    refine zws ?_
    refine ztn ?_
    refine zw2 ?_
    refine zwb ?_
    refine zsr ?_
    refine zc rfl (op_indexAddr (e := 3) (n := 1) (zt rfl) rfl (zt rfl) zk (by omega) (show (iRows l)[k]? = some _ from map_getD hl2) rfl rfl ?_)
    refine zc rfl (op_load_imm1 (zt rfl) zk rfl rfl ?_)
    refine zc rfl (zas (zt rfl) rfl ?_)
    refine zn0 ?_
    refine zsr ?_
    refine zc rfl (zmv (zt rfl) rfl ?_)
    refine zc rfl (zmv (zt rfl) rfl ?_)
    refine zc rfl (zcm (zt rfl) (zt rfl) rfl rfl ?_)
    refine zn0 ?_
    refine zwc (zt rfl) (fun h2 => ?_) (fun h2 => ?_)
    · skip
      have g2 := h2
      try simp only [zbz] at g2
      refine zsr ?_
      refine zc rfl (zmv (zt rfl) rfl ?_)
      refine zc rfl (zas (zt rfl) rfl ?_)
      refine zn0 ?_
      refine zwr ?_
      refine blk_ret ?_
      refine ztr ?_
      refine ztr ?_
      refine blk_ret ?_
      refine ztr ?_
      refine zpr [] (res1 (zrt rfl)) rfl lz ?_
      have hne : l[k]! ≠ 0 := by simpa using h2
      rw [← hI, ← orInt_here hl2 hne]
      exact ⟨rfl, rfl⟩
    · skip
      have g2 := h2
      try simp only [zbz] at g2
      refine zws ?_
      refine zbn ?_
      refine ztn ?_
      refine zre ?_
      refine zc rfl (zar (zt rfl) (zi zdc) rfl (ink64 (by omega) (by omega)) rfl ?_)
      refine zc rfl (zmv (zt rfl) rfl ?_)
      refine zn0 ?_
      refine ztn ?_
      exact ⟨k + 1, ⟨by first | omega | (dsimp only; omega), (orInt_drop hl2 (by simpa using h2)).trans hI⟩, by first | omega | (dsimp only; omega), (le_of (sc rfl (sc rfl (sc rfl (sc rfl (sc rfl sz))))) xz kz)⟩
  · skip
    have hge : k = (iRows l).length := by have := of_decide_eq_false h1; omega
    refine zwe ?_
    refine zte ?_
    refine zte ?_
    refine zbk ?_
    refine ztn ?_
    refine zsr ?_
    refine zc rfl (zmv (zt rfl) rfl ?_)
    refine zc rfl (zas (zt rfl) rfl ?_)
    refine zn0 ?_
    refine zwr ?_
    refine zpr [] (res1 (zrt rfl)) rfl lz ?_
    have hkl : k = l.length := by simpa using hge
    rw [← hI, hkl, List.drop_length]
    exact ⟨rfl, rfl⟩

theorem c_ballots_CompareValues (a b : ByteArray) : ACalls Tryz.prog 154 [VS a, VS b] [] fun dd bb => dd = VI (cmpVal a b) ∧ bb = [] := by
  refine zai Tryz.func154 rfl Tryz.ntmps154 (by rw [Tryz.results154]) rfl rfl (fun w0 A0 X => ?_)
  refine zsr ?_
  refine zc rfl (zas (zi zdc) rfl ?_)
  refine zn0 ?_
  refine zsr ?_
  refine zc rfl (zmv (zt rfl) rfl ?_)
  refine zc rfl (op_len_str (zt rfl) zk rfl (fun hl => ?_))
  refine zc rfl (zmv (zt rfl) rfl ?_)
  refine zc rfl (op_len_str (zt rfl) zk rfl (fun hl => ?_))
  refine zc rfl (zcl zhf (hc (zt rfl) (hc (zt rfl) hz)) (rs := []) (bxs := []) zdc bz (c_cmp_Compare_int _ _) rfl rfl rfl (fun d b hd hl => ?_))
  obtain ⟨rfl, rfl⟩ := hd
  refine zc rfl (zmv (zt rfl) rfl ?_)
  refine zc rfl (zmv (zt rfl) rfl ?_)
  refine zc rfl (zcl zhf (hc (zt rfl) (hc (zt rfl) hz)) (rs := []) (bxs := []) zdc bz (c_cmp_Compare_string a b) rfl rfl rfl (fun d b hd hl => ?_))
  obtain ⟨rfl, rfl⟩ := hd
  refine zc rfl (zbs (e := 3) (ps := [(_, _), (_, _)]) (qs := [(_, _), (_, _)]) (n := 1) (rows := [[_], [_]]) (pc (zt rfl) rfl (pc (zt rfl) rfl pz)) zk zdc ⟨[.dat (.int .i64 0)], by kernel_rfl⟩ rfl rfl (by simp [Uni]) rfl zdc rfl ?_)
  refine zc rfl (zcl zhf (hc (zt rfl) hz) (rs := []) (bxs := []) zdc bz (c_cmp_Or_int [cmpInt (len a) (len b), cmpStr a b]) rfl rfl rfl (fun d b hd hl => ?_))
  obtain ⟨rfl, rfl⟩ := hd
  refine zc rfl (zas (zt rfl) rfl ?_)
  refine zn0 ?_
  refine zwr ?_
  refine zpr [] (res1 (zrt rfl)) rfl lz ?_
  exact ⟨rfl, rfl⟩

end Go.TQ
