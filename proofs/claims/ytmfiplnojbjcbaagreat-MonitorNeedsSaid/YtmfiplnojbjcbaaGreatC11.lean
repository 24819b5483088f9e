/- s11.py -/
import Derived.Test.YtmfiplnojbjcbaaGreatC10
import Derived.Test.YtmfiplnojbjcbaaGreatAbsP
set_option linter.unusedVariables false
set_option linter.unusedSimpArgs false
set_option maxRecDepth 10000
set_option maxHeartbeats 4000000
namespace Go.TQ
open Go.Proofs


/-- A tape over the numbers L. -/
structure Src.at (L : List Int) (s : Src) : Prop where
  ok : s.ok
  l : s.l = L
theorem Src.at.nx {L : List Int} {s : Src} (h : s.at L) (n : Int) : (s.nx n).at L := ⟨Src.nx_ok' h.ok n, (Src.nx_ok h.ok n).2.trans h.l⟩
theorem Src.pick_of {s : Src} {l2 : List Int} (h : 1 ≤ l2.length) : s.pk l2 ∈ l2 := by
  have := s.n_lt (iRows l2).length
  have hl : ((iRows l2).length : Int) = l2.length := by simp
  rw [Src.pk, getElem!_pos l2 _ (by omega)]
  exact List.getElem_mem _
theorem Src.tx_of {s : Src} {l2 : List ByteArray} (h : 1 ≤ l2.length) : s.tx l2 ∈ l2 := by
  have := s.n_lt (sRows l2).length
  have hl : ((sRows l2).length : Int) = l2.length := by simp
  rw [Src.tx, getElem!_pos l2 _ (by omega)]
  exact List.getElem_mem _
/-- A value of the tape. -/
def ValP (v : ByteArray) : Prop := v ∈ vals4
/-- A small ballot of the tape. -/
structure LowP (b : Ballot) : Prop where
  lo : 1 ≤ b.c
  hi : b.c ≤ 7
  val : ValP b.v
theorem q_Src_N {L : List Int} (s : Src) (n : Int) (hs : s.at L) (hn : n ≤ 1000000000000) : ACalls Tryz.prog 9 [.one (.ref (.e 0) 0), VI n] [s.c] fun dd bb => dd = VI (s.n n) ∧ bb = [(s.nx n).c] := c_Src_N s n hs.ok hn
theorem r_Src_N {L : List Int} (s : Src) (n : Int) (hs : s.at L) (hn : n ≤ 1000000000000) : ACalls Tryz.prog 9 [.one (.ref (.e 0) 0), VI n] [s.c] fun dd bb => ∃ (v : Int) (s2 : Src), dd = VI v ∧ bb = [s2.c] ∧ ((0 ≤ v ∧ (v < n ∨ v = 0)) ∧ s2.at L) :=
  (c_Src_N s n hs.ok hn).mono fun dd bb h => ⟨_, _, h.1, h.2, s.n_lt n, hs.nx n⟩
theorem r_Src_Range {L : List Int} (s : Src) (lo hi : Int) (hs : s.at L) (hb : -1000000000 ≤ lo ∧ lo ≤ hi ∧ hi ≤ 1000000000) : ACalls Tryz.prog 24 [.one (.ref (.e 0) 0), VI lo, VI hi] [s.c] fun dd bb => ∃ (v : Int) (s2 : Src), dd = VI v ∧ bb = [s2.c] ∧ ((lo ≤ v ∧ v ≤ hi) ∧ s2.at L) :=
  (c_Src_Range s hs.ok lo hi hb).mono fun dd bb h => ⟨_, _, h.1, h.2, by have := s.n_lt (hi - lo + 1); omega, hs.nx _⟩
theorem r_Src_Pick {L : List Int} (s : Src) (l2 : List Int) (hs : s.at L) (hb : 1 ≤ l2.length ∧ l2.length ≤ 1000) : ACalls Tryz.prog 56 [.one (.ref (.e 0) 0), VR (iRows l2)] [s.c] fun dd bb => ∃ (v : Int) (s2 : Src), dd = VI v ∧ bb = [s2.c] ∧ (v ∈ l2 ∧ s2.at L) :=
  (c_Src_Pick s hs.ok l2 hb).mono fun dd bb h => ⟨_, _, h.1, h.2, Src.pick_of hb.1, hs.nx _⟩
theorem r_Src_Text {L : List Int} (s : Src) (l2 : List ByteArray) (hs : s.at L) (hb : 1 ≤ l2.length ∧ l2.length ≤ 1000) : ACalls Tryz.prog 58 [.one (.ref (.e 0) 0), VR (sRows l2)] [s.c] fun dd bb => ∃ (v : ByteArray) (s2 : Src), dd = VS v ∧ bb = [s2.c] ∧ (v ∈ l2 ∧ s2.at L) :=
  (c_Src_Text s hs.ok l2 hb).mono fun dd bb h => ⟨_, _, h.1, h.2, Src.tx_of hb.1, hs.nx _⟩
theorem r_Src_Odd {L : List Int} (s : Src) (hs : s.at L) : ACalls Tryz.prog 57 [.one (.ref (.e 0) 0)] [s.c] fun dd bb => ∃ (v : Int) (s2 : Src), dd = VI v ∧ bb = [s2.c] ∧ (v ∈ oddL ∧ s2.at L) :=
  (c_Src_Odd s hs.ok).mono fun dd bb h => ⟨_, _, h.1, h.2, Src.pick_of zdc, hs.nx _⟩
theorem r_Src_Value {L : List Int} (s : Src) (hs : s.at L) : ACalls Tryz.prog 44 [.one (.ref (.e 0) 0)] [s.c] fun dd bb => ∃ (v : ByteArray) (s2 : Src), dd = VS v ∧ bb = [s2.c] ∧ (ValP v ∧ s2.at L) :=
  (c_Src_Value s hs.ok).mono fun dd bb h => ⟨_, _, h.1, h.2, Src.tx_of zdc, hs.nx _⟩
theorem r_Src_Ballot {L : List Int} (s : Src) (hs : s.at L) : ACalls Tryz.prog 59 [.one (.ref (.e 0) 0)] [s.c] fun dd bb => ∃ (b : Ballot) (s2 : Src), dd = .aggd b.d ∧ bb = [s2.c] ∧ ((b.c ∈ [1, 2, 3, 4, 5, 1000, 1000000] ∧ ValP b.v) ∧ s2.at L) :=
  (c_Src_Ballot s hs.ok).mono fun dd bb h => ⟨_, _, h.1, h.2, ⟨Src.pick_of zdc, Src.tx_of zdc⟩, (hs.nx _).nx _⟩
theorem r_Src_Low {L : List Int} (s : Src) (hs : s.at L) : ACalls Tryz.prog 45 [.one (.ref (.e 0) 0)] [s.c] fun dd bb => ∃ (b : Ballot) (s2 : Src), dd = .aggd b.d ∧ bb = [s2.c] ∧ (LowP b ∧ s2.at L) :=
  (c_Src_Low s hs.ok).mono fun dd bb h => ⟨_, _, h.1, h.2, ⟨by have := s.n_lt (6 - 1 + 1); show 1 ≤ 1 + _; omega, by have := s.n_lt (6 - 1 + 1); show 1 + _ ≤ 7; omega, Src.tx_of zdc⟩, (hs.nx _).nx _⟩
theorem r_Src_Trust {L : List Int} (s : Src) (hs : s.at L) (n : Nat) (hn : 1 ≤ n ∧ n ≤ 10) : ACalls Tryz.prog 43 [.one (.ref (.e 0) 0), VI (n : Int)] [s.c] fun dd bb => ∃ (t : Trust) (s2 : Src), dd = .aggd (Trust.d t) ∧ bb = [s2.c] ∧ (TrP n t ∧ s2.at L) :=
  (c_Src_Trust s hs.ok n hn).mono fun dd bb h => by
    obtain ⟨t, s2, h1, h2, h3, h4, h5⟩ := h
    exact ⟨t, s2, h1, h2, h5, h3, h4.trans hs.l⟩

end Go.TQ
