/- Contracts of functions of the program, each for every input that its hypotheses let in; printed by a program of our own (s16). -/
import Derived.Test.YtmfiplnojbjcbaaGreatC15
set_option linter.unusedVariables false
set_option linter.unusedSimpArgs false
set_option maxRecDepth 10000
set_option maxHeartbeats 4000000
namespace Go.TQ
open Go.Proofs


/-- A set is in another one. -/
def subS (t s : Int) : Bool := decide (((t.toNat ^^^ (t.toNat &&& s.toNat) : Nat) : Int) = 0)
/-- The subsets of s below k, as they come. -/
def subsTo (s : Int) (k : Nat) : List Int := ((List.range k).map fun (n : Nat) => (n : Int)).filter fun t => subS t s
def subsS (s : Int) : List Int := if validS s = true then subsTo s (s.toNat + 1) else []
theorem subsTo_len (s : Int) (k : Nat) : (subsTo s k).length ≤ k := by
  have := List.length_filter_le (fun t => subS t s) ((List.range k).map fun (n : Nat) => (n : Int))
  simpa [subsTo] using this
theorem subsTo_yes {s : Int} {k : Nat} (h : subS k s = true) : subsTo s k ++ [(k : Int)] = subsTo s (k + 1) := by
  simp [subsTo, List.range_succ, h]
theorem subsTo_no {s : Int} {k : Nat} (h : subS k s = false) : subsTo s k = subsTo s (k + 1) := by
  simp [subsTo, List.range_succ, h]
theorem subsTo_mono (s : Int) (k : Nat) : ∀ d, (subsTo s k).length ≤ (subsTo s (k + d)).length
  | 0 => Nat.le_refl _
  | d + 1 => by
    refine Nat.le_trans (subsTo_mono s k d) ?_
    cases hs : subS ((k + d : Nat) : Int) s
    · rw [show k + (d + 1) = k + d + 1 by omega, ← subsTo_no hs]; exact Nat.le_refl _
    · rw [show k + (d + 1) = k + d + 1 by omega, ← subsTo_yes hs]; simp
theorem subs_len {s : Int} {t : Nat} {out : List Int} (ho : out = if validS s = true then subsTo s t else []) (hk : validS s = true → t ≤ s.toNat + 1) (hs : (subsS s).length ≤ 12) : out.length ≤ 12 := by
  subst ho
  split
  · rename_i h
    have := hk h
    obtain ⟨d, hd⟩ : ∃ d, s.toNat + 1 = t + d := ⟨s.toNat + 1 - t, by omega⟩
    have h2 := subsTo_mono s t d
    rw [subsS, if_pos h, hd] at hs
    omega
  · simp
theorem subs_fin {s : Int} {t : Nat} {out : List Int} (ho : out = if validS s = true then subsTo s t else []) (hk : validS s = true → t ≤ s.toNat + 1) (h : (validS s && decide ((t : Int) ≤ s)) = false) : out = subsS s := by
  subst ho
  unfold subsS
  split
  · rename_i hv
    have := hk hv
    rw [hv] at h
    have h2 : ¬ (t : Int) ≤ s := by simpa using h
    have h3 : 0 ≤ s := by simp only [validS, Bool.and_eq_true, decide_eq_true_eq] at hv; omega
    rw [show t = s.toNat + 1 by omega]
  · rfl
theorem cmpInt_neg (a b : Int) : cmpInt a b < 0 ↔ a < b := by unfold cmpInt; split <;> (try split) <;> omega
theorem cmpInt_zero (a b : Int) : cmpInt a b = 0 ↔ a = b := by unfold cmpInt; split <;> (try split) <;> omega
theorem or2_neg (x y : Int) : orInt [x, y] < 0 ↔ x < 0 ∨ (x = 0 ∧ y < 0) := by
  unfold orInt; split
  · omega
  · unfold orInt; split
    · omega
    · simp [orInt]; omega
theorem cmpSet_neg (a b : Int) : cmpSet a b < 0 ↔ rankN a < rankN b ∨ (rankN a = rankN b ∧ a < b) := by
  rw [cmpSet, or2_neg, cmpInt_neg, cmpInt_zero, cmpInt_neg]
theorem cmpSet_ord : OrdC cmpSet := by
  refine ⟨fun a b h => ?_, fun a b d h1 h2 => ?_⟩
  · rw [cmpSet_neg] at *; omega
  · rw [cmpSet_neg] at *; omega

theorem c_nodeset_Subsets (s : Int) (hs : (subsS s).length ≤ 12) : ACalls Tryz.prog 98 [VI s] [] fun dd bb => ∃ (l : List Int), dd = VR (iRows l) ∧ bb = [] ∧ (SortedC cmpSet l ∧ l.Perm (subsS s)) := by
  refine zai Tryz.func98 rfl Tryz.ntmps98 (by rw [Tryz.results98]) rfl rfl (fun w0 A0 X => ?_)
  refine zsr ?_
  refine zc rfl (zas has_nil rfl ?_)
  refine zn0 ?_
  refine zsr ?_
  refine zc rfl (zas has_nil rfl ?_)
  refine zn0 ?_
  refine zw2 ?_
  refine zsr ?_
  refine zc rfl (zas (zi zdc) rfl ?_)
  refine zn0 ?_
  refine zwb ?_
  refine awp_loop5 (fs := [(0, _)]) (fb := []) (fun (bb : Bool) (out : List Int) (p : Nat) (cap : Nat) (t : Nat) => [(3, .one (bif bb then .bs (.o 21) 1 out.length cap else .nilsl)), (4, VI ((t : Nat) : Int))]) (fun (bb : Bool) (out : List Int) (p : Nat) (cap : Nat) (t : Nat) => [] ++ (bif bb then [(.o 21, bsC (iRows out).flatten p)] else [])) (fun (bb : Bool) (out : List Int) (p : Nat) (cap : Nat) (t : Nat) => []) (fun (bb : Bool) (out : List Int) (p : Nat) (cap : Nat) (t : Nat) => (bb = false → out = []) ∧ (out.length * 1 + p = cap * 1) ∧ (out.length ≤ cap) ∧ (validS s = true → t ≤ s.toNat + 1) ∧ (out = if validS s = true then subsTo s t else []) ∧ (validS s = false → t = 0)) (fun (bb : Bool) (out : List Int) (p : Nat) (cap : Nat) (t : Nat) => s.toNat + 1 - t) false [] 0 0 0 (le_of (sc rfl (sc rfl (sc rfl sz))) xz kz) ?_ ?_
  · refine ⟨?_, ?_, ?_, ?_, ?_, ?_⟩
    · first | (intro h; cases h; done) | (intro _; rfl)
    · first | omega | (simp; done) | (simp only [List.length_append, List.length_cons, List.length_nil] at *; omega)
    · first | omega | (simp; done) | (simp only [List.length_append, List.length_cons, List.length_nil] at *; omega)
    · intro _; exact Nat.zero_le _
    · split <;> rfl
    · intro _; rfl
  · intro bb out p cap t ⟨hbs, hpc, hlc, hk, ho, ht⟩
    cases bb
    · have hl0 := hbs rfl
      subst hl0
      refine zw2 ?_
      refine zsr ?_
      refine zc rfl (zmv (zt rfl) rfl ?_)
      refine zc rfl (zcl zhf (hc (zt rfl) hz) (rs := []) (bxs := []) zdc bz (c_nodeset_Valid s) rfl rfl rfl (fun d b hd hl => ?_))
      obtain ⟨rfl, rfl⟩ := hd
      refine zc rfl (zmv (zt rfl) rfl ?_)
      refine zg rfl rfl rfl rfl (zgb rfl) (fun hg => zmv (zt rfl) rfl rfl) ?_
      refine zg rfl rfl rfl rfl (zgb rfl) (fun hg => zmv (zt rfl) rfl rfl) ?_
      refine zg rfl rfl rfl rfl (zgb rfl) (fun hg => zcm (zcd (zt rfl) hg) (zcd (zt rfl) hg) rfl rfl rfl) ?_
      refine zc rfl (zan (zt rfl) (zt rfl) (.inl zb0) rfl ?_)
      refine zn0 ?_
      refine zwc (zt rfl) (fun h1 => ?_) (fun h1 => ?_)
      · skip
        have g1 := h1
        try simp only [zbz, List.length_map] at g1
        obtain ⟨gv, gt⟩ := g1
        have hv : 0 ≤ s ∧ s < 1024 := by have := gv; simp only [validS, Bool.and_eq_true, decide_eq_true_eq] at this; omega
        have hol : [].length ≤ 12 := subs_len ho hk hs
        refine zws ?_
        refine ztn ?_
        refine zw2 ?_
        refine zwb ?_
        refine zsr ?_
        refine zc rfl (zmv (zt rfl) rfl ?_)
        refine zc rfl (zmv (zt rfl) rfl ?_)
        refine zc rfl (op_bit (zt rfl) (zt rfl) (by first | exact Int.natCast_nonneg _ | omega) (by first | exact Int.natCast_nonneg _ | omega) rfl rfl ?_)
        refine zc rfl (zcm (zt rfl) (zi zdc) rfl rfl ?_)
        refine zn0 ?_
        refine zwc (zt rfl) (fun h2 => ?_) (fun h2 => ?_)
        · skip
          have g2 := h2
          try simp only [zbz, List.length_map] at g2
          refine zre ?_
          refine zc rfl (zmv (zt rfl) rfl ?_)
          refine zc rfl (zmv (zt rfl) rfl ?_)
          refine zc rfl (zbs (e := 3) (ps := [(_, _)]) (qs := [(_, _)]) (n := 1) (rows := [[_]]) (pc (zt rfl) rfl pz) zk zdc ⟨[.dat (.int .i64 0)], by kernel_rfl⟩ rfl rfl (by simp [Uni]) rfl zdc rfl ?_)
          refine zc rfl (op_append_nil_bs (e := 3) (k := 1) (b := 8) (zt rfl) (zt rfl) rfl zk ⟨[.dat (.int .i64 0)], by kernel_rfl⟩ (by first | exact uni_map (f := iRow) (fun _ => rfl) _ | (simp [Uni]; done)) (by first | (simp; done) | (simp; omega) | (simp at *; omega)) (by first | (simp; done) | (simp; omega) | (simp at *; omega)) (by simp) rfl (fun p1 cap1 hp hc => ?_))
          try simp only [List.length_cons, List.length_nil, List.length_map] at hp hc
          refine zc rfl (zas (zt rfl) rfl ?_)
          refine zn0 ?_
          refine zbn ?_
          refine ztn ?_
          refine zre ?_
          refine zc rfl (zmv (zt rfl) rfl ?_)
          refine zc rfl (zar (zt rfl) (zi zdc) rfl (ink64 zom zom) rfl ?_)
          refine zc rfl (zas (zt rfl) rfl ?_)
          refine zn0 ?_
          refine ztn ?_
          refine ⟨true, [((t : Nat) : Int)], p1, cap1, t + 1, ?_, ?_, (le_of (sc rfl (sc (sl_eq rfl (by first | rfl | (simp; done))) (sc rfl sz))) (xc (bx_eq rfl (by first | rfl | (simp only [List.map_append, List.flatten_append, List.map_cons, List.map_nil]; rfl) | (simp; done))) xz) kz)⟩
          · refine ⟨?_, ?_, ?_, ?_, ?_, ?_⟩
            · first | (intro h; cases h; done) | (intro _; rfl)
            · first | omega | (simp; done) | (simp only [List.length_append, List.length_cons, List.length_nil] at *; omega)
            · first | omega | (simp; done) | (simp only [List.length_append, List.length_cons, List.length_nil] at *; omega)
            · intro _; omega
            · first
                | (rw [if_pos gv] at ho ⊢; rw [← subsTo_yes h2, ← ho]; done)
                | (rw [if_pos gv] at ho ⊢; rw [← subsTo_yes h2, ← ho]; rfl)
                | (rw [if_pos gv] at ho ⊢; rw [← subsTo_no h2]; exact ho)
            · intro h; rw [gv] at h; cases h
          · first | omega | (simp at *; omega)
        · skip
          have g2 := h2
          try simp only [zbz, List.length_map] at g2
          refine zws ?_
          refine zbn ?_
          refine ztn ?_
          refine zre ?_
          refine zc rfl (zmv (zt rfl) rfl ?_)
          refine zc rfl (zar (zt rfl) (zi zdc) rfl (ink64 zom zom) rfl ?_)
          refine zc rfl (zas (zt rfl) rfl ?_)
          refine zn0 ?_
          refine ztn ?_
          refine ⟨false, [], 0, 0, t + 1, ?_, ?_, (le_of (sc rfl (sc rfl (sc rfl sz))) xz kz)⟩
          · refine ⟨?_, ?_, ?_, ?_, ?_, ?_⟩
            · first | (intro h; cases h; done) | (intro _; rfl)
            · first | omega | (simp; done) | (simp only [List.length_append, List.length_cons, List.length_nil] at *; omega)
            · first | omega | (simp; done) | (simp only [List.length_append, List.length_cons, List.length_nil] at *; omega)
            · intro _; omega
            · first
                | (rw [if_pos gv] at ho ⊢; rw [← subsTo_yes h2, ← ho]; done)
                | (rw [if_pos gv] at ho ⊢; rw [← subsTo_yes h2, ← ho]; rfl)
                | (rw [if_pos gv] at ho ⊢; rw [← subsTo_no h2]; exact ho)
            · intro h; rw [gv] at h; cases h
          · first | omega | (simp at *; omega)
      · skip
        have hol : [].length ≤ 12 := subs_len ho hk hs
        have hfin := subs_fin ho hk h1
        refine zwe ?_
        refine zte ?_
        refine zte ?_
        refine zbk ?_
        refine ztn ?_
        refine zsr ?_
        refine zc rfl (zmv (zt rfl) rfl ?_)
        refine zc rfl (zcl zhf (hc (zt rfl) (hc zhf hz)) (rs := []) (bxs := []) zdc bz (c_SortFunc0_int (128)) rfl rfl rfl (fun d b hd hl => ?_))
        obtain ⟨rfl, rfl⟩ := hd
        try have hlq := hp.length_eq
        refine zn0 ?_
        refine awp_le (le_of (ls := [(3, .one (.nilsl))]) (bs := []) (ts := []) (sc rfl sz) xz kz) ?_
        refine zsr ?_
        refine zc rfl (zmv (zt rfl) rfl ?_)
        refine zc rfl (zas (zt rfl) rfl ?_)
        refine zn0 ?_
        refine zwr ?_
        refine zpr [] (res1 (zrt rfl)) rfl lz ?_
        refine ⟨[], rfl, rfl, ?_⟩
        first | exact ⟨List.Pairwise.nil, by rw [← hfin]⟩ | (refine ⟨by assumption, ?_⟩; rw [← hfin]; assumption)
    · skip
      refine zw2 ?_
      refine zsr ?_
      refine zc rfl (zmv (zt rfl) rfl ?_)
      refine zc rfl (zcl zhf (hc (zt rfl) hz) (rs := []) (bxs := []) zdc bz (c_nodeset_Valid s) rfl rfl rfl (fun d b hd hl => ?_))
      obtain ⟨rfl, rfl⟩ := hd
      refine zc rfl (zmv (zt rfl) rfl ?_)
      refine zg rfl rfl rfl rfl (zgb rfl) (fun hg => zmv (zt rfl) rfl rfl) ?_
      refine zg rfl rfl rfl rfl (zgb rfl) (fun hg => zmv (zt rfl) rfl rfl) ?_
      refine zg rfl rfl rfl rfl (zgb rfl) (fun hg => zcm (zcd (zt rfl) hg) (zcd (zt rfl) hg) rfl rfl rfl) ?_
      refine zc rfl (zan (zt rfl) (zt rfl) (.inl zb0) rfl ?_)
      refine zn0 ?_
      refine zwc (zt rfl) (fun h1 => ?_) (fun h1 => ?_)
      · skip
        have g1 := h1
        try simp only [zbz, List.length_map] at g1
        obtain ⟨gv, gt⟩ := g1
        have hv : 0 ≤ s ∧ s < 1024 := by have := gv; simp only [validS, Bool.and_eq_true, decide_eq_true_eq] at this; omega
        have hol : out.length ≤ 12 := subs_len ho hk hs
        refine zws ?_
        refine ztn ?_
        refine zw2 ?_
        refine zwb ?_
        refine zsr ?_
        refine zc rfl (zmv (zt rfl) rfl ?_)
        refine zc rfl (zmv (zt rfl) rfl ?_)
        refine zc rfl (op_bit (zt rfl) (zt rfl) (by first | exact Int.natCast_nonneg _ | omega) (by first | exact Int.natCast_nonneg _ | omega) rfl rfl ?_)
        refine zc rfl (zcm (zt rfl) (zi zdc) rfl rfl ?_)
        refine zn0 ?_
        refine zwc (zt rfl) (fun h2 => ?_) (fun h2 => ?_)
        · skip
          have g2 := h2
          try simp only [zbz, List.length_map] at g2
          refine zre ?_
          refine zc rfl (zmv (zt rfl) rfl ?_)
          refine zc rfl (zmv (zt rfl) rfl ?_)
          refine zc rfl (zbs (e := 3) (ps := [(_, _)]) (qs := [(_, _)]) (n := 1) (rows := [[_]]) (pc (zt rfl) rfl pz) zk zdc ⟨[.dat (.int .i64 0)], by kernel_rfl⟩ rfl rfl (by simp [Uni]) rfl zdc rfl ?_)
          refine zc rfl (op_append_bs (e := 3) (k := 1) (b := 8) (ds := (iRows out).flatten) (zt rfl) rfl (by rw [flatten_length_uni (uni_map (f := iRow) (fun _ => rfl) _), List.length_map]) zom (zt rfl) rfl zk ⟨[.dat (.int .i64 0)], by kernel_rfl⟩ (uni_map (f := iRow) (fun _ => rfl) [_]) (by first | (simp; done) | (simp; omega) | (simp at *; omega)) (by first | (simp; done) | (simp; omega) | (simp at *; omega)) (by simp) rfl (fun p1 cap1 hp hc => ?_))
          try simp only [List.length_cons, List.length_nil, List.length_map] at hp hc
          refine zc rfl (zas (zt rfl) rfl ?_)
          refine zn0 ?_
          refine zbn ?_
          refine ztn ?_
          refine zre ?_
          refine zc rfl (zmv (zt rfl) rfl ?_)
          refine zc rfl (zar (zt rfl) (zi zdc) rfl (ink64 zom zom) rfl ?_)
          refine zc rfl (zas (zt rfl) rfl ?_)
          refine zn0 ?_
          refine ztn ?_
          refine ⟨true, (out ++ [((t : Nat) : Int)]), p1, cap1, t + 1, ?_, ?_, (le_of (sc rfl (sc (sl_eq rfl (by first | rfl | (simp; done))) (sc rfl sz))) (xc (bx_eq rfl (by first | rfl | (simp only [List.map_append, List.flatten_append, List.map_cons, List.map_nil]; rfl) | (simp; done))) xz) kz)⟩
          · refine ⟨?_, ?_, ?_, ?_, ?_, ?_⟩
            · first | (intro h; cases h; done) | (intro _; rfl)
            · first | omega | (simp; done) | (simp only [List.length_append, List.length_cons, List.length_nil] at *; omega)
            · first | omega | (simp; done) | (simp only [List.length_append, List.length_cons, List.length_nil] at *; omega)
            · intro _; omega
            · first
                | (rw [if_pos gv] at ho ⊢; rw [← subsTo_yes h2, ← ho]; done)
                | (rw [if_pos gv] at ho ⊢; rw [← subsTo_yes h2, ← ho]; rfl)
                | (rw [if_pos gv] at ho ⊢; rw [← subsTo_no h2]; exact ho)
            · intro h; rw [gv] at h; cases h
          · first | omega | (simp at *; omega)
        · skip
          have g2 := h2
          try simp only [zbz, List.length_map] at g2
          refine zws ?_
          refine zbn ?_
          refine ztn ?_
          refine zre ?_
          refine zc rfl (zmv (zt rfl) rfl ?_)
          refine zc rfl (zar (zt rfl) (zi zdc) rfl (ink64 zom zom) rfl ?_)
          refine zc rfl (zas (zt rfl) rfl ?_)
          refine zn0 ?_
          refine ztn ?_
          refine ⟨true, out, p, cap, t + 1, ?_, ?_, (le_of (sc rfl (sc (sl_eq rfl (by first | rfl | (simp; done))) (sc rfl sz))) (xc (bx_eq rfl (by first | rfl | (simp only [List.map_append, List.flatten_append, List.map_cons, List.map_nil]; rfl) | (simp; done))) xz) kz)⟩
          · refine ⟨?_, ?_, ?_, ?_, ?_, ?_⟩
            · first | (intro h; cases h; done) | (intro _; rfl)
            · first | omega | (simp; done) | (simp only [List.length_append, List.length_cons, List.length_nil] at *; omega)
            · first | omega | (simp; done) | (simp only [List.length_append, List.length_cons, List.length_nil] at *; omega)
            · intro _; omega
            · first
                | (rw [if_pos gv] at ho ⊢; rw [← subsTo_yes h2, ← ho]; done)
                | (rw [if_pos gv] at ho ⊢; rw [← subsTo_yes h2, ← ho]; rfl)
                | (rw [if_pos gv] at ho ⊢; rw [← subsTo_no h2]; exact ho)
            · intro h; rw [gv] at h; cases h
          · first | omega | (simp at *; omega)
      · skip
        have hol : out.length ≤ 12 := subs_len ho hk hs
        have hfin := subs_fin ho hk h1
        refine zwe ?_
        refine zte ?_
        refine zte ?_
        refine zbk ?_
        refine ztn ?_
        refine zsr ?_
        refine zc rfl (zmv (zt rfl) rfl ?_)
        refine zc rfl (zcl zhf (hc (zt rfl) (hc zhf hz)) (rs := [.o 21]) (bxs := [_]) zdc (bc rfl bz) (c_SortFunc_int cmpSet cmpSet_ord (128) out p cap hol (fun x y => c_nodeset_Compare x y)) rfl (by first | rfl | (simp only [List.map_cons, List.map_nil, bsC_callee]; done) | (simp only [List.map_cons, List.map_nil, bsC_callee]; rfl)) rfl (fun d b hd hl => ?_))
        obtain ⟨l2, rfl, rfl, ⟨hs1, hp⟩⟩ := hd
        refine aops_le (le_bxeq (r := .o 21) (cs' := bsC (iRows l2).flatten p) rfl (bsC_caller _ _ _).symm) ?_
        try have hlq := hp.length_eq
        refine zn0 ?_
        refine awp_le (le_of (ls := [(3, .one (.bs (.o 21) 1 out.length cap))]) (bs := [(.o 21, bsC (iRows l2).flatten p)]) (ts := []) (sc rfl sz) (xc rfl xz) kz) ?_
        refine zsr ?_
        refine zc rfl (zmv (zt rfl) rfl ?_)
        refine zc rfl (zas (zt rfl) rfl ?_)
        refine zn0 ?_
        refine awp_le (le_freezeS (t := 2) (l := l2) (f := iRow) rfl rfl (by first | omega | (simp only [List.length_set]; omega) | (simp; omega)) (uni_map (f := iRow) (fun _ => rfl) _) zdc) ?_
        refine zwr ?_
        refine zpr [] (res1 (zrt rfl)) rfl lz ?_
        refine ⟨l2, rfl, rfl, ?_⟩
        first | exact ⟨List.Pairwise.nil, by rw [← hfin]⟩ | (refine ⟨by assumption, ?_⟩; rw [← hfin]; assumption)

end Go.TQ
