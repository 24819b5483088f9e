/- s01.py -/
import Derived.Test.YtmfiplnojbjcbaaGreatAbsL
import Derived.Test.YtmfiplnojbjcbaaGreatProg
set_option linter.unusedVariables false
set_option linter.unusedSimpArgs false
set_option maxRecDepth 10000
namespace Go.TQ
open Go.Proofs

theorem c_nodeset_below (s n : Int) (hn : 0 ≤ n ∧ n ≤ 62) : ACalls Tryz.prog 140 [.one (.dat (.int .i64 s)), .one (.dat (.int .i64 n))] [] fun dd bb => dd = .one (.dat (.bool (decide (0 ≤ s) && decide (s < ((1 <<< n.toNat : Nat) : Int))))) ∧ bb = [] := by
  refine zai Tryz.func140 rfl Tryz.ntmps140 (by rw [Tryz.results140]) rfl rfl (fun w0 A0 X => ?_)
  refine zsr ?_
  refine zc rfl (zas zb0 rfl ?_)
  refine zn0 ?_
  refine zsr ?_
  refine zc rfl (zmv (zt rfl) rfl ?_)
  refine zc rfl (zcm (zt rfl) (zi zdc) rfl rfl ?_)
  refine zc rfl (zmv (zt rfl) rfl ?_)
  refine zg rfl rfl rfl rfl (zgb rfl) (fun hg => zmv (zt rfl) rfl rfl) ?_
  refine zg rfl rfl rfl rfl (zgb rfl) (fun hg => zmv (zt rfl) rfl rfl) ?_
  refine zg rfl rfl rfl rfl (zgb rfl) (fun hg => op_shl (zi zdc) (zcd (zt rfl) hg) (by simp only [zbz, cond_true, cond_false] at hg; omega) (by simp only [zbz, cond_true, cond_false] at hg; omega) (by simp only [zbz, cond_true, cond_false] at hg; show _ ≤ 64; omega) (ink_shl1 (by simp only [zbz, cond_true, cond_false] at hg; omega)) rfl rfl) ?_
  refine zg rfl rfl rfl rfl (zgb rfl) (fun hg => zcm (zcd (zt rfl) hg) (zcd (zt rfl) hg) rfl rfl rfl) ?_
  refine zc rfl (zan (zt rfl) (zt rfl) (.inl zb0) rfl ?_)
  refine zc rfl (zas (zt rfl) rfl ?_)
  refine zn0 ?_
  refine zwr ?_
  refine zpr [] (res1 (zrt rfl)) rfl lz ?_
  exact ⟨rfl, rfl⟩

def validS (s : Int) : Bool := decide (0 ≤ s) && decide (s < 1024)
theorem validS_iff {s : Int} : validS s = true ↔ 0 ≤ s ∧ s < 1024 := by simp [validS]
theorem c_nodeset_Valid (s : Int) : ACalls Tryz.prog 125 [.one (.dat (.int .i64 s))] [] fun dd bb => dd = .one (.dat (.bool (validS s))) ∧ bb = [] := by
  refine zai Tryz.func125 rfl Tryz.ntmps125 (by rw [Tryz.results125]) rfl rfl (fun w0 A0 X => ?_)
  refine zsr ?_
  refine zc rfl (zas zb0 rfl ?_)
  refine zn0 ?_
  refine zsr ?_
  refine zc rfl (zmv (zt rfl) rfl ?_)
  refine zc rfl (zcl zhf (hc (zt rfl) (hc (zi zdc) hz)) (rs := []) (bxs := []) zdc bz (c_nodeset_below _ _ (by omega)) rfl rfl rfl (fun d b hd hl => ?_))
  obtain ⟨rfl, rfl⟩ := hd
  refine zc rfl (zas (zt rfl) rfl ?_)
  refine zn0 ?_
  refine zwr ?_
  refine zpr [] (res1 (zrt rfl)) rfl lz ?_
  exact ⟨rfl, rfl⟩

end Go.TQ
