/- s06.py -/
import Derived.Test.YtmfiplnojbjcbaaGreatC05
set_option linter.unusedVariables false
set_option linter.unusedSimpArgs false
set_option maxRecDepth 10000
namespace Go.TQ
open Go.Proofs


/-- where the first element stands of which p holds; -1 if there is none -/
def idxF {α : Type} (p : α → Bool) : List α → Int → Int
  | [], _ => -1
  | x :: l, k => if p x = true then k else idxF p l (k + 1)
theorem idxF_no {α : Type} [Inhabited α] {p : α → Bool} {l : List α} {k : Nat} (h : k < l.length) (hp : p l[k]! = false) : idxF p (l.drop (k + 1)) ((k + 1 : Nat) : Int) = idxF p (l.drop k) k := by
  rw [List.drop_eq_getElem_cons h, idxF, if_neg (by simpa [h] using hp)]
  rfl
theorem idxF_yes {α : Type} [Inhabited α] {p : α → Bool} {l : List α} {k : Nat} (h : k < l.length) (hp : p l[k]! = true) : idxF p (l.drop k) k = k := by
  rw [List.drop_eq_getElem_cons h, idxF, if_pos (by simpa [h] using hp)]
theorem idxF_any {α : Type} {p : α → Bool} : ∀ (l : List α) (k : Int), 0 ≤ k → decide (0 ≤ idxF p l k) = l.any p
  | [], k, _ => by simp [idxF]
  | x :: l, k, h => by
    rw [idxF, List.any_cons]
    split
    · rename_i hp; simp [hp, h]
    · rename_i hp
      simp at hp
      rw [hp, idxF_any l (k + 1) (by omega)]
      simp

theorem c_IndexFunc_int_0 (f : FuncId) (p : Int → Bool) (l : List Int)  (hf : ∀ x ∈ l, ACalls Tryz.prog f [VI x] [] fun dd bb => dd = VB (p x) ∧ bb = []) : ACalls Tryz.prog 129 [VR (l.map iRow), .one (.fn f [])] [] fun dd bb => dd = VI (idxF p l 0) ∧ bb = [] := by
  refine zai Tryz.func129 rfl Tryz.ntmps129 (by rw [Tryz.results129]) rfl rfl (fun w0 A0 X => ?_)
  refine zsr ?_
  refine zc rfl (zas (zi zdc) rfl ?_)
  refine zn0 ?_
  refine zw2 ?_
  refine zsr ?_
  refine zc rfl (zmv (zt rfl) rfl ?_)
  refine zc rfl (zln (e := 3) (n := 1) (zt rfl) rfl zk rfl (fun hl => ?_))
  refine zc rfl (zmv (zi zdc) rfl ?_)
  refine zn0 ?_
  refine zwb ?_
  refine awp_loop (ι := Nat) (fun k => St.of [(7, VI ((l.map iRow).length : Int)), (8, VI ((k : Nat) : Int)), (0, VR (l.map iRow)), (1, .one (.fn f []))] [] []) (fun k => k ≤ (l.map iRow).length ∧ (idxF p (l.drop k) k = idxF p l 0)) (fun k => (l.map iRow).length - k) 0 ?_ ?_ ?_
  · exact (le_of (sc rfl (sc rfl (sc rfl (sc rfl sz)))) xz kz)
  · exact ⟨Nat.zero_le _, rfl⟩
  intro k ⟨hk, hI⟩
  refine zsr ?_
  refine zc rfl (zcm (zt rfl) (zt rfl) rfl rfl ?_)
  refine zn0 ?_
  refine zw2 ?_
  refine zwc (zt rfl) (fun h1 => ?_) (fun h1 => ?_)
  · skip
    have hlt : k < (l.map iRow).length := by have := of_decide_eq_true h1; omega
    have hl2 : k < l.length := by simpa using hlt
    refine zws ?_
    refine ztn ?_
    refine zw2 ?_
    refine zwb ?_
    refine zsr ?_
    refine zc rfl (zmv (zt rfl) rfl ?_)
    refine zc rfl (zas (zt rfl) rfl ?_)
    refine zn0 ?_
    refine zsr ?_
    refine zc rfl (zmv (zt rfl) rfl ?_)
    refine zc rfl (zmv (zt rfl) rfl ?_)
    refine zc rfl (zmv (zt rfl) rfl ?_)
    refine zc rfl (op_indexAddr (e := 3) (n := 1) (zt rfl) rfl (zt rfl) zk (by omega) (show (l.map iRow)[k]? = some _ from map_getD hl2) rfl rfl ?_)
    refine zc rfl (op_load_imm1 (zt rfl) zk rfl rfl ?_)
    refine zc rfl (zcl (zt rfl) (hc (zt rfl) hz) (rs := []) (bxs := []) zdc bz (hf l[k]! (by simp [hl2])) rfl rfl rfl (fun d b hd hl => ?_))
    obtain ⟨rfl, rfl⟩ := hd
    refine zn0 ?_
    refine zwc (zt rfl) (fun h2 => ?_) (fun h2 => ?_)
    · skip
      refine zsr ?_
      refine zc rfl (zmv (zt rfl) rfl ?_)
      refine zc rfl (zas (zt rfl) rfl ?_)
      refine zn0 ?_
      refine zwr ?_
      refine blk_ret ?_
      refine ztr ?_
      refine ztr ?_
      refine blk_ret ?_
      refine ztr ?_
      refine zpr [] (res1 (zrt rfl)) rfl lz ?_
      have he : idxF p l 0 = k := by rw [← hI]; exact idxF_yes hl2 h2
      rw [he]
      exact ⟨rfl, rfl⟩
    · skip
      refine zws ?_
      refine zbn ?_
      refine ztn ?_
      refine zre ?_
      refine zc rfl (zar (zt rfl) (zi zdc) rfl (ink64 (by omega) (by omega)) rfl ?_)
      refine zc rfl (zmv (zt rfl) rfl ?_)
      refine zn0 ?_
      refine ztn ?_
      exact ⟨k + 1, ⟨by first | omega | (dsimp only; omega), (idxF_no hl2 h2).trans hI⟩, by first | omega | (dsimp only; omega), (le_of (sc rfl (sc rfl (sc rfl (sc rfl sz)))) xz kz)⟩
  · skip
    have hge : k = (l.map iRow).length := by have := of_decide_eq_false h1; omega
    refine zwe ?_
    refine zte ?_
    refine zte ?_
    refine zbk ?_
    refine ztn ?_
    refine zsr ?_
    refine zc rfl (zas (zi zdc) rfl ?_)
    refine zn0 ?_
    refine zwr ?_
    refine zpr [] (res1 (zrt rfl)) rfl lz ?_
    have hkl : k = l.length := by simpa using hge
    have he : idxF p l 0 = -1 := by rw [← hI, hkl, List.drop_length]; rfl
    rw [he]
    exact ⟨rfl, rfl⟩

theorem c_ContainsFunc_int_0 (f : FuncId) (p : Int → Bool) (l : List Int)  (hf : ∀ x ∈ l, ACalls Tryz.prog f [VI x] [] fun dd bb => dd = VB (p x) ∧ bb = []) : ACalls Tryz.prog 100 [VR (l.map iRow), .one (.fn f [])] [] fun dd bb => dd = VB (l.any p) ∧ bb = [] := by
  refine zai Tryz.func100 rfl Tryz.ntmps100 (by rw [Tryz.results100]) rfl rfl (fun w0 A0 X => ?_)
  refine zsr ?_
  refine zc rfl (zas zb0 rfl ?_)
  refine zn0 ?_
  refine zsr ?_
  refine zc rfl (zmv (zt rfl) rfl ?_)
  refine zc rfl (zmv (zt rfl) rfl ?_)
  refine zc rfl (zcl zhf (hc (zt rfl) (hc (zt rfl) hz)) (rs := []) (bxs := []) zdc bz (c_IndexFunc_int_0 f p l  hf) rfl rfl rfl (fun d b hd hl => ?_))
  obtain ⟨rfl, rfl⟩ := hd
  refine zc rfl (zcm (zt rfl) (zi zdc) rfl rfl ?_)
  refine zc rfl (zas (zt rfl) rfl ?_)
  refine zn0 ?_
  refine zwr ?_
  refine zpr [] (res1 (zrt rfl)) rfl lz ?_
  rw [← idxF_any l 0 (Int.le_refl 0)]
  exact ⟨rfl, rfl⟩

theorem c_IndexFunc_env_0 (f : FuncId) (p : Env → Bool) (l : List Env)  (hf : ∀ x ∈ l, ACalls Tryz.prog f [.aggd (x).d] [] fun dd bb => dd = VB (p x) ∧ bb = []) : ACalls Tryz.prog 53 [VR (l.map Env.d), .one (.fn f [])] [] fun dd bb => dd = VI (idxF p l 0) ∧ bb = [] := by
  refine zai Tryz.func53 rfl Tryz.ntmps53 (by rw [Tryz.results53]) rfl rfl (fun w0 A0 X => ?_)
  refine zsr ?_
  refine zc rfl (zas (zi zdc) rfl ?_)
  refine zn0 ?_
  refine zw2 ?_
  refine zsr ?_
  refine zc rfl (zmv (zt rfl) rfl ?_)
  refine zc rfl (zln (e := 38) (n := 15) (zt rfl) rfl zk rfl (fun hl => ?_))
  refine zc rfl (zmv (zi zdc) rfl ?_)
  refine zn0 ?_
  refine zwb ?_
  refine awp_loop (ι := Nat) (fun k => St.of [(7, VI ((l.map Env.d).length : Int)), (8, VI ((k : Nat) : Int)), (0, VR (l.map Env.d)), (1, .one (.fn f []))] [] []) (fun k => k ≤ (l.map Env.d).length ∧ (idxF p (l.drop k) k = idxF p l 0)) (fun k => (l.map Env.d).length - k) 0 ?_ ?_ ?_
  · exact (le_of (sc rfl (sc rfl (sc rfl (sc rfl sz)))) xz kz)
  · exact ⟨Nat.zero_le _, rfl⟩
  intro k ⟨hk, hI⟩
  refine zsr ?_
  refine zc rfl (zcm (zt rfl) (zt rfl) rfl rfl ?_)
  refine zn0 ?_
  refine zw2 ?_
  refine zwc (zt rfl) (fun h1 => ?_) (fun h1 => ?_)
  · skip
    have hlt : k < (l.map Env.d).length := by have := of_decide_eq_true h1; omega
    have hl2 : k < l.length := by simpa using hlt
    refine zws ?_
    refine ztn ?_
    refine zw2 ?_
    refine zwb ?_
    refine zsr ?_
    refine zc rfl (zmv (zt rfl) rfl ?_)
    refine zc rfl (zas (zt rfl) rfl ?_)
    refine zn0 ?_
    refine zsr ?_
    refine zc rfl (zmv (zt rfl) rfl ?_)
    refine zc rfl (zmv (zt rfl) rfl ?_)
    refine zc rfl (zmv (zt rfl) rfl ?_)
    refine zc rfl (op_indexAddr (e := 38) (n := 15) (zt rfl) rfl (zt rfl) zk (by omega) (show (l.map Env.d)[k]? = some _ from map_getD hl2) rfl rfl ?_)
    refine zc rfl (op_load_imm (n := 15) (zt rfl) zk rfl rfl rfl ?_)
    refine zc rfl (zcl (zt rfl) (hc (zt rfl) hz) (rs := []) (bxs := []) zdc bz (hf l[k]! (by simp [hl2])) rfl rfl rfl (fun d b hd hl => ?_))
    obtain ⟨rfl, rfl⟩ := hd
    refine zn0 ?_
    refine zwc (zt rfl) (fun h2 => ?_) (fun h2 => ?_)
    · skip
      refine zsr ?_
      refine zc rfl (zmv (zt rfl) rfl ?_)
      refine zc rfl (zas (zt rfl) rfl ?_)
      refine zn0 ?_
      refine zwr ?_
      refine blk_ret ?_
      refine ztr ?_
      refine ztr ?_
      refine blk_ret ?_
      refine ztr ?_
      refine zpr [] (res1 (zrt rfl)) rfl lz ?_
      have he : idxF p l 0 = k := by rw [← hI]; exact idxF_yes hl2 h2
      rw [he]
      exact ⟨rfl, rfl⟩
    · skip
      refine zws ?_
      refine zbn ?_
      refine ztn ?_
      refine zre ?_
      refine zc rfl (zar (zt rfl) (zi zdc) rfl (ink64 (by omega) (by omega)) rfl ?_)
      refine zc rfl (zmv (zt rfl) rfl ?_)
      refine zn0 ?_
      refine ztn ?_
      exact ⟨k + 1, ⟨by first | omega | (dsimp only; omega), (idxF_no hl2 h2).trans hI⟩, by first | omega | (dsimp only; omega), (le_of (sc rfl (sc rfl (sc rfl (sc rfl sz)))) xz kz)⟩
  · skip
    have hge : k = (l.map Env.d).length := by have := of_decide_eq_false h1; omega
    refine zwe ?_
    refine zte ?_
    refine zte ?_
    refine zbk ?_
    refine ztn ?_
    refine zsr ?_
    refine zc rfl (zas (zi zdc) rfl ?_)
    refine zn0 ?_
    refine zwr ?_
    refine zpr [] (res1 (zrt rfl)) rfl lz ?_
    have hkl : k = l.length := by simpa using hge
    have he : idxF p l 0 = -1 := by rw [← hI, hkl, List.drop_length]; rfl
    rw [he]
    exact ⟨rfl, rfl⟩

theorem c_ContainsFunc_env_0 (f : FuncId) (p : Env → Bool) (l : List Env)  (hf : ∀ x ∈ l, ACalls Tryz.prog f [.aggd (x).d] [] fun dd bb => dd = VB (p x) ∧ bb = []) : ACalls Tryz.prog 47 [VR (l.map Env.d), .one (.fn f [])] [] fun dd bb => dd = VB (l.any p) ∧ bb = [] := by
  refine zai Tryz.func47 rfl Tryz.ntmps47 (by rw [Tryz.results47]) rfl rfl (fun w0 A0 X => ?_)
  refine zsr ?_
  refine zc rfl (zas zb0 rfl ?_)
  refine zn0 ?_
  refine zsr ?_
  refine zc rfl (zmv (zt rfl) rfl ?_)
  refine zc rfl (zmv (zt rfl) rfl ?_)
  refine zc rfl (zcl zhf (hc (zt rfl) (hc (zt rfl) hz)) (rs := []) (bxs := []) zdc bz (c_IndexFunc_env_0 f p l  hf) rfl rfl rfl (fun d b hd hl => ?_))
  obtain ⟨rfl, rfl⟩ := hd
  refine zc rfl (zcm (zt rfl) (zi zdc) rfl rfl ?_)
  refine zc rfl (zas (zt rfl) rfl ?_)
  refine zn0 ?_
  refine zwr ?_
  refine zpr [] (res1 (zrt rfl)) rfl lz ?_
  rw [← idxF_any l 0 (Int.le_refl 0)]
  exact ⟨rfl, rfl⟩

theorem c_IndexFunc_env_e (f : FuncId) (p : Env → Bool) (l : List Env) (c0 : Env) (hf : ∀ x ∈ l, ACalls Tryz.prog f [.aggd (x).d, .one (.ref (.e 0) 0)] [c0.d.map C.dat] fun dd bb => dd = VB (p x) ∧ bb = [c0.d.map C.dat]) : ACalls Tryz.prog 53 [VR (l.map Env.d), .one (.fn f [.e 0])] [c0.d.map C.dat] fun dd bb => dd = VI (idxF p l 0) ∧ bb = [c0.d.map C.dat] := by
  refine zai Tryz.func53 rfl Tryz.ntmps53 (by rw [Tryz.results53]) rfl rfl (fun w0 A0 X => ?_)
  refine zsr ?_
  refine zc rfl (zas (zi zdc) rfl ?_)
  refine zn0 ?_
  refine zw2 ?_
  refine zsr ?_
  refine zc rfl (zmv (zt rfl) rfl ?_)
  refine zc rfl (zln (e := 38) (n := 15) (zt rfl) rfl zk rfl (fun hl => ?_))
  refine zc rfl (zmv (zi zdc) rfl ?_)
  refine zn0 ?_
  refine zwb ?_
  refine awp_loop (ι := Nat) (fun k => St.of [(7, VI ((l.map Env.d).length : Int)), (8, VI ((k : Nat) : Int)), (0, VR (l.map Env.d)), (1, .one (.fn f [.e 0]))] [(.e 0, c0.d.map C.dat)] []) (fun k => k ≤ (l.map Env.d).length ∧ (idxF p (l.drop k) k = idxF p l 0)) (fun k => (l.map Env.d).length - k) 0 ?_ ?_ ?_
  · exact (le_of (sc rfl (sc rfl (sc rfl (sc rfl sz)))) (xc rfl xz) kz)
  · exact ⟨Nat.zero_le _, rfl⟩
  intro k ⟨hk, hI⟩
  refine zsr ?_
  refine zc rfl (zcm (zt rfl) (zt rfl) rfl rfl ?_)
  refine zn0 ?_
  refine zw2 ?_
  refine zwc (zt rfl) (fun h1 => ?_) (fun h1 => ?_)
  · skip
    have hlt : k < (l.map Env.d).length := by have := of_decide_eq_true h1; omega
    have hl2 : k < l.length := by simpa using hlt
    refine zws ?_
    refine ztn ?_
    refine zw2 ?_
    refine zwb ?_
    refine zsr ?_
    refine zc rfl (zmv (zt rfl) rfl ?_)
    refine zc rfl (zas (zt rfl) rfl ?_)
    refine zn0 ?_
    refine zsr ?_
    refine zc rfl (zmv (zt rfl) rfl ?_)
    refine zc rfl (zmv (zt rfl) rfl ?_)
    refine zc rfl (zmv (zt rfl) rfl ?_)
    refine zc rfl (op_indexAddr (e := 38) (n := 15) (zt rfl) rfl (zt rfl) zk (by omega) (show (l.map Env.d)[k]? = some _ from map_getD hl2) rfl rfl ?_)
    refine zc rfl (op_load_imm (n := 15) (zt rfl) zk rfl rfl rfl ?_)
    refine zc rfl (zcl (zt rfl) (hc (zt rfl) hz) (rs := [.e 0]) (bxs := [_]) zdc (bc rfl bz) (hf l[k]! (by simp [hl2])) rfl rfl rfl (fun d b hd hl => ?_))
    obtain ⟨rfl, rfl⟩ := hd
    refine zn0 ?_
    refine zwc (zt rfl) (fun h2 => ?_) (fun h2 => ?_)
    · skip
      refine zsr ?_
      refine zc rfl (zmv (zt rfl) rfl ?_)
      refine zc rfl (zas (zt rfl) rfl ?_)
      refine zn0 ?_
      refine zwr ?_
      refine blk_ret ?_
      refine ztr ?_
      refine ztr ?_
      refine blk_ret ?_
      refine ztr ?_
      refine zpr [c0.d.map C.dat] (res1 (zrt rfl)) rfl (l1 rfl) ?_
      have he : idxF p l 0 = k := by rw [← hI]; exact idxF_yes hl2 h2
      rw [he]
      exact ⟨rfl, rfl⟩
    · skip
      refine zws ?_
      refine zbn ?_
      refine ztn ?_
      refine zre ?_
      refine zc rfl (zar (zt rfl) (zi zdc) rfl (ink64 (by omega) (by omega)) rfl ?_)
      refine zc rfl (zmv (zt rfl) rfl ?_)
      refine zn0 ?_
      refine ztn ?_
      exact ⟨k + 1, ⟨by first | omega | (dsimp only; omega), (idxF_no hl2 h2).trans hI⟩, by first | omega | (dsimp only; omega), (le_of (sc rfl (sc rfl (sc rfl (sc rfl sz)))) (xc rfl xz) kz)⟩
  · skip
    have hge : k = (l.map Env.d).length := by have := of_decide_eq_false h1; omega
    refine zwe ?_
    refine zte ?_
    refine zte ?_
    refine zbk ?_
    refine ztn ?_
    refine zsr ?_
    refine zc rfl (zas (zi zdc) rfl ?_)
    refine zn0 ?_
    refine zwr ?_
    refine zpr [c0.d.map C.dat] (res1 (zrt rfl)) rfl (l1 rfl) ?_
    have hkl : k = l.length := by simpa using hge
    have he : idxF p l 0 = -1 := by rw [← hI, hkl, List.drop_length]; rfl
    rw [he]
    exact ⟨rfl, rfl⟩

theorem c_ContainsFunc_env_e (f : FuncId) (p : Env → Bool) (l : List Env) (c0 : Env) (hf : ∀ x ∈ l, ACalls Tryz.prog f [.aggd (x).d, .one (.ref (.e 0) 0)] [c0.d.map C.dat] fun dd bb => dd = VB (p x) ∧ bb = [c0.d.map C.dat]) : ACalls Tryz.prog 47 [VR (l.map Env.d), .one (.fn f [.e 0])] [c0.d.map C.dat] fun dd bb => dd = VB (l.any p) ∧ bb = [c0.d.map C.dat] := by
  refine zai Tryz.func47 rfl Tryz.ntmps47 (by rw [Tryz.results47]) rfl rfl (fun w0 A0 X => ?_)
  refine zsr ?_
  refine zc rfl (zas zb0 rfl ?_)
  refine zn0 ?_
  refine zsr ?_
  refine zc rfl (zmv (zt rfl) rfl ?_)
  refine zc rfl (zmv (zt rfl) rfl ?_)
  refine zc rfl (zcl zhf (hc (zt rfl) (hc (zt rfl) hz)) (rs := [.e 0]) (bxs := [_]) zdc (bc rfl bz) (c_IndexFunc_env_e f p l c0 hf) rfl rfl rfl (fun d b hd hl => ?_))
  obtain ⟨rfl, rfl⟩ := hd
  refine zc rfl (zcm (zt rfl) (zi zdc) rfl rfl ?_)
  refine zc rfl (zas (zt rfl) rfl ?_)
  refine zn0 ?_
  refine zwr ?_
  refine zpr [c0.d.map C.dat] (res1 (zrt rfl)) rfl (l1 rfl) ?_
  rw [← idxF_any l 0 (Int.le_refl 0)]
  exact ⟨rfl, rfl⟩

theorem c_IndexFunc_env_l (f : FuncId) (p : Env → Bool) (l : List Env) (c0 : List Env) (hf : ∀ x ∈ l, ACalls Tryz.prog f [.aggd (x).d, .one (.ref (.e 0) 0)] [[.dat (.sl (c0.map Env.d))]] fun dd bb => dd = VB (p x) ∧ bb = [[.dat (.sl (c0.map Env.d))]]) : ACalls Tryz.prog 53 [VR (l.map Env.d), .one (.fn f [.e 0])] [[.dat (.sl (c0.map Env.d))]] fun dd bb => dd = VI (idxF p l 0) ∧ bb = [[.dat (.sl (c0.map Env.d))]] := by
  refine zai Tryz.func53 rfl Tryz.ntmps53 (by rw [Tryz.results53]) rfl rfl (fun w0 A0 X => ?_)
  refine zsr ?_
  refine zc rfl (zas (zi zdc) rfl ?_)
  refine zn0 ?_
  refine zw2 ?_
  refine zsr ?_
  refine zc rfl (zmv (zt rfl) rfl ?_)
  refine zc rfl (zln (e := 38) (n := 15) (zt rfl) rfl zk rfl (fun hl => ?_))
  refine zc rfl (zmv (zi zdc) rfl ?_)
  refine zn0 ?_
  refine zwb ?_
  refine awp_loop (ι := Nat) (fun k => St.of [(7, VI ((l.map Env.d).length : Int)), (8, VI ((k : Nat) : Int)), (0, VR (l.map Env.d)), (1, .one (.fn f [.e 0]))] [(.e 0, [.dat (.sl (c0.map Env.d))])] []) (fun k => k ≤ (l.map Env.d).length ∧ (idxF p (l.drop k) k = idxF p l 0)) (fun k => (l.map Env.d).length - k) 0 ?_ ?_ ?_
  · exact (le_of (sc rfl (sc rfl (sc rfl (sc rfl sz)))) (xc rfl xz) kz)
  · exact ⟨Nat.zero_le _, rfl⟩
  intro k ⟨hk, hI⟩
  refine zsr ?_
  refine zc rfl (zcm (zt rfl) (zt rfl) rfl rfl ?_)
  refine zn0 ?_
  refine zw2 ?_
  refine zwc (zt rfl) (fun h1 => ?_) (fun h1 => ?_)
  · skip
    have hlt : k < (l.map Env.d).length := by have := of_decide_eq_true h1; omega
    have hl2 : k < l.length := by simpa using hlt
    refine zws ?_
    refine ztn ?_
    refine zw2 ?_
    refine zwb ?_
    refine zsr ?_
    refine zc rfl (zmv (zt rfl) rfl ?_)
    refine zc rfl (zas (zt rfl) rfl ?_)
    refine zn0 ?_
    refine zsr ?_
    refine zc rfl (zmv (zt rfl) rfl ?_)
    refine zc rfl (zmv (zt rfl) rfl ?_)
    refine zc rfl (zmv (zt rfl) rfl ?_)
    refine zc rfl (op_indexAddr (e := 38) (n := 15) (zt rfl) rfl (zt rfl) zk (by omega) (show (l.map Env.d)[k]? = some _ from map_getD hl2) rfl rfl ?_)
    refine zc rfl (op_load_imm (n := 15) (zt rfl) zk rfl rfl rfl ?_)
    refine zc rfl (zcl (zt rfl) (hc (zt rfl) hz) (rs := [.e 0]) (bxs := [_]) zdc (bc rfl bz) (hf l[k]! (by simp [hl2])) rfl rfl rfl (fun d b hd hl => ?_))
    obtain ⟨rfl, rfl⟩ := hd
    refine zn0 ?_
    refine zwc (zt rfl) (fun h2 => ?_) (fun h2 => ?_)
    · skip
      refine zsr ?_
      refine zc rfl (zmv (zt rfl) rfl ?_)
      refine zc rfl (zas (zt rfl) rfl ?_)
      refine zn0 ?_
      refine zwr ?_
      refine blk_ret ?_
      refine ztr ?_
      refine ztr ?_
      refine blk_ret ?_
      refine ztr ?_
      refine zpr [[.dat (.sl (c0.map Env.d))]] (res1 (zrt rfl)) rfl (l1 rfl) ?_
      have he : idxF p l 0 = k := by rw [← hI]; exact idxF_yes hl2 h2
      rw [he]
      exact ⟨rfl, rfl⟩
    · skip
      refine zws ?_
      refine zbn ?_
      refine ztn ?_
      refine zre ?_
      refine zc rfl (zar (zt rfl) (zi zdc) rfl (ink64 (by omega) (by omega)) rfl ?_)
      refine zc rfl (zmv (zt rfl) rfl ?_)
      refine zn0 ?_
      refine ztn ?_
      exact ⟨k + 1, ⟨by first | omega | (dsimp only; omega), (idxF_no hl2 h2).trans hI⟩, by first | omega | (dsimp only; omega), (le_of (sc rfl (sc rfl (sc rfl (sc rfl sz)))) (xc rfl xz) kz)⟩
  · skip
    have hge : k = (l.map Env.d).length := by have := of_decide_eq_false h1; omega
    refine zwe ?_
    refine zte ?_
    refine zte ?_
    refine zbk ?_
    refine ztn ?_
    refine zsr ?_
    refine zc rfl (zas (zi zdc) rfl ?_)
    refine zn0 ?_
    refine zwr ?_
    refine zpr [[.dat (.sl (c0.map Env.d))]] (res1 (zrt rfl)) rfl (l1 rfl) ?_
    have hkl : k = l.length := by simpa using hge
    have he : idxF p l 0 = -1 := by rw [← hI, hkl, List.drop_length]; rfl
    rw [he]
    exact ⟨rfl, rfl⟩

theorem c_ContainsFunc_env_l (f : FuncId) (p : Env → Bool) (l : List Env) (c0 : List Env) (hf : ∀ x ∈ l, ACalls Tryz.prog f [.aggd (x).d, .one (.ref (.e 0) 0)] [[.dat (.sl (c0.map Env.d))]] fun dd bb => dd = VB (p x) ∧ bb = [[.dat (.sl (c0.map Env.d))]]) : ACalls Tryz.prog 47 [VR (l.map Env.d), .one (.fn f [.e 0])] [[.dat (.sl (c0.map Env.d))]] fun dd bb => dd = VB (l.any p) ∧ bb = [[.dat (.sl (c0.map Env.d))]] := by
  refine zai Tryz.func47 rfl Tryz.ntmps47 (by rw [Tryz.results47]) rfl rfl (fun w0 A0 X => ?_)
  refine zsr ?_
  refine zc rfl (zas zb0 rfl ?_)
  refine zn0 ?_
  refine zsr ?_
  refine zc rfl (zmv (zt rfl) rfl ?_)
  refine zc rfl (zmv (zt rfl) rfl ?_)
  refine zc rfl (zcl zhf (hc (zt rfl) (hc (zt rfl) hz)) (rs := [.e 0]) (bxs := [_]) zdc (bc rfl bz) (c_IndexFunc_env_l f p l c0 hf) rfl rfl rfl (fun d b hd hl => ?_))
  obtain ⟨rfl, rfl⟩ := hd
  refine zc rfl (zcm (zt rfl) (zi zdc) rfl rfl ?_)
  refine zc rfl (zas (zt rfl) rfl ?_)
  refine zn0 ?_
  refine zwr ?_
  refine zpr [[.dat (.sl (c0.map Env.d))]] (res1 (zrt rfl)) rfl (l1 rfl) ?_
  rw [← idxF_any l 0 (Int.le_refl 0)]
  exact ⟨rfl, rfl⟩

theorem c_threshold_level_1 (k : Int) : ACalls Tryz.prog 132 [VI k] [] fun dd bb => dd = VB (badN k) ∧ bb = [] := by
  refine zai Tryz.func132 rfl Tryz.ntmps132 (by rw [Tryz.results132]) rfl rfl (fun w0 A0 X => ?_)
  refine zsr ?_
  refine zc rfl (zas zb0 rfl ?_)
  refine zn0 ?_
  refine zsr ?_
  refine zc rfl (zmv (zt rfl) rfl ?_)
  refine zc rfl (zcl zhf (hc (zt rfl) hz) (rs := []) (bxs := []) zdc bz (c_threshold_node k) rfl rfl rfl (fun d b hd hl => ?_))
  obtain ⟨rfl, rfl⟩ := hd
  refine zc rfl (op_not (zt rfl) rfl ?_)
  refine zc rfl (zas (zt rfl) rfl ?_)
  refine zn0 ?_
  refine zwr ?_
  refine zpr [] (res1 (zrt rfl)) rfl lz ?_
  have he : badN k = !(decide (0 ≤ k) && decide (k < 10)) := by unfold badN; rw [Bool.not_and, ← decide_not, ← decide_not]; congr 1 <;> (rw [decide_eq_decide]; omega)
  rw [he]
  exact ⟨rfl, rfl⟩

theorem c_threshold_level_aux (N : Nat) : ∀ (t : Trust) (hok : t.ok), SizeOf.sizeOf t ≤ N → ACalls Tryz.prog 109 [.aggd t.d] [] fun dd bb => dd = VI (t.check) ∧ bb = [] := by
  induction N with
  | zero => intro t hok hN; exact absurd hN (szPos t)
  | succ N ih =>
  intro t hok hN
  have hlen : ((iRows t.nodes).length : Int) + ((t.inner.map Trust.enc).length : Int) ≤ 1000000000 := by simpa using Trust.ok_len hok
  refine zai Tryz.func109 rfl Tryz.ntmps109 (by rw [Tryz.results109]) rfl rfl (fun w0 A0 X => ?_)
  refine zsr ?_
  refine zc rfl (zbx (zt rfl) rfl rfl ?_)
  refine zc rfl (zas (zi zdc) rfl ?_)
  refine zn0 ?_
  refine zw2 ?_
  refine zsr ?_
  refine zc rfl (zfa (o := 0) (zt rfl) zk rfl ?_)
  refine zc rfl (zl1 (zt rfl) zk rfl rfl rfl ?_)
  refine zc rfl (zcm (zt rfl) (zi zdc) rfl rfl ?_)
  refine zc rfl (zmv (zt rfl) rfl ?_)
  refine zg rfl rfl rfl rfl (zgb rfl) (fun hg => zfa (o := 0) (zt rfl) zk rfl rfl) ?_
  refine zg rfl rfl rfl rfl (zgb rfl) (fun hg => zl1 (zcd (zt rfl) hg) zk rfl rfl rfl rfl) ?_
  refine zg rfl rfl rfl rfl (zgb rfl) (fun hg => zfa (o := 1) (zt rfl) zk rfl rfl) ?_
  refine zg rfl rfl rfl rfl (zgb rfl) (fun hg => zl1 (zcd (zt rfl) hg) zk rfl rfl rfl rfl) ?_
  refine zg rfl rfl rfl rfl (zgb rfl) (fun hg => zln (e := 3) (n := 1) (zcd (zt rfl) hg) rfl zk rfl (fun hl => rfl)) ?_
  refine zg rfl rfl rfl rfl (zgb rfl) (fun hg => zfa (o := 2) (zt rfl) zk rfl rfl) ?_
  refine zg rfl rfl rfl rfl (zgb rfl) (fun hg => zl1 (zcd (zt rfl) hg) zk rfl rfl rfl rfl) ?_
  refine zg rfl rfl rfl rfl (zgb rfl) (fun hg => zln (e := 34) (n := 3) (zcd (zt rfl) hg) rfl zk rfl (fun hl => rfl)) ?_
  refine zg rfl rfl rfl rfl (zgb rfl) (fun hg => zar (zcd (zt rfl) hg) (zcd (zt rfl) hg) rfl (ink64 (by simp only [zbz, cond_true, cond_false] at hg; omega) (by simp only [zbz, cond_true, cond_false] at hg; omega)) rfl rfl) ?_
  refine zg rfl rfl rfl rfl (zgb rfl) (fun hg => zcm (zcd (zt rfl) hg) (zcd (zt rfl) hg) rfl rfl rfl) ?_
  refine zc rfl (zor (zt rfl) (.inl zb0) (zt rfl) rfl ?_)
  refine zn0 ?_
  refine zwc (zt rfl) (fun h1 => ?_) (fun h1 => ?_)
  · skip
    refine zsr ?_
    refine zc rfl (zas (zi zdc) rfl ?_)
    refine zn0 ?_
    refine zwr ?_
    refine ztr ?_
    refine zpr [] (res1 (zrt rfl)) rfl lz ?_
    have h1b : (decide (t.thr < 1) || decide ((t.nodes.length : Int) + (t.inner.length : Int) < t.thr)) = true := by have := h1; simpa using this
    have he : t.check = 4 := by rw [Trust.check_def, if_pos h1b]
    rw [he]
    exact ⟨rfl, rfl⟩
  · skip
    have h1b : ¬ (decide (t.thr < 1) || decide ((t.nodes.length : Int) + (t.inner.length : Int) < t.thr)) = true := by have := h1; simpa using this
    refine zws ?_
    refine ztn ?_
    refine zw2 ?_
    refine zsr ?_
    refine zc rfl (zfa (o := 1) (zt rfl) zk rfl ?_)
    refine zc rfl (zl1 (zt rfl) zk rfl rfl rfl ?_)
    refine zc rfl (zcl zhf (hc (zt rfl) (hc zhf hz)) (rs := []) (bxs := []) zdc bz (c_ContainsFunc_int_0 _ badN t.nodes (fun x _ => c_threshold_level_1 x)) rfl rfl rfl (fun d b hd hl => ?_))
    obtain ⟨rfl, rfl⟩ := hd
    refine zn0 ?_
    refine zwc (zt rfl) (fun h2 => ?_) (fun h2 => ?_)
    · skip
      refine zsr ?_
      refine zc rfl (zas (zi zdc) rfl ?_)
      refine zn0 ?_
      refine zwr ?_
      refine ztr ?_
      refine zpr [] (res1 (zrt rfl)) rfl lz ?_
      have he : t.check = 5 := by rw [Trust.check_def, if_neg h1b, if_pos h2]
      rw [he]
      exact ⟨rfl, rfl⟩
    · skip
      refine zws ?_
      refine ztn ?_
      refine zw2 ?_
      refine zsr ?_
      refine zc rfl (zfa (o := 1) (zt rfl) zk rfl ?_)
      refine zc rfl (zl1 (zt rfl) zk rfl rfl rfl ?_)
      refine zc rfl (zcl zhf (hc (zt rfl) hz) (rs := []) (bxs := []) zdc bz (c_nodeset_Of t.nodes) rfl rfl rfl (fun d b hd hl => ?_))
      obtain ⟨rfl, rfl⟩ := hd
      refine zc rfl (zmv (zt rfl) rfl ?_)
      refine zc rfl (op_extract (zt rfl) rfl rfl ?_)
      refine zc rfl (op_extract (zt rfl) rfl rfl ?_)
      refine zc rfl (zas (zt rfl) rfl ?_)
      refine zc rfl (zas (zt rfl) rfl ?_)
      refine zn0 ?_
      refine zsr ?_
      refine zc rfl (zmv (zt rfl) rfl ?_)
      refine zc rfl (zcm (zt rfl) (zi zdc) rfl rfl ?_)
      refine zn0 ?_
      refine zwc (zt rfl) (fun h3 => ?_) (fun h3 => ?_)
      · skip
        refine zsr ?_
        refine zc rfl (zmv (zt rfl) rfl ?_)
        refine zc rfl (zas (zt rfl) rfl ?_)
        refine zn0 ?_
        refine zwr ?_
        refine ztr ?_
        refine zpr [] (res1 (zrt rfl)) rfl lz ?_
        have he : t.check = (ofN t.nodes 0).2 := by rw [Trust.check_def, if_neg h1b, if_neg (by simp [h2]), if_pos (by simpa using h3)]
        rw [he]
        exact ⟨rfl, rfl⟩
      · skip
        refine zws ?_
        refine ztn ?_
        refine zw2 ?_
        refine zsr ?_
        refine zc rfl (zfa (o := 2) (zt rfl) zk rfl ?_)
        refine zc rfl (zl1 (zt rfl) zk rfl rfl rfl ?_)
        refine zc rfl (zln (e := 34) (n := 3) (zt rfl) rfl zk rfl (fun hl => ?_))
        refine zc rfl (zmv (zi zdc) rfl ?_)
        refine zn0 ?_
        refine zwb ?_
        refine awp_loop (ι := Nat) (fun k => St.of [(36, VR (t.inner.map Trust.enc)), (37, VI ((t.inner.map Trust.enc).length : Int)), (38, VI ((k : Nat) : Int))] [] []) (fun k => k ≤ (t.inner.map Trust.enc).length ∧ (checks (t.inner.drop k) = checks t.inner)) (fun k => (t.inner.map Trust.enc).length - k) 0 ?_ ?_ ?_
        · exact (le_of (sc rfl (sc rfl (sc rfl sz))) xz kz)
        · exact ⟨Nat.zero_le _, rfl⟩
        intro k ⟨hk, hI⟩
        refine zsr ?_
        refine zc rfl (zcm (zt rfl) (zt rfl) rfl rfl ?_)
        refine zn0 ?_
        refine zw2 ?_
        refine zwc (zt rfl) (fun h4 => ?_) (fun h4 => ?_)
        · skip
          have hlt : k < (t.inner.map Trust.enc).length := by have := of_decide_eq_true h4; omega
          have hl2 : k < t.inner.length := by simpa using hlt
          refine zws ?_
          refine ztn ?_
          refine zw2 ?_
          refine zwb ?_
          refine zsr ?_
          refine zc rfl (op_indexAddr (e := 34) (n := 3) (zt rfl) rfl (zt rfl) zk (by omega) (show (t.inner.map Trust.enc)[k]? = some _ from tget hl2) rfl rfl ?_)
          refine zc rfl (op_load_imm (n := 3) (zt rfl) zk rfl rfl rfl ?_)
          refine zc rfl (zal (cs := [.dat (.int .i64 0), .nilsl, .nilsl]) zk rfl ?_)
          refine zc rfl (zst (n := 3) (zt rfl) (zt rfl) rfl (.inl zk) rfl rfl (zbl rfl) ?_)
          refine zn0 ?_
          refine zsr ?_
          refine zc rfl (zld (n := 3) (zt rfl) zk rfl rfl rfl rfl ?_)
          refine zc rfl (zcl zhf (hc (zt rfl) hz) (rs := []) (bxs := []) zdc bz (ih _ (Trust.ok_inner hok hl2) (by have := sz_inner hl2; omega)) rfl rfl rfl (fun d b hd hl => ?_))
          obtain ⟨rfl, rfl⟩ := hd
          refine zc rfl (zas (zt rfl) rfl ?_)
          refine zn0 ?_
          refine zsr ?_
          refine zc rfl (zmv (zt rfl) rfl ?_)
          refine zc rfl (zcm (zt rfl) (zi zdc) rfl rfl ?_)
          refine zn0 ?_
          refine zwc (zt rfl) (fun h5 => ?_) (fun h5 => ?_)
          · skip
            refine zsr ?_
            refine zc rfl (zmv (zt rfl) rfl ?_)
            refine zc rfl (zas (zt rfl) rfl ?_)
            refine zn0 ?_
            refine zwr ?_
            refine blk_ret ?_
            refine ztr ?_
            refine ztr ?_
            refine blk_ret ?_
            refine ztr ?_
            refine zpr [] (res1 (zrt rfl)) rfl lz ?_
            have he : t.check = t.inner[k]!.check := by rw [Trust.check_def, if_neg h1b, if_neg (by simp [h2]), if_neg (by simpa using h3), ← hI, checks_here hl2 (by simpa using h5)]
            rw [he]
            exact ⟨rfl, rfl⟩
          · skip
            refine zws ?_
            refine zbn ?_
            refine ztn ?_
            refine zre ?_
            refine zc rfl (zar (zt rfl) (zi zdc) rfl (ink64 (by omega) (by omega)) rfl ?_)
            refine zc rfl (zmv (zt rfl) rfl ?_)
            refine zn0 ?_
            refine ztn ?_
            exact ⟨k + 1, ⟨by first | omega | (dsimp only; omega), (checks_no hl2 (by simpa using h5)).trans hI⟩, by first | omega | (dsimp only; omega), (le_of (sc rfl (sc rfl (sc rfl sz))) xz kz)⟩
        · skip
          have hge : k = (t.inner.map Trust.enc).length := by have := of_decide_eq_false h4; omega
          refine zwe ?_
          refine zte ?_
          refine zte ?_
          refine zbk ?_
          refine ztn ?_
          refine zsr ?_
          refine zc rfl (zas (zi zdc) rfl ?_)
          refine zn0 ?_
          refine zwr ?_
          refine zpr [] (res1 (zrt rfl)) rfl lz ?_
          have hkl : k = t.inner.length := by simpa using hge
          have he : t.check = 0 := by rw [Trust.check_def, if_neg h1b, if_neg (by simp [h2]), if_neg (by simpa using h3), ← hI, hkl, List.drop_length, checks]
          rw [he]
          exact ⟨rfl, rfl⟩
theorem c_threshold_level (t : Trust) (hok : t.ok) : ACalls Tryz.prog 109 [.aggd t.d] [] fun dd bb => dd = VI (t.check) ∧ bb = [] := c_threshold_level_aux _ t hok (Nat.le_refl _)

theorem c_trustquorumref02_check_aux (N : Nat) : ∀ (t : Trust) (hok : t.ok), SizeOf.sizeOf t ≤ N → ACalls Tryz.prog 76 [.aggd t.d] [] fun dd bb => dd = VI (t.check) ∧ bb = [] := by
  induction N with
  | zero => intro t hok hN; exact absurd hN (szPos t)
  | succ N ih =>
  intro t hok hN
  have hlen : ((iRows t.nodes).length : Int) + ((t.inner.map Trust.enc).length : Int) ≤ 1000000000 := by simpa using Trust.ok_len hok
  refine zai Tryz.func76 rfl Tryz.ntmps76 (by rw [Tryz.results76]) rfl rfl (fun w0 A0 X => ?_)
  refine zsr ?_
  refine zc rfl (zbx (zt rfl) rfl rfl ?_)
  refine zc rfl (zas (zi zdc) rfl ?_)
  refine zn0 ?_
  refine zw2 ?_
  refine zsr ?_
  refine zc rfl (zfa (o := 0) (zt rfl) zk rfl ?_)
  refine zc rfl (zl1 (zt rfl) zk rfl rfl rfl ?_)
  refine zc rfl (zcm (zt rfl) (zi zdc) rfl rfl ?_)
  refine zc rfl (zmv (zt rfl) rfl ?_)
  refine zg rfl rfl rfl rfl (zgb rfl) (fun hg => zfa (o := 0) (zt rfl) zk rfl rfl) ?_
  refine zg rfl rfl rfl rfl (zgb rfl) (fun hg => zl1 (zcd (zt rfl) hg) zk rfl rfl rfl rfl) ?_
  refine zg rfl rfl rfl rfl (zgb rfl) (fun hg => zfa (o := 1) (zt rfl) zk rfl rfl) ?_
  refine zg rfl rfl rfl rfl (zgb rfl) (fun hg => zl1 (zcd (zt rfl) hg) zk rfl rfl rfl rfl) ?_
  refine zg rfl rfl rfl rfl (zgb rfl) (fun hg => zln (e := 3) (n := 1) (zcd (zt rfl) hg) rfl zk rfl (fun hl => rfl)) ?_
  refine zg rfl rfl rfl rfl (zgb rfl) (fun hg => zfa (o := 2) (zt rfl) zk rfl rfl) ?_
  refine zg rfl rfl rfl rfl (zgb rfl) (fun hg => zl1 (zcd (zt rfl) hg) zk rfl rfl rfl rfl) ?_
  refine zg rfl rfl rfl rfl (zgb rfl) (fun hg => zln (e := 34) (n := 3) (zcd (zt rfl) hg) rfl zk rfl (fun hl => rfl)) ?_
  refine zg rfl rfl rfl rfl (zgb rfl) (fun hg => zar (zcd (zt rfl) hg) (zcd (zt rfl) hg) rfl (ink64 (by simp only [zbz, cond_true, cond_false] at hg; omega) (by simp only [zbz, cond_true, cond_false] at hg; omega)) rfl rfl) ?_
  refine zg rfl rfl rfl rfl (zgb rfl) (fun hg => zcm (zcd (zt rfl) hg) (zcd (zt rfl) hg) rfl rfl rfl) ?_
  refine zc rfl (zor (zt rfl) (.inl zb0) (zt rfl) rfl ?_)
  refine zn0 ?_
  refine zwc (zt rfl) (fun h1 => ?_) (fun h1 => ?_)
  · skip
    refine zsr ?_
    refine zc rfl (zas (zi zdc) rfl ?_)
    refine zn0 ?_
    refine zwr ?_
    refine ztr ?_
    refine zpr [] (res1 (zrt rfl)) rfl lz ?_
    have h1b : (decide (t.thr < 1) || decide ((t.nodes.length : Int) + (t.inner.length : Int) < t.thr)) = true := by have := h1; simpa using this
    have he : t.check = 4 := by rw [Trust.check_def, if_pos h1b]
    rw [he]
    exact ⟨rfl, rfl⟩
  · skip
    have h1b : ¬ (decide (t.thr < 1) || decide ((t.nodes.length : Int) + (t.inner.length : Int) < t.thr)) = true := by have := h1; simpa using this
    refine zws ?_
    refine ztn ?_
    refine zw2 ?_
    refine zsr ?_
    refine zc rfl (zfa (o := 1) (zt rfl) zk rfl ?_)
    refine zc rfl (zl1 (zt rfl) zk rfl rfl rfl ?_)
    refine zc rfl (zln (e := 3) (n := 1) (zt rfl) rfl zk rfl (fun hl => ?_))
    refine zc rfl (zmv (zi zdc) rfl ?_)
    refine zn0 ?_
    refine zwb ?_
    refine awp_loop (ι := Nat) (fun k => St.of [(26, VR (iRows t.nodes)), (27, VI ((iRows t.nodes).length : Int)), (28, VI ((k : Nat) : Int)), (1, .one (.ref (.o 1) 0))] [(.o 1, t.d.map C.dat)] []) (fun k => k ≤ (iRows t.nodes).length ∧ ((t.nodes.drop k).any badN = t.nodes.any badN)) (fun k => (iRows t.nodes).length - k) 0 ?_ ?_ ?_
    · exact (le_of (sc rfl (sc rfl (sc rfl (sc rfl sz)))) (xc rfl xz) kz)
    · exact ⟨Nat.zero_le _, rfl⟩
    intro k ⟨hk, hI⟩
    refine zsr ?_
    refine zc rfl (zcm (zt rfl) (zt rfl) rfl rfl ?_)
    refine zn0 ?_
    refine zw2 ?_
    refine zwc (zt rfl) (fun h2 => ?_) (fun h2 => ?_)
    · skip
      have hlt : k < (iRows t.nodes).length := by have := of_decide_eq_true h2; omega
      have hl1 : k < t.nodes.length := by simpa using hlt
      refine zws ?_
      refine ztn ?_
      refine zw2 ?_
      refine zwb ?_
      refine zsr ?_
      refine zc rfl (op_indexAddr (e := 3) (n := 1) (zt rfl) rfl (zt rfl) zk (by omega) (show (iRows t.nodes)[k]? = some _ from map_getD hl1) rfl rfl ?_)
      refine zc rfl (op_load_imm1 (zt rfl) zk rfl rfl ?_)
      refine zc rfl (zas (zt rfl) rfl ?_)
      refine zn0 ?_
      refine zsr ?_
      refine zc rfl (zmv (zt rfl) rfl ?_)
      refine zc rfl (zcm (zt rfl) (zi zdc) rfl rfl ?_)
      refine zc rfl (zmv (zt rfl) rfl ?_)
      refine zg rfl rfl rfl rfl (zgb rfl) (fun hg => zmv (zt rfl) rfl rfl) ?_
      refine zg rfl rfl rfl rfl (zgb rfl) (fun hg => zcm (zcd (zt rfl) hg) (zi zdc) rfl rfl rfl) ?_
      refine zc rfl (zor (zt rfl) (.inl zb0) (zt rfl) rfl ?_)
      refine zn0 ?_
      refine zwc (zt rfl) (fun h3 => ?_) (fun h3 => ?_)
      · skip
        refine zsr ?_
        refine zc rfl (zas (zi zdc) rfl ?_)
        refine zn0 ?_
        refine zwr ?_
        refine blk_ret ?_
        refine ztr ?_
        refine ztr ?_
        refine blk_ret ?_
        refine ztr ?_
        refine zpr [] (res1 (zrt rfl)) rfl lz ?_
        have he : t.check = 5 := by rw [Trust.check_def, if_neg h1b, if_pos (by rw [← hI]; exact any_here hl1 h3)]
        rw [he]
        exact ⟨rfl, rfl⟩
      · skip
        refine zws ?_
        refine zbn ?_
        refine ztn ?_
        refine zre ?_
        refine zc rfl (zar (zt rfl) (zi zdc) rfl (ink64 (by omega) (by omega)) rfl ?_)
        refine zc rfl (zmv (zt rfl) rfl ?_)
        refine zn0 ?_
        refine ztn ?_
        exact ⟨k + 1, ⟨by first | omega | (dsimp only; omega), (any_drop_no hl1 h3).trans hI⟩, by first | omega | (dsimp only; omega), (le_of (sc rfl (sc rfl (sc rfl (sc rfl sz)))) (xc rfl xz) kz)⟩
    · skip
      have hge : k = (iRows t.nodes).length := by have := of_decide_eq_false h2; omega
      have hkl : k = t.nodes.length := by simpa using hge
      have h2b : t.nodes.any badN = false := by rw [← hI, hkl, List.drop_length]; rfl
      refine zwe ?_
      refine zte ?_
      refine zte ?_
      refine zbk ?_
      refine ztn ?_
      refine zw2 ?_
      refine zsr ?_
      refine zc rfl (zfa (o := 1) (zt rfl) zk rfl ?_)
      refine zc rfl (zl1 (zt rfl) zk rfl rfl rfl ?_)
      refine zc rfl (zcl zhf (hc (zt rfl) hz) (rs := []) (bxs := []) zdc bz (c_trustquorumref01_Of t.nodes) rfl rfl rfl (fun d b hd hl => ?_))
      obtain ⟨rfl, rfl⟩ := hd
      refine zc rfl (zmv (zt rfl) rfl ?_)
      refine zc rfl (op_extract (zt rfl) rfl rfl ?_)
      refine zc rfl (op_extract (zt rfl) rfl rfl ?_)
      refine zc rfl (zas (zt rfl) rfl ?_)
      refine zc rfl (zas (zt rfl) rfl ?_)
      refine zn0 ?_
      refine zsr ?_
      refine zc rfl (zmv (zt rfl) rfl ?_)
      refine zc rfl (zcm (zt rfl) (zi zdc) rfl rfl ?_)
      refine zn0 ?_
      refine zwc (zt rfl) (fun h4 => ?_) (fun h4 => ?_)
      · skip
        refine zsr ?_
        refine zc rfl (zmv (zt rfl) rfl ?_)
        refine zc rfl (zas (zt rfl) rfl ?_)
        refine zn0 ?_
        refine zwr ?_
        refine ztr ?_
        refine zpr [] (res1 (zrt rfl)) rfl lz ?_
        have he : t.check = (ofN t.nodes 0).2 := by rw [Trust.check_def, if_neg h1b, if_neg (by simp [h2b]), if_pos (by simpa using h4)]
        rw [he]
        exact ⟨rfl, rfl⟩
      · skip
        refine zws ?_
        refine ztn ?_
        refine zw2 ?_
        refine zsr ?_
        refine zc rfl (zfa (o := 2) (zt rfl) zk rfl ?_)
        refine zc rfl (zl1 (zt rfl) zk rfl rfl rfl ?_)
        refine zc rfl (zln (e := 34) (n := 3) (zt rfl) rfl zk rfl (fun hl => ?_))
        refine zc rfl (zmv (zi zdc) rfl ?_)
        refine zn0 ?_
        refine zwb ?_
        refine awp_loop (ι := Nat) (fun y => St.of [(49, VR (t.inner.map Trust.enc)), (50, VI ((t.inner.map Trust.enc).length : Int)), (51, VI ((y : Nat) : Int))] [] []) (fun y => y ≤ (t.inner.map Trust.enc).length ∧ (checks (t.inner.drop y) = checks t.inner)) (fun y => (t.inner.map Trust.enc).length - y) 0 ?_ ?_ ?_
        · exact (le_of (sc rfl (sc rfl (sc rfl sz))) xz kz)
        · exact ⟨Nat.zero_le _, rfl⟩
        intro y ⟨hk, hJ⟩
        refine zsr ?_
        refine zc rfl (zcm (zt rfl) (zt rfl) rfl rfl ?_)
        refine zn0 ?_
        refine zw2 ?_
        refine zwc (zt rfl) (fun h5 => ?_) (fun h5 => ?_)
        · skip
          have hlt : y < (t.inner.map Trust.enc).length := by have := of_decide_eq_true h5; omega
          have hl2 : y < t.inner.length := by simpa using hlt
          refine zws ?_
          refine ztn ?_
          refine zw2 ?_
          refine zwb ?_
          refine zsr ?_
          refine zc rfl (op_indexAddr (e := 34) (n := 3) (zt rfl) rfl (zt rfl) zk (by omega) (show (t.inner.map Trust.enc)[y]? = some _ from tget hl2) rfl rfl ?_)
          refine zc rfl (op_load_imm (n := 3) (zt rfl) zk rfl rfl rfl ?_)
          refine zc rfl (zal (cs := [.dat (.int .i64 0), .nilsl, .nilsl]) zk rfl ?_)
          refine zc rfl (zst (n := 3) (zt rfl) (zt rfl) rfl (.inl zk) rfl rfl (zbl rfl) ?_)
          refine zn0 ?_
          refine zsr ?_
          refine zc rfl (zld (n := 3) (zt rfl) zk rfl rfl rfl rfl ?_)
          refine zc rfl (zcl zhf (hc (zt rfl) hz) (rs := []) (bxs := []) zdc bz (ih _ (Trust.ok_inner hok hl2) (by have := sz_inner hl2; omega)) rfl rfl rfl (fun d b hd hl => ?_))
          obtain ⟨rfl, rfl⟩ := hd
          refine zc rfl (zas (zt rfl) rfl ?_)
          refine zn0 ?_
          refine zsr ?_
          refine zc rfl (zmv (zt rfl) rfl ?_)
          refine zc rfl (zcm (zt rfl) (zi zdc) rfl rfl ?_)
          refine zn0 ?_
          refine zwc (zt rfl) (fun h6 => ?_) (fun h6 => ?_)
          · skip
            refine zsr ?_
            refine zc rfl (zmv (zt rfl) rfl ?_)
            refine zc rfl (zas (zt rfl) rfl ?_)
            refine zn0 ?_
            refine zwr ?_
            refine blk_ret ?_
            refine ztr ?_
            refine ztr ?_
            refine blk_ret ?_
            refine ztr ?_
            refine zpr [] (res1 (zrt rfl)) rfl lz ?_
            have he : t.check = t.inner[y]!.check := by rw [Trust.check_def, if_neg h1b, if_neg (by simp [h2b]), if_neg (by simpa using h4), ← hJ, checks_here hl2 (by simpa using h6)]
            rw [he]
            exact ⟨rfl, rfl⟩
          · skip
            refine zws ?_
            refine zbn ?_
            refine ztn ?_
            refine zre ?_
            refine zc rfl (zar (zt rfl) (zi zdc) rfl (ink64 (by omega) (by omega)) rfl ?_)
            refine zc rfl (zmv (zt rfl) rfl ?_)
            refine zn0 ?_
            refine ztn ?_
            exact ⟨y + 1, ⟨by first | omega | (dsimp only; omega), (checks_no hl2 (by simpa using h6)).trans hJ⟩, by first | omega | (dsimp only; omega), (le_of (sc rfl (sc rfl (sc rfl sz))) xz kz)⟩
        · skip
          have hge : y = (t.inner.map Trust.enc).length := by have := of_decide_eq_false h5; omega
          refine zwe ?_
          refine zte ?_
          refine zte ?_
          refine zbk ?_
          refine ztn ?_
          refine zsr ?_
          refine zc rfl (zas (zi zdc) rfl ?_)
          refine zn0 ?_
          refine zwr ?_
          refine zpr [] (res1 (zrt rfl)) rfl lz ?_
          have hyl : y = t.inner.length := by simpa using hge
          have he : t.check = 0 := by rw [Trust.check_def, if_neg h1b, if_neg (by simp [h2b]), if_neg (by simpa using h4), ← hJ, hyl, List.drop_length, checks]
          rw [he]
          exact ⟨rfl, rfl⟩
theorem c_trustquorumref02_check (t : Trust) (hok : t.ok) : ACalls Tryz.prog 76 [.aggd t.d] [] fun dd bb => dd = VI (t.check) ∧ bb = [] := c_trustquorumref02_check_aux _ t hok (Nat.le_refl _)

theorem c_threshold_Valid (t : Trust) (hok : t.ok) : ACalls Tryz.prog 80 [.aggd t.d] [] fun dd bb => dd = VI (t.valid) ∧ bb = [] := by
  refine zai Tryz.func80 rfl Tryz.ntmps80 (by rw [Tryz.results80]) rfl rfl (fun w0 A0 X => ?_)
  refine zsr ?_
  refine zc rfl (zbx (zt rfl) rfl rfl ?_)
  refine zc rfl (zas (zi zdc) rfl ?_)
  refine zn0 ?_
  refine zw2 ?_
  refine zsr ?_
  refine zc rfl (zld (n := 3) (zt rfl) zk rfl rfl rfl rfl ?_)
  refine zc rfl (zcl zhf (hc (zt rfl) hz) (rs := []) (bxs := []) zdc bz (c_threshold_Depth t hok) rfl rfl rfl (fun d b hd hl => ?_))
  obtain ⟨rfl, rfl⟩ := hd
  refine zc rfl (zcm (zt rfl) (zi zdc) rfl rfl ?_)
  refine zc rfl (zmv (zt rfl) rfl ?_)
  refine zg rfl rfl rfl rfl (zgb rfl) (fun hg => zld (n := 3) (zt rfl) zk rfl rfl rfl rfl rfl) ?_
  refine zg rfl rfl rfl rfl (zgb rfl) (fun hg => zcl zhf (hc (zcd (zt rfl) hg) hz) (rs := []) (bxs := []) zdc bz (c_threshold_Size t hok) rfl rfl rfl (fun d b hd hl => by obtain ⟨rfl, rfl⟩ := hd; rfl)) ?_
  refine zg rfl rfl rfl rfl (zgb rfl) (fun hg => zcm (zcd (zt rfl) hg) (zi zdc) rfl rfl rfl) ?_
  refine zc rfl (zor (zt rfl) (.inl zb0) (zt rfl) rfl ?_)
  refine zn0 ?_
  refine zwc (zt rfl) (fun h1 => ?_) (fun h1 => ?_)
  · skip
    refine zsr ?_
    refine zc rfl (zas (zi zdc) rfl ?_)
    refine zn0 ?_
    refine zwr ?_
    refine ztr ?_
    refine zpr [] (res1 (zrt rfl)) rfl lz ?_
    have he : t.valid = 3 := by rw [Trust.valid, if_pos h1]
    rw [he]
    exact ⟨rfl, rfl⟩
  · skip
    refine zws ?_
    refine ztn ?_
    refine zsr ?_
    refine zc rfl (zld (n := 3) (zt rfl) zk rfl rfl rfl rfl ?_)
    refine zc rfl (zcl zhf (hc (zt rfl) hz) (rs := []) (bxs := []) zdc bz (c_threshold_level t hok) rfl rfl rfl (fun d b hd hl => ?_))
    obtain ⟨rfl, rfl⟩ := hd
    refine zc rfl (zas (zt rfl) rfl ?_)
    refine zn0 ?_
    refine zwr ?_
    refine zpr [] (res1 (zrt rfl)) rfl lz ?_
    have he : t.valid = t.check := by rw [Trust.valid, if_neg (by simpa using h1)]
    rw [he]
    exact ⟨rfl, rfl⟩

theorem c_trustquorumref02_Valid (t : Trust) (hok : t.ok) : ACalls Tryz.prog 38 [.aggd t.d] [] fun dd bb => dd = VI (t.valid) ∧ bb = [] := by
  refine zai Tryz.func38 rfl Tryz.ntmps38 (by rw [Tryz.results38]) rfl rfl (fun w0 A0 X => ?_)
  refine zsr ?_
  refine zc rfl (zbx (zt rfl) rfl rfl ?_)
  refine zc rfl (zas (zi zdc) rfl ?_)
  refine zn0 ?_
  refine zw2 ?_
  refine zsr ?_
  refine zc rfl (zld (n := 3) (zt rfl) zk rfl rfl rfl rfl ?_)
  refine zc rfl (zcl zhf (hc (zt rfl) hz) (rs := []) (bxs := []) zdc bz (c_trustquorumref02_Depth t hok) rfl rfl rfl (fun d b hd hl => ?_))
  obtain ⟨rfl, rfl⟩ := hd
  refine zc rfl (zcm (zt rfl) (zi zdc) rfl rfl ?_)
  refine zc rfl (zmv (zt rfl) rfl ?_)
  refine zg rfl rfl rfl rfl (zgb rfl) (fun hg => zld (n := 3) (zt rfl) zk rfl rfl rfl rfl rfl) ?_
  refine zg rfl rfl rfl rfl (zgb rfl) (fun hg => zcl zhf (hc (zcd (zt rfl) hg) hz) (rs := []) (bxs := []) zdc bz (c_trustquorumref02_Size t hok) rfl rfl rfl (fun d b hd hl => by obtain ⟨rfl, rfl⟩ := hd; rfl)) ?_
  refine zg rfl rfl rfl rfl (zgb rfl) (fun hg => zcm (zcd (zt rfl) hg) (zi zdc) rfl rfl rfl) ?_
  refine zc rfl (zor (zt rfl) (.inl zb0) (zt rfl) rfl ?_)
  refine zn0 ?_
  refine zwc (zt rfl) (fun h1 => ?_) (fun h1 => ?_)
  · skip
    refine zsr ?_
    refine zc rfl (zas (zi zdc) rfl ?_)
    refine zn0 ?_
    refine zwr ?_
    refine ztr ?_
    refine zpr [] (res1 (zrt rfl)) rfl lz ?_
    have he : t.valid = 3 := by rw [Trust.valid, if_pos h1]
    rw [he]
    exact ⟨rfl, rfl⟩
  · skip
    refine zws ?_
    refine ztn ?_
    refine zsr ?_
    refine zc rfl (zld (n := 3) (zt rfl) zk rfl rfl rfl rfl ?_)
    refine zc rfl (zcl zhf (hc (zt rfl) hz) (rs := []) (bxs := []) zdc bz (c_trustquorumref02_check t hok) rfl rfl rfl (fun d b hd hl => ?_))
    obtain ⟨rfl, rfl⟩ := hd
    refine zc rfl (zas (zt rfl) rfl ?_)
    refine zn0 ?_
    refine zwr ?_
    refine zpr [] (res1 (zrt rfl)) rfl lz ?_
    have he : t.valid = t.check := by rw [Trust.valid, if_neg (by simpa using h1)]
    rw [he]
    exact ⟨rfl, rfl⟩


def eqF (p : Trust → Trust → Bool) : List Trust → List Trust → Bool
  | [], [] => true
  | x :: xs, y :: ys => p x y && eqF p xs ys
  | [], _ :: _ => false
  | _ :: _, [] => false
theorem eqF_len {p : Trust → Trust → Bool} : ∀ {a b : List Trust}, a.length ≠ b.length → eqF p a b = false
  | [], [], h => absurd rfl h
  | x :: xs, y :: ys, h => by rw [eqF, eqF_len (by simpa using h), Bool.and_false]
  | [], _ :: _, _ => rfl
  | _ :: _, [], _ => rfl
theorem eqF_step {p : Trust → Trust → Bool} {a b : List Trust} {k : Nat} (ha : k < a.length) (hb : k < b.length) : eqF p (a.drop k) (b.drop k) = (p a[k]! b[k]! && eqF p (a.drop (k + 1)) (b.drop (k + 1))) := by
  rw [List.drop_eq_getElem_cons ha, List.drop_eq_getElem_cons hb, eqF]
  simp [ha, hb]
theorem eqF_end {p : Trust → Trust → Bool} {a b : List Trust} {k : Nat} (ha : k = a.length) (hl : a.length = b.length) : eqF p (a.drop k) (b.drop k) = true := by
  rw [List.drop_eq_nil_of_le (by omega), List.drop_eq_nil_of_le (by omega)]; rfl
theorem sames_eqF : ∀ (a b : List Trust), sames a b = eqF Trust.same a b
  | [], [] => by rw [sames]; rfl
  | x :: xs, y :: ys => by rw [sames, eqF, sames_eqF xs ys]
  | [], _ :: _ => by rw [sames]; rfl
  | _ :: _, [] => by rw [sames]; rfl
theorem Trust.same_def (t u : Trust) : t.same u = (decide (t.thr = u.thr) && (decide (t.nodes = u.nodes) && eqF Trust.same t.inner u.inner)) := by
  cases t; cases u; rw [Trust.same, sames_eqF]; rfl

theorem c_EqualFunc_trust (f : FuncId) (p : Trust → Trust → Bool) (a b : List Trust) (hf : ∀ x ∈ a, ∀ y ∈ b, ACalls Tryz.prog f [.aggd x.d, .aggd y.d] [] fun dd bb => dd = VB (p x y) ∧ bb = []) : ACalls Tryz.prog 106 [VR (a.map Trust.enc), VR (b.map Trust.enc), .one (.fn f [])] [] fun dd bb => dd = VB (eqF p a b) ∧ bb = [] := by
  refine zai Tryz.func106 rfl Tryz.ntmps106 (by rw [Tryz.results106]) rfl rfl (fun w0 A0 X => ?_)
  refine zsr ?_
  refine zc rfl (zas zb0 rfl ?_)
  refine zn0 ?_
  refine zw2 ?_
  refine zsr ?_
  refine zc rfl (zmv (zt rfl) rfl ?_)
  refine zc rfl (zln (e := 34) (n := 3) (zt rfl) rfl zk rfl (fun hl => ?_))
  refine zc rfl (zmv (zt rfl) rfl ?_)
  refine zc rfl (zln (e := 34) (n := 3) (zt rfl) rfl zk rfl (fun hl => ?_))
  refine zc rfl (zcm (zt rfl) (zt rfl) rfl rfl ?_)
  refine zn0 ?_
  refine zwc (zt rfl) (fun h1 => ?_) (fun h1 => ?_)
  · skip
    refine zsr ?_
    refine zc rfl (zas zb0 rfl ?_)
    refine zn0 ?_
    refine zwr ?_
    refine ztr ?_
    refine zpr [] (res1 (zrt rfl)) rfl lz ?_
    have he : eqF p a b = false := eqF_len (by have := h1; simp at this; omega)
    rw [he]
    exact ⟨rfl, rfl⟩
  · skip
    have hab : a.length = b.length := by have := h1; simp at this; omega
    refine zws ?_
    refine ztn ?_
    refine zw2 ?_
    refine zsr ?_
    refine zc rfl (zmv (zt rfl) rfl ?_)
    refine zc rfl (zln (e := 34) (n := 3) (zt rfl) rfl zk rfl (fun hl => ?_))
    refine zc rfl (zmv (zi zdc) rfl ?_)
    refine zn0 ?_
    refine zwb ?_
    refine awp_loop (ι := Nat) (fun k => St.of [(15, VR (a.map Trust.enc)), (16, VI ((a.map Trust.enc).length : Int)), (17, VI ((k : Nat) : Int)), (1, VR (b.map Trust.enc)), (2, .one (.fn f []))] [] []) (fun k => k ≤ (a.map Trust.enc).length ∧ (eqF p (a.drop k) (b.drop k) = eqF p a b)) (fun k => (a.map Trust.enc).length - k) 0 ?_ ?_ ?_
    · exact (le_of (sc rfl (sc rfl (sc rfl (sc rfl (sc rfl sz))))) xz kz)
    · exact ⟨Nat.zero_le _, rfl⟩
    intro k ⟨hk, hI⟩
    refine zsr ?_
    refine zc rfl (zcm (zt rfl) (zt rfl) rfl rfl ?_)
    refine zn0 ?_
    refine zw2 ?_
    refine zwc (zt rfl) (fun h2 => ?_) (fun h2 => ?_)
    · skip
      have hlt : k < (a.map Trust.enc).length := by have := of_decide_eq_true h2; omega
      have ha : k < a.length := by simpa using hlt
      have hb : k < b.length := by omega
      refine zws ?_
      refine ztn ?_
      refine zw2 ?_
      refine zwb ?_
      refine zsr ?_
      refine zc rfl (zmv (zt rfl) rfl ?_)
      refine zc rfl (op_indexAddr (e := 34) (n := 3) (zt rfl) rfl (zt rfl) zk (by omega) (show (a.map Trust.enc)[k]? = some _ from tget ha) rfl rfl ?_)
      refine zc rfl (op_load_imm (n := 3) (zt rfl) zk rfl rfl rfl ?_)
      refine zc rfl (zal (cs := [.dat (.int .i64 0), .nilsl, .nilsl]) zk rfl ?_)
      refine zc rfl (zas (zt rfl) rfl ?_)
      refine zc rfl (zst (n := 3) (zt rfl) (zt rfl) rfl (.inl zk) rfl rfl (zbl rfl) ?_)
      refine zn0 ?_
      refine zsr ?_
      refine zc rfl (zmv (zt rfl) rfl ?_)
      refine zc rfl (zmv (zt rfl) rfl ?_)
      refine zc rfl (op_indexAddr (e := 34) (n := 3) (zt rfl) rfl (zt rfl) zk (by omega) (show (b.map Trust.enc)[k]? = some _ from tget hb) rfl rfl ?_)
      refine zc rfl (op_load_imm (n := 3) (zt rfl) zk rfl rfl rfl ?_)
      refine zc rfl (zal (cs := [.dat (.int .i64 0), .nilsl, .nilsl]) zk rfl ?_)
      refine zc rfl (zst (n := 3) (zt rfl) (zt rfl) rfl (.inl zk) rfl rfl (zbl rfl) ?_)
      refine zn0 ?_
      refine zsr ?_
      refine zc rfl (zmv (zt rfl) rfl ?_)
      refine zc rfl (zld (n := 3) (zt rfl) zk rfl rfl rfl rfl ?_)
      refine zc rfl (zld (n := 3) (zt rfl) zk rfl rfl rfl rfl ?_)
      refine zc rfl (zcl (zt rfl) (hc (zt rfl) (hc (zt rfl) hz)) (rs := []) (bxs := []) zdc bz (hf a[k]! (by simp [ha]) b[k]! (by simp [hb])) rfl rfl rfl (fun d b hd hl => ?_))
      obtain ⟨rfl, rfl⟩ := hd
      refine zc rfl (op_not (zt rfl) rfl ?_)
      refine zn0 ?_
      refine zwc (zt rfl) (fun h3 => ?_) (fun h3 => ?_)
      · skip
        have he : eqF p a b = false := by rw [← hI, eqF_step ha hb, show p a[k]! b[k]! = false by simpa using h3]; rfl
        refine zsr ?_
        refine zc rfl (zas zb0 rfl ?_)
        refine zn0 ?_
        refine zwr ?_
        refine blk_ret ?_
        refine ztr ?_
        refine ztr ?_
        refine blk_ret ?_
        refine ztr ?_
        refine zpr [] (res1 (zrt rfl)) rfl lz ?_
        rw [he]
        exact ⟨rfl, rfl⟩
      · skip
        have hn : eqF p (a.drop (k + 1)) (b.drop (k + 1)) = eqF p a b := by rw [← hI, eqF_step ha hb, show p a[k]! b[k]! = true by simpa using h3]; rfl
        refine zws ?_
        refine zbn ?_
        refine ztn ?_
        refine zre ?_
        refine zc rfl (zar (zt rfl) (zi zdc) rfl (ink64 (by omega) (by omega)) rfl ?_)
        refine zc rfl (zmv (zt rfl) rfl ?_)
        refine zn0 ?_
        refine ztn ?_
        exact ⟨k + 1, ⟨by first | omega | (dsimp only; omega), hn⟩, by first | omega | (dsimp only; omega), (le_of (sc rfl (sc rfl (sc rfl (sc rfl (sc rfl sz))))) xz kz)⟩
    · skip
      have hge : k = (a.map Trust.enc).length := by have := of_decide_eq_false h2; omega
      refine zwe ?_
      refine zte ?_
      refine zte ?_
      refine zbk ?_
      refine ztn ?_
      refine zsr ?_
      refine zc rfl (zas zb0 rfl ?_)
      refine zn0 ?_
      refine zwr ?_
      refine zpr [] (res1 (zrt rfl)) rfl lz ?_
      have he : eqF p a b = true := by rw [← hI]; exact eqF_end (by simpa using hge) hab
      rw [he]
      exact ⟨rfl, rfl⟩

theorem Trust.same_prog (t u : Trust) : t.same u = ((decide (t.thr = u.thr) && decide (t.nodes = u.nodes)) && eqF Trust.same t.inner u.inner) := by
  rw [Trust.same_def, Bool.and_assoc]
theorem szin {t x : Trust} (h : x ∈ t.inner) : SizeOf.sizeOf x < SizeOf.sizeOf t := by
  have := List.sizeOf_lt_of_mem h
  cases t with | mk a b c =>
    simp only [Trust.inner] at *
    simp only [Trust.mk.sizeOf_spec]
    omega
theorem c_threshold_Same_aux (N : Nat) : ∀ (t u : Trust), SizeOf.sizeOf t ≤ N → ACalls Tryz.prog 79 [.aggd t.d, .aggd u.d] [] fun dd bb => dd = VB (t.same u) ∧ bb = [] := by
  induction N with
  | zero => intro t u hN; exact absurd hN (szPos t)
  | succ N ih =>
  intro t u hN
  refine zai Tryz.func79 rfl Tryz.ntmps79 (by rw [Tryz.results79]) rfl rfl (fun w0 A0 X => ?_)
  refine zsr ?_
  refine zc rfl (zbx (zt rfl) rfl rfl ?_)
  refine zc rfl (zbx (zt rfl) rfl rfl ?_)
  refine zc rfl (zas zb0 rfl ?_)
  refine zn0 ?_
  refine zsr ?_
  refine zc rfl (zfa (o := 0) (zt rfl) zk rfl ?_)
  refine zc rfl (zl1 (zt rfl) zk rfl rfl rfl ?_)
  refine zc rfl (zfa (o := 0) (zt rfl) zk rfl ?_)
  refine zc rfl (zl1 (zt rfl) zk rfl rfl rfl ?_)
  refine zc rfl (zcm (zt rfl) (zt rfl) rfl rfl ?_)
  refine zc rfl (zmv (zt rfl) rfl ?_)
  refine zg rfl rfl rfl rfl (zgb rfl) (fun hg => zfa (o := 1) (zt rfl) zk rfl rfl) ?_
  refine zg rfl rfl rfl rfl (zgb rfl) (fun hg => zl1 (zcd (zt rfl) hg) zk rfl rfl rfl rfl) ?_
  refine zg rfl rfl rfl rfl (zgb rfl) (fun hg => zfa (o := 1) (zt rfl) zk rfl rfl) ?_
  refine zg rfl rfl rfl rfl (zgb rfl) (fun hg => zl1 (zcd (zt rfl) hg) zk rfl rfl rfl rfl) ?_
  refine zg rfl rfl rfl rfl (zgb rfl) (fun hg => zcl zhf (hc (zcd (zt rfl) hg) (hc (zcd (zt rfl) hg) hz)) (rs := []) (bxs := []) zdc bz (c_slices_Equal_int_int t.nodes u.nodes) rfl rfl rfl (fun d b hd hl => by obtain ⟨rfl, rfl⟩ := hd; rfl)) ?_
  refine zc rfl (zan (zt rfl) (zt rfl) (.inl zb0) rfl ?_)
  refine zc rfl (zmv (zt rfl) rfl ?_)
  refine zg rfl rfl rfl rfl (zgb rfl) (fun hg => zfa (o := 2) (zt rfl) zk rfl rfl) ?_
  refine zg rfl rfl rfl rfl (zgb rfl) (fun hg => zl1 (zcd (zt rfl) hg) zk rfl rfl rfl rfl) ?_
  refine zg rfl rfl rfl rfl (zgb rfl) (fun hg => zfa (o := 2) (zt rfl) zk rfl rfl) ?_
  refine zg rfl rfl rfl rfl (zgb rfl) (fun hg => zl1 (zcd (zt rfl) hg) zk rfl rfl rfl rfl) ?_
  refine zg rfl rfl rfl rfl (zgb rfl) (fun hg => zcl zhf (hc (zcd (zt rfl) hg) (hc (zcd (zt rfl) hg) (hc zhf hz))) (rs := []) (bxs := []) zdc bz (c_EqualFunc_trust _ Trust.same t.inner u.inner (fun x hx y _ => ih x y (by have := szin hx; omega))) rfl rfl rfl (fun d b hd hl => by obtain ⟨rfl, rfl⟩ := hd; rfl)) ?_
  refine zc rfl (zan (zt rfl) (zt rfl) (.inl zb0) rfl ?_)
  refine zc rfl (zas (zt rfl) rfl ?_)
  refine zn0 ?_
  refine zwr ?_
  refine zpr [] (res1 (zrt rfl)) rfl lz ?_
  rw [Trust.same_prog]
  exact ⟨rfl, rfl⟩
theorem c_threshold_Same (t u : Trust) : ACalls Tryz.prog 79 [.aggd t.d, .aggd u.d] [] fun dd bb => dd = VB (t.same u) ∧ bb = [] := c_threshold_Same_aux _ t u (Nat.le_refl _)

theorem c_trustquorumref02_Same_aux (N : Nat) : ∀ (t u : Trust), SizeOf.sizeOf t ≤ N → ACalls Tryz.prog 42 [.aggd t.d, .aggd u.d] [] fun dd bb => dd = VB (t.same u) ∧ bb = [] := by
  induction N with
  | zero => intro t u hN; exact absurd hN (szPos t)
  | succ N ih =>
  intro t u hN
  refine zai Tryz.func42 rfl Tryz.ntmps42 (by rw [Tryz.results42]) rfl rfl (fun w0 A0 X => ?_)
  refine zsr ?_
  refine zc rfl (zbx (zt rfl) rfl rfl ?_)
  refine zc rfl (zbx (zt rfl) rfl rfl ?_)
  refine zc rfl (zas zb0 rfl ?_)
  refine zn0 ?_
  refine zw2 ?_
  refine zsr ?_
  refine zc rfl (zfa (o := 0) (zt rfl) zk rfl ?_)
  refine zc rfl (zl1 (zt rfl) zk rfl rfl rfl ?_)
  refine zc rfl (zfa (o := 0) (zt rfl) zk rfl ?_)
  refine zc rfl (zl1 (zt rfl) zk rfl rfl rfl ?_)
  refine zc rfl (zcm (zt rfl) (zt rfl) rfl rfl ?_)
  refine zc rfl (zmv (zt rfl) rfl ?_)
  refine zg rfl rfl rfl rfl (zgb rfl) (fun hg => zfa (o := 1) (zt rfl) zk rfl rfl) ?_
  refine zg rfl rfl rfl rfl (zgb rfl) (fun hg => zl1 (zcd (zt rfl) hg) zk rfl rfl rfl rfl) ?_
  refine zg rfl rfl rfl rfl (zgb rfl) (fun hg => zfa (o := 1) (zt rfl) zk rfl rfl) ?_
  refine zg rfl rfl rfl rfl (zgb rfl) (fun hg => zl1 (zcd (zt rfl) hg) zk rfl rfl rfl rfl) ?_
  refine zg rfl rfl rfl rfl (zgb rfl) (fun hg => zcl zhf (hc (zcd (zt rfl) hg) (hc (zcd (zt rfl) hg) hz)) (rs := []) (bxs := []) zdc bz (c_trustquorumref01_Same t.nodes u.nodes) rfl rfl rfl (fun d b hd hl => by obtain ⟨rfl, rfl⟩ := hd; rfl)) ?_
  refine zg rfl rfl rfl rfl (zgb rfl) (fun hg => op_not (zcd (zt rfl) hg) rfl rfl) ?_
  refine zc rfl (zor (zt rfl) (.inl zb0) (zt rfl) rfl ?_)
  refine zc rfl (zmv (zt rfl) rfl ?_)
  refine zg rfl rfl rfl rfl (zgb rfl) (fun hg => zfa (o := 2) (zt rfl) zk rfl rfl) ?_
  refine zg rfl rfl rfl rfl (zgb rfl) (fun hg => zl1 (zcd (zt rfl) hg) zk rfl rfl rfl rfl) ?_
  refine zg rfl rfl rfl rfl (zgb rfl) (fun hg => zln (e := 34) (n := 3) (zcd (zt rfl) hg) rfl zk rfl (fun hl => rfl)) ?_
  refine zg rfl rfl rfl rfl (zgb rfl) (fun hg => zfa (o := 2) (zt rfl) zk rfl rfl) ?_
  refine zg rfl rfl rfl rfl (zgb rfl) (fun hg => zl1 (zcd (zt rfl) hg) zk rfl rfl rfl rfl) ?_
  refine zg rfl rfl rfl rfl (zgb rfl) (fun hg => zln (e := 34) (n := 3) (zcd (zt rfl) hg) rfl zk rfl (fun hl => rfl)) ?_
  refine zg rfl rfl rfl rfl (zgb rfl) (fun hg => zcm (zcd (zt rfl) hg) (zcd (zt rfl) hg) rfl rfl rfl) ?_
  refine zc rfl (zor (zt rfl) (.inl zb0) (zt rfl) rfl ?_)
  refine zn0 ?_
  refine zwc (zt rfl) (fun h1 => ?_) (fun h1 => ?_)
  · skip
    refine zsr ?_
    refine zc rfl (zas zb0 rfl ?_)
    refine zn0 ?_
    refine zwr ?_
    refine ztr ?_
    refine zpr [] (res1 (zrt rfl)) rfl lz ?_
    have he : t.same u = false := by
        rw [Trust.same_prog]
        cases hq : (decide (t.thr = u.thr) && decide (t.nodes = u.nodes)) with
        | false => rfl
        | true =>
          rw [eqF_len, Bool.and_false]
          intro hl
          simp at hq
          simp [hq, hl] at h1
    rw [he]
    exact ⟨rfl, rfl⟩
  · skip
    have h1b : (t.thr = u.thr ∧ t.nodes = u.nodes) ∧ (t.inner.length : Int) = u.inner.length := by simpa using h1
    refine zws ?_
    refine ztn ?_
    refine zw2 ?_
    refine zsr ?_
    refine zc rfl (zfa (o := 2) (zt rfl) zk rfl ?_)
    refine zc rfl (zl1 (zt rfl) zk rfl rfl rfl ?_)
    refine zc rfl (zln (e := 34) (n := 3) (zt rfl) rfl zk rfl (fun hl => ?_))
    refine zc rfl (zmv (zi zdc) rfl ?_)
    refine zn0 ?_
    refine zwb ?_
    refine awp_loop (ι := Nat) (fun k => St.of [(30, VI ((t.inner.map Trust.enc).length : Int)), (31, VI ((k : Nat) : Int)), (2, .one (.ref (.o 2) 0)), (3, .one (.ref (.o 3) 0))] [(.o 2, t.d.map C.dat), (.o 3, u.d.map C.dat)] []) (fun k => k ≤ (t.inner.map Trust.enc).length ∧ (eqF Trust.same (t.inner.drop k) (u.inner.drop k) = eqF Trust.same t.inner u.inner)) (fun k => (t.inner.map Trust.enc).length - k) 0 ?_ ?_ ?_
    · exact (le_of (sc rfl (sc rfl (sc rfl (sc rfl sz)))) (xc rfl (xc rfl xz)) kz)
    · exact ⟨Nat.zero_le _, rfl⟩
    intro k ⟨hk, hI⟩
    refine zsr ?_
    refine zc rfl (zcm (zt rfl) (zt rfl) rfl rfl ?_)
    refine zn0 ?_
    refine zw2 ?_
    refine zwc (zt rfl) (fun h2 => ?_) (fun h2 => ?_)
    · skip
      have hlt : k < (t.inner.map Trust.enc).length := by have := of_decide_eq_true h2; omega
      have ha : k < t.inner.length := by simpa using hlt
      have hb : k < u.inner.length := by omega
      refine zws ?_
      refine ztn ?_
      refine zw2 ?_
      refine zwb ?_
      refine zsr ?_
      refine zc rfl (zmv (zt rfl) rfl ?_)
      refine zc rfl (zas (zt rfl) rfl ?_)
      refine zn0 ?_
      refine awp_seq_drawT zk [] [] [0, 1, 0, 7, 15, 0, 32, 0, 224, 480, 1023, 2047] rfl
        (Trace.cons ⟨[(2, _)], [], [], [], [], [.slot 34 _]⟩ (prel (lsc rfl lsz) lbz ltz) (fun zs zp zn => (zgp rfl rfl (zfa (o := 2) (zt zp.1.1) zk rfl rfl))) <|
        Trace.cons ⟨[(34, _)], [(.o 2, _)], [], [], [], [.slot 35 _]⟩ (prel (lsc rfl lsz) (lbc rfl lbz) ltz) (fun zs zp zn => (zgp rfl rfl (zl1 (zt zp.1.1) zk zp.2.1.1 rfl rfl rfl))) <|
        Trace.cons ⟨[(5, _)], [], [], [], [], [.slot 36 _]⟩ (prel (lsc rfl lsz) lbz ltz) (fun zs zp zn => (zgp rfl rfl (zmv (zt zp.1.1) rfl rfl))) <|
        Trace.cons ⟨[(35, _), (36, _)], [], [], [], [], [.slot 37 _]⟩ (prel (lsc rfl (lsc rfl lsz)) lbz ltz) (fun zs zp zn => (zgp rfl rfl (op_indexAddr (e := 34) (n := 3) (zt zp.1.1) rfl (zt zp.1.2.1) zk (by omega) (show (t.inner.map Trust.enc)[k]? = some _ from tget ha) rfl rfl rfl))) <|
        Trace.cons ⟨[(37, _)], [], [], [], [], [.slot 38 _]⟩ (prel (lsc rfl lsz) lbz ltz) (fun zs zp zn => (zgp rfl rfl (op_load_imm (n := 3) (zt zp.1.1) zk rfl rfl rfl rfl))) <|
        Trace.cons ⟨[(3, _)], [], [], [], [], [.slot 39 _]⟩ (prel (lsc rfl lsz) lbz ltz) (fun zs zp zn => (zgp rfl rfl (zfa (o := 2) (zt zp.1.1) zk rfl rfl))) <|
        Trace.cons ⟨[(39, _)], [(.o 3, _)], [], [], [], [.slot 40 _]⟩ (prel (lsc rfl lsz) (lbc rfl lbz) ltz) (fun zs zp zn => (zgp rfl rfl (zl1 (zt zp.1.1) zk zp.2.1.1 rfl rfl rfl))) <|
        Trace.cons ⟨[(5, _)], [], [], [], [], [.slot 41 _]⟩ (prel (lsc rfl lsz) lbz ltz) (fun zs zp zn => (zgp rfl rfl (zmv (zt zp.1.1) rfl rfl))) <|
        Trace.cons ⟨[(40, _), (41, _)], [], [], [], [], [.slot 42 _]⟩ (prel (lsc rfl (lsc rfl lsz)) lbz ltz) (fun zs zp zn => (zgp rfl rfl (op_indexAddr (e := 34) (n := 3) (zt zp.1.1) rfl (zt zp.1.2.1) zk (by omega) (show (u.inner.map Trust.enc)[k]? = some _ from tget hb) rfl rfl rfl))) <|
        Trace.cons ⟨[(42, _)], [], [], [], [], [.slot 43 _]⟩ (prel (lsc rfl lsz) lbz ltz) (fun zs zp zn => (zgp rfl rfl (op_load_imm (n := 3) (zt zp.1.1) zk rfl rfl rfl rfl))) <|
        Trace.cons ⟨[(38, _), (43, _)], [], [], [], [], [.slot 44 _]⟩ (prel (lsc rfl (lsc rfl lsz)) lbz ltz) (fun zs zp zn => (zgp rfl rfl (zcl zhf (hc (zt zp.1.1) (hc (zt zp.1.2.1) hz)) (rs := []) (bxs := []) zdc bz (ih t.inner[k]! u.inner[k]! (by have := sz_inner ha; omega)) rfl rfl rfl (fun d b hd hl => by obtain ⟨rfl, rfl⟩ := hd; rfl)))) <|
        Trace.cons ⟨[(44, _)], [], [], [], [], [.slot 45 _]⟩ (prel (lsc rfl lsz) lbz ltz) (fun zs zp zn => (zgp rfl rfl (op_not (zt zp.1.1) rfl rfl))) <|
        Trace.nil) rfl rfl rfl ?_
      refine zwc (zt rfl) (fun h3 => ?_) (fun h3 => ?_)
      · skip
        have he : eqF Trust.same t.inner u.inner = false := by rw [← hI, eqF_step ha hb, show t.inner[k]!.same u.inner[k]! = false by simpa using h3]; rfl
        refine zsr ?_
        refine zc rfl (zas zb0 rfl ?_)
        refine zn0 ?_
        refine zwr ?_
        refine blk_ret ?_
        refine ztr ?_
        refine ztr ?_
        refine blk_ret ?_
        refine ztr ?_
        refine zpr [] (res1 (zrt rfl)) rfl lz ?_
        have hf2 : t.same u = false := by rw [Trust.same_prog, he, Bool.and_false]
        rw [hf2]
        exact ⟨rfl, rfl⟩
      · skip
        have hn : eqF Trust.same (t.inner.drop (k + 1)) (u.inner.drop (k + 1)) = eqF Trust.same t.inner u.inner := by rw [← hI, eqF_step ha hb, show t.inner[k]!.same u.inner[k]! = true by simpa using h3]; rfl
        refine zws ?_
        refine zbn ?_
        refine ztn ?_
        refine zre ?_
        refine zc rfl (zar (zt rfl) (zi zdc) rfl (ink64 (by omega) (by omega)) rfl ?_)
        refine zc rfl (zmv (zt rfl) rfl ?_)
        refine zn0 ?_
        refine ztn ?_
        exact ⟨k + 1, ⟨by first | omega | (dsimp only; omega), hn⟩, by first | omega | (dsimp only; omega), (le_of (sc rfl (sc rfl (sc rfl (sc rfl sz)))) (xc rfl (xc rfl xz)) kz)⟩
    · skip
      have hge : k = (t.inner.map Trust.enc).length := by have := of_decide_eq_false h2; omega
      refine zwe ?_
      refine zte ?_
      refine zte ?_
      refine zbk ?_
      refine ztn ?_
      refine zsr ?_
      refine zc rfl (zas zb0 rfl ?_)
      refine zn0 ?_
      refine zwr ?_
      refine zpr [] (res1 (zrt rfl)) rfl lz ?_
      have he : t.same u = true := by rw [Trust.same_prog, ← hI, eqF_end (by simpa using hge) (by omega)]; simp [h1b.1]
      rw [he]
      exact ⟨rfl, rfl⟩
theorem c_trustquorumref02_Same (t u : Trust) : ACalls Tryz.prog 42 [.aggd t.d, .aggd u.d] [] fun dd bb => dd = VB (t.same u) ∧ bb = [] := c_trustquorumref02_Same_aux _ t u (Nat.le_refl _)

theorem c_threshold_Uses_aux (N : Nat) : ∀ (t : Trust), SizeOf.sizeOf t ≤ N → ACalls Tryz.prog 64 [.aggd t.d] [] fun dd bb => dd = VI (t.uses) ∧ bb = [] := by
  induction N with
  | zero => intro t hN; exact absurd hN (szPos t)
  | succ N ih =>
  intro t hN
  refine zai Tryz.func64 rfl Tryz.ntmps64 (by rw [Tryz.results64]) rfl rfl (fun w0 A0 X => ?_)
  refine zsr ?_
  refine zc rfl (zbx (zt rfl) rfl rfl ?_)
  refine zc rfl (zas (zi zdc) rfl ?_)
  refine zn0 ?_
  refine zsr ?_
  refine zc rfl (zas (zi zdc) rfl ?_)
  refine zn0 ?_
  refine zw2 ?_
  refine zsr ?_
  refine zc rfl (zfa (o := 1) (zt rfl) zk rfl ?_)
  refine zc rfl (zl1 (zt rfl) zk rfl rfl rfl ?_)
  refine zc rfl (zln (e := 3) (n := 1) (zt rfl) rfl zk rfl (fun hl => ?_))
  refine zc rfl (zmv (zi zdc) rfl ?_)
  refine zn0 ?_
  refine zwb ?_
  refine awp_loop (ι := Nat × Int) (fun x => St.of [(9, VR (iRows t.nodes)), (10, VI ((iRows t.nodes).length : Int)), (11, VI ((x.1 : Nat) : Int)), (1, .one (.ref (.o 1) 0)), (3, VI (x.2))] [(.o 1, t.d.map C.dat)] []) (fun x => x.1 ≤ (iRows t.nodes).length ∧ (useN (t.nodes.drop x.1) x.2 = useN t.nodes 0 ∧ 0 ≤ x.2)) (fun x => (iRows t.nodes).length - x.1) (0, 0) ?_ ?_ ?_
  · exact (le_of (sc rfl (sc rfl (sc rfl (sc rfl (sc rfl sz))))) (xc rfl xz) kz)
  · exact ⟨Nat.zero_le _, ⟨rfl, Int.le_refl 0⟩⟩
  intro x ⟨hk, ⟨hI, hs⟩⟩
  refine zsr ?_
  refine zc rfl (zcm (zt rfl) (zt rfl) rfl rfl ?_)
  refine zn0 ?_
  refine zw2 ?_
  refine zwc (zt rfl) (fun h1 => ?_) (fun h1 => ?_)
  · skip
    have hlt : x.1 < (iRows t.nodes).length := by have := of_decide_eq_true h1; omega
    have hl1 : x.1 < t.nodes.length := by simpa using hlt
    refine zws ?_
    refine ztn ?_
    refine zw2 ?_
    refine zwb ?_
    refine zsr ?_
    refine zc rfl (op_indexAddr (e := 3) (n := 1) (zt rfl) rfl (zt rfl) zk (by omega) (show (iRows t.nodes)[x.1]? = some _ from map_getD hl1) rfl rfl ?_)
    refine zc rfl (op_load_imm1 (zt rfl) zk rfl rfl ?_)
    refine zc rfl (zas (zt rfl) rfl ?_)
    refine zn0 ?_
    refine zsr ?_
    refine zc rfl (zmv (zt rfl) rfl ?_)
    refine zc rfl (zcl zhf (hc (zt rfl) hz) (rs := []) (bxs := []) zdc bz (c_threshold_node _) rfl rfl rfl (fun d b hd hl => ?_))
    obtain ⟨rfl, rfl⟩ := hd
    refine zn0 ?_
    refine zwc (zt rfl) (fun h2 => ?_) (fun h2 => ?_)
    · skip
      have g2 := h2
      simp only [Bool.and_eq_true, decide_eq_true_eq] at g2
      obtain ⟨nv, hnv⟩ : ∃ v : Int, v = orBit x.2 t.nodes[x.1]! := ⟨_, rfl⟩
      have hn := (useN_yes (s := x.2) hl1 h2).trans hI
      have hn0 : 0 ≤ nv := by rw [hnv]; exact orBit_nn _ _
      rw [← hnv] at hn
      refine zre ?_
      refine zc rfl (zmv (zt rfl) rfl ?_)
      refine zc rfl (zmv (zt rfl) rfl ?_)
      refine zc rfl (op_shl (zi zdc) (zt rfl) (by omega) (by omega) (by show _ ≤ 64; omega) (ink_shl1 (by omega)) rfl ?_)
      refine zc rfl (op_bit (zt rfl) (zt rfl) (by first | exact Int.natCast_nonneg _ | omega) (by first | exact Int.natCast_nonneg _ | omega) rfl rfl ?_)
      refine zc rfl (zas (zt rfl) rfl ?_)
      refine zn0 ?_
      refine zbn ?_
      refine ztn ?_
      refine zre ?_
      refine zc rfl (zar (zt rfl) (zi zdc) rfl (ink64 (by omega) (by omega)) rfl ?_)
      refine zc rfl (zmv (zt rfl) rfl ?_)
      refine zn0 ?_
      refine ztn ?_
      exact ⟨(x.1 + 1, nv), ⟨by first | omega | (dsimp only; omega), ⟨hn, hn0⟩⟩, by first | omega | (dsimp only; omega), (le_of (sc rfl (sc rfl (sc rfl (sc rfl (sc (vi_eq rfl hnv) sz))))) (xc rfl xz) kz)⟩
    · skip
      obtain ⟨nv, hnv⟩ : ∃ v : Int, v = x.2 := ⟨_, rfl⟩
      have hn := (useN_no (s := x.2) hl1 h2).trans hI
      have hn0 : 0 ≤ nv := by rw [hnv]; exact hs
      rw [← hnv] at hn
      refine zws ?_
      refine zbn ?_
      refine ztn ?_
      refine zre ?_
      refine zc rfl (zar (zt rfl) (zi zdc) rfl (ink64 (by omega) (by omega)) rfl ?_)
      refine zc rfl (zmv (zt rfl) rfl ?_)
      refine zn0 ?_
      refine ztn ?_
      exact ⟨(x.1 + 1, nv), ⟨by first | omega | (dsimp only; omega), ⟨hn, hn0⟩⟩, by first | omega | (dsimp only; omega), (le_of (sc rfl (sc rfl (sc rfl (sc rfl (sc (vi_eq rfl hnv) sz))))) (xc rfl xz) kz)⟩
  · skip
    have hge : x.1 = (iRows t.nodes).length := by have := of_decide_eq_false h1; omega
    have hkl : x.1 = t.nodes.length := by simpa using hge
    refine zwe ?_
    refine zte ?_
    refine zte ?_
    refine zbk ?_
    refine ztn ?_
    refine zw2 ?_
    refine zsr ?_
    refine zc rfl (zfa (o := 2) (zt rfl) zk rfl ?_)
    refine zc rfl (zl1 (zt rfl) zk rfl rfl rfl ?_)
    refine zc rfl (zln (e := 34) (n := 3) (zt rfl) rfl zk rfl (fun hl => ?_))
    refine zc rfl (zmv (zi zdc) rfl ?_)
    refine zn0 ?_
    refine zwb ?_
    refine awp_loop (ι := Nat × Int) (fun y => St.of [(23, VR (t.inner.map Trust.enc)), (24, VI ((t.inner.map Trust.enc).length : Int)), (25, VI ((y.1 : Nat) : Int)), (3, VI (y.2))] [] []) (fun y => y.1 ≤ (t.inner.map Trust.enc).length ∧ (usesT (t.inner.drop y.1) y.2 = usesT t.inner (useN t.nodes 0) ∧ 0 ≤ y.2)) (fun y => (t.inner.map Trust.enc).length - y.1) (0, x.2) ?_ ?_ ?_
    · exact (le_of (sc rfl (sc rfl (sc rfl (sc rfl sz)))) xz kz)
    · exact ⟨Nat.zero_le _, ⟨by rw [← hI, hkl, List.drop_length]; rfl, hs⟩⟩
    intro y ⟨hk, ⟨hJ, hs2⟩⟩
    refine zsr ?_
    refine zc rfl (zcm (zt rfl) (zt rfl) rfl rfl ?_)
    refine zn0 ?_
    refine zw2 ?_
    refine zwc (zt rfl) (fun h3 => ?_) (fun h3 => ?_)
    · skip
      have hlt : y.1 < (t.inner.map Trust.enc).length := by have := of_decide_eq_true h3; omega
      have hl2 : y.1 < t.inner.length := by simpa using hlt
      have hu := Trust.uses_nn t.inner[y.1]!
      refine zws ?_
      refine ztn ?_
      refine zw2 ?_
      refine zwb ?_
      refine zsr ?_
      refine zc rfl (op_indexAddr (e := 34) (n := 3) (zt rfl) rfl (zt rfl) zk (by omega) (show (t.inner.map Trust.enc)[y.1]? = some _ from tget hl2) rfl rfl ?_)
      refine zc rfl (op_load_imm (n := 3) (zt rfl) zk rfl rfl rfl ?_)
      refine zc rfl (zal (cs := [.dat (.int .i64 0), .nilsl, .nilsl]) zk rfl ?_)
      refine zc rfl (zst (n := 3) (zt rfl) (zt rfl) rfl (.inl zk) rfl rfl (zbl rfl) ?_)
      refine zn0 ?_
      refine zre ?_
      refine zc rfl (zmv (zt rfl) rfl ?_)
      refine zc rfl (zld (n := 3) (zt rfl) zk rfl rfl rfl rfl ?_)
      refine zc rfl (zcl zhf (hc (zt rfl) hz) (rs := []) (bxs := []) zdc bz (ih _ (by have := sz_inner hl2; omega)) rfl rfl rfl (fun d b hd hl => ?_))
      obtain ⟨rfl, rfl⟩ := hd
      refine zc rfl (op_bit (zt rfl) (zt rfl) (by first | exact Int.natCast_nonneg _ | omega) (by first | exact Int.natCast_nonneg _ | omega) rfl rfl ?_)
      refine zc rfl (zas (zt rfl) rfl ?_)
      refine zn0 ?_
      refine zbn ?_
      refine ztn ?_
      refine zre ?_
      refine zc rfl (zar (zt rfl) (zi zdc) rfl (ink64 (by omega) (by omega)) rfl ?_)
      refine zc rfl (zmv (zt rfl) rfl ?_)
      refine zn0 ?_
      refine ztn ?_
      exact ⟨(y.1 + 1, orI y.2 t.inner[y.1]!.uses), ⟨by first | omega | (dsimp only; omega), ⟨(usesT_drop hl2).trans hJ, orI_nn _ _⟩⟩, by first | omega | (dsimp only; omega), (le_of (sc rfl (sc rfl (sc rfl (sc rfl sz)))) xz kz)⟩
    · skip
      have hge : y.1 = (t.inner.map Trust.enc).length := by have := of_decide_eq_false h3; omega
      refine zwe ?_
      refine zte ?_
      refine zte ?_
      refine zbk ?_
      refine ztn ?_
      refine zsr ?_
      refine zc rfl (zmv (zt rfl) rfl ?_)
      refine zc rfl (zas (zt rfl) rfl ?_)
      refine zn0 ?_
      refine zwr ?_
      refine zpr [] (res1 (zrt rfl)) rfl lz ?_
      have hyl : y.1 = t.inner.length := by simpa using hge
      have he : t.uses = y.2 := by rw [Trust.uses_def, ← hJ, hyl, List.drop_length, usesT]
      rw [he]
      exact ⟨rfl, rfl⟩
theorem c_threshold_Uses (t : Trust) : ACalls Tryz.prog 64 [.aggd t.d] [] fun dd bb => dd = VI (t.uses) ∧ bb = [] := c_threshold_Uses_aux _ t (Nat.le_refl _)

end Go.TQ
