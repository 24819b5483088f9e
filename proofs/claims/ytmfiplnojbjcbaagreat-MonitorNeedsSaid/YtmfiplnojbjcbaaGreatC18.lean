/- Contracts of functions of the program, each for every input that its hypotheses let in; printed by a program of our own (s18). -/
import Derived.Test.YtmfiplnojbjcbaaGreatP03
set_option linter.unusedVariables false
set_option linter.unusedSimpArgs false
set_option maxRecDepth 10000
set_option maxHeartbeats 4000000
namespace Go.TQ
open Go.Proofs


def unhP (c : List Member) (s : Int) : Int × Bool := match unh c s with
  | some k => (k, true)
  | none => (0, false)
theorem unhP_none {c : List Member} {s : Int} (h : (unhP c s).2 = false) : unh c s = none := by
  unfold unhP at h; cases hu : unh c s with
  | none => rfl
  | some k => rw [hu] at h; cases h
theorem unhP_some {c : List Member} {s : Int} (h : (unhP c s).2 = true) : unh c s = some (unhP c s).1 := by
  unfold unhP at *; cases hu : unh c s with
  | none => rw [hu] at h; cases h
  | some k => rfl
theorem find_step {p : Int → Bool} {l : List Int} {k : Nat} (h : k < l.length) (hp : p l[k]! = false) : (l.drop (k + 1)).find? p = (l.drop k).find? p := by
  rw [getElem!_pos l k h] at hp
  rw [List.drop_eq_getElem_cons h, List.find?_cons, hp]
theorem find_here {p : Int → Bool} {l : List Int} {k : Nat} (h : k < l.length) (hp : p l[k]! = true) : (l.drop k).find? p = some l[k]! := by
  rw [getElem!_pos l k h] at hp ⊢
  rw [List.drop_eq_getElem_cons h, List.find?_cons, hp]
theorem at_ok {c : List Member} (h : ∀ m ∈ c, m.trust.ok) {k : Int} (h0 : 0 ≤ k) (hk : k < c.length) : (c[k.toNat]!).trust.ok := h _ (mem_at (by omega))
/-- How far an elimination has come. -/
structure ElimI (c : List Member) (s0 s : Int) (out : List Int) : Prop where
  set : SetP s
  sub : ∀ k, has s k = true → k < c.length
  eq : elimF c 11 s0 = ((elimF c (11 - out.length) s).1, out ++ (elimF c (11 - out.length) s).2)
  cnt : popN s.toNat + out.length ≤ 10
theorem ElimI.begin {c : List Member} {s : Int} (hs : SetP s) : ElimI c (andI s (Config.declared c)) (andI s (Config.declared c)) [] where
  set := andI_set hs
  sub := fun k hk => by
    have hr := has_range hk
    rw [has_andI hs (decl_set c) ⟨hr.2.2.1, hr.2.2.2⟩, Bool.and_eq_true] at hk
    exact ((decl_has ⟨hr.2.2.1, hr.2.2.2⟩).1 hk.2).1
  eq := by simp
  cnt := by simpa using popN_le _
theorem ElimI.step {c : List Member} {s0 s k : Int} {out : List Int} (h : ElimI c s0 s out) (hu : unh c s = some k) : ElimI c s0 (remI s k) (out ++ [k]) where
  set := remI_set h.set
  sub := fun j hj => by
    have hr := has_range hj
    have hk := has_range (unh_has hu)
    rw [has_rem h.set ⟨hk.2.2.1, hk.2.2.2⟩ ⟨hr.2.2.1, hr.2.2.2⟩, Bool.and_eq_true] at hj
    exact h.sub j hj.1
  eq := by
    have hp := popN_rem (unh_has hu)
    have hc := h.cnt
    rw [h.eq, show 11 - out.length = (11 - (out ++ [k]).length) + 1 by simp; omega, elimF_some hu]
    simp
  cnt := by
    have := popN_rem (unh_has hu)
    have := h.cnt
    simp; omega
theorem ElimI.done {c : List Member} {s0 s : Int} {out : List Int} (h : ElimI c s0 s out) (hu : unh c s = none) : elimF c 11 s0 = (s, out) := by
  rw [h.eq, elimF_none hu]; simp

theorem c_closure_content (c : List Member) (k s : Int) (hk : 0 ≤ k ∧ k < c.length) (hok : (c[k.toNat]!).trust.ok) : ACalls Tryz.prog 157 [.aggd (Config.d c), VI k, VI s] [] fun dd bb => dd = VB (satAt c s k) ∧ bb = [] := by
  refine zai Tryz.func157 rfl Tryz.ntmps157 (by rw [Tryz.results157]) rfl rfl (fun w0 A0 X => ?_)
  refine zsr ?_
  refine zc rfl (zbx (zt rfl) rfl rfl ?_)
  refine zc rfl (zas zb0 rfl ?_)
  refine zn0 ?_
  refine zsr ?_
  refine zc rfl (zfa (o := 0) (zt rfl) zk rfl ?_)
  refine zc rfl (zl1 (zt rfl) zk rfl rfl rfl ?_)
  refine zc rfl (zmv (zt rfl) rfl ?_)
  refine zc rfl (op_indexAddr (e := 81) (n := 4) (zt rfl) rfl (zt rfl) zk zom (show (c.map Member.d)[k.toNat]? = some (c[k.toNat]!.d) from (map_getD zom)) rfl rfl ?_)
  refine zc rfl (op_fieldAddr_imm (o := 1) (zt rfl) zk rfl ?_)
  refine zc rfl (op_load_imm (n := 3) (zt rfl) zk rfl rfl rfl ?_)
  refine zc rfl (zmv (zt rfl) rfl ?_)
  refine zc rfl (zcl zhf (hc (zt rfl) (hc (zt rfl) hz)) (rs := []) (bxs := []) zdc bz (c_threshold_Satisfied c[k.toNat]!.trust s (by first | assumption | omega | trivial | (simp; done) | (constructor <;> omega))) rfl rfl rfl (fun d b hd hl => ?_))
  obtain ⟨rfl, rfl⟩ := hd
  refine zc rfl (zas (zt rfl) rfl ?_)
  refine zn0 ?_
  refine zwr ?_
  refine zpr [] (res1 (zrt rfl)) rfl lz ?_
  exact ⟨rfl, rfl⟩

theorem c_closure_unhappy (c : List Member) (s : Int) (hok : ∀ m ∈ c, m.trust.ok) (hs : ∀ k, has s k = true → k < c.length) : ACalls Tryz.prog 142 [.aggd (Config.d c), VI s] [] fun dd bb => dd = .tup [VI (unhP c s).1, VB (unhP c s).2] ∧ bb = [] := by
  refine zai Tryz.func142 rfl Tryz.ntmps142 (by rw [Tryz.results142]) rfl rfl (fun w0 A0 X => ?_)
  refine zsr ?_
  refine zc rfl (zbx (zt rfl) rfl rfl ?_)
  refine zc rfl (zas (zi zdc) rfl ?_)
  refine zc rfl (zas zb0 rfl ?_)
  refine zn0 ?_
  refine zw2 ?_
  refine zsr ?_
  refine zc rfl (zmv (zt rfl) rfl ?_)
  refine zc rfl (zcl zhf (hc (zt rfl) hz) (rs := []) (bxs := []) zdc bz (c_nodeset_Nodes s) rfl rfl rfl (fun d b hd hl => ?_))
  obtain ⟨rfl, rfl⟩ := hd
  refine zc rfl (zln (e := 3) (n := 1) (zt rfl) rfl zk rfl (fun hl10 => ?_))
  try simp only [List.length_map] at hl10
  refine zc rfl (zmv (zi zdc) rfl ?_)
  refine zn0 ?_
  refine zwb ?_
  refine zlp (fs := [(1, _), (2, _), (9, _), (10, _)]) (fb := [(.o 2, _)]) (fun (k : Nat) => [(11, VI ((k : Nat) : Int))]) (fun (k : Nat) => []) (fun (k : Nat) => []) (fun (k : Nat) => (k ≤ (nodesN s).length) ∧ (unh c s = ((nodesN s).drop k).find? fun k => !satAt c s k)) (fun (k : Nat) => (nodesN s).length - k) 0 (le_of (sc rfl (sc rfl (sc rfl (sc rfl (sc rfl sz))))) (xc rfl xz) kz) ?_ ?_
  · refine ⟨?_, ?_⟩
    · exact zen
    · rfl
  · intro k ⟨hk, hI⟩
    refine zsr ?_
    refine zc rfl (zcm (zt rfl) (zt rfl) rfl rfl ?_)
    refine zn0 ?_
    refine awp_le (le_of (ls := [(1, VI s), (2, .one (.ref (.o 2) 0)), (9, VR (iRows (nodesN s))), (10, VI ((iRows (nodesN s)).length : Int)), (11, VI ((k : Nat) : Int)), (12, VB (decide (((k : Nat) : Int) < ((iRows (nodesN s)).length : Int))))]) (bs := [(.o 2, [.dat (.sl (c.map Member.d))])]) (ts := []) (sc rfl (sc rfl (sc rfl (sc rfl (sc rfl (sc rfl sz)))))) (xc rfl xz) kz) ?_
    refine zw2 ?_
    refine zwc (zt rfl) (fun h1 => ?_) (fun h1 => ?_)
    · skip
      have g1 := h1
      try simp only [zbz, List.length_map] at g1
      have hkl : k < (nodesN s).length := by omega
      have hh := mem_nodesN.1 (mem_at hkl)
      have hr := has_range hh
      have hkc := hs _ hh
      refine zws ?_
      refine ztn ?_
      refine zw2 ?_
      refine zwb ?_
      refine zsr ?_
      refine zc rfl (op_indexAddr (e := 3) (n := 1) (zt rfl) rfl (zt rfl) zk zom (show (iRows (nodesN s))[k]? = some (iRow (nodesN s)[k]!) from (map_getD zom)) rfl rfl ?_)
      refine zc rfl (op_load_imm1 (zt rfl) zk rfl rfl ?_)
      refine zc rfl (zas (zt rfl) rfl ?_)
      refine zn0 ?_
      refine zsr ?_
      refine zc rfl (zld (n := 1) (zt rfl) zk rfl rfl rfl rfl ?_)
      refine zc rfl (zmv (zt rfl) rfl ?_)
      refine zc rfl (zmv (zt rfl) rfl ?_)
      refine zc rfl (zcl zhf (hc (zt rfl) (hc (zt rfl) (hc (zt rfl) hz))) (rs := []) (bxs := []) zdc bz (c_closure_content c (nodesN s)[k]! s ⟨by omega, hkc⟩ (at_ok hok (by omega) hkc)) rfl rfl rfl (fun d b hd hl => ?_))
      obtain ⟨rfl, rfl⟩ := hd
      refine zc rfl (op_not (zt rfl) rfl ?_)
      refine zn0 ?_
      refine zwc (zt rfl) (fun h2 => ?_) (fun h2 => ?_)
      · skip
        have g2 : (!satAt c s (nodesN s)[k]!) = true := h2
        refine zsr ?_
        refine zc rfl (zmv (zt rfl) rfl ?_)
        refine zc rfl (zas (zt rfl) rfl ?_)
        refine zc rfl (zas zb0 rfl ?_)
        refine zn0 ?_
        refine zwr ?_
        refine blk_ret ?_
        refine ztr ?_
        refine ztr ?_
        refine blk_ret ?_
        refine ztr ?_
        refine zpr [] (res2 (zrt rfl) (zrt rfl)) rfl lz ?_
        have he : unhP c s = ((nodesN s)[k]!, true) := by rw [unhP, hI, find_here hkl g2]
        rw [he]
        exact ⟨rfl, rfl⟩
      · skip
        have g2 : (!satAt c s (nodesN s)[k]!) = false := h2
        refine zws ?_
        refine zbn ?_
        refine ztn ?_
        refine zre ?_
        refine zc rfl (zar (zt rfl) (zi zdc) rfl (ink64 zom zom) rfl ?_)
        refine zc rfl (zmv (zt rfl) rfl ?_)
        refine zn0 ?_
        refine ztn ?_
        refine ⟨k + 1, ?_, ?_, (le_of (sc rfl (sc rfl (sc rfl (sc rfl (sc rfl sz))))) (xc rfl xz) kz)⟩
        · refine ⟨?_, ?_⟩
          · exact zen
          · exact hI.trans (find_step hkl g2).symm
        · first | omega | (simp at *; omega)
    · skip
      have g1 := h1
      try simp only [zbz, List.length_map] at g1
      refine zwe ?_
      refine zte ?_
      refine zte ?_
      refine zbk ?_
      refine ztn ?_
      refine zsr ?_
      refine zc rfl (zas (zi zdc) rfl ?_)
      refine zc rfl (zas zb0 rfl ?_)
      refine zn0 ?_
      refine zwr ?_
      refine zpr [] (res2 (zrt rfl) (zrt rfl)) rfl lz ?_
      have he : unhP c s = (0, false) := by rw [unhP, hI, List.drop_of_length_le (by omega)]; rfl
      rw [he]
      exact ⟨rfl, rfl⟩

theorem c_closure_eliminate (c : List Member) (s : Int) (hok : ∀ m ∈ c, m.trust.ok) : ACalls Tryz.prog 126 [.aggd (Config.d c), VI s] [] fun dd bb => dd = .tup [VI (elim c s).1, VR (iRows (elim c s).2)] ∧ bb = [] := by
  refine zai Tryz.func126 rfl Tryz.ntmps126 (by rw [Tryz.results126]) rfl rfl (fun w0 A0 X => ?_)
  refine zsr ?_
  refine zc rfl (zbx (zt rfl) rfl rfl ?_)
  refine zc rfl (zas (zi zdc) rfl ?_)
  refine zc rfl (zas has_nil rfl ?_)
  refine zn0 ?_
  refine zw2 ?_
  refine zsr ?_
  refine zc rfl (zmv (zt rfl) rfl ?_)
  refine zc rfl (zcl zhf (hc (zt rfl) hz) (rs := []) (bxs := []) zdc bz (c_nodeset_Valid s) rfl rfl rfl (fun d b hd hl => ?_))
  obtain ⟨rfl, rfl⟩ := hd
  refine zc rfl (op_not (zt rfl) rfl ?_)
  refine zn0 ?_
  refine zwc (zt rfl) (fun h1 => ?_) (fun h1 => ?_)
  · skip
    have hv : ¬ validS s = true := by simpa using h1
    refine zsr ?_
    refine zc rfl (zas (zi zdc) rfl ?_)
    refine zc rfl (zas has_nil rfl ?_)
    refine zn0 ?_
    refine zwr ?_
    refine ztr ?_
    refine zpr [] (res2 (zrt rfl) (zrt rfl)) rfl lz ?_
    rw [elim, if_neg hv]
    exact ⟨rfl, rfl⟩
  · skip
    have hv : validS s = true := by simpa using h1
    have hsp := validS_SetP.1 hv
    have hd := decl_set c
    have hsp1 := hsp.1
    have hd1 := hd.1
    refine zws ?_
    refine ztn ?_
    refine zsr ?_
    refine zc rfl (zas has_nil rfl ?_)
    refine zn0 ?_
    refine zsr ?_
    refine zc rfl (zmv (zt rfl) rfl ?_)
    refine zc rfl (zld (n := 1) (zt rfl) zk rfl rfl rfl rfl ?_)
    refine zc rfl (zcl zhf (hc (zt rfl) hz) (rs := []) (bxs := []) zdc bz (c_configuration_Declared c) rfl rfl rfl (fun d b hd hl => ?_))
    obtain ⟨rfl, rfl⟩ := hd
    refine zc rfl (op_bit (zt rfl) (zt rfl) (by first | exact Int.natCast_nonneg _ | omega) (by first | exact Int.natCast_nonneg _ | omega) rfl rfl ?_)
    refine zc rfl (zas (zt rfl) rfl ?_)
    refine zn0 ?_
    refine zwb ?_
    refine awp_loop2 (fs := [(2, _)]) (fb := [(.o 2, _)]) (fun (s1 : Int) (out : List Int) => [(1, VI s1), (6, .one (.slt 1011 (iRows out)))]) (fun (s1 : Int) (out : List Int) => []) (fun (s1 : Int) (out : List Int) => [(1011, (3, 1))]) (fun (s1 : Int) (out : List Int) => (ElimI c (andI s (Config.declared c)) s1 out)) (fun (s1 : Int) (out : List Int) => popN (s1).toNat) ((s.toNat &&& (Config.declared c).toNat : Nat) : Int) [] ((le_adopt (q := 1011) (t := 6) (e := 3) (k := 1) zdc rfl).trans (le_of (sc rfl (sc rfl (sc rfl sz))) (xc rfl xz) (kc rfl kz))) ?_ ?_
    · exact ElimI.begin hsp
    · intro s1 out hI
      have hs1 := hI.set
      have hs10 := hs1.1
      have hlo := hI.cnt
      refine zwb ?_
      refine zsr ?_
      refine zc rfl (zld (n := 1) (zt rfl) zk rfl rfl rfl rfl ?_)
      refine zc rfl (zmv (zt rfl) rfl ?_)
      refine zc rfl (zcl zhf (hc (zt rfl) (hc (zt rfl) hz)) (rs := []) (bxs := []) zdc bz (c_closure_unhappy c s1 (by first | assumption | omega | trivial | (simp; done) | (constructor <;> omega)) (hI.sub)) rfl rfl rfl (fun d b hd hl => ?_))
      obtain ⟨rfl, rfl⟩ := hd
      refine zc rfl (zmv (zt rfl) rfl ?_)
      refine zc rfl (op_extract (zt rfl) rfl rfl ?_)
      refine zc rfl (op_extract (zt rfl) rfl rfl ?_)
      refine zc rfl (zas (zt rfl) rfl ?_)
      refine zc rfl (zas (zt rfl) rfl ?_)
      refine zn0 ?_
      refine zw2 ?_
      refine zsr ?_
      refine zc rfl (zmv (zt rfl) rfl ?_)
      refine zc rfl (op_not (zt rfl) rfl ?_)
      refine zn0 ?_
      refine awp_le (le_of (ls := [(1, VI s1), (2, .one (.ref (.o 2) 0)), (6, .one (.slt 1011 (iRows out))), (7, VI (unhP c s1).1), (23, VB (!(unhP c s1).2))]) (bs := [(.o 2, [.dat (.sl (c.map Member.d))])]) (ts := [(1011, (3, 1))]) (sc rfl (sc rfl (sc rfl (sc rfl (sc rfl sz))))) (xc rfl xz) (kc rfl kz)) ?_
      refine zwc (zt rfl) (fun h2 => ?_) (fun h2 => ?_)
      · skip
        have hu := unhP_none (by simpa using h2)
        have hfin := hI.done hu
        refine zsr ?_
        refine zc rfl (zmv (zt rfl) rfl ?_)
        refine zc rfl (zmv (zt rfl) rfl ?_)
        refine zc rfl (zas (zt rfl) rfl ?_)
        refine zc rfl (zas (zt rfl) rfl ?_)
        refine zn0 ?_
        refine zwr ?_
        refine ztr ?_
        refine blk_ret ?_
        refine ztr ?_
        refine blk_ret ?_
        refine zpr [] (res2 (zrt rfl) (zrt rfl)) rfl lz ?_
        rw [elim, if_pos hv, hfin]
        exact ⟨rfl, rfl⟩
      · skip
        have hu := unhP_some (by simpa using h2)
        have hr := has_range (unh_has hu)
        refine zws ?_
        refine ztn ?_
        refine zsr ?_
        refine zc rfl (zmv (zt rfl) rfl ?_)
        refine zc rfl (zmv (zt rfl) rfl ?_)
        refine zc rfl (zbs (e := 3) (ps := [(_, _)]) (qs := [(_, _)]) (n := 1) (rows := [[_]]) (pc (zt rfl) rfl pz) zk zdc ⟨[.dat (.int .i64 0)], by kernel_rfl⟩ rfl rfl (by simp [Uni]) rfl zdc rfl ?_)
        refine zc rfl (op_append (e := 3) (k := 1) (b := 8) (zt rfl) rfl (zt rfl) rfl zk (by first | exact uni_snoc (uni_map (f := iRow) (fun _ => rfl) _) rfl | (simp [Uni]; done)) (by first | (simp; done) | (simp; omega) | (simp at *; omega)) (by first | (simp; done) | (simp; omega) | (simp at *; omega)) rfl ?_)
        refine zc rfl (zas (zt rfl) rfl ?_)
        refine zn0 ?_
        refine zre ?_
        refine zc rfl (zmv (zt rfl) rfl ?_)
        refine zc rfl (zmv (zt rfl) rfl ?_)
        refine zc rfl (op_shl (zi zdc) (zt rfl) zom zom (by show _ ≤ 64; omega) (ink_shl1 zom) rfl ?_)
        refine zc rfl (op_bit (zt rfl) (zt rfl) (by first | exact Int.natCast_nonneg _ | omega) (by first | exact Int.natCast_nonneg _ | omega) rfl rfl ?_)
        refine zc rfl (zas (zt rfl) rfl ?_)
        refine zn0 ?_
        refine zbn ?_
        refine ztn ?_
        refine ⟨((s1.toNat ^^^ (s1.toNat &&& (((1 : Int).toNat <<< (unhP c s1).1.toNat : Nat) : Int).toNat) : Nat) : Int), (out ++ [(unhP c s1).1]), ?_, ?_, ((le_retok (q := 29) (p := 1011) (s := 6) rfl rfl).trans (le_of (sc rfl (sc rfl (sc (slt_eq rfl (by first | rfl | exact List.map_append | (simp only [List.map_append, List.map_cons, List.map_nil]; rfl) | simp)) sz))) (xc rfl xz) (kc rfl kz)))⟩
        · exact hI.step hu
        · have := popN_rem (unh_has hu); exact Nat.lt_of_succ_le (Nat.le_of_eq this)

theorem c_closure_Greatest (c : List Member) (s : Int) (hok : ∀ m ∈ c, m.trust.ok) : ACalls Tryz.prog 97 [.aggd (Config.d c), VI s] [] fun dd bb => dd = VI (elim c s).1 ∧ bb = [] := by
  refine zai Tryz.func97 rfl Tryz.ntmps97 (by rw [Tryz.results97]) rfl rfl (fun w0 A0 X => ?_)
  refine zsr ?_
  refine zc rfl (zbx (zt rfl) rfl rfl ?_)
  refine zc rfl (zas (zi zdc) rfl ?_)
  refine zn0 ?_
  refine zsr ?_
  refine zc rfl (zld (n := 1) (zt rfl) zk rfl rfl rfl rfl ?_)
  refine zc rfl (zmv (zt rfl) rfl ?_)
  refine zc rfl (zcl zhf (hc (zt rfl) (hc (zt rfl) hz)) (rs := []) (bxs := []) zdc bz (c_closure_eliminate c s (by first | assumption | omega | trivial | (simp; done) | (constructor <;> omega))) rfl rfl rfl (fun d b hd hl => ?_))
  obtain ⟨rfl, rfl⟩ := hd
  refine zc rfl (zmv (zt rfl) rfl ?_)
  refine zc rfl (op_extract (zt rfl) rfl rfl ?_)
  refine zc rfl (op_extract (zt rfl) rfl rfl ?_)
  refine zc rfl (zas (zt rfl) rfl ?_)
  refine zc rfl (zas (zt rfl) rfl ?_)
  refine zn0 ?_
  refine zsr ?_
  refine zc rfl (zmv (zt rfl) rfl ?_)
  refine zc rfl (zas (zt rfl) rfl ?_)
  refine zn0 ?_
  refine zwr ?_
  refine zpr [] (res1 (zrt rfl)) rfl lz ?_
  exact ⟨rfl, rfl⟩

end Go.TQ
