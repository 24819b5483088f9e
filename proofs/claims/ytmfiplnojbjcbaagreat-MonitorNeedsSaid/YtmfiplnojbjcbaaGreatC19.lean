/- Contracts of functions of the program, each for every input that its hypotheses let in; printed by a program of our own (s19). -/
import Derived.Test.YtmfiplnojbjcbaaGreatC18
set_option linter.unusedVariables false
set_option linter.unusedSimpArgs false
set_option maxRecDepth 10000
set_option maxHeartbeats 4000000
namespace Go.TQ
open Go.Proofs


theorem elimF_left {c : List Member} {n : Nat} {s : Int} (h : (elimF c n s).2 = []) : (elimF c n s).1 = s := by
  cases n with
  | zero => rfl
  | succ n =>
    rw [elimF] at h ⊢
    split
    · rfl
    · rename_i hu; rw [hu] at h; cases h
theorem elimF_next {c : List Member} {n : Nat} {s x : Int} {l : List Int} (h : (elimF c n s).2 = x :: l) : has s x = true ∧ ∃ m, elimF c m (remI s x) = ((elimF c n s).1, l) := by
  cases n with
  | zero => cases h
  | succ n =>
    cases hu : unh c s with
    | none => rw [elimF_none hu] at h; cases h
    | some k =>
      rw [elimF_some hu] at h ⊢
      injection h with h1 h2
      subst h1
      exact ⟨unh_has hu, n, by rw [← h2]⟩
theorem all_unh {c : List Member} {s : Int} {k : Nat} (h : unh c s = ((nodesN s).drop k).find? fun k => !satAt c s k) (hk : (nodesN s).length ≤ k) : unh c s = none := by
  rw [h, List.drop_of_length_le hk]; rfl

theorem c_trustquorumref09_Elimination (c : List Member) (s : Int) (hok : ∀ m ∈ c, m.trust.ok) : ACalls Tryz.prog 36 [.aggd (Config.d c), VI s] [] fun dd bb => dd = VR (iRows (elim c s).2) ∧ bb = [] := by
  refine zai Tryz.func36 rfl Tryz.ntmps36 (by rw [Tryz.results36]) rfl rfl (fun w0 A0 X => ?_)
  refine zsr ?_
  refine zc rfl (zbx (zt rfl) rfl rfl ?_)
  refine zc rfl (zas has_nil rfl ?_)
  refine zn0 ?_
  refine zw2 ?_
  refine zsr ?_
  refine zc rfl (zmv (zt rfl) rfl ?_)
  refine zc rfl (zcl zhf (hc (zt rfl) hz) (rs := []) (bxs := []) zdc bz (c_trustquorumref01_Valid s) rfl rfl rfl (fun d b hd hl => ?_))
  obtain ⟨rfl, rfl⟩ := hd
  refine zc rfl (op_not (zt rfl) rfl ?_)
  refine zn0 ?_
  refine zwc (zt rfl) (fun h1 => ?_) (fun h1 => ?_)
  · skip
    have hv : ¬ validS s = true := by simpa using h1
    refine zsr ?_
    refine zc rfl (zas has_nil rfl ?_)
    refine zn0 ?_
    refine zwr ?_
    refine ztr ?_
    refine zpr [] (res1 (zrt rfl)) rfl lz ?_
    rw [elim, if_neg hv]
    exact ⟨rfl, rfl⟩
  · skip
    have hv : validS s = true := by simpa using h1
    have hsp := validS_SetP.1 hv
    have hd := decl_set c
    have hsp1 := hsp.1
    have hd1 := hd.1
    refine zws ?_
    refine ztn ?_
    refine zsr ?_
    refine zc rfl (zmv (zt rfl) rfl ?_)
    refine zc rfl (zld (n := 1) (zt rfl) zk rfl rfl rfl rfl ?_)
    refine zc rfl (zcl zhf (hc (zt rfl) hz) (rs := []) (bxs := []) zdc bz (c_trustquorumref06_Declared c) rfl rfl rfl (fun d b hd hl => ?_))
    obtain ⟨rfl, rfl⟩ := hd
    refine zc rfl (op_bit (zt rfl) (zt rfl) (by first | exact Int.natCast_nonneg _ | omega) (by first | exact Int.natCast_nonneg _ | omega) rfl rfl ?_)
    refine zc rfl (zas (zt rfl) rfl ?_)
    refine zn0 ?_
    refine zsr ?_
    refine zc rfl (zas has_nil rfl ?_)
    refine zn0 ?_
    refine zw2 ?_
    refine zsr ?_
    refine zc rfl (zas zb0 rfl ?_)
    refine zn0 ?_
    refine zwb ?_
    refine awp_loop3 (fs := [(2, _)]) (fb := [(.o 2, _)]) (fun (left : Int) (out : List Int) (again : Bool) => [(5, VI left), (6, .one (.slt 1011 (iRows out))), (7, VB again)]) (fun (left : Int) (out : List Int) (again : Bool) => []) (fun (left : Int) (out : List Int) (again : Bool) => [(1011, (3, 1))]) (fun (left : Int) (out : List Int) (again : Bool) => (ElimI c (andI s (Config.declared c)) left out) ∧ (again = false → unh c left = none)) (fun (left : Int) (out : List Int) (again : Bool) => if again = true then popN (left).toNat + 1 else 0) ((s.toNat &&& (Config.declared c).toNat : Nat) : Int) [] true ((le_adopt (q := 1011) (t := 6) (e := 3) (k := 1) zdc rfl).trans (le_of (sc rfl (sc rfl (sc rfl (sc rfl sz)))) (xc rfl xz) (kc rfl kz))) ?_ ?_
    · refine ⟨?_, ?_⟩
      · exact ElimI.begin hsp
      · intro h; cases h
    · intro left out again ⟨hI, ha⟩
      have hs1 := hI.set
      have hs10 := hs1.1
      have hlo := hI.cnt
      refine zw2 ?_
      refine zsr ?_
      refine zc rfl (zmv (zt rfl) rfl ?_)
      refine zn0 ?_
      refine zwc (zt rfl) (fun h2 => ?_) (fun h2 => ?_)
      · skip
        refine zws ?_
        refine ztn ?_
        refine zwb ?_
        refine zsr ?_
        refine zc rfl (zas zb0 rfl ?_)
        refine zn0 ?_
        refine zsr ?_
        refine zc rfl (zmv (zt rfl) rfl ?_)
        refine zc rfl (zcl zhf (hc (zt rfl) hz) (rs := []) (bxs := []) zdc bz (c_trustquorumref01_Nodes left) rfl rfl rfl (fun d b hd hl => ?_))
        obtain ⟨rfl, rfl⟩ := hd
        refine zc rfl (zln (e := 3) (n := 1) (zt rfl) rfl zk rfl (fun hl20 => ?_))
        try simp only [List.length_map] at hl20
        refine zc rfl (zmv (zi zdc) rfl ?_)
        refine zn0 ?_
        refine zwb ?_
        refine zlp (fs := [(2, _), (5, _), (6, _), (7, _), (19, _), (20, _)]) (fb := [(.o 2, _)]) (fun (k : Nat) => [(21, VI ((k : Nat) : Int))]) (fun (k : Nat) => []) (fun (k : Nat) => [(1011, (3, 1))]) (fun (k : Nat) => (k ≤ (nodesN left).length) ∧ (unh c left = ((nodesN left).drop k).find? fun k => !satAt c left k)) (fun (k : Nat) => (nodesN left).length - k) 0 (le_of (sc rfl (sc rfl (sc rfl (sc rfl (sc rfl (sc rfl (sc rfl sz))))))) (xc rfl xz) (kc rfl kz)) ?_ ?_
        · refine ⟨?_, ?_⟩
          · exact zen
          · rfl
        · intro k ⟨hk, hf⟩
          refine zsr ?_
          refine zc rfl (zcm (zt rfl) (zt rfl) rfl rfl ?_)
          refine zn0 ?_
          refine zw2 ?_
          refine zwc (zt rfl) (fun h3 => ?_) (fun h3 => ?_)
          · skip
            have g3 := h3
            try simp only [zbz, List.length_map] at g3
            have hkl : ((k : Nat) : Int) < ((nodesN left).length : Int) := by omega
            have hkl : k < (nodesN left).length := by omega
            have hh := mem_nodesN.1 (mem_at hkl)
            have hr := has_range hh
            have hkc := hI.sub _ hh
            have h2c := hr.2
            refine zws ?_
            refine ztn ?_
            refine zw2 ?_
            refine zwb ?_
            refine zsr ?_
            refine zc rfl (op_indexAddr (e := 3) (n := 1) (zt rfl) rfl (zt rfl) zk zom (show (iRows (nodesN left))[k]? = some (iRow (nodesN left)[k]!) from (map_getD zom)) rfl rfl ?_)
            refine zc rfl (op_load_imm1 (zt rfl) zk rfl rfl ?_)
            refine zc rfl (zas (zt rfl) rfl ?_)
            refine zn0 ?_
            refine awp_le (le_of (ls := [(2, .one (.ref (.o 2) 0)), (5, VI left), (6, .one (.slt 1011 (iRows out))), (7, VB false), (9, VI (nodesN left)[k]!), (19, VR (iRows (nodesN left))), (20, VI ((iRows (nodesN left)).length : Int)), (21, VI ((k : Nat) : Int))]) (bs := [(.o 2, [.dat (.sl (c.map Member.d))])]) (ts := [(1011, (3, 1))]) (sc rfl (sc rfl (sc rfl (sc rfl (sc rfl (sc rfl (sc rfl (sc rfl sz)))))))) (xc rfl xz) (kc rfl kz)) ?_
            refine zsr ?_
            refine zc rfl (zfa (o := 0) (zt rfl) zk rfl ?_)
            refine zc rfl (zl1 (zt rfl) zk rfl rfl rfl ?_)
            refine zc rfl (zmv (zt rfl) rfl ?_)
            refine zc rfl (op_indexAddr (e := 81) (n := 4) (zt rfl) rfl (zt rfl) zk zom (show (c.map Member.d)[(nodesN left)[k]!.toNat]? = some (c[(nodesN left)[k]!.toNat]!.d) from (map_getD zom)) rfl rfl ?_)
            refine zc rfl (op_fieldAddr_imm (o := 1) (zt rfl) zk rfl ?_)
            refine zc rfl (op_load_imm (n := 3) (zt rfl) zk rfl rfl rfl ?_)
            refine zc rfl (zmv (zt rfl) rfl ?_)
            refine zc rfl (zcl zhf (hc (zt rfl) (hc (zt rfl) hz)) (rs := []) (bxs := []) zdc bz (c_trustquorumref02_Satisfied c[(nodesN left)[k]!.toNat]!.trust left (at_ok hok (by omega) hkc)) rfl rfl rfl (fun d b hd hl => ?_))
            obtain ⟨rfl, rfl⟩ := hd
            refine zc rfl (op_not (zt rfl) rfl ?_)
            refine zn0 ?_
            refine zwc (zt rfl) (fun h4 => ?_) (fun h4 => ?_)
            · skip
              have g4 : (!satAt c left (nodesN left)[k]!) = true := h4
              have hu : unh c left = some (nodesN left)[k]! := by rw [hf, find_here hkl g4]
              have hb := (one_set (show 0 ≤ (nodesN left)[k]! ∧ (nodesN left)[k]! < 10 by omega))
              have hb1 := hb.1
              have hb2 := hb.2
              refine zsr ?_
              refine zc rfl (zmv (zt rfl) rfl ?_)
              refine zc rfl (zmv (zt rfl) rfl ?_)
              refine zc rfl (op_shl (zi zdc) (zt rfl) zom zom (by show _ ≤ 64; omega) (ink_shl1 zom) rfl ?_)
              refine zc rfl (zar (zt rfl) (zt rfl) rfl (ink64 zom zom) rfl ?_)
              refine zc rfl (zas (zt rfl) rfl ?_)
              refine zn0 ?_
              refine zsr ?_
              refine zc rfl (zmv (zt rfl) rfl ?_)
              refine zc rfl (zmv (zt rfl) rfl ?_)
              refine zc rfl (zbs (e := 3) (ps := [(_, _)]) (qs := [(_, _)]) (n := 1) (rows := [[_]]) (pc (zt rfl) rfl pz) zk zdc ⟨[.dat (.int .i64 0)], by kernel_rfl⟩ rfl rfl (by simp [Uni]) rfl zdc rfl ?_)
              refine zc rfl (op_append (e := 3) (k := 1) (b := 8) (zt rfl) rfl (zt rfl) rfl zk (by first | exact uni_snoc (uni_map (f := iRow) (fun _ => rfl) _) rfl | (simp [Uni]; done)) (by first | (simp; done) | (simp; omega) | (simp at *; omega)) (by first | (simp; done) | (simp; omega) | (simp at *; omega)) rfl ?_)
              refine zc rfl (zas (zt rfl) rfl ?_)
              refine zn0 ?_
              refine zsr ?_
              refine zc rfl (zas zb0 rfl ?_)
              refine zn0 ?_
              refine zwe ?_
              refine blk_other rfl ?_
              refine zte ?_
              refine zte ?_
              refine zbk ?_
              refine zbn ?_
              refine ztn ?_
              refine ⟨(left - (((1 : Int).toNat <<< (nodesN left)[k]!.toNat : Nat) : Int)), (out ++ [(nodesN left)[k]!]), true, ?_, ?_, ((le_retok (q := 41) (p := 1011) (s := 6) rfl rfl).trans (le_of (sc rfl (sc rfl (sc (slt_eq rfl (by first | rfl | exact List.map_append | (simp only [List.map_append, List.map_cons, List.map_nil]; rfl) | simp)) (sc rfl sz)))) (xc rfl xz) (kc rfl kz)))⟩
              · refine ⟨?_, ?_⟩
                · first | exact hI | (rw [rem_sub hh]; exact hI.step hu)
                · first | (intro h; cases h; done) | exact fun _ => hu
              · first | (have := popN_rem hh; rw [rem_sub hh, h2]; simp only [if_true]; omega) | (rw [h2]; simp)
            · skip
              have g4 : (!satAt c left (nodesN left)[k]!) = false := h4
              refine zws ?_
              refine zbn ?_
              refine ztn ?_
              refine zre ?_
              refine zc rfl (zar (zt rfl) (zi zdc) rfl (ink64 zom zom) rfl ?_)
              refine zc rfl (zmv (zt rfl) rfl ?_)
              refine zn0 ?_
              refine ztn ?_
              refine ⟨k + 1, ?_, ?_, (le_of (sc rfl (sc rfl (sc rfl (sc rfl (sc rfl (sc rfl (sc rfl sz))))))) (xc rfl xz) (kc rfl kz))⟩
              · refine ⟨?_, ?_⟩
                · exact zen
                · exact hf.trans (find_step hkl g4).symm
              · first | omega | (simp at *; omega)
          · skip
            have g3 := h3
            try simp only [zbz, List.length_map] at g3
            have hu := all_unh hf (by omega)
            refine zwe ?_
            refine zte ?_
            refine zte ?_
            refine zbk ?_
            refine zbn ?_
            refine ztn ?_
            refine ⟨left, out, false, ?_, ?_, (le_of (sc rfl (sc rfl (sc (slt_eq rfl (by first | rfl | exact List.map_append | (simp only [List.map_append, List.map_cons, List.map_nil]; rfl) | simp)) (sc rfl sz)))) (xc rfl xz) (kc rfl kz))⟩
            · refine ⟨?_, ?_⟩
              · first | exact hI | (rw [rem_sub hh]; exact hI.step hu)
              · first | (intro h; cases h; done) | exact fun _ => hu
            · first | (have := popN_rem hh; rw [rem_sub hh, h2]; simp only [if_true]; omega) | (rw [h2]; simp)
      · skip
        have hfin := hI.done (ha h2)
        refine zwe ?_
        refine zte ?_
        refine zte ?_
        refine zbk ?_
        refine ztn ?_
        refine zsr ?_
        refine zc rfl (zmv (zt rfl) rfl ?_)
        refine zc rfl (zas (zt rfl) rfl ?_)
        refine zn0 ?_
        refine awp_le (le_of (ls := [(4, .one (.slt 1011 (iRows out)))]) (bs := []) (ts := [(1011, (3, 1))]) (sc rfl sz) xz (kc rfl kz)) ?_
        refine zwr ?_
        refine zpr [] (res1 (zrt rfl)) rfl lz ?_
        rw [elim, if_pos hv, hfin]
        exact ⟨rfl, rfl⟩

theorem c_trustquorumref09_Greatest (c : List Member) (s : Int) (hok : ∀ m ∈ c, m.trust.ok) : ACalls Tryz.prog 16 [.aggd (Config.d c), VI s] [] fun dd bb => dd = VI (elim c s).1 ∧ bb = [] := by
  refine zai Tryz.func16 rfl Tryz.ntmps16 (by rw [Tryz.results16]) rfl rfl (fun w0 A0 X => ?_)
  refine zsr ?_
  refine zc rfl (zbx (zt rfl) rfl rfl ?_)
  refine zc rfl (zas (zi zdc) rfl ?_)
  refine zn0 ?_
  refine zw2 ?_
  refine zsr ?_
  refine zc rfl (zmv (zt rfl) rfl ?_)
  refine zc rfl (zcl zhf (hc (zt rfl) hz) (rs := []) (bxs := []) zdc bz (c_trustquorumref01_Valid s) rfl rfl rfl (fun d b hd hl => ?_))
  obtain ⟨rfl, rfl⟩ := hd
  refine zc rfl (op_not (zt rfl) rfl ?_)
  refine zn0 ?_
  refine zwc (zt rfl) (fun h1 => ?_) (fun h1 => ?_)
  · skip
    have hv : ¬ validS s = true := by simpa using h1
    refine zsr ?_
    refine zc rfl (zas (zi zdc) rfl ?_)
    refine zn0 ?_
    refine zwr ?_
    refine ztr ?_
    refine zpr [] (res1 (zrt rfl)) rfl lz ?_
    rw [elim, if_neg hv]
    exact ⟨rfl, rfl⟩
  · skip
    have hv : validS s = true := by simpa using h1
    have hsp := validS_SetP.1 hv
    have hd := decl_set c
    have hsp1 := hsp.1
    have hd1 := hd.1
    refine zws ?_
    refine ztn ?_
    refine zsr ?_
    refine zc rfl (zmv (zt rfl) rfl ?_)
    refine zc rfl (zld (n := 1) (zt rfl) zk rfl rfl rfl rfl ?_)
    refine zc rfl (zcl zhf (hc (zt rfl) hz) (rs := []) (bxs := []) zdc bz (c_trustquorumref06_Declared c) rfl rfl rfl (fun d b hd hl => ?_))
    obtain ⟨rfl, rfl⟩ := hd
    refine zc rfl (op_bit (zt rfl) (zt rfl) (by first | exact Int.natCast_nonneg _ | omega) (by first | exact Int.natCast_nonneg _ | omega) rfl rfl ?_)
    refine zc rfl (zas (zt rfl) rfl ?_)
    refine zn0 ?_
    refine zw2 ?_
    refine zsr ?_
    refine zc rfl (zld (n := 1) (zt rfl) zk rfl rfl rfl rfl ?_)
    refine zc rfl (zmv (zt rfl) rfl ?_)
    refine zc rfl (zcl zhf (hc (zt rfl) (hc (zt rfl) hz)) (rs := []) (bxs := []) zdc bz (c_trustquorumref09_Elimination c s (by first | assumption | omega | trivial | (simp; done) | (constructor <;> omega))) rfl rfl rfl (fun d b hd hl => ?_))
    obtain ⟨rfl, rfl⟩ := hd
    refine zc rfl (zln (e := 3) (n := 1) (zt rfl) rfl zk rfl (fun hl18 => ?_))
    try simp only [List.length_map] at hl18
    refine zc rfl (zmv (zi zdc) rfl ?_)
    refine zn0 ?_
    refine zwb ?_
    refine awp_loop2 (fs := [(17, _), (18, _)]) (fb := []) (fun (left : Int) (k : Nat) => [(5, VI left), (19, VI ((k : Nat) : Int))]) (fun (left : Int) (k : Nat) => []) (fun (left : Int) (k : Nat) => []) (fun (left : Int) (k : Nat) => (k ≤ (elim c s).2.length) ∧ (SetP left) ∧ (∃ n, elimF c n left = ((elim c s).1, (elim c s).2.drop k))) (fun (left : Int) (k : Nat) => (elim c s).2.length - k) ((s.toNat &&& (Config.declared c).toNat : Nat) : Int) 0 (le_of (sc rfl (sc rfl (sc rfl (sc rfl sz)))) xz kz) ?_ ?_
    · refine ⟨?_, ?_, ?_⟩
      · exact zen
      · exact andI_set hsp
      · exact ⟨11, by rw [elim, if_pos hv]; rfl⟩
    · intro left k ⟨hk, hs1, hI⟩
      obtain ⟨n, hn⟩ := hI
      refine zsr ?_
      refine zc rfl (zcm (zt rfl) (zt rfl) rfl rfl ?_)
      refine zn0 ?_
      refine zw2 ?_
      refine zwc (zt rfl) (fun h2 => ?_) (fun h2 => ?_)
      · skip
        have g2 := h2
        try simp only [zbz, List.length_map] at g2
        have hkl : k < (elim c s).2.length := by omega
        have he : (elimF c n left).2 = (elim c s).2[k]! :: (elim c s).2.drop (k + 1) := by rw [hn]; show List.drop k _ = _; rw [List.drop_eq_getElem_cons hkl, getElem!_pos _ k hkl]
        obtain ⟨hx, m, hm⟩ := elimF_next he
        have hr := has_range hx
        have hs10 := hs1.1
        have hs12 := hs1.2
        have hb := (one_set (show 0 ≤ (elim c s).2[k]! ∧ (elim c s).2[k]! < 10 by omega))
        have hb1 := hb.1
        have hb2 := hb.2
        refine zws ?_
        refine ztn ?_
        refine zw2 ?_
        refine zwb ?_
        refine zsr ?_
        refine zc rfl (op_indexAddr (e := 3) (n := 1) (zt rfl) rfl (zt rfl) zk zom (show (iRows (elim c s).2)[k]? = some (iRow (elim c s).2[k]!) from (map_getD zom)) rfl rfl ?_)
        refine zc rfl (op_load_imm1 (zt rfl) zk rfl rfl ?_)
        refine zc rfl (zas (zt rfl) rfl ?_)
        refine zn0 ?_
        refine zre ?_
        refine zc rfl (zmv (zt rfl) rfl ?_)
        refine zc rfl (zmv (zt rfl) rfl ?_)
        refine zc rfl (op_shl (zi zdc) (zt rfl) zom zom (by show _ ≤ 64; omega) (ink_shl1 zom) rfl ?_)
        refine zc rfl (zar (zt rfl) (zt rfl) rfl (ink64 zom zom) rfl ?_)
        refine zc rfl (zas (zt rfl) rfl ?_)
        refine zn0 ?_
        refine zbn ?_
        refine ztn ?_
        refine zre ?_
        refine zc rfl (zar (zt rfl) (zi zdc) rfl (ink64 zom zom) rfl ?_)
        refine zc rfl (zmv (zt rfl) rfl ?_)
        refine zn0 ?_
        refine ztn ?_
        refine ⟨(left - (((1 : Int).toNat <<< (elim c s).2[k]!.toNat : Nat) : Int)), k + 1, ?_, ?_, (le_of (sc rfl (sc rfl (sc rfl (sc rfl sz)))) xz kz)⟩
        · refine ⟨?_, ?_, ?_⟩
          · exact zen
          · rw [rem_sub hx]; exact remI_set hs1
          · rw [rem_sub hx]; rw [hn] at hm; exact ⟨m, hm⟩
        · first | omega | (simp at *; omega)
      · skip
        have g2 := h2
        try simp only [zbz, List.length_map] at g2
        have hfin := elimF_left (c := c) (n := n) (s := left) (by rw [hn]; exact List.drop_of_length_le (by omega))
        refine zwe ?_
        refine zte ?_
        refine zte ?_
        refine zbk ?_
        refine ztn ?_
        refine zsr ?_
        refine zc rfl (zmv (zt rfl) rfl ?_)
        refine zc rfl (zas (zt rfl) rfl ?_)
        refine zn0 ?_
        refine zwr ?_
        refine zpr [] (res1 (zrt rfl)) rfl lz ?_
        rw [hn] at hfin
        have hfin2 : (elim c s).1 = left := hfin
        rw [hfin2]
        exact ⟨rfl, rfl⟩

end Go.TQ
