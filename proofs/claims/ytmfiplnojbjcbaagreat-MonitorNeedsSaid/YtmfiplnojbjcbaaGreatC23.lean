/- Contracts of functions of the program, each for every input that its hypotheses let in; printed by a program of our own (s23). -/
import Derived.Test.YtmfiplnojbjcbaaGreatC22
set_option linter.unusedVariables false
set_option linter.unusedSimpArgs false
set_option maxRecDepth 10000
set_option maxHeartbeats 4000000
namespace Go.TQ
open Go.Proofs


def seenTo (m : Fil) (slot : Int) : Nat → List Env
  | 0 => []
  | n + 1 => if (newestL (getK ⟨(n : Int), slot⟩ m)).2 = true then seenTo m slot n ++ [(newestL (getK ⟨(n : Int), slot⟩ m)).1] else seenTo m slot n
def othTo (t : Trust) (m : Fil) (slot : Int) : Nat → Int
  | 0 => t.uses
  | n + 1 => if (newestL (getK ⟨(n : Int), slot⟩ m)).2 = true then orBit (othTo t m slot n) (n : Int) else othTo t m slot n
def ownL (m : Fil) (p : Place) : Env × Bool := newestL (getK p m)
def helpP (b : Ballot) (e : Env) : Bool := e.rVotes b || e.rAccepts b
def helpL (m : Fil) (p : Place) : Int := whoL (helpP (ownL m p).1.b) ((seenTo m p.slot 10).filter Env.validP)
def viewL (m : Fil) (p : Place) : List Member := viewC p.node (ownL m p).1.trust (seenTo m p.slot 10)
def othL (m : Fil) (p : Place) : Int := difI (othTo (ownL m p).1.trust m p.slot 10) (helpL m p)
def stuckNo (m : Fil) (p : Place) : Bool := (!(ownL m p).2 || !decide ((ownL m p).1.kind = 1)) || (ownL m p).1.acceptsP (ownL m p).1.b
/-- What is said of a node for a slot. -/
structure StuckP (m : Fil) (p : Place) (f : Finding) (b : Bool) : Prop where
  no : stuckNo m p = true → b = false
  yes : stuckNo m p = false → b = true ∧ f.node = p.node ∧ f.slot = p.slot ∧ f.kind = 2 ∧ f.value = (ownL m p).1.b.v ∧ ∃ S, (SortedC cmpSet S ∧ S.Perm (subsS (othL m p))) ∧ f.needs.Perm (S.foldl (needStep (viewL m p) (helpL m p) p.node) [])
theorem seenTo_len (m : Fil) (slot : Int) : ∀ n, (seenTo m slot n).length ≤ n
  | 0 => Nat.le_refl _
  | n + 1 => by have := seenTo_len m slot n; rw [seenTo]; split <;> simp <;> omega
theorem seenTo_all {P : Env → Prop} {m : Fil} {slot : Int} (h : ∀ y ∈ m, ∀ e ∈ y.2, P e) : ∀ n, ∀ e ∈ seenTo m slot n, P e
  | 0, e, he => by cases he
  | n + 1, e, he => by
    rw [seenTo] at he
    split at he
    · rename_i hn
      rcases List.mem_append.1 he with he | he
      · exact seenTo_all h n e he
      · rw [List.mem_singleton] at he
        subst he
        cases hg : getK ⟨(n : Int), slot⟩ m with
        | nil => rw [hg] at hn; cases hn
        | cons e0 l0 =>
          have hm : ∀ e ∈ getK ⟨(n : Int), slot⟩ m, P e := fun e he => by obtain ⟨y, h1, h2⟩ := getK_mem he; exact h y h1 e h2
          rw [hg] at hm
          show P ((e0 :: l0).foldl better e0)
          rcases fold_better_mem (e0 :: l0) e0 with h1 | h1
          · rw [h1]; exact hm _ (by simp)
          · exact hm _ h1
    · exact seenTo_all h n e he
theorem own_all {P : Env → Prop} {m : Fil} {p : Place} (h : ∀ y ∈ m, ∀ e ∈ y.2, P e) (ho : (ownL m p).2 = true) : P (ownL m p).1 := by
  unfold ownL at *
  cases hg : getK p m with
  | nil => rw [hg] at ho; cases ho
  | cons e0 l0 =>
    have hm : ∀ e ∈ getK p m, P e := fun e he => by obtain ⟨y, h1, h2⟩ := getK_mem he; exact h y h1 e h2
    rw [hg] at hm
    show P ((e0 :: l0).foldl better e0)
    rcases fold_better_mem (e0 :: l0) e0 with h1 | h1
    · rw [h1]; exact hm _ (by simp)
    · exact hm _ h1
theorem zero_ok : Trust.zero.ok := by unfold Trust.ok; rw [Trust.size_def]; decide
theorem own_ok {m : Fil} {p : Place} (h : ∀ y ∈ m, ∀ e ∈ y.2, e.trust.ok) : (newestL (getK p m)).1.trust.ok := by
  cases ho : (newestL (getK p m)).2 with
  | true => exact own_all (P := fun e => e.trust.ok) h ho
  | false =>
    cases hg : getK p m with
    | nil => exact zero_ok
    | cons e0 l0 => rw [hg] at ho; cases ho
theorem othTo_nn (t : Trust) (m : Fil) (slot : Int) : ∀ n, 0 ≤ othTo t m slot n
  | 0 => Trust.uses_nn t
  | n + 1 => by rw [othTo]; split; exact orBit_nn _ _; exact othTo_nn t m slot n
theorem viewC_ok {node : Int} {t : Trust} {l : List Env} (ht : t.ok) (hl : ∀ e ∈ l, e.trust.ok) : ∀ x ∈ viewC node t l, x.trust.ok := by
  have hz : ∀ x ∈ List.replicate 10 Member.zero, x.trust.ok := fun x hx => by rw [List.eq_of_mem_replicate hx]; exact zero_ok
  have hset : ∀ (c : List Member) (i : Nat) (u : Trust), u.ok → (∀ x ∈ c, x.trust.ok) → ∀ x ∈ c.set i ⟨true, u⟩, x.trust.ok := fun c i u hu hc x hx => by
    rcases List.mem_or_eq_of_mem_set hx with h | h
    · exact hc x h
    · rw [h]; exact hu
  unfold viewC
  split
  · exact hz
  · have : ∀ (l : List Env) (c : List Member), (∀ e ∈ l, e.trust.ok) → (∀ x ∈ c, x.trust.ok) → ∀ x ∈ l.foldl viewStep c, x.trust.ok := by
      intro l
      induction l with
      | nil => exact fun c _ h => h
      | cons e l ih =>
        intro c hl hc
        refine ih _ (fun x hx => hl x (by simp [hx])) ?_
        unfold viewStep
        split
        · exact hset c _ _ (hl e (by simp)) hc
        · exact hc
    exact this l _ hl (hset _ _ _ ht hz)
theorem heard_node {l : List Env} : ∀ e ∈ l.filter Env.validP, 0 ≤ e.node ∧ e.node < 10 := fun e he => by
  have := (List.mem_filter.1 he).2
  rw [validP_eq] at this
  have := valid_node this
  omega

theorem c_stuck_1 (e c0 : Env) : ACalls Tryz.prog 67 [.aggd e.d, .one (.ref (.e 0) 0)] [c0.d.map C.dat] fun dd bb => dd = VB (e.rVotes c0.b || e.rAccepts c0.b) ∧ bb = [c0.d.map C.dat] := by
  refine zai Tryz.func67 rfl Tryz.ntmps67 (by rw [Tryz.results67]) rfl rfl (fun w0 A0 X => ?_)
  refine zsr ?_
  refine zc rfl (zbx (zt rfl) rfl rfl ?_)
  refine zc rfl (zas zb0 rfl ?_)
  refine zn0 ?_
  refine zsr ?_
  refine zc rfl (zld (n := 15) (zt rfl) zk rfl rfl rfl rfl ?_)
  refine zc rfl (zfa (o := 7) (zt rfl) zk rfl ?_)
  refine zc rfl (zld (n := 2) (zt rfl) zk rfl rfl rfl rfl ?_)
  refine zc rfl (zcl zhf (hc (zt rfl) (hc (zt rfl) hz)) (rs := []) (bxs := []) zdc bz (c_Right_VotesPrepare e c0.b) rfl rfl rfl (fun d b hd hl => ?_))
  obtain ⟨rfl, rfl⟩ := hd
  refine zc rfl (zmv (zt rfl) rfl ?_)
  refine zg rfl rfl rfl rfl (zgb rfl) (fun hg => zld (n := 15) (zt rfl) zk rfl rfl rfl rfl rfl) ?_
  refine zg rfl rfl rfl rfl (zgb rfl) (fun hg => zfa (o := 7) (zt rfl) zk rfl rfl) ?_
  refine zg rfl rfl rfl rfl (zgb rfl) (fun hg => zld (n := 2) (zcd (zt rfl) hg) zk rfl rfl rfl rfl rfl) ?_
  refine zg rfl rfl rfl rfl (zgb rfl) (fun hg => zcl zhf (hc (zcd (zt rfl) hg) (hc (zcd (zt rfl) hg) hz)) (rs := []) (bxs := []) zdc bz (c_Right_AcceptsPrepare e c0.b) rfl rfl rfl (fun d b hd hl => by obtain ⟨rfl, rfl⟩ := hd; rfl)) ?_
  refine zc rfl (zor (zt rfl) (.inl zb0) (zt rfl) rfl ?_)
  refine zc rfl (zas (zt rfl) rfl ?_)
  refine zn0 ?_
  refine zwr ?_
  refine zpr [_] (res1 (zrt rfl)) (show _ = 1 from rfl) (l1 rfl) ?_
  exact ⟨rfl, rfl⟩

theorem c_monitor_stuck (m : Fil) (p : Place) (hok : ∀ y ∈ m, ∀ e ∈ y.2, e.trust.ok) (hsub : stuckNo m p = false → (subsS (othL m p)).length ≤ 12) : ACalls Tryz.prog 27 [.one (.map (.e 0)), .aggd p.d] [[.mapc (mkF m)]] fun dd bb => ∃ (f : Finding) (b : Bool), dd = .tup [.aggd f.d, VB b] ∧ bb = [[.mapc (mkF m)]] ∧ (StuckP m p f b) := by
  refine zai Tryz.func27 rfl Tryz.ntmps27 (by rw [Tryz.results27]) rfl rfl (fun w0 A0 X => ?_)
  refine zsr ?_
  refine zc rfl (zbx (zt rfl) rfl rfl ?_)
  refine zc rfl (zal (cs := [.dat (.int .i64 0), .dat (.int .i64 0), .dat (.int .i64 0), .dat (.str ⟨#[]⟩), .nilsl]) zk rfl ?_)
  refine zc rfl (zas zb0 rfl ?_)
  refine zn0 ?_
  refine zsr ?_
  refine zc rfl (zmv (zt rfl) rfl ?_)
  refine zc rfl (zld (n := 2) (zt rfl) zk rfl rfl rfl rfl ?_)
  refine aops_le (le_bxeq (r := .e 0) (cs' := [.mapc (mkF m)]) rfl (by simp only [List.map_cons, List.map_nil, C.unq, C.scrub, mkF_unq])) ?_
  refine zc rfl (op_lookupF (k := p) (kt := 74) (e := 42) (zt rfl) rfl (zt rfl) rfl zk zk rfl ?_)
  refine zc rfl (zcl zhf (hc (zt rfl) hz) (rs := []) (bxs := []) zdc bz (c_monitor_newest (getK p m) (fun e he => by obtain ⟨y, h1, h2⟩ := getK_mem he; exact hok y h1 e h2)) rfl rfl rfl (fun d b hd hl => ?_))
  obtain ⟨rfl, rfl⟩ := hd
  refine zc rfl (zmv (zt rfl) rfl ?_)
  refine zc rfl (op_extract (zt rfl) rfl rfl ?_)
  refine zc rfl (op_extract (zt rfl) rfl rfl ?_)
  refine zc rfl (zal (cs := [.dat (.int .i64 0), .dat (.int .i64 0), .dat (.int .i64 0), .dat (.int .i64 0), .nilsl, .nilsl, .dat (.int .i64 0), .dat (.int .i64 0), .dat (.str ⟨#[]⟩), .dat (.int .i64 0), .dat (.str ⟨#[]⟩), .dat (.int .i64 0), .dat (.str ⟨#[]⟩), .dat (.int .i64 0), .dat (.int .i64 0)]) zk rfl ?_)
  refine zc rfl (zst (n := 15) (zt rfl) (zt rfl) rfl (.inl zk) rfl rfl (zbl rfl) ?_)
  refine zc rfl (zas (zt rfl) rfl ?_)
  refine zn0 ?_
  refine zw2 ?_
  refine zsr ?_
  refine zc rfl (zmv (zt rfl) rfl ?_)
  refine zc rfl (op_not (zt rfl) rfl ?_)
  refine zc rfl (zmv (zt rfl) rfl ?_)
  refine zg rfl rfl rfl rfl (zgb rfl) (fun hg => zfa (o := 6) (zt rfl) zk rfl rfl) ?_
  refine zg rfl rfl rfl rfl (zgb rfl) (fun hg => zl1 (zcd (zt rfl) hg) zk rfl rfl rfl rfl) ?_
  refine zg rfl rfl rfl rfl (zgb rfl) (fun hg => zcm (zcd (zt rfl) hg) (zi zdc) rfl rfl rfl) ?_
  refine zc rfl (zor (zt rfl) (.inl zb0) (zt rfl) rfl ?_)
  refine zc rfl (zmv (zt rfl) rfl ?_)
  refine zg rfl rfl rfl rfl (zgb rfl) (fun hg => zld (n := 15) (zt rfl) zk rfl rfl rfl rfl rfl) ?_
  refine zg rfl rfl rfl rfl (zgb rfl) (fun hg => zfa (o := 7) (zt rfl) zk rfl rfl) ?_
  refine zg rfl rfl rfl rfl (zgb rfl) (fun hg => zld (n := 2) (zcd (zt rfl) hg) zk rfl rfl rfl rfl rfl) ?_
  refine zg rfl rfl rfl rfl (zgb rfl) (fun hg => zcl zhf (hc (zcd (zt rfl) hg) (hc (zcd (zt rfl) hg) hz)) (rs := []) (bxs := []) zdc bz (c_envelopes_AcceptsPrepare (newestL (getK p m)).1 (newestL (getK p m)).1.b (own_ok hok)) rfl rfl rfl (fun d b hd hl => by obtain ⟨rfl, rfl⟩ := hd; rfl)) ?_
  refine zc rfl (zor (zt rfl) (.inl zb0) (zt rfl) rfl ?_)
  refine zn0 ?_
  refine awp_le (le_of (ls := [(0, .one (.map (.e 0))), (3, .one (.ref (.o 3) 0)), (4, .one (.ref (.o 4) 0)), (6, .one (.ref (.o 6) 0)), (35, VB (((!(newestL (getK p m)).2) || (!decide ((newestL (getK p m)).1.kind = 1))) || ((newestL (getK p m)).1.acceptsP (newestL (getK p m)).1.b)))]) (bs := [(.e 0, [.mapc (mkF m)]), (.o 3, [.dat (.int .i64 p.node), .dat (.int .i64 p.slot)]), (.o 4, [.dat (.int .i64 0), .dat (.int .i64 0), .dat (.int .i64 0), .dat (.str ⟨#[]⟩), .nilsl]), (.o 6, [.dat (.int .i64 (newestL (getK p m)).1.node), .dat (.int .i64 (newestL (getK p m)).1.slot), .dat (.int .i64 (newestL (getK p m)).1.seq), .dat (.int .i64 (newestL (getK p m)).1.trust.thr), .dat (.sl (iRows (newestL (getK p m)).1.trust.nodes)), .dat (.sl ((newestL (getK p m)).1.trust.inner.map Trust.enc)), .dat (.int .i64 (newestL (getK p m)).1.kind), .dat (.int .i64 (newestL (getK p m)).1.b.c), .dat (.str (newestL (getK p m)).1.b.v), .dat (.int .i64 (newestL (getK p m)).1.p.c), .dat (.str (newestL (getK p m)).1.p.v), .dat (.int .i64 (newestL (getK p m)).1.q.c), .dat (.str (newestL (getK p m)).1.q.v), .dat (.int .i64 (newestL (getK p m)).1.low), .dat (.int .i64 (newestL (getK p m)).1.high)])]) (ts := []) (sc rfl (sc rfl (sc rfl (sc rfl (sc rfl sz))))) (xc (bx_eq rfl (by simp only [List.map_cons, List.map_nil, C.unq, C.scrub, mkF_unq])) (xc rfl (xc rfl (xc rfl xz)))) kz) ?_
  refine zwc (zt rfl) (fun h1 => ?_) (fun h1 => ?_)
  · skip
    have hno : stuckNo m p = true := h1
    refine zsr ?_
    refine zc rfl (zbd (ps := []) (qs := []) (zs := [.dat (.int .i64 0), .dat (.int .i64 0), .dat (.int .i64 0), .dat (.str ⟨#[]⟩), .nilsl]) (pl := [(0, 1), (1, 1), (2, 1), (3, 1), (4, 1)]) pz zk zk rfl rfl ?_)
    refine zc rfl (zst (n := 5) (zt rfl) (zt rfl) rfl (.inl zk) rfl rfl (zbl rfl) ?_)
    refine zc rfl (zas zb0 rfl ?_)
    refine zn0 ?_
    refine zwr ?_
    refine ztr ?_
    refine zpr [_] (res2 (ri_agg (n := 5) rfl rfl zk rfl) (zrt rfl)) (show _ = 1 from rfl) (l1 rfl) ?_
    refine ⟨(Finding.mk 0 0 0 ⟨#[]⟩ []), false, rfl, rfl, ?_⟩
    exact ⟨fun _ => rfl, fun h => absurd (hno.symm.trans h) zdc⟩
  · skip
    have hno : stuckNo m p = false := h1
    have hown : (newestL (getK p m)).1.trust.ok := by
      have h := hno
      simp only [stuckNo, Bool.or_eq_false_iff, Bool.not_eq_false'] at h
      exact own_all (P := fun e => e.trust.ok) hok h.1.1
    refine zws ?_
    refine ztn ?_
    refine zsr ?_
    refine zc rfl (zas has_nil rfl ?_)
    refine zn0 ?_
    refine zsr ?_
    refine zc rfl (zfa (o := 3) (zt rfl) zk rfl ?_)
    refine zc rfl (zld (n := 3) (zt rfl) zk rfl rfl rfl rfl ?_)
    refine zc rfl (zcl zhf (hc (zt rfl) hz) (rs := []) (bxs := []) zdc bz (c_threshold_Uses (newestL (getK p m)).1.trust) rfl rfl rfl (fun d b hd hl => ?_))
    obtain ⟨rfl, rfl⟩ := hd
    refine zc rfl (zas (zt rfl) rfl ?_)
    refine zn0 ?_
    refine zw2 ?_
    refine zsr ?_
    refine zc rfl (zmv (zi zdc) rfl ?_)
    refine zn0 ?_
    refine zwb ?_
    refine awp_loop3 (fs := [(0, _), (3, _), (4, _), (6, _)]) (fb := [(.e 0, [.mapc (mkF m)]), (.o 3, _), (.o 4, _), (.o 6, _)]) (fun (l : List Env) (others : Int) (k : Nat) => [(8, .one (.slt 1010 (l.map Env.d))), (9, VI others), (40, VI ((k : Nat) : Int))]) (fun (l : List Env) (others : Int) (k : Nat) => []) (fun (l : List Env) (others : Int) (k : Nat) => [(1010, (38, 15))]) (fun (l : List Env) (others : Int) (k : Nat) => (k ≤ 10) ∧ (l = seenTo m p.slot k) ∧ (others = othTo (newestL (getK p m)).1.trust m p.slot k) ∧ (0 ≤ others)) (fun (l : List Env) (others : Int) (k : Nat) => 10 - k) [] (newestL (getK p m)).1.trust.uses 0 ((le_adopt (q := 1010) (t := 8) (e := 38) (k := 15) zdc rfl).trans (le_of (sc rfl (sc rfl (sc rfl (sc rfl (sc rfl (sc rfl (sc rfl sz))))))) (xc (bx_eq rfl (by first | rfl | simp only [List.map_cons, List.map_nil, C.unq, C.scrub, mkF_unq])) (xc rfl (xc rfl (xc rfl xz)))) (kc rfl kz))) ?_ ?_
    · refine ⟨?_, ?_, ?_, ?_⟩
      · exact zen
      · rfl
      · rfl
      · exact Trust.uses_nn _
    · intro l others k ⟨hk, hl1, ho1, hon⟩
      have hsl := seenTo_len m p.slot k
      rw [← hl1] at hsl
      refine zsr ?_
      refine zc rfl (zcm (zt rfl) (zi zdc) rfl rfl ?_)
      refine zn0 ?_
      refine zw2 ?_
      refine zwc (zt rfl) (fun h2 => ?_) (fun h2 => ?_)
      · skip
        have g2 := h2
        try simp only [zbz, List.length_map] at g2
        refine zws ?_
        refine ztn ?_
        refine zw2 ?_
        refine zwb ?_
        refine zsr ?_
        refine zc rfl (zmv (zt rfl) rfl ?_)
        refine zc rfl (zas (zt rfl) rfl ?_)
        refine zn0 ?_
        refine zsr ?_
        refine zc rfl (zmv (zt rfl) rfl ?_)
        refine zc rfl (zmv (zt rfl) rfl ?_)
        refine zc rfl (zfa (o := 1) (zt rfl) zk rfl ?_)
        refine zc rfl (zl1 (zt rfl) zk rfl rfl rfl ?_)
        refine zc rfl (zbd (ps := [(_, _), (_, _)]) (qs := [(_, _), (_, _)]) (zs := [.dat (.int .i64 0), .dat (.int .i64 0)]) (pl := [(0, 1), (1, 1)]) (pc (zt rfl) rfl (pc (zt rfl) rfl pz)) zk zk rfl rfl ?_)
        refine zc rfl (op_lookupF (k := (Place.mk ((k : Nat) : Int) p.slot)) (kt := 74) (e := 42) (zt rfl) rfl (zt rfl) rfl zk zk rfl ?_)
        refine zc rfl (zcl zhf (hc (zt rfl) hz) (rs := []) (bxs := []) zdc bz (c_monitor_newest (getK (Place.mk ((k : Nat) : Int) p.slot) m) (fun e he => by obtain ⟨y, h1, h2⟩ := getK_mem he; exact hok y h1 e h2)) rfl rfl rfl (fun d b hd hl => ?_))
        obtain ⟨rfl, rfl⟩ := hd
        refine zc rfl (zmv (zt rfl) rfl ?_)
        refine zc rfl (op_extract (zt rfl) rfl rfl ?_)
        refine zc rfl (op_extract (zt rfl) rfl rfl ?_)
        refine zc rfl (zal (cs := [.dat (.int .i64 0), .dat (.int .i64 0), .dat (.int .i64 0), .dat (.int .i64 0), .nilsl, .nilsl, .dat (.int .i64 0), .dat (.int .i64 0), .dat (.str ⟨#[]⟩), .dat (.int .i64 0), .dat (.str ⟨#[]⟩), .dat (.int .i64 0), .dat (.str ⟨#[]⟩), .dat (.int .i64 0), .dat (.int .i64 0)]) zk rfl ?_)
        refine zc rfl (zst (n := 15) (zt rfl) (zt rfl) rfl (.inl zk) rfl rfl (zbl rfl) ?_)
        refine zc rfl (zas (zt rfl) rfl ?_)
        refine zn0 ?_
        refine awp_le (le_of (ls := [(0, .one (.map (.e 0))), (3, .one (.ref (.o 3) 0)), (4, .one (.ref (.o 4) 0)), (6, .one (.ref (.o 6) 0)), (8, .one (.slt 1010 (l.map Env.d))), (9, VI others), (10, VI ((k : Nat) : Int)), (11, .one (.ref (.o 11) 0)), (12, VB (newestL (getK (Place.mk ((k : Nat) : Int) p.slot) m)).2), (40, VI ((k : Nat) : Int))]) (bs := [(.e 0, [.mapc (mkF m)]), (.o 3, [.dat (.int .i64 p.node), .dat (.int .i64 p.slot)]), (.o 4, [.dat (.int .i64 0), .dat (.int .i64 0), .dat (.int .i64 0), .dat (.str ⟨#[]⟩), .nilsl]), (.o 6, [.dat (.int .i64 (newestL (getK p m)).1.node), .dat (.int .i64 (newestL (getK p m)).1.slot), .dat (.int .i64 (newestL (getK p m)).1.seq), .dat (.int .i64 (newestL (getK p m)).1.trust.thr), .dat (.sl (iRows (newestL (getK p m)).1.trust.nodes)), .dat (.sl ((newestL (getK p m)).1.trust.inner.map Trust.enc)), .dat (.int .i64 (newestL (getK p m)).1.kind), .dat (.int .i64 (newestL (getK p m)).1.b.c), .dat (.str (newestL (getK p m)).1.b.v), .dat (.int .i64 (newestL (getK p m)).1.p.c), .dat (.str (newestL (getK p m)).1.p.v), .dat (.int .i64 (newestL (getK p m)).1.q.c), .dat (.str (newestL (getK p m)).1.q.v), .dat (.int .i64 (newestL (getK p m)).1.low), .dat (.int .i64 (newestL (getK p m)).1.high)]), (.o 11, [.dat (.int .i64 (newestL (getK (Place.mk ((k : Nat) : Int) p.slot) m)).1.node), .dat (.int .i64 (newestL (getK (Place.mk ((k : Nat) : Int) p.slot) m)).1.slot), .dat (.int .i64 (newestL (getK (Place.mk ((k : Nat) : Int) p.slot) m)).1.seq), .dat (.int .i64 (newestL (getK (Place.mk ((k : Nat) : Int) p.slot) m)).1.trust.thr), .dat (.sl (iRows (newestL (getK (Place.mk ((k : Nat) : Int) p.slot) m)).1.trust.nodes)), .dat (.sl ((newestL (getK (Place.mk ((k : Nat) : Int) p.slot) m)).1.trust.inner.map Trust.enc)), .dat (.int .i64 (newestL (getK (Place.mk ((k : Nat) : Int) p.slot) m)).1.kind), .dat (.int .i64 (newestL (getK (Place.mk ((k : Nat) : Int) p.slot) m)).1.b.c), .dat (.str (newestL (getK (Place.mk ((k : Nat) : Int) p.slot) m)).1.b.v), .dat (.int .i64 (newestL (getK (Place.mk ((k : Nat) : Int) p.slot) m)).1.p.c), .dat (.str (newestL (getK (Place.mk ((k : Nat) : Int) p.slot) m)).1.p.v), .dat (.int .i64 (newestL (getK (Place.mk ((k : Nat) : Int) p.slot) m)).1.q.c), .dat (.str (newestL (getK (Place.mk ((k : Nat) : Int) p.slot) m)).1.q.v), .dat (.int .i64 (newestL (getK (Place.mk ((k : Nat) : Int) p.slot) m)).1.low), .dat (.int .i64 (newestL (getK (Place.mk ((k : Nat) : Int) p.slot) m)).1.high)])]) (ts := [(1010, (38, 15))]) (sc rfl (sc rfl (sc rfl (sc rfl (sc rfl (sc rfl (sc rfl (sc rfl (sc rfl (sc rfl sz)))))))))) (xc (bx_eq rfl (by simp only [List.map_cons, List.map_nil, C.unq, C.scrub, mkF_unq])) (xc rfl (xc rfl (xc rfl (xc rfl xz))))) (kc rfl kz)) ?_
        refine zsr ?_
        refine zc rfl (zmv (zt rfl) rfl ?_)
        refine zn0 ?_
        refine zwc (zt rfl) (fun h3 => ?_) (fun h3 => ?_)
        · skip
          refine zsr ?_
          refine zc rfl (zmv (zt rfl) rfl ?_)
          refine zc rfl (zld (n := 15) (zt rfl) zk rfl rfl rfl rfl ?_)
          refine zc rfl (zbs (e := 38) (ps := [(_, _)]) (qs := [(_, _)]) (n := 15) (rows := [[_, _, _, _, _, _, _, _, _, _, _, _, _, _, _]]) (pc (zt rfl) rfl pz) zk zdc ⟨[.dat (.int .i64 0), .dat (.int .i64 0), .dat (.int .i64 0), .dat (.int .i64 0), .nilsl, .nilsl, .dat (.int .i64 0), .dat (.int .i64 0), .dat (.str ⟨#[]⟩), .dat (.int .i64 0), .dat (.str ⟨#[]⟩), .dat (.int .i64 0), .dat (.str ⟨#[]⟩), .dat (.int .i64 0), .dat (.int .i64 0)], by kernel_rfl⟩ rfl rfl (by simp [Uni]) rfl zdc rfl ?_)
          refine zc rfl (op_append (e := 38) (k := 15) (b := 176) (zt rfl) rfl (zt rfl) rfl zk (by first | exact uni_snoc (uni_map (f := Env.d) (fun _ => rfl) _) rfl | (simp [Uni]; done)) (by first | (simp; done) | (simp; omega) | (simp at *; omega)) (by first | (simp; done) | (simp; omega) | (simp at *; omega)) rfl ?_)
          refine zc rfl (zas (zt rfl) rfl ?_)
          refine zn0 ?_
          refine zre ?_
          refine zc rfl (zmv (zt rfl) rfl ?_)
          refine zc rfl (zmv (zt rfl) rfl ?_)
          refine zc rfl (op_shl (zi zdc) (zt rfl) zom zom (by show _ ≤ 64; omega) (ink_shl1 zom) rfl ?_)
          refine zc rfl (op_bit (zt rfl) (zt rfl) (by first | exact Int.natCast_nonneg _ | omega) (by first | exact Int.natCast_nonneg _ | omega) rfl rfl ?_)
          refine zc rfl (zas (zt rfl) rfl ?_)
          refine zn0 ?_
          refine zbn ?_
          refine ztn ?_
          refine zre ?_
          refine zc rfl (zar (zt rfl) (zi zdc) rfl (ink64 zom zom) rfl ?_)
          refine zc rfl (zmv (zt rfl) rfl ?_)
          refine zn0 ?_
          refine ztn ?_
          refine ⟨(l ++ [(newestL (getK (Place.mk ((k : Nat) : Int) p.slot) m)).1]), ((others.toNat ||| (((1 : Int).toNat <<< ((k : Nat) : Int).toNat : Nat) : Int).toNat : Nat) : Int), k + 1, ?_, ?_, ((le_retok (q := 57) (p := 1010) (s := 8) rfl rfl).trans (le_of (sc rfl (sc rfl (sc rfl (sc rfl (sc (slt_eq rfl (by first | rfl | exact List.map_append | (simp only [List.map_append, List.map_cons, List.map_nil]; rfl) | simp)) (sc rfl (sc rfl sz))))))) (xc (bx_eq rfl (by first | rfl | simp only [List.map_cons, List.map_nil, C.unq, C.scrub, mkF_unq])) (xc rfl (xc rfl (xc rfl xz)))) (kc rfl kz)))⟩
          · refine ⟨?_, ?_, ?_, ?_⟩
            · exact zen
            · first | (rw [seenTo, if_pos h3, hl1]; done) | (rw [seenTo, if_neg (nt h3), hl1]; done)
            · first | (rw [othTo, if_pos h3, ← ho1]; rfl) | (rw [othTo, if_neg (nt h3), ← ho1]; done)
            · first | assumption | exact Int.natCast_nonneg _
          · first | omega | (simp at *; omega)
        · skip
          refine zws ?_
          refine zbn ?_
          refine ztn ?_
          refine zre ?_
          refine zc rfl (zar (zt rfl) (zi zdc) rfl (ink64 zom zom) rfl ?_)
          refine zc rfl (zmv (zt rfl) rfl ?_)
          refine zn0 ?_
          refine ztn ?_
          refine ⟨l, others, k + 1, ?_, ?_, (le_of (sc rfl (sc rfl (sc rfl (sc rfl (sc (slt_eq rfl (by first | rfl | exact List.map_append | (simp only [List.map_append, List.map_cons, List.map_nil]; rfl) | simp)) (sc rfl (sc rfl sz))))))) (xc (bx_eq rfl (by first | rfl | simp only [List.map_cons, List.map_nil, C.unq, C.scrub, mkF_unq])) (xc rfl (xc rfl (xc rfl xz)))) (kc rfl kz))⟩
          · refine ⟨?_, ?_, ?_, ?_⟩
            · exact zen
            · first | (rw [seenTo, if_pos h3, hl1]; done) | (rw [seenTo, if_neg (nt h3), hl1]; done)
            · first | (rw [othTo, if_pos h3, ← ho1]; rfl) | (rw [othTo, if_neg (nt h3), ← ho1]; done)
            · first | assumption | exact Int.natCast_nonneg _
          · first | omega | (simp at *; omega)
      · skip
        have g2 := h2
        try simp only [zbz, List.length_map] at g2
        obtain rfl : k = 10 := by omega
        subst hl1
        subst ho1
        refine zwe ?_
        refine zte ?_
        refine zte ?_
        refine zbk ?_
        refine ztn ?_
        refine zsr ?_
        refine zc rfl (zfa (o := 0) (zt rfl) zk rfl ?_)
        refine zc rfl (zl1 (zt rfl) zk rfl rfl rfl ?_)
        refine zc rfl (zfa (o := 3) (zt rfl) zk rfl ?_)
        refine zc rfl (zld (n := 3) (zt rfl) zk rfl rfl rfl rfl ?_)
        refine zc rfl (zmv (zt rfl) rfl ?_)
        refine zc rfl (zcl zhf (hc (zt rfl) (hc (zt rfl) (hc (zt rfl) hz))) (rs := []) (bxs := []) zdc bz (c_prepare_Look p.node (newestL (getK p m)).1.trust (seenTo m p.slot 10) (seenTo_all (P := fun e => e.trust.ok) hok 10) hown (Nat.le_trans (seenTo_len m p.slot 10) (by omega))) rfl rfl rfl (fun d b hd hl => ?_))
        obtain ⟨rfl, rfl⟩ := hd
        refine zc rfl (zal (cs := [.dat (.int .i64 0), .nilsl, .nilsl]) zk rfl ?_)
        refine zc rfl (zst (n := 3) (zt rfl) (zt rfl) rfl (.inl zk) rfl rfl (zbl rfl) ?_)
        refine zn0 ?_
        refine awp_le (le_of (ls := [(3, .one (.ref (.o 3) 0)), (4, .one (.ref (.o 4) 0)), (6, .one (.ref (.o 6) 0)), (9, VI (othTo (newestL (getK p m)).1.trust m p.slot 10)), (13, .one (.ref (.o 13) 0))]) (bs := [(.e 0, [.mapc (mkF m)]), (.o 3, [.dat (.int .i64 p.node), .dat (.int .i64 p.slot)]), (.o 4, [.dat (.int .i64 0), .dat (.int .i64 0), .dat (.int .i64 0), .dat (.str ⟨#[]⟩), .nilsl]), (.o 6, [.dat (.int .i64 (newestL (getK p m)).1.node), .dat (.int .i64 (newestL (getK p m)).1.slot), .dat (.int .i64 (newestL (getK p m)).1.seq), .dat (.int .i64 (newestL (getK p m)).1.trust.thr), .dat (.sl (iRows (newestL (getK p m)).1.trust.nodes)), .dat (.sl ((newestL (getK p m)).1.trust.inner.map Trust.enc)), .dat (.int .i64 (newestL (getK p m)).1.kind), .dat (.int .i64 (newestL (getK p m)).1.b.c), .dat (.str (newestL (getK p m)).1.b.v), .dat (.int .i64 (newestL (getK p m)).1.p.c), .dat (.str (newestL (getK p m)).1.p.v), .dat (.int .i64 (newestL (getK p m)).1.q.c), .dat (.str (newestL (getK p m)).1.q.v), .dat (.int .i64 (newestL (getK p m)).1.low), .dat (.int .i64 (newestL (getK p m)).1.high)]), (.o 13, [.dat (.int .i64 (Seen.mk p.node (viewC p.node (newestL (getK p m)).1.trust (seenTo m p.slot 10)) ((seenTo m p.slot 10).filter Env.validP)).node), .dat (.sl ((Seen.mk p.node (viewC p.node (newestL (getK p m)).1.trust (seenTo m p.slot 10)) ((seenTo m p.slot 10).filter Env.validP)).view.map Member.d)), .dat (.sl ((Seen.mk p.node (viewC p.node (newestL (getK p m)).1.trust (seenTo m p.slot 10)) ((seenTo m p.slot 10).filter Env.validP)).heard.map Env.d))])]) (ts := []) (sc rfl (sc rfl (sc rfl (sc rfl (sc rfl sz))))) (xc (bx_eq rfl (by simp only [List.map_cons, List.map_nil, C.unq, C.scrub, mkF_unq])) (xc rfl (xc rfl (xc rfl (xc rfl xz))))) kz) ?_
        refine zsr ?_
        refine zc rfl (zld (n := 3) (zt rfl) zk rfl rfl rfl rfl ?_)
        refine zc rfl (op_makeFunc (rs := [.o 6]) (hc (zt rfl) hz) rfl ?_)
        refine zc rfl (zcl zhf (hc (zt rfl) (hc (zt rfl) hz)) (rs := [.o 6]) (bxs := [_]) zdc (bc rfl bz) (c_Who (Seen.mk p.node (viewC p.node (newestL (getK p m)).1.trust (seenTo m p.slot 10)) ((seenTo m p.slot 10).filter Env.validP)) (helpP (newestL (getK p m)).1.b) (67) (newestL (getK p m)).1 heard_node (fun x _ => c_stuck_1 x (newestL (getK p m)).1)) rfl rfl rfl (fun d b hd hl => ?_))
        obtain ⟨rfl, rfl⟩ := hd
        refine zc rfl (zas (zt rfl) rfl ?_)
        have hwn : 0 ≤ (whoL (helpP (newestL (getK p m)).1.b) (Seen.mk p.node (viewC p.node (newestL (getK p m)).1.trust (seenTo m p.slot 10)) ((seenTo m p.slot 10).filter Env.validP)).heard) := (whoL_set heard_node).1
        refine zn0 ?_
        refine zsr ?_
        refine zc rfl (zfa (o := 0) (zt rfl) zk rfl ?_)
        refine zc rfl (zl1 (zt rfl) zk rfl rfl rfl ?_)
        refine zc rfl (zfa (o := 1) (zt rfl) zk rfl ?_)
        refine zc rfl (zl1 (zt rfl) zk rfl rfl rfl ?_)
        refine zc rfl (zfa (o := 7) (zt rfl) zk rfl ?_)
        refine zc rfl (zfa (o := 1) (zt rfl) zk rfl ?_)
        refine zc rfl (zl1 (zt rfl) zk rfl rfl rfl ?_)
        refine zc rfl (zbd (ps := [(_, _), (_, _), (_, _), (_, _)]) (qs := [(_, _), (_, _), (_, _), (_, _)]) (zs := [.dat (.int .i64 0), .dat (.int .i64 0), .dat (.int .i64 0), .dat (.str ⟨#[]⟩), .nilsl]) (pl := [(0, 1), (1, 1), (2, 1), (3, 1), (4, 1)]) (pc (zt rfl) rfl (pc (zt rfl) rfl (pc (zi zdc) rfl (pc (zt rfl) rfl pz)))) zk zk rfl rfl ?_)
        refine zc rfl (zal (cs := [.dat (.int .i64 0), .dat (.int .i64 0), .dat (.int .i64 0), .dat (.str ⟨#[]⟩), .nilsl]) zk rfl ?_)
        refine zc rfl (zst (n := 5) (zt rfl) (zt rfl) rfl (.inl zk) rfl rfl (zbl rfl) ?_)
        refine zn0 ?_
        refine zsr ?_
        refine zc rfl (zfa (o := 1) (zt rfl) zk rfl ?_)
        refine zc rfl (zld (n := 1) (zt rfl) zk rfl rfl rfl rfl ?_)
        refine zc rfl (zfa (o := 0) (zt rfl) zk rfl ?_)
        refine zc rfl (zl1 (zt rfl) zk rfl rfl rfl ?_)
        refine zc rfl (zmv (zt rfl) rfl ?_)
        refine zc rfl (zmv (zt rfl) rfl ?_)
        refine zc rfl (zmv (zt rfl) rfl ?_)
        refine zc rfl (op_bit (zt rfl) (zt rfl) (by first | exact Int.natCast_nonneg _ | omega) (by first | exact Int.natCast_nonneg _ | omega) rfl rfl ?_)
        refine zc rfl (zcl zhf (hc (zt rfl) (hc (zt rfl) (hc (zt rfl) (hc (zt rfl) hz)))) (rs := []) (bxs := []) zdc bz (c_monitor_needs (Seen.mk p.node (viewC p.node (newestL (getK p m)).1.trust (seenTo m p.slot 10)) ((seenTo m p.slot 10).filter Env.validP)).view p.node (whoL (helpP (newestL (getK p m)).1.b) (Seen.mk p.node (viewC p.node (newestL (getK p m)).1.trust (seenTo m p.slot 10)) ((seenTo m p.slot 10).filter Env.validP)).heard) (((othTo (newestL (getK p m)).1.trust m p.slot 10).toNat ^^^ ((othTo (newestL (getK p m)).1.trust m p.slot 10).toNat &&& (whoL (helpP (newestL (getK p m)).1.b) (Seen.mk p.node (viewC p.node (newestL (getK p m)).1.trust (seenTo m p.slot 10)) ((seenTo m p.slot 10).filter Env.validP)).heard).toNat) : Nat) : Int) (viewC_ok hown (seenTo_all (P := fun e => e.trust.ok) hok 10)) (whoL_set heard_node) (hsub hno)) rfl rfl rfl (fun d b hd hl => ?_))
        obtain ⟨l4, S, rfl, rfl, ⟨hS, hp⟩⟩ := hd
        refine zc rfl (zfa (o := 4) (zt rfl) zk rfl ?_)
        refine zc rfl (zst (n := 1) (zt rfl) (zt rfl) rfl (.inr ⟨by kernel_rfl, rfl⟩) rfl rfl (zbl rfl) ?_)
        refine zn0 ?_
        refine awp_le (le_of (ls := [(4, .one (.ref (.o 4) 0)), (15, .one (.ref (.o 15) 0))]) (bs := [(.e 0, [.mapc (mkF m)]), (.o 4, [.dat (.int .i64 0), .dat (.int .i64 0), .dat (.int .i64 0), .dat (.str ⟨#[]⟩), .nilsl]), (.o 15, [.dat (.int .i64 p.node), .dat (.int .i64 p.slot), .dat (.int .i64 2), .dat (.str (newestL (getK p m)).1.b.v), .dat (.sl (iRows l4))])]) (ts := []) (sc rfl (sc rfl sz)) (xc (bx_eq rfl (by simp only [List.map_cons, List.map_nil, C.unq, C.scrub, mkF_unq])) (xc rfl (xc rfl xz))) kz) ?_
        refine zsr ?_
        refine zc rfl (zld (n := 5) (zt rfl) zk rfl rfl rfl rfl ?_)
        refine zc rfl (zst (n := 5) (zt rfl) (zt rfl) rfl (.inl zk) rfl rfl (zbl rfl) ?_)
        refine zc rfl (zas zb0 rfl ?_)
        refine zn0 ?_
        refine zwr ?_
        refine zpr [_] (res2 (ri_agg (n := 5) rfl rfl zk rfl) (zrt rfl)) (show _ = 1 from rfl) (l1 rfl) ?_
        refine ⟨(Finding.mk p.node p.slot 2 (newestL (getK p m)).1.b.v l4), true, rfl, rfl, ?_⟩
        exact ⟨fun h => absurd (h.symm.trans hno) zdc, fun _ => ⟨rfl, rfl, rfl, rfl, rfl, S, hS, hp⟩⟩

theorem c_monitor_Stuck (l : List Sighting) (node slot : Int) (hok : ∀ x ∈ l, x.l.env.trust.ok) (hlen : l.length ≤ 12) (hsub : stuckNo (filesL l) ⟨node, slot⟩ = false → (subsS (othL (filesL l) ⟨node, slot⟩)).length ≤ 12) : ACalls Tryz.prog 10 [VR (l.map Sighting.d), VI node, VI slot] [] fun dd bb => ∃ (f : Finding) (b : Bool), dd = .tup [.aggd f.d, VB b] ∧ bb = [] ∧ (StuckP (filesL l) ⟨node, slot⟩ f b) := by
  refine zai Tryz.func10 rfl Tryz.ntmps10 (by rw [Tryz.results10]) rfl rfl (fun w0 A0 X => ?_)
  refine zsr ?_
  refine zc rfl (zal (cs := [.dat (.int .i64 0), .dat (.int .i64 0), .dat (.int .i64 0), .dat (.str ⟨#[]⟩), .nilsl]) zk rfl ?_)
  refine zc rfl (zas zb0 rfl ?_)
  refine zn0 ?_
  refine zsr ?_
  refine zc rfl (zmv (zt rfl) rfl ?_)
  refine zc rfl (op_callN zhf (hc (zt rfl) hz) (rs := []) (bxs := []) zdc zdc bz (c_files l (by first | assumption | omega | trivial | (simp; done) | (constructor <;> omega)) (by first | assumption | omega | trivial | (simp; done) | (constructor <;> omega))) rfl rfl rfl (fun d b cs hd hl => ?_))
  obtain ⟨pl, rfl, rfl, rfl, ⟨hs, hp⟩⟩ := hd
  refine aops_le (le_bxeq (r := .o 12) (cs' := [.mapc (mkF (filesL l))]) rfl (congrArg (fun m => [C.mapc m]) (mkM_free _ 0).symm)) ?_
  refine zc rfl (zmv (zt rfl) rfl ?_)
  refine zc rfl (op_extract (zt rfl) rfl rfl ?_)
  refine zc rfl (op_extract (zt rfl) rfl rfl ?_)
  refine zc rfl (zas (zt rfl) rfl ?_)
  refine zc rfl (zas (zt rfl) rfl ?_)
  refine zn0 ?_
  refine zsr ?_
  refine zc rfl (zmv (zt rfl) rfl ?_)
  refine zc rfl (zmv (zt rfl) rfl ?_)
  refine zc rfl (zmv (zt rfl) rfl ?_)
  refine zc rfl (zbd (ps := [(_, _), (_, _)]) (qs := [(_, _), (_, _)]) (zs := [.dat (.int .i64 0), .dat (.int .i64 0)]) (pl := [(0, 1), (1, 1)]) (pc (zt rfl) rfl (pc (zt rfl) rfl pz)) zk zk rfl rfl ?_)
  refine zc rfl (zcl zhf (hc (zt rfl) (hc (zt rfl) hz)) (rs := [.o 12]) (bxs := [_]) zdc (bc rfl bz) (c_monitor_stuck (filesL l) (Place.mk node slot) (files_all (P := fun e => e.trust.ok) hok) hsub) rfl (by simp only [List.map_cons, List.map_nil, C.callee, mkF_free]) rfl (fun d b hd hl => ?_))
  obtain ⟨f, b, rfl, rfl, hf⟩ := hd
  refine aops_le (le_bxeq (r := .o 12) (cs' := [.mapc (mkF (filesL l))]) rfl (congrArg (fun m => [C.mapc m]) (mkF_free _).symm)) ?_
  refine zc rfl (op_extract (zt rfl) rfl rfl ?_)
  refine zc rfl (op_extract (zt rfl) rfl rfl ?_)
  refine zc rfl (zst (n := 5) (zt rfl) (zt rfl) rfl (.inl zk) rfl rfl (zbl rfl) ?_)
  refine zc rfl (zas (zt rfl) rfl ?_)
  refine zn0 ?_
  refine zwr ?_
  refine zpr [] (res2 (ri_agg (n := 5) rfl rfl zk rfl) (zrt rfl)) rfl lz ?_
  refine ⟨f, b, rfl, rfl, ?_⟩
  exact hf

end Go.TQ
