/- Contracts of functions of the program, each for every input that its hypotheses let in; printed by a program of our own (s21). -/
import Derived.Test.YtmfiplnojbjcbaaGreatC20
set_option linter.unusedVariables false
set_option linter.unusedSimpArgs false
set_option maxRecDepth 10000
set_option maxHeartbeats 4000000
namespace Go.TQ
open Go.Proofs


def whoL (p : Env → Bool) (l : List Env) : Int := l.foldl (fun s e => if p e = true then orBit s e.node else s) 0
theorem whoL_set {p : Env → Bool} {l : List Env} (h : ∀ e ∈ l, 0 ≤ e.node ∧ e.node < 10) : SetP (whoL p l) := by
  have : ∀ (l : List Env) (s : Int), SetP s → (∀ e ∈ l, 0 ≤ e.node ∧ e.node < 10) → SetP (l.foldl (fun s e => if p e = true then orBit s e.node else s) s) := by
    intro l
    induction l with
    | nil => exact fun s h _ => h
    | cons e l ih =>
      intro s hs hl
      refine ih _ ?_ (fun x hx => hl x (by simp [hx]))
      show SetP (if p e = true then orBit s e.node else s)
      split
      · exact orBit_set hs (hl e (by simp))
      · exact hs
  exact this l 0 SetP.zero h
theorem mem_take' {α : Type} {l : List α} {k : Nat} {p : α → Prop} (h : ∀ x ∈ l, p x) : ∀ x ∈ l.take k, p x := fun x hx => h x (List.mem_of_mem_take hx)
def better (b e : Env) : Env := if b.seq < e.seq then e else b
def newestL : List Env → Env × Bool
  | [] => (Env.zero, false)
  | e :: l => ((e :: l).foldl better e, true)
theorem fold_better_mem : ∀ (l : List Env) (b : Env), l.foldl better b = b ∨ l.foldl better b ∈ l := by
  intro l
  induction l with
  | nil => exact fun b => .inl rfl
  | cons e l ih =>
    intro b
    rw [List.foldl_cons]
    rcases ih (better b e) with h | h
    · rw [h]; unfold better; split
      · right; simp
      · left; rfl
    · right; simp [h]
theorem newestL_of {l : List Env} (h : 0 < l.length) : newestL l = (l.foldl better l[0]!, true) := by
  cases l with
  | nil => cases h
  | cons e l => rfl
def stepR (node slot : Int) (b : Env × Bool) (x : Sighting) : Env × Bool :=
  if (((x.countsR && decide (x.l.env.node = node)) && decide (x.l.env.slot = slot)) && (!b.2 || decide (b.1.seq < x.l.env.seq))) = true then (x.l.env, true) else b
def newestR (l : List Sighting) (node slot : Int) : Env × Bool := l.foldl (stepR node slot) (Env.zero, false)
theorem foldl_putK_mem {P : Env → Prop} : ∀ (l : List Sighting) (m : Fil), (∀ x ∈ l, P x.l.env) → (∀ y ∈ m, ∀ e ∈ y.2, P e) → ∀ y ∈ l.foldl (fun m x => putK x.place x.l.env m) m, ∀ e ∈ y.2, P e := by
  have put : ∀ (m : Fil) (k : Place) (e0 : Env), P e0 → (∀ y ∈ m, ∀ e ∈ y.2, P e) → ∀ y ∈ putK k e0 m, ∀ e ∈ y.2, P e := by
    intro m k e0 h0
    induction m with
    | nil => intro _ y hy e he; simp [putK] at hy; subst hy; simp at he; subst he; exact h0
    | cons z m ih =>
      intro h y hy e he
      rw [putK] at hy
      split at hy
      · rcases List.mem_cons.1 hy with rfl | hy
        · rcases List.mem_append.1 he with he | he
          · exact h z (by simp) e he
          · simp at he; subst he; exact h0
        · exact h y (by simp [hy]) e he
      · rcases List.mem_cons.1 hy with rfl | hy
        · exact h _ (by simp) e he
        · exact ih (fun w hw => h w (by simp [hw])) y hy e he
  intro l
  induction l with
  | nil => exact fun m _ h => h
  | cons x l ih => exact fun m hl hm => ih _ (fun z hz => hl z (by simp [hz])) (put m _ _ (hl x (by simp)) hm)
theorem getK_mem {k : Place} : ∀ {m : Fil} {e : Env}, e ∈ getK k m → ∃ y ∈ m, e ∈ y.2
  | x :: m, e, h => by
    rw [getK] at h
    split at h
    · exact ⟨x, by simp, h⟩
    · obtain ⟨y, h1, h2⟩ := getK_mem h
      exact ⟨y, by simp [h1], h2⟩
theorem files_all {P : Env → Prop} {l : List Sighting} (h : ∀ x ∈ l, P x.l.env) : ∀ y ∈ filesL l, ∀ e ∈ y.2, P e := by
  unfold filesL filesTo
  refine foldl_putK_mem _ _ (fun x hx => h x ?_) (fun y hy => by cases hy)
  exact List.mem_of_mem_take (List.mem_filter.1 hx).1
theorem getK_all {P : Env → Prop} {l : List Sighting} (h : ∀ x ∈ l, P x.l.env) (k : Place) : ∀ e ∈ getK k (filesL l), P e := fun e he => by
  obtain ⟨y, h1, h2⟩ := getK_mem he
  exact files_all h y h1 e h2

theorem c_prepare_Look (node : Int) (trust : Trust) (l : List Env) (hok : ∀ e ∈ l, e.trust.ok) (ht : trust.ok) (hlen : l.length ≤ 1000000) : ACalls Tryz.prog 65 [VI node, .aggd trust.d, VR (l.map Env.d)] [] fun dd bb => dd = .aggd (Seen.mk node (viewC node trust l) (l.filter Env.validP)).d ∧ bb = [] := by
  refine zai Tryz.func65 rfl Tryz.ntmps65 (by rw [Tryz.results65]) rfl rfl (fun w0 A0 X => ?_)
  refine zsr ?_
  refine zc rfl (zbx (zt rfl) rfl rfl ?_)
  refine zc rfl (zal (cs := [.dat (.int .i64 0), .nilsl, .nilsl]) zk rfl ?_)
  refine zn0 ?_
  refine zsr ?_
  refine zc rfl (zmv (zt rfl) rfl ?_)
  refine zc rfl (zmv (zt rfl) rfl ?_)
  refine zc rfl (zld (n := 3) (zt rfl) zk rfl rfl rfl rfl ?_)
  refine zc rfl (zmv (zt rfl) rfl ?_)
  refine zc rfl (zcl zhf (hc (zt rfl) (hc (zt rfl) (hc (zt rfl) hz))) (rs := []) (bxs := []) zdc bz (c_prepare_View node trust l (by first | assumption | omega | trivial | (simp; done) | (constructor <;> omega)) (by first | assumption | omega | trivial | (simp; done) | (constructor <;> omega))) rfl rfl rfl (fun d b hd hl => ?_))
  obtain ⟨rfl, rfl⟩ := hd
  refine zc rfl (zmv (zt rfl) rfl ?_)
  refine zc rfl (zcl zhf (hc (zt rfl) hz) (rs := []) (bxs := []) zdc bz (c_envelopes_Rights l (by first | assumption | omega | trivial | (simp; done) | (constructor <;> omega)) (by first | assumption | omega | trivial | (simp; done) | (constructor <;> omega))) rfl rfl rfl (fun d b hd hl => ?_))
  obtain ⟨rfl, rfl⟩ := hd
  refine zc rfl (zbd (ps := [(_, _), (_, _), (_, _)]) (qs := [(_, _), (_, _), (_, _)]) (zs := [.dat (.int .i64 0), .nilsl, .nilsl]) (pl := [(0, 1), (1, 1), (2, 1)]) (pc (zt rfl) rfl (pc (zt rfl) rfl (pc (zt rfl) rfl pz))) zk zk rfl rfl ?_)
  refine zc rfl (zst (n := 3) (zt rfl) (zt rfl) rfl (.inl zk) rfl rfl (zbl rfl) ?_)
  refine zn0 ?_
  refine zwr ?_
  refine zpr [] (res1 (ri_agg (n := 3) rfl rfl zk rfl)) rfl lz ?_
  exact ⟨rfl, rfl⟩

theorem c_Who (s : Seen) (p : Env → Bool) (f : FuncId) (c0 : Env) (hs : ∀ e ∈ s.heard, 0 ≤ e.node ∧ e.node < 10) (hf : ∀ x ∈ s.heard, ACalls Tryz.prog f [.aggd x.d, .one (.ref (.e 0) 0)] [c0.d.map C.dat] fun dd bb => dd = VB (p x) ∧ bb = [c0.d.map C.dat]) : ACalls Tryz.prog 66 [.aggd s.d, .one (.fn f [.e 0])] [c0.d.map C.dat] fun dd bb => dd = VI (whoL p s.heard) ∧ bb = [c0.d.map C.dat] := by
  refine zai Tryz.func66 rfl Tryz.ntmps66 (by rw [Tryz.results66]) rfl rfl (fun w0 A0 X => ?_)
  refine zsr ?_
  refine zc rfl (zbx (zt rfl) rfl rfl ?_)
  refine zc rfl (zas (zi zdc) rfl ?_)
  refine zn0 ?_
  refine zsr ?_
  refine zc rfl (zas (zi zdc) rfl ?_)
  refine zn0 ?_
  refine zw2 ?_
  refine zsr ?_
  refine zc rfl (zfa (o := 2) (zt rfl) zk rfl ?_)
  refine zc rfl (zl1 (zt rfl) zk rfl rfl rfl ?_)
  refine zc rfl (zln (e := 111) (n := 15) (zt rfl) rfl zk rfl (fun hl10 => ?_))
  try simp only [List.length_map] at hl10
  refine zc rfl (zmv (zi zdc) rfl ?_)
  refine zn0 ?_
  refine zwb ?_
  refine awp_loop2 (fs := [(1, _), (9, _), (10, _)]) (fb := [(.e 0, _)]) (fun (out : Int) (k : Nat) => [(5, VI out), (11, VI ((k : Nat) : Int))]) (fun (out : Int) (k : Nat) => []) (fun (out : Int) (k : Nat) => []) (fun (out : Int) (k : Nat) => (k ≤ s.heard.length) ∧ (out = whoL p (s.heard.take k)) ∧ (SetP out)) (fun (out : Int) (k : Nat) => s.heard.length - k) 0 0 (le_of (sc rfl (sc rfl (sc rfl (sc rfl (sc rfl sz))))) (xc rfl xz) kz) ?_ ?_
  · refine ⟨?_, ?_, ?_⟩
    · exact zen
    · rfl
    · exact SetP.zero
  · intro out k ⟨hk, ho, hos⟩
    have hos1 := hos.1
    refine zsr ?_
    refine zc rfl (zcm (zt rfl) (zt rfl) rfl rfl ?_)
    refine zn0 ?_
    refine zw2 ?_
    refine zwc (zt rfl) (fun h1 => ?_) (fun h1 => ?_)
    · skip
      have g1 := h1
      try simp only [zbz, List.length_map] at g1
      have hkl : k < s.heard.length := by omega
      have hn := hs _ (mem_at hkl)
      refine zws ?_
      refine ztn ?_
      refine zw2 ?_
      refine zwb ?_
      refine zsr ?_
      refine zc rfl (op_indexAddr (e := 111) (n := 15) (zt rfl) rfl (zt rfl) zk zom (show (s.heard.map Env.d)[k]? = some (s.heard[k]!.d) from (map_getD zom)) rfl rfl ?_)
      refine zc rfl (op_load_imm (n := 15) (zt rfl) zk rfl rfl rfl ?_)
      refine zc rfl (zal (cs := [.dat (.int .i64 0), .dat (.int .i64 0), .dat (.int .i64 0), .dat (.int .i64 0), .nilsl, .nilsl, .dat (.int .i64 0), .dat (.int .i64 0), .dat (.str ⟨#[]⟩), .dat (.int .i64 0), .dat (.str ⟨#[]⟩), .dat (.int .i64 0), .dat (.str ⟨#[]⟩), .dat (.int .i64 0), .dat (.int .i64 0)]) zk rfl ?_)
      refine zc rfl (zst (n := 15) (zt rfl) (zt rfl) rfl (.inl zk) rfl rfl (zbl rfl) ?_)
      refine zn0 ?_
      refine zsr ?_
      refine zc rfl (zmv (zt rfl) rfl ?_)
      refine zc rfl (zld (n := 15) (zt rfl) zk rfl rfl rfl rfl ?_)
      refine zc rfl (zcl (zt rfl) (hc (zt rfl) hz) (rs := [.e 0]) (bxs := [_]) zdc (bc rfl bz) (hf s.heard[k]! (mem_at hkl)) rfl rfl rfl (fun d b hd hl => ?_))
      obtain ⟨rfl, rfl⟩ := hd
      refine zn0 ?_
      refine zwc (zt rfl) (fun h2 => ?_) (fun h2 => ?_)
      · skip
        refine zre ?_
        refine zc rfl (zmv (zt rfl) rfl ?_)
        refine zc rfl (zfa (o := 0) (zt rfl) zk rfl ?_)
        refine zc rfl (zfa (o := 0) (zt rfl) zk rfl ?_)
        refine zc rfl (zl1 (zt rfl) zk rfl rfl rfl ?_)
        refine zc rfl (op_shl (zi zdc) (zt rfl) zom zom (by show _ ≤ 64; omega) (ink_shl1 zom) rfl ?_)
        refine zc rfl (op_bit (zt rfl) (zt rfl) (by first | exact Int.natCast_nonneg _ | omega) (by first | exact Int.natCast_nonneg _ | omega) rfl rfl ?_)
        refine zc rfl (zas (zt rfl) rfl ?_)
        refine zn0 ?_
        refine zbn ?_
        refine ztn ?_
        refine zre ?_
        refine zc rfl (zar (zt rfl) (zi zdc) rfl (ink64 zom zom) rfl ?_)
        refine zc rfl (zmv (zt rfl) rfl ?_)
        refine zn0 ?_
        refine ztn ?_
        refine ⟨((out.toNat ||| (((1 : Int).toNat <<< s.heard[k]!.node.toNat : Nat) : Int).toNat : Nat) : Int), k + 1, ?_, ?_, (le_of (sc rfl (sc rfl (sc rfl (sc rfl (sc rfl sz))))) (xc rfl xz) kz)⟩
        · refine ⟨?_, ?_, ?_⟩
          · exact zen
          · first | (rw [whoL, fold_take _ _ hkl, if_pos h2, ho]; rfl) | (rw [whoL, fold_take _ _ hkl, if_neg (nt h2), ho]; rfl)
          · first | exact hos | exact orBit_set hos hn
        · first | omega | (simp at *; omega)
      · skip
        refine zws ?_
        refine zbn ?_
        refine ztn ?_
        refine zre ?_
        refine zc rfl (zar (zt rfl) (zi zdc) rfl (ink64 zom zom) rfl ?_)
        refine zc rfl (zmv (zt rfl) rfl ?_)
        refine zn0 ?_
        refine ztn ?_
        refine ⟨out, k + 1, ?_, ?_, (le_of (sc rfl (sc rfl (sc rfl (sc rfl (sc rfl sz))))) (xc rfl xz) kz)⟩
        · refine ⟨?_, ?_, ?_⟩
          · exact zen
          · first | (rw [whoL, fold_take _ _ hkl, if_pos h2, ho]; rfl) | (rw [whoL, fold_take _ _ hkl, if_neg (nt h2), ho]; rfl)
          · first | exact hos | exact orBit_set hos hn
        · first | omega | (simp at *; omega)
    · skip
      have g1 := h1
      try simp only [zbz, List.length_map] at g1
      obtain rfl : k = s.heard.length := by omega
      rw [List.take_length] at ho
      refine zwe ?_
      refine zte ?_
      refine zte ?_
      refine zbk ?_
      refine ztn ?_
      refine zsr ?_
      refine zc rfl (zmv (zt rfl) rfl ?_)
      refine zc rfl (zas (zt rfl) rfl ?_)
      refine zn0 ?_
      refine awp_le (le_of (ls := [(4, VI out)]) (bs := [(.e 0, [.dat (.int .i64 c0.node), .dat (.int .i64 c0.slot), .dat (.int .i64 c0.seq), .dat (.int .i64 c0.trust.thr), .dat (.sl (iRows c0.trust.nodes)), .dat (.sl (c0.trust.inner.map Trust.enc)), .dat (.int .i64 c0.kind), .dat (.int .i64 c0.b.c), .dat (.str c0.b.v), .dat (.int .i64 c0.p.c), .dat (.str c0.p.v), .dat (.int .i64 c0.q.c), .dat (.str c0.q.v), .dat (.int .i64 c0.low), .dat (.int .i64 c0.high)])]) (ts := []) (sc rfl sz) (xc rfl xz) kz) ?_
      refine zwr ?_
      refine zpr [_] (res1 (zrt rfl)) (show _ = 1 from rfl) (l1 rfl) ?_
      rw [ho]
      exact ⟨rfl, rfl⟩

theorem c_monitor_newest (l : List Env) (hok : ∀ e ∈ l, e.trust.ok) : ACalls Tryz.prog 37 [VR (l.map Env.d)] [] fun dd bb => dd = .tup [.aggd (newestL l).1.d, VB (newestL l).2] ∧ bb = [] := by
  refine zai Tryz.func37 rfl Tryz.ntmps37 (by rw [Tryz.results37]) rfl rfl (fun w0 A0 X => ?_)
  refine zsr ?_
  refine zc rfl (zal (cs := [.dat (.int .i64 0), .dat (.int .i64 0), .dat (.int .i64 0), .dat (.int .i64 0), .nilsl, .nilsl, .dat (.int .i64 0), .dat (.int .i64 0), .dat (.str ⟨#[]⟩), .dat (.int .i64 0), .dat (.str ⟨#[]⟩), .dat (.int .i64 0), .dat (.str ⟨#[]⟩), .dat (.int .i64 0), .dat (.int .i64 0)]) zk rfl ?_)
  refine zc rfl (zas zb0 rfl ?_)
  refine zn0 ?_
  refine zw2 ?_
  refine zsr ?_
  refine zc rfl (zmv (zt rfl) rfl ?_)
  refine zc rfl (zln (e := 38) (n := 15) (zt rfl) rfl zk rfl (fun hl8 => ?_))
  try simp only [List.length_map] at hl8
  refine zc rfl (zcm (zt rfl) (zi zdc) rfl rfl ?_)
  refine zn0 ?_
  refine zwc (zt rfl) (fun h1 => ?_) (fun h1 => ?_)
  · skip
    have g1 := h1
    try simp only [zbz, List.length_map] at g1
    have hl0 : l = [] := List.length_eq_zero_iff.1 (by omega)
    subst hl0
    refine zsr ?_
    refine zc rfl (zbd (ps := []) (qs := []) (zs := [.dat (.int .i64 0), .dat (.int .i64 0), .dat (.int .i64 0), .dat (.int .i64 0), .nilsl, .nilsl, .dat (.int .i64 0), .dat (.int .i64 0), .dat (.str ⟨#[]⟩), .dat (.int .i64 0), .dat (.str ⟨#[]⟩), .dat (.int .i64 0), .dat (.str ⟨#[]⟩), .dat (.int .i64 0), .dat (.int .i64 0)]) (pl := [(0, 1), (1, 1), (2, 1), (3, 3), (6, 1), (7, 2), (9, 2), (11, 2), (13, 1), (14, 1)]) pz zk zk rfl rfl ?_)
    refine zc rfl (zst (n := 15) (zt rfl) (zt rfl) rfl (.inl zk) rfl rfl (zbl rfl) ?_)
    refine zc rfl (zas zb0 rfl ?_)
    refine zn0 ?_
    refine zwr ?_
    refine ztr ?_
    refine zpr [] (res2 (ri_agg (n := 15) rfl rfl zk rfl) (zrt rfl)) rfl lz ?_
    exact ⟨rfl, rfl⟩
  · skip
    have g1 := h1
    try simp only [zbz, List.length_map] at g1
    have hlp : 0 < l.length := by omega
    refine zws ?_
    refine ztn ?_
    refine zsr ?_
    refine zc rfl (zmv (zt rfl) rfl ?_)
    refine zc rfl (op_indexAddr (e := 38) (n := 15) (zt rfl) rfl (zi zdc) zk zom (show (l.map Env.d)[0]? = some (l[0]!.d) from (map_getD zom)) rfl rfl ?_)
    refine zc rfl (op_load_imm (n := 15) (zt rfl) zk rfl rfl rfl ?_)
    refine zc rfl (zal (cs := [.dat (.int .i64 0), .dat (.int .i64 0), .dat (.int .i64 0), .dat (.int .i64 0), .nilsl, .nilsl, .dat (.int .i64 0), .dat (.int .i64 0), .dat (.str ⟨#[]⟩), .dat (.int .i64 0), .dat (.str ⟨#[]⟩), .dat (.int .i64 0), .dat (.str ⟨#[]⟩), .dat (.int .i64 0), .dat (.int .i64 0)]) zk rfl ?_)
    refine zc rfl (zst (n := 15) (zt rfl) (zt rfl) rfl (.inl zk) rfl rfl (zbl rfl) ?_)
    refine zn0 ?_
    refine zw2 ?_
    refine zsr ?_
    refine zc rfl (zmv (zt rfl) rfl ?_)
    refine zc rfl (zln (e := 38) (n := 15) (zt rfl) rfl zk rfl (fun hl15 => ?_))
    try simp only [List.length_map] at hl15
    refine zc rfl (zmv (zi zdc) rfl ?_)
    refine zn0 ?_
    refine awp_le (le_of (ls := [(2, .one (.ref (.o 2) 0)), (4, .one (.ref (.o 4) 0)), (14, VR (l.map Env.d)), (15, VI ((l.map Env.d).length : Int)), (16, VI 0)]) (bs := [(.o 2, [.dat (.int .i64 0), .dat (.int .i64 0), .dat (.int .i64 0), .dat (.int .i64 0), .nilsl, .nilsl, .dat (.int .i64 0), .dat (.int .i64 0), .dat (.str ⟨#[]⟩), .dat (.int .i64 0), .dat (.str ⟨#[]⟩), .dat (.int .i64 0), .dat (.str ⟨#[]⟩), .dat (.int .i64 0), .dat (.int .i64 0)]), (.o 4, [.dat (.int .i64 l[0]!.node), .dat (.int .i64 l[0]!.slot), .dat (.int .i64 l[0]!.seq), .dat (.int .i64 l[0]!.trust.thr), .dat (.sl (iRows l[0]!.trust.nodes)), .dat (.sl (l[0]!.trust.inner.map Trust.enc)), .dat (.int .i64 l[0]!.kind), .dat (.int .i64 l[0]!.b.c), .dat (.str l[0]!.b.v), .dat (.int .i64 l[0]!.p.c), .dat (.str l[0]!.p.v), .dat (.int .i64 l[0]!.q.c), .dat (.str l[0]!.q.v), .dat (.int .i64 l[0]!.low), .dat (.int .i64 l[0]!.high)])]) (ts := []) (sc rfl (sc rfl (sc rfl (sc rfl (sc rfl sz))))) (xc rfl (xc rfl xz)) kz) ?_
    refine zwb ?_
    refine awp_loop2 (fs := [(2, _), (4, _), (14, _), (15, _)]) (fb := [(.o 2, _)]) (fun (k : Nat) (out : Env) => [(16, VI ((k : Nat) : Int))]) (fun (k : Nat) (out : Env) => [(.o 4, [.dat (.int .i64 out.node), .dat (.int .i64 out.slot), .dat (.int .i64 out.seq), .dat (.int .i64 out.trust.thr), .dat (.sl (iRows out.trust.nodes)), .dat (.sl (out.trust.inner.map Trust.enc)), .dat (.int .i64 out.kind), .dat (.int .i64 out.b.c), .dat (.str out.b.v), .dat (.int .i64 out.p.c), .dat (.str out.p.v), .dat (.int .i64 out.q.c), .dat (.str out.q.v), .dat (.int .i64 out.low), .dat (.int .i64 out.high)])]) (fun (k : Nat) (out : Env) => []) (fun (k : Nat) (out : Env) => (k ≤ l.length) ∧ (out = (l.take k).foldl better l[0]!)) (fun (k : Nat) (out : Env) => l.length - k) 0 l[0]! (le_of (sc rfl (sc rfl (sc rfl (sc rfl (sc rfl sz))))) (xc rfl (xc rfl xz)) kz) ?_ ?_
    · refine ⟨?_, ?_⟩
      · exact zen
      · rfl
    · intro k out ⟨hk, ho⟩
      refine zsr ?_
      refine zc rfl (zcm (zt rfl) (zt rfl) rfl rfl ?_)
      refine zn0 ?_
      refine zw2 ?_
      refine zwc (zt rfl) (fun h2 => ?_) (fun h2 => ?_)
      · skip
        have g2 := h2
        try simp only [zbz, List.length_map] at g2
        have hkl : k < l.length := by omega
        refine zws ?_
        refine ztn ?_
        refine zw2 ?_
        refine zwb ?_
        refine zsr ?_
        refine zc rfl (op_indexAddr (e := 38) (n := 15) (zt rfl) rfl (zt rfl) zk zom (show (l.map Env.d)[k]? = some (l[k]!.d) from (map_getD zom)) rfl rfl ?_)
        refine zc rfl (op_load_imm (n := 15) (zt rfl) zk rfl rfl rfl ?_)
        refine zc rfl (zal (cs := [.dat (.int .i64 0), .dat (.int .i64 0), .dat (.int .i64 0), .dat (.int .i64 0), .nilsl, .nilsl, .dat (.int .i64 0), .dat (.int .i64 0), .dat (.str ⟨#[]⟩), .dat (.int .i64 0), .dat (.str ⟨#[]⟩), .dat (.int .i64 0), .dat (.str ⟨#[]⟩), .dat (.int .i64 0), .dat (.int .i64 0)]) zk rfl ?_)
        refine zc rfl (zst (n := 15) (zt rfl) (zt rfl) rfl (.inl zk) rfl rfl (zbl rfl) ?_)
        refine zn0 ?_
        refine zsr ?_
        refine zc rfl (zfa (o := 2) (zt rfl) zk rfl ?_)
        refine zc rfl (zl1 (zt rfl) zk rfl rfl rfl ?_)
        refine zc rfl (zfa (o := 2) (zt rfl) zk rfl ?_)
        refine zc rfl (zl1 (zt rfl) zk rfl rfl rfl ?_)
        refine zc rfl (zcm (zt rfl) (zt rfl) rfl rfl ?_)
        refine zn0 ?_
        refine zwc (zt rfl) (fun h3 => ?_) (fun h3 => ?_)
        · skip
          refine zre ?_
          refine zc rfl (zld (n := 15) (zt rfl) zk rfl rfl rfl rfl ?_)
          refine zc rfl (zst (n := 15) (zt rfl) (zt rfl) rfl (.inl zk) rfl rfl (zbl rfl) ?_)
          refine zn0 ?_
          refine zbn ?_
          refine ztn ?_
          refine zre ?_
          refine zc rfl (zar (zt rfl) (zi zdc) rfl (ink64 zom zom) rfl ?_)
          refine zc rfl (zmv (zt rfl) rfl ?_)
          refine zn0 ?_
          refine ztn ?_
          refine ⟨k + 1, l[k]!, ?_, ?_, (le_of (sc rfl (sc rfl (sc rfl (sc rfl (sc rfl sz))))) (xc rfl (xc rfl xz)) kz)⟩
          · refine ⟨?_, ?_⟩
            · exact zen
            · first | (rw [fold_take _ _ hkl, ← ho, better, if_pos (of_decide_eq_true h3)]; done) | (rw [fold_take _ _ hkl, ← ho, better, if_neg (of_decide_eq_false h3)]; done)
          · first | omega | (simp at *; omega)
        · skip
          refine zws ?_
          refine zbn ?_
          refine ztn ?_
          refine zre ?_
          refine zc rfl (zar (zt rfl) (zi zdc) rfl (ink64 zom zom) rfl ?_)
          refine zc rfl (zmv (zt rfl) rfl ?_)
          refine zn0 ?_
          refine ztn ?_
          refine ⟨k + 1, out, ?_, ?_, (le_of (sc rfl (sc rfl (sc rfl (sc rfl (sc rfl sz))))) (xc rfl (xc rfl xz)) kz)⟩
          · refine ⟨?_, ?_⟩
            · exact zen
            · first | (rw [fold_take _ _ hkl, ← ho, better, if_pos (of_decide_eq_true h3)]; done) | (rw [fold_take _ _ hkl, ← ho, better, if_neg (of_decide_eq_false h3)]; done)
          · first | omega | (simp at *; omega)
      · skip
        have g2 := h2
        try simp only [zbz, List.length_map] at g2
        obtain rfl : k = l.length := by omega
        rw [List.take_length] at ho
        have hoo : out.trust.ok := by rw [ho]; rcases fold_better_mem l l[0]! with h | h <;> first | (rw [h]; exact hok _ (mem_at hlp)) | exact hok _ h
        refine zwe ?_
        refine zte ?_
        refine zte ?_
        refine zbk ?_
        refine ztn ?_
        refine zsr ?_
        refine zc rfl (zld (n := 15) (zt rfl) zk rfl rfl rfl rfl ?_)
        refine zc rfl (zcl zhf (hc (zt rfl) hz) (rs := []) (bxs := []) zdc bz (c_copies_Envelope out hoo) rfl rfl rfl (fun d b hd hl => ?_))
        obtain ⟨rfl, rfl⟩ := hd
        refine zc rfl (zst (n := 15) (zt rfl) (zt rfl) rfl (.inl zk) rfl rfl (zbl rfl) ?_)
        refine zc rfl (zas zb0 rfl ?_)
        refine zn0 ?_
        refine awp_le (le_of (ls := [(2, .one (.ref (.o 2) 0)), (3, VB true)]) (bs := [(.o 2, [.dat (.int .i64 out.node), .dat (.int .i64 out.slot), .dat (.int .i64 out.seq), .dat (.int .i64 out.trust.thr), .dat (.sl (iRows out.trust.nodes)), .dat (.sl (out.trust.inner.map Trust.enc)), .dat (.int .i64 out.kind), .dat (.int .i64 out.b.c), .dat (.str out.b.v), .dat (.int .i64 out.p.c), .dat (.str out.p.v), .dat (.int .i64 out.q.c), .dat (.str out.q.v), .dat (.int .i64 out.low), .dat (.int .i64 out.high)])]) (ts := []) (sc rfl (sc rfl sz)) (xc rfl xz) kz) ?_
        refine zwr ?_
        refine zpr [] (res2 (ri_agg (n := 15) rfl rfl zk rfl) (zrt rfl)) rfl lz ?_
        rw [newestL_of hlp, ← ho]
        exact ⟨rfl, rfl⟩

theorem c_monitor_Newest (l : List Sighting) (node slot : Int) (hok : ∀ x ∈ l, x.l.env.trust.ok) (hlen : l.length ≤ 12) : ACalls Tryz.prog 17 [VR (l.map Sighting.d), VI node, VI slot] [] fun dd bb => dd = .tup [.aggd (newestL (getK ⟨node, slot⟩ (filesL l))).1.d, VB (newestL (getK ⟨node, slot⟩ (filesL l))).2] ∧ bb = [] := by
  refine zai Tryz.func17 rfl Tryz.ntmps17 (by rw [Tryz.results17]) rfl rfl (fun w0 A0 X => ?_)
  refine zsr ?_
  refine zc rfl (zal (cs := [.dat (.int .i64 0), .dat (.int .i64 0), .dat (.int .i64 0), .dat (.int .i64 0), .nilsl, .nilsl, .dat (.int .i64 0), .dat (.int .i64 0), .dat (.str ⟨#[]⟩), .dat (.int .i64 0), .dat (.str ⟨#[]⟩), .dat (.int .i64 0), .dat (.str ⟨#[]⟩), .dat (.int .i64 0), .dat (.int .i64 0)]) zk rfl ?_)
  refine zc rfl (zas zb0 rfl ?_)
  refine zn0 ?_
  refine zsr ?_
  refine zc rfl (zmv (zt rfl) rfl ?_)
  refine zc rfl (op_callN zhf (hc (zt rfl) hz) (rs := []) (bxs := []) zdc zdc bz (c_files l (by first | assumption | omega | trivial | (simp; done) | (constructor <;> omega)) (by first | assumption | omega | trivial | (simp; done) | (constructor <;> omega))) rfl rfl rfl (fun d b cs hd hl => ?_))
  obtain ⟨pl, rfl, rfl, rfl, ⟨hs, hp⟩⟩ := hd
  refine aops_le (le_bxeq (r := .o 12) (cs' := [.mapc (mkF (filesL l))]) rfl (congrArg (fun m => [C.mapc m]) (mkM_free _ 0).symm)) ?_
  refine zc rfl (zmv (zt rfl) rfl ?_)
  refine zc rfl (op_extract (zt rfl) rfl rfl ?_)
  refine zc rfl (op_extract (zt rfl) rfl rfl ?_)
  refine zc rfl (zas (zt rfl) rfl ?_)
  refine zc rfl (zas (zt rfl) rfl ?_)
  refine zn0 ?_
  refine zsr ?_
  refine zc rfl (zmv (zt rfl) rfl ?_)
  refine zc rfl (zmv (zt rfl) rfl ?_)
  refine zc rfl (zmv (zt rfl) rfl ?_)
  refine zc rfl (zbd (ps := [(_, _), (_, _)]) (qs := [(_, _), (_, _)]) (zs := [.dat (.int .i64 0), .dat (.int .i64 0)]) (pl := [(0, 1), (1, 1)]) (pc (zt rfl) rfl (pc (zt rfl) rfl pz)) zk zk rfl rfl ?_)
  refine zc rfl (op_lookupF (k := (Place.mk node slot)) (kt := 74) (e := 42) (zt rfl) rfl (zt rfl) rfl zk zk rfl ?_)
  refine zc rfl (zcl zhf (hc (zt rfl) hz) (rs := []) (bxs := []) zdc bz (c_monitor_newest (getK (Place.mk node slot) (filesL l)) (getK_all (P := fun e => e.trust.ok) hok _)) rfl rfl rfl (fun d b hd hl => ?_))
  obtain ⟨rfl, rfl⟩ := hd
  refine zc rfl (op_extract (zt rfl) rfl rfl ?_)
  refine zc rfl (op_extract (zt rfl) rfl rfl ?_)
  refine zc rfl (zst (n := 15) (zt rfl) (zt rfl) rfl (.inl zk) rfl rfl (zbl rfl) ?_)
  refine zc rfl (zas (zt rfl) rfl ?_)
  refine zn0 ?_
  refine zwr ?_
  refine zpr [] (res2 (ri_agg (n := 15) rfl rfl zk rfl) (zrt rfl)) rfl lz ?_
  exact ⟨rfl, rfl⟩

theorem c_trustquorumref44_Newest (l : List Sighting) (node slot : Int) (hok : ∀ x ∈ l, x.l.env.trust.ok) : ACalls Tryz.prog 11 [VR (l.map Sighting.d), VI node, VI slot] [] fun dd bb => dd = .tup [.aggd (newestR l node slot).1.d, VB (newestR l node slot).2] ∧ bb = [] := by
  refine zai Tryz.func11 rfl Tryz.ntmps11 (by rw [Tryz.results11]) rfl rfl (fun w0 A0 X => ?_)
  refine zsr ?_
  refine zc rfl (zal (cs := [.dat (.int .i64 0), .dat (.int .i64 0), .dat (.int .i64 0), .dat (.int .i64 0), .nilsl, .nilsl, .dat (.int .i64 0), .dat (.int .i64 0), .dat (.str ⟨#[]⟩), .dat (.int .i64 0), .dat (.str ⟨#[]⟩), .dat (.int .i64 0), .dat (.str ⟨#[]⟩), .dat (.int .i64 0), .dat (.int .i64 0)]) zk rfl ?_)
  refine zc rfl (zas zb0 rfl ?_)
  refine zn0 ?_
  refine zsr ?_
  refine zc rfl (zal (cs := [.dat (.int .i64 0), .dat (.int .i64 0), .dat (.int .i64 0), .dat (.int .i64 0), .nilsl, .nilsl, .dat (.int .i64 0), .dat (.int .i64 0), .dat (.str ⟨#[]⟩), .dat (.int .i64 0), .dat (.str ⟨#[]⟩), .dat (.int .i64 0), .dat (.str ⟨#[]⟩), .dat (.int .i64 0), .dat (.int .i64 0)]) zk rfl ?_)
  refine zn0 ?_
  refine zsr ?_
  refine zc rfl (zas zb0 rfl ?_)
  refine zn0 ?_
  refine zw2 ?_
  refine zsr ?_
  refine zc rfl (zmv (zt rfl) rfl ?_)
  refine zc rfl (zln (e := 57) (n := 26) (zt rfl) rfl zk rfl (fun hl14 => ?_))
  try simp only [List.length_map] at hl14
  refine zc rfl (zmv (zi zdc) rfl ?_)
  refine zn0 ?_
  refine zwb ?_
  refine awp_loop3 (fs := [(1, _), (2, _), (6, _), (8, _), (13, _), (14, _)]) (fb := [(.o 6, _)]) (fun (found : Bool) (k : Nat) (best : Env) => [(9, VB found), (15, VI ((k : Nat) : Int))]) (fun (found : Bool) (k : Nat) (best : Env) => [(.o 8, [.dat (.int .i64 best.node), .dat (.int .i64 best.slot), .dat (.int .i64 best.seq), .dat (.int .i64 best.trust.thr), .dat (.sl (iRows best.trust.nodes)), .dat (.sl (best.trust.inner.map Trust.enc)), .dat (.int .i64 best.kind), .dat (.int .i64 best.b.c), .dat (.str best.b.v), .dat (.int .i64 best.p.c), .dat (.str best.p.v), .dat (.int .i64 best.q.c), .dat (.str best.q.v), .dat (.int .i64 best.low), .dat (.int .i64 best.high)])]) (fun (found : Bool) (k : Nat) (best : Env) => []) (fun (found : Bool) (k : Nat) (best : Env) => (k ≤ l.length) ∧ ((best, found) = newestR (l.take k) node slot)) (fun (found : Bool) (k : Nat) (best : Env) => l.length - k) false 0 (Env.mk 0 0 0 (Trust.mk 0 [] []) 0 (Ballot.mk 0 ⟨#[]⟩) (Ballot.mk 0 ⟨#[]⟩) (Ballot.mk 0 ⟨#[]⟩) 0 0) ((le_normB (r := .o 8) rfl rfl).trans (le_of (sc rfl (sc rfl (sc rfl (sc rfl (sc rfl (sc rfl (sc rfl (sc rfl sz)))))))) (xc rfl (xc rfl xz)) kz)) ?_ ?_
  · refine ⟨?_, ?_⟩
    · exact zen
    · rfl
  · intro found k best ⟨hk, hI⟩
    refine zsr ?_
    refine zc rfl (zcm (zt rfl) (zt rfl) rfl rfl ?_)
    refine zn0 ?_
    refine zw2 ?_
    refine zwc (zt rfl) (fun h1 => ?_) (fun h1 => ?_)
    · skip
      have g1 := h1
      try simp only [zbz, List.length_map] at g1
      have hkl : k < l.length := by omega
      refine zws ?_
      refine ztn ?_
      refine zw2 ?_
      refine zwb ?_
      refine zsr ?_
      refine zc rfl (op_indexAddr (e := 57) (n := 26) (zt rfl) rfl (zt rfl) zk zom (show (l.map Sighting.d)[k]? = some (l[k]!.d) from (map_getD zom)) rfl rfl ?_)
      refine zc rfl (op_load_imm (n := 26) (zt rfl) zk rfl rfl rfl ?_)
      refine zc rfl (zal (cs := [.dat (.int .i64 0), .dat (.int .i64 0), .dat (.int .i64 0), .dat (.int .i64 0), .dat (.int .i64 0), .dat (.int .i64 0), .dat (.int .i64 0), .nilsl, .nilsl, .nilsl, .nilsl, .dat (.int .i64 0), .dat (.int .i64 0), .dat (.int .i64 0), .dat (.int .i64 0), .nilsl, .nilsl, .dat (.int .i64 0), .dat (.int .i64 0), .dat (.str ⟨#[]⟩), .dat (.int .i64 0), .dat (.str ⟨#[]⟩), .dat (.int .i64 0), .dat (.str ⟨#[]⟩), .dat (.int .i64 0), .dat (.int .i64 0)]) zk rfl ?_)
      refine zc rfl (zst (n := 26) (zt rfl) (zt rfl) rfl (.inl zk) rfl rfl (zbl rfl) ?_)
      refine zn0 ?_
      refine awp_le (le_of (ls := [(1, VI node), (2, VI slot), (6, .one (.ref (.o 6) 0)), (8, .one (.ref (.o 8) 0)), (9, VB found), (11, .one (.ref (.o 11) 0)), (13, VR (l.map Sighting.d)), (14, VI ((l.map Sighting.d).length : Int)), (15, VI ((k : Nat) : Int))]) (bs := [(.o 6, [.dat (.int .i64 0), .dat (.int .i64 0), .dat (.int .i64 0), .dat (.int .i64 0), .nilsl, .nilsl, .dat (.int .i64 0), .dat (.int .i64 0), .dat (.str ⟨#[]⟩), .dat (.int .i64 0), .dat (.str ⟨#[]⟩), .dat (.int .i64 0), .dat (.str ⟨#[]⟩), .dat (.int .i64 0), .dat (.int .i64 0)]), (.o 8, [.dat (.int .i64 best.node), .dat (.int .i64 best.slot), .dat (.int .i64 best.seq), .dat (.int .i64 best.trust.thr), .dat (.sl (iRows best.trust.nodes)), .dat (.sl (best.trust.inner.map Trust.enc)), .dat (.int .i64 best.kind), .dat (.int .i64 best.b.c), .dat (.str best.b.v), .dat (.int .i64 best.p.c), .dat (.str best.p.v), .dat (.int .i64 best.q.c), .dat (.str best.q.v), .dat (.int .i64 best.low), .dat (.int .i64 best.high)]), (.o 11, [.dat (.int .i64 l[k]!.time), .dat (.int .i64 l[k]!.fr), .dat (.int .i64 l[k]!.l.kind), .dat (.int .i64 l[k]!.l.slot), .dat (.int .i64 l[k]!.l.nom.node), .dat (.int .i64 l[k]!.l.nom.seq), .dat (.int .i64 l[k]!.l.nom.trust.thr), .dat (.sl (iRows l[k]!.l.nom.trust.nodes)), .dat (.sl (l[k]!.l.nom.trust.inner.map Trust.enc)), .dat (.sl (l[k]!.l.nom.votes.map sRow)), .dat (.sl (l[k]!.l.nom.accepts.map sRow)), .dat (.int .i64 l[k]!.l.env.node), .dat (.int .i64 l[k]!.l.env.slot), .dat (.int .i64 l[k]!.l.env.seq), .dat (.int .i64 l[k]!.l.env.trust.thr), .dat (.sl (iRows l[k]!.l.env.trust.nodes)), .dat (.sl (l[k]!.l.env.trust.inner.map Trust.enc)), .dat (.int .i64 l[k]!.l.env.kind), .dat (.int .i64 l[k]!.l.env.b.c), .dat (.str l[k]!.l.env.b.v), .dat (.int .i64 l[k]!.l.env.p.c), .dat (.str l[k]!.l.env.p.v), .dat (.int .i64 l[k]!.l.env.q.c), .dat (.str l[k]!.l.env.q.v), .dat (.int .i64 l[k]!.l.env.low), .dat (.int .i64 l[k]!.l.env.high)])]) (ts := []) (sc rfl (sc rfl (sc rfl (sc rfl (sc rfl (sc rfl (sc rfl (sc rfl (sc rfl sz))))))))) (xc rfl (xc rfl (xc rfl xz))) kz) ?_
      refine zsr ?_
      refine zc rfl (zfa (o := 2) (zt rfl) zk rfl ?_)
      refine zc rfl (zfa (o := 9) (zt rfl) zk rfl ?_)
      refine zc rfl (zld (n := 15) (zt rfl) zk rfl rfl rfl rfl ?_)
      refine zc rfl (zal (cs := [.dat (.int .i64 0), .dat (.int .i64 0), .dat (.int .i64 0), .dat (.int .i64 0), .nilsl, .nilsl, .dat (.int .i64 0), .dat (.int .i64 0), .dat (.str ⟨#[]⟩), .dat (.int .i64 0), .dat (.str ⟨#[]⟩), .dat (.int .i64 0), .dat (.str ⟨#[]⟩), .dat (.int .i64 0), .dat (.int .i64 0)]) zk rfl ?_)
      refine zc rfl (zst (n := 15) (zt rfl) (zt rfl) rfl (.inl zk) rfl rfl (zbl rfl) ?_)
      refine zn0 ?_
      refine zsr ?_
      refine zc rfl (zld (n := 26) (zt rfl) zk rfl rfl rfl rfl ?_)
      refine zc rfl (zcl zhf (hc (zt rfl) hz) (rs := []) (bxs := []) zdc bz (c_trustquorumref44_counts l[k]! (hok _ (mem_at hkl))) rfl rfl rfl (fun d b hd hl => ?_))
      obtain ⟨rfl, rfl⟩ := hd
      refine zc rfl (zmv (zt rfl) rfl ?_)
      refine zg rfl rfl rfl rfl (zgb rfl) (fun hg => zfa (o := 0) (zt rfl) zk rfl rfl) ?_
      refine zg rfl rfl rfl rfl (zgb rfl) (fun hg => zl1 (zcd (zt rfl) hg) zk rfl rfl rfl rfl) ?_
      refine zg rfl rfl rfl rfl (zgb rfl) (fun hg => zmv (zt rfl) rfl rfl) ?_
      refine zg rfl rfl rfl rfl (zgb rfl) (fun hg => zcm (zcd (zt rfl) hg) (zcd (zt rfl) hg) rfl rfl rfl) ?_
      refine zc rfl (zan (zt rfl) (zt rfl) (.inl zb0) rfl ?_)
      refine zc rfl (zmv (zt rfl) rfl ?_)
      refine zg rfl rfl rfl rfl (zgb rfl) (fun hg => zfa (o := 1) (zt rfl) zk rfl rfl) ?_
      refine zg rfl rfl rfl rfl (zgb rfl) (fun hg => zl1 (zcd (zt rfl) hg) zk rfl rfl rfl rfl) ?_
      refine zg rfl rfl rfl rfl (zgb rfl) (fun hg => zmv (zt rfl) rfl rfl) ?_
      refine zg rfl rfl rfl rfl (zgb rfl) (fun hg => zcm (zcd (zt rfl) hg) (zcd (zt rfl) hg) rfl rfl rfl) ?_
      refine zc rfl (zan (zt rfl) (zt rfl) (.inl zb0) rfl ?_)
      refine zc rfl (zmv (zt rfl) rfl ?_)
      refine zg rfl rfl rfl rfl (zgb rfl) (fun hg => zmv (zt rfl) rfl rfl) ?_
      refine zg rfl rfl rfl rfl (zgb rfl) (fun hg => op_not (zcd (zt rfl) hg) rfl rfl) ?_
      refine zg rfl rfl rfl rfl (zgb rfl) (fun hg => zmv (zcd (zt rfl) hg) rfl rfl) ?_
      refine zg rfl rfl rfl rfl (guard_cond rfl) (fun hg => zfa (o := 2) (zt rfl) zk rfl rfl) ?_
      refine zg rfl rfl rfl rfl (guard_cond rfl) (fun hg => zl1 (zcd (zt rfl) hg) zk rfl rfl rfl rfl) ?_
      refine zg rfl rfl rfl rfl (guard_cond rfl) (fun hg => zfa (o := 2) (zt rfl) zk rfl rfl) ?_
      refine zg rfl rfl rfl rfl (guard_cond rfl) (fun hg => zl1 (zcd (zt rfl) hg) zk rfl rfl rfl rfl) ?_
      refine zg rfl rfl rfl rfl (guard_cond rfl) (fun hg => zcm (zcd (zt rfl) hg) (zcd (zt rfl) hg) rfl rfl rfl) ?_
      refine zg rfl rfl rfl rfl (zgb rfl) (fun hg => zor (zcd (zt rfl) hg) (.inl zb0) (has_cond_and (zt rfl) hg) rfl rfl) ?_
      refine zc rfl (zan (zt rfl) (zt rfl) (.inl zb0) rfl ?_)
      refine zn0 ?_
      refine awp_le (le_of (ls := [(1, VI node), (2, VI slot), (6, .one (.ref (.o 6) 0)), (8, .one (.ref (.o 8) 0)), (9, VB found), (12, .one (.ref (.o 12) 0)), (13, VR (l.map Sighting.d)), (14, VI ((l.map Sighting.d).length : Int)), (15, VI ((k : Nat) : Int)), (46, VB (((l[k]!.countsR && decide (l[k]!.l.env.node = node)) && decide (l[k]!.l.env.slot = slot)) && ((!found) || decide (best.seq < l[k]!.l.env.seq))))]) (bs := [(.o 6, [.dat (.int .i64 0), .dat (.int .i64 0), .dat (.int .i64 0), .dat (.int .i64 0), .nilsl, .nilsl, .dat (.int .i64 0), .dat (.int .i64 0), .dat (.str ⟨#[]⟩), .dat (.int .i64 0), .dat (.str ⟨#[]⟩), .dat (.int .i64 0), .dat (.str ⟨#[]⟩), .dat (.int .i64 0), .dat (.int .i64 0)]), (.o 8, [.dat (.int .i64 best.node), .dat (.int .i64 best.slot), .dat (.int .i64 best.seq), .dat (.int .i64 best.trust.thr), .dat (.sl (iRows best.trust.nodes)), .dat (.sl (best.trust.inner.map Trust.enc)), .dat (.int .i64 best.kind), .dat (.int .i64 best.b.c), .dat (.str best.b.v), .dat (.int .i64 best.p.c), .dat (.str best.p.v), .dat (.int .i64 best.q.c), .dat (.str best.q.v), .dat (.int .i64 best.low), .dat (.int .i64 best.high)]), (.o 12, [.dat (.int .i64 l[k]!.l.env.node), .dat (.int .i64 l[k]!.l.env.slot), .dat (.int .i64 l[k]!.l.env.seq), .dat (.int .i64 l[k]!.l.env.trust.thr), .dat (.sl (iRows l[k]!.l.env.trust.nodes)), .dat (.sl (l[k]!.l.env.trust.inner.map Trust.enc)), .dat (.int .i64 l[k]!.l.env.kind), .dat (.int .i64 l[k]!.l.env.b.c), .dat (.str l[k]!.l.env.b.v), .dat (.int .i64 l[k]!.l.env.p.c), .dat (.str l[k]!.l.env.p.v), .dat (.int .i64 l[k]!.l.env.q.c), .dat (.str l[k]!.l.env.q.v), .dat (.int .i64 l[k]!.l.env.low), .dat (.int .i64 l[k]!.l.env.high)])]) (ts := []) (sc rfl (sc rfl (sc rfl (sc rfl (sc rfl (sc rfl (sc rfl (sc rfl (sc rfl (sc rfl sz)))))))))) (xc rfl (xc rfl (xc rfl xz))) kz) ?_
      refine zwc (zt rfl) (fun h2 => ?_) (fun h2 => ?_)
      · skip
        refine zre ?_
        refine zc rfl (zld (n := 15) (zt rfl) zk rfl rfl rfl rfl ?_)
        refine zc rfl (zst (n := 15) (zt rfl) (zt rfl) rfl (.inl zk) rfl rfl (zbl rfl) ?_)
        refine zc rfl (zas zb0 rfl ?_)
        refine zn0 ?_
        refine zbn ?_
        refine ztn ?_
        refine zre ?_
        refine zc rfl (zar (zt rfl) (zi zdc) rfl (ink64 zom zom) rfl ?_)
        refine zc rfl (zmv (zt rfl) rfl ?_)
        refine zn0 ?_
        refine ztn ?_
        refine ⟨true, k + 1, l[k]!.l.env, ?_, ?_, (le_of (sc rfl (sc rfl (sc rfl (sc rfl (sc rfl (sc rfl (sc rfl (sc rfl sz)))))))) (xc rfl (xc rfl xz)) kz)⟩
        · refine ⟨?_, ?_⟩
          · exact zen
          · first | (rw [newestR, fold_take _ _ hkl, ← newestR, ← hI, stepR, if_pos h2]; done) | (rw [newestR, fold_take _ _ hkl, ← newestR, ← hI, stepR, if_neg (nt h2)]; done)
        · first | omega | (simp at *; omega)
      · skip
        refine zws ?_
        refine zbn ?_
        refine ztn ?_
        refine zre ?_
        refine zc rfl (zar (zt rfl) (zi zdc) rfl (ink64 zom zom) rfl ?_)
        refine zc rfl (zmv (zt rfl) rfl ?_)
        refine zn0 ?_
        refine ztn ?_
        refine ⟨found, k + 1, best, ?_, ?_, (le_of (sc rfl (sc rfl (sc rfl (sc rfl (sc rfl (sc rfl (sc rfl (sc rfl sz)))))))) (xc rfl (xc rfl xz)) kz)⟩
        · refine ⟨?_, ?_⟩
          · exact zen
          · first | (rw [newestR, fold_take _ _ hkl, ← newestR, ← hI, stepR, if_pos h2]; done) | (rw [newestR, fold_take _ _ hkl, ← newestR, ← hI, stepR, if_neg (nt h2)]; done)
        · first | omega | (simp at *; omega)
    · skip
      have g1 := h1
      try simp only [zbz, List.length_map] at g1
      obtain rfl : k = l.length := by omega
      rw [List.take_length] at hI
      refine zwe ?_
      refine zte ?_
      refine zte ?_
      refine zbk ?_
      refine ztn ?_
      refine zsr ?_
      refine zc rfl (zld (n := 15) (zt rfl) zk rfl rfl rfl rfl ?_)
      refine zc rfl (zmv (zt rfl) rfl ?_)
      refine zc rfl (zst (n := 15) (zt rfl) (zt rfl) rfl (.inl zk) rfl rfl (zbl rfl) ?_)
      refine zc rfl (zas (zt rfl) rfl ?_)
      refine zn0 ?_
      refine zwr ?_
      refine zpr [] (res2 (ri_agg (n := 15) rfl rfl zk rfl) (zrt rfl)) rfl lz ?_
      rw [← hI]
      exact ⟨rfl, rfl⟩

end Go.TQ
