/- Contracts of functions of the program, each for every input that its hypotheses let in; printed by a program of our own (s13). -/
import Derived.Test.YtmfiplnojbjcbaaGreatC12
set_option linter.unusedVariables false
set_option linter.unusedSimpArgs false
set_option maxRecDepth 10000
set_option maxHeartbeats 4000000
namespace Go.TQ
open Go.Proofs

theorem c_New (l : List Int) : ACallsN Tryz.prog 7 [VR (iRows l)] [] fun dd bb cs => dd = .one (.ref (.e 0) 0) ∧ bb = [] ∧ cs = (Src.mk (l.take (min (l.length : Int) 800).toNat) 0).c := by
  refine acallsN_intro Tryz.func7 rfl Tryz.ntmps7 (by rw [Tryz.results7]) rfl rfl (fun w0 A0 X => ?_)
  refine zsr ?_
  refine zc rfl (zas has_nilp rfl ?_)
  refine zn0 ?_
  refine zsr ?_
  refine zc rfl (zmv (zt rfl) rfl ?_)
  refine zc rfl (zmv (zt rfl) rfl ?_)
  refine zc rfl (zln (e := 3) (n := 1) (zt rfl) rfl zk rfl (fun hl5 => ?_))
  try simp only [List.length_map] at hl5
  refine zc rfl (op_builtin_min (zt rfl) (zi zdc) rfl ?_)
  refine zc rfl (op_sliceM (e := 3) (n := 1) (l := l) (f := iRow) (zt rfl) rfl (zt rfl) zk zom zom rfl ?_)
  refine zc rfl (zbd (ps := [(_, _)]) (qs := [(_, _)]) (zs := [.nilsl, .dat (.int .i64 0)]) (pl := [(0, 1), (1, 1)]) (pc (zt rfl) rfl pz) zk zk rfl rfl ?_)
  refine zc rfl (zbx (zt rfl) rfl rfl ?_)
  refine zc rfl (zas (zt rfl) rfl ?_)
  refine zn0 ?_
  refine zwr ?_
  refine postN_ret (s := 9) [] (res1 (zrt rfl)) rfl lz rfl ?_
  have hl : (iRows l).length = l.length := by simp
  refine ⟨rfl, rfl, ?_⟩
  rw [← hl]
  rfl


theorem new_at (l : List Int) : (Src.mk (l.take (min (l.length : Int) 800).toNat) 0).at (l.take (min (l.length : Int) 800).toNat) := ⟨⟨Int.le_refl 0, by simp, by simp; omega⟩, rfl⟩
theorem Trust.ok_same {t u : Trust} (h1 : u.nodes = t.nodes) (h2 : u.inner = t.inner) (h : t.ok) : u.ok := by
  unfold Trust.ok at *
  rw [Trust.size_def] at *
  rw [h1, h2]; exact h
theorem orBit_lt4 {s k : Int} (h1 : s < 16) (h2 : k < 4) : orBit s k < 16 := by
  have h : (orBit s k).toNat < 16 := by
    rw [orBit_nat]
    refine Nat.or_lt_two_pow (n := 4) (by omega) ?_
    rw [Nat.one_shiftLeft]
    exact Nat.pow_lt_pow_right (by omega) (by omega)
  have := orBit_nn s k
  omega
theorem orI_lt4 {a b : Int} (ha : a < 16) (hb : b < 16) : orI a b < 16 := by
  have h : a.toNat ||| b.toNat < 16 := Nat.or_lt_two_pow (n := 4) (by omega) (by omega)
  unfold orI; omega
theorem useN_lt4 : ∀ (l : List Int) (s : Int), s < 16 → (∀ k ∈ l, 0 ≤ k ∧ k < 4) → useN l s < 16
  | [], s, h, _ => h
  | k :: l, s, h, hl => by
    rw [useN]
    refine useN_lt4 l _ ?_ fun x hx => hl x (by simp [hx])
    split
    · exact orBit_lt4 h (hl k (by simp)).2
    · exact h
theorem TrP.uses_lt {t : Trust} (h : TrP 4 t) : t.uses < 16 := by
  have hl : ∀ k ∈ t.nodes, 0 ≤ k ∧ k < 4 := fun k hk => by have := h.lt k hk; omega
  rw [Trust.uses_def]
  rcases h.inn with hi | ⟨x, hx, hi⟩
  · rw [hi, usesT]; exact useN_lt4 _ 0 (by omega) hl
  · rw [hi, usesT, usesT]
    refine orI_lt4 (useN_lt4 _ 0 (by omega) hl) ?_
    rw [Trust.uses_def]
    show usesT [] (useN [x] 0) < 16
    rw [usesT]
    exact useN_lt4 _ 0 (by omega) fun k hk => by rw [List.mem_singleton] at hk; omega
theorem node_of_valid {e : Env} (h : e.validR = true) : 0 ≤ e.node ∧ e.node ≤ 9 := by
  unfold Env.validR at h
  split at h
  · cases h
  · rename_i hc
    simp only [Env.c1, Bool.or_eq_true, decide_eq_true_eq, not_or] at hc
    omega
/-- A sighting that counts is of one of the first four nodes, and its trust names only these. -/
def FitP (x : Sighting) : Prop := x.l.env.validR = true → (0 ≤ x.l.env.node ∧ x.l.env.node < 4) ∧ x.l.env.trust.uses < 16
theorem fit_of {x : Sighting} {v slot : Int} {e : Env} (he : EnvP v slot 4 e) (hv : 0 ≤ v ∧ (v < 4 ∨ v = 0)) (hn : x.l.env.node = e.node ∨ x.l.env.node ∈ [(-1 : Int), 10, 3]) (h1 : x.l.env.trust.nodes = e.trust.nodes) (h2 : x.l.env.trust.inner = e.trust.inner) : FitP x := by
  intro hval
  have hb := node_of_valid hval
  have hen := he.node
  refine ⟨?_, by rw [Trust.uses_def, h1, h2, ← Trust.uses_def]; exact he.tr.uses_lt⟩
  rcases hn with hn | hn
  · omega
  · simp only [List.mem_cons, List.not_mem_nil, or_false] at hn
    omega
theorem sights_fit {l : List Sighting} {x : Sighting} (h : ∀ x ∈ l, FitP x) (hx : FitP x) : ∀ y ∈ l ++ [x], FitP y := by
  intro y hy
  rcases List.mem_append.1 hy with h1 | h1
  · exact h y h1
  · simp at h1; subst h1; exact hx
/-- What the tape's sightings are like. -/
structure SightsP (l : List Sighting) : Prop where
  len : l.length ≤ 8
  ok : ∀ x ∈ l, x.l.env.trust.ok
  fit : ∀ x ∈ l, FitP x
theorem sights_snoc {l : List Sighting} {x : Sighting} (h : ∀ x ∈ l, x.l.env.trust.ok) (hx : x.l.env.trust.ok) : ∀ y ∈ l ++ [x], y.l.env.trust.ok := by
  intro y hy
  rcases List.mem_append.1 hy with h1 | h1
  · exact h y h1
  · simp at h1; subst h1; exact hx

theorem c_Src_BentEnvelope {L : List Int} (s : Src) (hs : s.at L) (e : Env) : ACalls Tryz.prog 25 [.one (.ref (.e 0) 0), .aggd e.d] [s.c] fun dd bb => ∃ (e2 : Env) (s2 : Src), dd = .aggd e2.d ∧ bb = [s2.c] ∧ ((e2.trust.nodes = e.trust.nodes ∧ e2.trust.inner = e.trust.inner ∧ (e2.node = e.node ∨ e2.node ∈ [(-1 : Int), 10, 3])) ∧ s2.at L) := by
  refine zai Tryz.func25 rfl Tryz.ntmps25 (by rw [Tryz.results25]) rfl rfl (fun w0 A0 X => ?_)
  refine zsr ?_
  refine zc rfl (zbx (zt rfl) rfl rfl ?_)
  refine zc rfl (zal (cs := [.dat (.int .i64 0), .dat (.int .i64 0), .dat (.int .i64 0), .dat (.int .i64 0), .nilsl, .nilsl, .dat (.int .i64 0), .dat (.int .i64 0), .dat (.str ⟨#[]⟩), .dat (.int .i64 0), .dat (.str ⟨#[]⟩), .dat (.int .i64 0), .dat (.str ⟨#[]⟩), .dat (.int .i64 0), .dat (.int .i64 0)]) zk rfl ?_)
  refine zn0 ?_
  refine zw2 ?_
  refine zsr ?_
  refine zc rfl (zmv (zt rfl) rfl ?_)
  refine zc rfl (zcl zhf (hc (zt rfl) (hc (zi zdc) hz)) (rs := [.e 0]) (bxs := [_]) zdc (bc rfl bz) (r_Src_N s 10 (by first | assumption | omega | trivial | (simp; done) | (constructor <;> omega)) (by first | assumption | omega | trivial | (simp; done) | (constructor <;> omega))) rfl rfl rfl (fun d b hd hl => ?_))
  obtain ⟨v, s2, rfl, rfl, ⟨hv, hs1⟩⟩ := hd
  refine zn0 ?_
  refine zwb ?_
  refine zsr ?_
  refine zc rfl (zcm (zt rfl) (zi zdc) rfl rfl ?_)
  refine zc rfl (zas (zt rfl) rfl ?_)
  refine zn0 ?_
  refine zwc (zt rfl) (fun h1 => ?_) (fun h1 => ?_)
  · skip
    have g1 := h1
    try simp only [zbz, List.length_map] at g1
    refine zre ?_
    refine zc rfl (zmv (zt rfl) rfl ?_)
    refine zc rfl (zbs (e := 3) (ps := [(_, _), (_, _), (_, _)]) (qs := [(_, _), (_, _), (_, _)]) (n := 1) (rows := [[_], [_], [_]]) (pc (zi zdc) rfl (pc (zi zdc) rfl (pc (zi zdc) rfl pz))) zk zdc ⟨[.dat (.int .i64 0)], by kernel_rfl⟩ rfl rfl (by simp [Uni]) rfl zdc rfl ?_)
    refine zc rfl (zcl zhf (hc (zt rfl) (hc (zt rfl) hz)) (rs := [.e 0]) (bxs := [_]) zdc (bc rfl bz) (r_Src_Pick s2 [(-1), 10, 3] (by first | assumption | omega | trivial | (simp; done) | (constructor <;> omega)) (by first | assumption | omega | trivial | (simp; done) | (constructor <;> omega))) rfl rfl rfl (fun d b hd hl => ?_))
    obtain ⟨v1, s3, rfl, rfl, ⟨hv1, hs2⟩⟩ := hd
    refine zc rfl (zfa (o := 0) (zt rfl) zk rfl ?_)
    refine zc rfl (zst (n := 1) (zt rfl) (zt rfl) rfl (.inr ⟨by kernel_rfl, rfl⟩) rfl rfl (zbl rfl) ?_)
    refine zn0 ?_
    refine zbn ?_
    refine ztn ?_
    refine zsr ?_
    refine zc rfl (zld (n := 15) (zt rfl) zk rfl rfl rfl rfl ?_)
    refine zc rfl (zst (n := 15) (zt rfl) (zt rfl) rfl (.inl zk) rfl rfl (zbl rfl) ?_)
    refine zn0 ?_
    refine zwr ?_
    refine zpr [_] (res1 (ri_agg (n := 15) rfl rfl zk rfl)) (show _ = 1 from rfl) (l1 rfl) ?_
    refine ⟨(Env.mk v1 e.slot e.seq e.trust e.kind e.b e.p e.q e.low e.high), s3, rfl, rfl, ?_⟩
    exact ⟨⟨rfl, rfl, by first | exact .inl rfl | exact .inr (by assumption)⟩, by assumption⟩
  · skip
    have g1 := h1
    try simp only [zbz, List.length_map] at g1
    refine zsr ?_
    refine zc rfl (zcm (zt rfl) (zi zdc) rfl rfl ?_)
    refine zc rfl (zas (zt rfl) rfl ?_)
    refine zn0 ?_
    refine zwc (zt rfl) (fun h2 => ?_) (fun h2 => ?_)
    · skip
      have g2 := h2
      try simp only [zbz, List.length_map] at g2
      refine zre ?_
      refine zc rfl (zmv (zt rfl) rfl ?_)
      refine zc rfl (zbs (e := 3) (ps := [(_, _), (_, _), (_, _)]) (qs := [(_, _), (_, _), (_, _)]) (n := 1) (rows := [[_], [_], [_]]) (pc (zi zdc) rfl (pc (zi zdc) rfl (pc (zi zdc) rfl pz))) zk zdc ⟨[.dat (.int .i64 0)], by kernel_rfl⟩ rfl rfl (by simp [Uni]) rfl zdc rfl ?_)
      refine zc rfl (zcl zhf (hc (zt rfl) (hc (zt rfl) hz)) (rs := [.e 0]) (bxs := [_]) zdc (bc rfl bz) (r_Src_Pick s2 [0, 1000001, 2] (by first | assumption | omega | trivial | (simp; done) | (constructor <;> omega)) (by first | assumption | omega | trivial | (simp; done) | (constructor <;> omega))) rfl rfl rfl (fun d b hd hl => ?_))
      obtain ⟨v1, s3, rfl, rfl, ⟨hv1, hs2⟩⟩ := hd
      refine zc rfl (zfa (o := 1) (zt rfl) zk rfl ?_)
      refine zc rfl (zst (n := 1) (zt rfl) (zt rfl) rfl (.inr ⟨by kernel_rfl, rfl⟩) rfl rfl (zbl rfl) ?_)
      refine zn0 ?_
      refine zbn ?_
      refine ztn ?_
      refine zsr ?_
      refine zc rfl (zld (n := 15) (zt rfl) zk rfl rfl rfl rfl ?_)
      refine zc rfl (zst (n := 15) (zt rfl) (zt rfl) rfl (.inl zk) rfl rfl (zbl rfl) ?_)
      refine zn0 ?_
      refine awp_le (le_of (ls := [(4, .one (.ref (.o 4) 0))]) (bs := [(.e 0, [.dat (.sl (iRows s3.l)), .dat (.int .i64 s3.a)]), (.o 4, [.dat (.int .i64 e.node), .dat (.int .i64 v1), .dat (.int .i64 e.seq), .dat (.int .i64 e.trust.thr), .dat (.sl (iRows e.trust.nodes)), .dat (.sl (e.trust.inner.map Trust.enc)), .dat (.int .i64 e.kind), .dat (.int .i64 e.b.c), .dat (.str e.b.v), .dat (.int .i64 e.p.c), .dat (.str e.p.v), .dat (.int .i64 e.q.c), .dat (.str e.q.v), .dat (.int .i64 e.low), .dat (.int .i64 e.high)])]) (ts := []) (sc rfl sz) (xc rfl (xc rfl xz)) kz) ?_
      refine zwr ?_
      refine zpr [_] (res1 (ri_agg (n := 15) rfl rfl zk rfl)) (show _ = 1 from rfl) (l1 rfl) ?_
      refine ⟨(Env.mk e.node v1 e.seq e.trust e.kind e.b e.p e.q e.low e.high), s3, rfl, rfl, ?_⟩
      exact ⟨⟨rfl, rfl, by first | exact .inl rfl | exact .inr (by assumption)⟩, by assumption⟩
    · skip
      have g2 := h2
      try simp only [zbz, List.length_map] at g2
      refine zsr ?_
      refine zc rfl (zcm (zt rfl) (zi zdc) rfl rfl ?_)
      refine zc rfl (zas (zt rfl) rfl ?_)
      refine zn0 ?_
      refine zwc (zt rfl) (fun h3 => ?_) (fun h3 => ?_)
      · skip
        have g3 := h3
        try simp only [zbz, List.length_map] at g3
        refine zre ?_
        refine zc rfl (zmv (zt rfl) rfl ?_)
        refine zc rfl (zcl zhf (hc (zt rfl) hz) (rs := [.e 0]) (bxs := [_]) zdc (bc rfl bz) (r_Src_Odd s2 (by first | assumption | omega | trivial | (simp; done) | (constructor <;> omega))) rfl rfl rfl (fun d b hd hl => ?_))
        obtain ⟨v1, s3, rfl, rfl, ⟨hv1, hs2⟩⟩ := hd
        refine zc rfl (zfa (o := 2) (zt rfl) zk rfl ?_)
        refine zc rfl (zst (n := 1) (zt rfl) (zt rfl) rfl (.inr ⟨by kernel_rfl, rfl⟩) rfl rfl (zbl rfl) ?_)
        refine zn0 ?_
        refine zbn ?_
        refine ztn ?_
        refine zsr ?_
        refine zc rfl (zld (n := 15) (zt rfl) zk rfl rfl rfl rfl ?_)
        refine zc rfl (zst (n := 15) (zt rfl) (zt rfl) rfl (.inl zk) rfl rfl (zbl rfl) ?_)
        refine zn0 ?_
        refine zwr ?_
        refine zpr [_] (res1 (ri_agg (n := 15) rfl rfl zk rfl)) (show _ = 1 from rfl) (l1 rfl) ?_
        refine ⟨(Env.mk e.node e.slot v1 e.trust e.kind e.b e.p e.q e.low e.high), s3, rfl, rfl, ?_⟩
        exact ⟨⟨rfl, rfl, by first | exact .inl rfl | exact .inr (by assumption)⟩, by assumption⟩
      · skip
        have g3 := h3
        try simp only [zbz, List.length_map] at g3
        refine zsr ?_
        refine zc rfl (zcm (zt rfl) (zi zdc) rfl rfl ?_)
        refine zc rfl (zas (zt rfl) rfl ?_)
        refine zn0 ?_
        refine zwc (zt rfl) (fun h4 => ?_) (fun h4 => ?_)
        · skip
          have g4 := h4
          try simp only [zbz, List.length_map] at g4
          refine zre ?_
          refine zc rfl (zmv (zt rfl) rfl ?_)
          refine zc rfl (zbs (e := 3) (ps := [(_, _), (_, _)]) (qs := [(_, _), (_, _)]) (n := 1) (rows := [[_], [_]]) (pc (zi zdc) rfl (pc (zi zdc) rfl pz)) zk zdc ⟨[.dat (.int .i64 0)], by kernel_rfl⟩ rfl rfl (by simp [Uni]) rfl zdc rfl ?_)
          refine zc rfl (zcl zhf (hc (zt rfl) (hc (zt rfl) hz)) (rs := [.e 0]) (bxs := [_]) zdc (bc rfl bz) (r_Src_Pick s2 [0, 20] (by first | assumption | omega | trivial | (simp; done) | (constructor <;> omega)) (by first | assumption | omega | trivial | (simp; done) | (constructor <;> omega))) rfl rfl rfl (fun d b hd hl => ?_))
          obtain ⟨v1, s3, rfl, rfl, ⟨hv1, hs2⟩⟩ := hd
          refine zc rfl (zfa (o := 3) (zt rfl) zk rfl ?_)
          refine zc rfl (zfa (o := 0) (zt rfl) zk rfl ?_)
          refine zc rfl (zst (n := 1) (zt rfl) (zt rfl) rfl (.inr ⟨by kernel_rfl, rfl⟩) rfl rfl (zbl rfl) ?_)
          refine zn0 ?_
          refine zbn ?_
          refine ztn ?_
          refine zsr ?_
          refine zc rfl (zld (n := 15) (zt rfl) zk rfl rfl rfl rfl ?_)
          refine zc rfl (zst (n := 15) (zt rfl) (zt rfl) rfl (.inl zk) rfl rfl (zbl rfl) ?_)
          refine zn0 ?_
          refine awp_le (le_of (ls := [(4, .one (.ref (.o 4) 0))]) (bs := [(.e 0, [.dat (.sl (iRows s3.l)), .dat (.int .i64 s3.a)]), (.o 4, [.dat (.int .i64 e.node), .dat (.int .i64 e.slot), .dat (.int .i64 e.seq), .dat (.int .i64 v1), .dat (.sl (iRows e.trust.nodes)), .dat (.sl (e.trust.inner.map Trust.enc)), .dat (.int .i64 e.kind), .dat (.int .i64 e.b.c), .dat (.str e.b.v), .dat (.int .i64 e.p.c), .dat (.str e.p.v), .dat (.int .i64 e.q.c), .dat (.str e.q.v), .dat (.int .i64 e.low), .dat (.int .i64 e.high)])]) (ts := []) (sc rfl sz) (xc rfl (xc rfl xz)) kz) ?_
          refine zwr ?_
          refine zpr [_] (res1 (ri_agg (n := 15) rfl rfl zk rfl)) (show _ = 1 from rfl) (l1 rfl) ?_
          refine ⟨(Env.mk e.node e.slot e.seq (Trust.mk v1 e.trust.nodes e.trust.inner) e.kind e.b e.p e.q e.low e.high), s3, rfl, rfl, ?_⟩
          exact ⟨⟨rfl, rfl, by first | exact .inl rfl | exact .inr (by assumption)⟩, by assumption⟩
        · skip
          have g4 := h4
          try simp only [zbz, List.length_map] at g4
          refine zsr ?_
          refine zc rfl (zcm (zt rfl) (zi zdc) rfl rfl ?_)
          refine zc rfl (zas (zt rfl) rfl ?_)
          refine zn0 ?_
          refine zwc (zt rfl) (fun h5 => ?_) (fun h5 => ?_)
          · skip
            have g5 := h5
            try simp only [zbz, List.length_map] at g5
            refine zre ?_
            refine zc rfl (zmv (zt rfl) rfl ?_)
            refine zc rfl (zcl zhf (hc (zt rfl) (hc (zi zdc) (hc (zi zdc) hz))) (rs := [.e 0]) (bxs := [_]) zdc (bc rfl bz) (r_Src_Range s2 0 4 (by first | assumption | omega | trivial | (simp; done) | (constructor <;> omega)) (by first | assumption | omega | trivial | (simp; done) | (constructor <;> omega))) rfl rfl rfl (fun d b hd hl => ?_))
            obtain ⟨v1, s3, rfl, rfl, ⟨hv1, hs2⟩⟩ := hd
            refine zc rfl (zfa (o := 6) (zt rfl) zk rfl ?_)
            refine zc rfl (zst (n := 1) (zt rfl) (zt rfl) rfl (.inr ⟨by kernel_rfl, rfl⟩) rfl rfl (zbl rfl) ?_)
            refine zn0 ?_
            refine zbn ?_
            refine ztn ?_
            refine zsr ?_
            refine zc rfl (zld (n := 15) (zt rfl) zk rfl rfl rfl rfl ?_)
            refine zc rfl (zst (n := 15) (zt rfl) (zt rfl) rfl (.inl zk) rfl rfl (zbl rfl) ?_)
            refine zn0 ?_
            refine zwr ?_
            refine zpr [_] (res1 (ri_agg (n := 15) rfl rfl zk rfl)) (show _ = 1 from rfl) (l1 rfl) ?_
            refine ⟨(Env.mk e.node e.slot e.seq e.trust v1 e.b e.p e.q e.low e.high), s3, rfl, rfl, ?_⟩
            exact ⟨⟨rfl, rfl, by first | exact .inl rfl | exact .inr (by assumption)⟩, by assumption⟩
          · skip
            have g5 := h5
            try simp only [zbz, List.length_map] at g5
            refine zsr ?_
            refine zc rfl (zcm (zt rfl) (zi zdc) rfl rfl ?_)
            refine zc rfl (zas (zt rfl) rfl ?_)
            refine zn0 ?_
            refine zwc (zt rfl) (fun h6 => ?_) (fun h6 => ?_)
            · skip
              have g6 := h6
              try simp only [zbz, List.length_map] at g6
              refine zre ?_
              refine zc rfl (zmv (zt rfl) rfl ?_)
              refine zc rfl (zcl zhf (hc (zt rfl) hz) (rs := [.e 0]) (bxs := [_]) zdc (bc rfl bz) (r_Src_Odd s2 (by first | assumption | omega | trivial | (simp; done) | (constructor <;> omega))) rfl rfl rfl (fun d b hd hl => ?_))
              obtain ⟨v1, s3, rfl, rfl, ⟨hv1, hs2⟩⟩ := hd
              refine zc rfl (zmv (zt rfl) rfl ?_)
              refine zc rfl (zbs (e := 9) (ps := [(_, _), (_, _), (_, _)]) (qs := [(_, _), (_, _), (_, _)]) (n := 1) (rows := [[_], [_], [_]]) (pc (has_str zdc) rfl (pc (has_str zdc) rfl (pc (has_str zdc) rfl pz))) zk zdc ⟨[.dat (.str ⟨#[]⟩)], by kernel_rfl⟩ rfl rfl (by simp [Uni]) rfl zdc rfl ?_)
              refine zc rfl (zcl zhf (hc (zt rfl) (hc (zt rfl) hz)) (rs := [.e 0]) (bxs := [_]) zdc (bc rfl bz) (r_Src_Text s3 [⟨#[]⟩, ⟨#[97]⟩, ⟨#[98]⟩] (by first | assumption | omega | trivial | (simp; done) | (constructor <;> omega)) (by first | assumption | omega | trivial | (simp; done) | (constructor <;> omega))) rfl rfl rfl (fun d b hd hl => ?_))
              obtain ⟨v2, s4, rfl, rfl, ⟨hv2, hs3⟩⟩ := hd
              refine zc rfl (zbd (ps := [(_, _), (_, _)]) (qs := [(_, _), (_, _)]) (zs := [.dat (.int .i64 0), .dat (.str ⟨#[]⟩)]) (pl := [(0, 1), (1, 1)]) (pc (zt rfl) rfl (pc (zt rfl) rfl pz)) zk zk rfl rfl ?_)
              refine zc rfl (zfa (o := 7) (zt rfl) zk rfl ?_)
              refine zc rfl (zst (n := 2) (zt rfl) (zt rfl) rfl (.inl zk) rfl rfl (zbl rfl) ?_)
              refine zn0 ?_
              refine zbn ?_
              refine ztn ?_
              refine zsr ?_
              refine zc rfl (zld (n := 15) (zt rfl) zk rfl rfl rfl rfl ?_)
              refine zc rfl (zst (n := 15) (zt rfl) (zt rfl) rfl (.inl zk) rfl rfl (zbl rfl) ?_)
              refine zn0 ?_
              refine awp_le (le_of (ls := [(4, .one (.ref (.o 4) 0))]) (bs := [(.e 0, [.dat (.sl (iRows s4.l)), .dat (.int .i64 s4.a)]), (.o 4, [.dat (.int .i64 e.node), .dat (.int .i64 e.slot), .dat (.int .i64 e.seq), .dat (.int .i64 e.trust.thr), .dat (.sl (iRows e.trust.nodes)), .dat (.sl (e.trust.inner.map Trust.enc)), .dat (.int .i64 e.kind), .dat (.int .i64 v1), .dat (.str v2), .dat (.int .i64 e.p.c), .dat (.str e.p.v), .dat (.int .i64 e.q.c), .dat (.str e.q.v), .dat (.int .i64 e.low), .dat (.int .i64 e.high)])]) (ts := []) (sc rfl sz) (xc rfl (xc rfl xz)) kz) ?_
              refine zwr ?_
              refine zpr [_] (res1 (ri_agg (n := 15) rfl rfl zk rfl)) (show _ = 1 from rfl) (l1 rfl) ?_
              refine ⟨(Env.mk e.node e.slot e.seq e.trust e.kind (Ballot.mk v1 v2) e.p e.q e.low e.high), s4, rfl, rfl, ?_⟩
              exact ⟨⟨rfl, rfl, by first | exact .inl rfl | exact .inr (by assumption)⟩, by assumption⟩
            · skip
              have g6 := h6
              try simp only [zbz, List.length_map] at g6
              refine zsr ?_
              refine zc rfl (zcm (zt rfl) (zi zdc) rfl rfl ?_)
              refine zc rfl (zas (zt rfl) rfl ?_)
              refine zn0 ?_
              refine zwc (zt rfl) (fun h7 => ?_) (fun h7 => ?_)
              · skip
                have g7 := h7
                try simp only [zbz, List.length_map] at g7
                refine zre ?_
                refine zc rfl (zmv (zt rfl) rfl ?_)
                refine zc rfl (zcl zhf (hc (zt rfl) hz) (rs := [.e 0]) (bxs := [_]) zdc (bc rfl bz) (r_Src_Odd s2 (by first | assumption | omega | trivial | (simp; done) | (constructor <;> omega))) rfl rfl rfl (fun d b hd hl => ?_))
                obtain ⟨v1, s3, rfl, rfl, ⟨hv1, hs2⟩⟩ := hd
                refine zc rfl (zmv (zt rfl) rfl ?_)
                refine zc rfl (zbs (e := 9) (ps := [(_, _), (_, _), (_, _)]) (qs := [(_, _), (_, _), (_, _)]) (n := 1) (rows := [[_], [_], [_]]) (pc (has_str zdc) rfl (pc (has_str zdc) rfl (pc (has_str zdc) rfl pz))) zk zdc ⟨[.dat (.str ⟨#[]⟩)], by kernel_rfl⟩ rfl rfl (by simp [Uni]) rfl zdc rfl ?_)
                refine zc rfl (zcl zhf (hc (zt rfl) (hc (zt rfl) hz)) (rs := [.e 0]) (bxs := [_]) zdc (bc rfl bz) (r_Src_Text s3 [⟨#[]⟩, ⟨#[97]⟩, ⟨#[98]⟩] (by first | assumption | omega | trivial | (simp; done) | (constructor <;> omega)) (by first | assumption | omega | trivial | (simp; done) | (constructor <;> omega))) rfl rfl rfl (fun d b hd hl => ?_))
                obtain ⟨v2, s4, rfl, rfl, ⟨hv2, hs3⟩⟩ := hd
                refine zc rfl (zbd (ps := [(_, _), (_, _)]) (qs := [(_, _), (_, _)]) (zs := [.dat (.int .i64 0), .dat (.str ⟨#[]⟩)]) (pl := [(0, 1), (1, 1)]) (pc (zt rfl) rfl (pc (zt rfl) rfl pz)) zk zk rfl rfl ?_)
                refine zc rfl (zfa (o := 9) (zt rfl) zk rfl ?_)
                refine zc rfl (zst (n := 2) (zt rfl) (zt rfl) rfl (.inl zk) rfl rfl (zbl rfl) ?_)
                refine zn0 ?_
                refine zbn ?_
                refine ztn ?_
                refine zsr ?_
                refine zc rfl (zld (n := 15) (zt rfl) zk rfl rfl rfl rfl ?_)
                refine zc rfl (zst (n := 15) (zt rfl) (zt rfl) rfl (.inl zk) rfl rfl (zbl rfl) ?_)
                refine zn0 ?_
                refine zwr ?_
                refine zpr [_] (res1 (ri_agg (n := 15) rfl rfl zk rfl)) (show _ = 1 from rfl) (l1 rfl) ?_
                refine ⟨(Env.mk e.node e.slot e.seq e.trust e.kind e.b (Ballot.mk v1 v2) e.q e.low e.high), s4, rfl, rfl, ?_⟩
                exact ⟨⟨rfl, rfl, by first | exact .inl rfl | exact .inr (by assumption)⟩, by assumption⟩
              · skip
                have g7 := h7
                try simp only [zbz, List.length_map] at g7
                refine zsr ?_
                refine zc rfl (zcm (zt rfl) (zi zdc) rfl rfl ?_)
                refine zc rfl (zas (zt rfl) rfl ?_)
                refine zn0 ?_
                refine zwc (zt rfl) (fun h8 => ?_) (fun h8 => ?_)
                · skip
                  have g8 := h8
                  try simp only [zbz, List.length_map] at g8
                  refine zre ?_
                  refine zc rfl (zmv (zt rfl) rfl ?_)
                  refine zc rfl (zcl zhf (hc (zt rfl) hz) (rs := [.e 0]) (bxs := [_]) zdc (bc rfl bz) (r_Src_Ballot s2 (by first | assumption | omega | trivial | (simp; done) | (constructor <;> omega))) rfl rfl rfl (fun d b hd hl => ?_))
                  obtain ⟨b, s3, rfl, rfl, ⟨hv1, hs2⟩⟩ := hd
                  refine zc rfl (zfa (o := 11) (zt rfl) zk rfl ?_)
                  refine zc rfl (zst (n := 2) (zt rfl) (zt rfl) rfl (.inl zk) rfl rfl (zbl rfl) ?_)
                  refine zn0 ?_
                  refine zbn ?_
                  refine ztn ?_
                  refine zsr ?_
                  refine zc rfl (zld (n := 15) (zt rfl) zk rfl rfl rfl rfl ?_)
                  refine zc rfl (zst (n := 15) (zt rfl) (zt rfl) rfl (.inl zk) rfl rfl (zbl rfl) ?_)
                  refine zn0 ?_
                  refine awp_le (le_of (ls := [(4, .one (.ref (.o 4) 0))]) (bs := [(.e 0, [.dat (.sl (iRows s3.l)), .dat (.int .i64 s3.a)]), (.o 4, [.dat (.int .i64 e.node), .dat (.int .i64 e.slot), .dat (.int .i64 e.seq), .dat (.int .i64 e.trust.thr), .dat (.sl (iRows e.trust.nodes)), .dat (.sl (e.trust.inner.map Trust.enc)), .dat (.int .i64 e.kind), .dat (.int .i64 e.b.c), .dat (.str e.b.v), .dat (.int .i64 e.p.c), .dat (.str e.p.v), .dat (.int .i64 b.c), .dat (.str b.v), .dat (.int .i64 e.low), .dat (.int .i64 e.high)])]) (ts := []) (sc rfl sz) (xc rfl (xc rfl xz)) kz) ?_
                  refine zwr ?_
                  refine zpr [_] (res1 (ri_agg (n := 15) rfl rfl zk rfl)) (show _ = 1 from rfl) (l1 rfl) ?_
                  refine ⟨(Env.mk e.node e.slot e.seq e.trust e.kind e.b e.p b e.low e.high), s3, rfl, rfl, ?_⟩
                  exact ⟨⟨rfl, rfl, by first | exact .inl rfl | exact .inr (by assumption)⟩, by assumption⟩
                · skip
                  have g8 := h8
                  try simp only [zbz, List.length_map] at g8
                  refine zsr ?_
                  refine zc rfl (zcm (zt rfl) (zi zdc) rfl rfl ?_)
                  refine zc rfl (zas (zt rfl) rfl ?_)
                  refine zn0 ?_
                  refine zwc (zt rfl) (fun h9 => ?_) (fun h9 => ?_)
                  · skip
                    have g9 := h9
                    try simp only [zbz, List.length_map] at g9
                    refine zre ?_
                    refine zc rfl (zmv (zt rfl) rfl ?_)
                    refine zc rfl (zcl zhf (hc (zt rfl) hz) (rs := [.e 0]) (bxs := [_]) zdc (bc rfl bz) (r_Src_Odd s2 (by first | assumption | omega | trivial | (simp; done) | (constructor <;> omega))) rfl rfl rfl (fun d b hd hl => ?_))
                    obtain ⟨v1, s3, rfl, rfl, ⟨hv1, hs2⟩⟩ := hd
                    refine zc rfl (zfa (o := 13) (zt rfl) zk rfl ?_)
                    refine zc rfl (zst (n := 1) (zt rfl) (zt rfl) rfl (.inr ⟨by kernel_rfl, rfl⟩) rfl rfl (zbl rfl) ?_)
                    refine zn0 ?_
                    refine zbn ?_
                    refine ztn ?_
                    refine zsr ?_
                    refine zc rfl (zld (n := 15) (zt rfl) zk rfl rfl rfl rfl ?_)
                    refine zc rfl (zst (n := 15) (zt rfl) (zt rfl) rfl (.inl zk) rfl rfl (zbl rfl) ?_)
                    refine zn0 ?_
                    refine zwr ?_
                    refine zpr [_] (res1 (ri_agg (n := 15) rfl rfl zk rfl)) (show _ = 1 from rfl) (l1 rfl) ?_
                    refine ⟨(Env.mk e.node e.slot e.seq e.trust e.kind e.b e.p e.q v1 e.high), s3, rfl, rfl, ?_⟩
                    exact ⟨⟨rfl, rfl, by first | exact .inl rfl | exact .inr (by assumption)⟩, by assumption⟩
                  · skip
                    have g9 := h9
                    try simp only [zbz, List.length_map] at g9
                    refine zre ?_
                    refine zc rfl (zmv (zt rfl) rfl ?_)
                    refine zc rfl (zcl zhf (hc (zt rfl) hz) (rs := [.e 0]) (bxs := [_]) zdc (bc rfl bz) (r_Src_Odd s2 (by first | assumption | omega | trivial | (simp; done) | (constructor <;> omega))) rfl rfl rfl (fun d b hd hl => ?_))
                    obtain ⟨v1, s3, rfl, rfl, ⟨hv1, hs2⟩⟩ := hd
                    refine zc rfl (zfa (o := 14) (zt rfl) zk rfl ?_)
                    refine zc rfl (zst (n := 1) (zt rfl) (zt rfl) rfl (.inr ⟨by kernel_rfl, rfl⟩) rfl rfl (zbl rfl) ?_)
                    refine zn0 ?_
                    refine zbn ?_
                    refine ztn ?_
                    refine zsr ?_
                    refine zc rfl (zld (n := 15) (zt rfl) zk rfl rfl rfl rfl ?_)
                    refine zc rfl (zst (n := 15) (zt rfl) (zt rfl) rfl (.inl zk) rfl rfl (zbl rfl) ?_)
                    refine zn0 ?_
                    refine awp_le (le_of (ls := [(4, .one (.ref (.o 4) 0))]) (bs := [(.e 0, [.dat (.sl (iRows s3.l)), .dat (.int .i64 s3.a)]), (.o 4, [.dat (.int .i64 e.node), .dat (.int .i64 e.slot), .dat (.int .i64 e.seq), .dat (.int .i64 e.trust.thr), .dat (.sl (iRows e.trust.nodes)), .dat (.sl (e.trust.inner.map Trust.enc)), .dat (.int .i64 e.kind), .dat (.int .i64 e.b.c), .dat (.str e.b.v), .dat (.int .i64 e.p.c), .dat (.str e.p.v), .dat (.int .i64 e.q.c), .dat (.str e.q.v), .dat (.int .i64 e.low), .dat (.int .i64 v1)])]) (ts := []) (sc rfl sz) (xc rfl (xc rfl xz)) kz) ?_
                    refine zwr ?_
                    refine zpr [_] (res1 (ri_agg (n := 15) rfl rfl zk rfl)) (show _ = 1 from rfl) (l1 rfl) ?_
                    refine ⟨(Env.mk e.node e.slot e.seq e.trust e.kind e.b e.p e.q e.low v1), s3, rfl, rfl, ?_⟩
                    exact ⟨⟨rfl, rfl, by first | exact .inl rfl | exact .inr (by assumption)⟩, by assumption⟩

theorem c_sightings {L : List Int} (s : Src) (hs : s.at L) : ACalls Tryz.prog 8 [.one (.ref (.e 0) 0)] [s.c] fun dd bb => ∃ (l : List Sighting) (s2 : Src), dd = VR (l.map Sighting.d) ∧ bb = [s2.c] ∧ (SightsP l ∧ s2.at L) := by
  refine zai Tryz.func8 rfl Tryz.ntmps8 (by rw [Tryz.results8]) rfl rfl (fun w0 A0 X => ?_)
  refine zsr ?_
  refine zc rfl (zas has_nil rfl ?_)
  refine zn0 ?_
  refine zsr ?_
  refine zc rfl (zas has_nil rfl ?_)
  refine zn0 ?_
  refine zw2 ?_
  refine zsr ?_
  refine zc rfl (zmv (zt rfl) rfl ?_)
  refine zc rfl (zcl zhf (hc (zt rfl) (hc (zi zdc) hz)) (rs := [.e 0]) (bxs := [_]) zdc (bc rfl bz) (r_Src_N s 9 (by first | assumption | omega | trivial | (simp; done) | (constructor <;> omega)) (by first | assumption | omega | trivial | (simp; done) | (constructor <;> omega))) rfl rfl rfl (fun d b hd hl => ?_))
  obtain ⟨v, s2, rfl, rfl, ⟨hv, hs1⟩⟩ := hd
  refine zc rfl (zas (zt rfl) rfl ?_)
  refine zn0 ?_
  refine zwb ?_
  refine awp_loop3 (fs := [(0, _)]) (fb := []) (fun (l : List Sighting) (k : Int) (s1 : Src) => [(3, .one (.slt 1010 (l.map Sighting.d))), (4, VI k)]) (fun (l : List Sighting) (k : Int) (s1 : Src) => [(.e 0, [.dat (.sl (iRows s1.l)), .dat (.int .i64 s1.a)])]) (fun (l : List Sighting) (k : Int) (s1 : Src) => [(1010, (57, 26))]) (fun (l : List Sighting) (k : Int) (s1 : Src) => (s1.at L) ∧ (0 ≤ k ∧ k ≤ 8) ∧ ((l.length : Int) + k ≤ 8) ∧ (∀ x ∈ l, x.l.env.trust.ok) ∧ (∀ x ∈ l, FitP x)) (fun (l : List Sighting) (k : Int) (s1 : Src) => k.toNat) [] v s2 ((le_adopt (q := 1010) (t := 3) (e := 57) (k := 26) zdc rfl).trans (le_of (sc rfl (sc rfl (sc rfl sz))) (xc rfl xz) (kc rfl kz))) ?_ ?_
  · refine ⟨?_, ?_, ?_, ?_, ?_⟩
    · exact zen
    · exact zen
    · exact zen
    · intro x hx; cases hx
    · intro x hx; cases hx
  · intro l k s1 ⟨hs, hk, hlen, hok, hft⟩
    refine zw2 ?_
    refine zsr ?_
    refine zc rfl (zmv (zt rfl) rfl ?_)
    refine zc rfl (zcm (zt rfl) (zi zdc) rfl rfl ?_)
    refine zn0 ?_
    refine awp_le (le_of (ls := [(0, .one (.ref (.e 0) 0)), (3, .one (.slt 1010 (l.map Sighting.d))), (4, VI k), (10, VB (decide (0 < k)))]) (bs := [(.e 0, [.dat (.sl (iRows s1.l)), .dat (.int .i64 s1.a)])]) (ts := [(1010, (57, 26))]) (sc rfl (sc rfl (sc rfl (sc rfl sz)))) (xc rfl xz) (kc rfl kz)) ?_
    refine zwc (zt rfl) (fun h1 => ?_) (fun h1 => ?_)
    · skip
      have g1 := h1
      try simp only [zbz, List.length_map] at g1
      refine zws ?_
      refine ztn ?_
      refine zw2 ?_
      refine zwb ?_
      refine zsr ?_
      refine zc rfl (zmv (zt rfl) rfl ?_)
      refine zc rfl (zmv (zt rfl) rfl ?_)
      refine zc rfl (zcl zhf (hc (zt rfl) (hc (zi zdc) hz)) (rs := [.e 0]) (bxs := [_]) zdc (bc rfl bz) (r_Src_N s1 4 (by first | assumption | omega | trivial | (simp; done) | (constructor <;> omega)) (by first | assumption | omega | trivial | (simp; done) | (constructor <;> omega))) rfl rfl rfl (fun d b hd hl => ?_))
      obtain ⟨v1, s3, rfl, rfl, ⟨hv1, hs2⟩⟩ := hd
      refine zc rfl (zmv (zt rfl) rfl ?_)
      refine zc rfl (zcl zhf (hc (zt rfl) (hc (zi zdc) (hc (zi zdc) hz))) (rs := [.e 0]) (bxs := [_]) zdc (bc rfl bz) (r_Src_Range s3 1 2 (by first | assumption | omega | trivial | (simp; done) | (constructor <;> omega)) (by first | assumption | omega | trivial | (simp; done) | (constructor <;> omega))) rfl rfl rfl (fun d b hd hl => ?_))
      obtain ⟨v2, s4, rfl, rfl, ⟨hv2, hs3⟩⟩ := hd
      refine zc rfl (zcl zhf (hc (zt rfl) (hc (zt rfl) (hc (zt rfl) (hc (zi zdc) hz)))) (rs := [.e 0]) (bxs := [_]) zdc (bc rfl bz) (c_Src_Envelope s4 (by first | assumption | omega | trivial | (simp; done) | (constructor <;> omega)) v1 v2 4 (by first | assumption | omega | trivial | (simp; done) | (constructor <;> omega)) (by first | assumption | omega | trivial | (simp; done) | (constructor <;> omega)) (by first | assumption | omega | trivial | (simp; done) | (constructor <;> omega))) rfl rfl rfl (fun d b hd hl => ?_))
      obtain ⟨e, s5, rfl, rfl, ⟨he, hs4⟩⟩ := hd
      refine zc rfl (zal (cs := [.dat (.int .i64 0), .dat (.int .i64 0), .dat (.int .i64 0), .dat (.int .i64 0), .nilsl, .nilsl, .dat (.int .i64 0), .dat (.int .i64 0), .dat (.str ⟨#[]⟩), .dat (.int .i64 0), .dat (.str ⟨#[]⟩), .dat (.int .i64 0), .dat (.str ⟨#[]⟩), .dat (.int .i64 0), .dat (.int .i64 0)]) zk rfl ?_)
      refine zc rfl (zst (n := 15) (zt rfl) (zt rfl) rfl (.inl zk) rfl rfl (zbl rfl) ?_)
      refine zn0 ?_
      refine zsr ?_
      refine zc rfl (zmv (zt rfl) rfl ?_)
      refine zc rfl (zcl zhf (hc (zt rfl) (hc (zi zdc) (hc (zi zdc) hz))) (rs := [.e 0]) (bxs := [_]) zdc (bc rfl bz) (r_Src_Range s5 1 4 (by first | assumption | omega | trivial | (simp; done) | (constructor <;> omega)) (by first | assumption | omega | trivial | (simp; done) | (constructor <;> omega))) rfl rfl rfl (fun d b hd hl => ?_))
      obtain ⟨v3, s6, rfl, rfl, ⟨hv3, hs5⟩⟩ := hd
      refine zc rfl (zfa (o := 2) (zt rfl) zk rfl ?_)
      refine zc rfl (zst (n := 1) (zt rfl) (zt rfl) rfl (.inr ⟨by kernel_rfl, rfl⟩) rfl rfl (zbl rfl) ?_)
      refine zn0 ?_
      refine zsr ?_
      refine zc rfl (zmv (zt rfl) rfl ?_)
      refine zc rfl (zfa (o := 0) (zt rfl) zk rfl ?_)
      refine zc rfl (zl1 (zt rfl) zk rfl rfl rfl ?_)
      refine zc rfl (zfa (o := 1) (zt rfl) zk rfl ?_)
      refine zc rfl (zl1 (zt rfl) zk rfl rfl rfl ?_)
      refine zc rfl (zld (n := 15) (zt rfl) zk rfl rfl rfl rfl ?_)
      refine zc rfl (zbd (ps := [(_, _), (_, _), (_, _)]) (qs := [(_, _), (_, _), (_, _)]) (zs := [.dat (.int .i64 0), .dat (.int .i64 0), .dat (.int .i64 0), .dat (.int .i64 0), .dat (.int .i64 0), .nilsl, .nilsl, .nilsl, .nilsl, .dat (.int .i64 0), .dat (.int .i64 0), .dat (.int .i64 0), .dat (.int .i64 0), .nilsl, .nilsl, .dat (.int .i64 0), .dat (.int .i64 0), .dat (.str ⟨#[]⟩), .dat (.int .i64 0), .dat (.str ⟨#[]⟩), .dat (.int .i64 0), .dat (.str ⟨#[]⟩), .dat (.int .i64 0), .dat (.int .i64 0)]) (pl := [(0, 1), (1, 1), (2, 7), (9, 15)]) (pc (zi zdc) rfl (pc (zt rfl) rfl (pc (zt rfl) rfl pz))) zk zk rfl rfl ?_)
      refine zc rfl (zbd (ps := [(_, _), (_, _), (_, _)]) (qs := [(_, _), (_, _), (_, _)]) (zs := [.dat (.int .i64 0), .dat (.int .i64 0), .dat (.int .i64 0), .dat (.int .i64 0), .dat (.int .i64 0), .dat (.int .i64 0), .dat (.int .i64 0), .nilsl, .nilsl, .nilsl, .nilsl, .dat (.int .i64 0), .dat (.int .i64 0), .dat (.int .i64 0), .dat (.int .i64 0), .nilsl, .nilsl, .dat (.int .i64 0), .dat (.int .i64 0), .dat (.str ⟨#[]⟩), .dat (.int .i64 0), .dat (.str ⟨#[]⟩), .dat (.int .i64 0), .dat (.str ⟨#[]⟩), .dat (.int .i64 0), .dat (.int .i64 0)]) (pl := [(0, 1), (1, 1), (2, 24)]) (pc (zt rfl) rfl (pc (zt rfl) rfl (pc (zt rfl) rfl pz))) zk zk rfl rfl ?_)
      refine zc rfl (zal (cs := [.dat (.int .i64 0), .dat (.int .i64 0), .dat (.int .i64 0), .dat (.int .i64 0), .dat (.int .i64 0), .dat (.int .i64 0), .dat (.int .i64 0), .nilsl, .nilsl, .nilsl, .nilsl, .dat (.int .i64 0), .dat (.int .i64 0), .dat (.int .i64 0), .dat (.int .i64 0), .nilsl, .nilsl, .dat (.int .i64 0), .dat (.int .i64 0), .dat (.str ⟨#[]⟩), .dat (.int .i64 0), .dat (.str ⟨#[]⟩), .dat (.int .i64 0), .dat (.str ⟨#[]⟩), .dat (.int .i64 0), .dat (.int .i64 0)]) zk rfl ?_)
      refine zc rfl (zst (n := 26) (zt rfl) (zt rfl) rfl (.inl zk) rfl rfl (zbl rfl) ?_)
      refine zn0 ?_
      refine awp_le (le_of (ls := [(0, .one (.ref (.e 0) 0)), (3, .one (.slt 1010 (l.map Sighting.d))), (4, VI k), (5, .one (.ref (.o 5) 0)), (6, .one (.ref (.o 6) 0))]) (bs := [(.e 0, [.dat (.sl (iRows s6.l)), .dat (.int .i64 s6.a)]), (.o 5, [.dat (.int .i64 e.node), .dat (.int .i64 e.slot), .dat (.int .i64 v3), .dat (.int .i64 e.trust.thr), .dat (.sl (iRows e.trust.nodes)), .dat (.sl (e.trust.inner.map Trust.enc)), .dat (.int .i64 e.kind), .dat (.int .i64 e.b.c), .dat (.str e.b.v), .dat (.int .i64 e.p.c), .dat (.str e.p.v), .dat (.int .i64 e.q.c), .dat (.str e.q.v), .dat (.int .i64 e.low), .dat (.int .i64 e.high)]), (.o 6, [.dat (.int .i64 k), .dat (.int .i64 e.node), .dat (.int .i64 2), .dat (.int .i64 e.slot), .dat (.int .i64 0), .dat (.int .i64 0), .dat (.int .i64 0), .nilsl, .nilsl, .nilsl, .nilsl, .dat (.int .i64 e.node), .dat (.int .i64 e.slot), .dat (.int .i64 v3), .dat (.int .i64 e.trust.thr), .dat (.sl (iRows e.trust.nodes)), .dat (.sl (e.trust.inner.map Trust.enc)), .dat (.int .i64 e.kind), .dat (.int .i64 e.b.c), .dat (.str e.b.v), .dat (.int .i64 e.p.c), .dat (.str e.p.v), .dat (.int .i64 e.q.c), .dat (.str e.q.v), .dat (.int .i64 e.low), .dat (.int .i64 e.high)])]) (ts := [(1010, (57, 26))]) (sc rfl (sc rfl (sc rfl (sc rfl (sc rfl sz))))) (xc rfl (xc rfl (xc rfl xz))) (kc rfl kz)) ?_
      refine zw2 ?_
      refine zsr ?_
      refine zc rfl (zmv (zt rfl) rfl ?_)
      refine zc rfl (zcl zhf (hc (zt rfl) (hc (zi zdc) hz)) (rs := [.e 0]) (bxs := [_]) zdc (bc rfl bz) (r_Src_N s6 8 (by first | assumption | omega | trivial | (simp; done) | (constructor <;> omega)) (by first | assumption | omega | trivial | (simp; done) | (constructor <;> omega))) rfl rfl rfl (fun d b hd hl => ?_))
      obtain ⟨v4, s7, rfl, rfl, ⟨hv4, hs6⟩⟩ := hd
      refine zn0 ?_
      refine zwb ?_
      refine zsr ?_
      refine zc rfl (zcm (zt rfl) (zi zdc) rfl rfl ?_)
      refine zc rfl (zas (zt rfl) rfl ?_)
      refine zn0 ?_
      refine zwc (zt rfl) (fun h2 => ?_) (fun h2 => ?_)
      · skip
        have g2 := h2
        try simp only [zbz, List.length_map] at g2
        refine zre ?_
        refine zc rfl (zmv (zt rfl) rfl ?_)
        refine zc rfl (zcl zhf (hc (zt rfl) (hc (zi zdc) hz)) (rs := [.e 0]) (bxs := [_]) zdc (bc rfl bz) (r_Src_N s7 4 (by first | assumption | omega | trivial | (simp; done) | (constructor <;> omega)) (by first | assumption | omega | trivial | (simp; done) | (constructor <;> omega))) rfl rfl rfl (fun d b hd hl => ?_))
        obtain ⟨v5, s8, rfl, rfl, ⟨hv5, hs7⟩⟩ := hd
        refine zc rfl (zfa (o := 1) (zt rfl) zk rfl ?_)
        refine zc rfl (zst (n := 1) (zt rfl) (zt rfl) rfl (.inr ⟨by kernel_rfl, rfl⟩) rfl rfl (zbl rfl) ?_)
        refine zn0 ?_
        refine zbn ?_
        refine ztn ?_
        refine zre ?_
        refine zc rfl (zmv (zt rfl) rfl ?_)
        refine zc rfl (zld (n := 26) (zt rfl) zk rfl rfl rfl rfl ?_)
        refine zc rfl (zbs (e := 57) (ps := [(_, _)]) (qs := [(_, _)]) (n := 26) (rows := [[_, _, _, _, _, _, _, _, _, _, _, _, _, _, _, _, _, _, _, _, _, _, _, _, _, _]]) (pc (zt rfl) rfl pz) zk zdc ⟨[.dat (.int .i64 0), .dat (.int .i64 0), .dat (.int .i64 0), .dat (.int .i64 0), .dat (.int .i64 0), .dat (.int .i64 0), .dat (.int .i64 0), .nilsl, .nilsl, .nilsl, .nilsl, .dat (.int .i64 0), .dat (.int .i64 0), .dat (.int .i64 0), .dat (.int .i64 0), .nilsl, .nilsl, .dat (.int .i64 0), .dat (.int .i64 0), .dat (.str ⟨#[]⟩), .dat (.int .i64 0), .dat (.str ⟨#[]⟩), .dat (.int .i64 0), .dat (.str ⟨#[]⟩), .dat (.int .i64 0), .dat (.int .i64 0)], by kernel_rfl⟩ rfl rfl (by simp [Uni]) rfl zdc rfl ?_)
        refine zc rfl (op_append (e := 57) (k := 26) (b := 328) (zt rfl) rfl (zt rfl) rfl zk (by first | exact uni_snoc (uni_map (f := Sighting.d) (fun _ => rfl) _) rfl | (simp [Uni]; done)) (by first | (simp; done) | (simp; omega) | (simp at *; omega)) (by first | (simp; done) | (simp; omega) | (simp at *; omega)) rfl ?_)
        refine zc rfl (zas (zt rfl) rfl ?_)
        refine zn0 ?_
        refine zbn ?_
        refine ztn ?_
        refine zre ?_
        refine zc rfl (zmv (zt rfl) rfl ?_)
        refine zc rfl (zar (zt rfl) (zi zdc) rfl (ink64 zom zom) rfl ?_)
        refine zc rfl (zas (zt rfl) rfl ?_)
        refine zn0 ?_
        refine ztn ?_
        refine ⟨(l ++ [(Sighting.mk k v5 (Letter.mk 2 e.slot (Nom.mk 0 0 (Trust.mk 0 [] []) [] []) (Env.mk e.node e.slot v3 e.trust e.kind e.b e.p e.q e.low e.high)))]), (k - 1), s8, ?_, ?_, ((le_retok (q := 51) (p := 1010) (s := 3) rfl rfl).trans (le_of (sc rfl (sc (slt_eq rfl (by first | rfl | exact List.map_append | (simp only [List.map_append, List.map_cons, List.map_nil]; rfl) | simp)) (sc rfl sz))) (xc rfl xz) (kc rfl kz)))⟩
        · refine ⟨?_, ?_, ?_, ?_, ?_⟩
          · exact zen
          · exact zen
          · simp only [List.length_append, List.length_cons, List.length_nil]; omega
          · first
              | exact sights_snoc hok (he.tr.ok (by omega))
              | exact sights_snoc hok (Trust.ok_same he1.1 he1.2.1 (he.tr.ok (by omega)))
          · first
              | exact sights_fit hft (fit_of he (by assumption) (.inl rfl) rfl rfl)
              | exact sights_fit hft (fit_of he (by assumption) he1.2.2 he1.1 he1.2.1)
        · first | omega | (simp at *; omega)
      · skip
        have g2 := h2
        try simp only [zbz, List.length_map] at g2
        refine zsr ?_
        refine zc rfl (zcm (zt rfl) (zi zdc) rfl rfl ?_)
        refine zc rfl (zas (zt rfl) rfl ?_)
        refine zn0 ?_
        refine zwc (zt rfl) (fun h3 => ?_) (fun h3 => ?_)
        · skip
          have g3 := h3
          try simp only [zbz, List.length_map] at g3
          refine zre ?_
          refine zc rfl (zfa (o := 2) (zt rfl) zk rfl ?_)
          refine zc rfl (zfa (o := 0) (zt rfl) zk rfl ?_)
          refine zc rfl (zst (n := 1) (zt rfl) (zi zdc) rfl (.inr ⟨by kernel_rfl, rfl⟩) rfl rfl (zbl rfl) ?_)
          refine zn0 ?_
          refine zbn ?_
          refine ztn ?_
          refine zre ?_
          refine zc rfl (zmv (zt rfl) rfl ?_)
          refine zc rfl (zld (n := 26) (zt rfl) zk rfl rfl rfl rfl ?_)
          refine zc rfl (zbs (e := 57) (ps := [(_, _)]) (qs := [(_, _)]) (n := 26) (rows := [[_, _, _, _, _, _, _, _, _, _, _, _, _, _, _, _, _, _, _, _, _, _, _, _, _, _]]) (pc (zt rfl) rfl pz) zk zdc ⟨[.dat (.int .i64 0), .dat (.int .i64 0), .dat (.int .i64 0), .dat (.int .i64 0), .dat (.int .i64 0), .dat (.int .i64 0), .dat (.int .i64 0), .nilsl, .nilsl, .nilsl, .nilsl, .dat (.int .i64 0), .dat (.int .i64 0), .dat (.int .i64 0), .dat (.int .i64 0), .nilsl, .nilsl, .dat (.int .i64 0), .dat (.int .i64 0), .dat (.str ⟨#[]⟩), .dat (.int .i64 0), .dat (.str ⟨#[]⟩), .dat (.int .i64 0), .dat (.str ⟨#[]⟩), .dat (.int .i64 0), .dat (.int .i64 0)], by kernel_rfl⟩ rfl rfl (by simp [Uni]) rfl zdc rfl ?_)
          refine zc rfl (op_append (e := 57) (k := 26) (b := 328) (zt rfl) rfl (zt rfl) rfl zk (by first | exact uni_snoc (uni_map (f := Sighting.d) (fun _ => rfl) _) rfl | (simp [Uni]; done)) (by first | (simp; done) | (simp; omega) | (simp at *; omega)) (by first | (simp; done) | (simp; omega) | (simp at *; omega)) rfl ?_)
          refine zc rfl (zas (zt rfl) rfl ?_)
          refine zn0 ?_
          refine zbn ?_
          refine ztn ?_
          refine zre ?_
          refine zc rfl (zmv (zt rfl) rfl ?_)
          refine zc rfl (zar (zt rfl) (zi zdc) rfl (ink64 zom zom) rfl ?_)
          refine zc rfl (zas (zt rfl) rfl ?_)
          refine zn0 ?_
          refine ztn ?_
          refine ⟨(l ++ [(Sighting.mk k e.node (Letter.mk 1 e.slot (Nom.mk 0 0 (Trust.mk 0 [] []) [] []) (Env.mk e.node e.slot v3 e.trust e.kind e.b e.p e.q e.low e.high)))]), (k - 1), s7, ?_, ?_, ((le_retok (q := 51) (p := 1010) (s := 3) rfl rfl).trans (le_of (sc rfl (sc (slt_eq rfl (by first | rfl | exact List.map_append | (simp only [List.map_append, List.map_cons, List.map_nil]; rfl) | simp)) (sc rfl sz))) (xc rfl xz) (kc rfl kz)))⟩
          · refine ⟨?_, ?_, ?_, ?_, ?_⟩
            · exact zen
            · exact zen
            · simp only [List.length_append, List.length_cons, List.length_nil]; omega
            · first
                | exact sights_snoc hok (he.tr.ok (by omega))
                | exact sights_snoc hok (Trust.ok_same he1.1 he1.2.1 (he.tr.ok (by omega)))
            · first
                | exact sights_fit hft (fit_of he (by assumption) (.inl rfl) rfl rfl)
                | exact sights_fit hft (fit_of he (by assumption) he1.2.2 he1.1 he1.2.1)
          · first | omega | (simp at *; omega)
        · skip
          have g3 := h3
          try simp only [zbz, List.length_map] at g3
          refine zsr ?_
          refine zc rfl (zcm (zt rfl) (zi zdc) rfl rfl ?_)
          refine zc rfl (zas (zt rfl) rfl ?_)
          refine zn0 ?_
          refine awp_le (le_of (ls := [(0, .one (.ref (.e 0) 0)), (3, .one (.slt 1010 (l.map Sighting.d))), (4, VI k), (5, .one (.ref (.o 5) 0)), (6, .one (.ref (.o 6) 0)), (41, VB (decide (v4 = 2)))]) (bs := [(.e 0, [.dat (.sl (iRows s7.l)), .dat (.int .i64 s7.a)]), (.o 5, [.dat (.int .i64 e.node), .dat (.int .i64 e.slot), .dat (.int .i64 v3), .dat (.int .i64 e.trust.thr), .dat (.sl (iRows e.trust.nodes)), .dat (.sl (e.trust.inner.map Trust.enc)), .dat (.int .i64 e.kind), .dat (.int .i64 e.b.c), .dat (.str e.b.v), .dat (.int .i64 e.p.c), .dat (.str e.p.v), .dat (.int .i64 e.q.c), .dat (.str e.q.v), .dat (.int .i64 e.low), .dat (.int .i64 e.high)]), (.o 6, [.dat (.int .i64 k), .dat (.int .i64 e.node), .dat (.int .i64 2), .dat (.int .i64 e.slot), .dat (.int .i64 0), .dat (.int .i64 0), .dat (.int .i64 0), .nilsl, .nilsl, .nilsl, .nilsl, .dat (.int .i64 e.node), .dat (.int .i64 e.slot), .dat (.int .i64 v3), .dat (.int .i64 e.trust.thr), .dat (.sl (iRows e.trust.nodes)), .dat (.sl (e.trust.inner.map Trust.enc)), .dat (.int .i64 e.kind), .dat (.int .i64 e.b.c), .dat (.str e.b.v), .dat (.int .i64 e.p.c), .dat (.str e.p.v), .dat (.int .i64 e.q.c), .dat (.str e.q.v), .dat (.int .i64 e.low), .dat (.int .i64 e.high)])]) (ts := [(1010, (57, 26))]) (sc rfl (sc rfl (sc rfl (sc rfl (sc rfl (sc rfl sz)))))) (xc rfl (xc rfl (xc rfl xz))) (kc rfl kz)) ?_
          refine zwc (zt rfl) (fun h4 => ?_) (fun h4 => ?_)
          · skip
            have g4 := h4
            try simp only [zbz, List.length_map] at g4
            refine zre ?_
            refine zc rfl (zmv (zt rfl) rfl ?_)
            refine zc rfl (zld (n := 15) (zt rfl) zk rfl rfl rfl rfl ?_)
            refine zc rfl (zcl zhf (hc (zt rfl) (hc (zt rfl) hz)) (rs := [.e 0]) (bxs := [_]) zdc (bc rfl bz) (c_Src_BentEnvelope s7 (by first | assumption | omega | trivial | (simp; done) | (constructor <;> omega)) (Env.mk e.node e.slot v3 e.trust e.kind e.b e.p e.q e.low e.high)) rfl rfl rfl (fun d b hd hl => ?_))
            obtain ⟨e2, s8, rfl, rfl, ⟨he1, hs7⟩⟩ := hd
            refine zc rfl (zfa (o := 2) (zt rfl) zk rfl ?_)
            refine zc rfl (zfa (o := 9) (zt rfl) zk rfl ?_)
            refine zc rfl (zst (n := 15) (zt rfl) (zt rfl) rfl (.inl zk) rfl rfl (zbl rfl) ?_)
            refine zn0 ?_
            refine zbn ?_
            refine ztn ?_
            refine zre ?_
            refine zc rfl (zmv (zt rfl) rfl ?_)
            refine zc rfl (zld (n := 26) (zt rfl) zk rfl rfl rfl rfl ?_)
            refine zc rfl (zbs (e := 57) (ps := [(_, _)]) (qs := [(_, _)]) (n := 26) (rows := [[_, _, _, _, _, _, _, _, _, _, _, _, _, _, _, _, _, _, _, _, _, _, _, _, _, _]]) (pc (zt rfl) rfl pz) zk zdc ⟨[.dat (.int .i64 0), .dat (.int .i64 0), .dat (.int .i64 0), .dat (.int .i64 0), .dat (.int .i64 0), .dat (.int .i64 0), .dat (.int .i64 0), .nilsl, .nilsl, .nilsl, .nilsl, .dat (.int .i64 0), .dat (.int .i64 0), .dat (.int .i64 0), .dat (.int .i64 0), .nilsl, .nilsl, .dat (.int .i64 0), .dat (.int .i64 0), .dat (.str ⟨#[]⟩), .dat (.int .i64 0), .dat (.str ⟨#[]⟩), .dat (.int .i64 0), .dat (.str ⟨#[]⟩), .dat (.int .i64 0), .dat (.int .i64 0)], by kernel_rfl⟩ rfl rfl (by simp [Uni]) rfl zdc rfl ?_)
            refine zc rfl (op_append (e := 57) (k := 26) (b := 328) (zt rfl) rfl (zt rfl) rfl zk (by first | exact uni_snoc (uni_map (f := Sighting.d) (fun _ => rfl) _) rfl | (simp [Uni]; done)) (by first | (simp; done) | (simp; omega) | (simp at *; omega)) (by first | (simp; done) | (simp; omega) | (simp at *; omega)) rfl ?_)
            refine zc rfl (zas (zt rfl) rfl ?_)
            refine zn0 ?_
            refine zbn ?_
            refine ztn ?_
            refine zre ?_
            refine zc rfl (zmv (zt rfl) rfl ?_)
            refine zc rfl (zar (zt rfl) (zi zdc) rfl (ink64 zom zom) rfl ?_)
            refine zc rfl (zas (zt rfl) rfl ?_)
            refine zn0 ?_
            refine ztn ?_
            refine ⟨(l ++ [(Sighting.mk k e.node (Letter.mk 2 e.slot (Nom.mk 0 0 (Trust.mk 0 [] []) [] []) e2))]), (k - 1), s8, ?_, ?_, ((le_retok (q := 51) (p := 1010) (s := 3) rfl rfl).trans (le_of (sc rfl (sc (slt_eq rfl (by first | rfl | exact List.map_append | (simp only [List.map_append, List.map_cons, List.map_nil]; rfl) | simp)) (sc rfl sz))) (xc rfl xz) (kc rfl kz)))⟩
            · refine ⟨?_, ?_, ?_, ?_, ?_⟩
              · exact zen
              · exact zen
              · simp only [List.length_append, List.length_cons, List.length_nil]; omega
              · first
                  | exact sights_snoc hok (he.tr.ok (by omega))
                  | exact sights_snoc hok (Trust.ok_same he1.1 he1.2.1 (he.tr.ok (by omega)))
              · first
                  | exact sights_fit hft (fit_of he (by assumption) (.inl rfl) rfl rfl)
                  | exact sights_fit hft (fit_of he (by assumption) he1.2.2 he1.1 he1.2.1)
            · first | omega | (simp at *; omega)
          · skip
            have g4 := h4
            try simp only [zbz, List.length_map] at g4
            refine zws ?_
            refine zbn ?_
            refine ztn ?_
            refine zre ?_
            refine zc rfl (zmv (zt rfl) rfl ?_)
            refine zc rfl (zld (n := 26) (zt rfl) zk rfl rfl rfl rfl ?_)
            refine zc rfl (zbs (e := 57) (ps := [(_, _)]) (qs := [(_, _)]) (n := 26) (rows := [[_, _, _, _, _, _, _, _, _, _, _, _, _, _, _, _, _, _, _, _, _, _, _, _, _, _]]) (pc (zt rfl) rfl pz) zk zdc ⟨[.dat (.int .i64 0), .dat (.int .i64 0), .dat (.int .i64 0), .dat (.int .i64 0), .dat (.int .i64 0), .dat (.int .i64 0), .dat (.int .i64 0), .nilsl, .nilsl, .nilsl, .nilsl, .dat (.int .i64 0), .dat (.int .i64 0), .dat (.int .i64 0), .dat (.int .i64 0), .nilsl, .nilsl, .dat (.int .i64 0), .dat (.int .i64 0), .dat (.str ⟨#[]⟩), .dat (.int .i64 0), .dat (.str ⟨#[]⟩), .dat (.int .i64 0), .dat (.str ⟨#[]⟩), .dat (.int .i64 0), .dat (.int .i64 0)], by kernel_rfl⟩ rfl rfl (by simp [Uni]) rfl zdc rfl ?_)
            refine zc rfl (op_append (e := 57) (k := 26) (b := 328) (zt rfl) rfl (zt rfl) rfl zk (by first | exact uni_snoc (uni_map (f := Sighting.d) (fun _ => rfl) _) rfl | (simp [Uni]; done)) (by first | (simp; done) | (simp; omega) | (simp at *; omega)) (by first | (simp; done) | (simp; omega) | (simp at *; omega)) rfl ?_)
            refine zc rfl (zas (zt rfl) rfl ?_)
            refine zn0 ?_
            refine zbn ?_
            refine ztn ?_
            refine zre ?_
            refine zc rfl (zmv (zt rfl) rfl ?_)
            refine zc rfl (zar (zt rfl) (zi zdc) rfl (ink64 zom zom) rfl ?_)
            refine zc rfl (zas (zt rfl) rfl ?_)
            refine zn0 ?_
            refine ztn ?_
            refine ⟨(l ++ [(Sighting.mk k e.node (Letter.mk 2 e.slot (Nom.mk 0 0 (Trust.mk 0 [] []) [] []) (Env.mk e.node e.slot v3 e.trust e.kind e.b e.p e.q e.low e.high)))]), (k - 1), s7, ?_, ?_, ((le_retok (q := 51) (p := 1010) (s := 3) rfl rfl).trans (le_of (sc rfl (sc (slt_eq rfl (by first | rfl | exact List.map_append | (simp only [List.map_append, List.map_cons, List.map_nil]; rfl) | simp)) (sc rfl sz))) (xc rfl xz) (kc rfl kz)))⟩
            · refine ⟨?_, ?_, ?_, ?_, ?_⟩
              · exact zen
              · exact zen
              · simp only [List.length_append, List.length_cons, List.length_nil]; omega
              · first
                  | exact sights_snoc hok (he.tr.ok (by omega))
                  | exact sights_snoc hok (Trust.ok_same he1.1 he1.2.1 (he.tr.ok (by omega)))
              · first
                  | exact sights_fit hft (fit_of he (by assumption) (.inl rfl) rfl rfl)
                  | exact sights_fit hft (fit_of he (by assumption) he1.2.2 he1.1 he1.2.1)
            · first | omega | (simp at *; omega)
    · skip
      have g1 := h1
      try simp only [zbz, List.length_map] at g1
      refine zwe ?_
      refine zte ?_
      refine zte ?_
      refine zbk ?_
      refine ztn ?_
      refine zsr ?_
      refine zc rfl (zmv (zt rfl) rfl ?_)
      refine zc rfl (zas (zt rfl) rfl ?_)
      refine zn0 ?_
      refine awp_le (le_of (ls := [(2, .one (.slt 1010 (l.map Sighting.d)))]) (bs := [(.e 0, [.dat (.sl (iRows s1.l)), .dat (.int .i64 s1.a)])]) (ts := [(1010, (57, 26))]) (sc rfl sz) (xc rfl xz) (kc rfl kz)) ?_
      refine zwr ?_
      refine zpr [_] (res1 (zrt rfl)) (show _ = 1 from rfl) (l1 rfl) ?_
      refine ⟨l, s1, rfl, rfl, ?_⟩
      exact ⟨⟨by omega, by assumption, by assumption⟩, by assumption⟩

end Go.TQ
