/- Contracts of functions of the program, each for every input that its hypotheses let in; printed by a program of our own (s17). -/
import Derived.Test.YtmfiplnojbjcbaaGreatAbsQ
set_option linter.unusedVariables false
set_option linter.unusedSimpArgs false
set_option maxRecDepth 10000
set_option maxHeartbeats 4000000
namespace Go.TQ
open Go.Proofs


def cmpP (p o : Place) : Int := orInt [cmpInt p.node o.node, cmpInt p.slot o.slot]
theorem cmpP_neg (p o : Place) : cmpP p o < 0 ↔ p.node < o.node ∨ (p.node = o.node ∧ p.slot < o.slot) := by
  rw [cmpP, or2_neg, cmpInt_neg, cmpInt_zero, cmpInt_neg]
theorem cmpP_ord : OrdC cmpP := by
  refine ⟨fun a b h => ?_, fun a b d h1 h2 => ?_⟩
  · rw [cmpP_neg] at *; omega
  · rw [cmpP_neg] at *; omega
def Sighting.skip (x : Sighting) : Bool := (!decide (x.l.kind = 2) || !decide (x.fr = x.l.env.node)) || !x.l.env.validP
def Sighting.place (x : Sighting) : Place := ⟨x.l.env.node, x.l.env.slot⟩
def filesTo (l : List Sighting) (k : Nat) : Fil := ((l.take k).filter fun x => !x.skip).foldl (fun m x => putK x.place x.l.env m) []
def filesL (l : List Sighting) : Fil := filesTo l l.length
theorem filesTo_skip {l : List Sighting} {k : Nat} (h : k < l.length) (hs : l[k]!.skip = true) : filesTo l (k + 1) = filesTo l k := by
  unfold filesTo
  rw [← filt_no h (by rw [hs]; rfl)]
theorem filesTo_take {l : List Sighting} {k : Nat} (h : k < l.length) (hs : l[k]!.skip = false) : filesTo l (k + 1) = putK l[k]!.place l[k]!.l.env (filesTo l k) := by
  unfold filesTo
  rw [← filt_yes h (by rw [hs]; rfl), List.foldl_append]
  rfl
theorem putK_fst {k : Place} {e : Env} : ∀ (m : Fil), (posK k m 0 = none → (putK k e m).map (·.1) = m.map (·.1) ++ [k]) ∧ (∀ j, posK k m 0 = some j → (putK k e m).map (·.1) = m.map (·.1)) := by
  intro m
  refine ⟨fun h => by rw [putK_none h]; simp, fun j h => ?_⟩
  rw [putK_some h]
  apply List.ext_getElem?
  intro i
  simp only [List.getElem?_map, List.getElem?_modify]
  cases m[i]? <;> simp; split <;> rfl
theorem putK_ne {k : Place} {e : Env} {m : Fil} (h : ∀ x ∈ m, x.2 ≠ []) : ∀ x ∈ putK k e m, x.2 ≠ [] := by
  induction m with
  | nil => intro x hx; simp [putK] at hx; subst hx; simp
  | cons y m ih =>
    intro x hx
    rw [putK] at hx
    split at hx
    · rcases List.mem_cons.1 hx with rfl | hx
      · simp
      · exact h x (by simp [hx])
    · rcases List.mem_cons.1 hx with rfl | hx
      · exact h _ (by simp)
      · exact ih (fun z hz => h z (by simp [hz])) x hx
theorem plN {k : Place} {e : Env} {m : Fil} {pl : List Place} (h : pl = m.map (·.1)) (hp : posK k m 0 = none) : pl ++ [k] = (putK k e m).map (·.1) := by rw [h]; exact ((putK_fst m).1 hp).symm
theorem plS {k : Place} {e : Env} {m : Fil} {pl : List Place} {j : Nat} (h : pl = m.map (·.1)) (hp : posK k m 0 = some j) : pl = (putK k e m).map (·.1) := by rw [h]; exact ((putK_fst m).2 j hp).symm
theorem putK_vl {k : Place} {e : Env} {m : Fil} {n : Nat} (h : ∀ x ∈ m, x.2.length ≤ n) : ∀ x ∈ putK k e m, x.2.length ≤ n + 1 := by
  induction m with
  | nil => intro x hx; simp [putK] at hx; subst hx; simp
  | cons y m ih =>
    intro x hx
    rw [putK] at hx
    split at hx
    · rcases List.mem_cons.1 hx with rfl | hx
      · have := h y (by simp); simp; omega
      · have := h x (by simp [hx]); omega
    · rcases List.mem_cons.1 hx with rfl | hx
      · have := h x (by simp); omega
      · exact ih (fun z hz => h z (by simp [hz])) x hx
theorem getK_len {k : Place} {m : Fil} {n j : Nat} (h : ∀ x ∈ m, x.2.length ≤ n) (hp : posK k m 0 = some j) : (getK k m).length ≤ n := by
  obtain ⟨_, x, h1, h2, h3⟩ := posK_some hp
  rw [h3]
  exact h x (List.mem_of_getElem? h1)
theorem posK_of_len {k : Place} {m : Fil} (h : ∀ x ∈ m, x.2 ≠ []) : ((getK k m).length = 0 → posK k m 0 = none) ∧ (¬ (getK k m).length = 0 → ∃ j, posK k m 0 = some j ∧ j < m.length) := by
  cases hp : posK k m 0 with
  | none => exact ⟨fun _ => rfl, fun h2 => absurd (by rw [(posK_none hp).1]; rfl) h2⟩
  | some j =>
    obtain ⟨_, x, h1, h2, h3⟩ := posK_some hp
    rw [Nat.sub_zero] at h1
    have hx : x ∈ m := List.mem_of_getElem? h1
    refine ⟨fun h4 => ?_, fun _ => ⟨j, rfl, (List.getElem?_eq_some_iff.1 h1).1⟩⟩
    rw [h3] at h4
    exact absurd (List.length_eq_zero_iff.1 h4) (h x hx)

theorem c_place_compare (p o : Place) : ACalls Tryz.prog 62 [.aggd p.d, .aggd o.d] [] fun dd bb => dd = VI (cmpP p o) ∧ bb = [] := by
  refine zai Tryz.func62 rfl Tryz.ntmps62 (by rw [Tryz.results62]) rfl rfl (fun w0 A0 X => ?_)
  refine zsr ?_
  refine zc rfl (zbx (zt rfl) rfl rfl ?_)
  refine zc rfl (zbx (zt rfl) rfl rfl ?_)
  refine zc rfl (zas (zi zdc) rfl ?_)
  refine zn0 ?_
  refine awp_seq_drawT zk [] [] [0, 1, 0, 4, 15, 0, 32, 0, 128, 511, 1023, 2047, 4095] rfl
    (Trace.cons ⟨[(2, _)], [], [], [], [], [.slot 5 _]⟩ (prel (lsc rfl lsz) lbz ltz) (fun zs zp zn => (zgp rfl rfl (zfa (o := 0) (zt zp.1.1) zk rfl rfl))) <|
    Trace.cons ⟨[(5, _)], [(.o 2, _)], [], [], [], [.slot 6 _]⟩ (prel (lsc rfl lsz) (lbc rfl lbz) ltz) (fun zs zp zn => (zgp rfl rfl (zl1 (zt zp.1.1) zk zp.2.1.1 rfl rfl rfl))) <|
    Trace.cons ⟨[(3, _)], [], [], [], [], [.slot 7 _]⟩ (prel (lsc rfl lsz) lbz ltz) (fun zs zp zn => (zgp rfl rfl (zfa (o := 0) (zt zp.1.1) zk rfl rfl))) <|
    Trace.cons ⟨[(7, _)], [(.o 3, _)], [], [], [], [.slot 8 _]⟩ (prel (lsc rfl lsz) (lbc rfl lbz) ltz) (fun zs zp zn => (zgp rfl rfl (zl1 (zt zp.1.1) zk zp.2.1.1 rfl rfl rfl))) <|
    Trace.cons ⟨[(6, _), (8, _)], [], [], [], [], [.slot 9 _]⟩ (prel (lsc rfl (lsc rfl lsz)) lbz ltz) (fun zs zp zn => (zgp rfl rfl (zcl zhf (hc (zt zp.1.1) (hc (zt zp.1.2.1) hz)) (rs := []) (bxs := []) zdc bz (c_cmp_Compare_int p.node o.node) rfl rfl rfl (fun d b hd hl => by obtain ⟨rfl, rfl⟩ := hd; rfl)))) <|
    Trace.cons ⟨[(2, _)], [], [], [], [], [.slot 10 _]⟩ (prel (lsc rfl lsz) lbz ltz) (fun zs zp zn => (zgp rfl rfl (zfa (o := 1) (zt zp.1.1) zk rfl rfl))) <|
    Trace.cons ⟨[(10, _)], [(.o 2, _)], [], [], [], [.slot 11 _]⟩ (prel (lsc rfl lsz) (lbc rfl lbz) ltz) (fun zs zp zn => (zgp rfl rfl (zl1 (zt zp.1.1) zk zp.2.1.1 rfl rfl rfl))) <|
    Trace.cons ⟨[(3, _)], [], [], [], [], [.slot 12 _]⟩ (prel (lsc rfl lsz) lbz ltz) (fun zs zp zn => (zgp rfl rfl (zfa (o := 1) (zt zp.1.1) zk rfl rfl))) <|
    Trace.cons ⟨[(12, _)], [(.o 3, _)], [], [], [], [.slot 13 _]⟩ (prel (lsc rfl lsz) (lbc rfl lbz) ltz) (fun zs zp zn => (zgp rfl rfl (zl1 (zt zp.1.1) zk zp.2.1.1 rfl rfl rfl))) <|
    Trace.cons ⟨[(11, _), (13, _)], [], [], [], [], [.slot 14 _]⟩ (prel (lsc rfl (lsc rfl lsz)) lbz ltz) (fun zs zp zn => (zgp rfl rfl (zcl zhf (hc (zt zp.1.1) (hc (zt zp.1.2.1) hz)) (rs := []) (bxs := []) zdc bz (c_cmp_Compare_int p.slot o.slot) rfl rfl rfl (fun d b hd hl => by obtain ⟨rfl, rfl⟩ := hd; rfl)))) <|
    Trace.cons ⟨[(9, _), (14, _)], [], [], [], [], [.slot 15 _]⟩ (prel (lsc rfl (lsc rfl lsz)) lbz ltz) (fun zs zp zn => (zgp rfl rfl (zbs (e := 3) (ps := [(_, _), (_, _)]) (qs := [(_, _), (_, _)]) (n := 1) (rows := [[_], [_]]) (pc (zt zp.1.1) rfl (pc (zt zp.1.2.1) rfl pz)) zk zdc ⟨[.dat (.int .i64 0)], by kernel_rfl⟩ rfl rfl (by simp [Uni]) rfl zdc rfl rfl))) <|
    Trace.cons ⟨[(15, _)], [], [], [], [], [.slot 16 _]⟩ (prel (lsc rfl lsz) lbz ltz) (fun zs zp zn => (zgp rfl rfl (zcl zhf (hc (zt zp.1.1) hz) (rs := []) (bxs := []) zdc bz (c_cmp_Or_int [(cmpInt p.node o.node), (cmpInt p.slot o.slot)]) rfl rfl rfl (fun d b hd hl => by obtain ⟨rfl, rfl⟩ := hd; rfl)))) <|
    Trace.cons ⟨[(16, _)], [], [], [], [], [.slot 4 _]⟩ (prel (lsc rfl lsz) lbz ltz) (fun zs zp zn => (zgp rfl rfl (zas (zt zp.1.1) rfl rfl))) <|
    Trace.nil) rfl rfl rfl ?_
  refine awp_le (le_of (ls := [(4, VI (orInt [(cmpInt p.node o.node), (cmpInt p.slot o.slot)]))]) (bs := []) (ts := []) (sc rfl sz) xz kz) ?_
  refine zwr ?_
  refine zpr [] (res1 (zrt rfl)) rfl lz ?_
  exact ⟨rfl, rfl⟩

theorem c_files (l : List Sighting) (hok : ∀ x ∈ l, x.l.env.trust.ok) (hlen : l.length ≤ 12) : ACallsN Tryz.prog 26 [VR (l.map Sighting.d)] [] fun dd bb cs => ∃ (pl : List Place), dd = .tup [.one (.map (.e 0)), VR (pl.map Place.d)] ∧ bb = [] ∧ cs = [.mapc (mkM (filesL l) 0)] ∧ (SortedC cmpP pl ∧ pl.Perm ((filesL l).map (·.1))) := by
  refine acallsN_intro Tryz.func26 rfl Tryz.ntmps26 (by rw [Tryz.results26]) rfl rfl (fun w0 A0 X => ?_)
  refine zsr ?_
  refine zc rfl (zas has_nilmap rfl ?_)
  refine zc rfl (zas has_nil rfl ?_)
  refine zn0 ?_
  refine zsr ?_
  refine zc rfl (op_makeMap rfl ?_)
  refine zc rfl (zas (zt rfl) rfl ?_)
  refine zn0 ?_
  refine zsr ?_
  refine zc rfl (zas has_nil rfl ?_)
  refine zn0 ?_
  refine zw2 ?_
  refine zsr ?_
  refine zc rfl (zmv (zt rfl) rfl ?_)
  refine zc rfl (zln (e := 57) (n := 26) (zt rfl) rfl zk rfl (fun hl12 => ?_))
  try simp only [List.length_map] at hl12
  refine zc rfl (zmv (zi zdc) rfl ?_)
  refine zn0 ?_
  refine zwb ?_
  refine awp_loop6 (fs := [(4, _), (11, _), (12, _)]) (fb := []) (fun (bb : Bool) (places : List Place) (p : Nat) (cap : Nat) (k : Nat) (out : Fil) => [(5, .one (bif bb then .bs (.o 49) 2 places.length cap else .nilsl)), (13, VI ((k : Nat) : Int))]) (fun (bb : Bool) (places : List Place) (p : Nat) (cap : Nat) (k : Nat) (out : Fil) => [(.o 10, [.mapc (mkM out 0)])] ++ (bif bb then [(.o 49, bsC (places.map Place.d).flatten p)] else [])) (fun (bb : Bool) (places : List Place) (p : Nat) (cap : Nat) (k : Nat) (out : Fil) => tkM (38, 15) out.length) (fun (bb : Bool) (places : List Place) (p : Nat) (cap : Nat) (k : Nat) (out : Fil) => (bb = false → places = []) ∧ (places.length * 2 + p = cap * 2) ∧ (places.length ≤ cap) ∧ (k ≤ l.length) ∧ (out = filesTo l k) ∧ (places = out.map (·.1)) ∧ (∀ x ∈ out, x.2 ≠ []) ∧ (out.length ≤ k) ∧ (∀ x ∈ out, x.2.length ≤ k)) (fun (bb : Bool) (places : List Place) (p : Nat) (cap : Nat) (k : Nat) (out : Fil) => l.length - k) false [] 0 0 0 [] (le_of (sc rfl (sc rfl (sc rfl (sc rfl (sc rfl sz))))) (xc rfl xz) kz) ?_ ?_
  · refine ⟨?_, ?_, ?_, ?_, ?_, ?_, ?_, ?_, ?_⟩
    · first | (intro h; cases h; done) | (intro _; rfl)
    · first | omega | (simp; done) | (simp only [List.length_append, List.length_cons, List.length_nil] at *; omega)
    · first | omega | (simp; done) | (simp only [List.length_append, List.length_cons, List.length_nil] at *; omega)
    · exact zen
    · rfl
    · exact zen
    · intro x hx; cases hx
    · exact zen
    · intro x hx; cases hx
  · intro bb places p cap k out ⟨hbs, hpc, hlc, hk, hm, hpl, hne, hml, hvl⟩
    cases bb
    · have hl0 := hbs rfl
      subst hl0
      have hpll := congrArg List.length hpl
      simp only [List.length_map] at hpll
      refine zsr ?_
      refine zc rfl (zcm (zt rfl) (zt rfl) rfl rfl ?_)
      refine zn0 ?_
      refine zw2 ?_
      refine zwc (zt rfl) (fun h1 => ?_) (fun h1 => ?_)
      · skip
        have g1 := h1
        try simp only [zbz, List.length_map] at g1
        have hkl : k < l.length := by omega
        refine zws ?_
        refine ztn ?_
        refine zw2 ?_
        refine zwb ?_
        refine zsr ?_
        refine zc rfl (op_indexAddr (e := 57) (n := 26) (zt rfl) rfl (zt rfl) zk zom (show (l.map Sighting.d)[k]? = some (l[k]!.d) from (map_getD zom)) rfl rfl ?_)
        refine zc rfl (op_load_imm (n := 26) (zt rfl) zk rfl rfl rfl ?_)
        refine zc rfl (zal (cs := [.dat (.int .i64 0), .dat (.int .i64 0), .dat (.int .i64 0), .dat (.int .i64 0), .dat (.int .i64 0), .dat (.int .i64 0), .dat (.int .i64 0), .nilsl, .nilsl, .nilsl, .nilsl, .dat (.int .i64 0), .dat (.int .i64 0), .dat (.int .i64 0), .dat (.int .i64 0), .nilsl, .nilsl, .dat (.int .i64 0), .dat (.int .i64 0), .dat (.str ⟨#[]⟩), .dat (.int .i64 0), .dat (.str ⟨#[]⟩), .dat (.int .i64 0), .dat (.str ⟨#[]⟩), .dat (.int .i64 0), .dat (.int .i64 0)]) zk rfl ?_)
        refine zc rfl (zst (n := 26) (zt rfl) (zt rfl) rfl (.inl zk) rfl rfl (zbl rfl) ?_)
        refine zn0 ?_
        refine zsr ?_
        refine zc rfl (zfa (o := 2) (zt rfl) zk rfl ?_)
        refine zc rfl (zfa (o := 9) (zt rfl) zk rfl ?_)
        refine zc rfl (zld (n := 15) (zt rfl) zk rfl rfl rfl rfl ?_)
        refine zc rfl (zal (cs := [.dat (.int .i64 0), .dat (.int .i64 0), .dat (.int .i64 0), .dat (.int .i64 0), .nilsl, .nilsl, .dat (.int .i64 0), .dat (.int .i64 0), .dat (.str ⟨#[]⟩), .dat (.int .i64 0), .dat (.str ⟨#[]⟩), .dat (.int .i64 0), .dat (.str ⟨#[]⟩), .dat (.int .i64 0), .dat (.int .i64 0)]) zk rfl ?_)
        refine zc rfl (zst (n := 15) (zt rfl) (zt rfl) rfl (.inl zk) rfl rfl (zbl rfl) ?_)
        refine zn0 ?_
        refine zw2 ?_
        refine zsr ?_
        refine zc rfl (zfa (o := 2) (zt rfl) zk rfl ?_)
        refine zc rfl (zfa (o := 0) (zt rfl) zk rfl ?_)
        refine zc rfl (zl1 (zt rfl) zk rfl rfl rfl ?_)
        refine zc rfl (zcm (zt rfl) (zi zdc) rfl rfl ?_)
        refine zc rfl (zmv (zt rfl) rfl ?_)
        refine zg rfl rfl rfl rfl (zgb rfl) (fun hg => zfa (o := 1) (zt rfl) zk rfl rfl) ?_
        refine zg rfl rfl rfl rfl (zgb rfl) (fun hg => zl1 (zcd (zt rfl) hg) zk rfl rfl rfl rfl) ?_
        refine zg rfl rfl rfl rfl (zgb rfl) (fun hg => zfa (o := 0) (zt rfl) zk rfl rfl) ?_
        refine zg rfl rfl rfl rfl (zgb rfl) (fun hg => zl1 (zcd (zt rfl) hg) zk rfl rfl rfl rfl) ?_
        refine zg rfl rfl rfl rfl (zgb rfl) (fun hg => zcm (zcd (zt rfl) hg) (zcd (zt rfl) hg) rfl rfl rfl) ?_
        refine zc rfl (zor (zt rfl) (.inl zb0) (zt rfl) rfl ?_)
        refine zc rfl (zmv (zt rfl) rfl ?_)
        refine zg rfl rfl rfl rfl (zgb rfl) (fun hg => zld (n := 15) (zt rfl) zk rfl rfl rfl rfl rfl) ?_
        refine zg rfl rfl rfl rfl (zgb rfl) (fun hg => zcl zhf (hc (zcd (zt rfl) hg) hz) (rs := []) (bxs := []) zdc bz (c_envelopes_Valid l[k]!.l.env (hok _ (mem_at hkl))) rfl rfl rfl (fun d b hd hl => by obtain ⟨rfl, rfl⟩ := hd; rfl)) ?_
        refine zg rfl rfl rfl rfl (zgb rfl) (fun hg => op_not (zcd (zt rfl) hg) rfl rfl) ?_
        refine zc rfl (zor (zt rfl) (.inl zb0) (zt rfl) rfl ?_)
        refine zn0 ?_
        refine zwc (zt rfl) (fun h2 => ?_) (fun h2 => ?_)
        · skip
          have hsk : l[k]!.skip = true := h2
          refine zwe ?_
          refine zte ?_
          refine zbk ?_
          refine ztn ?_
          refine zre ?_
          refine zc rfl (zar (zt rfl) (zi zdc) rfl (ink64 zom zom) rfl ?_)
          refine zc rfl (zmv (zt rfl) rfl ?_)
          refine zn0 ?_
          refine ztn ?_
          refine ⟨false, [], 0, 0, k + 1, out, ?_, ?_, (le_of (sc rfl (sc rfl (sc rfl (sc rfl (sc rfl sz))))) (xc (bx_eq rfl (by first | rfl | (simp; done))) xz) (allK_tkM fun i hi => lookK_tkM hi))⟩
          · refine ⟨?_, ?_, ?_, ?_, ?_, ?_, ?_, ?_, ?_⟩
            · first | (intro h; cases h; done) | (intro _; rfl)
            · first | omega | (simp; done) | (simp only [List.length_append, List.length_cons, List.length_nil] at *; omega)
            · first | omega | (simp; done) | (simp only [List.length_append, List.length_cons, List.length_nil] at *; omega)
            · exact zen
            · first | (rw [filesTo_skip hkl hsk]; exact hm) | (rw [filesTo_take hkl hsk, ← hm]; rfl)
            · first | assumption | exact plN hpl hpos | exact plS hpl hpos
            · first | exact hne | exact putK_ne hne
            · first | omega | exact Nat.le_trans (putK_len _) (by omega)
            · first | exact putK_vl hvl | exact fun x hx => Nat.le_succ_of_le (hvl x hx)
          · first | omega | (simp at *; omega)
        · skip
          have hsk : l[k]!.skip = false := h2
          refine zws ?_
          refine ztn ?_
          refine zsr ?_
          refine zc rfl (zfa (o := 0) (zt rfl) zk rfl ?_)
          refine zc rfl (zl1 (zt rfl) zk rfl rfl rfl ?_)
          refine zc rfl (zfa (o := 1) (zt rfl) zk rfl ?_)
          refine zc rfl (zl1 (zt rfl) zk rfl rfl rfl ?_)
          refine zc rfl (zbd (ps := [(_, _), (_, _)]) (qs := [(_, _), (_, _)]) (zs := [.dat (.int .i64 0), .dat (.int .i64 0)]) (pl := [(0, 1), (1, 1)]) (pc (zt rfl) rfl (pc (zt rfl) rfl pz)) zk zk rfl rfl ?_)
          refine zc rfl (zal (cs := [.dat (.int .i64 0), .dat (.int .i64 0)]) zk rfl ?_)
          refine zc rfl (zst (n := 2) (zt rfl) (zt rfl) rfl (.inl zk) rfl rfl (zbl rfl) ?_)
          refine zn0 ?_
          refine zw2 ?_
          refine zsr ?_
          refine zc rfl (zmv (zt rfl) rfl ?_)
          refine zc rfl (zld (n := 2) (zt rfl) zk rfl rfl rfl rfl ?_)
          refine zc rfl (op_lookupM (k := (Place.mk l[k]!.l.env.node l[k]!.l.env.slot)) (kt := 74) (e := 42) (zt rfl) rfl (zt rfl) rfl zk zk rfl ?_)
          refine zc rfl (zln (e := 38) (n := 15) (zt rfl) rfl zk rfl (fun hl44 => ?_))
          try simp only [List.length_map] at hl44
          refine zc rfl (zcm (zt rfl) (zi zdc) rfl rfl ?_)
          refine zn0 ?_
          refine zwc (zt rfl) (fun h3 => ?_) (fun h3 => ?_)
          · skip
            have hpos := (posK_of_len (k := ⟨l[k]!.l.env.node, l[k]!.l.env.slot⟩) hne).1 (by have := of_decide_eq_true h3; simpa using this)
            refine zre ?_
            refine zc rfl (zmv (zt rfl) rfl ?_)
            refine zc rfl (zld (n := 2) (zt rfl) zk rfl rfl rfl rfl ?_)
            refine zc rfl (zbs (e := 74) (ps := [(_, _)]) (qs := [(_, _)]) (n := 2) (rows := [[_, _]]) (pc (zt rfl) rfl pz) zk zdc ⟨[.dat (.int .i64 0), .dat (.int .i64 0)], by kernel_rfl⟩ rfl rfl (by simp [Uni]) rfl zdc rfl ?_)
            refine zc rfl (op_append_nil_bs (e := 74) (k := 2) (b := 16) (zt rfl) (zt rfl) rfl zk ⟨[.dat (.int .i64 0), .dat (.int .i64 0)], by kernel_rfl⟩ (by first | exact uni_map (f := Place.d) (fun _ => rfl) _ | (simp [Uni]; done)) (by first | (simp; done) | (simp; omega) | (simp at *; omega)) (by first | (simp; done) | (simp; omega) | (simp at *; omega)) (by simp) rfl (fun p1 cap1 hp hc1 => ?_))
            try simp only [List.length_cons, List.length_nil, List.length_map] at hp hc1
            refine zc rfl (zas (zt rfl) rfl ?_)
            refine zn0 ?_
            refine ztn ?_
            refine zre ?_
            refine zc rfl (zmv (zt rfl) rfl ?_)
            refine zc rfl (zld (n := 2) (zt rfl) zk rfl rfl rfl rfl ?_)
            refine zc rfl (zld (n := 15) (zt rfl) zk rfl rfl rfl rfl ?_)
            refine zc rfl (zbs (e := 38) (ps := [(_, _)]) (qs := [(_, _)]) (n := 15) (rows := [[_, _, _, _, _, _, _, _, _, _, _, _, _, _, _]]) (pc (zt rfl) rfl pz) zk zdc ⟨[.dat (.int .i64 0), .dat (.int .i64 0), .dat (.int .i64 0), .dat (.int .i64 0), .nilsl, .nilsl, .dat (.int .i64 0), .dat (.int .i64 0), .dat (.str ⟨#[]⟩), .dat (.int .i64 0), .dat (.str ⟨#[]⟩), .dat (.int .i64 0), .dat (.str ⟨#[]⟩), .dat (.int .i64 0), .dat (.int .i64 0)], by kernel_rfl⟩ rfl rfl (by simp [Uni]) rfl zdc rfl ?_)
            refine zc rfl (op_mapEntryN (k := (Place.mk l[k]!.l.env.node l[k]!.l.env.slot)) (l := out) (kt := 74) (e := 42) (zt rfl) rfl (zt rfl) rfl zk zk hpos (by omega) rfl ?_)
            refine zc rfl (op_extract (zt rfl) rfl rfl ?_)
            refine zc rfl (op_append_nil (e := 38) (k := 15) (b := 176) (zt rfl) (zt rfl) rfl zk (uni_map (f := Env.d) (fun _ => rfl) [_]) (by first | (simp; done) | (simp; omega) | (simp at *; omega)) (by first | (simp; done) | (simp; omega) | (simp at *; omega)) rfl ?_)
            refine zc rfl (op_extract (zt rfl) rfl rfl ?_)
            refine zc rfl (op_entryStore (j := out.length) (zt rfl) rfl (zt rfl) (by rw [List.length_map, List.length_append, mkM_len]; simp) (zt rfl) rfl ?_)
            refine zn0 ?_
            refine zbn ?_
            refine ztn ?_
            refine zre ?_
            refine zc rfl (zar (zt rfl) (zi zdc) rfl (ink64 zom zom) rfl ?_)
            refine zc rfl (zmv (zt rfl) rfl ?_)
            refine zn0 ?_
            refine ztn ?_
            refine ⟨true, [(Place.mk l[k]!.l.env.node l[k]!.l.env.slot)], p1, cap1, k + 1, (putK (Place.mk l[k]!.l.env.node l[k]!.l.env.slot) l[k]!.l.env out), ?_, ?_, ((le_retokX (q := 56) (p := 100 + out.length) (j := out.length) (r := .o 10) rfl rfl (mod_tok (by rw [List.length_map, List.length_append, mkM_len]; simp))).trans (le_of (sc rfl (sc rfl (sc rfl (sc (sl_eq rfl (by first | rfl | (simp only [List.length_append, List.length_cons, List.length_nil]; rfl) | (simp; done) | (simp [V.mapC, C.unq]; done))) (sc rfl sz))))) (xc (bx_eq rfl (endN hpos zdc)) (xc (bx_eq rfl (by first | rfl | (simp only [bsC_unq, bsC_scrub, List.map_append, List.flatten_append, List.map_cons, List.map_nil]; done) | (simp only [bsC_unq, bsC_scrub, List.map_append, List.flatten_append, List.map_cons, List.map_nil]; rfl) | (simp; done))) xz)) (allK_tkM fun i hi => tokN zdc (by have := hi; rw [putK_none hpos, List.length_append] at this; exact this))))⟩
            · refine ⟨?_, ?_, ?_, ?_, ?_, ?_, ?_, ?_, ?_⟩
              · first | (intro h; cases h; done) | (intro _; rfl)
              · first | omega | (simp; done) | (simp only [List.length_append, List.length_cons, List.length_nil] at *; omega)
              · first | omega | (simp; done) | (simp only [List.length_append, List.length_cons, List.length_nil] at *; omega)
              · exact zen
              · first | (rw [filesTo_skip hkl hsk]; exact hm) | (rw [filesTo_take hkl hsk, ← hm]; rfl)
              · first | assumption | exact plN hpl hpos | exact plS hpl hpos
              · first | exact hne | exact putK_ne hne
              · first | omega | exact Nat.le_trans (putK_len _) (by omega)
              · first | exact putK_vl hvl | exact fun x hx => Nat.le_succ_of_le (hvl x hx)
            · first | omega | (simp at *; omega)
          · skip
            obtain ⟨j, hpos, hj⟩ := (posK_of_len (k := ⟨l[k]!.l.env.node, l[k]!.l.env.slot⟩) hne).2 (by have := of_decide_eq_false h3; simpa using this)
            have hgl := getK_len hvl hpos
            refine zws ?_
            refine ztn ?_
            refine zre ?_
            refine zc rfl (zmv (zt rfl) rfl ?_)
            refine zc rfl (zld (n := 2) (zt rfl) zk rfl rfl rfl rfl ?_)
            refine zc rfl (zld (n := 15) (zt rfl) zk rfl rfl rfl rfl ?_)
            refine zc rfl (zbs (e := 38) (ps := [(_, _)]) (qs := [(_, _)]) (n := 15) (rows := [[_, _, _, _, _, _, _, _, _, _, _, _, _, _, _]]) (pc (zt rfl) rfl pz) zk zdc ⟨[.dat (.int .i64 0), .dat (.int .i64 0), .dat (.int .i64 0), .dat (.int .i64 0), .nilsl, .nilsl, .dat (.int .i64 0), .dat (.int .i64 0), .dat (.str ⟨#[]⟩), .dat (.int .i64 0), .dat (.str ⟨#[]⟩), .dat (.int .i64 0), .dat (.str ⟨#[]⟩), .dat (.int .i64 0), .dat (.int .i64 0)], by kernel_rfl⟩ rfl rfl (by simp [Uni]) rfl zdc rfl ?_)
            refine zc rfl (op_mapEntryS (k := (Place.mk l[k]!.l.env.node l[k]!.l.env.slot)) (l := out) (kt := 74) (e := 42) (zt rfl) rfl (zt rfl) rfl zk zk hpos (by omega) rfl ?_)
            refine zc rfl (op_extract (zt rfl) rfl rfl ?_)
            refine zc rfl (op_append (e := 38) (k := 15) (b := 176) (zt rfl) (show lookK (100 + j) (tkM (38, 15) out.length) = some (38, 15) from lookK_tkM hj) (zt rfl) rfl zk (uni_snoc (uni_map (f := Env.d) (fun _ => rfl) _) rfl) (by simp only [List.length_map, List.length_cons, List.length_nil]; omega) (by simp only [List.length_map, List.length_cons, List.length_nil]; omega) rfl ?_)
            refine zc rfl (op_extract (zt rfl) rfl rfl ?_)
            refine zc rfl (op_entryStore (j := j) (zt rfl) rfl (zt rfl) (by rw [List.length_map, List.length_map, mkM_len]; exact hj) (zt rfl) rfl ?_)
            refine zn0 ?_
            refine zbn ?_
            refine ztn ?_
            refine zre ?_
            refine zc rfl (zar (zt rfl) (zi zdc) rfl (ink64 zom zom) rfl ?_)
            refine zc rfl (zmv (zt rfl) rfl ?_)
            refine zn0 ?_
            refine ztn ?_
            refine ⟨false, [], 0, 0, k + 1, (putK (Place.mk l[k]!.l.env.node l[k]!.l.env.slot) l[k]!.l.env out), ?_, ?_, ((le_retokX (q := 56) (p := 100 + j) (j := j) (r := .o 10) rfl rfl (mod_tok (by rw [List.length_map, List.length_map, mkM_len]; exact hj))).trans (le_of (sc rfl (sc rfl (sc rfl (sc rfl (sc rfl sz))))) (xc (bx_eq rfl (endS hpos zdc)) xz) (allK_tkM fun i hi => tokS (j := j) zdc (by have := hi; rw [putK_some hpos, List.length_modify] at this; exact this))))⟩
            · refine ⟨?_, ?_, ?_, ?_, ?_, ?_, ?_, ?_, ?_⟩
              · first | (intro h; cases h; done) | (intro _; rfl)
              · first | omega | (simp; done) | (simp only [List.length_append, List.length_cons, List.length_nil] at *; omega)
              · first | omega | (simp; done) | (simp only [List.length_append, List.length_cons, List.length_nil] at *; omega)
              · exact zen
              · first | (rw [filesTo_skip hkl hsk]; exact hm) | (rw [filesTo_take hkl hsk, ← hm]; rfl)
              · first | assumption | exact plN hpl hpos | exact plS hpl hpos
              · first | exact hne | exact putK_ne hne
              · first | omega | exact Nat.le_trans (putK_len _) (by omega)
              · first | exact putK_vl hvl | exact fun x hx => Nat.le_succ_of_le (hvl x hx)
            · first | omega | (simp at *; omega)
      · skip
        have g1 := h1
        try simp only [zbz, List.length_map] at g1
        refine zwe ?_
        refine zte ?_
        refine zte ?_
        refine zbk ?_
        refine ztn ?_
        refine zsr ?_
        refine zc rfl (zmv (zt rfl) rfl ?_)
        refine zc rfl (zcl zhf (hc (zt rfl) (hc zhf hz)) (rs := []) (bxs := []) zdc bz (c_SortFunc0_place (62)) rfl rfl rfl (fun d b hd hl => ?_))
        obtain ⟨rfl, rfl⟩ := hd
        try have hlq := hp.length_eq
        refine zn0 ?_
        refine zsr ?_
        refine zc rfl (zmv (zt rfl) rfl ?_)
        refine zc rfl (zmv (zt rfl) rfl ?_)
        refine zc rfl (zas (zt rfl) rfl ?_)
        refine zc rfl (zas (zt rfl) rfl ?_)
        refine zn0 ?_
        refine zwr ?_
        refine postN_ret (s := 10) [] (res2 (zrt rfl) (zrt rfl)) rfl lz rfl ?_
        obtain rfl : k = l.length := by omega
        subst hm
        refine ⟨[], rfl, rfl, rfl, ?_⟩
        first | (refine ⟨List.Pairwise.nil, ?_⟩; show List.Perm [] (List.map _ (filesTo l l.length)); rw [← hpl]; done) | (refine ⟨by assumption, ?_⟩; show List.Perm _ (List.map _ (filesTo l l.length)); rw [← hpl]; assumption)
    · skip
      have hpll := congrArg List.length hpl
      simp only [List.length_map] at hpll
      refine zsr ?_
      refine zc rfl (zcm (zt rfl) (zt rfl) rfl rfl ?_)
      refine zn0 ?_
      refine zw2 ?_
      refine zwc (zt rfl) (fun h1 => ?_) (fun h1 => ?_)
      · skip
        have g1 := h1
        try simp only [zbz, List.length_map] at g1
        have hkl : k < l.length := by omega
        refine zws ?_
        refine ztn ?_
        refine zw2 ?_
        refine zwb ?_
        refine zsr ?_
        refine zc rfl (op_indexAddr (e := 57) (n := 26) (zt rfl) rfl (zt rfl) zk zom (show (l.map Sighting.d)[k]? = some (l[k]!.d) from (map_getD zom)) rfl rfl ?_)
        refine zc rfl (op_load_imm (n := 26) (zt rfl) zk rfl rfl rfl ?_)
        refine zc rfl (zal (cs := [.dat (.int .i64 0), .dat (.int .i64 0), .dat (.int .i64 0), .dat (.int .i64 0), .dat (.int .i64 0), .dat (.int .i64 0), .dat (.int .i64 0), .nilsl, .nilsl, .nilsl, .nilsl, .dat (.int .i64 0), .dat (.int .i64 0), .dat (.int .i64 0), .dat (.int .i64 0), .nilsl, .nilsl, .dat (.int .i64 0), .dat (.int .i64 0), .dat (.str ⟨#[]⟩), .dat (.int .i64 0), .dat (.str ⟨#[]⟩), .dat (.int .i64 0), .dat (.str ⟨#[]⟩), .dat (.int .i64 0), .dat (.int .i64 0)]) zk rfl ?_)
        refine zc rfl (zst (n := 26) (zt rfl) (zt rfl) rfl (.inl zk) rfl rfl (zbl rfl) ?_)
        refine zn0 ?_
        refine zsr ?_
        refine zc rfl (zfa (o := 2) (zt rfl) zk rfl ?_)
        refine zc rfl (zfa (o := 9) (zt rfl) zk rfl ?_)
        refine zc rfl (zld (n := 15) (zt rfl) zk rfl rfl rfl rfl ?_)
        refine zc rfl (zal (cs := [.dat (.int .i64 0), .dat (.int .i64 0), .dat (.int .i64 0), .dat (.int .i64 0), .nilsl, .nilsl, .dat (.int .i64 0), .dat (.int .i64 0), .dat (.str ⟨#[]⟩), .dat (.int .i64 0), .dat (.str ⟨#[]⟩), .dat (.int .i64 0), .dat (.str ⟨#[]⟩), .dat (.int .i64 0), .dat (.int .i64 0)]) zk rfl ?_)
        refine zc rfl (zst (n := 15) (zt rfl) (zt rfl) rfl (.inl zk) rfl rfl (zbl rfl) ?_)
        refine zn0 ?_
        refine zw2 ?_
        refine zsr ?_
        refine zc rfl (zfa (o := 2) (zt rfl) zk rfl ?_)
        refine zc rfl (zfa (o := 0) (zt rfl) zk rfl ?_)
        refine zc rfl (zl1 (zt rfl) zk rfl rfl rfl ?_)
        refine zc rfl (zcm (zt rfl) (zi zdc) rfl rfl ?_)
        refine zc rfl (zmv (zt rfl) rfl ?_)
        refine zg rfl rfl rfl rfl (zgb rfl) (fun hg => zfa (o := 1) (zt rfl) zk rfl rfl) ?_
        refine zg rfl rfl rfl rfl (zgb rfl) (fun hg => zl1 (zcd (zt rfl) hg) zk rfl rfl rfl rfl) ?_
        refine zg rfl rfl rfl rfl (zgb rfl) (fun hg => zfa (o := 0) (zt rfl) zk rfl rfl) ?_
        refine zg rfl rfl rfl rfl (zgb rfl) (fun hg => zl1 (zcd (zt rfl) hg) zk rfl rfl rfl rfl) ?_
        refine zg rfl rfl rfl rfl (zgb rfl) (fun hg => zcm (zcd (zt rfl) hg) (zcd (zt rfl) hg) rfl rfl rfl) ?_
        refine zc rfl (zor (zt rfl) (.inl zb0) (zt rfl) rfl ?_)
        refine zc rfl (zmv (zt rfl) rfl ?_)
        refine zg rfl rfl rfl rfl (zgb rfl) (fun hg => zld (n := 15) (zt rfl) zk rfl rfl rfl rfl rfl) ?_
        refine zg rfl rfl rfl rfl (zgb rfl) (fun hg => zcl zhf (hc (zcd (zt rfl) hg) hz) (rs := []) (bxs := []) zdc bz (c_envelopes_Valid l[k]!.l.env (hok _ (mem_at hkl))) rfl rfl rfl (fun d b hd hl => by obtain ⟨rfl, rfl⟩ := hd; rfl)) ?_
        refine zg rfl rfl rfl rfl (zgb rfl) (fun hg => op_not (zcd (zt rfl) hg) rfl rfl) ?_
        refine zc rfl (zor (zt rfl) (.inl zb0) (zt rfl) rfl ?_)
        refine zn0 ?_
        refine zwc (zt rfl) (fun h2 => ?_) (fun h2 => ?_)
        · skip
          have hsk : l[k]!.skip = true := h2
          refine zwe ?_
          refine zte ?_
          refine zbk ?_
          refine ztn ?_
          refine zre ?_
          refine zc rfl (zar (zt rfl) (zi zdc) rfl (ink64 zom zom) rfl ?_)
          refine zc rfl (zmv (zt rfl) rfl ?_)
          refine zn0 ?_
          refine ztn ?_
          refine ⟨true, places, p, cap, k + 1, out, ?_, ?_, (le_of (sc rfl (sc rfl (sc rfl (sc (sl_eq rfl (by first | rfl | (simp only [List.length_append, List.length_cons, List.length_nil]; rfl) | (simp; done) | (simp [V.mapC, C.unq]; done))) (sc rfl sz))))) (xc (bx_eq rfl (by first | rfl | (simp; done))) (xc (bx_eq rfl (by first | rfl | (simp only [bsC_unq, bsC_scrub, List.map_append, List.flatten_append, List.map_cons, List.map_nil]; done) | (simp only [bsC_unq, bsC_scrub, List.map_append, List.flatten_append, List.map_cons, List.map_nil]; rfl) | (simp; done))) xz)) (allK_tkM fun i hi => lookK_tkM hi))⟩
          · refine ⟨?_, ?_, ?_, ?_, ?_, ?_, ?_, ?_, ?_⟩
            · first | (intro h; cases h; done) | (intro _; rfl)
            · first | omega | (simp; done) | (simp only [List.length_append, List.length_cons, List.length_nil] at *; omega)
            · first | omega | (simp; done) | (simp only [List.length_append, List.length_cons, List.length_nil] at *; omega)
            · exact zen
            · first | (rw [filesTo_skip hkl hsk]; exact hm) | (rw [filesTo_take hkl hsk, ← hm]; rfl)
            · first | assumption | exact plN hpl hpos | exact plS hpl hpos
            · first | exact hne | exact putK_ne hne
            · first | omega | exact Nat.le_trans (putK_len _) (by omega)
            · first | exact putK_vl hvl | exact fun x hx => Nat.le_succ_of_le (hvl x hx)
          · first | omega | (simp at *; omega)
        · skip
          have hsk : l[k]!.skip = false := h2
          refine zws ?_
          refine ztn ?_
          refine zsr ?_
          refine zc rfl (zfa (o := 0) (zt rfl) zk rfl ?_)
          refine zc rfl (zl1 (zt rfl) zk rfl rfl rfl ?_)
          refine zc rfl (zfa (o := 1) (zt rfl) zk rfl ?_)
          refine zc rfl (zl1 (zt rfl) zk rfl rfl rfl ?_)
          refine zc rfl (zbd (ps := [(_, _), (_, _)]) (qs := [(_, _), (_, _)]) (zs := [.dat (.int .i64 0), .dat (.int .i64 0)]) (pl := [(0, 1), (1, 1)]) (pc (zt rfl) rfl (pc (zt rfl) rfl pz)) zk zk rfl rfl ?_)
          refine zc rfl (zal (cs := [.dat (.int .i64 0), .dat (.int .i64 0)]) zk rfl ?_)
          refine zc rfl (zst (n := 2) (zt rfl) (zt rfl) rfl (.inl zk) rfl rfl (zbl rfl) ?_)
          refine zn0 ?_
          refine zw2 ?_
          refine zsr ?_
          refine zc rfl (zmv (zt rfl) rfl ?_)
          refine zc rfl (zld (n := 2) (zt rfl) zk rfl rfl rfl rfl ?_)
          refine zc rfl (op_lookupM (k := (Place.mk l[k]!.l.env.node l[k]!.l.env.slot)) (kt := 74) (e := 42) (zt rfl) rfl (zt rfl) rfl zk zk rfl ?_)
          refine zc rfl (zln (e := 38) (n := 15) (zt rfl) rfl zk rfl (fun hl44 => ?_))
          try simp only [List.length_map] at hl44
          refine zc rfl (zcm (zt rfl) (zi zdc) rfl rfl ?_)
          refine zn0 ?_
          refine zwc (zt rfl) (fun h3 => ?_) (fun h3 => ?_)
          · skip
            have hpos := (posK_of_len (k := ⟨l[k]!.l.env.node, l[k]!.l.env.slot⟩) hne).1 (by have := of_decide_eq_true h3; simpa using this)
            refine zre ?_
            refine zc rfl (zmv (zt rfl) rfl ?_)
            refine zc rfl (zld (n := 2) (zt rfl) zk rfl rfl rfl rfl ?_)
            refine zc rfl (zbs (e := 74) (ps := [(_, _)]) (qs := [(_, _)]) (n := 2) (rows := [[_, _]]) (pc (zt rfl) rfl pz) zk zdc ⟨[.dat (.int .i64 0), .dat (.int .i64 0)], by kernel_rfl⟩ rfl rfl (by simp [Uni]) rfl zdc rfl ?_)
            refine aops_le (le_bxeq (r := .o 49) (cs' := bsC (places.map Place.d).flatten p) rfl (by simp only [bsC_scrub, bsC_unq])) ?_
            refine zc rfl (op_append_bs (e := 74) (k := 2) (b := 16) (ds := (places.map Place.d).flatten) (zt rfl) rfl (by rw [flatten_length_uni (uni_map (f := Place.d) (n := 2) (fun _ => rfl) _), List.length_map]) zom (zt rfl) rfl zk ⟨[.dat (.int .i64 0), .dat (.int .i64 0)], by kernel_rfl⟩ (uni_map (f := Place.d) (n := 2) (fun _ => rfl) [(Place.mk l[k]!.l.env.node l[k]!.l.env.slot)]) (by first | (simp; done) | (simp; omega) | (simp at *; omega)) (by first | (simp; done) | (simp; omega) | (simp at *; omega)) (by simp) rfl (fun p1 cap1 hp hc1 => ?_))
            try simp only [List.length_cons, List.length_nil, List.length_map] at hp hc1
            refine zc rfl (zas (zt rfl) rfl ?_)
            refine zn0 ?_
            refine ztn ?_
            refine zre ?_
            refine zc rfl (zmv (zt rfl) rfl ?_)
            refine zc rfl (zld (n := 2) (zt rfl) zk rfl rfl rfl rfl ?_)
            refine zc rfl (zld (n := 15) (zt rfl) zk rfl rfl rfl rfl ?_)
            refine zc rfl (zbs (e := 38) (ps := [(_, _)]) (qs := [(_, _)]) (n := 15) (rows := [[_, _, _, _, _, _, _, _, _, _, _, _, _, _, _]]) (pc (zt rfl) rfl pz) zk zdc ⟨[.dat (.int .i64 0), .dat (.int .i64 0), .dat (.int .i64 0), .dat (.int .i64 0), .nilsl, .nilsl, .dat (.int .i64 0), .dat (.int .i64 0), .dat (.str ⟨#[]⟩), .dat (.int .i64 0), .dat (.str ⟨#[]⟩), .dat (.int .i64 0), .dat (.str ⟨#[]⟩), .dat (.int .i64 0), .dat (.int .i64 0)], by kernel_rfl⟩ rfl rfl (by simp [Uni]) rfl zdc rfl ?_)
            refine zc rfl (op_mapEntryN (k := (Place.mk l[k]!.l.env.node l[k]!.l.env.slot)) (l := out) (kt := 74) (e := 42) (zt rfl) rfl (zt rfl) rfl zk zk hpos (by omega) rfl ?_)
            refine zc rfl (op_extract (zt rfl) rfl rfl ?_)
            refine zc rfl (op_append_nil (e := 38) (k := 15) (b := 176) (zt rfl) (zt rfl) rfl zk (uni_map (f := Env.d) (fun _ => rfl) [_]) (by first | (simp; done) | (simp; omega) | (simp at *; omega)) (by first | (simp; done) | (simp; omega) | (simp at *; omega)) rfl ?_)
            refine zc rfl (op_extract (zt rfl) rfl rfl ?_)
            refine zc rfl (op_entryStore (j := out.length) (zt rfl) rfl (zt rfl) (by rw [List.length_map, List.length_append, mkM_len]; simp) (zt rfl) rfl ?_)
            refine zn0 ?_
            refine zbn ?_
            refine ztn ?_
            refine zre ?_
            refine zc rfl (zar (zt rfl) (zi zdc) rfl (ink64 zom zom) rfl ?_)
            refine zc rfl (zmv (zt rfl) rfl ?_)
            refine zn0 ?_
            refine ztn ?_
            refine ⟨true, (places ++ [(Place.mk l[k]!.l.env.node l[k]!.l.env.slot)]), p1, cap1, k + 1, (putK (Place.mk l[k]!.l.env.node l[k]!.l.env.slot) l[k]!.l.env out), ?_, ?_, ((le_retokX (q := 56) (p := 100 + out.length) (j := out.length) (r := .o 10) rfl rfl (mod_tok (by rw [List.length_map, List.length_append, mkM_len]; simp))).trans (le_of (sc rfl (sc rfl (sc rfl (sc (sl_eq rfl (by first | rfl | (simp only [List.length_append, List.length_cons, List.length_nil]; rfl) | (simp; done) | (simp [V.mapC, C.unq]; done))) (sc rfl sz))))) (xc (bx_eq rfl (endN hpos zdc)) (xc (bx_eq rfl (by first | rfl | (simp only [bsC_unq, bsC_scrub, List.map_append, List.flatten_append, List.map_cons, List.map_nil]; done) | (simp only [bsC_unq, bsC_scrub, List.map_append, List.flatten_append, List.map_cons, List.map_nil]; rfl) | (simp; done))) xz)) (allK_tkM fun i hi => tokN zdc (by have := hi; rw [putK_none hpos, List.length_append] at this; exact this))))⟩
            · refine ⟨?_, ?_, ?_, ?_, ?_, ?_, ?_, ?_, ?_⟩
              · first | (intro h; cases h; done) | (intro _; rfl)
              · first | omega | (simp; done) | (simp only [List.length_append, List.length_cons, List.length_nil] at *; omega)
              · first | omega | (simp; done) | (simp only [List.length_append, List.length_cons, List.length_nil] at *; omega)
              · exact zen
              · first | (rw [filesTo_skip hkl hsk]; exact hm) | (rw [filesTo_take hkl hsk, ← hm]; rfl)
              · first | assumption | exact plN hpl hpos | exact plS hpl hpos
              · first | exact hne | exact putK_ne hne
              · first | omega | exact Nat.le_trans (putK_len _) (by omega)
              · first | exact putK_vl hvl | exact fun x hx => Nat.le_succ_of_le (hvl x hx)
            · first | omega | (simp at *; omega)
          · skip
            obtain ⟨j, hpos, hj⟩ := (posK_of_len (k := ⟨l[k]!.l.env.node, l[k]!.l.env.slot⟩) hne).2 (by have := of_decide_eq_false h3; simpa using this)
            have hgl := getK_len hvl hpos
            refine zws ?_
            refine ztn ?_
            refine zre ?_
            refine zc rfl (zmv (zt rfl) rfl ?_)
            refine zc rfl (zld (n := 2) (zt rfl) zk rfl rfl rfl rfl ?_)
            refine zc rfl (zld (n := 15) (zt rfl) zk rfl rfl rfl rfl ?_)
            refine zc rfl (zbs (e := 38) (ps := [(_, _)]) (qs := [(_, _)]) (n := 15) (rows := [[_, _, _, _, _, _, _, _, _, _, _, _, _, _, _]]) (pc (zt rfl) rfl pz) zk zdc ⟨[.dat (.int .i64 0), .dat (.int .i64 0), .dat (.int .i64 0), .dat (.int .i64 0), .nilsl, .nilsl, .dat (.int .i64 0), .dat (.int .i64 0), .dat (.str ⟨#[]⟩), .dat (.int .i64 0), .dat (.str ⟨#[]⟩), .dat (.int .i64 0), .dat (.str ⟨#[]⟩), .dat (.int .i64 0), .dat (.int .i64 0)], by kernel_rfl⟩ rfl rfl (by simp [Uni]) rfl zdc rfl ?_)
            refine zc rfl (op_mapEntryS (k := (Place.mk l[k]!.l.env.node l[k]!.l.env.slot)) (l := out) (kt := 74) (e := 42) (zt rfl) rfl (zt rfl) rfl zk zk hpos (by omega) rfl ?_)
            refine zc rfl (op_extract (zt rfl) rfl rfl ?_)
            refine zc rfl (op_append (e := 38) (k := 15) (b := 176) (zt rfl) (show lookK (100 + j) (tkM (38, 15) out.length) = some (38, 15) from lookK_tkM hj) (zt rfl) rfl zk (uni_snoc (uni_map (f := Env.d) (fun _ => rfl) _) rfl) (by simp only [List.length_map, List.length_cons, List.length_nil]; omega) (by simp only [List.length_map, List.length_cons, List.length_nil]; omega) rfl ?_)
            refine zc rfl (op_extract (zt rfl) rfl rfl ?_)
            refine zc rfl (op_entryStore (j := j) (zt rfl) rfl (zt rfl) (by rw [List.length_map, List.length_map, mkM_len]; exact hj) (zt rfl) rfl ?_)
            refine zn0 ?_
            refine zbn ?_
            refine ztn ?_
            refine zre ?_
            refine zc rfl (zar (zt rfl) (zi zdc) rfl (ink64 zom zom) rfl ?_)
            refine zc rfl (zmv (zt rfl) rfl ?_)
            refine zn0 ?_
            refine ztn ?_
            refine ⟨true, places, p, cap, k + 1, (putK (Place.mk l[k]!.l.env.node l[k]!.l.env.slot) l[k]!.l.env out), ?_, ?_, ((le_retokX (q := 56) (p := 100 + j) (j := j) (r := .o 10) rfl rfl (mod_tok (by rw [List.length_map, List.length_map, mkM_len]; exact hj))).trans (le_of (sc rfl (sc rfl (sc rfl (sc (sl_eq rfl (by first | rfl | (simp only [List.length_append, List.length_cons, List.length_nil]; rfl) | (simp; done) | (simp [V.mapC, C.unq]; done))) (sc rfl sz))))) (xc (bx_eq rfl (endS hpos zdc)) (xc (bx_eq rfl (by first | rfl | (simp only [bsC_unq, bsC_scrub, List.map_append, List.flatten_append, List.map_cons, List.map_nil]; done) | (simp only [bsC_unq, bsC_scrub, List.map_append, List.flatten_append, List.map_cons, List.map_nil]; rfl) | (simp; done))) xz)) (allK_tkM fun i hi => tokS (j := j) zdc (by have := hi; rw [putK_some hpos, List.length_modify] at this; exact this))))⟩
            · refine ⟨?_, ?_, ?_, ?_, ?_, ?_, ?_, ?_, ?_⟩
              · first | (intro h; cases h; done) | (intro _; rfl)
              · first | omega | (simp; done) | (simp only [List.length_append, List.length_cons, List.length_nil] at *; omega)
              · first | omega | (simp; done) | (simp only [List.length_append, List.length_cons, List.length_nil] at *; omega)
              · exact zen
              · first | (rw [filesTo_skip hkl hsk]; exact hm) | (rw [filesTo_take hkl hsk, ← hm]; rfl)
              · first | assumption | exact plN hpl hpos | exact plS hpl hpos
              · first | exact hne | exact putK_ne hne
              · first | omega | exact Nat.le_trans (putK_len _) (by omega)
              · first | exact putK_vl hvl | exact fun x hx => Nat.le_succ_of_le (hvl x hx)
            · first | omega | (simp at *; omega)
      · skip
        have g1 := h1
        try simp only [zbz, List.length_map] at g1
        refine zwe ?_
        refine zte ?_
        refine zte ?_
        refine zbk ?_
        refine ztn ?_
        refine zsr ?_
        refine zc rfl (zmv (zt rfl) rfl ?_)
        refine zc rfl (zcl zhf (hc (zt rfl) (hc zhf hz)) (rs := [.o 49]) (bxs := [_]) zdc (bc rfl bz) (c_SortFunc_place cmpP cmpP_ord (62) places p cap (by omega) (fun x y => c_place_compare x y)) rfl (by first | rfl | (simp only [List.map_cons, List.map_nil, bsC_callee]; done) | (simp only [List.map_cons, List.map_nil, bsC_callee]; rfl)) rfl (fun d b hd hl => ?_))
        obtain ⟨l4, rfl, rfl, ⟨hs, hp⟩⟩ := hd
        refine aops_le (le_bxeq (r := .o 49) (cs' := bsC (l4.map Place.d).flatten p) rfl (bsC_caller _ _ _).symm) ?_
        try have hlq := hp.length_eq
        refine zn0 ?_
        refine zsr ?_
        refine zc rfl (zmv (zt rfl) rfl ?_)
        refine zc rfl (zmv (zt rfl) rfl ?_)
        refine zc rfl (zas (zt rfl) rfl ?_)
        refine zc rfl (zas (zt rfl) rfl ?_)
        refine zn0 ?_
        refine awp_le (le_freezeS (t := 3) (l := l4) (f := Place.d) rfl rfl (by first | omega | (simp only [List.length_set]; omega) | (simp; omega)) (uni_map (f := Place.d) (n := 2) (fun _ => rfl) _) zdc) ?_
        refine zwr ?_
        refine postN_ret (s := 10) [] (res2 (zrt rfl) (zrt rfl)) rfl lz rfl ?_
        obtain rfl : k = l.length := by omega
        subst hm
        refine ⟨l4, rfl, rfl, rfl, ?_⟩
        first | (refine ⟨List.Pairwise.nil, ?_⟩; show List.Perm [] (List.map _ (filesTo l l.length)); rw [← hpl]; done) | (refine ⟨by assumption, ?_⟩; show List.Perm _ (List.map _ (filesTo l l.length)); rw [← hpl]; assumption)

end Go.TQ
